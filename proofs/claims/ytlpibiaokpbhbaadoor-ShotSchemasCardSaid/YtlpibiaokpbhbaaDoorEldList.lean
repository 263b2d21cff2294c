/- Texts that begin so, and what is deleted from a row of texts. -/
import Derived.Test.YtlpibiaokpbhbaaDoorEld2
namespace Go.Proofs.YtlpibiaokpbhbaaDoor.A
set_option linter.unusedVariables false
set_option linter.unusedSimpArgs false
open Go.Proofs Go.Proofs.YtlpibiaokpbhbaaDoor

def preB (pre s : List UInt8) : Bool := decide (pre.length ≤ s.length) && (s.take pre.length == pre)

section
variable {H H' : Heap} {n : Nat} {s pre : List UInt8}

theorem sls_v {k : Nat} (hk : k ≤ s.length) : sls (strv s) none (some (iv k)) H = some (strv (s.take k), H) := by
  have h1 : (⟨s.toArray⟩ : ByteArray).size = s.length := by simp [ByteArray.size]
  have h2 : (⟨s.toArray⟩ : ByteArray).extract 0 k = ⟨(s.take k).toArray⟩ := by
    apply ByteArray.ext
    rw [ByteArray.data_extract]
    simp
  have hb : bnd (some (iv k)) s.length = some k := by simp [bnd]
  have hb0 : bnd none 0 = some 0 := rfl
  unfold strv sls
  simp only [h1, hb, hb0]
  rw [if_pos ⟨Nat.zero_le _, hk⟩, h2]

/-! what is deleted -/

section
variable {f v : Value} {p : List UInt8 → Bool} {l : List (List UInt8)} {q : List Nat} {Q : Heap → Prop}

theorem row_at {ss : List (List UInt8)} {i : Nat} {x : List UInt8} (h : ss[i]? = some x) : (ss.map strv)[i]? = some (strv x) := by rw [List.getElem?_map, h]; rfl

theorem filter_of_idx : ∀ {l : List (List UInt8)}, (match l.findIdx? p with | some i => l.filter (fun s => !p s) = l.take i ++ (l.drop (i + 1)).filter (fun s => !p s) ∧ i < l.length | none => l.filter (fun s => !p s) = l)
  | [] => by simp
  | x :: l => by
    have ih := filter_of_idx (l := l)
    rw [List.findIdx?_cons]
    cases hp : p x
    · simp only [Bool.false_eq_true, if_false]
      cases h : l.findIdx? p with
      | none => rw [h] at ih; simp [hp]; simpa using ih
      | some i => rw [h] at ih; simp [hp, ih.1, ih.2]
    · simp [hp]

theorem reps_s (k : Nat) : reps k (Value.string ⟨#[]⟩).cells.toList = List.replicate k (strv []) := by
  induction k with
  | zero => rfl
  | succ k ih =>
    unfold reps at ih ⊢
    rw [List.replicate_succ, List.flatten_cons, ih]; rfl

/-- The end of a row is emptied, and left out. -/
theorem cut_clear {cs : List (List UInt8)} {i : Nat} (hr : RowS H v (cs.map strv) q) (hi : i < cs.length) : ∃ a H' v', slv 1 v (some (iv i)) none none H = some (a, H) ∧ clr (.string ⟨#[]⟩) 1 a H = some (.tuple #[], H') ∧ slv 1 v none (some (iv i)) none H' = some (v', H') ∧ RowS H' v' ((cs.take i).map strv) q ∧ Step q H q H' := by
  rcases hr with ⟨h1, _, _⟩ | ⟨sid, rest, g, rfl, rfl, hid⟩
  · simp at h1; simp [h1] at hi
  · rw [List.length_map] at *
    have b1 : bnd (some (iv i)) 0 = some i := by simp [bnd]
    have b1' : bnd (some (iv i)) cs.length = some i := by simp [bnd]
    have b2 : ∀ k, bnd none k = some k := fun _ => rfl
    have hsp : splice (cs.map strv ++ rest) (List.replicate (cs.length - i) (strv [])) i = (cs.take i).map strv ++ (List.replicate (cs.length - i) (strv []) ++ rest) := by
      unfold splice
      rw [List.length_replicate, Nat.add_sub_cancel' (Nat.le_of_lt hi), List.take_append_of_le_length (by simp; omega), List.drop_append_of_le_length (by simp), List.drop_eq_nil_of_le (by simp), List.map_take]
      simp
    refine ⟨.slice (some ⟨sid, 0 + i * 1, none⟩) (cs.length - i) (cs.length + rest.length - i), H.set sid (.cells ((cs.take i).map strv ++ (List.replicate (cs.length - i) (strv []) ++ rest)) 1 g false), .slice (some ⟨sid, 0, none⟩) i (cs.length + rest.length), ?_, ?_, ?_, ?_, ⟨by simp, fun j hj hn => List.getElem?_set_ne (fun e => hn (by simp [e])), fun j hj => .inl hj⟩⟩
    · simp only [slv, hid, b1, b2]
      rw [if_pos ⟨trivial, by omega, by omega, Nat.le_refl _⟩, if_neg (by omega)]
    · simp only [clr]
      rw [if_neg (by omega)]
      simp only [hid]
      rw [if_pos ⟨trivial, by simp; omega⟩, reps_s]
      rw [Nat.zero_add, Nat.mul_one, hsp]
    · simp only [slv, set_get hid, b1', b2]
      rw [if_pos ⟨trivial, by omega, by omega, Nat.le_refl _⟩, if_neg (by omega)]
      simp
    · have hl : ((cs.take i).map strv).length = i := by simp; omega
      refine .inr ⟨sid, List.replicate (cs.length - i) (strv []) ++ rest, g, ?_, rfl, set_get hid⟩
      rw [hl]
      simp; omega

end

end

end Go.Proofs.YtlpibiaokpbhbaaDoor.A
