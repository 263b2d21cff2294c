/- Arguments that are rows of structs. -/
import Derived.Test.YtlpibiaokpbhbaaGreatDoorA27
namespace Go.Proofs.YtlpibiaokpbhbaaGreatDoor.A
set_option linter.unusedVariables false
set_option linter.unusedSimpArgs false

theorem ld1_at {H : Heap} {id o es : Nat} {cs : List Value} {g ro : Bool} {v : Value} (h : H[id]? = some (.cells cs es g ro)) (ho : cs[o]? = some v) : ld1 (pa id o) H = some (v, H) := by
  rw [ldOne_r, h, rdk_r, ho]; rfl
theorem fa_z {id o : Nat} {H : Heap} : fa o (pt id) H = some (pa id o, H) := by rw [fa_r, Nat.zero_add]
theorem st1_at {H : Heap} {id o es : Nat} {cs : List Value} {g : Bool} {v : Value} (h : H[id]? = some (.cells cs es g false)) (ho : o < cs.length) (hv : oneCell v = true) : st1 (pa id o) v H = some (undef, H.set id (.cells (cs.set o v) es g false)) := by
  rw [stOne_r, h, wrk_r, if_pos ⟨ho, hv⟩]
theorem ldA_at {H : Heap} {id n es : Nat} {cs : List Value} {g ro : Bool} (h : H[id]? = some (.cells cs es g ro)) (hn : cs.length = n) : ldA n (pt id) H = some (.agg cs.toArray, H) := by
  rw [ldA_r, h, rdkA_r, if_pos (by omega)]
  simp only [List.drop_zero]
  rw [List.take_of_length_le (by omega)]
theorem stA_at {H : Heap} {id n es : Nat} {cs vs : List Value} {g : Bool} (h : H[id]? = some (.cells cs es g false)) (hn : cs.length = n) (hv : vs.length = n) (h1 : vs.all oneCell = true) : stA n (pt id) (.agg vs.toArray) H = some (undef, H.set id (.cells vs es g false)) := by
  rw [stA_r, h, wrkA_r, if_pos ⟨by omega, by simpa using hv, by simpa using h1⟩]
  have : splice cs vs.toArray.toList 0 = vs := by unfold splice; simp [List.drop_eq_nil_of_le (show cs.length ≤ vs.length by omega)]
  rw [this]
theorem alc_a {H : Heap} {vs : List Value} (h1 : vs.all oneCell = true) : alc 1 (.agg vs.toArray) H = some (pt H.length, H ++ [.cells vs 1 false false]) := by
  rw [alc_r]; simp only [Value.cells, List.all_eq_true] at *; rw [if_pos (by simpa using h1)]
theorem alc_1 {H : Heap} {v : Value} (h : oneCell v = true) (hc : v.cells = #[v]) : alc 1 v H = some (pt H.length, H ++ [.cells [v] 1 false false]) := by
  rw [alc_r]; simp [hc, h]

theorem flat_cut {es : Nat} {cells : List Value} : ∀ (n : Nat), n * es ≤ cells.length → ((List.range n).map fun i => (cells.drop (i * es)).take es).flatten = cells.take (n * es)
  | 0, _ => by simp
  | n + 1, h => by
    have h1 : (n + 1) * es = n * es + es := by rw [Nat.add_mul]; omega
    rw [List.range_succ, List.map_append, List.flatten_append, flat_cut n (by omega), h1, List.take_add]
    simp

/-- An argument that is a slice of structs. -/
theorem rd_rows {e : Ty} {x : (Ty.slc e).den} {H : Heap} {v : Value} (hwf : (Ty.slc e).wf x) (h : Rd (.slc e) x H [v]) :
    ∃ rows, SlN e.size H v rows ∧ (∀ r ∈ rows, ∃ y, e.wf y ∧ Rd e y H r) ∧ rows.length ≤ 9223372036854775807 ∧ ∀ lid, own1 v = some lid → lid < H.length := by
  rcases rd_slc h with h0 | h0 | ⟨l, n, c, id, cells, h0, hn, hid, hcl, hcs, a, b, hx, hl, hna⟩
  · have : v = .slice none 0 0 := by simpa using h0
    subst this
    exact ⟨[], SlN.nil, by simp, by simp, fun _ h => by cases h⟩
  · have : v = .slice (some ⟨0, 0, some 1⟩) 0 0 := by simpa using h0
    subst this
    exact ⟨[], ⟨_, _, rfl, (fun e => by cases e), rfl, by simp⟩, by simp, by simp, fun _ h => by cases h⟩
  · have : v = .slice (some ⟨id, 0, none⟩) n c := by simpa using h0
    subst this
    have hle : n * e.size ≤ cells.length := by rw [hcl]; exact Nat.mul_le_mul_right _ hn
    have hlen : ∀ i, i < n → ((cells.drop (i * e.size)).take e.size).length = e.size := fun i hi => by
      have := Nat.mul_le_mul_right e.size (show i + 1 ≤ n by omega)
      rw [Nat.add_mul, Nat.one_mul] at this
      simp; omega
    refine ⟨(List.range n).map fun i => (cells.drop (i * e.size)).take e.size, ⟨_, c, by rw [List.length_map, List.length_range], (fun e => by cases e), ?_, fun r hr => ?_⟩, fun r hr => ?_, ?_, fun lid h => by cases h; exact get_lt hid⟩
    · unfold fcells
      simp only [hid]
      rw [Nat.zero_add, if_pos hle, List.drop_zero, flat_cut n hle]
    · obtain ⟨i, hi, rfl⟩ := List.mem_map.1 hr
      exact hlen i (List.mem_range.1 hi)
    · obtain ⟨i, hi, rfl⟩ := List.mem_map.1 hr
      have hi := List.mem_range.1 hi
      have hil : i < l.length := by omega
      refine ⟨l[i], ?_, hcs i l[i] (List.getElem?_eq_getElem hil)⟩
      subst hx
      obtain ⟨w1, w2, _⟩ := hwf
      have : l[i] ∈ a ++ b := by rw [← hl]; exact List.getElem_mem hil
      exact (List.mem_append.1 this).elim (w1 _) (w2 _)
    · rw [List.length_map, List.length_range]
      subst hx
      have := hwf.2.2
      unfold maxLen at this
      omega

theorem choose_map {α : Type} {Q : List Value → α → Prop} {f : α → List Value} : ∀ {rows : List (List Value)}, (∀ r ∈ rows, ∃ a, r = f a ∧ Q r a) → ∃ ac : List α, rows = ac.map f ∧ ∀ a ∈ ac, Q (f a) a
  | [], _ => ⟨[], rfl, by simp⟩
  | r :: rows, h => by
    obtain ⟨a, h1, h2⟩ := h r (by simp)
    obtain ⟨ac, h3, h4⟩ := choose_map (rows := rows) fun x hx => h x (by simp [hx])
    subst h1
    refine ⟨a :: ac, by rw [h3]; rfl, fun b hb => ?_⟩
    rcases List.mem_cons.1 hb with rfl | hb
    · exact h2
    · exact h4 b hb

/-! reads, later on; texts -/

theorem ld1_mono {H H' : Heap} {p v : Value} (h : ld1 p H = some (v, H)) (hl : HLe H H') : ld1 p H' = some (v, H') := by
  unfold ld1 at h ⊢
  split at h
  · rename_i id o
    split at h
    · rename_i cs es g ro hid
      simp only [hl _ _ hid]
      simp only [Option.map_eq_some_iff, Prod.mk.injEq] at h ⊢
      obtain ⟨a, h1, h2, _⟩ := h
      exact ⟨a, h1, h2, trivial⟩
    · rename_i cs es nx hid
      simp only [hl _ _ hid]
      split at h
      · rename_i ds es2 g2 hnx
        simp only [hl _ _ hnx]
        cases hh : headsL cs ds with
        | false => rw [hh] at h; cases h
        | true =>
          rw [hh] at h
          simp only [cond_true, Option.map_eq_some_iff, Prod.mk.injEq] at h ⊢
          obtain ⟨a, h1, h2, _⟩ := h
          exact ⟨a, h1, h2, trivial⟩
      · cases h
    · cases h
  · cases h

def strv (p : List UInt8) : Value := .string ⟨p.toArray⟩

theorem ba_loop (bs : ByteArray) : ∀ (d i : Nat) (r : List UInt8), bs.size - i = d → ByteArray.toList.loop bs i r = r.reverse ++ bs.data.toList.drop i
  | 0, i, r, hd => by
    unfold ByteArray.toList.loop
    have hs : bs.data.toList.length = bs.size := Array.length_toList
    rw [if_neg (by omega), List.drop_eq_nil_of_le (by omega), List.append_nil]
  | d + 1, i, r, hd => by
    unfold ByteArray.toList.loop
    have hs : bs.data.toList.length = bs.size := Array.length_toList
    have hi : i < bs.data.toList.length := by omega
    rw [if_pos (by omega), ba_loop bs d (i + 1) _ (by omega), List.drop_eq_getElem_cons hi, List.reverse_cons, List.append_assoc]
    congr 2
    have hi2 : i < bs.data.size := by simpa using hi
    simp only [ByteArray.get!, Array.getElem_toList]
    rw [getElem!_pos bs.data i hi2]; rfl

theorem ba_toList (p : List UInt8) : (⟨p.toArray⟩ : ByteArray).toList = p := by
  have := ba_loop ⟨p.toArray⟩ _ 0 [] rfl
  simpa [ByteArray.toList] using this

section
variable {H : Heap} {a b : List UInt8}
theorem eqs_v : bop .str .eql (strv a) (strv b) H = some (.bool (a == b), H) := by
  unfold strv
  rw [eqs_r, ba_toList, ba_toList]
theorem nes_v : bop .str .neq (strv a) (strv b) H = some (.bool (!(a == b)), H) := by
  unfold strv
  rw [nes_r, ba_toList, ba_toList]
theorem ba_size : (⟨a.toArray⟩ : ByteArray).size = a.length := by simp [ByteArray.size]
theorem ba_app : (⟨a.toArray⟩ : ByteArray) ++ ⟨b.toArray⟩ = ⟨(a ++ b).toArray⟩ := by
  apply ByteArray.ext
  simp
theorem adds_v (h : a.length + b.length ≤ 9223372036854775807) : bop .str .add (strv a) (strv b) H = some (strv (a ++ b), H) := by
  unfold strv bop sop
  simp only [ba_size, decide_eq_true h, cond_true, ba_app, Option.map_some]
theorem lenT_v : lenT (strv a) H = some (iv a.length, H) := by
  unfold strv
  rw [lenT_r, ba_size]
theorem b2s_v {v : Value} (h : Sl H v (u8s a)) : b2s v H = some (strv a, H) := b2s_sl h
end

end Go.Proofs.YtlpibiaokpbhbaaGreatDoor.A
