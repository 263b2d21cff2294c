/- Texts that begin so, and what is deleted from a row of texts. -/
import Derived.Test.YtlpibiaokpbhbaaGreatDoorEld2
namespace Go.Proofs.YtlpibiaokpbhbaaGreatDoor.A
set_option linter.unusedVariables false
set_option linter.unusedSimpArgs false
open Go.Proofs Go.Proofs.YtlpibiaokpbhbaaGreatDoor

def preB (pre s : List UInt8) : Bool := decide (pre.length ≤ s.length) && (s.take pre.length == pre)

section
variable {H H' : Heap} {n : Nat} {s pre : List UInt8}

theorem sls_v {k : Nat} (hk : k ≤ s.length) : sls (strv s) none (some (iv k)) H = some (strv (s.take k), H) := by
  have h1 : (⟨s.toArray⟩ : ByteArray).size = s.length := by simp [ByteArray.size]
  have h2 : (⟨s.toArray⟩ : ByteArray).extract 0 k = ⟨(s.take k).toArray⟩ := by
    apply ByteArray.ext
    rw [ByteArray.data_extract]
    simp
  have hb : bnd (some (iv k)) s.length = some k := by simp [bnd]
  have hb0 : bnd none 0 = some 0 := rfl
  unfold strv sls
  simp only [h1, hb, hb0]
  rw [if_pos ⟨Nat.zero_le _, hk⟩, h2]

/-! what is deleted -/

section
variable {f v : Value} {p : List UInt8 → Bool} {l : List (List UInt8)} {q : List Nat} {Q : Heap → Prop}

theorem row_at {ss : List (List UInt8)} {i : Nat} {x : List UInt8} (h : ss[i]? = some x) : (ss.map strv)[i]? = some (strv x) := by rw [List.getElem?_map, h]; rfl

theorem idx_do (hr : RowS H v (l.map strv) q) (hl : l.length ≤ 1000000) (hf : ∀ s ∈ l, callv (R n) f [strv s] H = some (.bool (p s), H)) : ∀ (t k : Nat), l.length - k = t → k ≤ l.length →
    loopM (c4 (F_slicesIndexFuncstringString.l1 (R n))) [v, f, iv l.length, iv k] H = some (match (l.drop k).findIdx? p with | some i => .ret (iv (k + i : Nat)) | none => .ext 0 [], H)
  | 0, k, ht, hk => by
    have : k = l.length := by omega
    subst this
    rw [List.drop_length]
    refine loop_ext ?_
    rw [c4_r]
    unfold F_slicesIndexFuncstringString.l1
    rw [bind_eq lss_r, cnd_b, if_neg (by simp)]
    rfl
  | t + 1, k, ht, hk => by
    have hkl : k < l.length := by omega
    have hlt : (k : Int) < l.length := by omega
    have hg := List.getElem?_eq_getElem hkl
    have hm : l[k] ∈ l := List.getElem_mem hkl
    have hd := List.drop_eq_getElem_cons hkl
    generalize l[k] = x at hg hd hm
    have x1 := hr.ix (i := k) (by simpa using hkl) .i64 H
    have x2 := hr.ldx (row_at hg)
    have x3 := hf x hm
    have ih := idx_do hr hl hf t (k + 1) (by omega) (by omega)
    rw [hd, List.findIdx?_cons]
    cases hp : p x
    · rw [hp] at x3
      refine (loop_next ?_).trans (ih.trans ?_)
      · rw [c4_r]
        unfold F_slicesIndexFuncstringString.l1
        rw [bind_eq lss_r, cnd_b, if_pos (by simpa using hlt), bind_eq x1, bind_eq x2, bind_eq x3, cnd_b, if_neg (by simp), bind_eq add_r, wsuc (by omega)]
        rfl
      · cases (l.drop (k + 1)).findIdx? p with
        | none => rfl
        | some i => simp only [Bool.false_eq_true, if_false, Option.map_some]; rw [show k + 1 + i = k + (i + 1) by omega]
    · rw [hp] at x3
      refine loop_ret ?_
      rw [c4_r]
      unfold F_slicesIndexFuncstringString.l1
      rw [bind_eq lss_r, cnd_b, if_pos (by simpa using hlt), bind_eq x1, bind_eq x2, bind_eq x3, cnd_b, if_pos rfl]
      rfl

theorem r_index (hr : RowS H v (l.map strv) q) (hl : l.length ≤ 1000000) (hf : ∀ s ∈ l, callv (R n) f [strv s] H = some (.bool (p s), H)) :
    R (n + 1) n_slicesIndexFuncstringString [v, f] H = some (match l.findIdx? p with | some i => iv i | none => iv (-1), H) := by
  have e := idx_do hr hl hf l.length 0 (by omega) (by omega)
  rw [List.drop_zero] at e
  have e : loopM (c4 (F_slicesIndexFuncstringString.l1 (R n))) [v, f, iv l.length, .int .i64 0] H = _ := e
  have hlen : lenS v H = some (iv l.length, H) := by have := hr.rd.len (H' := H); simpa using this
  rw [R, run_slicesIndexFuncstringString rfl]
  unfold F_slicesIndexFuncstringString
  rw [bind_eq hlen]
  cases h : l.findIdx? p with
  | none => rw [h] at e; rw [jn_ext e, xk_hit]; rfl
  | some i =>
    rw [h] at e
    rw [jn_ret e]
    simp [ret]

theorem del_do (hl : l.length ≤ 1000000) (hQ : ∀ X X', Q X → Step q X q X' → Q X') (hf : ∀ X, Q X → ∀ s ∈ l, callv (R n) f [strv s] X = some (.bool (p s), X)) : ∀ (t j i : Nat) (cs : List (List UInt8)) (X : Heap), l.length - j = t → j ≤ l.length → i ≤ j → cs.length = l.length → cs.drop j = l.drop j → RowS X v (cs.map strv) q → Q X →
    ∃ (X' : Heap) (cs' : List (List UInt8)), loopM (c4 (F_slicesDeleteFuncstringString.l1 (R n))) [v, f, iv i, iv j] X = some (.ext 0 [v, iv (i + ((l.drop j).filter fun s => !p s).length : Nat)], X') ∧ RowS X' v (cs'.map strv) q ∧ cs'.length = l.length ∧
      cs'.take (i + ((l.drop j).filter fun s => !p s).length) = cs.take i ++ (l.drop j).filter (fun s => !p s) ∧ Step q X q X'
  | 0, j, i, cs, X, ht, hj, hi, hc, hd, hr, hq => by
    have : j = l.length := by omega
    subst this
    rw [List.drop_length]
    have hlen : lenS v X = some (iv l.length, X) := by have := hr.rd.len (H' := X); simpa [hc] using this
    refine ⟨X, cs, loop_ext ?_, hr, hc, by simp, .refl _ _⟩
    rw [c4_r]
    unfold F_slicesDeleteFuncstringString.l1
    rw [bind_eq hlen, bind_eq lss_r, cnd_b, if_neg (by simp)]
    rfl
  | t + 1, j, i, cs, X, ht, hj, hi, hc, hd, hr, hq => by
    have hjl : j < l.length := by omega
    have hlt : (j : Int) < l.length := by omega
    have hg := List.getElem?_eq_getElem hjl
    have hm : l[j] ∈ l := List.getElem_mem hjl
    have hdl := List.drop_eq_getElem_cons hjl
    generalize l[j] = x at hg hdl hm
    have hgc : cs[j]? = some x := by
      have h1 : (cs.drop j)[0]? = (l.drop j)[0]? := by rw [hd]
      simpa [hg] using h1
    have hlen : lenS v X = some (iv l.length, X) := by have := hr.rd.len (H' := X); simpa [hc] using this
    have x1 := hr.ix (i := j) (by simpa [hc] using hjl) .i64 X
    have x2 := hr.ldx (row_at hgc)
    have x3 := hf X hq x hm
    have hd1 : cs.drop (j + 1) = l.drop (j + 1) := by
      rw [← List.drop_drop, hd, List.drop_drop]
    rw [hdl, List.filter_cons]
    cases hp : p x
    · rw [hp] at x3
      have x4 := hr.ix (i := i) (by simp [hc]; omega) .i64 X
      obtain ⟨X1, x5, r1, s1, _⟩ := hr.stx (i := i) (u := strv x) (by simp [hc]; omega) rfl
      have hset : (cs.map strv).set i (strv x) = (cs.set i x).map strv := by rw [List.map_set]
      rw [hset] at r1
      obtain ⟨X', cs', e, r', hc', ht', s'⟩ := del_do hl hQ hf t (j + 1) (i + 1) (cs.set i x) X1 (by omega) (by omega) (by omega) (by simpa using hc) (by rw [List.drop_set_of_lt (by omega)]; exact hd1) r1 (hQ _ _ hq s1)
      have hn : i + 1 + ((l.drop (j + 1)).filter fun s => !p s).length = i + (((l.drop (j + 1)).filter fun s => !p s).length + 1) := by omega
      rw [hn] at e ht'
      simp only [Bool.not_false, if_true, List.length_cons]
      refine ⟨X', cs', (loop_next ?_).trans e, r', hc', ?_, s1.trans s'⟩
      · rw [c4_r]
        unfold F_slicesDeleteFuncstringString.l1
        rw [bind_eq hlen, bind_eq lss_r, cnd_b, if_pos (by simpa using hlt), bind_eq x1, bind_eq x2, bind_eq x3, bind_eq not_r]
        refine (jn_nrm (vs := [v, f, iv ((i + 1 : Nat) : Int), iv j]) (H' := X1) ?_).trans ?_
        · rw [cnd_b, if_pos (by rfl), bind_eq x4, bind_eq x5, bind_eq add_r, wsuc (by omega)]; rfl
        · rw [c4_r, bind_eq add_r, wsuc (by omega)]; rfl
      · rw [ht']
        have : (cs.set i x).take (i + 1) = cs.take i ++ [x] := by
          have hil : i < (cs.set i x).length := by simp [hc]; omega
          rw [List.take_succ_eq_append_getElem hil, List.take_set_of_le (Nat.le_refl _)]
          simp
        rw [this]; simp
    · rw [hp] at x3
      obtain ⟨X', cs', e, r', hc', ht', s'⟩ := del_do hl hQ hf t (j + 1) i cs X (by omega) (by omega) (by omega) hc hd1 hr hq
      simp only [Bool.not_true, Bool.false_eq_true, if_false]
      refine ⟨X', cs', (loop_next ?_).trans e, r', hc', ht', s'⟩
      rw [c4_r]
      unfold F_slicesDeleteFuncstringString.l1
      rw [bind_eq hlen, bind_eq lss_r, cnd_b, if_pos (by simpa using hlt), bind_eq x1, bind_eq x2, bind_eq x3, bind_eq not_r]
      refine (jn_nrm (vs := [v, f, iv i, iv j]) (H' := X) ?_).trans ?_
      · rw [cnd_b, if_neg (by simp)]; rfl
      · rw [c4_r, bind_eq add_r, wsuc (by omega)]; rfl

theorem filter_of_idx : ∀ {l : List (List UInt8)}, (match l.findIdx? p with | some i => l.filter (fun s => !p s) = l.take i ++ (l.drop (i + 1)).filter (fun s => !p s) ∧ i < l.length | none => l.filter (fun s => !p s) = l)
  | [] => by simp
  | x :: l => by
    have ih := filter_of_idx (l := l)
    rw [List.findIdx?_cons]
    cases hp : p x
    · simp only [Bool.false_eq_true, if_false]
      cases h : l.findIdx? p with
      | none => rw [h] at ih; simp [hp]; simpa using ih
      | some i => rw [h] at ih; simp [hp, ih.1, ih.2]
    · simp [hp]

theorem reps_s (k : Nat) : reps k (Value.string ⟨#[]⟩).cells.toList = List.replicate k (strv []) := by
  induction k with
  | zero => rfl
  | succ k ih =>
    unfold reps at ih ⊢
    rw [List.replicate_succ, List.flatten_cons, ih]; rfl

/-- The end of a row is emptied, and left out. -/
theorem cut_clear {cs : List (List UInt8)} {i : Nat} (hr : RowS H v (cs.map strv) q) (hi : i < cs.length) : ∃ a H' v', slv 1 v (some (iv i)) none none H = some (a, H) ∧ clr (.string ⟨#[]⟩) 1 a H = some (.tuple #[], H') ∧ slv 1 v none (some (iv i)) none H' = some (v', H') ∧ RowS H' v' ((cs.take i).map strv) q ∧ Step q H q H' := by
  rcases hr with ⟨h1, _, _⟩ | ⟨sid, rest, g, rfl, rfl, hid⟩
  · simp at h1; simp [h1] at hi
  · rw [List.length_map] at *
    have b1 : bnd (some (iv i)) 0 = some i := by simp [bnd]
    have b1' : bnd (some (iv i)) cs.length = some i := by simp [bnd]
    have b2 : ∀ k, bnd none k = some k := fun _ => rfl
    have hsp : splice (cs.map strv ++ rest) (List.replicate (cs.length - i) (strv [])) i = (cs.take i).map strv ++ (List.replicate (cs.length - i) (strv []) ++ rest) := by
      unfold splice
      rw [List.length_replicate, Nat.add_sub_cancel' (Nat.le_of_lt hi), List.take_append_of_le_length (by simp; omega), List.drop_append_of_le_length (by simp), List.drop_eq_nil_of_le (by simp), List.map_take]
      simp
    refine ⟨.slice (some ⟨sid, 0 + i * 1, none⟩) (cs.length - i) (cs.length + rest.length - i), H.set sid (.cells ((cs.take i).map strv ++ (List.replicate (cs.length - i) (strv []) ++ rest)) 1 g false), .slice (some ⟨sid, 0, none⟩) i (cs.length + rest.length), ?_, ?_, ?_, ?_, ⟨by simp, fun j hj hn => List.getElem?_set_ne (fun e => hn (by simp [e])), fun j hj => .inl hj⟩⟩
    · simp only [slv, hid, b1, b2]
      rw [if_pos ⟨trivial, by omega, by omega, Nat.le_refl _⟩, if_neg (by omega)]
    · simp only [clr]
      rw [if_neg (by omega)]
      simp only [hid]
      rw [if_pos ⟨trivial, by simp; omega⟩, reps_s]
      rw [Nat.zero_add, Nat.mul_one, hsp]
    · simp only [slv, set_get hid, b1', b2]
      rw [if_pos ⟨trivial, by omega, by omega, Nat.le_refl _⟩, if_neg (by omega)]
      simp
    · have hl : ((cs.take i).map strv).length = i := by simp; omega
      refine .inr ⟨sid, List.replicate (cs.length - i) (strv []) ++ rest, g, ?_, rfl, set_get hid⟩
      rw [hl]
      simp; omega

theorem r_deleteFunc (hr : RowS H v (l.map strv) q) (hl : l.length ≤ 1000000) (hQ : ∀ X X', Q X → Step q X q X' → Q X') (hf : ∀ X, Q X → ∀ s ∈ l, callv (R n) f [strv s] X = some (.bool (p s), X)) (hf1 : ∀ X, Q X → ∀ s ∈ l, callv (R (n + 1)) f [strv s] X = some (.bool (p s), X)) (h0 : Q H) :
    ∃ H' v', R (n + 2) n_slicesDeleteFuncstringString [v, f] H = some (v', H') ∧ RowS H' v' ((l.filter fun s => !p s).map strv) q ∧ Step q H q H' := by
  have e1 : run Tryz.prog np lvs (n + 1) n_slicesIndexFuncstringString [v, f] H = _ := r_index hr hl (hf H h0)
  have hfi := filter_of_idx (p := p) (l := l)
  have hrun : R (n + 2) n_slicesDeleteFuncstringString [v, f] H = F_slicesDeleteFuncstringString (R (n + 1)) v f H := by rw [R, run_slicesDeleteFuncstringString rfl]
  rw [hrun]
  unfold F_slicesDeleteFuncstringString
  cases h : l.findIdx? p with
  | none =>
    rw [h] at e1 hfi
    refine ⟨H, v, ?_, by rw [hfi]; exact hr, .refl _ _⟩
    rw [bind_eq e1, bind_eq eql_r, cnd_b, if_pos (by simp)]
    rfl
  | some i =>
    rw [h] at e1 hfi
    simp only at e1 hfi
    obtain ⟨X', cs', e2, r2, hc2, ht2, s2⟩ := del_do (n := n + 1) hl hQ hf1 (l.length - (i + 1)) (i + 1) i l H rfl (by omega) (by omega) rfl rfl hr h0
    have hle : ((l.drop (i + 1)).filter fun s => !p s).length ≤ l.length - (i + 1) := by
      have := List.length_filter_le (fun s => !p s) (l.drop (i + 1))
      simpa using this
    obtain ⟨a, X2, v', a1, a2, a3, a4, a5⟩ := cut_clear r2 (i := i + ((l.drop (i + 1)).filter fun s => !p s).length) (by omega)
    refine ⟨X2, v', ?_, by rw [hfi.1, ← ht2]; exact a4, s2.trans a5⟩
    rw [bind_eq e1, bind_eq eql_r, cnd_b, if_neg (by simp), bind_eq add_r, wsuc (by omega), jn_ext e2, xk_hit, c2_r, bind_eq a1, bind_eq a2, bind_eq a3]
    rfl

end

end

end Go.Proofs.YtlpibiaokpbhbaaGreatDoor.A
