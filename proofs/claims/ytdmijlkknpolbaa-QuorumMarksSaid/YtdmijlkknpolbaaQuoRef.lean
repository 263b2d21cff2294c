/- What is reached, as the document says it. -/
import Derived.Test.YtdmijlkknpolbaaQuo
namespace Go.Proofs.Ytdmijlkknpolbaa.A
set_option linter.unusedVariables false
set_option linter.unusedSimpArgs false
open Go.Proofs Go.Proofs.Ytdmijlkknpolbaa

def cntG (us : List Nat) (x : Nat) : Nat := (us.filter fun y => decide (x ≤ y)).length
def best (e : Nat) (us : List Nat) (b x : Nat) : Nat := if e ≤ cntG us x ∧ b < x then x else b
def refReach (us : List Nat) : Nat := us.foldl (best (enough us.length) us) 0

section
variable {H : Heap} {n : Nat} {sl : Value} {us : List Nat}

theorem cnt_do {s0 s3 s9 s10 s11 : Value} {x : Nat} (h : Sl H sl (us.map uv)) (hl : us.length ≤ 12) : ∀ (t k c : Nat), us.length - k = t → k ≤ us.length → c ≤ k →
    loopM (c10 (F_ref27Reached.l2 (R n))) [s0, s3, uv x, iv c, s9, s10, s11, sl, iv us.length, iv k] H = some (.ext 2 [s0, s3, uv x, iv ((c + ((us.drop k).filter fun y => decide (x ≤ y)).length : Nat) : Int), s9, s10, s11], H)
  | 0, k, c, ht, hk, hc => by
    have : k = us.length := by omega
    subst this
    refine loop_ext ?_
    simp [F_ref27Reached.l2, ↓bind_andk, andk_some, ↓jn_outk, outk_nrm, outk_ext, outk_ret, ↓cnd_b, ret_r, nilc_r, fa_r, ldOne_r, ldA_r, stOne_r, stA_r, rdk_r, rdkA_r, wrk_r, wrkA_r, alc_r, lenS_r, lenT_r, cvi_r, pick_r, not_r, mx_r, mn_r, ixa_r, ixaA_r, bld_r, add_r, sub_r, mul_r, quo_r, rem_r, eql_r, neq_r, lss_r, leq_r, gtr_r, geq_r, eqb_r, neb_r, eqp_r, nep_r, ↓gv_r, gvn_r, ↓g_r, gn_r, Bool.not_true, Bool.not_false, Bool.false_eq_true, Bool.true_eq_false, reduceIte, List.tail_cons, List.headD_cons, decide_true, decide_false, cond_true, cond_false, Nat.beq_refl, c0_r, c1_r, c2_r, c3_r, c4_r, c5_r, c6_r, c7_r, c8_r, c9_r, c10_r, c11_r, c12_r, xk_hit, List.replicate, extr_p0, extr_p1, extr_q0, extr_q1, extr_q2, fa_z, adds_v, lenT_v, retR]
  | t + 1, k, c, ht, hk, hc => by
    have hkl : k < us.length := by omega
    have hlt : (k : Int) < us.length := by omega
    have hg : (us.map uv)[k]? = some (uv us[k]) := by rw [List.getElem?_map, List.getElem?_eq_getElem hkl]; rfl
    have hd := List.drop_eq_getElem_cons hkl
    generalize us[k] = y at hg hd
    have x1 := h.ix (i := k) (by simpa using hkl) .i64 H
    have g1 := h.ldx hg
    have w1 := wsuc (k := k) (by omega)
    have w2 := wsuc (k := c) (by omega)
    by_cases hy : x ≤ y
    · have e := cnt_do (s0 := s0) (s3 := s3) (s9 := s9) (s10 := s10) (s11 := s11) (x := x) h hl t (k + 1) (c + 1) (by omega) (by omega) (by omega)
      have hyd : decide ((y : Int) ≥ x) = true := decide_eq_true (by omega)
      rw [hd, List.filter_cons, if_pos (by simpa using hy)]
      refine ((loop_next ?_).trans e).trans (by rw [List.length_cons, Nat.add_assoc, Nat.add_comm 1])
      rw [c10_r]
      unfold F_ref27Reached.l2
      rw [bind_eq lss_r, cnd_b, if_pos (by simpa using hlt), bind_eq x1, bind_eq g1, bind_eq geq_r, hyd]
      refine (jn_nrm (vs := [s0, s3, uv x, iv ((c + 1 : Nat) : Int), s9, s10, s11, sl, iv us.length, iv k]) (H' := H) ?_).trans ?_
      · rw [cnd_b, if_pos rfl, bind_eq add_r, w2]; rfl
      · rw [c10_r, bind_eq add_r, w1]; rfl
    · have e := cnt_do (s0 := s0) (s3 := s3) (s9 := s9) (s10 := s10) (s11 := s11) (x := x) h hl t (k + 1) c (by omega) (by omega) (by omega)
      have hyd : decide ((y : Int) ≥ x) = false := decide_eq_false (by omega)
      rw [hd, List.filter_cons, if_neg (by simpa using hy)]
      refine (loop_next ?_).trans e
      rw [c10_r]
      unfold F_ref27Reached.l2
      rw [bind_eq lss_r, cnd_b, if_pos (by simpa using hlt), bind_eq x1, bind_eq g1, bind_eq geq_r, hyd]
      refine (jn_nrm (vs := [s0, s3, uv x, iv c, s9, s10, s11, sl, iv us.length, iv k]) (H' := H) ?_).trans ?_
      · rw [cnd_b, if_neg (by simp)]; rfl
      · rw [c10_r, bind_eq add_r, w1]; rfl

theorem best_do (h : Sl H sl (us.map uv)) (hl : us.length ≤ 12) : ∀ (t k b : Nat), us.length - k = t → k ≤ us.length →
    loopM (c5 (F_ref27Reached.l1 (R (n + 1)))) [sl, uv b, sl, iv us.length, iv k] H = some (.ext 0 [uv ((us.drop k).foldl (best (enough us.length) us) b)], H)
  | 0, k, b, ht, hk => by
    have : k = us.length := by omega
    subst this
    refine loop_ext ?_
    simp [F_ref27Reached.l1, ↓bind_andk, andk_some, ↓jn_outk, outk_nrm, outk_ext, outk_ret, ↓cnd_b, ret_r, nilc_r, fa_r, ldOne_r, ldA_r, stOne_r, stA_r, rdk_r, rdkA_r, wrk_r, wrkA_r, alc_r, lenS_r, lenT_r, cvi_r, pick_r, not_r, mx_r, mn_r, ixa_r, ixaA_r, bld_r, add_r, sub_r, mul_r, quo_r, rem_r, eql_r, neq_r, lss_r, leq_r, gtr_r, geq_r, eqb_r, neb_r, eqp_r, nep_r, ↓gv_r, gvn_r, ↓g_r, gn_r, Bool.not_true, Bool.not_false, Bool.false_eq_true, Bool.true_eq_false, reduceIte, List.tail_cons, List.headD_cons, decide_true, decide_false, cond_true, cond_false, Nat.beq_refl, c0_r, c1_r, c2_r, c3_r, c4_r, c5_r, c6_r, c7_r, c8_r, c9_r, c10_r, c11_r, c12_r, xk_hit, List.replicate, extr_p0, extr_p1, extr_q0, extr_q1, extr_q2, fa_z, adds_v, lenT_v, retR]
  | t + 1, k, b, ht, hk => by
    have hkl : k < us.length := by omega
    have hlt : (k : Int) < us.length := by omega
    have hg : (us.map uv)[k]? = some (uv us[k]) := by rw [List.getElem?_map, List.getElem?_eq_getElem hkl]; rfl
    have hd := List.drop_eq_getElem_cons hkl
    generalize us[k] = y at hg hd
    have x1 := h.ix (i := k) (by simpa using hkl) .i64 H
    have g1 := h.ldx hg
    have w1 := wsuc (k := k) (by omega)
    have e1 := cnt_do (n := n + 1) (s0 := sl) (s3 := uv b) (s9 := sl) (s10 := iv us.length) (s11 := iv k) (x := y) h hl us.length 0 0 (by omega) (by omega) (by omega)
    rw [show ((0 : Nat) : Int) = 0 from rfl, List.drop_zero, Nat.zero_add] at e1
    have e1 : loopM (c10 (F_ref27Reached.l2 (R (n + 1)))) [sl, uv b, uv y, .int .i64 0, sl, iv us.length, iv k, sl, iv us.length, .int .i64 0] H = some (.ext 2 [sl, uv b, uv y, iv (cntG us y), sl, iv us.length, iv k], H) := e1
    have e2 := h.len (H' := H)
    rw [List.length_map] at e2
    have e3 : R (n + 1) n_ref27Enough [iv us.length] H = some (iv (enough us.length), H) := r_refEnough _
    have e4 := best_do h hl t (k + 1) (best (enough us.length) us b y) (by omega) (by omega)
    rw [hd, List.foldl_cons]
    refine (loop_next ?_).trans e4
    rw [c5_r]
    unfold F_ref27Reached.l1
    rw [bind_eq lss_r, cnd_b, if_pos (by simpa using hlt), bind_eq x1, bind_eq g1, bind_eq e2, jn_ext e1, xk_hit, c7_r, bind_eq e2, bind_eq e3, bind_eq geq_r]
    unfold best
    by_cases hc : enough us.length ≤ cntG us y
    · have hcd : decide ((cntG us y : Int) ≥ enough us.length) = true := decide_eq_true (by omega)
      rw [hcd, b_g_in, b_assoc, bind_eq gtr_r, b_ret, c3_r, bind_eq pick_r]
      simp only [cond_true]
      by_cases hb : b < y
      · have hbd : decide ((y : Int) > b) = true := decide_eq_true (by omega)
        rw [hbd, if_pos ⟨hc, hb⟩]
        refine (jn_nrm (vs := [sl, uv y, sl, iv us.length, iv k]) (H' := H) ?_).trans ?_
        · rw [cnd_b, if_pos rfl]; rfl
        · rw [c5_r, bind_eq add_r, w1]; rfl
      · have hbd : decide ((y : Int) > b) = false := decide_eq_false (by omega)
        rw [hbd, if_neg (by omega)]
        refine (jn_nrm (vs := [sl, uv b, sl, iv us.length, iv k]) (H' := H) ?_).trans ?_
        · rw [cnd_b, if_neg (by simp)]; rfl
        · rw [c5_r, bind_eq add_r, w1]; rfl
    · have hcd : decide ((cntG us y : Int) ≥ enough us.length) = false := decide_eq_false (by omega)
      rw [hcd, bind_eq (g_r.trans (if_neg (by simp)))]
      simp only [List.replicate]
      rw [c3_r, bind_eq pick_r, if_neg (by omega)]
      simp only [cond_false]
      refine (jn_nrm (vs := [sl, uv b, sl, iv us.length, iv k]) (H' := H) ?_).trans ?_
      · rw [cnd_b, if_neg (by simp)]; rfl
      · rw [c5_r, bind_eq add_r, w1]; rfl

theorem r_refReached (h : Sl H sl (us.map uv)) (hl : us.length ≤ 12) : R (n + 2) n_ref27Reached [sl] H = some (uv (refReach us), H) := by
  have e1 := best_do (n := n) h hl us.length 0 0 (by omega) (by omega)
  have e2 := h.len (H' := H)
  rw [List.length_map] at e2
  rw [show ((0 : Nat) : Int) = 0 from rfl, List.drop_zero] at e1
  rw [R, run_ref27Reached rfl]
  unfold F_ref27Reached
  have e1 : loopM (c5 (F_ref27Reached.l1 (R (n + 1)))) [sl, .int .u64 0, sl, iv us.length, .int .i64 0] H = _ := e1
  rw [bind_eq e2, jn_ext e1, xk_hit]
  rfl

end

/-! the law -/

section
variable {us : List Nat} {e : Nat}

theorem perm_cnt {l m : List Nat} (h : l.Perm m) (x : Nat) : cntG l x = cntG m x := (h.filter _).length_eq

/-- What is told has enough that are as far; what has enough isn't more. -/
theorem reach_spec (he : 1 ≤ e) (hle : e ≤ us.length) : e ≤ cntG us ((isort ltN us).getD (us.length - e) 0) ∧ (∀ x, e ≤ cntG us x → x ≤ (isort ltN us).getD (us.length - e) 0) ∧ (isort ltN us).getD (us.length - e) 0 ∈ us := by
  have hp := isort_perm ltN_ok us
  have hs := isort_sorted ltN_ok us
  have hl := isort_len ltN_ok us
  have hcnt : ∀ x, cntG us x = cntG (isort ltN us) x := fun x => (perm_cnt hp x).symm
  have hmem : ∀ x, x ∈ isort ltN us → x ∈ us := fun x hx => hp.mem_iff.1 hx
  generalize isort ltN us = S at hs hl hcnt hmem
  have hk : us.length - e < S.length := by omega
  have hsplit : S = S.take (us.length - e) ++ S[us.length - e] :: S.drop (us.length - e + 1) := by
    rw [← List.drop_eq_getElem_cons hk, List.take_append_drop]
  have hd : S.getD (us.length - e) 0 = S[us.length - e] := by simp [List.getD_eq_getElem?_getD, List.getElem?_eq_getElem hk]
  have hvm := List.getElem_mem hk
  rw [hd]
  generalize S[us.length - e] = v at hsplit hvm
  have hA : (S.take (us.length - e)).length = us.length - e := by rw [List.length_take]; omega
  have hC : (S.drop (us.length - e + 1)).length = e - 1 := by rw [List.length_drop]; omega
  generalize S.take (us.length - e) = A at hsplit hA
  generalize S.drop (us.length - e + 1) = C at hsplit hC
  rw [hsplit] at hs
  obtain ⟨s1, s2, s3⟩ := List.pairwise_append.1 hs
  have s4 := (List.pairwise_cons.1 s2).1
  have hge : ∀ y ∈ C, v ≤ y := fun y hy => by have := s4 y hy; simpa [ltN] using this
  have hle' : ∀ y ∈ A, y ≤ v := fun y hy => by have := s3 y hy v (by simp); simpa [ltN] using this
  refine ⟨?_, fun x hx => ?_, hmem v hvm⟩
  · rw [hcnt, hsplit]
    unfold cntG
    rw [List.filter_append, List.length_append, List.filter_cons, if_pos (by simp), List.length_cons, (List.filter_eq_self (l := C)).2 (fun y hy => by simpa using hge y hy), hC]
    omega
  · rcases Nat.lt_or_ge v x with h | h
    · rw [hcnt, hsplit] at hx
      unfold cntG at hx
      rw [List.filter_append, List.length_append, List.filter_cons, if_neg (by simp; omega), (List.filter_eq_nil_iff (l := A)).2 (fun y hy => by have := hle' y hy; simp; omega)] at hx
      have := List.length_filter_le (fun y => decide (x ≤ y)) C
      simp at hx
      omega
    · exact h

theorem fold_best (v : Nat) : ∀ (l : List Nat) (b : Nat), (∀ x, e ≤ cntG us x → x ≤ v) → b ≤ v → (v ∈ l ∧ e ≤ cntG us v ∨ b = v) → l.foldl (best e us) b = v
  | [], b, h1, h2, h3 => by
    rcases h3 with ⟨h, _⟩ | h
    · cases h
    · exact h
  | x :: l, b, h1, h2, h3 => by
    rw [List.foldl_cons]
    refine fold_best v l _ h1 ?_ ?_
    · unfold best
      split
      · rename_i h; exact h1 x h.1
      · exact h2
    · rcases h3 with ⟨h, hc⟩ | h
      · rcases List.mem_cons.1 h with rfl | h
        · right
          unfold best
          split
          · rfl
          · rename_i h4; omega
        · exact .inl ⟨h, hc⟩
      · right
        unfold best
        split
        · rename_i h4
          have := h1 x h4.1
          omega
        · exact h

theorem reach_same (he : enough us.length ≠ 0) : refReach us = reachedL us := by
  have hec := enough_cases he
  obtain ⟨h1, h2, h3⟩ := reach_spec (us := us) (e := enough us.length) (by omega) (by omega)
  exact fold_best _ us 0 h2 (Nat.zero_le _) (.inl ⟨h3, h1⟩)

theorem cnt_mono : ∀ {us ws : List Nat}, us.length = ws.length → (∀ i, us.getD i 0 ≤ ws.getD i 0) → ∀ x, cntG us x ≤ cntG ws x
  | [], [], _, _, x => Nat.le_refl _
  | u :: us, w :: ws, hl, h, x => by
    have h0 : u ≤ w := h 0
    have ih := cnt_mono (us := us) (ws := ws) (by simpa using hl) (fun i => h (i + 1)) x
    unfold cntG at ih ⊢
    rw [List.filter_cons, List.filter_cons]
    by_cases h1 : x ≤ u
    · rw [if_pos (by simpa using h1), if_pos (by simp; omega)]
      simpa using ih
    · rw [if_neg (by simpa using h1)]
      split
      · simp; omega
      · exact ih

theorem reach_mono {ws : List Nat} (hl : us.length = ws.length) (he : enough us.length ≠ 0) (h : ∀ i, us.getD i 0 ≤ ws.getD i 0) : reachedL us ≤ reachedL ws := by
  have hec := enough_cases he
  obtain ⟨h1, _, _⟩ := reach_spec (us := us) (e := enough us.length) (by omega) (by omega)
  obtain ⟨_, h2, _⟩ := reach_spec (us := ws) (e := enough ws.length) (by rw [← hl]; omega) (by rw [← hl]; omega)
  refine h2 _ ?_
  have := cnt_mono hl h (reachedL us)
  rw [← hl]
  exact Nat.le_trans h1 this

end

end Go.Proofs.Ytdmijlkknpolbaa.A
