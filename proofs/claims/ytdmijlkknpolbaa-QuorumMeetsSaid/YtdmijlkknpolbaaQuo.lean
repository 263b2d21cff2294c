/- Sets and marks. -/
import Derived.Test.YtdmijlkknpolbaaQuoSort
namespace Go.Proofs.Ytdmijlkknpolbaa.A
set_option linter.unusedVariables false
set_option linter.unusedSimpArgs false
open Go.Proofs Go.Proofs.Ytdmijlkknpolbaa

def enough (n : Int) : Nat := if n = 3 then 2 else if n = 5 then 3 else if n = 7 then 4 else 0

/-- Marks, as they lie. -/
structure Mk (H : Heap) (id : Nat) (us : List Nat) (own : List Nat) : Prop where
  ex : ∃ sl q, H[id]? = some (.cells [sl] 1 false false) ∧ RowS H sl (us.map uv) q ∧ own = id :: q ∧ id ∉ q

def noteL (us : List Nat) (node op : Nat) : List Nat := if node < us.length ∧ us.getD node 0 < op then us.set node op else us
def noteB (us : List Nat) (node op : Nat) : Bool := decide (node < us.length) && decide (us.getD node 0 < op)

section
variable {H H' : Heap} {n id : Nat} {us : List Nat} {own : List Nat}

theorem Mk.lt (h : Mk H id us own) : ∀ j ∈ own, j < H.length := by
  obtain ⟨sl, q, h1, h2, rfl, h3⟩ := h.ex
  intro j hj
  rcases List.mem_cons.1 hj with rfl | hj
  · exact get_lt h1
  · exact h2.lt j hj
theorem Mk.keep (h : Mk H id us own) (hk : ∀ j ∈ own, H'[j]? = H[j]?) : Mk H' id us own := by
  obtain ⟨sl, q, h1, h2, rfl, h3⟩ := h.ex
  exact ⟨sl, q, by rw [hk id (by simp)]; exact h1, h2.keep fun j hj => hk j (by simp [hj]), rfl, h3⟩
theorem Mk.step {o1 o2 : List Nat} (h : Mk H id us own) (hs : Step o1 H o2 H') (hn : ∀ j ∈ own, j ∉ o1) : Mk H' id us own :=
  h.keep fun j hj => hs.keep j (h.lt j hj) (hn j hj)
theorem Mk.hle (h : Mk H id us own) (hl : HLe H H') : Mk H' id us own := h.step hl.step (by simp)

theorem r_enough (m : Int) : R (n + 1) n_quorumEnough [iv m] H = some (iv (enough m), H) := by
  rw [R, run_quorumEnough rfl]
  unfold enough
  by_cases h3 : m = 3
  · subst h3; simp [F_quorumEnough, ↓bind_andk, andk_some, ↓jn_outk, outk_nrm, outk_ext, outk_ret, ↓cnd_b, ret_r, nilc_r, fa_r, ldOne_r, ldA_r, stOne_r, stA_r, rdk_r, rdkA_r, wrk_r, wrkA_r, alc_r, lenS_r, lenT_r, cvi_r, pick_r, not_r, mx_r, mn_r, ixa_r, ixaA_r, bld_r, add_r, sub_r, mul_r, quo_r, rem_r, eql_r, neq_r, lss_r, leq_r, gtr_r, geq_r, eqb_r, neb_r, eqp_r, nep_r, ↓gv_r, gvn_r, ↓g_r, gn_r, Bool.not_true, Bool.not_false, Bool.false_eq_true, Bool.true_eq_false, reduceIte, List.tail_cons, List.headD_cons, decide_true, decide_false, cond_true, cond_false, Nat.beq_refl, c0_r, c1_r, c2_r, c3_r, c4_r, c5_r, c6_r, c7_r, c8_r, c9_r, c10_r, c11_r, c12_r, xk_hit, List.replicate, extr_p0, extr_p1, extr_q0, extr_q1, extr_q2, fa_z, adds_v, lenT_v, retR, w64]
  by_cases h5 : m = 5
  · subst h5; simp [F_quorumEnough, ↓bind_andk, andk_some, ↓jn_outk, outk_nrm, outk_ext, outk_ret, ↓cnd_b, ret_r, nilc_r, fa_r, ldOne_r, ldA_r, stOne_r, stA_r, rdk_r, rdkA_r, wrk_r, wrkA_r, alc_r, lenS_r, lenT_r, cvi_r, pick_r, not_r, mx_r, mn_r, ixa_r, ixaA_r, bld_r, add_r, sub_r, mul_r, quo_r, rem_r, eql_r, neq_r, lss_r, leq_r, gtr_r, geq_r, eqb_r, neb_r, eqp_r, nep_r, ↓gv_r, gvn_r, ↓g_r, gn_r, Bool.not_true, Bool.not_false, Bool.false_eq_true, Bool.true_eq_false, reduceIte, List.tail_cons, List.headD_cons, decide_true, decide_false, cond_true, cond_false, Nat.beq_refl, c0_r, c1_r, c2_r, c3_r, c4_r, c5_r, c6_r, c7_r, c8_r, c9_r, c10_r, c11_r, c12_r, xk_hit, List.replicate, extr_p0, extr_p1, extr_q0, extr_q1, extr_q2, fa_z, adds_v, lenT_v, retR, w64]
  by_cases h7 : m = 7
  · subst h7; simp [F_quorumEnough, ↓bind_andk, andk_some, ↓jn_outk, outk_nrm, outk_ext, outk_ret, ↓cnd_b, ret_r, nilc_r, fa_r, ldOne_r, ldA_r, stOne_r, stA_r, rdk_r, rdkA_r, wrk_r, wrkA_r, alc_r, lenS_r, lenT_r, cvi_r, pick_r, not_r, mx_r, mn_r, ixa_r, ixaA_r, bld_r, add_r, sub_r, mul_r, quo_r, rem_r, eql_r, neq_r, lss_r, leq_r, gtr_r, geq_r, eqb_r, neb_r, eqp_r, nep_r, ↓gv_r, gvn_r, ↓g_r, gn_r, Bool.not_true, Bool.not_false, Bool.false_eq_true, Bool.true_eq_false, reduceIte, List.tail_cons, List.headD_cons, decide_true, decide_false, cond_true, cond_false, Nat.beq_refl, c0_r, c1_r, c2_r, c3_r, c4_r, c5_r, c6_r, c7_r, c8_r, c9_r, c10_r, c11_r, c12_r, xk_hit, List.replicate, extr_p0, extr_p1, extr_q0, extr_q1, extr_q2, fa_z, adds_v, lenT_v, retR, w64]
  · simp [F_quorumEnough, ↓bind_andk, andk_some, ↓jn_outk, outk_nrm, outk_ext, outk_ret, ↓cnd_b, ret_r, nilc_r, fa_r, ldOne_r, ldA_r, stOne_r, stA_r, rdk_r, rdkA_r, wrk_r, wrkA_r, alc_r, lenS_r, lenT_r, cvi_r, pick_r, not_r, mx_r, mn_r, ixa_r, ixaA_r, bld_r, add_r, sub_r, mul_r, quo_r, rem_r, eql_r, neq_r, lss_r, leq_r, gtr_r, geq_r, eqb_r, neb_r, eqp_r, nep_r, ↓gv_r, gvn_r, ↓g_r, gn_r, Bool.not_true, Bool.not_false, Bool.false_eq_true, Bool.true_eq_false, reduceIte, List.tail_cons, List.headD_cons, decide_true, decide_false, cond_true, cond_false, Nat.beq_refl, c0_r, c1_r, c2_r, c3_r, c4_r, c5_r, c6_r, c7_r, c8_r, c9_r, c10_r, c11_r, c12_r, xk_hit, List.replicate, extr_p0, extr_p1, extr_q0, extr_q1, extr_q2, fa_z, adds_v, lenT_v, retR, h3, h5, h7]

theorem r_refEnough (m : Int) : R (n + 1) n_ref27Enough [iv m] H = some (iv (enough m), H) := by
  rw [R, run_ref27Enough rfl]
  unfold enough
  by_cases h3 : m = 3
  · subst h3; simp [F_ref27Enough, ↓bind_andk, andk_some, ↓jn_outk, outk_nrm, outk_ext, outk_ret, ↓cnd_b, ret_r, nilc_r, fa_r, ldOne_r, ldA_r, stOne_r, stA_r, rdk_r, rdkA_r, wrk_r, wrkA_r, alc_r, lenS_r, lenT_r, cvi_r, pick_r, not_r, mx_r, mn_r, ixa_r, ixaA_r, bld_r, add_r, sub_r, mul_r, quo_r, rem_r, eql_r, neq_r, lss_r, leq_r, gtr_r, geq_r, eqb_r, neb_r, eqp_r, nep_r, ↓gv_r, gvn_r, ↓g_r, gn_r, Bool.not_true, Bool.not_false, Bool.false_eq_true, Bool.true_eq_false, reduceIte, List.tail_cons, List.headD_cons, decide_true, decide_false, cond_true, cond_false, Nat.beq_refl, c0_r, c1_r, c2_r, c3_r, c4_r, c5_r, c6_r, c7_r, c8_r, c9_r, c10_r, c11_r, c12_r, xk_hit, List.replicate, extr_p0, extr_p1, extr_q0, extr_q1, extr_q2, fa_z, adds_v, lenT_v, retR, w64]
  by_cases h5 : m = 5
  · subst h5; simp [F_ref27Enough, ↓bind_andk, andk_some, ↓jn_outk, outk_nrm, outk_ext, outk_ret, ↓cnd_b, ret_r, nilc_r, fa_r, ldOne_r, ldA_r, stOne_r, stA_r, rdk_r, rdkA_r, wrk_r, wrkA_r, alc_r, lenS_r, lenT_r, cvi_r, pick_r, not_r, mx_r, mn_r, ixa_r, ixaA_r, bld_r, add_r, sub_r, mul_r, quo_r, rem_r, eql_r, neq_r, lss_r, leq_r, gtr_r, geq_r, eqb_r, neb_r, eqp_r, nep_r, ↓gv_r, gvn_r, ↓g_r, gn_r, Bool.not_true, Bool.not_false, Bool.false_eq_true, Bool.true_eq_false, reduceIte, List.tail_cons, List.headD_cons, decide_true, decide_false, cond_true, cond_false, Nat.beq_refl, c0_r, c1_r, c2_r, c3_r, c4_r, c5_r, c6_r, c7_r, c8_r, c9_r, c10_r, c11_r, c12_r, xk_hit, List.replicate, extr_p0, extr_p1, extr_q0, extr_q1, extr_q2, fa_z, adds_v, lenT_v, retR, w64]
  by_cases h7 : m = 7
  · subst h7; simp [F_ref27Enough, ↓bind_andk, andk_some, ↓jn_outk, outk_nrm, outk_ext, outk_ret, ↓cnd_b, ret_r, nilc_r, fa_r, ldOne_r, ldA_r, stOne_r, stA_r, rdk_r, rdkA_r, wrk_r, wrkA_r, alc_r, lenS_r, lenT_r, cvi_r, pick_r, not_r, mx_r, mn_r, ixa_r, ixaA_r, bld_r, add_r, sub_r, mul_r, quo_r, rem_r, eql_r, neq_r, lss_r, leq_r, gtr_r, geq_r, eqb_r, neb_r, eqp_r, nep_r, ↓gv_r, gvn_r, ↓g_r, gn_r, Bool.not_true, Bool.not_false, Bool.false_eq_true, Bool.true_eq_false, reduceIte, List.tail_cons, List.headD_cons, decide_true, decide_false, cond_true, cond_false, Nat.beq_refl, c0_r, c1_r, c2_r, c3_r, c4_r, c5_r, c6_r, c7_r, c8_r, c9_r, c10_r, c11_r, c12_r, xk_hit, List.replicate, extr_p0, extr_p1, extr_q0, extr_q1, extr_q2, fa_z, adds_v, lenT_v, retR, w64]
  · simp [F_ref27Enough, ↓bind_andk, andk_some, ↓jn_outk, outk_nrm, outk_ext, outk_ret, ↓cnd_b, ret_r, nilc_r, fa_r, ldOne_r, ldA_r, stOne_r, stA_r, rdk_r, rdkA_r, wrk_r, wrkA_r, alc_r, lenS_r, lenT_r, cvi_r, pick_r, not_r, mx_r, mn_r, ixa_r, ixaA_r, bld_r, add_r, sub_r, mul_r, quo_r, rem_r, eql_r, neq_r, lss_r, leq_r, gtr_r, geq_r, eqb_r, neb_r, eqp_r, nep_r, ↓gv_r, gvn_r, ↓g_r, gn_r, Bool.not_true, Bool.not_false, Bool.false_eq_true, Bool.true_eq_false, reduceIte, List.tail_cons, List.headD_cons, decide_true, decide_false, cond_true, cond_false, Nat.beq_refl, c0_r, c1_r, c2_r, c3_r, c4_r, c5_r, c6_r, c7_r, c8_r, c9_r, c10_r, c11_r, c12_r, xk_hit, List.replicate, extr_p0, extr_p1, extr_q0, extr_q1, extr_q2, fa_z, adds_v, lenT_v, retR, h3, h5, h7]

theorem enough_cases {m : Int} (h : enough m ≠ 0) : (m = 3 ∧ enough m = 2) ∨ (m = 5 ∧ enough m = 3) ∨ (m = 7 ∧ enough m = 4) := by
  unfold enough at h ⊢
  by_cases h3 : m = 3
  · exact .inl ⟨h3, by rw [if_pos h3]⟩
  by_cases h5 : m = 5
  · exact .inr (.inl ⟨h5, by rw [if_neg h3, if_pos h5]⟩)
  by_cases h7 : m = 7
  · exact .inr (.inr ⟨h7, by rw [if_neg h3, if_neg h5, if_pos h7]⟩)
  · exact absurd (by rw [if_neg h3, if_neg h5, if_neg h7]) h

theorem r_newMarks {k : Nat} (hk : enough k ≠ 0) : ∃ H' own, R (n + 2) n_quorumNewMarks [iv k] H = some (pt (H.length + 1), H') ∧ Mk H' (H.length + 1) (List.replicate k 0) own ∧ HLe H H' ∧ ∀ j ∈ own, H.length ≤ j := by
  have hk12 : k ≤ 12 := by have := enough_cases hk; omega
  have e1 := r_enough (n := n) (k : Int) (H := H)
  have hz : ¬ ((enough k : Int) = 0) := by omega
  have e2 := mks_1 (k := k) (b := 8) (z := uv 0) (H := H) rfl (by omega) (by omega)
  generalize hH1 : H ++ [AObj.cells (List.replicate k (uv 0)) 1 false false] = H1 at e2
  have le1 : HLe H H1 := by rw [← hH1]; exact .app _ _
  have l1 : H1.length = H.length + 1 := by rw [← hH1]; simp
  have c1 : H1[H.length]? = some (.cells (List.replicate k (uv 0)) 1 false false) := by rw [← hH1]; exact app_new
  refine ⟨H1 ++ [.cells [.slice (some ⟨H.length, 0, none⟩) k k] 1 false false], [H.length + 1, H.length], ?_, ⟨⟨.slice (some ⟨H.length, 0, none⟩) k k, [H.length], ?_, ?_, rfl, by simp⟩⟩, le1.trans (.app _ _), by simp⟩
  · rw [R, run_quorumNewMarks rfl]
    unfold F_quorumNewMarks
    have e1 : run Try.prog np lvs (n + 1) n_quorumEnough [iv k] H = some (iv (enough k), H) := e1
    rw [bind_eq e1, bind_eq eql_r, cnd_b, if_neg (by simpa using hz)]
    have e2 : mks 1 8 (.int .u64 0) (iv k) (iv k) H = _ := e2
    rw [bind_eq e2]
    simp [↓bind_andk, andk_some, ↓jn_outk, outk_nrm, outk_ext, outk_ret, ↓cnd_b, ret_r, nilc_r, fa_r, ldOne_r, ldA_r, stOne_r, stA_r, rdk_r, rdkA_r, wrk_r, wrkA_r, alc_r, lenS_r, lenT_r, cvi_r, pick_r, not_r, mx_r, mn_r, ixa_r, ixaA_r, bld_r, add_r, sub_r, mul_r, quo_r, rem_r, eql_r, neq_r, lss_r, leq_r, gtr_r, geq_r, eqb_r, neb_r, eqp_r, nep_r, ↓gv_r, gvn_r, ↓g_r, gn_r, Bool.not_true, Bool.not_false, Bool.false_eq_true, Bool.true_eq_false, reduceIte, List.tail_cons, List.headD_cons, decide_true, decide_false, cond_true, cond_false, Nat.beq_refl, c0_r, c1_r, c2_r, c3_r, c4_r, c5_r, c6_r, c7_r, c8_r, c9_r, c10_r, c11_r, c12_r, xk_hit, List.replicate, extr_p0, extr_p1, extr_q0, extr_q1, extr_q2, fa_z, adds_v, lenT_v, retR, bldC, Value.cells, isTup, splice, oneCell, l1]
  · rw [← l1]; exact app_new
  · rw [List.map_replicate]
    exact RowS.new (app_get c1)

theorem r_note (h : Mk H id us own) (hl : us.length ≤ 12) {node op : Nat} (hnode : node ≤ 255) : ∃ H', R (n + 1) n_quorumMarksNote [pt id, .int .u8 node, uv op] H = some (.bool (noteB us node op), H') ∧ Mk H' id (noteL us node op) own ∧ Step own H own H' := by
  obtain ⟨sl, q, h1, h2, rfl, h3⟩ := h.ex
  have e1 : ld1 (pt id) H = some (sl, H) := ld1_at h1 rfl
  have e2 := h2.rd.len (H' := H)
  rw [List.length_map] at e2
  have hw : IntKind.i64.wrap (node : Int) = node := w64 (by omega) (by omega)
  rw [R, run_quorumMarksNote rfl]
  unfold noteB noteL
  by_cases hn : node < us.length
  · have hge : ¬ ((node : Int) ≥ us.length) := by omega
    have hg : (us.map uv)[node]? = some (uv (us.getD node 0)) := by
      rw [List.getElem?_map, List.getElem?_eq_getElem hn]; simp [List.getD_eq_getElem?_getD, List.getElem?_eq_getElem hn]
    have x1 := fun H' => h2.ix (i := node) (by simpa using hn) .u8 H'
    have g1 := h2.ldx hg
    generalize us.getD node 0 = m at g1
    by_cases ho : m < op
    · have hle : ¬ (op ≤ m) := by omega
      obtain ⟨H1, s1, r1, t1, l1⟩ := h2.stx (i := node) (u := uv op) (by simpa using hn) rfl
      have hid : H1[id]? = some (.cells [sl] 1 false false) := t1.get h1 h3
      refine ⟨H1, ?_, ⟨⟨sl, q, hid, ?_, rfl, h3⟩⟩, t1.more (by simp; exact fun j hj => .inr hj) fun j hj => .inl hj⟩
      · unfold F_quorumMarksNote
        simp [↓bind_andk, andk_some, ↓jn_outk, outk_nrm, outk_ext, outk_ret, ↓cnd_b, ret_r, nilc_r, fa_r, ldOne_r, ldA_r, stOne_r, stA_r, rdk_r, rdkA_r, wrk_r, wrkA_r, alc_r, lenS_r, lenT_r, cvi_r, pick_r, not_r, mx_r, mn_r, ixa_r, ixaA_r, bld_r, add_r, sub_r, mul_r, quo_r, rem_r, eql_r, neq_r, lss_r, leq_r, gtr_r, geq_r, eqb_r, neb_r, eqp_r, nep_r, ↓gv_r, gvn_r, ↓g_r, gn_r, Bool.not_true, Bool.not_false, Bool.false_eq_true, Bool.true_eq_false, reduceIte, List.tail_cons, List.headD_cons, decide_true, decide_false, cond_true, cond_false, Nat.beq_refl, c0_r, c1_r, c2_r, c3_r, c4_r, c5_r, c6_r, c7_r, c8_r, c9_r, c10_r, c11_r, c12_r, xk_hit, List.replicate, extr_p0, extr_p1, extr_q0, extr_q1, extr_q2, fa_z, adds_v, lenT_v, retR, e1, e2, hw, hge, x1, g1, hle, s1, hn, ho, ↓e1]
      · rw [if_pos ⟨hn, ho⟩, List.map_set]; exact r1
    · have hle : op ≤ m := by omega
      refine ⟨H, ?_, by rw [if_neg (by omega)]; exact h, .refl _ _⟩
      unfold F_quorumMarksNote
      simp [↓bind_andk, andk_some, ↓jn_outk, outk_nrm, outk_ext, outk_ret, ↓cnd_b, ret_r, nilc_r, fa_r, ldOne_r, ldA_r, stOne_r, stA_r, rdk_r, rdkA_r, wrk_r, wrkA_r, alc_r, lenS_r, lenT_r, cvi_r, pick_r, not_r, mx_r, mn_r, ixa_r, ixaA_r, bld_r, add_r, sub_r, mul_r, quo_r, rem_r, eql_r, neq_r, lss_r, leq_r, gtr_r, geq_r, eqb_r, neb_r, eqp_r, nep_r, ↓gv_r, gvn_r, ↓g_r, gn_r, Bool.not_true, Bool.not_false, Bool.false_eq_true, Bool.true_eq_false, reduceIte, List.tail_cons, List.headD_cons, decide_true, decide_false, cond_true, cond_false, Nat.beq_refl, c0_r, c1_r, c2_r, c3_r, c4_r, c5_r, c6_r, c7_r, c8_r, c9_r, c10_r, c11_r, c12_r, xk_hit, List.replicate, extr_p0, extr_p1, extr_q0, extr_q1, extr_q2, fa_z, adds_v, lenT_v, retR, e1, e2, hw, hge, x1, g1, hle, hn, ho, ↓e1]
  · have hge : us.length ≤ node := by omega
    refine ⟨H, ?_, by rw [if_neg (by omega)]; exact h, .refl _ _⟩
    unfold F_quorumMarksNote
    simp [↓bind_andk, andk_some, ↓jn_outk, outk_nrm, outk_ext, outk_ret, ↓cnd_b, ret_r, nilc_r, fa_r, ldOne_r, ldA_r, stOne_r, stA_r, rdk_r, rdkA_r, wrk_r, wrkA_r, alc_r, lenS_r, lenT_r, cvi_r, pick_r, not_r, mx_r, mn_r, ixa_r, ixaA_r, bld_r, add_r, sub_r, mul_r, quo_r, rem_r, eql_r, neq_r, lss_r, leq_r, gtr_r, geq_r, eqb_r, neb_r, eqp_r, nep_r, ↓gv_r, gvn_r, ↓g_r, gn_r, Bool.not_true, Bool.not_false, Bool.false_eq_true, Bool.true_eq_false, reduceIte, List.tail_cons, List.headD_cons, decide_true, decide_false, cond_true, cond_false, Nat.beq_refl, c0_r, c1_r, c2_r, c3_r, c4_r, c5_r, c6_r, c7_r, c8_r, c9_r, c10_r, c11_r, c12_r, xk_hit, List.replicate, extr_p0, extr_p1, extr_q0, extr_q1, extr_q2, fa_z, adds_v, lenT_v, retR, e1, e2, hw, hge, hn]

theorem r_of (h : Mk H id us own) (hl : us.length ≤ 12) {node : Nat} (hnode : node ≤ 255) : R (n + 1) n_quorumMarksOf [pt id, .int .u8 node] H = some (uv (us.getD node 0), H) := by
  obtain ⟨sl, q, h1, h2, rfl, h3⟩ := h.ex
  have e1 : ld1 (pt id) H = some (sl, H) := ld1_at h1 rfl
  have e2 := h2.rd.len (H' := H)
  rw [List.length_map] at e2
  have hw : IntKind.i64.wrap (node : Int) = node := w64 (by omega) (by omega)
  rw [R, run_quorumMarksOf rfl]
  by_cases hn : node < us.length
  · have hge : ¬ us.length ≤ node := by omega
    have hg : (us.map uv)[node]? = some (uv (us.getD node 0)) := by
      rw [List.getElem?_map, List.getElem?_eq_getElem hn]; simp [List.getD_eq_getElem?_getD, List.getElem?_eq_getElem hn]
    have x1 := fun H' => h2.ix (i := node) (by simpa using hn) .u8 H'
    have g1 := h2.ldx hg
    generalize us.getD node 0 = m at g1 ⊢
    unfold F_quorumMarksOf
    simp [↓bind_andk, andk_some, ↓jn_outk, outk_nrm, outk_ext, outk_ret, ↓cnd_b, ret_r, nilc_r, fa_r, ldOne_r, ldA_r, stOne_r, stA_r, rdk_r, rdkA_r, wrk_r, wrkA_r, alc_r, lenS_r, lenT_r, cvi_r, pick_r, not_r, mx_r, mn_r, ixa_r, ixaA_r, bld_r, add_r, sub_r, mul_r, quo_r, rem_r, eql_r, neq_r, lss_r, leq_r, gtr_r, geq_r, eqb_r, neb_r, eqp_r, nep_r, ↓gv_r, gvn_r, ↓g_r, gn_r, Bool.not_true, Bool.not_false, Bool.false_eq_true, Bool.true_eq_false, reduceIte, List.tail_cons, List.headD_cons, decide_true, decide_false, cond_true, cond_false, Nat.beq_refl, c0_r, c1_r, c2_r, c3_r, c4_r, c5_r, c6_r, c7_r, c8_r, c9_r, c10_r, c11_r, c12_r, xk_hit, List.replicate, extr_p0, extr_p1, extr_q0, extr_q1, extr_q2, fa_z, adds_v, lenT_v, retR, e1, e2, hw, hge, x1, g1, ↓e1]
  · have hge : us.length ≤ node := by omega
    have hz : us.getD node 0 = 0 := by simp [List.getD_eq_getElem?_getD, List.getElem?_eq_none hge]
    unfold F_quorumMarksOf
    simp [↓bind_andk, andk_some, ↓jn_outk, outk_nrm, outk_ext, outk_ret, ↓cnd_b, ret_r, nilc_r, fa_r, ldOne_r, ldA_r, stOne_r, stA_r, rdk_r, rdkA_r, wrk_r, wrkA_r, alc_r, lenS_r, lenT_r, cvi_r, pick_r, not_r, mx_r, mn_r, ixa_r, ixaA_r, bld_r, add_r, sub_r, mul_r, quo_r, rem_r, eql_r, neq_r, lss_r, leq_r, gtr_r, geq_r, eqb_r, neb_r, eqp_r, nep_r, ↓gv_r, gvn_r, ↓g_r, gn_r, Bool.not_true, Bool.not_false, Bool.false_eq_true, Bool.true_eq_false, reduceIte, List.tail_cons, List.headD_cons, decide_true, decide_false, cond_true, cond_false, Nat.beq_refl, c0_r, c1_r, c2_r, c3_r, c4_r, c5_r, c6_r, c7_r, c8_r, c9_r, c10_r, c11_r, c12_r, xk_hit, List.replicate, extr_p0, extr_p1, extr_q0, extr_q1, extr_q2, fa_z, adds_v, lenT_v, retR, e1, e2, hw, hge, hz]

theorem r_clear (h : Mk H id us own) : ∃ H', R (n + 1) n_quorumMarksClear [pt id] H = some (.tuple #[], H') ∧ Mk H' id (List.replicate us.length 0) own ∧ Step own H own H' := by
  obtain ⟨sl, q, h1, h2, rfl, h3⟩ := h.ex
  have e1 : ld1 (pt id) H = some (sl, H) := ld1_at h1 rfl
  have hc : ∃ H', clr (.int .u64 0) 1 sl H = some (.tuple #[], H') ∧ RowS H' sl (List.replicate us.length (uv 0)) q ∧ Step q H q H' := by
    rcases h2 with ⟨a1, a2, a3⟩ | ⟨sid, rest, g, a1, a2, a3⟩
    · have : us = [] := by simpa using a1
      subst this
      exact ⟨H, by rw [a3]; rfl, .inl ⟨rfl, a2, a3⟩, .refl _ _⟩
    · have hl : (us.map uv).length = us.length := List.length_map _
      rw [hl] at a1
      have hsp : splice (us.map uv ++ rest) (reps us.length (Value.int .u64 0).cells.toList) 0 = List.replicate us.length (uv 0) ++ rest := by
        have hr : ∀ m, reps m (Value.int .u64 0).cells.toList = List.replicate m (uv 0) := fun m => by
          induction m with
          | zero => rfl
          | succ m ih =>
            unfold reps at ih ⊢
            rw [List.replicate_succ, List.flatten_cons, ih]; rfl
        rw [hr]
        unfold splice
        simp
      by_cases hz : us.length = 0
      · have : us = [] := List.eq_nil_of_length_eq_zero hz
        subst this
        exact ⟨H, by rw [a1]; rfl, .inr ⟨sid, rest, g, by simpa using a1, a2, by simpa using a3⟩, .refl _ _⟩
      · refine ⟨H.set sid (.cells (List.replicate us.length (uv 0) ++ rest) 1 g false), ?_, .inr ⟨sid, rest, g, by rw [a1, List.length_replicate], a2, set_get a3⟩, ⟨by simp, fun j hj hn => ?_, fun j hj => .inl hj⟩⟩
        · rw [a1]
          unfold clr
          simp only [hz, if_false, a3]
          rw [if_pos (by simp), hsp]
        · rw [List.getElem?_set_ne (fun e => hn (by rw [a2, e]; simp))]
  obtain ⟨H', e2, r2, t2⟩ := hc
  refine ⟨H', ?_, ⟨sl, q, t2.get h1 h3, by rw [List.map_replicate]; exact r2, rfl, h3⟩, t2.more (by simp; exact fun j hj => .inr hj) fun j hj => .inl hj⟩
  rw [R, run_quorumMarksClear rfl]
  unfold F_quorumMarksClear
  simp [↓bind_andk, andk_some, ↓jn_outk, outk_nrm, outk_ext, outk_ret, ↓cnd_b, ret_r, nilc_r, fa_r, ldOne_r, ldA_r, stOne_r, stA_r, rdk_r, rdkA_r, wrk_r, wrkA_r, alc_r, lenS_r, lenT_r, cvi_r, pick_r, not_r, mx_r, mn_r, ixa_r, ixaA_r, bld_r, add_r, sub_r, mul_r, quo_r, rem_r, eql_r, neq_r, lss_r, leq_r, gtr_r, geq_r, eqb_r, neb_r, eqp_r, nep_r, ↓gv_r, gvn_r, ↓g_r, gn_r, Bool.not_true, Bool.not_false, Bool.false_eq_true, Bool.true_eq_false, reduceIte, List.tail_cons, List.headD_cons, decide_true, decide_false, cond_true, cond_false, Nat.beq_refl, c0_r, c1_r, c2_r, c3_r, c4_r, c5_r, c6_r, c7_r, c8_r, c9_r, c10_r, c11_r, c12_r, xk_hit, List.replicate, extr_p0, extr_p1, extr_q0, extr_q1, extr_q2, fa_z, adds_v, lenT_v, retR, e1, e2]

def reachedL (us : List Nat) : Nat := (isort ltN us).getD (us.length - enough us.length) 0

theorem r_reached (h : Mk H id us own) (he : enough us.length ≠ 0) : ∃ H', R (n + 8) n_quorumMarksReached [pt id] H = some (uv (reachedL us), H') ∧ HLe H H' := by
  obtain ⟨sl, q, h1, h2, rfl, h3⟩ := h.ex
  have hec := enough_cases he
  have e1 : ld1 (pt id) H = some (sl, H) := ld1_at h1 rfl
  have e2 : alc 1 sl H = some (pt H.length, H ++ [.cells [sl] 1 false false]) := alc_1 h2.one.1 h2.one.2
  generalize hH1 : H ++ [AObj.cells [sl] 1 false false] = H1 at e2
  have le1 : HLe H H1 := by rw [← hH1]; exact .app _ _
  have c1 : H1[H.length]? = some (.cells [sl] 1 false false) := by rw [← hH1]; exact app_new
  obtain ⟨v, q', H2, e3, r3, le2, o2⟩ := r_sorted (n := n) (h2.rd.mono le1) c1 (by omega)
  have e4 := r3.rd.len (H' := H2)
  rw [List.length_map, isort_len ltN_ok] at e4
  have e5 := r_enough (n := n + 6) (us.length : Int) (H := H2)
  have hw : IntKind.i64.wrap ((us.length : Int) - enough us.length) = ((us.length - enough us.length : Nat) : Int) := by rw [w64 (by omega) (by omega)]; omega
  have hlt : us.length - enough us.length < (isort ltN us).length := by rw [isort_len ltN_ok]; omega
  have hg : ((isort ltN us).map uv)[us.length - enough us.length]? = some (uv (reachedL us)) := by
    unfold reachedL
    rw [List.getElem?_map, List.getElem?_eq_getElem hlt]; simp [List.getD_eq_getElem?_getD, List.getElem?_eq_getElem hlt]
  have x1 := r3.ix (i := us.length - enough us.length) (by simpa using hlt) .i64 H2
  have g1 := r3.ldx hg
  refine ⟨H2, ?_, le1.trans le2⟩
  rw [R, run_quorumMarksReached rfl]
  unfold F_quorumMarksReached
  have e6 : run Try.prog np lvs (n + 7) n_slicesValuesuint64Uint64 [sl] H = some (.func (.func n_slicesValuesuint64Uint641) #[] #[pt H.length], H1) := by
    rw [run_slicesValuesuint64Uint64 rfl]
    unfold F_slicesValuesuint64Uint64
    rw [bind_eq e2]
    rfl
  have e3 : run Try.prog np lvs (n + 7) n_slicesSortedUint64 [.func (.func n_slicesValuesuint64Uint641) #[] #[pt H.length]] H1 = some (v, H2) := e3
  have e5 : run Try.prog np lvs (n + 7) n_quorumEnough [iv us.length] H2 = some (iv (enough us.length), H2) := e5
  rw [bind_eq nilc_r, bind_eq fa_z, bind_eq e1, bind_eq e6, bind_eq e3, bind_eq e4, bind_eq e4, bind_eq e5, bind_eq sub_r, hw, bind_eq x1, bind_eq g1]
  rfl

theorem r_lives (H : Heap) : ∃ H', R (n + 9) n_law27Lives [] H = some (.bool true, H') ∧ HLe H H' := by
  obtain ⟨H1, own, e1, m1, le1, o1⟩ := r_newMarks (n := n + 6) (k := 3) (H := H) (by decide)
  obtain ⟨H2, e2, m2, t2⟩ := r_note (n := n + 7) m1 (by simp) (node := 0) (op := 5) (by omega)
  obtain ⟨H3, e3, m3, t3⟩ := r_note (n := n + 7) m2 (by decide) (node := 1) (op := 2) (by omega)
  obtain ⟨H4, e4, le4⟩ := r_reached (n := n) m3 (by decide)
  have q1 : noteB (List.replicate 3 0) 0 5 = true := by decide
  have q2 : noteB (noteL (List.replicate 3 0) 0 5) 1 2 = true := by decide
  have q3 : reachedL (noteL (noteL (List.replicate 3 0) 0 5) 1 2) = 2 := by decide
  rw [q1] at e2
  rw [q2] at e3
  rw [q3] at e4
  refine ⟨H4, ?_, fun j o hj => le4 _ _ ((t2.trans t3).get (le1 _ _ hj) fun hm => by have := o1 j hm; have := get_lt hj; omega)⟩
  rw [R, run_law27Lives rfl]
  unfold F_law27Lives
  have e1 : run Try.prog np lvs (n + 8) n_quorumNewMarks [.int .i64 3] H = some (pt (H.length + 1), H1) := e1
  have e2 : run Try.prog np lvs (n + 8) n_quorumMarksNote [pt (H.length + 1), .int .u8 0, .int .u64 5] H1 = some (.bool true, H2) := e2
  have e3 : run Try.prog np lvs (n + 8) n_quorumMarksNote [pt (H.length + 1), .int .u8 1, .int .u64 2] H2 = some (.bool true, H3) := e3
  have e4 : run Try.prog np lvs (n + 8) n_quorumMarksReached [pt (H.length + 1)] H3 = some (.int .u64 2, H4) := e4
  simp [↓bind_andk, andk_some, ↓jn_outk, outk_nrm, outk_ext, outk_ret, ↓cnd_b, ret_r, nilc_r, fa_r, ldOne_r, ldA_r, stOne_r, stA_r, rdk_r, rdkA_r, wrk_r, wrkA_r, alc_r, lenS_r, lenT_r, cvi_r, pick_r, not_r, mx_r, mn_r, ixa_r, ixaA_r, bld_r, add_r, sub_r, mul_r, quo_r, rem_r, eql_r, neq_r, lss_r, leq_r, gtr_r, geq_r, eqb_r, neb_r, eqp_r, nep_r, ↓gv_r, gvn_r, ↓g_r, gn_r, Bool.not_true, Bool.not_false, Bool.false_eq_true, Bool.true_eq_false, reduceIte, List.tail_cons, List.headD_cons, decide_true, decide_false, cond_true, cond_false, Nat.beq_refl, c0_r, c1_r, c2_r, c3_r, c4_r, c5_r, c6_r, c7_r, c8_r, c9_r, c10_r, c11_r, c12_r, xk_hit, List.replicate, extr_p0, extr_p1, extr_q0, extr_q1, extr_q2, fa_z, adds_v, lenT_v, retR, e1, e2, e3, e4]

end

end Go.Proofs.Ytdmijlkknpolbaa.A
