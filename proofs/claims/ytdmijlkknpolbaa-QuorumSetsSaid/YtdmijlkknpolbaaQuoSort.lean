/- Numbers, sorted. -/
import Derived.Test.YtdmijlkknpolbaaFquo
import Derived.Test.YtdmijlkknpolbaaSrt
namespace Go.Proofs.Ytdmijlkknpolbaa.A
set_option linter.unusedVariables false
set_option linter.unusedSimpArgs false
open Go.Proofs Go.Proofs.Ytdmijlkknpolbaa

abbrev uv (n : Nat) : Value := .int .u64 n

section
variable {H : Heap} {n : Nat} {sl : Value} {own : List Nat}

theorem r_isNaN {a : Nat} : R (n + 1) n_cmpIsNaNUint64 [uv a] H = some (.bool false, H) := by
  rw [R, run_cmpIsNaNUint64 rfl]
  simp [F_cmpIsNaNUint64, ↓bind_andk, andk_some, ↓jn_outk, outk_nrm, outk_ext, outk_ret, ↓cnd_b, ret_r, nilc_r, fa_r, ldOne_r, ldA_r, stOne_r, stA_r, rdk_r, rdkA_r, wrk_r, wrkA_r, alc_r, lenS_r, lenT_r, cvi_r, pick_r, not_r, mx_r, mn_r, ixa_r, ixaA_r, bld_r, add_r, sub_r, mul_r, quo_r, rem_r, eql_r, neq_r, lss_r, leq_r, gtr_r, geq_r, eqb_r, neb_r, eqp_r, nep_r, ↓gv_r, gvn_r, ↓g_r, gn_r, Bool.not_true, Bool.not_false, Bool.false_eq_true, Bool.true_eq_false, reduceIte, List.tail_cons, List.headD_cons, decide_true, decide_false, cond_true, cond_false, Nat.beq_refl]

theorem r_less {a b : Nat} : R (n + 2) n_cmpLessUint64 [uv a, uv b] H = some (.bool (ltN a b), H) := by
  have e1 : ∀ a : Nat, run Try.prog np lvs (n + 1) n_cmpIsNaNUint64 [uv a] H = some (.bool false, H) := fun a => r_isNaN
  rw [R, run_cmpLessUint64 rfl]
  simp [F_cmpLessUint64, ↓bind_andk, andk_some, ↓jn_outk, outk_nrm, outk_ext, outk_ret, ↓cnd_b, ret_r, nilc_r, fa_r, ldOne_r, ldA_r, stOne_r, stA_r, rdk_r, rdkA_r, wrk_r, wrkA_r, alc_r, lenS_r, lenT_r, cvi_r, pick_r, not_r, mx_r, mn_r, ixa_r, ixaA_r, bld_r, add_r, sub_r, mul_r, quo_r, rem_r, eql_r, neq_r, lss_r, leq_r, gtr_r, geq_r, eqb_r, neb_r, eqp_r, nep_r, ↓gv_r, gvn_r, ↓g_r, gn_r, Bool.not_true, Bool.not_false, Bool.false_eq_true, Bool.true_eq_false, reduceIte, List.tail_cons, List.headD_cons, decide_true, decide_false, cond_true, cond_false, Nat.beq_refl, c0_r, c1_r, c2_r, c3_r, c4_r, c5_r, c6_r, c7_r, c8_r, c9_r, c10_r, c11_r, c12_r, xk_hit, List.replicate, extr_p0, extr_p1, extr_q0, extr_q1, extr_q2, fa_z, adds_v, lenT_v, retR, e1, ltN]

/-- One number sinks to its place. -/
theorem sink_do {s2 s6 : Value} {x : Nat} : ∀ (B D : List Nat) {H : Heap}, B.length ≤ 100000 → RowS H sl ((B.reverse ++ x :: D).map uv) own →
    ∃ H', loopM (c5 (F_slicesInsertionSortOrderedUint64.l2 (R (n + 2)))) [sl, iv 0, s2, s6, iv B.length] H = some (.ext 2 [sl, iv 0, s2, s6], H') ∧ RowS H' sl (((insR ltN x B).reverse ++ D).map uv) own ∧ Step own H own H'
  | [], D, H, hb, h => by
    refine ⟨H, loop_ext ?_, by simpa [insR] using h, .refl _ _⟩
    simp [F_slicesInsertionSortOrderedUint64.l2, ↓bind_andk, andk_some, ↓jn_outk, outk_nrm, outk_ext, outk_ret, ↓cnd_b, ret_r, nilc_r, fa_r, ldOne_r, ldA_r, stOne_r, stA_r, rdk_r, rdkA_r, wrk_r, wrkA_r, alc_r, lenS_r, lenT_r, cvi_r, pick_r, not_r, mx_r, mn_r, ixa_r, ixaA_r, bld_r, add_r, sub_r, mul_r, quo_r, rem_r, eql_r, neq_r, lss_r, leq_r, gtr_r, geq_r, eqb_r, neb_r, eqp_r, nep_r, ↓gv_r, gvn_r, ↓g_r, gn_r, Bool.not_true, Bool.not_false, Bool.false_eq_true, Bool.true_eq_false, reduceIte, List.tail_cons, List.headD_cons, decide_true, decide_false, cond_true, cond_false, Nat.beq_refl, c0_r, c1_r, c2_r, c3_r, c4_r, c5_r, c6_r, c7_r, c8_r, c9_r, c10_r, c11_r, c12_r, xk_hit, List.replicate, extr_p0, extr_p1, extr_q0, extr_q1, extr_q2, fa_z, adds_v, lenT_v, retR]
  | y :: B, D, H, hb, h => by
    have hl : B.length + 1 ≤ 100000 := hb
    have e0 : ((y :: B).reverse ++ x :: D) = B.reverse ++ y :: x :: D := by simp
    rw [e0] at h
    have hlen : ((B.reverse ++ y :: x :: D).map uv).length = B.length + (D.length + 2) := by simp
    have i1 : ((B.reverse ++ y :: x :: D).map uv)[B.length]? = some (uv y) := by simp
    have i2 : ((B.reverse ++ y :: x :: D).map uv)[B.length + 1]? = some (uv x) := by simp
    have x1 := fun H' => h.ix (i := B.length) (by omega) .i64 H'
    have x2 := fun H' => h.ix (i := B.length + 1) (by omega) .i64 H'
    have g1 := h.ldx i1
    have g2 := h.ldx i2
    have w1 := wpred (k := B.length + 1) (by omega) (by omega)
    rw [Nat.add_sub_cancel] at w1
    have e1 := fun H => r_less (n := n) (a := x) (b := y) (H := H)
    have hgt : ((B.length + 1 : Nat) : Int) > 0 := by omega
    cases hlt : ltN x y
    · refine ⟨H, loop_ext ?_, ?_, .refl _ _⟩
      · rw [c5_r]
        unfold F_slicesInsertionSortOrderedUint64.l2
        simp only [List.length_cons]
        rw [bind_eq gtr_r, decide_eq_true hgt]
        rw [b_gv_in, b_ret, b_gv_in, b_ret, b_gv_in, bind_eq (x2 _), b_gv_in, bind_eq g2, b_gv_in, b_ret, b_gv_in, b_ret, b_gv_in, bind_eq sub_r, w1, b_gv_in, bind_eq (x1 _), b_gv_in, bind_eq g1, b_gv_in, bind_eq (e1 _), hlt, bind_eq pick_r]
        rfl
      · unfold insR
        rw [hlt]
        simpa using h
    · obtain ⟨H1, s1, h1, t1, l1⟩ := h.stx (i := B.length + 1) (u := uv y) (by omega) rfl
      obtain ⟨H2, s2', h2, t2, l2⟩ := h1.stx (i := B.length) (u := uv x) (by rw [List.length_set]; omega) rfl
      have e3 : (((B.reverse ++ y :: x :: D).map uv).set (B.length + 1) (uv y)).set B.length (uv x) = (B.reverse ++ x :: (y :: D)).map uv := by
        simp [List.set_append]
      rw [e3] at h2
      obtain ⟨H3, e4, h3, t3⟩ := sink_do (s2 := s2) (s6 := s6) (x := x) B (y :: D) (by omega) h2
      refine ⟨H3, (loop_next (H' := H2) (vs' := [sl, iv 0, s2, s6, iv B.length]) ?_).trans e4, ?_, (t1.trans t2).trans t3⟩
      · rw [c5_r]
        unfold F_slicesInsertionSortOrderedUint64.l2
        simp only [List.length_cons]
        rw [bind_eq gtr_r, decide_eq_true hgt]
        rw [b_gv_in, b_ret, b_gv_in, b_ret, b_gv_in, bind_eq (x2 _), b_gv_in, bind_eq g2, b_gv_in, b_ret, b_gv_in, b_ret, b_gv_in, bind_eq sub_r, w1, b_gv_in, bind_eq (x1 _), b_gv_in, bind_eq g1, b_gv_in, bind_eq (e1 _), hlt, bind_eq pick_r]
        simp only [cond_true]
        rw [cnd_b, if_pos rfl, bind_eq sub_r, w1, bind_eq sub_r, w1, bind_eq (x1 _), bind_eq g1, bind_eq (x2 _), bind_eq g2, bind_eq (x2 _), bind_eq s1, bind_eq (x1 _), bind_eq s2', bind_eq sub_r, w1]
        rfl
      · have : insR ltN x (y :: B) = y :: insR ltN x B := by rw [insR, if_pos hlt]
        rw [this]
        simpa using h3

theorem sort_do : ∀ (rest acc : List Nat) {H : Heap}, acc.length + rest.length ≤ 100000 → RowS H sl ((acc.reverse ++ rest).map uv) own →
    ∃ H', loopM (c4 (F_slicesInsertionSortOrderedUint64.l1 (R (n + 2)))) [sl, iv 0, iv ((acc.length + rest.length : Nat) : Int), iv acc.length] H = some (.ext 0 [], H') ∧ RowS H' sl ((rest.foldl (fun acc x => insR ltN x acc) acc).reverse.map uv) own ∧ Step own H own H'
  | [], acc, H, hb, h => by
    refine ⟨H, loop_ext ?_, by simpa using h, .refl _ _⟩
    simp [F_slicesInsertionSortOrderedUint64.l1, ↓bind_andk, andk_some, ↓jn_outk, outk_nrm, outk_ext, outk_ret, ↓cnd_b, ret_r, nilc_r, fa_r, ldOne_r, ldA_r, stOne_r, stA_r, rdk_r, rdkA_r, wrk_r, wrkA_r, alc_r, lenS_r, lenT_r, cvi_r, pick_r, not_r, mx_r, mn_r, ixa_r, ixaA_r, bld_r, add_r, sub_r, mul_r, quo_r, rem_r, eql_r, neq_r, lss_r, leq_r, gtr_r, geq_r, eqb_r, neb_r, eqp_r, nep_r, ↓gv_r, gvn_r, ↓g_r, gn_r, Bool.not_true, Bool.not_false, Bool.false_eq_true, Bool.true_eq_false, reduceIte, List.tail_cons, List.headD_cons, decide_true, decide_false, cond_true, cond_false, Nat.beq_refl, c0_r, c1_r, c2_r, c3_r, c4_r, c5_r, c6_r, c7_r, c8_r, c9_r, c10_r, c11_r, c12_r, xk_hit, List.replicate, extr_p0, extr_p1, extr_q0, extr_q1, extr_q2, fa_z, adds_v, lenT_v, retR]
  | x :: rest, acc, H, hb, h => by
    simp only [List.length_cons] at hb ⊢
    obtain ⟨H1, e1, h1, t1⟩ := sink_do (n := n) (s2 := iv ((acc.length + (rest.length + 1) : Nat) : Int)) (s6 := iv acc.length) acc rest (by omega) h
    have hl := insR_len (lt := ltN) (x := x) (B := acc)
    obtain ⟨H2, e2, h2, t2⟩ := sort_do rest (insR ltN x acc) (H := H1) (by omega) h1
    rw [hl, show acc.length + 1 + rest.length = acc.length + (rest.length + 1) by omega] at e2
    have w1 := wsuc (k := acc.length) (by omega)
    have hlt : (acc.length : Int) < ((acc.length + (rest.length + 1) : Nat) : Int) := by omega
    refine ⟨H2, (loop_next (H' := H1) (vs' := [sl, iv 0, iv ((acc.length + (rest.length + 1) : Nat) : Int), iv ((acc.length + 1 : Nat) : Int)]) ?_).trans e2, h2, t1.trans t2⟩
    rw [c4_r]
    unfold F_slicesInsertionSortOrderedUint64.l1
    rw [bind_eq lss_r, cnd_b, if_pos (by simpa using hlt), jn_ext e1, xk_hit, c4_r, bind_eq add_r, w1]
    rfl

theorem r_insSort {us : List Nat} (hb : us.length ≤ 100000) (h : RowS H sl (us.map uv) own) : ∃ H', R (n + 3) n_slicesInsertionSortOrderedUint64 [sl, iv 0, iv us.length] H = some (.tuple #[], H') ∧ RowS H' sl ((isort ltN us).map uv) own ∧ Step own H own H' := by
  rw [R, run_slicesInsertionSortOrderedUint64 rfl]
  unfold F_slicesInsertionSortOrderedUint64
  cases us with
  | nil =>
    refine ⟨H, ?_, by simpa [isort, isortR] using h, .refl _ _⟩
    rw [bind_eq add_r]
    refine (jn_ext (loop_ext (j := 0) (vs' := []) (H' := H) ?_)).trans ?_
    · simp [F_slicesInsertionSortOrderedUint64.l1, ↓bind_andk, andk_some, ↓jn_outk, outk_nrm, outk_ext, outk_ret, ↓cnd_b, ret_r, nilc_r, fa_r, ldOne_r, ldA_r, stOne_r, stA_r, rdk_r, rdkA_r, wrk_r, wrkA_r, alc_r, lenS_r, lenT_r, cvi_r, pick_r, not_r, mx_r, mn_r, ixa_r, ixaA_r, bld_r, add_r, sub_r, mul_r, quo_r, rem_r, eql_r, neq_r, lss_r, leq_r, gtr_r, geq_r, eqb_r, neb_r, eqp_r, nep_r, ↓gv_r, gvn_r, ↓g_r, gn_r, Bool.not_true, Bool.not_false, Bool.false_eq_true, Bool.true_eq_false, reduceIte, List.tail_cons, List.headD_cons, decide_true, decide_false, cond_true, cond_false, Nat.beq_refl, c0_r, c1_r, c2_r, c3_r, c4_r, c5_r, c6_r, c7_r, c8_r, c9_r, c10_r, c11_r, c12_r, xk_hit, List.replicate, extr_p0, extr_p1, extr_q0, extr_q1, extr_q2, fa_z, adds_v, lenT_v, retR, w64]
    · rw [xk_hit]; rfl
  | cons x us =>
    obtain ⟨H', e, r, t⟩ := sort_do (n := n) us [x] (H := H) (sl := sl) (own := own) (by simp at hb ⊢; omega) (by simpa using h)
    refine ⟨H', ?_, by simpa [isort, isortR, insR] using r, t⟩
    have w1 : IntKind.i64.wrap (0 + 1) = ((1 : Nat) : Int) := by rw [w64 (by omega) (by omega)]; rfl
    rw [show [x].length + us.length = us.length + 1 by simp; omega, show [x].length = 1 from rfl] at e
    simp only [List.length_cons]
    rw [bind_eq add_r, w1, jn_ext e, xk_hit]
    rfl

theorem ixs_at {l : List UInt8} {i : Nat} {x : UInt8} (hi : l[i]? = some x) (q : IntKind) (H : Heap) : ixs (.string ⟨l.toArray⟩) (.int q i) H = some (.int .u8 x.toNat, H) := by
  have hlt : i < l.length := (List.getElem?_eq_some_iff.1 hi).1
  have hx : l[i] = x := (List.getElem?_eq_some_iff.1 hi).2
  have hs : i < (⟨l.toArray⟩ : ByteArray).size := by simpa [ByteArray.size] using hlt
  unfold ixs
  simp only [Int.toNat_natCast]
  rw [if_pos (by omega), getElem?_pos (⟨l.toArray⟩ : ByteArray) i hs]
  have : (⟨l.toArray⟩ : ByteArray)[i] = x := by rw [← hx]; rfl
  rw [this]

set_option maxRecDepth 100000 in
theorem r_bitsLen {a : Nat} (H : Heap) (ha : a < 256) : ∃ v, R (n + 2) n_mathBitsLen [uv a] H = some (v, H) := by
  have h1 : ¬ ((a : Int) ≥ 4294967296) := by omega
  have h2 : ¬ ((a : Int) ≥ 65536) := by omega
  have h3 : ¬ ((a : Int) ≥ 256) := by omega
  have w1 : IntKind.u8.wrap (a : Int) = a := by rw [wu8]; omega
  have e : ∃ v, R (n + 1) n_mathBitsLen64 [uv a] H = some (v, H) := by
    rw [R, run_mathBitsLen64 rfl]
    unfold F_mathBitsLen64
    generalize ht : (⟨#[0, 1, 2, 2, 3, 3, 3, 3, 4, 4, 4, 4, 4, 4, 4, 4, 5, 5, 5, 5, 5, 5, 5, 5, 5, 5, 5, 5, 5, 5, 5, 5, 6, 6, 6, 6, 6, 6, 6, 6, 6, 6, 6, 6, 6, 6, 6, 6, 6, 6, 6, 6, 6, 6, 6, 6, 6, 6, 6, 6, 6, 6, 6, 6, 7, 7, 7, 7, 7, 7, 7, 7, 7, 7, 7, 7, 7, 7, 7, 7, 7, 7, 7, 7, 7, 7, 7, 7, 7, 7, 7, 7, 7, 7, 7, 7, 7, 7, 7, 7, 7, 7, 7, 7, 7, 7, 7, 7, 7, 7, 7, 7, 7, 7, 7, 7, 7, 7, 7, 7, 7, 7, 7, 7, 7, 7, 7, 7, 8, 8, 8, 8, 8, 8, 8, 8, 8, 8, 8, 8, 8, 8, 8, 8, 8, 8, 8, 8, 8, 8, 8, 8, 8, 8, 8, 8, 8, 8, 8, 8, 8, 8, 8, 8, 8, 8, 8, 8, 8, 8, 8, 8, 8, 8, 8, 8, 8, 8, 8, 8, 8, 8, 8, 8, 8, 8, 8, 8, 8, 8, 8, 8, 8, 8, 8, 8, 8, 8, 8, 8, 8, 8, 8, 8, 8, 8, 8, 8, 8, 8, 8, 8, 8, 8, 8, 8, 8, 8, 8, 8, 8, 8, 8, 8, 8, 8, 8, 8, 8, 8, 8, 8, 8, 8, 8, 8, 8, 8, 8, 8, 8, 8, 8, 8, 8, 8, 8, 8, 8, 8, 8, 8, 8, 8, 8, 8]⟩ : ByteArray) = tab
    have hs : tab.size = 256 := by rw [← ht]; rfl
    have hi : ∃ b : UInt8, tab[a]? = some b := ⟨_, getElem?_pos tab a (by omega)⟩
    obtain ⟨b, hb⟩ := hi
    have hx : ixs (.string tab) (.int .u8 a) H = some (.int .u8 b.toNat, H) := by
      unfold ixs
      simp only [Int.toNat_natCast]
      rw [if_pos (by omega), hb]
    refine ⟨iv (IntKind.i64.wrap (0 + IntKind.i64.wrap b.toNat)), ?_⟩
    rw [bind_eq geq_r, decide_eq_false h1]
    refine (jn_nrm (vs := [uv a, iv 0]) (H' := H) (by rw [cnd_b, if_neg (by simp)]; rfl)).trans ?_
    rw [c2_r, bind_eq geq_r, decide_eq_false h2]
    refine (jn_nrm (vs := [uv a, iv 0]) (H' := H) (by rw [cnd_b, if_neg (by simp)]; rfl)).trans ?_
    rw [c2_r, bind_eq geq_r, decide_eq_false h3]
    refine (jn_nrm (vs := [uv a, iv 0]) (H' := H) (by rw [cnd_b, if_neg (by simp)]; rfl)).trans ?_
    rw [c2_r, bind_eq cvi_r, w1, bind_eq hx, bind_eq cvi_r, bind_eq add_r]
    rfl
  obtain ⟨v, e⟩ := e
  refine ⟨v, ?_⟩
  rw [R, run_mathBitsLen rfl]
  unfold F_mathBitsLen
  rw [cnd_b, if_neg (by simp), bind_eq e]
  rfl

theorem r_pdq {us : List Nat} {l : Value} (hb : us.length ≤ 12) (h : RowS H sl (us.map uv) own) : ∃ H', R (n + 4) n_slicesPdqsortOrderedUint64 [sl, iv 0, iv us.length, l] H = some (.tuple #[], H') ∧ RowS H' sl ((isort ltN us).map uv) own ∧ Step own H own H' := by
  obtain ⟨H', e, r, t⟩ := r_insSort (n := n) (by omega) h
  refine ⟨H', ?_, r, t⟩
  have w1 : IntKind.i64.wrap ((us.length : Int) - 0) = us.length := by rw [w64 (by omega) (by omega)]; omega
  have hle : (us.length : Int) ≤ 12 := by omega
  rw [R, run_slicesPdqsortOrderedUint64 rfl]
  unfold F_slicesPdqsortOrderedUint64
  refine (jn_ret (loop_ret (v := .tuple #[]) (H' := H') ?_)).trans rfl
  rw [c6_r]
  unfold F_slicesPdqsortOrderedUint64.l1
  refine jn_ret ?_
  rw [bind_eq sub_r, w1, bind_eq leq_r, cnd_b, if_pos (by simpa using hle), bind_eq e]
  rfl

theorem r_sort {us : List Nat} (hb : us.length ≤ 12) (h : RowS H sl (us.map uv) own) : ∃ H', R (n + 5) n_slicesSortuint64Uint64 [sl] H = some (.tuple #[], H') ∧ RowS H' sl ((isort ltN us).map uv) own ∧ Step own H own H' := by
  have w1 : IntKind.u64.wrap (us.length : Int) = us.length := by rw [wu64]; omega
  obtain ⟨v, e1⟩ := r_bitsLen (n := n + 2) (a := us.length) H (by omega)
  obtain ⟨H', e2, r, t⟩ := r_pdq (n := n) (l := v) hb h
  have e0 := h.rd.len (H' := H)
  rw [List.length_map] at e0
  refine ⟨H', ?_, r, t⟩
  rw [R, run_slicesSortuint64Uint64 rfl]
  unfold F_slicesSortuint64Uint64
  rw [bind_eq e0, bind_eq cvi_r, w1, bind_eq e1, bind_eq e2]
  rfl

/-! the row of what a slice has, by its iterator -/

/-- One round: the element is appended. -/
theorem app_round {L c : Nat} {s v : Value} {vs : List Value} {q : List Nat} (hL : H[L]? = some (F_slicesAppendSequint64Uint64.o1 (pt c) .ready none)) (hc : H[c]? = some (.cells [s] 1 false false)) (hcL : c ≠ L) (hr : RowS H s vs q) (hq : c ∉ q ∧ L ∉ q) (hv : oneCell v = true ∧ v.cells = #[v]) (hb : vs.length ≤ 100000) :
    ∃ H' s' q', R (n + 1) (yoff + L) [v] H = some (.bool true, H') ∧ H'[L]? = some (F_slicesAppendSequint64Uint64.o1 (pt c) .ready none) ∧ H'[c]? = some (.cells [s'] 1 false false) ∧ RowS H' s' (vs ++ [v]) q' ∧ Step (L :: c :: q) H (L :: c :: q') H' ∧ (c ∉ q' ∧ L ∉ q') := by
  have hLl := get_lt hL
  have hcl := get_lt hc
  generalize hH1 : H.set L (F_slicesAppendSequint64Uint64.o1 (pt c) .busy none) = H1
  have l1 : H1.length = H.length := by rw [← hH1]; simp
  have n1 : ∀ j, j ≠ L → H1[j]? = H[j]? := fun j hj => by rw [← hH1]; exact List.getElem?_set_ne (Ne.symm hj)
  have L1 : H1[L]? = some (F_slicesAppendSequint64Uint64.o1 (pt c) .busy none) := by rw [← hH1]; exact set_get hL
  have c1 := (n1 c hcL).trans hc
  have e1 : ld1 (pt c) H1 = some (s, H1) := ld1_at c1 rfl
  have e2 := bsl1 (es := 1) (z := .int .u64 0) (H := H1) rfl hv.2 hv.1
  generalize hH2 : H1 ++ [AObj.cells [v] 1 false false] = H2 at e2
  have le2 : HLe H1 H2 := by rw [← hH2]; exact .app _ _
  have l2 : H2.length = H.length + 1 := by rw [← hH2]; simp [l1]
  have hx : Sl H2 (.slice (some ⟨H1.length, 0, none⟩) 1 1) [v] := Sl.one (vs := [v]) (by rw [← hH2]; exact app_new)
  have hr2 : RowS H2 s vs q := (hr.keep fun j hj => n1 j (fun e => hq.2 (e ▸ hj))).step le2.step (by simp)
  obtain ⟨s', H3, q', e3, r3, t3, _⟩ := hr2.push (b := 8) hx (by omega) (by omega)
  have l3 := t3.len
  have qlt := hr.lt
  have cq : c ∉ q' := fun hm => by
    rcases t3.own c hm with h | h
    · exact hq.1 h
    · omega
  have Lq : L ∉ q' := fun hm => by
    rcases t3.own L hm with h | h
    · exact hq.2 h
    · omega
  have c3 := t3.get (le2 _ _ c1) hq.1
  have L3 := t3.get (le2 _ _ L1) hq.2
  have e4 : st1 (pt c) s' H3 = some (undef, _) := st1_at c3 (by simp) r3.one.1
  generalize hH4 : H3.set c (.cells ([s].set 0 s') 1 false false) = H4 at e4
  have n4 : ∀ j, j ≠ c → H4[j]? = H3[j]? := fun j hj => by rw [← hH4]; exact List.getElem?_set_ne (Ne.symm hj)
  have c4 : H4[c]? = some (.cells [s'] 1 false false) := by rw [← hH4]; exact set_get c3
  have L4 := (n4 L (Ne.symm hcL)).trans L3
  have hf := endR_at (j := none) L4
  generalize hH5 : H4.set L (F_slicesAppendSequint64Uint64.o1 (pt c) (if (none : Option Code).isNone then .ready else .done) none) = H5 at hf
  have n5 : ∀ j, j ≠ L → H5[j]? = H4[j]? := fun j hj => by rw [← hH5]; exact List.getElem?_set_ne (Ne.symm hj)
  refine ⟨H5, s', q', ?_, by rw [← hH5]; exact set_get L4, (n5 c hcL).trans c4, r3.keep fun j hj => ?_, ⟨?_, fun j hj hn => ?_, fun j hj => ?_⟩, cq, Lq⟩
  · rw [R, run_round, rd_slicesAppendSequint64Uint64_r1 hL]
    unfold F_slicesAppendSequint64Uint64.r1
    rw [begM_at hL, hH1, bind_eq e1, bind_eq e2, bind_eq e3, bind_eq e4, hf]
    rfl
  · rw [n5 j (fun e => Lq (e ▸ hj)), n4 j (fun e => cq (e ▸ hj))]
  · have : H5.length = H3.length := by rw [← hH5, ← hH4]; simp
    omega
  · simp only [List.mem_cons, not_or] at hn
    rw [n5 j hn.1, n4 j hn.2.1, t3.keep j (by omega) hn.2.2, le2.step.keep j (by omega) (by simp), n1 j hn.1]
  · simp only [List.mem_cons] at hj ⊢
    rcases hj with h | h | h
    · exact .inl (.inl h)
    · exact .inl (.inr (.inl h))
    · rcases t3.own j h with h | h
      · exact .inl (.inr (.inr h))
      · exact .inr (by omega)

theorem vals_do {L c : Nat} {x : Value} {ws : List Value} {H0 : Heap} (hx : Sl H0 x ws) (hw : ∀ v ∈ ws, oneCell v = true ∧ v.cells = #[v]) (hb : ws.length ≤ 100000) (hLl : H0.length ≤ L) (hcl : H0.length ≤ c) (hcL : c ≠ L) : ∀ (t k : Nat) {H : Heap} {s : Value} {q : List Nat}, ws.length - k = t → k ≤ ws.length → HLe H0 H → H[L]? = some (F_slicesAppendSequint64Uint64.o1 (pt c) .ready none) → H[c]? = some (.cells [s] 1 false false) → RowS H s (ws.take k) q → (c ∉ q ∧ L ∉ q) → (∀ j ∈ q, H0.length ≤ j) →
    ∃ H' s' q', loopM (c4 (F_slicesValuesuint64Uint641.l1 (R (n + 1)))) [.func (.yield L) #[] #[], x, iv ws.length, iv k] H = some (.ext 0 [], H') ∧ HLe H0 H' ∧ H'[L]? = some (F_slicesAppendSequint64Uint64.o1 (pt c) .ready none) ∧ H'[c]? = some (.cells [s'] 1 false false) ∧ RowS H' s' ws q' ∧ (c ∉ q' ∧ L ∉ q') ∧ ∀ j ∈ q', H0.length ≤ j
  | 0, k, H, s, q, ht, hk, hle, hL, hc, hr, hq, ho => by
    have : k = ws.length := by omega
    subst this
    refine ⟨H, s, q, loop_ext ?_, hle, hL, hc, by simpa using hr, hq, ho⟩
    simp [F_slicesValuesuint64Uint641.l1, ↓bind_andk, andk_some, ↓jn_outk, outk_nrm, outk_ext, outk_ret, ↓cnd_b, ret_r, nilc_r, fa_r, ldOne_r, ldA_r, stOne_r, stA_r, rdk_r, rdkA_r, wrk_r, wrkA_r, alc_r, lenS_r, lenT_r, cvi_r, pick_r, not_r, mx_r, mn_r, ixa_r, ixaA_r, bld_r, add_r, sub_r, mul_r, quo_r, rem_r, eql_r, neq_r, lss_r, leq_r, gtr_r, geq_r, eqb_r, neb_r, eqp_r, nep_r, ↓gv_r, gvn_r, ↓g_r, gn_r, Bool.not_true, Bool.not_false, Bool.false_eq_true, Bool.true_eq_false, reduceIte, List.tail_cons, List.headD_cons, decide_true, decide_false, cond_true, cond_false, Nat.beq_refl, c0_r, c1_r, c2_r, c3_r, c4_r, c5_r, c6_r, c7_r, c8_r, c9_r, c10_r, c11_r, c12_r, xk_hit, List.replicate, extr_p0, extr_p1, extr_q0, extr_q1, extr_q2, fa_z, adds_v, lenT_v, retR]
  | t + 1, k, H, s, q, ht, hk, hle, hL, hc, hr, hq, ho => by
    have hlt : (k : Int) < ws.length := by omega
    have hg := List.getElem?_eq_getElem (show k < ws.length by omega)
    have hm := List.getElem_mem (show k < ws.length by omega)
    have htk := List.take_add_one (l := ws) (i := k)
    rw [hg] at htk
    generalize ws[k] = v at hg hm htk
    have hx' := hx.mono hle
    obtain ⟨H1, s1, q1, e1, L1, c1, r1, t1, n1⟩ := app_round (n := n) hL hc hcL hr hq (hw v hm) (by simp; omega)
    have hle1 : HLe H0 H1 := fun j o hj => by
      have := get_lt hj
      refine t1.get (hle _ _ hj) fun hm => ?_
      simp only [List.mem_cons] at hm
      rcases hm with h | h | h
      · omega
      · omega
      · have := ho j h; omega
    obtain ⟨H2, s2, q2, e2, r2⟩ := vals_do hx hw hb hLl hcl hcL t (k + 1) (by omega) (by omega) hle1 L1 c1 (by rw [htk]; exact r1) n1 (fun j hj => by
      have : j ∈ L :: c :: q1 := by simp [hj]
      rcases t1.own j this with h | h
      · simp only [List.mem_cons] at h
        rcases h with rfl | rfl | h
        · exact hLl
        · exact hcl
        · exact ho j h
      · have := hle.len; omega)
    refine ⟨H2, s2, q2, (loop_next (H' := H1) (vs' := [.func (.yield L) #[] #[], x, iv ws.length, iv ((k + 1 : Nat) : Int)]) ?_).trans e2, r2⟩
    have e1' : callv (R (n + 1)) (.func (.yield L) #[] #[]) [v] H = some (.bool true, H1) := e1
    rw [c4_r]
    unfold F_slicesValuesuint64Uint641.l1
    rw [bind_eq lss_r, cnd_b, if_pos (by simpa using hlt), bind_eq (hx'.ix (by omega) .i64 H), bind_eq (hx'.ldx hg), bind_eq e1', bind_eq not_r, cnd_b, if_neg (by simp), bind_eq add_r, wsuc (by omega)]
    rfl

/-- The sorted row of what a slice has. -/
theorem r_sorted {x : Value} {us : List Nat} {c : Nat} (hx : Sl H x (us.map uv)) (hc : H[c]? = some (.cells [x] 1 false false)) (hb : us.length ≤ 12) :
    ∃ v q H', R (n + 7) n_slicesSortedUint64 [.func (.func n_slicesValuesuint64Uint641) #[] #[pt c]] H = some (v, H') ∧ RowS H' v ((isort ltN us).map uv) q ∧ HLe H H' ∧ ∀ j ∈ q, H.length ≤ j := by
  generalize hH1 : H ++ [AObj.cells [.slice none 0 0] 1 false false] = H1
  have e1 : alc 1 (.slice none 0 0) H = some (pt H.length, H1) := by rw [← hH1]; exact alc_1 rfl rfl
  have le1 : HLe H H1 := by rw [← hH1]; exact .app _ _
  have l1 : H1.length = H.length + 1 := by rw [← hH1]; simp
  have b1 : H1[H.length]? = some (.cells [.slice none 0 0] 1 false false) := by rw [← hH1]; exact app_new
  generalize hH2 : H1 ++ [F_slicesAppendSequint64Uint64.o1 (pt H.length) .ready none] = H2
  have le2 : HLe H1 H2 := by rw [← hH2]; exact .app _ _
  have L2 : H2[H1.length]? = some (F_slicesAppendSequint64Uint64.o1 (pt H.length) .ready none) := by rw [← hH2]; exact app_new
  have le12 := le1.trans le2
  obtain ⟨H3, s3, q3, e3, le3, L3, c3, r3, n3, o3⟩ := vals_do (n := n + 2) (L := H1.length) (c := H.length) hx (fun v hv => by obtain ⟨u, _, rfl⟩ := List.mem_map.1 hv; exact ⟨rfl, rfl⟩) (by simp; omega) (by omega) (Nat.le_refl _) (by omega) _ 0 rfl (by omega) le12 L2 (le2 _ _ b1) RowS.nil (by simp) (by simp)
  have e4 : R (n + 4) n_slicesValuesuint64Uint641 [.func (.yield H1.length) #[] #[], pt c] H2 = some (.tuple #[], H3) := by
    rw [R, run_slicesValuesuint64Uint641 rfl]
    unfold F_slicesValuesuint64Uint641
    rw [show ((0 : Nat) : Int) = 0 from rfl] at e3
    have f1 : ld1 (pt c) H2 = some (x, H2) := ld1_at (le12 _ _ hc) rfl
    rw [bind_eq f1, bind_eq (hx.len (H' := H2)), jn_ext e3, xk_hit]
    rfl
  generalize hH4 : H3.set H1.length (F_slicesAppendSequint64Uint64.o1 (pt H.length) .exhausted none) = H4
  have n4 : ∀ j, j ≠ H1.length → H4[j]? = H3[j]? := fun j hj => by rw [← hH4]; exact List.getElem?_set_ne (Ne.symm hj)
  have e5 : R (n + 5) n_slicesAppendSequint64Uint64 [.slice none 0 0, .func (.func n_slicesValuesuint64Uint641) #[] #[pt c]] H = some (s3, H4) := by
    have f1 : ld1 (pt H.length) H4 = some (s3, H4) := ld1_at ((n4 _ (by omega)).trans c3) rfl
    rw [R, run_slicesAppendSequint64Uint64 rfl]
    unfold F_slicesAppendSequint64Uint64
    rw [bind_eq e1]
    refine (rangeM_at (by rfl) (by kernel_rfl) (H1 := H3) (u := .tuple #[]) ?_).trans ?_
    · rw [hH2]; exact e4
    · refine (endLoopM_at L3 (by simp)).trans ?_
      rw [hH4]
      exact bind_eq f1
  have r4 : RowS H4 s3 (us.map uv) q3 := r3.keep fun j hj => n4 j (fun e => n3.2 (e ▸ hj))
  have le4 : HLe H H4 := fun j o hj => by
    have := get_lt hj
    rw [n4 j (by omega)]; exact le3 _ _ hj
  obtain ⟨H5, e6, r5, t5⟩ := r_sort (n := n + 1) hb r4
  have e7 : R (n + 6) n_slicesCollectUint64 [.func (.func n_slicesValuesuint64Uint641) #[] #[pt c]] H = some (s3, H4) := by
    rw [R, run_slicesCollectUint64 rfl]
    unfold F_slicesCollectUint64
    rw [bind_eq e5]
    rfl
  refine ⟨s3, q3, H5, ?_, r5, fun j o hj => ?_, o3⟩
  · rw [R, run_slicesSortedUint64 rfl]
    unfold F_slicesSortedUint64
    have e6 : run Try.prog np lvs (n + 6) n_slicesSortuint64Uint64 [s3] H4 = some (.tuple #[], H5) := e6
    rw [bind_eq e7, bind_eq e6]
    rfl
  · exact t5.get (le4 _ _ hj) fun hm => by have := o3 j hm; have := get_lt hj; omega

end

end Go.Proofs.Ytdmijlkknpolbaa.A
