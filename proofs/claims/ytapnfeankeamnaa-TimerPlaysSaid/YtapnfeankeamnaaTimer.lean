/- The timer: what its functions do; TimerEach. -/
import Derived.Test.YtapnfeankeamnaaA22
import Derived.Test.YtapnfeankeamnaaFtimer
namespace Go.Proofs.Ytapnfeankeamnaa.A
set_option linter.unusedVariables false
set_option linter.unusedSimpArgs false
open Go.Proofs Go.Proofs.Ytapnfeankeamnaa

abbrev iv (n : Int) : Value := .int .i64 n
abbrev pt (id : Nat) : Value := .pointer (some ⟨id, 0, none⟩)

/-- A timer. -/
def tmr (l c f : Int) : AObj := .cells [iv l, iv c, iv f] 1 false false

theorem New_is (Γ : Funs) (x : Int) (H : Heap) : F_timerNew Γ (iv x) H = some (pt H.length, H ++ [tmr (max 1 x) 0 0]) := by
  have : (if x > 1 then x else 1) = max 1 x := by omega
  simp [F_timerNew, bind, mxi, bld, bldC, isTup, Value.cells, splice, alc, newc, ret, oneCell, tmr, this]

theorem Tick_is (Γ : Funs) {id : Nat} {l c f : Int} {H : Heap} (h : H[id]? = some (tmr l c f)) (hc : 0 ≤ c ∧ c < 9223372036854775807) (hf : 0 ≤ f ∧ f < 9223372036854775807) :
    F_timerTimerTick Γ (pt id) H = if c + 1 < l then some (.bool false, H.set id (tmr l (c + 1) f)) else some (.bool true, H.set id (tmr l 0 (f + 1))) := by
  have hl := (List.getElem?_eq_some_iff.1 h).1
  have e1 : IntKind.i64.wrap (c + 1) = c + 1 := w64 (by omega) (by omega)
  have e2 : IntKind.i64.wrap (f + 1) = f + 1 := w64 (by omega) (by omega)
  unfold tmr at *
  simp [F_timerTimerTick, ↓bind_andk, andk_some, ↓jn_outk, outk_nrm, outk_ext, outk_ret, ↓cnd_b, ret_r, nilc_r, fa_r, ldOne_r, ldA_r, stOne_r, stA_r, rdk_r, rdkA_r, wrk_r, wrkA_r, alc_r, lenS_r, cvi_r, pick_r, not_r, mx_r, mn_r, ixa_r, extr_r, bld_r, add_r, sub_r, quo_r, rem_r, eql_r, neq_r, lss_r, leq_r, gtr_r, geq_r, eqb_r, neb_r, nep_r, ↓gv_r, gvn_r, ↓g_r, gn_r, h, oneCell, e1, e2, List.getElem?_set_self']

theorem Fired_is (Γ : Funs) {id : Nat} {l c f : Int} {H : Heap} (h : H[id]? = some (tmr l c f)) : F_timerTimerFired Γ (pt id) H = some (iv f, H) := by
  unfold tmr at h
  simp [F_timerTimerFired, bind, nilc, fa, ld1, h, ret]

theorem Left_is (Γ : Funs) {id : Nat} {l c f : Int} {H : Heap} (h : H[id]? = some (tmr l c f)) (hb : 0 ≤ l - c ∧ l - c ≤ 9223372036854775807) : F_timerTimerLeft Γ (pt id) H = some (iv (l - c), H) := by
  unfold tmr at h
  have e1 : IntKind.i64.wrap (l - c) = l - c := w64 (by omega) (by omega)
  simp [F_timerTimerLeft, bind, nilc, fa, ld1, h, ret, bop, iarith, e1]

theorem Reset_is (Γ : Funs) {id : Nat} {l c f : Int} {H : Heap} (h : H[id]? = some (tmr l c f)) : ∃ v, F_timerTimerReset Γ (pt id) H = some (v, H.set id (tmr l 0 f)) := by
  unfold tmr at *
  have hl := (List.getElem?_eq_some_iff.1 h).1
  simp [F_timerTimerReset, bind, nilc, fa, st1, h, ret, oneCell]

theorem Limit_is (Γ : Funs) {id : Nat} {l c f x : Int} {H : Heap} (h : H[id]? = some (tmr l c f)) : ∃ v, F_timerTimerLimit Γ (pt id) (iv x) H = some (v, H.set id (tmr (max 1 x) 0 f)) := by
  unfold tmr at *
  have hl := (List.getElem?_eq_some_iff.1 h).1
  have : (if x > 1 then x else 1) = max 1 x := by omega
  simp [F_timerTimerLimit, ↓bind_andk, andk_some, ↓jn_outk, outk_nrm, outk_ext, outk_ret, ↓cnd_b, ret_r, nilc_r, fa_r, ldOne_r, ldA_r, stOne_r, stA_r, rdk_r, rdkA_r, wrk_r, wrkA_r, alc_r, lenS_r, cvi_r, pick_r, not_r, mx_r, mn_r, ixa_r, extr_r, bld_r, add_r, sub_r, quo_r, rem_r, eql_r, neq_r, lss_r, leq_r, gtr_r, geq_r, eqb_r, neb_r, nep_r, ↓gv_r, gvn_r, ↓g_r, gn_r, h, oneCell, this, List.getElem?_set_self']



theorem r_new (n : Nat) (x : Int) (H : Heap) : R (n + 1) n_timerNew [iv x] H = some (pt H.length, H ++ [tmr (max 1 x) 0 0]) := by
  rw [R, run_timerNew rfl]; exact New_is _ _ _

/-- All objects but one are as they were. -/
def But (id : Nat) (H H' : Heap) : Prop := ∀ j, j ≠ id → H'[j]? = H[j]?
theorem But.set {id : Nat} {H : Heap} {o : AObj} : But id H (H.set id o) := fun j hj => List.getElem?_set_ne (Ne.symm hj)

theorem r_tick {n id : Nat} {l c f : Int} {H : Heap} (h : H[id]? = some (tmr l c f)) (hc : 0 ≤ c ∧ c < 9223372036854775807) (hf : 0 ≤ f ∧ f < 9223372036854775807) :
    ∃ H', R (n + 1) n_timerTimerTick [pt id] H = some (.bool (!decide (c + 1 < l)), H') ∧ H'[id]? = some (if c + 1 < l then tmr l (c + 1) f else tmr l 0 (f + 1)) ∧ But id H H' := by
  rw [R, run_timerTimerTick rfl, Tick_is _ h hc hf]
  by_cases hl : c + 1 < l
  · simp only [hl, if_true]
    exact ⟨_, rfl, set_get h, .set⟩
  · simp only [hl, if_false]
    exact ⟨_, rfl, set_get h, .set⟩
theorem r_fired {n id : Nat} {l c f : Int} {H : Heap} (h : H[id]? = some (tmr l c f)) : R (n + 1) n_timerTimerFired [pt id] H = some (iv f, H) := by
  rw [R, run_timerTimerFired rfl]; exact Fired_is _ h
theorem r_left {n id : Nat} {l c f : Int} {H : Heap} (h : H[id]? = some (tmr l c f)) (hb : 0 ≤ l - c ∧ l - c ≤ 9223372036854775807) : R (n + 1) n_timerTimerLeft [pt id] H = some (iv (l - c), H) := by
  rw [R, run_timerTimerLeft rfl]; exact Left_is _ h hb
theorem r_reset {n id : Nat} {l c f : Int} {H : Heap} (h : H[id]? = some (tmr l c f)) : ∃ v H', R (n + 1) n_timerTimerReset [pt id] H = some (v, H') ∧ H'[id]? = some (tmr l 0 f) ∧ But id H H' := by
  obtain ⟨v, e⟩ := Reset_is (R n) h
  exact ⟨v, _, by rw [R, run_timerTimerReset rfl]; exact e, set_get h, .set⟩
theorem r_limit {n id : Nat} {l c f x : Int} {H : Heap} (h : H[id]? = some (tmr l c f)) : ∃ v H', R (n + 1) n_timerTimerLimit [pt id, iv x] H = some (v, H') ∧ H'[id]? = some (tmr (max 1 x) 0 f) ∧ But id H H' := by
  obtain ⟨v, e⟩ := Limit_is (R n) (x := x) h
  exact ⟨v, _, by rw [R, run_timerTimerLimit rfl]; exact e, set_get h, .set⟩

theorem r_lives (n : Nat) (H : Heap) : ∃ H', R (n + 2) n_law28Lives [] H = some (.bool true, H') ∧ HLe H H' := by
  obtain ⟨H1, e1, g1, b1⟩ := r_tick (n := n) (H := H ++ [tmr 2 0 0]) (id := H.length) (l := 2) (c := 0) (f := 0) (by simp) (by omega) (by omega)
  obtain ⟨H2, e2, g2, b2⟩ := r_tick (n := n) (H := H1) (id := H.length) (l := 2) (c := 1) (f := 0) (by rw [g1]; rfl) (by omega) (by omega)
  obtain ⟨H3, e3, g3, b3⟩ := r_tick (n := n) (H := H2) (id := H.length) (l := 2) (c := 0) (f := 1) (by rw [g2]; rfl) (by omega) (by omega)
  refine ⟨H3, ?_, fun i o h => ?_⟩
  · have e0 : (max 1 2 : Int) = 2 := by decide
    have r0 := r_new n 2 H
    rw [e0] at r0
    rw [R, run_law28Lives rfl]
    simp [F_law28Lives, ↓bind_andk, andk_some, ↓jn_outk, outk_nrm, outk_ext, outk_ret, ↓cnd_b, ret_r, nilc_r, fa_r, ldOne_r, ldA_r, stOne_r, stA_r, rdk_r, rdkA_r, wrk_r, wrkA_r, alc_r, lenS_r, cvi_r, pick_r, not_r, mx_r, mn_r, ixa_r, extr_r, bld_r, add_r, sub_r, quo_r, rem_r, eql_r, neq_r, lss_r, leq_r, gtr_r, geq_r, eqb_r, neb_r, nep_r, ↓gv_r, gvn_r, ↓g_r, gn_r, r0, e1, e2, e3]
  · have hi := (List.getElem?_eq_some_iff.1 h).1
    rw [b3 i (by omega), b2 i (by omega), b1 i (by omega)]
    exact app_get h



theorem each_round {m a b : Nat} {n k i f cu : Int} {H : Heap} (ha : H[a]? = some (tmr n (i % n) (i / n))) (hb : H[b]? = some (tmr n cu 0)) (hab : a ≠ b)
    (hn : 1 ≤ n ∧ n ≤ 1000) (hi : 0 ≤ i ∧ i < k) (hk : k ≤ 1000) (hcu : 0 ≤ cu ∧ cu < n) :
    ∃ H' cu', F_law28TimerEach.l1 (R (m + 1)) (iv n) (pt a) (pt b) (iv k) (iv i) H = some (.nrm [iv n, pt a, pt b, iv k, iv (i + 1)], H') ∧
      H'[a]? = some (tmr n ((i + 1) % n) ((i + 1) / n)) ∧ H'[b]? = some (tmr n cu' 0) ∧ 0 ≤ cu' ∧ cu' < n := by
  have hm0 := Int.emod_nonneg i (show n ≠ 0 by omega)
  have hm1 := Int.emod_lt_of_pos i (show 0 < n by omega)
  have hd0 : 0 ≤ i / n := Int.ediv_nonneg hi.1 (by omega)
  have hd1 : i / n ≤ i := Int.ediv_le_self _ hi.1
  have hdm := Int.emod_add_mul_ediv i n
  have hw : IntKind.i64.wrap (i + 1) = i + 1 := w64 (by omega) (by omega)
  have htm : (i + 1).tmod n = (i + 1) % n := Int.tmod_eq_emod_of_nonneg (by omega)
  have htd : (i + 1).tdiv n = (i + 1) / n := Int.tdiv_eq_ediv_of_nonneg (by omega)
  have hstep : (i % n + 1 < n → (i + 1) % n = i % n + 1 ∧ (i + 1) / n = i / n) ∧ (¬ i % n + 1 < n → (i + 1) % n = 0 ∧ (i + 1) / n = i / n + 1) := by
    have e : i + 1 = (i % n + 1) + n * (i / n) := by omega
    constructor
    · intro h
      rw [e, Int.add_mul_emod_self_left, Int.add_mul_ediv_left _ _ (by omega), Int.emod_eq_of_lt (by omega) h, Int.ediv_eq_zero_of_lt (by omega) h]
      omega
    · intro h
      have e2 : i % n + 1 = n := by omega
      rw [e, Int.add_mul_emod_self_left, Int.add_mul_ediv_left _ _ (by omega), e2, Int.emod_self, Int.ediv_self (by omega)]
      omega
  obtain ⟨H1, t1, g1, b1⟩ := r_tick (n := m) ha (by omega) (by omega)
  have g1' : H1[a]? = some (tmr n ((i + 1) % n) ((i + 1) / n)) := by
    rw [g1]
    split
    · rename_i h; rw [(hstep.1 h).1, (hstep.1 h).2]
    · rename_i h; rw [(hstep.2 h).1, (hstep.2 h).2]
  have hq : (!decide (i % n + 1 < n)) = ((i + 1) % n == 0) := by
    by_cases h : i % n + 1 < n
    · rw [(hstep.1 h).1]
      have : ¬ (i % n + 1 = 0) := by omega
      simp [h, this]
    · rw [(hstep.2 h).1]; simp [h]
  rw [hq] at t1
  have hb1 : H1[b]? = some (tmr n cu 0) := by rw [b1 b (Ne.symm hab)]; exact hb
  have t2 := r_fired (n := m) g1'
  have hw2 : IntKind.i64.wrap ((i + 1) / n) = (i + 1) / n := by
    have := Int.ediv_nonneg (show 0 ≤ i + 1 by omega) (show 0 ≤ n by omega)
    have := Int.ediv_le_self n (show 0 ≤ i + 1 by omega)
    exact w64 (by omega) (by omega)
  have hn0 : n ≠ 0 := by omega
  by_cases hn1 : n > 1
  · have t3 := r_left (n := m) hb1 (by omega)
    by_cases hl : n - cu = 1
    · obtain ⟨v, H2, t4, g2, b2⟩ := r_reset (n := m) hb1
      obtain ⟨H3, t5, g3, b3⟩ := r_tick (n := m) g2 (by omega) (by omega)
      have hlt : (0 : Int) + 1 < n := by omega
      rw [if_pos hlt] at g3
      simp only [hlt, decide_true, Bool.not_true] at t5
      refine ⟨H3, 1, ?_, ?_, g3, by omega, by omega⟩
      · simp [F_law28TimerEach.l1, ↓bind_andk, andk_some, ↓jn_outk, outk_nrm, outk_ext, outk_ret, ↓cnd_b, ret_r, nilc_r, fa_r, ldOne_r, ldA_r, stOne_r, stA_r, rdk_r, rdkA_r, wrk_r, wrkA_r, alc_r, lenS_r, cvi_r, pick_r, not_r, mx_r, mn_r, ixa_r, extr_r, bld_r, add_r, sub_r, quo_r, rem_r, eql_r, neq_r, lss_r, leq_r, gtr_r, geq_r, eqb_r, neb_r, nep_r, ↓gv_r, gvn_r, ↓g_r, gn_r, hi.2, hw, hw2, htm, htd, hn0, t1, t2, t3, t4, t5, hn1, hl]
      · rw [b3 a hab, b2 a hab]; exact g1'
    · obtain ⟨H3, t5, g3, b3⟩ := r_tick (n := m) hb1 (by omega) (by omega)
      have hlt : cu + 1 < n := by omega
      rw [if_pos hlt] at g3
      simp only [hlt, decide_true, Bool.not_true] at t5
      refine ⟨H3, cu + 1, ?_, ?_, g3, by omega, by omega⟩
      · simp [F_law28TimerEach.l1, ↓bind_andk, andk_some, ↓jn_outk, outk_nrm, outk_ext, outk_ret, ↓cnd_b, ret_r, nilc_r, fa_r, ldOne_r, ldA_r, stOne_r, stA_r, rdk_r, rdkA_r, wrk_r, wrkA_r, alc_r, lenS_r, cvi_r, pick_r, not_r, mx_r, mn_r, ixa_r, extr_r, bld_r, add_r, sub_r, quo_r, rem_r, eql_r, neq_r, lss_r, leq_r, gtr_r, geq_r, eqb_r, neb_r, nep_r, ↓gv_r, gvn_r, ↓g_r, gn_r, hi.2, hw, hw2, htm, htd, hn0, t1, t2, t3, t5, hn1, hl]
      · rw [b3 a hab]; exact g1'
  · refine ⟨H1, cu, ?_, g1', hb1, hcu.1, hcu.2⟩
    simp [F_law28TimerEach.l1, ↓bind_andk, andk_some, ↓jn_outk, outk_nrm, outk_ext, outk_ret, ↓cnd_b, ret_r, nilc_r, fa_r, ldOne_r, ldA_r, stOne_r, stA_r, rdk_r, rdkA_r, wrk_r, wrkA_r, alc_r, lenS_r, cvi_r, pick_r, not_r, mx_r, mn_r, ixa_r, extr_r, bld_r, add_r, sub_r, quo_r, rem_r, eql_r, neq_r, lss_r, leq_r, gtr_r, geq_r, eqb_r, neb_r, nep_r, ↓gv_r, gvn_r, ↓g_r, gn_r, hi.2, hw, hw2, htm, htd, hn0, t1, t2, hn1]

theorem each_loop {m a b : Nat} {n k : Int} (hab : a ≠ b) (hn : 1 ≤ n ∧ n ≤ 1000) (hk : k ≤ 1000) : ∀ (d : Nat) {i cu : Int} {H : Heap}, (k - i).toNat = d → H[a]? = some (tmr n (i % n) (i / n)) → H[b]? = some (tmr n cu 0) → 0 ≤ i → i ≤ k →
    0 ≤ cu → cu < n → ∃ H', loopM (fun vs => F_law28TimerEach.l1 (R (m + 1)) (vs.headD undef) (vs.tail.headD undef) (vs.tail.tail.headD undef) (vs.tail.tail.tail.headD undef) (vs.tail.tail.tail.tail.headD undef)) [iv n, pt a, pt b, iv k, iv i] H = some (.ext 0 [], H')
  | 0, i, cu, H, hd, ha, hb, h0, hik, hc0, hc1 => by
    have : ¬ i < k := by omega
    refine ⟨H, loop_ext ?_⟩
    simp [F_law28TimerEach.l1, ↓bind_andk, andk_some, ↓jn_outk, outk_nrm, outk_ext, outk_ret, ↓cnd_b, ret_r, nilc_r, fa_r, ldOne_r, ldA_r, stOne_r, stA_r, rdk_r, rdkA_r, wrk_r, wrkA_r, alc_r, lenS_r, cvi_r, pick_r, not_r, mx_r, mn_r, ixa_r, extr_r, bld_r, add_r, sub_r, quo_r, rem_r, eql_r, neq_r, lss_r, leq_r, gtr_r, geq_r, eqb_r, neb_r, nep_r, ↓gv_r, gvn_r, ↓g_r, gn_r, this]
  | d + 1, i, cu, H, hd, ha, hb, h0, hik, hc0, hc1 => by
    obtain ⟨H', cu', e, ga, gb, h1, h2⟩ := each_round (m := m) (f := 0) ha hb hab hn ⟨h0, show i < k by omega⟩ hk ⟨hc0, hc1⟩
    obtain ⟨H2, e2⟩ := each_loop (m := m) hab hn hk d (i := i + 1) (by omega) ga gb (by omega) (by omega) h1 h2
    exact ⟨H2, (loop_next e).trans e2⟩

theorem each_true {lim ticks : Int} (h1 : 0 ≤ lim ∧ lim ≤ 255) (h2 : 0 ≤ ticks ∧ ticks ≤ 255) (H : Heap) : ∃ H', R 4 n_law28TimerEach [.int .u8 lim, .int .u8 ticks] H = some (.bool true, H') := by
  obtain ⟨H1, e1, _⟩ := r_lives 1 H
  have hm : lim.tmod 201 = lim % 201 := Int.tmod_eq_emod_of_nonneg h1.1
  have hw : IntKind.i64.wrap (lim % 201) = lim % 201 := w64 (by omega) (by omega)
  have hw2 : IntKind.i64.wrap ticks = ticks := w64 (by omega) (by omega)
  have hx : (if lim % 201 > 1 then lim % 201 else 1) = max 1 (lim % 201) := by omega
  have n1 := r_new 2 (lim % 201) H1
  have n2 := r_new 2 (lim % 201) (H1 ++ [tmr (max 1 (lim % 201)) 0 0])
  have hmb : 1 ≤ max 1 (lim % 201) ∧ max 1 (lim % 201) ≤ 1000 := by omega
  generalize max 1 (lim % 201) = n at *
  have hab : H1.length ≠ (H1 ++ [tmr n 0 0]).length := by simp
  obtain ⟨H2, e2⟩ := each_loop (m := 2) hab hmb (k := ticks) (by omega) ticks.toNat (i := 0) (cu := 0) (H := H1 ++ [tmr n 0 0] ++ [tmr n 0 0]) (by omega) (by simp) (by simp) (by omega) (by omega) (by omega) (by omega)
  refine ⟨H2, ?_⟩
  rw [R, run_law28TimerEach rfl]
  simp [F_law28TimerEach, ↓bind_andk, andk_some, ↓jn_outk, outk_nrm, outk_ext, outk_ret, ↓cnd_b, ret_r, nilc_r, fa_r, ldOne_r, ldA_r, stOne_r, stA_r, rdk_r, rdkA_r, wrk_r, wrkA_r, alc_r, lenS_r, cvi_r, pick_r, not_r, mx_r, mn_r, ixa_r, extr_r, bld_r, add_r, sub_r, quo_r, rem_r, eql_r, neq_r, lss_r, leq_r, gtr_r, geq_r, eqb_r, neb_r, nep_r, ↓gv_r, gvn_r, ↓g_r, gn_r, e1, hm, hw, hw2, hx, n1, n2]
  simp at e2
  rw [e2]
  rfl

end Go.Proofs.Ytapnfeankeamnaa.A
