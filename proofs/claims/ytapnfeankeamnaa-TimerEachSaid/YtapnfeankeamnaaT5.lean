import Derived.Test.YtapnfeankeamnaaT4
namespace Go.Proofs.Ytapnfeankeamnaa.A
set_option linter.unusedVariables false
set_option linter.unusedSimpArgs false
open Go.Proofs Go.Proofs.Ytapnfeankeamnaa

abbrev np : FuncId → Option (List Value → M Value) := fun _ => none
noncomputable abbrev R (n : Nat) : Funs := run Try.prog np n

theorem r_new (n : Nat) (x : Int) (H : Heap) : R (n + 1) 21 [iv x] H = some (pt H.length, H ++ [tmr (max 1 x) 0 0]) := by
  rw [R, run21 rfl]; exact New_is _ _ _

/-- All objects but one are as they were. -/
def But (id : Nat) (H H' : Heap) : Prop := ∀ j, j ≠ id → H'[j]? = H[j]?
theorem But.set {id : Nat} {H : Heap} {o : AObj} : But id H (H.set id o) := fun j hj => List.getElem?_set_ne (Ne.symm hj)

theorem r_tick {n id : Nat} {l c f : Int} {H : Heap} (h : H[id]? = some (tmr l c f)) (hc : 0 ≤ c ∧ c < 9223372036854775807) (hf : 0 ≤ f ∧ f < 9223372036854775807) :
    ∃ H', R (n + 1) 22 [pt id] H = some (.bool (!decide (c + 1 < l)), H') ∧ H'[id]? = some (if c + 1 < l then tmr l (c + 1) f else tmr l 0 (f + 1)) ∧ But id H H' := by
  rw [R, run22 rfl, Tick_is _ h hc hf]
  by_cases hl : c + 1 < l
  · simp only [hl, if_true]
    exact ⟨_, rfl, set_get h, .set⟩
  · simp only [hl, if_false]
    exact ⟨_, rfl, set_get h, .set⟩
theorem r_fired {n id : Nat} {l c f : Int} {H : Heap} (h : H[id]? = some (tmr l c f)) : R (n + 1) 23 [pt id] H = some (iv f, H) := by
  rw [R, run23 rfl]; exact Fired_is _ h
theorem r_left {n id : Nat} {l c f : Int} {H : Heap} (h : H[id]? = some (tmr l c f)) (hb : 0 ≤ l - c ∧ l - c ≤ 9223372036854775807) : R (n + 1) 24 [pt id] H = some (iv (l - c), H) := by
  rw [R, run24 rfl]; exact Left_is _ h hb
theorem r_reset {n id : Nat} {l c f : Int} {H : Heap} (h : H[id]? = some (tmr l c f)) : ∃ v H', R (n + 1) 25 [pt id] H = some (v, H') ∧ H'[id]? = some (tmr l 0 f) ∧ But id H H' := by
  obtain ⟨v, e⟩ := Reset_is (R n) h
  exact ⟨v, _, by rw [R, run25 rfl]; exact e, set_get h, .set⟩
theorem r_limit {n id : Nat} {l c f x : Int} {H : Heap} (h : H[id]? = some (tmr l c f)) : ∃ v H', R (n + 1) 26 [pt id, iv x] H = some (v, H') ∧ H'[id]? = some (tmr (max 1 x) 0 f) ∧ But id H H' := by
  obtain ⟨v, e⟩ := Limit_is (R n) (x := x) h
  exact ⟨v, _, by rw [R, run26 rfl]; exact e, set_get h, .set⟩

theorem r_lives (n : Nat) (H : Heap) : ∃ H', R (n + 2) 20 [] H = some (.bool true, H') ∧ HLe H H' := by
  obtain ⟨H1, e1, g1, b1⟩ := r_tick (n := n) (H := H ++ [tmr 2 0 0]) (id := H.length) (l := 2) (c := 0) (f := 0) (by simp) (by omega) (by omega)
  obtain ⟨H2, e2, g2, b2⟩ := r_tick (n := n) (H := H1) (id := H.length) (l := 2) (c := 1) (f := 0) (by rw [g1]; rfl) (by omega) (by omega)
  obtain ⟨H3, e3, g3, b3⟩ := r_tick (n := n) (H := H2) (id := H.length) (l := 2) (c := 0) (f := 1) (by rw [g2]; rfl) (by omega) (by omega)
  refine ⟨H3, ?_, fun i o h => ?_⟩
  · have e0 : (max 1 2 : Int) = 2 := by decide
    have r0 := r_new n 2 H
    rw [e0] at r0
    rw [R, run20 rfl]
    simp [F20, ↓bind_andk, andk_some, ↓jn_outk, outk_nrm, outk_ext, outk_ret, ↓cnd_b, ret_r, nilc_r, fa_r, ldOne_r, ldA_r, stOne_r, stA_r, rdk_r, rdkA_r, wrk_r, wrkA_r, alc_r, lenS_r, cvi_r, pick_r, not_r, mx_r, mn_r, ixa_r, extr_r, bld_r, add_r, sub_r, quo_r, rem_r, eql_r, neq_r, lss_r, leq_r, gtr_r, geq_r, eqb_r, neb_r, nep_r, ↓gv_r, gvn_r, ↓g_r, gn_r, r0, e1, e2, e3]
  · have hi := (List.getElem?_eq_some_iff.1 h).1
    rw [b3 i (by omega), b2 i (by omega), b1 i (by omega)]
    exact app_get h

end Go.Proofs.Ytapnfeankeamnaa.A
