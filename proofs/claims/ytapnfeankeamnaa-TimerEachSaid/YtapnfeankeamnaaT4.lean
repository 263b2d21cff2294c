import Derived.Test.YtapnfeankeamnaaA22
import Derived.Test.YtapnfeankeamnaaT2
namespace Go.Proofs.Ytapnfeankeamnaa.A
set_option linter.unusedVariables false
set_option linter.unusedSimpArgs false
open Go.Proofs Go.Proofs.Ytapnfeankeamnaa

abbrev iv (n : Int) : Value := .int .i64 n
abbrev pt (id : Nat) : Value := .pointer (some ⟨id, 0, none⟩)

/-- A timer. -/
def tmr (l c f : Int) : AObj := .cells [iv l, iv c, iv f] 1 false false

theorem New_is (Γ : Funs) (x : Int) (H : Heap) : F21 Γ (iv x) H = some (pt H.length, H ++ [tmr (max 1 x) 0 0]) := by
  have : (if x > 1 then x else 1) = max 1 x := by omega
  simp [F21, bind, mxi, bld, bldC, isTup, Value.cells, splice, alc, newc, ret, oneCell, tmr, this]

theorem Tick_is (Γ : Funs) {id : Nat} {l c f : Int} {H : Heap} (h : H[id]? = some (tmr l c f)) (hc : 0 ≤ c ∧ c < 9223372036854775807) (hf : 0 ≤ f ∧ f < 9223372036854775807) :
    F22 Γ (pt id) H = if c + 1 < l then some (.bool false, H.set id (tmr l (c + 1) f)) else some (.bool true, H.set id (tmr l 0 (f + 1))) := by
  have hl := (List.getElem?_eq_some_iff.1 h).1
  have e1 : IntKind.i64.wrap (c + 1) = c + 1 := w64 (by omega) (by omega)
  have e2 : IntKind.i64.wrap (f + 1) = f + 1 := w64 (by omega) (by omega)
  unfold tmr at *
  simp [F22, ↓bind_andk, andk_some, ↓jn_outk, outk_nrm, outk_ext, outk_ret, ↓cnd_b, ret_r, nilc_r, fa_r, ldOne_r, ldA_r, stOne_r, stA_r, rdk_r, rdkA_r, wrk_r, wrkA_r, alc_r, lenS_r, cvi_r, pick_r, not_r, mx_r, mn_r, ixa_r, extr_r, bld_r, add_r, sub_r, quo_r, rem_r, eql_r, neq_r, lss_r, leq_r, gtr_r, geq_r, eqb_r, neb_r, nep_r, ↓gv_r, gvn_r, ↓g_r, gn_r, h, oneCell, e1, e2, List.getElem?_set_self']

theorem Fired_is (Γ : Funs) {id : Nat} {l c f : Int} {H : Heap} (h : H[id]? = some (tmr l c f)) : F23 Γ (pt id) H = some (iv f, H) := by
  unfold tmr at h
  simp [F23, bind, nilc, fa, ld1, h, ret]

theorem Left_is (Γ : Funs) {id : Nat} {l c f : Int} {H : Heap} (h : H[id]? = some (tmr l c f)) (hb : 0 ≤ l - c ∧ l - c ≤ 9223372036854775807) : F24 Γ (pt id) H = some (iv (l - c), H) := by
  unfold tmr at h
  have e1 : IntKind.i64.wrap (l - c) = l - c := w64 (by omega) (by omega)
  simp [F24, bind, nilc, fa, ld1, h, ret, bop, iarith, e1]

theorem Reset_is (Γ : Funs) {id : Nat} {l c f : Int} {H : Heap} (h : H[id]? = some (tmr l c f)) : ∃ v, F25 Γ (pt id) H = some (v, H.set id (tmr l 0 f)) := by
  unfold tmr at *
  have hl := (List.getElem?_eq_some_iff.1 h).1
  simp [F25, bind, nilc, fa, st1, h, ret, oneCell]

theorem Limit_is (Γ : Funs) {id : Nat} {l c f x : Int} {H : Heap} (h : H[id]? = some (tmr l c f)) : ∃ v, F26 Γ (pt id) (iv x) H = some (v, H.set id (tmr (max 1 x) 0 f)) := by
  unfold tmr at *
  have hl := (List.getElem?_eq_some_iff.1 h).1
  have : (if x > 1 then x else 1) = max 1 x := by omega
  simp [F26, ↓bind_andk, andk_some, ↓jn_outk, outk_nrm, outk_ext, outk_ret, ↓cnd_b, ret_r, nilc_r, fa_r, ldOne_r, ldA_r, stOne_r, stA_r, rdk_r, rdkA_r, wrk_r, wrkA_r, alc_r, lenS_r, cvi_r, pick_r, not_r, mx_r, mn_r, ixa_r, extr_r, bld_r, add_r, sub_r, quo_r, rem_r, eql_r, neq_r, lss_r, leq_r, gtr_r, geq_r, eqb_r, neb_r, nep_r, ↓gv_r, gvn_r, ↓g_r, gn_r, h, oneCell, this, List.getElem?_set_self']
end Go.Proofs.Ytapnfeankeamnaa.A
