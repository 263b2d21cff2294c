/- The tally: what its functions do. -/
import Derived.Test.YtkjoaediojdodabA24
import Derived.Test.YtkjoaediojdodabFtally
namespace Go.Proofs.Ytkjoaediojdodab.A
set_option linter.unusedVariables false
set_option linter.unusedSimpArgs false
open Go.Proofs Go.Proofs.Ytkjoaediojdodab

/-- A tally. -/
def tly (ns : List Int) : AObj := .cells (ns.map iv) 1 false false

def inT (k : Int) : Prop := 0 ≤ k ∧ k < 16
instance (k : Int) : Decidable (inT k) := by unfold inT; infer_instance
def tget (ns : List Int) (k : Int) : Int := if inT k then ns.getD k.toNat 0 else 0

theorem r_at {n : Nat} {id : Nat} {k : Int} {H : Heap} : R (n + 1) n_tallyTallyAt [pt id, iv k] H = some (if inT k then pa id k.toNat else .pointer none, H) := by
  rw [R, run_tallyTallyAt rfl]
  unfold inT
  by_cases h1 : k < 0
  · have h2 : ¬ (0 ≤ k) := by omega
    simp [F_tallyTallyAt, ↓bind_andk, andk_some, ↓jn_outk, outk_nrm, outk_ext, outk_ret, ↓cnd_b, ret_r, nilc_r, fa_r, ldOne_r, ldA_r, stOne_r, stA_r, rdk_r, rdkA_r, wrk_r, wrkA_r, alc_r, lenS_r, lenT_r, cvi_r, pick_r, not_r, mx_r, mn_r, ixa_r, ixaA_r, bld_r, add_r, sub_r, mul_r, quo_r, rem_r, eql_r, neq_r, lss_r, leq_r, gtr_r, geq_r, eqb_r, neb_r, eqp_r, nep_r, ↓gv_r, gvn_r, ↓g_r, gn_r, h1, h2]
  · by_cases h3 : k ≥ 16
    · have h2 : ¬ (k < 16) := by omega
      simp [F_tallyTallyAt, ↓bind_andk, andk_some, ↓jn_outk, outk_nrm, outk_ext, outk_ret, ↓cnd_b, ret_r, nilc_r, fa_r, ldOne_r, ldA_r, stOne_r, stA_r, rdk_r, rdkA_r, wrk_r, wrkA_r, alc_r, lenS_r, lenT_r, cvi_r, pick_r, not_r, mx_r, mn_r, ixa_r, ixaA_r, bld_r, add_r, sub_r, mul_r, quo_r, rem_r, eql_r, neq_r, lss_r, leq_r, gtr_r, geq_r, eqb_r, neb_r, eqp_r, nep_r, ↓gv_r, gvn_r, ↓g_r, gn_r, h1, h2, h3]
    · have h2 : 0 ≤ k ∧ k < 16 := by omega
      simp [F_tallyTallyAt, ↓bind_andk, andk_some, ↓jn_outk, outk_nrm, outk_ext, outk_ret, ↓cnd_b, ret_r, nilc_r, fa_r, ldOne_r, ldA_r, stOne_r, stA_r, rdk_r, rdkA_r, wrk_r, wrkA_r, alc_r, lenS_r, lenT_r, cvi_r, pick_r, not_r, mx_r, mn_r, ixa_r, ixaA_r, bld_r, add_r, sub_r, mul_r, quo_r, rem_r, eql_r, neq_r, lss_r, leq_r, gtr_r, geq_r, eqb_r, neb_r, eqp_r, nep_r, ↓gv_r, gvn_r, ↓g_r, gn_r, h1, h2, h3]

theorem r_load {n id o : Nat} {x : Int} {cs : List Value} {es : Nat} {g ro : Bool} {H : Heap} (h : H[id]? = some (.cells cs es g ro)) (hx : cs[o]? = some (iv x)) : R (n + 2) n_syncAtomicInt64Load [pa id o] H = some (iv x, H) := by
  rw [R, run_syncAtomicInt64Load rfl]
  simp [F_syncAtomicInt64Load, ↓bind_andk, andk_some, ↓jn_outk, outk_nrm, outk_ext, outk_ret, ↓cnd_b, ret_r, nilc_r, fa_r, ldOne_r, ldA_r, stOne_r, stA_r, rdk_r, rdkA_r, wrk_r, wrkA_r, alc_r, lenS_r, lenT_r, cvi_r, pick_r, not_r, mx_r, mn_r, ixa_r, ixaA_r, bld_r, add_r, sub_r, mul_r, quo_r, rem_r, eql_r, neq_r, lss_r, leq_r, gtr_r, geq_r, eqb_r, neb_r, eqp_r, nep_r, ↓gv_r, gvn_r, ↓g_r, gn_r, run_syncAtomicLoadInt64, atLoad, h, hx]

theorem r_store {n id o : Nat} {x y : Int} {ns : List Int} {H : Heap} (h : H[id]? = some (tly ns)) (hx : ns[o]? = some x) : R (n + 2) n_syncAtomicInt64Store [pa id o, iv y] H = some (.tuple #[], H.set id (tly (ns.set o y))) := by
  rw [R, run_syncAtomicInt64Store rfl]
  unfold tly at h ⊢
  obtain ⟨ho, hx2⟩ := List.getElem?_eq_some_iff.1 hx
  simp [F_syncAtomicInt64Store, ↓bind_andk, andk_some, ↓jn_outk, outk_nrm, outk_ext, outk_ret, ↓cnd_b, ret_r, nilc_r, fa_r, ldOne_r, ldA_r, stOne_r, stA_r, rdk_r, rdkA_r, wrk_r, wrkA_r, alc_r, lenS_r, lenT_r, cvi_r, pick_r, not_r, mx_r, mn_r, ixa_r, ixaA_r, bld_r, add_r, sub_r, mul_r, quo_r, rem_r, eql_r, neq_r, lss_r, leq_r, gtr_r, geq_r, eqb_r, neb_r, eqp_r, nep_r, ↓gv_r, gvn_r, ↓g_r, gn_r, run_syncAtomicStoreInt64, atStore, h, ho, oneCell]

theorem r_aadd {n id o : Nat} {x y : Int} {ns : List Int} {H : Heap} (h : H[id]? = some (tly ns)) (hx : ns[o]? = some x) : R (n + 2) n_syncAtomicInt64Add [pa id o, iv y] H = some (iv (IntKind.i64.wrap (x + y)), H.set id (tly (ns.set o (IntKind.i64.wrap (x + y))))) := by
  rw [R, run_syncAtomicInt64Add rfl]
  unfold tly at h ⊢
  obtain ⟨ho, hx2⟩ := List.getElem?_eq_some_iff.1 hx
  simp [F_syncAtomicInt64Add, ↓bind_andk, andk_some, ↓jn_outk, outk_nrm, outk_ext, outk_ret, ↓cnd_b, ret_r, nilc_r, fa_r, ldOne_r, ldA_r, stOne_r, stA_r, rdk_r, rdkA_r, wrk_r, wrkA_r, alc_r, lenS_r, lenT_r, cvi_r, pick_r, not_r, mx_r, mn_r, ixa_r, ixaA_r, bld_r, add_r, sub_r, mul_r, quo_r, rem_r, eql_r, neq_r, lss_r, leq_r, gtr_r, geq_r, eqb_r, neb_r, eqp_r, nep_r, ↓gv_r, gvn_r, ↓g_r, gn_r, run_syncAtomicAddInt64, atAdd, h, ho, hx, hx2, oneCell]

theorem r_cas {n id o : Nat} {x a b : Int} {ns : List Int} {H : Heap} (h : H[id]? = some (tly ns)) (hx : ns[o]? = some x) :
    R (n + 2) n_syncAtomicInt64CompareAndSwap [pa id o, iv a, iv b] H = if x = a then some (.bool true, H.set id (tly (ns.set o b))) else some (.bool false, H) := by
  rw [R, run_syncAtomicInt64CompareAndSwap rfl]
  unfold tly at h ⊢
  obtain ⟨ho, hx2⟩ := List.getElem?_eq_some_iff.1 hx
  by_cases hxa : x = a
  · simp [F_syncAtomicInt64CompareAndSwap, ↓bind_andk, andk_some, ↓jn_outk, outk_nrm, outk_ext, outk_ret, ↓cnd_b, ret_r, nilc_r, fa_r, ldOne_r, ldA_r, stOne_r, stA_r, rdk_r, rdkA_r, wrk_r, wrkA_r, alc_r, lenS_r, lenT_r, cvi_r, pick_r, not_r, mx_r, mn_r, ixa_r, ixaA_r, bld_r, add_r, sub_r, mul_r, quo_r, rem_r, eql_r, neq_r, lss_r, leq_r, gtr_r, geq_r, eqb_r, neb_r, eqp_r, nep_r, ↓gv_r, gvn_r, ↓g_r, gn_r, run_syncAtomicCompareAndSwapInt64, atCas, h, ho, hx, hx2, hxa, oneCell]
  · simp [F_syncAtomicInt64CompareAndSwap, ↓bind_andk, andk_some, ↓jn_outk, outk_nrm, outk_ext, outk_ret, ↓cnd_b, ret_r, nilc_r, fa_r, ldOne_r, ldA_r, stOne_r, stA_r, rdk_r, rdkA_r, wrk_r, wrkA_r, alc_r, lenS_r, lenT_r, cvi_r, pick_r, not_r, mx_r, mn_r, ixa_r, ixaA_r, bld_r, add_r, sub_r, mul_r, quo_r, rem_r, eql_r, neq_r, lss_r, leq_r, gtr_r, geq_r, eqb_r, neb_r, eqp_r, nep_r, ↓gv_r, gvn_r, ↓g_r, gn_r, run_syncAtomicCompareAndSwapInt64, atCas, h, ho, hx, hx2, hxa, oneCell]

section
variable {n id : Nat} {k : Int} {ns : List Int} {H : Heap}

theorem at_some (hl : ns.length = 16) (hk : inT k) : ns[k.toNat]? = some (tget ns k) := by
  unfold tget
  rw [if_pos hk]
  have : k.toNat < ns.length := by unfold inT at hk; omega
  rw [List.getElem?_eq_getElem this, List.getD_eq_getElem?_getD, List.getElem?_eq_getElem this]; rfl

theorem r_get (h : H[id]? = some (tly ns)) (hl : ns.length = 16) : R (n + 3) n_tallyTallyGet [pt id, iv k] H = some (iv (tget ns k), H) := by
  rw [R, run_tallyTallyGet rfl]
  by_cases hk : inT k
  · have e := r_load (n := n) h (o := k.toNat) (x := tget ns k) (by simp [at_some hl hk])
    simp [F_tallyTallyGet, ↓bind_andk, andk_some, ↓jn_outk, outk_nrm, outk_ext, outk_ret, ↓cnd_b, ret_r, nilc_r, fa_r, ldOne_r, ldA_r, stOne_r, stA_r, rdk_r, rdkA_r, wrk_r, wrkA_r, alc_r, lenS_r, lenT_r, cvi_r, pick_r, not_r, mx_r, mn_r, ixa_r, ixaA_r, bld_r, add_r, sub_r, mul_r, quo_r, rem_r, eql_r, neq_r, lss_r, leq_r, gtr_r, geq_r, eqb_r, neb_r, eqp_r, nep_r, ↓gv_r, gvn_r, ↓g_r, gn_r, r_at, hk, e]
  · simp [F_tallyTallyGet, ↓bind_andk, andk_some, ↓jn_outk, outk_nrm, outk_ext, outk_ret, ↓cnd_b, ret_r, nilc_r, fa_r, ldOne_r, ldA_r, stOne_r, stA_r, rdk_r, rdkA_r, wrk_r, wrkA_r, alc_r, lenS_r, lenT_r, cvi_r, pick_r, not_r, mx_r, mn_r, ixa_r, ixaA_r, bld_r, add_r, sub_r, mul_r, quo_r, rem_r, eql_r, neq_r, lss_r, leq_r, gtr_r, geq_r, eqb_r, neb_r, eqp_r, nep_r, ↓gv_r, gvn_r, ↓g_r, gn_r, r_at, hk, nenn_r, tget]

theorem r_add {y : Int} (h : H[id]? = some (tly ns)) (hl : ns.length = 16) : R (n + 3) n_tallyTallyAdd [pt id, iv k, iv y] H =
    if inT k then some (iv (IntKind.i64.wrap (tget ns k + y)), H.set id (tly (ns.set k.toNat (IntKind.i64.wrap (tget ns k + y))))) else some (iv 0, H) := by
  rw [R, run_tallyTallyAdd rfl]
  by_cases hk : inT k
  · have e := r_aadd (n := n) (y := y) h (at_some hl hk)
    simp [F_tallyTallyAdd, ↓bind_andk, andk_some, ↓jn_outk, outk_nrm, outk_ext, outk_ret, ↓cnd_b, ret_r, nilc_r, fa_r, ldOne_r, ldA_r, stOne_r, stA_r, rdk_r, rdkA_r, wrk_r, wrkA_r, alc_r, lenS_r, lenT_r, cvi_r, pick_r, not_r, mx_r, mn_r, ixa_r, ixaA_r, bld_r, add_r, sub_r, mul_r, quo_r, rem_r, eql_r, neq_r, lss_r, leq_r, gtr_r, geq_r, eqb_r, neb_r, eqp_r, nep_r, ↓gv_r, gvn_r, ↓g_r, gn_r, r_at, hk, e]
  · simp [F_tallyTallyAdd, ↓bind_andk, andk_some, ↓jn_outk, outk_nrm, outk_ext, outk_ret, ↓cnd_b, ret_r, nilc_r, fa_r, ldOne_r, ldA_r, stOne_r, stA_r, rdk_r, rdkA_r, wrk_r, wrkA_r, alc_r, lenS_r, lenT_r, cvi_r, pick_r, not_r, mx_r, mn_r, ixa_r, ixaA_r, bld_r, add_r, sub_r, mul_r, quo_r, rem_r, eql_r, neq_r, lss_r, leq_r, gtr_r, geq_r, eqb_r, neb_r, eqp_r, nep_r, ↓gv_r, gvn_r, ↓g_r, gn_r, r_at, hk, nenn_r, tget]

theorem r_swap {x y : Int} (h : H[id]? = some (tly ns)) (hl : ns.length = 16) : R (n + 3) n_tallyTallySwap [pt id, iv k, iv x, iv y] H =
    if inT k ∧ tget ns k = x then some (.bool true, H.set id (tly (ns.set k.toNat y))) else some (.bool false, H) := by
  rw [R, run_tallyTallySwap rfl]
  by_cases hk : inT k
  · have e := r_cas (n := n) (a := x) (b := y) h (at_some hl hk)
    by_cases hx : tget ns k = x
    · rw [if_pos hx] at e
      simp [F_tallyTallySwap, ↓bind_andk, andk_some, ↓jn_outk, outk_nrm, outk_ext, outk_ret, ↓cnd_b, ret_r, nilc_r, fa_r, ldOne_r, ldA_r, stOne_r, stA_r, rdk_r, rdkA_r, wrk_r, wrkA_r, alc_r, lenS_r, lenT_r, cvi_r, pick_r, not_r, mx_r, mn_r, ixa_r, ixaA_r, bld_r, add_r, sub_r, mul_r, quo_r, rem_r, eql_r, neq_r, lss_r, leq_r, gtr_r, geq_r, eqb_r, neb_r, eqp_r, nep_r, ↓gv_r, gvn_r, ↓g_r, gn_r, r_at, hk, e, hx]
    · rw [if_neg hx] at e
      simp [F_tallyTallySwap, ↓bind_andk, andk_some, ↓jn_outk, outk_nrm, outk_ext, outk_ret, ↓cnd_b, ret_r, nilc_r, fa_r, ldOne_r, ldA_r, stOne_r, stA_r, rdk_r, rdkA_r, wrk_r, wrkA_r, alc_r, lenS_r, lenT_r, cvi_r, pick_r, not_r, mx_r, mn_r, ixa_r, ixaA_r, bld_r, add_r, sub_r, mul_r, quo_r, rem_r, eql_r, neq_r, lss_r, leq_r, gtr_r, geq_r, eqb_r, neb_r, eqp_r, nep_r, ↓gv_r, gvn_r, ↓g_r, gn_r, r_at, hk, e, hx]
  · simp [F_tallyTallySwap, ↓bind_andk, andk_some, ↓jn_outk, outk_nrm, outk_ext, outk_ret, ↓cnd_b, ret_r, nilc_r, fa_r, ldOne_r, ldA_r, stOne_r, stA_r, rdk_r, rdkA_r, wrk_r, wrkA_r, alc_r, lenS_r, lenT_r, cvi_r, pick_r, not_r, mx_r, mn_r, ixa_r, ixaA_r, bld_r, add_r, sub_r, mul_r, quo_r, rem_r, eql_r, neq_r, lss_r, leq_r, gtr_r, geq_r, eqb_r, neb_r, eqp_r, nep_r, ↓gv_r, gvn_r, ↓g_r, gn_r, r_at, hk, nenn_r, tget]

theorem r_raise {y : Int} (h : H[id]? = some (tly ns)) (hl : ns.length = 16) : R (n + 3) n_tallyTallyRaise [pt id, iv k, iv y] H =
    if inT k ∧ tget ns k < y then some (.bool true, H.set id (tly (ns.set k.toNat y))) else some (.bool false, H) := by
  rw [R, run_tallyTallyRaise rfl]
  by_cases hk : inT k
  · have e1 := r_load (n := n) h (o := k.toNat) (x := tget ns k) (by simp [at_some hl hk])
    have e := r_cas (n := n) (a := tget ns k) (b := y) h (at_some hl hk)
    rw [if_pos rfl] at e
    by_cases hx : tget ns k < y
    · have hx2 : ¬ (tget ns k ≥ y) := by omega
      have : loopM (fun vs => F_tallyTallyRaise.l1 (R (n + 2)) (vs.headD undef) (vs.tail.headD undef)) [iv y, pa id k.toNat] H = some (.ret (.bool true), H.set id (tly (ns.set k.toNat y))) := by
        refine loop_ret ?_
        simp [F_tallyTallyRaise.l1, ↓bind_andk, andk_some, ↓jn_outk, outk_nrm, outk_ext, outk_ret, ↓cnd_b, ret_r, nilc_r, fa_r, ldOne_r, ldA_r, stOne_r, stA_r, rdk_r, rdkA_r, wrk_r, wrkA_r, alc_r, lenS_r, lenT_r, cvi_r, pick_r, not_r, mx_r, mn_r, ixa_r, ixaA_r, bld_r, add_r, sub_r, mul_r, quo_r, rem_r, eql_r, neq_r, lss_r, leq_r, gtr_r, geq_r, eqb_r, neb_r, eqp_r, nep_r, ↓gv_r, gvn_r, ↓g_r, gn_r, hk, e, e1, hx2]
      simp only [F_tallyTallyRaise, ↓bind_andk, andk_some, ↓jn_outk, outk_nrm, outk_ext, outk_ret, ↓cnd_b, ret_r, nilc_r, fa_r, ldOne_r, ldA_r, stOne_r, stA_r, rdk_r, rdkA_r, wrk_r, wrkA_r, alc_r, lenS_r, lenT_r, cvi_r, pick_r, not_r, mx_r, mn_r, ixa_r, ixaA_r, bld_r, add_r, sub_r, mul_r, quo_r, rem_r, eql_r, neq_r, lss_r, leq_r, gtr_r, geq_r, eqb_r, neb_r, eqp_r, nep_r, ↓gv_r, gvn_r, ↓g_r, gn_r, Bool.not_true, Bool.not_false, Bool.false_eq_true, Bool.true_eq_false, reduceIte, List.tail_cons, List.headD_cons, decide_true, decide_false, cond_true, cond_false, Nat.beq_refl, r_at, hk, this, hx, and_self]
    · have hx2 : (tget ns k ≥ y) := by omega
      have : loopM (fun vs => F_tallyTallyRaise.l1 (R (n + 2)) (vs.headD undef) (vs.tail.headD undef)) [iv y, pa id k.toNat] H = some (.ret (.bool false), H) := by
        refine loop_ret ?_
        simp [F_tallyTallyRaise.l1, ↓bind_andk, andk_some, ↓jn_outk, outk_nrm, outk_ext, outk_ret, ↓cnd_b, ret_r, nilc_r, fa_r, ldOne_r, ldA_r, stOne_r, stA_r, rdk_r, rdkA_r, wrk_r, wrkA_r, alc_r, lenS_r, lenT_r, cvi_r, pick_r, not_r, mx_r, mn_r, ixa_r, ixaA_r, bld_r, add_r, sub_r, mul_r, quo_r, rem_r, eql_r, neq_r, lss_r, leq_r, gtr_r, geq_r, eqb_r, neb_r, eqp_r, nep_r, ↓gv_r, gvn_r, ↓g_r, gn_r, hk, e, e1, hx2]
      simp only [F_tallyTallyRaise, ↓bind_andk, andk_some, ↓jn_outk, outk_nrm, outk_ext, outk_ret, ↓cnd_b, ret_r, nilc_r, fa_r, ldOne_r, ldA_r, stOne_r, stA_r, rdk_r, rdkA_r, wrk_r, wrkA_r, alc_r, lenS_r, lenT_r, cvi_r, pick_r, not_r, mx_r, mn_r, ixa_r, ixaA_r, bld_r, add_r, sub_r, mul_r, quo_r, rem_r, eql_r, neq_r, lss_r, leq_r, gtr_r, geq_r, eqb_r, neb_r, eqp_r, nep_r, ↓gv_r, gvn_r, ↓g_r, gn_r, Bool.not_true, Bool.not_false, Bool.false_eq_true, Bool.true_eq_false, reduceIte, List.tail_cons, List.headD_cons, decide_true, decide_false, cond_true, cond_false, Nat.beq_refl, r_at, hk, this, hx, and_false]
  · have : loopM (fun vs => F_tallyTallyRaise.l1 (R (n + 2)) (vs.headD undef) (vs.tail.headD undef)) [iv y, .pointer none] H = some (.ext 0 [], H) := by
      refine loop_ext ?_
      simp [F_tallyTallyRaise.l1, ↓bind_andk, andk_some, ↓jn_outk, outk_nrm, outk_ext, outk_ret, ↓cnd_b, ret_r, nilc_r, fa_r, ldOne_r, ldA_r, stOne_r, stA_r, rdk_r, rdkA_r, wrk_r, wrkA_r, alc_r, lenS_r, lenT_r, cvi_r, pick_r, not_r, mx_r, mn_r, ixa_r, ixaA_r, bld_r, add_r, sub_r, mul_r, quo_r, rem_r, eql_r, neq_r, lss_r, leq_r, gtr_r, geq_r, eqb_r, neb_r, eqp_r, nep_r, ↓gv_r, gvn_r, ↓g_r, gn_r, nenn_r]
    simp only [F_tallyTallyRaise, ↓bind_andk, andk_some, ↓jn_outk, outk_nrm, outk_ext, outk_ret, ↓cnd_b, ret_r, nilc_r, fa_r, ldOne_r, ldA_r, stOne_r, stA_r, rdk_r, rdkA_r, wrk_r, wrkA_r, alc_r, lenS_r, lenT_r, cvi_r, pick_r, not_r, mx_r, mn_r, ixa_r, ixaA_r, bld_r, add_r, sub_r, mul_r, quo_r, rem_r, eql_r, neq_r, lss_r, leq_r, gtr_r, geq_r, eqb_r, neb_r, eqp_r, nep_r, ↓gv_r, gvn_r, ↓g_r, gn_r, Bool.not_true, Bool.not_false, Bool.false_eq_true, Bool.true_eq_false, reduceIte, List.tail_cons, List.headD_cons, decide_true, decide_false, cond_true, cond_false, Nat.beq_refl, r_at, hk, this, false_and]
end

def zeros : List Int := List.replicate 16 0

theorem r_tnew (n : Nat) (H : Heap) : R (n + 1) n_tallyNew [] H = some (pt H.length, H ++ [tly zeros]) := by
  rw [R, run_tallyNew rfl]
  simp [F_tallyNew, ↓bind_andk, andk_some, ↓jn_outk, outk_nrm, outk_ext, outk_ret, ↓cnd_b, ret_r, nilc_r, fa_r, ldOne_r, ldA_r, stOne_r, stA_r, rdk_r, rdkA_r, wrk_r, wrkA_r, alc_r, lenS_r, lenT_r, cvi_r, pick_r, not_r, mx_r, mn_r, ixa_r, ixaA_r, bld_r, add_r, sub_r, mul_r, quo_r, rem_r, eql_r, neq_r, lss_r, leq_r, gtr_r, geq_r, eqb_r, neb_r, eqp_r, nep_r, ↓gv_r, gvn_r, ↓g_r, gn_r, bldC, Value.cells, oneCell, tly, zeros, List.replicate]

theorem tget_set {ns : List Int} {k y : Int} (hl : ns.length = 16) (hk : inT k) : tget (ns.set k.toNat y) k = y := by
  unfold tget
  rw [if_pos hk]
  have : k.toNat < ns.length := by unfold inT at hk; omega
  simp [List.getD_eq_getElem?_getD, this]

theorem r_tlives (n : Nat) (H : Heap) : ∃ H', R (n + 4) n_law04Lives [] H = some (.bool true, H') ∧ HLe H H' := by
  have h0 : (H ++ [tly zeros])[H.length]? = some (tly zeros) := app_new
  have hz : zeros.length = 16 := rfl
  have e1 := r_add (n := n) (k := 2) (y := 5) h0 hz
  rw [if_pos (by decide), set_new] at e1
  have h1 : (H ++ [tly (zeros.set 2 5)])[H.length]? = some (tly (zeros.set 2 5)) := app_new
  have e2 := r_raise (n := n) (k := 2) (y := 4) h1 rfl
  rw [if_neg (by decide)] at e2
  have e3 := r_raise (n := n) (k := 2) (y := 9) h1 rfl
  rw [if_pos (by decide), set_new, show (zeros.set 2 5).set (2 : Int).toNat 9 = zeros.set 2 9 from rfl] at e3
  have h2 : (H ++ [tly (zeros.set 2 9)])[H.length]? = some (tly (zeros.set 2 9)) := app_new
  have e4 := r_get (n := n) (k := 2) h2 rfl
  have a1 : IntKind.i64.wrap (tget zeros 2 + 5) = 5 := by decide
  have a2 : tget (zeros.set 2 9) 2 = 9 := by decide
  rw [a1] at e1
  rw [a2] at e4
  refine ⟨_, ?_, .app H [tly (zeros.set 2 9)]⟩
  rw [R, run_law04Lives rfl]
  have t2 : (2 : Int).toNat = 2 := rfl
  rw [t2] at *
  simp [F_law04Lives, ↓bind_andk, andk_some, ↓jn_outk, outk_nrm, outk_ext, outk_ret, ↓cnd_b, ret_r, nilc_r, fa_r, ldOne_r, ldA_r, stOne_r, stA_r, rdk_r, rdkA_r, wrk_r, wrkA_r, alc_r, lenS_r, lenT_r, cvi_r, pick_r, not_r, mx_r, mn_r, ixa_r, ixaA_r, bld_r, add_r, sub_r, mul_r, quo_r, rem_r, eql_r, neq_r, lss_r, leq_r, gtr_r, geq_r, eqb_r, neb_r, eqp_r, nep_r, ↓gv_r, gvn_r, ↓g_r, gn_r, r_tnew, e1, e2, e3, e4]

end Go.Proofs.Ytkjoaediojdodab.A
