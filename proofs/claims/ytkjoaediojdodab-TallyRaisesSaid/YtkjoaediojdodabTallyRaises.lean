/- TallyRaises, on the abstract machine. -/
import Derived.Test.YtkjoaediojdodabTally
namespace Go.Proofs.Ytkjoaediojdodab.A
set_option linter.unusedVariables false
set_option linter.unusedSimpArgs false
open Go.Proofs Go.Proofs.Ytkjoaediojdodab

theorem raises_round {m id lid n c i es : Nat} {g ro : Bool} {xs : List Int} {k most x : Int} {H : Heap} (hl : H[lid]? = some (.cells (xs.map iv) es g ro)) (hi : i < n) (hx : xs[i]? = some x)
    (ht : H[id]? = some (tly (zeros.set k.toNat most))) (hk : inT k) (hal : lid ≠ id) (hn : n ≤ 60) :
    ∃ H', F_law04TallyRaises.l1 (R (m + 3)) (pt id) (iv k) (iv most) (.slice (some ⟨lid, 0, none⟩) n c) (iv n) (iv i) H = some (.nrm [pt id, iv k, iv (max most x), .slice (some ⟨lid, 0, none⟩) n c, iv n, iv ((i + 1 : Nat) : Int)], H') ∧
      H'[lid]? = some (.cells (xs.map iv) es g ro) ∧ H'[id]? = some (tly (zeros.set k.toNat (max most x))) := by
  have hlt : (i : Int) < n := by omega
  have hw : IntKind.i64.wrap ((i : Int) + 1) = (i : Int) + 1 := w64 (by omega) (by omega)
  have hz : (zeros.set k.toNat most).length = 16 := by simp [zeros]
  have hg : tget (zeros.set k.toNat most) k = most := tget_set rfl hk
  have e1 := r_raise (n := m) (k := k) (y := x) ht hz
  by_cases hm : most < x
  · have e : max most x = x := by omega
    rw [hg, if_pos ⟨hk, hm⟩, List.set_set] at e1
    have h2 : (H.set id (tly (zeros.set k.toNat x)))[id]? = some (tly (zeros.set k.toNat x)) := set_get ht
    have e2 := r_get (n := m) (k := k) h2 (by simp [zeros])
    rw [tget_set rfl hk] at e2
    refine ⟨_, ?_, ?_, by rw [e]; exact h2⟩
    · simp [F_law04TallyRaises.l1, ↓bind_andk, andk_some, ↓jn_outk, outk_nrm, outk_ext, outk_ret, ↓cnd_b, ret_r, nilc_r, fa_r, ldOne_r, ldA_r, stOne_r, stA_r, rdk_r, rdkA_r, wrk_r, wrkA_r, alc_r, lenS_r, lenT_r, cvi_r, pick_r, not_r, mx_r, mn_r, ixa_r, ixaA_r, bld_r, add_r, sub_r, mul_r, quo_r, rem_r, eql_r, neq_r, lss_r, leq_r, gtr_r, geq_r, eqb_r, neb_r, eqp_r, nep_r, ↓gv_r, gvn_r, ↓g_r, gn_r, hi, hl, hx, e1, e2, hm, hw, e]
    · rw [set_get_ne (Ne.symm hal)]; exact hl
  · have e : max most x = most := by omega
    rw [hg, if_neg (fun h => hm h.2)] at e1
    have e2 := r_get (n := m) (k := k) ht (by simp [zeros])
    rw [hg] at e2
    refine ⟨H, ?_, hl, by rw [e]; exact ht⟩
    simp [F_law04TallyRaises.l1, ↓bind_andk, andk_some, ↓jn_outk, outk_nrm, outk_ext, outk_ret, ↓cnd_b, ret_r, nilc_r, fa_r, ldOne_r, ldA_r, stOne_r, stA_r, rdk_r, rdkA_r, wrk_r, wrkA_r, alc_r, lenS_r, lenT_r, cvi_r, pick_r, not_r, mx_r, mn_r, ixa_r, ixaA_r, bld_r, add_r, sub_r, mul_r, quo_r, rem_r, eql_r, neq_r, lss_r, leq_r, gtr_r, geq_r, eqb_r, neb_r, eqp_r, nep_r, ↓gv_r, gvn_r, ↓g_r, gn_r, hi, hl, hx, e1, e2, hm, hw, e]

theorem raises_loop {m id lid n c es : Nat} {g ro : Bool} {xs : List Int} {k : Int} (hk : inT k) (hal : lid ≠ id) (hn : n ≤ 60) (hxs : n ≤ xs.length) :
    ∀ (d i : Nat) {most : Int} {H : Heap}, n - i = d → i ≤ n → H[lid]? = some (.cells (xs.map iv) es g ro) → H[id]? = some (tly (zeros.set k.toNat most)) →
    ∃ H', loopM (fun vs => F_law04TallyRaises.l1 (R (m + 3)) (vs.headD undef) (vs.tail.headD undef) (vs.tail.tail.headD undef) (vs.tail.tail.tail.headD undef) (vs.tail.tail.tail.tail.headD undef) (vs.tail.tail.tail.tail.tail.headD undef)) [pt id, iv k, iv most, .slice (some ⟨lid, 0, none⟩) n c, iv n, iv i] H = some (.ext 0 [], H')
  | 0, i, most, H, hd, hin, hl, ht => by
    have : i = n := by omega
    subst this
    refine ⟨H, loop_ext ?_⟩
    simp [F_law04TallyRaises.l1, ↓bind_andk, andk_some, ↓jn_outk, outk_nrm, outk_ext, outk_ret, ↓cnd_b, ret_r, nilc_r, fa_r, ldOne_r, ldA_r, stOne_r, stA_r, rdk_r, rdkA_r, wrk_r, wrkA_r, alc_r, lenS_r, lenT_r, cvi_r, pick_r, not_r, mx_r, mn_r, ixa_r, ixaA_r, bld_r, add_r, sub_r, mul_r, quo_r, rem_r, eql_r, neq_r, lss_r, leq_r, gtr_r, geq_r, eqb_r, neb_r, eqp_r, nep_r, ↓gv_r, gvn_r, ↓g_r, gn_r]
  | d + 1, i, most, H, hd, hin, hl, ht => by
    have hi : i < xs.length := by omega
    obtain ⟨H1, e, g1, g2⟩ := raises_round (m := m) (c := c) hl (show i < n by omega) (List.getElem?_eq_getElem hi) ht hk hal hn
    obtain ⟨H2, e2⟩ := raises_loop (m := m) (c := c) hk hal hn hxs d (i + 1) (by omega) (by omega) g1 g2
    exact ⟨H2, (loop_next e).trans e2⟩

theorem raises_core {at_ : Int} {ad : Option Addr} {n c : Nat} {H : Heap} (hat : 0 ≤ at_ ∧ at_ ≤ 255)
    (hloop : n ≤ 60 → ∀ {a : Nat} {H1 : Heap} {k : Int}, HLe H H1 → H.length ≤ a → H1[a]? = some (tly (zeros.set k.toNat 0)) → inT k →
      ∃ H', loopM (fun vs => F_law04TallyRaises.l1 (R 5) (vs.headD undef) (vs.tail.headD undef) (vs.tail.tail.headD undef) (vs.tail.tail.tail.headD undef) (vs.tail.tail.tail.tail.headD undef) (vs.tail.tail.tail.tail.tail.headD undef)) [pt a, iv k, iv 0, .slice ad n c, iv n, iv 0] H1 = some (.ext 0 [], H')) :
    ∃ H', R 6 n_law04TallyRaises [.slice ad n c, .int .u8 at_] H = some (.bool true, H') := by
  obtain ⟨H1, e1, k1⟩ := r_tlives 1 H
  rw [R, run_law04TallyRaises rfl]
  by_cases hn : n ≤ 60
  · have hng : ¬ ((n : Int) > 60) := by omega
    have hm : at_.tmod 16 = at_ % 16 := Int.tmod_eq_emod_of_nonneg hat.1
    have hw : IntKind.i64.wrap (at_ % 16) = at_ % 16 := w64 (by omega) (by omega)
    have hz : zeros.set (at_ % 16).toNat 0 = zeros := List.set_replicate_self
    obtain ⟨H2, e2⟩ := hloop hn (a := H1.length) (H1 := H1 ++ [tly zeros]) (k := at_ % 16) (k1.trans (.app _ _)) k1.len (by rw [hz]; exact app_new) (by unfold inT; omega)
    refine ⟨H2, ?_⟩
    have h16 : ¬ ((16 : Int) = 0) := by omega
    simp only [F_law04TallyRaises, ↓bind_andk, andk_some, ↓jn_outk, outk_nrm, outk_ext, outk_ret, ↓cnd_b, ret_r, nilc_r, fa_r, ldOne_r, ldA_r, stOne_r, stA_r, rdk_r, rdkA_r, wrk_r, wrkA_r, alc_r, lenS_r, lenT_r, cvi_r, pick_r, not_r, mx_r, mn_r, ixa_r, ixaA_r, bld_r, add_r, sub_r, mul_r, quo_r, rem_r, eql_r, neq_r, lss_r, leq_r, gtr_r, geq_r, eqb_r, neb_r, eqp_r, nep_r, ↓gv_r, gvn_r, ↓g_r, gn_r, Bool.not_true, Bool.not_false, Bool.false_eq_true, Bool.true_eq_false, reduceIte, List.tail_cons, List.headD_cons, decide_true, decide_false, cond_true, cond_false, Nat.beq_refl, e1, r_tnew, hng, hm, hw, e2, h16]
  · have hng : ((n : Int) > 60) := by omega
    obtain ⟨H2, e2, _⟩ := r_tlives 1 H1
    refine ⟨H2, ?_⟩
    simp only [F_law04TallyRaises, ↓bind_andk, andk_some, ↓jn_outk, outk_nrm, outk_ext, outk_ret, ↓cnd_b, ret_r, nilc_r, fa_r, ldOne_r, ldA_r, stOne_r, stA_r, rdk_r, rdkA_r, wrk_r, wrkA_r, alc_r, lenS_r, lenT_r, cvi_r, pick_r, not_r, mx_r, mn_r, ixa_r, ixaA_r, bld_r, add_r, sub_r, mul_r, quo_r, rem_r, eql_r, neq_r, lss_r, leq_r, gtr_r, geq_r, eqb_r, neb_r, eqp_r, nep_r, ↓gv_r, gvn_r, ↓g_r, gn_r, Bool.not_true, Bool.not_false, Bool.false_eq_true, Bool.true_eq_false, reduceIte, List.tail_cons, List.headD_cons, decide_true, decide_false, cond_true, cond_false, Nat.beq_refl, e1, e2, hng]

theorem law_TallyRaises : ∀ (xs : Ins [.slc (.int .i64), .int .u8]) (H : Heap) (vs : List Value), InsWf [.slc (.int .i64), .int .u8] xs → InsRd [.slc (.int .i64), .int .u8] xs H vs → ∃ n H', R n n_law04TallyRaises vs H = some (.bool true, H') := by
  intro xs H vs hwf hrd
  obtain ⟨l, at_, _⟩ := xs
  obtain ⟨hl, hat, _⟩ := hwf
  obtain ⟨c1, _, rfl, _, h1, c2, _, rfl, _, h2, rfl⟩ := hrd
  have h2 : c2 = [.int .u8 at_] := h2
  subst h2
  refine ⟨6, ?_⟩
  rcases rd_slc h1 with rfl | rfl | ⟨q, n, c, id, cells, rfl, hn, hid, hcl, hcs, _⟩
  · refine raises_core (wf_u8 hat) fun _ a H1 k hle ha g hk => ⟨H1, loop_ext ?_⟩
    simp [F_law04TallyRaises.l1, ↓bind_andk, andk_some, ↓jn_outk, outk_nrm, outk_ext, outk_ret, ↓cnd_b, ret_r, nilc_r, fa_r, ldOne_r, ldA_r, stOne_r, stA_r, rdk_r, rdkA_r, wrk_r, wrkA_r, alc_r, lenS_r, lenT_r, cvi_r, pick_r, not_r, mx_r, mn_r, ixa_r, ixaA_r, bld_r, add_r, sub_r, mul_r, quo_r, rem_r, eql_r, neq_r, lss_r, leq_r, gtr_r, geq_r, eqb_r, neb_r, eqp_r, nep_r, ↓gv_r, gvn_r, ↓g_r, gn_r]
  · refine raises_core (wf_u8 hat) fun _ a H1 k hle ha g hk => ⟨H1, loop_ext ?_⟩
    simp [F_law04TallyRaises.l1, ↓bind_andk, andk_some, ↓jn_outk, outk_nrm, outk_ext, outk_ret, ↓cnd_b, ret_r, nilc_r, fa_r, ldOne_r, ldA_r, stOne_r, stA_r, rdk_r, rdkA_r, wrk_r, wrkA_r, alc_r, lenS_r, lenT_r, cvi_r, pick_r, not_r, mx_r, mn_r, ixa_r, ixaA_r, bld_r, add_r, sub_r, mul_r, quo_r, rem_r, eql_r, neq_r, lss_r, leq_r, gtr_r, geq_r, eqb_r, neb_r, eqp_r, nep_r, ↓gv_r, gvn_r, ↓g_r, gn_r]
  · have hcells : cells = q.map iv := cells_one hcs hcl
    subst hcells
    refine raises_core (wf_u8 hat) fun hn60 a H1 k hle ha g hk => ?_
    have hlt := get_lt hid
    exact raises_loop (m := 2) (c := c) hk (show id ≠ a by omega) hn60 hn n 0 (by omega) (by omega) (hle _ _ hid) g

end Go.Proofs.Ytkjoaediojdodab.A
