/- TallySwaps, on the abstract machine. -/
import Derived.Test.YtkjoaediojdodabTallySum
namespace Go.Proofs.Ytkjoaediojdodab.A
set_option linter.unusedVariables false
set_option linter.unusedSimpArgs false
open Go.Proofs Go.Proofs.Ytkjoaediojdodab

abbrev In64 (s : Int) : Prop := -9223372036854775808 ≤ s ∧ s ≤ 9223372036854775807

theorem swaps_round {m id lid n c i es : Nat} {g ro : Bool} {xs : List Int} {k s x : Int} {H : Heap} (hl : H[lid]? = some (.cells (xs.map iv) es g ro)) (hi : i < n) (hx : xs[i]? = some x) (hxi : In64 x)
    (ht : H[id]? = some (tly (zeros.set k.toNat s))) (hs : In64 s) (hk : inT k) (hal : lid ≠ id) (hn : n ≤ 60) :
    ∃ H', F_law04TallySwaps.l1 (R (m + 3)) (pt id) (iv k) (iv s) (.slice (some ⟨lid, 0, none⟩) n c) (iv n) (iv i) H = some (.nrm [pt id, iv k, iv (IntKind.i64.wrap (s + x)), .slice (some ⟨lid, 0, none⟩) n c, iv n, iv ((i + 1 : Nat) : Int)], H') ∧
      H'[lid]? = some (.cells (xs.map iv) es g ro) ∧ H'[id]? = some (tly (zeros.set k.toNat (IntKind.i64.wrap (s + x)))) := by
  have hlt : (i : Int) < n := by omega
  have hw : IntKind.i64.wrap ((i : Int) + 1) = (i : Int) + 1 := w64 (by omega) (by omega)
  have hz : ∀ s, (zeros.set k.toNat s).length = 16 := fun s => by simp [zeros]
  have hg : ∀ s, tget (zeros.set k.toNat s) k = s := fun s => tget_set rfl hk
  have e0 := r_get (n := m) (k := k) ht (hz _)
  rw [hg] at e0
  have e1 := r_swap (n := m) (k := k) (x := s) (y := IntKind.i64.wrap (s + x)) ht (hz _)
  rw [hg, if_pos ⟨hk, rfl⟩, List.set_set] at e1
  have h1 : (H.set id (tly (zeros.set k.toNat (IntKind.i64.wrap (s + x)))))[id]? = some (tly (zeros.set k.toNat (IntKind.i64.wrap (s + x)))) := set_get ht
  have e2 := r_swap (n := m) (k := k) (x := s) (y := IntKind.i64.wrap (s + x)) h1 (hz _)
  rw [hg, List.set_set, List.set_set] at e2
  have hiff : IntKind.i64.wrap (s + x) = s ↔ x = 0 := by
    unfold In64 at hxi hs
    rw [w64_eq]
    split <;> omega
  refine ⟨H.set id (tly (zeros.set k.toNat (IntKind.i64.wrap (s + x)))), ?_, by rw [set_get_ne (Ne.symm hal)]; exact hl, h1⟩
  by_cases h0 : x = 0
  · rw [if_pos ⟨hk, hiff.2 h0⟩] at e2
    subst h0
    simp only [Int.add_zero, w64 hs.1 hs.2] at e1 e2 ⊢
    simp [F_law04TallySwaps.l1, ↓bind_andk, andk_some, ↓jn_outk, outk_nrm, outk_ext, outk_ret, ↓cnd_b, ret_r, nilc_r, fa_r, ldOne_r, ldA_r, stOne_r, stA_r, rdk_r, rdkA_r, wrk_r, wrkA_r, alc_r, lenS_r, lenT_r, cvi_r, pick_r, not_r, mx_r, mn_r, ixa_r, ixaA_r, bld_r, add_r, sub_r, mul_r, quo_r, rem_r, eql_r, neq_r, lss_r, leq_r, gtr_r, geq_r, eqb_r, neb_r, eqp_r, nep_r, ↓gv_r, gvn_r, ↓g_r, gn_r, hi, hl, hx, e0, e1, e2, hw, w64 hs.1 hs.2]
  · rw [if_neg (fun h => h0 (hiff.1 h.2))] at e2
    simp [F_law04TallySwaps.l1, ↓bind_andk, andk_some, ↓jn_outk, outk_nrm, outk_ext, outk_ret, ↓cnd_b, ret_r, nilc_r, fa_r, ldOne_r, ldA_r, stOne_r, stA_r, rdk_r, rdkA_r, wrk_r, wrkA_r, alc_r, lenS_r, lenT_r, cvi_r, pick_r, not_r, mx_r, mn_r, ixa_r, ixaA_r, bld_r, add_r, sub_r, mul_r, quo_r, rem_r, eql_r, neq_r, lss_r, leq_r, gtr_r, geq_r, eqb_r, neb_r, eqp_r, nep_r, ↓gv_r, gvn_r, ↓g_r, gn_r, hi, hl, hx, e0, e1, e2, h0, hw]

theorem swaps_loop {m id lid n c es : Nat} {g ro : Bool} {xs : List Int} {k : Int} (hk : inT k) (hal : lid ≠ id) (hn : n ≤ 60) (hxs : n ≤ xs.length) (hxi : ∀ x ∈ xs, In64 x) :
    ∀ (d i : Nat) {s : Int} {H : Heap}, n - i = d → i ≤ n → H[lid]? = some (.cells (xs.map iv) es g ro) → H[id]? = some (tly (zeros.set k.toNat s)) → In64 s →
    ∃ s' H', loopM (fun vs => F_law04TallySwaps.l1 (R (m + 3)) (vs.headD undef) (vs.tail.headD undef) (vs.tail.tail.headD undef) (vs.tail.tail.tail.headD undef) (vs.tail.tail.tail.tail.headD undef) (vs.tail.tail.tail.tail.tail.headD undef)) [pt id, iv k, iv s, .slice (some ⟨lid, 0, none⟩) n c, iv n, iv i] H = some (.ext 0 [pt id, iv k, iv s'], H') ∧ H'[id]? = some (tly (zeros.set k.toNat s')) ∧ In64 s'
  | 0, i, s, H, hd, hin, hl, ht, hs => by
    have : i = n := by omega
    subst this
    refine ⟨s, H, loop_ext ?_, ht, hs⟩
    simp [F_law04TallySwaps.l1, ↓bind_andk, andk_some, ↓jn_outk, outk_nrm, outk_ext, outk_ret, ↓cnd_b, ret_r, nilc_r, fa_r, ldOne_r, ldA_r, stOne_r, stA_r, rdk_r, rdkA_r, wrk_r, wrkA_r, alc_r, lenS_r, lenT_r, cvi_r, pick_r, not_r, mx_r, mn_r, ixa_r, ixaA_r, bld_r, add_r, sub_r, mul_r, quo_r, rem_r, eql_r, neq_r, lss_r, leq_r, gtr_r, geq_r, eqb_r, neb_r, eqp_r, nep_r, ↓gv_r, gvn_r, ↓g_r, gn_r]
  | d + 1, i, s, H, hd, hin, hl, ht, hs => by
    have hi : i < xs.length := by omega
    obtain ⟨H1, e, g1, g2⟩ := swaps_round (m := m) (c := c) hl (show i < n by omega) (List.getElem?_eq_getElem hi) (hxi _ (List.getElem_mem hi)) ht hs hk hal hn
    obtain ⟨s2, H2, e2, h2⟩ := swaps_loop (m := m) (c := c) hk hal hn hxs hxi d (i + 1) (by omega) (by omega) g1 g2 (w64_in _)
    exact ⟨s2, H2, (loop_next e).trans e2, h2⟩

theorem swaps_core {at_ : Int} {ad : Option Addr} {n c : Nat} {H : Heap} (hat : 0 ≤ at_ ∧ at_ ≤ 255)
    (hloop : n ≤ 60 → ∀ {a : Nat} {H1 : Heap} {k : Int}, HLe H H1 → H.length ≤ a → H1[a]? = some (tly (zeros.set k.toNat 0)) → inT k →
      ∃ s' H', loopM (fun vs => F_law04TallySwaps.l1 (R 5) (vs.headD undef) (vs.tail.headD undef) (vs.tail.tail.headD undef) (vs.tail.tail.tail.headD undef) (vs.tail.tail.tail.tail.headD undef) (vs.tail.tail.tail.tail.tail.headD undef)) [pt a, iv k, iv 0, .slice ad n c, iv n, iv 0] H1 = some (.ext 0 [pt a, iv k, iv s'], H') ∧ H'[a]? = some (tly (zeros.set k.toNat s')) ∧ In64 s') :
    ∃ H', R 6 n_law04TallySwaps [.slice ad n c, .int .u8 at_] H = some (.bool true, H') := by
  obtain ⟨H1, e1, k1⟩ := r_tlives 1 H
  rw [R, run_law04TallySwaps rfl]
  by_cases hn : n ≤ 60
  · have hng : ¬ ((n : Int) > 60) := by omega
    have hm : at_.tmod 16 = at_ % 16 := Int.tmod_eq_emod_of_nonneg hat.1
    have hw : IntKind.i64.wrap (at_ % 16) = at_ % 16 := w64 (by omega) (by omega)
    have hz : zeros.set (at_ % 16).toNat 0 = zeros := List.set_replicate_self
    have hk : inT (at_ % 16) := by unfold inT; omega
    obtain ⟨s, H2, e2, g2, hs⟩ := hloop hn (a := H1.length) (H1 := H1 ++ [tly zeros]) (k := at_ % 16) (k1.trans (.app _ _)) k1.len (by rw [hz]; exact app_new) hk
    have e3 := r_get (n := 2) (k := at_ % 16) g2 (by simp [zeros])
    rw [tget_set rfl hk] at e3
    obtain ⟨H3, e4, _⟩ := r_sum (n := 1) g2 (by simp [zeros])
    rw [wsum_one (by omega) hs] at e4
    refine ⟨H3, ?_⟩
    have h16 : ¬ ((16 : Int) = 0) := by omega
    simp only [F_law04TallySwaps, ↓bind_andk, andk_some, ↓jn_outk, outk_nrm, outk_ext, outk_ret, ↓cnd_b, ret_r, nilc_r, fa_r, ldOne_r, ldA_r, stOne_r, stA_r, rdk_r, rdkA_r, wrk_r, wrkA_r, alc_r, lenS_r, lenT_r, cvi_r, pick_r, not_r, mx_r, mn_r, ixa_r, ixaA_r, bld_r, add_r, sub_r, mul_r, quo_r, rem_r, eql_r, neq_r, lss_r, leq_r, gtr_r, geq_r, eqb_r, neb_r, eqp_r, nep_r, ↓gv_r, gvn_r, ↓g_r, gn_r, Bool.not_true, Bool.not_false, Bool.false_eq_true, Bool.true_eq_false, reduceIte, List.tail_cons, List.headD_cons, decide_true, decide_false, cond_true, cond_false, Nat.beq_refl, e1, r_tnew, hng, hm, hw, e2, h16, e3, e4, beq_self_eq_true]
  · have hng : ((n : Int) > 60) := by omega
    obtain ⟨H2, e2, _⟩ := r_tlives 1 H1
    refine ⟨H2, ?_⟩
    simp only [F_law04TallySwaps, ↓bind_andk, andk_some, ↓jn_outk, outk_nrm, outk_ext, outk_ret, ↓cnd_b, ret_r, nilc_r, fa_r, ldOne_r, ldA_r, stOne_r, stA_r, rdk_r, rdkA_r, wrk_r, wrkA_r, alc_r, lenS_r, lenT_r, cvi_r, pick_r, not_r, mx_r, mn_r, ixa_r, ixaA_r, bld_r, add_r, sub_r, mul_r, quo_r, rem_r, eql_r, neq_r, lss_r, leq_r, gtr_r, geq_r, eqb_r, neb_r, eqp_r, nep_r, ↓gv_r, gvn_r, ↓g_r, gn_r, Bool.not_true, Bool.not_false, Bool.false_eq_true, Bool.true_eq_false, reduceIte, List.tail_cons, List.headD_cons, decide_true, decide_false, cond_true, cond_false, Nat.beq_refl, e1, e2, hng]

theorem law_TallySwaps : ∀ (xs : Ins [.slc (.int .i64), .int .u8]) (H : Heap) (vs : List Value), InsWf [.slc (.int .i64), .int .u8] xs → InsRd [.slc (.int .i64), .int .u8] xs H vs → ∃ n H', R n n_law04TallySwaps vs H = some (.bool true, H') := by
  intro xs H vs hwf hrd
  obtain ⟨l, at_, _⟩ := xs
  obtain ⟨hl, hat, _⟩ := hwf
  obtain ⟨c1, _, rfl, _, h1, c2, _, rfl, _, h2, rfl⟩ := hrd
  have h2 : c2 = [.int .u8 at_] := h2
  subst h2
  refine ⟨6, ?_⟩
  rcases rd_slc h1 with rfl | rfl | ⟨q, n, c, id, cells, rfl, hn, hid, hcl, hcs, a, b, rfl, rfl, rfl⟩
  · refine swaps_core (wf_u8 hat) fun _ a H1 k hle ha g hk => ⟨0, H1, loop_ext ?_, g, by omega⟩
    simp [F_law04TallySwaps.l1, ↓bind_andk, andk_some, ↓jn_outk, outk_nrm, outk_ext, outk_ret, ↓cnd_b, ret_r, nilc_r, fa_r, ldOne_r, ldA_r, stOne_r, stA_r, rdk_r, rdkA_r, wrk_r, wrkA_r, alc_r, lenS_r, lenT_r, cvi_r, pick_r, not_r, mx_r, mn_r, ixa_r, ixaA_r, bld_r, add_r, sub_r, mul_r, quo_r, rem_r, eql_r, neq_r, lss_r, leq_r, gtr_r, geq_r, eqb_r, neb_r, eqp_r, nep_r, ↓gv_r, gvn_r, ↓g_r, gn_r]
  · refine swaps_core (wf_u8 hat) fun _ a H1 k hle ha g hk => ⟨0, H1, loop_ext ?_, g, by omega⟩
    simp [F_law04TallySwaps.l1, ↓bind_andk, andk_some, ↓jn_outk, outk_nrm, outk_ext, outk_ret, ↓cnd_b, ret_r, nilc_r, fa_r, ldOne_r, ldA_r, stOne_r, stA_r, rdk_r, rdkA_r, wrk_r, wrkA_r, alc_r, lenS_r, lenT_r, cvi_r, pick_r, not_r, mx_r, mn_r, ixa_r, ixaA_r, bld_r, add_r, sub_r, mul_r, quo_r, rem_r, eql_r, neq_r, lss_r, leq_r, gtr_r, geq_r, eqb_r, neb_r, eqp_r, nep_r, ↓gv_r, gvn_r, ↓g_r, gn_r]
  · have hcells : cells = (a ++ b).map iv := cells_one hcs hcl
    subst hcells
    have hxi : ∀ x ∈ a ++ b, In64 x := fun x hx => wf_i64 ((List.mem_append.1 hx).elim (hl.1 x) (hl.2.1 x))
    refine swaps_core (wf_u8 hat) fun hn60 p H1 k hle ha g hk => ?_
    have hlt := get_lt hid
    exact swaps_loop (m := 2) (c := c) hk (show id ≠ p by omega) hn60 hn hxi a.length 0 (by omega) (by omega) (hle _ _ hid) g (by omega)

end Go.Proofs.Ytkjoaediojdodab.A
