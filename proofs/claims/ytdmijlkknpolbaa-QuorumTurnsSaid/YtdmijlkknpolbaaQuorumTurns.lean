/- Of any n views, one behind the other, each node is the primary of one. -/
import Derived.Test.YtdmijlkknpolbaaQuo
namespace Go.Proofs.Ytdmijlkknpolbaa.A
set_option linter.unusedVariables false
set_option linter.unusedSimpArgs false
open Go.Proofs Go.Proofs.Ytdmijlkknpolbaa

def prim (v : Nat) (m : Int) : Nat := if enough m = 0 then 0 else v % m.toNat

section
variable {H : Heap} {n v : Nat} {m : Int}

theorem prim_lt (h : enough m ≠ 0) : prim v m < m.toNat ∧ prim v m < 7 ∧ prim v m = v % m.toNat := by
  unfold prim
  rw [if_neg h]
  have h1 : 0 < m.toNat ∧ m.toNat ≤ 7 := by have := enough_cases h; omega
  have h2 := Nat.mod_lt v h1.1
  exact ⟨h2, by omega, rfl⟩

theorem r_primary (hv : v < 18446744073709551616) : R (n + 2) n_quorumPrimary [uv v, iv m] H = some (.int .u8 (prim v m), H) := by
  have e1 : run Try.prog np lvs (n + 1) n_quorumEnough [iv m] H = some (iv (enough m), H) := r_enough m
  rw [R, run_quorumPrimary rfl]
  by_cases h : enough m = 0
  · simp [F_quorumPrimary, ↓bind_andk, andk_some, ↓jn_outk, outk_nrm, outk_ext, outk_ret, ↓cnd_b, ret_r, nilc_r, fa_r, ldOne_r, ldA_r, stOne_r, stA_r, rdk_r, rdkA_r, wrk_r, wrkA_r, alc_r, lenS_r, lenT_r, cvi_r, pick_r, not_r, mx_r, mn_r, ixa_r, ixaA_r, bld_r, add_r, sub_r, mul_r, quo_r, rem_r, eql_r, neq_r, lss_r, leq_r, gtr_r, geq_r, eqb_r, neb_r, eqp_r, nep_r, ↓gv_r, gvn_r, ↓g_r, gn_r, Bool.not_true, Bool.not_false, Bool.false_eq_true, Bool.true_eq_false, reduceIte, List.tail_cons, List.headD_cons, decide_true, decide_false, cond_true, cond_false, Nat.beq_refl, c0_r, c1_r, c2_r, c3_r, c4_r, c5_r, c6_r, c7_r, c8_r, c9_r, c10_r, c11_r, c12_r, xk_hit, List.replicate, extr_p0, extr_p1, extr_q0, extr_q1, extr_q2, fa_z, adds_v, lenT_v, retR, e1, h, prim]
  · have hp := prim_lt (v := v) h
    have hz : ¬ ((enough m : Int) = 0) := by omega
    have hm : IntKind.u64.wrap m = (m.toNat : Int) ∧ m.toNat ≠ 0 := by
      rw [wu64]
      rcases enough_cases h with ⟨rfl, _⟩ | ⟨rfl, _⟩ | ⟨rfl, _⟩ <;> exact ⟨by decide, by decide⟩
    have hm0 : ¬ ((m.toNat : Int) = 0) := by omega
    have ht : (v : Int).tmod (m.toNat : Int) = (prim v m : Int) := by rw [hp.2.2, Int.tmod_eq_emod_of_nonneg (by omega)]; omega
    have hw : IntKind.u8.wrap (prim v m : Int) = prim v m := by rw [wu8]; omega
    unfold F_quorumPrimary
    rw [bind_eq e1, bind_eq eql_r, cnd_b, if_neg (by simpa using hz), bind_eq cvi_r, hm.1, bind_eq (rem_r.trans (if_neg hm0)), ht, bind_eq cvi_r, hw]
    rfl

theorem r_refPrimary (hv : v < 18446744073709551616) : R (n + 2) n_ref27Primary [uv v, iv m] H = some (.int .u8 (prim v m), H) := by
  have e1 : run Try.prog np lvs (n + 1) n_ref27Enough [iv m] H = some (iv (enough m), H) := r_refEnough m
  rw [R, run_ref27Primary rfl]
  by_cases h : enough m = 0
  · simp [F_ref27Primary, ↓bind_andk, andk_some, ↓jn_outk, outk_nrm, outk_ext, outk_ret, ↓cnd_b, ret_r, nilc_r, fa_r, ldOne_r, ldA_r, stOne_r, stA_r, rdk_r, rdkA_r, wrk_r, wrkA_r, alc_r, lenS_r, lenT_r, cvi_r, pick_r, not_r, mx_r, mn_r, ixa_r, ixaA_r, bld_r, add_r, sub_r, mul_r, quo_r, rem_r, eql_r, neq_r, lss_r, leq_r, gtr_r, geq_r, eqb_r, neb_r, eqp_r, nep_r, ↓gv_r, gvn_r, ↓g_r, gn_r, Bool.not_true, Bool.not_false, Bool.false_eq_true, Bool.true_eq_false, reduceIte, List.tail_cons, List.headD_cons, decide_true, decide_false, cond_true, cond_false, Nat.beq_refl, c0_r, c1_r, c2_r, c3_r, c4_r, c5_r, c6_r, c7_r, c8_r, c9_r, c10_r, c11_r, c12_r, xk_hit, List.replicate, extr_p0, extr_p1, extr_q0, extr_q1, extr_q2, fa_z, adds_v, lenT_v, retR, e1, h, prim]
  · have hp := prim_lt (v := v) h
    have hz : ¬ ((enough m : Int) = 0) := by omega
    have hm : IntKind.u64.wrap m = (m.toNat : Int) ∧ m.toNat ≠ 0 := by
      rw [wu64]
      rcases enough_cases h with ⟨rfl, _⟩ | ⟨rfl, _⟩ | ⟨rfl, _⟩ <;> exact ⟨by decide, by decide⟩
    have hm0 : ¬ ((m.toNat : Int) = 0) := by omega
    have ht : (v : Int).tmod (m.toNat : Int) = (prim v m : Int) := by rw [hp.2.2, Int.tmod_eq_emod_of_nonneg (by omega)]; omega
    have hw : IntKind.u8.wrap (prim v m : Int) = prim v m := by rw [wu8]; omega
    unfold F_ref27Primary
    rw [bind_eq e1, bind_eq eql_r, cnd_b, if_neg (by simpa using hz), bind_eq cvi_r, hm.1, bind_eq (rem_r.trans (if_neg hm0)), ht, bind_eq cvi_r, hw]
    rfl

/-- Which nodes were seen. -/
def seenC (v k i : Nat) : List Value := (List.range 7).map fun q => .bool ((List.range i).any fun j => (v + j) % k == q)

theorem seen_get {k i p : Nat} (hi : i < k) (h7 : k ≤ 7) (hp : (v + i) % k = p) : (seenC v k i)[p]? = some (.bool false) := by
  have hp7 : p < 7 := by have := Nat.mod_lt (v + i) (show 0 < k by omega); omega
  unfold seenC
  rw [List.getElem?_map, List.getElem?_range hp7]
  simp only [Option.map_some]
  congr 2
  rw [List.any_eq_false]
  intro j hj
  have hj := List.mem_range.1 hj
  simp only [beq_iff_eq]
  intro e
  have h1 := Nat.div_add_mod (v + j) k
  have h2 := Nat.div_add_mod (v + i) k
  rw [e] at h1
  rw [hp] at h2
  have h3 : k * ((v + i) / k) - k * ((v + j) / k) = i - j := by omega
  rw [← Nat.mul_sub] at h3
  rcases Nat.eq_zero_or_pos ((v + i) / k - (v + j) / k) with h | h
  · rw [h] at h3; omega
  · have := Nat.mul_le_mul_left k h; omega

theorem seen_set {k i p : Nat} (h7 : p < 7) (hp : (v + i) % k = p) : (seenC v k i).set p (.bool true) = seenC v k (i + 1) := by
  unfold seenC
  apply List.ext_getElem?
  intro q
  rw [List.getElem?_set, List.getElem?_map, List.getElem?_map]
  simp only [List.length_map, List.length_range]
  by_cases e : p = q
  · subst e
    rw [if_pos rfl, if_pos h7, List.getElem?_range h7]
    simp only [Option.map_some, List.range_succ, List.any_append, List.any_cons, List.any_nil, hp, beq_self_eq_true, Bool.or_false, Bool.or_true]
  · rw [if_neg e]
    rcases Nat.lt_or_ge q 7 with h | h
    · rw [List.getElem?_range h]
      have : ((v + i) % k == q) = false := by rw [hp]; simpa using e
      simp only [Option.map_some, List.range_succ, List.any_append, List.any_cons, List.any_nil, this, Bool.or_false]
    · rw [List.getElem?_eq_none (by simpa using h)]; rfl

theorem turns_do {c : Nat} (hm : enough m ≠ 0) (hv : v ≤ 9223372036854775808) : ∀ (t i : Nat) {H : Heap}, m.toNat - i = t → i ≤ m.toNat → H[c]? = some (.cells (seenC v m.toNat i) 1 false false) →
    ∃ H', loopM (c5 (F_law27QuorumTurns.l1 (R (n + 2)))) [uv v, iv m, pt c, uv m.toNat, uv i] H = some (.ext 0 [], H')
  | 0, i, H, ht, hi, hc => by
    have : i = m.toNat := by omega
    subst this
    refine ⟨H, loop_ext ?_⟩
    simp [F_law27QuorumTurns.l1, ↓bind_andk, andk_some, ↓jn_outk, outk_nrm, outk_ext, outk_ret, ↓cnd_b, ret_r, nilc_r, fa_r, ldOne_r, ldA_r, stOne_r, stA_r, rdk_r, rdkA_r, wrk_r, wrkA_r, alc_r, lenS_r, lenT_r, cvi_r, pick_r, not_r, mx_r, mn_r, ixa_r, ixaA_r, bld_r, add_r, sub_r, mul_r, quo_r, rem_r, eql_r, neq_r, lss_r, leq_r, gtr_r, geq_r, eqb_r, neb_r, eqp_r, nep_r, ↓gv_r, gvn_r, ↓g_r, gn_r, Bool.not_true, Bool.not_false, Bool.false_eq_true, Bool.true_eq_false, reduceIte, List.tail_cons, List.headD_cons, decide_true, decide_false, cond_true, cond_false, Nat.beq_refl, c0_r, c1_r, c2_r, c3_r, c4_r, c5_r, c6_r, c7_r, c8_r, c9_r, c10_r, c11_r, c12_r, xk_hit, List.replicate, extr_p0, extr_p1, extr_q0, extr_q1, extr_q2, fa_z, adds_v, lenT_v, retR]
  | t + 1, i, H, ht, hi, hc => by
    have hec := enough_cases hm
    have hik : i < m.toNat := by omega
    have h7 : m.toNat ≤ 7 := by omega
    have hp := prim_lt (v := v + i) hm
    have hlt : (i : Int) < m.toNat := by omega
    have w1 : IntKind.u64.wrap ((v : Int) + i) = ((v + i : Nat) : Int) := by rw [wu64]; omega
    have w2 : IntKind.u64.wrap ((i : Int) + 1) = ((i + 1 : Nat) : Int) := by rw [wu64]; omega
    have w3 : IntKind.i64.wrap (prim (v + i) m : Int) = prim (v + i) m := w64 (by omega) (by omega)
    have e1 := r_primary (n := n) (H := H) (v := v + i) (m := m) (by omega)
    have g1 := seen_get (v := v) hik h7 hp.2.2.symm
    have hs := seen_set (v := v) hp.2.1 hp.2.2.symm
    generalize prim (v + i) m = p at e1 g1 hs w3 hp
    have hge : ¬ ((p : Int) ≥ m) := by omega
    have hge' : decide ((p : Int) ≥ m) = false := decide_eq_false hge
    have x1 : ixaA 7 1 (pt c) (.int .u8 p) H = some (pa c p, H) := by rw [ixaA_r, if_pos (by omega)]; simp
    have f1 : ld1 (pa c p) H = some (.bool false, H) := ld1_at hc g1
    have f2 : st1 (pa c p) (.bool true) H = some (undef, _) := st1_at hc (by simp [seenC]; omega) rfl
    rw [hs] at f2
    obtain ⟨H2, e2⟩ := turns_do hm hv t (i + 1) (by omega) (by omega) (set_get (b := .cells (seenC v m.toNat (i + 1)) 1 false false) hc)
    refine ⟨H2, (loop_next (vs' := [uv v, iv m, pt c, uv m.toNat, uv (i + 1)]) ?_).trans e2⟩
    rw [c5_r]
    unfold F_law27QuorumTurns.l1
    rw [bind_eq lss_r, cnd_b, if_pos (by simpa using hlt), bind_eq add_r, w1, bind_eq e1, bind_eq cvi_r, w3, bind_eq geq_r, hge', b_g_in, b_assoc, bind_eq x1, b_assoc, bind_eq f1, b_ret, c3_r, bind_eq pick_r]
    simp only [cond_false]
    rw [cnd_b, if_neg (by simp), bind_eq x1, bind_eq f2, bind_eq add_r, w2]
    rfl

theorem turns_core (hv : v < 18446744073709551616) (hm1 : -9223372036854775808 ≤ m) (hm2 : m ≤ 9223372036854775807) : ∃ H', R 10 n_law27QuorumTurns [uv v, iv m] H = some (.bool true, H') := by
  obtain ⟨H1, e1, le1⟩ := r_lives (n := 0) H
  have e2 := r_primary (n := 7) (H := H1) (v := v) (m := m) hv
  have e3 := r_refPrimary (n := 7) (H := H1) (v := v) (m := m) hv
  have e4 := r_refEnough (n := 8) (H := H1) m
  have e1 : run Try.prog np lvs 9 n_law27Lives [] H = some (.bool true, H1) := e1
  have e2 : run Try.prog np lvs 9 n_quorumPrimary [uv v, iv m] H1 = some (.int .u8 (prim v m), H1) := e2
  have e3 : run Try.prog np lvs 9 n_ref27Primary [uv v, iv m] H1 = some (.int .u8 (prim v m), H1) := e3
  have e4 : run Try.prog np lvs 9 n_ref27Enough [iv m] H1 = some (iv (enough m), H1) := e4
  rw [R, run_law27QuorumTurns rfl]
  by_cases hm : enough m = 0
  · refine ⟨H1, ?_⟩
    simp [F_law27QuorumTurns, ↓bind_andk, andk_some, ↓jn_outk, outk_nrm, outk_ext, outk_ret, ↓cnd_b, ret_r, nilc_r, fa_r, ldOne_r, ldA_r, stOne_r, stA_r, rdk_r, rdkA_r, wrk_r, wrkA_r, alc_r, lenS_r, lenT_r, cvi_r, pick_r, not_r, mx_r, mn_r, ixa_r, ixaA_r, bld_r, add_r, sub_r, mul_r, quo_r, rem_r, eql_r, neq_r, lss_r, leq_r, gtr_r, geq_r, eqb_r, neb_r, eqp_r, nep_r, ↓gv_r, gvn_r, ↓g_r, gn_r, Bool.not_true, Bool.not_false, Bool.false_eq_true, Bool.true_eq_false, reduceIte, List.tail_cons, List.headD_cons, decide_true, decide_false, cond_true, cond_false, Nat.beq_refl, c0_r, c1_r, c2_r, c3_r, c4_r, c5_r, c6_r, c7_r, c8_r, c9_r, c10_r, c11_r, c12_r, xk_hit, List.replicate, extr_p0, extr_p1, extr_q0, extr_q1, extr_q2, fa_z, adds_v, lenT_v, retR, e1, e2, e3, e4, hm]
  · have hz : ¬ ((enough m : Int) = 0) := by omega
    by_cases hg : v > 9223372036854775808
    · refine ⟨H1, ?_⟩
      have hg' : (v : Int) > 9223372036854775808 := by omega
      simp [F_law27QuorumTurns, ↓bind_andk, andk_some, ↓jn_outk, outk_nrm, outk_ext, outk_ret, ↓cnd_b, ret_r, nilc_r, fa_r, ldOne_r, ldA_r, stOne_r, stA_r, rdk_r, rdkA_r, wrk_r, wrkA_r, alc_r, lenS_r, lenT_r, cvi_r, pick_r, not_r, mx_r, mn_r, ixa_r, ixaA_r, bld_r, add_r, sub_r, mul_r, quo_r, rem_r, eql_r, neq_r, lss_r, leq_r, gtr_r, geq_r, eqb_r, neb_r, eqp_r, nep_r, ↓gv_r, gvn_r, ↓g_r, gn_r, Bool.not_true, Bool.not_false, Bool.false_eq_true, Bool.true_eq_false, reduceIte, List.tail_cons, List.headD_cons, decide_true, decide_false, cond_true, cond_false, Nat.beq_refl, c0_r, c1_r, c2_r, c3_r, c4_r, c5_r, c6_r, c7_r, c8_r, c9_r, c10_r, c11_r, c12_r, xk_hit, List.replicate, extr_p0, extr_p1, extr_q0, extr_q1, extr_q2, fa_z, adds_v, lenT_v, retR, e1, e2, e3, e4, hz, hg', hm]
    · have hg' : ¬ (v : Int) > 9223372036854775808 := by omega
      have e5 : alc 1 (.agg #[.bool false, .bool false, .bool false, .bool false, .bool false, .bool false, .bool false]) H1 = some (pt H1.length, _) := alc_a (vs := seenC v m.toNat 0) rfl
      have hw : IntKind.u64.wrap m = (m.toNat : Int) := by
        rw [wu64]
        have := enough_cases hm
        omega
      obtain ⟨H2, e6⟩ := turns_do (n := 7) (v := v) (c := H1.length) hm (by omega) m.toNat 0 (by omega) (by omega) app_new
      refine ⟨H2, ?_⟩
      unfold F_law27QuorumTurns
      have q1 : bop .int .neq (.int .u8 (prim v m : Int)) (.int .u8 (prim v m : Int)) H1 = some (.bool false, H1) := by rw [neq_r]; simp
      have q2 : bop .int .eql (iv (enough m)) (iv 0) H1 = some (.bool false, H1) := by rw [eql_r]; simpa using hz
      have q3 : bop .int .gtr (uv v) (.int .u64 9223372036854775808) H1 = some (.bool false, H1) := by rw [gtr_r, decide_eq_false hg']
      rw [show uv 0 = .int .u64 0 from rfl] at e6
      have e6 : loopM (c5 (F_law27QuorumTurns.l1 (run Try.prog np lvs 9))) [uv v, iv m, pt H1.length, .int .u64 m.toNat, .int .u64 0] (H1 ++ [.cells (seenC v m.toNat 0) 1 false false]) = some (.ext 0 [], H2) := e6
      rw [bind_eq e1, bind_eq not_r]
      simp only [Bool.not_true]
      rw [b_g_in, b_assoc, bind_eq e2, b_assoc, bind_eq e3, b_assoc, bind_eq q1, b_ret, c7_r, bind_eq pick_r]
      simp only [cond_false]
      rw [cnd_b, if_neg (by simp), bind_eq e4, bind_eq q2, b_g_in, b_assoc, bind_eq q3, b_ret, c2_r, bind_eq pick_r]
      simp only [cond_false]
      rw [cnd_b, if_neg (by simp), bind_eq e5, bind_eq cvi_r, hw, jn_ext e6, xk_hit]
      rfl

theorem law_QuorumTurns : ∀ (xs : Ins [.int .u64, .int .i64]) (H : Heap) (vs : List Value), InsWf [.int .u64, .int .i64] xs → InsRd [.int .u64, .int .i64] xs H vs → ∃ n H', R n n_law27QuorumTurns vs H = some (.bool true, H') := by
  intro xs H vs hwf hrd
  obtain ⟨V, M, _⟩ := xs
  obtain ⟨hV, hM, _⟩ := hwf
  obtain ⟨c1, _, rfl, hc1, h1, c2, _, rfl, hc2, h2, rfl⟩ := hrd
  have hV := wf_u64 hV
  have hM := wf_i64 hM
  have h1 : c1 = [.int .u64 V] := h1
  have h2 : c2 = [.int .i64 M] := h2
  subst h1
  subst h2
  have hV0 : (0 : Int) ≤ V := hV.1
  obtain ⟨v, hv⟩ : ∃ v : Nat, V = (v : Int) := ⟨Int.toNat V, (Int.toNat_of_nonneg hV0).symm⟩
  subst hv
  exact ⟨10, turns_core (Int.ofNat_lt.1 (Int.lt_of_le_of_lt hV.2 (by decide))) hM.1 hM.2⟩

end

end Go.Proofs.Ytdmijlkknpolbaa.A
