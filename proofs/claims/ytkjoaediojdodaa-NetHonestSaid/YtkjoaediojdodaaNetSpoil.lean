/- The net: bits are spoilt. -/
import Derived.Test.YtkjoaediojdodaaNetOps
import Derived.Test.YtkjoaediojdodaaBits
namespace Go.Proofs.Ytkjoaediojdodaa.A
set_option linter.unusedVariables false
set_option linter.unusedSimpArgs false
open Go.Proofs Go.Proofs.Ytkjoaediojdodaa

/-- A cell of a row that is read and written. -/
theorem RowS.put2 {H : Heap} {sl v : Value} {vs : List Value} {own : List Nat} (h : RowS H sl vs own) {i : Nat} (hi : vs[i]? = some v) (q : IntKind) :
    ∃ id o cs es g, (∀ H', ixa 1 sl (.int q i) H' = some (pa id o, H')) ∧ H[id]? = some (.cells cs es g false) ∧ cs[o]? = some v ∧ o < cs.length ∧ own = [id] ∧
      ∀ u, RowS (H.set id (.cells (cs.set o u) es g false)) sl (vs.set i u) own := by
  have hlt : i < vs.length := (List.getElem?_eq_some_iff.1 hi).1
  rcases h with ⟨rfl, rfl, rfl⟩ | ⟨sid, rest, g, rfl, rfl, hid⟩
  · simp at hi
  · refine ⟨sid, i, vs ++ rest, 1, g, fun H' => ?_, hid, ?_, by simp; omega, rfl, fun u => ?_⟩
    · rw [ixa_r, if_pos (by omega)]; simp
    · rw [List.getElem?_append_left hlt]; exact hi
    · refine .inr ⟨sid, rest, g, by simp, rfl, ?_⟩
      rw [set_get hid, List.set_append_left _ _ hlt]

theorem u8s_get {p : List UInt8} {i : Nat} (h : i < p.length) : (u8s p)[i]? = some (.int .u8 (p.getD i 0).toNat) := by
  simp [u8s, h, List.getD_eq_getElem?_getD]

theorem u8s_tog {p : List UInt8} {m : Nat} : (u8s p).set (m / 8) (.int .u8 (tgl (p.getD (m / 8) 0) (m % 8)).toNat) = u8s (togL p m) := by
  unfold togL u8s
  rw [List.map_set]

theorem spoil_loop {m f t L : Nat} {v : Value} {q : List Nat} (hL : L ≤ 100000) (hf : f < 8 * L) (ht : t < 4294967296) : ∀ (d n : Nat) {a : Bool} {p : List UInt8} {H : Heap}, 32 - n = d → n ≤ 32 → p.length = L → RowS H v (u8s p) q →
    ∃ H', loopM (fun vs => F_netNetSpoil.l1 (R m) (vs.headD undef) (vs.tail.headD undef) (vs.tail.tail.headD undef) (vs.tail.tail.tail.headD undef) (vs.tail.tail.tail.tail.headD undef)) [.int .u32 t, v, .int .u64 f, .bool a, .int .u64 n] H = some (.ext 0 [.bool (a || anyD t f L d n)], H') ∧
      RowS H' v (u8s (splD t f d n p)) q ∧ Step q H q H' ∧ H'.length = H.length
  | 0, n, a, p, H, hd, hn, hp, hr => by
    have : n = 32 := by omega
    subst this
    refine ⟨H, loop_ext ?_, hr, .refl _ _, rfl⟩
    simp [F_netNetSpoil.l1, ↓bind_andk, andk_some, ↓jn_outk, outk_nrm, outk_ext, outk_ret, ↓cnd_b, ret_r, nilc_r, fa_r, ldOne_r, ldA_r, stOne_r, stA_r, rdk_r, rdkA_r, wrk_r, wrkA_r, alc_r, lenS_r, lenT_r, cvi_r, pick_r, not_r, mx_r, mn_r, ixa_r, ixaA_r, bld_r, add_r, sub_r, mul_r, quo_r, rem_r, eql_r, neq_r, lss_r, leq_r, gtr_r, geq_r, eqb_r, neb_r, eqp_r, nep_r, ↓gv_r, gvn_r, ↓g_r, gn_r, anyD]
  | d + 1, n, a, p, H, hd, hn, hp, hr => by
    have hlt : ((n : Nat) : Int) < 32 := by omega
    have w1 : IntKind.u64.wrap ((f : Int) + (n : Int)) = ((f + n : Nat) : Int) := by rw [wu64]; omega
    have w2 : IntKind.u64.wrap ((n : Int) + 1) = ((n + 1 : Nat) : Int) := by rw [wu64]; omega
    have w3 : IntKind.i64.wrap (8 * (L : Int)) = ((8 * L : Nat) : Int) := by rw [w64 (by omega) (by omega)]; omega
    have w4 : IntKind.u64.wrap ((8 * L : Nat) : Int) = ((8 * L : Nat) : Int) := by rw [wu64]; omega
    have hn0 : ¬ ((n : Nat) : Int) < 0 := by omega
    have hb := bit_u32 ht (show n < 32 by omega)
    have e1 : ∀ H', lenS v H' = some (iv L, H') := fun H' => by
      have := hr.rd.len (H' := H')
      rwa [u8s_length, hp] at this
    by_cases hc : t.testBit n = true ∧ f + n < 8 * p.length
    · rw [if_pos hc.1] at hb
      have hlt2 : ((f + n : Nat) : Int) < ((8 * L : Nat) : Int) := by have := hc.2; omega
      have h8 : ¬ ((8 : Int) = 0) := by omega
      have w5 : IntKind.u64.wrap (((f + n : Nat) : Int).tdiv 8) = (((f + n) / 8 : Nat) : Int) := by
        rw [Int.tdiv_eq_ediv_of_nonneg (by omega), wu64]; omega
      have w6 : ((f + n : Nat) : Int).tmod 8 = (((f + n) % 8 : Nat) : Int) := by
        rw [Int.tmod_eq_emod_of_nonneg (by omega)]; omega
      have hk0 : ¬ (((f + n) % 8 : Nat) : Int) < 0 := by omega
      have hx := xor_u8 (b := p.getD ((f + n) / 8) 0) (Nat.mod_lt (f + n) (show 0 < 8 by omega))
      obtain ⟨id, o, cs, es, g, f1, f2, f3, f4, f5, f6⟩ := hr.put2 (u8s_get (i := (f + n) / 8) (by omega)) .u64
      have hr2 := f6 (.int .u8 (tgl (p.getD ((f + n) / 8) 0) ((f + n) % 8)).toNat)
      rw [u8s_tog] at hr2
      obtain ⟨H2, e2, r2, s2, l2⟩ := spoil_loop (m := m) hL hf ht d (n + 1) (a := true) (by omega) (by omega) (by rw [togL_len]; exact hp) hr2
      have hround : F_netNetSpoil.l1 (R m) (.int .u32 t) v (.int .u64 f) (.bool a) (.int .u64 n) H = some (.nrm [.int .u32 t, v, .int .u64 f, .bool true, .int .u64 ((n + 1 : Nat) : Int)], H.set id (.cells (cs.set o (.int .u8 (tgl (p.getD ((f + n) / 8) 0) ((f + n) % 8)).toNat)) es g false)) := by
        simp only [F_netNetSpoil.l1, ↓bind_andk, andk_some, ↓jn_outk, outk_nrm, outk_ext, outk_ret, ↓cnd_b, ret_r, nilc_r, fa_r, ldOne_r, ldA_r, stOne_r, stA_r, rdk_r, rdkA_r, wrk_r, wrkA_r, alc_r, lenS_r, lenT_r, cvi_r, pick_r, not_r, mx_r, mn_r, ixa_r, ixaA_r, bld_r, add_r, sub_r, mul_r, quo_r, rem_r, eql_r, neq_r, lss_r, leq_r, gtr_r, geq_r, eqb_r, neb_r, eqp_r, nep_r, ↓gv_r, gvn_r, ↓g_r, gn_r, Bool.not_true, Bool.not_false, Bool.false_eq_true, Bool.true_eq_false, reduceIte, List.tail_cons, List.headD_cons, decide_true, decide_false, cond_true, cond_false, Nat.beq_refl, hlt, w1, shr_r, hn0, and_r, hb, BEq.rfl, e1, w3, w4, hlt2, h8, w5, f1, f2, f3, Option.map_some, w6, shl_r, hk0, xor_r, hx, f4, oneCell, and_self, w2]
      refine ⟨H2, (loop_next hround).trans ?_, ?_, ?_, by rw [l2]; simp⟩
      · rw [e2, anyD]
        have : (t.testBit n = true ∧ f + n < 8 * L) := ⟨hc.1, by rw [← hp]; exact hc.2⟩
        simp [this]
      · rw [splD, if_pos hc]; exact r2
      · refine Step.trans ⟨by simp, fun j hj hjn => List.getElem?_set_ne fun e => hjn (by rw [f5]; simp [e]), fun j hj => .inl hj⟩ s2
    · obtain ⟨H2, e2, r2, s2, l2⟩ := spoil_loop (m := m) hL hf ht d (n + 1) (a := a) (by omega) (by omega) hp hr
      have hround : F_netNetSpoil.l1 (R m) (.int .u32 t) v (.int .u64 f) (.bool a) (.int .u64 n) H = some (.nrm [.int .u32 t, v, .int .u64 f, .bool a, .int .u64 ((n + 1 : Nat) : Int)], H) := by
        by_cases htb : t.testBit n = true
        · rw [if_pos htb] at hb
          have hlt2 : ¬ ((f + n : Nat) : Int) < ((8 * L : Nat) : Int) := fun h => hc ⟨htb, by omega⟩
          simp only [F_netNetSpoil.l1, ↓bind_andk, andk_some, ↓jn_outk, outk_nrm, outk_ext, outk_ret, ↓cnd_b, ret_r, nilc_r, fa_r, ldOne_r, ldA_r, stOne_r, stA_r, rdk_r, rdkA_r, wrk_r, wrkA_r, alc_r, lenS_r, lenT_r, cvi_r, pick_r, not_r, mx_r, mn_r, ixa_r, ixaA_r, bld_r, add_r, sub_r, mul_r, quo_r, rem_r, eql_r, neq_r, lss_r, leq_r, gtr_r, geq_r, eqb_r, neb_r, eqp_r, nep_r, ↓gv_r, gvn_r, ↓g_r, gn_r, Bool.not_true, Bool.not_false, Bool.false_eq_true, Bool.true_eq_false, reduceIte, List.tail_cons, List.headD_cons, decide_true, decide_false, cond_true, cond_false, Nat.beq_refl, hlt, w1, shr_r, hn0, and_r, hb, BEq.rfl, e1, w3, w4, hlt2, w2]
        · rw [if_neg htb] at hb
          have h01 : ((0 : Int) == 1) = false := rfl
          simp only [F_netNetSpoil.l1, ↓bind_andk, andk_some, ↓jn_outk, outk_nrm, outk_ext, outk_ret, ↓cnd_b, ret_r, nilc_r, fa_r, ldOne_r, ldA_r, stOne_r, stA_r, rdk_r, rdkA_r, wrk_r, wrkA_r, alc_r, lenS_r, lenT_r, cvi_r, pick_r, not_r, mx_r, mn_r, ixa_r, ixaA_r, bld_r, add_r, sub_r, mul_r, quo_r, rem_r, eql_r, neq_r, lss_r, leq_r, gtr_r, geq_r, eqb_r, neb_r, eqp_r, nep_r, ↓gv_r, gvn_r, ↓g_r, gn_r, Bool.not_true, Bool.not_false, Bool.false_eq_true, Bool.true_eq_false, reduceIte, List.tail_cons, List.headD_cons, decide_true, decide_false, cond_true, cond_false, Nat.beq_refl, hlt, w1, shr_r, hn0, and_r, hb, h01, w2, List.replicate]
      refine ⟨H2, (loop_next hround).trans ?_, ?_, s2, l2⟩
      · rw [e2, anyD]
        have : ¬ (t.testBit n = true ∧ f + n < 8 * L) := by rw [← hp]; exact hc
        simp [this]
      · rw [splD, if_neg hc]; exact r2

section
variable {H H' : Heap} {id n : Nat} {ps : List (List UInt8)} {lost : Int} {own : List Nat}

theorem r_spoilNo (h : Net H id ps lost own) {i : Int} {at_ t : Value} (hi : 0 ≤ i ∧ i ≤ 18446744073709551615) (hl : ps.length ≤ 1000) (hp : ps.length = 0 ∨ ∃ k : Nat, plc ps i = k ∧ ps[k]? = some []) :
    R (n + 2) n_netNetSpoil [pt id, .int .u64 i, at_, t] H = some (.bool false, H) := by
  have e := r_netPlace (n := n) h hi hl
  rw [R, run_netNetSpoil rfl]
  rcases hp with h0 | ⟨k, hk, hp⟩
  · have hpl : plc ps i = -1 := by unfold plc; rw [if_pos h0]
    rw [hpl] at e
    have hm : ((-1 : Int) < 0) := by omega
    simp only [F_netNetSpoil, ↓bind_andk, andk_some, ↓jn_outk, outk_nrm, outk_ext, outk_ret, ↓cnd_b, ret_r, nilc_r, fa_r, ldOne_r, ldA_r, stOne_r, stA_r, rdk_r, rdkA_r, wrk_r, wrkA_r, alc_r, lenS_r, lenT_r, cvi_r, pick_r, not_r, mx_r, mn_r, ixa_r, ixaA_r, bld_r, add_r, sub_r, mul_r, quo_r, rem_r, eql_r, neq_r, lss_r, leq_r, gtr_r, geq_r, eqb_r, neb_r, eqp_r, nep_r, ↓gv_r, gvn_r, ↓g_r, gn_r, Bool.not_true, Bool.not_false, Bool.false_eq_true, Bool.true_eq_false, reduceIte, List.tail_cons, List.headD_cons, decide_true, decide_false, cond_true, cond_false, Nat.beq_refl, e, hm]
  · rw [hk] at e
    obtain ⟨sl, vs, os, qs, h1, h2, h3, rfl, h5⟩ := h
    obtain ⟨v, q, hv, hq, hr⟩ := h3.at hp
    obtain ⟨aid, o, cs, es, g, ro, f1, f2, f3, f4⟩ := h2.rd.at hv .i64
    have e2 := hr.rd.len (H' := H)
    have hkk : ¬ ((k : Int) < 0) := by omega
    simp only [F_netNetSpoil, ↓bind_andk, andk_some, ↓jn_outk, outk_nrm, outk_ext, outk_ret, ↓cnd_b, ret_r, nilc_r, fa_r, ldOne_r, ldA_r, stOne_r, stA_r, rdk_r, rdkA_r, wrk_r, wrkA_r, alc_r, lenS_r, lenT_r, cvi_r, pick_r, not_r, mx_r, mn_r, ixa_r, ixaA_r, bld_r, add_r, sub_r, mul_r, quo_r, rem_r, eql_r, neq_r, lss_r, leq_r, gtr_r, geq_r, eqb_r, neb_r, eqp_r, nep_r, ↓gv_r, gvn_r, ↓g_r, gn_r, Bool.not_true, Bool.not_false, Bool.false_eq_true, Bool.true_eq_false, reduceIte, List.tail_cons, List.headD_cons, decide_true, decide_false, cond_true, cond_false, Nat.beq_refl, e, hkk, h1, List.getElem?_cons_zero, Option.map_some, Nat.zero_add, f1, f2, f3, e2, u8s, List.map_nil, List.length_nil, Int.natCast_zero, BEq.rfl]

theorem r_spoil (h : Net H id ps lost own) {i at_ : Int} {t : Nat} (hi : 0 ≤ i ∧ i ≤ 18446744073709551615) (hat : 0 ≤ at_ ∧ at_ ≤ 18446744073709551615) (ht : t < 4294967296) (hl : ps.length ≤ 1000) {k : Nat} {p : List UInt8} (hk : plc ps i = k) (hp : ps[k]? = some p) (hp0 : p ≠ []) (hb : p.length ≤ 100000) :
    ∃ H', R (n + 2) n_netNetSpoil [pt id, .int .u64 i, .int .u64 at_, .int .u32 t] H = some (.bool (anyD t (at_ % ((8 * p.length : Nat) : Int)).toNat p.length 32 0), H') ∧
      Net H' id (ps.set k (splD t (at_ % ((8 * p.length : Nat) : Int)).toNat 32 0 p)) lost own ∧ Step own H own H' := by
  have e := r_netPlace (n := n) h hi hl
  rw [hk] at e
  obtain ⟨sl, vs, os, qs, h1, h2, h3, rfl, h5⟩ := h
  obtain ⟨v, q, hv, hq, hr⟩ := h3.at hp
  have hpl : 0 < p.length := List.length_pos_iff.2 hp0
  generalize hL : p.length = L at *
  have hm0 := Int.emod_nonneg at_ (show ((8 * L : Nat) : Int) ≠ 0 by omega)
  have hm1 := Int.emod_lt_of_pos at_ (show (0 : Int) < ((8 * L : Nat) : Int) by omega)
  generalize hf : (at_ % ((8 * L : Nat) : Int)).toNat = f
  have hfi : at_ % ((8 * L : Nat) : Int) = (f : Int) := by omega
  obtain ⟨H', e3, r3, s3, l3⟩ := spoil_loop (m := n + 1) (f := f) (t := t) hb (by omega) ht 32 0 (a := false) (by omega) (by omega) hL hr
  obtain ⟨aid, o, cs, es, g, ro, f1, f2, f3, f4⟩ := h2.rd.at hv .i64
  have e2 : ∀ H', lenS v H' = some (iv L, H') := fun H' => by
    have := hr.rd.len (H' := H')
    rwa [u8s_length, hL] at this
  have hkk : ¬ ((k : Int) < 0) := by omega
  have hL0 : ((L : Int) == 0) = false := by simp; omega
  have w3 : IntKind.i64.wrap (8 * (L : Int)) = ((8 * L : Nat) : Int) := by rw [w64 (by omega) (by omega)]; omega
  have w4 : IntKind.u64.wrap ((8 * L : Nat) : Int) = ((8 * L : Nat) : Int) := by rw [wu64]; omega
  have h80 : ¬ (((8 * L : Nat) : Int) = 0) := by omega
  have w5 : at_.tmod ((8 * L : Nat) : Int) = (f : Int) := by rw [Int.tmod_eq_emod_of_nonneg hat.1, hfi]
  have h5' := h5
  simp only [List.nodup_cons, List.mem_append, not_or, List.nodup_append] at h5
  have hqm : ∀ j ∈ q, j ∈ qs.flatten := fun j hj => List.mem_flatten.2 ⟨q, List.mem_of_getElem? hq, hj⟩
  rw [Bool.false_or] at e3
  refine ⟨H', ?_, ⟨sl, vs, os, qs, s3.get h1 (fun hm => h5.1.2 (hqm _ hm)), ?_, h3.set hv hq r3 h5.2.2.1 (fun j hj hn => s3.keep j (h3.lt j hj) hn), rfl, h5'⟩, ?_⟩
  · rw [R, run_netNetSpoil rfl]
    rw [show ((0 : Nat) : Int) = 0 from rfl] at e3
    simp only [F_netNetSpoil, ↓bind_andk, andk_some, ↓jn_outk, outk_nrm, outk_ext, outk_ret, ↓cnd_b, ret_r, nilc_r, fa_r, ldOne_r, ldA_r, stOne_r, stA_r, rdk_r, rdkA_r, wrk_r, wrkA_r, alc_r, lenS_r, lenT_r, cvi_r, pick_r, not_r, mx_r, mn_r, ixa_r, ixaA_r, bld_r, add_r, sub_r, mul_r, quo_r, rem_r, eql_r, neq_r, lss_r, leq_r, gtr_r, geq_r, eqb_r, neb_r, eqp_r, nep_r, ↓gv_r, gvn_r, ↓g_r, gn_r, Bool.not_true, Bool.not_false, Bool.false_eq_true, Bool.true_eq_false, reduceIte, List.tail_cons, List.headD_cons, decide_true, decide_false, cond_true, cond_false, Nat.beq_refl, e, hkk, h1, List.getElem?_cons_zero, Option.map_some, Nat.zero_add, f1, f2, f3, e2, hL0, w3, w4, h80, w5, e3]
  · exact h2.step s3 fun j hj hm => h5.2.2.2 j hj j (hqm j hm) rfl
  · refine s3.more (fun j hj => ?_) (fun j hj => .inl hj)
    simp only [List.mem_cons, List.mem_append]
    exact .inr (.inr (hqm j hj))
end

end Go.Proofs.Ytkjoaediojdodaa.A
