/- NetSpoils, on the abstract machine. -/
import Derived.Test.YtkjoaediojdodaaNetSpoil
import Derived.Test.YtkjoaediojdodaaNetOrder
namespace Go.Proofs.Ytkjoaediojdodaa.A
set_option linter.unusedVariables false
set_option linter.unusedSimpArgs false
open Go.Proofs Go.Proofs.Ytkjoaediojdodaa

/-- Bits that differ. -/
abbrev dif (p p' : List UInt8) (m : Nat) : Bool := lb p m != lb p' m

theorem lb_at {p : List UInt8} {i k : Nat} (hk : k < 8) : lb p (8 * i + k) = bt (p.getD i 0) k := by
  unfold lb
  rw [show (8 * i + k) / 8 = i by omega, show (8 * i + k) % 8 = k by omega]

theorem spoils_bits {m i L : Nat} {b c s1 s2 s7 s8 s12 : Value} {p p' : List UInt8} {H : Heap} (hb : Sl H b (u8s p)) (hc : Sl H c (u8s p')) (hp : p.length = L) (hp' : p'.length = L) (hi : i < L) (hL : L ≤ 100) :
    ∀ (d k : Nat), 8 - k = d → k ≤ 8 →
    loopM (fun vs => F_law30NetSpoils.l2 (R m) (vs.headD undef) (vs.tail.headD undef) (vs.tail.tail.headD undef) (vs.tail.tail.tail.headD undef) (vs.tail.tail.tail.tail.headD undef) (vs.tail.tail.tail.tail.tail.headD undef) (vs.tail.tail.tail.tail.tail.tail.headD undef) (vs.tail.tail.tail.tail.tail.tail.tail.headD undef) (vs.tail.tail.tail.tail.tail.tail.tail.tail.headD undef) (vs.tail.tail.tail.tail.tail.tail.tail.tail.tail.headD undef) (vs.tail.tail.tail.tail.tail.tail.tail.tail.tail.tail.headD undef) (vs.tail.tail.tail.tail.tail.tail.tail.tail.tail.tail.tail.headD undef))
      [b, s1, s2, s7, s8, c, iv (cnt (dif p p') (8 * i + k) : Nat), s12, iv i, iv L, iv i, iv k] H = some (.ext 2 [b, s1, s2, s7, s8, c, iv (cnt (dif p p') (8 * (i + 1)) : Nat), s12, iv L, iv i], H)
  | 0, k, hd, hk => by
    have : k = 8 := by omega
    subst this
    refine loop_ext ?_
    rw [show 8 * i + 8 = 8 * (i + 1) by omega]
    simp [F_law30NetSpoils.l2, ↓bind_andk, andk_some, ↓jn_outk, outk_nrm, outk_ext, outk_ret, ↓cnd_b, ret_r, nilc_r, fa_r, ldOne_r, ldA_r, stOne_r, stA_r, rdk_r, rdkA_r, wrk_r, wrkA_r, alc_r, lenS_r, lenT_r, cvi_r, pick_r, not_r, mx_r, mn_r, ixa_r, ixaA_r, bld_r, add_r, sub_r, mul_r, quo_r, rem_r, eql_r, neq_r, lss_r, leq_r, gtr_r, geq_r, eqb_r, neb_r, eqp_r, nep_r, ↓gv_r, gvn_r, ↓g_r, gn_r]
  | d + 1, k, hd, hk => by
    have hlt : ((k : Nat) : Int) < 8 := by omega
    have hk0 : ¬ ((k : Nat) : Int) < 0 := by omega
    have w1 : IntKind.i64.wrap ((k : Int) + 1) = ((k + 1 : Nat) : Int) := by rw [w64 (by omega) (by omega)]; simp
    have hle := cnt_le (dif p p') (8 * i + k)
    have w2 : IntKind.i64.wrap (((cnt (dif p p') (8 * i + k) : Nat) : Int) + 1) = ((cnt (dif p p') (8 * i + k) + 1 : Nat) : Int) := by rw [w64 (by omega) (by omega)]; simp
    obtain ⟨bid, o, cs, es, g, ro, f1, f2, f3, f4⟩ := hb.at (u8s_get (i := i) (by omega)) .i64
    obtain ⟨bid', o', cs', es', g', ro', f1', f2', f3', f4'⟩ := hc.at (u8s_get (i := i) (by omega)) .i64
    have hx := bit_xor (a := p.getD i 0) (b := p'.getD i 0) (show k < 8 by omega)
    have hdf : dif p p' (8 * i + k) = (bt (p.getD i 0) k != bt (p'.getD i 0) k) := by
      unfold dif; rw [lb_at (by omega), lb_at (by omega)]
    have hcn : cnt (dif p p') (8 * i + (k + 1)) = cnt (dif p p') (8 * i + k) + if dif p p' (8 * i + k) then 1 else 0 := rfl
    refine Eq.trans (loop_next ?_) (spoils_bits hb hc hp hp' hi hL d (k + 1) (by omega) (by omega))
    rw [hcn, hdf]
    by_cases h : (bt (p.getD i 0) k != bt (p'.getD i 0) k) = true
    · rw [if_pos h] at hx
      simp only [F_law30NetSpoils.l2, ↓bind_andk, andk_some, ↓jn_outk, outk_nrm, outk_ext, outk_ret, ↓cnd_b, ret_r, nilc_r, fa_r, ldOne_r, ldA_r, stOne_r, stA_r, rdk_r, rdkA_r, wrk_r, wrkA_r, alc_r, lenS_r, lenT_r, cvi_r, pick_r, not_r, mx_r, mn_r, ixa_r, ixaA_r, bld_r, add_r, sub_r, mul_r, quo_r, rem_r, eql_r, neq_r, lss_r, leq_r, gtr_r, geq_r, eqb_r, neb_r, eqp_r, nep_r, ↓gv_r, gvn_r, ↓g_r, gn_r, Bool.not_true, Bool.not_false, Bool.false_eq_true, Bool.true_eq_false, reduceIte, List.tail_cons, List.headD_cons, decide_true, decide_false, cond_true, cond_false, Nat.beq_refl, hlt, f1, f2, f3, f1', f2', f3', Option.map_some, xor_r, shr_r, hk0, and_r, hx, BEq.rfl, w1, w2, h, if_true]
    · rw [if_neg h] at hx
      have h01 : ((0 : Int) == 1) = false := rfl
      have h' : (bt (p.getD i 0) k != bt (p'.getD i 0) k) = false := by simpa using h
      simp only [F_law30NetSpoils.l2, ↓bind_andk, andk_some, ↓jn_outk, outk_nrm, outk_ext, outk_ret, ↓cnd_b, ret_r, nilc_r, fa_r, ldOne_r, ldA_r, stOne_r, stA_r, rdk_r, rdkA_r, wrk_r, wrkA_r, alc_r, lenS_r, lenT_r, cvi_r, pick_r, not_r, mx_r, mn_r, ixa_r, ixaA_r, bld_r, add_r, sub_r, mul_r, quo_r, rem_r, eql_r, neq_r, lss_r, leq_r, gtr_r, geq_r, eqb_r, neb_r, eqp_r, nep_r, ↓gv_r, gvn_r, ↓g_r, gn_r, Bool.not_true, Bool.not_false, Bool.false_eq_true, Bool.true_eq_false, reduceIte, List.tail_cons, List.headD_cons, decide_true, decide_false, cond_true, cond_false, Nat.beq_refl, hlt, f1, f2, f3, f1', f2', f3', Option.map_some, xor_r, shr_r, hk0, and_r, hx, h01, w1, h', Nat.add_zero]

theorem spoils_rows {m L : Nat} {b c s1 s2 s7 s8 s12 : Value} {p p' : List UInt8} {H : Heap} (hb : Sl H b (u8s p)) (hc : Sl H c (u8s p')) (hp : p.length = L) (hp' : p'.length = L) (hL : L ≤ 100) :
    ∀ (d i : Nat), L - i = d → i ≤ L →
    loopM (fun vs => F_law30NetSpoils.l1 (R m) (vs.headD undef) (vs.tail.headD undef) (vs.tail.tail.headD undef) (vs.tail.tail.tail.headD undef) (vs.tail.tail.tail.tail.headD undef) (vs.tail.tail.tail.tail.tail.headD undef) (vs.tail.tail.tail.tail.tail.tail.headD undef) (vs.tail.tail.tail.tail.tail.tail.tail.headD undef) (vs.tail.tail.tail.tail.tail.tail.tail.tail.headD undef) (vs.tail.tail.tail.tail.tail.tail.tail.tail.tail.headD undef))
      [b, s1, s2, s7, s8, c, iv (cnt (dif p p') (8 * i) : Nat), s12, iv L, iv i] H = some (.ext 0 [b, s1, s2, s7, s8, iv (cnt (dif p p') (8 * L) : Nat), s12], H)
  | 0, i, hd, hi => by
    have : i = L := by omega
    subst this
    refine loop_ext ?_
    simp [F_law30NetSpoils.l1, ↓bind_andk, andk_some, ↓jn_outk, outk_nrm, outk_ext, outk_ret, ↓cnd_b, ret_r, nilc_r, fa_r, ldOne_r, ldA_r, stOne_r, stA_r, rdk_r, rdkA_r, wrk_r, wrkA_r, alc_r, lenS_r, lenT_r, cvi_r, pick_r, not_r, mx_r, mn_r, ixa_r, ixaA_r, bld_r, add_r, sub_r, mul_r, quo_r, rem_r, eql_r, neq_r, lss_r, leq_r, gtr_r, geq_r, eqb_r, neb_r, eqp_r, nep_r, ↓gv_r, gvn_r, ↓g_r, gn_r]
  | d + 1, i, hd, hi => by
    have hlt : ((i : Nat) : Int) < L := by omega
    have w1 : IntKind.i64.wrap ((i : Int) + 1) = ((i + 1 : Nat) : Int) := by rw [w64 (by omega) (by omega)]; simp
    have e := spoils_bits (m := m) (s1 := s1) (s2 := s2) (s7 := s7) (s8 := s8) (s12 := s12) hb hc hp hp' (show i < L by omega) hL 8 0 (by omega) (by omega)
    rw [Nat.add_zero, show ((0 : Nat) : Int) = 0 from rfl] at e
    refine Eq.trans (loop_next ?_) (spoils_rows hb hc hp hp' hL d (i + 1) (by omega) (by omega))
    simp only [F_law30NetSpoils.l1, ↓bind_andk, andk_some, ↓jn_outk, outk_nrm, outk_ext, outk_ret, ↓cnd_b, ret_r, nilc_r, fa_r, ldOne_r, ldA_r, stOne_r, stA_r, rdk_r, rdkA_r, wrk_r, wrkA_r, alc_r, lenS_r, lenT_r, cvi_r, pick_r, not_r, mx_r, mn_r, ixa_r, ixaA_r, bld_r, add_r, sub_r, mul_r, quo_r, rem_r, eql_r, neq_r, lss_r, leq_r, gtr_r, geq_r, eqb_r, neb_r, eqp_r, nep_r, ↓gv_r, gvn_r, ↓g_r, gn_r, Bool.not_true, Bool.not_false, Bool.false_eq_true, Bool.true_eq_false, reduceIte, List.tail_cons, List.headD_cons, decide_true, decide_false, cond_true, cond_false, Nat.beq_refl, hlt, e, w1]

/-- Ones that fall into a packet. -/
abbrev ones (t f L : Nat) (n : Nat) : Bool := t.testBit n && decide (f + n < 8 * L)

theorem spoils_ones {m L t : Nat} {at_ : Int} {b s7 s8 s11 : Value} {p : List UInt8} {H : Heap} (hb : Sl H b (u8s p)) (hp : p.length = L) (hL : L ≤ 100) (hL0 : 0 < L) (ht : t < 4294967296) (hat : 0 ≤ at_ ∧ at_ ≤ 18446744073709551615) :
    ∀ (d n : Nat), 32 - n = d → n ≤ 32 →
    loopM (fun vs => F_law30NetSpoils.l3 (R m) (vs.headD undef) (vs.tail.headD undef) (vs.tail.tail.headD undef) (vs.tail.tail.tail.headD undef) (vs.tail.tail.tail.tail.headD undef) (vs.tail.tail.tail.tail.tail.headD undef) (vs.tail.tail.tail.tail.tail.tail.headD undef) (vs.tail.tail.tail.tail.tail.tail.tail.headD undef))
      [b, .int .u64 at_, .int .u32 t, s7, s8, s11, iv (cnt (ones t (at_ % ((8 * L : Nat) : Int)).toNat L) n : Nat), .int .u64 n] H = some (.ext 4 [b, .int .u64 at_, .int .u32 t, s7, s8, s11, iv (cnt (ones t (at_ % ((8 * L : Nat) : Int)).toNat L) 32 : Nat)], H)
  | 0, n, hd, hn => by
    have : n = 32 := by omega
    subst this
    refine loop_ext ?_
    simp [F_law30NetSpoils.l3, ↓bind_andk, andk_some, ↓jn_outk, outk_nrm, outk_ext, outk_ret, ↓cnd_b, ret_r, nilc_r, fa_r, ldOne_r, ldA_r, stOne_r, stA_r, rdk_r, rdkA_r, wrk_r, wrkA_r, alc_r, lenS_r, lenT_r, cvi_r, pick_r, not_r, mx_r, mn_r, ixa_r, ixaA_r, bld_r, add_r, sub_r, mul_r, quo_r, rem_r, eql_r, neq_r, lss_r, leq_r, gtr_r, geq_r, eqb_r, neb_r, eqp_r, nep_r, ↓gv_r, gvn_r, ↓g_r, gn_r]
  | d + 1, n, hd, hn => by
    refine Eq.trans (loop_next ?_) (spoils_ones (t := t) hb hp hL hL0 ht hat d (n + 1) (by omega) (by omega))
    have hm0 := Int.emod_nonneg at_ (show ((8 * L : Nat) : Int) ≠ 0 by omega)
    have hm1 := Int.emod_lt_of_pos at_ (show (0 : Int) < ((8 * L : Nat) : Int) by omega)
    generalize hf : (at_ % ((8 * L : Nat) : Int)).toNat = f
    have hfi : at_ % ((8 * L : Nat) : Int) = (f : Int) := by omega
    have hlt : ((n : Nat) : Int) < 32 := by omega
    have hn0 : ¬ ((n : Nat) : Int) < 0 := by omega
    have w1 : IntKind.u64.wrap ((n : Int) + 1) = ((n + 1 : Nat) : Int) := by rw [wu64]; omega
    have hle := cnt_le (ones t f L) n
    have w2 : IntKind.i64.wrap (((cnt (ones t f L) n : Nat) : Int) + 1) = ((cnt (ones t f L) n + 1 : Nat) : Int) := by rw [w64 (by omega) (by omega)]; simp
    have w3 : IntKind.i64.wrap (8 * (L : Int)) = ((8 * L : Nat) : Int) := by rw [w64 (by omega) (by omega)]; omega
    have w4 : IntKind.u64.wrap ((8 * L : Nat) : Int) = ((8 * L : Nat) : Int) := by rw [wu64]; omega
    have h80 : ¬ (((8 * L : Nat) : Int) = 0) := by omega
    have w5 : at_.tmod ((8 * L : Nat) : Int) = (f : Int) := by rw [Int.tmod_eq_emod_of_nonneg hat.1, hfi]
    have w6 : IntKind.u64.wrap ((f : Int) + (n : Int)) = ((f + n : Nat) : Int) := by rw [wu64]; omega
    have hb1 := bit_u32 ht (show n < 32 by omega)
    have e1 : ∀ H', lenS b H' = some (iv L, H') := fun H' => by
      have := hb.len (H' := H')
      rwa [u8s_length, hp] at this
    have hLg : ((L : Nat) : Int) > 0 := by omega
    have hcn : cnt (ones t f L) (n + 1) = cnt (ones t f L) n + if ones t f L n then 1 else 0 := rfl
    rw [hcn]
    by_cases htb : t.testBit n = true
    · rw [if_pos htb] at hb1
      by_cases hfn : f + n < 8 * L
      · have hlt2 : ((f + n : Nat) : Int) < ((8 * L : Nat) : Int) := by omega
        have ho : ones t f L n = true := by simp [ones, htb, hfn]
        simp only [F_law30NetSpoils.l3, ↓bind_andk, andk_some, ↓jn_outk, outk_nrm, outk_ext, outk_ret, ↓cnd_b, ret_r, nilc_r, fa_r, ldOne_r, ldA_r, stOne_r, stA_r, rdk_r, rdkA_r, wrk_r, wrkA_r, alc_r, lenS_r, lenT_r, cvi_r, pick_r, not_r, mx_r, mn_r, ixa_r, ixaA_r, bld_r, add_r, sub_r, mul_r, quo_r, rem_r, eql_r, neq_r, lss_r, leq_r, gtr_r, geq_r, eqb_r, neb_r, eqp_r, nep_r, ↓gv_r, gvn_r, ↓g_r, gn_r, Bool.not_true, Bool.not_false, Bool.false_eq_true, Bool.true_eq_false, reduceIte, List.tail_cons, List.headD_cons, decide_true, decide_false, cond_true, cond_false, Nat.beq_refl, hlt, e1, hLg, shr_r, hn0, and_r, hb1, BEq.rfl, w3, w4, h80, w5, w6, hlt2, w2, w1, ho, if_true]
      · have hlt2 : ¬ ((f + n : Nat) : Int) < ((8 * L : Nat) : Int) := by omega
        have ho : ones t f L n = false := by simp [ones, hfn]
        simp only [F_law30NetSpoils.l3, ↓bind_andk, andk_some, ↓jn_outk, outk_nrm, outk_ext, outk_ret, ↓cnd_b, ret_r, nilc_r, fa_r, ldOne_r, ldA_r, stOne_r, stA_r, rdk_r, rdkA_r, wrk_r, wrkA_r, alc_r, lenS_r, lenT_r, cvi_r, pick_r, not_r, mx_r, mn_r, ixa_r, ixaA_r, bld_r, add_r, sub_r, mul_r, quo_r, rem_r, eql_r, neq_r, lss_r, leq_r, gtr_r, geq_r, eqb_r, neb_r, eqp_r, nep_r, ↓gv_r, gvn_r, ↓g_r, gn_r, Bool.not_true, Bool.not_false, Bool.false_eq_true, Bool.true_eq_false, reduceIte, List.tail_cons, List.headD_cons, decide_true, decide_false, cond_true, cond_false, Nat.beq_refl, hlt, e1, hLg, shr_r, hn0, and_r, hb1, BEq.rfl, w3, w4, h80, w5, w6, hlt2, w1, ho, Nat.add_zero]
    · rw [if_neg htb] at hb1
      have h01 : ((0 : Int) == 1) = false := rfl
      have htf : t.testBit n = false := by simpa using htb
      have ho : ones t f L n = false := by simp [ones, htf]
      simp only [F_law30NetSpoils.l3, ↓bind_andk, andk_some, ↓jn_outk, outk_nrm, outk_ext, outk_ret, ↓cnd_b, ret_r, nilc_r, fa_r, ldOne_r, ldA_r, stOne_r, stA_r, rdk_r, rdkA_r, wrk_r, wrkA_r, alc_r, lenS_r, lenT_r, cvi_r, pick_r, not_r, mx_r, mn_r, ixa_r, ixaA_r, bld_r, add_r, sub_r, mul_r, quo_r, rem_r, eql_r, neq_r, lss_r, leq_r, gtr_r, geq_r, eqb_r, neb_r, eqp_r, nep_r, ↓gv_r, gvn_r, ↓g_r, gn_r, Bool.not_true, Bool.not_false, Bool.false_eq_true, Bool.true_eq_false, reduceIte, List.tail_cons, List.headD_cons, decide_true, decide_false, cond_true, cond_false, Nat.beq_refl, hlt, e1, hLg, shr_r, hn0, and_r, hb1, h01, w1, ho, Nat.add_zero, List.replicate]

theorem spoils_none {m : Nat} {s1 b s7 s8 s11 t : Value} {H : Heap} (hb : Sl H b []) : ∀ (d n : Nat), 32 - n = d → n ≤ 32 →
    loopM (fun vs => F_law30NetSpoils.l3 (R m) (vs.headD undef) (vs.tail.headD undef) (vs.tail.tail.headD undef) (vs.tail.tail.tail.headD undef) (vs.tail.tail.tail.tail.headD undef) (vs.tail.tail.tail.tail.tail.headD undef) (vs.tail.tail.tail.tail.tail.tail.headD undef) (vs.tail.tail.tail.tail.tail.tail.tail.headD undef))
      [b, s1, t, s7, s8, s11, iv 0, .int .u64 n] H = some (.ext 4 [b, s1, t, s7, s8, s11, iv 0], H)
  | 0, n, hd, hn => by
    have : n = 32 := by omega
    subst this
    refine loop_ext ?_
    simp [F_law30NetSpoils.l3, ↓bind_andk, andk_some, ↓jn_outk, outk_nrm, outk_ext, outk_ret, ↓cnd_b, ret_r, nilc_r, fa_r, ldOne_r, ldA_r, stOne_r, stA_r, rdk_r, rdkA_r, wrk_r, wrkA_r, alc_r, lenS_r, lenT_r, cvi_r, pick_r, not_r, mx_r, mn_r, ixa_r, ixaA_r, bld_r, add_r, sub_r, mul_r, quo_r, rem_r, eql_r, neq_r, lss_r, leq_r, gtr_r, geq_r, eqb_r, neb_r, eqp_r, nep_r, ↓gv_r, gvn_r, ↓g_r, gn_r]
  | d + 1, n, hd, hn => by
    have hlt : ((n : Nat) : Int) < 32 := by omega
    have w1 : IntKind.u64.wrap ((n : Int) + 1) = ((n + 1 : Nat) : Int) := by rw [wu64]; omega
    have e1 := hb.len (H' := H)
    refine Eq.trans (loop_next ?_) (spoils_none hb d (n + 1) (by omega) (by omega))
    have h00 : ¬ ((0 : Int) > 0) := by omega
    simp only [F_law30NetSpoils.l3, ↓bind_andk, andk_some, ↓jn_outk, outk_nrm, outk_ext, outk_ret, ↓cnd_b, ret_r, nilc_r, fa_r, ldOne_r, ldA_r, stOne_r, stA_r, rdk_r, rdkA_r, wrk_r, wrkA_r, alc_r, lenS_r, lenT_r, cvi_r, pick_r, not_r, mx_r, mn_r, ixa_r, ixaA_r, bld_r, add_r, sub_r, mul_r, quo_r, rem_r, eql_r, neq_r, lss_r, leq_r, gtr_r, geq_r, eqb_r, neb_r, eqp_r, nep_r, ↓gv_r, gvn_r, ↓g_r, gn_r, Bool.not_true, Bool.not_false, Bool.false_eq_true, Bool.true_eq_false, reduceIte, List.tail_cons, List.headD_cons, decide_true, decide_false, cond_true, cond_false, Nat.beq_refl, hlt, e1, List.length_nil, Int.natCast_zero, h00, List.replicate, w1]

theorem spoils_core {a : Value} {p : List UInt8} {at_ : Int} {t : Nat} {H : Heap} (ha : Sl H a (u8s p)) (hat : 0 ≤ at_ ∧ at_ ≤ 18446744073709551615) (ht : t < 4294967296) : ∃ H', R 5 n_law30NetSpoils [a, .int .u64 at_, .int .u32 t] H = some (.bool true, H') := by
  have ea : ∀ H', lenS a H' = some (iv p.length, H') := fun H' => by
    have := ha.len (H' := H')
    rwa [u8s_length] at this
  obtain ⟨H1, e1, k1⟩ := r_netLives 0 H
  rw [R, run_law30NetSpoils rfl]
  by_cases hn : p.length ≤ 100
  · have hng : ¬ ((p.length : Int) > 100) := by omega
    have e2 := r_netNew 3 H1
    have N2 := net_new H1
    have k2 := k1.trans (HLe.app H1 [.cells [.slice none 0 0, iv 0] 1 false false])
    have hlen := k1.len
    generalize H1 ++ [AObj.cells [.slice none 0 0, iv 0] 1 false false] = H2 at *
    obtain ⟨H3, o3, e3, N3, s3⟩ := r_put (n := 2) N2 (by simp) (ha.mono k2) (by omega)
    obtain ⟨k3, ho3⟩ := k2.more s3 (by simp; omega)
    have hpl : plc ([] ++ [p]) 0 = ((0 : Nat) : Int) := plc_zero (by simp)
    have hp0 : ([] ++ [p])[0]? = some p := rfl
    by_cases hp : p = []
    · subst hp
      have e4 := r_spoilNo (n := 2) N3 (i := 0) (at_ := .int .u64 at_) (t := .int .u32 t) (by omega) (by simp) (.inr ⟨0, hpl, rfl⟩)
      obtain ⟨c, qc, H5, e5, r5, k5, q5⟩ := r_look (n := 2) N3 (i := 0) (by omega) (by simp) hpl hp0 (by omega)
      have N5 := N3.step k5.step (by simp)
      have e6 : ∀ H', lenS c H' = some (iv 0, H') := fun H' => r5.rd.len
      have e7 := spoils_rows (m := 4) (L := 0) (s1 := .int .u64 at_) (s2 := .int .u32 t) (s7 := pt H1.length) (s8 := .bool false) (s12 := iv 0) ((ha.mono k3).mono k5) r5.rd rfl rfl (by omega) 0 0 (by omega) (by omega)
      have e8 := spoils_none (m := 4) (s1 := .int .u64 at_) (t := .int .u32 t) (s7 := pt H1.length) (s8 := .bool false) (s11 := iv 0) ((ha.mono k3).mono k5) 32 0 (by omega) (by omega)
      have e9 := r_spoilNo (n := 2) N5 (i := 0) (at_ := .int .u64 at_) (t := .int .u32 t) (by omega) (by simp) (.inr ⟨0, hpl, rfl⟩)
      obtain ⟨c2, qc2, H6, e10, r6, k6, q6⟩ := r_look (n := 2) N5 (i := 0) (by omega) (by simp) hpl hp0 (by omega)
      have e11 := b2s_sl r6.rd
      have e12 := b2s_sl (((ha.mono k3).mono k5).mono k6)
      refine ⟨H6, ?_⟩
      rw [show ((0 : Nat) : Int) = 0 from rfl] at e8
      rw [Nat.mul_zero] at e7
      have hc0 : cnt (dif [] []) 0 = 0 := rfl
      rw [show List.length ([] : List UInt8) = 0 from rfl] at ea
      rw [hc0, show ((0 : Nat) : Int) = 0 from rfl] at e7
      have hne : ((0 : Int) != 0) = false := rfl
      have h00 : ¬ ((0 : Int) > 0) := by omega
      simp only [F_law30NetSpoils, ↓bind_andk, andk_some, ↓jn_outk, outk_nrm, outk_ext, outk_ret, ↓cnd_b, ret_r, nilc_r, fa_r, ldOne_r, ldA_r, stOne_r, stA_r, rdk_r, rdkA_r, wrk_r, wrkA_r, alc_r, lenS_r, lenT_r, cvi_r, pick_r, not_r, mx_r, mn_r, ixa_r, ixaA_r, bld_r, add_r, sub_r, mul_r, quo_r, rem_r, eql_r, neq_r, lss_r, leq_r, gtr_r, geq_r, eqb_r, neb_r, eqp_r, nep_r, ↓gv_r, gvn_r, ↓g_r, gn_r, Bool.not_true, Bool.not_false, Bool.false_eq_true, Bool.true_eq_false, reduceIte, List.tail_cons, List.headD_cons, decide_true, decide_false, cond_true, cond_false, Nat.beq_refl, e1, ea, show ((0 : Nat) : Int) = 0 from rfl, show ¬ ((0 : Int) > 100) by omega, e2, e3, e4, e5, extr_p0, extr_p1, e6, hne, e7, e8, e9, e10, BEq.rfl, h00, e11, e12, eqs_r]
    · obtain ⟨H4, e4, N4, s4⟩ := r_spoil (n := 2) N3 (i := 0) (at_ := at_) (t := t) (by omega) hat ht (by simp) hpl hp0 hp (by omega)
      obtain ⟨k4, ho4⟩ := k3.more s4 ho3
      generalize hL : p.length = L at *
      have hL0 : 0 < L := by
        have := List.length_pos_iff.2 hp
        omega
      have hm0 := Int.emod_nonneg at_ (show ((8 * L : Nat) : Int) ≠ 0 by omega)
      have hm1 := Int.emod_lt_of_pos at_ (show (0 : Int) < ((8 * L : Nat) : Int) by omega)
      have e8 := fun H' hb => spoils_ones (m := 4) (t := t) (at_ := at_) (b := a) (s7 := pt H1.length) (s8 := .bool (anyD t (at_ % ((8 * L : Nat) : Int)).toNat L 32 0)) (s11 := iv (cnt (ones t (at_ % ((8 * L : Nat) : Int)).toNat L) 32 : Nat)) (H := H') hb hL (by omega) hL0 ht hat 32 0 (by omega) (by omega)
      generalize hf : (at_ % ((8 * L : Nat) : Int)).toNat = f at *
      generalize hp' : splD t f 32 0 p = p' at *
      have hset : ([] ++ [p]).set 0 p' = [p'] := rfl
      rw [hset] at N4
      have hpl' : p'.length = L := by rw [← hp', splD_len, hL]
      have hpl2 : plc [p'] 0 = ((0 : Nat) : Int) := plc_zero (by simp)
      have hp2 : p' ≠ [] := fun e => by rw [e] at hpl'; simp at hpl'; omega
      obtain ⟨c, qc, H5, e5, r5, k5, q5⟩ := r_look (n := 2) N4 (i := 0) (by omega) (by simp) hpl2 rfl (by omega)
      have N5 := N4.step k5.step (by simp)
      have e6 : ∀ H', lenS c H' = some (iv L, H') := fun H' => by
        have := r5.rd.len (H' := H')
        rwa [u8s_length, hpl'] at this
      have hb5 := (ha.mono k4).mono k5
      have e7 := spoils_rows (m := 4) (s1 := .int .u64 at_) (s2 := .int .u32 t) (s7 := pt H1.length) (s8 := .bool (anyD t f L 32 0)) (s12 := iv 0) hb5 r5.rd hL hpl' (by omega) L 0 (by omega) (by omega)
      have e8 := e8 H5 hb5
      have hcnt : cnt (dif p p') (8 * L) = cnt (ones t f L) 32 := by
        rw [← hp', ← hL]
        exact spl_cnt (by omega)
      obtain ⟨H6, e9, N6, s6⟩ := r_spoil (n := 2) N5 (i := 0) (at_ := at_) (t := t) (by omega) hat ht (by simp) hpl2 rfl hp2 (by omega)
      rw [hpl', hf] at e9 N6
      have hback : splD t f 32 0 p' = p := by rw [← hp']; exact splD_twice _ _ _ _ _
      rw [hback, show [p'].set 0 p = [p] from rfl] at N6
      have hb6 : Sl H6 a (u8s p) := by
        have k5' := k4.trans k5
        exact ha.mono (k5'.more s6 ho4).1
      obtain ⟨c2, qc2, H7, e10, r7, k7, q7⟩ := r_look (n := 2) N6 (i := 0) (by omega) (by simp) (plc_zero (by simp)) rfl (by omega)
      have e11 := b2s_sl r7.rd
      have e12 := b2s_sl (hb6.mono k7)
      have hany : anyD t f L 32 0 = decide (0 < cnt (ones t f L) 32) := by
        have := anyD_cnt (t := t) (f := f) (L := L) 32 0
        simpa [cnt] using this
      refine ⟨H7, ?_⟩
      rw [show ((0 : Nat) : Int) = 0 from rfl, show cnt (ones t f L) 0 = 0 from rfl, show ((0 : Nat) : Int) = 0 from rfl] at e8
      rw [Nat.mul_zero, show cnt (dif p p') 0 = 0 from rfl, show ((0 : Nat) : Int) = 0 from rfl, hcnt] at e7
      have hneL : (((L : Nat) : Int) != (L : Int)) = false := by simp
      have hdec : decide (((cnt (ones t f L) 32 : Nat) : Int) > 0) = decide (0 < cnt (ones t f L) 32) := by
        rw [decide_eq_decide]; omega
      rw [hany] at e4 e7 e8 e9
      simp only [F_law30NetSpoils, ↓bind_andk, andk_some, ↓jn_outk, outk_nrm, outk_ext, outk_ret, ↓cnd_b, ret_r, nilc_r, fa_r, ldOne_r, ldA_r, stOne_r, stA_r, rdk_r, rdkA_r, wrk_r, wrkA_r, alc_r, lenS_r, lenT_r, cvi_r, pick_r, not_r, mx_r, mn_r, ixa_r, ixaA_r, bld_r, add_r, sub_r, mul_r, quo_r, rem_r, eql_r, neq_r, lss_r, leq_r, gtr_r, geq_r, eqb_r, neb_r, eqp_r, nep_r, ↓gv_r, gvn_r, ↓g_r, gn_r, Bool.not_true, Bool.not_false, Bool.false_eq_true, Bool.true_eq_false, reduceIte, List.tail_cons, List.headD_cons, decide_true, decide_false, cond_true, cond_false, Nat.beq_refl, e1, ea, hng, e2, e3, e4, e5, extr_p0, extr_p1, e6, hneL, e7, e8, e9, e10, BEq.rfl, hdec, e11, e12, eqs_r]
  · have hng : ((p.length : Int) > 100) := by omega
    obtain ⟨H2, e2, _⟩ := r_netLives 0 H1
    refine ⟨H2, ?_⟩
    simp only [F_law30NetSpoils, ↓bind_andk, andk_some, ↓jn_outk, outk_nrm, outk_ext, outk_ret, ↓cnd_b, ret_r, nilc_r, fa_r, ldOne_r, ldA_r, stOne_r, stA_r, rdk_r, rdkA_r, wrk_r, wrkA_r, alc_r, lenS_r, lenT_r, cvi_r, pick_r, not_r, mx_r, mn_r, ixa_r, ixaA_r, bld_r, add_r, sub_r, mul_r, quo_r, rem_r, eql_r, neq_r, lss_r, leq_r, gtr_r, geq_r, eqb_r, neb_r, eqp_r, nep_r, ↓gv_r, gvn_r, ↓g_r, gn_r, Bool.not_true, Bool.not_false, Bool.false_eq_true, Bool.true_eq_false, reduceIte, List.tail_cons, List.headD_cons, decide_true, decide_false, cond_true, cond_false, Nat.beq_refl, e1, ea, hng, e2]

theorem law_NetSpoils : ∀ (xs : Ins [.slc (.int .u8), .int .u64, .int .u32]) (H : Heap) (vs : List Value), InsWf [.slc (.int .u8), .int .u64, .int .u32] xs → InsRd [.slc (.int .u8), .int .u64, .int .u32] xs H vs → ∃ n H', R n n_law30NetSpoils vs H = some (.bool true, H') := by
  intro xs H vs hwf hrd
  obtain ⟨l, at_, tn, _⟩ := xs
  obtain ⟨hl, hat, htn, _⟩ := hwf
  obtain ⟨c1, _, rfl, hc1, h1, c2, _, rfl, _, h2, c3, _, rfl, _, h3, rfl⟩ := hrd
  have h2 : c2 = [.int .u64 at_] := h2
  have h3 : c3 = [.int .u32 tn] := h3
  subst h2
  subst h3
  have hat := wf_u64 hat
  have htn := wf_u32 htn
  obtain ⟨a, rfl⟩ : ∃ a, c1 = [a] := by
    match c1, hc1 with
    | [a], _ => exact ⟨a, rfl⟩
  obtain ⟨p, ha⟩ := rd_bytes hl h1
  have key : ∀ z : Int, 0 ≤ z ∧ z ≤ 4294967295 → ∃ H', R 5 n_law30NetSpoils [a, .int .u64 at_, .int .u32 z] H = some (.bool true, H') := by
    intro z hz
    have := spoils_core (t := z.toNat) ha hat (by omega)
    rwa [Int.toNat_of_nonneg hz.1] at this
  exact ⟨5, key tn htn⟩

end Go.Proofs.Ytkjoaediojdodaa.A
