/- Sets of nodes. -/
import Derived.Test.YtdmijlkknpolbaaQuoActs
namespace Go.Proofs.Ytdmijlkknpolbaa.A
set_option linter.unusedVariables false
set_option linter.unusedSimpArgs false
open Go.Proofs Go.Proofs.Ytdmijlkknpolbaa

abbrev bv (n : Nat) : Value := .int .u8 n

set_option maxRecDepth 100000 in
theorem u8has : ∀ b : Nat, b < 256 → ∀ m : Nat, m < 9 → (IntKind.u8.wrap ((BitVec.ofInt IntKind.u8.bits ((b : Int).fdiv (2 ^ m)) &&& BitVec.ofInt IntKind.u8.bits 1).toNat : Int) == 1) = b.testBit m := by decide +kernel
set_option maxRecDepth 100000 in
theorem u8add : ∀ b : Nat, b < 128 → ∀ m : Nat, m < 7 → IntKind.u8.wrap ((BitVec.ofInt IntKind.u8.bits (b : Int) ||| BitVec.ofInt IntKind.u8.bits (IntKind.u8.wrap (1 * 2 ^ m))).toNat : Int) = ((b ||| 2 ^ m : Nat) : Int) := by decide +kernel

def popc (k b : Nat) : Nat := ((List.range k).filter b.testBit).length
def setL (k b : Nat) : List Value := (List.range k).map fun i => .bool (b.testBit i)

theorem setL_set {k b m : Nat} (hm : m < k) : (setL k b).set m (.bool true) = setL k (b ||| 2 ^ m) := by
  unfold setL
  apply List.ext_getElem?
  intro i
  rw [List.getElem?_set, List.getElem?_map, List.getElem?_map]
  simp only [List.length_map, List.length_range]
  by_cases e : m = i
  · subst e
    rw [if_pos rfl, if_pos hm, List.getElem?_range hm]
    simp
  · rw [if_neg e]
    rcases Nat.lt_or_ge i k with h | h
    · rw [List.getElem?_range h]
      simp [Nat.testBit_or, Nat.testBit_two_pow, e]
    · rw [List.getElem?_eq_none (by simpa using h)]; rfl

theorem setL_zero (k : Nat) : setL k 0 = List.replicate k (.bool false) := by
  unfold setL
  apply List.ext_getElem?
  intro i
  rw [List.getElem?_map, List.getElem?_replicate]
  rcases Nat.lt_or_ge i k with h | h
  · rw [List.getElem?_range h, if_pos h]; simp
  · rw [List.getElem?_eq_none (by simpa using h), if_neg (by omega)]; rfl

def addB (k b m : Nat) : Bool := decide (m < k) && !b.testBit m
def addS (k b m : Nat) : Nat := if addB k b m then b ||| 2 ^ m else b

theorem addS_lt {k b m : Nat} (hb : b < 2 ^ k) : addS k b m < 2 ^ k := by
  unfold addS addB
  split
  · rename_i h
    simp only [Bool.and_eq_true, decide_eq_true_eq] at h
    exact Nat.or_lt_two_pow hb (Nat.pow_lt_pow_right (by omega) h.1)
  · exact hb

section
variable {H : Heap} {n id k b m : Nat}

theorem pow_k (hk : enough k ≠ 0) (hb : b < 2 ^ k) : b < 128 ∧ k ≤ 7 ∧ 3 ≤ k := by
  rcases enough_cases hk with ⟨h, _⟩ | ⟨h, _⟩ | ⟨h, _⟩
  · have : k = 3 := by omega
    subst this; omega
  · have : k = 5 := by omega
    subst this; omega
  · have : k = 7 := by omega
    subst this; omega

theorem r_has (hc : H[id]? = some (.cells [iv k, bv b] 1 false false)) (hb : b < 256) (hm : m ≤ 255) : R (n + 1) n_quorumSetHas [pt id, bv m] H = some (.bool (b.testBit m), H) := by
  have e1 : ld1 (pa id 1) H = some (bv b, H) := ld1_at hc rfl
  have hq : (IntKind.u8.wrap ((BitVec.ofInt IntKind.u8.bits ((b : Int).fdiv (2 ^ (min (m : Int).toNat IntKind.u8.bits))) &&& BitVec.ofInt IntKind.u8.bits 1).toNat : Int) == 1) = b.testBit m := by
    have h8 : IntKind.u8.bits = 8 := rfl
    rw [Int.toNat_natCast]
    rcases Nat.lt_or_ge m 9 with h | h
    · rw [show min m IntKind.u8.bits = m by rw [h8]; omega]
      exact u8has b hb m h
    · rw [show min m IntKind.u8.bits = 8 by rw [h8]; omega, u8has b hb 8 (by omega), Nat.testBit_lt_two_pow (show b < 2 ^ 8 by omega), Nat.testBit_lt_two_pow (Nat.lt_of_lt_of_le (show b < 2 ^ 8 by omega) (Nat.pow_le_pow_right (by omega) (by omega)))]
  rw [R, run_quorumSetHas rfl]
  unfold F_quorumSetHas
  rw [bind_eq nilc_r, bind_eq fa_z, bind_eq e1, bind_eq (shr_r.trans (if_neg (by omega))), bind_eq and_r, bind_eq eql_r, hq]
  rfl

theorem r_add (hk : enough k ≠ 0) (hc : H[id]? = some (.cells [iv k, bv b] 1 false false)) (hb : b < 2 ^ k) (hm : m ≤ 255) : ∃ H', R (n + 2) n_quorumSetAdd [pt id, bv m] H = some (.bool (addB k b m), H') ∧ H'[id]? = some (.cells [iv k, bv (addS k b m)] 1 false false) ∧ Step [id] H [id] H' ∧ H'.length = H.length := by
  obtain ⟨b128, k7, k3⟩ := pow_k hk hb
  have e1 : ld1 (pt id) H = some (iv k, H) := ld1_at hc rfl
  have e2 : ld1 (pa id 1) H = some (bv b, H) := ld1_at hc rfl
  have e3 : run Try.prog np lvs (n + 1) n_quorumSetHas [pt id, bv m] H = some (.bool (b.testBit m), H) := r_has hc (by omega) hm
  have w1 : IntKind.i64.wrap (m : Int) = m := w64 (by omega) (by omega)
  rw [R, run_quorumSetAdd rfl]
  unfold addS addB
  by_cases h1 : m < k
  · have hge : ¬ ((m : Int) ≥ k) := by omega
    cases h2 : b.testBit m
    · have hs : bop .int .shl (bv 1) (bv m) H = some (.int .u8 (IntKind.u8.wrap (1 * 2 ^ m)), H) := by
        rw [shl_r, if_neg (by omega), Int.toNat_natCast, show min m IntKind.u8.bits = m by rw [show IntKind.u8.bits = 8 from rfl]; omega]; rfl
      have ho : bop .int .or (bv b) (.int .u8 (IntKind.u8.wrap (1 * 2 ^ m))) H = some (bv (b ||| 2 ^ m), H) := by
        rw [or_r, u8add b b128 m (by omega)]
      have hst := st1_at (o := 1) (v := bv (b ||| 2 ^ m)) hc (by simp) rfl
      rw [h2] at e3
      refine ⟨_, ?_, set_get hc, ⟨by simp, fun j hj hn => List.getElem?_set_ne (fun e => hn (by simp [e])), fun j hj => .inl hj⟩, by simp⟩
      · unfold F_quorumSetAdd
        have hs : bop .int .shl (Value.int .u8 1) (bv m) H = some (.int .u8 (IntKind.u8.wrap (1 * 2 ^ m)), H) := hs
        rw [bind_eq cvi_r, w1, bind_eq nilc_r, bind_eq fa_z, bind_eq e1, bind_eq geq_r, decide_eq_false hge, b_g_in, b_assoc, bind_eq e3, b_ret, c3_r, bind_eq pick_r]
        simp only [cond_false]
        rw [cnd_b, if_neg (by simp), bind_eq nilc_r, bind_eq fa_z, bind_eq e2, bind_eq hs, bind_eq ho, bind_eq nilc_r, bind_eq fa_z, bind_eq hst, decide_eq_true h1]
        rfl
    · rw [h2] at e3
      refine ⟨H, ?_, by simpa [h1] using hc, .refl _ _, rfl⟩
      unfold F_quorumSetAdd
      rw [bind_eq cvi_r, w1, bind_eq nilc_r, bind_eq fa_z, bind_eq e1, bind_eq geq_r, decide_eq_false hge, b_g_in, b_assoc, bind_eq e3, b_ret, c3_r, bind_eq pick_r]
      simp only [cond_false]
      rw [cnd_b, if_pos rfl, decide_eq_true h1]
      rfl
  · have hge : ((m : Int) ≥ k) := by omega
    refine ⟨H, ?_, by rw [decide_eq_false h1]; exact hc, .refl _ _, rfl⟩
    unfold F_quorumSetAdd
    rw [bind_eq cvi_r, w1, bind_eq nilc_r, bind_eq fa_z, bind_eq e1, bind_eq geq_r, decide_eq_true hge, bind_eq (g_r.trans (if_neg (by simp)))]
    simp only [List.replicate]
    rw [c3_r, bind_eq pick_r]
    simp only [cond_true]
    rw [cnd_b, if_pos rfl, decide_eq_false h1]
    rfl

def pops : List UInt8 := [0, 1, 1, 2, 1, 2, 2, 3, 1, 2, 2, 3, 2, 3, 3, 4, 1, 2, 2, 3, 2, 3, 3, 4, 2, 3, 3, 4, 3, 4, 4, 5, 1, 2, 2, 3, 2, 3, 3, 4, 2, 3, 3, 4, 3, 4, 4, 5, 2, 3, 3, 4, 3, 4, 4, 5, 3, 4, 4, 5, 4, 5, 5, 6, 1, 2, 2, 3, 2, 3, 3, 4, 2, 3, 3, 4, 3, 4, 4, 5, 2, 3, 3, 4, 3, 4, 4, 5, 3, 4, 4, 5, 4, 5, 5, 6, 2, 3, 3, 4, 3, 4, 4, 5, 3, 4, 4, 5, 4, 5, 5, 6, 3, 4, 4, 5, 4, 5, 5, 6, 4, 5, 5, 6, 5, 6, 6, 7, 1, 2, 2, 3, 2, 3, 3, 4, 2, 3, 3, 4, 3, 4, 4, 5, 2, 3, 3, 4, 3, 4, 4, 5, 3, 4, 4, 5, 4, 5, 5, 6, 2, 3, 3, 4, 3, 4, 4, 5, 3, 4, 4, 5, 4, 5, 5, 6, 3, 4, 4, 5, 4, 5, 5, 6, 4, 5, 5, 6, 5, 6, 6, 7, 2, 3, 3, 4, 3, 4, 4, 5, 3, 4, 4, 5, 4, 5, 5, 6, 3, 4, 4, 5, 4, 5, 5, 6, 4, 5, 5, 6, 5, 6, 6, 7, 3, 4, 4, 5, 4, 5, 5, 6, 4, 5, 5, 6, 5, 6, 6, 7, 4, 5, 5, 6, 5, 6, 6, 7, 5, 6, 6, 7, 6, 7, 7, 8]

set_option maxRecDepth 100000 in
theorem pops3 : ∀ b < 8, pops[b]? = some (UInt8.ofNat (popc 3 b)) := by decide +kernel
set_option maxRecDepth 100000 in
theorem pops5 : ∀ b < 32, pops[b]? = some (UInt8.ofNat (popc 5 b)) := by decide +kernel
set_option maxRecDepth 100000 in
theorem pops7 : ∀ b < 128, pops[b]? = some (UInt8.ofNat (popc 7 b)) := by decide +kernel

theorem popc_le : popc k b ≤ k := by
  have := List.length_filter_le b.testBit (List.range k)
  simpa [popc] using this

theorem pops_at (hk : enough k ≠ 0) (hb : b < 2 ^ k) : pops[b]? = some (UInt8.ofNat (popc k b)) := by
  rcases enough_cases hk with ⟨h, _⟩ | ⟨h, _⟩ | ⟨h, _⟩
  · have : k = 3 := by omega
    subst this; exact pops3 b hb
  · have : k = 5 := by omega
    subst this; exact pops5 b hb
  · have : k = 7 := by omega
    subst this; exact pops7 b hb

set_option maxRecDepth 100000 in
theorem r_count (hk : enough k ≠ 0) (hc : H[id]? = some (.cells [iv k, bv b] 1 false false)) (hb : b < 2 ^ k) : R (n + 2) n_quorumSetCount [pt id] H = some (iv (popc k b), H) := by
  obtain ⟨b128, k7, k3⟩ := pow_k hk hb
  have e1 : ld1 (pa id 1) H = some (bv b, H) := ld1_at hc rfl
  have hp := popc_le (k := k) (b := b)
  have e2 : R (n + 1) n_mathBitsOnesCount8 [bv b] H = some (iv (popc k b), H) := by
    rw [R, run_mathBitsOnesCount8 rfl]
    unfold F_mathBitsOnesCount8
    have hx := ixs_at (pops_at hk hb) .u8 H
    have ht : (UInt8.ofNat (popc k b)).toNat = popc k b := by rw [UInt8.toNat_ofNat']; omega
    rw [ht] at hx
    refine (bind_eq hx).trans ?_
    rw [bind_eq cvi_r, w64 (by omega) (by omega)]
    rfl
  rw [R, run_quorumSetCount rfl]
  unfold F_quorumSetCount
  rw [bind_eq nilc_r, bind_eq fa_z, bind_eq e1, bind_eq e2]
  rfl

theorem r_won (hk : enough k ≠ 0) (hc : H[id]? = some (.cells [iv k, bv b] 1 false false)) (hb : b < 2 ^ k) : R (n + 3) n_quorumSetWon [pt id] H = some (.bool (decide (enough k ≤ popc k b)), H) := by
  have e1 : ld1 (pt id) H = some (iv k, H) := ld1_at hc rfl
  have e2 := r_count (n := n) hk hc hb
  have e3 := r_enough (n := n + 1) (H := H) k
  have hq : decide ((popc k b : Int) ≥ enough k) = decide (enough k ≤ popc k b) := by
    rw [decide_eq_decide]; omega
  rw [R, run_quorumSetWon rfl]
  unfold F_quorumSetWon
  rw [bind_eq nilc_r, bind_eq fa_z, bind_eq e1, bind_eq e2, bind_eq e1, same_self, bind_eq e3, bind_eq geq_r, hq]
  rfl

theorem r_clearS (hc : H[id]? = some (.cells [iv k, bv b] 1 false false)) : ∃ H', R (n + 1) n_quorumSetClear [pt id] H = some (.tuple #[], H') ∧ H'[id]? = some (.cells [iv k, bv 0] 1 false false) ∧ Step [id] H [id] H' ∧ H'.length = H.length := by
  have hst := st1_at (o := 1) (v := .int .u8 0) hc (by simp) rfl
  refine ⟨_, ?_, set_get hc, ⟨by simp, fun j hj hn => List.getElem?_set_ne (fun e => hn (by simp [e])), fun j hj => .inl hj⟩, by simp⟩
  rw [R, run_quorumSetClear rfl]
  unfold F_quorumSetClear
  rw [bind_eq nilc_r, bind_eq fa_z, bind_eq hst]
  rfl

theorem r_newS (x : Int) : (enough x = 0 ∧ R (n + 2) n_quorumNew [iv x] H = some (.pointer none, H)) ∨ (enough x ≠ 0 ∧ ∃ H', R (n + 2) n_quorumNew [iv x] H = some (pt H.length, H') ∧ H' = H ++ [.cells [iv x, bv 0] 1 false false]) := by
  have e1 : run Try.prog np lvs (n + 1) n_quorumEnough [iv x] H = some (iv (enough x), H) := r_enough x
  by_cases h : enough x = 0
  · refine .inl ⟨h, ?_⟩
    rw [R, run_quorumNew rfl]
    simp [F_quorumNew, ↓bind_andk, andk_some, ↓jn_outk, outk_nrm, outk_ext, outk_ret, ↓cnd_b, ret_r, nilc_r, fa_r, ldOne_r, ldA_r, stOne_r, stA_r, rdk_r, rdkA_r, wrk_r, wrkA_r, alc_r, lenS_r, lenT_r, cvi_r, pick_r, not_r, mx_r, mn_r, ixa_r, ixaA_r, bld_r, add_r, sub_r, mul_r, quo_r, rem_r, eql_r, neq_r, lss_r, leq_r, gtr_r, geq_r, eqb_r, neb_r, eqp_r, nep_r, ↓gv_r, gvn_r, ↓g_r, gn_r, Bool.not_true, Bool.not_false, Bool.false_eq_true, Bool.true_eq_false, reduceIte, List.tail_cons, List.headD_cons, decide_true, decide_false, cond_true, cond_false, Nat.beq_refl, c0_r, c1_r, c2_r, c3_r, c4_r, c5_r, c6_r, c7_r, c8_r, c9_r, c10_r, c11_r, c12_r, xk_hit, List.replicate, extr_p0, extr_p1, extr_q0, extr_q1, extr_q2, fa_z, adds_v, lenT_v, retR, e1, h]
  · refine .inr ⟨h, _, ?_, rfl⟩
    have hz : ¬ ((enough x : Int) = 0) := by omega
    rw [R, run_quorumNew rfl]
    simp [F_quorumNew, ↓bind_andk, andk_some, ↓jn_outk, outk_nrm, outk_ext, outk_ret, ↓cnd_b, ret_r, nilc_r, fa_r, ldOne_r, ldA_r, stOne_r, stA_r, rdk_r, rdkA_r, wrk_r, wrkA_r, alc_r, lenS_r, lenT_r, cvi_r, pick_r, not_r, mx_r, mn_r, ixa_r, ixaA_r, bld_r, add_r, sub_r, mul_r, quo_r, rem_r, eql_r, neq_r, lss_r, leq_r, gtr_r, geq_r, eqb_r, neb_r, eqp_r, nep_r, ↓gv_r, gvn_r, ↓g_r, gn_r, Bool.not_true, Bool.not_false, Bool.false_eq_true, Bool.true_eq_false, reduceIte, List.tail_cons, List.headD_cons, decide_true, decide_false, cond_true, cond_false, Nat.beq_refl, c0_r, c1_r, c2_r, c3_r, c4_r, c5_r, c6_r, c7_r, c8_r, c9_r, c10_r, c11_r, c12_r, xk_hit, List.replicate, extr_p0, extr_p1, extr_q0, extr_q1, extr_q2, fa_z, adds_v, lenT_v, retR, e1, h, bldC, Value.cells, isTup, splice, oneCell]

/-- How many are in the document's. -/
theorem cnt27_do {sl : Value} (h : Sl H sl (setL k b)) (h7 : k ≤ 7) : ∀ (t i c : Nat), k - i = t → i ≤ k → c ≤ i →
    loopM (c4 (F_ref27Count.l1 (R n))) [iv c, sl, iv k, iv i] H = some (.ext 0 [iv ((c + (((List.range k).drop i).filter b.testBit).length : Nat) : Int)], H)
  | 0, i, c, ht, hi, hc => by
    have : i = k := by omega
    subst this
    refine loop_ext ?_
    have hz : (List.range i).drop i = [] := List.drop_eq_nil_of_le (by simp)
    simp [F_ref27Count.l1, ↓bind_andk, andk_some, ↓jn_outk, outk_nrm, outk_ext, outk_ret, ↓cnd_b, ret_r, nilc_r, fa_r, ldOne_r, ldA_r, stOne_r, stA_r, rdk_r, rdkA_r, wrk_r, wrkA_r, alc_r, lenS_r, lenT_r, cvi_r, pick_r, not_r, mx_r, mn_r, ixa_r, ixaA_r, bld_r, add_r, sub_r, mul_r, quo_r, rem_r, eql_r, neq_r, lss_r, leq_r, gtr_r, geq_r, eqb_r, neb_r, eqp_r, nep_r, ↓gv_r, gvn_r, ↓g_r, gn_r, Bool.not_true, Bool.not_false, Bool.false_eq_true, Bool.true_eq_false, reduceIte, List.tail_cons, List.headD_cons, decide_true, decide_false, cond_true, cond_false, Nat.beq_refl, c0_r, c1_r, c2_r, c3_r, c4_r, c5_r, c6_r, c7_r, c8_r, c9_r, c10_r, c11_r, c12_r, xk_hit, List.replicate, extr_p0, extr_p1, extr_q0, extr_q1, extr_q2, fa_z, adds_v, lenT_v, retR, hz]
  | t + 1, i, c, ht, hi, hc => by
    have hik : i < k := by omega
    have hlt : (i : Int) < k := by omega
    have hg : (setL k b)[i]? = some (.bool (b.testBit i)) := by unfold setL; rw [List.getElem?_map, List.getElem?_range hik]; rfl
    have hd : (List.range k).drop i = i :: (List.range k).drop (i + 1) := by
      rw [List.drop_eq_getElem_cons (by simpa using hik)]; simp
    have x1 := h.ix (i := i) (by simpa [setL] using hik) .i64 H
    have g1 := h.ldx hg
    have w1 := wsuc (k := i) (by omega)
    have w2 := wsuc (k := c) (by omega)
    rw [hd, List.filter_cons]
    cases hb : b.testBit i
    · have e := cnt27_do h h7 t (i + 1) c (by omega) (by omega) (by omega)
      rw [hb] at g1
      refine (loop_next ?_).trans e
      rw [c4_r]
      unfold F_ref27Count.l1
      rw [bind_eq lss_r, cnd_b, if_pos (by simpa using hlt), bind_eq x1, bind_eq g1]
      refine (jn_nrm (vs := [iv c, sl, iv k, iv i]) (H' := H) ?_).trans ?_
      · rw [cnd_b, if_neg (by simp)]; rfl
      · rw [c4_r, bind_eq add_r, w1]; rfl
    · have e := cnt27_do h h7 t (i + 1) (c + 1) (by omega) (by omega) (by omega)
      rw [hb] at g1
      refine ((loop_next ?_).trans e).trans (by rw [if_pos rfl, List.length_cons, Nat.add_assoc, Nat.add_comm 1])
      rw [c4_r]
      unfold F_ref27Count.l1
      rw [bind_eq lss_r, cnd_b, if_pos (by simpa using hlt), bind_eq x1, bind_eq g1]
      refine (jn_nrm (vs := [iv ((c + 1 : Nat) : Int), sl, iv k, iv i]) (H' := H) ?_).trans ?_
      · rw [cnd_b, if_pos rfl, bind_eq add_r, w2]; rfl
      · rw [c4_r, bind_eq add_r, w1]; rfl

theorem r_refCount {sl : Value} (h : Sl H sl (setL k b)) (h7 : k ≤ 7) : R (n + 1) n_ref27Count [sl] H = some (iv (popc k b), H) := by
  have e1 := cnt27_do (n := n) h h7 k 0 0 (by omega) (by omega) (by omega)
  rw [List.drop_zero, Nat.zero_add] at e1
  have e1 : loopM (c4 (F_ref27Count.l1 (R n))) [.int .i64 0, sl, iv k, .int .i64 0] H = _ := e1
  have e2 := h.len (H' := H)
  rw [show (setL k b).length = k by simp [setL]] at e2
  rw [R, run_ref27Count rfl]
  unfold F_ref27Count
  rw [bind_eq e2, jn_ext e1, xk_hit]
  rfl

end

end Go.Proofs.Ytdmijlkknpolbaa.A
