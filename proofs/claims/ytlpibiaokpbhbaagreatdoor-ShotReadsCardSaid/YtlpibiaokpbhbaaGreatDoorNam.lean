/- Names, prefixes, sums: the program's and the document's. -/
import Derived.Test.YtlpibiaokpbhbaaGreatDoorFzd
import Derived.Test.YtlpibiaokpbhbaaGreatDoorPrimZd
namespace Go.Proofs.YtlpibiaokpbhbaaGreatDoor.A
set_option linter.unusedVariables false
set_option linter.unusedSimpArgs false
open Go.Proofs Go.Proofs.YtlpibiaokpbhbaaGreatDoor

abbrev u8v (b : UInt8) : Value := .int .u8 b.toNat

def letterB (b : UInt8) : Bool := decide (97 ≤ b.toNat) && decide (b.toNat ≤ 122)
def digitB (b : UInt8) : Bool := decide (48 ≤ b.toNat) && decide (b.toNat ≤ 57)
def signB (b : UInt8) : Bool := letterB b || (digitB b || (decide (b.toNat = 45) || decide (b.toNat = 46)))
def hexB (b : UInt8) : Bool := digitB b || (decide (97 ≤ b.toNat) && decide (b.toNat ≤ 102))
def alnumB (b : UInt8) : Bool := letterB b || digitB b

def nameB (s : List UInt8) : Bool := decide (1 ≤ s.length) && decide (s.length ≤ 12) && s.all signB && letterB (s.getD 0 0) && alnumB (s.getD (s.length - 1) 0)
def prefB (s : List UInt8) : Bool := decide (s.length ≤ 12) && s.all signB
def sumB (s : List UInt8) : Bool := decide (1 ≤ s.length) && decide (s.length ≤ 12) && s.all hexB

section
variable {H : Heap} {n : Nat} {b : UInt8} {s : List UInt8}

theorem ixs_v {i : Nat} {x : UInt8} (hi : s[i]? = some x) (q : IntKind) (H : Heap) : ixs (strv s) (.int q i) H = some (u8v x, H) := by
  have hlt : i < s.length := (List.getElem?_eq_some_iff.1 hi).1
  have hx : s[i] = x := (List.getElem?_eq_some_iff.1 hi).2
  have hs : i < (⟨s.toArray⟩ : ByteArray).size := by simpa [ByteArray.size] using hlt
  unfold ixs strv
  simp only [Int.toNat_natCast]
  rw [if_pos (by omega), getElem?_pos (⟨s.toArray⟩ : ByteArray) i hs]
  have : (⟨s.toArray⟩ : ByteArray)[i] = x := by rw [← hx]; rfl
  rw [this]

theorem r_letter : R (n + 1) n_nameLetter [u8v b] H = some (.bool (letterB b), H) := by
  rw [R, run_nameLetter rfl]
  unfold letterB
  by_cases h1 : (97 : Int) ≤ b.toNat
  · have h1' : 97 ≤ b.toNat := by omega
    by_cases h2 : (b.toNat : Int) ≤ 122
    · have h2' : b.toNat ≤ 122 := by omega
      simp [F_nameLetter, ↓bind_andk, andk_some, ↓jn_outk, outk_nrm, outk_ext, outk_ret, ↓cnd_b, ret_r, nilc_r, fa_r, ldOne_r, ldA_r, stOne_r, stA_r, rdk_r, rdkA_r, wrk_r, wrkA_r, alc_r, lenS_r, lenT_r, cvi_r, pick_r, not_r, mx_r, mn_r, ixa_r, ixaA_r, bld_r, add_r, sub_r, mul_r, quo_r, rem_r, eql_r, neq_r, lss_r, leq_r, gtr_r, geq_r, eqb_r, neb_r, eqp_r, nep_r, ↓gv_r, gvn_r, ↓g_r, gn_r, Bool.not_true, Bool.not_false, Bool.false_eq_true, Bool.true_eq_false, reduceIte, List.tail_cons, List.headD_cons, decide_true, decide_false, cond_true, cond_false, Nat.beq_refl, c0_r, c1_r, c2_r, c3_r, c4_r, c5_r, c6_r, c7_r, c8_r, c9_r, c10_r, c11_r, c12_r, xk_hit, List.replicate, extr_p0, extr_p1, extr_q0, extr_q1, extr_q2, fa_z, adds_v, lenT_v, retR, h1, h2, h1', h2']
    · have h2' : ¬ b.toNat ≤ 122 := by omega
      simp [F_nameLetter, ↓bind_andk, andk_some, ↓jn_outk, outk_nrm, outk_ext, outk_ret, ↓cnd_b, ret_r, nilc_r, fa_r, ldOne_r, ldA_r, stOne_r, stA_r, rdk_r, rdkA_r, wrk_r, wrkA_r, alc_r, lenS_r, lenT_r, cvi_r, pick_r, not_r, mx_r, mn_r, ixa_r, ixaA_r, bld_r, add_r, sub_r, mul_r, quo_r, rem_r, eql_r, neq_r, lss_r, leq_r, gtr_r, geq_r, eqb_r, neb_r, eqp_r, nep_r, ↓gv_r, gvn_r, ↓g_r, gn_r, Bool.not_true, Bool.not_false, Bool.false_eq_true, Bool.true_eq_false, reduceIte, List.tail_cons, List.headD_cons, decide_true, decide_false, cond_true, cond_false, Nat.beq_refl, c0_r, c1_r, c2_r, c3_r, c4_r, c5_r, c6_r, c7_r, c8_r, c9_r, c10_r, c11_r, c12_r, xk_hit, List.replicate, extr_p0, extr_p1, extr_q0, extr_q1, extr_q2, fa_z, adds_v, lenT_v, retR, h1, h2, h1', h2']
  · have h1' : ¬ 97 ≤ b.toNat := by omega
    simp [F_nameLetter, ↓bind_andk, andk_some, ↓jn_outk, outk_nrm, outk_ext, outk_ret, ↓cnd_b, ret_r, nilc_r, fa_r, ldOne_r, ldA_r, stOne_r, stA_r, rdk_r, rdkA_r, wrk_r, wrkA_r, alc_r, lenS_r, lenT_r, cvi_r, pick_r, not_r, mx_r, mn_r, ixa_r, ixaA_r, bld_r, add_r, sub_r, mul_r, quo_r, rem_r, eql_r, neq_r, lss_r, leq_r, gtr_r, geq_r, eqb_r, neb_r, eqp_r, nep_r, ↓gv_r, gvn_r, ↓g_r, gn_r, Bool.not_true, Bool.not_false, Bool.false_eq_true, Bool.true_eq_false, reduceIte, List.tail_cons, List.headD_cons, decide_true, decide_false, cond_true, cond_false, Nat.beq_refl, c0_r, c1_r, c2_r, c3_r, c4_r, c5_r, c6_r, c7_r, c8_r, c9_r, c10_r, c11_r, c12_r, xk_hit, List.replicate, extr_p0, extr_p1, extr_q0, extr_q1, extr_q2, fa_z, adds_v, lenT_v, retR, h1, h1']

theorem r_digit : R (n + 1) n_nameDigit [u8v b] H = some (.bool (digitB b), H) := by
  rw [R, run_nameDigit rfl]
  unfold digitB
  by_cases h1 : (48 : Int) ≤ b.toNat
  · have h1' : 48 ≤ b.toNat := by omega
    by_cases h2 : (b.toNat : Int) ≤ 57
    · have h2' : b.toNat ≤ 57 := by omega
      simp [F_nameDigit, ↓bind_andk, andk_some, ↓jn_outk, outk_nrm, outk_ext, outk_ret, ↓cnd_b, ret_r, nilc_r, fa_r, ldOne_r, ldA_r, stOne_r, stA_r, rdk_r, rdkA_r, wrk_r, wrkA_r, alc_r, lenS_r, lenT_r, cvi_r, pick_r, not_r, mx_r, mn_r, ixa_r, ixaA_r, bld_r, add_r, sub_r, mul_r, quo_r, rem_r, eql_r, neq_r, lss_r, leq_r, gtr_r, geq_r, eqb_r, neb_r, eqp_r, nep_r, ↓gv_r, gvn_r, ↓g_r, gn_r, Bool.not_true, Bool.not_false, Bool.false_eq_true, Bool.true_eq_false, reduceIte, List.tail_cons, List.headD_cons, decide_true, decide_false, cond_true, cond_false, Nat.beq_refl, c0_r, c1_r, c2_r, c3_r, c4_r, c5_r, c6_r, c7_r, c8_r, c9_r, c10_r, c11_r, c12_r, xk_hit, List.replicate, extr_p0, extr_p1, extr_q0, extr_q1, extr_q2, fa_z, adds_v, lenT_v, retR, h1, h2, h1', h2']
    · have h2' : ¬ b.toNat ≤ 57 := by omega
      simp [F_nameDigit, ↓bind_andk, andk_some, ↓jn_outk, outk_nrm, outk_ext, outk_ret, ↓cnd_b, ret_r, nilc_r, fa_r, ldOne_r, ldA_r, stOne_r, stA_r, rdk_r, rdkA_r, wrk_r, wrkA_r, alc_r, lenS_r, lenT_r, cvi_r, pick_r, not_r, mx_r, mn_r, ixa_r, ixaA_r, bld_r, add_r, sub_r, mul_r, quo_r, rem_r, eql_r, neq_r, lss_r, leq_r, gtr_r, geq_r, eqb_r, neb_r, eqp_r, nep_r, ↓gv_r, gvn_r, ↓g_r, gn_r, Bool.not_true, Bool.not_false, Bool.false_eq_true, Bool.true_eq_false, reduceIte, List.tail_cons, List.headD_cons, decide_true, decide_false, cond_true, cond_false, Nat.beq_refl, c0_r, c1_r, c2_r, c3_r, c4_r, c5_r, c6_r, c7_r, c8_r, c9_r, c10_r, c11_r, c12_r, xk_hit, List.replicate, extr_p0, extr_p1, extr_q0, extr_q1, extr_q2, fa_z, adds_v, lenT_v, retR, h1, h2, h1', h2']
  · have h1' : ¬ 48 ≤ b.toNat := by omega
    simp [F_nameDigit, ↓bind_andk, andk_some, ↓jn_outk, outk_nrm, outk_ext, outk_ret, ↓cnd_b, ret_r, nilc_r, fa_r, ldOne_r, ldA_r, stOne_r, stA_r, rdk_r, rdkA_r, wrk_r, wrkA_r, alc_r, lenS_r, lenT_r, cvi_r, pick_r, not_r, mx_r, mn_r, ixa_r, ixaA_r, bld_r, add_r, sub_r, mul_r, quo_r, rem_r, eql_r, neq_r, lss_r, leq_r, gtr_r, geq_r, eqb_r, neb_r, eqp_r, nep_r, ↓gv_r, gvn_r, ↓g_r, gn_r, Bool.not_true, Bool.not_false, Bool.false_eq_true, Bool.true_eq_false, reduceIte, List.tail_cons, List.headD_cons, decide_true, decide_false, cond_true, cond_false, Nat.beq_refl, c0_r, c1_r, c2_r, c3_r, c4_r, c5_r, c6_r, c7_r, c8_r, c9_r, c10_r, c11_r, c12_r, xk_hit, List.replicate, extr_p0, extr_p1, extr_q0, extr_q1, extr_q2, fa_z, adds_v, lenT_v, retR, h1, h1']

theorem int_nat_beq {a b : Nat} : ((a : Int) == (b : Int)) = decide (a = b) := by
  rw [Bool.eq_iff_iff, beq_iff_eq, decide_eq_true_eq]; omega

theorem r_sign : R (n + 2) n_nameSign [u8v b] H = some (.bool (signB b), H) := by
  have e1 : run Tryz.prog np lvs (n + 1) n_nameLetter [u8v b] H = some (.bool (letterB b), H) := r_letter
  have e2 : run Tryz.prog np lvs (n + 1) n_nameDigit [u8v b] H = some (.bool (digitB b), H) := r_digit
  have q1 : ((b.toNat : Int) == 45) = decide (b.toNat = 45) := int_nat_beq (b := 45)
  have q2 : ((b.toNat : Int) == 46) = decide (b.toNat = 46) := int_nat_beq (b := 46)
  rw [R, run_nameSign rfl]
  unfold signB
  generalize letterB b = p at e1 ⊢
  generalize digitB b = q at e2 ⊢
  cases p <;> cases q <;> cases h3 : decide (b.toNat = 45) <;> simp [F_nameSign, ↓bind_andk, andk_some, ↓jn_outk, outk_nrm, outk_ext, outk_ret, ↓cnd_b, ret_r, nilc_r, fa_r, ldOne_r, ldA_r, stOne_r, stA_r, rdk_r, rdkA_r, wrk_r, wrkA_r, alc_r, lenS_r, lenT_r, cvi_r, pick_r, not_r, mx_r, mn_r, ixa_r, ixaA_r, bld_r, add_r, sub_r, mul_r, quo_r, rem_r, eql_r, neq_r, lss_r, leq_r, gtr_r, geq_r, eqb_r, neb_r, eqp_r, nep_r, ↓gv_r, gvn_r, ↓g_r, gn_r, Bool.not_true, Bool.not_false, Bool.false_eq_true, Bool.true_eq_false, reduceIte, List.tail_cons, List.headD_cons, decide_true, decide_false, cond_true, cond_false, Nat.beq_refl, c0_r, c1_r, c2_r, c3_r, c4_r, c5_r, c6_r, c7_r, c8_r, c9_r, c10_r, c11_r, c12_r, xk_hit, List.replicate, extr_p0, extr_p1, extr_q0, extr_q1, extr_q2, fa_z, adds_v, lenT_v, retR, e1, e2, q1, q2, h3] <;> (cases h4 : decide (b.toNat = 46) <;> simp_all)

theorem r_hex : R (n + 2) n_nameHash1 [u8v b] H = some (.bool (hexB b), H) := by
  have e2 : run Tryz.prog np lvs (n + 1) n_nameDigit [u8v b] H = some (.bool (digitB b), H) := r_digit
  rw [R, run_nameHash1 rfl]
  unfold hexB
  generalize digitB b = q at e2 ⊢
  cases q
  · by_cases h1 : (97 : Int) ≤ b.toNat
    · have h1' : 97 ≤ b.toNat := by omega
      by_cases h2 : (b.toNat : Int) ≤ 102
      · have h2' : b.toNat ≤ 102 := by omega
        simp [F_nameHash1, ↓bind_andk, andk_some, ↓jn_outk, outk_nrm, outk_ext, outk_ret, ↓cnd_b, ret_r, nilc_r, fa_r, ldOne_r, ldA_r, stOne_r, stA_r, rdk_r, rdkA_r, wrk_r, wrkA_r, alc_r, lenS_r, lenT_r, cvi_r, pick_r, not_r, mx_r, mn_r, ixa_r, ixaA_r, bld_r, add_r, sub_r, mul_r, quo_r, rem_r, eql_r, neq_r, lss_r, leq_r, gtr_r, geq_r, eqb_r, neb_r, eqp_r, nep_r, ↓gv_r, gvn_r, ↓g_r, gn_r, Bool.not_true, Bool.not_false, Bool.false_eq_true, Bool.true_eq_false, reduceIte, List.tail_cons, List.headD_cons, decide_true, decide_false, cond_true, cond_false, Nat.beq_refl, c0_r, c1_r, c2_r, c3_r, c4_r, c5_r, c6_r, c7_r, c8_r, c9_r, c10_r, c11_r, c12_r, xk_hit, List.replicate, extr_p0, extr_p1, extr_q0, extr_q1, extr_q2, fa_z, adds_v, lenT_v, retR, e2, h1, h2, h1', h2']
      · have h2' : ¬ b.toNat ≤ 102 := by omega
        simp [F_nameHash1, ↓bind_andk, andk_some, ↓jn_outk, outk_nrm, outk_ext, outk_ret, ↓cnd_b, ret_r, nilc_r, fa_r, ldOne_r, ldA_r, stOne_r, stA_r, rdk_r, rdkA_r, wrk_r, wrkA_r, alc_r, lenS_r, lenT_r, cvi_r, pick_r, not_r, mx_r, mn_r, ixa_r, ixaA_r, bld_r, add_r, sub_r, mul_r, quo_r, rem_r, eql_r, neq_r, lss_r, leq_r, gtr_r, geq_r, eqb_r, neb_r, eqp_r, nep_r, ↓gv_r, gvn_r, ↓g_r, gn_r, Bool.not_true, Bool.not_false, Bool.false_eq_true, Bool.true_eq_false, reduceIte, List.tail_cons, List.headD_cons, decide_true, decide_false, cond_true, cond_false, Nat.beq_refl, c0_r, c1_r, c2_r, c3_r, c4_r, c5_r, c6_r, c7_r, c8_r, c9_r, c10_r, c11_r, c12_r, xk_hit, List.replicate, extr_p0, extr_p1, extr_q0, extr_q1, extr_q2, fa_z, adds_v, lenT_v, retR, e2, h1, h2, h1', h2']
    · have h1' : ¬ 97 ≤ b.toNat := by omega
      simp [F_nameHash1, ↓bind_andk, andk_some, ↓jn_outk, outk_nrm, outk_ext, outk_ret, ↓cnd_b, ret_r, nilc_r, fa_r, ldOne_r, ldA_r, stOne_r, stA_r, rdk_r, rdkA_r, wrk_r, wrkA_r, alc_r, lenS_r, lenT_r, cvi_r, pick_r, not_r, mx_r, mn_r, ixa_r, ixaA_r, bld_r, add_r, sub_r, mul_r, quo_r, rem_r, eql_r, neq_r, lss_r, leq_r, gtr_r, geq_r, eqb_r, neb_r, eqp_r, nep_r, ↓gv_r, gvn_r, ↓g_r, gn_r, Bool.not_true, Bool.not_false, Bool.false_eq_true, Bool.true_eq_false, reduceIte, List.tail_cons, List.headD_cons, decide_true, decide_false, cond_true, cond_false, Nat.beq_refl, c0_r, c1_r, c2_r, c3_r, c4_r, c5_r, c6_r, c7_r, c8_r, c9_r, c10_r, c11_r, c12_r, xk_hit, List.replicate, extr_p0, extr_p1, extr_q0, extr_q1, extr_q2, fa_z, adds_v, lenT_v, retR, e2, h1, h1']
  · simp [F_nameHash1, ↓bind_andk, andk_some, ↓jn_outk, outk_nrm, outk_ext, outk_ret, ↓cnd_b, ret_r, nilc_r, fa_r, ldOne_r, ldA_r, stOne_r, stA_r, rdk_r, rdkA_r, wrk_r, wrkA_r, alc_r, lenS_r, lenT_r, cvi_r, pick_r, not_r, mx_r, mn_r, ixa_r, ixaA_r, bld_r, add_r, sub_r, mul_r, quo_r, rem_r, eql_r, neq_r, lss_r, leq_r, gtr_r, geq_r, eqb_r, neb_r, eqp_r, nep_r, ↓gv_r, gvn_r, ↓g_r, gn_r, Bool.not_true, Bool.not_false, Bool.false_eq_true, Bool.true_eq_false, reduceIte, List.tail_cons, List.headD_cons, decide_true, decide_false, cond_true, cond_false, Nat.beq_refl, c0_r, c1_r, c2_r, c3_r, c4_r, c5_r, c6_r, c7_r, c8_r, c9_r, c10_r, c11_r, c12_r, xk_hit, List.replicate, extr_p0, extr_p1, extr_q0, extr_q1, extr_q2, fa_z, adds_v, lenT_v, retR, e2]

/-- Are all bytes so? -/
theorem all_do {f : Value} {p : UInt8 → Bool} (hf : ∀ (b : UInt8) (H : Heap), callv (R n) f [u8v b] H = some (.bool (p b), H)) (hs : s.length ≤ 1000000000) : ∀ (t k : Nat), s.length - k = t → k ≤ s.length →
    loopM (c4 (F_nameAll.l1 (R n))) [strv s, f, iv s.length, iv k] H = some (if (s.drop k).all p then .ext 0 [] else .ret (.bool false), H)
  | 0, k, ht, hk => by
    have : k = s.length := by omega
    subst this
    rw [List.drop_length]
    refine loop_ext ?_
    simp [F_nameAll.l1, ↓bind_andk, andk_some, ↓jn_outk, outk_nrm, outk_ext, outk_ret, ↓cnd_b, ret_r, nilc_r, fa_r, ldOne_r, ldA_r, stOne_r, stA_r, rdk_r, rdkA_r, wrk_r, wrkA_r, alc_r, lenS_r, lenT_r, cvi_r, pick_r, not_r, mx_r, mn_r, ixa_r, ixaA_r, bld_r, add_r, sub_r, mul_r, quo_r, rem_r, eql_r, neq_r, lss_r, leq_r, gtr_r, geq_r, eqb_r, neb_r, eqp_r, nep_r, ↓gv_r, gvn_r, ↓g_r, gn_r, Bool.not_true, Bool.not_false, Bool.false_eq_true, Bool.true_eq_false, reduceIte, List.tail_cons, List.headD_cons, decide_true, decide_false, cond_true, cond_false, Nat.beq_refl, c0_r, c1_r, c2_r, c3_r, c4_r, c5_r, c6_r, c7_r, c8_r, c9_r, c10_r, c11_r, c12_r, xk_hit, List.replicate, extr_p0, extr_p1, extr_q0, extr_q1, extr_q2, fa_z, adds_v, lenT_v, retR]
  | t + 1, k, ht, hk => by
    have hkl : k < s.length := by omega
    have hlt : (k : Int) < s.length := by omega
    have hg := List.getElem?_eq_getElem hkl
    have hd := List.drop_eq_getElem_cons hkl
    generalize s[k] = b at hg hd
    have x1 := ixs_v hg .i64 H
    have ih := all_do hf hs t (k + 1) (by omega) (by omega)
    rw [hd, List.all_cons]
    cases hp : p b
    · refine loop_ret ?_
      have e := hf b H
      rw [hp] at e
      rw [c4_r]
      unfold F_nameAll.l1
      rw [bind_eq lss_r, cnd_b, if_pos (by simpa using hlt), bind_eq x1, bind_eq e, bind_eq not_r, cnd_b, if_pos (by rfl)]
      rfl
    · rw [Bool.true_and]
      refine (loop_next ?_).trans ih
      have e := hf b H
      rw [hp] at e
      rw [c4_r]
      unfold F_nameAll.l1
      rw [bind_eq lss_r, cnd_b, if_pos (by simpa using hlt), bind_eq x1, bind_eq e, bind_eq not_r, cnd_b, if_neg (by simp), bind_eq add_r, wsuc (by omega)]
      rfl

theorem r_all {f : Value} {p : UInt8 → Bool} (hf : ∀ (b : UInt8) (H : Heap), callv (R n) f [u8v b] H = some (.bool (p b), H)) (hs : s.length ≤ 1000000000) : R (n + 1) n_nameAll [strv s, f] H = some (.bool (s.all p), H) := by
  have e := all_do (H := H) hf hs s.length 0 (by omega) (by omega)
  rw [List.drop_zero] at e
  have e : loopM (c4 (F_nameAll.l1 (R n))) [strv s, f, iv s.length, .int .i64 0] H = _ := e
  rw [R, run_nameAll rfl]
  unfold F_nameAll
  rw [bind_eq lenT_v]
  cases h : s.all p
  · rw [h] at e
    rw [jn_ret e]; rfl
  · rw [h] at e
    rw [jn_ext e, xk_hit]; rfl

theorem call_f {g : Nat} {args : List Value} (hy : Nat.blt g yoff = true := by rfl) : callv (R n) (.func (.func g) #[] #[]) args = R n g args := by
  have : callv (R n) (.func (.func g) #[] #[]) args = R n g ([] ++ (args ++ [])) := by
    simp only [callv, hy, cond_true]
  rw [this]; simp

theorem r_allSign (hs : s.length ≤ 1000000000) : R (n + 3) n_nameAll [strv s, .func (.func n_nameSign) #[] #[]] H = some (.bool (s.all signB), H) :=
  r_all (fun b H => by rw [call_f]; exact r_sign) hs
theorem r_allHex (hs : s.length ≤ 1000000000) : R (n + 3) n_nameAll [strv s, .func (.func n_nameHash1) #[] #[]] H = some (.bool (s.all hexB), H) :=
  r_all (fun b H => by rw [call_f]; exact r_hex) hs

theorem eqs_nil : bop .str .eql (strv s) (.string ⟨#[]⟩) H = some (.bool (decide (s.length = 0)), H) := by
  have := eqs_v (H := H) (a := s) (b := [])
  have h : (s == []) = decide (s.length = 0) := by cases s <;> simp
  rw [h] at this
  exact this

theorem r_isName0 : R (n + 4) n_nameIsName [strv s] H = some (.bool (nameB s), H) := by
  rw [R, run_nameIsName rfl]
  unfold nameB
  by_cases h0 : s.length = 0
  · have h1 : ¬ 1 ≤ s.length := by omega
    unfold F_nameIsName
    rw [bind_eq eqs_nil, decide_eq_true h0]
    simp [↓bind_andk, andk_some, ↓jn_outk, outk_nrm, outk_ext, outk_ret, ↓cnd_b, ret_r, nilc_r, fa_r, ldOne_r, ldA_r, stOne_r, stA_r, rdk_r, rdkA_r, wrk_r, wrkA_r, alc_r, lenS_r, lenT_r, cvi_r, pick_r, not_r, mx_r, mn_r, ixa_r, ixaA_r, bld_r, add_r, sub_r, mul_r, quo_r, rem_r, eql_r, neq_r, lss_r, leq_r, gtr_r, geq_r, eqb_r, neb_r, eqp_r, nep_r, ↓gv_r, gvn_r, ↓g_r, gn_r, Bool.not_true, Bool.not_false, Bool.false_eq_true, Bool.true_eq_false, reduceIte, List.tail_cons, List.headD_cons, decide_true, decide_false, cond_true, cond_false, Nat.beq_refl, c0_r, c1_r, c2_r, c3_r, c4_r, c5_r, c6_r, c7_r, c8_r, c9_r, c10_r, c11_r, c12_r, xk_hit, List.replicate, extr_p0, extr_p1, extr_q0, extr_q1, extr_q2, fa_z, adds_v, lenT_v, retR, h1]
  · have h1 : 1 ≤ s.length := by omega
    by_cases h12 : s.length ≤ 12
    · have e1 : run Tryz.prog np lvs (n + 3) n_nameAll [strv s, .func (.func n_nameSign) #[] #[]] H = some (.bool (s.all signB), H) := r_allSign (by omega)
      have g0 : s[0]? = some (s.getD 0 0) := by rw [List.getElem?_eq_getElem (by omega)]; simp [List.getD_eq_getElem?_getD, List.getElem?_eq_getElem (show 0 < s.length by omega)]
      have gl : s[s.length - 1]? = some (s.getD (s.length - 1) 0) := by rw [List.getElem?_eq_getElem (by omega)]; simp [List.getD_eq_getElem?_getD, List.getElem?_eq_getElem (show s.length - 1 < s.length by omega)]
      have x0 : ixs (strv s) (.int .i64 0) H = some (u8v (s.getD 0 0), H) := ixs_v g0 .i64 H
      have xl := ixs_v gl .i64 H
      have wl := wpred (k := s.length) (by omega) (by omega)
      generalize s.getD 0 0 = b0 at x0
      generalize s.getD (s.length - 1) 0 = bl at xl
      have e2 : run Tryz.prog np lvs (n + 3) n_nameLetter [u8v b0] H = some (.bool (letterB b0), H) := r_letter
      have e3 : run Tryz.prog np lvs (n + 3) n_nameLetter [u8v bl] H = some (.bool (letterB bl), H) := r_letter
      have e4 : run Tryz.prog np lvs (n + 3) n_nameDigit [u8v bl] H = some (.bool (digitB bl), H) := r_digit
      have q1 : bop .int .gtr (iv s.length) (.int .i64 12) H = some (.bool false, H) := by rw [gtr_r, decide_eq_false (by omega)]
      unfold F_nameIsName
      rw [bind_eq eqs_nil, decide_eq_false h0, decide_eq_true h1, decide_eq_true h12]
      rw [b_g_in, b_assoc, bind_eq lenT_v, b_assoc, bind_eq q1, b_ret, c3_r, bind_eq pick_r]
      simp only [cond_false]
      rw [b_g_in, b_assoc, bind_eq x0, b_assoc, bind_eq e2, b_assoc, bind_eq not_r, b_ret, c4_r, bind_eq pick_r]
      simp only [cond_false]
      cases hb0 : letterB b0
      · simp [↓bind_andk, andk_some, ↓jn_outk, outk_nrm, outk_ext, outk_ret, ↓cnd_b, ret_r, nilc_r, fa_r, ldOne_r, ldA_r, stOne_r, stA_r, rdk_r, rdkA_r, wrk_r, wrkA_r, alc_r, lenS_r, lenT_r, cvi_r, pick_r, not_r, mx_r, mn_r, ixa_r, ixaA_r, bld_r, add_r, sub_r, mul_r, quo_r, rem_r, eql_r, neq_r, lss_r, leq_r, gtr_r, geq_r, eqb_r, neb_r, eqp_r, nep_r, ↓gv_r, gvn_r, ↓g_r, gn_r, Bool.not_true, Bool.not_false, Bool.false_eq_true, Bool.true_eq_false, reduceIte, List.tail_cons, List.headD_cons, decide_true, decide_false, cond_true, cond_false, Nat.beq_refl, c0_r, c1_r, c2_r, c3_r, c4_r, c5_r, c6_r, c7_r, c8_r, c9_r, c10_r, c11_r, c12_r, xk_hit, List.replicate, extr_p0, extr_p1, extr_q0, extr_q1, extr_q2, fa_z, adds_v, lenT_v, retR]
      · simp only [Bool.not_true]
        rw [b_g_in, b_assoc, bind_eq e1, b_assoc, bind_eq not_r, b_ret, c3_r, bind_eq pick_r]
        simp only [cond_false]
        cases hall : s.all signB
        · simp [↓bind_andk, andk_some, ↓jn_outk, outk_nrm, outk_ext, outk_ret, ↓cnd_b, ret_r, nilc_r, fa_r, ldOne_r, ldA_r, stOne_r, stA_r, rdk_r, rdkA_r, wrk_r, wrkA_r, alc_r, lenS_r, lenT_r, cvi_r, pick_r, not_r, mx_r, mn_r, ixa_r, ixaA_r, bld_r, add_r, sub_r, mul_r, quo_r, rem_r, eql_r, neq_r, lss_r, leq_r, gtr_r, geq_r, eqb_r, neb_r, eqp_r, nep_r, ↓gv_r, gvn_r, ↓g_r, gn_r, Bool.not_true, Bool.not_false, Bool.false_eq_true, Bool.true_eq_false, reduceIte, List.tail_cons, List.headD_cons, decide_true, decide_false, cond_true, cond_false, Nat.beq_refl, c0_r, c1_r, c2_r, c3_r, c4_r, c5_r, c6_r, c7_r, c8_r, c9_r, c10_r, c11_r, c12_r, xk_hit, List.replicate, extr_p0, extr_p1, extr_q0, extr_q1, extr_q2, fa_z, adds_v, lenT_v, retR]
        · simp only [Bool.not_true]
          rw [cnd_b, if_neg (by simp), bind_eq lenT_v, bind_eq sub_r, wl, bind_eq xl, bind_eq e3]
          unfold alnumB
          cases hl : letterB bl
          · rw [b_g_in, b_assoc, bind_eq e4, b_ret, c2_r, bind_eq pick_r]
            simp [ret]
          · simp [↓bind_andk, andk_some, ↓jn_outk, outk_nrm, outk_ext, outk_ret, ↓cnd_b, ret_r, nilc_r, fa_r, ldOne_r, ldA_r, stOne_r, stA_r, rdk_r, rdkA_r, wrk_r, wrkA_r, alc_r, lenS_r, lenT_r, cvi_r, pick_r, not_r, mx_r, mn_r, ixa_r, ixaA_r, bld_r, add_r, sub_r, mul_r, quo_r, rem_r, eql_r, neq_r, lss_r, leq_r, gtr_r, geq_r, eqb_r, neb_r, eqp_r, nep_r, ↓gv_r, gvn_r, ↓g_r, gn_r, Bool.not_true, Bool.not_false, Bool.false_eq_true, Bool.true_eq_false, reduceIte, List.tail_cons, List.headD_cons, decide_true, decide_false, cond_true, cond_false, Nat.beq_refl, c0_r, c1_r, c2_r, c3_r, c4_r, c5_r, c6_r, c7_r, c8_r, c9_r, c10_r, c11_r, c12_r, xk_hit, List.replicate, extr_p0, extr_p1, extr_q0, extr_q1, extr_q2, fa_z, adds_v, lenT_v, retR]
    · have q1 : bop .int .gtr (iv s.length) (.int .i64 12) H = some (.bool true, H) := by rw [gtr_r, decide_eq_true (by omega)]
      unfold F_nameIsName
      rw [bind_eq eqs_nil, decide_eq_false h0]
      rw [b_g_in, b_assoc, bind_eq lenT_v, b_assoc, bind_eq q1, b_ret, c3_r, bind_eq pick_r]
      simp [↓bind_andk, andk_some, ↓jn_outk, outk_nrm, outk_ext, outk_ret, ↓cnd_b, ret_r, nilc_r, fa_r, ldOne_r, ldA_r, stOne_r, stA_r, rdk_r, rdkA_r, wrk_r, wrkA_r, alc_r, lenS_r, lenT_r, cvi_r, pick_r, not_r, mx_r, mn_r, ixa_r, ixaA_r, bld_r, add_r, sub_r, mul_r, quo_r, rem_r, eql_r, neq_r, lss_r, leq_r, gtr_r, geq_r, eqb_r, neb_r, eqp_r, nep_r, ↓gv_r, gvn_r, ↓g_r, gn_r, Bool.not_true, Bool.not_false, Bool.false_eq_true, Bool.true_eq_false, reduceIte, List.tail_cons, List.headD_cons, decide_true, decide_false, cond_true, cond_false, Nat.beq_refl, c0_r, c1_r, c2_r, c3_r, c4_r, c5_r, c6_r, c7_r, c8_r, c9_r, c10_r, c11_r, c12_r, xk_hit, List.replicate, extr_p0, extr_p1, extr_q0, extr_q1, extr_q2, fa_z, adds_v, lenT_v, retR, h12]

theorem r_isName (hs : s.length ≤ 1000000000) : R (n + 4) n_nameIsName [strv s] H = some (.bool (nameB s), H) := r_isName0

def errName (s : List UInt8) : Int := if nameB s then 0 else 10
def errPref (s : List UInt8) : Int := if prefB s then 0 else 10
def errSum (s : List UInt8) : Int := if sumB s then 0 else 4

theorem r_name0 : R (n + 5) n_nameName [strv s] H = some (iv (errName s), H) := by
  have e1 : run Tryz.prog np lvs (n + 4) n_nameIsName [strv s] H = some (.bool (nameB s), H) := r_isName0
  rw [R, run_nameName rfl]
  unfold errName
  generalize nameB s = q at e1 ⊢
  cases q <;> simp [F_nameName, ↓bind_andk, andk_some, ↓jn_outk, outk_nrm, outk_ext, outk_ret, ↓cnd_b, ret_r, nilc_r, fa_r, ldOne_r, ldA_r, stOne_r, stA_r, rdk_r, rdkA_r, wrk_r, wrkA_r, alc_r, lenS_r, lenT_r, cvi_r, pick_r, not_r, mx_r, mn_r, ixa_r, ixaA_r, bld_r, add_r, sub_r, mul_r, quo_r, rem_r, eql_r, neq_r, lss_r, leq_r, gtr_r, geq_r, eqb_r, neb_r, eqp_r, nep_r, ↓gv_r, gvn_r, ↓g_r, gn_r, Bool.not_true, Bool.not_false, Bool.false_eq_true, Bool.true_eq_false, reduceIte, List.tail_cons, List.headD_cons, decide_true, decide_false, cond_true, cond_false, Nat.beq_refl, c0_r, c1_r, c2_r, c3_r, c4_r, c5_r, c6_r, c7_r, c8_r, c9_r, c10_r, c11_r, c12_r, xk_hit, List.replicate, extr_p0, extr_p1, extr_q0, extr_q1, extr_q2, fa_z, adds_v, lenT_v, retR, e1]

theorem r_name (hs : s.length ≤ 1000000000) : R (n + 5) n_nameName [strv s] H = some (iv (errName s), H) := r_name0

theorem r_hash0 : R (n + 4) n_nameHash [strv s] H = some (iv (errSum s), H) := by
  have e1 : s.length ≤ 12 → run Tryz.prog np lvs (n + 3) n_nameAll [strv s, .func (.func n_nameHash1) #[] #[]] H = some (.bool (s.all hexB), H) := fun h12 => r_allHex (by omega)
  rw [R, run_nameHash rfl]
  unfold errSum sumB F_nameHash
  rw [bind_eq eqs_nil]
  by_cases h0 : s.length = 0
  · have h1 : ¬ 1 ≤ s.length := by omega
    rw [decide_eq_true h0]
    simp [↓bind_andk, andk_some, ↓jn_outk, outk_nrm, outk_ext, outk_ret, ↓cnd_b, ret_r, nilc_r, fa_r, ldOne_r, ldA_r, stOne_r, stA_r, rdk_r, rdkA_r, wrk_r, wrkA_r, alc_r, lenS_r, lenT_r, cvi_r, pick_r, not_r, mx_r, mn_r, ixa_r, ixaA_r, bld_r, add_r, sub_r, mul_r, quo_r, rem_r, eql_r, neq_r, lss_r, leq_r, gtr_r, geq_r, eqb_r, neb_r, eqp_r, nep_r, ↓gv_r, gvn_r, ↓g_r, gn_r, Bool.not_true, Bool.not_false, Bool.false_eq_true, Bool.true_eq_false, reduceIte, List.tail_cons, List.headD_cons, decide_true, decide_false, cond_true, cond_false, Nat.beq_refl, c0_r, c1_r, c2_r, c3_r, c4_r, c5_r, c6_r, c7_r, c8_r, c9_r, c10_r, c11_r, c12_r, xk_hit, List.replicate, extr_p0, extr_p1, extr_q0, extr_q1, extr_q2, fa_z, adds_v, lenT_v, retR, h1]
  · have h1 : 1 ≤ s.length := by omega
    rw [decide_eq_false h0, b_g_in, b_assoc, bind_eq lenT_v]
    by_cases h12 : s.length ≤ 12
    · have q1 : bop .int .gtr (iv s.length) (.int .i64 12) H = some (.bool false, H) := by rw [gtr_r, decide_eq_false (by omega)]
      rw [b_assoc, bind_eq q1, b_ret, c3_r, bind_eq pick_r]
      simp only [cond_false]
      rw [b_g_in, b_assoc, bind_eq (e1 h12), b_assoc, bind_eq not_r, b_ret, c4_r, bind_eq pick_r]
      cases s.all hexB <;> simp [↓bind_andk, andk_some, ↓jn_outk, outk_nrm, outk_ext, outk_ret, ↓cnd_b, ret_r, nilc_r, fa_r, ldOne_r, ldA_r, stOne_r, stA_r, rdk_r, rdkA_r, wrk_r, wrkA_r, alc_r, lenS_r, lenT_r, cvi_r, pick_r, not_r, mx_r, mn_r, ixa_r, ixaA_r, bld_r, add_r, sub_r, mul_r, quo_r, rem_r, eql_r, neq_r, lss_r, leq_r, gtr_r, geq_r, eqb_r, neb_r, eqp_r, nep_r, ↓gv_r, gvn_r, ↓g_r, gn_r, Bool.not_true, Bool.not_false, Bool.false_eq_true, Bool.true_eq_false, reduceIte, List.tail_cons, List.headD_cons, decide_true, decide_false, cond_true, cond_false, Nat.beq_refl, c0_r, c1_r, c2_r, c3_r, c4_r, c5_r, c6_r, c7_r, c8_r, c9_r, c10_r, c11_r, c12_r, xk_hit, List.replicate, extr_p0, extr_p1, extr_q0, extr_q1, extr_q2, fa_z, adds_v, lenT_v, retR, h12, h1]
    · have q1 : bop .int .gtr (iv s.length) (.int .i64 12) H = some (.bool true, H) := by rw [gtr_r, decide_eq_true (by omega)]
      rw [b_assoc, bind_eq q1, b_ret, c3_r, bind_eq pick_r]
      simp [↓bind_andk, andk_some, ↓jn_outk, outk_nrm, outk_ext, outk_ret, ↓cnd_b, ret_r, nilc_r, fa_r, ldOne_r, ldA_r, stOne_r, stA_r, rdk_r, rdkA_r, wrk_r, wrkA_r, alc_r, lenS_r, lenT_r, cvi_r, pick_r, not_r, mx_r, mn_r, ixa_r, ixaA_r, bld_r, add_r, sub_r, mul_r, quo_r, rem_r, eql_r, neq_r, lss_r, leq_r, gtr_r, geq_r, eqb_r, neb_r, eqp_r, nep_r, ↓gv_r, gvn_r, ↓g_r, gn_r, Bool.not_true, Bool.not_false, Bool.false_eq_true, Bool.true_eq_false, reduceIte, List.tail_cons, List.headD_cons, decide_true, decide_false, cond_true, cond_false, Nat.beq_refl, c0_r, c1_r, c2_r, c3_r, c4_r, c5_r, c6_r, c7_r, c8_r, c9_r, c10_r, c11_r, c12_r, xk_hit, List.replicate, extr_p0, extr_p1, extr_q0, extr_q1, extr_q2, fa_z, adds_v, lenT_v, retR, h12]

theorem r_hash (hs : s.length ≤ 1000000000) : R (n + 4) n_nameHash [strv s] H = some (iv (errSum s), H) := r_hash0

/-! the document's -/

theorem u8_beq {a b : UInt8} : ((a.toNat : Int) == (b.toNat : Int)) = (a == b) := by
  rw [Bool.eq_iff_iff, beq_iff_eq, beq_iff_eq, Int.ofNat_inj, UInt8.toNat_inj]

theorem in_do {t : List UInt8} (ht : t.length ≤ 1000000) : ∀ (d k : Nat), t.length - k = d → k ≤ t.length →
    loopM (c3 (F_ref05In.l1 (R n))) [u8v b, strv t, iv k] H = some (if (t.drop k).any (· == b) then .ret (.bool true) else .ext 0 [], H)
  | 0, k, hd, hk => by
    have : k = t.length := by omega
    subst this
    rw [List.drop_length]
    refine loop_ext ?_
    rw [c3_r]
    unfold F_ref05In.l1
    rw [bind_eq lenT_v, bind_eq lss_r, cnd_b, if_neg (by simp)]
    rfl
  | d + 1, k, hd, hk => by
    have hkl : k < t.length := by omega
    have hlt : (k : Int) < t.length := by omega
    have hg := List.getElem?_eq_getElem hkl
    have hdr := List.drop_eq_getElem_cons hkl
    generalize t[k] = c at hg hdr
    have x1 := ixs_v hg .i64 H
    have ih := in_do ht d (k + 1) (by omega) (by omega)
    rw [hdr, List.any_cons]
    cases hc : c == b
    · rw [Bool.false_or]
      refine (loop_next ?_).trans ih
      rw [c3_r]
      unfold F_ref05In.l1
      rw [bind_eq lenT_v, bind_eq lss_r, cnd_b, if_pos (by simpa using hlt), bind_eq x1, bind_eq eql_r, u8_beq, hc, cnd_b, if_neg (by simp), bind_eq add_r, wsuc (by omega)]
      rfl
    · refine loop_ret ?_
      rw [c3_r]
      unfold F_ref05In.l1
      rw [bind_eq lenT_v, bind_eq lss_r, cnd_b, if_pos (by simpa using hlt), bind_eq x1, bind_eq eql_r, u8_beq, hc, cnd_b, if_pos rfl]
      rfl

theorem r_in {t : List UInt8} (ht : t.length ≤ 1000000) : R (n + 1) n_ref05In [u8v b, strv t] H = some (.bool (t.any (· == b)), H) := by
  have e := in_do (n := n) (H := H) (b := b) ht t.length 0 (by omega) (by omega)
  rw [List.drop_zero] at e
  have e : loopM (c3 (F_ref05In.l1 (R n))) [u8v b, strv t, .int .i64 0] H = _ := e
  rw [R, run_ref05In rfl]
  unfold F_ref05In
  cases h : t.any (· == b)
  · rw [h] at e
    rw [jn_ext e, xk_hit]; rfl
  · rw [h] at e
    rw [jn_ret e]; rfl

theorem of_do {t : List UInt8} (ht : t.length ≤ 1000000) (hs : s.length ≤ 1000000000) : ∀ (d k : Nat), s.length - k = d → k ≤ s.length →
    loopM (c3 (F_ref05Of.l1 (R (n + 1)))) [strv s, strv t, iv k] H = some (if (s.drop k).all (fun b => t.any (· == b)) then .ext 0 [] else .ret (.bool false), H)
  | 0, k, hd, hk => by
    have : k = s.length := by omega
    subst this
    rw [List.drop_length]
    refine loop_ext ?_
    rw [c3_r]
    unfold F_ref05Of.l1
    rw [bind_eq lenT_v, bind_eq lss_r, cnd_b, if_neg (by simp)]
    rfl
  | d + 1, k, hd, hk => by
    have hkl : k < s.length := by omega
    have hlt : (k : Int) < s.length := by omega
    have hg := List.getElem?_eq_getElem hkl
    have hdr := List.drop_eq_getElem_cons hkl
    generalize s[k] = c at hg hdr
    have x1 := ixs_v hg .i64 H
    have e1 := r_in (n := n) (b := c) (H := H) ht
    have ih := of_do ht hs d (k + 1) (by omega) (by omega)
    rw [hdr, List.all_cons]
    cases hc : t.any (· == c)
    · rw [hc] at e1
      refine loop_ret ?_
      rw [c3_r]
      unfold F_ref05Of.l1
      rw [bind_eq lenT_v, bind_eq lss_r, cnd_b, if_pos (by simpa using hlt), bind_eq x1, bind_eq e1, bind_eq not_r, cnd_b, if_pos (by rfl)]
      rfl
    · rw [hc] at e1
      rw [Bool.true_and]
      refine (loop_next ?_).trans ih
      rw [c3_r]
      unfold F_ref05Of.l1
      rw [bind_eq lenT_v, bind_eq lss_r, cnd_b, if_pos (by simpa using hlt), bind_eq x1, bind_eq e1, bind_eq not_r, cnd_b, if_neg (by simp), bind_eq add_r, wsuc (by omega)]
      rfl

theorem r_of {t : List UInt8} {p : UInt8 → Bool} (ht : t.length ≤ 1000000) (hs : s.length ≤ 1000000000) (hp : ∀ b, t.any (· == b) = p b) : R (n + 2) n_ref05Of [strv s, strv t] H = some (.bool (s.all p), H) := by
  have e := of_do (n := n) (H := H) ht hs s.length 0 (by omega) (by omega)
  rw [List.drop_zero] at e
  rw [show (fun b => t.any (· == b)) = p from funext hp] at e
  have e : loopM (c3 (F_ref05Of.l1 (R (n + 1)))) [strv s, strv t, .int .i64 0] H = _ := e
  rw [R, run_ref05Of rfl]
  unfold F_ref05Of
  cases h : s.all p
  · rw [h] at e
    rw [jn_ret e]; rfl
  · rw [h] at e
    rw [jn_ext e, xk_hit]; rfl

def lettersL : List UInt8 := [97, 98, 99, 100, 101, 102, 103, 104, 105, 106, 107, 108, 109, 110, 111, 112, 113, 114, 115, 116, 117, 118, 119, 120, 121, 122]
def alnumL : List UInt8 := [97, 98, 99, 100, 101, 102, 103, 104, 105, 106, 107, 108, 109, 110, 111, 112, 113, 114, 115, 116, 117, 118, 119, 120, 121, 122, 48, 49, 50, 51, 52, 53, 54, 55, 56, 57]
def signsL : List UInt8 := [97, 98, 99, 100, 101, 102, 103, 104, 105, 106, 107, 108, 109, 110, 111, 112, 113, 114, 115, 116, 117, 118, 119, 120, 121, 122, 48, 49, 50, 51, 52, 53, 54, 55, 56, 57, 45, 46]
def hexL : List UInt8 := [48, 49, 50, 51, 52, 53, 54, 55, 56, 57, 97, 98, 99, 100, 101, 102]

theorem u8_all {p : UInt8 → Prop} (h : ∀ n : Nat, n < 256 → p (UInt8.ofNat n)) (b : UInt8) : p b := by
  have := h b.toNat b.toNat_lt
  rwa [UInt8.ofNat_toNat] at this

theorem letters_eq : ∀ b, lettersL.any (· == b) = letterB b := u8_all (by decide +kernel)
theorem alnum_eq : ∀ b, alnumL.any (· == b) = alnumB b := u8_all (by decide +kernel)
theorem signs_eq : ∀ b, signsL.any (· == b) = signB b := u8_all (by decide +kernel)
theorem hex_eq : ∀ b, hexL.any (· == b) = hexB b := u8_all (by decide +kernel)

theorem r_refHash0 : R (n + 3) n_ref05Hash [strv s] H = some (.bool (sumB s), H) := by
  have e1 : s.length ≤ 12 → run Tryz.prog np lvs (n + 2) n_ref05Of [strv s, strv hexL] H = some (.bool (s.all hexB), H) := fun h12 => r_of (by decide) (by omega) hex_eq
  rw [R, run_ref05Hash rfl]
  unfold sumB F_ref05Hash
  rw [bind_eq lenT_v]
  by_cases h1 : 1 ≤ s.length
  · have q1 : bop .int .geq (iv s.length) (.int .i64 1) H = some (.bool true, H) := by rw [geq_r, decide_eq_true (by omega)]
    rw [bind_eq q1, b_g_in, b_assoc, bind_eq lenT_v]
    by_cases h12 : s.length ≤ 12
    · have q2 : bop .int .leq (iv s.length) (.int .i64 12) H = some (.bool true, H) := by rw [leq_r, decide_eq_true (by omega)]
      rw [b_assoc, bind_eq q2, b_ret, c3_r, bind_eq pick_r]
      simp only [cond_true]
      rw [b_g_in, b_assoc]
      refine (bind_eq (e1 h12)).trans ?_
      rw [b_ret, c2_r, bind_eq pick_r, decide_eq_true h12, decide_eq_true h1]
      rfl
    · have q2 : bop .int .leq (iv s.length) (.int .i64 12) H = some (.bool false, H) := by rw [leq_r, decide_eq_false (by omega)]
      rw [b_assoc, bind_eq q2, b_ret, c3_r, bind_eq pick_r]
      simp [↓bind_andk, andk_some, ↓jn_outk, outk_nrm, outk_ext, outk_ret, ↓cnd_b, ret_r, nilc_r, fa_r, ldOne_r, ldA_r, stOne_r, stA_r, rdk_r, rdkA_r, wrk_r, wrkA_r, alc_r, lenS_r, lenT_r, cvi_r, pick_r, not_r, mx_r, mn_r, ixa_r, ixaA_r, bld_r, add_r, sub_r, mul_r, quo_r, rem_r, eql_r, neq_r, lss_r, leq_r, gtr_r, geq_r, eqb_r, neb_r, eqp_r, nep_r, ↓gv_r, gvn_r, ↓g_r, gn_r, Bool.not_true, Bool.not_false, Bool.false_eq_true, Bool.true_eq_false, reduceIte, List.tail_cons, List.headD_cons, decide_true, decide_false, cond_true, cond_false, Nat.beq_refl, c0_r, c1_r, c2_r, c3_r, c4_r, c5_r, c6_r, c7_r, c8_r, c9_r, c10_r, c11_r, c12_r, xk_hit, List.replicate, extr_p0, extr_p1, extr_q0, extr_q1, extr_q2, fa_z, adds_v, lenT_v, retR, h12]
  · have q1 : bop .int .geq (iv s.length) (.int .i64 1) H = some (.bool false, H) := by rw [geq_r, decide_eq_false (by omega)]
    rw [bind_eq q1]
    simp [↓bind_andk, andk_some, ↓jn_outk, outk_nrm, outk_ext, outk_ret, ↓cnd_b, ret_r, nilc_r, fa_r, ldOne_r, ldA_r, stOne_r, stA_r, rdk_r, rdkA_r, wrk_r, wrkA_r, alc_r, lenS_r, lenT_r, cvi_r, pick_r, not_r, mx_r, mn_r, ixa_r, ixaA_r, bld_r, add_r, sub_r, mul_r, quo_r, rem_r, eql_r, neq_r, lss_r, leq_r, gtr_r, geq_r, eqb_r, neb_r, eqp_r, nep_r, ↓gv_r, gvn_r, ↓g_r, gn_r, Bool.not_true, Bool.not_false, Bool.false_eq_true, Bool.true_eq_false, reduceIte, List.tail_cons, List.headD_cons, decide_true, decide_false, cond_true, cond_false, Nat.beq_refl, c0_r, c1_r, c2_r, c3_r, c4_r, c5_r, c6_r, c7_r, c8_r, c9_r, c10_r, c11_r, c12_r, xk_hit, List.replicate, extr_p0, extr_p1, extr_q0, extr_q1, extr_q2, fa_z, adds_v, lenT_v, retR, h1]

theorem r_refHash (hs : s.length ≤ 1000000000) : R (n + 3) n_ref05Hash [strv s] H = some (.bool (sumB s), H) := r_refHash0

theorem r_refName0 : R (n + 3) n_ref05Name [strv s] H = some (.bool (nameB s), H) := by
  have e1 : s.length ≤ 12 → run Tryz.prog np lvs (n + 2) n_ref05Of [strv s, strv signsL] H = some (.bool (s.all signB), H) := fun h12 => r_of (by decide) (by omega) signs_eq
  rw [R, run_ref05Name rfl]
  unfold nameB F_ref05Name
  rw [bind_eq lenT_v]
  by_cases h1 : 1 ≤ s.length
  · have q1 : bop .int .geq (iv s.length) (.int .i64 1) H = some (.bool true, H) := by rw [geq_r, decide_eq_true (by omega)]
    rw [bind_eq q1, b_g_in, b_assoc]
    by_cases h12 : s.length ≤ 12
    · have q2 : bop .int .leq (iv s.length) (.int .i64 12) H = some (.bool true, H) := by rw [leq_r, decide_eq_true (by omega)]
      have g0 : s[0]? = some (s.getD 0 0) := by rw [List.getElem?_eq_getElem (by omega)]; simp [List.getD_eq_getElem?_getD, List.getElem?_eq_getElem (show 0 < s.length by omega)]
      have gl : s[s.length - 1]? = some (s.getD (s.length - 1) 0) := by rw [List.getElem?_eq_getElem (by omega)]; simp [List.getD_eq_getElem?_getD, List.getElem?_eq_getElem (show s.length - 1 < s.length by omega)]
      have x0 : ixs (strv s) (.int .i64 0) H = some (u8v (s.getD 0 0), H) := ixs_v g0 .i64 H
      have xl := ixs_v gl .i64 H
      have wl := wpred (k := s.length) (by omega) (by omega)
      generalize s.getD 0 0 = b0 at x0
      generalize s.getD (s.length - 1) 0 = bl at xl
      have e2 : run Tryz.prog np lvs (n + 2) n_ref05In [u8v b0, strv lettersL] H = some (.bool (letterB b0), H) := by rw [← letters_eq]; exact r_in (by decide)
      have e3 : run Tryz.prog np lvs (n + 2) n_ref05In [u8v bl, strv alnumL] H = some (.bool (alnumB bl), H) := by rw [← alnum_eq]; exact r_in (by decide)
      rw [bind_eq q2, b_ret, c2_r, bind_eq pick_r]
      simp only [cond_true]
      rw [b_g_in, b_assoc]
      refine (bind_eq (e1 h12)).trans ?_
      rw [b_ret, c2_r, bind_eq pick_r, decide_eq_true h12, decide_eq_true h1]
      simp only [cond_true]
      cases hall : s.all signB
      · simp [↓bind_andk, andk_some, ↓jn_outk, outk_nrm, outk_ext, outk_ret, ↓cnd_b, ret_r, nilc_r, fa_r, ldOne_r, ldA_r, stOne_r, stA_r, rdk_r, rdkA_r, wrk_r, wrkA_r, alc_r, lenS_r, lenT_r, cvi_r, pick_r, not_r, mx_r, mn_r, ixa_r, ixaA_r, bld_r, add_r, sub_r, mul_r, quo_r, rem_r, eql_r, neq_r, lss_r, leq_r, gtr_r, geq_r, eqb_r, neb_r, eqp_r, nep_r, ↓gv_r, gvn_r, ↓g_r, gn_r, Bool.not_true, Bool.not_false, Bool.false_eq_true, Bool.true_eq_false, reduceIte, List.tail_cons, List.headD_cons, decide_true, decide_false, cond_true, cond_false, Nat.beq_refl, c0_r, c1_r, c2_r, c3_r, c4_r, c5_r, c6_r, c7_r, c8_r, c9_r, c10_r, c11_r, c12_r, xk_hit, List.replicate, extr_p0, extr_p1, extr_q0, extr_q1, extr_q2, fa_z, adds_v, lenT_v, retR]
      · rw [b_g_in, b_assoc, bind_eq x0, b_assoc]
        refine (bind_eq e2).trans ?_
        rw [b_ret, c3_r, bind_eq pick_r]
        simp only [cond_true]
        cases hb : letterB b0
        · simp [↓bind_andk, andk_some, ↓jn_outk, outk_nrm, outk_ext, outk_ret, ↓cnd_b, ret_r, nilc_r, fa_r, ldOne_r, ldA_r, stOne_r, stA_r, rdk_r, rdkA_r, wrk_r, wrkA_r, alc_r, lenS_r, lenT_r, cvi_r, pick_r, not_r, mx_r, mn_r, ixa_r, ixaA_r, bld_r, add_r, sub_r, mul_r, quo_r, rem_r, eql_r, neq_r, lss_r, leq_r, gtr_r, geq_r, eqb_r, neb_r, eqp_r, nep_r, ↓gv_r, gvn_r, ↓g_r, gn_r, Bool.not_true, Bool.not_false, Bool.false_eq_true, Bool.true_eq_false, reduceIte, List.tail_cons, List.headD_cons, decide_true, decide_false, cond_true, cond_false, Nat.beq_refl, c0_r, c1_r, c2_r, c3_r, c4_r, c5_r, c6_r, c7_r, c8_r, c9_r, c10_r, c11_r, c12_r, xk_hit, List.replicate, extr_p0, extr_p1, extr_q0, extr_q1, extr_q2, fa_z, adds_v, lenT_v, retR]
        · rw [b_g_in, b_assoc, bind_eq sub_r, wl, b_assoc, bind_eq xl, b_assoc]
          refine (bind_eq e3).trans ?_
          rw [b_ret, c5_r, bind_eq pick_r]
          rfl
    · have q2 : bop .int .leq (iv s.length) (.int .i64 12) H = some (.bool false, H) := by rw [leq_r, decide_eq_false (by omega)]
      rw [bind_eq q2, b_ret, c2_r, bind_eq pick_r]
      simp [↓bind_andk, andk_some, ↓jn_outk, outk_nrm, outk_ext, outk_ret, ↓cnd_b, ret_r, nilc_r, fa_r, ldOne_r, ldA_r, stOne_r, stA_r, rdk_r, rdkA_r, wrk_r, wrkA_r, alc_r, lenS_r, lenT_r, cvi_r, pick_r, not_r, mx_r, mn_r, ixa_r, ixaA_r, bld_r, add_r, sub_r, mul_r, quo_r, rem_r, eql_r, neq_r, lss_r, leq_r, gtr_r, geq_r, eqb_r, neb_r, eqp_r, nep_r, ↓gv_r, gvn_r, ↓g_r, gn_r, Bool.not_true, Bool.not_false, Bool.false_eq_true, Bool.true_eq_false, reduceIte, List.tail_cons, List.headD_cons, decide_true, decide_false, cond_true, cond_false, Nat.beq_refl, c0_r, c1_r, c2_r, c3_r, c4_r, c5_r, c6_r, c7_r, c8_r, c9_r, c10_r, c11_r, c12_r, xk_hit, List.replicate, extr_p0, extr_p1, extr_q0, extr_q1, extr_q2, fa_z, adds_v, lenT_v, retR, h12]
  · have q1 : bop .int .geq (iv s.length) (.int .i64 1) H = some (.bool false, H) := by rw [geq_r, decide_eq_false (by omega)]
    rw [bind_eq q1]
    simp [↓bind_andk, andk_some, ↓jn_outk, outk_nrm, outk_ext, outk_ret, ↓cnd_b, ret_r, nilc_r, fa_r, ldOne_r, ldA_r, stOne_r, stA_r, rdk_r, rdkA_r, wrk_r, wrkA_r, alc_r, lenS_r, lenT_r, cvi_r, pick_r, not_r, mx_r, mn_r, ixa_r, ixaA_r, bld_r, add_r, sub_r, mul_r, quo_r, rem_r, eql_r, neq_r, lss_r, leq_r, gtr_r, geq_r, eqb_r, neb_r, eqp_r, nep_r, ↓gv_r, gvn_r, ↓g_r, gn_r, Bool.not_true, Bool.not_false, Bool.false_eq_true, Bool.true_eq_false, reduceIte, List.tail_cons, List.headD_cons, decide_true, decide_false, cond_true, cond_false, Nat.beq_refl, c0_r, c1_r, c2_r, c3_r, c4_r, c5_r, c6_r, c7_r, c8_r, c9_r, c10_r, c11_r, c12_r, xk_hit, List.replicate, extr_p0, extr_p1, extr_q0, extr_q1, extr_q2, fa_z, adds_v, lenT_v, retR, h1]

theorem r_refName (hs : s.length ≤ 1000000000) : R (n + 3) n_ref05Name [strv s] H = some (.bool (nameB s), H) := r_refName0

end

end Go.Proofs.YtlpibiaokpbhbaaGreatDoor.A
