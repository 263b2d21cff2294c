/- The document's net: bits are spoilt. -/
import Derived.Test.YtkjoaediojdodaaRefNet2
namespace Go.Proofs.Ytkjoaediojdodaa.A
set_option linter.unusedVariables false
set_option linter.unusedSimpArgs false
open Go.Proofs Go.Proofs.Ytkjoaediojdodaa

set_option maxRecDepth 100000 in
theorem tgl_all : ∀ x : Fin 256, ∀ k : Fin 8, (x.1 / 2 ^ k.1 % 2 = 1 → x.1 ^^^ 2 ^ k.1 = x.1 - 2 ^ k.1 ∧ 2 ^ k.1 ≤ x.1) ∧ (x.1 / 2 ^ k.1 % 2 ≠ 1 → x.1 ^^^ 2 ^ k.1 = x.1 + 2 ^ k.1 ∧ x.1 + 2 ^ k.1 < 256) := by decide +kernel

theorem tgl_nat {b : UInt8} {k : Nat} (hk : k < 8) : (tgl b k).toNat = b.toNat ^^^ 2 ^ k := by
  unfold tgl
  rw [UInt8.toNat_xor, UInt8.toNat_ofNat', Nat.mod_eq_of_lt (show 2 ^ k < 2 ^ 8 from pow_lt8 hk)]

theorem tgl_sub {b : UInt8} {k : Nat} (hk : k < 8) (h : b.toNat / 2 ^ k % 2 = 1) : IntKind.u8.wrap ((b.toNat : Int) - ((2 ^ k : Nat) : Int)) = ((tgl b k).toNat : Int) := by
  have := (tgl_all ⟨b.toNat, b.toNat_lt⟩ ⟨k, hk⟩).1 h
  simp only at this
  rw [tgl_nat hk, this.1, wu8]
  have := this.2
  have hb : b.toNat < 256 := b.toNat_lt
  generalize 2 ^ k = w at *
  omega

theorem tgl_add {b : UInt8} {k : Nat} (hk : k < 8) (h : ¬ b.toNat / 2 ^ k % 2 = 1) : IntKind.u8.wrap ((b.toNat : Int) + ((2 ^ k : Nat) : Int)) = ((tgl b k).toNat : Int) := by
  have := (tgl_all ⟨b.toNat, b.toNat_lt⟩ ⟨k, hk⟩).2 h
  simp only at this
  rw [tgl_nat hk, this.1, wu8]
  have := this.2
  generalize 2 ^ k = w at *
  omega

theorem nat_u8 (w : Nat) (h : w < 256) : IntKind.u8.wrap (w : Int) = w := by rw [wu8]; omega
theorem nat_mod2 (w : Nat) : (w : Int).tmod 2 = ((w % 2 : Nat) : Int) := by
  rw [Int.tmod_eq_emod_of_nonneg (Int.natCast_nonneg _)]; omega

theorem pow_loop {m k : Nat} {s3 s4 s8 s10 s11 s12 s41 : Value} {H : Heap} (hk : k < 8) : ∀ (d r : Nat), k - r = d → r ≤ k →
    loopM (fun vs => F_ref30Spoil.l2 (R m) (vs.headD undef) (vs.tail.headD undef) (vs.tail.tail.headD undef) (vs.tail.tail.tail.headD undef) (vs.tail.tail.tail.tail.headD undef) (vs.tail.tail.tail.tail.tail.headD undef) (vs.tail.tail.tail.tail.tail.tail.headD undef) (vs.tail.tail.tail.tail.tail.tail.tail.headD undef) (vs.tail.tail.tail.tail.tail.tail.tail.tail.headD undef) (vs.tail.tail.tail.tail.tail.tail.tail.tail.tail.headD undef))
      [s3, s4, s8, s10, s11, s12, .int .u8 ((2 ^ r : Nat) : Int), s41, .int .u64 k, .int .u64 r] H = some (.ext 2 [s3, s4, s8, s10, s11, s12, .int .u8 ((2 ^ k : Nat) : Int), s41], H)
  | 0, r, hd, hr => by
    have : r = k := by omega
    subst this
    refine loop_ext ?_
    simp [F_ref30Spoil.l2, ↓bind_andk, andk_some, ↓jn_outk, outk_nrm, outk_ext, outk_ret, ↓cnd_b, ret_r, nilc_r, fa_r, ldOne_r, ldA_r, stOne_r, stA_r, rdk_r, rdkA_r, wrk_r, wrkA_r, alc_r, lenS_r, lenT_r, cvi_r, pick_r, not_r, mx_r, mn_r, ixa_r, ixaA_r, bld_r, add_r, sub_r, mul_r, quo_r, rem_r, eql_r, neq_r, lss_r, leq_r, gtr_r, geq_r, eqb_r, neb_r, eqp_r, nep_r, ↓gv_r, gvn_r, ↓g_r, gn_r]
  | d + 1, r, hd, hr => by
    have hlt : (r : Int) < k := by omega
    have w1 : IntKind.u64.wrap ((r : Int) + 1) = ((r + 1 : Nat) : Int) := by rw [wu64]; omega
    have w2 : IntKind.u8.wrap (2 * ((2 ^ r : Nat) : Int)) = ((2 ^ (r + 1) : Nat) : Int) := by
      have := pow_lt8 (show r + 1 < 8 by omega)
      rw [wu8, Nat.pow_succ] at *
      generalize 2 ^ r = w at *
      omega
    refine Eq.trans (loop_next ?_) (pow_loop hk d (r + 1) (by omega) (by omega))
    simp only [F_ref30Spoil.l2, ↓bind_andk, andk_some, ↓jn_outk, outk_nrm, outk_ext, outk_ret, ↓cnd_b, ret_r, nilc_r, fa_r, ldOne_r, ldA_r, stOne_r, stA_r, rdk_r, rdkA_r, wrk_r, wrkA_r, alc_r, lenS_r, lenT_r, cvi_r, pick_r, not_r, mx_r, mn_r, ixa_r, ixaA_r, bld_r, add_r, sub_r, mul_r, quo_r, rem_r, eql_r, neq_r, lss_r, leq_r, gtr_r, geq_r, eqb_r, neb_r, eqp_r, nep_r, ↓gv_r, gvn_r, ↓g_r, gn_r, Bool.not_true, Bool.not_false, Bool.false_eq_true, Bool.true_eq_false, reduceIte, List.tail_cons, List.headD_cons, decide_true, decide_false, cond_true, cond_false, Nat.beq_refl, hlt, w1, w2]

theorem refspoil_loop {m f t L : Nat} {v s4 s8 s10 : Value} {q : List Nat} (hL : L ≤ 100000) (hf : f < 8 * L) (ht : t < 4294967296) : ∀ (d r : Nat) {a : Bool} {p : List UInt8} {H : Heap}, 32 - r = d → r ≤ 32 → p.length = L → RowS H v (u8s p) q →
    ∃ H', loopM (fun vs => F_ref30Spoil.l1 (R m) (vs.headD undef) (vs.tail.headD undef) (vs.tail.tail.headD undef) (vs.tail.tail.tail.headD undef) (vs.tail.tail.tail.tail.headD undef) (vs.tail.tail.tail.tail.tail.headD undef) (vs.tail.tail.tail.tail.tail.tail.headD undef) (vs.tail.tail.tail.tail.tail.tail.tail.headD undef))
      [.int .u32 ((t / 2 ^ r : Nat) : Int), s4, s8, s10, v, .int .u64 ((f + r : Nat) : Int), .bool a, iv r] H = some (.ext 0 [s4, s8, s10, v, .bool (a || anyD t f L d r)], H') ∧
      RowS H' v (u8s (splD t f d r p)) q ∧ Step q H q H' ∧ H'.length = H.length
  | 0, r, a, p, H, hd, hr, hp, hrow => by
    have : r = 32 := by omega
    subst this
    refine ⟨H, loop_ext ?_, hrow, .refl _ _, rfl⟩
    have h32 : ¬ ((32 : Nat) : Int) < 32 := by omega
    simp only [F_ref30Spoil.l1, ↓bind_andk, andk_some, ↓jn_outk, outk_nrm, outk_ext, outk_ret, ↓cnd_b, ret_r, nilc_r, fa_r, ldOne_r, ldA_r, stOne_r, stA_r, rdk_r, rdkA_r, wrk_r, wrkA_r, alc_r, lenS_r, lenT_r, cvi_r, pick_r, not_r, mx_r, mn_r, ixa_r, ixaA_r, bld_r, add_r, sub_r, mul_r, quo_r, rem_r, eql_r, neq_r, lss_r, leq_r, gtr_r, geq_r, eqb_r, neb_r, eqp_r, nep_r, ↓gv_r, gvn_r, ↓g_r, gn_r, Bool.not_true, Bool.not_false, Bool.false_eq_true, Bool.true_eq_false, reduceIte, List.tail_cons, List.headD_cons, decide_true, decide_false, cond_true, cond_false, Nat.beq_refl, h32, anyD, Bool.or_false]
  | d + 1, r, a, p, H, hd, hr, hp, hrow => by
    have hlt : (r : Int) < 32 := by omega
    have w1 : IntKind.i64.wrap ((r : Int) + 1) = ((r + 1 : Nat) : Int) := by rw [w64 (by omega) (by omega)]; simp
    have w2 : IntKind.u64.wrap (((f + r : Nat) : Int) + 1) = ((f + (r + 1) : Nat) : Int) := by rw [wu64]; omega
    have w3 : IntKind.i64.wrap (8 * (L : Int)) = ((8 * L : Nat) : Int) := by rw [w64 (by omega) (by omega)]; omega
    have w4 : IntKind.u64.wrap ((8 * L : Nat) : Int) = ((8 * L : Nat) : Int) := by rw [wu64]; omega
    have h2 : ¬ ((2 : Int) = 0) := by omega
    have h8 : ¬ ((8 : Int) = 0) := by omega
    have hdiv : t / 2 ^ r < 4294967296 := Nat.lt_of_le_of_lt (Nat.div_le_self _ _) ht
    have w5 : IntKind.u32.wrap (((t / 2 ^ r : Nat) : Int).tdiv 2) = ((t / 2 ^ (r + 1) : Nat) : Int) := by
      rw [Int.tdiv_eq_ediv_of_nonneg (Int.natCast_nonneg _), wu32, Nat.pow_succ, ← Nat.div_div_eq_div_mul]
      generalize t / 2 ^ r = w at *
      omega
    have hm : ((t / 2 ^ r : Nat) : Int).tmod 2 = if t.testBit r then 1 else 0 := by
      rw [Int.tmod_eq_emod_of_nonneg (Int.natCast_nonneg _)]
      have := testBit_mod t r
      generalize t / 2 ^ r = w at *
      by_cases hb : t.testBit r = true
      · rw [if_pos hb] at this ⊢; omega
      · rw [if_neg hb] at this ⊢; omega
    have e1 : ∀ H', lenS v H' = some (iv L, H') := fun H' => by
      have := hrow.rd.len (H' := H')
      rwa [u8s_length, hp] at this
    by_cases hc : t.testBit r = true ∧ f + r < 8 * p.length
    · rw [if_pos hc.1] at hm
      have hlt2 : ((f + r : Nat) : Int) < ((8 * L : Nat) : Int) := by have := hc.2; omega
      have hk : (f + r) % 8 < 8 := Nat.mod_lt _ (by omega)
      have w6 : IntKind.u64.wrap (((f + r : Nat) : Int).tdiv 8) = (((f + r) / 8 : Nat) : Int) := by
        rw [Int.tdiv_eq_ediv_of_nonneg (by omega), wu64]; omega
      have w7 : ((f + r : Nat) : Int).tmod 8 = (((f + r) % 8 : Nat) : Int) := by
        rw [Int.tmod_eq_emod_of_nonneg (by omega)]; omega
      obtain ⟨id, o, cs, es, g, f1, f2, f3, f4, f5, f6⟩ := hrow.put2 (u8s_get (i := (f + r) / 8) (by omega)) .u64
      have hr2 := f6 (.int .u8 (tgl (p.getD ((f + r) / 8) 0) ((f + r) % 8)).toNat)
      rw [u8s_tog] at hr2
      obtain ⟨H2, e2, r2, s2, l2⟩ := refspoil_loop (m := m) hL hf ht d (r + 1) (a := true) (by omega) (by omega) (by rw [togL_len]; exact hp) hr2
      have ep := pow_loop (m := m) (s3 := .int .u32 ((t / 2 ^ r : Nat) : Int)) (s4 := s4) (s8 := s8) (s10 := s10) (s11 := v) (s12 := .int .u64 ((f + r : Nat) : Int)) (s41 := iv r) (H := H) hk ((f + r) % 8) 0 (by omega) (by omega)
      rw [show ((2 ^ 0 : Nat) : Int) = 1 from rfl, show ((0 : Nat) : Int) = 0 from rfl] at ep
      have hpow := pow_lt8 hk
      have hpos : 0 < 2 ^ ((f + r) % 8) := Nat.pow_pos (by omega)
      have hp0 : ¬ (((2 ^ ((f + r) % 8) : Nat) : Int) = 0) := by omega
      have hb256 : (p.getD ((f + r) / 8) 0).toNat < 256 := UInt8.toNat_lt _
      have w8 : IntKind.u8.wrap (((p.getD ((f + r) / 8) 0).toNat : Int).tdiv ((2 ^ ((f + r) % 8) : Nat) : Int)) = (((p.getD ((f + r) / 8) 0).toNat / 2 ^ ((f + r) % 8) : Nat) : Int) := by
        rw [Int.tdiv_eq_ediv_of_nonneg (Int.natCast_nonneg _), ← Int.natCast_ediv]
        exact nat_u8 _ (Nat.lt_of_le_of_lt (Nat.div_le_self _ _) hb256)
      have w9 : (((p.getD ((f + r) / 8) 0).toNat / 2 ^ ((f + r) % 8) : Nat) : Int).tmod 2 = (((p.getD ((f + r) / 8) 0).toNat / 2 ^ ((f + r) % 8) % 2 : Nat) : Int) := by
        exact nat_mod2 _
      have hround : F_ref30Spoil.l1 (R m) (.int .u32 ((t / 2 ^ r : Nat) : Int)) s4 s8 s10 v (.int .u64 ((f + r : Nat) : Int)) (.bool a) (iv r) H = some (.nrm [.int .u32 ((t / 2 ^ (r + 1) : Nat) : Int), s4, s8, s10, v, .int .u64 ((f + (r + 1) : Nat) : Int), .bool true, iv ((r + 1 : Nat) : Int)], H.set id (.cells (cs.set o (.int .u8 (tgl (p.getD ((f + r) / 8) 0) ((f + r) % 8)).toNat)) es g false)) := by
        by_cases hbit : (p.getD ((f + r) / 8) 0).toNat / 2 ^ ((f + r) % 8) % 2 = 1
        · have hx := tgl_sub hk hbit
          simp only [F_ref30Spoil.l1, ↓bind_andk, andk_some, ↓jn_outk, outk_nrm, outk_ext, outk_ret, ↓cnd_b, ret_r, nilc_r, fa_r, ldOne_r, ldA_r, stOne_r, stA_r, rdk_r, rdkA_r, wrk_r, wrkA_r, alc_r, lenS_r, lenT_r, cvi_r, pick_r, not_r, mx_r, mn_r, ixa_r, ixaA_r, bld_r, add_r, sub_r, mul_r, quo_r, rem_r, eql_r, neq_r, lss_r, leq_r, gtr_r, geq_r, eqb_r, neb_r, eqp_r, nep_r, ↓gv_r, gvn_r, ↓g_r, gn_r, Bool.not_true, Bool.not_false, Bool.false_eq_true, Bool.true_eq_false, reduceIte, List.tail_cons, List.headD_cons, decide_true, decide_false, cond_true, cond_false, Nat.beq_refl, hlt, h2, hm, BEq.rfl, e1, w3, w4, hlt2, h8, w7, ep, w6, f1, f2, f3, Option.map_some, hp0, w8, w9, hbit, show ((1 : Nat) : Int) = 1 from rfl, hx, f4, oneCell, and_self, w5, w2, w1]
        · have hx := tgl_add hk hbit
          have hb0 : (p.getD ((f + r) / 8) 0).toNat / 2 ^ ((f + r) % 8) % 2 = 0 := by omega
          have h01 : ((0 : Int) == 1) = false := rfl
          simp only [F_ref30Spoil.l1, ↓bind_andk, andk_some, ↓jn_outk, outk_nrm, outk_ext, outk_ret, ↓cnd_b, ret_r, nilc_r, fa_r, ldOne_r, ldA_r, stOne_r, stA_r, rdk_r, rdkA_r, wrk_r, wrkA_r, alc_r, lenS_r, lenT_r, cvi_r, pick_r, not_r, mx_r, mn_r, ixa_r, ixaA_r, bld_r, add_r, sub_r, mul_r, quo_r, rem_r, eql_r, neq_r, lss_r, leq_r, gtr_r, geq_r, eqb_r, neb_r, eqp_r, nep_r, ↓gv_r, gvn_r, ↓g_r, gn_r, Bool.not_true, Bool.not_false, Bool.false_eq_true, Bool.true_eq_false, reduceIte, List.tail_cons, List.headD_cons, decide_true, decide_false, cond_true, cond_false, Nat.beq_refl, hlt, h2, hm, BEq.rfl, e1, w3, w4, hlt2, h8, w7, ep, w6, f1, f2, f3, Option.map_some, hp0, w8, w9, hb0, show ((0 : Nat) : Int) = 0 from rfl, h01, hx, f4, oneCell, and_self, w5, w2, w1]
      refine ⟨H2, (loop_next hround).trans ?_, ?_, ?_, by rw [l2]; simp⟩
      · rw [e2, anyD]
        have : (t.testBit r = true ∧ f + r < 8 * L) := ⟨hc.1, by rw [← hp]; exact hc.2⟩
        simp [this]
      · rw [splD, if_pos hc]; exact r2
      · refine Step.trans ⟨by simp, fun j hj hjn => List.getElem?_set_ne fun e => hjn (by rw [f5]; simp [e]), fun j hj => .inl hj⟩ s2
    · obtain ⟨H2, e2, r2, s2, l2⟩ := refspoil_loop (m := m) hL hf ht d (r + 1) (a := a) (by omega) (by omega) hp hrow
      have hround : F_ref30Spoil.l1 (R m) (.int .u32 ((t / 2 ^ r : Nat) : Int)) s4 s8 s10 v (.int .u64 ((f + r : Nat) : Int)) (.bool a) (iv r) H = some (.nrm [.int .u32 ((t / 2 ^ (r + 1) : Nat) : Int), s4, s8, s10, v, .int .u64 ((f + (r + 1) : Nat) : Int), .bool a, iv ((r + 1 : Nat) : Int)], H) := by
        by_cases htb : t.testBit r = true
        · rw [if_pos htb] at hm
          have hlt2 : ¬ ((f + r : Nat) : Int) < ((8 * L : Nat) : Int) := fun h => hc ⟨htb, by omega⟩
          simp only [F_ref30Spoil.l1, ↓bind_andk, andk_some, ↓jn_outk, outk_nrm, outk_ext, outk_ret, ↓cnd_b, ret_r, nilc_r, fa_r, ldOne_r, ldA_r, stOne_r, stA_r, rdk_r, rdkA_r, wrk_r, wrkA_r, alc_r, lenS_r, lenT_r, cvi_r, pick_r, not_r, mx_r, mn_r, ixa_r, ixaA_r, bld_r, add_r, sub_r, mul_r, quo_r, rem_r, eql_r, neq_r, lss_r, leq_r, gtr_r, geq_r, eqb_r, neb_r, eqp_r, nep_r, ↓gv_r, gvn_r, ↓g_r, gn_r, Bool.not_true, Bool.not_false, Bool.false_eq_true, Bool.true_eq_false, reduceIte, List.tail_cons, List.headD_cons, decide_true, decide_false, cond_true, cond_false, Nat.beq_refl, hlt, h2, hm, BEq.rfl, e1, w3, w4, hlt2, w5, w2, w1]
        · rw [if_neg htb] at hm
          have h01 : ((0 : Int) == 1) = false := rfl
          simp only [F_ref30Spoil.l1, ↓bind_andk, andk_some, ↓jn_outk, outk_nrm, outk_ext, outk_ret, ↓cnd_b, ret_r, nilc_r, fa_r, ldOne_r, ldA_r, stOne_r, stA_r, rdk_r, rdkA_r, wrk_r, wrkA_r, alc_r, lenS_r, lenT_r, cvi_r, pick_r, not_r, mx_r, mn_r, ixa_r, ixaA_r, bld_r, add_r, sub_r, mul_r, quo_r, rem_r, eql_r, neq_r, lss_r, leq_r, gtr_r, geq_r, eqb_r, neb_r, eqp_r, nep_r, ↓gv_r, gvn_r, ↓g_r, gn_r, Bool.not_true, Bool.not_false, Bool.false_eq_true, Bool.true_eq_false, reduceIte, List.tail_cons, List.headD_cons, decide_true, decide_false, cond_true, cond_false, Nat.beq_refl, hlt, h2, hm, h01, List.replicate, w5, w2, w1]
      refine ⟨H2, (loop_next hround).trans ?_, ?_, s2, l2⟩
      · rw [e2, anyD]
        have : ¬ (t.testBit r = true ∧ f + r < 8 * L) := by rw [← hp]; exact hc
        simp [this]
      · rw [splD, if_neg hc]; exact r2

section
variable {H H' : Heap} {n : Nat} {ps : List (List UInt8)} {lost : Int} {sl : Value} {own : List Nat}

theorem ba_loop (bs : ByteArray) : ∀ (d i : Nat) (r : List UInt8), bs.size - i = d → ByteArray.toList.loop bs i r = r.reverse ++ bs.data.toList.drop i
  | 0, i, r, hd => by
    unfold ByteArray.toList.loop
    have hs : bs.data.toList.length = bs.size := Array.length_toList
    rw [if_neg (by omega), List.drop_eq_nil_of_le (by omega), List.append_nil]
  | d + 1, i, r, hd => by
    unfold ByteArray.toList.loop
    have hs : bs.data.toList.length = bs.size := Array.length_toList
    have hi : i < bs.data.toList.length := by omega
    rw [if_pos (by omega), ba_loop bs d (i + 1) _ (by omega), List.drop_eq_getElem_cons hi, List.reverse_cons, List.append_assoc]
    congr 2
    have hi2 : i < bs.data.size := by simpa using hi
    simp only [ByteArray.get!, Array.getElem_toList]
    rw [getElem!_pos bs.data i hi2]; rfl

theorem ba_toList (p : List UInt8) : (⟨p.toArray⟩ : ByteArray).toList = p := by
  have := ba_loop ⟨p.toArray⟩ _ 0 [] rfl
  simpa [ByteArray.toList] using this

theorem eqs_empty {p : List UInt8} {H : Heap} : bop .str .eql (strv p) (.string ⟨#[]⟩) H = some (.bool (decide (p = [])), H) := by
  rw [eqs_r, ba_toList, show (⟨#[]⟩ : ByteArray).toList = [] from ba_toList []]
  cases p <;> rfl

theorem r_refSpoilNo (h : RowS H sl (ps.map strv) own) {i : Int} {at_ t : Value} (hi : 0 ≤ i ∧ i ≤ 18446744073709551615) (hl : ps.length ≤ 1000) (hp : ps.length = 0 ∨ ∃ k : Nat, plc ps i = k ∧ ps[k]? = some []) :
    ∃ H', R (n + 2) n_ref30Spoil [.agg #[sl, iv lost], .int .u64 i, at_, t] H = some (.tuple #[.agg #[sl, iv lost], .bool false], H') ∧ HLe H H' := by
  have hoc := h.oneCell.1
  have k1 := HLe.app H [.cells [sl, iv lost] 1 false false]
  have g1 : (H ++ [AObj.cells [sl, iv lost] 1 false false])[H.length]? = some (.cells [sl, iv lost] 1 false false) := app_new
  have hlen1 : (H ++ [AObj.cells [sl, iv lost] 1 false false]).length = H.length + 1 := by simp
  have a1 := (two_vars h lost).1
  have a2 := (two_vars h lost).2 (H ++ [.cells [sl, iv lost] 1 false false])
  generalize H ++ [AObj.cells [sl, iv lost] 1 false false] = H1 at *
  have k2 := HLe.app H1 [.cells [.slice none 0 0, iv 0] 1 false false]
  have g2 : (H1 ++ [AObj.cells [.slice none 0 0, iv 0] 1 false false])[H1.length]? = some (.cells [.slice none 0 0, iv 0] 1 false false) := app_new
  generalize H1 ++ [AObj.cells [.slice none 0 0, iv 0] 1 false false] = H2 at *
  have k12 := k1.trans k2
  obtain ⟨H3, a3, k3⟩ := r_refAt (n := n) (lost := lost) (h.step k12.step (by simp)) hi hl
  obtain ⟨w2, w3, w4⟩ := fin1 (k3 _ _ (k2 _ _ g1)) (k3 _ _ g2) (show H.length ≠ H1.length by omega) hoc
  have l3 : ld1 (pa H.length 0) H3 = some (sl, H3) := ld1_at (k3 _ _ (k2 _ _ g1)) rfl
  have k13 := k12.trans k3
  refine ⟨H3.set H1.length (.cells [sl, iv lost] 1 false false), ?_, fun j o hj => ?_⟩
  · rw [R, run_ref30Spoil rfl]
    unfold F_ref30Spoil
    rw [bind_eq a1, bind_eq a2, bind_eq (ld_all (n := 2) (k2 _ _ g1) rfl), bind_eq a3, bind_eq lss_r]
    rcases hp with h0 | ⟨k, hk, hpk⟩
    · have hp : plc ps i = -1 := by unfold plc; rw [if_pos h0]
      rw [hp, show decide ((-1 : Int) < 0) = true from rfl]
      rw [bind_eq (g_r.trans (if_neg (by decide))), bind_eq pick_r, cond_true, c_true, bind_eq w2, bind_eq w3, bind_eq w4]
      rfl
    · have hkk : ¬ ((k : Int) < 0) := by omega
      have hv : (ps.map strv)[k]? = some (strv []) := by simp [hpk]
      obtain ⟨aid, o, cs, es, g, ro, f1, f2, f3, f4⟩ := (h.rd.mono k13).at hv .i64
      have l3' : ld1 (pa aid o) H3 = some (strv [], H3) := ld1_at f2 f3
      rw [hk, decide_eq_false hkk]
      have hb1 : (gate (Value.bool false) false 6 (bind (fa 0 (pt H.length)) fun v21x6 => bind (ld1 v21x6) fun v22x7 => bind (ixa 1 v22x7 (iv k)) fun v24x8 => bind (ld1 v24x8) fun v25x9 => bind (bop .str .eql v25x9 (Value.string ⟨#[]⟩)) fun v26x10 => ret [v21x6, v22x7, iv k, v24x8, v25x9, v26x10])) H3 = some ([pa H.length 0, sl, iv k, pa aid o, strv [], .bool true], H3) := by
        rw [g_r, if_pos rfl, bind_eq fa_z, bind_eq l3, bind_eq (f1 _), bind_eq l3', bind_eq eqs_empty]; rfl
      rw [bind_eq hb1, bind_eq pick_r]
      simp only [cond_false, List.tail_cons, List.headD_cons]
      rw [c_true, bind_eq w2, bind_eq w3, bind_eq w4]
      rfl
  · have := get_lt hj
    rw [set_get_ne (by omega)]
    exact k3 _ _ (k12 _ _ hj)

theorem r_refSpoil (h : RowS H sl (ps.map strv) own) {i at_ : Int} {t : Nat} (hi : 0 ≤ i ∧ i ≤ 18446744073709551615) (hat : 0 ≤ at_ ∧ at_ ≤ 18446744073709551615) (ht : t < 4294967296) (hl : ps.length ≤ 1000) {k : Nat} {p : List UInt8} (hk : plc ps i = k) (hp : ps[k]? = some p) (hp0 : p ≠ []) (hb : p.length ≤ 100000) :
    ∃ sl' H' own', R (n + 2) n_ref30Spoil [.agg #[sl, iv lost], .int .u64 i, .int .u64 at_, .int .u32 t] H = some (.tuple #[.agg #[sl', iv lost], .bool (anyD t (at_ % ((8 * p.length : Nat) : Int)).toNat p.length 32 0)], H') ∧
      RowS H' sl' ((ps.set k (splD t (at_ % ((8 * p.length : Nat) : Int)).toNat 32 0 p)).map strv) own' ∧ HLe H H' ∧ ∀ j ∈ own', H.length ≤ j := by
  have hkl : k < ps.length := (List.getElem?_eq_some_iff.1 hp).1
  have hoc := h.oneCell.1
  have k1 := HLe.app H [.cells [sl, iv lost] 1 false false]
  have g1 : (H ++ [AObj.cells [sl, iv lost] 1 false false])[H.length]? = some (.cells [sl, iv lost] 1 false false) := app_new
  have hlen1 : (H ++ [AObj.cells [sl, iv lost] 1 false false]).length = H.length + 1 := by simp
  have a1 := (two_vars h lost).1
  have a2 := (two_vars h lost).2 (H ++ [.cells [sl, iv lost] 1 false false])
  generalize H ++ [AObj.cells [sl, iv lost] 1 false false] = H1 at *
  have k2 := HLe.app H1 [.cells [.slice none 0 0, iv 0] 1 false false]
  have g2 : (H1 ++ [AObj.cells [.slice none 0 0, iv 0] 1 false false])[H1.length]? = some (.cells [.slice none 0 0, iv 0] 1 false false) := app_new
  have hlen2 : (H1 ++ [AObj.cells [.slice none 0 0, iv 0] 1 false false]).length = H1.length + 1 := by simp
  generalize H1 ++ [AObj.cells [.slice none 0 0, iv 0] 1 false false] = H2 at *
  have k12 := k1.trans k2
  obtain ⟨H3, a3, k3⟩ := r_refAt (n := n) (lost := lost) (h.step k12.step (by simp)) hi hl
  rw [hk] at a3
  have k13 := k12.trans k3
  have g1' := k3 _ _ (k2 _ _ g1)
  have g2' := k3 _ _ g2
  have hlen3 := k3.len
  have hv : (ps.map strv)[k]? = some (strv p) := by simp [hp]
  obtain ⟨aid, o, cs, es, g, ro, f1, f2, f3, f4⟩ := (h.rd.mono k13).at hv .i64
  -- the bytes
  have hbl : (⟨p.toArray⟩ : ByteArray).size = p.length := by simp [ByteArray.size]
  have a4 : s2b (strv p) H3 = some (.slice (some ⟨H3.length, 0, none⟩) p.length p.length, H3 ++ [.cells (u8s p) 1 true false]) := by
    simp only [s2b, news, hbl]
  have r4 : RowS (H3 ++ [.cells (u8s p) 1 true false]) (.slice (some ⟨H3.length, 0, none⟩) p.length p.length) (u8s p) [H3.length] :=
    .inr ⟨H3.length, [], true, by rw [u8s_length]; rfl, rfl, by rw [List.append_nil]; exact app_new⟩
  have k4 := HLe.app H3 [.cells (u8s p) 1 true false]
  have hlen4 : (H3 ++ [AObj.cells (u8s p) 1 true false]).length = H3.length + 1 := by simp
  generalize H3 ++ [AObj.cells (u8s p) 1 true false] = H4 at *
  have hpl : 0 < p.length := List.length_pos_iff.2 hp0
  generalize hL : p.length = L at *
  have hm0 := Int.emod_nonneg at_ (show ((8 * L : Nat) : Int) ≠ 0 by omega)
  have hm1 := Int.emod_lt_of_pos at_ (show (0 : Int) < ((8 * L : Nat) : Int) by omega)
  generalize hf : (at_ % ((8 * L : Nat) : Int)).toNat = f
  have hfi : at_ % ((8 * L : Nat) : Int) = (f : Int) := by omega
  obtain ⟨H5, a5, r5, s5, l5⟩ := refspoil_loop (m := n + 1) (f := f) (t := t) (s4 := pt H.length) (s8 := pt H1.length) (s10 := iv k) hb (by omega) ht 32 0 (a := false) (by omega) (by omega) hL r4
  obtain ⟨k5, ho5⟩ := k4.more s5 (by simp)
  have hL0 : decide (p = []) = false := decide_eq_false hp0
  have w3 : IntKind.i64.wrap (8 * (L : Int)) = ((8 * L : Nat) : Int) := by rw [w64 (by omega) (by omega)]; omega
  have w4 : IntKind.u64.wrap ((8 * L : Nat) : Int) = ((8 * L : Nat) : Int) := by rw [wu64]; omega
  have h80 : ¬ (((8 * L : Nat) : Int) = 0) := by omega
  have w5 : at_.tmod ((8 * L : Nat) : Int) = (f : Int) := by rw [Int.tmod_eq_emod_of_nonneg hat.1, hfi]
  -- the row anew
  have k15 := k13.trans k5
  have k6 := HLe.app H5 [.cells [] 1 false false]
  have a6 : bsl 1 0 (.string ⟨#[]⟩) [] H5 = some (.slice (some ⟨H5.length, 0, none⟩) 0 0, H5 ++ [.cells [] 1 false false]) := bsl0
  have g6 : (H5 ++ [AObj.cells [] 1 false false])[H5.length]? = some (.cells [] 1 false false) := app_new
  have r6 := r5.step k6.step (by simp)
  have hlen6 : (H5 ++ [AObj.cells [] 1 false false]).length = H5.length + 1 := by simp
  generalize H5 ++ [AObj.cells [] 1 false false] = H6 at *
  have k16 := k15.trans k6
  obtain ⟨sl1, H7, o7, a7, r7, k7, ho7⟩ := row_of (b := 16) (h.rd.mono k16) (by simp; omega) (by simp; omega) (s := .slice (some ⟨H5.length, 0, none⟩) 0 0) (.inr ⟨H5.length, false, rfl, g6, rfl⟩)
  have ho7' : ∀ j ∈ o7, H5.length ≤ j := fun j hj => by
    rcases ho7 j hj with h | ⟨_, h⟩
    · omega
    · cases h; exact Nat.le_refl _
  have k37 := (k5.trans k6).trans k7
  have r67 := r6.step k7.step (by simp)
  -- the two variables
  have w1 : st1 (pa H.length 0) sl1 H7 = some (undef, H7.set H.length (.cells [sl1, iv lost] 1 false false)) := st1_at (k37 _ _ g1') (by simp) r7.oneCell.1
  have g8 : (H7.set H.length (.cells [sl1, iv lost] 1 false false))[H.length]? = some (.cells [sl1, iv lost] 1 false false) := set_get (k37 _ _ g1')
  have g8' : (H7.set H.length (.cells [sl1, iv lost] 1 false false))[H1.length]? = some (.cells [.slice none 0 0, iv 0] 1 false false) := by rw [set_get_ne (by omega)]; exact k37 _ _ g2'
  have r8 : RowS (H7.set H.length (.cells [sl1, iv lost] 1 false false)) sl1 (ps.map strv) o7 := r7.keep fun j hj => by have := ho7' j hj; rw [set_get_ne (by omega)]
  have b8 : b2s (.slice (some ⟨H3.length, 0, none⟩) L L) (H7.set H.length (.cells [sl1, iv lost] 1 false false)) = some (strv (splD t f 32 0 p), H7.set H.length (.cells [sl1, iv lost] 1 false false)) := by
    refine b2s_sl (r67.keep fun j hj => ?_).rd
    have := ho5 j hj
    rw [set_get_ne (by omega)]
  have hlen8 : (H7.set H.length (.cells [sl1, iv lost] 1 false false)).length = H7.length := by simp
  have hkeep8 : ∀ j, j ≠ H.length → (H7.set H.length (.cells [sl1, iv lost] 1 false false))[j]? = H7[j]? := fun j hj => set_get_ne (Ne.symm hj)
  generalize H7.set H.length (.cells [sl1, iv lost] 1 false false) = H8 at *
  obtain ⟨id9, o9, H9, e9, s9, r9, st9, own9, l9⟩ := r8.put (u := strv (splD t f 32 0 p)) hv rfl .i64
  have hne9 : ∀ j ∈ o7, H5.length ≤ j := ho7'
  have g9 : H9[H.length]? = some (.cells [sl1, iv lost] 1 false false) := st9.get g8 (fun hm => by have := ho7' _ hm; omega)
  have g9' : H9[H1.length]? = some (.cells [.slice none 0 0, iv 0] 1 false false) := st9.get g8' (fun hm => by have := ho7' _ hm; omega)
  obtain ⟨x2, x3, x4⟩ := fin1 g9 g9' (show H.length ≠ H1.length by omega) r9.oneCell.1
  refine ⟨sl1, H9.set H1.length (.cells [sl1, iv lost] 1 false false), o7, ?_, ?_, fun j ob hj => ?_, fun j hj => by have := ho7' j hj; omega⟩
  · rw [R, run_ref30Spoil rfl]
    unfold F_ref30Spoil
    have hkk : ¬ ((k : Int) < 0) := by omega
    have l3 : ld1 (pa H.length 0) H3 = some (sl, H3) := ld1_at g1' rfl
    have l3' : ld1 (pa aid o) H3 = some (strv p, H3) := ld1_at f2 f3
    have l6 : ld1 (pa H.length 0) H6 = some (sl, H6) := ld1_at (k6 _ _ (k5 _ _ g1')) rfl
    have l8 : ld1 (pa H.length 0) H8 = some (sl1, H8) := ld1_at g8 rfl
    rw [bind_eq a1, bind_eq a2, bind_eq (ld_all (n := 2) (k2 _ _ g1) rfl), bind_eq a3, bind_eq lss_r, decide_eq_false hkk]
    have hb1 : (gate (Value.bool false) false 6 (bind (fa 0 (pt H.length)) fun v21x6 => bind (ld1 v21x6) fun v22x7 => bind (ixa 1 v22x7 (iv k)) fun v24x8 => bind (ld1 v24x8) fun v25x9 => bind (bop .str .eql v25x9 (Value.string ⟨#[]⟩)) fun v26x10 => ret [v21x6, v22x7, iv k, v24x8, v25x9, v26x10])) H3 = some ([pa H.length 0, sl, iv k, pa aid o, strv p, .bool false], H3) := by
      rw [g_r, if_pos rfl, bind_eq fa_z, bind_eq l3, bind_eq (f1 _), bind_eq l3', bind_eq eqs_empty, hL0]; rfl
    rw [bind_eq hb1, bind_eq pick_r]
    simp only [cond_false, List.tail_cons, List.headD_cons]
    rw [Bool.false_or, show t / 2 ^ 0 = t by simp, show f + 0 = f from rfl, show ((0 : Nat) : Int) = 0 from rfl] at a5
    rw [c_false, bind_eq fa_z, bind_eq l3, bind_eq (f1 _), bind_eq l3', bind_eq a4, bind_eq lenS_r, bind_eq mul_r, w3, bind_eq cvi_r, w4, bind_eq (rem_r.trans (if_neg h80)), w5, jn_ext a5]
    simp only [Nat.beq_refl, cond_true, List.tail_cons, List.headD_cons]
    rw [bind_eq a6, bind_eq fa_z, bind_eq l6, bind_eq a7, bind_eq fa_z, bind_eq w1, bind_eq fa_z, bind_eq l8, bind_eq b8, bind_eq (e9 _), bind_eq s9, bind_eq x2, bind_eq x3, bind_eq x4]
    rfl
  · rw [List.map_set]
    exact r9.keep fun j hj => by have := ho7' j hj; rw [set_get_ne (by omega)]
  · have := get_lt hj
    rw [set_get_ne (by omega), st9.keep j (by rw [hlen8]; have := k37.len; omega) (fun hm => by have := ho7' j hm; omega), hkeep8 j (by omega)]
    exact k37 _ _ (k13 _ _ hj)

end
end Go.Proofs.Ytkjoaediojdodaa.A
