/- Two sets that are won have a node together; what is reached stays reached, whatever is noted. -/
import Derived.Test.YtdmijlkknpolbaaQuoSet
namespace Go.Proofs.Ytdmijlkknpolbaa.A
set_option linter.unusedVariables false
set_option linter.unusedSimpArgs false
open Go.Proofs Go.Proofs.Ytdmijlkknpolbaa

/-! the law -/

theorem filter_two {α : Type} (p q : α → Bool) : ∀ l : List α, (∀ x ∈ l, (p x && q x) = false) → (l.filter p).length + (l.filter q).length ≤ l.length
  | [], _ => by simp
  | x :: l, h => by
    have ih := filter_two p q l fun y hy => h y (by simp [hy])
    have hx := h x (by simp)
    rw [List.filter_cons, List.filter_cons]
    cases hp : p x <;> cases hq : q x <;> simp [hp, hq] at hx ⊢ <;> omega

theorem meet {k b c : Nat} (hk : enough k ≠ 0) (hb : enough k ≤ popc k b) (hc : enough k ≤ popc k c) : (List.range 7).any (fun j => b.testBit j && c.testBit j) = true := by
  have hec := enough_cases hk
  cases h : (List.range 7).any (fun j => b.testBit j && c.testBit j) with
  | true => rfl
  | false =>
    have h' := List.any_eq_false.1 h
    have := filter_two b.testBit c.testBit (List.range k) fun x hx => by
      have := h' x (by have := List.mem_range.1 hx; exact List.mem_range.2 (by omega))
      simpa using this
    rw [List.length_range] at this
    unfold popc at hb hc
    omega

theorem range_lt (p : Nat → Bool) (k : Nat) : ∀ d, ((List.range (k + d)).filter fun j => decide (j < k) && p j).length = ((List.range k).filter p).length
  | 0 => by
    congr 1
    refine List.filter_congr fun j hj => ?_
    rw [decide_eq_true (show j < k by have := List.mem_range.1 hj; omega), Bool.true_and]
  | d + 1 => by
    rw [← Nat.add_assoc, List.range_succ, List.filter_append, List.length_append, range_lt p k d, List.filter_cons, if_neg (by rw [decide_eq_false (by omega)]; simp)]
    simp

theorem range_get (us : List Nat) : us = (List.range us.length).map fun j => us.getD j 0 := by
  apply List.ext_getElem?
  intro i
  rw [List.getElem?_map]
  rcases Nat.lt_or_ge i us.length with h | h
  · rw [List.getElem?_range h, List.getElem?_eq_getElem h]
    simp [List.getD_eq_getElem?_getD, List.getElem?_eq_getElem h]
  · rw [List.getElem?_eq_none h, List.getElem?_eq_none (by simpa using h)]; rfl

theorem count7 {us : List Nat} {k : Nat} (hl : us.length = k) (h7 : k ≤ 7) (x : Nat) : ((List.range 7).filter fun j => decide (j < k) && decide (x ≤ us.getD j 0)).length = cntG us x := by
  have h := range_lt (fun j => decide (x ≤ us.getD j 0)) k (7 - k)
  rw [show k + (7 - k) = 7 by omega] at h
  rw [h]
  unfold cntG
  subst hl
  conv => rhs; rw [range_get us]
  rw [List.filter_map, List.length_map]
  rfl

theorem note_mono (us : List Nat) (node op : Nat) (i : Nat) : us.getD i 0 ≤ (noteL us node op).getD i 0 := by
  unfold noteL
  split
  · rename_i h
    simp only [List.getD_eq_getElem?_getD, List.getElem?_set]
    by_cases e : node = i
    · subst e
      have h2 := h.2
      rw [if_pos rfl, if_pos h.1]
      simp only [List.getD_eq_getElem?_getD] at h2
      simp only [Option.getD_some]; omega
    · rw [if_neg e]; exact Nat.le_refl _
  · exact Nat.le_refl _

/-! the walk -/

structure TSt (H0 X : Heap) (i1 i2 i3 k b c : Nat) (us : List Nat) : Prop where
  le : HLe H0 X
  c1 : X[i1]? = some (.cells [iv k, bv b] 1 false false)
  c2 : X[i2]? = some (.cells [iv k, bv c] 1 false false)
  lb : b < 2 ^ k
  lc : c < 2 ^ k
  ne : i1 ≠ i2
  n1 : H0.length ≤ i1
  n2 : H0.length ≤ i2
  ul : us.length = k
  ex : ∃ own, Mk X i3 us own ∧ i1 ∉ own ∧ i2 ∉ own ∧ ∀ j ∈ own, H0.length ≤ j

section
variable {H0 X : Heap} {i1 i2 i3 n k b c : Nat} {us : List Nat}

theorem TSt.hle {X' : Heap} (h : TSt H0 X i1 i2 i3 k b c us) (hl : HLe X X') : TSt H0 X' i1 i2 i3 k b c us := by
  obtain ⟨own, m, a1, a2, a3⟩ := h.ex
  exact ⟨h.le.trans hl, hl _ _ h.c1, hl _ _ h.c2, h.lb, h.lc, h.ne, h.n1, h.n2, h.ul, own, m.hle hl, a1, a2, a3⟩

theorem add1_do {s2 s3 : Value} {al : Value} {bs : List UInt8} (ha : Sl H0 al (u8s bs)) (hb : bs.length ≤ 40) (hk : enough k ≠ 0) : ∀ (t i : Nat) {X : Heap} {b : Nat}, bs.length - i = t → i ≤ bs.length → TSt H0 X i1 i2 i3 k b c us →
    ∃ X' b', loopM (c9 (F_law27QuorumMeets.l1 (R (n + 2)))) [s2, s3, iv k, pt i1, pt i2, pt i3, al, iv bs.length, iv i] X = some (.ext 0 [s2, s3, iv k, pt i1, pt i2, pt i3], X') ∧ TSt H0 X' i1 i2 i3 k b' c us
  | 0, i, X, b, ht, hi, h => by
    have : i = bs.length := by omega
    subst this
    refine ⟨X, b, loop_ext ?_, h⟩
    simp [F_law27QuorumMeets.l1, ↓bind_andk, andk_some, ↓jn_outk, outk_nrm, outk_ext, outk_ret, ↓cnd_b, ret_r, nilc_r, fa_r, ldOne_r, ldA_r, stOne_r, stA_r, rdk_r, rdkA_r, wrk_r, wrkA_r, alc_r, lenS_r, lenT_r, cvi_r, pick_r, not_r, mx_r, mn_r, ixa_r, ixaA_r, bld_r, add_r, sub_r, mul_r, quo_r, rem_r, eql_r, neq_r, lss_r, leq_r, gtr_r, geq_r, eqb_r, neb_r, eqp_r, nep_r, ↓gv_r, gvn_r, ↓g_r, gn_r, Bool.not_true, Bool.not_false, Bool.false_eq_true, Bool.true_eq_false, reduceIte, List.tail_cons, List.headD_cons, decide_true, decide_false, cond_true, cond_false, Nat.beq_refl, c0_r, c1_r, c2_r, c3_r, c4_r, c5_r, c6_r, c7_r, c8_r, c9_r, c10_r, c11_r, c12_r, xk_hit, List.replicate, extr_p0, extr_p1, extr_q0, extr_q1, extr_q2, fa_z, adds_v, lenT_v, retR]
  | t + 1, i, X, b, ht, hi, h => by
    have hlt : (i : Int) < bs.length := by omega
    have hil : i < bs.length := by omega
    have hg : (u8s bs)[i]? = some (bv bs[i].toNat) := by unfold u8s; rw [List.getElem?_map, List.getElem?_eq_getElem hil]; rfl
    have ha' := ha.mono h.le
    have x1 := ha'.ix (i := i) (by rw [u8s_length]; exact hil) .i64 X
    have g1 := ha'.ldx hg
    have hm : bs[i].toNat ≤ 255 := by have := bs[i].toNat_lt; omega
    generalize bs[i].toNat = m at g1 hm hg
    obtain ⟨X1, e1, c1, t1, l1⟩ := r_add (n := n) hk h.c1 h.lb hm
    obtain ⟨own, mk, a1, a2, a3⟩ := h.ex
    have n1 := h.n1
    have hne := h.ne
    have h1 : TSt H0 X1 i1 i2 i3 k (addS k b m) c us := ⟨fun j o hj => t1.get (h.le _ _ hj) (by have := get_lt hj; simp; omega), c1, t1.get h.c2 (by simp; omega), addS_lt h.lb, h.lc, h.ne, h.n1, h.n2, h.ul, own, mk.step t1 fun j hj hm => by
      have : j = i1 := by simpa using hm
      exact a1 (this ▸ hj), a1, a2, a3⟩
    obtain ⟨X2, b2, e2, h2⟩ := add1_do (s2 := s2) (s3 := s3) ha hb hk t (i + 1) (by omega) (by omega) h1
    refine ⟨X2, b2, (loop_next (H' := X1) (vs' := [s2, s3, iv k, pt i1, pt i2, pt i3, al, iv bs.length, iv ((i + 1 : Nat) : Int)]) ?_).trans e2, h2⟩
    rw [c9_r]
    unfold F_law27QuorumMeets.l1
    rw [bind_eq lss_r, cnd_b, if_pos (by simpa using hlt), bind_eq x1, bind_eq g1, bind_eq e1, bind_eq add_r, wsuc (by omega)]
    rfl

theorem add2_do {s3 : Value} {al : Value} {bs : List UInt8} (ha : Sl H0 al (u8s bs)) (hb : bs.length ≤ 40) (hk : enough k ≠ 0) : ∀ (t i : Nat) {X : Heap} {c : Nat}, bs.length - i = t → i ≤ bs.length → TSt H0 X i1 i2 i3 k b c us →
    ∃ X' c', loopM (c8 (F_law27QuorumMeets.l2 (R (n + 2)))) [s3, iv k, pt i1, pt i2, pt i3, al, iv bs.length, iv i] X = some (.ext 2 [s3, iv k, pt i1, pt i2, pt i3], X') ∧ TSt H0 X' i1 i2 i3 k b c' us
  | 0, i, X, c, ht, hi, h => by
    have : i = bs.length := by omega
    subst this
    refine ⟨X, c, loop_ext ?_, h⟩
    simp [F_law27QuorumMeets.l2, ↓bind_andk, andk_some, ↓jn_outk, outk_nrm, outk_ext, outk_ret, ↓cnd_b, ret_r, nilc_r, fa_r, ldOne_r, ldA_r, stOne_r, stA_r, rdk_r, rdkA_r, wrk_r, wrkA_r, alc_r, lenS_r, lenT_r, cvi_r, pick_r, not_r, mx_r, mn_r, ixa_r, ixaA_r, bld_r, add_r, sub_r, mul_r, quo_r, rem_r, eql_r, neq_r, lss_r, leq_r, gtr_r, geq_r, eqb_r, neb_r, eqp_r, nep_r, ↓gv_r, gvn_r, ↓g_r, gn_r, Bool.not_true, Bool.not_false, Bool.false_eq_true, Bool.true_eq_false, reduceIte, List.tail_cons, List.headD_cons, decide_true, decide_false, cond_true, cond_false, Nat.beq_refl, c0_r, c1_r, c2_r, c3_r, c4_r, c5_r, c6_r, c7_r, c8_r, c9_r, c10_r, c11_r, c12_r, xk_hit, List.replicate, extr_p0, extr_p1, extr_q0, extr_q1, extr_q2, fa_z, adds_v, lenT_v, retR]
  | t + 1, i, X, c, ht, hi, h => by
    have hlt : (i : Int) < bs.length := by omega
    have hil : i < bs.length := by omega
    have hg : (u8s bs)[i]? = some (bv bs[i].toNat) := by unfold u8s; rw [List.getElem?_map, List.getElem?_eq_getElem hil]; rfl
    have ha' := ha.mono h.le
    have x1 := ha'.ix (i := i) (by rw [u8s_length]; exact hil) .i64 X
    have g1 := ha'.ldx hg
    have hm : bs[i].toNat ≤ 255 := by have := bs[i].toNat_lt; omega
    generalize bs[i].toNat = m at g1 hm hg
    obtain ⟨X1, e1, c1, t1, l1⟩ := r_add (n := n) hk h.c2 h.lc hm
    obtain ⟨own, mk, a1, a2, a3⟩ := h.ex
    have n2 := h.n2
    have hne := h.ne
    have h1 : TSt H0 X1 i1 i2 i3 k b (addS k c m) us := ⟨fun j o hj => t1.get (h.le _ _ hj) (by have := get_lt hj; simp; omega), t1.get h.c1 (by simp; omega), c1, h.lb, addS_lt h.lc, h.ne, h.n1, h.n2, h.ul, own, mk.step t1 fun j hj hm => by
      have : j = i2 := by simpa using hm
      exact a2 (this ▸ hj), a1, a2, a3⟩
    obtain ⟨X2, b2, e2, h2⟩ := add2_do (s3 := s3) ha hb hk t (i + 1) (by omega) (by omega) h1
    refine ⟨X2, b2, (loop_next (H' := X1) (vs' := [s3, iv k, pt i1, pt i2, pt i3, al, iv bs.length, iv ((i + 1 : Nat) : Int)]) ?_).trans e2, h2⟩
    rw [c8_r]
    unfold F_law27QuorumMeets.l2
    rw [bind_eq lss_r, cnd_b, if_pos (by simpa using hlt), bind_eq x1, bind_eq g1, bind_eq e1, bind_eq add_r, wsuc (by omega)]
    rfl

theorem both_do {s3 : Value} (hk : enough k ≠ 0) (h : TSt H0 X i1 i2 i3 k b c us) : ∀ (t i : Nat), 7 - i = t → i ≤ 7 →
    loopM (c7 (F_law27QuorumMeets.l3 (R (n + 1)))) [s3, iv k, pt i1, pt i2, pt i3, .bool ((List.range i).any fun j => b.testBit j && c.testBit j), .int .u8 i] X = some (.ext 4 [s3, iv k, pt i1, pt i2, pt i3, .bool ((List.range 7).any fun j => b.testBit j && c.testBit j)], X)
  | 0, i, ht, hi => by
    have : i = 7 := by omega
    subst this
    refine loop_ext ?_
    rw [c7_r]
    unfold F_law27QuorumMeets.l3
    rw [bind_eq lss_r, cnd_b, if_neg (by simp)]
    rfl
  | t + 1, i, ht, hi => by
    obtain ⟨b128, k7, k3⟩ := pow_k hk h.lb
    obtain ⟨c128, _, _⟩ := pow_k hk h.lc
    have hlt : (i : Int) < 7 := by omega
    have e := both_do (s3 := s3) hk h t (i + 1) (by omega) (by omega)
    have w2 : IntKind.u8.wrap ((i : Int) + 1) = ((i + 1 : Nat) : Int) := by rw [wu8]; omega
    have e1 := r_has (n := n) h.c1 (by omega) (m := i) (by omega)
    have e2 := r_has (n := n) h.c2 (by omega) (m := i) (by omega)
    have hs : (List.range (i + 1)).any (fun j => b.testBit j && c.testBit j) = ((List.range i).any (fun j => b.testBit j && c.testBit j) || (b.testBit i && c.testBit i)) := by
      rw [List.range_succ, List.any_append]; simp
    rw [hs] at e
    generalize (List.range i).any (fun j => b.testBit j && c.testBit j) = f at e ⊢
    refine (loop_next ?_).trans e
    rw [c7_r]
    unfold F_law27QuorumMeets.l3
    rw [bind_eq lss_r, cnd_b, if_pos (by simpa using hlt)]
    cases f
    · rw [b_g_in, b_assoc, bind_eq e1, b_ret, c4_r]
      cases hb : b.testBit i
      · rw [bind_eq (g_r.trans (if_neg (by simp)))]
        simp only [List.replicate]
        rw [c3_r, b_g_in, b_assoc, bind_eq pick_r, b_ret, c1_r, bind_eq pick_r, bind_eq add_r, w2]
        rfl
      · rw [b_g_in, b_assoc, bind_eq e2, b_ret, c3_r, b_g_in, b_assoc, bind_eq pick_r, b_ret, c1_r, bind_eq pick_r, bind_eq add_r, w2]
        rfl
    · rw [bind_eq (g_r.trans (if_neg (by simp)))]
      simp only [List.replicate]
      rw [c4_r, bind_eq gn_r]
      simp only [List.replicate]
      rw [c3_r, bind_eq (g_r.trans (if_neg (by simp)))]
      simp only [List.replicate]
      rw [c1_r, bind_eq pick_r, bind_eq add_r, w2]
      rfl

theorem count_do {s1 s2 s3 : Value} {x : Nat} (h : TSt H0 X i1 i2 i3 k b c us) (h7 : k ≤ 7) : ∀ (t i : Nat), 7 - i = t → i ≤ 7 →
    loopM (c8 (F_law27QuorumMeets.l5 (R (n + 1)))) [iv k, pt i3, uv x, iv ((List.range i).filter fun j => decide (j < k) && decide (x ≤ us.getD j 0)).length, s1, s2, s3, .int .u8 i] X = some (.ext 8 [iv k, pt i3, uv x, iv (cntG us x), s1, s2, s3], X)
  | 0, i, ht, hi => by
    have : i = 7 := by omega
    subst this
    refine loop_ext ?_
    rw [c8_r, count7 h.ul h7]
    unfold F_law27QuorumMeets.l5
    rw [bind_eq lss_r, cnd_b, if_neg (by simp)]
    rfl
  | t + 1, i, ht, hi => by
    obtain ⟨own, mk, a1, a2, a3⟩ := h.ex
    have hlt : (i : Int) < 7 := by omega
    have e := count_do (s1 := s1) (s2 := s2) (s3 := s3) (x := x) h h7 t (i + 1) (by omega) (by omega)
    have w1 : IntKind.i64.wrap (i : Int) = i := w64 (by omega) (by omega)
    have w2 : IntKind.u8.wrap ((i : Int) + 1) = ((i + 1 : Nat) : Int) := by rw [wu8]; omega
    have hul := h.ul
    have e1 := r_of (n := n) mk (by omega) (node := i) (by omega)
    have hs : ((List.range (i + 1)).filter fun j => decide (j < k) && decide (x ≤ us.getD j 0)).length = ((List.range i).filter fun j => decide (j < k) && decide (x ≤ us.getD j 0)).length + (if (decide (i < k) && decide (x ≤ us.getD i 0)) = true then 1 else 0) := by
      rw [List.range_succ, List.filter_append, List.length_append, List.filter_cons]
      split <;> simp
    have hc := List.length_filter_le (fun j => decide (j < k) && decide (x ≤ us.getD j 0)) (List.range i)
    rw [List.length_range] at hc
    rw [hs] at e
    generalize ((List.range i).filter fun j => decide (j < k) && decide (x ≤ us.getD j 0)).length = f at e hc ⊢
    refine (loop_next ?_).trans e
    rw [c8_r]
    unfold F_law27QuorumMeets.l5
    rw [bind_eq lss_r, cnd_b, if_pos (by simpa using hlt), bind_eq cvi_r, w1, bind_eq lss_r]
    by_cases hik : i < k
    · have hd : decide ((i : Int) < k) = true := decide_eq_true (by omega)
      rw [hd, b_g_in, b_assoc, bind_eq e1, b_assoc, bind_eq geq_r, b_ret, c5_r, bind_eq pick_r]
      simp only [cond_true]
      by_cases hx : x ≤ us.getD i 0
      · have hxd : decide ((us.getD i 0 : Nat) ≥ (x : Int)) = true := decide_eq_true (by omega)
        rw [if_pos (by rw [decide_eq_true hik, decide_eq_true hx]; rfl)]
        refine (jn_nrm (vs := [iv k, pt i3, uv x, iv ((f + 1 : Nat) : Int), s1, s2, s3, .int .u8 i]) (H' := X) ?_).trans ?_
        · rw [hxd, cnd_b, if_pos rfl, bind_eq add_r, wsuc (by omega)]; rfl
        · rw [c8_r, bind_eq add_r, w2]; rfl
      · have hxd : decide ((us.getD i 0 : Nat) ≥ (x : Int)) = false := decide_eq_false (by omega)
        rw [if_neg (by rw [decide_eq_false hx]; simp)]
        refine (jn_nrm (vs := [iv k, pt i3, uv x, iv f, s1, s2, s3, .int .u8 i]) (H' := X) ?_).trans ?_
        · rw [hxd, cnd_b, if_neg (by simp)]; rfl
        · rw [c8_r, bind_eq add_r, w2]; rfl
    · have hd : decide ((i : Int) < k) = false := decide_eq_false (by omega)
      rw [hd, bind_eq (g_r.trans (if_neg (by simp)))]
      simp only [List.replicate]
      rw [c5_r, bind_eq pick_r, if_neg (by rw [decide_eq_false hik]; simp)]
      simp only [cond_false]
      refine (jn_nrm (vs := [iv k, pt i3, uv x, iv f, s1, s2, s3, .int .u8 i]) (H' := X) ?_).trans ?_
      · rw [cnd_b, if_neg (by simp)]; rfl
      · rw [c8_r, bind_eq add_r, w2]; rfl

theorem notes_do {asl : Value} {ac : List QAct} (hA : QActs H0 asl ac) (hn : ac.length ≤ 40) (hk : enough k ≠ 0) : ∀ (t i : Nat) {X : Heap} {us : List Nat} {x : Nat}, ac.length - i = t → i ≤ ac.length → TSt H0 X i1 i2 i3 k b c us → x ≤ reachedL us →
    ∃ X', loopM (c6 (F_law27QuorumMeets.l4 (R (n + 8)))) [iv k, pt i3, uv x, asl, iv ac.length, iv i] X = some (.ext 6 [], X')
  | 0, i, X, us, x, ht, hi, h, hx => by
    have : i = ac.length := by omega
    subst this
    refine ⟨X, loop_ext ?_⟩
    simp [F_law27QuorumMeets.l4, ↓bind_andk, andk_some, ↓jn_outk, outk_nrm, outk_ext, outk_ret, ↓cnd_b, ret_r, nilc_r, fa_r, ldOne_r, ldA_r, stOne_r, stA_r, rdk_r, rdkA_r, wrk_r, wrkA_r, alc_r, lenS_r, lenT_r, cvi_r, pick_r, not_r, mx_r, mn_r, ixa_r, ixaA_r, bld_r, add_r, sub_r, mul_r, quo_r, rem_r, eql_r, neq_r, lss_r, leq_r, gtr_r, geq_r, eqb_r, neb_r, eqp_r, nep_r, ↓gv_r, gvn_r, ↓g_r, gn_r, Bool.not_true, Bool.not_false, Bool.false_eq_true, Bool.true_eq_false, reduceIte, List.tail_cons, List.headD_cons, decide_true, decide_false, cond_true, cond_false, Nat.beq_refl, c0_r, c1_r, c2_r, c3_r, c4_r, c5_r, c6_r, c7_r, c8_r, c9_r, c10_r, c11_r, c12_r, xk_hit, List.replicate, extr_p0, extr_p1, extr_q0, extr_q1, extr_q2, fa_z, adds_v, lenT_v, retR]
  | t + 1, i, X, us, x, ht, hi, h, hx => by
    have hec := enough_cases hk
    have hlt : (i : Int) < ac.length := by omega
    have hka := List.getElem?_eq_getElem (show i < ac.length by omega)
    have ham := List.getElem_mem (show i < ac.length by omega)
    generalize ac[i] = a at hka ham
    obtain ⟨ok1, ok2, ok3⟩ := hA.2 a ham
    have hf := fun {K : Value → M Out} => (hA.mono h.le).fetch (k := K) hka
    generalize hX1 : X ++ [AObj.cells a.cells 1 false false] = X1 at hf
    have le1 : HLe X X1 := by rw [← hX1]; exact .app _ _
    have c9 : X1[X.length]? = some (.cells a.cells 1 false false) := by rw [← hX1]; exact app_new
    have h1 := h.hle le1
    have f1 : ld1 (pa X.length 1) X1 = some (.int .u8 a.node, X1) := ld1_at c9 rfl
    have f2 : ld1 (pa X.length 2) X1 = some (uv a.op, X1) := ld1_at c9 rfl
    obtain ⟨own, mk, a1, a2, a3⟩ := h1.ex
    have hul := h.ul
    obtain ⟨X2, e1, m2, t2⟩ := r_note (n := n + 7) mk (by omega) (node := a.node) (op := a.op) ok2
    have hl2 : (noteL us a.node a.op).length = k := by rw [noteL_len, hul]
    have h2 : TSt H0 X2 i1 i2 i3 k b c (noteL us a.node a.op) := ⟨fun j o hj => t2.get (h1.le _ _ hj) fun hm => by have := a3 j hm; have := get_lt hj; omega, t2.get h1.c1 a1, t2.get h1.c2 a2, h.lb, h.lc, h.ne, h.n1, h.n2, hl2, own, m2, a1, a2, a3⟩
    obtain ⟨X3, e2, le3⟩ := r_reached (n := n) m2 (by rw [hl2]; exact hk)
    have h3 := h2.hle le3
    obtain ⟨X4, e3, le4⟩ := r_reached (n := n) (m2.hle le3) (by rw [hl2]; exact hk)
    have h4 := h3.hle le4
    have hmono : reachedL us ≤ reachedL (noteL us a.node a.op) := reach_mono (by rw [hul, hl2]) (by rw [hul]; exact hk) (note_mono us a.node a.op)
    have hsp := (reach_spec (us := noteL us a.node a.op) (e := enough k) (by omega) (by omega)).1
    have hr : reachedL (noteL us a.node a.op) = (isort ltN (noteL us a.node a.op)).getD ((noteL us a.node a.op).length - enough k) 0 := by unfold reachedL; rw [hl2]
    rw [← hr] at hsp
    have e4 := count_do (n := n + 7) (s1 := asl) (s2 := iv ac.length) (s3 := iv i) (x := reachedL (noteL us a.node a.op)) h4 (by omega) 7 0 rfl (by omega)
    have e4 : loopM (c8 (F_law27QuorumMeets.l5 (R (n + 8)))) [iv k, pt i3, uv (reachedL (noteL us a.node a.op)), .int .i64 0, asl, iv ac.length, iv i, .int .u8 0] X4 = some (.ext 8 [iv k, pt i3, uv (reachedL (noteL us a.node a.op)), iv (cntG (noteL us a.node a.op) (reachedL (noteL us a.node a.op))), asl, iv ac.length, iv i], X4) := e4
    have e5 : R (n + 8) n_quorumEnough [iv k] X4 = some (iv (enough k), X4) := r_enough k
    obtain ⟨X5, e6⟩ := notes_do hA hn hk t (i + 1) (by omega) (by omega) h4 (Nat.le_refl _)
    refine ⟨X5, (loop_next (H' := X4) (vs' := [iv k, pt i3, uv (reachedL (noteL us a.node a.op)), asl, iv ac.length, iv ((i + 1 : Nat) : Int)]) ?_).trans e6⟩
    have d1 : decide ((reachedL (noteL us a.node a.op) : Int) < x) = false := decide_eq_false (by omega)
    have d2 : decide ((cntG (noteL us a.node a.op) (reachedL (noteL us a.node a.op)) : Int) < enough k) = false := decide_eq_false (by omega)
    rw [c6_r]
    unfold F_law27QuorumMeets.l4
    rw [bind_eq lss_r, cnd_b, if_pos (by simpa using hlt), hf, bind_eq fa_z, bind_eq f1, bind_eq fa_z, bind_eq f2, bind_eq e1, bind_eq e2, bind_eq lss_r, d1, cnd_b, if_neg (by simp), bind_eq e3, jn_ext e4, xk_hit, c7_r, bind_eq e5, bind_eq lss_r, d2, cnd_b, if_neg (by simp), bind_eq add_r, wsuc (by omega)]
    rfl

theorem meets_core {al bl asl : Value} {ys bs : List UInt8} {ac : List QAct} {H : Heap} {x : Nat} (ha : Sl H al (u8s ys)) (hb : Sl H bl (u8s bs)) (hA : QActs H asl ac) (hx : x ≤ 255) : ∃ H', R 10 n_law27QuorumMeets [.int .u8 x, al, bl, asl] H = some (.bool true, H') := by
  obtain ⟨H1, e1, k1⟩ := r_lives (n := 0) H
  obtain ⟨H2, e2, k2⟩ := r_lives (n := 0) H1
  have e1 : run Try.prog np lvs 9 n_law27Lives [] H = some (.bool true, H1) := e1
  have e2 : run Try.prog np lvs 9 n_law27Lives [] H1 = some (.bool true, H2) := e2
  have la := fun X => ha.len (H' := X)
  have lb := fun X => hb.len (H' := X)
  have ea := fun X => hA.len (H' := X)
  simp only [u8s_length] at la lb
  rw [R, run_law27QuorumMeets rfl]
  by_cases h40 : ys.length > 40 ∨ bs.length > 40 ∨ ac.length > 40
  · refine ⟨H2, ?_⟩
    by_cases g1 : (ys.length : Int) > 40
    · have g1' : ¬ (ys.length : Int) ≤ 40 := by omega
      simp [F_law27QuorumMeets, ↓bind_andk, andk_some, ↓jn_outk, outk_nrm, outk_ext, outk_ret, ↓cnd_b, ret_r, nilc_r, fa_r, ldOne_r, ldA_r, stOne_r, stA_r, rdk_r, rdkA_r, wrk_r, wrkA_r, alc_r, lenS_r, lenT_r, cvi_r, pick_r, not_r, mx_r, mn_r, ixa_r, ixaA_r, bld_r, add_r, sub_r, mul_r, quo_r, rem_r, eql_r, neq_r, lss_r, leq_r, gtr_r, geq_r, eqb_r, neb_r, eqp_r, nep_r, ↓gv_r, gvn_r, ↓g_r, gn_r, Bool.not_true, Bool.not_false, Bool.false_eq_true, Bool.true_eq_false, reduceIte, List.tail_cons, List.headD_cons, decide_true, decide_false, cond_true, cond_false, Nat.beq_refl, c0_r, c1_r, c2_r, c3_r, c4_r, c5_r, c6_r, c7_r, c8_r, c9_r, c10_r, c11_r, c12_r, xk_hit, List.replicate, extr_p0, extr_p1, extr_q0, extr_q1, extr_q2, fa_z, adds_v, lenT_v, retR, e1, e2, la, lb, ea, g1, g1']
    · have g1' : (ys.length : Int) ≤ 40 := by omega
      by_cases g2 : (bs.length : Int) > 40
      · have g2' : ¬ (bs.length : Int) ≤ 40 := by omega
        simp [F_law27QuorumMeets, ↓bind_andk, andk_some, ↓jn_outk, outk_nrm, outk_ext, outk_ret, ↓cnd_b, ret_r, nilc_r, fa_r, ldOne_r, ldA_r, stOne_r, stA_r, rdk_r, rdkA_r, wrk_r, wrkA_r, alc_r, lenS_r, lenT_r, cvi_r, pick_r, not_r, mx_r, mn_r, ixa_r, ixaA_r, bld_r, add_r, sub_r, mul_r, quo_r, rem_r, eql_r, neq_r, lss_r, leq_r, gtr_r, geq_r, eqb_r, neb_r, eqp_r, nep_r, ↓gv_r, gvn_r, ↓g_r, gn_r, Bool.not_true, Bool.not_false, Bool.false_eq_true, Bool.true_eq_false, reduceIte, List.tail_cons, List.headD_cons, decide_true, decide_false, cond_true, cond_false, Nat.beq_refl, c0_r, c1_r, c2_r, c3_r, c4_r, c5_r, c6_r, c7_r, c8_r, c9_r, c10_r, c11_r, c12_r, xk_hit, List.replicate, extr_p0, extr_p1, extr_q0, extr_q1, extr_q2, fa_z, adds_v, lenT_v, retR, e1, e2, la, lb, ea, g1, g1', g2, g2']
      · have g2' : (bs.length : Int) ≤ 40 := by omega
        have g3 : (ac.length : Int) > 40 := by omega
        have g3' : ¬ (ac.length : Int) ≤ 40 := by omega
        simp [F_law27QuorumMeets, ↓bind_andk, andk_some, ↓jn_outk, outk_nrm, outk_ext, outk_ret, ↓cnd_b, ret_r, nilc_r, fa_r, ldOne_r, ldA_r, stOne_r, stA_r, rdk_r, rdkA_r, wrk_r, wrkA_r, alc_r, lenS_r, lenT_r, cvi_r, pick_r, not_r, mx_r, mn_r, ixa_r, ixaA_r, bld_r, add_r, sub_r, mul_r, quo_r, rem_r, eql_r, neq_r, lss_r, leq_r, gtr_r, geq_r, eqb_r, neb_r, eqp_r, nep_r, ↓gv_r, gvn_r, ↓g_r, gn_r, Bool.not_true, Bool.not_false, Bool.false_eq_true, Bool.true_eq_false, reduceIte, List.tail_cons, List.headD_cons, decide_true, decide_false, cond_true, cond_false, Nat.beq_refl, c0_r, c1_r, c2_r, c3_r, c4_r, c5_r, c6_r, c7_r, c8_r, c9_r, c10_r, c11_r, c12_r, xk_hit, List.replicate, extr_p0, extr_p1, extr_q0, extr_q1, extr_q2, fa_z, adds_v, lenT_v, retR, e1, e2, la, lb, ea, g1, g1', g2, g2', g3, g3']
  · have g1 : ¬ (ys.length : Int) > 40 := by omega
    have g2 : ¬ (bs.length : Int) > 40 := by omega
    have g3 : ¬ (ac.length : Int) > 40 := by omega
    have hk : (x : Int).tmod 3 = ((x % 3 : Nat) : Int) := by rw [Int.tmod_eq_emod_of_nonneg (by omega)]; omega
    obtain ⟨k, hk2, he⟩ : ∃ k : Nat, k = 3 + 2 * (x % 3) ∧ enough k ≠ 0 := ⟨_, rfl, by
      have : x % 3 < 3 := Nat.mod_lt _ (by omega)
      generalize x % 3 = y at this
      have : y = 0 ∨ y = 1 ∨ y = 2 := by omega
      rcases this with rfl | rfl | rfl <;> decide⟩
    have hec := enough_cases he
    have w1 : IntKind.i64.wrap ((x % 3 : Nat) : Int) = ((x % 3 : Nat) : Int) := w64 (by omega) (by omega)
    have w2 : IntKind.i64.wrap (2 * ((x % 3 : Nat) : Int)) = 2 * ((x % 3 : Nat) : Int) := w64 (by omega) (by omega)
    have w3 : IntKind.i64.wrap (3 + 2 * ((x % 3 : Nat) : Int)) = (k : Int) := by rw [w64 (by omega) (by omega)]; omega
    obtain ⟨H3, e3, hH3⟩ : ∃ H3, R 9 n_quorumNew [iv k] H1 = some (pt H1.length, H3) ∧ H3 = H1 ++ [.cells [iv k, bv 0] 1 false false] := by
      rcases r_newS (n := 7) (H := H1) k with ⟨hz, _⟩ | ⟨_, h⟩
      · exact absurd hz he
      · exact h
    have k3 : HLe H1 H3 := by rw [hH3]; exact .app _ _
    have d3 : H3[H1.length]? = some (.cells [iv k, bv 0] 1 false false) := by rw [hH3]; exact app_new
    obtain ⟨H4, e4, hH4⟩ : ∃ H4, R 9 n_quorumNew [iv k] H3 = some (pt H3.length, H4) ∧ H4 = H3 ++ [.cells [iv k, bv 0] 1 false false] := by
      rcases r_newS (n := 7) (H := H3) k with ⟨hz, _⟩ | ⟨_, h⟩
      · exact absurd hz he
      · exact h
    have k4 : HLe H3 H4 := by rw [hH4]; exact .app _ _
    have d4 : H4[H3.length]? = some (.cells [iv k, bv 0] 1 false false) := by rw [hH4]; exact app_new
    obtain ⟨H5, own, e5, m5, k5, o5⟩ := r_newMarks (n := 7) (k := k) (H := H4) he
    have l3 := get_lt d3
    have l4 := get_lt d4
    have lk1 := k1.len
    have lk3 := k3.len
    have hT : TSt H H5 H1.length H3.length (H4.length + 1) k 0 0 (List.replicate k 0) := ⟨((k1.trans k3).trans k4).trans k5, k5 _ _ (k4 _ _ d3), k5 _ _ d4, Nat.pow_pos (by omega), Nat.pow_pos (by omega), by omega, k1.len, by omega, by simp, own, m5, fun hm => by have := o5 _ hm; omega, fun hm => by have := o5 _ hm; omega, fun j hj => by have := o5 _ hj; omega⟩
    obtain ⟨H6, b, e6, h6⟩ := add1_do (n := 7) (s2 := bl) (s3 := asl) ha (by omega) he ys.length 0 (by omega) (by omega) hT
    obtain ⟨H7, c, e7, h7⟩ := add2_do (n := 7) (s3 := asl) hb (by omega) he bs.length 0 (by omega) (by omega) h6
    have e8 := both_do (n := 8) (s3 := asl) he h7 7 0 rfl (by omega)
    have e9 := r_won (n := 6) he h7.c1 h7.lb
    have e10 := r_won (n := 6) he h7.c2 h7.lc
    obtain ⟨H8, e11⟩ := notes_do (n := 1) (x := 0) hA (by omega) he ac.length 0 (by omega) (by omega) h7 (Nat.zero_le _)
    refine ⟨H8, ?_⟩
    have q1 : bop .int .rem (.int .u8 x) (.int .u8 3) H1 = some (.int .u8 ((x % 3 : Nat) : Int), H1) := by rw [rem_r, if_neg (by omega), hk]
    have q2 : bop .int .gtr (iv ys.length) (.int .i64 40) H1 = some (.bool false, H1) := by rw [gtr_r, decide_eq_false g1]
    have q3 : bop .int .gtr (iv bs.length) (.int .i64 40) H1 = some (.bool false, H1) := by rw [gtr_r, decide_eq_false g2]
    have q4 : bop .int .gtr (iv ac.length) (.int .i64 40) H1 = some (.bool false, H1) := by rw [gtr_r, decide_eq_false g3]
    have e3 : run Try.prog np lvs 9 n_quorumNew [iv k] H1 = some (pt H1.length, H3) := e3
    have e4 : run Try.prog np lvs 9 n_quorumNew [iv k] H3 = some (pt H3.length, H4) := e4
    have e5 : run Try.prog np lvs 9 n_quorumNewMarks [iv k] H4 = some (pt (H4.length + 1), H5) := e5
    have e6 : loopM (c9 (F_law27QuorumMeets.l1 (run Try.prog np lvs 9))) [bl, asl, iv k, pt H1.length, pt H3.length, pt (H4.length + 1), al, iv ys.length, .int .i64 0] H5 = _ := e6
    have e7 : loopM (c8 (F_law27QuorumMeets.l2 (run Try.prog np lvs 9))) [asl, iv k, pt H1.length, pt H3.length, pt (H4.length + 1), bl, iv bs.length, .int .i64 0] H6 = _ := e7
    have e8 : loopM (c7 (F_law27QuorumMeets.l3 (run Try.prog np lvs 9))) [asl, iv k, pt H1.length, pt H3.length, pt (H4.length + 1), .bool false, .int .u8 0] H7 = _ := e8
    have e9 : run Try.prog np lvs 9 n_quorumSetWon [pt H1.length] H7 = _ := e9
    have e10 : run Try.prog np lvs 9 n_quorumSetWon [pt H3.length] H7 = _ := e10
    have e11 : loopM (c6 (F_law27QuorumMeets.l4 (run Try.prog np lvs 9))) [iv k, pt (H4.length + 1), .int .u64 0, asl, iv ac.length, .int .i64 0] H7 = _ := e11
    unfold F_law27QuorumMeets
    rw [bind_eq e1, bind_eq not_r]
    simp only [Bool.not_true]
    rw [b_g_in, b_assoc, bind_eq (la _), b_assoc, bind_eq q2, b_ret, c3_r, bind_eq pick_r]
    simp only [cond_false]
    rw [b_g_in, b_assoc, bind_eq (lb _), b_assoc, bind_eq q3, b_ret, c3_r, bind_eq pick_r]
    simp only [cond_false]
    rw [b_g_in, b_assoc, bind_eq (ea _), b_assoc, bind_eq q4, b_ret, c3_r, bind_eq pick_r]
    simp only [cond_false]
    rw [cnd_b, if_neg (by simp), bind_eq q1, bind_eq cvi_r, w1, bind_eq mul_r, w2, bind_eq add_r, w3, bind_eq e3, bind_eq e4, bind_eq e5, bind_eq eqp_r, b_g_in, b_assoc, bind_eq eqp_r, b_ret, c2_r, bind_eq pick_r]
    simp only [cond_false]
    rw [b_g_in, b_assoc, bind_eq eqp_r, b_ret, c2_r, bind_eq pick_r]
    simp only [cond_false]
    rw [cnd_b, if_neg (by simp), bind_eq (la _), jn_ext e6, xk_hit, c6_r, bind_eq (lb _), jn_ext e7, xk_hit, c5_r, jn_ext e8, xk_hit, c6_r, bind_eq e9]
    have hend : bind (lenS asl) (fun v109x64 => jn (loopM (c6 (F_law27QuorumMeets.l4 (run Try.prog np lvs 9))) [iv k, pt (H4.length + 1), (Value.int .u64 0), asl, v109x64, (Value.int .i64 0)]) noN (xk 6 (c0 (ret (Value.bool true))) noX) ret) H7 = some (.bool true, H8) := by
      rw [bind_eq (ea _), jn_ext e11, xk_hit]
      rfl
    by_cases w1 : enough k ≤ popc k b
    · rw [decide_eq_true w1, b_g_in, b_assoc, bind_eq e10, b_ret, c2_r, bind_eq pick_r]
      simp only [cond_true]
      by_cases w2 : enough k ≤ popc k c
      · rw [decide_eq_true w2, meet he w1 w2, b_g_in, b_assoc, bind_eq not_r, b_ret, c2_r, bind_eq pick_r]
        simp only [cond_true, Bool.not_true]
        rw [cnd_b, if_neg (by simp)]
        exact hend
      · rw [decide_eq_false w2, bind_eq (g_r.trans (if_neg (by simp)))]
        simp only [List.replicate]
        rw [c2_r, bind_eq pick_r]
        simp only [cond_false]
        rw [cnd_b, if_neg (by simp)]
        exact hend
    · rw [decide_eq_false w1, bind_eq (g_r.trans (if_neg (by simp)))]
      simp only [List.replicate]
      rw [c2_r, bind_eq pick_r]
      simp only [cond_false]
      rw [bind_eq (g_r.trans (if_neg (by simp)))]
      simp only [List.replicate]
      rw [c2_r, bind_eq pick_r]
      simp only [cond_false]
      rw [cnd_b, if_neg (by simp)]
      exact hend

theorem law_QuorumMeets : ∀ (xs : Ins [.int .u8, .slc (.int .u8), .slc (.int .u8), .slc quoActT]) (H : Heap) (vs : List Value), InsWf [.int .u8, .slc (.int .u8), .slc (.int .u8), .slc quoActT] xs → InsRd [.int .u8, .slc (.int .u8), .slc (.int .u8), .slc quoActT] xs H vs → ∃ n H', R n n_law27QuorumMeets vs H = some (.bool true, H') := by
  intro xs H vs hwf hrd
  obtain ⟨M, la, lb, l, _⟩ := xs
  obtain ⟨hM, ha, hb, hl, _⟩ := hwf
  obtain ⟨c1, _, rfl, hc1, h1, c2, _, rfl, hc2, h2, c3, _, rfl, hc3, h3, c4, _, rfl, hc4, h4, rfl⟩ := hrd
  have hM := wf_u8 hM
  obtain ⟨a2, rfl⟩ : ∃ a, c2 = [a] := by
    match c2, hc2 with
    | [a], _ => exact ⟨a, rfl⟩
  obtain ⟨a3, rfl⟩ : ∃ a, c3 = [a] := by
    match c3, hc3 with
    | [a], _ => exact ⟨a, rfl⟩
  obtain ⟨a4, rfl⟩ : ∃ a, c4 = [a] := by
    match c4, hc4 with
    | [a], _ => exact ⟨a, rfl⟩
  have h1 : c1 = [.int .u8 M] := h1
  subst h1
  obtain ⟨ys, ha⟩ := rd_bytes ha h2
  obtain ⟨bs, hb⟩ := rd_bytes hb h3
  obtain ⟨ac, hA, hn⟩ := rd_quoActs hl h4
  obtain ⟨m, hm⟩ := nat_of (z := M) hM.1
  subst hm
  exact ⟨10, meets_core ha hb hA (Int.ofNat_le.1 hM.2)⟩

end

end Go.Proofs.Ytdmijlkknpolbaa.A
