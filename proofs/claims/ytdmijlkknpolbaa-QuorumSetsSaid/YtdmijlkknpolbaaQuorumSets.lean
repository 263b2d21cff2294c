/- Whoever is added, each answer, who is in the set, how many they are, and whether they are enough, are the document's. -/
import Derived.Test.YtdmijlkknpolbaaQuoSet
namespace Go.Proofs.Ytdmijlkknpolbaa.A
set_option linter.unusedVariables false
set_option linter.unusedSimpArgs false
open Go.Proofs Go.Proofs.Ytdmijlkknpolbaa

structure SSt (H0 X : Heap) (id k : Nat) (w : Value) (b : Nat) : Prop where
  le : HLe H0 X
  c : X[id]? = some (.cells [iv k, bv b] 1 false false)
  lt : b < 2 ^ k
  idn : H0.length ≤ id
  ex : ∃ q, RowS X w (setL k b) q ∧ id ∉ q ∧ ∀ j ∈ q, H0.length ≤ j

section
variable {H0 X : Heap} {id n k b : Nat} {w : Value} {a : QAct}

theorem SSt.hle {X' : Heap} (h : SSt H0 X id k w b) (hl : HLe X X') : SSt H0 X' id k w b := by
  obtain ⟨q, h1, h2, h3⟩ := h.ex
  exact ⟨h.le.trans hl, hl _ _ h.c, h.lt, h.idn, q, h1.step hl.step (by simp), h2, h3⟩

theorem has_do {s6 s42 s43 s44 : Value} (hk : enough k ≠ 0) (h : SSt H0 X id k w b) : ∀ (t i : Nat), 9 - i = t → i ≤ 9 →
    loopM (c8 (F_law27QuorumSets.l2 (R (n + 1)))) [iv k, pt id, s6, w, s42, s43, s44, .int .u8 i] X = some (.ext 2 [iv k, pt id, s6, w, s42, s43, s44], X)
  | 0, i, ht, hi => by
    have : i = 9 := by omega
    subst this
    refine loop_ext ?_
    simp [F_law27QuorumSets.l2, ↓bind_andk, andk_some, ↓jn_outk, outk_nrm, outk_ext, outk_ret, ↓cnd_b, ret_r, nilc_r, fa_r, ldOne_r, ldA_r, stOne_r, stA_r, rdk_r, rdkA_r, wrk_r, wrkA_r, alc_r, lenS_r, lenT_r, cvi_r, pick_r, not_r, mx_r, mn_r, ixa_r, ixaA_r, bld_r, add_r, sub_r, mul_r, quo_r, rem_r, eql_r, neq_r, lss_r, leq_r, gtr_r, geq_r, eqb_r, neb_r, eqp_r, nep_r, ↓gv_r, gvn_r, ↓g_r, gn_r, Bool.not_true, Bool.not_false, Bool.false_eq_true, Bool.true_eq_false, reduceIte, List.tail_cons, List.headD_cons, decide_true, decide_false, cond_true, cond_false, Nat.beq_refl, c0_r, c1_r, c2_r, c3_r, c4_r, c5_r, c6_r, c7_r, c8_r, c9_r, c10_r, c11_r, c12_r, xk_hit, List.replicate, extr_p0, extr_p1, extr_q0, extr_q1, extr_q2, fa_z, adds_v, lenT_v, retR]
  | t + 1, i, ht, hi => by
    obtain ⟨q, h1, h2, h3⟩ := h.ex
    obtain ⟨b128, k7, k3⟩ := pow_k hk h.lt
    have e := has_do (s6 := s6) (s42 := s42) (s43 := s43) (s44 := s44) hk h t (i + 1) (by omega) (by omega)
    have hlt : (i : Int) < 9 := by omega
    have w1 : IntKind.i64.wrap (i : Int) = i := w64 (by omega) (by omega)
    have w2 : IntKind.u8.wrap ((i : Int) + 1) = ((i + 1 : Nat) : Int) := by rw [wu8]; omega
    have wk : IntKind.i64.wrap ((k : Int) - 1) = ((k - 1 : Nat) : Int) := wpred (by omega) (by omega)
    have e1 := r_has (n := n) h.c (by omega) (m := i) (by omega)
    refine (loop_next ?_).trans e
    rw [c8_r]
    unfold F_law27QuorumSets.l2
    rw [bind_eq lss_r, cnd_b, if_pos (by simpa using hlt), bind_eq e1, bind_eq cvi_r, w1, bind_eq lss_r]
    by_cases hik : i < k
    · have hg : (setL k b)[i]? = some (.bool (b.testBit i)) := by unfold setL; rw [List.getElem?_map, List.getElem?_range hik]; rfl
      have x1 := h1.ix (i := i) (by simpa [setL] using hik) .i64 X
      have g1 := h1.ldx hg
      have hm : mxi false (iv i) (iv ((k - 1 : Nat) : Int)) X = some (iv i, X) := by rw [mn_r, if_neg (by omega)]
      have hd : decide ((i : Int) < k) = true := decide_eq_true (by omega)
      have q1 : bop .bool .neq (.bool (b.testBit i)) (.bool (b.testBit i)) X = some (.bool false, X) := by rw [neb_r]; simp
      rw [hd, b_g_in, b_assoc, bind_eq cvi_r, w1, b_assoc, bind_eq sub_r, wk, b_assoc, bind_eq hm, b_assoc, bind_eq x1, b_assoc, bind_eq g1, b_ret, c8_r, bind_eq pick_r]
      simp only [cond_true]
      rw [bind_eq q1, cnd_b, if_neg (by simp), bind_eq add_r, w2]
      rfl
    · have hd : decide ((i : Int) < k) = false := decide_eq_false (by omega)
      have ht : b.testBit i = false := Nat.testBit_lt_two_pow (Nat.lt_of_lt_of_le h.lt (Nat.pow_le_pow_right (by omega) (by omega)))
      rw [hd, bind_eq (g_r.trans (if_neg (by simp)))]
      simp only [List.replicate]
      rw [c8_r, bind_eq pick_r, ht]
      simp only [cond_false]
      rw [bind_eq neb_r, cnd_b, if_neg (by simp), bind_eq add_r, w2]
      rfl

/-- What is asked behind an act. -/
noncomputable def sTail (Γ : Funs) (q55_0 q55_1 q55_2 q55_3 q55_4 q55_5 q55_6 : Value) : M Out :=
  jn (loopM (c8 (F_law27QuorumSets.l2 Γ)) [q55_0, q55_1, q55_2, q55_3, q55_4, q55_5, q55_6, (Value.int .u8 0)]) noN (xk 2 (c7 fun q70_0 q70_1 q70_2 q70_3 q70_4 q70_5 q70_6 =>
  bind (Γ n_quorumSetCount [q70_1]) fun v107x71 =>
  bind (Γ n_ref27Count [q70_3]) fun v109x72 =>
  bind (bop .int .neq v107x71 v109x72) fun v110x73 =>
  bind (gate v110x73 false 7 (bind (Γ n_quorumSetWon [q70_1]) fun v113x74 =>
  bind (Γ n_ref27Count [q70_3]) fun v115x75 =>
  bind (bop .int .geq v115x75 q70_2) fun v117x76 =>
  bind (bop .bool .neq v113x74 v117x76) fun v118x77 =>
  ret [q70_1, v113x74, q70_3, v115x75, q70_2, v117x76, v118x77])) (c7 fun _ _ _ _ _ _ q78_6 =>
  bind (pick v110x73 (Value.bool true) q78_6) fun v119x79 =>
  cnd v119x79
  (ret (.ret (Value.bool false)))
  (bind (bop .int .add q70_6 (Value.int .i64 1)) fun v120x80 =>
  ret (.nrm [q70_0, q70_1, q70_2, q70_3, q70_4, q70_5, v120x80])))) noX) retR

theorem stail_do {s3 : Value} {i m : Nat} (hk : enough k ≠ 0) (h : SSt H0 X id k w b) (hi : i < 1000) : sTail (R (n + 3)) (iv k) (pt id) (iv (enough k)) w s3 (iv m) (iv i) X = some (.nrm [iv k, pt id, iv (enough k), w, s3, iv m, iv ((i + 1 : Nat) : Int)], X) := by
  obtain ⟨q, h1, h2, h3⟩ := h.ex
  obtain ⟨b128, k7, k3⟩ := pow_k hk h.lt
  have e1 := has_do (n := n + 2) (s6 := iv (enough k)) (s42 := s3) (s43 := iv m) (s44 := iv i) hk h 9 0 rfl (by omega)
  have e2 := r_count (n := n + 1) hk h.c h.lt
  have e3 := r_refCount (n := n + 2) h1.rd k7
  have e4 := r_won (n := n) hk h.c h.lt
  have e1 : loopM (c8 (F_law27QuorumSets.l2 (R (n + 3)))) [iv k, pt id, iv (enough k), w, s3, iv m, iv i, .int .u8 0] X = _ := e1
  have q1 : bop .int .neq (iv (popc k b)) (iv (popc k b)) X = some (.bool false, X) := by rw [neq_r]; simp
  have q2 : bop .int .geq (iv (popc k b)) (iv (enough k)) X = some (.bool (decide (enough k ≤ popc k b)), X) := by
    rw [geq_r]; congr 3; rw [decide_eq_decide]; omega
  have q3 : bop .bool .neq (.bool (decide (enough k ≤ popc k b))) (.bool (decide (enough k ≤ popc k b))) X = some (.bool false, X) := by rw [neb_r]; simp
  unfold sTail
  rw [jn_ext e1, xk_hit, c7_r, bind_eq e2, bind_eq e3, bind_eq q1, b_g_in, b_assoc, bind_eq e4, b_assoc, bind_eq e3, b_assoc, bind_eq q2, b_assoc, bind_eq q3, b_ret, c7_r, bind_eq pick_r]
  simp only [cond_false]
  rw [cnd_b, if_neg (by simp), bind_eq add_r, wsuc (by omega)]
  rfl

theorem sact_do {asl s6 : Value} {ac : List QAct} (hA : QActs H0 asl ac) (hn : ac.length ≤ 40) (hk : enough k ≠ 0) {i : Nat} (hka : ac[i]? = some a) (h : SSt H0 X id k w b) :
    ∃ X2 w2 b2, SSt H0 X2 id k w2 b2 ∧ F_law27QuorumSets.l1 (R (n + 3)) (iv k) (pt id) s6 w asl (iv ac.length) (iv i) X = sTail (R (n + 3)) (iv k) (pt id) s6 w2 asl (iv ac.length) (iv i) X2 := by
  obtain ⟨b128, k7, k3⟩ := pow_k hk h.lt
  have hil : i < ac.length := (List.getElem?_eq_some_iff.1 hka).1
  have hlt : (i : Int) < ac.length := by omega
  obtain ⟨ok1, ok2, ok3⟩ := hA.2 a (List.mem_of_getElem? hka)
  have hf := fun {K : Value → M Out} => (hA.mono h.le).fetch (k := K) hka
  have hidl := get_lt h.c
  generalize hX1 : X ++ [AObj.cells a.cells 1 false false] = X1 at hf
  have le1 : HLe X X1 := by rw [← hX1]; exact .app _ _
  have c9 : X1[X.length]? = some (.cells a.cells 1 false false) := by rw [← hX1]; exact app_new
  have h1 := h.hle le1
  have f0 : ld1 (pt X.length) X1 = some (.int .u8 a.kd, X1) := ld1_at c9 rfl
  have hk3 : (a.kd : Int).tmod 3 = ((a.kd % 3 : Nat) : Int) := by rw [Int.tmod_eq_emod_of_nonneg (by omega)]; omega
  have q0 : bop .int .rem (.int .u8 a.kd) (.int .u8 3) X1 = some (.int .u8 ((a.kd % 3 : Nat) : Int), X1) := by rw [rem_r, if_neg (by omega), hk3]
  obtain ⟨q, r1, d1, o1⟩ := h1.ex
  have hst : ∀ {X2 : Heap}, Step [id] X1 [id] X2 → HLe H0 X2 := fun t j o hj => t.get (h1.le _ _ hj) fun hm => by
    have : j = id := by simpa using hm
    have := h.idn; have := get_lt hj; omega
  unfold F_law27QuorumSets.l1
  rw [bind_eq lss_r, cnd_b, if_pos (by simpa using hlt), hf, bind_eq fa_z, bind_eq f0, bind_eq q0, bind_eq eql_r]
  by_cases h2 : a.kd % 3 = 2
  · obtain ⟨X2, e2, m2, t2, l2⟩ := r_clearS (n := n + 2) h1.c
    have e3 := mks_1 (k := k) (b := 1) (z := .bool false) (H := X2) rfl (by omega) (by omega)
    generalize hX3 : X2 ++ [AObj.cells (List.replicate k (.bool false)) 1 false false] = X3 at e3
    have le3 : HLe X2 X3 := by rw [← hX3]; exact .app _ _
    have c3 : X3[X2.length]? = some (.cells (List.replicate k (.bool false)) 1 false false) := by rw [← hX3]; exact app_new
    have hle2 := hst t2
    refine ⟨X3, .slice (some ⟨X2.length, 0, none⟩) k k, 0, ⟨hle2.trans le3, le3 _ _ m2, Nat.pow_pos (by omega), h.idn, [X2.length], by rw [setL_zero]; exact RowS.new c3, fun hm => ?_, fun j hj => ?_⟩, ?_⟩
    · have : id = X2.length := by simpa using hm
      have := get_lt m2; omega
    · have : j = X2.length := by simpa using hj
      have := hle2.len; omega
    · refine (jn_nrm (vs := [iv k, pt id, s6, .slice (some ⟨X2.length, 0, none⟩) k k, asl, iv ac.length, iv i]) (H' := X3) ?_).trans ?_
      · rw [h2, cnd_b, if_pos (by rfl), bind_eq e2, bind_eq e3]; rfl
      · rw [c7_r]; rfl
  · have hq2 : (((a.kd % 3 : Nat) : Int) == 2) = false := by rw [beq_eq_false_iff_ne]; omega
    have w1 : IntKind.i64.wrap (a.node : Int) = a.node := w64 (by omega) (by omega)
    have wk : IntKind.i64.wrap ((k : Int) - 1) = ((k - 1 : Nat) : Int) := wpred (by omega) (by omega)
    have f1 : ld1 (pa X.length 1) X1 = some (.int .u8 a.node, X1) := ld1_at c9 rfl
    obtain ⟨X2, e2, m2, t2, l2⟩ := r_add (n := n + 1) hk h1.c h.lt (m := a.node) ok2
    have e2 : R (n + 3) n_quorumSetAdd [pt id, .int .u8 a.node] X1 = some (.bool (addB k b a.node), X2) := e2
    have c2 := t2.get c9 (by simp; omega)
    have g1 : ld1 (pa X.length 1) X2 = some (.int .u8 a.node, X2) := ld1_at c2 rfl
    have r2 := r1.step t2 fun j hj hm => by
      have : j = id := by simpa using hm
      exact d1 (this ▸ hj)
    have hle2 := hst t2
    have hlt3 := addS_lt (m := a.node) h.lt
    rw [hq2]
    by_cases hnk : a.node < k
    · have hd : decide ((a.node : Int) < k) = true := decide_eq_true (by omega)
      have hg : (setL k b)[a.node]? = some (.bool (b.testBit a.node)) := by unfold setL; rw [List.getElem?_map, List.getElem?_range hnk]; rfl
      have x1 := fun q H => r1.ix (i := a.node) (by simpa [setL] using hnk) q H
      have l1 := r1.ldx hg
      have hb : addB k b a.node = !b.testBit a.node := by unfold addB; rw [decide_eq_true hnk, Bool.true_and]
      have hm : mxi false (iv a.node) (iv ((k - 1 : Nat) : Int)) X1 = some (iv a.node, X1) := by rw [mn_r, if_neg (by omega)]
      cases ht : b.testBit a.node
      · obtain ⟨X3, s3, r3, t3, l3⟩ := r2.stx (i := a.node) (u := .bool true) (by simpa [setL] using hnk) rfl
        rw [setL_set hnk] at r3
        have hs : addS k b a.node = b ||| 2 ^ a.node := by unfold addS; rw [hb, ht]; rfl
        refine ⟨X3, w, addS k b a.node, ⟨fun j o hj => t3.get (hle2 _ _ hj) fun hm => by have := o1 j hm; have := get_lt hj; omega, t3.get m2 d1, hlt3, h.idn, q, by rw [hs]; exact r3, d1, o1⟩, ?_⟩
        refine (jn_nrm (vs := [iv k, pt id, s6, w, asl, iv ac.length, iv i]) (H' := X3) ?_).trans ?_
        · rw [hb, ht] at e2
          rw [ht] at l1
          rw [cnd_b, if_neg (by simp), bind_eq fa_z, bind_eq f1, bind_eq cvi_r, w1, bind_eq lss_r, hd, b_g_in, b_assoc, bind_eq fa_z, b_assoc, bind_eq f1, b_assoc, bind_eq cvi_r, w1, b_assoc, bind_eq sub_r, wk, b_assoc, bind_eq hm, b_assoc, bind_eq (x1 _ _), b_assoc, bind_eq l1, b_assoc, bind_eq not_r, b_ret, c10_r, bind_eq pick_r]
          simp only [cond_true]
          rw [bind_eq fa_z, bind_eq f1, bind_eq e2, bind_eq neb_r, cnd_b, if_neg (by simp)]
          refine (jn_nrm (vs := [iv k, pt id, s6, w, asl, iv ac.length, iv i]) (H' := X3) ?_).trans rfl
          rw [cnd_b, if_pos (by rfl), bind_eq fa_z, bind_eq g1, bind_eq (x1 _ _), bind_eq s3]
          rfl
        · rw [c7_r]; rfl
      · have hs : addS k b a.node = b := by unfold addS; rw [hb, ht]; rfl
        rw [hs] at m2
        refine ⟨X2, w, b, ⟨hle2, m2, h.lt, h.idn, q, r2, d1, o1⟩, ?_⟩
        refine (jn_nrm (vs := [iv k, pt id, s6, w, asl, iv ac.length, iv i]) (H' := X2) ?_).trans ?_
        · rw [hb, ht] at e2
          rw [ht] at l1
          rw [cnd_b, if_neg (by simp), bind_eq fa_z, bind_eq f1, bind_eq cvi_r, w1, bind_eq lss_r, hd, b_g_in, b_assoc, bind_eq fa_z, b_assoc, bind_eq f1, b_assoc, bind_eq cvi_r, w1, b_assoc, bind_eq sub_r, wk, b_assoc, bind_eq hm, b_assoc, bind_eq (x1 _ _), b_assoc, bind_eq l1, b_assoc, bind_eq not_r, b_ret, c10_r, bind_eq pick_r]
          simp only [cond_true]
          rw [bind_eq fa_z, bind_eq f1, bind_eq e2, bind_eq neb_r, cnd_b, if_neg (by simp)]
          refine (jn_nrm (vs := [iv k, pt id, s6, w, asl, iv ac.length, iv i]) (H' := X2) ?_).trans rfl
          rw [cnd_b, if_neg (by simp)]
          rfl
        · rw [c7_r]; rfl
    · have hd : decide ((a.node : Int) < k) = false := decide_eq_false (by omega)
      have hb : addB k b a.node = false := by unfold addB; rw [decide_eq_false hnk, Bool.false_and]
      have hs : addS k b a.node = b := by unfold addS; rw [hb]; rfl
      rw [hs] at m2
      refine ⟨X2, w, b, ⟨hle2, m2, h.lt, h.idn, q, r2, d1, o1⟩, ?_⟩
      refine (jn_nrm (vs := [iv k, pt id, s6, w, asl, iv ac.length, iv i]) (H' := X2) ?_).trans ?_
      · rw [hb] at e2
        rw [cnd_b, if_neg (by simp), bind_eq fa_z, bind_eq f1, bind_eq cvi_r, w1, bind_eq lss_r, hd, bind_eq (g_r.trans (if_neg (by simp)))]
        simp only [List.replicate]
        rw [c10_r, bind_eq pick_r]
        simp only [cond_false]
        rw [bind_eq fa_z, bind_eq f1, bind_eq e2, bind_eq neb_r, cnd_b, if_neg (by simp)]
        refine (jn_nrm (vs := [iv k, pt id, s6, w, asl, iv ac.length, iv i]) (H' := X2) ?_).trans rfl
        rw [cnd_b, if_neg (by simp)]
        rfl
      · rw [c7_r]; rfl

theorem sets_do {asl : Value} {ac : List QAct} (hA : QActs H0 asl ac) (hn : ac.length ≤ 40) (hk : enough k ≠ 0) : ∀ (t i : Nat) {X : Heap} {w : Value} {b : Nat}, ac.length - i = t → i ≤ ac.length → SSt H0 X id k w b →
    ∃ X', loopM (c7 (F_law27QuorumSets.l1 (R (n + 3)))) [iv k, pt id, iv (enough k), w, asl, iv ac.length, iv i] X = some (.ext 0 [], X')
  | 0, i, X, w, b, ht, hi, h => by
    have : i = ac.length := by omega
    subst this
    refine ⟨X, loop_ext ?_⟩
    simp [F_law27QuorumSets.l1, ↓bind_andk, andk_some, ↓jn_outk, outk_nrm, outk_ext, outk_ret, ↓cnd_b, ret_r, nilc_r, fa_r, ldOne_r, ldA_r, stOne_r, stA_r, rdk_r, rdkA_r, wrk_r, wrkA_r, alc_r, lenS_r, lenT_r, cvi_r, pick_r, not_r, mx_r, mn_r, ixa_r, ixaA_r, bld_r, add_r, sub_r, mul_r, quo_r, rem_r, eql_r, neq_r, lss_r, leq_r, gtr_r, geq_r, eqb_r, neb_r, eqp_r, nep_r, ↓gv_r, gvn_r, ↓g_r, gn_r, Bool.not_true, Bool.not_false, Bool.false_eq_true, Bool.true_eq_false, reduceIte, List.tail_cons, List.headD_cons, decide_true, decide_false, cond_true, cond_false, Nat.beq_refl, c0_r, c1_r, c2_r, c3_r, c4_r, c5_r, c6_r, c7_r, c8_r, c9_r, c10_r, c11_r, c12_r, xk_hit, List.replicate, extr_p0, extr_p1, extr_q0, extr_q1, extr_q2, fa_z, adds_v, lenT_v, retR]
  | t + 1, i, X, w, b, ht, hi, h => by
    obtain ⟨X2, w2, b2, h2, e2⟩ := sact_do (n := n) (s6 := iv (enough k)) hA hn hk (List.getElem?_eq_getElem (show i < ac.length by omega)) h
    have e3 := stail_do (n := n) (s3 := asl) (i := i) (m := ac.length) hk h2 (by omega)
    obtain ⟨X4, e4⟩ := sets_do hA hn hk t (i + 1) (by omega) (by omega) h2
    exact ⟨X4, (loop_next (e2.trans e3)).trans e4⟩

theorem r_newMarksN {x : Int} {H : Heap} (h : enough x = 0) : R (n + 2) n_quorumNewMarks [iv x] H = some (.pointer none, H) := by
  have e1 : run Try.prog np lvs (n + 1) n_quorumEnough [iv x] H = some (iv (enough x), H) := r_enough x
  rw [R, run_quorumNewMarks rfl]
  simp [F_quorumNewMarks, ↓bind_andk, andk_some, ↓jn_outk, outk_nrm, outk_ext, outk_ret, ↓cnd_b, ret_r, nilc_r, fa_r, ldOne_r, ldA_r, stOne_r, stA_r, rdk_r, rdkA_r, wrk_r, wrkA_r, alc_r, lenS_r, lenT_r, cvi_r, pick_r, not_r, mx_r, mn_r, ixa_r, ixaA_r, bld_r, add_r, sub_r, mul_r, quo_r, rem_r, eql_r, neq_r, lss_r, leq_r, gtr_r, geq_r, eqb_r, neb_r, eqp_r, nep_r, ↓gv_r, gvn_r, ↓g_r, gn_r, Bool.not_true, Bool.not_false, Bool.false_eq_true, Bool.true_eq_false, reduceIte, List.tail_cons, List.headD_cons, decide_true, decide_false, cond_true, cond_false, Nat.beq_refl, c0_r, c1_r, c2_r, c3_r, c4_r, c5_r, c6_r, c7_r, c8_r, c9_r, c10_r, c11_r, c12_r, xk_hit, List.replicate, extr_p0, extr_p1, extr_q0, extr_q1, extr_q2, fa_z, adds_v, lenT_v, retR, e1, h]

theorem sets_core {asl : Value} {ac : List QAct} {H : Heap} {x : Int} (hA : QActs H asl ac) (hn : ac.length ≤ 9223372036854775807) : ∃ H', R 10 n_law27QuorumSets [iv x, asl] H = some (.bool true, H') := by
  obtain ⟨H1, e1, k1⟩ := r_lives (n := 0) H
  obtain ⟨H2, e2, k2⟩ := r_lives (n := 0) H1
  have e1 : run Try.prog np lvs 9 n_law27Lives [] H = some (.bool true, H1) := e1
  have e2 : run Try.prog np lvs 9 n_law27Lives [] H1 = some (.bool true, H2) := e2
  have ea := fun X => hA.len (H' := X)
  rw [R, run_law27QuorumSets rfl]
  by_cases h40 : ac.length > 40
  · refine ⟨H2, ?_⟩
    have h40' : (ac.length : Int) > 40 := by omega
    simp [F_law27QuorumSets, ↓bind_andk, andk_some, ↓jn_outk, outk_nrm, outk_ext, outk_ret, ↓cnd_b, ret_r, nilc_r, fa_r, ldOne_r, ldA_r, stOne_r, stA_r, rdk_r, rdkA_r, wrk_r, wrkA_r, alc_r, lenS_r, lenT_r, cvi_r, pick_r, not_r, mx_r, mn_r, ixa_r, ixaA_r, bld_r, add_r, sub_r, mul_r, quo_r, rem_r, eql_r, neq_r, lss_r, leq_r, gtr_r, geq_r, eqb_r, neb_r, eqp_r, nep_r, ↓gv_r, gvn_r, ↓g_r, gn_r, Bool.not_true, Bool.not_false, Bool.false_eq_true, Bool.true_eq_false, reduceIte, List.tail_cons, List.headD_cons, decide_true, decide_false, cond_true, cond_false, Nat.beq_refl, c0_r, c1_r, c2_r, c3_r, c4_r, c5_r, c6_r, c7_r, c8_r, c9_r, c10_r, c11_r, c12_r, xk_hit, List.replicate, extr_p0, extr_p1, extr_q0, extr_q1, extr_q2, fa_z, adds_v, lenT_v, retR, e1, e2, ea, h40, h40']
  · have h40' : ¬ (ac.length : Int) > 40 := by omega
    have q2 : bop .int .gtr (iv ac.length) (.int .i64 40) H1 = some (.bool false, H1) := by rw [gtr_r, decide_eq_false h40']
    rcases r_newS (n := 7) (H := H1) x with ⟨hz, e3⟩ | ⟨hz, H3, e3, rfl⟩
    · refine ⟨H1, ?_⟩
      have e3 : run Try.prog np lvs 9 n_quorumNew [iv x] H1 = some (.pointer none, H1) := e3
      have e4 : run Try.prog np lvs 9 n_ref27Enough [iv x] H1 = some (iv (enough x), H1) := r_refEnough x
      have e5 : run Try.prog np lvs 9 n_quorumEnough [iv x] H1 = some (iv (enough x), H1) := r_enough x
      have e6 : run Try.prog np lvs 9 n_quorumNewMarks [iv x] H1 = some (.pointer none, H1) := r_newMarksN hz
      simp [F_law27QuorumSets, ↓bind_andk, andk_some, ↓jn_outk, outk_nrm, outk_ext, outk_ret, ↓cnd_b, ret_r, nilc_r, fa_r, ldOne_r, ldA_r, stOne_r, stA_r, rdk_r, rdkA_r, wrk_r, wrkA_r, alc_r, lenS_r, lenT_r, cvi_r, pick_r, not_r, mx_r, mn_r, ixa_r, ixaA_r, bld_r, add_r, sub_r, mul_r, quo_r, rem_r, eql_r, neq_r, lss_r, leq_r, gtr_r, geq_r, eqb_r, neb_r, eqp_r, nep_r, ↓gv_r, gvn_r, ↓g_r, gn_r, Bool.not_true, Bool.not_false, Bool.false_eq_true, Bool.true_eq_false, reduceIte, List.tail_cons, List.headD_cons, decide_true, decide_false, cond_true, cond_false, Nat.beq_refl, c0_r, c1_r, c2_r, c3_r, c4_r, c5_r, c6_r, c7_r, c8_r, c9_r, c10_r, c11_r, c12_r, xk_hit, List.replicate, extr_p0, extr_p1, extr_q0, extr_q1, extr_q2, fa_z, adds_v, lenT_v, retR, e1, ea, h40, h40', e3, e4, e5, e6, hz, nenn_r, eqnn_r]
    · obtain ⟨k, rfl⟩ : ∃ k : Nat, x = k := ⟨x.toNat, by have := enough_cases hz; omega⟩
      have hec := enough_cases hz
      have c3 : (H1 ++ [AObj.cells [iv k, bv 0] 1 false false])[H1.length]? = some (.cells [iv k, bv 0] 1 false false) := app_new
      have k3 : HLe H1 (H1 ++ [AObj.cells [iv k, bv 0] 1 false false]) := .app _ _
      generalize H1 ++ [AObj.cells [iv k, bv 0] 1 false false] = H3 at e3 c3 k3
      have e3 : run Try.prog np lvs 9 n_quorumNew [iv k] H1 = some (pt H1.length, H3) := e3
      have e4 : run Try.prog np lvs 9 n_ref27Enough [iv k] H3 = some (iv (enough k), H3) := r_refEnough k
      have e5 : run Try.prog np lvs 9 n_quorumEnough [iv k] H3 = some (iv (enough k), H3) := r_enough k
      have e6 := mks_1 (k := k) (b := 1) (z := .bool false) (H := H3) rfl (by omega) (by omega)
      generalize hH4 : H3 ++ [AObj.cells (List.replicate k (.bool false)) 1 false false] = H4 at e6
      have k4 : HLe H3 H4 := by rw [← hH4]; exact .app _ _
      have c4 : H4[H3.length]? = some (.cells (List.replicate k (.bool false)) 1 false false) := by rw [← hH4]; exact app_new
      have k13 := k1.trans k3
      have hS : SSt H H4 H1.length k (.slice (some ⟨H3.length, 0, none⟩) k k) 0 := ⟨k13.trans k4, k4 _ _ c3, Nat.pow_pos (by omega), k1.len, [H3.length], by rw [setL_zero]; exact RowS.new c4, fun hm => by
        have : H1.length = H3.length := by simpa using hm
        have := get_lt c3; omega, fun j hj => by
        have : j = H3.length := by simpa using hj
        have := k13.len; omega⟩
      obtain ⟨H5, e7⟩ := sets_do (n := 6) hA (by omega) hz ac.length 0 (by omega) (by omega) hS
      refine ⟨H5, ?_⟩
      have hz' : ((enough k : Int) > 0) := by omega
      have q1 : bop .int .neq (iv (enough k)) (iv (enough k)) H3 = some (.bool false, H3) := by rw [neq_r]; simp
      have q3 : bop .int .gtr (iv (enough k)) (.int .i64 0) H3 = some (.bool true, H3) := by rw [gtr_r, decide_eq_true hz']
      have e7 : loopM (c7 (F_law27QuorumSets.l1 (run Try.prog np lvs 9))) [iv k, pt H1.length, iv (enough k), .slice (some ⟨H3.length, 0, none⟩) k k, asl, iv ac.length, .int .i64 0] H4 = some (.ext 0 [], H5) := e7
      unfold F_law27QuorumSets
      rw [bind_eq e1, bind_eq not_r]
      simp only [Bool.not_true]
      rw [b_g_in, b_assoc, bind_eq (ea _), b_assoc, bind_eq q2, b_ret, c3_r, bind_eq pick_r]
      simp only [cond_false]
      rw [cnd_b, if_neg (by simp), bind_eq e3, bind_eq e4, bind_eq e5, bind_eq q1, b_g_in, b_assoc, bind_eq nep_r, b_assoc, bind_eq q3, b_assoc, bind_eq neb_r, b_ret, c5_r, bind_eq pick_r]
      simp only [cond_false, beq_self_eq_true, Bool.not_true]
      rw [cnd_b, if_neg (by simp), bind_eq eqp_r, cnd_b, if_neg (by simp), bind_eq e6, bind_eq (ea _), jn_ext e7, xk_hit]
      rfl

theorem law_QuorumSets : ∀ (xs : Ins [.int .i64, .slc quoActT]) (H : Heap) (vs : List Value), InsWf [.int .i64, .slc quoActT] xs → InsRd [.int .i64, .slc quoActT] xs H vs → ∃ n H', R n n_law27QuorumSets vs H = some (.bool true, H') := by
  intro xs H vs hwf hrd
  obtain ⟨M, l, _⟩ := xs
  obtain ⟨hM, hl, _⟩ := hwf
  obtain ⟨c1, _, rfl, hc1, h1, c2, _, rfl, hc2, h2, rfl⟩ := hrd
  obtain ⟨a, rfl⟩ : ∃ a, c2 = [a] := by
    match c2, hc2 with
    | [a], _ => exact ⟨a, rfl⟩
  have h1 : c1 = [.int .i64 M] := h1
  subst h1
  obtain ⟨ac, hA, hn⟩ := rd_quoActs hl h2
  exact ⟨10, sets_core hA hn⟩

end

end Go.Proofs.Ytdmijlkknpolbaa.A
