/- Whatever is noted, each answer, each mark, and what is reached, are the document's. -/
import Derived.Test.YtdmijlkknpolbaaQuoActs
namespace Go.Proofs.Ytdmijlkknpolbaa.A
set_option linter.unusedVariables false
set_option linter.unusedSimpArgs false
open Go.Proofs Go.Proofs.Ytdmijlkknpolbaa

section
variable {H0 X : Heap} {id n k : Nat} {w : Value} {us : List Nat} {a : QAct}

/-- What is asked behind an act. -/
noncomputable def mTail (Γ : Funs) (q0 q1 q2 q3 q4 q5 : Value) : M Out :=
  jn (loopM (c7 (F_law27QuorumMarks.l2 Γ)) [q0, q1, q2, q3, q4, q5, .int .u8 0]) noN (xk 2 (c6 fun q0 q1 q2 q3 q4 q5 =>
    bind (Γ n_quorumMarksReached [q1]) fun v98x69 =>
    bind (Γ n_ref27Reached [q2]) fun v100x70 =>
    bind (bop .int .neq v98x69 v100x70) fun v101x71 =>
    cnd v101x71
    (ret (.ret (Value.bool false)))
    (bind (bop .int .add q5 (Value.int .i64 1)) fun v102x72 =>
    ret (.nrm [q0, q1, q2, q3, q4, v102x72]))) noX) retR

theorem tail_do {s3 : Value} {i m : Nat} (h : MSt H0 X id w us) (hl : us.length = k) (he : enough k ≠ 0) (hi : i < 1000) : ∃ X', mTail (R (n + 8)) (iv k) (pt id) w s3 (iv m) (iv i) X = some (.nrm [iv k, pt id, w, s3, iv m, iv ((i + 1 : Nat) : Int)], X') ∧ MSt H0 X' id w us := by
  have hec := enough_cases he
  have e1 := of_do (n := n + 7) (s5 := w) (s32 := s3) (s33 := iv m) (s34 := iv i) h hl (by omega) 9 0 rfl (by omega)
  obtain ⟨own, q, h1, h2, _⟩ := h.ex
  obtain ⟨X1, e2, le1⟩ := r_reached (n := n) h1 (by rw [hl]; exact he)
  have e3 := r_refReached (n := n + 6) ((h2.rd).mono le1) (by omega)
  rw [reach_same (by rw [hl]; exact he)] at e3
  have q1 : bop .int .neq (uv (reachedL us)) (uv (reachedL us)) X1 = some (.bool false, X1) := by rw [neq_r]; simp
  refine ⟨X1, ?_, h.hle le1⟩
  unfold mTail
  have e1 : loopM (c7 (F_law27QuorumMarks.l2 (R (n + 8)))) [iv k, pt id, w, s3, iv m, iv i, .int .u8 0] X = some (.ext 2 [iv k, pt id, w, s3, iv m, iv i], X) := e1
  rw [jn_ext e1, xk_hit, c6_r, bind_eq e2, bind_eq e3, bind_eq q1, cnd_b, if_neg (by simp), bind_eq add_r, wsuc (by omega)]
  rfl

/-- An act. -/
theorem act_do {asl : Value} {ac : List QAct} (hA : QActs H0 asl ac) (hn : ac.length ≤ 40) (he : enough k ≠ 0) {i : Nat} (hka : ac[i]? = some a) (hl : us.length = k) (h : MSt H0 X id w us) :
    ∃ X2 w2 us2, us2.length = k ∧ MSt H0 X2 id w2 us2 ∧ F_law27QuorumMarks.l1 (R (n + 8)) (iv k) (pt id) w asl (iv ac.length) (iv i) X = mTail (R (n + 8)) (iv k) (pt id) w2 asl (iv ac.length) (iv i) X2 := by
  have hec := enough_cases he
  have hil : i < ac.length := (List.getElem?_eq_some_iff.1 hka).1
  have hlt : (i : Int) < ac.length := by omega
  obtain ⟨ok1, ok2, ok3⟩ := hA.2 a (List.mem_of_getElem? hka)
  have hf := fun {K : Value → M Out} => (hA.mono h.le).fetch (k := K) hka
  generalize hX1 : X ++ [AObj.cells a.cells 1 false false] = X1 at hf
  have le1 : HLe X X1 := by rw [← hX1]; exact .app _ _
  have c9 : X1[X.length]? = some (.cells a.cells 1 false false) := by rw [← hX1]; exact app_new
  have h1 := h.hle le1
  have f0 : ld1 (pt X.length) X1 = some (.int .u8 a.kd, X1) := ld1_at c9 rfl
  have hk : (a.kd : Int).tmod 3 = ((a.kd % 3 : Nat) : Int) := by rw [Int.tmod_eq_emod_of_nonneg (by omega)]; omega
  have q0 : bop .int .rem (.int .u8 a.kd) (.int .u8 3) X1 = some (.int .u8 ((a.kd % 3 : Nat) : Int), X1) := by rw [rem_r, if_neg (by omega), hk]
  obtain ⟨own, q, m0, r0, d1, o1, o2⟩ := h.ex
  have m1 := m0.hle le1
  have r1 := r0.step le1.step (by simp)
  unfold F_law27QuorumMarks.l1
  rw [bind_eq lss_r, cnd_b, if_pos (by simpa using hlt), hf, bind_eq fa_z, bind_eq f0, bind_eq q0, bind_eq eql_r]
  by_cases h2 : a.kd % 3 = 2
  · obtain ⟨X2, e2, m2, t2⟩ := r_clear (n := n + 7) m1
    have e3 := mks_1 (k := k) (b := 8) (z := uv 0) (H := X2) rfl (by omega) (by omega)
    generalize hX3 : X2 ++ [AObj.cells (List.replicate k (uv 0)) 1 false false] = X3 at e3
    have le3 : HLe X2 X3 := by rw [← hX3]; exact .app _ _
    have c3 : X3[X2.length]? = some (.cells (List.replicate k (uv 0)) 1 false false) := by rw [← hX3]; exact app_new
    have hle2 : HLe H0 X2 := fun j o hj => t2.get (h1.le _ _ hj) fun hm => by have := o1 j hm; have := get_lt hj; omega
    refine ⟨X3, .slice (some ⟨X2.length, 0, none⟩) k k, List.replicate k 0, by simp, ⟨hle2.trans le3, own, [X2.length], by rw [hl] at m2; exact m2.hle le3, by rw [List.map_replicate]; exact RowS.new c3, fun j hj hm => ?_, o1, fun j hj => ?_⟩, ?_⟩
    · have : j = X2.length := by simpa using hj
      have := m2.lt j hm; omega
    · have : j = X2.length := by simpa using hj
      have := hle2.len; omega
    · have e2 : R (n + 8) n_quorumMarksClear [pt id] X1 = some (.tuple #[], X2) := e2
      have e3 : mks 1 8 (.int .u64 0) (iv k) (iv k) X2 = _ := e3
      refine (jn_nrm (vs := [iv k, pt id, .slice (some ⟨X2.length, 0, none⟩) k k, asl, iv ac.length, iv i]) (H' := X3) ?_).trans ?_
      · rw [h2, cnd_b, if_pos (by rfl), bind_eq e2, bind_eq e3]; rfl
      · rw [c6_r]; rfl
  · have hq2 : (((a.kd % 3 : Nat) : Int) == 2) = false := by rw [beq_eq_false_iff_ne]; omega
    have w1 : IntKind.i64.wrap (a.node : Int) = a.node := w64 (by omega) (by omega)
    have wk : IntKind.i64.wrap ((k : Int) - 1) = ((k - 1 : Nat) : Int) := wpred (by omega) (by omega)
    have f1 : ld1 (pa X.length 1) X1 = some (.int .u8 a.node, X1) := ld1_at c9 rfl
    have f2 : ld1 (pa X.length 2) X1 = some (uv a.op, X1) := ld1_at c9 rfl
    obtain ⟨X2, e2, m2, t2⟩ := r_note (n := n + 7) m1 (by omega) (node := a.node) (op := a.op) ok2
    have e2 : R (n + 8) n_quorumMarksNote [pt id, .int .u8 a.node, uv a.op] X1 = some (.bool (noteB us a.node a.op), X2) := e2
    have xlt := get_lt c9
    have nown : X.length ∉ own := fun hm => by have := m0.lt _ hm; omega
    have c2 := t2.get c9 nown
    have g1 : ld1 (pa X.length 1) X2 = some (.int .u8 a.node, X2) := ld1_at c2 rfl
    have g2 : ld1 (pa X.length 2) X2 = some (uv a.op, X2) := ld1_at c2 rfl
    have r2 := r1.step t2 d1
    have hle2 : HLe H0 X2 := fun j o hj => t2.get (h1.le _ _ hj) fun hm => by have := o1 j hm; have := get_lt hj; omega
    rw [hq2]
    by_cases hnk : a.node < k
    · have hg : (us.map uv)[a.node]? = some (uv (us.getD a.node 0)) := by
        rw [List.getElem?_map, List.getElem?_eq_getElem (by omega)]; simp [List.getD_eq_getElem?_getD, List.getElem?_eq_getElem (show a.node < us.length by omega)]
      have x1 := fun q H => r1.ix (i := a.node) (by simp; omega) q H
      have l1 := r1.ldx hg
      have hb : noteB us a.node a.op = decide (us.getD a.node 0 < a.op) := by unfold noteB; rw [decide_eq_true (by omega), Bool.true_and]
      have hm : mxi false (iv a.node) (iv ((k - 1 : Nat) : Int)) X1 = some (iv a.node, X1) := by rw [mn_r, if_neg (by omega)]
      by_cases ho : us.getD a.node 0 < a.op
      · obtain ⟨X3, s3, r3, t3, l3⟩ := r2.stx (i := a.node) (u := uv a.op) (by simp; omega) rfl
        have hnl : noteL us a.node a.op = us.set a.node a.op := by unfold noteL; rw [if_pos ⟨by omega, ho⟩]
        refine ⟨X3, w, noteL us a.node a.op, by rw [noteL_len, hl], ⟨fun j o hj => t3.get (hle2 _ _ hj) fun hm => by have := o2 j hm; have := get_lt hj; omega, own, q, m2.step t3 fun j hj hm => d1 j hm hj, by rw [hnl, List.map_set]; exact r3, d1, o1, o2⟩, ?_⟩
        refine (jn_nrm (vs := [iv k, pt id, w, asl, iv ac.length, iv i]) (H' := X3) ?_).trans ?_
        · rw [hb, decide_eq_true ho] at e2
          have hgt : decide ((a.op : Int) > (us.getD a.node 0 : Nat)) = true := decide_eq_true (by omega)
          have hlt2 : decide ((a.node : Int) < k) = true := decide_eq_true (by omega)
          rw [cnd_b, if_neg (by simp), bind_eq fa_z, bind_eq f1, bind_eq cvi_r, w1, bind_eq lss_r, hlt2]
          rw [b_gv_in, bind_eq fa_z, b_gv_in, bind_eq f2, b_gv_in, b_ret, b_gv_in, bind_eq fa_z, b_gv_in, bind_eq f1, b_gv_in, bind_eq cvi_r, w1, b_gv_in, b_ret, b_gv_in, bind_eq sub_r, wk, b_gv_in, bind_eq hm, b_gv_in, bind_eq (x1 _ _), b_gv_in, bind_eq l1, b_gv_in, bind_eq gtr_r, hgt, bind_eq pick_r]
          simp only [cond_true]
          rw [bind_eq fa_z, bind_eq f1, bind_eq fa_z, bind_eq f2, bind_eq e2, bind_eq neb_r, cnd_b, if_neg (by simp)]
          refine (jn_nrm (vs := [iv k, pt id, w, asl, iv ac.length, iv i]) (H' := X3) ?_).trans rfl
          rw [cnd_b, if_pos rfl, bind_eq fa_z, bind_eq g1, bind_eq fa_z, bind_eq g2, bind_eq (x1 _ _), bind_eq s3]
          rfl
        · rw [c6_r]; rfl
      · have hnl : noteL us a.node a.op = us := by unfold noteL; rw [if_neg (by omega)]
        rw [hnl] at m2
        refine ⟨X2, w, us, hl, ⟨hle2, own, q, m2, r2, d1, o1, o2⟩, ?_⟩
        refine (jn_nrm (vs := [iv k, pt id, w, asl, iv ac.length, iv i]) (H' := X2) ?_).trans ?_
        · rw [hb, decide_eq_false ho] at e2
          have hgt : decide ((a.op : Int) > (us.getD a.node 0 : Nat)) = false := decide_eq_false (by omega)
          have hlt2 : decide ((a.node : Int) < k) = true := decide_eq_true (by omega)
          rw [cnd_b, if_neg (by simp), bind_eq fa_z, bind_eq f1, bind_eq cvi_r, w1, bind_eq lss_r, hlt2]
          rw [b_gv_in, bind_eq fa_z, b_gv_in, bind_eq f2, b_gv_in, b_ret, b_gv_in, bind_eq fa_z, b_gv_in, bind_eq f1, b_gv_in, bind_eq cvi_r, w1, b_gv_in, b_ret, b_gv_in, bind_eq sub_r, wk, b_gv_in, bind_eq hm, b_gv_in, bind_eq (x1 _ _), b_gv_in, bind_eq l1, b_gv_in, bind_eq gtr_r, hgt, bind_eq pick_r]
          simp only [cond_true]
          rw [bind_eq fa_z, bind_eq f1, bind_eq fa_z, bind_eq f2, bind_eq e2, bind_eq neb_r, cnd_b, if_neg (by simp)]
          refine (jn_nrm (vs := [iv k, pt id, w, asl, iv ac.length, iv i]) (H' := X2) ?_).trans rfl
          rw [cnd_b, if_neg (by simp)]
          rfl
        · rw [c6_r]; rfl
    · have hnl : noteL us a.node a.op = us := by unfold noteL; rw [if_neg (by omega)]
      have hb : noteB us a.node a.op = false := by unfold noteB; rw [decide_eq_false (by omega), Bool.false_and]
      rw [hnl] at m2
      refine ⟨X2, w, us, hl, ⟨hle2, own, q, m2, r2, d1, o1, o2⟩, ?_⟩
      refine (jn_nrm (vs := [iv k, pt id, w, asl, iv ac.length, iv i]) (H' := X2) ?_).trans ?_
      · rw [hb] at e2
        have hlt2 : decide ((a.node : Int) < k) = false := decide_eq_false (by omega)
        rw [cnd_b, if_neg (by simp), bind_eq fa_z, bind_eq f1, bind_eq cvi_r, w1, bind_eq lss_r, hlt2]
        rw [b_gv_out rfl, b_gv_out rfl, b_gv_out rfl, b_gv_out rfl, b_gv_out rfl, b_gv_out rfl, b_gv_out rfl, b_gv_out rfl, b_gv_out rfl, b_gv_out rfl, b_gv_out rfl, b_gv_out rfl, bind_eq pick_r]
        simp only [cond_false]
        rw [bind_eq fa_z, bind_eq f1, bind_eq fa_z, bind_eq f2, bind_eq e2, bind_eq neb_r, cnd_b, if_neg (by simp)]
        refine (jn_nrm (vs := [iv k, pt id, w, asl, iv ac.length, iv i]) (H' := X2) ?_).trans rfl
        rw [cnd_b, if_neg (by simp)]
        rfl
      · rw [c6_r]; rfl

theorem marks_do {asl : Value} {ac : List QAct} (hA : QActs H0 asl ac) (hn : ac.length ≤ 40) (he : enough k ≠ 0) : ∀ (t i : Nat) {X : Heap} {w : Value} {us : List Nat}, ac.length - i = t → i ≤ ac.length → us.length = k → MSt H0 X id w us →
    ∃ X', loopM (c6 (F_law27QuorumMarks.l1 (R (n + 8)))) [iv k, pt id, w, asl, iv ac.length, iv i] X = some (.ext 0 [], X')
  | 0, i, X, w, us, ht, hi, hl, h => by
    have : i = ac.length := by omega
    subst this
    refine ⟨X, loop_ext ?_⟩
    simp [F_law27QuorumMarks.l1, ↓bind_andk, andk_some, ↓jn_outk, outk_nrm, outk_ext, outk_ret, ↓cnd_b, ret_r, nilc_r, fa_r, ldOne_r, ldA_r, stOne_r, stA_r, rdk_r, rdkA_r, wrk_r, wrkA_r, alc_r, lenS_r, lenT_r, cvi_r, pick_r, not_r, mx_r, mn_r, ixa_r, ixaA_r, bld_r, add_r, sub_r, mul_r, quo_r, rem_r, eql_r, neq_r, lss_r, leq_r, gtr_r, geq_r, eqb_r, neb_r, eqp_r, nep_r, ↓gv_r, gvn_r, ↓g_r, gn_r, Bool.not_true, Bool.not_false, Bool.false_eq_true, Bool.true_eq_false, reduceIte, List.tail_cons, List.headD_cons, decide_true, decide_false, cond_true, cond_false, Nat.beq_refl, c0_r, c1_r, c2_r, c3_r, c4_r, c5_r, c6_r, c7_r, c8_r, c9_r, c10_r, c11_r, c12_r, xk_hit, List.replicate, extr_p0, extr_p1, extr_q0, extr_q1, extr_q2, fa_z, adds_v, lenT_v, retR]
  | t + 1, i, X, w, us, ht, hi, hl, h => by
    obtain ⟨X2, w2, us2, hl2, h2, e2⟩ := act_do (n := n) hA hn he (List.getElem?_eq_getElem (show i < ac.length by omega)) hl h
    obtain ⟨X3, e3, h3⟩ := tail_do (n := n) (s3 := asl) (i := i) (m := ac.length) h2 hl2 he (by omega)
    obtain ⟨X4, e4⟩ := marks_do hA hn he t (i + 1) (by omega) (by omega) hl2 h3
    exact ⟨X4, (loop_next (e2.trans e3)).trans e4⟩

theorem marks_core {asl : Value} {ac : List QAct} {H : Heap} {x : Nat} (hA : QActs H asl ac) (hn : ac.length ≤ 9223372036854775807) (hx : x ≤ 255) : ∃ H', R 10 n_law27QuorumMarks [.int .u8 x, asl] H = some (.bool true, H') := by
  obtain ⟨H1, e1, k1⟩ := r_lives (n := 0) H
  obtain ⟨H2, e2, k2⟩ := r_lives (n := 0) H1
  have e1 : run Try.prog np lvs 9 n_law27Lives [] H = some (.bool true, H1) := e1
  have e2 : run Try.prog np lvs 9 n_law27Lives [] H1 = some (.bool true, H2) := e2
  have ea := fun X => hA.len (H' := X)
  rw [R, run_law27QuorumMarks rfl]
  by_cases h40 : ac.length > 40
  · refine ⟨H2, ?_⟩
    have h40' : (ac.length : Int) > 40 := by omega
    simp [F_law27QuorumMarks, ↓bind_andk, andk_some, ↓jn_outk, outk_nrm, outk_ext, outk_ret, ↓cnd_b, ret_r, nilc_r, fa_r, ldOne_r, ldA_r, stOne_r, stA_r, rdk_r, rdkA_r, wrk_r, wrkA_r, alc_r, lenS_r, lenT_r, cvi_r, pick_r, not_r, mx_r, mn_r, ixa_r, ixaA_r, bld_r, add_r, sub_r, mul_r, quo_r, rem_r, eql_r, neq_r, lss_r, leq_r, gtr_r, geq_r, eqb_r, neb_r, eqp_r, nep_r, ↓gv_r, gvn_r, ↓g_r, gn_r, Bool.not_true, Bool.not_false, Bool.false_eq_true, Bool.true_eq_false, reduceIte, List.tail_cons, List.headD_cons, decide_true, decide_false, cond_true, cond_false, Nat.beq_refl, c0_r, c1_r, c2_r, c3_r, c4_r, c5_r, c6_r, c7_r, c8_r, c9_r, c10_r, c11_r, c12_r, xk_hit, List.replicate, extr_p0, extr_p1, extr_q0, extr_q1, extr_q2, fa_z, adds_v, lenT_v, retR, e1, e2, ea, h40, h40']
  · have h40' : ¬ (ac.length : Int) > 40 := by omega
    have hk : (x : Int).tmod 3 = ((x % 3 : Nat) : Int) := by rw [Int.tmod_eq_emod_of_nonneg (by omega)]; omega
    obtain ⟨k, hk2, he⟩ : ∃ k : Nat, k = 3 + 2 * (x % 3) ∧ enough k ≠ 0 := ⟨_, rfl, by
      have : x % 3 < 3 := Nat.mod_lt _ (by omega)
      generalize x % 3 = y at this
      have : y = 0 ∨ y = 1 ∨ y = 2 := by omega
      rcases this with rfl | rfl | rfl <;> decide⟩
    have hec := enough_cases he
    have w1 : IntKind.i64.wrap ((x % 3 : Nat) : Int) = ((x % 3 : Nat) : Int) := w64 (by omega) (by omega)
    have w2 : IntKind.i64.wrap (2 * ((x % 3 : Nat) : Int)) = 2 * ((x % 3 : Nat) : Int) := w64 (by omega) (by omega)
    have w3 : IntKind.i64.wrap (3 + 2 * ((x % 3 : Nat) : Int)) = (k : Int) := by rw [w64 (by omega) (by omega)]; omega
    obtain ⟨H3, own, e3, m3, k3, o3⟩ := r_newMarks (n := 7) (k := k) (H := H1) he
    have e3 : run Try.prog np lvs 9 n_quorumNewMarks [iv k] H1 = some (pt (H1.length + 1), H3) := e3
    have e4 := mks_1 (k := k) (b := 8) (z := uv 0) (H := H3) rfl (by omega) (by omega)
    generalize hH4 : H3 ++ [AObj.cells (List.replicate k (uv 0)) 1 false false] = H4 at e4
    have k4 : HLe H3 H4 := by rw [← hH4]; exact .app _ _
    have c4 : H4[H3.length]? = some (.cells (List.replicate k (uv 0)) 1 false false) := by rw [← hH4]; exact app_new
    have k13 := k1.trans k3
    have hS : MSt H H4 (H1.length + 1) (.slice (some ⟨H3.length, 0, none⟩) k k) (List.replicate k 0) := ⟨k13.trans k4, own, [H3.length], m3.hle k4, by rw [List.map_replicate]; exact RowS.new c4, fun j hj hm => by
      have : j = H3.length := by simpa using hj
      have := m3.lt j hm; omega, fun j hj => by have := o3 j hj; have := k1.len; omega, fun j hj => by
      have : j = H3.length := by simpa using hj
      have := k13.len; omega⟩
    obtain ⟨H5, e5⟩ := marks_do (n := 1) hA (by omega) he ac.length 0 (by omega) (by omega) (by simp) hS
    refine ⟨H5, ?_⟩
    have q1 : bop .int .rem (.int .u8 x) (.int .u8 3) H1 = some (.int .u8 ((x % 3 : Nat) : Int), H1) := by rw [rem_r, if_neg (by omega), hk]
    have q2 : bop .int .gtr (iv ac.length) (.int .i64 40) H1 = some (.bool false, H1) := by rw [gtr_r, decide_eq_false h40']
    have e4 : mks 1 8 (.int .u64 0) (iv k) (iv k) H3 = _ := e4
    have e5 : loopM (c6 (F_law27QuorumMarks.l1 (run Try.prog np lvs 9))) [iv k, pt (H1.length + 1), .slice (some ⟨H3.length, 0, none⟩) k k, asl, iv ac.length, .int .i64 0] H4 = some (.ext 0 [], H5) := e5
    unfold F_law27QuorumMarks
    rw [bind_eq e1, bind_eq not_r]
    simp only [Bool.not_true]
    rw [b_g_in, b_assoc, bind_eq (ea _), b_assoc, bind_eq q2, b_ret, c3_r, bind_eq pick_r]
    simp only [cond_false]
    rw [cnd_b, if_neg (by simp), bind_eq q1, bind_eq cvi_r, w1, bind_eq mul_r, w2, bind_eq add_r, w3, bind_eq e3, bind_eq eqp_r, cnd_b, if_neg (by simp), bind_eq e4, bind_eq (ea _), jn_ext e5, xk_hit]
    rfl

theorem law_QuorumMarks : ∀ (xs : Ins [.int .u8, .slc quoActT]) (H : Heap) (vs : List Value), InsWf [.int .u8, .slc quoActT] xs → InsRd [.int .u8, .slc quoActT] xs H vs → ∃ n H', R n n_law27QuorumMarks vs H = some (.bool true, H') := by
  intro xs H vs hwf hrd
  obtain ⟨M, l, _⟩ := xs
  obtain ⟨hM, hl, _⟩ := hwf
  obtain ⟨c1, _, rfl, hc1, h1, c2, _, rfl, hc2, h2, rfl⟩ := hrd
  have hM := wf_u8 hM
  obtain ⟨a, rfl⟩ : ∃ a, c2 = [a] := by
    match c2, hc2 with
    | [a], _ => exact ⟨a, rfl⟩
  have h1 : c1 = [.int .u8 M] := h1
  subst h1
  obtain ⟨ac, hA, hn⟩ := rd_quoActs hl h2
  obtain ⟨m, hm⟩ := nat_of (z := M) hM.1
  subst hm
  exact ⟨10, marks_core hA hn (Int.ofNat_le.1 hM.2)⟩

end

end Go.Proofs.Ytdmijlkknpolbaa.A
