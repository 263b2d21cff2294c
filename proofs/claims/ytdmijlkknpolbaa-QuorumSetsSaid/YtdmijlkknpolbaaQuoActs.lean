/- The acts that the laws of quorums are given. -/
import Derived.Test.YtdmijlkknpolbaaQuoRef
namespace Go.Proofs.Ytdmijlkknpolbaa.A
set_option linter.unusedVariables false
set_option linter.unusedSimpArgs false
open Go.Proofs Go.Proofs.Ytdmijlkknpolbaa

abbrev quoActT : Ty := .struct (.pair (.int .u8) (.pair (.int .u8) (.pair (.int .u64) .unit)))

structure QAct where
  kd : Nat
  node : Nat
  op : Nat

abbrev QAct.cells (a : QAct) : List Value := [.int .u8 a.kd, .int .u8 a.node, uv a.op]
def QAct.ok (a : QAct) : Prop := a.kd ≤ 255 ∧ a.node ≤ 255 ∧ a.op < 18446744073709551616

theorem nat_of {z : Int} (h : 0 ≤ z) : ∃ k : Nat, z = k := ⟨z.toNat, (Int.toNat_of_nonneg h).symm⟩

theorem rd_quoAct {x : quoActT.den} {H : Heap} {cs : List Value} (hw : quoActT.wf x) (h : Rd quoActT x H cs) : ∃ a : QAct, cs = a.cells ∧ a.ok := by
  obtain ⟨k, i, m, u⟩ := x
  obtain ⟨h1, h2, h3, h4⟩ := h
  obtain ⟨w1, w2, w3, _⟩ := hw
  have h1 : cs.take 1 = [.int .u8 k] := h1
  have h2 : (cs.drop 1).take 1 = [.int .u8 i] := h2
  have h3 : ((cs.drop 1).drop 1).take 1 = [.int .u64 m] := h3
  have h4 : ((cs.drop 1).drop 1).drop 1 = [] := h4
  have w1 := wf_u8 w1
  have w2 := wf_u8 w2
  have w3 := wf_u64 w3
  match cs, h1, h2, h3, h4 with
  | [c1, c2, c3], h1, h2, h3, _ =>
    have e1 : c1 = .int .u8 k := by simpa using h1
    have e2 : c2 = .int .u8 i := by simpa using h2
    have e3 : c3 = .int .u64 m := by simpa using h3
    obtain ⟨k', hk⟩ := nat_of (z := k) w1.1
    obtain ⟨i', hi⟩ := nat_of (z := i) w2.1
    obtain ⟨m', hm⟩ := nat_of (z := m) w3.1
    subst hk
    subst hi
    subst hm
    refine ⟨⟨k', i', m'⟩, by rw [e1, e2, e3], ?_, ?_, ?_⟩
    · exact Int.ofNat_le.1 w1.2
    · exact Int.ofNat_le.1 w2.2
    · exact Int.ofNat_lt.1 (Int.lt_of_le_of_lt w3.2 (by decide))

def QActs (H : Heap) (sl : Value) (ac : List QAct) : Prop := SlN 3 H sl (ac.map QAct.cells) ∧ ∀ a ∈ ac, a.ok

theorem rd_quoActs {x : (Ty.slc quoActT).den} {H : Heap} {v : Value} (hwf : (Ty.slc quoActT).wf x) (h : Rd (.slc quoActT) x H [v]) : ∃ ac, QActs H v ac ∧ ac.length ≤ 9223372036854775807 := by
  obtain ⟨rows, h1, h2, h3, h4⟩ := rd_rows hwf h
  obtain ⟨ac, h5, h6⟩ := choose_map (f := QAct.cells) (Q := fun _ a => a.ok) (rows := rows) fun r hr => by
    obtain ⟨y, hy, hr⟩ := h2 r hr
    exact rd_quoAct hy hr
  subst h5
  exact ⟨ac, ⟨h1, h6⟩, by simpa using h3⟩

section
variable {H H' : Heap} {sl : Value} {ac : List QAct}

theorem QActs.len (h : QActs H sl ac) : lenS sl H' = some (iv ac.length, H') := by
  have := h.1.len (H' := H')
  rwa [List.length_map] at this
theorem QActs.mono (h : QActs H sl ac) (hl : HLe H H') : QActs H' sl ac := ⟨h.1.mono hl, h.2⟩
theorem QActs.fetch {β : Type} {k : Value → M β} (h : QActs H sl ac) {j : Nat} {a : QAct} (hj : ac[j]? = some a) :
    bind (ixa 3 sl (iv j)) (fun p => bind (ldA 3 p) fun v => bind (alc 1 (.agg #[.int .u8 0, .int .u8 0, .int .u64 0])) fun q => bind (stA 3 q v) fun _ => k q) H = k (pt H.length) (H ++ [.cells a.cells 1 false false]) := by
  have hr : (ac.map QAct.cells)[j]? = some a.cells := by rw [List.getElem?_map, hj]; rfl
  rw [h.1.fetch hr (by omega) .i64]
  exact box_a (n := 3) (zs := [.int .u8 0, .int .u8 0, .int .u64 0]) (r := a.cells) rfl rfl rfl rfl
end

/-! marks -/

theorem noteL_len (us : List Nat) (node op : Nat) : (noteL us node op).length = us.length := by
  unfold noteL; split <;> simp

structure MSt (H0 X : Heap) (id : Nat) (w : Value) (us : List Nat) : Prop where
  le : HLe H0 X
  ex : ∃ own q, Mk X id us own ∧ RowS X w (us.map uv) q ∧ (∀ j ∈ q, j ∉ own) ∧ (∀ j ∈ own, H0.length ≤ j) ∧ ∀ j ∈ q, H0.length ≤ j

section
variable {H0 X : Heap} {id n k : Nat} {w : Value} {us : List Nat}

theorem MSt.hle {X' : Heap} (h : MSt H0 X id w us) (hl : HLe X X') : MSt H0 X' id w us := by
  obtain ⟨own, q, h1, h2, h3, h4, h5⟩ := h.ex
  exact ⟨h.le.trans hl, own, q, h1.hle hl, h2.step hl.step (by simp), h3, h4, h5⟩

theorem of_do {s5 s32 s33 s34 : Value} (h : MSt H0 X id w us) (hl : us.length = k) (h12 : k ≤ 12) : ∀ (t i : Nat), 9 - i = t → i ≤ 9 →
    loopM (c7 (F_law27QuorumMarks.l2 (R (n + 1)))) [iv k, pt id, w, s32, s33, s34, .int .u8 i] X = some (.ext 2 [iv k, pt id, w, s32, s33, s34], X)
  | 0, i, ht, hi => by
    have : i = 9 := by omega
    subst this
    refine loop_ext ?_
    simp [F_law27QuorumMarks.l2, ↓bind_andk, andk_some, ↓jn_outk, outk_nrm, outk_ext, outk_ret, ↓cnd_b, ret_r, nilc_r, fa_r, ldOne_r, ldA_r, stOne_r, stA_r, rdk_r, rdkA_r, wrk_r, wrkA_r, alc_r, lenS_r, lenT_r, cvi_r, pick_r, not_r, mx_r, mn_r, ixa_r, ixaA_r, bld_r, add_r, sub_r, mul_r, quo_r, rem_r, eql_r, neq_r, lss_r, leq_r, gtr_r, geq_r, eqb_r, neb_r, eqp_r, nep_r, ↓gv_r, gvn_r, ↓g_r, gn_r, Bool.not_true, Bool.not_false, Bool.false_eq_true, Bool.true_eq_false, reduceIte, List.tail_cons, List.headD_cons, decide_true, decide_false, cond_true, cond_false, Nat.beq_refl, c0_r, c1_r, c2_r, c3_r, c4_r, c5_r, c6_r, c7_r, c8_r, c9_r, c10_r, c11_r, c12_r, xk_hit, List.replicate, extr_p0, extr_p1, extr_q0, extr_q1, extr_q2, fa_z, adds_v, lenT_v, retR]
  | t + 1, i, ht, hi => by
    obtain ⟨own, q, h1, h2, _⟩ := h.ex
    have e := of_do (s5 := s5) (s32 := s32) (s33 := s33) (s34 := s34) h hl h12 t (i + 1) (by omega) (by omega)
    have hlt : (i : Int) < 9 := by omega
    have w1 : IntKind.i64.wrap (i : Int) = i := w64 (by omega) (by omega)
    have w2 : IntKind.u8.wrap ((i : Int) + 1) = ((i + 1 : Nat) : Int) := by rw [wu8]; omega
    have e1 := r_of (n := n) h1 (by omega) (node := i) (by omega)
    have q1 : bop .int .neq (uv (us.getD i 0)) (uv (us.getD i 0)) X = some (.bool false, X) := by rw [neq_r]; simp
    refine (loop_next ?_).trans e
    rw [c7_r]
    unfold F_law27QuorumMarks.l2
    rw [bind_eq lss_r, cnd_b, if_pos (by simpa using hlt), bind_eq cvi_r, w1, bind_eq lss_r]
    by_cases hik : i < k
    · have hg : (us.map uv)[i]? = some (uv (us.getD i 0)) := by
        rw [List.getElem?_map, List.getElem?_eq_getElem (by omega)]; simp [List.getD_eq_getElem?_getD, List.getElem?_eq_getElem (show i < us.length by omega)]
      have x1 := h2.ix (i := i) (by simp; omega) .u8 X
      have g1 := h2.ldx hg
      refine (jn_nrm (vs := [iv k, pt id, w, .int .u8 i, uv (us.getD i 0), s32, s33, s34, .int .u8 i]) (H' := X) ?_).trans ?_
      · rw [cnd_b, if_pos (by simp; omega), bind_eq x1, bind_eq g1]; rfl
      · rw [c9_r, bind_eq e1, bind_eq q1, cnd_b, if_neg (by simp), bind_eq add_r, w2]; rfl
    · have hz : us.getD i 0 = 0 := by simp [List.getD_eq_getElem?_getD, List.getElem?_eq_none (show us.length ≤ i by omega)]
      rw [hz] at e1 q1
      refine (jn_nrm (vs := [iv k, pt id, w, .int .u8 i, uv 0, s32, s33, s34, .int .u8 i]) (H' := X) ?_).trans ?_
      · rw [cnd_b, if_neg (by simp; omega)]; rfl
      · rw [c9_r, bind_eq e1, bind_eq q1, cnd_b, if_neg (by simp), bind_eq add_r, w2]; rfl

end

end Go.Proofs.Ytdmijlkknpolbaa.A
