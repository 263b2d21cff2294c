/- NetOrder, on the abstract machine. -/
import Derived.Test.YtkjoaediojdodaaNetOps
namespace Go.Proofs.Ytkjoaediojdodaa.A
set_option linter.unusedVariables false
set_option linter.unusedSimpArgs false
open Go.Proofs Go.Proofs.Ytkjoaediojdodaa

theorem mrk_r {id n c : Nat} {H : Heap} {cs : List Value} {es : Nat} {g : Bool} (h : H[id]? = some (.cells cs es g false)) : mrk (.slice (some ⟨id, 0, none⟩) n c) H = some (.slice (some ⟨id, 0, none⟩) n c, H) := by
  simp only [mrk, h]

theorem r_netLives (n : Nat) (H : Heap) : ∃ H', R (n + 4) n_law30Lives [] H = some (.bool true, H') ∧ HLe H H' := by
  have e0 := r_netNew (n + 2) H
  have N0 := net_new H
  generalize hH1 : H ++ [AObj.cells [.slice none 0 0, iv 0] 1 false false] = H1 at *
  have k1 : HLe H H1 := by rw [← hH1]; exact .app _ _
  -- "a"
  have b1 : bsl 1 1 (.int .u8 0) [(0, 1, (Value.int .u8 97))] H1 = some (.slice (some ⟨H1.length, 0, none⟩) 1 1, H1 ++ [.cells [.int .u8 97] 1 false false]) := bsl1 rfl rfl rfl
  have m1 : mrk (.slice (some ⟨H1.length, 0, none⟩) 1 1) (H1 ++ [.cells [.int .u8 97] 1 false false]) = some (.slice (some ⟨H1.length, 0, none⟩) 1 1, H1 ++ [.cells [.int .u8 97] 1 false false]) := mrk_r app_new
  have s1 : Sl (H1 ++ [.cells [.int .u8 97] 1 false false]) (.slice (some ⟨H1.length, 0, none⟩) 1 1) (u8s [97]) := Sl.one (vs := [.int .u8 97]) app_new
  have N1 := N0.step (HLe.app H1 [.cells [.int .u8 97] 1 false false]).step (by simp)
  have k2 := k1.trans (HLe.app H1 [.cells [.int .u8 97] 1 false false])
  generalize H1 ++ [AObj.cells [.int .u8 97] 1 false false] = H2 at *
  obtain ⟨H3, o3, e3, N3, st3⟩ := r_put (n := n + 1) N1 (by simp) s1 (by simp)
  obtain ⟨k3, ho3⟩ := k2.more st3 (by simp)
  -- "b"
  have b2 : bsl 1 1 (.int .u8 0) [(0, 1, (Value.int .u8 98))] H3 = some (.slice (some ⟨H3.length, 0, none⟩) 1 1, H3 ++ [.cells [.int .u8 98] 1 false false]) := bsl1 rfl rfl rfl
  have m2 : mrk (.slice (some ⟨H3.length, 0, none⟩) 1 1) (H3 ++ [.cells [.int .u8 98] 1 false false]) = some (.slice (some ⟨H3.length, 0, none⟩) 1 1, H3 ++ [.cells [.int .u8 98] 1 false false]) := mrk_r app_new
  have s2 : Sl (H3 ++ [.cells [.int .u8 98] 1 false false]) (.slice (some ⟨H3.length, 0, none⟩) 1 1) (u8s [98]) := Sl.one (vs := [.int .u8 98]) app_new
  have N4 := N3.step (HLe.app H3 [.cells [.int .u8 98] 1 false false]).step (by simp)
  have k4 := k3.trans (HLe.app H3 [.cells [.int .u8 98] 1 false false])
  generalize H3 ++ [AObj.cells [.int .u8 98] 1 false false] = H4 at *
  obtain ⟨H5, o5, e5, N5, st5⟩ := r_put (n := n + 1) N4 (by simp) s2 (by simp)
  obtain ⟨k5, ho5⟩ := k4.more st5 ho3
  obtain ⟨v, q, H6, o6, e6, r6, q6, N6, st6, hsub⟩ := r_take (n := n) N5 (i := 2) (by omega) (by simp) (k := 0) (p := [97]) (by decide) (by simp) (by simp)
  obtain ⟨k6, ho6⟩ := k5.more st6 ho5
  have b6 := b2s_sl r6.rd
  have e7 := r_netLen (n := n + 2) N6
  refine ⟨H6, ?_, k6⟩
  rw [R, run_law30Lives rfl]
  simp only [F_law30Lives, ↓bind_andk, andk_some, ↓jn_outk, outk_nrm, outk_ext, outk_ret, ↓cnd_b, ret_r, nilc_r, fa_r, ldOne_r, ldA_r, stOne_r, stA_r, rdk_r, rdkA_r, wrk_r, wrkA_r, alc_r, lenS_r, lenT_r, cvi_r, pick_r, not_r, mx_r, mn_r, ixa_r, ixaA_r, bld_r, add_r, sub_r, mul_r, quo_r, rem_r, eql_r, neq_r, lss_r, leq_r, gtr_r, geq_r, eqb_r, neb_r, eqp_r, nep_r, ↓gv_r, gvn_r, ↓g_r, gn_r, Bool.not_true, Bool.not_false, Bool.false_eq_true, Bool.true_eq_false, reduceIte, List.tail_cons, List.headD_cons, decide_true, decide_false, cond_true, cond_false, Nat.beq_refl, e0, b1, m1, e3, b2, m2, e5, e6, extr_p0, extr_p1, b6, eqs_r, e7, BEq.rfl]
  rfl

/-- What a slice's elements are, as bytes. -/
def Bs (H : Heap) (vs : List Value) (ps : List (List UInt8)) : Prop := ps.length = vs.length ∧ ∀ (i : Nat) (v : Value) (p : List UInt8), vs[i]? = some v → ps[i]? = some p → Sl H v (u8s p)

theorem Bs.mono {H H' : Heap} {vs : List Value} {ps : List (List UInt8)} (h : Bs H vs ps) (hl : HLe H H') : Bs H' vs ps := ⟨h.1, fun i v p h1 h2 => (h.2 i v p h1 h2).mono hl⟩

theorem order_put {m id : Nat} {a : Value} {vs : List Value} {ps : List (List UInt8)} {H0 : Heap} (ha : Sl H0 a vs) (hb : Bs H0 vs ps) (hn : vs.length ≤ 128) :
    ∀ (d i : Nat) {own : List Nat} {H : Heap}, vs.length - i = d → i ≤ vs.length → HLe H0 H → (∀ j ∈ own, H0.length ≤ j) → Net H id (ps.take i) 0 own →
    ∃ H', (loopM (fun vs => F_law30NetOrder.l1 (R (m + 2)) (vs.headD undef) (vs.tail.headD undef) (vs.tail.tail.headD undef) (vs.tail.tail.tail.headD undef) (vs.tail.tail.tail.tail.headD undef)) [a, pt id, a, iv vs.length, iv i] H = some (.ret (.bool true), H')) ∨
      (loopM (fun vs => F_law30NetOrder.l1 (R (m + 2)) (vs.headD undef) (vs.tail.headD undef) (vs.tail.tail.headD undef) (vs.tail.tail.tail.headD undef) (vs.tail.tail.tail.tail.headD undef)) [a, pt id, a, iv vs.length, iv i] H = some (.ext 0 [a, pt id], H') ∧
        HLe H0 H' ∧ (∃ own', (∀ j ∈ own', H0.length ≤ j) ∧ Net H' id ps 0 own') ∧ ∀ p ∈ ps.drop i, p.length ≤ 100)
  | 0, i, own, H, hd, hi, hle, ho, hN => by
    have : i = vs.length := by omega
    subst this
    rw [List.take_of_length_le (by rw [hb.1]; omega)] at hN
    refine ⟨H, .inr ⟨loop_ext ?_, hle, ⟨own, ho, hN⟩, ?_⟩⟩
    · simp [F_law30NetOrder.l1, ↓bind_andk, andk_some, ↓jn_outk, outk_nrm, outk_ext, outk_ret, ↓cnd_b, ret_r, nilc_r, fa_r, ldOne_r, ldA_r, stOne_r, stA_r, rdk_r, rdkA_r, wrk_r, wrkA_r, alc_r, lenS_r, lenT_r, cvi_r, pick_r, not_r, mx_r, mn_r, ixa_r, ixaA_r, bld_r, add_r, sub_r, mul_r, quo_r, rem_r, eql_r, neq_r, lss_r, leq_r, gtr_r, geq_r, eqb_r, neb_r, eqp_r, nep_r, ↓gv_r, gvn_r, ↓g_r, gn_r]
    · rw [List.drop_eq_nil_of_le (by rw [hb.1]; omega)]; simp
  | d + 1, i, own, H, hd, hi, hle, ho, hN => by
    have hiv : i < vs.length := by omega
    have hip : i < ps.length := by rw [hb.1]; omega
    have hlt : (i : Int) < vs.length := by omega
    have hw : IntKind.i64.wrap ((i : Int) + 1) = ((i + 1 : Nat) : Int) := by rw [w64 (by omega) (by omega)]; simp
    have hv := List.getElem?_eq_getElem hiv
    have hp := List.getElem?_eq_getElem hip
    have hs := (hb.2 i _ _ hv hp).mono hle
    have e1 := hs.len (H' := H)
    rw [u8s_length] at e1
    obtain ⟨aid, o, cs, es, g, ro, f1, f2, f3, f4⟩ := (ha.mono hle).at hv .i64
    have f3' : ld1 (pa aid o) H = some (vs[i], H) := by rw [ldOne_r, f2, rdk_r, f3]; rfl
    by_cases h100 : ps[i].length > 100
    · have h100' : (ps[i].length : Int) > 100 := by omega
      refine ⟨H, .inl (loop_ret ?_)⟩
      simp only [F_law30NetOrder.l1, ↓bind_andk, andk_some, ↓jn_outk, outk_nrm, outk_ext, outk_ret, ↓cnd_b, ret_r, nilc_r, fa_r, ldOne_r, ldA_r, stOne_r, stA_r, rdk_r, rdkA_r, wrk_r, wrkA_r, alc_r, lenS_r, lenT_r, cvi_r, pick_r, not_r, mx_r, mn_r, ixa_r, ixaA_r, bld_r, add_r, sub_r, mul_r, quo_r, rem_r, eql_r, neq_r, lss_r, leq_r, gtr_r, geq_r, eqb_r, neb_r, eqp_r, nep_r, ↓gv_r, gvn_r, ↓g_r, gn_r, Bool.not_true, Bool.not_false, Bool.false_eq_true, Bool.true_eq_false, reduceIte, List.tail_cons, List.headD_cons, decide_true, decide_false, cond_true, cond_false, Nat.beq_refl, hlt, f1, f2, f3, Option.map_some, e1, h100']
    · have h100' : ¬ (ps[i].length : Int) > 100 := by omega
      have htl : (ps.take i).length = i := by simp; omega
      obtain ⟨H1, o1, e2, N1, st1⟩ := r_put (n := m) hN (by omega) hs (by omega)
      obtain ⟨k1, ho1⟩ := hle.more st1 ho
      rw [show ps.take i ++ [ps[i]] = ps.take (i + 1) from by rw [List.take_add_one, hp]; rfl] at N1
      have hr : F_law30NetOrder.l1 (R (m + 2)) a (pt id) a (iv vs.length) (iv i) H = some (.nrm [a, pt id, a, iv vs.length, iv ((i + 1 : Nat) : Int)], H1) := by
        simp only [F_law30NetOrder.l1, ↓bind_andk, andk_some, ↓jn_outk, outk_nrm, outk_ext, outk_ret, ↓cnd_b, ret_r, nilc_r, fa_r, ldOne_r, ldA_r, stOne_r, stA_r, rdk_r, rdkA_r, wrk_r, wrkA_r, alc_r, lenS_r, lenT_r, cvi_r, pick_r, not_r, mx_r, mn_r, ixa_r, ixaA_r, bld_r, add_r, sub_r, mul_r, quo_r, rem_r, eql_r, neq_r, lss_r, leq_r, gtr_r, geq_r, eqb_r, neb_r, eqp_r, nep_r, ↓gv_r, gvn_r, ↓g_r, gn_r, Bool.not_true, Bool.not_false, Bool.false_eq_true, Bool.true_eq_false, reduceIte, List.tail_cons, List.headD_cons, decide_true, decide_false, cond_true, cond_false, Nat.beq_refl, hlt, f1, f2, f3, Option.map_some, e1, h100', e2, hw]
      obtain ⟨H2, h2⟩ := order_put (m := m) ha hb hn d (i + 1) (by omega) (by omega) k1 ho1 N1
      refine ⟨H2, h2.imp (loop_next hr).trans fun h => ⟨(loop_next hr).trans h.1, h.2.1, h.2.2.1, fun p hp => ?_⟩⟩
      rw [List.drop_eq_getElem_cons hip] at hp
      rcases List.mem_cons.1 hp with rfl | hp
      · omega
      · exact h.2.2.2 p hp

theorem plc_zero {ps : List (List UInt8)} (h : ps.length ≠ 0) : plc ps 0 = ((0 : Nat) : Int) := by
  unfold plc; rw [if_neg h]; simp

theorem order_take {m id : Nat} {a : Value} {vs : List Value} {ps : List (List UInt8)} {H0 : Heap} (ha : Sl H0 a vs) (hb : Bs H0 vs ps) (hn : vs.length ≤ 128) (h100 : ∀ p ∈ ps, p.length ≤ 100) :
    ∀ (d i : Nat) {own : List Nat} {H : Heap}, vs.length - i = d → i ≤ vs.length → HLe H0 H → (∀ j ∈ own, H0.length ≤ j) → Net H id (ps.drop i) 0 own →
    ∃ H' own', loopM (fun vs => F_law30NetOrder.l2 (R (m + 3)) (vs.headD undef) (vs.tail.headD undef) (vs.tail.tail.headD undef) (vs.tail.tail.tail.headD undef)) [pt id, a, iv vs.length, iv i] H = some (.ext 2 [pt id], H') ∧ Net H' id [] 0 own'
  | 0, i, own, H, hd, hi, hle, ho, hN => by
    have : i = vs.length := by omega
    subst this
    rw [List.drop_eq_nil_of_le (by rw [hb.1]; omega)] at hN
    refine ⟨H, own, loop_ext ?_, hN⟩
    simp [F_law30NetOrder.l2, ↓bind_andk, andk_some, ↓jn_outk, outk_nrm, outk_ext, outk_ret, ↓cnd_b, ret_r, nilc_r, fa_r, ldOne_r, ldA_r, stOne_r, stA_r, rdk_r, rdkA_r, wrk_r, wrkA_r, alc_r, lenS_r, lenT_r, cvi_r, pick_r, not_r, mx_r, mn_r, ixa_r, ixaA_r, bld_r, add_r, sub_r, mul_r, quo_r, rem_r, eql_r, neq_r, lss_r, leq_r, gtr_r, geq_r, eqb_r, neb_r, eqp_r, nep_r, ↓gv_r, gvn_r, ↓g_r, gn_r]
  | d + 1, i, own, H, hd, hi, hle, ho, hN => by
    have hiv : i < vs.length := by omega
    have hip : i < ps.length := by rw [hb.1]; omega
    have hlt : (i : Int) < vs.length := by omega
    have hw : IntKind.i64.wrap ((i : Int) + 1) = ((i + 1 : Nat) : Int) := by rw [w64 (by omega) (by omega)]; simp
    have hv := List.getElem?_eq_getElem hiv
    have hp := List.getElem?_eq_getElem hip
    have hl0 : (ps.drop i).length ≠ 0 := by simp; omega
    have hp0 : (ps.drop i)[0]? = some ps[i] := by rw [List.getElem?_drop]; simp only [hp, Nat.add_zero]
    obtain ⟨v, q, H1, o1, e2, r1, q1, N1, st1, hsub⟩ := r_take (n := m) hN (i := 0) (by omega) (by simp; have := hb.1; omega) (plc_zero hl0) hp0 (by have := h100 ps[i] (List.getElem_mem hip); omega)
    obtain ⟨k1, ho1⟩ := hle.more st1 ho
    rw [show (ps.drop i).eraseIdx 0 = ps.drop (i + 1) from by rw [List.drop_eq_getElem_cons hip]; rfl] at N1
    have b1 := b2s_sl r1.rd
    have b2 := b2s_sl ((hb.2 i _ _ hv hp).mono k1)
    obtain ⟨aid, o, cs, es, g, ro, f1, f2, f3, f4⟩ := (ha.mono hle).at hv .i64
    have hr : F_law30NetOrder.l2 (R (m + 3)) (pt id) a (iv vs.length) (iv i) H = some (.nrm [pt id, a, iv vs.length, iv ((i + 1 : Nat) : Int)], H1) := by
      simp only [F_law30NetOrder.l2, ↓bind_andk, andk_some, ↓jn_outk, outk_nrm, outk_ext, outk_ret, ↓cnd_b, ret_r, nilc_r, fa_r, ldOne_r, ldA_r, stOne_r, stA_r, rdk_r, rdkA_r, wrk_r, wrkA_r, alc_r, lenS_r, lenT_r, cvi_r, pick_r, not_r, mx_r, mn_r, ixa_r, ixaA_r, bld_r, add_r, sub_r, mul_r, quo_r, rem_r, eql_r, neq_r, lss_r, leq_r, gtr_r, geq_r, eqb_r, neb_r, eqp_r, nep_r, ↓gv_r, gvn_r, ↓g_r, gn_r, Bool.not_true, Bool.not_false, Bool.false_eq_true, Bool.true_eq_false, reduceIte, List.tail_cons, List.headD_cons, decide_true, decide_false, cond_true, cond_false, Nat.beq_refl, hlt, f1, f2, f3, Option.map_some, e2, extr_p0, extr_p1, b1, b2, nes_r, BEq.rfl, hw]
    obtain ⟨H2, own', e3, N3⟩ := order_take (m := m) ha hb hn h100 d (i + 1) (by omega) (by omega) k1 ho1 N1
    exact ⟨H2, own', (loop_next hr).trans e3, N3⟩

theorem law_NetOrder : ∀ (xs : Ins [.slc (.slc (.int .u8))]) (H : Heap) (vs : List Value), InsWf [.slc (.slc (.int .u8))] xs → InsRd [.slc (.slc (.int .u8))] xs H vs → ∃ n H', R n n_law30NetOrder vs H = some (.bool true, H') := by
  intro xs H vs hwf hrd
  obtain ⟨l, _⟩ := xs
  obtain ⟨hl, _⟩ := hwf
  obtain ⟨c1, _, rfl, hc1, h1, rfl⟩ := hrd
  obtain ⟨a, rfl⟩ : ∃ a, c1 = [a] := by
    match c1, hc1 with
    | [a], _ => exact ⟨a, rfl⟩
  obtain ⟨vs, ha, hvs⟩ := rd_row rfl hl h1
  obtain ⟨ps, hp1, hp2⟩ := choose_list (Q := fun v p => Sl H v (u8s p)) fun v hv => by
    obtain ⟨y, hy, hr⟩ := hvs v hv
    exact rd_bytes hy hr
  have hb : Bs H vs ps := ⟨hp1, hp2⟩
  have ea := fun H' => ha.len (H' := H')
  refine ⟨5, ?_⟩
  obtain ⟨H1, e1, k1⟩ := r_netLives 0 H
  show ∃ H', R 5 n_law30NetOrder [a] H = _
  rw [R, run_law30NetOrder rfl]
  by_cases hn : vs.length ≤ 128
  · have hng : ¬ ((vs.length : Int) > 128) := by omega
    have e2 := r_netNew 3 H1
    have N2 := net_new H1
    have k2 := k1.trans (HLe.app H1 [.cells [.slice none 0 0, iv 0] 1 false false])
    have hlen := k1.len
    generalize H1 ++ [AObj.cells [.slice none 0 0, iv 0] 1 false false] = H2 at *
    obtain ⟨H3, h3⟩ := order_put (m := 2) ha hb hn vs.length 0 (by omega) (by omega) k2 (own := [H1.length]) (by simp; omega) (by simpa using N2)
    rcases h3 with e3 | ⟨e3, k3, ⟨own3, ho3, N3⟩, h100⟩
    · refine ⟨H3, ?_⟩
      rw [show ((0 : Nat) : Int) = 0 from rfl] at e3
      simp only [F_law30NetOrder, ↓bind_andk, andk_some, ↓jn_outk, outk_nrm, outk_ext, outk_ret, ↓cnd_b, ret_r, nilc_r, fa_r, ldOne_r, ldA_r, stOne_r, stA_r, rdk_r, rdkA_r, wrk_r, wrkA_r, alc_r, lenS_r, lenT_r, cvi_r, pick_r, not_r, mx_r, mn_r, ixa_r, ixaA_r, bld_r, add_r, sub_r, mul_r, quo_r, rem_r, eql_r, neq_r, lss_r, leq_r, gtr_r, geq_r, eqb_r, neb_r, eqp_r, nep_r, ↓gv_r, gvn_r, ↓g_r, gn_r, Bool.not_true, Bool.not_false, Bool.false_eq_true, Bool.true_eq_false, reduceIte, List.tail_cons, List.headD_cons, decide_true, decide_false, cond_true, cond_false, Nat.beq_refl, e1, ea, hng, e2, e3]
    · obtain ⟨H4, own4, e4, N4⟩ := order_take (m := 1) ha hb hn (by simpa using h100) vs.length 0 (by omega) (by omega) k3 ho3 (by simpa using N3)
      have e5 := r_takeNone (n := 1) N4 (i := 0) (by omega)
      have e6 := r_netLen (n := 3) N4
      have e7 := r_netLost (n := 3) N4
      refine ⟨H4, ?_⟩
      rw [show ((0 : Nat) : Int) = 0 from rfl] at e3 e4
      simp only [F_law30NetOrder, ↓bind_andk, andk_some, ↓jn_outk, outk_nrm, outk_ext, outk_ret, ↓cnd_b, ret_r, nilc_r, fa_r, ldOne_r, ldA_r, stOne_r, stA_r, rdk_r, rdkA_r, wrk_r, wrkA_r, alc_r, lenS_r, lenT_r, cvi_r, pick_r, not_r, mx_r, mn_r, ixa_r, ixaA_r, bld_r, add_r, sub_r, mul_r, quo_r, rem_r, eql_r, neq_r, lss_r, leq_r, gtr_r, geq_r, eqb_r, neb_r, eqp_r, nep_r, ↓gv_r, gvn_r, ↓g_r, gn_r, Bool.not_true, Bool.not_false, Bool.false_eq_true, Bool.true_eq_false, reduceIte, List.tail_cons, List.headD_cons, decide_true, decide_false, cond_true, cond_false, Nat.beq_refl, e1, ea, hng, e2, e3, e4, e5, extr_p0, extr_p1, e6, e7, List.length_nil]
      rfl
  · have hng : ((vs.length : Int) > 128) := by omega
    obtain ⟨H2, e2, _⟩ := r_netLives 0 H1
    refine ⟨H2, ?_⟩
    simp only [F_law30NetOrder, ↓bind_andk, andk_some, ↓jn_outk, outk_nrm, outk_ext, outk_ret, ↓cnd_b, ret_r, nilc_r, fa_r, ldOne_r, ldA_r, stOne_r, stA_r, rdk_r, rdkA_r, wrk_r, wrkA_r, alc_r, lenS_r, lenT_r, cvi_r, pick_r, not_r, mx_r, mn_r, ixa_r, ixaA_r, bld_r, add_r, sub_r, mul_r, quo_r, rem_r, eql_r, neq_r, lss_r, leq_r, gtr_r, geq_r, eqb_r, neb_r, eqp_r, nep_r, ↓gv_r, gvn_r, ↓g_r, gn_r, Bool.not_true, Bool.not_false, Bool.false_eq_true, Bool.true_eq_false, reduceIte, List.tail_cons, List.headD_cons, decide_true, decide_false, cond_true, cond_false, Nat.beq_refl, e1, ea, hng, e2]

end Go.Proofs.Ytkjoaediojdodaa.A
