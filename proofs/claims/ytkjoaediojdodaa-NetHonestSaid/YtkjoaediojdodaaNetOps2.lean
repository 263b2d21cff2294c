/- The net: what is doubled, cleared, copied. -/
import Derived.Test.YtkjoaediojdodaaNetSpoil
namespace Go.Proofs.Ytkjoaediojdodaa.A
set_option linter.unusedVariables false
set_option linter.unusedSimpArgs false
open Go.Proofs Go.Proofs.Ytkjoaediojdodaa

theorem fa_z {id off : Nat} {H : Heap} : fa off (pt id) H = some (pa id off, H) := by simp [fa]
theorem ld1_at {H : Heap} {id o : Nat} {cs : List Value} {es : Nat} {g ro : Bool} {v : Value} (h : H[id]? = some (.cells cs es g ro)) (hv : cs[o]? = some v) : ld1 (pa id o) H = some (v, H) := by
  rw [ldOne_r, h, rdk_r, hv]; rfl
theorem st1_at {H : Heap} {id o : Nat} {cs : List Value} {es : Nat} {g : Bool} {v : Value} (h : H[id]? = some (.cells cs es g false)) (ho : o < cs.length) (hv : oneCell v = true) :
    st1 (pa id o) v H = some (undef, H.set id (.cells (cs.set o v) es g false)) := by
  rw [stOne_r, h, wrk_r, if_pos ⟨ho, hv⟩]
theorem alc_all {H : Heap} {es : Nat} {vs : List Value} (h : vs.all oneCell = true) : alc es (.agg vs.toArray) H = some (pt H.length, H ++ [.cells vs es false false]) := by
  rw [alc_r]
  simp only [Value.cells, h, if_true]
theorem ld_all {H : Heap} {id n : Nat} {cs : List Value} {es : Nat} {g ro : Bool} (h : H[id]? = some (.cells cs es g ro)) (hn : cs.length = n) : ldA n (pt id) H = some (.agg cs.toArray, H) := by
  rw [ldA_r, h, rdkA_r, if_pos (by omega), List.drop_zero, List.take_of_length_le (by omega)]
theorem st_all {H : Heap} {id n : Nat} {cs vs : List Value} {es : Nat} {g : Bool} (h : H[id]? = some (.cells cs es g false)) (hn : cs.length = n) (hv : vs.length = n) (h1 : vs.all oneCell = true) :
    stA n (pt id) (.agg vs.toArray) H = some (undef, H.set id (.cells vs es g false)) := by
  rw [stA_r, h, wrkA_r, if_pos ⟨by omega, by simpa using hv, by simpa using h1⟩]
  have : splice cs vs.toArray.toList 0 = vs := by unfold splice; simp [List.drop_eq_nil_of_le (show cs.length ≤ vs.length by omega)]
  rw [this]

section
variable {H H' : Heap} {id n : Nat} {ps : List (List UInt8)} {lost : Int} {own : List Nat}

theorem r_clear (h : Net H id ps lost own) (hl : ps.length ≤ 1000) (hlb : 0 ≤ lost ∧ lost < 1000000000) :
    ∃ H' own', R (n + 1) n_netNetClear [pt id] H = some (.tuple #[], H') ∧ Net H' id [] (lost + ps.length) own' ∧ Step own H own' H' := by
  obtain ⟨sl, vs, os, qs, h1, h2, h3, rfl, h5⟩ := h
  have e0 := fun H' => h2.rd.len (H' := H')
  rw [h3.len.1] at e0
  have hw : IntKind.i64.wrap (lost + (ps.length : Int)) = lost + ps.length := w64 (by omega) (by omega)
  have h1' : (H.set id (.cells [sl, iv (lost + ps.length)] 1 false false))[id]? = some (.cells [sl, iv (lost + ps.length)] 1 false false) := set_get h1
  refine ⟨(H.set id (.cells [sl, iv (lost + ps.length)] 1 false false)).set id (.cells [.slice none 0 0, iv (lost + ps.length)] 1 false false), [id], ?_, ⟨.slice none 0 0, [], [], [], set_get h1', RowS.nil, trivial, rfl, by simp⟩, ⟨by simp, fun j hj hn => ?_, fun j hj => .inl (by simp at hj; simp [hj])⟩⟩
  · rw [R, run_netNetClear rfl]
    unfold F_netNetClear
    have s1 : st1 (pa id 1) (iv (lost + ps.length)) H = some (undef, H.set id (.cells [sl, iv (lost + ps.length)] 1 false false)) := st1_at h1 (by simp) rfl
    have s2 : st1 (pa id 0) (.slice none 0 0) (H.set id (.cells [sl, iv (lost + ps.length)] 1 false false)) = some (undef, (H.set id (.cells [sl, iv (lost + ps.length)] 1 false false)).set id (.cells [.slice none 0 0, iv (lost + ps.length)] 1 false false)) := st1_at h1' (by simp) rfl
    rw [bind_eq nilc_r, bind_eq fa_z, bind_eq (ld1_at h1 rfl), bind_eq nilc_r, bind_eq fa_z, bind_eq (ld1_at h1 rfl), bind_eq (e0 H), bind_eq add_r, hw, bind_eq nilc_r, bind_eq fa_z, bind_eq s1]
    rw [bind_eq nilc_r, bind_eq fa_z, bind_eq s2]
    rfl
  · simp only [List.mem_cons, List.mem_append, not_or] at hn
    rw [List.getElem?_set_ne (Ne.symm hn.1), List.getElem?_set_ne (Ne.symm hn.1)]

/-- What doubling makes. -/
def dblP (ps : List (List UInt8)) (k : Nat) : List (List UInt8) := ps ++ [ps.getD k []]

theorem r_doubleNone (h : Net H id [] lost own) {i : Int} (hi : 0 ≤ i ∧ i ≤ 18446744073709551615) : R (n + 3) n_netNetDouble [pt id, .int .u64 i] H = some (.bool false, H) := by
  have e := r_lookNone (n := n) h hi
  rw [R, run_netNetDouble rfl]
  simp only [F_netNetDouble, ↓bind_andk, andk_some, ↓jn_outk, outk_nrm, outk_ext, outk_ret, ↓cnd_b, ret_r, nilc_r, fa_r, ldOne_r, ldA_r, stOne_r, stA_r, rdk_r, rdkA_r, wrk_r, wrkA_r, alc_r, lenS_r, lenT_r, cvi_r, pick_r, not_r, mx_r, mn_r, ixa_r, ixaA_r, bld_r, add_r, sub_r, mul_r, quo_r, rem_r, eql_r, neq_r, lss_r, leq_r, gtr_r, geq_r, eqb_r, neb_r, eqp_r, nep_r, ↓gv_r, gvn_r, ↓g_r, gn_r, Bool.not_true, Bool.not_false, Bool.false_eq_true, Bool.true_eq_false, reduceIte, List.tail_cons, List.headD_cons, decide_true, decide_false, cond_true, cond_false, Nat.beq_refl, e, extr_p0, extr_p1, List.replicate]

theorem r_double (h : Net H id ps lost own) {i : Int} (hi : 0 ≤ i ∧ i ≤ 18446744073709551615) (hl : ps.length ≤ 128) {k : Nat} {p : List UInt8} (hk : plc ps i = k) (hp : ps[k]? = some p) (hb : p.length ≤ 100000) :
    ∃ H' own', R (n + 3) n_netNetDouble [pt id, .int .u64 i] H = some (.bool (decide (ps.length < 128)), H') ∧ Net H' id (if ps.length < 128 then ps ++ [p] else ps) lost own' ∧ Step own H own' H' := by
  obtain ⟨v, q, H1, e1, r1, k1, q1⟩ := r_look (n := n) h hi (by omega) hk hp hb
  have N1 := h.step k1.step (by simp)
  have st1 : Step own H own H1 := k1.step.more (by simp) (fun j hj => .inl hj)
  have N1' := N1
  obtain ⟨sl, vs, os, qs, h1, h2, h3, h4, h5⟩ := N1'
  have e0 := fun H' => h2.rd.len (H' := H')
  rw [h3.len.1] at e0
  by_cases hlt : ps.length < 128
  · obtain ⟨H2, own2, e2, N2, st2⟩ := r_put (n := n) N1 hlt r1.rd hb
    have hlt' : (ps.length : Int) < 128 := by omega
    refine ⟨H2, own2, ?_, by rw [if_pos hlt]; exact N2, st1.trans st2⟩
    rw [R, run_netNetDouble rfl]
    simp only [F_netNetDouble, ↓bind_andk, andk_some, ↓jn_outk, outk_nrm, outk_ext, outk_ret, ↓cnd_b, ret_r, nilc_r, fa_r, ldOne_r, ldA_r, stOne_r, stA_r, rdk_r, rdkA_r, wrk_r, wrkA_r, alc_r, lenS_r, lenT_r, cvi_r, pick_r, not_r, mx_r, mn_r, ixa_r, ixaA_r, bld_r, add_r, sub_r, mul_r, quo_r, rem_r, eql_r, neq_r, lss_r, leq_r, gtr_r, geq_r, eqb_r, neb_r, eqp_r, nep_r, ↓gv_r, gvn_r, ↓g_r, gn_r, Bool.not_true, Bool.not_false, Bool.false_eq_true, Bool.true_eq_false, reduceIte, List.tail_cons, List.headD_cons, decide_true, decide_false, cond_true, cond_false, Nat.beq_refl, e1, extr_p0, extr_p1, h1, List.getElem?_cons_zero, Option.map_some, Nat.zero_add, e0, hlt', e2, hlt]
  · have hlt' : ¬ (ps.length : Int) < 128 := by omega
    refine ⟨H1, own, ?_, by rw [if_neg hlt]; exact N1, st1⟩
    rw [R, run_netNetDouble rfl]
    simp only [F_netNetDouble, ↓bind_andk, andk_some, ↓jn_outk, outk_nrm, outk_ext, outk_ret, ↓cnd_b, ret_r, nilc_r, fa_r, ldOne_r, ldA_r, stOne_r, stA_r, rdk_r, rdkA_r, wrk_r, wrkA_r, alc_r, lenS_r, lenT_r, cvi_r, pick_r, not_r, mx_r, mn_r, ixa_r, ixaA_r, bld_r, add_r, sub_r, mul_r, quo_r, rem_r, eql_r, neq_r, lss_r, leq_r, gtr_r, geq_r, eqb_r, neb_r, eqp_r, nep_r, ↓gv_r, gvn_r, ↓g_r, gn_r, Bool.not_true, Bool.not_false, Bool.false_eq_true, Bool.true_eq_false, reduceIte, List.tail_cons, List.headD_cons, decide_true, decide_false, cond_true, cond_false, Nat.beq_refl, e1, extr_p0, extr_p1, h1, List.getElem?_cons_zero, Option.map_some, Nat.zero_add, e0, hlt', hlt, List.replicate]

theorem copy_loop {id2 : Nat} {sl : Value} {vs : List Value} {os : List Nat} {qs : List (List Nat)} (hl : ps.length ≤ 128) (hb : ∀ p ∈ ps, p.length ≤ 100000) {H0 : Heap} (h2 : RowS H0 sl vs os) (h3 : Pks H0 vs ps qs) :
    ∀ (d i : Nat) {own2 : List Nat} {H : Heap}, ps.length - i = d → i ≤ ps.length → HLe H0 H → (∀ j ∈ own2, H0.length ≤ j) → Net H id2 (ps.take i) lost own2 →
    ∃ H' own2', loopM (fun vs => F_netNetCopy.l1 (R (n + 1)) (vs.headD undef) (vs.tail.headD undef) (vs.tail.tail.headD undef) (vs.tail.tail.tail.headD undef)) [pt id2, sl, iv ps.length, iv i] H = some (.ext 0 [pt id2], H') ∧
      HLe H0 H' ∧ (∀ j ∈ own2', H0.length ≤ j) ∧ Net H' id2 ps lost own2'
  | 0, i, own2, H, hd, hi, hle, ho, hN => by
    have : i = ps.length := by omega
    subst this
    rw [List.take_of_length_le (Nat.le_refl _)] at hN
    refine ⟨H, own2, loop_ext ?_, hle, ho, hN⟩
    simp [F_netNetCopy.l1, ↓bind_andk, andk_some, ↓jn_outk, outk_nrm, outk_ext, outk_ret, ↓cnd_b, ret_r, nilc_r, fa_r, ldOne_r, ldA_r, stOne_r, stA_r, rdk_r, rdkA_r, wrk_r, wrkA_r, alc_r, lenS_r, lenT_r, cvi_r, pick_r, not_r, mx_r, mn_r, ixa_r, ixaA_r, bld_r, add_r, sub_r, mul_r, quo_r, rem_r, eql_r, neq_r, lss_r, leq_r, gtr_r, geq_r, eqb_r, neb_r, eqp_r, nep_r, ↓gv_r, gvn_r, ↓g_r, gn_r]
  | d + 1, i, own2, H, hd, hi, hle, ho, hN => by
    have hip : i < ps.length := by omega
    have hp := List.getElem?_eq_getElem hip
    obtain ⟨v0, q0, hv0, hq0, r0⟩ := h3.at hp
    obtain ⟨aid, o, cs, es, g, ro, f1, f2, f3, f4⟩ := (h2.rd.mono hle).at hv0 .i64
    have hlt : (i : Int) < ps.length := by omega
    have hw : IntKind.i64.wrap ((i : Int) + 1) = ((i + 1 : Nat) : Int) := by rw [w64 (by omega) (by omega)]; simp
    have htl : (ps.take i).length = i := by simp; omega
    obtain ⟨sl2, v, H1, sl', H3, own', h1, e0, e1, h11, e2, h12, e3, h13, hoc, hN', hst⟩ := put_steps (n := n) hN (by omega) (r0.rd.mono hle) (hb _ (List.getElem_mem hip))
    obtain ⟨k1, ho1⟩ := hle.more hst ho
    rw [show ps.take i ++ [ps[i]] = ps.take (i + 1) from by rw [List.take_add_one, hp]; rfl] at hN'
    obtain ⟨H2, own2', e4, r4⟩ := copy_loop hl hb h2 h3 d (i + 1) (by omega) (by omega) k1 ho1 hN'
    refine ⟨H2, own2', (loop_next ?_).trans e4, r4⟩
    have w2 : st1 (pa id2 (0 + 0)) sl' H3 = some (undef, H3.set id2 (.cells [sl', iv lost] 1 false false)) := st1_at h13 (by simp) hoc
    rw [stOne_r] at w2
    simp only [F_netNetCopy.l1, ↓bind_andk, andk_some, ↓jn_outk, outk_nrm, outk_ext, outk_ret, ↓cnd_b, ret_r, nilc_r, fa_r, ldOne_r, ldA_r, stOne_r, stA_r, rdk_r, rdkA_r, wrk_r, wrkA_r, alc_r, lenS_r, lenT_r, cvi_r, pick_r, not_r, mx_r, mn_r, ixa_r, ixaA_r, bld_r, add_r, sub_r, mul_r, quo_r, rem_r, eql_r, neq_r, lss_r, leq_r, gtr_r, geq_r, eqb_r, neb_r, eqp_r, nep_r, ↓gv_r, gvn_r, ↓g_r, gn_r, Bool.not_true, Bool.not_false, Bool.false_eq_true, Bool.true_eq_false, reduceIte, List.tail_cons, List.headD_cons, decide_true, decide_false, cond_true, cond_false, Nat.beq_refl, hlt, f1, f2, f3, Option.map_some, h1, List.getElem?_cons_zero, Nat.zero_add, e1, h11, same_self, e2, h12, e3]
    rw [w2]
    simp only [andk_some, ↓bind_andk, andk_some, ↓jn_outk, outk_nrm, outk_ext, outk_ret, ↓cnd_b, ret_r, nilc_r, fa_r, ldOne_r, ldA_r, stOne_r, stA_r, rdk_r, rdkA_r, wrk_r, wrkA_r, alc_r, lenS_r, lenT_r, cvi_r, pick_r, not_r, mx_r, mn_r, ixa_r, ixaA_r, bld_r, add_r, sub_r, mul_r, quo_r, rem_r, eql_r, neq_r, lss_r, leq_r, gtr_r, geq_r, eqb_r, neb_r, eqp_r, nep_r, ↓gv_r, gvn_r, ↓g_r, gn_r, Bool.not_true, Bool.not_false, Bool.false_eq_true, Bool.true_eq_false, reduceIte, List.tail_cons, List.headD_cons, decide_true, decide_false, cond_true, cond_false, Nat.beq_refl, hw]

theorem r_copy (h : Net H id ps lost own) (hl : ps.length ≤ 128) (hb : ∀ p ∈ ps, p.length ≤ 100000) :
    ∃ id2 H' own2, R (n + 2) n_netNetCopy [pt id] H = some (pt id2, H') ∧ HLe H H' ∧ (∀ j ∈ own2, H.length ≤ j) ∧ Net H' id2 ps lost own2 := by
  obtain ⟨sl, vs, os, qs, h1, h2, h3, rfl, h5⟩ := h
  have e0 := fun H' => h2.rd.len (H' := H')
  rw [h3.len.1] at e0
  have N0 : Net (H ++ [.cells [.slice none 0 0, iv lost] 1 false false]) H.length (ps.take 0) lost [H.length] :=
    ⟨.slice none 0 0, [], [], [], app_new, RowS.nil, trivial, rfl, by simp⟩
  have k0 := HLe.app H [.cells [.slice none 0 0, iv lost] 1 false false]
  have h1' : (H ++ [AObj.cells [.slice none 0 0, iv lost] 1 false false])[id]? = some (.cells [sl, iv lost] 1 false false) := app_get h1
  have ea : alc 1 (.agg [.slice none 0 0, iv lost].toArray) H = some (pt H.length, H ++ [.cells [.slice none 0 0, iv lost] 1 false false]) := alc_all rfl
  obtain ⟨H2, own2, e1, k2, ho2, N2⟩ := copy_loop (n := n) (id2 := H.length) hl hb h2 h3 ps.length 0 (by omega) (by omega) k0 (by simp) N0
  refine ⟨H.length, H2, own2, ?_, k2, ho2, N2⟩
  rw [show ((0 : Nat) : Int) = 0 from rfl] at e1
  rw [R, run_netNetCopy rfl]
  unfold F_netNetCopy
  have eb : bld (.agg #[.slice none 0 0, .int .i64 0]) [(1, 1, iv lost)] H = some (.agg [.slice none 0 0, iv lost].toArray, H) := by
    simp [bld_r, bldC, Value.cells, isTup, splice]
  rw [bind_eq nilc_r, bind_eq fa_z, bind_eq (ld1_at h1 rfl), bind_eq eb, bind_eq ea, bind_eq nilc_r, bind_eq fa_z, bind_eq (ld1_at h1' rfl), bind_eq (e0 _), jn_ext e1]
  rfl
end

end Go.Proofs.Ytkjoaediojdodaa.A
