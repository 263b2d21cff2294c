/- The tally: all counts, their sum. -/
import Derived.Test.YtkjoaediojdodabTally
namespace Go.Proofs.Ytkjoaediojdodab.A
set_option linter.unusedVariables false
set_option linter.unusedSimpArgs false
open Go.Proofs Go.Proofs.Ytkjoaediojdodab

theorem w64_eq (n : Int) : IntKind.i64.wrap n = if (n % 18446744073709551616 : Int) ≥ 9223372036854775808 then n % 18446744073709551616 - 18446744073709551616 else n % 18446744073709551616 := by
  simp [IntKind.wrap, IntKind.bits, IntKind.signed]

theorem w64_in (n : Int) : -9223372036854775808 ≤ IntKind.i64.wrap n ∧ IntKind.i64.wrap n ≤ 9223372036854775807 := by
  rw [w64_eq]; split <;> omega

theorem But.trans {id : Nat} {H H' H'' : Heap} (h : But id H H') (h' : But id H' H'') : But id H H'' := fun j hj => (h' j hj).trans (h j hj)

theorem all_loop {m id q : Nat} {r : Value} {ns : List Int} (hl : ns.length = 16) (hq : q ≠ id) : ∀ (d i : Nat) {os : List Int} {H : Heap}, 16 - i = d → i ≤ 16 → os.length = 16 → (∀ j, j < i → os[j]? = ns[j]?) →
    H[id]? = some (tly ns) → H[q]? = some (tly os) →
    ∃ H', loopM (fun vs => F_tallyTallyAll.l1 (R (m + 2)) (vs.headD undef) (vs.tail.headD undef) (vs.tail.tail.headD undef) (vs.tail.tail.tail.headD undef)) [pt id, r, pt q, iv i] H = some (.ext 0 [r, pt q], H') ∧ H'[q]? = some (tly ns) ∧ But q H H'
  | 0, i, os, H, hd, hi, ho, heq, h1, h2 => by
    have : i = 16 := by omega
    subst this
    have : os = ns := by
      apply List.ext_getElem?
      intro j
      rcases Nat.lt_or_ge j 16 with hj | hj
      · exact heq j hj
      · rw [List.getElem?_eq_none (by omega), List.getElem?_eq_none (by omega)]
    subst this
    refine ⟨H, loop_ext ?_, h2, fun _ _ => rfl⟩
    simp [F_tallyTallyAll.l1, ↓bind_andk, andk_some, ↓jn_outk, outk_nrm, outk_ext, outk_ret, ↓cnd_b, ret_r, nilc_r, fa_r, ldOne_r, ldA_r, stOne_r, stA_r, rdk_r, rdkA_r, wrk_r, wrkA_r, alc_r, lenS_r, lenT_r, cvi_r, pick_r, not_r, mx_r, mn_r, ixa_r, ixaA_r, bld_r, add_r, sub_r, mul_r, quo_r, rem_r, eql_r, neq_r, lss_r, leq_r, gtr_r, geq_r, eqb_r, neb_r, eqp_r, nep_r, ↓gv_r, gvn_r, ↓g_r, gn_r]
  | d + 1, i, os, H, hd, hi, ho, heq, h1, h2 => by
    have hi' : i < ns.length := by omega
    have e := r_load (n := m) h1 (o := i) (x := ns[i]) (by simp [hi'])
    have hw : IntKind.i64.wrap ((i : Int) + 1) = ((i + 1 : Nat) : Int) := by rw [w64 (by omega) (by omega)]; simp
    have hb : (i : Int) < 16 := by omega
    have hr : F_tallyTallyAll.l1 (R (m + 2)) (pt id) r (pt q) (iv i) H = some (.nrm [pt id, r, pt q, iv ((i + 1 : Nat) : Int)], H.set q (tly (os.set i ns[i]))) := by
      have h2' : H[q]? = some (.cells (os.map iv) 1 false false) := h2
      have hoi : i < os.length := by omega
      simp [F_tallyTallyAll.l1, ↓bind_andk, andk_some, ↓jn_outk, outk_nrm, outk_ext, outk_ret, ↓cnd_b, ret_r, nilc_r, fa_r, ldOne_r, ldA_r, stOne_r, stA_r, rdk_r, rdkA_r, wrk_r, wrkA_r, alc_r, lenS_r, lenT_r, cvi_r, pick_r, not_r, mx_r, mn_r, ixa_r, ixaA_r, bld_r, add_r, sub_r, mul_r, quo_r, rem_r, eql_r, neq_r, lss_r, leq_r, gtr_r, geq_r, eqb_r, neb_r, eqp_r, nep_r, ↓gv_r, gvn_r, ↓g_r, gn_r, hb, e, h2', hoi, oneCell, hw, tly]
    have g1 : (H.set q (tly (os.set i ns[i])))[id]? = some (tly ns) := by rw [set_get_ne hq]; exact h1
    obtain ⟨H2, e2, g2, b2⟩ := all_loop (m := m) (r := r) hl hq d (i + 1) (os := os.set i ns[i]) (H := H.set q (tly (os.set i ns[i]))) (by omega) (by omega) (by simpa using ho) (fun j hj => by
      by_cases hji : i = j
      · subst hji
        rw [List.getElem?_set_self (by omega), List.getElem?_eq_getElem hi']
      · rw [List.getElem?_set_ne hji]; exact heq j (by omega)) g1 (set_get h2)
    exact ⟨H2, (loop_next hr).trans e2, g2, But.set.trans b2⟩

theorem r_all {n id : Nat} {ns : List Int} {H : Heap} (h : H[id]? = some (tly ns)) (hl : ns.length = 16) : ∃ H', R (n + 3) n_tallyTallyAll [pt id] H = some (.agg (ns.map iv).toArray, H') ∧ HLe H H' := by
  have hid := get_lt h
  have hz : tly zeros = .cells [iv 0, iv 0, iv 0, iv 0, iv 0, iv 0, iv 0, iv 0, iv 0, iv 0, iv 0, iv 0, iv 0, iv 0, iv 0, iv 0] 1 false false := rfl
  obtain ⟨H2, e, g, b⟩ := all_loop (m := n) (id := id) (q := H.length + 1) (r := pt H.length) hl (by omega) 16 0 (os := zeros) (H := H ++ [tly zeros] ++ [tly zeros]) (by omega) (by omega) rfl (fun j hj => by omega)
    (app_get (app_get h)) (by
      have : H.length + 1 = (H ++ [tly zeros]).length := by simp
      rw [this]; exact app_new)
  have g0 : H2[H.length]? = some (tly zeros) := by rw [b _ (by omega)]; exact app_get app_new
  refine ⟨H2.set H.length (tly ns), ?_, fun i o hi => ?_⟩
  · rw [R, run_tallyTallyAll rfl]
    have g' : H2[H.length + 1]? = some (.cells (ns.map iv) 1 false false) := g
    have g0' : H2[H.length]? = some (.cells (zeros.map iv) 1 false false) := g0
    have hzl : zeros.length = 16 := rfl
    have e' := e
    rw [hz] at e'
    have hsp : splice (zeros.map iv) (ns.map iv) 0 = ns.map iv := by
      unfold splice
      rw [List.drop_eq_nil_of_le (by simp [zeros, hl])]; simp
    have hall : (ns.map iv).all oneCell = true := by simp [oneCell]
    have hlen : (H ++ [tly zeros]).length = H.length + 1 := by simp
    have s1 : ∀ z, alc 1 (.agg #[.int .i64 0, .int .i64 0, .int .i64 0, .int .i64 0, .int .i64 0, .int .i64 0, .int .i64 0, .int .i64 0, .int .i64 0, .int .i64 0, .int .i64 0, .int .i64 0, .int .i64 0, .int .i64 0, .int .i64 0, .int .i64 0]) z = some (pt z.length, z ++ [tly zeros]) := fun z => rfl
    have s2 : ldA 16 (pt (H.length + 1)) H2 = some (.agg (ns.map iv).toArray, H2) := by
      rw [ldA_r, g', rdkA_r, if_pos (by simp [hl])]
      simp [List.take_of_length_le, hl]
    have s3 : stA 16 (pt H.length) (.agg (ns.map iv).toArray) H2 = some (undef, H2.set H.length (tly ns)) := by
      rw [stA_r, g0', wrkA_r, if_pos ⟨by simp [zeros], by simp [hl], by simpa using hall⟩, show (ns.map iv).toArray.toList = ns.map iv from by simp, hsp]
      rfl
    have s4 : ldA 16 (pt H.length) (H2.set H.length (tly ns)) = some (.agg (ns.map iv).toArray, H2.set H.length (tly ns)) := by
      rw [ldA_r, set_get g0]
      unfold tly
      rw [rdkA_r, if_pos (by simp [hl])]
      simp [List.take_of_length_le, hl]
    rw [show ((0 : Nat) : Int) = 0 from rfl] at e
    unfold F_tallyTallyAll
    rw [bind_eq (s1 H), bind_eq (s1 _), hlen, jn_ext e]
    simp only [Nat.beq_refl, cond_true, List.headD_cons, List.tail_cons]
    rw [bind_eq s2, bind_eq s3, bind_eq s4]
    rfl
  · have := get_lt hi
    rw [List.getElem?_set_ne (by omega), b i (by omega)]
    exact app_get (app_get hi)

/-- A sum, as int64 adds. -/
def wsum (a : Int) (ns : List Int) : Int := ns.foldl (fun s x => IntKind.i64.wrap (s + x)) a

theorem sum_loop {n : Nat} {ns : List Int} {H : Heap} (hl : ns.length = 16) : ∀ (d i : Nat) {a : Int}, 16 - i = d → i ≤ 16 →
    loopM (fun vs => F_tallyTallySum.l1 (R n) (vs.headD undef) (vs.tail.headD undef) (vs.tail.tail.headD undef)) [iv a, .agg (ns.map iv).toArray, iv i] H = some (.ext 0 [iv (wsum a (ns.drop i))], H)
  | 0, i, a, hd, hi => by
    have : i = 16 := by omega
    subst this
    refine loop_ext ?_
    have : ns.drop 16 = [] := List.drop_eq_nil_of_le (by omega)
    simp [F_tallyTallySum.l1, ↓bind_andk, andk_some, ↓jn_outk, outk_nrm, outk_ext, outk_ret, ↓cnd_b, ret_r, nilc_r, fa_r, ldOne_r, ldA_r, stOne_r, stA_r, rdk_r, rdkA_r, wrk_r, wrkA_r, alc_r, lenS_r, lenT_r, cvi_r, pick_r, not_r, mx_r, mn_r, ixa_r, ixaA_r, bld_r, add_r, sub_r, mul_r, quo_r, rem_r, eql_r, neq_r, lss_r, leq_r, gtr_r, geq_r, eqb_r, neb_r, eqp_r, nep_r, ↓gv_r, gvn_r, ↓g_r, gn_r, this, wsum]
  | d + 1, i, a, hd, hi => by
    have hi' : i < ns.length := by omega
    have hb : (i : Int) < 16 := by omega
    have hw : IntKind.i64.wrap ((i : Int) + 1) = ((i + 1 : Nat) : Int) := by rw [w64 (by omega) (by omega)]; simp
    have hr : F_tallyTallySum.l1 (R n) (iv a) (.agg (ns.map iv).toArray) (iv i) H = some (.nrm [iv (IntKind.i64.wrap (a + ns[i])), .agg (ns.map iv).toArray, iv ((i + 1 : Nat) : Int)], H) := by
      simp [F_tallyTallySum.l1, ↓bind_andk, andk_some, ↓jn_outk, outk_nrm, outk_ext, outk_ret, ↓cnd_b, ret_r, nilc_r, fa_r, ldOne_r, ldA_r, stOne_r, stA_r, rdk_r, rdkA_r, wrk_r, wrkA_r, alc_r, lenS_r, lenT_r, cvi_r, pick_r, not_r, mx_r, mn_r, ixa_r, ixaA_r, bld_r, add_r, sub_r, mul_r, quo_r, rem_r, eql_r, neq_r, lss_r, leq_r, gtr_r, geq_r, eqb_r, neb_r, eqp_r, nep_r, ↓gv_r, gvn_r, ↓g_r, gn_r, ixv_r, hb, hi', hw]
    refine (loop_next hr).trans ?_
    rw [sum_loop hl d (i + 1) (by omega) (by omega)]
    rw [List.drop_eq_getElem_cons hi']
    rfl

theorem r_sum {n id : Nat} {ns : List Int} {H : Heap} (h : H[id]? = some (tly ns)) (hl : ns.length = 16) : ∃ H', R (n + 4) n_tallyTallySum [pt id] H = some (iv (wsum 0 ns), H') ∧ HLe H H' := by
  obtain ⟨H1, e, k⟩ := r_all (n := n) h hl
  refine ⟨H1, ?_, k⟩
  rw [R, run_tallyTallySum rfl]
  have e2 := sum_loop (n := n + 3) (H := H1) hl 16 0 (a := 0) (by omega) (by omega)
  rw [show ((0 : Nat) : Int) = 0 from rfl, List.drop_zero] at e2
  unfold F_tallyTallySum
  rw [bind_eq e, jn_ext e2]
  rfl

theorem wsum_zeros : ∀ (l : List Int) {a : Int}, (-9223372036854775808 ≤ a ∧ a ≤ 9223372036854775807) → (∀ x ∈ l, x = 0) → wsum a l = a
  | [], _, _, _ => rfl
  | x :: l, a, ha, h => by
    have hx := h x (by simp)
    subst hx
    show wsum (IntKind.i64.wrap (a + 0)) l = a
    rw [Int.add_zero, w64 ha.1 ha.2]
    exact wsum_zeros l ha fun y hy => h y (by simp [hy])

theorem wsum_one {k : Nat} {s : Int} (hk : k < 16) (hs : -9223372036854775808 ≤ s ∧ s ≤ 9223372036854775807) : wsum 0 (zeros.set k s) = s := by
  rw [List.set_eq_take_append_cons_drop, if_pos (by simpa [zeros] using hk)]
  unfold wsum
  rw [List.foldl_append, List.foldl_cons]
  have hz : ∀ x ∈ zeros, x = 0 := fun x hx => by simpa [zeros] using hx
  have h1 := wsum_zeros (zeros.take k) (a := 0) (by omega) fun x hx => hz x (List.mem_of_mem_take hx)
  unfold wsum at h1
  rw [h1, Int.zero_add, w64 hs.1 hs.2]
  exact wsum_zeros (zeros.drop (k + 1)) hs fun x hx => hz x (List.mem_of_mem_drop hx)

end Go.Proofs.Ytkjoaediojdodab.A
