/- NetPlays, on the abstract machine. -/
import Derived.Test.YtkjoaediojdodaaNetActs
namespace Go.Proofs.Ytkjoaediojdodaa.A
set_option linter.unusedVariables false
set_option linter.unusedSimpArgs false
open Go.Proofs Go.Proofs.Ytkjoaediojdodaa

theorem bump_plays {m L : Nat} {v s3 s4 s23 s24 s25 s55 s56 : Value} {q : List Nat} (hL : L ≤ 100000) : ∀ (d i : Nat) {ws : List Value} {H : Heap}, L - i = d → i ≤ L → ws.length = L → Byts ws → RowS H v ws q →
    ∃ H', loopM (fun vs => F_law30NetPlays.l3 (R m) (vs.headD undef) (vs.tail.headD undef) (vs.tail.tail.headD undef) (vs.tail.tail.tail.headD undef) (vs.tail.tail.tail.tail.headD undef) (vs.tail.tail.tail.tail.tail.headD undef) (vs.tail.tail.tail.tail.tail.tail.headD undef) (vs.tail.tail.tail.tail.tail.tail.tail.headD undef) (vs.tail.tail.tail.tail.tail.tail.tail.tail.headD undef) (vs.tail.tail.tail.tail.tail.tail.tail.tail.tail.headD undef))
      [s3, s4, v, s23, s24, s25, s55, s56, iv L, iv i] H = some (.ext 4 [s3, s4, s23, s24, s25, s55, s56], H') ∧ Step q H q H'
  | 0, i, ws, H, hd, hi, hw, hby, hr => by
    have : i = L := by omega
    subst this
    refine ⟨H, loop_ext ?_, .refl _ _⟩
    simp [F_law30NetPlays.l3, ↓bind_andk, andk_some, ↓jn_outk, outk_nrm, outk_ext, outk_ret, ↓cnd_b, ret_r, nilc_r, fa_r, ldOne_r, ldA_r, stOne_r, stA_r, rdk_r, rdkA_r, wrk_r, wrkA_r, alc_r, lenS_r, lenT_r, cvi_r, pick_r, not_r, mx_r, mn_r, ixa_r, ixaA_r, bld_r, add_r, sub_r, mul_r, quo_r, rem_r, eql_r, neq_r, lss_r, leq_r, gtr_r, geq_r, eqb_r, neb_r, eqp_r, nep_r, ↓gv_r, gvn_r, ↓g_r, gn_r]
  | d + 1, i, ws, H, hd, hi, hw, hby, hr => by
    have hlt : (i : Int) < L := by omega
    have w1 : IntKind.i64.wrap ((i : Int) + 1) = ((i + 1 : Nat) : Int) := by rw [w64 (by omega) (by omega)]; simp
    obtain ⟨n, hn⟩ := hby i (by omega)
    obtain ⟨id, o, cs, es, g, f1, f2, f3, f4, f5, f6⟩ := hr.put2 hn .i64
    have hr2 := f6 (.int .u8 (IntKind.u8.wrap (n + 1)))
    obtain ⟨H2, e2, s2⟩ := bump_plays (m := m) (s3 := s3) (s4 := s4) (s23 := s23) (s24 := s24) (s25 := s25) (s55 := s55) (s56 := s56) hL d (i + 1) (by omega) (by omega) (by simpa using hw) (hby.set _ _) hr2
    refine ⟨H2, (loop_next ?_).trans e2, Step.trans ⟨by simp, fun j hj hjn => List.getElem?_set_ne fun e => hjn (by rw [f5]; simp [e]), fun j hj => .inl hj⟩ s2⟩
    simp only [F_law30NetPlays.l3, ↓bind_andk, andk_some, ↓jn_outk, outk_nrm, outk_ext, outk_ret, ↓cnd_b, ret_r, nilc_r, fa_r, ldOne_r, ldA_r, stOne_r, stA_r, rdk_r, rdkA_r, wrk_r, wrkA_r, alc_r, lenS_r, lenT_r, cvi_r, pick_r, not_r, mx_r, mn_r, ixa_r, ixaA_r, bld_r, add_r, sub_r, mul_r, quo_r, rem_r, eql_r, neq_r, lss_r, leq_r, gtr_r, geq_r, eqb_r, neb_r, eqp_r, nep_r, ↓gv_r, gvn_r, ↓g_r, gn_r, Bool.not_true, Bool.not_false, Bool.false_eq_true, Bool.true_eq_false, reduceIte, List.tail_cons, List.headD_cons, decide_true, decide_false, cond_true, cond_false, Nat.beq_refl, hlt, f1, f2, f3, Option.map_some, f4, oneCell, and_self, w1]

/-- Each packet is looked at. -/
theorem plays_look {m id i4 : Nat} {s23 s24 s25 sl : Value} {ps : List (List UInt8)} {lost : Int} {own ro : List Nat} (hl : ps.length ≤ 128) (hq : ∀ q ∈ ps, q.length ≤ 100) : ∀ (d i : Nat) {H : Heap}, ps.length - i = d → i ≤ ps.length →
    Net H id ps lost own → RowS H sl (ps.map strv) ro → H[i4]? = some (.cells [sl, iv lost] 1 false false) →
    ∃ H', loopM (fun vs => F_law30NetPlays.l2 (R (m + 2)) (vs.headD undef) (vs.tail.headD undef) (vs.tail.tail.headD undef) (vs.tail.tail.tail.headD undef) (vs.tail.tail.tail.tail.headD undef) (vs.tail.tail.tail.tail.tail.headD undef) (vs.tail.tail.tail.tail.tail.tail.headD undef))
      [pt id, pt i4, s23, s24, s25, .int .u64 ps.length, .int .u64 i] H = some (.ext 2 [pt id, pt i4, s23, s24, s25], H') ∧ HLe H H'
  | 0, i, H, hd, hi, net, row, g4 => by
    have : i = ps.length := by omega
    subst this
    refine ⟨H, loop_ext ?_, .refl _⟩
    simp [F_law30NetPlays.l2, ↓bind_andk, andk_some, ↓jn_outk, outk_nrm, outk_ext, outk_ret, ↓cnd_b, ret_r, nilc_r, fa_r, ldOne_r, ldA_r, stOne_r, stA_r, rdk_r, rdkA_r, wrk_r, wrkA_r, alc_r, lenS_r, lenT_r, cvi_r, pick_r, not_r, mx_r, mn_r, ixa_r, ixaA_r, bld_r, add_r, sub_r, mul_r, quo_r, rem_r, eql_r, neq_r, lss_r, leq_r, gtr_r, geq_r, eqb_r, neb_r, eqp_r, nep_r, ↓gv_r, gvn_r, ↓g_r, gn_r]
  | d + 1, i, H, hd, hi, net, row, g4 => by
    have hip : i < ps.length := by omega
    have hpk := List.getElem?_eq_getElem hip
    have hpq := hq _ (List.getElem_mem hip)
    generalize ps[i] = pk at *
    have hk : plc ps (i : Int) = i := by
      unfold plc
      rw [if_neg (by omega)]
      exact Int.emod_eq_of_lt (by omega) (by omega)
    obtain ⟨v, q, H1, e1, r1, k1, q1⟩ := r_look (n := m) net (i := i) (by omega) (by omega) hk hpk (by omega)
    have b1 := b2s_sl r1.rd
    have g41 := k1 _ _ g4
    have hv : (ps.map strv)[i]? = some (strv pk) := by simp [hpk]
    obtain ⟨aid, o, cs, es, g, ro', f1, f2, f3, f4⟩ := (row.rd.mono k1).at hv .u64
    have e2 : ∀ X, lenS v X = some (iv pk.length, X) := fun X => by
      have := r1.rd.len (H' := X)
      rwa [u8s_length] at this
    obtain ⟨H2, e3, s3⟩ := bump_plays (m := m + 2) (s3 := pt id) (s4 := pt i4) (s23 := s23) (s24 := s24) (s25 := s25) (s55 := .int .u64 ps.length) (s56 := .int .u64 i) (show pk.length ≤ 100000 by omega) pk.length 0 (by omega) (by omega) (u8s_length _) (u8s_byts _) r1
    obtain ⟨k2, _⟩ := k1.more s3 q1
    have hw : IntKind.u64.wrap ((i : Int) + 1) = ((i + 1 : Nat) : Int) := by rw [wu64]; omega
    have hlt : (i : Int) < ps.length := by omega
    obtain ⟨H3, e4, k3⟩ := plays_look (m := m) (s23 := s23) (s24 := s24) (s25 := s25) hl hq d (i + 1) (by omega) (by omega) (net.step k2.step (by simp)) (row.step k2.step (by simp)) (k2 _ _ g4)
    refine ⟨H3, (loop_next ?_).trans e4, k2.trans k3⟩
    simp only [List.headD_cons, List.tail_cons]
    unfold F_law30NetPlays.l2
    have nn : uop .not (.bool true) H1 = some (.bool false, H1) := rfl
    have l4 : ld1 (pa i4 0) H1 = some (sl, H1) := ld1_at g41 rfl
    have lo : ld1 (pa aid o) H1 = some (strv pk, H1) := ld1_at f2 f3
    have ns : bop .str .neq (strv pk) (strv pk) H1 = some (.bool false, H1) := by rw [nes_r, BEq.rfl]; rfl
    rw [show ((0 : Nat) : Int) = 0 from rfl] at e3
    rw [bind_eq lss_r, decide_eq_true hlt, c_true, bind_eq e1, bind_eq extr_p0, bind_eq extr_p1, bind_eq nn, bind_eq (gv_in.trans ret_r), bind_eq (gv_in.trans b1), bind_eq (gv_in.trans fa_z), bind_eq (gv_in.trans l4), bind_eq (gv_in.trans ret_r), bind_eq (gv_in.trans (f1 _)), bind_eq (gv_in.trans lo), bind_eq (gv_in.trans ns), bind_eq pick_r, cond_false, c_false, bind_eq (e2 _), jn_ext e3]
    simp only [Nat.beq_refl, cond_true, List.tail_cons, List.headD_cons]
    rw [bind_eq add_r, hw]
    rfl

theorem plays_round2 {m id i4 n j : Nat} {s23 sl : Value} {f : Nat → NAct} {ps : List (List UInt8)} {lost : Int} {own ro : List Nat} {H0 H : Heap} (hA : Acts H0 s23 n f) (hn : n ≤ 40) (hp : ∀ x, x < n → (f x).p.length ≤ 100) (hj : j < n)
    (hle : HLe H0 H) (ho : ∀ x ∈ own, H0.length ≤ x) (hi4 : H0.length ≤ i4) (net : Net H id ps lost own) (row : RowS H sl (ps.map strv) ro) (dis : ∀ x ∈ ro, x ∉ own) (g4 : H[i4]? = some (.cells [sl, iv lost] 1 false false)) (o4 : i4 ∉ own ∧ i4 ∉ ro)
    (hl : ps.length ≤ 128) (hq : ∀ q ∈ ps, q.length ≤ 100) (hlb : 0 ≤ lost ∧ lost ≤ 200 * j) :
    ∃ H' sl' ps' lost' own' ro', F_law30NetPlays.l1 (R (m + 4)) (pt id) (pt i4) s23 (iv n) (iv j) H = some (.nrm [pt id, pt i4, s23, iv n, iv ((j + 1 : Nat) : Int)], H') ∧
      HLe H0 H' ∧ (∀ x ∈ own', H0.length ≤ x) ∧ Net H' id ps' lost' own' ∧ RowS H' sl' (ps'.map strv) ro' ∧ (∀ x ∈ ro', x ∉ own') ∧ H'[i4]? = some (.cells [sl', iv lost'] 1 false false) ∧ (i4 ∉ own' ∧ i4 ∉ ro') ∧
      ps'.length ≤ 128 ∧ (∀ q ∈ ps', q.length ≤ 100) ∧ (0 ≤ lost' ∧ lost' ≤ 200 * ((j + 1 : Nat) : Int)) := by
  have hlt : (j : Int) < n := by omega
  have hw : IntKind.i64.wrap ((j : Int) + 1) = ((j + 1 : Nat) : Int) := by rw [w64 (by omega) (by omega)]; simp
  have e0 : bop .int .lss (iv j) (iv n) H = some (.bool true, H) := by rw [lss_r, decide_eq_true hlt]
  have hok := (hA.mono hle).ok hj
  have g1 : (H ++ [AObj.cells (f j).cells 1 false false])[H.length]? = some (.cells (f j).cells 1 false false) := app_new
  have k1 := HLe.app H [.cells (f j).cells 1 false false]
  have hl1 : (H ++ [AObj.cells (f j).cells 1 false false]).length = H.length + 1 := by simp
  have hfetch := fun (k : Value → M Out) => (hA.mono hle).fetch (k := k) hj
  generalize H ++ [AObj.cells (f j).cells 1 false false] = H1 at *
  have i4l := get_lt g4
  have blt0 := (hA.ok hj).bs.lt
  obtain ⟨H2, sl2, ps2, lost2, own2, ro2, e1, dO, dR⟩ := r_do (n := m) (kd := (f j).kd) (i := (f j).i) (at_ := (f j).at_) (t := (f j).t) (p := (f j).p) (b := (f j).b) (net.step k1.step (by simp)) (row.step k1.step (by simp)) dis (hok.bs.mono k1) (fun x hx hm => by have := ho x hm; have := blt0 x hx; omega) (hp j hj) hl hq (by omega) hok.i hok.at_ hok.t
  obtain ⟨hl2, hq2, h02, hb2⟩ := dR.bounds (hp j hj) hl hq hlb.1
  have i42 : H2[i4]? = some (.cells [sl, iv lost] 1 false false) := by rw [dO.keep i4 (by omega) o4.1]; exact k1 _ _ g4
  have own2n : ∀ x ∈ own2, x ∈ own ∨ H.length ≤ x := fun x h => (dO.own x h).imp (fun h => h) fun h => by omega
  have ro2n : ∀ x ∈ ro2, x ∈ ro ∨ H.length ≤ x := fun x h => (dO.ro x h).imp (fun h => h) fun h => by omega
  have i4o : i4 ∉ own2 := fun h => by
    rcases own2n i4 h with h | h
    · exact o4.1 h
    · omega
  have i4r : i4 ∉ ro2 := fun h => by
    rcases ro2n i4 h with h | h
    · exact o4.2 h
    · omega
  have e2 : stA 2 (pt i4) (.agg #[sl2, iv lost2]) H2 = some (undef, H2.set i4 (.cells [sl2, iv lost2] 1 false false)) := st_all (vs := [sl2, iv lost2]) i42 rfl rfl (all2 dO.row.oneCell.1)
  have g43 : (H2.set i4 (.cells [sl2, iv lost2] 1 false false))[i4]? = some (.cells [sl2, iv lost2] 1 false false) := set_get i42
  have q3 : ∀ x, x ≠ i4 → (H2.set i4 (.cells [sl2, iv lost2] 1 false false))[x]? = H2[x]? := fun x hx => set_get_ne (Ne.symm hx)
  generalize H2.set i4 (.cells [sl2, iv lost2] 1 false false) = H3 at *
  have net3 : Net H3 id ps2 lost2 own2 := dO.net.keep fun x hx => q3 x (fun e => i4o (e ▸ hx))
  have row3 : RowS H3 sl2 (ps2.map strv) ro2 := dO.row.keep fun x hx => q3 x (fun e => i4r (e ▸ hx))
  have e3 := r_netLen (n := m + 3) net3
  have e4 := r_netLost (n := m + 3) net3
  have e5 : ∀ X, lenS sl2 X = some (iv ps2.length, X) := fun X => by
    have := row3.rd.len (H' := X)
    rwa [List.length_map] at this
  have hwl : IntKind.u64.wrap (ps2.length : Int) = ps2.length := by rw [wu64]; omega
  obtain ⟨H4, e6, k4⟩ := plays_look (m := m + 2) (s23 := s23) (s24 := iv n) (s25 := iv j) hl2 hq2 ps2.length 0 (by omega) (by omega) net3 row3 g43
  have k03 : HLe H0 H3 := fun x o hx => by
    have hx0 := get_lt hx
    have hx1 := hle _ _ hx
    rw [q3 x (by omega), dO.keep x (by have := get_lt hx1; omega) (fun hm => by have := ho x hm; omega)]
    exact k1 _ _ hx1
  refine ⟨H4, sl2, ps2, lost2, own2, ro2, ?_, k03.trans k4, fun x hx => ?_, net3.step k4.step (by simp), row3.step k4.step (by simp), dO.dis, k4 _ _ g43, ⟨i4o, i4r⟩, hl2, hq2, h02, by omega⟩
  · unfold F_law30NetPlays.l1
    have l4 : ldA 2 (pt i4) H1 = some (.agg #[sl, iv lost], H1) := ld_all (k1 _ _ g4) rfl
    have l5 : ldA 5 (pt H.length) H1 = some (.agg (actC (f j).kd (f j).b (f j).i (f j).at_ (f j).t).toArray, H1) := ld_all g1 rfl
    have nn : uop .not (.bool true) H3 = some (.bool false, H3) := rfl
    have l40 : ld1 (pa i4 0) H3 = some (sl2, H3) := ld1_at g43 rfl
    have l41 : ld1 (pa i4 1) H3 = some (iv lost2, H3) := ld1_at g43 rfl
    rw [show ((0 : Nat) : Int) = 0 from rfl] at e6
    have n1 : bop .int .neq (iv ps2.length) (iv ps2.length) H3 = some (.bool false, H3) := by rw [neq_r]; simp
    have n2 : bop .int .neq (iv lost2) (iv lost2) H3 = some (.bool false, H3) := by rw [neq_r]; simp
    rw [bind_eq e0, c_true, hfetch, bind_eq l4, bind_eq l5, bind_eq e1, bind_eq extr_p0, bind_eq extr_p1, bind_eq e2, bind_eq nn, bind_eq (gv_in.trans ret_r), bind_eq (gv_in.trans fa_z), bind_eq (gv_in.trans l40), bind_eq (gv_in.trans (e5 _)), bind_eq (gv_in.trans e3), bind_eq (gv_in.trans l40), same_self, bind_eq (gv_in.trans n1), bind_eq pick_r, cond_false,
      bind_eq (gv_in.trans ret_r), bind_eq (gv_in.trans fa_z), bind_eq (gv_in.trans l41), bind_eq (gv_in.trans e4), bind_eq (gv_in.trans l41), same_self, bind_eq (gv_in.trans n2), bind_eq pick_r, cond_false, c_false, bind_eq e3, bind_eq cvi_r, hwl, jn_ext e6]
    simp only [Nat.beq_refl, cond_true, List.tail_cons, List.headD_cons]
    rw [bind_eq add_r, hw]
    rfl
  · rcases own2n x hx with h | h
    · exact ho x h
    · have := hle.len; omega

theorem plays_loop {m id i4 n : Nat} {s23 : Value} {f : Nat → NAct} {H0 : Heap} (hA : Acts H0 s23 n f) (hn : n ≤ 40) (hp : ∀ x, x < n → (f x).p.length ≤ 100) (hi4 : H0.length ≤ i4) :
    ∀ (d j : Nat) {sl : Value} {ps : List (List UInt8)} {lost : Int} {own ro : List Nat} {H : Heap}, n - j = d → j ≤ n →
    HLe H0 H → (∀ x ∈ own, H0.length ≤ x) → Net H id ps lost own → RowS H sl (ps.map strv) ro → (∀ x ∈ ro, x ∉ own) → H[i4]? = some (.cells [sl, iv lost] 1 false false) → (i4 ∉ own ∧ i4 ∉ ro) →
    ps.length ≤ 128 → (∀ q ∈ ps, q.length ≤ 100) → (0 ≤ lost ∧ lost ≤ 200 * j) →
    ∃ H', loopM (fun vs => F_law30NetPlays.l1 (R (m + 4)) (vs.headD undef) (vs.tail.headD undef) (vs.tail.tail.headD undef) (vs.tail.tail.tail.headD undef) (vs.tail.tail.tail.tail.headD undef)) [pt id, pt i4, s23, iv n, iv j] H = some (.ext 0 [], H')
  | 0, j, sl, ps, lost, own, ro, H, hd, hj, h1, h2, h3, h4, h5, h6, h7, h8, h9, h10 => by
    have : j = n := by omega
    subst this
    refine ⟨H, loop_ext ?_⟩
    simp [F_law30NetPlays.l1, ↓bind_andk, andk_some, ↓jn_outk, outk_nrm, outk_ext, outk_ret, ↓cnd_b, ret_r, nilc_r, fa_r, ldOne_r, ldA_r, stOne_r, stA_r, rdk_r, rdkA_r, wrk_r, wrkA_r, alc_r, lenS_r, lenT_r, cvi_r, pick_r, not_r, mx_r, mn_r, ixa_r, ixaA_r, bld_r, add_r, sub_r, mul_r, quo_r, rem_r, eql_r, neq_r, lss_r, leq_r, gtr_r, geq_r, eqb_r, neb_r, eqp_r, nep_r, ↓gv_r, gvn_r, ↓g_r, gn_r]
  | d + 1, j, sl, ps, lost, own, ro, H, hd, hj, h1, h2, h3, h4, h5, h6, h7, h8, h9, h10 => by
    obtain ⟨H', sl', ps', lost', own', ro', e, k1, k2, k3, k4, k5, k6, k7, k8, k9, k10⟩ := plays_round2 (m := m) hA hn hp (show j < n by omega) h1 h2 hi4 h3 h4 h5 h6 h7 h8 h9 h10
    obtain ⟨H2, e2⟩ := plays_loop (m := m) hA hn hp hi4 d (j + 1) (by omega) (by omega) k1 k2 k3 k4 k5 k6 k7 k8 k9 k10
    exact ⟨H2, (loop_next e).trans e2⟩

theorem law_NetPlays : ∀ (xs : Ins [.slc netActT]) (H : Heap) (vs : List Value), InsWf [.slc netActT] xs → InsRd [.slc netActT] xs H vs → ∃ n H', R n n_law30NetPlays vs H = some (.bool true, H') := by
  intro xs H vs hwf hrd
  obtain ⟨l, _⟩ := xs
  obtain ⟨hl, _⟩ := hwf
  obtain ⟨c1, _, rfl, hc1, h1, rfl⟩ := hrd
  obtain ⟨a, rfl⟩ : ∃ a, c1 = [a] := by
    match c1, hc1 with
    | [a], _ => exact ⟨a, rfl⟩
  obtain ⟨n, f, hA, hnb, hown⟩ := rd_netActs hl h1
  refine ⟨6, ?_⟩
  obtain ⟨H1, e1, k1⟩ := r_netLives 1 H
  obtain ⟨H2, ok, e2, k2, hfew⟩ := r_few (m := 4) (hA.mono k1) hnb
  show ∃ H', R 6 n_law30NetPlays [a] H = _
  rw [R, run_law30NetPlays rfl]
  unfold F_law30NetPlays
  have nn : ∀ X, uop .not (.bool true) X = some (.bool false, X) := fun X => rfl
  cases ok with
  | false =>
    obtain ⟨H3, e3, k3⟩ := r_netLives 1 H2
    refine ⟨H3, ?_⟩
    have hb1 : (gate (Value.bool false) false 3 (bind (R 5 n_law30Few [a]) fun v18x3 => bind (uop .not v18x3) fun v19x4 => ret [a, v18x3, v19x4])) H1 = some ([a, .bool false, .bool true], H2) := by
      rw [g_r, if_pos rfl, bind_eq e2]; rfl
    rw [bind_eq e1, bind_eq (nn _), bind_eq hb1, bind_eq pick_r]
    simp only [cond_false, List.tail_cons, List.headD_cons]
    rw [c_true, bind_eq e3]
    rfl
  | true =>
    obtain ⟨hn, hp⟩ := hfew rfl
    have e3 := r_netNew 4 H2
    have N3 := net_new H2
    have k3 := HLe.app H2 [.cells [.slice none 0 0, iv 0] 1 false false]
    have hl3 : (H2 ++ [AObj.cells [.slice none 0 0, iv 0] 1 false false]).length = H2.length + 1 := by simp
    generalize H2 ++ [AObj.cells [.slice none 0 0, iv 0] 1 false false] = H3 at *
    have e4 : alc 1 (.agg #[.slice none 0 0, .int .i64 0]) H3 = some (pt H3.length, H3 ++ [.cells [.slice none 0 0, iv 0] 1 false false]) := alc_all rfl
    have g4 : (H3 ++ [AObj.cells [.slice none 0 0, iv 0] 1 false false])[H3.length]? = some (.cells [.slice none 0 0, iv 0] 1 false false) := app_new
    have k4 := HLe.app H3 [.cells [.slice none 0 0, iv 0] 1 false false]
    generalize H3 ++ [AObj.cells [.slice none 0 0, iv 0] 1 false false] = H4 at *
    have k04 := ((k1.trans k2).trans k3).trans k4
    have hlen := (k1.trans k2).len
    obtain ⟨H5, e5⟩ := plays_loop (m := 1) hA hn hp (i4 := H3.length) (by omega) n 0 (by omega) (by omega) k04 (own := [H2.length]) (by simp; omega) (N3.step k4.step (by simp)) (RowS.nil (H := H4)) (by simp) g4 ⟨by simp; omega, by simp⟩ (by simp) (by simp) (by omega)
    have e6 := r_netNew 4 H5
    have e7 := r_lookNone (n := 3) (net_new H5) (i := 0) (by omega)
    refine ⟨H5 ++ [.cells [.slice none 0 0, iv 0] 1 false false], ?_⟩
    have hb1 : (gate (Value.bool false) false 3 (bind (R 5 n_law30Few [a]) fun v18x3 => bind (uop .not v18x3) fun v19x4 => ret [a, v18x3, v19x4])) H1 = some ([a, .bool true, .bool false], H2) := by
      rw [g_r, if_pos rfl, bind_eq e2]; rfl
    rw [show ((0 : Nat) : Int) = 0 from rfl] at e5
    rw [bind_eq e1, bind_eq (nn _), bind_eq hb1, bind_eq pick_r]
    simp only [cond_false, List.tail_cons, List.headD_cons]
    rw [c_false, bind_eq e3, bind_eq e4, bind_eq hA.len, jn_ext e5]
    simp only [Nat.beq_refl, cond_true]
    rw [bind_eq e6, bind_eq e7, bind_eq extr_p0, bind_eq extr_p1]
    rfl

end Go.Proofs.Ytkjoaediojdodaa.A
