/- NetHonest, the law. -/
import Derived.Test.YtkjoaediojdodaaNetHonest
namespace Go.Proofs.Ytkjoaediojdodaa.A
set_option linter.unusedVariables false
set_option linter.unusedSimpArgs false
open Go.Proofs Go.Proofs.Ytkjoaediojdodaa

/-- What stays true, round by round. -/
structure Hon (H0 H : Heap) (id i4 im : Nat) (sl : Value) (ps : List (List UInt8)) (lost : Int) (own ro : List Nat) (es : List (Value × Value × Nat)) (clk : Nat) (g : List UInt8 → Int) (j : Nat) : Prop where
  le : HLe H0 H
  ow : ∀ x ∈ own, H0.length ≤ x
  net : Net H id ps lost own
  row : RowS H sl (ps.map strv) ro
  dis : ∀ x ∈ ro, x ∉ own
  g4 : H[i4]? = some (.cells [sl, iv lost] 1 false false)
  gm : H[im]? = some (.map es clk)
  o4 : i4 ∉ own ∧ i4 ∉ ro
  om : im ∉ own ∧ im ∉ ro
  ne : im ≠ i4
  mp : MapR es g
  ct : ∀ q, (ps.count q : Int) ≤ g q
  gb : ∀ q, 0 ≤ g q ∧ g q ≤ 100 * (j : Int)
  pl : ps.length ≤ 128
  pq : ∀ q ∈ ps, q.length ≤ 100
  lb : 0 ≤ lost ∧ lost ≤ 200 * (j : Int)

theorem honest_round {m id i4 im n j : Nat} {s25 sl : Value} {f : Nat → NAct} {ps : List (List UInt8)} {lost : Int} {own ro : List Nat} {es : List (Value × Value × Nat)} {clk : Nat} {g : List UInt8 → Int} {H0 H : Heap} (hA : Acts H0 s25 n f) (hn : n ≤ 40) (hp : ∀ x, x < n → (f x).p.length ≤ 100) (hj : j < n)
    (hi4 : H0.length ≤ i4) (him : H0.length ≤ im) (hI : Hon H0 H id i4 im sl ps lost own ro es clk g j) :
    ∃ H' sl' ps' lost' own' ro' es' clk' g', F_law30NetHonest.l1 (R (m + 4)) (pt id) (.map (some im)) (pt i4) s25 (iv n) (iv j) H = some (.nrm [pt id, .map (some im), pt i4, s25, iv n, iv ((j + 1 : Nat) : Int)], H') ∧
      Hon H0 H' id i4 im sl' ps' lost' own' ro' es' clk' g' (j + 1) := by
  obtain ⟨hle, ho, net, row, dis, g4, gm, o4, om, ne, mp, ct, gb, hl, hq, hlb⟩ := hI
  have hlt : (j : Int) < n := by omega
  have hw : IntKind.i64.wrap ((j : Int) + 1) = ((j + 1 : Nat) : Int) := by rw [w64 (by omega) (by omega)]; simp
  have e0 : bop .int .lss (iv j) (iv n) H = some (.bool true, H) := by rw [lss_r, decide_eq_true hlt]
  have hok := (hA.mono hle).ok hj
  have blt0 := (hA.ok hj).bs.lt
  have g1 : (H ++ [AObj.cells (f j).cells 1 false false])[H.length]? = some (.cells (f j).cells 1 false false) := app_new
  have k1 := HLe.app H [.cells (f j).cells 1 false false]
  have hl1 : (H ++ [AObj.cells (f j).cells 1 false false]).length = H.length + 1 := by simp
  have hfetch := fun (k : Value → M Out) => (hA.mono hle).fetch (k := k) hj
  generalize H ++ [AObj.cells (f j).cells 1 false false] = H1 at *
  have i4l := get_lt g4
  have iml := get_lt gm
  have nlt := net.lt
  have rlt := row.lt
  have h8 : ¬ ((8 : Int) = 0) := by omega
  -- no act spoils
  obtain ⟨kd, H2, e2, g2, q2, l2, h4, hkd⟩ : ∃ kd H2, (cnd (.bool ((f j).kd.tmod 8 == 4)) (bind (fa 0 (pt H.length)) fun v35x20 => bind (st1 v35x20 (Value.int .u8 0)) fun _ => ret (.nrm [pt id, .map (some im), pt i4, pt H.length, s25, iv n, iv j])) (ret (.nrm [pt id, .map (some im), pt i4, pt H.length, s25, iv n, iv j]))) H1 = some (Out.nrm [pt id, .map (some im), pt i4, pt H.length, s25, iv n, iv j], H2) ∧
      H2[H.length]? = some (.cells (actC kd (f j).b (f j).i (f j).at_ (f j).t) 1 false false) ∧ (∀ x, x ≠ H.length → H2[x]? = H1[x]?) ∧ H2.length = H1.length ∧ kd.tmod 8 ≠ 4 ∧ 0 ≤ kd := by
    by_cases hk : (f j).kd.tmod 8 = 4
    · refine ⟨0, H1.set H.length (.cells (actC 0 (f j).b (f j).i (f j).at_ (f j).t) 1 false false), ?_, set_get g1, fun x hx => set_get_ne (Ne.symm hx), by simp, by decide, by omega⟩
      have hs : st1 (pa H.length 0) (.int .u8 0) H1 = some (undef, H1.set H.length (.cells (actC 0 (f j).b (f j).i (f j).at_ (f j).t) 1 false false)) := st1_at g1 (by simp) rfl
      rw [show ((f j).kd.tmod 8 == 4) = true from by simp [hk], c_true, bind_eq fa_z, bind_eq hs]
      rfl
    · refine ⟨(f j).kd, H1, ?_, g1, fun _ _ => rfl, rfl, hk, hok.kd.1⟩
      rw [beq_eq_false_iff_ne.2 hk, c_false]; rfl
  have q12 : ∀ x, x < H.length → H2[x]? = H[x]? := fun x hx => by
    rw [q2 x (by omega), List.getElem?_eq_getElem hx]; exact k1 _ _ (List.getElem?_eq_getElem hx)
  have net2 : Net H2 id ps lost own := net.keep fun x hx => q12 x (nlt x hx)
  -- a look
  obtain ⟨v, is, H3, e3, his, hv, k3⟩ : ∃ v is H3, R (m + 4) n_netNetLook [pt id, .int .u64 (f j).i] H2 = some (.tuple #[v, .bool is], H3) ∧ is = (lookP ps (f j).i).isSome ∧ (∀ q, lookP ps (f j).i = some q → Sl H3 v (u8s q)) ∧ HLe H2 H3 := by
    by_cases h0 : ps.length = 0
    · have : ps = [] := List.length_eq_zero_iff.1 h0
      subst this
      exact ⟨_, false, H2, r_lookNone (n := m + 2) net2 hok.i, rfl, fun q h => by simp [lookP] at h, .refl _⟩
    · obtain ⟨k, hk, hkl⟩ := plc_ok (ps := ps) hok.i.1 h0
      have hpk := List.getElem?_eq_getElem hkl
      have hpq := hq _ (List.getElem_mem hkl)
      generalize ps[k] = pk at *
      obtain ⟨v, q, H3, e, r, k3, _⟩ := r_look (n := m + 2) net2 hok.i (by omega) hk hpk (by omega)
      have hlp : lookP ps (f j).i = some pk := by unfold lookP; rw [hk]; simpa using hpk
      exact ⟨v, true, H3, e, by rw [hlp]; rfl, fun q' h => by rw [hlp] at h; cases h; exact r.rd, k3⟩
  have g3 := k3 _ _ g2
  have l3 := k3.len
  have gm3 : H3[im]? = some (.map es clk) := k3 _ _ (by rw [q12 im iml]; exact gm)
  obtain ⟨H4, es4, clk4, e4, gm4, mp4, q4, l4⟩ := hon1 (l0 := pt id) (l1 := .map (some im)) (l2 := pt i4) (l3 := pt H.length) (l4 := s25) (l5 := iv n) (l6 := iv j) g3 gm3 mp gb (by omega) his hv
  obtain ⟨bA, bB⟩ := gAB_bound (m := kd.tmod 8) (i := (f j).i) (p := (f j).p) (ps := ps) gb
  have q24 : ∀ x, x < H2.length → x ≠ im → H4[x]? = H2[x]? := fun x hx hne => by
    rw [q4 x hne, List.getElem?_eq_getElem hx]; exact k3 _ _ (List.getElem?_eq_getElem hx)
  have hle4 : HLe H0 H4 := fun x o hx => by
    have hx0 := get_lt hx
    have hx1 := hle _ _ hx
    rw [q24 x (by have := get_lt hx1; omega) (by omega), q12 x (get_lt hx1)]; exact hx1
  have bs4 := ((hA.ok hj).bs).mono hle4
  have g44 : H4[H.length]? = some (.cells (actC kd (f j).b (f j).i (f j).at_ (f j).t) 1 false false) := by rw [q24 _ (by omega) (by omega)]; exact g2
  obtain ⟨H5, es5, clk5, e5, gm5, mp5, q5, l5⟩ := hon2 (l0 := pt id) (l1 := .map (some im)) (l2 := pt i4) (l3 := pt H.length) (l4 := s25) (l5 := iv n) (l6 := iv j) g44 gm4 mp4 bA (by omega) bs4
  have q15 : ∀ x, x < H.length → x ≠ im → H5[x]? = H[x]? := fun x hx hne => by rw [q5 x hne, q24 x (by omega) hne, q12 x hx]
  have hle5 : HLe H0 H5 := fun x o hx => by
    have hx0 := get_lt hx
    rw [q5 x (by omega)]; exact hle4 _ _ hx
  have net5 : Net H5 id ps lost own := net.keep fun x hx => q15 x (nlt x hx) (fun e => om.1 (e ▸ hx))
  have row5 : RowS H5 sl (ps.map strv) ro := row.keep fun x hx => q15 x (rlt x hx) (fun e => om.2 (e ▸ hx))
  have g45 : H5[i4]? = some (.cells [sl, iv lost] 1 false false) := by rw [q15 i4 i4l (Ne.symm ne)]; exact g4
  have g75 : H5[H.length]? = some (.cells (actC kd (f j).b (f j).i (f j).at_ (f j).t) 1 false false) := by rw [q5 _ (by omega)]; exact g44
  obtain ⟨H6, sl6, ps6, lost6, own6, ro6, e6, dO, dR⟩ := r_do (n := m) (kd := kd) (i := (f j).i) (at_ := (f j).at_) (t := (f j).t) (p := (f j).p) (b := (f j).b) net5 row5 dis ((hA.ok hj).bs.mono hle5) (fun x hx hm => by have := ho x hm; have := blt0 x hx; omega) (hp j hj) hl hq (by omega) hok.i hok.at_ hok.t
  obtain ⟨hl6, hq6, h06, hb6⟩ := dR.bounds (hp j hj) hl hq hlb.1
  have ct6 := dR.count h4 hkd hok.i.1 ct
  have i46 : H6[i4]? = some (.cells [sl, iv lost] 1 false false) := by rw [dO.keep i4 (by omega) o4.1]; exact g45
  have im6 : H6[im]? = some (.map es5 clk5) := by rw [dO.keep im (get_lt gm5) om.1]; exact gm5
  have own6n : ∀ x ∈ own6, x ∈ own ∨ H.length ≤ x := fun x h => (dO.own x h).imp (fun h => h) fun h => by omega
  have ro6n : ∀ x ∈ ro6, x ∈ ro ∨ H.length ≤ x := fun x h => (dO.ro x h).imp (fun h => h) fun h => by omega
  have notown : ∀ x, x < H.length → x ∉ own → x ∉ own6 := fun x hx hn h => by
    rcases own6n x h with h | h
    · exact hn h
    · omega
  have notro : ∀ x, x < H.length → x ∉ ro → x ∉ ro6 := fun x hx hn h => by
    rcases ro6n x h with h | h
    · exact hn h
    · omega
  have e7 : stA 2 (pt i4) (.agg #[sl6, iv lost6]) H6 = some (undef, H6.set i4 (.cells [sl6, iv lost6] 1 false false)) := st_all (vs := [sl6, iv lost6]) i46 rfl rfl (all2 dO.row.oneCell.1)
  have g47 : (H6.set i4 (.cells [sl6, iv lost6] 1 false false))[i4]? = some (.cells [sl6, iv lost6] 1 false false) := set_get i46
  have q7 : ∀ x, x ≠ i4 → (H6.set i4 (.cells [sl6, iv lost6] 1 false false))[x]? = H6[x]? := fun x hx => set_get_ne (Ne.symm hx)
  have l7 : (H6.set i4 (.cells [sl6, iv lost6] 1 false false)).length = H6.length := by simp
  generalize H6.set i4 (.cells [sl6, iv lost6] 1 false false) = H7 at *
  have net7 : Net H7 id ps6 lost6 own6 := dO.net.keep fun x hx => q7 x (fun e => notown i4 i4l o4.1 (e ▸ hx))
  have row7 : RowS H7 sl6 (ps6.map strv) ro6 := dO.row.keep fun x hx => q7 x (fun e => notro i4 i4l o4.2 (e ▸ hx))
  have im7 : H7[im]? = some (.map es5 clk5) := by rw [q7 im ne]; exact im6
  have k8 := HLe.app H7 [.map [] 0]
  have g8 : (H7 ++ [AObj.map [] 0])[H7.length]? = some (.map [] 0) := app_new
  have e8 : mkm H7 = some (.map (some H7.length), H7 ++ [.map [] 0]) := rfl
  have l8 : (H7 ++ [AObj.map [] 0]).length = H7.length + 1 := by simp
  generalize H7 ++ [AObj.map [] 0] = H8 at *
  have net8 := net7.step k8.step (by simp)
  have e9 := r_netLen (n := m + 3) net8
  have hwl : IntKind.u64.wrap (ps6.length : Int) = ps6.length := by rw [wu64]; omega
  have nlt7 := net7.lt
  have imH7 : im < H7.length := get_lt im7
  obtain ⟨H9, e10, l9, q9⟩ := honest_look (m := m + 2) (s5 := pt i4) (s25 := s25) (s26 := iv n) (s27 := iv j) (ih := H7.length) hl6 hq6 mp5 ct6 (by omega) (fun hm => by have := nlt7 _ hm; omega) ps6.length 0 (by omega) (by omega) net8 (k8 _ _ im7) g8 (by simpa using MapR.nil)
  have q79 : ∀ x, x < H7.length → H9[x]? = H7[x]? := fun x hx => by
    rw [q9 x (by omega) (by omega), List.getElem?_eq_getElem hx]; exact k8 _ _ (List.getElem?_eq_getElem hx)
  have h67 : H5.length ≤ H7.length := by have := dO.len; omega
  refine ⟨H9, sl6, ps6, lost6, own6, ro6, es5, clk5, _, ?_, ⟨fun x o hx => ?_, fun x hx => ?_, net7.keep fun x hx => q79 x (nlt7 x hx), row7.keep fun x hx => q79 x (row7.lt x hx), dO.dis, by rw [q79 i4 (get_lt g47)]; exact g47, by rw [q79 im imH7]; exact im7, ⟨notown i4 i4l o4.1, notro i4 i4l o4.2⟩, ⟨notown im iml om.1, notro im iml om.2⟩, ne, mp5, ct6, fun q => by have := bB q; omega, hl6, hq6, ⟨h06, by omega⟩⟩⟩
  · unfold F_law30NetHonest.l1
    have lk : ld1 (pa H.length 0) H1 = some (.int .u8 (f j).kd, H1) := ld1_at g1 rfl
    have li : ld1 (pa H.length 2) H2 = some (.int .u64 (f j).i, H2) := ld1_at g2 rfl
    have lw : ldA 2 (pt i4) H5 = some (.agg #[sl, iv lost], H5) := ld_all g45 rfl
    have la : ldA 5 (pt H.length) H5 = some (.agg (actC kd (f j).b (f j).i (f j).at_ (f j).t).toArray, H5) := ld_all g75 rfl
    rw [show ((0 : Nat) : Int) = 0 from rfl] at e10
    rw [bind_eq e0, c_true, hfetch, bind_eq fa_z, bind_eq lk, bind_eq (rem_r.trans (if_neg h8)), bind_eq eql_r, jn_nrm e2]
    simp only [List.tail_cons, List.headD_cons]
    rw [bind_eq fa_z, bind_eq li, bind_eq e3, bind_eq extr_p0, bind_eq extr_p1, e4]
    simp only [List.tail_cons, List.headD_cons]
    rw [e5]
    simp only [List.tail_cons, List.headD_cons]
    rw [bind_eq lw, bind_eq la, bind_eq e6, bind_eq extr_p0, bind_eq extr_p1, bind_eq e7, bind_eq e8, bind_eq e9, bind_eq cvi_r, hwl, jn_ext e10]
    simp only [Nat.beq_refl, cond_true, List.tail_cons, List.headD_cons]
    rw [bind_eq add_r, hw]
    rfl
  · have hx0 := get_lt hx
    have hx5 := hle5 _ _ hx
    have hx5l := get_lt hx5
    rw [q79 x (by omega), q7 x (by omega), dO.keep x hx5l (fun hm => by have := ho x hm; omega)]
    exact hx5
  · rcases own6n x hx with h | h
    · exact ho x h
    · have := hle.len; omega

theorem honest_loop {m id i4 im n : Nat} {s25 : Value} {f : Nat → NAct} {H0 : Heap} (hA : Acts H0 s25 n f) (hn : n ≤ 40) (hp : ∀ x, x < n → (f x).p.length ≤ 100) (hi4 : H0.length ≤ i4) (him : H0.length ≤ im) :
    ∀ (d j : Nat) {sl : Value} {ps : List (List UInt8)} {lost : Int} {own ro : List Nat} {es : List (Value × Value × Nat)} {clk : Nat} {g : List UInt8 → Int} {H : Heap}, n - j = d → j ≤ n → Hon H0 H id i4 im sl ps lost own ro es clk g j →
    ∃ H' ps' lost' own', loopM (fun vs => F_law30NetHonest.l1 (R (m + 4)) (vs.headD undef) (vs.tail.headD undef) (vs.tail.tail.headD undef) (vs.tail.tail.tail.headD undef) (vs.tail.tail.tail.tail.headD undef) (vs.tail.tail.tail.tail.tail.headD undef)) [pt id, .map (some im), pt i4, s25, iv n, iv j] H = some (.ext 0 [pt id], H') ∧ Net H' id ps' lost' own' ∧ ps'.length ≤ 128
  | 0, j, sl, ps, lost, own, ro, es, clk, g, H, hd, hj, hI => by
    have : j = n := by omega
    subst this
    refine ⟨H, ps, lost, own, loop_ext ?_, hI.net, hI.pl⟩
    simp [F_law30NetHonest.l1, ↓bind_andk, andk_some, ↓jn_outk, outk_nrm, outk_ext, outk_ret, ↓cnd_b, ret_r, nilc_r, fa_r, ldOne_r, ldA_r, stOne_r, stA_r, rdk_r, rdkA_r, wrk_r, wrkA_r, alc_r, lenS_r, lenT_r, cvi_r, pick_r, not_r, mx_r, mn_r, ixa_r, ixaA_r, bld_r, add_r, sub_r, mul_r, quo_r, rem_r, eql_r, neq_r, lss_r, leq_r, gtr_r, geq_r, eqb_r, neb_r, eqp_r, nep_r, ↓gv_r, gvn_r, ↓g_r, gn_r]
  | d + 1, j, sl, ps, lost, own, ro, es, clk, g, H, hd, hj, hI => by
    obtain ⟨H', sl', ps', lost', own', ro', es', clk', g', e, hI'⟩ := honest_round (m := m) hA hn hp (show j < n by omega) hi4 him hI
    obtain ⟨H2, ps2, lost2, own2, e2, h2⟩ := honest_loop (m := m) hA hn hp hi4 him d (j + 1) (by omega) (by omega) hI'
    exact ⟨H2, ps2, lost2, own2, (loop_next e).trans e2, h2⟩

theorem law_NetHonest : ∀ (xs : Ins [.slc netActT]) (H : Heap) (vs : List Value), InsWf [.slc netActT] xs → InsRd [.slc netActT] xs H vs → ∃ n H', R n n_law30NetHonest vs H = some (.bool true, H') := by
  intro xs H vs hwf hrd
  obtain ⟨l, _⟩ := xs
  obtain ⟨hl, _⟩ := hwf
  obtain ⟨c1, _, rfl, hc1, h1, rfl⟩ := hrd
  obtain ⟨a, rfl⟩ : ∃ a, c1 = [a] := by
    match c1, hc1 with
    | [a], _ => exact ⟨a, rfl⟩
  obtain ⟨n, f, hA, hnb, hown⟩ := rd_netActs hl h1
  refine ⟨6, ?_⟩
  obtain ⟨H1, e1, k1⟩ := r_netLives 1 H
  obtain ⟨H2, ok, e2, k2, hfew⟩ := r_few (m := 4) (hA.mono k1) hnb
  show ∃ H', R 6 n_law30NetHonest [a] H = _
  rw [R, run_law30NetHonest rfl]
  unfold F_law30NetHonest
  have nn : ∀ X, uop .not (.bool true) X = some (.bool false, X) := fun X => rfl
  cases ok with
  | false =>
    obtain ⟨H3, e3, k3⟩ := r_netLives 1 H2
    refine ⟨H3, ?_⟩
    have hb1 : (gate (Value.bool false) false 3 (bind (R 5 n_law30Few [a]) fun v18x3 => bind (uop .not v18x3) fun v19x4 => ret [a, v18x3, v19x4])) H1 = some ([a, .bool false, .bool true], H2) := by
      rw [g_r, if_pos rfl, bind_eq e2]; rfl
    rw [bind_eq e1, bind_eq (nn _), bind_eq hb1, bind_eq pick_r]
    simp only [cond_false, List.tail_cons, List.headD_cons]
    rw [c_true, bind_eq e3]
    rfl
  | true =>
    obtain ⟨hn, hp⟩ := hfew rfl
    have e3 := r_netNew 4 H2
    have N3 := net_new H2
    have k3 := HLe.app H2 [.cells [.slice none 0 0, iv 0] 1 false false]
    have hl3 : (H2 ++ [AObj.cells [.slice none 0 0, iv 0] 1 false false]).length = H2.length + 1 := by simp
    generalize H2 ++ [AObj.cells [.slice none 0 0, iv 0] 1 false false] = H3 at *
    have em : mkm H3 = some (.map (some H3.length), H3 ++ [.map [] 0]) := rfl
    have gm : (H3 ++ [AObj.map [] 0])[H3.length]? = some (.map [] 0) := app_new
    have km := HLe.app H3 [.map [] 0]
    have hlm : (H3 ++ [AObj.map [] 0]).length = H3.length + 1 := by simp
    generalize H3 ++ [AObj.map [] 0] = Hm at *
    have e4 : alc 1 (.agg #[.slice none 0 0, .int .i64 0]) Hm = some (pt Hm.length, Hm ++ [.cells [.slice none 0 0, iv 0] 1 false false]) := alc_all rfl
    have g4 : (Hm ++ [AObj.cells [.slice none 0 0, iv 0] 1 false false])[Hm.length]? = some (.cells [.slice none 0 0, iv 0] 1 false false) := app_new
    have k4 := HLe.app Hm [.cells [.slice none 0 0, iv 0] 1 false false]
    generalize Hm ++ [AObj.cells [.slice none 0 0, iv 0] 1 false false] = H4 at *
    have k34 := km.trans k4
    have k04 := ((k1.trans k2).trans k3).trans k34
    have hlen := (k1.trans k2).len
    have hI : Hon H H4 H2.length Hm.length H3.length (.slice none 0 0) [] 0 [H2.length] [] [] 0 (fun _ => 0) 0 :=
      ⟨k04, by simp; omega, N3.step k34.step (by simp), RowS.nil, by simp, g4, k4 _ _ gm, ⟨by simp; omega, by simp⟩, ⟨by simp; omega, by simp⟩, by omega, MapR.nil, by simp, fun q => by omega, by simp, by simp, by omega⟩
    obtain ⟨H5, ps5, lost5, own5, e5, N5, l5⟩ := honest_loop (m := 1) hA hn hp (by omega) (by omega) n 0 (by omega) (by omega) hI
    have e6 := r_netLen (n := 4) N5
    refine ⟨H5, ?_⟩
    have hb1 : (gate (Value.bool false) false 3 (bind (R 5 n_law30Few [a]) fun v18x3 => bind (uop .not v18x3) fun v19x4 => ret [a, v18x3, v19x4])) H1 = some ([a, .bool true, .bool false], H2) := by
      rw [g_r, if_pos rfl, bind_eq e2]; rfl
    have hle : (ps5.length : Int) ≤ 128 := by omega
    rw [show ((0 : Nat) : Int) = 0 from rfl] at e5
    rw [bind_eq e1, bind_eq (nn _), bind_eq hb1, bind_eq pick_r]
    simp only [cond_false, List.tail_cons, List.headD_cons]
    rw [c_false, bind_eq e3, bind_eq em, bind_eq e4, bind_eq hA.len, jn_ext e5]
    simp only [Nat.beq_refl, cond_true, List.headD_cons]
    rw [bind_eq e6, bind_eq leq_r, decide_eq_true hle]
    rfl

end Go.Proofs.Ytkjoaediojdodaa.A
