/- GroupPlays: groups answer as the document's. -/
import Derived.Test.YtmacmlpiheimhaaGrpAct
namespace Go.Proofs.Ytmacmlpiheimhaa.A
set_option linter.unusedVariables false
set_option linter.unusedSimpArgs false
open Go.Proofs Go.Proofs.Ytmacmlpiheimhaa

theorem bslS3 {a b c : Tx} {H : Heap} : bsl 1 3 (.string ⟨#[]⟩) [(0, 1, strv a), (1, 1, strv b), (2, 1, strv c)] H = some (.slice (some ⟨H.length, 0, none⟩) 3 3, H ++ [.cells [strv a, strv b, strv c] 1 false false]) := by
  have hn : (Value.string ⟨#[]⟩).cells = #[.string ⟨#[]⟩] := rfl
  have t : ∀ x : Tx, isTup (strv x) = false := fun _ => rfl
  have d : ∀ x : Tx, (strv x).cells = #[strv x] := fun _ => rfl
  have f : ∀ x : Tx, oneCell (strv x) = true := fun _ => rfl
  simp [bsl, bldC, reps, news, splice, hn, t, d, f]

section
variable {H X X' : Heap} {n g o c w : Nat} {G : GMap} {mem : Mem} {nv mv sl : Value} {N : List Tx} {M : List Pr} {ac : List EAct} {nm m k : Tx}

theorem GSt.hle (h : GSt X g o G mem nv mv N M c) (hl : HLe X X') : GSt X' g o G mem nv mv N M c := ⟨h.g.hle hl, h.r.hle hl, h.ok, h.few⟩

/-- Of one name: its members, and its groups. -/
theorem gp2_do {z30 z31 z32 vl : Value} {ks : List Tx} (hk : ks.length ≤ 1000) (hc : c ≤ 300) : ∀ (t j : Nat) (X : Heap), ks.length - j = t → j ≤ ks.length → Sl X vl (ks.map strv) → GSt X g o G mem nv mv N M c → X[w]? = some (.cells [nv, mv] 1 false false) →
    ∃ X', loopM (c9 (F_law10GroupPlays.l2 (R (n + 9)))) [strv nm, pt g, pt w, z30, z31, z32, vl, iv ks.length, iv j] X = some (.ext 2 [strv nm, pt g, pt w, z30, z31, z32], X') ∧ HLe X X'
  | 0, j, X, ht, hj, hs, h, hw => by
    refine ⟨X, loop_ext ?_, .refl _⟩
    rw [c9_r, show j = ks.length by omega]
    unfold F_law10GroupPlays.l2
    rw [bind_eq lss_r, cnd_b, if_neg (by simp)]
    rfl
  | t + 1, j, X, ht, hj, hs, h, hw => by
    have hkl : j < ks.length := by omega
    have hlt : (j : Int) < ks.length := by omega
    have hg := List.getElem?_eq_getElem hkl
    generalize ks[j] = k at hg
    have x1 := hs.ix (i := j) (by simpa using hkl) .i64 X
    have x2 := hs.ldx (row_at hg)
    obtain ⟨v1, q1, l1, X1, e1, r1, i1, n1, k1, o1⟩ := r_gmembers (n := n + 1) (k := k) h.g (by omega)
    have e1 : R (n + 9) n_groupGroupsMembers [pt g, strv k] X = _ := e1
    have h1 := h.hle k1
    have hw1 := k1 _ _ hw
    have dw : ∀ Y, HLe X1 Y → ldA 2 (pt w) Y = some (.agg #[nv, mv], Y) := fun Y hy => ldA_at (hy _ _ hw1) rfl
    obtain ⟨X2, v2, q2, l2, e2, r2, i2, k2⟩ := r_rmembers (n := n + 4) (k := k) h1.r h1.ok h1.fewN (by have := h1.few; omega)
    have e2 : R (n + 9) n_ref10Members [.agg #[nv, mv], strv k] X1 = _ := e2
    have hl : l2 = l1 := i2.uniq i1 fun _ => Iff.rfl
    subst hl
    have r1' := r1.step k2.step (by simp)
    have e3 : R (n + 9) n_law07SameTexts [v1, v2] X2 = _ := r_sameTexts (n := n + 8) (l := l2) (by omega) r1'.rd r2.rd
    have k12 := k1.trans k2
    have h2 := h.hle k12
    obtain ⟨v4, q4, X4, e4, r4, k4, o4⟩ := r_gof (n := n + 5) (m := k) h2.g
    have e4 : R (n + 9) n_groupGroupsOf [pt g, strv k] X2 = _ := e4
    have h4 := h2.hle k4
    obtain ⟨X5, v5, q5, l5, e5, r5, i5, n5, k5, o5⟩ := r_rof (n := n + 6) (m := k) h4.r (by have := h4.few; omega)
    have e5 : R (n + 9) n_ref10Of [.agg #[nv, mv], strv k] X4 = _ := e5
    have hl5 : l5 = ofL k (keysG G) mem := i5.uniq (ofL_is h.g.mo.nod) fun x => by
      rw [h.ok.m]
      exact ⟨fun hm => ⟨h.g.keyOut x k hm, hm⟩, fun hm => hm.2⟩
    rw [hl5] at r5 n5
    have r4' := r4.step k5.step (by simp)
    have e6 : R (n + 9) n_law07SameTexts [v4, v5] X5 = _ := r_sameTexts (n := n + 8) (by omega) r4'.rd r5.rd
    have k15 := k12.trans (k4.trans k5)
    have q0 : bop .int .neq (iv (errDrop k (keysG G))) (iv (errDrop k (keysG G))) X2 = some (.bool false, X2) := by rw [neq_r]; simp
    obtain ⟨X6, e7, k7⟩ := gp2_do hk hc t (j + 1) X5 (by omega) (by omega) (hs.mono k15) (h.hle k15) (k15 _ _ hw)
    refine ⟨X6, (loop_next ?_).trans e7, k15.trans k7⟩
    rw [c9_r]
    unfold F_law10GroupPlays.l2
    rw [bind_eq lss_r, cnd_b, if_pos (by simpa using hlt), bind_eq x1, bind_eq x2, bind_eq e1, bind_eq extr_p0, bind_eq extr_p1, bind_eq (dw _ (.refl _)), bind_eq e2, bind_eq extr_p0, bind_eq extr_p1, bind_eq e3, bind_eq not_r]
    simp only [Bool.not_true]
    rw [b_gv_in, b_ret, b_gv_in, b_ret, b_gv_in, bind_eq q0, bind_eq pick_r]
    simp only [cond_false]
    rw [b_gv_in, b_ret, b_gv_in, b_ret, b_gv_in, bind_eq (dw _ k2), b_gv_in, b_ret, b_gv_in, bind_eq e4, b_gv_in, bind_eq (dw _ (k2.trans k4)), same_self, b_gv_in, bind_eq e5, b_gv_in, bind_eq e6, b_gv_in, bind_eq not_r, bind_eq pick_r]
    simp only [cond_false, Bool.not_true]
    rw [cnd_b, if_neg (by simp), bind_eq add_r, wsuc (by omega)]
    rfl

/-- After each act. -/
theorem gp1_do (hA : EActs H sl ac) (hn : ac.length ≤ 60) (hw0 : H.length ≤ w) : ∀ (t j : Nat) (G : GMap) (mem : Mem) (nv mv : Value) (N : List Tx) (M : List Pr) (X : Heap), ac.length - j = t → j ≤ ac.length → HLe H X → GSt X g o G mem nv mv N M j → (∀ i ∈ gown o G, H.length ≤ i) → X[w]? = some (.cells [nv, mv] 1 false false) → g ≠ w →
    ∃ X', loopM (c6 (F_law10GroupPlays.l1 (R (n + 10)))) [strv nm, pt g, pt w, sl, iv ac.length, iv j] X = some (.ext 0 [], X')
  | 0, j, G, mem, nv, mv, N, M, X, ht, hj, hle, h, ho, hw, hgw => by
    refine ⟨X, loop_ext ?_⟩
    rw [c6_r, show j = ac.length by omega]
    unfold F_law10GroupPlays.l1
    rw [bind_eq lss_r, cnd_b, if_neg (by simp)]
    rfl
  | t + 1, j, G, mem, nv, mv, N, M, X, ht, hj, hle, h, ho, hw, hgw => by
    have hkl : j < ac.length := by omega
    have hlt : (j : Int) < ac.length := by omega
    have hja := List.getElem?_eq_getElem hkl
    generalize ac[j] = u at hja
    have g1 : (X ++ [AObj.cells u.cells 1 false false])[X.length]? = some (.cells u.cells 1 false false) := app_new
    have hf := fun {K : Value → A.M Out} => (hA.mono hle).fetch (k := K) hja
    have k1 : HLe X (X ++ [AObj.cells u.cells 1 false false]) := .app _ _
    generalize X ++ [AObj.cells u.cells 1 false false] = X1 at g1 k1 hf
    have d1 : ldA 2 (pt w) X1 = some (.agg #[nv, mv], X1) := ldA_at (k1 _ _ hw) rfl
    have d2 : ldA 3 (pt X.length) X1 = some (.agg u.cells.toArray, X1) := ldA_at g1 rfl
    obtain ⟨X2, G2, mem2, nv2, mv2, N2, M2, e2, h2, s2⟩ := r_ldo (n := n + 1) (u := u) (h.hle k1) (by omega)
    have e2 : R (n + 10) n_law10Do [pt g, .agg #[nv, mv], .agg u.cells.toArray] X1 = _ := e2
    have cells : ∀ {b : Nat} {cs : List Value}, X1[b]? = some (.cells cs 1 false false) → X2[b]? = some (.cells cs 1 false false) := fun hb => s2.get hb fun hm => ((h.hle k1).g.isMap hm).2 _ _ _ _ hb
    have hw2 := cells (k1 _ _ hw)
    have ha2 := cells g1
    have hm2 := (hle.trans k1).more s2 ho
    have w1 : stA 2 (pt w) (.agg #[nv2, mv2]) X2 = some (undef, X2.set w (.cells [nv2, mv2] 1 false false)) := stA_at (vs := [nv2, mv2]) hw2 rfl rfl h2.r.one.1
    have hw3 : (X2.set w (.cells [nv2, mv2] 1 false false))[w]? = some (.cells [nv2, mv2] 1 false false) := set_get hw2
    have hXw : X.length ≠ w := fun e => by have := get_lt hw; omega
    have ha3 : (X2.set w (.cells [nv2, mv2] 1 false false))[X.length]? = some (.cells u.cells 1 false false) := by rw [List.getElem?_set_ne (Ne.symm hXw)]; exact ha2
    have hnvS : ∃ a n c, nv = .slice a n c := h.r.n.elim fun q hq => hq.isS
    have h3 : GSt (X2.set w (.cells [nv2, mv2] 1 false false)) g o G2 mem2 nv2 mv2 N2 M2 (j + 1) := ⟨h2.g.setN hw2 hgw, h2.r.setBox hw2 hnvS, h2.ok, h2.few⟩
    have hle3 : HLe H (X2.set w (.cells [nv2, mv2] 1 false false)) := hm2.1.setN hw0
    generalize X2.set w (.cells [nv2, mv2] 1 false false) = X3 at w1 hw3 ha3 h3 hle3
    have d3 : ∀ Y, HLe X3 Y → ld1 (pa w 0) Y = some (nv2, Y) := fun Y hy => ld1_at (hy _ _ hw3) rfl
    obtain ⟨v4, q4, X4, e4, r4, k4, o4⟩ := r_gall (n := n + 7) h3.g
    have e4 : R (n + 10) n_groupGroupsAll [pt g] X3 = _ := e4
    have hN2 : N2 = ksort (keysG G2) := h3.ok.n.uniq ⟨h3.g.keysAsc, fun x => mem_ksort⟩ fun _ => Iff.rfl
    have h4 := h3.hle k4
    have hsn := h4.r.sn
    rw [hN2] at hsn
    have hfew : (ksort (keysG G2)).length ≤ 1000 := by rw [ksort_few]; have := h3.g.few; simp; omega
    have e5 : R (n + 10) n_law07SameTexts [v4, nv2] X4 = _ := r_sameTexts (n := n + 9) hfew r4.rd hsn
    have da : ld1 (pa X.length 1) X4 = some (strv u.nm, X4) := ld1_at (k4 _ _ ha3) rfl
    have db : ld1 (pa X.length 2) X4 = some (strv u.hs, X4) := ld1_at (k4 _ _ ha3) rfl
    have e6 := bslS3 (a := nm) (b := u.nm) (c := u.hs) (H := X4)
    have k6 : HLe X4 (X4 ++ [AObj.cells [strv nm, strv u.nm, strv u.hs] 1 false false]) := .app _ _
    have s6 : Sl (X4 ++ [AObj.cells [strv nm, strv u.nm, strv u.hs] 1 false false]) (.slice (some ⟨X4.length, 0, none⟩) 3 3) (([nm, u.nm, u.hs] : List Tx).map strv) := Sl.one (vs := [strv nm, strv u.nm, strv u.hs]) (es := 1) (g := false) (ro := false) app_new
    generalize X4 ++ [AObj.cells [strv nm, strv u.nm, strv u.hs] 1 false false] = X5 at e6 k6 s6
    have k46 := k4.trans k6
    obtain ⟨X6, e7, k7⟩ := gp2_do (n := n + 1) (nm := nm) (w := w) (z30 := sl) (z31 := iv ac.length) (z32 := iv j) (ks := [nm, u.nm, u.hs]) (by simp) (by omega) 3 0 X5 rfl (by simp) s6 (h3.hle k46) (k46 _ _ hw3)
    have e7 : loopM (c9 (F_law10GroupPlays.l2 (R (n + 10)))) [strv nm, pt g, pt w, sl, iv ac.length, iv j, .slice (some ⟨X4.length, 0, none⟩) 3 3, iv 3, .int .i64 0] X5 = _ := e7
    have k37 := k46.trans k7
    obtain ⟨X7, e8⟩ := gp1_do hA hn hw0 t (j + 1) G2 mem2 nv2 mv2 N2 M2 X6 (by omega) (by omega) (hle3.trans k37) (h3.hle k37) hm2.2 (k37 _ _ hw3) hgw
    refine ⟨X7, (loop_next ?_).trans e8⟩
    have hlen3 : lenS (.slice (some ⟨X4.length, 0, none⟩) 3 3) X5 = some (iv 3, X5) := rfl
    rw [c6_r]
    unfold F_law10GroupPlays.l1
    rw [bind_eq lss_r, cnd_b, if_pos (by simpa using hlt), hf, bind_eq d1, bind_eq d2, bind_eq e2, bind_eq extr_p0, bind_eq extr_p1, bind_eq w1, bind_eq not_r]
    simp only [Bool.not_true]
    rw [b_gv_in, b_ret, b_gv_in, bind_eq fa_z, b_gv_in, bind_eq (d3 _ (.refl _)), b_gv_in, bind_eq e4, b_gv_in, bind_eq (d3 _ k4), same_self, b_gv_in, bind_eq e5, b_gv_in, bind_eq not_r, bind_eq pick_r]
    simp only [cond_false, Bool.not_true]
    rw [cnd_b, if_neg (by simp), bind_eq fa_z, bind_eq da, bind_eq fa_z, bind_eq db, bind_eq e6, bind_eq hlen3, jn_ext e7, xk_hit, c6_r, bind_eq add_r, wsuc (by omega)]
    rfl

theorem or3g {β : Type} {p q : Bool} {mm : A.M (List Value)} {u v : Value} {k : Value → A.M β} (hm : mm X = some ([u, v, .bool q], X)) : bind (gate (.bool p) false 3 mm) (c3 fun _ _ t => bind (pick (.bool p) (.bool true) t) k) X = k (.bool (p || q)) X := by
  cases p
  · rw [b_g_in, bind_eq hm, c3_r, bind_eq pick_r]; rfl
  · rw [bind_eq (g_r.trans (if_neg (by simp)))]
    simp only [List.replicate]
    rw [c3_r, bind_eq pick_r]; rfl

theorem gplays_core {s : Tx} (hA : EActs H sl ac) (hn : ac.length ≤ 9223372036854775807) : ∃ H', R (n + 11) n_law10GroupPlays [sl, strv s] H = some (.bool true, H') := by
  have f1 : ∀ r X', F_law10GroupPlays (R (n + 10)) sl (strv s) H = some (r, X') → R (n + 11) n_law10GroupPlays [sl, strv s] H = some (r, X') := fun r X' hr => by rw [R, run_law10GroupPlays rfl]; exact hr
  obtain ⟨H1, e1, l1⟩ := r_glives (n := n + 1) (H := H)
  have e1 : R (n + 10) n_law10Lives [] H = _ := e1
  obtain ⟨H2, e2, l2⟩ := r_gfew (n := n + 9) (hA.mono l1) hn
  have e2 : R (n + 10) n_law10Few [sl] H1 = _ := e2
  obtain ⟨H2', e2', l2'⟩ := r_glives (n := n + 1) (H := H2)
  have e2' : R (n + 10) n_law10Lives [] H2 = _ := e2'
  generalize hq : (ac.all fewA && decide (ac.length ≤ 60)) = fw at e2
  have q1 : (bind (lenT (strv s)) fun v25x7 => bind (bop .int .gtr v25x7 (Value.int .i64 50)) fun v26x8 => ret [strv s, v25x7, v26x8]) H2 = some ([strv s, iv s.length, .bool (decide ((s.length : Int) > 50))], H2) := by
    rw [bind_eq lenT_v, bind_eq gtr_r]; rfl
  generalize hz : (!fw || decide ((s.length : Int) > 50)) = z
  have step : ∀ {k : Value → A.M Value}, bind (uop .not (.bool true)) (fun v17x2 =>
      bind (gate v17x2 false 3 (bind (R (n + 10) n_law10Few [sl]) fun v20x3 => bind (uop .not v20x3) fun v21x4 => ret [sl, v20x3, v21x4])) (c3 fun _ _ q5_2 =>
      bind (pick v17x2 (Value.bool true) q5_2) fun v22x6 =>
      bind (gate v22x6 false 3 (bind (lenT (strv s)) fun v25x7 => bind (bop .int .gtr v25x7 (Value.int .i64 50)) fun v26x8 => ret [strv s, v25x7, v26x8])) (c3 fun _ _ q9_2 =>
      bind (pick v22x6 (Value.bool true) q9_2) k))) H1 = k (.bool z) H2 := fun {k} => by
    rw [bind_eq not_r]
    simp only [Bool.not_true]
    rw [b_g_in, b_assoc, bind_eq e2, b_assoc, bind_eq not_r, b_ret, c3_r, bind_eq pick_r]
    simp only [cond_false]
    rw [or3g q1, hz]
  cases z
  · have hfw : fw = true := by
      cases fw
      · simp at hz
      · rfl
    rw [hfw] at hq
    simp only [Bool.and_eq_true, decide_eq_true_eq] at hq
    obtain ⟨H3, g, o, e3, g3, l3, o1, o2⟩ := r_gnew (n := n + 9) (X := H2)
    have e3 : R (n + 10) n_groupNew [] H2 = _ := e3
    have e4 := box0 H3
    have b4 : (H3 ++ [AObj.cells [.slice none 0 0, .slice none 0 0] 1 false false])[H3.length]? = some (.cells [.slice none 0 0, .slice none 0 0] 1 false false) := app_new
    have l4 : HLe H3 (H3 ++ [AObj.cells [.slice none 0 0, .slice none 0 0] 1 false false]) := .app _ _
    generalize H3 ++ [AObj.cells [.slice none 0 0, .slice none 0 0] 1 false false] = H4 at e4 b4 l4
    have hA2 := hA.mono (((l1.trans l2).trans l3).trans l4)
    have hS : GSt H4 g o [] (fun _ _ => false) (.slice none 0 0) (.slice none 0 0) [] [] 0 := ⟨g3.hle l4, ⟨⟨[], RowS.nil⟩, ⟨[], RowN.nil⟩⟩, ⟨⟨List.Pairwise.nil, by simp⟩, by simp⟩, Nat.le_refl _⟩
    have hgl := g3.glt
    obtain ⟨H5, e5⟩ := gp1_do (n := n) (nm := s) (w := H3.length) (hA.mono (l1.trans l2)) hq.2 (Nat.le_trans o1 (Nat.le_of_lt hgl)) ac.length 0 [] _ _ _ [] [] H4 (by omega) (by omega) (l3.trans l4) hS (by simpa using o2) b4 (by omega)
    rw [show iv ((0 : Nat) : Int) = .int .i64 0 from rfl] at e5
    refine ⟨H5, f1 _ _ ?_⟩
    unfold F_law10GroupPlays
    rw [bind_eq e1]
    refine step.trans ?_
    rw [cnd_b, if_neg (by simp), bind_eq e3, bind_eq e4, bind_eq hA2.len, jn_ext e5, xk_hit]
    rfl
  · refine ⟨H2', f1 _ _ ?_⟩
    unfold F_law10GroupPlays
    rw [bind_eq e1]
    refine step.trans ?_
    rw [cnd_b, if_pos rfl, bind_eq e2']
    rfl

theorem law_GroupPlays : ∀ (xs : Ins [.slc eldActT, .str]) (H : Heap) (vs : List Value), InsWf [.slc eldActT, .str] xs → InsRd [.slc eldActT, .str] xs H vs → ∃ n H', R n n_law10GroupPlays vs H = some (.bool true, H') := by
  intro xs H vs hwf hrd
  obtain ⟨l, s, _⟩ := xs
  obtain ⟨hl, _⟩ := hwf
  obtain ⟨c1, _, rfl, hc1, h1, c2, _, rfl, hc2, h2, rfl⟩ := hrd
  obtain ⟨v, rfl⟩ : ∃ v, c1 = [v] := by
    match c1, hc1 with
    | [v], _ => exact ⟨v, rfl⟩
  have h2 : c2 = [.string s] := h2
  subst h2
  obtain ⟨ac, hA, hn⟩ := rd_eldActs hl h1
  have hs : Value.string s = strv (ByteArray.data s).toList := strv_of s
  obtain ⟨H', e⟩ := gplays_core (n := 0) (s := (ByteArray.data s).toList) hA hn
  refine ⟨11, H', ?_⟩
  rw [← hs] at e
  exact e

end

end Go.Proofs.Ytmacmlpiheimhaa.A
