/- Behind any deeds each answer, all users, each look-up and each list are the document's. -/
import Derived.Test.YtmacmlpiheimhaaRefEld4
namespace Go.Proofs.Ytmacmlpiheimhaa.A
set_option linter.unusedVariables false
set_option linter.unusedSimpArgs false
open Go.Proofs Go.Proofs.Ytmacmlpiheimhaa

/-- An act, in a round. -/
noncomputable def actBody (Γ : Funs) (s1 s2 s7 s8 s43 s44 s45 v10x21 v51x24 v67x25 : Value) : M Out :=
  cnd v67x25
  (bind (Γ n_elderDirCopy [s7]) fun v69x26 =>
  bind (fa 1 v10x21) fun v71x27 =>
  bind (ld1 v71x27) fun v72x28 =>
  bind (fa 2 v10x21) fun v73x29 =>
  bind (ld1 v73x29) fun v74x30 =>
  bind (Γ n_elderDirCreate [v69x26, v72x28, v74x30]) fun v75x31 =>
  bind (Γ n_elderDirDelete [v69x26, (Value.string ⟨#[97, 110, 110]⟩)]) fun v77x32 =>
  ret (.nrm [s1, s2, s7, s8, v10x21, (Value.bool true), s43, s44, s45]))
  (bind (bop .int .eql v51x24 (Value.int .u8 4)) fun v79x33 =>
  jn (cnd v79x33
  (bind (Γ n_elderDirCopy [s7]) fun v81x34 =>
  bind (fa 1 v10x21) fun v83x35 =>
  bind (ld1 v83x35) fun v84x36 =>
  bind (fa 2 v10x21) fun v85x37 =>
  bind (ld1 v85x37) fun v86x38 =>
  bind (Γ n_elderDirCreate [s7, v84x36, v86x38]) fun v87x39 =>
  ret (.nrm [s1, s2, v81x34, s8, v10x21, (Value.bool true), s43, s44, s45]))
  (bind (fa 0 v10x21) fun v55x40 =>
  bind (ld1 v55x40) fun v56x41 =>
  bind (bop .int .rem v56x41 (Value.int .u8 5)) fun v57x42 =>
  bind (fa 1 v10x21) fun v58x43 =>
  bind (ld1 v58x43) fun v59x44 =>
  bind (fa 2 v10x21) fun v60x45 =>
  bind (ld1 v60x45) fun v61x46 =>
  bind (bld (.agg #[.int .u8 0, .string ⟨#[]⟩, .string ⟨#[]⟩]) [(0, 1, v57x42), (1, 1, v59x44), (2, 1, v61x46)]) fun v62x47 =>
  bind (Γ n_law07Do [s7, s8, v62x47]) fun v63x48 =>
  bind (extr v63x48 0) fun v64x49 =>
  bind (extr v63x48 1) fun v65x50 =>
  ret (.nrm [s1, s2, s7, v64x49, v10x21, v65x50, s43, s44, s45]))) (c9 fun q51_0 q51_1 q51_2 q51_3 q51_4 q51_5 q51_6 q51_7 q51_8 =>
  ret (.nrm [q51_0, q51_1, q51_2, q51_3, q51_4, q51_5, q51_6, q51_7, q51_8])) noX retR)

/-- What holds between two acts. -/
structure EInv (H0 X : Heap) (dv wv : Value) : Prop where
  ex : ∃ d b m, dv = pt d ∧ Dir X d b m ∧ SlN 5 X wv ((sortM m).map usr) ∧ H0.length ≤ b
  le : HLe H0 X

section
variable {H0 H X : Heap} {n : Nat} {ac : List EAct} {wv dv sl : Value} {nm pre : List UInt8}

theorem EInv.hle {X' : Heap} (h : EInv H0 X dv wv) (hl : HLe X X') : EInv H0 X' dv wv := by
  obtain ⟨d, b, m, h1, h2, h3, h4⟩ := h.ex
  exact ⟨⟨d, b, m, h1, h2.hle hl, h3.mono hl, h4⟩, h.le.trans hl⟩

theorem act_do {a : EAct} {p : Nat} {s43 s44 s45 s1 s2 : Value} (hI : EInv H0 X dv wv) (hc : X[p]? = some (.cells a.cells 1 false false)) (hk : a.nm.length ≤ 1000000000) (hs : a.hs.length ≤ 1000000000) (hkd : a.kd ≤ 255) :
    ∃ X' dv' wv', actBody (R (n + 8)) s1 s2 dv wv s43 s44 s45 (pt p) (.int .u8 ((a.kd % 5 : Nat) : Int)) (.bool (decide (a.kd % 5 = 3))) X = some (.nrm [s1, s2, dv', wv', pt p, .bool true, s43, s44, s45], X') ∧ EInv H0 X' dv' wv' ∧ X'[p]? = some (.cells a.cells 1 false false) := by
  obtain ⟨⟨d, b, m, rfl, hD, hA, hb⟩, hle⟩ := hI
  have a0 : ∀ f x, a.cells[f]? = some x → ∀ X', X'[p]? = some (.cells a.cells 1 false false) → ld1 (pa p f) X' = some (x, X') := fun f x h X' hl => ld1_at hl h
  have hlt : a.kd % 5 < 5 := Nat.mod_lt _ (by omega)
  have hpb : p ≠ b := by
    rintro rfl
    obtain ⟨es, _, h2 | h2⟩ := hD.g.ex
    · obtain ⟨clk, h2, _⟩ := h2
      rw [hc] at h2; cases h2
    · rw [hc] at h2; cases h2
  have hlb := hD.lt
  unfold actBody
  by_cases h3 : a.kd % 5 = 3
  · rw [decide_eq_true h3, cnd_b, if_pos rfl]
    obtain ⟨X1, d', b', e1, D1, l1, o1, o2⟩ := r_copy (n := n + 6) hD
    obtain ⟨X2, e2, D2, t2⟩ := r_create (n := n + 1) (k := a.nm) (s := a.hs) D1 hk hs
    obtain ⟨X3, e3, D3, s3⟩ := r_delete (n := n + 1) (k := [97, 110, 110]) D2 (by decide)
    have s13 := t2.trans s3
    have e1 : R (n + 8) n_elderDirCopy [pt d] X = _ := e1
    have e2 : R (n + 8) n_elderDirCreate [pt d', strv a.nm, strv a.hs] X1 = _ := e2
    have e3 : R (n + 8) n_elderDirDelete [pt d', .string ⟨#[97, 110, 110]⟩] X2 = _ := e3
    have D0 : Dir X3 d b m := (hD.hle l1).step s13 (by simp; omega) (by simp; omega)
    have A0 := (hA.mono l1).keep fun j hj => s13.keep j ((hA.mono l1).not_map (hD.hle l1).g j hj).1 (by have := (hA.not_map hD.g j hj).1; simp; omega)
    have hm := l1.more s13 (by simpa using o2)
    have hpl := get_lt hc
    refine ⟨X3, pt d, wv, ?_, ⟨⟨d, b, m, rfl, D0, A0, hb⟩, hle.trans hm.1⟩, s13.get (l1 _ _ hc) (by simp; omega)⟩
    rw [bind_eq e1, bind_eq fa_z, bind_eq (a0 1 _ rfl _ (l1 _ _ hc)), bind_eq fa_z, bind_eq (a0 2 _ rfl _ (l1 _ _ hc)), bind_eq e2, bind_eq e3]
    rfl
  · rw [decide_eq_false h3, cnd_b, if_neg (by simp), bind_eq eql_r]
    by_cases h4 : a.kd % 5 = 4
    · have q4 : (((a.kd % 5 : Nat) : Int) == 4) = true := by rw [h4]; rfl
      obtain ⟨X1, d', b', e1, D1, l1, o1, o2⟩ := r_copy (n := n + 6) hD
      obtain ⟨X2, e2, D2, t2⟩ := r_create (n := n + 1) (k := a.nm) (s := a.hs) (hD.hle l1) hk hs
      have e1 : R (n + 8) n_elderDirCopy [pt d] X = _ := e1
      have e2 : R (n + 8) n_elderDirCreate [pt d, strv a.nm, strv a.hs] X1 = _ := e2
      have D0 : Dir X2 d' b' m := D1.step t2 (by simp; omega) (by simp; omega)
      have hm := (hle.trans l1).more t2 (by simpa using hb)
      refine ⟨X2, pt d', wv, ?_, ⟨⟨d', b', m, rfl, D0, (hA.mono l1).stepb (hD.hle l1) t2, by have := hle.len; omega⟩, hm.1⟩, t2.get (l1 _ _ hc) (by simp [hpb])⟩
      rw [q4]
      refine (jn_nrm (vs := [s1, s2, pt d', wv, pt p, .bool true, s43, s44, s45]) (H' := X2) ?_).trans ?_
      · rw [cnd_b, if_pos rfl, bind_eq e1, bind_eq fa_z, bind_eq (a0 1 _ rfl _ (l1 _ _ hc)), bind_eq fa_z, bind_eq (a0 2 _ rfl _ (l1 _ _ hc)), bind_eq e2]
        rfl
      · rw [c9_r]; rfl
    · have q4 : (((a.kd % 5 : Nat) : Int) == 4) = false := by rw [beq_eq_false_iff_ne]; omega
      obtain ⟨X2, v, e2, D2, A2, t2⟩ := r_do (n := n) (a := ⟨a.kd % 5, a.nm, a.hs⟩) hD hA hk hs (show a.kd % 5 ≤ 255 by omega)
      have hmod : (a.kd : Int).tmod 5 = ((a.kd % 5 : Nat) : Int) := by rw [Int.tmod_eq_emod_of_nonneg (by omega)]; omega
      have x0 : bop .int .rem (.int .u8 a.kd) (.int .u8 5) X = some (.int .u8 ((a.kd % 5 : Nat) : Int), X) := by rw [rem_r, if_neg (by omega), hmod]
      have x1 : bld (.agg #[.int .u8 0, .string ⟨#[]⟩, .string ⟨#[]⟩]) [(0, 1, .int .u8 ((a.kd % 5 : Nat) : Int)), (1, 1, strv a.nm), (2, 1, strv a.hs)] X = some (.agg (EAct.cells ⟨a.kd % 5, a.nm, a.hs⟩).toArray, X) := by
        simp [↓bind_andk, andk_some, ↓jn_outk, outk_nrm, outk_ext, outk_ret, ↓cnd_b, ret_r, nilc_r, fa_r, ldOne_r, ldA_r, stOne_r, stA_r, rdk_r, rdkA_r, wrk_r, wrkA_r, alc_r, lenS_r, lenT_r, cvi_r, pick_r, not_r, mx_r, mn_r, ixa_r, ixaA_r, bld_r, add_r, sub_r, mul_r, quo_r, rem_r, eql_r, neq_r, lss_r, leq_r, gtr_r, geq_r, eqb_r, neb_r, eqp_r, nep_r, ↓gv_r, gvn_r, ↓g_r, gn_r, isTup, bldC, splice, Value.cells, strv, oneCell]
      have hm := hle.more t2 (by simpa using hb)
      refine ⟨X2, pt d, v, ?_, ⟨⟨d, b, _, rfl, D2, A2, hb⟩, hm.1⟩, t2.get hc (by simp [hpb])⟩
      rw [q4]
      refine (jn_nrm (vs := [s1, s2, pt d, v, pt p, .bool true, s43, s44, s45]) (H' := X2) ?_).trans ?_
      · rw [cnd_b, if_neg (by simp), bind_eq fa_z, bind_eq (a0 0 _ rfl _ hc), bind_eq x0, bind_eq fa_z, bind_eq (a0 1 _ rfl _ hc), bind_eq fa_z, bind_eq (a0 2 _ rfl _ hc), bind_eq x1, bind_eq e2, bind_eq extr_p0, bind_eq extr_p1]
        rfl
      · rw [c9_r]; rfl

/-- Each of those is looked up. -/
theorem look_do {nv s1 s2 s43 s44 s45 : Value} {l : List (List UInt8)} (hl : l.length ≤ 1000) (hb : ∀ x ∈ l, x.length ≤ 1000000000) (hN : Sl X nv (l.map strv)) : ∀ (t j : Nat) (X1 : Heap), l.length - j = t → j ≤ l.length → EInv H0 X1 dv wv → HLe X X1 →
    ∃ X', loopM (c10 (F_law07ElderPlays.l2 (R (n + 8)))) [s1, s2, dv, wv, s43, s44, s45, nv, iv l.length, iv j] X1 = some (.ext 3 [s1, s2, dv, wv, s43, s44, s45], X') ∧ HLe X1 X'
  | 0, j, X1, ht, hj, hI, hX => by
    have : j = l.length := by omega
    subst this
    refine ⟨X1, loop_ext ?_, .refl _⟩
    rw [c10_r]
    unfold F_law07ElderPlays.l2
    rw [bind_eq lss_r, cnd_b, if_neg (by simp)]
    rfl
  | t + 1, j, X1, ht, hj, hI, hX => by
    have hjl : j < l.length := by omega
    have hlt : (j : Int) < l.length := by omega
    have hg := List.getElem?_eq_getElem hjl
    have hm := List.getElem_mem hjl
    generalize l[j] = x at hg hm
    obtain ⟨d, b, m, hdv, hD, hA, hb0⟩ := hI.ex
    have x1 := (hN.mono hX).ix (i := j) (by simpa using hjl) .i64 X1
    have x2 := (hN.mono hX).ldx (row_at hg)
    obtain ⟨X2, e2, l2⟩ := r_lookup (n := n + 1) (k := x) hD (hb x hm)
    obtain ⟨X3, e3, l3⟩ := r_refLookup (n := n + 4) (k := x) hD.g.nod (Nat.le_trans hD.few (by omega)) (hb x hm) (hA.mono l2)
    have e2 : R (n + 8) n_elderDirLookup [pt d, strv x] X1 = _ := e2
    rw [← hdv] at e2
    have e3 : R (n + 8) n_ref07Lookup [wv, strv x] X2 = _ := e3
    obtain ⟨X4, e4, l4⟩ := look_do (s1 := s1) (s2 := s2) (s43 := s43) (s44 := s44) (s45 := s45) hl hb hN t (j + 1) X3 (by omega) (by omega) (hI.hle (l2.trans l3)) (hX.trans (l2.trans l3))
    refine ⟨X4, (loop_next ?_).trans e4, (l2.trans l3).trans l4⟩
    have q1 : ∀ a : List UInt8, bop .str .neq (strv a) (strv a) X3 = some (.bool false, X3) := fun a => by rw [nes_v]; simp
    have q2 : ∀ a : Int, bop .int .neq (iv a) (iv a) X3 = some (.bool false, X3) := fun a => by rw [neq_r]; simp
    rw [c10_r]
    unfold F_law07ElderPlays.l2
    rw [bind_eq lss_r, cnd_b, if_pos (by simpa using hlt), bind_eq x1, bind_eq x2, bind_eq e2, bind_eq extr_p0, bind_eq extr_p1, bind_eq e3, bind_eq extr_p0, bind_eq extr_p1, bind_eq (q1 _), b_g_in, b_assoc, bind_eq (q2 _), b_ret, c3_r, bind_eq pick_r]
    simp only [cond_false]
    rw [cnd_b, if_neg (by simp), bind_eq add_r, wsuc (by omega)]
    rfl

theorem bsl2s {a c : List UInt8} (H : Heap) : bsl 1 2 (.string ⟨#[]⟩) [(0, 1, strv a), (1, 1, strv c)] H = some (.slice (some ⟨H.length, 0, none⟩) 2 2, H ++ [.cells [strv a, strv c] 1 false false]) := rfl

theorem plays_do (hA : EActs H0 sl ac) (hn : ac.length ≤ 60) (hp : ∀ a ∈ ac, fewA a = true) (h1 : nm.length ≤ 50) (h2 : pre.length ≤ 50) : ∀ (t k : Nat) (X : Heap) (dv wv : Value), ac.length - k = t → k ≤ ac.length → EInv H0 X dv wv →
    ∃ X', loopM (c7 (F_law07ElderPlays.l1 (R (n + 8)))) [strv nm, strv pre, dv, wv, sl, iv ac.length, iv k] X = some (.ext 0 [], X')
  | 0, k, X, dv, wv, ht, hk, hI => by
    have : k = ac.length := by omega
    subst this
    refine ⟨X, loop_ext ?_⟩
    rw [c7_r]
    unfold F_law07ElderPlays.l1
    rw [bind_eq lss_r, cnd_b, if_neg (by simp)]
    rfl
  | t + 1, k, X, dv, wv, ht, hk, hI => by
    have hkl : k < ac.length := by omega
    have hlt : (k : Int) < ac.length := by omega
    have hja := List.getElem?_eq_getElem hkl
    have hma := List.getElem_mem hkl
    generalize ac[k] = a at hja hma
    have g1 : (X ++ [AObj.cells a.cells 1 false false])[X.length]? = some (.cells a.cells 1 false false) := app_new
    have hf := fun {K : Value → M Out} => (hA.mono hI.le).fetch (k := K) hja
    have k1 : HLe X (X ++ [AObj.cells a.cells 1 false false]) := .app _ _
    generalize X ++ [AObj.cells a.cells 1 false false] = X1 at g1 k1 hf
    generalize X.length = p at g1 hf
    have hfa := hp a hma
    unfold fewA at hfa
    simp only [Bool.and_eq_true, decide_eq_true_eq] at hfa
    have hkd := hA.2 a hma
    have hmod : (a.kd : Int).tmod 5 = ((a.kd % 5 : Nat) : Int) := by rw [Int.tmod_eq_emod_of_nonneg (by omega)]; omega
    have x0 : bop .int .rem (.int .u8 a.kd) (.int .u8 5) X1 = some (.int .u8 ((a.kd % 5 : Nat) : Int), X1) := by rw [rem_r, if_neg (by omega), hmod]
    have x1 : bop .int .eql (.int .u8 ((a.kd % 5 : Nat) : Int)) (.int .u8 3) X1 = some (.bool (decide (a.kd % 5 = 3)), X1) := by
      rw [eql_r]
      congr 2
      exact congrArg Value.bool (int_nat_beq (b := 3))
    have a0 : ld1 (pa p 0) X1 = some (.int .u8 a.kd, X1) := ld1_at g1 rfl
    obtain ⟨X2, dv2, wv2, e2, hI2, g2⟩ := act_do (n := n) (s1 := strv nm) (s2 := strv pre) (s43 := sl) (s44 := iv ac.length) (s45 := iv k) (hI.hle k1) g1 (by omega) (by omega) hkd
    obtain ⟨d, b, m, rfl, hD, hW, hb⟩ := hI2.ex
    have e3 := r_len (n := n + 7) hD
    have e3 : R (n + 8) n_elderDirLen [pt d] X2 = _ := e3
    have e4 := hW.len (H' := X2)
    rw [List.length_map, sortM_len] at e4
    have hm12 := hD.few
    have q1 : bop .int .neq (iv m.length) (iv m.length) X2 = some (.bool false, X2) := by rw [neq_r]; simp
    obtain ⟨av, qa, X3, e5, r5, l5, o5⟩ := r_eldAll (n := n + 5) hD
    have e5 : R (n + 8) n_elderDirAll [pt d] X2 = _ := e5
    obtain ⟨X4, e6, l6⟩ := r_sameUsers (n := n + 6) (by rw [sortM_len]; omega) r5.rd (hW.mono l5)
    have e6 : R (n + 8) n_law07SameUsers [av, wv2] X3 = _ := e6
    have l56 := l5.trans l6
    have a1 : ld1 (pa p 1) X4 = some (strv a.nm, X4) := ld1_at (l56 _ _ g2) rfl
    have e7 := bsl2s (a := nm) (c := a.nm) X4
    have l7 : HLe X4 (X4 ++ [AObj.cells [strv nm, strv a.nm] 1 false false]) := .app _ _
    have s7 : Sl (X4 ++ [AObj.cells [strv nm, strv a.nm] 1 false false]) (.slice (some ⟨X4.length, 0, none⟩) 2 2) ([nm, a.nm].map strv) := Sl.one (c := 2) app_new
    generalize X4 ++ [AObj.cells [strv nm, strv a.nm] 1 false false] = X5 at e7 l7 s7
    generalize (Value.slice (some ⟨X4.length, 0, none⟩) 2 2) = nv at e7 s7
    have l25 := l56.trans l7
    have e8 : lenS nv X5 = some (iv (2 : Nat), X5) := s7.len
    obtain ⟨X6, e9, l9⟩ := look_do (n := n) (s1 := strv nm) (s2 := strv pre) (s43 := sl) (s44 := iv ac.length) (s45 := iv k) (l := [nm, a.nm]) (by simp) (by
      intro x hx
      simp only [List.mem_cons, List.not_mem_nil, or_false] at hx
      rcases hx with rfl | rfl <;> omega) s7 2 0 X5 rfl (by simp) (hI2.hle l25) (.refl _)
    have e9 : loopM (c10 (F_law07ElderPlays.l2 (R (n + 8)))) [strv nm, strv pre, pt d, wv2, sl, iv ac.length, iv k, nv, iv (2 : Nat), .int .i64 0] X5 = _ := e9
    have l26 := l25.trans l9
    obtain ⟨lv, ql, X7, e10, r10, l10, o10⟩ := r_eldList (n := n + 2) (pre := pre) (hD.hle l26) (by omega)
    have e10 : R (n + 8) n_elderDirList [pt d, strv pre] X6 = _ := e10
    obtain ⟨X8, lv2, e11, r11, l11⟩ := r_refList (n := n + 4) (pre := pre) (by rw [sortM_len]; omega) ((hW.mono l26).mono l10) (by omega)
    have e11 : R (n + 8) n_ref07List [wv2, strv pre] X7 = _ := e11
    rw [sortM_keys] at r11
    have hlen : (if prefB pre then (ksort (m.map (·.1))).filter (preB pre) else []).length ≤ 1000 := by
      split
      · refine Nat.le_trans (List.length_filter_le _ _) ?_
        rw [ksort_len, List.length_map]; omega
      · simp
    have e12 : R (n + 8) n_law07SameTexts [lv, lv2] X8 = _ := r_sameTexts (n := n + 7) hlen (r10.rd.mono l11) r11
    have q2 : bop .int .neq (iv (errPref pre)) (iv (errPref pre)) X8 = some (.bool false, X8) := by rw [neq_r]; simp
    obtain ⟨X9, e13⟩ := plays_do hA hn hp h1 h2 t (k + 1) X8 (pt d) wv2 (by omega) (by omega) (hI2.hle (l26.trans (l10.trans l11)))
    refine ⟨X9, (loop_next ?_).trans e13⟩
    rw [c7_r]
    unfold F_law07ElderPlays.l1
    rw [bind_eq lss_r, cnd_b, if_pos (by simpa using hlt), hf, bind_eq fa_z, bind_eq a0, bind_eq x0, bind_eq x1]
    refine (jn_nrm (m := actBody (R (n + 8)) (strv nm) (strv pre) dv wv sl (iv ac.length) (iv k) (pt p) (.int .u8 ((a.kd % 5 : Nat) : Int)) (.bool (decide (a.kd % 5 = 3)))) e2).trans ?_
    rw [c9_r, bind_eq not_r]
    simp only [Bool.not_true]
    rw [b_g_in, b_assoc, bind_eq e3, b_assoc, bind_eq e4, b_assoc, bind_eq q1, b_ret, c5_r, bind_eq pick_r]
    simp only [cond_false]
    rw [b_g_in, b_assoc, bind_eq e5, b_assoc, bind_eq e6, b_assoc, bind_eq not_r, b_ret, c5_r, bind_eq pick_r]
    simp only [cond_false]
    rw [cnd_b, if_neg (by simp), bind_eq fa_z, bind_eq a1, bind_eq e7, bind_eq e8, jn_ext e9, xk_hit, c7_r, bind_eq e10, bind_eq extr_p0, bind_eq extr_p1, bind_eq e11, bind_eq extr_p0, bind_eq extr_p1, bind_eq q2, b_g_in, b_assoc, bind_eq e12, b_assoc, bind_eq not_r, b_ret, c4_r, bind_eq pick_r]
    simp only [cond_false]
    rw [cnd_b, if_neg (by simp), bind_eq add_r, wsuc (by omega)]
    rfl

theorem plays_core (hA : EActs H sl ac) (hn : ac.length ≤ 9223372036854775807) : ∃ H', R (n + 9) n_law07ElderPlays [sl, strv nm, strv pre] H = some (.bool true, H') := by
  obtain ⟨H1, e1, l1⟩ := r_lives (n := n) (H := H)
  obtain ⟨H2, e2, l2⟩ := r_few (n := n + 7) (hA.mono l1) hn
  obtain ⟨H3, e3, l3⟩ := r_lives (n := n) (H := H2)
  have e1 : R (n + 8) n_law07Lives [] H = _ := e1
  have e2 : R (n + 8) n_law07Few [sl] H1 = _ := e2
  have e3 : R (n + 8) n_law07Lives [] H2 = _ := e3
  have f1 : ∀ r H', F_law07ElderPlays (R (n + 8)) sl (strv nm) (strv pre) H = some (r, H') → R (n + 9) n_law07ElderPlays [sl, strv nm, strv pre] H = some (r, H') := fun r H' hr => by
    rw [R, run_law07ElderPlays rfl]; exact hr
  cases hok : ac.all fewA && decide (ac.length ≤ 60) && decide (nm.length ≤ 50) && decide (pre.length ≤ 50)
  · refine ⟨H3, f1 _ _ ?_⟩
    unfold F_law07ElderPlays
    rw [bind_eq e1, bind_eq not_r]
    simp only [Bool.not_true]
    refine (guard _ e2).trans ?_
    rw [hok, cnd_b, if_pos (by rfl), bind_eq e3]
    rfl
  · simp only [Bool.and_eq_true, decide_eq_true_eq] at hok
    obtain ⟨⟨⟨hfew, h60⟩, hp50⟩, hm50⟩ := hok
    have hfew' : ∀ a ∈ ac, fewA a = true := List.all_eq_true.1 hfew
    have hk12 := hA.mono (l1.trans l2)
    obtain ⟨H4, d, b, e4, D4, l4, o1, o2⟩ := r_eldNew (n := n + 7) (H := H2)
    have e4 : R (n + 8) n_elderNew [] H2 = _ := e4
    have hs0 : sortM [] = [] := by
      have := sortM_len (m := [])
      exact List.eq_nil_of_length_eq_zero this
    have hI : EInv H2 H4 (pt d) (.slice none 0 0) := ⟨⟨d, b, [], rfl, D4, by rw [hs0]; exact SlN.nil, o2⟩, l4⟩
    obtain ⟨H5, e5⟩ := plays_do (n := n) hk12 h60 hfew' hp50 hm50 ac.length 0 H4 (pt d) (.slice none 0 0) (by omega) (by omega) hI
    have e5 : loopM (c7 (F_law07ElderPlays.l1 (R (n + 8)))) [strv nm, strv pre, pt d, .slice none 0 0, sl, iv ac.length, .int .i64 0] H4 = _ := e5
    have el := hA.len (H' := H4)
    refine ⟨H5, f1 _ _ ?_⟩
    unfold F_law07ElderPlays
    rw [bind_eq e1, bind_eq not_r]
    simp only [Bool.not_true]
    refine (guard _ e2).trans ?_
    rw [hfew, decide_eq_true h60, decide_eq_true hp50, decide_eq_true hm50, cnd_b, if_neg (by simp), bind_eq e4, bind_eq el, jn_ext e5, xk_hit]
    rfl

theorem law_ElderPlays : ∀ (xs : Ins [.slc eldActT, .str, .str]) (H : Heap) (vs : List Value), InsWf [.slc eldActT, .str, .str] xs → InsRd [.slc eldActT, .str, .str] xs H vs → ∃ n H', R n n_law07ElderPlays vs H = some (.bool true, H') := by
  intro xs H vs hwf hrd
  obtain ⟨l, s, t, _⟩ := xs
  obtain ⟨hl, _, _, _⟩ := hwf
  obtain ⟨c1, _, rfl, hc1, h1, c2, _, rfl, hc2, h2, c3, _, rfl, hc3, h3, rfl⟩ := hrd
  have h2 : c2 = [.string s] := h2
  have h3 : c3 = [.string t] := h3
  subst h2
  subst h3
  obtain ⟨a, rfl⟩ : ∃ a, c1 = [a] := by
    match c1, hc1 with
    | [a], _ => exact ⟨a, rfl⟩
  obtain ⟨ac, hA, hn⟩ := rd_eldActs hl h1
  have hs : Value.string s = strv (ByteArray.data s).toList := strv_of s
  have ht : Value.string t = strv (ByteArray.data t).toList := strv_of t
  obtain ⟨H', e⟩ := plays_core (n := 0) (nm := (ByteArray.data s).toList) (pre := (ByteArray.data t).toList) hA hn
  refine ⟨9, H', ?_⟩
  rw [← hs, ← ht] at e
  exact e

end

end Go.Proofs.Ytmacmlpiheimhaa.A
