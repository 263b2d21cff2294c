/- The document's lists; are two rows the same; an act of both. -/
import Derived.Test.YtmacmlpiheimhaaRefEld3
namespace Go.Proofs.Ytmacmlpiheimhaa.A
set_option linter.unusedVariables false
set_option linter.unusedSimpArgs false
open Go.Proofs Go.Proofs.Ytmacmlpiheimhaa

section
variable {H0 H X : Heap} {n d b : Nat} {m ws : SMap} {k s pre : List UInt8} {wv : Value}

theorem rlist_do (hu : ws.length ≤ 1000) (hA : SlN 5 H0 wv (ws.map usr)) : ∀ (t j : Nat) (sl : Value) (q : List Nat) (acc : List (List UInt8)) (X : Heap), ws.length - j = t → j ≤ ws.length → acc.length ≤ j → HLe H0 X → (∀ i ∈ q, H0.length ≤ i) → RowS X sl (acc.map strv) q →
    ∃ X' sl' q', loopM (c5 (F_ref07List.l1 (R n))) [strv pre, sl, wv, iv ws.length, iv j] X = some (.ext 0 [sl'], X') ∧ RowS X' sl' ((acc ++ ((ws.drop j).map (·.1)).filter (preB pre)).map strv) q' ∧ HLe H0 X' ∧ ∀ i ∈ q', H0.length ≤ i
  | 0, j, sl, q, acc, X, ht, hj, ha, hle, hq, hr => by
    have : j = ws.length := by omega
    subst this
    rw [List.drop_length]
    refine ⟨X, sl, q, loop_ext ?_, by simpa using hr, hle, hq⟩
    rw [c5_r]
    unfold F_ref07List.l1
    rw [bind_eq lss_r, cnd_b, if_neg (by simp)]
    rfl
  | t + 1, j, sl, q, acc, X, ht, hj, ha, hle, hq, hr => by
    have hjl : j < ws.length := by omega
    have hlt : (j : Int) < ws.length := by omega
    have hg := List.getElem?_eq_getElem hjl
    have hd := List.drop_eq_getElem_cons hjl
    generalize ws[j] = u at hg hd
    have hf := fun {K : Value → M Out} => ufetch (k := K) (hA.mono hle) hg
    have g1 : (X ++ [AObj.cells (usr u) 1 false false])[X.length]? = some (.cells (usr u) 1 false false) := app_new
    have l1 : ld1 (pt X.length) (X ++ [.cells (usr u) 1 false false]) = some (strv u.1, X ++ [.cells (usr u) 1 false false]) := ld1_at g1 rfl
    have k1 : HLe X (X ++ [AObj.cells (usr u) 1 false false]) := .app _ _
    generalize X ++ [AObj.cells (usr u) 1 false false] = X1 at g1 l1 k1 hf
    have hr1 : RowS X1 sl _ q := hr.keep fun i hi => k1.step.keep i (hr.lt i hi) (by simp)
    have le1 := hle.trans k1
    rw [hd, List.map_cons, List.filter_cons]
    have hgo : ∀ (X3 : Heap) (sl3 : Value) (r : Option (Out × Heap)), r = some (.nrm [strv pre, sl3, wv, iv ws.length, iv ((j + 1 : Nat) : Int)], X3) →
        jn (cnd (.bool (preB pre u.1)) (bind (fa 0 (pt X.length)) fun v34x20 => bind (ld1 v34x20) fun v35x21 => bind (bsl 1 1 (.string ⟨#[]⟩) [(0, 1, v35x21)]) fun v36x22 => bind (app 1 16 sl v36x22) fun v37x23 => ret (.nrm [strv pre, v37x23, wv, iv ws.length, iv j])) (ret (.nrm [strv pre, sl, wv, iv ws.length, iv j]))) (c5 fun q24_0 q24_1 q24_2 q24_3 q24_4 => bind (bop .int .add q24_4 (Value.int .i64 1)) fun v38x25 => ret (.nrm [q24_0, q24_1, q24_2, q24_3, v38x25])) noX retR X1 = r → c5 (F_ref07List.l1 (R n)) [strv pre, sl, wv, iv ws.length, iv j] X = r := fun X3 sl3 r hr0 hr => by
      rw [c5_r]
      unfold F_ref07List.l1
      rw [bind_eq lss_r, cnd_b, if_pos (by simpa using hlt), hf, bind_eq fa_z, bind_eq l1, bind_eq lenT_v, bind_eq lenT_v, bind_eq geq_r]
      refine preB_run (s := u.1) (d := X.length) l1 rfl fun w0 w1 w2 w3 w4 w5 w6 ⟨q, hp, hq⟩ => ?_
      subst hq
      rw [c7_r, bind_eq hp]
      exact hr
    cases h : preB pre u.1
    · rw [if_neg (by simp)]
      rw [h] at hgo
      obtain ⟨X2, sl2, q2, e2, r2⟩ := rlist_do hu hA t (j + 1) sl q acc X1 (by omega) (by omega) (by omega) le1 hq hr1
      refine ⟨X2, sl2, q2, (loop_next (hgo _ _ _ rfl ?_)).trans e2, r2⟩
      refine (jn_nrm (vs := [strv pre, sl, wv, iv ws.length, iv j]) (H' := X1) ?_).trans ?_
      · rw [cnd_b, if_neg (by simp)]; rfl
      · rw [c5_r, bind_eq add_r, wsuc (by omega)]; rfl
    · rw [if_pos rfl]
      rw [h] at hgo
      have x4 := bsl1 (es := 1) (z := .string ⟨#[]⟩) (v := strv u.1) (H := X1) rfl rfl rfl
      have k2 : HLe X1 (X1 ++ [AObj.cells [strv u.1] 1 false false]) := .app _ _
      have s2 : Sl (X1 ++ [AObj.cells [strv u.1] 1 false false]) (.slice (some ⟨X1.length, 0, none⟩) 1 1) [strv u.1] := Sl.one (c := 1) app_new
      generalize X1 ++ [AObj.cells [strv u.1] 1 false false] = X2 at x4 k2 s2
      have hr2 : RowS X2 sl _ q := hr1.keep fun i hi => k2.step.keep i (hr1.lt i hi) (by simp)
      obtain ⟨sl', X3, q', x5, hr3, s3, _⟩ := hr2.push (b := 16) s2 (by simp; omega) (by simp; omega)
      have hm := (le1.trans k2).more s3 hq
      have hr3' : RowS X3 sl' ((acc ++ [u.1]).map strv) q' := by rw [List.map_append]; exact hr3
      obtain ⟨X4, sl4, q4, e4, r4, r5⟩ := rlist_do hu hA t (j + 1) sl' q' (acc ++ [u.1]) X3 (by omega) (by omega) (by simp; omega) hm.1 hm.2 hr3'
      refine ⟨X4, sl4, q4, (loop_next (hgo _ _ _ rfl ?_)).trans e4, by simpa using r4, r5⟩
      refine (jn_nrm (vs := [strv pre, sl', wv, iv ws.length, iv j]) (H' := X3) ?_).trans ?_
      · rw [cnd_b, if_pos rfl, bind_eq fa_z, bind_eq l1, bind_eq x4, bind_eq x5]; rfl
      · rw [c5_r, bind_eq add_r, wsuc (by omega)]; rfl

theorem r_refList (hu : ws.length ≤ 1000) (hA : SlN 5 X wv (ws.map usr)) (hp : pre.length ≤ 1000000000) : ∃ X' v, R (n + 4) n_ref07List [wv, strv pre] X = some (.tuple #[v, iv (errPref pre)], X') ∧ Sl X' v ((if prefB pre then (ws.map (·.1)).filter (preB pre) else []).map strv) ∧ HLe X X' := by
  have e1 : R (n + 3) n_ref05Prefix [strv pre] X = some (.bool (prefB pre), X) := r_refPrefix hp
  have f1 : ∀ r X', F_ref07List (R (n + 3)) wv (strv pre) X = some (r, X') → R (n + 4) n_ref07List [wv, strv pre] X = some (r, X') := fun r X' hr => by rw [R, run_ref07List rfl]; exact hr
  unfold errPref
  cases hpre : prefB pre
  · rw [hpre] at e1
    refine ⟨X, .slice none 0 0, f1 _ _ ?_, Sl.nil, .refl _⟩
    unfold F_ref07List
    rw [bind_eq e1, bind_eq not_r, cnd_b, if_pos (by rfl)]
    rfl
  · rw [hpre] at e1
    obtain ⟨X', sl, q, e, r, l, _⟩ := rlist_do (n := n + 3) (pre := pre) hu hA ws.length 0 (.slice none 0 0) [] [] X (by omega) (by omega) (by simp) (.refl _) (by simp) RowS.nil
    rw [List.drop_zero] at r
    have e : loopM (c5 (F_ref07List.l1 (R (n + 3)))) [strv pre, .slice none 0 0, wv, iv ws.length, .int .i64 0] X = _ := e
    have hl := hA.len (H' := X)
    rw [List.length_map] at hl
    refine ⟨X', sl, f1 _ _ ?_, r.rd, l⟩
    unfold F_ref07List
    rw [bind_eq e1, bind_eq not_r, cnd_b, if_neg (by simp), bind_eq hl, jn_ext e, xk_hit]
    rfl

/-! the same -/

theorem alc_usr {u : Ent} (X : Heap) : alc 1 (.agg (usr u).toArray) X = some (pt X.length, X ++ [.cells (usr u) 1 false false]) := by
  rw [alc_r]
  exact if_pos (show (usr u).toArray.toList.all oneCell = true from rfl)

theorem r_same {u : Ent} : ∃ X', R (n + 1) n_ref06Same [.agg (usr u).toArray, .agg (usr u).toArray] X = some (.bool true, X') ∧ HLe X X' := by
  have e1 := alc_usr (u := u) X
  have e2 := alc_usr (u := u) (X ++ [.cells (usr u) 1 false false])
  have k1 : HLe X (X ++ [AObj.cells (usr u) 1 false false] ++ [AObj.cells (usr u) 1 false false]) := (HLe.app _ _).trans (.app _ _)
  have c1 : (X ++ [AObj.cells (usr u) 1 false false] ++ [AObj.cells (usr u) 1 false false])[X.length]? = some (.cells (usr u) 1 false false) := app2_0
  have c2 : (X ++ [AObj.cells (usr u) 1 false false] ++ [AObj.cells (usr u) 1 false false])[(X ++ [AObj.cells (usr u) 1 false false]).length]? = some (.cells (usr u) 1 false false) := app_new
  generalize X ++ [AObj.cells (usr u) 1 false false] ++ [AObj.cells (usr u) 1 false false] = X2 at e2 k1 c1 c2
  generalize (X ++ [AObj.cells (usr u) 1 false false]).length = p2 at e2 c2
  generalize X.length = p1 at e1 c1
  have a0 : ∀ f x, (usr u)[f]? = some x → ld1 (pa p1 f) X2 = some (x, X2) := fun f x h => ld1_at c1 h
  have b0 : ∀ f x, (usr u)[f]? = some x → ld1 (pa p2 f) X2 = some (x, X2) := fun f x h => ld1_at c2 h
  have q0 : ∀ a : List UInt8, bop .str .neq (strv a) (strv a) X2 = some (.bool false, X2) := fun a => by rw [nes_v]; simp
  have q1 : bop .bool .neq (.bool false) (.bool false) X2 = some (.bool false, X2) := by rw [neb_r]; rfl
  have q2 : bop .int .neq (iv 0) (iv 0) X2 = some (.bool false, X2) := by rw [neq_r]; rfl
  have q3 : lenS (.slice none 0 0) X2 = some (iv 0, X2) := rfl
  refine ⟨X2, ?_, k1⟩
  rw [R, run_ref06Same rfl]
  unfold F_ref06Same
  rw [bind_eq e1, bind_eq e2, bind_eq fa_z, bind_eq (a0 0 _ rfl), bind_eq fa_z, bind_eq (b0 0 _ rfl), bind_eq (q0 _), b_g_in, b_assoc, bind_eq fa_z, b_assoc, bind_eq (a0 1 _ rfl), b_assoc, bind_eq fa_z, b_assoc, bind_eq (b0 1 _ rfl), b_assoc, bind_eq (q0 _), b_ret, c5_r, bind_eq pick_r]
  simp only [cond_false]
  rw [b_g_in, b_assoc, bind_eq fa_z, b_assoc, bind_eq (a0 2 _ rfl), b_assoc, bind_eq fa_z, b_assoc, bind_eq (b0 2 _ rfl), b_assoc, bind_eq (q0 _), b_ret, c5_r, bind_eq pick_r]
  simp only [cond_false]
  rw [b_g_in, b_assoc, bind_eq fa_z, b_assoc, bind_eq (a0 3 _ rfl), b_assoc, bind_eq fa_z, b_assoc, bind_eq (b0 3 _ rfl), b_assoc, bind_eq q1, b_ret, c5_r, bind_eq pick_r]
  simp only [cond_false]
  rw [b_g_in, b_assoc, bind_eq fa_z, b_assoc, bind_eq (a0 4 _ rfl), b_assoc, bind_eq q3, b_assoc, bind_eq fa_z, b_assoc, bind_eq (b0 4 _ rfl), b_assoc, bind_eq q3, b_assoc, bind_eq q2, b_ret, c7_r, bind_eq pick_r]
  simp only [cond_false]
  rw [cnd_b, if_neg (by simp), bind_eq fa_z, bind_eq (a0 4 _ rfl), bind_eq q3]
  refine (jn_ext (j := 0) (vs := []) (H' := X2) (loop_ext ?_)).trans ?_
  · rw [c4_r]
    unfold F_ref06Same.l1
    rw [bind_eq lss_r, cnd_b, if_neg (by decide)]
    rfl
  · rw [xk_hit]; rfl

theorem sameU_do {a c : Value} (hu : ws.length ≤ 1000) (ha : SlN 5 H0 a (ws.map usr)) (hc : SlN 5 H0 c (ws.map usr)) : ∀ (t j : Nat) (X : Heap), ws.length - j = t → j ≤ ws.length → HLe H0 X →
    ∃ X', loopM (c4 (F_law07SameUsers.l1 (R (n + 1)))) [a, c, iv ws.length, iv j] X = some (.ext 0 [], X') ∧ HLe H0 X'
  | 0, j, X, ht, hj, hle => by
    have : j = ws.length := by omega
    subst this
    refine ⟨X, loop_ext ?_, hle⟩
    rw [c4_r]
    unfold F_law07SameUsers.l1
    rw [bind_eq lss_r, cnd_b, if_neg (by simp)]
    rfl
  | t + 1, j, X, ht, hj, hle => by
    have hjl : j < ws.length := by omega
    have hlt : (j : Int) < ws.length := by omega
    have hg := List.getElem?_eq_getElem hjl
    generalize ws[j] = u at hg
    have hr : (ws.map usr)[j]? = some (usr u) := by rw [List.getElem?_map, hg]; rfl
    have hf1 := fun {K : Value → M Out} => (ha.mono hle).fetch (k := K) hr (by omega) .i64
    have hf2 := fun {K : Value → M Out} => (hc.mono hle).fetch (k := K) hr (by omega) .i64
    obtain ⟨X1, e1, l1⟩ := r_same (n := n) (X := X) (u := u)
    obtain ⟨X2, e2, l2⟩ := sameU_do hu ha hc t (j + 1) X1 (by omega) (by omega) (hle.trans l1)
    refine ⟨X2, (loop_next ?_).trans e2, l2⟩
    rw [c4_r]
    unfold F_law07SameUsers.l1
    rw [bind_eq lss_r, cnd_b, if_pos (by simpa using hlt), hf1, hf2, bind_eq e1, bind_eq not_r, cnd_b, if_neg (by simp), bind_eq add_r, wsuc (by omega)]
    rfl

theorem r_sameUsers {a c : Value} (hu : ws.length ≤ 1000) (ha : SlN 5 X a (ws.map usr)) (hc : SlN 5 X c (ws.map usr)) : ∃ X', R (n + 2) n_law07SameUsers [a, c] X = some (.bool true, X') ∧ HLe X X' := by
  obtain ⟨X', e, l⟩ := sameU_do (n := n) hu ha hc ws.length 0 X (by omega) (by omega) (.refl _)
  have e : loopM (c4 (F_law07SameUsers.l1 (R (n + 1)))) [a, c, iv ws.length, .int .i64 0] X = _ := e
  have h1 := ha.len (H' := X)
  have h2 := hc.len (H' := X)
  rw [List.length_map] at h1 h2
  refine ⟨X', ?_, l⟩
  rw [R, run_law07SameUsers rfl]
  unfold F_law07SameUsers
  rw [bind_eq h1, bind_eq h2, bind_eq neq_r, cnd_b, if_neg (by simp), bind_eq h1, jn_ext e, xk_hit]
  rfl

theorem sameT_do {a c : Value} {l : List (List UInt8)} (hu : l.length ≤ 1000) (ha : Sl X a (l.map strv)) (hc : Sl X c (l.map strv)) : ∀ (t j : Nat), l.length - j = t → j ≤ l.length →
    loopM (c4 (F_law07SameTexts.l1 (R n))) [a, c, iv l.length, iv j] X = some (.ext 0 [], X)
  | 0, j, ht, hj => by
    have : j = l.length := by omega
    subst this
    refine loop_ext ?_
    rw [c4_r]
    unfold F_law07SameTexts.l1
    rw [bind_eq lss_r, cnd_b, if_neg (by simp)]
    rfl
  | t + 1, j, ht, hj => by
    have hjl : j < l.length := by omega
    have hlt : (j : Int) < l.length := by omega
    have hg := List.getElem?_eq_getElem hjl
    generalize l[j] = x at hg
    have x1 := ha.ix (i := j) (by simpa using hjl) .i64 X
    have x2 := ha.ldx (row_at hg)
    have x3 := hc.ix (i := j) (by simpa using hjl) .i64 X
    have x4 := hc.ldx (row_at hg)
    have q0 : bop .str .neq (strv x) (strv x) X = some (.bool false, X) := by rw [nes_v]; simp
    refine (loop_next ?_).trans (sameT_do hu ha hc t (j + 1) (by omega) (by omega))
    rw [c4_r]
    unfold F_law07SameTexts.l1
    rw [bind_eq lss_r, cnd_b, if_pos (by simpa using hlt), bind_eq x1, bind_eq x2, bind_eq x3, bind_eq x4, bind_eq q0, cnd_b, if_neg (by simp), bind_eq add_r, wsuc (by omega)]
    rfl

theorem r_sameTexts {a c : Value} {l : List (List UInt8)} (hu : l.length ≤ 1000) (ha : Sl X a (l.map strv)) (hc : Sl X c (l.map strv)) : R (n + 1) n_law07SameTexts [a, c] X = some (.bool true, X) := by
  have e := sameT_do (n := n) hu ha hc l.length 0 (by omega) (by omega)
  have e : loopM (c4 (F_law07SameTexts.l1 (R n))) [a, c, iv l.length, .int .i64 0] X = _ := e
  have h1 := ha.len (H' := X)
  have h2 := hc.len (H' := X)
  rw [List.length_map] at h1 h2
  rw [R, run_law07SameTexts rfl]
  unfold F_law07SameTexts
  rw [bind_eq h1, bind_eq h2, bind_eq neq_r, cnd_b, if_neg (by simp), bind_eq h1, jn_ext e, xk_hit]
  rfl

/-! an act of both -/

def actM (a : EAct) (m : SMap) : SMap := if a.kd % 3 = 0 then createM a.nm a.hs m else if a.kd % 3 = 1 then deleteM a.nm m else setM a.nm a.hs m

theorem SlN.not_map {es : Nat} {sl : Value} {rows : List (List Value)} {α : Type} {enc : α → Value} {mm : List (List UInt8 × α)} (h : SlN es H sl rows) (hm : MapG enc H b mm) : ∀ j, own1 sl = some j → j < H.length ∧ j ≠ b := by
  intro j hj
  have hf := h.fc
  obtain ⟨a, c, rfl, h0, hh, _⟩ := h
  have : ∃ cs e g ro, H[j]? = some (.cells cs e g ro) := by
    match a, hj, hf with
    | some ⟨id, o, none⟩, hj, hf =>
      have hid : id = j := by simpa [own1] using hj
      subst hid
      simp only [fcells] at hf
      split at hf
      · rename_i h1; exact ⟨_, _, _, _, h1⟩
      · cases hf
    | some ⟨id, o, some i⟩, hj, _ => simp [own1] at hj
    | none, hj, _ => simp [own1] at hj
  obtain ⟨cs, e, g, ro, h1⟩ := this
  refine ⟨get_lt h1, ?_⟩
  rintro rfl
  obtain ⟨es, _, h2 | h2⟩ := hm.ex
  · obtain ⟨clk, h2, _⟩ := h2
    rw [h1] at h2; cases h2
  · rw [h1] at h2; cases h2

theorem SlN.stepb {es : Nat} {sl : Value} {rows : List (List Value)} {H' : Heap} (h : SlN es H sl rows) (hD : Dir H d b m) (hs : Step [b] H [b] H') : SlN es H' sl rows :=
  h.keep fun j hj => hs.keep j (h.not_map hD.g j hj).1 (by simp [(h.not_map hD.g j hj).2])

theorem r_do {a : EAct} (hD : Dir X d b m) (hA : SlN 5 X wv ((sortM m).map usr)) (hk : a.nm.length ≤ 1000000000) (hs : a.hs.length ≤ 1000000000) (hkd : a.kd ≤ 255) :
    ∃ X' v, R (n + 8) n_law07Do [pt d, wv, .agg a.cells.toArray] X = some (.tuple #[v, .bool true], X') ∧ Dir X' d b (actM a m) ∧ SlN 5 X' v ((sortM (actM a m)).map usr) ∧ Step [b] X [b] X' := by
  have e1 : alc 1 (.agg a.cells.toArray) X = some (pt X.length, X ++ [.cells a.cells 1 false false]) := by
    rw [alc_r]
    exact if_pos (show a.cells.toArray.toList.all oneCell = true from rfl)
  have k1 : HLe X (X ++ [.cells a.cells 1 false false]) := .app _ _
  have c1 : (X ++ [AObj.cells a.cells 1 false false])[X.length]? = some (.cells a.cells 1 false false) := app_new
  generalize X ++ [AObj.cells a.cells 1 false false] = X1 at e1 k1 c1
  generalize X.length = p at e1 c1
  have a0 : ∀ f x, a.cells[f]? = some x → ∀ X', HLe X1 X' → ld1 (pa p f) X' = some (x, X') := fun f x h X' hl => ld1_at (hl _ _ c1) h
  have hmod : (a.kd : Int).tmod 3 = ((a.kd % 3 : Nat) : Int) := by rw [Int.tmod_eq_emod_of_nonneg (by omega)]; omega
  have x0 : bop .int .rem (.int .u8 a.kd) (.int .u8 3) X1 = some (.int .u8 ((a.kd % 3 : Nat) : Int), X1) := by rw [rem_r, if_neg (by omega), hmod]
  have hlt : a.kd % 3 < 3 := Nat.mod_lt _ (by omega)
  have D1 := hD.hle k1
  have A1 := hA.mono k1
  have hn := hD.g.nod
  have hf : m.length ≤ 100 := Nat.le_trans hD.few (by omega)
  have zz : ∀ (z : Int) (X : Heap), bop .int .eql (iv z) (iv z) X = some (.bool true, X) := fun z X => by rw [eql_r]; simp
  have f1 : ∀ r X', F_law07Do (R (n + 7)) (pt d) wv (.agg a.cells.toArray) X = some (r, X') → R (n + 8) n_law07Do [pt d, wv, .agg a.cells.toArray] X = some (r, X') := fun r X' hr => by rw [R, run_law07Do rfl]; exact hr
  have ks := k1.step.more (o2 := [b]) (o2' := [b]) (by simp) (fun j hj => .inl hj)
  unfold actM
  by_cases h0 : a.kd % 3 = 0
  · rw [if_pos h0]
    rw [h0] at x0
    obtain ⟨X2, v, e2, r2, l2⟩ := r_refCreate (n := n + 3) hn hf hk hs A1
    obtain ⟨X3, e3, D3, s3⟩ := r_create (n := n) (k := a.nm) (s := a.hs) (D1.hle l2) hk hs
    refine ⟨X3, v, f1 _ _ ?_, D3, r2.stepb (D1.hle l2) s3, (ks.trans (l2.step.more (by simp) (fun j hj => .inl hj))).trans s3⟩
    unfold F_law07Do
    rw [bind_eq e1, bind_eq fa_z, bind_eq (a0 0 _ rfl _ (.refl _)), bind_eq x0, bind_eq eql_r, cnd_b, if_pos (by rfl), bind_eq fa_z, bind_eq (a0 1 _ rfl _ (.refl _)), bind_eq fa_z, bind_eq (a0 2 _ rfl _ (.refl _)), bind_eq e2, bind_eq extr_p0, bind_eq extr_p1, bind_eq fa_z, bind_eq (a0 1 _ rfl _ l2), bind_eq fa_z, bind_eq (a0 2 _ rfl _ l2), bind_eq e3, bind_eq (zz _ _)]
    rfl
  · rw [if_neg h0]
    have n0 : bop .int .eql (.int .u8 ((a.kd % 3 : Nat) : Int)) (.int .u8 0) X1 = some (.bool false, X1) := by rw [eql_r]; congr 2; simp; omega
    by_cases h1 : a.kd % 3 = 1
    · rw [if_pos h1]
      rw [h1] at x0 n0
      obtain ⟨X2, v, e2, r2, l2⟩ := r_refDelete (n := n + 3) hn hf hk A1
      obtain ⟨X3, e3, D3, s3⟩ := r_delete (n := n) (k := a.nm) (D1.hle l2) hk
      refine ⟨X3, v, f1 _ _ ?_, D3, r2.stepb (D1.hle l2) s3, (ks.trans (l2.step.more (by simp) (fun j hj => .inl hj))).trans s3⟩
      unfold F_law07Do
      rw [bind_eq e1, bind_eq fa_z, bind_eq (a0 0 _ rfl _ (.refl _)), bind_eq x0, bind_eq n0, cnd_b, if_neg (by simp), bind_eq eql_r, cnd_b, if_pos (by rfl), bind_eq fa_z, bind_eq (a0 1 _ rfl _ (.refl _)), bind_eq e2, bind_eq extr_p0, bind_eq extr_p1, bind_eq fa_z, bind_eq (a0 1 _ rfl _ l2), bind_eq e3, bind_eq (zz _ _)]
      rfl
    · rw [if_neg h1]
      have n1 : bop .int .eql (.int .u8 ((a.kd % 3 : Nat) : Int)) (.int .u8 1) X1 = some (.bool false, X1) := by rw [eql_r]; congr 2; simp; omega
      obtain ⟨X2, v, e2, r2, l2⟩ := r_refSet (n := n + 3) hn hf hk hs A1
      obtain ⟨X3, e3, D3, s3⟩ := r_setHash (n := n) (k := a.nm) (s := a.hs) (D1.hle l2) hk hs
      refine ⟨X3, v, f1 _ _ ?_, D3, r2.stepb (D1.hle l2) s3, (ks.trans (l2.step.more (by simp) (fun j hj => .inl hj))).trans s3⟩
      unfold F_law07Do
      rw [bind_eq e1, bind_eq fa_z, bind_eq (a0 0 _ rfl _ (.refl _)), bind_eq x0, bind_eq n0, cnd_b, if_neg (by simp), bind_eq n1, cnd_b, if_neg (by simp), bind_eq fa_z, bind_eq (a0 1 _ rfl _ (.refl _)), bind_eq fa_z, bind_eq (a0 2 _ rfl _ (.refl _)), bind_eq e2, bind_eq extr_p0, bind_eq extr_p1, bind_eq fa_z, bind_eq (a0 1 _ rfl _ l2), bind_eq fa_z, bind_eq (a0 2 _ rfl _ l2), bind_eq e3, bind_eq (zz _ _)]
      rfl

end

end Go.Proofs.Ytmacmlpiheimhaa.A
