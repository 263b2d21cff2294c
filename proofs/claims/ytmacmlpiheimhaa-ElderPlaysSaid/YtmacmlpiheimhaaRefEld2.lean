/- What the document's directory does. -/
import Derived.Test.YtmacmlpiheimhaaRefEld
namespace Go.Proofs.Ytmacmlpiheimhaa.A
set_option linter.unusedVariables false
set_option linter.unusedSimpArgs false
open Go.Proofs Go.Proofs.Ytmacmlpiheimhaa

section
variable {H0 H X : Heap} {n d b : Nat} {m ws : SMap} {k s : List UInt8} {wv : Value}

theorem rdrop_do (hu : ws.length ≤ 1000) (hA : SlN 5 H0 wv (ws.map usr)) : ∀ (t j : Nat) (sl : Value) (q : List Nat) (acc : SMap) (X : Heap), ws.length - j = t → j ≤ ws.length → acc.length ≤ j → HLe H0 X → (∀ i ∈ q, H0.length ≤ i) → RowN 5 X sl (acc.map usr) q →
    ∃ X' sl' q', loopM (c5 (F_ref07Drop.l1 (R n))) [strv k, sl, wv, iv ws.length, iv j] X = some (.ext 0 [sl'], X') ∧ RowN 5 X' sl' ((acc ++ (ws.drop j).filter fun v => decide (v.1 ≠ k)).map usr) q' ∧ HLe H0 X' ∧ ∀ i ∈ q', H0.length ≤ i
  | 0, j, sl, q, acc, X, ht, hj, ha, hle, hq, hr => by
    have : j = ws.length := by omega
    subst this
    rw [List.drop_length]
    refine ⟨X, sl, q, loop_ext ?_, by simpa using hr, hle, hq⟩
    rw [c5_r]
    unfold F_ref07Drop.l1
    rw [bind_eq lss_r, cnd_b, if_neg (by simp)]
    rfl
  | t + 1, j, sl, q, acc, X, ht, hj, ha, hle, hq, hr => by
    have hjl : j < ws.length := by omega
    have hlt : (j : Int) < ws.length := by omega
    have hg := List.getElem?_eq_getElem hjl
    have hd := List.drop_eq_getElem_cons hjl
    generalize ws[j] = u at hg hd
    have hf := fun {K : Value → M Out} => ufetch (k := K) (hA.mono hle) hg
    have g1 : (X ++ [AObj.cells (usr u) 1 false false])[X.length]? = some (.cells (usr u) 1 false false) := app_new
    have l1 : ld1 (pt X.length) (X ++ [.cells (usr u) 1 false false]) = some (strv u.1, X ++ [.cells (usr u) 1 false false]) := ld1_at g1 rfl
    have k1 : HLe X (X ++ [AObj.cells (usr u) 1 false false]) := .app _ _
    generalize X ++ [AObj.cells (usr u) 1 false false] = X1 at g1 l1 k1 hf
    have hr1 : RowN 5 X1 sl _ q := hr.keep fun i hi => k1.step.keep i (hr.lt i hi) (by simp)
    rw [hd, List.filter_cons]
    by_cases h : u.1 = k
    · rw [if_neg (by simpa using h)]
      obtain ⟨X2, sl2, q2, e2, r2⟩ := rdrop_do hu hA t (j + 1) sl q acc X1 (by omega) (by omega) (by omega) (hle.trans k1) hq hr1
      refine ⟨X2, sl2, q2, (loop_next ?_).trans e2, r2⟩
      have q1 : bop .str .neq (strv u.1) (strv k) X1 = some (.bool false, X1) := by rw [nes_v, h]; simp
      rw [c5_r]
      unfold F_ref07Drop.l1
      rw [bind_eq lss_r, cnd_b, if_pos (by simpa using hlt), hf, bind_eq fa_z, bind_eq l1, bind_eq q1]
      refine (jn_nrm (vs := [strv k, sl, wv, iv ws.length, iv j]) (H' := X1) ?_).trans ?_
      · rw [cnd_b, if_neg (by simp)]; rfl
      · rw [c5_r, bind_eq add_r, wsuc (by omega)]; rfl
    · rw [if_pos (by simpa using h)]
      obtain ⟨w, X2, sl', X3, q', a1, a2, a3, hr3, le3, o3, _⟩ := upush hr1 (by omega) g1 hq (hle.trans k1)
      obtain ⟨X4, sl4, q4, e4, r4, r5⟩ := rdrop_do hu hA t (j + 1) sl' q' (acc ++ [u]) X3 (by omega) (by omega) (by simp; omega) le3 o3 hr3
      refine ⟨X4, sl4, q4, (loop_next ?_).trans e4, by simpa using r4, r5⟩
      have q1 : bop .str .neq (strv u.1) (strv k) X1 = some (.bool true, X1) := by rw [nes_v, beq_eq_false_iff_ne.2 h]; rfl
      rw [c5_r]
      unfold F_ref07Drop.l1
      rw [bind_eq lss_r, cnd_b, if_pos (by simpa using hlt), hf, bind_eq fa_z, bind_eq l1, bind_eq q1]
      refine (jn_nrm (vs := [strv k, sl', wv, iv ws.length, iv j]) (H' := X3) ?_).trans ?_
      · rw [cnd_b, if_pos rfl, bind_eq a1, bind_eq a2, bind_eq a3]; rfl
      · rw [c5_r, bind_eq add_r, wsuc (by omega)]; rfl

theorem r_drop (hu : ws.length ≤ 1000) (hA : SlN 5 X wv (ws.map usr)) : ∃ X' v, R (n + 1) n_ref07Drop [wv, strv k] X = some (v, X') ∧ SlN 5 X' v ((ws.filter fun v => decide (v.1 ≠ k)).map usr) ∧ HLe X X' := by
  obtain ⟨X', sl, q, e, r, l, _⟩ := rdrop_do (n := n) (k := k) hu hA ws.length 0 (.slice none 0 0) [] [] X (by omega) (by omega) (by simp) (.refl _) (by simp) RowN.nil
  rw [List.drop_zero] at r
  have e : loopM (c5 (F_ref07Drop.l1 (R n))) [strv k, .slice none 0 0, wv, iv ws.length, .int .i64 0] X = _ := e
  have hl := hA.len (H' := X)
  rw [List.length_map] at hl
  refine ⟨X', sl, ?_, r.rd, l⟩
  rw [R, run_ref07Drop rfl]
  unfold F_ref07Drop
  rw [bind_eq hl, jn_ext e, xk_hit]
  rfl

theorem rput_do {u : Ent} {p0 : Nat} (hu : ws.length ≤ 1000) (hA : SlN 5 H0 wv (ws.map usr)) (hp0 : H0[p0]? = some (.cells (usr u) 1 false false)) : ∀ (t j : Nat) (sl : Value) (q : List Nat) (acc : SMap) (done : Bool) (X : Heap), ws.length - j = t → j ≤ ws.length → acc.length ≤ 2 * j → HLe H0 X → (∀ i ∈ q, H0.length ≤ i) → RowN 5 X sl (acc.map usr) q →
    ∃ X' sl' q', loopM (c6 (F_ref07Put.l1 (R n))) [pt p0, sl, .bool done, wv, iv ws.length, iv j] X = some (.ext 0 [pt p0, sl', .bool (putDone u (ws.drop j) done)], X') ∧ RowN 5 X' sl' ((acc ++ putMid u (ws.drop j) done).map usr) q' ∧ HLe H0 X' ∧ ∀ i ∈ q', H0.length ≤ i
  | 0, j, sl, q, acc, done, X, ht, hj, ha, hle, hq, hr => by
    have : j = ws.length := by omega
    subst this
    rw [List.drop_length]
    refine ⟨X, sl, q, loop_ext ?_, by simpa [putMid] using hr, hle, hq⟩
    rw [c6_r]
    unfold F_ref07Put.l1
    rw [bind_eq lss_r, cnd_b, if_neg (by simp)]
    rfl
  | t + 1, j, sl, q, acc, done, X, ht, hj, ha, hle, hq, hr => by
    have hjl : j < ws.length := by omega
    have hlt : (j : Int) < ws.length := by omega
    have hg := List.getElem?_eq_getElem hjl
    have hd := List.drop_eq_getElem_cons hjl
    generalize ws[j] = v at hg hd
    have hf := fun {K : Value → M Out} => ufetch (k := K) (hA.mono hle) hg
    have hlv : X.length < (X ++ [AObj.cells (usr v) 1 false false]).length := by simp
    have g1 : (X ++ [AObj.cells (usr v) 1 false false])[X.length]? = some (.cells (usr v) 1 false false) := app_new
    have k1 : HLe X (X ++ [AObj.cells (usr v) 1 false false]) := .app _ _
    have hqx : ∀ i ∈ q, i < X.length := hr.lt
    generalize X ++ [AObj.cells (usr v) 1 false false] = X1 at g1 k1 hf hlv
    generalize X.length = pv at g1 hf hlv hqx
    have hr1 : RowN 5 X1 sl _ q := hr.keep fun i hi => k1.step.keep i (hr.lt i hi) (by simp)
    have le1 := hle.trans k1
    have hp1 := le1 _ _ hp0
    have l1 : ld1 (pt pv) X1 = some (strv v.1, X1) := ld1_at g1 rfl
    have l0 : ld1 (pt p0) X1 = some (strv u.1, X1) := ld1_at hp1 rfl
    have e1 : putMid u (ws.drop j) done = (if !done && decide (u.1 ≤ v.1) then [u] else []) ++ ((if v.1 ≠ u.1 then [v] else []) ++ putMid u (ws.drop (j + 1)) (done || decide (u.1 ≤ v.1))) := by rw [hd]; rfl
    have e2 : putDone u (ws.drop j) done = putDone u (ws.drop (j + 1)) (done || decide (u.1 ≤ v.1)) := by rw [hd]; rfl
    rw [e1, e2]
    -- the first part
    obtain ⟨X2, sl2, q2, b1, hr2, le2, o2, g2⟩ : ∃ X2 sl2 q2, (∀ K : Value → Value → Value → Value → Value → Value → Value → M Out, jn (cnd (.bool (!done && decide (u.1 ≤ v.1)))
        (bind (ldA 5 (pt p0)) fun v25x15 => bind (bsl 5 1 (.agg #[.string ⟨#[]⟩, .string ⟨#[]⟩, .string ⟨#[]⟩, .bool false, .slice none 0 0]) [(0, 5, v25x15)]) fun v26x16 => bind (app 5 80 sl v26x16) fun v27x17 => ret (.nrm [pt p0, v27x17, (Value.bool true), pt pv, wv, iv ws.length, iv j]))
        (ret (.nrm [pt p0, sl, .bool done, pt pv, wv, iv ws.length, iv j]))) (c7 K) noX retR X1 = K (pt p0) sl2 (.bool (done || decide (u.1 ≤ v.1))) (pt pv) wv (iv ws.length) (iv j) X2) ∧
        RowN 5 X2 sl2 ((acc ++ if !done && decide (u.1 ≤ v.1) then [u] else []).map usr) q2 ∧ HLe H0 X2 ∧ (∀ i ∈ q2, H0.length ≤ i) ∧ X2[pv]? = some (.cells (usr v) 1 false false) := by
      by_cases hb : (!done && decide (u.1 ≤ v.1)) = true
      · rw [hb]
        obtain ⟨w, Xa, sl', Xb, q', a1, a2, a3, hr3, le3, o3, s3⟩ := upush hr1 (by omega) hp1 hq le1
        refine ⟨Xb, sl', q', fun K => ?_, by simpa using hr3, le3, o3, s3.get g1 (fun h => by have := hqx _ h; omega)⟩
        simp only [Bool.and_eq_true, Bool.not_eq_true', decide_eq_true_eq] at hb
        rw [hb.1, decide_eq_true hb.2]
        refine (jn_nrm (vs := [pt p0, sl', .bool true, pt pv, wv, iv ws.length, iv j]) (H' := Xb) ?_).trans ?_
        · rw [cnd_b, if_pos rfl, bind_eq a1, bind_eq a2, bind_eq a3]; rfl
        · rw [c7_r]; rfl
      · have hb : (!done && decide (u.1 ≤ v.1)) = false := by simpa using hb
        rw [hb]
        refine ⟨X1, sl, q, fun K => ?_, by simpa using hr1, le1, hq, g1⟩
        have hdn : (done || decide (u.1 ≤ v.1)) = done := by cases done <;> simp_all
        rw [hdn]
        refine (jn_nrm (vs := [pt p0, sl, .bool done, pt pv, wv, iv ws.length, iv j]) (H' := X1) ?_).trans ?_
        · rw [cnd_b, if_neg (by simp)]; rfl
        · rw [c7_r]
    generalize hdone : (done || decide (u.1 ≤ v.1)) = done2 at b1 ⊢
    have hp2 := le2 _ _ hp0
    have l12 : ld1 (pt pv) X2 = some (strv v.1, X2) := ld1_at g2 rfl
    have l02 : ld1 (pt p0) X2 = some (strv u.1, X2) := ld1_at hp2 rfl
    have hacc : (acc ++ if !done && decide (u.1 ≤ v.1) then [u] else []).length ≤ 2 * j + 1 := by
      rw [List.length_append]; split <;> simp <;> omega
    -- the second part
    obtain ⟨X3, sl3, q3, b2, hr3, le3, o3⟩ : ∃ X3 sl3 q3, (∀ K : Value → Value → Value → Value → Value → Value → M Out, jn (cnd (.bool (!(v.1 == u.1)))
        (bind (ldA 5 (pt pv)) fun v34x24 => bind (bsl 5 1 (.agg #[.string ⟨#[]⟩, .string ⟨#[]⟩, .string ⟨#[]⟩, .bool false, .slice none 0 0]) [(0, 5, v34x24)]) fun v35x25 => bind (app 5 80 sl2 v35x25) fun v36x26 => ret (.nrm [pt p0, v36x26, .bool done2, wv, iv ws.length, iv j]))
        (ret (.nrm [pt p0, sl2, .bool done2, wv, iv ws.length, iv j]))) (c6 K) noX retR X2 = K (pt p0) sl3 (.bool done2) wv (iv ws.length) (iv j) X3) ∧
        RowN 5 X3 sl3 (((acc ++ if !done && decide (u.1 ≤ v.1) then [u] else []) ++ if v.1 ≠ u.1 then [v] else []).map usr) q3 ∧ HLe H0 X3 ∧ (∀ i ∈ q3, H0.length ≤ i) := by
      by_cases hb : v.1 = u.1
      · rw [show (if v.1 ≠ u.1 then [v] else []) = [] from if_neg (by simpa using hb)]
        refine ⟨X2, sl2, q2, fun K => ?_, by rw [List.append_nil]; exact hr2, le2, o2⟩
        refine (jn_nrm (vs := [pt p0, sl2, .bool done2, wv, iv ws.length, iv j]) (H' := X2) ?_).trans ?_
        · rw [cnd_b, if_neg (by simp [hb])]; rfl
        · rw [c6_r]
      · rw [show (if v.1 ≠ u.1 then [v] else []) = [v] from if_pos hb]
        obtain ⟨w, Xa, sl', Xb, q', a1, a2, a3, hr3, le3, o3, s3⟩ := upush hr2 (by omega) g2 o2 le2
        refine ⟨Xb, sl', q', fun K => ?_, hr3, le3, o3⟩
        refine (jn_nrm (vs := [pt p0, sl', .bool done2, wv, iv ws.length, iv j]) (H' := Xb) ?_).trans ?_
        · rw [cnd_b, if_pos (by simp [hb]), bind_eq a1, bind_eq a2, bind_eq a3]; rfl
        · rw [c6_r]
    have hacc2 : ((acc ++ if !done && decide (u.1 ≤ v.1) then [u] else []) ++ if v.1 ≠ u.1 then [v] else []).length ≤ 2 * (j + 1) := by
      have h1 : (if v.1 ≠ u.1 then [v] else []).length ≤ 1 := by split <;> simp
      rw [List.length_append]; omega
    obtain ⟨X4, sl4, q4, e4, r4, r5⟩ := rput_do hu hA hp0 t (j + 1) sl3 q3 _ done2 X3 (by omega) (by omega) hacc2 le3 o3 hr3
    refine ⟨X4, sl4, q4, (loop_next ?_).trans e4, by rw [List.append_assoc, List.append_assoc] at r4; exact r4, r5⟩
    rw [c6_r]
    unfold F_ref07Put.l1
    rw [bind_eq lss_r, cnd_b, if_pos (by simpa using hlt), hf, bind_eq not_r]
    have hgate : ∀ K : List Value → M Out, (∀ w0 w1 w2 w3 w4, (∀ X' : Heap, pick (.bool (!done)) w4 (.bool false) X' = some (.bool (!done && decide (u.1 ≤ v.1)), X')) → K [w0, w1, w2, w3, w4] X1 = some (.nrm [pt p0, sl3, .bool done2, wv, iv ws.length, iv ((j + 1 : Nat) : Int)], X3)) →
        bind (gate (.bool (!done)) true 5 (bind (fa 0 (pt p0)) fun v18x8 => bind (ld1 v18x8) fun v19x9 => bind (fa 0 (pt pv)) fun v20x10 => bind (ld1 v20x10) fun v21x11 => bind (bop .str .leq v19x9 v21x11) fun v22x12 => ret [v18x8, v19x9, v20x10, v21x11, v22x12])) K X1 = some (.nrm [pt p0, sl3, .bool done2, wv, iv ws.length, iv ((j + 1 : Nat) : Int)], X3) := fun K hK => by
      cases done
      · simp only [Bool.not_false]
        rw [b_g_in, b_assoc, bind_eq fa_z, b_assoc, bind_eq l0, b_assoc, bind_eq fa_z, b_assoc, bind_eq l1, b_assoc, bind_eq les_v, b_ret]
        exact hK _ _ _ _ _ (fun X' => by rw [pick_r]; rfl)
      · simp only [Bool.not_true]
        rw [bind_eq (g_r.trans (if_neg (by simp)))]
        exact hK _ _ _ _ _ (fun X' => by rw [pick_r]; rfl)
    refine hgate _ fun w0 w1 w2 w3 w4 hpk => ?_
    rw [c5_r, bind_eq (hpk _)]
    refine (b1 _).trans ?_
    rw [bind_eq fa_z, bind_eq l12, bind_eq fa_z, bind_eq l02, bind_eq nes_v]
    refine (b2 _).trans ?_
    rw [bind_eq add_r, wsuc (by omega)]
    rfl

end

end Go.Proofs.Ytmacmlpiheimhaa.A
