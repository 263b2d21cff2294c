/- What the document's directory answers. -/
import Derived.Test.YtmacmlpiheimhaaRefEld2
namespace Go.Proofs.Ytmacmlpiheimhaa.A
set_option linter.unusedVariables false
set_option linter.unusedSimpArgs false
open Go.Proofs Go.Proofs.Ytmacmlpiheimhaa

section
variable {H0 H X : Heap} {n d b : Nat} {m ws : SMap} {k s pre : List UInt8} {wv : Value}

theorem errCreate_eq : errCreate k s m = if nameB k then (if sumB s then errRoom k m else 4) else 10 := by
  unfold errCreate errName errSum firstE
  cases nameB k <;> cases sumB s <;> simp
theorem errSet_eq : errSet k s m = if nameB k then (if sumB s then errThere k m else 4) else 10 := by
  unfold errSet errName errSum firstE
  cases nameB k <;> cases sumB s <;> simp
theorem errDelete_eq : errDelete k m = if nameB k then errThere k m else 10 := by
  unfold errDelete errName firstE
  cases nameB k <;> simp

theorem r_put {u : Ent} (hu : ws.length ≤ 1000) (hA : SlN 5 X wv (ws.map usr)) : ∃ X' v, R (n + 1) n_ref07Put [wv, .agg (usr u).toArray] X = some (v, X') ∧ SlN 5 X' v ((putL u ws).map usr) ∧ HLe X X' := by
  have e1 : alc 1 (.agg (usr u).toArray) X = some (pt X.length, X ++ [.cells (usr u) 1 false false]) := by
    rw [alc_r]
    exact if_pos (show (usr u).toArray.toList.all oneCell = true from rfl)
  have k1 : HLe X (X ++ [.cells (usr u) 1 false false]) := .app _ _
  have cu : (X ++ [AObj.cells (usr u) 1 false false])[X.length]? = some (.cells (usr u) 1 false false) := app_new
  generalize X ++ [AObj.cells (usr u) 1 false false] = X1 at e1 k1 cu
  generalize X.length = p0 at e1 cu
  obtain ⟨X2, sl, q, e2, r2, l2, o2⟩ := rput_do (n := n) hu (hA.mono k1) cu ws.length 0 (.slice none 0 0) [] [] false X1 (by omega) (by omega) (by simp) (.refl _) (by simp) RowN.nil
  rw [List.drop_zero] at e2 r2
  have e2 : loopM (c6 (F_ref07Put.l1 (R n))) [pt p0, .slice none 0 0, .bool false, wv, iv ws.length, .int .i64 0] X1 = _ := e2
  have hl := hA.len (H' := X1)
  rw [List.length_map] at hl
  have hrun : ∀ r, (jn (cnd (.bool (!putDone u ws false)) (bind (ldA 5 (pt p0)) fun v41x34 => bind (bsl 5 1 (.agg #[.string ⟨#[]⟩, .string ⟨#[]⟩, .string ⟨#[]⟩, .bool false, .slice none 0 0]) [(0, 5, v41x34)]) fun v42x35 => bind (app 5 80 sl v42x35) fun v43x36 => ret (.nrm [v43x36])) (ret (.nrm [sl]))) (c1 fun q37_0 => ret q37_0) noX ret) X2 = r → R (n + 1) n_ref07Put [wv, .agg (usr u).toArray] X = r := fun r hr => by
    rw [R, run_ref07Put rfl]
    unfold F_ref07Put
    rw [bind_eq e1, bind_eq hl, jn_ext e2, xk_hit, c3_r, bind_eq not_r]
    exact hr
  have hml : (putMid u ws false).length ≤ 2 * ws.length := by
    have : ∀ (l : SMap) (b : Bool), (putMid u l b).length ≤ 2 * l.length := by
      intro l
      induction l with
      | nil => intro b; simp [putMid]
      | cons v l ih =>
        intro b
        have h1 : (if !b && decide (u.1 ≤ v.1) then [u] else []).length ≤ 1 := by split <;> simp
        have h2 : (if v.1 ≠ u.1 then [v] else []).length ≤ 1 := by split <;> simp
        have h3 := ih (b || decide (u.1 ≤ v.1))
        have h4 : putMid u (v :: l) b = (if !b && decide (u.1 ≤ v.1) then [u] else []) ++ ((if v.1 ≠ u.1 then [v] else []) ++ putMid u l (b || decide (u.1 ≤ v.1))) := rfl
        rw [h4, List.length_append, List.length_append, List.length_cons]
        omega
    exact this ws false
  unfold putL
  cases hd : putDone u ws false
  · rw [hd] at hrun
    obtain ⟨w, Xa, sl', Xb, q', a1, a2, a3, hr3, le3, o3, _⟩ := upush r2 (by simp; omega) (l2 _ _ cu) o2 l2
    refine ⟨Xb, sl', hrun _ ?_, hr3.rd, k1.trans le3⟩
    refine (jn_nrm (vs := [sl']) (H' := Xb) ?_).trans rfl
    rw [cnd_b, if_pos (by rfl), bind_eq a1, bind_eq a2, bind_eq a3]; rfl
  · rw [hd] at hrun
    refine ⟨X2, sl, hrun _ ?_, by simpa using r2.rd, k1.trans l2⟩
    refine (jn_nrm (vs := [sl]) (H' := X2) ?_).trans rfl
    rw [cnd_b, if_neg (by simp)]; rfl

theorem r_refCreate (hn : (m.map (·.1)).Nodup) (hf : m.length ≤ 100) (hk : k.length ≤ 1000000000) (hs : s.length ≤ 1000000000) (hA : SlN 5 X wv ((sortM m).map usr)) :
    ∃ X' v, R (n + 4) n_ref07Create [wv, strv k, strv s] X = some (.tuple #[v, iv (errCreate k s m)], X') ∧ SlN 5 X' v ((sortM (createM k s m)).map usr) ∧ HLe X X' := by
  have e1 : R (n + 3) n_ref05Name [strv k] X = some (.bool (nameB k), X) := r_refName hk
  have e2 : R (n + 3) n_ref05Hash [strv s] X = some (.bool (sumB s), X) := r_refHash hs
  have hlm : (sortM m).length = m.length := sortM_len
  obtain ⟨X1, e3, l1⟩ := r_find (n := n + 2) (k := k) (by omega) hA
  have e3 : R (n + 3) n_ref07Find [wv, strv k] X = _ := e3
  have f1 : ∀ r X', F_ref07Create (R (n + 3)) wv (strv k) (strv s) X = some (r, X') → R (n + 4) n_ref07Create [wv, strv k, strv s] X = some (r, X') := fun r X' hr => by rw [R, run_ref07Create rfl]; exact hr
  have hA1 := hA.mono l1
  have hl := hA1.len (H' := X1)
  rw [List.length_map, hlm] at hl
  have hne : ∀ e : Int, errCreate k s m = e → e ≠ 0 → sortM (createM k s m) = sortM m := fun e h1 h2 => by unfold createM; rw [if_neg (by rw [h1]; exact h2)]
  cases hnm : nameB k
  · have he : errCreate k s m = 10 := by rw [errCreate_eq, hnm]; rfl
    rw [hne 10 he (by decide), he]
    rw [hnm] at e1
    refine ⟨X, wv, f1 _ _ ?_, hA, .refl _⟩
    unfold F_ref07Create
    rw [bind_eq e1, bind_eq not_r, cnd_b, if_pos (by rfl)]
    rfl
  · rw [hnm] at e1
    cases hsm : sumB s
    · have he : errCreate k s m = 4 := by rw [errCreate_eq, hnm, hsm]; rfl
      rw [hne 4 he (by decide), he]
      rw [hsm] at e2
      refine ⟨X, wv, f1 _ _ ?_, hA, .refl _⟩
      unfold F_ref07Create
      rw [bind_eq e1, bind_eq not_r, cnd_b, if_neg (by simp), bind_eq e2, bind_eq not_r, cnd_b, if_pos (by rfl)]
      rfl
    · rw [hsm] at e2
      cases hfi : findI k (sortM m) with
      | some i =>
        rw [hfi] at e3
        obtain ⟨v, hv, _⟩ := find_some hn hfi
        have he : errCreate k s m = 9 := by rw [errCreate_eq, hnm, hsm]; simp [errRoom, hv]
        rw [hne 9 he (by decide), he]
        refine ⟨X1, wv, f1 _ _ ?_, hA1, l1⟩
        unfold F_ref07Create
        rw [bind_eq e1, bind_eq not_r, cnd_b, if_neg (by simp), bind_eq e2, bind_eq not_r, cnd_b, if_neg (by simp), bind_eq e3, bind_eq geq_r, cnd_b, if_pos (by simp)]
        rfl
      | none =>
        rw [hfi] at e3
        have hv := (find_none hn).1 hfi
        by_cases h12 : 12 ≤ m.length
        · have he : errCreate k s m = 7 := by rw [errCreate_eq, hnm, hsm]; simp [errRoom, hv, h12]
          rw [hne 7 he (by decide), he]
          refine ⟨X1, wv, f1 _ _ ?_, hA1, l1⟩
          unfold F_ref07Create
          rw [bind_eq e1, bind_eq not_r, cnd_b, if_neg (by simp), bind_eq e2, bind_eq not_r, cnd_b, if_neg (by simp), bind_eq e3, bind_eq geq_r, cnd_b, if_neg (by simp), bind_eq hl, bind_eq geq_r, cnd_b, if_pos (by simp; omega)]
          rfl
        · have he : errCreate k s m = 0 := by rw [errCreate_eq, hnm, hsm]; simp [errRoom, hv, h12]
          obtain ⟨X2, v, e4, r4, l4⟩ := r_put (n := n + 2) (u := (k, s)) (by omega) hA1
          have e4 : R (n + 3) n_ref07Put [wv, .agg (usr (k, s)).toArray] X1 = _ := e4
          rw [put_is hn] at r4
          have hc : createM k s m = aput k s m := by unfold createM; rw [if_pos he]
          rw [hc, he]
          refine ⟨X2, v, f1 _ _ ?_, r4, l1.trans l4⟩
          unfold F_ref07Create
          rw [bind_eq e1, bind_eq not_r, cnd_b, if_neg (by simp), bind_eq e2, bind_eq not_r, cnd_b, if_neg (by simp), bind_eq e3, bind_eq geq_r, cnd_b, if_neg (by simp), bind_eq hl, bind_eq geq_r, cnd_b, if_neg (by simp; omega), bind_eq bld_usr, bind_eq e4]
          rfl

theorem r_refDelete (hn : (m.map (·.1)).Nodup) (hf : m.length ≤ 100) (hk : k.length ≤ 1000000000) (hA : SlN 5 X wv ((sortM m).map usr)) :
    ∃ X' v, R (n + 4) n_ref07Delete [wv, strv k] X = some (.tuple #[v, iv (errDelete k m)], X') ∧ SlN 5 X' v ((sortM (deleteM k m)).map usr) ∧ HLe X X' := by
  have e1 : R (n + 3) n_ref05Name [strv k] X = some (.bool (nameB k), X) := r_refName hk
  have hlm : (sortM m).length = m.length := sortM_len
  obtain ⟨X1, e3, l1⟩ := r_find (n := n + 2) (k := k) (by omega) hA
  have e3 : R (n + 3) n_ref07Find [wv, strv k] X = _ := e3
  have f1 : ∀ r X', F_ref07Delete (R (n + 3)) wv (strv k) X = some (r, X') → R (n + 4) n_ref07Delete [wv, strv k] X = some (r, X') := fun r X' hr => by rw [R, run_ref07Delete rfl]; exact hr
  have hA1 := hA.mono l1
  have hne : ∀ e : Int, errDelete k m = e → e ≠ 0 → sortM (deleteM k m) = sortM m := fun e h1 h2 => by unfold deleteM; rw [if_neg (by rw [h1]; exact h2)]
  cases hnm : nameB k
  · have he : errDelete k m = 10 := by rw [errDelete_eq, hnm]; rfl
    rw [hne 10 he (by decide), he]
    rw [hnm] at e1
    refine ⟨X, wv, f1 _ _ ?_, hA, .refl _⟩
    unfold F_ref07Delete
    rw [bind_eq e1, bind_eq not_r, cnd_b, if_pos (by rfl)]
    rfl
  · rw [hnm] at e1
    cases hfi : findI k (sortM m) with
    | none =>
      rw [hfi] at e3
      have hv := (find_none hn).1 hfi
      have he : errDelete k m = 8 := by rw [errDelete_eq, hnm]; simp [errThere, hv]
      rw [hne 8 he (by decide), he]
      refine ⟨X1, wv, f1 _ _ ?_, hA1, l1⟩
      unfold F_ref07Delete
      rw [bind_eq e1, bind_eq not_r, cnd_b, if_neg (by simp), bind_eq e3, bind_eq lss_r, cnd_b, if_pos (by simp)]
      rfl
    | some i =>
      rw [hfi] at e3
      obtain ⟨v, hv, _⟩ := find_some hn hfi
      have he : errDelete k m = 0 := by rw [errDelete_eq, hnm]; simp [errThere, hv]
      obtain ⟨X2, v2, e4, r4, l4⟩ := r_drop (n := n + 2) (k := k) (by omega) hA1
      have e4 : R (n + 3) n_ref07Drop [wv, strv k] X1 = _ := e4
      rw [drop_is hn] at r4
      have hc : deleteM k m = adel k m := by unfold deleteM; rw [if_pos he]
      rw [hc, he]
      refine ⟨X2, v2, f1 _ _ ?_, r4, l1.trans l4⟩
      unfold F_ref07Delete
      rw [bind_eq e1, bind_eq not_r, cnd_b, if_neg (by simp), bind_eq e3, bind_eq lss_r, cnd_b, if_neg (by simp), bind_eq e4]
      rfl

theorem r_refSet (hn : (m.map (·.1)).Nodup) (hf : m.length ≤ 100) (hk : k.length ≤ 1000000000) (hs : s.length ≤ 1000000000) (hA : SlN 5 X wv ((sortM m).map usr)) :
    ∃ X' v, R (n + 4) n_ref07SetHash [wv, strv k, strv s] X = some (.tuple #[v, iv (errSet k s m)], X') ∧ SlN 5 X' v ((sortM (setM k s m)).map usr) ∧ HLe X X' := by
  have e1 : R (n + 3) n_ref05Name [strv k] X = some (.bool (nameB k), X) := r_refName hk
  have e2 : R (n + 3) n_ref05Hash [strv s] X = some (.bool (sumB s), X) := r_refHash hs
  have hlm : (sortM m).length = m.length := sortM_len
  obtain ⟨X1, e3, l1⟩ := r_find (n := n + 2) (k := k) (by omega) hA
  have e3 : R (n + 3) n_ref07Find [wv, strv k] X = _ := e3
  have f1 : ∀ r X', F_ref07SetHash (R (n + 3)) wv (strv k) (strv s) X = some (r, X') → R (n + 4) n_ref07SetHash [wv, strv k, strv s] X = some (r, X') := fun r X' hr => by rw [R, run_ref07SetHash rfl]; exact hr
  have hA1 := hA.mono l1
  have hne : ∀ e : Int, errSet k s m = e → e ≠ 0 → sortM (setM k s m) = sortM m := fun e h1 h2 => by unfold setM; rw [if_neg (by rw [h1]; exact h2)]
  cases hnm : nameB k
  · have he : errSet k s m = 10 := by rw [errSet_eq, hnm]; rfl
    rw [hne 10 he (by decide), he]
    rw [hnm] at e1
    refine ⟨X, wv, f1 _ _ ?_, hA, .refl _⟩
    unfold F_ref07SetHash
    rw [bind_eq e1, bind_eq not_r, cnd_b, if_pos (by rfl)]
    rfl
  · rw [hnm] at e1
    cases hsm : sumB s
    · have he : errSet k s m = 4 := by rw [errSet_eq, hnm, hsm]; rfl
      rw [hne 4 he (by decide), he]
      rw [hsm] at e2
      refine ⟨X, wv, f1 _ _ ?_, hA, .refl _⟩
      unfold F_ref07SetHash
      rw [bind_eq e1, bind_eq not_r, cnd_b, if_neg (by simp), bind_eq e2, bind_eq not_r, cnd_b, if_pos (by rfl)]
      rfl
    · rw [hsm] at e2
      cases hfi : findI k (sortM m) with
      | none =>
        rw [hfi] at e3
        have hv := (find_none hn).1 hfi
        have he : errSet k s m = 8 := by rw [errSet_eq, hnm, hsm]; simp [errThere, hv]
        rw [hne 8 he (by decide), he]
        refine ⟨X1, wv, f1 _ _ ?_, hA1, l1⟩
        unfold F_ref07SetHash
        rw [bind_eq e1, bind_eq not_r, cnd_b, if_neg (by simp), bind_eq e2, bind_eq not_r, cnd_b, if_neg (by simp), bind_eq e3, bind_eq lss_r, cnd_b, if_pos (by simp)]
        rfl
      | some i =>
        rw [hfi] at e3
        obtain ⟨v, hv, hvi⟩ := find_some hn hfi
        have he : errSet k s m = 0 := by rw [errSet_eq, hnm, hsm]; simp [errThere, hv]
        have hf2 := fun {K : Value → M Value} => ufetch (k := K) hA1 hvi
        have g1 : (X1 ++ [AObj.cells (usr (k, v)) 1 false false])[X1.length]? = some (.cells (usr (k, v)) 1 false false) := app_new
        have k1 : HLe X1 ((X1 ++ [AObj.cells (usr (k, v)) 1 false false]).set X1.length (.cells (usr (k, s)) 1 false false)) := by rw [set_new]; exact .app _ _
        have g2 : ((X1 ++ [AObj.cells (usr (k, v)) 1 false false]).set X1.length (.cells (usr (k, s)) 1 false false))[X1.length]? = some (.cells (usr (k, s)) 1 false false) := set_get g1
        have s1 : st1 (pa X1.length 1) (strv s) (X1 ++ [AObj.cells (usr (k, v)) 1 false false]) = some (undef, (X1 ++ [AObj.cells (usr (k, v)) 1 false false]).set X1.length (.cells (usr (k, s)) 1 false false)) := st1_at (o := 1) g1 (by simp [usr]) rfl
        generalize (X1 ++ [AObj.cells (usr (k, v)) 1 false false]).set X1.length (.cells (usr (k, s)) 1 false false) = X2 at k1 g2 s1
        have e5 : ldA 5 (pt X1.length) X2 = some (.agg (usr (k, s)).toArray, X2) := ldA_at (n := 5) g2 rfl
        obtain ⟨X3, v3, e4, r4, l4⟩ := r_put (n := n + 2) (u := (k, s)) (by omega) (hA1.mono k1)
        have e4 : R (n + 3) n_ref07Put [wv, .agg (usr (k, s)).toArray] X2 = _ := e4
        rw [put_is hn] at r4
        have hc : setM k s m = aput k s m := by unfold setM; rw [if_pos he]
        rw [hc, he]
        refine ⟨X3, v3, f1 _ _ ?_, r4, (l1.trans k1).trans l4⟩
        unfold F_ref07SetHash
        rw [bind_eq e1, bind_eq not_r, cnd_b, if_neg (by simp), bind_eq e2, bind_eq not_r, cnd_b, if_neg (by simp), bind_eq e3, bind_eq lss_r, cnd_b, if_neg (by simp), hf2, bind_eq fa_r, bind_eq s1, bind_eq e5, bind_eq e4]
        rfl

/-- A field of an element. -/
theorem SlN.fld {es : Nat} {sl : Value} {rows : List (List Value)} {i f : Nat} {r : List Value} {x : Value} (h : SlN es H sl rows) (hi : rows[i]? = some r) (hx : r[f]? = some x) (hf : f < es) : ∃ id o, ixa es sl (iv i) H = some (pa id o, H) ∧ ld1 (pa id (o + f)) H = some (x, H) := by
  obtain ⟨id, o, cs, e, g, ro, e1, e2, e3, e4, _⟩ := h.at hi (by omega) .i64
  refine ⟨id, o, e1 H, ?_⟩
  rw [ldOne_r, e2, rdk_r]
  have : cs[o + f]? = some x := by
    rw [← e3, List.getElem?_take, List.getElem?_drop, if_pos hf] at hx
    exact hx
  rw [this]; rfl

theorem r_refLookup (hn : (m.map (·.1)).Nodup) (hf : m.length ≤ 100) (hk : k.length ≤ 1000000000) (hA : SlN 5 X wv ((sortM m).map usr)) :
    ∃ X', R (n + 4) n_ref07Lookup [wv, strv k] X = some (.tuple #[strv (if errDelete k m = 0 then (aget k m).getD [] else []), iv (errDelete k m)], X') ∧ HLe X X' := by
  have e1 : R (n + 3) n_ref05Name [strv k] X = some (.bool (nameB k), X) := r_refName hk
  have hlm : (sortM m).length = m.length := sortM_len
  obtain ⟨X1, e3, l1⟩ := r_find (n := n + 2) (k := k) (by omega) hA
  have e3 : R (n + 3) n_ref07Find [wv, strv k] X = _ := e3
  have f1 : ∀ r X', F_ref07Lookup (R (n + 3)) wv (strv k) X = some (r, X') → R (n + 4) n_ref07Lookup [wv, strv k] X = some (r, X') := fun r X' hr => by rw [R, run_ref07Lookup rfl]; exact hr
  cases hnm : nameB k
  · have he : errDelete k m = 10 := by rw [errDelete_eq, hnm]; rfl
    rw [he]
    rw [hnm] at e1
    refine ⟨X, f1 _ _ ?_, .refl _⟩
    unfold F_ref07Lookup
    rw [bind_eq e1, bind_eq not_r, cnd_b, if_pos (by rfl)]
    rfl
  · rw [hnm] at e1
    cases hfi : findI k (sortM m) with
    | none =>
      rw [hfi] at e3
      have hv := (find_none hn).1 hfi
      have he : errDelete k m = 8 := by rw [errDelete_eq, hnm]; simp [errThere, hv]
      rw [he]
      refine ⟨X1, f1 _ _ ?_, l1⟩
      unfold F_ref07Lookup
      rw [bind_eq e1, bind_eq not_r, cnd_b, if_neg (by simp), bind_eq e3, bind_eq lss_r, cnd_b, if_pos (by simp)]
      rfl
    | some i =>
      rw [hfi] at e3
      obtain ⟨v, hv, hvi⟩ := find_some hn hfi
      have he : errDelete k m = 0 := by rw [errDelete_eq, hnm]; simp [errThere, hv]
      rw [he, hv]
      obtain ⟨id, o, x1, x2⟩ := (hA.mono l1).fld (i := i) (f := 1) (r := usr (k, v)) (x := strv v) (by rw [List.getElem?_map, hvi]; rfl) rfl (by omega)
      refine ⟨X1, f1 _ _ ?_, l1⟩
      unfold F_ref07Lookup
      rw [bind_eq e1, bind_eq not_r, cnd_b, if_neg (by simp), bind_eq e3, bind_eq lss_r, cnd_b, if_neg (by simp), bind_eq x1, bind_eq fa_r, bind_eq x2]
      rfl

end

end Go.Proofs.Ytmacmlpiheimhaa.A
