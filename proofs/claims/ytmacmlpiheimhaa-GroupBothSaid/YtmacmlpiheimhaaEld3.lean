/- More that is done to the directory of the first schema. -/
import Derived.Test.YtmacmlpiheimhaaEld2
namespace Go.Proofs.Ytmacmlpiheimhaa.A
set_option linter.unusedVariables false
set_option linter.unusedSimpArgs false
open Go.Proofs Go.Proofs.Ytmacmlpiheimhaa

section
variable {H H' : Heap} {n d b p q : Nat} {m : SMap} {k s : List UInt8}

theorem r_setHash (h : Dir H d b m) (hk : k.length ≤ 1000000000) (hs : s.length ≤ 1000000000) : ∃ H', R (n + 7) n_elderDirSetHash [pt d, strv k, strv s] H = some (iv (errSet k s m), H') ∧ Dir H' d b (setM k s m) ∧ Step [b] H [b] H' := by
  have e1 : run Try.prog np lvs (n + 6) n_elderSum [strv s] H = _ := r_sum
  have a1 : HLe H (H ++ [AObj.cells [strv s] 1 false false]) := .app _ _
  have p1 : (H ++ [AObj.cells [strv s] 1 false false])[H.length]? = some (.cells [strv s] 1 false false) := app_new
  generalize hH1 : H ++ [AObj.cells [strv s] 1 false false] = H1 at e1 a1 p1
  generalize H.length = q0 at e1 p1
  have e2 : run Try.prog np lvs (n + 6) n_elderDirThere [pt d, strv k] H1 = _ := r_there
  have a2 : HLe H1 (H1 ++ [.cells [pt d] 1 false false] ++ [.cells [strv k] 1 false false]) := (HLe.app _ _).trans (.app _ _)
  have p2 : (H1 ++ [AObj.cells [pt d] 1 false false] ++ [.cells [strv k] 1 false false])[H1.length]? = some (.cells [pt d] 1 false false) := app2_0
  have p3 : (H1 ++ [AObj.cells [pt d] 1 false false] ++ [.cells [strv k] 1 false false])[H1.length + 1]? = some (.cells [strv k] 1 false false) := app2_1
  generalize hH2 : H1 ++ [AObj.cells [pt d] 1 false false] ++ [.cells [strv k] 1 false false] = H2 at e2 a2 p2 p3
  generalize H1.length = q1 at e2 p2 p3
  have e3 := bsl2f (a := .func (.func n_elderSum1) #[] #[pt q0]) (c := .func (.func n_elderDirThere1) #[] #[pt q1, pt (q1 + 1)]) rfl rfl rfl rfl H2
  have a3 : HLe H2 (H2 ++ [AObj.cells [.func (.func n_elderSum1) #[] #[pt q0], .func (.func n_elderDirThere1) #[] #[pt q1, pt (q1 + 1)]] 1 false false]) := .app _ _
  have s3 : Sl (H2 ++ [AObj.cells [.func (.func n_elderSum1) #[] #[pt q0], .func (.func n_elderDirThere1) #[] #[pt q1, pt (q1 + 1)]] 1 false false]) (.slice (some ⟨H2.length, 0, none⟩) 2 2) [.func (.func n_elderSum1) #[] #[pt q0], .func (.func n_elderDirThere1) #[] #[pt q1, pt (q1 + 1)]] := Sl.one (c := 2) app_new
  generalize H2 ++ [AObj.cells [.func (.func n_elderSum1) #[] #[pt q0], .func (.func n_elderDirThere1) #[] #[pt q1, pt (q1 + 1)]] 1 false false] = H3 at e3 a3 s3
  generalize (Value.slice (some ⟨H2.length, 0, none⟩) 2 2) = sl at e3 s3
  have l3 := (a1.trans a2).trans a3
  obtain ⟨H4, e4, a4⟩ := r_check (n := n) (es := [errSum s, errThere k m]) hk rfl (Nat.le_of_lt_succ (by simp)) s3 (pair_cases (P := fun f e => ∀ H1, HLe H3 H1 → ∃ H2, callv (R (n + 5)) f [] H1 = some (iv e, H2) ∧ HLe H1 H2)
    (fun X hx => q_sum hs (hx _ _ (a3 _ _ (a2 _ _ p1)))) (fun X hx => q_there (n := n + 4) (h.hle (l3.trans hx)) (hx _ _ (a3 _ _ p2)) (hx _ _ (a3 _ _ p3))))
  have e4 : run Try.prog np lvs (n + 6) n_elderCheck [strv k, sl] H3 = some (iv (errSet k s m), H4) := e4
  have l4 := l3.trans a4
  have h4 := h.hle l4
  have hbody : ∀ r, bind (bop .int .eql (iv (errSet k s m)) (.int .i64 0)) (fun v => jn (cnd v (bind (nilc (pt d)) fun v19x6 => bind (fa 0 v19x6) fun v20x7 => bind (ld1 v20x7) fun v21x8 => bind (mup .str v21x8 (strv k) (strv s)) fun _ => ret (.nrm [iv (errSet k s m)])) (ret (.nrm [iv (errSet k s m)]))) (c1 fun q9_0 => ret q9_0) noX ret) H4 = r →
      R (n + 7) n_elderDirSetHash [pt d, strv k, strv s] H = r := fun r hr => by
    rw [R, run_elderDirSetHash rfl]
    unfold F_elderDirSetHash
    rw [bind_eq e1, bind_eq e2, bind_eq e3, bind_eq e4]
    exact hr
  unfold setM
  by_cases he : errSet k s m = 0
  · have hz := firstE_0.1 he
    have hk12 := name_len (errName_0.1 hz.1)
    have hr := errThere_0.1 (hz.2 (errThere k m) (by simp))
    obtain ⟨H5, e5, g5, s5, _⟩ := h4.g.mup (k := k) (v := s)
    rw [if_pos he]
    refine ⟨H5, hbody _ ?_, h4.putc g5 s5 hk12 (by rw [aput_len, hr]; simpa using h.few), (l4.step.more (by simp) (fun j hj => .inl hj)).trans s5⟩
    rw [bind_eq eql_r]
    refine (jn_nrm (vs := [iv (errSet k s m)]) (H' := H5) ?_).trans rfl
    rw [cnd_b, if_pos (by simpa using he), bind_eq nilc_r, bind_eq fa_z, bind_eq (ld_s h4.c), bind_eq e5]
    rfl
  · rw [if_neg he]
    refine ⟨H4, hbody _ ?_, h4, l4.step.more (by simp) (fun j hj => .inl hj)⟩
    rw [bind_eq eql_r]
    refine (jn_nrm (vs := [iv (errSet k s m)]) (H' := H4) ?_).trans rfl
    rw [cnd_b, if_neg (by simpa using he)]
    rfl

/-- A name is asked for. -/
theorem ask1 (h : Dir H d b m) (hk : k.length ≤ 1000000000) : ∃ f H1 sl H2 H3, run Try.prog np lvs (n + 6) n_elderDirThere [pt d, strv k] H = some (f, H1) ∧ bsl 1 1 .nilFunc [(0, 1, f)] H1 = some (sl, H2) ∧ run Try.prog np lvs (n + 6) n_elderCheck [strv k, sl] H2 = some (iv (errDelete k m), H3) ∧ HLe H H3 := by
  have e2 : run Try.prog np lvs (n + 6) n_elderDirThere [pt d, strv k] H = _ := r_there
  have a2 : HLe H (H ++ [.cells [pt d] 1 false false] ++ [.cells [strv k] 1 false false]) := (HLe.app _ _).trans (.app _ _)
  have p2 : (H ++ [AObj.cells [pt d] 1 false false] ++ [.cells [strv k] 1 false false])[H.length]? = some (.cells [pt d] 1 false false) := app2_0
  have p3 : (H ++ [AObj.cells [pt d] 1 false false] ++ [.cells [strv k] 1 false false])[H.length + 1]? = some (.cells [strv k] 1 false false) := app2_1
  generalize hH2 : H ++ [AObj.cells [pt d] 1 false false] ++ [.cells [strv k] 1 false false] = H2 at e2 a2 p2 p3
  generalize H.length = q1 at e2 p2 p3
  have e3 := bsl1f (a := .func (.func n_elderDirThere1) #[] #[pt q1, pt (q1 + 1)]) rfl rfl H2
  have a3 : HLe H2 (H2 ++ [AObj.cells [.func (.func n_elderDirThere1) #[] #[pt q1, pt (q1 + 1)]] 1 false false]) := .app _ _
  have s3 : Sl (H2 ++ [AObj.cells [.func (.func n_elderDirThere1) #[] #[pt q1, pt (q1 + 1)]] 1 false false]) (.slice (some ⟨H2.length, 0, none⟩) 1 1) [.func (.func n_elderDirThere1) #[] #[pt q1, pt (q1 + 1)]] := Sl.one (c := 1) app_new
  generalize H2 ++ [AObj.cells [.func (.func n_elderDirThere1) #[] #[pt q1, pt (q1 + 1)]] 1 false false] = H3 at e3 a3 s3
  generalize (Value.slice (some ⟨H2.length, 0, none⟩) 1 1) = sl at e3 s3
  have l3 := a2.trans a3
  obtain ⟨H4, e4, a4⟩ := r_check (n := n) (es := [errThere k m]) hk rfl (Nat.le_of_lt_succ (by simp)) s3 (one_cases (P := fun f e => ∀ H1, HLe H3 H1 → ∃ H2, callv (R (n + 5)) f [] H1 = some (iv e, H2) ∧ HLe H1 H2)
    (fun X hx => q_there (n := n + 4) (h.hle (l3.trans hx)) (hx _ _ (a3 _ _ p2)) (hx _ _ (a3 _ _ p3))))
  exact ⟨_, _, _, _, _, e2, e3, e4, l3.trans a4⟩

theorem adel_ok (h1 : ∀ p ∈ m, p.1.length ≤ 12) : ∀ p ∈ adel k m, p.1.length ≤ 12 := fun p hp => h1 p (List.mem_filter.1 hp).1

theorem r_delete (h : Dir H d b m) (hk : k.length ≤ 1000000000) : ∃ H', R (n + 7) n_elderDirDelete [pt d, strv k] H = some (iv (errDelete k m), H') ∧ Dir H' d b (deleteM k m) ∧ Step [b] H [b] H' := by
  obtain ⟨f, H1, sl, H2, H4, e2, e3, e4, l4⟩ := ask1 (n := n) h hk
  have h4 := h.hle l4
  have hbody : ∀ r, bind (bop .int .eql (iv (errDelete k m)) (.int .i64 0)) (fun v => jn (cnd v (bind (nilc (pt d)) fun v19x6 => bind (fa 0 v19x6) fun v20x7 => bind (ld1 v20x7) fun v21x8 => bind (mde .str v21x8 (strv k)) fun _ => ret (.nrm [iv (errDelete k m)])) (ret (.nrm [iv (errDelete k m)]))) (c1 fun q9_0 => ret q9_0) noX ret) H4 = r →
      R (n + 7) n_elderDirDelete [pt d, strv k] H = r := fun r hr => by
    rw [R, run_elderDirDelete rfl]
    unfold F_elderDirDelete
    rw [bind_eq e2, bind_eq e3, bind_eq e4]
    exact hr
  unfold deleteM
  by_cases he : errDelete k m = 0
  · obtain ⟨H5, e5, g5, s5, _⟩ := h4.g.mde (k := k)
    rw [if_pos he]
    refine ⟨H5, hbody _ ?_, ⟨s5.get h4.c (by simp [h.ne]), g5, adel_ok h.len, Nat.le_trans (List.length_filter_le _ _) h.few⟩, (l4.step.more (by simp) (fun j hj => .inl hj)).trans s5⟩
    rw [bind_eq eql_r]
    refine (jn_nrm (vs := [iv (errDelete k m)]) (H' := H5) ?_).trans rfl
    rw [cnd_b, if_pos (by simpa using he), bind_eq nilc_r, bind_eq fa_z, bind_eq (ld_s h4.c), bind_eq e5]
    rfl
  · rw [if_neg he]
    refine ⟨H4, hbody _ ?_, h4, l4.step.more (by simp) (fun j hj => .inl hj)⟩
    rw [bind_eq eql_r]
    refine (jn_nrm (vs := [iv (errDelete k m)]) (H' := H4) ?_).trans rfl
    rw [cnd_b, if_neg (by simpa using he)]
    rfl

theorem r_lookup (h : Dir H d b m) (hk : k.length ≤ 1000000000) : ∃ H', R (n + 7) n_elderDirLookup [pt d, strv k] H = some (.tuple #[strv (if errDelete k m = 0 then (aget k m).getD [] else []), iv (errDelete k m)], H') ∧ HLe H H' := by
  obtain ⟨f, H1, sl, H2, H4, e2, e3, e4, l4⟩ := ask1 (n := n) h hk
  have h4 := h.hle l4
  refine ⟨H4, ?_, l4⟩
  rw [R, run_elderDirLookup rfl]
  unfold F_elderDirLookup
  rw [bind_eq e2, bind_eq e3, bind_eq e4, bind_eq neq_r]
  by_cases he : errDelete k m = 0
  · have hl := h4.g.lkp (k := k) (z := .string ⟨#[]⟩) (ok := false)
    rw [cnd_b, if_neg (by simpa using he), bind_eq nilc_r, bind_eq fa_z, bind_eq (ld_s h4.c), bind_eq hl, if_pos he, he]
    cases aget k m <;> rfl
  · rw [cnd_b, if_pos (by simpa using he), if_neg he]
    rfl

theorem r_copy (h : Dir H d b m) : ∃ H' d' b', R (n + 2) n_elderDirCopy [pt d] H = some (pt d', H') ∧ Dir H' d' b' m ∧ HLe H H' ∧ H.length ≤ d' ∧ H.length ≤ b' := by
  obtain ⟨H1, e1, g1, l1⟩ := h.g.clone
  have e1' : run Try.prog np lvs (n + 1) n_mapsCloneMapStringstringStringString [.map (some b)] H = some (.map (some H.length), H1) := by
    rw [run_prim (show np n_mapsCloneMapStringstringStringString = some cloneM from rfl)]
    exact e1
  have e2 : bld (.agg #[.map none]) [(0, 1, .map (some H.length))] H1 = some (.agg #[.map (some H.length)], H1) := by simp [↓bind_andk, andk_some, ↓jn_outk, outk_nrm, outk_ext, outk_ret, ↓cnd_b, ret_r, nilc_r, fa_r, ldOne_r, ldA_r, stOne_r, stA_r, rdk_r, rdkA_r, wrk_r, wrkA_r, alc_r, lenS_r, lenT_r, cvi_r, pick_r, not_r, mx_r, mn_r, ixa_r, ixaA_r, bld_r, add_r, sub_r, mul_r, quo_r, rem_r, eql_r, neq_r, lss_r, leq_r, gtr_r, geq_r, eqb_r, neb_r, eqp_r, nep_r, ↓gv_r, gvn_r, ↓g_r, gn_r, isTup, bldC, splice, Value.cells]
  have e3 : alc 1 (.agg #[.map (some H.length)]) H1 = some (pt H1.length, H1 ++ [.cells [.map (some H.length)] 1 false false]) := by
    rw [alc_r]; simp [Value.cells, oneCell]
  refine ⟨H1 ++ [.cells [.map (some H.length)] 1 false false], H1.length, H.length, ?_, ⟨app_new, g1.hle (.app _ _), h.len, h.few⟩, l1.trans (.app _ _), l1.len, Nat.le_refl _⟩
  rw [R, run_elderDirCopy rfl]
  unfold F_elderDirCopy
  rw [bind_eq nilc_r, bind_eq fa_z, bind_eq (ld_s h.c), bind_eq e1', bind_eq e2, bind_eq e3]
  rfl

end

end Go.Proofs.Ytmacmlpiheimhaa.A
