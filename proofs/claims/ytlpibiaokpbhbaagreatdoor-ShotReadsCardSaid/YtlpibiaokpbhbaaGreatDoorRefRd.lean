/- The document's bytes: what is read. -/
import Derived.Test.YtlpibiaokpbhbaaGreatDoorRefOct
namespace Go.Proofs.YtlpibiaokpbhbaaGreatDoor.A
set_option linter.unusedVariables false
set_option linter.unusedSimpArgs false
open Go.Proofs Go.Proofs.YtlpibiaokpbhbaaGreatDoor

/-- The document's reader. -/
abbrev RR (s : RSt) : List Value := [strv s.2, iv s.1]
theorem RR_one (s : RSt) : (RR s).all oneCell = true := rfl

/-- What went wrong left nothing. -/
def okR (s : RSt) : Prop := s.1 ≠ 0 → s.2 = []

theorem okR_fail {e : Nat} {s : RSt} (h : okR s) : okR (failS e s) := by
  unfold failS okR at *
  split
  · exact fun _ => rfl
  · exact h
theorem okR_tk {k : Nat} {s : RSt} (h : okR s) : okR (tkS k s).2 := by
  unfold tkS
  split
  · intro h1
    show s.2.drop k = []
    rw [h h1]; exact List.drop_nil
  · exact okR_fail h
theorem okR_num {k : Nat} {s : RSt} (h : okR s) : okR (numS k s).2 := okR_tk h
theorem okR_count {m : Nat} {s : RSt} (h : okR s) : okR (countS m s).2 := by
  unfold countS
  split
  · exact okR_fail (okR_num h)
  · exact okR_num h
theorem okR_text {m : Nat} {s : RSt} (h : okR s) : okR (textS m s).2 := okR_tk (okR_count h)

/-- Behind an error there is nothing. -/
theorem tk_err {k : Nat} {s : RSt} (h : okR s) (he : s.1 ≠ 0) : tkS k s = ([], s) := by
  have h2 := h he
  obtain ⟨e, l⟩ := s
  simp only at h2 he
  subst h2
  unfold tkS
  split
  · simp
  · unfold failS
    rw [if_neg (fun h => he h.1)]
theorem num_err {k : Nat} {s : RSt} (h : okR s) (he : s.1 ≠ 0) : numS k s = (0, s) := by
  unfold numS
  rw [tk_err h he]; rfl
theorem num_bad {k : Nat} {s : RSt} (h : okR s) (he : (numS k s).2.1 ≠ 0) : (numS k s).1 = 0 := by
  by_cases h0 : s.1 = 0
  · unfold numS tkS at *
    by_cases hl : k ≤ s.2.length
    · rw [if_pos hl] at he; exact absurd h0 he
    · rw [if_neg hl]; rfl
  · rw [num_err h h0]

section
variable {H0 H X : Heap} {n p d b : Nat} {a c v : Value} {bs : List UInt8} {β : Type} {K : Value → M β} {s : RSt}

theorem r_fail1 {e : Nat} (he : e ≤ 1000) : ∃ H', R (n + 1) n_ref01Fail [.agg (RR s).toArray, iv e] H = some (.agg (RR (failS e s)).toArray, H') ∧ HLe H H' := by
  have z1 := bx (X := H) (RR_one s)
  have z2 := bx (X := H ++ [.cells (RR s) 1 false false]) (RR_one (0, []))
  have k2 : HLe H (H ++ [AObj.cells (RR s) 1 false false] ++ [AObj.cells (RR (0, [])) 1 false false]) := (HLe.app _ _).trans (.app _ _)
  have c1 : (H ++ [AObj.cells (RR s) 1 false false] ++ [AObj.cells (RR (0, [])) 1 false false])[H.length]? = some (.cells (RR s) 1 false false) := app2_0
  have c2 : (H ++ [AObj.cells (RR s) 1 false false] ++ [AObj.cells (RR (0, [])) 1 false false])[(H ++ [AObj.cells (RR s) 1 false false]).length]? = some (.cells (RR (0, [])) 1 false false) := app_new
  have hp2 : H.length ≤ (H ++ [AObj.cells (RR s) 1 false false]).length := by simp
  generalize H ++ [AObj.cells (RR s) 1 false false] ++ [AObj.cells (RR (0, [])) 1 false false] = X2 at z2 k2 c1 c2
  generalize (H ++ [AObj.cells (RR s) 1 false false]).length = p2 at z2 c2 hp2
  have z2 : alc 1 (.agg #[.string ⟨#[]⟩, .int .i64 0]) _ = some (pt p2, X2) := z2
  have a1 : ld1 (pa H.length 1) X2 = some (iv s.1, X2) := ld1_at c1 rfl
  have d1 : ldA 2 (pt H.length) X2 = some (.agg (RR s).toArray, X2) := ldA_at (n := 2) c1 rfl
  have q1 : bop .int .neq (iv s.1) (.int .i64 0) X2 = some (.bool (s.1 != 0), X2) := by rw [neq_r, nz_bne]
  have q2 : bop .int .eql (iv e) (.int .i64 0) X2 = some (.bool (e == 0), X2) := by rw [eql_r, nz_beq]
  have f1 : ∀ r H', F_ref01Fail (R n) (.agg (RR s).toArray) (iv e) H = some (r, H') → R (n + 1) n_ref01Fail [.agg (RR s).toArray, iv e] H = some (r, H') := fun r H' hr => by rw [R, run_ref01Fail rfl]; exact hr
  have hfin : ∀ t : RSt, bind (stA 2 (pt p2) (.agg (RR t).toArray)) (fun _ => bind (ldA 2 (pt p2)) fun vr => ret vr) X2 = some (.agg (RR t).toArray, X2.set p2 (.cells (RR t) 1 false false)) := fun t => fin_box c2 rfl rfl (RR_one t)
  refine ⟨X2.set p2 (.cells (RR (failS e s)) 1 false false), f1 _ _ ?_, k2.put hp2⟩
  unfold F_ref01Fail failS
  rw [bind_eq z1, bind_eq z2, bind_eq fa_z, bind_eq a1, bind_eq q1]
  by_cases h0 : s.1 = 0
  · rw [show (s.1 != 0) = false from by simp [h0], b_g_in, b_assoc, bind_eq q2, b_ret, c2_r, bind_eq pick_r]
    simp only [cond_false]
    by_cases he0 : e = 0
    · rw [if_neg (by simp [he0]), cnd_b, if_pos (by simp [he0]), bind_eq d1]
      exact hfin s
    · have zb : bld (.agg #[.string ⟨#[]⟩, .int .i64 0]) [(1, 1, iv e)] X2 = some (.agg (RR (e, [])).toArray, X2) := rfl
      rw [if_pos ⟨h0, he0⟩, cnd_b, if_neg (by simp [he0]), bind_eq zb]
      exact hfin (e, [])
  · rw [show (s.1 != 0) = true from by simp [h0], bind_eq (g_r.trans (if_neg (by simp)))]
    simp only [List.replicate]
    rw [c2_r, bind_eq pick_r]
    simp only [cond_true]
    rw [if_neg (by simp [h0]), cnd_b, if_pos rfl, bind_eq d1]
    exact hfin s

theorem sls_d {s : List UInt8} {k : Nat} (hk : k ≤ s.length) : sls (strv s) (some (iv k)) none H = some (strv (s.drop k), H) := by
  have b1 : ∀ d, bnd (some (iv k)) d = some k := fun d => by simp [bnd]
  have b2 : ∀ d, bnd none d = some d := fun _ => rfl
  unfold strv
  simp only [sls, b1, b2]
  rw [if_pos ⟨by simpa [ByteArray.size] using hk, Nat.le_refl _⟩]
  congr 3
  apply ByteArray.ext
  rw [ByteArray.data_extract]
  simp [ByteArray.size]
  exact List.take_of_length_le (by simp)

theorem r_take1 {k : Nat} (hk : k ≤ 1000000000) (hl : s.2.length ≤ 1000000000) (ho : okR s) : ∃ ok H', R (n + 2) n_ref01Take [.agg (RR s).toArray, iv k] H = some (.tuple #[.agg (RR (tkS k s).2).toArray, strv (tkS k s).1, ok], H') ∧ HLe H H' := by
  have z1 := bx (X := H) (RR_one s)
  have z2 := bx (X := H ++ [.cells (RR s) 1 false false]) (RR_one (0, []))
  have k2 : HLe H (H ++ [AObj.cells (RR s) 1 false false] ++ [AObj.cells (RR (0, [])) 1 false false]) := (HLe.app _ _).trans (.app _ _)
  have c1 : (H ++ [AObj.cells (RR s) 1 false false] ++ [AObj.cells (RR (0, [])) 1 false false])[H.length]? = some (.cells (RR s) 1 false false) := app2_0
  have c2 : (H ++ [AObj.cells (RR s) 1 false false] ++ [AObj.cells (RR (0, [])) 1 false false])[(H ++ [AObj.cells (RR s) 1 false false]).length]? = some (.cells (RR (0, [])) 1 false false) := app_new
  have hp2 : H.length < (H ++ [AObj.cells (RR s) 1 false false]).length := by simp
  generalize H ++ [AObj.cells (RR s) 1 false false] ++ [AObj.cells (RR (0, [])) 1 false false] = X2 at z2 k2 c1 c2
  generalize (H ++ [AObj.cells (RR s) 1 false false]).length = p2 at z2 c2 hp2
  have z2 : alc 1 (.agg #[.string ⟨#[]⟩, .int .i64 0]) _ = some (pt p2, X2) := z2
  have a1 : ld1 (pa H.length 1) X2 = some (iv s.1, X2) := ld1_at c1 rfl
  have a0 : ld1 (pa H.length 0) X2 = some (strv s.2, X2) := ld1_at c1 rfl
  have d1 : ldA 2 (pt H.length) X2 = some (.agg (RR s).toArray, X2) := ldA_at (n := 2) c1 rfl
  have q1 : bop .int .neq (iv s.1) (.int .i64 0) X2 = some (.bool (s.1 != 0), X2) := by rw [neq_r, nz_bne]
  have q2 : bop .int .gtr (iv k) (iv s.2.length) X2 = some (.bool (decide (k > s.2.length)), X2) := by
    rw [gtr_r, show decide ((k : Int) > (s.2.length : Int)) = decide (k > s.2.length) from by rw [decide_eq_decide]; omega]
  have f1 : ∀ r H', F_ref01Take (R (n + 1)) (.agg (RR s).toArray) (iv k) H = some (r, H') → R (n + 2) n_ref01Take [.agg (RR s).toArray, iv k] H = some (r, H') := fun r H' hr => by rw [R, run_ref01Take rfl]; exact hr
  -- there are fewer
  have hF : ∃ H', (bind (ldA 2 (pt H.length)) fun v17x12 => bind (R (n + 1) n_ref01Fail [v17x12, (Value.int .i64 2)]) fun v18x13 => bind (stA 2 (pt p2) v18x13) fun _ => bind (ldA 2 (pt p2)) fun vrx14 => ret (Value.tuple #[vrx14, (Value.string ⟨#[]⟩), (Value.bool false)])) X2 = some (.tuple #[.agg (RR (failS 2 s)).toArray, strv [], .bool false], H') ∧ HLe H H' := by
    obtain ⟨X3, e3, k3⟩ := r_fail1 (n := n) (s := s) (e := 2) (H := X2) (by omega)
    have e3 : R (n + 1) n_ref01Fail [.agg (RR s).toArray, .int .i64 2] X2 = _ := e3
    refine ⟨X3.set p2 (.cells (RR (failS 2 s)) 1 false false), ?_, (k2.trans k3).put (Nat.le_of_lt hp2)⟩
    rw [bind_eq d1, bind_eq e3]
    exact fin_box (k3 _ _ c2) rfl rfl (RR_one _)
  by_cases h0 : s.1 = 0
  · by_cases hle : k ≤ s.2.length
    · have hlt : ¬ k > s.2.length := by omega
      have zb : bld (.agg #[.string ⟨#[]⟩, .int .i64 0]) [(0, 1, strv (s.2.drop k))] X2 = some (.agg (RR (0, s.2.drop k)).toArray, X2) := by
        simp [bld, bldC, Value.cells, isTup, strv, splice]
      have a0' : ld1 (pa H.length 0) (X2.set p2 (.cells (RR (0, s.2.drop k)) 1 false false)) = some (strv s.2, X2.set p2 (.cells (RR (0, s.2.drop k)) 1 false false)) := ld1_at ((List.getElem?_set_ne (by omega)).trans c1) rfl
      have w2 := stA_at (vs := RR (0, s.2.drop k)) (n := 2) c2 rfl rfl (RR_one _)
      have d2 : ldA 2 (pt p2) (X2.set p2 (.cells (RR (0, s.2.drop k)) 1 false false)) = some (.agg (RR (0, s.2.drop k)).toArray, _) := ldA_at (n := 2) (set_get c2) rfl
      have ht : tkS k s = (s.2.take k, (0, s.2.drop k)) := by unfold tkS; rw [if_pos hle, h0]
      rw [ht]
      refine ⟨.bool true, X2.set p2 (.cells (RR (0, s.2.drop k)) 1 false false), f1 _ _ ?_, k2.put (Nat.le_of_lt hp2)⟩
      unfold F_ref01Take
      rw [bind_eq z1, bind_eq z2, bind_eq fa_z, bind_eq a1, bind_eq q1, show (s.1 != 0) = false from by simp [h0], b_g_in, b_assoc, bind_eq fa_z, b_assoc, bind_eq a0, b_assoc, bind_eq lenT_v, b_assoc, bind_eq q2, b_ret, c5_r, bind_eq pick_r]
      simp only [cond_false]
      rw [cnd_b, if_neg (by simpa using hle), bind_eq fa_z, bind_eq a0, bind_eq (sls_d hle), bind_eq zb, bind_eq fa_z, bind_eq a0, bind_eq (sls_v hle), bind_eq w2, bind_eq a0', same_self, bind_eq d2]
      rfl
    · have ht : tkS k s = ([], failS 2 s) := by unfold tkS; rw [if_neg hle]
      rw [ht]
      obtain ⟨H', e, kk⟩ := hF
      refine ⟨.bool false, H', f1 _ _ ?_, kk⟩
      unfold F_ref01Take
      rw [bind_eq z1, bind_eq z2, bind_eq fa_z, bind_eq a1, bind_eq q1, show (s.1 != 0) = false from by simp [h0], b_g_in, b_assoc, bind_eq fa_z, b_assoc, bind_eq a0, b_assoc, bind_eq lenT_v, b_assoc, bind_eq q2, b_ret, c5_r, bind_eq pick_r]
      simp only [cond_false]
      rw [cnd_b, if_pos (by simpa using hle)]
      exact e
  · have ht : tkS k s = ([], failS 2 s) := by
      rw [tk_err ho h0]
      unfold failS
      rw [if_neg (fun h => h0 h.1)]
    rw [ht]
    obtain ⟨H', e, kk⟩ := hF
    refine ⟨.bool false, H', f1 _ _ ?_, kk⟩
    unfold F_ref01Take
    rw [bind_eq z1, bind_eq z2, bind_eq fa_z, bind_eq a1, bind_eq q1, show (s.1 != 0) = true from by simp [h0], bind_eq (g_r.trans (if_neg (by simp)))]
    simp only [List.replicate]
    rw [c5_r, bind_eq pick_r]
    simp only [cond_true]
    rw [cnd_b, if_pos rfl]
    exact e

/-- A number of its bytes, from the last one. -/
theorem value_do {t : List UInt8} (ht : t.length ≤ 8) : ∀ (k : Nat), k ≤ t.length →
    loopM (c3 (F_ref01Value.l1 (R n))) [strv t, .int .u64 (leN (t.drop k)), iv ((k : Int) - 1)] X = some (.ext 0 [.int .u64 (leN t)], X)
  | 0, hk => by
    refine loop_ext ?_
    rw [c3_r]
    unfold F_ref01Value.l1
    rw [bind_eq geq_r, cnd_b, if_neg (by simp)]
    rfl
  | k + 1, hk => by
    have hkl : k < t.length := by omega
    have hg := List.getElem?_eq_getElem hkl
    have hd := List.drop_eq_getElem_cons hkl
    generalize t[k] = x at hg hd
    have hv : leN (t.drop k) = x.toNat + 256 * leN (t.drop (k + 1)) := by rw [hd]; rfl
    have hlt := leN_lt (t.drop (k + 1))
    have hlen : (t.drop (k + 1)).length = t.length - (k + 1) := List.length_drop
    have hp : 256 ^ (t.drop (k + 1)).length ≤ 256 ^ 7 := Nat.pow_le_pow_right (by decide) (by omega)
    have hx : x.toNat < 256 := x.toNat_lt
    have e0 : ((k + 1 : Nat) : Int) - 1 = k := by omega
    have c1 : bop .int .mul (.int .u64 (leN (t.drop (k + 1)))) (.int .u64 256) X = some (.int .u64 ((leN (t.drop (k + 1)) * 256 : Nat) : Int), X) := by
      rw [mul_r, wu64, Int.emod_eq_of_lt (by omega) (by omega)]; simp
    have c2 : cvi .u64 (u8v x) X = some (.int .u64 x.toNat, X) := by rw [cvi_r, wu64, Int.emod_eq_of_lt (by omega) (by omega)]
    have c3' : bop .int .add (.int .u64 ((leN (t.drop (k + 1)) * 256 : Nat) : Int)) (.int .u64 x.toNat) X = some (.int .u64 (leN (t.drop k)), X) := by
      rw [add_r, wu64, Int.emod_eq_of_lt (by omega) (by omega), hv]
      congr 3
      omega
    refine (loop_next ?_).trans (value_do ht k (by omega))
    rw [c3_r]
    unfold F_ref01Value.l1
    rw [e0, bind_eq geq_r, cnd_b, if_pos (by simp), bind_eq c1, bind_eq (ixs_v hg .i64 X), bind_eq c2, bind_eq c3', bind_eq sub_r, w64 (by omega) (by omega)]
    rfl

theorem r_value {t : List UInt8} (ht : t.length ≤ 8) : R (n + 1) n_ref01Value [strv t] X = some (.int .u64 (leN t), X) := by
  have e := value_do (n := n) (X := X) ht t.length (Nat.le_refl _)
  rw [List.drop_length] at e
  have e : loopM (c3 (F_ref01Value.l1 (R n))) [strv t, .int .u64 0, iv ((t.length : Int) - 1)] X = _ := e
  rw [R, run_ref01Value rfl]
  unfold F_ref01Value
  rw [bind_eq lenT_v, bind_eq sub_r, w64 (by omega) (by omega), jn_ext e, xk_hit]
  rfl

theorem r_get1 {k : Nat} (hk : k ≤ 8) (hl : s.2.length ≤ 1000000000) (ho : okR s) : ∃ H', R (n + 3) n_ref01Get [.agg (RR s).toArray, iv k] H = some (.tuple #[.agg (RR (numS k s).2).toArray, .int .u64 (numS k s).1], H') ∧ HLe H H' := by
  have z1 := bx (X := H) (RR_one s)
  have z2 := bx (X := H ++ [.cells (RR s) 1 false false]) (RR_one (0, []))
  have k2 : HLe H (H ++ [AObj.cells (RR s) 1 false false] ++ [AObj.cells (RR (0, [])) 1 false false]) := (HLe.app _ _).trans (.app _ _)
  have c1 : (H ++ [AObj.cells (RR s) 1 false false] ++ [AObj.cells (RR (0, [])) 1 false false])[H.length]? = some (.cells (RR s) 1 false false) := app2_0
  have c2 : (H ++ [AObj.cells (RR s) 1 false false] ++ [AObj.cells (RR (0, [])) 1 false false])[(H ++ [AObj.cells (RR s) 1 false false]).length]? = some (.cells (RR (0, [])) 1 false false) := app_new
  have hp2 : H.length < (H ++ [AObj.cells (RR s) 1 false false]).length := by simp
  generalize H ++ [AObj.cells (RR s) 1 false false] ++ [AObj.cells (RR (0, [])) 1 false false] = X2 at z2 k2 c1 c2
  generalize (H ++ [AObj.cells (RR s) 1 false false]).length = p2 at z2 c2 hp2
  have z2 : alc 1 (.agg #[.string ⟨#[]⟩, .int .i64 0]) _ = some (pt p2, X2) := z2
  have d1 : ldA 2 (pt H.length) X2 = some (.agg (RR s).toArray, X2) := ldA_at (n := 2) c1 rfl
  obtain ⟨ok, X3, e3, k3⟩ := r_take1 (n := n) (H := X2) (k := k) (by omega) hl ho
  have htl := tkS_len (k := k) (s := s)
  unfold numS
  generalize tkS k s = T at e3 htl
  obtain ⟨t, s'⟩ := T
  have e3 : R (n + 2) n_ref01Take [.agg (RR s).toArray, iv k] X2 = some (.tuple #[.agg (RR s').toArray, strv t, ok], X3) := e3
  have htl : t.length ≤ k := htl
  have z4 := bx (X := X3) (RR_one (0, []))
  have k4 : HLe X3 (X3 ++ [AObj.cells (RR s') 1 false false]) := .app _ _
  have c4' : (X3 ++ [AObj.cells (RR s') 1 false false])[X3.length]? = some (.cells (RR s') 1 false false) := app_new
  have w4 : stA 2 (pt X3.length) (.agg (RR s').toArray) (X3 ++ [.cells (RR (0, [])) 1 false false]) = some (undef, X3 ++ [.cells (RR s') 1 false false]) := by
    have := stA_at (vs := RR s') (n := 2) (H := X3 ++ [AObj.cells (RR (0, [])) 1 false false]) (id := X3.length) (cs := RR (0, [])) (es := 1) (g := false) app_new rfl rfl (RR_one _)
    rw [this]; simp
  have z4 : alc 1 (.agg #[.string ⟨#[]⟩, .int .i64 0]) X3 = some (pt X3.length, X3 ++ [.cells (RR (0, [])) 1 false false]) := z4
  have hc24 := k4 _ _ (k3 _ _ c2)
  generalize X3 ++ [AObj.cells (RR s') 1 false false] = X4 at k4 c4' w4 hc24
  have d4 : ldA 2 (pt X3.length) X4 = some (.agg (RR s').toArray, X4) := ldA_at (n := 2) c4' rfl
  have e5 := r_value (n := n + 1) (X := X4) (t := t) (by omega)
  have e5 : R (n + 2) n_ref01Value [strv t] X4 = _ := e5
  refine ⟨X4.set p2 (.cells (RR s') 1 false false), ?_, ((k2.trans k3).trans k4).put (Nat.le_of_lt hp2)⟩
  rw [R, run_ref01Get rfl]
  unfold F_ref01Get
  rw [bind_eq z1, bind_eq z2, bind_eq d1, bind_eq e3, bind_eq extr_q0, bind_eq extr_q1, bind_eq extr_q2, bind_eq z4, bind_eq w4, bind_eq d4, bind_eq e5, bind_eq d4, same_self]
  exact fin_box hc24 rfl rfl (RR_one _)

/-! texts, users -/

theorem count_all : countS 65535 s = numS 2 s := by
  have hl := numS_lt (s := s) (k := 2)
  unfold countS
  rw [if_neg (by omega)]

theorem tk_le {k : Nat} : (tkS k s).2.2.length ≤ s.2.length := by
  unfold tkS failS
  split
  · simp
  · split
    · simp
    · exact Nat.le_refl _
theorem num_le {k : Nat} : (numS k s).2.2.length ≤ s.2.length := tk_le
theorem text_le : (textS 65535 s).2.2.length ≤ s.2.length := by
  unfold textS
  rw [count_all]
  exact Nat.le_trans tk_le num_le

/-- A new box with a value in it. -/
theorem mkbox {zs r : List Value} {n : Nat} (hz : zs.length = n) (hr : r.length = n) (hz1 : zs.all oneCell = true) (h1 : r.all oneCell = true) {K : Value → M β} :
    bind (alc 1 (.agg zs.toArray)) (fun q => bind (stA n q (.agg r.toArray)) fun _ => K q) H = K (pt H.length) (H ++ [.cells r 1 false false]) := box_a hz hr hz1 h1

theorem r_gettext1 (hl : s.2.length ≤ 1000000000) (ho : okR s) : ∃ H', R (n + 4) n_ref01GetText [.agg (RR s).toArray, iv 65535] H = some (.tuple #[.agg (RR (textS 65535 s).2).toArray, strv (textS 65535 s).1], H') ∧ HLe H H' := by
  have z1 := bx (X := H) (RR_one s)
  have z2 := bx (X := H ++ [.cells (RR s) 1 false false]) (RR_one (0, []))
  have k2 : HLe H (H ++ [AObj.cells (RR s) 1 false false] ++ [AObj.cells (RR (0, [])) 1 false false]) := (HLe.app _ _).trans (.app _ _)
  have c1 : (H ++ [AObj.cells (RR s) 1 false false] ++ [AObj.cells (RR (0, [])) 1 false false])[H.length]? = some (.cells (RR s) 1 false false) := app2_0
  have c2 : (H ++ [AObj.cells (RR s) 1 false false] ++ [AObj.cells (RR (0, [])) 1 false false])[(H ++ [AObj.cells (RR s) 1 false false]).length]? = some (.cells (RR (0, [])) 1 false false) := app_new
  have hp2 : H.length < (H ++ [AObj.cells (RR s) 1 false false]).length := by simp
  generalize H ++ [AObj.cells (RR s) 1 false false] ++ [AObj.cells (RR (0, [])) 1 false false] = X2 at z2 k2 c1 c2
  generalize (H ++ [AObj.cells (RR s) 1 false false]).length = p2 at z2 c2 hp2
  have z2 : alc 1 (.agg #[.string ⟨#[]⟩, .int .i64 0]) _ = some (pt p2, X2) := z2
  have d1 : ldA 2 (pt H.length) X2 = some (.agg (RR s).toArray, X2) := ldA_at (n := 2) c1 rfl
  obtain ⟨X3, e3, k3⟩ := r_get1 (n := n) (H := X2) (k := 2) (by omega) hl ho
  have e3 : R (n + 3) n_ref01Get [.agg (RR s).toArray, .int .i64 2] X2 = _ := e3
  have hcl := numS_lt (k := 2) (s := s)
  have ho' : okR (numS 2 s).2 := okR_num ho
  have hle' : (numS 2 s).2.2.length ≤ 1000000000 := Nat.le_trans num_le hl
  unfold textS
  rw [count_all]
  generalize numS 2 s = C at e3 hcl ho' hle'
  obtain ⟨cv, s'⟩ := C
  have e3 : R (n + 3) n_ref01Get [.agg (RR s).toArray, .int .i64 2] X2 = some (.tuple #[.agg (RR s').toArray, .int .u64 cv], X3) := e3
  have hcl : cv < 65536 := hcl
  have ho' : okR s' := ho'
  have hle' : s'.2.length ≤ 1000000000 := hle'
  have k4 : HLe X3 (X3 ++ [AObj.cells (RR s') 1 false false]) := .app _ _
  have c4' : (X3 ++ [AObj.cells (RR s') 1 false false])[X3.length]? = some (.cells (RR s') 1 false false) := app_new
  have z4 := fun {K : Value → M Value} => mkbox (H := X3) (n := 2) (zs := RR (0, [])) (r := RR s') (K := K) rfl rfl (RR_one _) (RR_one _)
  have hc24 := k4 _ _ (k3 _ _ c2)
  have hp4 : p2 < X3.length := get_lt (k3 _ _ c2)
  generalize X3 ++ [AObj.cells (RR s') 1 false false] = X4 at k4 c4' z4 hc24
  generalize X3.length = p4 at c4' z4 hp4
  have z4 : ∀ {K : Value → M Value}, bind (alc 1 (.agg #[.string ⟨#[]⟩, .int .i64 0])) (fun q => bind (stA 2 q (.agg (RR s').toArray)) fun _ => K q) X3 = K (pt p4) X4 := z4
  have a1 : ld1 (pa p4 1) X4 = some (iv s'.1, X4) := ld1_at c4' rfl
  have q1 : bop .int .eql (iv s'.1) (.int .i64 0) X4 = some (.bool (s'.1 == 0), X4) := by rw [eql_r, nz_beq]
  have cI : cvi .i64 (.int .u64 cv) X4 = some (iv cv, X4) := by rw [cvi_r, w64 (by omega) (by omega)]
  have cM : mxi true (.int .i64 0) (iv 65535) X4 = some (iv 65535, X4) := by rw [mx_r]; rfl
  have cG : bop .int .gtr (iv cv) (iv 65535) X4 = some (.bool false, X4) := by rw [gtr_r, decide_eq_false (by omega)]
  have d4 : ldA 2 (pt p4) X4 = some (.agg (RR s').toArray, X4) := ldA_at (n := 2) c4' rfl
  obtain ⟨ok, X5, e5, k5⟩ := r_take1 (n := n + 1) (H := X4) (k := cv) (s := s') (by omega) hle' ho'
  have e5 : R (n + 3) n_ref01Take [.agg (RR s').toArray, iv cv] X4 = _ := e5
  generalize tkS cv s' = T at e5
  obtain ⟨t, s''⟩ := T
  have e5 : R (n + 3) n_ref01Take [.agg (RR s').toArray, iv cv] X4 = some (.tuple #[.agg (RR s'').toArray, strv t, ok], X5) := e5
  have w5 := stA_at (vs := RR s'') (n := 2) (k5 _ _ c4') rfl rfl (RR_one _)
  have d5 : ldA 2 (pt p4) (X5.set p4 (.cells (RR s'') 1 false false)) = some (.agg (RR s'').toArray, _) := ldA_at (n := 2) (set_get (k5 _ _ c4')) rfl
  have hc25 : (X5.set p4 (.cells (RR s'') 1 false false))[p2]? = some (.cells (RR (0, [])) 1 false false) := (List.getElem?_set_ne (by omega)).trans (k5 _ _ hc24)
  have hk5 : HLe H (X5.set p4 (.cells (RR s'') 1 false false)) := (((k2.trans k3).trans k4).trans k5).put (by omega)
  refine ⟨(X5.set p4 (.cells (RR s'') 1 false false)).set p2 (.cells (RR s'') 1 false false), ?_, hk5.put (by omega)⟩
  rw [R, run_ref01GetText rfl]
  unfold F_ref01GetText
  rw [bind_eq z1, bind_eq z2, bind_eq d1, bind_eq e3, bind_eq extr_p0, bind_eq extr_p1, z4, bind_eq fa_z, bind_eq a1, bind_eq q1]
  have hgate : ∀ K : Value → M Value, bind (gate (Value.bool (s'.1 == 0)) true 5 (bind (cvi .i64 (.int .u64 cv)) fun v20x11 =>
  bind (mxi true (Value.int .i64 0) (iv 65535)) fun v22x12 =>
  bind (bop .int .gtr v20x11 v22x12) fun v23x13 =>
  ret [.int .u64 cv, v20x11, iv 65535, v22x12, v23x13])) (c5 fun _ _ _ _ q14_4 =>
  bind (pick (Value.bool (s'.1 == 0)) q14_4 (Value.bool false)) K) X4 = K (.bool false) X4 := fun K => by
    cases s'.1 == 0
    · rw [bind_eq (g_r.trans (if_neg (by simp)))]
      simp only [List.replicate]
      rw [c5_r, bind_eq pick_r]
      rfl
    · rw [b_g_in, b_assoc, bind_eq cI, b_assoc, bind_eq cM, b_assoc, bind_eq cG, b_ret, c5_r, bind_eq pick_r]
      rfl
  refine (hgate _).trans ?_
  rw [cnd_b, if_neg (by simp), bind_eq d4, bind_eq cI, bind_eq e5, bind_eq extr_q0, bind_eq extr_q1, bind_eq extr_q2, bind_eq w5, bind_eq d5]
  exact fin_box hc25 rfl rfl (RR_one _)

theorem getF_fail {u : Ent} {r : RSt} : getF u r = (if (failS (errE u) r).1 = 0 then u else ([], []), failS (errE u) r) := by
  have h : (if r.1 = 0 then failS (errE u) r else r) = failS (errE u) r := by
    by_cases h0 : r.1 = 0
    · rw [if_pos h0]
    · rw [if_neg h0]
      unfold failS
      rw [if_neg (fun h => h0 h.1)]
  unfold getF
  rw [h]

theorem r_get6 (hl : s.2.length ≤ 1000000000) (ho : okR s) : ∃ H', R (n + 5) n_ref06Get [.agg (RR s).toArray, iv 1] H = some (.tuple #[.agg (RR (getS s).2).toArray, .agg (usr (getS s).1).toArray], H') ∧ HLe H H' := by
  have U0 : ∀ e : Ent, (usr e).all oneCell = true := fun _ => rfl
  -- the boxes
  have z1 := bx (X := H) (RR_one s)
  have k1 : HLe H (H ++ [AObj.cells (RR s) 1 false false]) := .app _ _
  have g1 : (H ++ [AObj.cells (RR s) 1 false false])[H.length]? = some (.cells (RR s) 1 false false) := app_new
  generalize H ++ [AObj.cells (RR s) 1 false false] = X1 at z1 k1 g1
  have z2 := bx (X := X1) (RR_one (0, []))
  have k2 : HLe X1 (X1 ++ [AObj.cells (RR (0, [])) 1 false false]) := .app _ _
  have g2 : (X1 ++ [AObj.cells (RR (0, [])) 1 false false])[X1.length]? = some (.cells (RR (0, [])) 1 false false) := app_new
  generalize X1 ++ [AObj.cells (RR (0, [])) 1 false false] = X2 at z2 k2 g2
  have z3 := bx (X := X2) (U0 ([], []))
  have k3 : HLe X2 (X2 ++ [AObj.cells (usr ([], [])) 1 false false]) := .app _ _
  have g3 : (X2 ++ [AObj.cells (usr ([], [])) 1 false false])[X2.length]? = some (.cells (usr ([], [])) 1 false false) := app_new
  generalize X2 ++ [AObj.cells (usr ([], [])) 1 false false] = X3 at z3 k3 g3
  have z4 := fun {K : Value → M Value} => mkbox (H := X3) (n := 5) (zs := usr ([], [])) (r := usr ([], [])) (K := K) rfl rfl (U0 _) (U0 _)
  have k4 : HLe X3 (X3 ++ [AObj.cells (usr ([], [])) 1 false false]) := .app _ _
  have g4 : (X3 ++ [AObj.cells (usr ([], [])) 1 false false])[X3.length]? = some (.cells (usr ([], [])) 1 false false) := app_new
  generalize X3 ++ [AObj.cells (usr ([], [])) 1 false false] = X4 at z4 k4 g4
  have z5 := fun {K : Value → M Value} => mkbox (H := X4) (n := 5) (zs := usr ([], [])) (r := usr ([], [])) (K := K) rfl rfl (U0 _) (U0 _)
  have k5 : HLe X4 (X4 ++ [AObj.cells (usr ([], [])) 1 false false]) := .app _ _
  have g5 : (X4 ++ [AObj.cells (usr ([], [])) 1 false false])[X4.length]? = some (.cells (usr ([], [])) 1 false false) := app_new
  generalize X4 ++ [AObj.cells (usr ([], [])) 1 false false] = X5 at z5 k5 g5
  have l1 := get_lt g1
  have l2 := get_lt g2
  have l3 := get_lt g3
  have l4 := get_lt g4
  have m1 := k1.len
  have m2 := k2.len
  have m3 := k3.len
  have m4 := k4.len
  have b1 : X5[H.length]? = some (.cells (RR s) 1 false false) := k5 _ _ (k4 _ _ (k3 _ _ (k2 _ _ g1)))
  have b2 : X5[X1.length]? = some (.cells (RR (0, [])) 1 false false) := k5 _ _ (k4 _ _ (k3 _ _ g2))
  have b3 : X5[X2.length]? = some (.cells (usr ([], [])) 1 false false) := k5 _ _ (k4 _ _ g3)
  have b4 : X5[X3.length]? = some (.cells (usr ([], [])) 1 false false) := k5 _ _ g4
  have b5 : X5[X4.length]? = some (.cells (usr ([], [])) 1 false false) := g5
  have hk : HLe H X5 := (((k1.trans k2).trans k3).trans k4).trans k5
  have dz : ldA 5 (pt X3.length) X4 = some (.agg (usr ([], [])).toArray, X4) := ldA_at (n := 5) g4 rfl
  generalize hP1 : H.length = P1 at *
  generalize X1.length = P2 at *
  generalize X2.length = P3 at *
  generalize X3.length = P4 at *
  generalize X4.length = P5 at *
  have zb : bld (.agg #[.string ⟨#[]⟩, .string ⟨#[]⟩, .string ⟨#[]⟩, .bool false, .slice none 0 0]) [] X3 = some (.agg (usr ([], [])).toArray, X3) := rfl
  have q1 : bop .int .lss (iv 1) (.int .i64 1) X4 = some (.bool false, X4) := by rw [lss_r]; rfl
  have q2 : bop .int .gtr (iv 1) (.int .i64 2) X4 = some (.bool false, X4) := by rw [gtr_r]; rfl
  -- the name
  have d1 : ldA 2 (pt P1) X5 = some (.agg (RR s).toArray, X5) := ldA_at (n := 2) b1 rfl
  obtain ⟨X6, e6, k6⟩ := r_gettext1 (n := n) (H := X5) hl ho
  have e6 : R (n + 4) n_ref01GetText [.agg (RR s).toArray, .int .i64 65535] X5 = _ := e6
  have ho6 : okR (textS 65535 s).2 := okR_text ho
  have hl6 : (textS 65535 s).2.2.length ≤ 1000000000 := Nat.le_trans text_le hl
  unfold getS
  generalize textS 65535 s = T at e6 ho6 hl6
  obtain ⟨nm, s1⟩ := T
  have e6 : R (n + 4) n_ref01GetText [.agg (RR s).toArray, .int .i64 65535] X5 = some (.tuple #[.agg (RR s1).toArray, strv nm], X6) := e6
  have ho6 : okR s1 := ho6
  have hl6 : s1.2.length ≤ 1000000000 := hl6
  simp only []
  have w6 := stA_at (vs := RR s1) (n := 2) (k6 _ _ b1) rfl rfl (RR_one _)
  have hk6 : HLe H (X6.set P1 (.cells (RR s1) 1 false false)) := (hk.trans k6).put (by omega)
  have b1 := set_get (b := AObj.cells (RR s1) 1 false false) (k6 _ _ b1)
  have b2 := (List.getElem?_set_ne (a := AObj.cells (RR s1) 1 false false) (show P1 ≠ P2 by omega)).trans (k6 _ _ b2)
  have b3 := (List.getElem?_set_ne (a := AObj.cells (RR s1) 1 false false) (show P1 ≠ P3 by omega)).trans (k6 _ _ b3)
  have b4 := (List.getElem?_set_ne (a := AObj.cells (RR s1) 1 false false) (show P1 ≠ P4 by omega)).trans (k6 _ _ b4)
  have b5 := (List.getElem?_set_ne (a := AObj.cells (RR s1) 1 false false) (show P1 ≠ P5 by omega)).trans (k6 _ _ b5)
  generalize X6.set P1 (.cells (RR s1) 1 false false) = X7 at w6 hk6 b1 b2 b3 b4 b5
  have w7 : st1 (pa P5 0) (strv nm) X7 = some (undef, X7.set P5 (.cells (usr (nm, [])) 1 false false)) := st1_at (o := 0) b5 (by simp [usr]) rfl
  have hk7 : HLe H (X7.set P5 (.cells (usr (nm, [])) 1 false false)) := hk6.put (by omega)
  have b1 := (List.getElem?_set_ne (a := AObj.cells (usr (nm, [])) 1 false false) (show P5 ≠ P1 by omega)).trans b1
  have b2 := (List.getElem?_set_ne (a := AObj.cells (usr (nm, [])) 1 false false) (show P5 ≠ P2 by omega)).trans b2
  have b3 := (List.getElem?_set_ne (a := AObj.cells (usr (nm, [])) 1 false false) (show P5 ≠ P3 by omega)).trans b3
  have b4 := (List.getElem?_set_ne (a := AObj.cells (usr (nm, [])) 1 false false) (show P5 ≠ P4 by omega)).trans b4
  have b5 := set_get (b := AObj.cells (usr (nm, [])) 1 false false) b5
  generalize X7.set P5 (.cells (usr (nm, [])) 1 false false) = X8 at w7 hk7 b1 b2 b3 b4 b5
  -- the sum
  have d8 : ldA 2 (pt P1) X8 = some (.agg (RR s1).toArray, X8) := ldA_at (n := 2) b1 rfl
  obtain ⟨X9, e9, k9⟩ := r_gettext1 (n := n) (H := X8) hl6 ho6
  have e9 : R (n + 4) n_ref01GetText [.agg (RR s1).toArray, .int .i64 65535] X8 = _ := e9
  generalize textS 65535 s1 = T at e9
  obtain ⟨hs, s2⟩ := T
  have e9 : R (n + 4) n_ref01GetText [.agg (RR s1).toArray, .int .i64 65535] X8 = some (.tuple #[.agg (RR s2).toArray, strv hs], X9) := e9
  simp only []
  have w9 := stA_at (vs := RR s2) (n := 2) (k9 _ _ b1) rfl rfl (RR_one _)
  have hk9 : HLe H (X9.set P1 (.cells (RR s2) 1 false false)) := (hk7.trans k9).put (by omega)
  have b1 := set_get (b := AObj.cells (RR s2) 1 false false) (k9 _ _ b1)
  have b2 := (List.getElem?_set_ne (a := AObj.cells (RR s2) 1 false false) (show P1 ≠ P2 by omega)).trans (k9 _ _ b2)
  have b3 := (List.getElem?_set_ne (a := AObj.cells (RR s2) 1 false false) (show P1 ≠ P3 by omega)).trans (k9 _ _ b3)
  have b4 := (List.getElem?_set_ne (a := AObj.cells (RR s2) 1 false false) (show P1 ≠ P4 by omega)).trans (k9 _ _ b4)
  have b5 := (List.getElem?_set_ne (a := AObj.cells (RR s2) 1 false false) (show P1 ≠ P5 by omega)).trans (k9 _ _ b5)
  generalize X9.set P1 (.cells (RR s2) 1 false false) = Xa at w9 hk9 b1 b2 b3 b4 b5
  have wa : st1 (pa P5 1) (strv hs) Xa = some (undef, Xa.set P5 (.cells (usr (nm, hs)) 1 false false)) := st1_at (o := 1) b5 (by simp [usr]) rfl
  have hka : HLe H (Xa.set P5 (.cells (usr (nm, hs)) 1 false false)) := hk9.put (by omega)
  have b1 := (List.getElem?_set_ne (a := AObj.cells (usr (nm, hs)) 1 false false) (show P5 ≠ P1 by omega)).trans b1
  have b2 := (List.getElem?_set_ne (a := AObj.cells (usr (nm, hs)) 1 false false) (show P5 ≠ P2 by omega)).trans b2
  have b3 := (List.getElem?_set_ne (a := AObj.cells (usr (nm, hs)) 1 false false) (show P5 ≠ P3 by omega)).trans b3
  have b4 := (List.getElem?_set_ne (a := AObj.cells (usr (nm, hs)) 1 false false) (show P5 ≠ P4 by omega)).trans b4
  have b5 := set_get (b := AObj.cells (usr (nm, hs)) 1 false false) b5
  generalize Xa.set P5 (.cells (usr (nm, hs)) 1 false false) = Xb at wa hka b1 b2 b3 b4 b5
  -- the check
  have q3 : bop .int .eql (iv 1) (.int .i64 2) Xb = some (.bool false, Xb) := by rw [eql_r]; rfl
  have db : ldA 2 (pt P1) Xb = some (.agg (RR s2).toArray, Xb) := ldA_at (n := 2) b1 rfl
  have db5 : ldA 5 (pt P5) Xb = some (.agg (usr (nm, hs)).toArray, Xb) := ldA_at (n := 5) b5 rfl
  obtain ⟨Xc, ec, kc⟩ := r_refCheck (n := n) (usrA_ok (nm, hs) Xb)
  rw [errU_usrA] at ec
  have ec : R (n + 4) n_ref06Check [iv 1, .agg (usr (nm, hs)).toArray] Xb = some (iv (errE (nm, hs)), Xc) := ec
  have dc : ldA 2 (pt P1) Xc = some (.agg (RR s2).toArray, Xc) := ldA_at (n := 2) (kc _ _ b1) rfl
  obtain ⟨Xd, ed, kd⟩ := r_fail1 (n := n + 3) (H := Xc) (s := s2) (e := errE (nm, hs)) (by have := errE_le (nm, hs); omega)
  have ed : R (n + 4) n_ref01Fail [.agg (RR s2).toArray, iv (errE (nm, hs))] Xc = _ := ed
  rw [getF_fail]
  generalize failS (errE (nm, hs)) s2 = s3 at ed
  simp only []
  have kcd := kc.trans kd
  have wd := stA_at (vs := RR s3) (n := 2) (kcd _ _ b1) rfl rfl (RR_one _)
  have hkd : HLe H (Xd.set P1 (.cells (RR s3) 1 false false)) := (hka.trans kcd).put (by omega)
  have b1 := set_get (b := AObj.cells (RR s3) 1 false false) (kcd _ _ b1)
  have b2 := (List.getElem?_set_ne (a := AObj.cells (RR s3) 1 false false) (show P1 ≠ P2 by omega)).trans (kcd _ _ b2)
  have b3 := (List.getElem?_set_ne (a := AObj.cells (RR s3) 1 false false) (show P1 ≠ P3 by omega)).trans (kcd _ _ b3)
  have b4 := (List.getElem?_set_ne (a := AObj.cells (RR s3) 1 false false) (show P1 ≠ P4 by omega)).trans (kcd _ _ b4)
  have b5 := (List.getElem?_set_ne (a := AObj.cells (RR s3) 1 false false) (show P1 ≠ P5 by omega)).trans (kcd _ _ b5)
  generalize Xd.set P1 (.cells (RR s3) 1 false false) = Xe at wd hkd b1 b2 b3 b4 b5
  have ae : ld1 (pa P1 1) Xe = some (iv s3.1, Xe) := ld1_at b1 rfl
  have qe : bop .int .neq (iv s3.1) (.int .i64 0) Xe = some (.bool (s3.1 != 0), Xe) := by rw [neq_r, nz_bne]
  have de : ldA 2 (pt P1) Xe = some (.agg (RR s3).toArray, Xe) := ldA_at (n := 2) b1 rfl
  have we := stA_at (vs := RR s3) (n := 2) b2 rfl rfl (RR_one _)
  -- the end
  have hfin : ∀ (Q : Nat) (u : Ent), Q = P4 ∨ Q = P5 → Xe[Q]? = some (.cells (usr u) 1 false false) → (bind (ldA 2 (pt P1)) fun v59x54 => bind (ldA 5 (pt Q)) fun v60x55 => bind (stA 2 (pt P2) v59x54) fun _ => bind (ldA 5 (pt Q)) fun u_56 => same u_56 v60x55 <| bind (stA 5 (pt P3) v60x55) fun _ => bind (ldA 2 (pt P2)) fun vrx57 => bind (ldA 5 (pt P3)) fun vrx58 => ret (Value.tuple #[vrx57, vrx58])) Xe = some (.tuple #[.agg (RR s3).toArray, .agg (usr u).toArray], (Xe.set P2 (.cells (RR s3) 1 false false)).set P3 (.cells (usr u) 1 false false)) := fun Q u hQ bQ => by
    have x1 : ldA 5 (pt Q) Xe = some (.agg (usr u).toArray, Xe) := ldA_at (n := 5) bQ rfl
    have x2 : ldA 5 (pt Q) (Xe.set P2 (.cells (RR s3) 1 false false)) = some (.agg (usr u).toArray, _) := ldA_at (n := 5) ((List.getElem?_set_ne (by omega)).trans bQ) rfl
    have c3 : (Xe.set P2 (.cells (RR s3) 1 false false))[P3]? = some (.cells (usr ([], [])) 1 false false) := (List.getElem?_set_ne (by omega)).trans b3
    have x3 := stA_at (vs := usr u) (n := 5) c3 rfl rfl (U0 u)
    have x4 : ldA 2 (pt P2) ((Xe.set P2 (.cells (RR s3) 1 false false)).set P3 (.cells (usr u) 1 false false)) = some (.agg (RR s3).toArray, _) := ldA_at (n := 2) ((List.getElem?_set_ne (by omega)).trans (set_get b2)) rfl
    have x5 : ldA 5 (pt P3) ((Xe.set P2 (.cells (RR s3) 1 false false)).set P3 (.cells (usr u) 1 false false)) = some (.agg (usr u).toArray, _) := ldA_at (n := 5) (set_get c3) rfl
    rw [bind_eq de, bind_eq x1, bind_eq we, bind_eq x2, same_self, bind_eq x3, bind_eq x4, bind_eq x5]
    rfl
  have z3 : alc 1 (.agg #[.string ⟨#[]⟩, .string ⟨#[]⟩, .string ⟨#[]⟩, .bool false, .slice none 0 0]) X2 = some (pt P3, X3) := z3
  have z4 : ∀ {K : Value → M Value}, bind (alc 1 (.agg #[.string ⟨#[]⟩, .string ⟨#[]⟩, .string ⟨#[]⟩, .bool false, .slice none 0 0])) (fun q => bind (stA 5 q (.agg (usr ([], [])).toArray)) fun _ => K q) X3 = K (pt P4) X4 := z4
  have z5 : ∀ {K : Value → M Value}, bind (alc 1 (.agg #[.string ⟨#[]⟩, .string ⟨#[]⟩, .string ⟨#[]⟩, .bool false, .slice none 0 0])) (fun q => bind (stA 5 q (.agg (usr ([], [])).toArray)) fun _ => K q) X4 = K (pt P5) X5 := z5
  have z2 : alc 1 (.agg #[.string ⟨#[]⟩, .int .i64 0]) X1 = some (pt P2, X2) := z2
  refine ⟨(Xe.set P2 (.cells (RR s3) 1 false false)).set P3 (.cells (usr (if s3.1 = 0 then (nm, hs) else ([], []))) 1 false false), ?_, (hkd.put (by omega)).put (by omega)⟩
  rw [R, run_ref06Get rfl]
  unfold F_ref06Get
  rw [bind_eq z1, bind_eq z2, bind_eq z3, bind_eq zb, z4, bind_eq q1, b_g_in, b_assoc, bind_eq q2, b_ret, c2_r, bind_eq pick_r]
  simp only [cond_false]
  rw [cnd_b, if_neg (by simp), bind_eq dz, z5, bind_eq d1, bind_eq e6, bind_eq extr_p0, bind_eq extr_p1, bind_eq w6, bind_eq fa_z, bind_eq w7, bind_eq d8, bind_eq e9, bind_eq extr_p0, bind_eq extr_p1, bind_eq w9, bind_eq fa_z, bind_eq wa, bind_eq q3]
  refine (jn_nrm (vs := [iv 1, pt P1, pt P2, pt P3, pt P4, pt P5]) (H' := Xb) ?_).trans ?_
  · rw [cnd_b, if_neg (by simp)]; rfl
  · rw [c6_r, bind_eq db, bind_eq db5, bind_eq ec, bind_eq dc, same_self, bind_eq ed, bind_eq wd, bind_eq fa_z, bind_eq ae, bind_eq qe, cnd_b]
    by_cases h0 : s3.1 = 0
    · rw [if_neg (by simp [h0]), if_pos h0]
      exact hfin P5 (nm, hs) (.inr rfl) b5
    · rw [if_pos (by simp [h0]), if_neg h0]
      exact hfin P4 ([], []) (.inl rfl) b4

end

end Go.Proofs.YtlpibiaokpbhbaaGreatDoor.A
