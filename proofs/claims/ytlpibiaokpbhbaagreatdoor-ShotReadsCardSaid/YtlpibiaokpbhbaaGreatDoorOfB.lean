/- Users that make a directory. -/
import Derived.Test.YtlpibiaokpbhbaaGreatDoorOfA
namespace Go.Proofs.YtlpibiaokpbhbaaGreatDoor.A
set_option linter.unusedVariables false
set_option linter.unusedSimpArgs false
open Go.Proofs Go.Proofs.YtlpibiaokpbhbaaGreatDoor

section
variable {H0 H X : Heap} {n p d b : Nat} {u : UsrA} {us : List UsrA} {sl dv : Value}

theorem of1_do (hn : us.length ≤ 1000) (hA : Users H0 sl us) : ∀ (t k : Nat) (X : Heap), us.length - k = t → k ≤ us.length → HLe H0 X →
    ∃ X', loopM (c5 (F_elderOf.l1 (R (n + 6)))) [sl, dv, sl, iv us.length, iv k] X = some (if firstU (us.drop k) = 0 then .ext 0 [sl, dv] else .ret (.tuple #[.pointer none, iv (firstU (us.drop k))]), X') ∧ HLe H0 X'
  | 0, k, X, ht, hk, hle => by
    have : k = us.length := by omega
    subst this
    rw [List.drop_length]
    refine ⟨X, loop_ext ?_, hle⟩
    rw [c5_r]
    unfold F_elderOf.l1
    rw [bind_eq lss_r, cnd_b, if_neg (by simp)]
    rfl
  | t + 1, k, X, ht, hk, hle => by
    have hkl : k < us.length := by omega
    have hlt : (k : Int) < us.length := by omega
    have hg := List.getElem?_eq_getElem hkl
    have hd := List.drop_eq_getElem_cons hkl
    generalize us[k] = u at hg hd
    have hf := fun {K : Value → M Out} => (hA.mono hle).fetch (k := K) hg
    have hok := (hA.mono hle).2 u (List.mem_of_getElem? hg)
    have g1 : (X ++ [AObj.cells u.cells 1 false false])[X.length]? = some (.cells u.cells 1 false false) := app_new
    have k1 : HLe X (X ++ [AObj.cells u.cells 1 false false]) := .app _ _
    generalize X ++ [AObj.cells u.cells 1 false false] = X1 at g1 k1 hf
    have e1 : ldA 5 (pt X.length) X1 = some (.agg u.cells.toArray, X1) := ldA_at (n := 5) g1 rfl
    obtain ⟨X2, e2, k2⟩ := r_userCheck (n := n) (u := u) (X := X1) (GV.mono hok k1)
    have hb : c5 (F_elderOf.l1 (R (n + 6))) [sl, dv, sl, iv us.length, iv k] X = some (if errU u = 0 then .nrm [sl, dv, sl, iv us.length, iv ((k + 1 : Nat) : Int)] else .ret (.tuple #[.pointer none, iv (errU u)]), X2) := by
      rw [c5_r]
      unfold F_elderOf.l1
      have e2 : R (n + 6) n_userCheck [.int .i64 1, .agg u.cells.toArray] X1 = _ := e2
      rw [bind_eq lss_r, cnd_b, if_pos (by simpa using hlt), hf, bind_eq e1, bind_eq e2, bind_eq neq_r, cnd_b]
      by_cases h : errU u = 0
      · rw [if_neg (by simp [h]), if_pos h, bind_eq add_r, wsuc (by omega)]; rfl
      · rw [if_pos (by simp [h]), if_neg h]; rfl
    rw [hd]
    unfold firstU
    by_cases h : errU u = 0
    · rw [if_pos h] at hb
      simp only [if_pos h]
      obtain ⟨X3, e3, k3⟩ := of1_do hn hA t (k + 1) X2 (by omega) (by omega) (hle.trans (k1.trans k2))
      exact ⟨X3, (loop_next hb).trans e3, k3⟩
    · rw [if_neg h] at hb
      simp only [if_neg h]
      exact ⟨X2, loop_ret hb, hle.trans (k1.trans k2)⟩

theorem rof1_do (hn : us.length ≤ 1000) (hA : Users H0 sl us) : ∀ (t k : Nat) (X : Heap), us.length - k = t → k ≤ us.length → HLe H0 X →
    ∃ X', loopM (c5 (F_ref07Of.l1 (R (n + 4)))) [sl, iv 1, sl, iv us.length, iv k] X = some (if firstU (us.drop k) = 0 then .ext 0 [sl] else .ret (iv (firstU (us.drop k))), X') ∧ HLe H0 X'
  | 0, k, X, ht, hk, hle => by
    have : k = us.length := by omega
    subst this
    rw [List.drop_length]
    refine ⟨X, loop_ext ?_, hle⟩
    rw [c5_r]
    unfold F_ref07Of.l1
    rw [bind_eq lss_r, cnd_b, if_neg (by simp)]
    rfl
  | t + 1, k, X, ht, hk, hle => by
    have hkl : k < us.length := by omega
    have hlt : (k : Int) < us.length := by omega
    have hg := List.getElem?_eq_getElem hkl
    have hd := List.drop_eq_getElem_cons hkl
    generalize us[k] = u at hg hd
    have hf := fun {K : Value → M Out} => (hA.mono hle).fetch (k := K) hg
    have hok := (hA.mono hle).2 u (List.mem_of_getElem? hg)
    have g1 : (X ++ [AObj.cells u.cells 1 false false])[X.length]? = some (.cells u.cells 1 false false) := app_new
    have k1 : HLe X (X ++ [AObj.cells u.cells 1 false false]) := .app _ _
    generalize X ++ [AObj.cells u.cells 1 false false] = X1 at g1 k1 hf
    have e1 : ldA 5 (pt X.length) X1 = some (.agg u.cells.toArray, X1) := ldA_at (n := 5) g1 rfl
    obtain ⟨X2, e2, k2⟩ := r_refCheck (n := n) (u := u) (X := X1) (GV.mono hok k1)
    have hb : c5 (F_ref07Of.l1 (R (n + 4))) [sl, iv 1, sl, iv us.length, iv k] X = some (if errU u = 0 then .nrm [sl, iv 1, sl, iv us.length, iv ((k + 1 : Nat) : Int)] else .ret (iv (errU u)), X2) := by
      rw [c5_r]
      unfold F_ref07Of.l1
      rw [bind_eq lss_r, cnd_b, if_pos (by simpa using hlt), hf, bind_eq e1, bind_eq e2, bind_eq neq_r, cnd_b]
      by_cases h : errU u = 0
      · rw [if_neg (by simp [h]), if_pos h, bind_eq add_r, wsuc (by omega)]; rfl
      · rw [if_pos (by simp [h]), if_neg h]; rfl
    rw [hd]
    unfold firstU
    by_cases h : errU u = 0
    · rw [if_pos h] at hb
      simp only [if_pos h]
      obtain ⟨X3, e3, k3⟩ := rof1_do hn hA t (k + 1) X2 (by omega) (by omega) (hle.trans (k1.trans k2))
      exact ⟨X3, (loop_next hb).trans e3, k3⟩
    · rw [if_neg h] at hb
      simp only [if_neg h]
      exact ⟨X2, loop_ret hb, hle.trans (k1.trans k2)⟩

theorem Users.nmAt (hA : Users X sl us) {i : Nat} (hi : us[i]? = some u) : ∃ id o, ixa 5 sl (iv i) X = some (pa id o, X) ∧ ld1 (pa id (o + 0)) X = some (strv u.nm, X) := by
  obtain ⟨id, o, cs, e, g, ro, e1, e2, e3, e4, _⟩ := hA.1.at (i := i) (r := u.cells) (by rw [List.getElem?_map, hi]; rfl) (by omega) .i64
  refine ⟨id, o, e1 X, ?_⟩
  rw [ldOne_r, e2, rdk_r]
  have : cs[o + 0]? = some (strv u.nm) := by
    have h0 : ((cs.drop o).take 5)[0]? = some (strv u.nm) := by rw [e3]; rfl
    rw [List.getElem?_take, if_pos (by omega), List.getElem?_drop] at h0
    exact h0
  rw [this]; rfl

def upB (prev : Option (List UInt8)) (u : UsrA) : Bool := match prev with | none => true | some p => decide (p < u.nm)

theorem risesP_cons {p : Option (List UInt8)} {l : List UsrA} : risesP p (u :: l) = (upB p u && risesP (some u.nm) l) := rfl

theorem prevU_succ {k : Nat} (hk : us[k]? = some u) : prevU us (k + 1) = some u.nm := by
  unfold prevU
  rw [if_neg (by omega), Nat.add_sub_cancel, hk]; rfl

theorem prevU_zero : prevU us 0 = none := rfl

/-- So far they rise: the last one is the greatest. -/
def LastU (m : SMap) (p : Option (List UInt8)) : Prop := Rise m ∧ ∀ x ∈ m, ∃ q, p = some q ∧ x.1 ≤ q

theorem LastU.put {m : SMap} {p : Option (List UInt8)} (h : LastU m p) (hu : upB p u = true) : aput u.nm u.hs m = m ++ [pairU u] ∧ LastU (m ++ [pairU u]) (some u.nm) := by
  have hlt : ∀ x ∈ m, x.1 < u.nm := fun x hx => by
    obtain ⟨q, rfl, h2⟩ := h.2 x hx
    have h3 : q < u.nm := by simpa [upB] using hu
    exact List.lt_of_le_of_lt h2 h3
  have hn : aget u.nm m = none := aget_none.2 fun x hx e => by
    have := hlt x hx
    rw [e] at this
    exact List.lt_irrefl _ this
  refine ⟨by unfold aput; rw [hn]; rfl, List.pairwise_append.2 ⟨h.1, by simp, fun a ha c hc => ?_⟩, fun x hx => ⟨u.nm, rfl, ?_⟩⟩
  · have : c = pairU u := by simpa using hc
    subst this
    exact hlt a ha
  · rcases List.mem_append.1 hx with hx | hx
    · exact List.le_of_lt (hlt x hx)
    · have : x = pairU u := by simpa using hx
      subst this
      exact List.le_refl _

theorem of2_do (hn : us.length ≤ 1000) (hA : Users H0 sl us) (hb : H0.length ≤ b) : ∀ (t k : Nat) (m : SMap) (X : Heap), us.length - k = t → k ≤ us.length → HLe H0 X → X[d]? = some (.cells [.map (some b)] 1 false false) → MapG strv X b m → LastU m (prevU us k) → d ≠ b →
    ∃ X', loopM (c5 (F_elderOf.l2 (R (n + 6)))) [sl, pt d, sl, iv us.length, iv k] X = some (if risesP (prevU us k) (us.drop k) then .ext 2 [sl, pt d] else .ret (.tuple #[.pointer none, iv 9]), X') ∧ HLe H0 X' ∧
      (risesP (prevU us k) (us.drop k) = true → X'[d]? = some (.cells [.map (some b)] 1 false false) ∧ MapG strv X' b (m ++ (us.drop k).map pairU) ∧ Rise (m ++ (us.drop k).map pairU))
  | 0, k, m, X, ht, hk, hle, hc, hm, hL, hdb => by
    have : k = us.length := by omega
    subst this
    rw [List.drop_length]
    refine ⟨X, loop_ext ?_, hle, fun _ => ⟨hc, by simpa using hm, by simpa using hL.1⟩⟩
    rw [c5_r]
    unfold F_elderOf.l2
    rw [bind_eq lss_r, cnd_b, if_neg (by simp)]
    rfl
  | t + 1, k, m, X, ht, hk, hle, hc, hm, hL, hdb => by
    have hkl : k < us.length := by omega
    have hlt : (k : Int) < us.length := by omega
    have hg := List.getElem?_eq_getElem hkl
    have hd := List.drop_eq_getElem_cons hkl
    generalize us[k] = u at hg hd
    have hf := fun {K : Value → M Out} => (hA.mono hle).fetch (k := K) hg
    have g1 : (X ++ [AObj.cells u.cells 1 false false])[X.length]? = some (.cells u.cells 1 false false) := app_new
    have k1 : HLe X (X ++ [AObj.cells u.cells 1 false false]) := .app _ _
    generalize X ++ [AObj.cells u.cells 1 false false] = X1 at g1 k1 hf
    generalize X.length = p at g1 hf
    have a0 : ∀ f x, u.cells[f]? = some x → ld1 (pa p f) X1 = some (x, X1) := fun f x h => ld1_at g1 h
    have hA1 := (hA.mono hle).mono k1
    -- is it above the one ahead?
    have hcmp : ∀ K : Value → M Out,
        bind (bop .int .gtr (iv k) (Value.int .i64 0)) (fun v31x18 => bind (gateV v31x18 true (ret sl)) fun v33x19 => bind (gateV v31x18 true (ret (iv k))) fun v34x20 => bind (gateV v31x18 true (bop .int .sub v34x20 (Value.int .i64 1))) fun v35x21 => bind (gateV v31x18 true (ixa 5 v33x19 v35x21)) fun v36x22 => bind (gateV v31x18 true (fa 0 v36x22)) fun v37x23 => bind (gateV v31x18 true (ld1 v37x23)) fun v38x24 => bind (gateV v31x18 true (fa 0 (pt p))) fun v39x25 => bind (gateV v31x18 true (ld1 v39x25)) fun v40x26 => bind (gateV v31x18 true (R (n + 6) n_nameCompare [v38x24, v40x26])) fun v41x27 => bind (gateV v31x18 true (bop .int .geq v41x27 (Value.int .i64 0))) fun v42x28 => bind (pick v31x18 v42x28 (Value.bool false)) K) X1 = K (.bool (!upB (prevU us k) u)) X1 := fun K => by
      by_cases h0 : k = 0
      · subst h0
        have q1 : bop .int .gtr (iv (0 : Nat)) (Value.int .i64 0) X1 = some (.bool false, X1) := by rw [gtr_r]; rfl
        rw [bind_eq q1]
        iterate 10 rw [b_gv_out (by rfl)]
        rw [bind_eq pick_r]
        rfl
      · have q1 : bop .int .gtr (iv k) (Value.int .i64 0) X1 = some (.bool true, X1) := by rw [gtr_r, decide_eq_true (by omega)]
        obtain ⟨v, hv⟩ : ∃ v, us[k - 1]? = some v := ⟨_, List.getElem?_eq_getElem (by omega)⟩
        obtain ⟨id, o, x1, x2⟩ := hA1.nmAt hv
        have e3 : R (n + 6) n_nameCompare [strv v.nm, strv u.nm] X1 = _ := r_compare (n := n + 3)
        have hp : upB (prevU us k) u = decide (v.nm < u.nm) := by unfold prevU upB; rw [if_neg h0, hv]; rfl
        rw [bind_eq q1, b_gv_in, b_ret, b_gv_in, b_ret, b_gv_in, bind_eq sub_r, wpred (by omega) (by omega), b_gv_in, bind_eq x1, b_gv_in, bind_eq fa_r, b_gv_in, bind_eq x2, b_gv_in, bind_eq fa_z, b_gv_in, bind_eq (a0 0 _ rfl), b_gv_in, bind_eq e3, b_gv_in, bind_eq geq_r, cmpS_ge, bind_eq pick_r, hp]
        rfl
    rw [hd, risesP_cons]
    cases hup : upB (prevU us k) u
    · rw [hup] at hcmp
      refine ⟨X1, loop_ret ?_, hle.trans k1, fun h => by cases h⟩
      rw [c5_r]
      unfold F_elderOf.l2
      rw [bind_eq lss_r, cnd_b, if_pos (by simpa using hlt), hf]
      refine (hcmp _).trans ?_
      rw [cnd_b, if_pos (by rfl)]
      rfl
    · rw [hup] at hcmp
      obtain ⟨hput, hL2⟩ := hL.put hup
      have hm1 := hm.hle k1
      obtain ⟨X2, e2, m2, s2, _⟩ := hm1.mup (k := u.nm) (v := u.hs)
      rw [hput] at m2
      have hc2 := s2.get (k1 _ _ hc) (by simp [hdb])
      have hle2 := (hle.trans k1).more s2 (by simpa using hb)
      obtain ⟨X3, e3, k3, h3⟩ := of2_do hn hA hb t (k + 1) _ X2 (by omega) (by omega) hle2.1 hc2 m2 (by rw [prevU_succ hg]; exact hL2) hdb
      rw [prevU_succ hg] at e3 h3
      refine ⟨X3, (loop_next ?_).trans e3, k3, fun h => by simpa using h3 (by simpa using h)⟩
      rw [c5_r]
      unfold F_elderOf.l2
      rw [bind_eq lss_r, cnd_b, if_pos (by simpa using hlt), hf]
      refine (hcmp _).trans ?_
      rw [cnd_b, if_neg (by simp), bind_eq nilc_r, bind_eq fa_z, bind_eq (ld_s (k1 _ _ hc)), bind_eq fa_z, bind_eq (a0 0 _ rfl), bind_eq fa_z, bind_eq (a0 1 _ rfl), bind_eq e2, bind_eq add_r, wsuc (by omega)]
      rfl

theorem rof2_do (hn : us.length ≤ 1000) (hA : Users H0 sl us) : ∀ (t k : Nat) (X : Heap), us.length - k = t → k ≤ us.length → HLe H0 X →
    ∃ X', loopM (c4 (F_ref07Of.l2 (R n))) [sl, sl, iv us.length, iv k] X = some (if risesP (prevU us k) (us.drop k) then .ext 2 [sl] else .ret (iv 9), X') ∧ HLe H0 X'
  | 0, k, X, ht, hk, hle => by
    have : k = us.length := by omega
    subst this
    rw [List.drop_length]
    refine ⟨X, loop_ext ?_, hle⟩
    rw [c4_r]
    unfold F_ref07Of.l2
    rw [bind_eq lss_r, cnd_b, if_neg (by simp)]
    rfl
  | t + 1, k, X, ht, hk, hle => by
    have hkl : k < us.length := by omega
    have hlt : (k : Int) < us.length := by omega
    have hg := List.getElem?_eq_getElem hkl
    have hd := List.drop_eq_getElem_cons hkl
    generalize us[k] = u at hg hd
    have hf := fun {K : Value → M Out} => (hA.mono hle).fetch (k := K) hg
    have g1 : (X ++ [AObj.cells u.cells 1 false false])[X.length]? = some (.cells u.cells 1 false false) := app_new
    have k1 : HLe X (X ++ [AObj.cells u.cells 1 false false]) := .app _ _
    generalize X ++ [AObj.cells u.cells 1 false false] = X1 at g1 k1 hf
    generalize X.length = p at g1 hf
    have a0 : ∀ f x, u.cells[f]? = some x → ld1 (pa p f) X1 = some (x, X1) := fun f x h => ld1_at g1 h
    have hA1 := (hA.mono hle).mono k1
    have hcmp : ∀ K : Value → M Out,
        bind (bop .int .gtr (iv k) (Value.int .i64 0)) (fun v31x17 => bind (gateV v31x17 true (ret sl)) fun v33x18 => bind (gateV v31x17 true (ret (iv k))) fun v34x19 => bind (gateV v31x17 true (bop .int .sub v34x19 (Value.int .i64 1))) fun v35x20 => bind (gateV v31x17 true (ixa 5 v33x18 v35x20)) fun v36x21 => bind (gateV v31x17 true (fa 0 v36x21)) fun v37x22 => bind (gateV v31x17 true (ld1 v37x22)) fun v38x23 => bind (gateV v31x17 true (fa 0 (pt p))) fun v39x24 => bind (gateV v31x17 true (ld1 v39x24)) fun v40x25 => bind (gateV v31x17 true (bop .str .geq v38x23 v40x25)) fun v41x26 => bind (pick v31x17 v41x26 (Value.bool false)) K) X1 = K (.bool (!upB (prevU us k) u)) X1 := fun K => by
      by_cases h0 : k = 0
      · subst h0
        have q1 : bop .int .gtr (iv (0 : Nat)) (Value.int .i64 0) X1 = some (.bool false, X1) := by rw [gtr_r]; rfl
        rw [bind_eq q1]
        iterate 9 rw [b_gv_out (by rfl)]
        rw [bind_eq pick_r]
        rfl
      · have q1 : bop .int .gtr (iv k) (Value.int .i64 0) X1 = some (.bool true, X1) := by rw [gtr_r, decide_eq_true (by omega)]
        obtain ⟨v, hv⟩ : ∃ v, us[k - 1]? = some v := ⟨_, List.getElem?_eq_getElem (by omega)⟩
        obtain ⟨id, o, x1, x2⟩ := hA1.nmAt hv
        have hp : upB (prevU us k) u = decide (v.nm < u.nm) := by unfold prevU upB; rw [if_neg h0, hv]; rfl
        rw [bind_eq q1, b_gv_in, b_ret, b_gv_in, b_ret, b_gv_in, bind_eq sub_r, wpred (by omega) (by omega), b_gv_in, bind_eq x1, b_gv_in, bind_eq fa_r, b_gv_in, bind_eq x2, b_gv_in, bind_eq fa_z, b_gv_in, bind_eq (a0 0 _ rfl), b_gv_in, bind_eq ges_v, bind_eq pick_r, hp]
        rfl
    rw [hd, risesP_cons]
    cases hup : upB (prevU us k) u
    · rw [hup] at hcmp
      refine ⟨X1, loop_ret ?_, hle.trans k1⟩
      rw [c4_r]
      unfold F_ref07Of.l2
      rw [bind_eq lss_r, cnd_b, if_pos (by simpa using hlt), hf]
      refine (hcmp _).trans ?_
      rw [cnd_b, if_pos (by rfl)]
      rfl
    · rw [hup] at hcmp
      obtain ⟨X3, e3, k3⟩ := rof2_do hn hA t (k + 1) X1 (by omega) (by omega) (hle.trans k1)
      rw [prevU_succ hg] at e3
      refine ⟨X3, (loop_next ?_).trans e3, k3⟩
      rw [c4_r]
      unfold F_ref07Of.l2
      rw [bind_eq lss_r, cnd_b, if_pos (by simpa using hlt), hf]
      refine (hcmp _).trans ?_
      rw [cnd_b, if_neg (by simp), bind_eq add_r, wsuc (by omega)]
      rfl

/-! both -/

def ofE (us : List UsrA) : Int := if firstU us = 0 then (if risesP none us then (if 12 < us.length then 7 else 0) else 9) else firstU us

theorem r_refOf (hn : us.length ≤ 1000) (hA : Users X sl us) : ∃ X', R (n + 5) n_ref07Of [sl, iv 1] X = some (iv (ofE us), X') ∧ HLe X X' := by
  obtain ⟨X1, e1, k1⟩ := rof1_do (n := n) hn hA us.length 0 X (by omega) (by omega) (.refl _)
  rw [List.drop_zero] at e1
  have e1 : loopM (c5 (F_ref07Of.l1 (R (n + 4)))) [sl, iv 1, sl, iv us.length, .int .i64 0] X = _ := e1
  have f1 : ∀ r X', F_ref07Of (R (n + 4)) sl (iv 1) X = some (r, X') → R (n + 5) n_ref07Of [sl, iv 1] X = some (r, X') := fun r X' hr => by rw [R, run_ref07Of rfl]; exact hr
  unfold ofE
  by_cases h1 : firstU us = 0
  · rw [if_pos h1] at e1
    rw [if_pos h1]
    obtain ⟨X2, e2, k2⟩ := rof2_do (n := n + 4) hn (hA.mono k1) us.length 0 X1 (by omega) (by omega) (.refl _)
    rw [List.drop_zero, prevU_zero] at e2
    have e2 : loopM (c4 (F_ref07Of.l2 (R (n + 4)))) [sl, sl, iv us.length, .int .i64 0] X1 = _ := e2
    refine ⟨X2, f1 _ _ ?_, k1.trans k2⟩
    unfold F_ref07Of
    rw [bind_eq hA.len, jn_ext e1, xk_hit, c1_r, bind_eq hA.len]
    cases h2 : risesP none us
    · rw [h2] at e2
      rw [jn_ret e2]; rfl
    · rw [h2] at e2
      rw [jn_ext e2, xk_hit, c1_r, bind_eq hA.len, bind_eq gtr_r, cnd_b]
      by_cases h3 : 12 < us.length
      · rw [if_pos (by simp; omega), if_pos rfl, if_pos h3]; rfl
      · rw [if_neg (by simp; omega), if_pos rfl, if_neg h3]; rfl
  · rw [if_neg h1] at e1
    rw [if_neg h1]
    refine ⟨X1, f1 _ _ ?_, k1⟩
    unfold F_ref07Of
    rw [bind_eq hA.len, jn_ret e1]
    rfl

theorem firstU_0 : ∀ {us : List UsrA}, firstU us = 0 → ∀ u ∈ us, errU u = 0
  | [], _, u, hu => by cases hu
  | v :: l, h, u, hu => by
    unfold firstU at h
    by_cases h1 : errU v = 0
    · rw [if_pos h1] at h
      rcases List.mem_cons.1 hu with rfl | hu
      · exact h1
      · exact firstU_0 h u hu
    · rw [if_neg h1] at h; exact absurd h h1

theorem r_of' (hn : us.length ≤ 1000) (hA : Users X sl us) : ∃ X' dv, R (n + 7) n_elderOf [sl] X = some (.tuple #[dv, iv (ofE us)], X') ∧ HLe X X' ∧
    (ofE us ≠ 0 → dv = .pointer none) ∧ (ofE us = 0 → ∃ d b, dv = pt d ∧ Dir X' d b (us.map pairU) ∧ Rise (us.map pairU) ∧ X.length ≤ d ∧ X.length ≤ b) := by
  obtain ⟨X0, d, b, e0, D0, k0, o1, o2⟩ := r_eldNew (n := n + 5) (H := X)
  have e0 : R (n + 6) n_elderNew [] X = _ := e0
  have hA0 := hA.mono k0
  obtain ⟨X1, e1, k1⟩ := of1_do (n := n) (dv := pt d) hn hA0 us.length 0 X0 (by omega) (by omega) (.refl _)
  rw [List.drop_zero] at e1
  have e1 : loopM (c5 (F_elderOf.l1 (R (n + 6)))) [sl, pt d, sl, iv us.length, .int .i64 0] X0 = _ := e1
  have f1 : ∀ r X', F_elderOf (R (n + 6)) sl X = some (r, X') → R (n + 7) n_elderOf [sl] X = some (r, X') := fun r X' hr => by rw [R, run_elderOf rfl]; exact hr
  have D1 := D0.hle k1
  unfold ofE
  by_cases h1 : firstU us = 0
  · rw [if_pos h1] at e1
    rw [if_pos h1]
    obtain ⟨X2, e2, k2, h2⟩ := of2_do (n := n) hn hA o2 us.length 0 [] X1 (by omega) (by omega) (k0.trans k1) D1.c D1.g ⟨List.Pairwise.nil, by simp⟩ D1.ne
    rw [List.drop_zero, prevU_zero] at e2 h2
    have e2 : loopM (c5 (F_elderOf.l2 (R (n + 6)))) [sl, pt d, sl, iv us.length, .int .i64 0] X1 = _ := e2
    cases hr : risesP none us
    · rw [hr] at e2
      refine ⟨X2, .pointer none, f1 _ _ ?_, k2, fun _ => rfl, fun h => by simp at h⟩
      unfold F_elderOf
      rw [bind_eq e0, bind_eq hA.len, jn_ext e1, xk_hit, c2_r, bind_eq hA.len, jn_ret e2]
      rfl
    · rw [hr] at e2
      obtain ⟨hc, hm, hR⟩ := h2 hr
      rw [List.nil_append] at hm hR
      by_cases h3 : 12 < us.length
      · refine ⟨X2, .pointer none, f1 _ _ ?_, k2, fun _ => rfl, fun h => by simp [h3] at h⟩
        unfold F_elderOf
        rw [bind_eq e0, bind_eq hA.len, jn_ext e1, xk_hit, c2_r, bind_eq hA.len, jn_ext e2, xk_hit, c2_r, bind_eq hA.len, bind_eq gtr_r, cnd_b, if_pos (by simp; omega), if_pos rfl, if_pos h3]
        rfl
      · refine ⟨X2, pt d, f1 _ _ ?_, k2, fun h => by simp [h3] at h, fun _ => ⟨d, b, rfl, ⟨hc, hm, fun p hp => ?_, by simpa using h3⟩, hR, o1, o2⟩⟩
        · unfold F_elderOf
          rw [bind_eq e0, bind_eq hA.len, jn_ext e1, xk_hit, c2_r, bind_eq hA.len, jn_ext e2, xk_hit, c2_r, bind_eq hA.len, bind_eq gtr_r, cnd_b, if_neg (by simp; omega), if_pos rfl, if_neg h3]
          rfl
        · obtain ⟨u, hu, rfl⟩ := List.mem_map.1 hp
          have he := firstU_0 h1 u hu
          unfold errU at he
          refine name_len ?_
          cases hn : nameB u.nm
          · rw [hn] at he; simp at he
          · exact hn
  · rw [if_neg h1] at e1
    rw [if_neg h1]
    refine ⟨X1, .pointer none, f1 _ _ ?_, k0.trans k1, fun _ => rfl, fun h => absurd h h1⟩
    unfold F_elderOf
    rw [bind_eq e0, bind_eq hA.len, jn_ret e1]
    rfl

end

end Go.Proofs.YtlpibiaokpbhbaaGreatDoor.A
