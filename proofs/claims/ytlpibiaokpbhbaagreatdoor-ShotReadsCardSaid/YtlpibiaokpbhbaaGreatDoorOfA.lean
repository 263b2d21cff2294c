/- Users that make a directory: the checks. -/
import Derived.Test.YtlpibiaokpbhbaaGreatDoorUsrA
namespace Go.Proofs.YtlpibiaokpbhbaaGreatDoor.A
set_option linter.unusedVariables false
set_option linter.unusedSimpArgs false
open Go.Proofs Go.Proofs.YtlpibiaokpbhbaaGreatDoor

def plainU (u : UsrA) : Bool := (u.ml == []) && (!u.ds && decide (u.gs.length = 0))
def errU (u : UsrA) : Int := if nameB u.nm then (if sumB u.hs then (if plainU u then 0 else 12) else 4) else 10
def firstU : List UsrA → Int
  | [] => 0
  | u :: l => if errU u = 0 then firstU l else errU u
def pairU (u : UsrA) : Ent := (u.nm, u.hs)
def risesP : Option (List UInt8) → List UsrA → Bool
  | _, [] => true
  | p, u :: l => (match p with | none => true | some p => decide (p < u.nm)) && risesP (some u.nm) l
def prevU (us : List UsrA) (k : Nat) : Option (List UInt8) := if k = 0 then none else (us[k - 1]?).map (·.nm)

section
variable {H0 H X : Heap} {n p : Nat} {u : UsrA} {us : List UsrA} {sl : Value}

theorem plain_run {β : Type} {K : Value → M β} (hc : X[p]? = some (.cells u.cells 1 false false)) (hg : GV X u.gv u.gs) :
    bind (bop .str .neq (strv u.ml) (.string ⟨#[]⟩)) (fun v35 => bind (gate v35 false 2 (bind (fa 3 (pt p)) fun a => bind (ld1 a) fun b => ret [a, b])) (c2 fun _ q => bind (pick v35 (Value.bool true) q) fun v39 => bind (gate v39 false 4 (bind (fa 4 (pt p)) fun a => bind (ld1 a) fun b => bind (lenS b) fun c => bind (bop .int .gtr c (Value.int .i64 0)) fun d => ret [a, b, c, d])) (c4 fun _ _ _ q => bind (pick v39 (Value.bool true) q) K))) X = K (.bool (!plainU u)) X := by
  have a0 : ∀ f x, u.cells[f]? = some x → ld1 (pa p f) X = some (x, X) := fun f x h => ld1_at hc h
  have q1 : bop .str .neq (strv u.ml) (.string ⟨#[]⟩) X = some (.bool (!(u.ml == [])), X) := nes_v (b := [])
  have hl : decide ((u.gs.length : Int) > 0) = !decide (u.gs.length = 0) := by by_cases h : u.gs.length = 0 <;> simp [h] <;> omega
  unfold plainU
  rw [bind_eq q1]
  cases u.ml == []
  · simp only [Bool.not_false]
    rw [bind_eq (g_r.trans (if_neg (by simp)))]
    simp only [List.replicate]
    rw [c2_r, bind_eq pick_r]
    simp only [cond_true]
    rw [bind_eq (g_r.trans (if_neg (by simp)))]
    simp only [List.replicate]
    rw [c4_r, bind_eq pick_r]
    rfl
  · simp only [Bool.not_true]
    rw [b_g_in, b_assoc, bind_eq fa_z, b_assoc, bind_eq (a0 3 _ rfl), b_ret, c2_r, bind_eq pick_r]
    simp only [cond_false]
    cases u.ds
    · rw [b_g_in, b_assoc, bind_eq fa_z, b_assoc, bind_eq (a0 4 _ rfl), b_assoc, bind_eq hg.len, b_assoc, bind_eq gtr_r, b_ret, c4_r, bind_eq pick_r, hl]
      simp
    · rw [bind_eq (g_r.trans (if_neg (by simp)))]
      simp only [List.replicate]
      rw [c4_r, bind_eq pick_r]
      rfl

theorem r_first {a c : Int} {v : Value} (hs : Sl X v [iv a, iv c]) : R (n + 1) n_userFirst [v] X = some (iv (if a = 0 then c else a), X) := by
  have e1 : lenS v X = some (iv 2, X) := hs.len
  have x1 : ixa 1 v (.int .i64 0) X = some (ixp v 0, X) := hs.ix (i := 0) (by simp) .i64 X
  have x2 := hs.ldx (i := 0) (v := iv a) rfl
  have x3 : ixa 1 v (.int .i64 1) X = some (ixp v 1, X) := hs.ix (i := 1) (by simp) .i64 X
  have x4 := hs.ldx (i := 1) (v := iv c) rfl
  have w1 : IntKind.i64.wrap (0 + 1) = 1 := w64 (by omega) (by omega)
  have w2 : IntKind.i64.wrap (1 + 1) = 2 := w64 (by omega) (by omega)
  rw [R, run_userFirst rfl]
  unfold F_userFirst
  rw [bind_eq e1]
  by_cases ha : a = 0
  · rw [if_pos ha]
    have s1 : c3 (F_userFirst.l1 (run Tryz.prog np lvs n)) [v, iv 2, .int .i64 0] X = some (.nrm [v, iv 2, .int .i64 1], X) := by
      rw [c3_r]
      unfold F_userFirst.l1
      rw [bind_eq lss_r, cnd_b, if_pos (by decide), bind_eq x1, bind_eq x2, bind_eq neq_r, cnd_b, if_neg (by simp [ha]), bind_eq add_r, w1]
      rfl
    by_cases hc : c = 0
    · have s2 : c3 (F_userFirst.l1 (run Tryz.prog np lvs n)) [v, iv 2, .int .i64 1] X = some (.nrm [v, iv 2, .int .i64 2], X) := by
        rw [c3_r]
        unfold F_userFirst.l1
        rw [bind_eq lss_r, cnd_b, if_pos (by decide), bind_eq x3, bind_eq x4, bind_eq neq_r, cnd_b, if_neg (by simp [hc]), bind_eq add_r, w2]
        rfl
      have s3 : c3 (F_userFirst.l1 (run Tryz.prog np lvs n)) [v, iv 2, .int .i64 2] X = some (.ext 0 [], X) := by
        rw [c3_r]
        unfold F_userFirst.l1
        rw [bind_eq lss_r, cnd_b, if_neg (by decide)]
        rfl
      rw [jn_ext ((loop_next s1).trans ((loop_next s2).trans (loop_ext s3))), xk_hit, hc]
      rfl
    · have s2 : c3 (F_userFirst.l1 (run Tryz.prog np lvs n)) [v, iv 2, .int .i64 1] X = some (.ret (iv c), X) := by
        rw [c3_r]
        unfold F_userFirst.l1
        rw [bind_eq lss_r, cnd_b, if_pos (by decide), bind_eq x3, bind_eq x4, bind_eq neq_r, cnd_b, if_pos (by simp [hc])]
        rfl
      rw [jn_ret ((loop_next s1).trans (loop_ret s2))]
      rfl
  · rw [if_neg ha]
    have s1 : c3 (F_userFirst.l1 (run Tryz.prog np lvs n)) [v, iv 2, .int .i64 0] X = some (.ret (iv a), X) := by
      rw [c3_r]
      unfold F_userFirst.l1
      rw [bind_eq lss_r, cnd_b, if_pos (by decide), bind_eq x1, bind_eq x2, bind_eq neq_r, cnd_b, if_pos (by simp [ha])]
      rfl
    rw [jn_ret (loop_ret s1)]
    rfl

theorem bsl2i {a c : Int} (H : Heap) : bsl 1 2 (.int .i64 0) [(0, 1, iv a), (1, 1, iv c)] H = some (.slice (some ⟨H.length, 0, none⟩) 2 2, H ++ [.cells [iv a, iv c] 1 false false]) := rfl

theorem r_userCheck (h : u.ok X) : ∃ X', R (n + 6) n_userCheck [iv 1, .agg u.cells.toArray] X = some (iv (errU u), X') ∧ HLe X X' := by
  have e1 := alc_u h
  have k1 : HLe X (X ++ [.cells u.cells 1 false false]) := .app _ _
  have c1 : (X ++ [AObj.cells u.cells 1 false false])[X.length]? = some (.cells u.cells 1 false false) := app_new
  generalize X ++ [AObj.cells u.cells 1 false false] = X1 at e1 k1 c1
  generalize X.length = p at e1 c1
  have a0 : ∀ f x, u.cells[f]? = some x → ld1 (pa p f) X1 = some (x, X1) := fun f x h => ld1_at c1 h
  have e2 : run Tryz.prog np lvs (n + 5) n_nameName [strv u.nm] X1 = some (iv (errName u.nm), X1) := r_name0
  have e3 : run Tryz.prog np lvs (n + 5) n_nameHash [strv u.hs] X1 = some (iv (errSum u.hs), X1) := r_hash0 (n := n + 1)
  have e4 := bsl2i (a := errName u.nm) (c := errSum u.hs) X1
  have k2 : HLe X1 (X1 ++ [.cells [iv (errName u.nm), iv (errSum u.hs)] 1 false false]) := .app _ _
  have s4 : Sl (X1 ++ [.cells [iv (errName u.nm), iv (errSum u.hs)] 1 false false]) (.slice (some ⟨X1.length, 0, none⟩) 2 2) [iv (errName u.nm), iv (errSum u.hs)] := Sl.one (c := 2) app_new
  generalize X1 ++ [AObj.cells [iv (errName u.nm), iv (errSum u.hs)] 1 false false] = X2 at e4 k2 s4
  generalize (Value.slice (some ⟨X1.length, 0, none⟩) 2 2) = sv at e4 s4
  have e5 : run Tryz.prog np lvs (n + 5) n_userFirst [sv] X2 = _ := r_first s4
  have c2 := k2 _ _ c1
  have hg : GV X2 u.gv u.gs := GV.mono (GV.mono h k1) k2
  have b0 : ∀ f x, u.cells[f]? = some x → ld1 (pa p f) X2 = some (x, X2) := fun f x h => ld1_at c2 h
  have q1 : bop .int .neq (iv 1) (.int .i64 1) X1 = some (.bool false, X1) := by rw [neq_r]; rfl
  have q2 : bop .int .eql (iv 1) (.int .i64 2) X2 = some (.bool false, X2) := by rw [eql_r]; rfl
  refine ⟨X2, ?_, k1.trans k2⟩
  rw [R, run_userCheck rfl]
  unfold F_userCheck
  rw [bind_eq e1, bind_eq q1, bind_eq (g_r.trans (if_neg (by simp)))]
  simp only [List.replicate]
  rw [c2_r, bind_eq pick_r]
  simp only [cond_false]
  rw [cnd_b, if_neg (by simp), bind_eq fa_z, bind_eq (a0 0 _ rfl), bind_eq fa_z, bind_eq (a0 1 _ rfl), bind_eq e2, bind_eq (a0 1 _ rfl), same_self, bind_eq e3, bind_eq e4, bind_eq e5, bind_eq neq_r]
  unfold errU
  cases hn : nameB u.nm
  · have : errName u.nm = 10 := by unfold errName; rw [hn]; rfl
    rw [this]
    simp [cnd_b, ret]
  · have h0 : errName u.nm = 0 := errName_0.2 hn
    rw [h0]
    cases hs : sumB u.hs
    · have : errSum u.hs = 4 := by unfold errSum; rw [hs]; rfl
      rw [this]
      simp [cnd_b, ret]
    · have h1 : errSum u.hs = 0 := errSum_0.2 hs
      rw [h1]
      simp only [if_true]
      rw [cnd_b, if_neg (by simp), bind_eq q2, cnd_b, if_neg (by simp), bind_eq fa_z, bind_eq (b0 2 _ rfl)]
      refine (plain_run c2 hg).trans ?_
      cases plainU u
      · simp [cnd_b, ret]
      · simp [cnd_b, ret]

theorem r_refCheck (h : u.ok X) : ∃ X', R (n + 4) n_ref06Check [iv 1, .agg u.cells.toArray] X = some (iv (errU u), X') ∧ HLe X X' := by
  have e1 := alc_u h
  have k1 : HLe X (X ++ [.cells u.cells 1 false false]) := .app _ _
  have c1 : (X ++ [AObj.cells u.cells 1 false false])[X.length]? = some (.cells u.cells 1 false false) := app_new
  generalize X ++ [AObj.cells u.cells 1 false false] = X1 at e1 k1 c1
  generalize X.length = p at e1 c1
  have a0 : ∀ f x, u.cells[f]? = some x → ld1 (pa p f) X1 = some (x, X1) := fun f x h => ld1_at c1 h
  have e2 : run Tryz.prog np lvs (n + 3) n_ref05Name [strv u.nm] X1 = some (.bool (nameB u.nm), X1) := r_refName0
  have e3 : run Tryz.prog np lvs (n + 3) n_ref05Hash [strv u.hs] X1 = some (.bool (sumB u.hs), X1) := r_refHash0
  have hg : GV X1 u.gv u.gs := GV.mono h k1
  have q1 : bop .int .lss (iv 1) (.int .i64 1) X1 = some (.bool false, X1) := by rw [lss_r]; rfl
  have q3 : bop .int .gtr (iv 1) (.int .i64 2) X1 = some (.bool false, X1) := by rw [gtr_r]; rfl
  have q2 : bop .int .eql (iv 1) (.int .i64 1) X1 = some (.bool true, X1) := by rw [eql_r]; rfl
  refine ⟨X1, ?_, k1⟩
  rw [R, run_ref06Check rfl]
  unfold F_ref06Check errU
  rw [bind_eq e1, bind_eq q1, b_g_in, b_assoc, bind_eq q3, b_ret, c2_r, bind_eq pick_r]
  simp only [cond_false]
  rw [cnd_b, if_neg (by simp), bind_eq fa_z, bind_eq (a0 0 _ rfl), bind_eq e2, bind_eq not_r]
  cases hn : nameB u.nm
  · simp [cnd_b, ret]
  · rw [cnd_b, if_neg (by simp), bind_eq fa_z, bind_eq (a0 1 _ rfl), bind_eq e3, bind_eq not_r]
    cases hs : sumB u.hs
    · simp [cnd_b, ret]
    · rw [cnd_b, if_neg (by simp), bind_eq q2, cnd_b, if_pos rfl, bind_eq fa_z, bind_eq (a0 2 _ rfl)]
      simp only [if_true]
      refine (plain_run c1 hg).trans ?_
      cases plainU u
      · simp [cnd_b, ret]
      · simp [cnd_b, ret]

/-! texts are compared -/

theorem lts_v {a c : List UInt8} {H : Heap} : bop .str .lss (strv a) (strv c) H = some (.bool (decide (a < c)), H) := by
  rw [← bytesLess_eq]
  show (sop .lss (⟨a.toArray⟩ : ByteArray) (⟨c.toArray⟩ : ByteArray)).map (·, H) = _
  unfold sop
  rw [ba_toList, ba_toList]
  rfl
theorem ges_v {a c : List UInt8} {H : Heap} : bop .str .geq (strv a) (strv c) H = some (.bool (!decide (a < c)), H) := by
  rw [← bytesLess_eq]
  show (sop .geq (⟨a.toArray⟩ : ByteArray) (⟨c.toArray⟩ : ByteArray)).map (·, H) = _
  unfold sop
  rw [ba_toList, ba_toList]
  rfl
theorem gts_v {a c : List UInt8} {H : Heap} : bop .str .gtr (strv a) (strv c) H = some (.bool (decide (c < a)), H) := by
  have h : (!(Op.bytesLess a c || a == c)) = decide (c < a) := by
    rw [bytesLess_eq, Bool.eq_iff_iff]
    simp only [Bool.not_eq_true', Bool.or_eq_false_iff, decide_eq_false_iff_not, beq_eq_false_iff_ne, decide_eq_true_eq]
    constructor
    · rintro ⟨h1, h2⟩
      rcases lt_tri a c with h4 | h4 | h4
      · exact absurd h4 h1
      · exact absurd h4 h2
      · exact h4
    · intro h
      exact ⟨List.lt_asymm h, by rintro rfl; exact List.lt_irrefl _ h⟩
  rw [← h]
  show (sop .gtr (⟨a.toArray⟩ : ByteArray) (⟨c.toArray⟩ : ByteArray)).map (·, H) = _
  unfold sop
  rw [ba_toList, ba_toList]
  rfl

theorem r_isNaN {a : List UInt8} : R (n + 1) n_cmpIsNaNString [strv a] X = some (.bool false, X) := by
  rw [R, run_cmpIsNaNString rfl]
  unfold F_cmpIsNaNString
  rw [bind_eq nes_v]
  simp [ret]

theorem r_compare {a c : List UInt8} : R (n + 3) n_nameCompare [strv a, strv c] X = some (iv (cmpS a c), X) := by
  have e0 : run Tryz.prog np lvs (n + 1) n_cmpIsNaNString [strv a] X = _ := r_isNaN
  have e1 : run Tryz.prog np lvs (n + 1) n_cmpIsNaNString [strv c] X = _ := r_isNaN
  have e2 : run Tryz.prog np lvs (n + 2) n_cmpCompareString [strv a, strv c] X = some (iv (cmpS a c), X) := by
    rw [run_cmpCompareString rfl]
    unfold F_cmpCompareString cmpS
    rw [bind_eq e0, bind_eq e1, cnd_b, if_neg (by simp), cnd_b, if_neg (by simp), bind_eq lts_v, cnd_b]
    by_cases h1 : a < c
    · rw [if_pos (by simpa using h1), if_pos h1]; rfl
    · rw [if_neg (by simpa using h1), bind_eq gts_v, cnd_b, if_neg h1]
      by_cases h2 : c < a
      · rw [if_pos (by simpa using h2), if_pos h2]; rfl
      · rw [if_neg (by simpa using h2), if_neg h2]; rfl
  rw [R, run_nameCompare rfl]
  unfold F_nameCompare
  rw [bind_eq e2]
  rfl

theorem cmpS_ge {a c : List UInt8} : decide (cmpS a c ≥ 0) = !decide (a < c) := by
  unfold cmpS
  by_cases h1 : a < c
  · simp [h1]
  · by_cases h2 : c < a <;> simp [h1, h2]

end

end Go.Proofs.YtlpibiaokpbhbaaGreatDoor.A
