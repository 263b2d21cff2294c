/- Users that are compared, all fields. -/
import Derived.Test.YtlpibiaokpbhbaaGreatDoorOfB
namespace Go.Proofs.YtlpibiaokpbhbaaGreatDoor.A
set_option linter.unusedVariables false
set_option linter.unusedSimpArgs false
open Go.Proofs Go.Proofs.YtlpibiaokpbhbaaGreatDoor

abbrev UKey := List UInt8 × List UInt8 × List UInt8 × Bool × List (List UInt8)
def keyU (u : UsrA) : UKey := (u.nm, u.hs, u.ml, u.ds, u.gs)

section
variable {H0 H X : Heap} {n p p1 p2 d b : Nat} {u w : UsrA} {us ws : List UsrA} {a c : Value}

theorem sameG_do (h1 : Sl X u.gv (u.gs.map strv)) (h2 : Sl X w.gv (w.gs.map strv)) (hl : u.gs.length = w.gs.length) (hb : u.gs.length ≤ 1000000) (c1 : X[p1]? = some (.cells u.cells 1 false false)) (c2 : X[p2]? = some (.cells w.cells 1 false false)) : ∀ (t j : Nat), u.gs.length - j = t → j ≤ u.gs.length →
    loopM (c4 (F_ref06Same.l1 (R n))) [pt p1, pt p2, iv u.gs.length, iv j] X = some (if u.gs.drop j = w.gs.drop j then .ext 0 [] else .ret (.bool false), X)
  | 0, j, ht, hj => by
    rw [List.drop_eq_nil_of_le (by omega), List.drop_eq_nil_of_le (by omega), if_pos rfl]
    refine loop_ext ?_
    rw [c4_r]
    unfold F_ref06Same.l1
    rw [bind_eq lss_r, cnd_b, if_neg (by simp; omega)]
    rfl
  | t + 1, j, ht, hj => by
    have hj1 : j < u.gs.length := by omega
    have hj2 : j < w.gs.length := by omega
    have hlt : (j : Int) < u.gs.length := by omega
    have g1 := List.getElem?_eq_getElem hj1
    have g2 := List.getElem?_eq_getElem hj2
    have d1 := List.drop_eq_getElem_cons hj1
    have d2 := List.drop_eq_getElem_cons hj2
    generalize u.gs[j] = x at g1 d1
    generalize w.gs[j] = y at g2 d2
    have x1 := h1.ix (i := j) (by simpa using hj1) .i64 X
    have x2 := h1.ldx (row_at g1)
    have y1 := h2.ix (i := j) (by simpa using hj2) .i64 X
    have y2 := h2.ldx (row_at g2)
    have a4 : ld1 (pa p1 4) X = some (u.gv, X) := ld1_at c1 rfl
    have b4 : ld1 (pa p2 4) X = some (w.gv, X) := ld1_at c2 rfl
    have q1 : bop .str .neq (strv x) (strv y) X = some (.bool (!(x == y)), X) := nes_v
    rw [d1, d2]
    by_cases hxy : x = y
    · subst hxy
      have ih := sameG_do h1 h2 hl hb c1 c2 t (j + 1) (by omega) (by omega)
      have hi : (x :: u.gs.drop (j + 1) = x :: w.gs.drop (j + 1)) ↔ (u.gs.drop (j + 1) = w.gs.drop (j + 1)) := by simp
      simp only [hi]
      refine (loop_next ?_).trans ih
      rw [c4_r]
      unfold F_ref06Same.l1
      rw [bind_eq lss_r, cnd_b, if_pos (by simpa using hlt), bind_eq fa_z, bind_eq a4, bind_eq x1, bind_eq x2, bind_eq fa_z, bind_eq b4, bind_eq y1, bind_eq y2, bind_eq q1, cnd_b, if_neg (by simp), bind_eq add_r, wsuc (by omega)]
      rfl
    · rw [if_neg (by simp [hxy])]
      refine loop_ret ?_
      rw [c4_r]
      unfold F_ref06Same.l1
      rw [bind_eq lss_r, cnd_b, if_pos (by simpa using hlt), bind_eq fa_z, bind_eq a4, bind_eq x1, bind_eq x2, bind_eq fa_z, bind_eq b4, bind_eq y1, bind_eq y2, bind_eq q1, cnd_b, if_pos (by simp [hxy])]
      rfl

theorem alc_ug {u : UsrA} (h : oneCell u.gv = true) : alc 1 (.agg u.cells.toArray) X = some (pt X.length, X ++ [.cells u.cells 1 false false]) := by
  rw [alc_r]
  exact if_pos (show u.cells.toArray.toList.all oneCell = true by simp only [UsrA.cells, List.all_cons, h]; rfl)

theorem r_sameK (h1 : Sl X u.gv (u.gs.map strv)) (h2 : Sl X w.gv (w.gs.map strv)) (o1 : oneCell u.gv = true) (o2 : oneCell w.gv = true) (hb1 : u.gs.length ≤ 1000000) (hb2 : w.gs.length ≤ 1000000) :
    ∃ X', R (n + 1) n_ref06Same [.agg u.cells.toArray, .agg w.cells.toArray] X = some (.bool (decide (keyU u = keyU w)), X') ∧ HLe X X' := by
  have e1 := alc_ug (X := X) o1
  have e2 := alc_ug (X := X ++ [.cells u.cells 1 false false]) o2
  have k1 : HLe X (X ++ [AObj.cells u.cells 1 false false] ++ [AObj.cells w.cells 1 false false]) := (HLe.app _ _).trans (.app _ _)
  have c1 : (X ++ [AObj.cells u.cells 1 false false] ++ [AObj.cells w.cells 1 false false])[X.length]? = some (.cells u.cells 1 false false) := app2_0
  have c2 : (X ++ [AObj.cells u.cells 1 false false] ++ [AObj.cells w.cells 1 false false])[(X ++ [AObj.cells u.cells 1 false false]).length]? = some (.cells w.cells 1 false false) := app_new
  generalize X ++ [AObj.cells u.cells 1 false false] ++ [AObj.cells w.cells 1 false false] = X2 at e2 k1 c1 c2
  generalize (X ++ [AObj.cells u.cells 1 false false]).length = p2 at e2 c2
  generalize X.length = p1 at e1 c1
  have a0 : ∀ f x, u.cells[f]? = some x → ld1 (pa p1 f) X2 = some (x, X2) := fun f x h => ld1_at c1 h
  have b0 : ∀ f x, w.cells[f]? = some x → ld1 (pa p2 f) X2 = some (x, X2) := fun f x h => ld1_at c2 h
  have q0 : ∀ x y : List UInt8, bop .str .neq (strv x) (strv y) X2 = some (.bool (decide (x ≠ y)), X2) := fun x y => by
    rw [nes_v]; by_cases h : x = y <;> simp [h]
  have q1 : bop .bool .neq (.bool u.ds) (.bool w.ds) X2 = some (.bool (decide (u.ds ≠ w.ds)), X2) := by
    rw [neb_r]; cases u.ds <;> cases w.ds <;> rfl
  have q2 : bop .int .neq (iv u.gs.length) (iv w.gs.length) X2 = some (.bool (decide (u.gs.length ≠ w.gs.length)), X2) := by
    rw [neq_r]; by_cases h : u.gs.length = w.gs.length
    · simp [h]
    · have : ((u.gs.length : Int) != w.gs.length) = true := by rw [bne_iff_ne]; omega
      rw [this]; simp [h]
  have g1 := h1.mono k1
  have g2 := h2.mono k1
  have l1 : lenS u.gv X2 = some (iv u.gs.length, X2) := by have := g1.len (H' := X2); rwa [List.length_map] at this
  have l2 : lenS w.gv X2 = some (iv w.gs.length, X2) := by have := g2.len (H' := X2); rwa [List.length_map] at this
  refine ⟨X2, ?_, k1⟩
  rw [R, run_ref06Same rfl]
  unfold F_ref06Same
  rw [bind_eq e1, bind_eq e2, bind_eq fa_z, bind_eq (a0 0 _ rfl), bind_eq fa_z, bind_eq (b0 0 _ rfl), bind_eq (q0 _ _)]
  by_cases n1 : u.nm = w.nm
  rotate_left
  · rw [decide_eq_true n1, bind_eq (g_r.trans (if_neg (by simp)))]
    simp only [List.replicate]
    rw [c5_r, bind_eq pick_r]
    simp only [cond_true]
    rw [bind_eq (g_r.trans (if_neg (by simp)))]
    simp only [List.replicate]
    rw [c5_r, bind_eq pick_r]
    simp only [cond_true]
    rw [bind_eq (g_r.trans (if_neg (by simp)))]
    simp only [List.replicate]
    rw [c5_r, bind_eq pick_r]
    simp only [cond_true]
    rw [bind_eq (g_r.trans (if_neg (by simp)))]
    simp only [List.replicate]
    rw [c7_r, bind_eq pick_r]
    simp only [cond_true]
    rw [cnd_b, if_pos rfl, decide_eq_false (fun e => n1 (congrArg (·.1) e))]
    rfl
  rw [decide_eq_false (fun h => h n1), b_g_in, b_assoc, bind_eq fa_z, b_assoc, bind_eq (a0 1 _ rfl), b_assoc, bind_eq fa_z, b_assoc, bind_eq (b0 1 _ rfl), b_assoc, bind_eq (q0 _ _), b_ret, c5_r, bind_eq pick_r]
  simp only [cond_false]
  by_cases n2 : u.hs = w.hs
  rotate_left
  · rw [decide_eq_true n2, bind_eq (g_r.trans (if_neg (by simp)))]
    simp only [List.replicate]
    rw [c5_r, bind_eq pick_r]
    simp only [cond_true]
    rw [bind_eq (g_r.trans (if_neg (by simp)))]
    simp only [List.replicate]
    rw [c5_r, bind_eq pick_r]
    simp only [cond_true]
    rw [bind_eq (g_r.trans (if_neg (by simp)))]
    simp only [List.replicate]
    rw [c7_r, bind_eq pick_r]
    simp only [cond_true]
    rw [cnd_b, if_pos rfl, decide_eq_false (fun e => n2 (congrArg (·.2.1) e))]
    rfl
  rw [decide_eq_false (fun h => h n2), b_g_in, b_assoc, bind_eq fa_z, b_assoc, bind_eq (a0 2 _ rfl), b_assoc, bind_eq fa_z, b_assoc, bind_eq (b0 2 _ rfl), b_assoc, bind_eq (q0 _ _), b_ret, c5_r, bind_eq pick_r]
  simp only [cond_false]
  by_cases n3 : u.ml = w.ml
  rotate_left
  · rw [decide_eq_true n3, bind_eq (g_r.trans (if_neg (by simp)))]
    simp only [List.replicate]
    rw [c5_r, bind_eq pick_r]
    simp only [cond_true]
    rw [bind_eq (g_r.trans (if_neg (by simp)))]
    simp only [List.replicate]
    rw [c7_r, bind_eq pick_r]
    simp only [cond_true]
    rw [cnd_b, if_pos rfl, decide_eq_false (fun e => n3 (congrArg (·.2.2.1) e))]
    rfl
  rw [decide_eq_false (fun h => h n3), b_g_in, b_assoc, bind_eq fa_z, b_assoc, bind_eq (a0 3 _ rfl), b_assoc, bind_eq fa_z, b_assoc, bind_eq (b0 3 _ rfl), b_assoc, bind_eq q1, b_ret, c5_r, bind_eq pick_r]
  simp only [cond_false]
  by_cases n4 : u.ds = w.ds
  rotate_left
  · rw [decide_eq_true n4, bind_eq (g_r.trans (if_neg (by simp)))]
    simp only [List.replicate]
    rw [c7_r, bind_eq pick_r]
    simp only [cond_true]
    rw [cnd_b, if_pos rfl, decide_eq_false (fun e => n4 (congrArg (·.2.2.2.1) e))]
    rfl
  rw [decide_eq_false (fun h => h n4), b_g_in, b_assoc, bind_eq fa_z, b_assoc, bind_eq (a0 4 _ rfl), b_assoc, bind_eq l1, b_assoc, bind_eq fa_z, b_assoc, bind_eq (b0 4 _ rfl), b_assoc, bind_eq l2, b_assoc, bind_eq q2, b_ret, c7_r, bind_eq pick_r]
  simp only [cond_false]
  by_cases n5 : u.gs.length = w.gs.length
  rotate_left
  · rw [decide_eq_true n5, cnd_b, if_pos rfl, decide_eq_false (fun e => n5 (congrArg (·.2.2.2.2.length) e))]
    rfl
  rw [decide_eq_false (fun h => h n5), cnd_b, if_neg (by simp), bind_eq fa_z, bind_eq (a0 4 _ rfl), bind_eq l1]
  have e3 := sameG_do (n := n) g1 g2 n5 hb1 c1 c2 u.gs.length 0 (by omega) (by omega)
  rw [List.drop_zero, List.drop_zero] at e3
  have e3 : loopM (c4 (F_ref06Same.l1 (R n))) [pt p1, pt p2, iv u.gs.length, .int .i64 0] X2 = _ := e3
  by_cases n6 : u.gs = w.gs
  · rw [if_pos n6] at e3
    rw [jn_ext e3, xk_hit, decide_eq_true (show keyU u = keyU w by unfold keyU; rw [n1, n2, n3, n4, n6])]
    rfl
  · rw [if_neg n6] at e3
    rw [jn_ret e3, decide_eq_false (fun e => n6 (congrArg (·.2.2.2.2) e))]
    rfl

/-- Users whose rows may be read. -/
def UsersS (H : Heap) (sl : Value) (us : List UsrA) : Prop := SlN 5 H sl (us.map UsrA.cells) ∧ ∀ u ∈ us, Sl H u.gv (u.gs.map strv) ∧ oneCell u.gv = true ∧ u.gs.length ≤ 1000000

theorem UsersS.mono (h : UsersS H a us) (hl : HLe H X) : UsersS X a us := ⟨h.1.mono hl, fun u hu => ⟨(h.2 u hu).1.mono hl, (h.2 u hu).2⟩⟩
theorem Users.s (h : Users H a us) (hb : ∀ u ∈ us, u.gs.length ≤ 1000000) : UsersS H a us := ⟨h.1, fun u hu => ⟨GV.sl (h.2 u hu), GV.one (h.2 u hu), hb u hu⟩⟩

theorem sameA_do (hn : us.length ≤ 1000000) (hl : us.length = ws.length) (ha : UsersS H0 a us) (hc : UsersS H0 c ws) : ∀ (t j : Nat) (X : Heap), us.length - j = t → j ≤ us.length → HLe H0 X →
    ∃ X', loopM (c4 (F_law07SameUsers.l1 (R (n + 1)))) [a, c, iv us.length, iv j] X = some (if (us.drop j).map keyU = (ws.drop j).map keyU then .ext 0 [] else .ret (.bool false), X') ∧ HLe H0 X'
  | 0, j, X, ht, hj, hle => by
    rw [List.drop_eq_nil_of_le (by omega), List.drop_eq_nil_of_le (by omega), if_pos rfl]
    refine ⟨X, loop_ext ?_, hle⟩
    rw [c4_r]
    unfold F_law07SameUsers.l1
    rw [bind_eq lss_r, cnd_b, if_neg (by simp; omega)]
    rfl
  | t + 1, j, X, ht, hj, hle => by
    have hj1 : j < us.length := by omega
    have hj2 : j < ws.length := by omega
    have hlt : (j : Int) < us.length := by omega
    have g1 := List.getElem?_eq_getElem hj1
    have g2 := List.getElem?_eq_getElem hj2
    have d1 := List.drop_eq_getElem_cons hj1
    have d2 := List.drop_eq_getElem_cons hj2
    generalize us[j] = u at g1 d1
    generalize ws[j] = w at g2 d2
    have hr1 : (us.map UsrA.cells)[j]? = some u.cells := by rw [List.getElem?_map, g1]; rfl
    have hr2 : (ws.map UsrA.cells)[j]? = some w.cells := by rw [List.getElem?_map, g2]; rfl
    have hf1 := fun {K : Value → M Out} => (ha.1.mono hle).fetch (k := K) hr1 (by omega) .i64
    have hf2 := fun {K : Value → M Out} => (hc.1.mono hle).fetch (k := K) hr2 (by omega) .i64
    obtain ⟨p1, p2, p3⟩ := (ha.mono hle).2 u (List.mem_of_getElem? g1)
    obtain ⟨r1, r2, r3⟩ := (hc.mono hle).2 w (List.mem_of_getElem? g2)
    obtain ⟨X1, e1, l1⟩ := r_sameK (n := n) p1 r1 p2 r2 p3 r3
    rw [d1, d2]
    by_cases hk : keyU u = keyU w
    · rw [decide_eq_true hk] at e1
      obtain ⟨X2, e2, l2⟩ := sameA_do hn hl ha hc t (j + 1) X1 (by omega) (by omega) (hle.trans l1)
      have hi : ((u :: us.drop (j + 1)).map keyU = (w :: ws.drop (j + 1)).map keyU) ↔ ((us.drop (j + 1)).map keyU = (ws.drop (j + 1)).map keyU) := by simp [hk]
      simp only [hi]
      refine ⟨X2, (loop_next ?_).trans e2, l2⟩
      rw [c4_r]
      unfold F_law07SameUsers.l1
      rw [bind_eq lss_r, cnd_b, if_pos (by simpa using hlt), hf1, hf2, bind_eq e1, bind_eq not_r, cnd_b, if_neg (by simp), bind_eq add_r, wsuc (by omega)]
      rfl
    · rw [decide_eq_false hk] at e1
      rw [if_neg (by simp [hk])]
      refine ⟨X1, loop_ret ?_, hle.trans l1⟩
      rw [c4_r]
      unfold F_law07SameUsers.l1
      rw [bind_eq lss_r, cnd_b, if_pos (by simpa using hlt), hf1, hf2, bind_eq e1, bind_eq not_r, cnd_b, if_pos (by simp)]
      rfl

theorem r_sameAll (hn : us.length ≤ 1000000) (hn2 : ws.length ≤ 1000000) (ha : UsersS X a us) (hc : UsersS X c ws) : ∃ X', R (n + 2) n_law07SameUsers [a, c] X = some (.bool (decide (us.map keyU = ws.map keyU)), X') ∧ HLe X X' := by
  have h1 : lenS a X = some (iv us.length, X) := by have := ha.1.len (H' := X); rwa [List.length_map] at this
  have h2 : lenS c X = some (iv ws.length, X) := by have := hc.1.len (H' := X); rwa [List.length_map] at this
  have f1 : ∀ v H', F_law07SameUsers (R (n + 1)) a c X = some (v, H') → R (n + 2) n_law07SameUsers [a, c] X = some (v, H') := fun v H' hr => by rw [R, run_law07SameUsers rfl]; exact hr
  by_cases hl : us.length = ws.length
  · obtain ⟨X', e, l⟩ := sameA_do (n := n) hn hl ha hc us.length 0 X (by omega) (by omega) (.refl _)
    have e : loopM (c4 (F_law07SameUsers.l1 (R (n + 1)))) [a, c, iv us.length, .int .i64 0] X = _ := e
    rw [List.drop_zero, List.drop_zero] at e
    refine ⟨X', f1 _ _ ?_, l⟩
    unfold F_law07SameUsers
    rw [bind_eq h1, bind_eq h2, bind_eq neq_r, cnd_b, if_neg (by simp [hl]), bind_eq h1]
    by_cases hk : us.map keyU = ws.map keyU
    · rw [if_pos hk] at e
      rw [jn_ext e, xk_hit, decide_eq_true hk]; rfl
    · rw [if_neg hk] at e
      rw [jn_ret e, decide_eq_false hk]; rfl
  · refine ⟨X, f1 _ _ ?_, .refl _⟩
    unfold F_law07SameUsers
    have hk : ¬ us.map keyU = ws.map keyU := fun e => hl (by have := congrArg List.length e; simpa using this)
    have hne : ((us.length : Int) != ws.length) = true := by rw [bne_iff_ne]; omega
    rw [bind_eq h1, bind_eq h2, bind_eq neq_r, cnd_b, if_pos hne, decide_eq_false hk]
    rfl

end

end Go.Proofs.YtlpibiaokpbhbaaGreatDoor.A
