/- The acts on groups, of both: the program's and the document's. -/
import Derived.Test.YtmacmlpiheimhaaGrpR4
namespace Go.Proofs.Ytmacmlpiheimhaa.A
set_option linter.unusedVariables false
set_option linter.unusedSimpArgs false
open Go.Proofs Go.Proofs.Ytmacmlpiheimhaa

section
variable {H H' X : Heap} {sl : Value} {ac : List EAct} {n : Nat}

theorem gfew_do {H0 : Heap} (h : EActs H0 sl ac) (hn : ac.length ≤ 9223372036854775807) : ∀ (t j : Nat) {X : Heap}, ac.length - j = t → j ≤ ac.length → HLe H0 X →
    ∃ X', loopM (c4 (F_law10Few.l1 (R n))) [sl, sl, iv ac.length, iv j] X = some (if (ac.drop j).all fewA then .ext 0 [sl] else .ret (.bool false), X') ∧ HLe H0 X'
  | 0, j, X, ht, hj, hle => by
    have : j = ac.length := by omega
    subst this
    rw [List.drop_length]
    refine ⟨X, loop_ext ?_, hle⟩
    rw [c4_r]
    unfold F_law10Few.l1
    rw [bind_eq lss_r, cnd_b, if_neg (by simp)]
    rfl
  | t + 1, j, X, ht, hj, hle => by
    have hjn : j < ac.length := by omega
    have hlt : (j : Int) < ac.length := by omega
    have hja := List.getElem?_eq_getElem hjn
    have hd := List.drop_eq_getElem_cons hjn
    generalize ac[j] = a at hja hd
    have g1 : (X ++ [AObj.cells a.cells 1 false false])[X.length]? = some (.cells a.cells 1 false false) := app_new
    have l1 : ld1 (pa X.length 1) (X ++ [.cells a.cells 1 false false]) = some (strv a.nm, X ++ [.cells a.cells 1 false false]) := ld1_at g1 rfl
    have l2 : ld1 (pa X.length 2) (X ++ [.cells a.cells 1 false false]) = some (strv a.hs, X ++ [.cells a.cells 1 false false]) := ld1_at g1 rfl
    have hf := fun {K : Value → M Out} => (h.mono hle).fetch (k := K) hja
    have k1 := hle.trans (HLe.app X [.cells a.cells 1 false false])
    generalize X ++ [AObj.cells a.cells 1 false false] = X1 at g1 l1 l2 k1 hf
    obtain ⟨X2, e2, k2⟩ := gfew_do h hn t (j + 1) (by omega) (by omega) k1
    rw [hd, List.all_cons]
    have hb : F_law10Few.l1 (R n) sl sl (iv ac.length) (iv j) X = some (if fewA a then .nrm [sl, sl, iv ac.length, iv ((j + 1 : Nat) : Int)] else .ret (.bool false), X1) := by
      unfold F_law10Few.l1
      rw [bind_eq lss_r, cnd_b, if_pos (by simpa using hlt), hf, bind_eq fa_r, bind_eq l1, bind_eq lenT_v, bind_eq gtr_r]
      unfold fewA
      by_cases h1 : a.nm.length ≤ 50
      · have h1' : ¬ ((a.nm.length : Int) > 50) := by omega
        rw [decide_eq_false h1', b_g_in, b_assoc, bind_eq fa_r, b_assoc, bind_eq l2, b_assoc, bind_eq lenT_v, b_assoc, bind_eq gtr_r, b_ret, c4_r, bind_eq pick_r, decide_eq_true h1]
        simp only [cond_false]
        by_cases h2 : a.hs.length ≤ 50
        · have h2' : ¬ ((a.hs.length : Int) > 50) := by omega
          rw [decide_eq_false h2', cnd_b, if_neg (by simp), bind_eq add_r, wsuc (by omega), decide_eq_true h2]
          rfl
        · have h2' : ((a.hs.length : Int) > 50) := by omega
          rw [decide_eq_true h2', cnd_b, if_pos rfl, decide_eq_false h2]
          rfl
      · have h1' : ((a.nm.length : Int) > 50) := by omega
        rw [decide_eq_true h1', bind_eq (g_r.trans (if_neg (by simp)))]
        simp only [List.replicate]
        rw [c4_r, bind_eq pick_r]
        simp only [cond_true]
        rw [cnd_b, if_pos rfl, decide_eq_false h1]
        rfl
    cases hfa : fewA a
    · rw [hfa] at hb
      exact ⟨X1, loop_ret hb, k1⟩
    · rw [hfa] at hb
      exact ⟨X2, (loop_next hb).trans e2, k2⟩

theorem r_gfew (h : EActs H sl ac) (hn : ac.length ≤ 9223372036854775807) : ∃ H', R (n + 1) n_law10Few [sl] H = some (.bool (ac.all fewA && decide (ac.length ≤ 60)), H') ∧ HLe H H' := by
  obtain ⟨H', e, k⟩ := gfew_do (n := n) h hn ac.length 0 (by omega) (by omega) (.refl _)
  rw [List.drop_zero] at e
  have e : loopM (c4 (F_law10Few.l1 (R n))) [sl, sl, iv ac.length, .int .i64 0] H = _ := e
  refine ⟨H', ?_, k⟩
  rw [R, run_law10Few rfl]
  unfold F_law10Few
  rw [bind_eq h.len]
  cases hf : ac.all fewA
  · rw [hf] at e
    rw [jn_ret e]; rfl
  · rw [hf] at e
    rw [jn_ext e, xk_hit, c1_r, bind_eq h.len, bind_eq leq_r]
    simp [ret, decide_eq_decide]
    omega

theorem sameT_do {a c : Value} {l : List (List UInt8)} (hu : l.length ≤ 1000) (ha : Sl X a (l.map strv)) (hc : Sl X c (l.map strv)) : ∀ (t j : Nat), l.length - j = t → j ≤ l.length →
    loopM (c4 (F_law07SameTexts.l1 (R n))) [a, c, iv l.length, iv j] X = some (.ext 0 [], X)
  | 0, j, ht, hj => by
    have : j = l.length := by omega
    subst this
    refine loop_ext ?_
    rw [c4_r]
    unfold F_law07SameTexts.l1
    rw [bind_eq lss_r, cnd_b, if_neg (by simp)]
    rfl
  | t + 1, j, ht, hj => by
    have hjl : j < l.length := by omega
    have hlt : (j : Int) < l.length := by omega
    have hg := List.getElem?_eq_getElem hjl
    generalize l[j] = x at hg
    have x1 := ha.ix (i := j) (by simpa using hjl) .i64 X
    have x2 := ha.ldx (row_at hg)
    have x3 := hc.ix (i := j) (by simpa using hjl) .i64 X
    have x4 := hc.ldx (row_at hg)
    have q0 : bop .str .neq (strv x) (strv x) X = some (.bool false, X) := by rw [nes_v]; simp
    refine (loop_next ?_).trans (sameT_do hu ha hc t (j + 1) (by omega) (by omega))
    rw [c4_r]
    unfold F_law07SameTexts.l1
    rw [bind_eq lss_r, cnd_b, if_pos (by simpa using hlt), bind_eq x1, bind_eq x2, bind_eq x3, bind_eq x4, bind_eq q0, cnd_b, if_neg (by simp), bind_eq add_r, wsuc (by omega)]
    rfl

theorem r_sameTexts {a c : Value} {l : List (List UInt8)} (hu : l.length ≤ 1000) (ha : Sl X a (l.map strv)) (hc : Sl X c (l.map strv)) : R (n + 1) n_law07SameTexts [a, c] X = some (.bool true, X) := by
  have e := sameT_do (n := n) hu ha hc l.length 0 (by omega) (by omega)
  have e : loopM (c4 (F_law07SameTexts.l1 (R n))) [a, c, iv l.length, .int .i64 0] X = _ := e
  have h1 := ha.len (H' := X)
  have h2 := hc.len (H' := X)
  rw [List.length_map] at h1 h2
  rw [R, run_law07SameTexts rfl]
  unfold F_law07SameTexts
  rw [bind_eq h1, bind_eq h2, bind_eq neq_r, cnd_b, if_neg (by simp), bind_eq h1, jn_ext e, xk_hit]
  rfl

theorem r_glives : ∃ H', R (n + 9) n_law10Lives [] H = some (.bool true, H') ∧ HLe H H' := by
  obtain ⟨H1, g, o, e1, D1, l1, o1, o2⟩ := r_gnew (n := n + 7) (X := H)
  have e1 : R (n + 8) n_groupNew [] H = _ := e1
  obtain ⟨H2, G2, e2, D2, k2, s2⟩ := r_gmake (n := n) (k := [100, 101, 118]) D1
  have c1 : errMake [100, 101, 118] (keysG []) = 0 := by decide
  have c2 : makeK [100, 101, 118] (keysG []) = [[100, 101, 118]] := by decide
  rw [c1] at e2
  rw [c2] at k2
  have e2 : R (n + 8) n_groupGroupsMake [pt g, .string ⟨#[100, 101, 118]⟩] H1 = _ := e2
  obtain ⟨H3, e3, D3, s3⟩ := r_gjoin (n := n) (k := [100, 101, 118]) (m := [97, 110, 110]) D2
  have c3 : errJoin [100, 101, 118] [97, 110, 110] (keysG G2) (fun _ _ => false) = 0 := by rw [k2]; decide
  rw [c3] at e3
  rw [if_pos c3] at D3
  have e3 : R (n + 8) n_groupGroupsJoin [pt g, .string ⟨#[100, 101, 118]⟩, .string ⟨#[97, 110, 110]⟩] H2 = _ := e3
  obtain ⟨v, q, H4, e4, r4, l4, o4⟩ := r_gof (n := n + 4) (m := [97, 110, 110]) D3
  have e4 : R (n + 8) n_groupGroupsOf [pt g, .string ⟨#[97, 110, 110]⟩] H3 = _ := e4
  have c4 : ofL [97, 110, 110] (keysG G2) (memAdd [100, 101, 118] [97, 110, 110] fun _ _ => false) = [[100, 101, 118]] := by
    rw [k2]
    unfold ofL
    have : ksort [[100, 101, 118]] = [[100, 101, 118]] := List.mergeSort_of_pairwise (by simp)
    rw [this]
    decide
  rw [c4] at r4
  have x1 := r4.ix (i := 0) (by simp) .i64 H4
  have x2 := r4.ldx (i := 0) (v := strv [100, 101, 118]) rfl
  have x3 := r4.rd.len (H' := H4)
  have hf := l1.more (s2.trans s3) (by simpa using o2)
  refine ⟨H4, ?_, hf.1.trans l4⟩
  have q1 : bop .ptr .eql (pt g) (.pointer none) H1 = some (.bool false, H1) := by rw [eqp_r]
  have x1 : ixa 1 v (.int .i64 0) H4 = some (ixp v 0, H4) := x1
  have q2 : bop .str .eql (strv [100, 101, 118]) (.string ⟨#[100, 101, 118]⟩) H4 = some (.bool true, H4) := eqs_v (b := [100, 101, 118])
  have z0 : ∀ X : Heap, bop .int .eql (iv 0) (.int .i64 0) X = some (.bool true, X) := fun X => by rw [eql_r]; rfl
  have z2 : bop .int .eql (iv [[100, 101, 118]].length) (.int .i64 1) H4 = some (.bool true, H4) := by rw [eql_r]; rfl
  have x3 : lenS v H4 = some (iv ([[100, 101, 118]] : List Tx).length, H4) := by simpa using x3
  rw [R, run_law10Lives rfl]
  unfold F_law10Lives
  rw [bind_eq e1, bind_eq q1, cnd_b, if_neg (by simp), bind_eq e2, bind_eq e3, bind_eq e4, bind_eq (z0 _), b_g_in, b_assoc, bind_eq (z0 _), b_ret, c2_r, bind_eq pick_r]
  simp only [cond_true]
  rw [b_g_in, b_assoc, bind_eq x3, b_assoc]
  refine (bind_eq z2).trans ?_
  rw [b_ret, c3_r, bind_eq pick_r]
  simp only [cond_true]
  rw [b_g_in, b_assoc, bind_eq x1, b_assoc, bind_eq x2, b_assoc, bind_eq q2, b_ret, c4_r, bind_eq pick_r]
  rfl

end

/-! an act of both -/

section
variable {X X' Y : Heap} {n g o c : Nat} {G : GMap} {mem : Mem} {nv mv : Value} {N : List Tx} {M : List Pr} {u : EAct} {k m s t : Tx}

structure GSt (X : Heap) (g o : Nat) (G : GMap) (mem : Mem) (nv mv : Value) (N : List Tx) (M : List Pr) (c : Nat) : Prop where
  g : Grp X g o G mem c
  r : RG X nv mv N M
  ok : RefOK N M (keysG G) mem
  few : M.length ≤ c

theorem RG.grp {S' : List Nat} (h : RG X nv mv N M) (hG : Grp X g o G mem c) (hs : Step (gown o G) X S' X') : RG X' nv mv N M := ⟨h.n.elim fun q h => ⟨q, h.grp hG hs⟩, h.m.elim fun q h => ⟨q, h.grp hG hs⟩⟩

theorem RG.setBox {b : Nat} {a1 a2 p1 p2 : Value} (h : RG X nv mv N M) (hb : X[b]? = some (.cells [a1, a2] 1 false false)) (ha : ∃ a n c, a1 = .slice a n c) : RG (X.set b (.cells [p1, p2] 1 false false)) nv mv N M := by
  obtain ⟨a0, n0, c0, rfl⟩ := ha
  refine ⟨h.n.elim fun q hq => ?_, h.m.elim fun q hq => ⟨q, hq.setB fun hm => ?_⟩⟩
  · by_cases hm : b ∈ q
    · rcases hq with ⟨h1, rfl, rfl⟩ | ⟨sid, rest, gr, rfl, rfl, hid⟩
      · cases hm
      · have hm : b = sid := by simpa using hm
        subst hm
        rw [hb] at hid
        injection hid with h1
        injection h1 with h2 _ h4 _
        cases N with
        | nil =>
          simp only [List.map_nil, List.nil_append] at h2
          subst h2
          exact ⟨[b], .inr ⟨b, [p1, p2], false, rfl, rfl, set_get hb⟩⟩
        | cons x N =>
          simp only [List.map_cons, List.cons_append, List.cons.injEq] at h2
          exact absurd h2.1 (by simp [strv])
    · exact ⟨q, hq.setB hm⟩
  · rcases hq with ⟨_, rfl, _⟩ | ⟨sid, rest, r, gr, _, rfl, hid, _, _⟩
    · cases hm
    · have hm : b = sid := by simpa using hm
      rw [← hm, hb] at hid
      injection hid with h1
      injection h1 with _ h2
      cases h2

theorem Grp.setN {b : Nat} {a1 : List Value} {es : Nat} {gr ro : Bool} {p : AObj} (h : Grp X g o G mem c) (hb : X[b]? = some (.cells a1 es gr ro)) (hg : g ≠ b) : Grp (X.set b p) g o G mem c :=
  h.step (o1 := [b]) (o2 := [b]) ⟨by simp, fun i hi hn => List.getElem?_set_ne (fun e => hn (by simp [e])), fun i hi => .inl hi⟩ (by simpa using hg) (fun j hj hm => by
    have hm : j = b := by simpa using hm
    subst hm
    exact (h.isMap hj).2 _ _ _ _ hb)

theorem Step.setN {o1 o2 : List Nat} {b : Nat} {p : AObj} (h : Step o1 X o2 Y) (hb : X.length ≤ b) : Step o1 X o2 (Y.set b p) := ⟨by rw [List.length_set]; exact h.len, fun j hj hn => (List.getElem?_set_ne (by omega)).trans (h.keep j hj hn), h.own⟩

theorem Grp.keyOut (h : Grp X g o G mem c) : ∀ k x, mem k x = true → k ∈ keysG G := fun k x hm => by
  have := h.out k x hm
  rw [h.key] at this
  simpa using this

theorem GSt.fewN (h : GSt X g o G mem nv mv N M c) : N.length ≤ 100 := by
  have h1 := isLen h.ok.n h.g.mo.nod
  have h2 := h.g.few
  simp at h1; omega

theorem r_do0 (h : GSt X g o G mem nv mv N M c) (hc : c ≤ 300) {Y : Heap} {b1 b2 b3 : Nat} (hY : HLe X Y) (h1 : Y[b1]? = some (.cells [nv, mv] 1 false false)) (h2 : Y[b2]? = some (.cells u.cells 1 false false)) (h3 : Y[b3]? = some (.cells [.slice none 0 0, .slice none 0 0] 1 false false)) (hb : X.length ≤ b1 ∧ X.length ≤ b2 ∧ X.length ≤ b3 ∧ b1 ≠ b3 ∧ b2 ≠ b3) :
    ∃ X' G' mem' nv' mv' N' M', (bind (ldA 2 (pt b1)) fun v27x8 =>
  bind (fa 1 (pt b2)) fun v28x9 =>
  bind (ld1 v28x9) fun v29x10 =>
  bind (R (n + 8) n_ref10Make [v27x8, v29x10]) fun v30x11 =>
  bind (extr v30x11 0) fun v31x12 =>
  bind (extr v30x11 1) fun v32x13 =>
  bind (alc 1 (.agg #[.slice none 0 0, .slice none 0 0])) fun v8x14 =>
  bind (stA 2 v8x14 v31x12) fun _ =>
  bind (ldA 2 v8x14) fun v33x15 =>
  bind (fa 1 (pt b2)) fun v35x16 =>
  bind (ld1 v35x16) fun v36x17 =>
  bind (R (n + 8) n_groupGroupsMake [pt g, v36x17]) fun v37x18 =>
  bind (ldA 2 v8x14) fun u_19 => same u_19 v33x15 <|
  bind (bop .int .eql v37x18 v32x13) fun v39x20 =>
  bind (stA 2 (pt b3) v33x15) fun _ =>
  bind (ldA 2 (pt b3)) fun vrx21 =>
  ret (Value.tuple #[vrx21, v39x20])) Y = some (.tuple #[.agg #[nv', mv'], .bool true], X') ∧ GSt X' g o G' mem' nv' mv' N' M' (c + 1) ∧ Step (gown o G) X (gown o G') X' := by
  have dA : ldA 2 (pt b1) Y = some (.agg #[nv, mv], Y) := ldA_at h1 rfl
  have da : ∀ Z, Z[b2]? = some (.cells u.cells 1 false false) → ld1 (pa b2 1) Z = some (strv u.nm, Z) := fun Z hz => ld1_at hz rfl
  have db : ∀ Z, Z[b2]? = some (.cells u.cells 1 false false) → ld1 (pa b2 2) Z = some (strv u.hs, Z) := fun Z hz => ld1_at hz rfl
  have hN := h.fewN
  have hM := h.few
  have hgY := h.g.hle hY
  have hrY := h.r.hle hY
  obtain ⟨X1, nv1, N1, e1, r1, ok1, l1⟩ := r_rmake (n := n + 3) (k := u.nm) hrY h.ok h.g.mo.nod hN
  have e1 : R (n + 8) n_ref10Make [.agg #[nv, mv], strv u.nm] Y = _ := e1
  have hone := r1.one.1
  have ebox := fun {K : Value → A.M Value} => box_a (k := K) (zs := [.slice none 0 0, .slice none 0 0]) (r := [nv1, mv]) (n := 2) (H := X1) rfl rfl rfl hone
  have l2 : HLe X1 (X1 ++ [AObj.cells [nv1, mv] 1 false false]) := .app _ _
  have b4 : (X1 ++ [AObj.cells [nv1, mv] 1 false false])[X1.length]? = some (.cells [nv1, mv] 1 false false) := app_new
  generalize X1 ++ [AObj.cells [nv1, mv] 1 false false] = X2 at ebox l2 b4
  have l12 := l1.trans l2
  have hg2 := hgY.hle l12
  have hr2 := r1.hle l2
  obtain ⟨X3, G3, e3, g3, k3, s3⟩ := r_gmake (n := n) (k := u.nm) hg2
  have e3 : R (n + 8) n_groupGroupsMake [pt g, strv u.nm] X2 = _ := e3
  have cells : ∀ {b : Nat} {cs : List Value}, X2[b]? = some (.cells cs 1 false false) → X3[b]? = some (.cells cs 1 false false) := fun hb => s3.get hb fun hm => (hg2.isMap hm).2 _ _ _ _ hb
  have b4' := cells b4
  have b2' := l12 _ _ h2
  have b3' := cells (l12 _ _ h3)
  have d4 : ldA 2 (pt X1.length) X2 = some (.agg #[nv1, mv], X2) := ldA_at b4 rfl
  have d4' : ldA 2 (pt X1.length) X3 = some (.agg #[nv1, mv], X3) := ldA_at b4' rfl
  have w1 : stA 2 (pt b3) (.agg #[nv1, mv]) X3 = some (undef, X3.set b3 (.cells [nv1, mv] 1 false false)) := stA_at (vs := [nv1, mv]) b3' rfl rfl hone
  have w2 : ldA 2 (pt b3) (X3.set b3 (.cells [nv1, mv] 1 false false)) = some (.agg #[nv1, mv], X3.set b3 (.cells [nv1, mv] 1 false false)) := ldA_at (set_get b3') rfl
  have hgb : g ≠ b3 := fun e => by have := h.g.glt; omega
  have hst : Step (gown o G) X (gown o G3) X3 := (hY.trans l12).stepq.trans s3
  have hr3 := hr2.grp hg2 s3
  refine ⟨X3.set b3 (.cells [nv1, mv] 1 false false), G3, mem, nv1, mv, N1, M, ?_, ⟨?_, hr3.setBox b3' ⟨_, _, _, rfl⟩, ?_, ?_⟩, hst.setN hb.2.2.1⟩
  · rw [bind_eq dA, bind_eq fa_z, bind_eq (da _ h2), bind_eq e1, bind_eq extr_p0, bind_eq extr_p1]
    refine ebox.trans ?_
    rw [bind_eq d4, bind_eq fa_z, bind_eq (da _ b2'), bind_eq e3, bind_eq d4', same_self, bind_eq eql_r, bind_eq w1, bind_eq w2]
    simp [ret]
  · exact (g3.setN b3' hgb).more (Nat.le_succ _) (fun _ _ => rfl)
  · rw [k3]; exact ok1
  · omega

theorem r_do1 (h : GSt X g o G mem nv mv N M c) (hc : c ≤ 300) {Y : Heap} {b1 b2 b3 : Nat} (hY : HLe X Y) (h1 : Y[b1]? = some (.cells [nv, mv] 1 false false)) (h2 : Y[b2]? = some (.cells u.cells 1 false false)) (h3 : Y[b3]? = some (.cells [.slice none 0 0, .slice none 0 0] 1 false false)) (hb : X.length ≤ b1 ∧ X.length ≤ b2 ∧ X.length ≤ b3 ∧ b1 ≠ b3 ∧ b2 ≠ b3) :
    ∃ X' G' mem' nv' mv' N' M', (bind (ldA 2 (pt b1)) fun v27x8 =>
  bind (fa 1 (pt b2)) fun v28x9 =>
  bind (ld1 v28x9) fun v29x10 =>
  bind (R (n + 8) n_ref10Drop [v27x8, v29x10]) fun v30x11 =>
  bind (extr v30x11 0) fun v31x12 =>
  bind (extr v30x11 1) fun v32x13 =>
  bind (alc 1 (.agg #[.slice none 0 0, .slice none 0 0])) fun v8x14 =>
  bind (stA 2 v8x14 v31x12) fun _ =>
  bind (ldA 2 v8x14) fun v33x15 =>
  bind (fa 1 (pt b2)) fun v35x16 =>
  bind (ld1 v35x16) fun v36x17 =>
  bind (R (n + 8) n_groupGroupsDrop [pt g, v36x17]) fun v37x18 =>
  bind (ldA 2 v8x14) fun u_19 => same u_19 v33x15 <|
  bind (bop .int .eql v37x18 v32x13) fun v39x20 =>
  bind (stA 2 (pt b3) v33x15) fun _ =>
  bind (ldA 2 (pt b3)) fun vrx21 =>
  ret (Value.tuple #[vrx21, v39x20])) Y = some (.tuple #[.agg #[nv', mv'], .bool true], X') ∧ GSt X' g o G' mem' nv' mv' N' M' (c + 1) ∧ Step (gown o G) X (gown o G') X' := by
  have dA : ldA 2 (pt b1) Y = some (.agg #[nv, mv], Y) := ldA_at h1 rfl
  have da : ∀ Z, Z[b2]? = some (.cells u.cells 1 false false) → ld1 (pa b2 1) Z = some (strv u.nm, Z) := fun Z hz => ld1_at hz rfl
  have db : ∀ Z, Z[b2]? = some (.cells u.cells 1 false false) → ld1 (pa b2 2) Z = some (strv u.hs, Z) := fun Z hz => ld1_at hz rfl
  have hN := h.fewN
  have hM := h.few
  have hgY := h.g.hle hY
  have hrY := h.r.hle hY
  obtain ⟨X1, nv1, mv1, N1, M1, e1, r1, ok1, len1, l1⟩ := r_rdrop (n := n + 3) (k := u.nm) hrY h.ok hN (by omega)
  have e1 : R (n + 8) n_ref10Drop [.agg #[nv, mv], strv u.nm] Y = _ := e1
  have hone := r1.one.1
  have ebox := fun {K : Value → A.M Value} => box_a (k := K) (zs := [.slice none 0 0, .slice none 0 0]) (r := [nv1, mv1]) (n := 2) (H := X1) rfl rfl rfl hone
  have l2 : HLe X1 (X1 ++ [AObj.cells [nv1, mv1] 1 false false]) := .app _ _
  have b4 : (X1 ++ [AObj.cells [nv1, mv1] 1 false false])[X1.length]? = some (.cells [nv1, mv1] 1 false false) := app_new
  generalize X1 ++ [AObj.cells [nv1, mv1] 1 false false] = X2 at ebox l2 b4
  have l12 := l1.trans l2
  have hg2 := hgY.hle l12
  have hr2 := r1.hle l2
  obtain ⟨X3, G3, e3, g3, k3, s3⟩ := r_gdrop (n := n) (k := u.nm) hg2
  have e3 : R (n + 8) n_groupGroupsDrop [pt g, strv u.nm] X2 = _ := e3
  have cells : ∀ {b : Nat} {cs : List Value}, X2[b]? = some (.cells cs 1 false false) → X3[b]? = some (.cells cs 1 false false) := fun hb => s3.get hb fun hm => (hg2.isMap hm).2 _ _ _ _ hb
  have b4' := cells b4
  have b2' := l12 _ _ h2
  have b3' := cells (l12 _ _ h3)
  have d4 : ldA 2 (pt X1.length) X2 = some (.agg #[nv1, mv1], X2) := ldA_at b4 rfl
  have d4' : ldA 2 (pt X1.length) X3 = some (.agg #[nv1, mv1], X3) := ldA_at b4' rfl
  have w1 : stA 2 (pt b3) (.agg #[nv1, mv1]) X3 = some (undef, X3.set b3 (.cells [nv1, mv1] 1 false false)) := stA_at (vs := [nv1, mv1]) b3' rfl rfl hone
  have w2 : ldA 2 (pt b3) (X3.set b3 (.cells [nv1, mv1] 1 false false)) = some (.agg #[nv1, mv1], X3.set b3 (.cells [nv1, mv1] 1 false false)) := ldA_at (set_get b3') rfl
  have hgb : g ≠ b3 := fun e => by have := h.g.glt; omega
  have hst : Step (gown o G) X (gown o G3) X3 := (hY.trans l12).stepq.trans s3
  have hr3 := hr2.grp hg2 s3
  refine ⟨X3.set b3 (.cells [nv1, mv1] 1 false false), G3, (if errDrop u.nm (keysG G) = 0 then memDrop u.nm mem else mem), nv1, mv1, N1, M1, ?_, ⟨?_, hr3.setBox b3' ⟨_, _, _, rfl⟩, ?_, ?_⟩, hst.setN hb.2.2.1⟩
  · rw [bind_eq dA, bind_eq fa_z, bind_eq (da _ h2), bind_eq e1, bind_eq extr_p0, bind_eq extr_p1]
    refine ebox.trans ?_
    rw [bind_eq d4, bind_eq fa_z, bind_eq (da _ b2'), bind_eq e3, bind_eq d4', same_self, bind_eq eql_r, bind_eq w1, bind_eq w2]
    simp [ret]
  · exact (g3.setN b3' hgb).more (Nat.le_succ _) (fun _ _ => rfl)
  · rw [k3]; exact ok1
  · omega

theorem r_do2 (h : GSt X g o G mem nv mv N M c) (hc : c ≤ 300) {Y : Heap} {b1 b2 b3 : Nat} (hY : HLe X Y) (h1 : Y[b1]? = some (.cells [nv, mv] 1 false false)) (h2 : Y[b2]? = some (.cells u.cells 1 false false)) (h3 : Y[b3]? = some (.cells [.slice none 0 0, .slice none 0 0] 1 false false)) (hb : X.length ≤ b1 ∧ X.length ≤ b2 ∧ X.length ≤ b3 ∧ b1 ≠ b3 ∧ b2 ≠ b3) :
    ∃ X' G' mem' nv' mv' N' M', (bind (ldA 2 (pt b1)) fun v27x8 =>
  bind (fa 1 (pt b2)) fun v28x9 =>
  bind (ld1 v28x9) fun v29x10 =>
  bind (fa 2 (pt b2)) fun v62x41 =>
  bind (ld1 v62x41) fun v63x42 =>
  bind (R (n + 8) n_ref10Join [v27x8, v29x10, v63x42]) fun v30x11 =>
  bind (extr v30x11 0) fun v31x12 =>
  bind (extr v30x11 1) fun v32x13 =>
  bind (alc 1 (.agg #[.slice none 0 0, .slice none 0 0])) fun v8x14 =>
  bind (stA 2 v8x14 v31x12) fun _ =>
  bind (ldA 2 v8x14) fun v33x15 =>
  bind (fa 1 (pt b2)) fun v35x16 =>
  bind (ld1 v35x16) fun v36x17 =>
  bind (fa 2 (pt b2)) fun v71x50 =>
  bind (ld1 v71x50) fun v72x51 =>
  bind (R (n + 8) n_groupGroupsJoin [pt g, v36x17, v72x51]) fun v37x18 =>
  bind (ldA 2 v8x14) fun u_19 => same u_19 v33x15 <|
  bind (bop .int .eql v37x18 v32x13) fun v39x20 =>
  bind (stA 2 (pt b3) v33x15) fun _ =>
  bind (ldA 2 (pt b3)) fun vrx21 =>
  ret (Value.tuple #[vrx21, v39x20])) Y = some (.tuple #[.agg #[nv', mv'], .bool true], X') ∧ GSt X' g o G' mem' nv' mv' N' M' (c + 1) ∧ Step (gown o G) X (gown o G') X' := by
  have dA : ldA 2 (pt b1) Y = some (.agg #[nv, mv], Y) := ldA_at h1 rfl
  have da : ∀ Z, Z[b2]? = some (.cells u.cells 1 false false) → ld1 (pa b2 1) Z = some (strv u.nm, Z) := fun Z hz => ld1_at hz rfl
  have db : ∀ Z, Z[b2]? = some (.cells u.cells 1 false false) → ld1 (pa b2 2) Z = some (strv u.hs, Z) := fun Z hz => ld1_at hz rfl
  have hN := h.fewN
  have hM := h.few
  have hgY := h.g.hle hY
  have hrY := h.r.hle hY
  obtain ⟨X1, mv1, M1, e1, r1, ok1, len1, l1⟩ := r_rjoin (n := n + 3) (k := u.nm) (m := u.hs) hrY h.ok hN (by omega)
  have e1 : R (n + 8) n_ref10Join [.agg #[nv, mv], strv u.nm, strv u.hs] Y = _ := e1
  have hone := r1.one.1
  have ebox := fun {K : Value → A.M Value} => box_a (k := K) (zs := [.slice none 0 0, .slice none 0 0]) (r := [nv, mv1]) (n := 2) (H := X1) rfl rfl rfl hone
  have l2 : HLe X1 (X1 ++ [AObj.cells [nv, mv1] 1 false false]) := .app _ _
  have b4 : (X1 ++ [AObj.cells [nv, mv1] 1 false false])[X1.length]? = some (.cells [nv, mv1] 1 false false) := app_new
  generalize X1 ++ [AObj.cells [nv, mv1] 1 false false] = X2 at ebox l2 b4
  have l12 := l1.trans l2
  have hg2 := hgY.hle l12
  have hr2 := r1.hle l2
  obtain ⟨X3, e3, g3, s3⟩ := r_gjoin (n := n) (k := u.nm) (m := u.hs) hg2
  have e3 : R (n + 8) n_groupGroupsJoin [pt g, strv u.nm, strv u.hs] X2 = _ := e3
  have cells : ∀ {b : Nat} {cs : List Value}, X2[b]? = some (.cells cs 1 false false) → X3[b]? = some (.cells cs 1 false false) := fun hb => s3.get hb fun hm => (hg2.isMap hm).2 _ _ _ _ hb
  have b4' := cells b4
  have b2' := l12 _ _ h2
  have b3' := cells (l12 _ _ h3)
  have d4 : ldA 2 (pt X1.length) X2 = some (.agg #[nv, mv1], X2) := ldA_at b4 rfl
  have d4' : ldA 2 (pt X1.length) X3 = some (.agg #[nv, mv1], X3) := ldA_at b4' rfl
  have w1 : stA 2 (pt b3) (.agg #[nv, mv1]) X3 = some (undef, X3.set b3 (.cells [nv, mv1] 1 false false)) := stA_at (vs := [nv, mv1]) b3' rfl rfl hone
  have w2 : ldA 2 (pt b3) (X3.set b3 (.cells [nv, mv1] 1 false false)) = some (.agg #[nv, mv1], X3.set b3 (.cells [nv, mv1] 1 false false)) := ldA_at (set_get b3') rfl
  have hgb : g ≠ b3 := fun e => by have := h.g.glt; omega
  have hst : Step (gown o G) X (gown o G) X3 := (hY.trans l12).stepq.trans s3
  have hr3 := hr2.grp hg2 s3
  refine ⟨X3.set b3 (.cells [nv, mv1] 1 false false), G, (if errJoin u.nm u.hs (keysG G) mem = 0 then memAdd u.nm u.hs mem else mem), nv, mv1, N, M1, ?_, ⟨?_, hr3.setBox b3' ⟨_, _, _, rfl⟩, ?_, ?_⟩, hst.setN hb.2.2.1⟩
  · rw [bind_eq dA, bind_eq fa_z, bind_eq (da _ h2), bind_eq fa_z, bind_eq (db _ h2), bind_eq e1, bind_eq extr_p0, bind_eq extr_p1]
    refine ebox.trans ?_
    rw [bind_eq d4, bind_eq fa_z, bind_eq (da _ b2'), bind_eq fa_z, bind_eq (db _ b2'), bind_eq e3, bind_eq d4', same_self, bind_eq eql_r, bind_eq w1, bind_eq w2]
    simp [ret]
  · exact g3.setN b3' hgb
  · exact ok1
  · omega

theorem r_do3 (h : GSt X g o G mem nv mv N M c) (hc : c ≤ 300) {Y : Heap} {b1 b2 b3 : Nat} (hY : HLe X Y) (h1 : Y[b1]? = some (.cells [nv, mv] 1 false false)) (h2 : Y[b2]? = some (.cells u.cells 1 false false)) (h3 : Y[b3]? = some (.cells [.slice none 0 0, .slice none 0 0] 1 false false)) (hb : X.length ≤ b1 ∧ X.length ≤ b2 ∧ X.length ≤ b3 ∧ b1 ≠ b3 ∧ b2 ≠ b3) :
    ∃ X' G' mem' nv' mv' N' M', (bind (ldA 2 (pt b1)) fun v27x8 =>
  bind (fa 1 (pt b2)) fun v28x9 =>
  bind (ld1 v28x9) fun v29x10 =>
  bind (fa 2 (pt b2)) fun v62x41 =>
  bind (ld1 v62x41) fun v63x42 =>
  bind (R (n + 8) n_ref10Leave [v27x8, v29x10, v63x42]) fun v30x11 =>
  bind (extr v30x11 0) fun v31x12 =>
  bind (extr v30x11 1) fun v32x13 =>
  bind (alc 1 (.agg #[.slice none 0 0, .slice none 0 0])) fun v8x14 =>
  bind (stA 2 v8x14 v31x12) fun _ =>
  bind (ldA 2 v8x14) fun v33x15 =>
  bind (fa 1 (pt b2)) fun v35x16 =>
  bind (ld1 v35x16) fun v36x17 =>
  bind (fa 2 (pt b2)) fun v71x50 =>
  bind (ld1 v71x50) fun v72x51 =>
  bind (R (n + 8) n_groupGroupsLeave [pt g, v36x17, v72x51]) fun v37x18 =>
  bind (ldA 2 v8x14) fun u_19 => same u_19 v33x15 <|
  bind (bop .int .eql v37x18 v32x13) fun v39x20 =>
  bind (stA 2 (pt b3) v33x15) fun _ =>
  bind (ldA 2 (pt b3)) fun vrx21 =>
  ret (Value.tuple #[vrx21, v39x20])) Y = some (.tuple #[.agg #[nv', mv'], .bool true], X') ∧ GSt X' g o G' mem' nv' mv' N' M' (c + 1) ∧ Step (gown o G) X (gown o G') X' := by
  have dA : ldA 2 (pt b1) Y = some (.agg #[nv, mv], Y) := ldA_at h1 rfl
  have da : ∀ Z, Z[b2]? = some (.cells u.cells 1 false false) → ld1 (pa b2 1) Z = some (strv u.nm, Z) := fun Z hz => ld1_at hz rfl
  have db : ∀ Z, Z[b2]? = some (.cells u.cells 1 false false) → ld1 (pa b2 2) Z = some (strv u.hs, Z) := fun Z hz => ld1_at hz rfl
  have hN := h.fewN
  have hM := h.few
  have hgY := h.g.hle hY
  have hrY := h.r.hle hY
  obtain ⟨X1, mv1, M1, e1, r1, ok1, len1, l1⟩ := r_rleave (n := n + 3) (k := u.nm) (m := u.hs) hrY h.ok hN (by omega)
  have e1 : R (n + 8) n_ref10Leave [.agg #[nv, mv], strv u.nm, strv u.hs] Y = _ := e1
  have hone := r1.one.1
  have ebox := fun {K : Value → A.M Value} => box_a (k := K) (zs := [.slice none 0 0, .slice none 0 0]) (r := [nv, mv1]) (n := 2) (H := X1) rfl rfl rfl hone
  have l2 : HLe X1 (X1 ++ [AObj.cells [nv, mv1] 1 false false]) := .app _ _
  have b4 : (X1 ++ [AObj.cells [nv, mv1] 1 false false])[X1.length]? = some (.cells [nv, mv1] 1 false false) := app_new
  generalize X1 ++ [AObj.cells [nv, mv1] 1 false false] = X2 at ebox l2 b4
  have l12 := l1.trans l2
  have hg2 := hgY.hle l12
  have hr2 := r1.hle l2
  obtain ⟨X3, e3, g3, s3⟩ := r_gleave (n := n) (k := u.nm) (m := u.hs) hg2
  have e3 : R (n + 8) n_groupGroupsLeave [pt g, strv u.nm, strv u.hs] X2 = _ := e3
  have cells : ∀ {b : Nat} {cs : List Value}, X2[b]? = some (.cells cs 1 false false) → X3[b]? = some (.cells cs 1 false false) := fun hb => s3.get hb fun hm => (hg2.isMap hm).2 _ _ _ _ hb
  have b4' := cells b4
  have b2' := l12 _ _ h2
  have b3' := cells (l12 _ _ h3)
  have d4 : ldA 2 (pt X1.length) X2 = some (.agg #[nv, mv1], X2) := ldA_at b4 rfl
  have d4' : ldA 2 (pt X1.length) X3 = some (.agg #[nv, mv1], X3) := ldA_at b4' rfl
  have w1 : stA 2 (pt b3) (.agg #[nv, mv1]) X3 = some (undef, X3.set b3 (.cells [nv, mv1] 1 false false)) := stA_at (vs := [nv, mv1]) b3' rfl rfl hone
  have w2 : ldA 2 (pt b3) (X3.set b3 (.cells [nv, mv1] 1 false false)) = some (.agg #[nv, mv1], X3.set b3 (.cells [nv, mv1] 1 false false)) := ldA_at (set_get b3') rfl
  have hgb : g ≠ b3 := fun e => by have := h.g.glt; omega
  have hst : Step (gown o G) X (gown o G) X3 := (hY.trans l12).stepq.trans s3
  have hr3 := hr2.grp hg2 s3
  refine ⟨X3.set b3 (.cells [nv, mv1] 1 false false), G, (if errLeave u.nm u.hs (keysG G) mem = 0 then memDel u.nm u.hs mem else mem), nv, mv1, N, M1, ?_, ⟨?_, hr3.setBox b3' ⟨_, _, _, rfl⟩, ?_, ?_⟩, hst.setN hb.2.2.1⟩
  · rw [bind_eq dA, bind_eq fa_z, bind_eq (da _ h2), bind_eq fa_z, bind_eq (db _ h2), bind_eq e1, bind_eq extr_p0, bind_eq extr_p1]
    refine ebox.trans ?_
    rw [bind_eq d4, bind_eq fa_z, bind_eq (da _ b2'), bind_eq fa_z, bind_eq (db _ b2'), bind_eq e3, bind_eq d4', same_self, bind_eq eql_r, bind_eq w1, bind_eq w2]
    simp [ret]
  · exact g3.setN b3' hgb
  · exact ok1
  · omega

theorem r_do4 (h : GSt X g o G mem nv mv N M c) (hc : c ≤ 300) {Y : Heap} {b1 b2 b3 : Nat} (hY : HLe X Y) (h1 : Y[b1]? = some (.cells [nv, mv] 1 false false)) (h2 : Y[b2]? = some (.cells u.cells 1 false false)) (h3 : Y[b3]? = some (.cells [.slice none 0 0, .slice none 0 0] 1 false false)) (hb : X.length ≤ b1 ∧ X.length ≤ b2 ∧ X.length ≤ b3 ∧ b1 ≠ b3 ∧ b2 ≠ b3) :
    ∃ X' G' mem' nv' mv' N' M', (bind (ldA 2 (pt b1)) fun v27x8 =>
  bind (fa 1 (pt b2)) fun v28x9 =>
  bind (ld1 v28x9) fun v29x10 =>
  bind (fa 2 (pt b2)) fun v62x41 =>
  bind (ld1 v62x41) fun v63x42 =>
  bind (R (n + 8) n_ref10Rename [v27x8, v29x10, v63x42]) fun v30x11 =>
  bind (extr v30x11 0) fun v31x12 =>
  bind (extr v30x11 1) fun v32x13 =>
  bind (alc 1 (.agg #[.slice none 0 0, .slice none 0 0])) fun v8x14 =>
  bind (stA 2 v8x14 v31x12) fun _ =>
  bind (ldA 2 v8x14) fun v33x15 =>
  bind (fa 1 (pt b2)) fun v35x16 =>
  bind (ld1 v35x16) fun v36x17 =>
  bind (fa 2 (pt b2)) fun v71x50 =>
  bind (ld1 v71x50) fun v72x51 =>
  bind (R (n + 8) n_groupGroupsRename [pt g, v36x17, v72x51]) fun v37x18 =>
  bind (ldA 2 v8x14) fun u_19 => same u_19 v33x15 <|
  bind (bop .int .eql v37x18 v32x13) fun v39x20 =>
  bind (stA 2 (pt b3) v33x15) fun _ =>
  bind (ldA 2 (pt b3)) fun vrx21 =>
  ret (Value.tuple #[vrx21, v39x20])) Y = some (.tuple #[.agg #[nv', mv'], .bool true], X') ∧ GSt X' g o G' mem' nv' mv' N' M' (c + 1) ∧ Step (gown o G) X (gown o G') X' := by
  have dA : ldA 2 (pt b1) Y = some (.agg #[nv, mv], Y) := ldA_at h1 rfl
  have da : ∀ Z, Z[b2]? = some (.cells u.cells 1 false false) → ld1 (pa b2 1) Z = some (strv u.nm, Z) := fun Z hz => ld1_at hz rfl
  have db : ∀ Z, Z[b2]? = some (.cells u.cells 1 false false) → ld1 (pa b2 2) Z = some (strv u.hs, Z) := fun Z hz => ld1_at hz rfl
  have hN := h.fewN
  have hM := h.few
  have hgY := h.g.hle hY
  have hrY := h.r.hle hY
  obtain ⟨X1, mv1, M1, e1, r1, ok1, len1, l1⟩ := r_rren (n := n + 3) (s := u.nm) (t := u.hs) hrY h.ok h.g.keyOut (by omega)
  have e1 : R (n + 8) n_ref10Rename [.agg #[nv, mv], strv u.nm, strv u.hs] Y = _ := e1
  have hone := r1.one.1
  have ebox := fun {K : Value → A.M Value} => box_a (k := K) (zs := [.slice none 0 0, .slice none 0 0]) (r := [nv, mv1]) (n := 2) (H := X1) rfl rfl rfl hone
  have l2 : HLe X1 (X1 ++ [AObj.cells [nv, mv1] 1 false false]) := .app _ _
  have b4 : (X1 ++ [AObj.cells [nv, mv1] 1 false false])[X1.length]? = some (.cells [nv, mv1] 1 false false) := app_new
  generalize X1 ++ [AObj.cells [nv, mv1] 1 false false] = X2 at ebox l2 b4
  have l12 := l1.trans l2
  have hg2 := hgY.hle l12
  have hr2 := r1.hle l2
  obtain ⟨X3, e3, g3, s3⟩ := r_gren (n := n) (s := u.nm) (t := u.hs) hg2
  have e3 : R (n + 8) n_groupGroupsRename [pt g, strv u.nm, strv u.hs] X2 = _ := e3
  have cells : ∀ {b : Nat} {cs : List Value}, X2[b]? = some (.cells cs 1 false false) → X3[b]? = some (.cells cs 1 false false) := fun hb => s3.get hb fun hm => (hg2.isMap hm).2 _ _ _ _ hb
  have b4' := cells b4
  have b2' := l12 _ _ h2
  have b3' := cells (l12 _ _ h3)
  have d4 : ldA 2 (pt X1.length) X2 = some (.agg #[nv, mv1], X2) := ldA_at b4 rfl
  have d4' : ldA 2 (pt X1.length) X3 = some (.agg #[nv, mv1], X3) := ldA_at b4' rfl
  have w1 : stA 2 (pt b3) (.agg #[nv, mv1]) X3 = some (undef, X3.set b3 (.cells [nv, mv1] 1 false false)) := stA_at (vs := [nv, mv1]) b3' rfl rfl hone
  have w2 : ldA 2 (pt b3) (X3.set b3 (.cells [nv, mv1] 1 false false)) = some (.agg #[nv, mv1], X3.set b3 (.cells [nv, mv1] 1 false false)) := ldA_at (set_get b3') rfl
  have hgb : g ≠ b3 := fun e => by have := h.g.glt; omega
  have hst : Step (gown o G) X (gown o G) X3 := (hY.trans l12).stepq.trans s3
  have hr3 := hr2.grp hg2 s3
  refine ⟨X3.set b3 (.cells [nv, mv1] 1 false false), G, (if errRen u.nm u.hs (keysG G) mem = 0 then memRen u.nm u.hs mem else mem), nv, mv1, N, M1, ?_, ⟨?_, hr3.setBox b3' ⟨_, _, _, rfl⟩, ?_, ?_⟩, hst.setN hb.2.2.1⟩
  · rw [bind_eq dA, bind_eq fa_z, bind_eq (da _ h2), bind_eq fa_z, bind_eq (db _ h2), bind_eq e1, bind_eq extr_p0, bind_eq extr_p1]
    refine ebox.trans ?_
    rw [bind_eq d4, bind_eq fa_z, bind_eq (da _ b2'), bind_eq fa_z, bind_eq (db _ b2'), bind_eq e3, bind_eq d4', same_self, bind_eq eql_r, bind_eq w1, bind_eq w2]
    simp [ret]
  · exact (g3.setN b3' hgb).more (Nat.le_succ _) (fun _ _ => rfl)
  · exact ok1
  · omega

theorem r_do5 (h : GSt X g o G mem nv mv N M c) (hc : c ≤ 300) {Y : Heap} {b1 b2 b3 : Nat} (hY : HLe X Y) (h1 : Y[b1]? = some (.cells [nv, mv] 1 false false)) (h2 : Y[b2]? = some (.cells u.cells 1 false false)) (h3 : Y[b3]? = some (.cells [.slice none 0 0, .slice none 0 0] 1 false false)) (hb : X.length ≤ b1 ∧ X.length ≤ b2 ∧ X.length ≤ b3 ∧ b1 ≠ b3 ∧ b2 ≠ b3) :
    ∃ X' G' mem' nv' mv' N' M', (bind (ldA 2 (pt b1)) fun v27x8 =>
  bind (fa 1 (pt b2)) fun v28x9 =>
  bind (ld1 v28x9) fun v29x10 =>
  bind (R (n + 8) n_ref10Remove [v27x8, v29x10]) fun v30x11 =>
  bind (extr v30x11 0) fun v31x12 =>
  bind (extr v30x11 1) fun v32x13 =>
  bind (alc 1 (.agg #[.slice none 0 0, .slice none 0 0])) fun v8x14 =>
  bind (stA 2 v8x14 v31x12) fun _ =>
  bind (ldA 2 v8x14) fun v33x15 =>
  bind (fa 1 (pt b2)) fun v35x16 =>
  bind (ld1 v35x16) fun v36x17 =>
  bind (R (n + 8) n_groupGroupsRemove [pt g, v36x17]) fun v37x18 =>
  bind (ldA 2 v8x14) fun u_19 => same u_19 v33x15 <|
  bind (bop .int .eql v37x18 v32x13) fun v39x20 =>
  bind (stA 2 (pt b3) v33x15) fun _ =>
  bind (ldA 2 (pt b3)) fun vrx21 =>
  ret (Value.tuple #[vrx21, v39x20])) Y = some (.tuple #[.agg #[nv', mv'], .bool true], X') ∧ GSt X' g o G' mem' nv' mv' N' M' (c + 1) ∧ Step (gown o G) X (gown o G') X' := by
  have dA : ldA 2 (pt b1) Y = some (.agg #[nv, mv], Y) := ldA_at h1 rfl
  have da : ∀ Z, Z[b2]? = some (.cells u.cells 1 false false) → ld1 (pa b2 1) Z = some (strv u.nm, Z) := fun Z hz => ld1_at hz rfl
  have db : ∀ Z, Z[b2]? = some (.cells u.cells 1 false false) → ld1 (pa b2 2) Z = some (strv u.hs, Z) := fun Z hz => ld1_at hz rfl
  have hN := h.fewN
  have hM := h.few
  have hgY := h.g.hle hY
  have hrY := h.r.hle hY
  obtain ⟨X1, mv1, M1, e1, r1, ok1, len1, l1⟩ := r_rrem (n := n + 3) (m := u.nm) hrY h.ok h.g.mo.nod h.g.keyOut (by omega)
  have e1 : R (n + 8) n_ref10Remove [.agg #[nv, mv], strv u.nm] Y = _ := e1
  have hone := r1.one.1
  have ebox := fun {K : Value → A.M Value} => box_a (k := K) (zs := [.slice none 0 0, .slice none 0 0]) (r := [nv, mv1]) (n := 2) (H := X1) rfl rfl rfl hone
  have l2 : HLe X1 (X1 ++ [AObj.cells [nv, mv1] 1 false false]) := .app _ _
  have b4 : (X1 ++ [AObj.cells [nv, mv1] 1 false false])[X1.length]? = some (.cells [nv, mv1] 1 false false) := app_new
  generalize X1 ++ [AObj.cells [nv, mv1] 1 false false] = X2 at ebox l2 b4
  have l12 := l1.trans l2
  have hg2 := hgY.hle l12
  have hr2 := r1.hle l2
  obtain ⟨X3, e3, g3, s3⟩ := r_gremove (n := n) (m := u.nm) hg2
  have e3 : R (n + 8) n_groupGroupsRemove [pt g, strv u.nm] X2 = _ := e3
  have cells : ∀ {b : Nat} {cs : List Value}, X2[b]? = some (.cells cs 1 false false) → X3[b]? = some (.cells cs 1 false false) := fun hb => s3.get hb fun hm => (hg2.isMap hm).2 _ _ _ _ hb
  have b4' := cells b4
  have b2' := l12 _ _ h2
  have b3' := cells (l12 _ _ h3)
  have d4 : ldA 2 (pt X1.length) X2 = some (.agg #[nv, mv1], X2) := ldA_at b4 rfl
  have d4' : ldA 2 (pt X1.length) X3 = some (.agg #[nv, mv1], X3) := ldA_at b4' rfl
  have w1 : stA 2 (pt b3) (.agg #[nv, mv1]) X3 = some (undef, X3.set b3 (.cells [nv, mv1] 1 false false)) := stA_at (vs := [nv, mv1]) b3' rfl rfl hone
  have w2 : ldA 2 (pt b3) (X3.set b3 (.cells [nv, mv1] 1 false false)) = some (.agg #[nv, mv1], X3.set b3 (.cells [nv, mv1] 1 false false)) := ldA_at (set_get b3') rfl
  have hgb : g ≠ b3 := fun e => by have := h.g.glt; omega
  have hst : Step (gown o G) X (gown o G) X3 := (hY.trans l12).stepq.trans s3
  have hr3 := hr2.grp hg2 s3
  refine ⟨X3.set b3 (.cells [nv, mv1] 1 false false), G, (memRem u.nm mem), nv, mv1, N, M1, ?_, ⟨?_, hr3.setBox b3' ⟨_, _, _, rfl⟩, ?_, ?_⟩, hst.setN hb.2.2.1⟩
  · rw [bind_eq dA, bind_eq fa_z, bind_eq (da _ h2), bind_eq e1, bind_eq extr_p0, bind_eq extr_p1]
    refine ebox.trans ?_
    rw [bind_eq d4, bind_eq fa_z, bind_eq (da _ b2'), bind_eq e3, bind_eq d4', same_self, bind_eq eql_r, bind_eq w1, bind_eq w2]
    simp [ret]
  · exact (g3.setN b3' hgb).more (Nat.le_succ _) (fun _ _ => rfl)
  · exact ok1
  · omega

theorem r_do6 (h : GSt X g o G mem nv mv N M c) {Y : Heap} {b1 b2 b3 : Nat} (hY : HLe X Y) (h1 : Y[b1]? = some (.cells [nv, mv] 1 false false)) (h2 : Y[b2]? = some (.cells u.cells 1 false false)) (h3 : Y[b3]? = some (.cells [.slice none 0 0, .slice none 0 0] 1 false false)) (hb : X.length ≤ b1 ∧ X.length ≤ b2 ∧ X.length ≤ b3 ∧ b1 ≠ b3 ∧ b2 ≠ b3) :
    ∃ X', (bind (R (n + 8) n_groupGroupsCopy [pt g]) fun v133x109 =>
  bind (R (n + 8) n_groupGroupsMake [v133x109, (Value.string ⟨#[100, 101, 118]⟩)]) fun v135x110 =>
  bind (fa 2 (pt b2)) fun v137x111 =>
  bind (ld1 v137x111) fun v138x112 =>
  bind (R (n + 8) n_groupGroupsJoin [v133x109, (Value.string ⟨#[100, 101, 118]⟩), v138x112]) fun v139x113 =>
  bind (fa 1 (pt b2)) fun v141x114 =>
  bind (ld1 v141x114) fun v142x115 =>
  bind (R (n + 8) n_groupGroupsDrop [v133x109, v142x115]) fun v143x116 =>
  bind (ldA 2 (pt b1)) fun v144x117 =>
  bind (stA 2 (pt b3) v144x117) fun _ =>
  bind (ldA 2 (pt b3)) fun vrx118 =>
  ret (Value.tuple #[vrx118, (Value.bool true)])) Y = some (.tuple #[.agg #[nv, mv], .bool true], X') ∧ GSt X' g o G mem nv mv N M (c + 1) ∧ Step (gown o G) X (gown o G) X' := by
  have hgY := h.g.hle hY
  obtain ⟨X1, g1, o1, G1, e1, c1, k1, l1, q1, q2⟩ := r_gcopy (n := n + 7) hgY
  have e1 : R (n + 8) n_groupGroupsCopy [pt g] Y = _ := e1
  obtain ⟨X2, G2, e2, c2, k2, s2⟩ := r_gmake (n := n) (k := [100, 101, 118]) c1
  have e2 : R (n + 8) n_groupGroupsMake [pt g1, .string ⟨#[100, 101, 118]⟩] X1 = _ := e2
  obtain ⟨X3, e3, c3, s3⟩ := r_gjoin (n := n) (k := [100, 101, 118]) (m := u.hs) c2
  have e3 : R (n + 8) n_groupGroupsJoin [pt g1, .string ⟨#[100, 101, 118]⟩, strv u.hs] X2 = _ := e3
  obtain ⟨X4, G4, e4, c4, k4, s4⟩ := r_gdrop (n := n) (k := u.nm) c3
  have hle2 := l1.more s2 q2
  have hle3 := hle2.1.more s3 hle2.2
  have hle4 := hle3.1.more s4 hle3.2
  have l4 := hle4.1
  have da : ld1 (pa b2 1) X3 = some (strv u.nm, X3) := ld1_at (hle3.1 _ _ h2) rfl
  have db : ld1 (pa b2 2) X2 = some (strv u.hs, X2) := ld1_at (hle2.1 _ _ h2) rfl
  have hXY := hY.trans l4
  refine ⟨X4.set b3 (.cells [nv, mv] 1 false false), ?_, ⟨((h.g.hle hXY).setN (l4 _ _ h3) (fun e => by have := h.g.glt; omega)).more (Nat.le_succ _) (fun _ _ => rfl), (h.r.hle hXY).setBox (l4 _ _ h3) ⟨_, _, _, rfl⟩, h.ok, Nat.le_trans h.few (Nat.le_succ _)⟩, hXY.stepq.setN hb.2.2.1⟩
  rw [bind_eq e1, bind_eq e2, bind_eq fa_z, bind_eq db, bind_eq e3, bind_eq fa_z, bind_eq da, bind_eq e4]
  exact fin (l4 _ _ h1) (l4 _ _ h3) hb.2.2.2.1 h.r.one.1 _

theorem r_ldo (h : GSt X g o G mem nv mv N M c) (hc : c ≤ 300) : ∃ X' G' mem' nv' mv' N' M', R (n + 9) n_law10Do [pt g, .agg #[nv, mv], .agg u.cells.toArray] X = some (.tuple #[.agg #[nv', mv'], .bool true], X') ∧ GSt X' g o G' mem' nv' mv' N' M' (c + 1) ∧ Step (gown o G) X (gown o G') X' := by
  have f1 : ∀ r X', F_law10Do (R (n + 8)) (pt g) (.agg #[nv, mv]) (.agg u.cells.toArray) X = some (r, X') → R (n + 9) n_law10Do [pt g, .agg #[nv, mv], .agg u.cells.toArray] X = some (r, X') := fun r X' hr => by rw [R, run_law10Do rfl]; exact hr
  have e1 := h.r.box X
  have b1 : (X ++ [AObj.cells [nv, mv] 1 false false])[X.length]? = some (.cells [nv, mv] 1 false false) := app_new
  have l1 : HLe X (X ++ [AObj.cells [nv, mv] 1 false false]) := .app _ _
  have n1 : (X ++ [AObj.cells [nv, mv] 1 false false]).length = X.length + 1 := by simp
  generalize X ++ [AObj.cells [nv, mv] 1 false false] = X1 at e1 b1 l1 n1
  have e2 : alc 1 (.agg u.cells.toArray) X1 = some (pt X1.length, X1 ++ [.cells u.cells 1 false false]) := alc_a rfl
  have b2 : (X1 ++ [AObj.cells u.cells 1 false false])[X1.length]? = some (.cells u.cells 1 false false) := app_new
  have l2 : HLe X1 (X1 ++ [AObj.cells u.cells 1 false false]) := .app _ _
  have n2 : (X1 ++ [AObj.cells u.cells 1 false false]).length = X1.length + 1 := by simp
  generalize X1 ++ [AObj.cells u.cells 1 false false] = X2 at e2 b2 l2 n2
  have e3 := box0 X2
  have b3 : (X2 ++ [AObj.cells [.slice none 0 0, .slice none 0 0] 1 false false])[X2.length]? = some (.cells [.slice none 0 0, .slice none 0 0] 1 false false) := app_new
  have l3 : HLe X2 (X2 ++ [AObj.cells [.slice none 0 0, .slice none 0 0] 1 false false]) := .app _ _
  generalize X2 ++ [AObj.cells [.slice none 0 0, .slice none 0 0] 1 false false] = X3 at e3 b3 l3
  have b1' := l3 _ _ (l2 _ _ b1)
  have b2' := l3 _ _ b2
  have hY := (l1.trans l2).trans l3
  have d0 : ld1 (pa X1.length 0) X3 = some (.int .u8 u.kd, X3) := ld1_at b2' rfl
  have hb : X.length ≤ X.length ∧ X.length ≤ X1.length ∧ X.length ≤ X2.length ∧ X.length ≠ X2.length ∧ X1.length ≠ X2.length := ⟨by omega, by omega, by omega, by omega, by omega⟩
  have key : ∃ X' G' mem' nv' mv' N' M', F_law10Do (R (n + 8)) (pt g) (.agg #[nv, mv]) (.agg u.cells.toArray) X = some (.tuple #[.agg #[nv', mv'], .bool true], X') ∧ GSt X' g o G' mem' nv' mv' N' M' (c + 1) ∧ Step (gown o G) X (gown o G') X' := by
    unfold F_law10Do
    rw [bind_eq e1, bind_eq e2, bind_eq e3, bind_eq fa_z, bind_eq d0, bind_eq (rem_r.trans (if_neg (by decide))), bind_eq eql_r]
    rw [cnd_b]
    by_cases h0 : (((u.kd : Int).tmod 7) == 0) = true
    · rw [if_pos h0]
      exact r_do0 h hc hY b1' b2' b3 hb
    rw [if_neg h0, bind_eq eql_r, cnd_b]
    by_cases h0 : (((u.kd : Int).tmod 7) == 1) = true
    · rw [if_pos h0]
      exact r_do1 h hc hY b1' b2' b3 hb
    rw [if_neg h0, bind_eq eql_r, cnd_b]
    by_cases h0 : (((u.kd : Int).tmod 7) == 2) = true
    · rw [if_pos h0]
      exact r_do2 h hc hY b1' b2' b3 hb
    rw [if_neg h0, bind_eq eql_r, cnd_b]
    by_cases h0 : (((u.kd : Int).tmod 7) == 3) = true
    · rw [if_pos h0]
      exact r_do3 h hc hY b1' b2' b3 hb
    rw [if_neg h0, bind_eq eql_r, cnd_b]
    by_cases h0 : (((u.kd : Int).tmod 7) == 4) = true
    · rw [if_pos h0]
      exact r_do4 h hc hY b1' b2' b3 hb
    rw [if_neg h0, bind_eq eql_r, cnd_b]
    by_cases h0 : (((u.kd : Int).tmod 7) == 5) = true
    · rw [if_pos h0]
      exact r_do5 h hc hY b1' b2' b3 hb
    rw [if_neg h0]
    obtain ⟨X', e, s⟩ := r_do6 (n := n) (u := u) h hY b1' b2' b3 hb
    exact ⟨X', G, mem, nv, mv, N, M, e, s⟩
  obtain ⟨X', G', mem', nv', mv', N', M', e, r⟩ := key
  exact ⟨X', G', mem', nv', mv', N', M', f1 _ _ e, r⟩

end

end Go.Proofs.Ytmacmlpiheimhaa.A
