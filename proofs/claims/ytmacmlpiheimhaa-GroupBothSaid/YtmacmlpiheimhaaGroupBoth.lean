/- GroupBoth: a name is among a group's members just if the group is among those of the name. -/
import Derived.Test.YtmacmlpiheimhaaGroupPlays
namespace Go.Proofs.Ytmacmlpiheimhaa.A
set_option linter.unusedVariables false
set_option linter.unusedSimpArgs false
open Go.Proofs Go.Proofs.Ytmacmlpiheimhaa

theorem heads_app : ∀ {l : List Tx} {m : List Value}, headsL (l.map strv) (l.map strv ++ m) = true
  | [], _ => rfl
  | a :: l, m => by
    simp only [List.map_cons, List.cons_append, headsL, Bool.and_eq_true]
    exact ⟨by simp [sameV, strv], heads_app⟩

/-- A row's elements may be read, now and later. -/
structure Old (X : Heap) (v : Value) (l : List Tx) : Prop where
  len : ∀ H', lenS v H' = some (iv l.length, H')
  ix : ∀ i, i < l.length → ∀ H', ixa 1 v (.int .i64 i) H' = some (ixp v i, H')
  ld : ∀ i y, l[i]? = some y → ∀ Y, HLe X Y → ld1 (ixp v i) Y = some (strv y, Y)

section
variable {H X X' : Heap} {n g o c w : Nat} {G : GMap} {mem mem' : Mem} {nv mv sl v x' : Value} {N l ms : List Tx} {M : List Pr} {ac : List EAct} {nm m k x : Tx} {q : List Nat}

theorem Old.hle (h : Old X v l) (hl : HLe X X') : Old X' v l := ⟨h.len, h.ix, fun i y hi Y hy => h.ld i y hi Y (hl.trans hy)⟩

/-- Some elements more: what was there may still be read. -/
theorem RowS.pushN (h : RowS X v (l.map strv) q) (hx : Sl X x' (ms.map strv)) (h1 : 1 ≤ ms.length) (hl : l.length + ms.length ≤ 1000000) : ∃ sl' X' q', app 1 16 v x' X = some (sl', X') ∧ RowS X' sl' ((l ++ ms).map strv) q' ∧ Step q X q' X' ∧ Old X' v l := by
  have hf := hx.fc
  have hn := hx.flen
  rw [List.length_map] at hn
  have hlen : ∀ H', lenS v H' = some (iv l.length, H') := fun H' => by have := h.rd.len (H' := H'); simpa using this
  have hix : ∀ i, i < l.length → ∀ H', ixa 1 v (.int .i64 i) H' = some (ixp v i, H') := fun i hi H' => h.ix (i := i) (by simpa using hi) .i64 H'
  rcases h with ⟨h0, rfl, rfl⟩ | ⟨sid, rest, gr, rfl, rfl, hid⟩
  · have hl0 : l = [] := by simpa using h0
    subst hl0
    refine ⟨_, X ++ [.cells (ms.map strv) 1 true false], [X.length], ?_, .inr ⟨X.length, [], true, rfl, rfl, by simp⟩, ⟨by simp, fun j hj _ => List.getElem?_append_left hj, by simp⟩, ⟨hlen, hix, fun i y hi => by simp at hi⟩⟩
    unfold app
    rw [hf]
    simp only [hn]
    rw [if_neg (by omega), if_pos ⟨by omega, by omega⟩]
    simp
  · have hlt := get_lt hid
    have haddr : ∀ i, ixp (.slice (some ⟨sid, 0, none⟩) (l.map strv).length ((l.map strv).length + rest.length)) i = pa sid i := fun i => by simp [ixp]
    have hml : (ms.map strv).length = ms.length := List.length_map _
    have hll : (l.map strv).length = l.length := List.length_map _
    by_cases hc : ms.length ≤ rest.length
    · have hsp : splice (l.map strv ++ rest) (ms.map strv) l.length = l.map strv ++ (ms.map strv ++ rest.drop ms.length) := by
        unfold splice
        rw [hml, ← hll, List.take_left, List.drop_append, List.drop_eq_nil_of_le (by omega), List.nil_append, Nat.add_sub_cancel_left, List.append_assoc]
      have hset : (X.set sid (.cells (l.map strv ++ (ms.map strv ++ rest.drop ms.length)) 1 gr false))[sid]? = some (.cells (l.map strv ++ (ms.map strv ++ rest.drop ms.length)) 1 gr false) := set_get hid
      refine ⟨.slice (some ⟨sid, 0, none⟩) (l.length + ms.length) (l.length + rest.length), X.set sid (.cells (l.map strv ++ (ms.map strv ++ rest.drop ms.length)) 1 gr false), [sid], ?_, .inr ⟨sid, rest.drop ms.length, gr, ?_, rfl, by rw [hset, List.map_append, List.append_assoc]⟩, ⟨by simp, fun j hj hn => List.getElem?_set_ne (fun e => hn (by simp [e])), by simp⟩, ⟨hlen, hix, fun i y hi Y hy => ?_⟩⟩
      · unfold app
        rw [hf]
        simp only [hn, hid, if_true, hll, Nat.mul_one, Nat.zero_add]
        rw [if_pos (by omega), if_neg (by omega), if_pos ⟨trivial, by rw [List.length_append, hll]; omega⟩, hsp]
      · rw [List.length_map, List.length_append, List.length_drop]
        congr 1; omega
      · rw [haddr]
        refine ld1_at (hy _ _ hset) ?_
        rw [List.getElem?_append_left (by rw [hll]; exact (List.getElem?_eq_some_iff.1 hi).1), List.getElem?_map, hi]; rfl
    · have hold : ((l.map strv ++ rest).drop 0).take l.length = l.map strv := by rw [List.drop_zero, ← hll, List.take_left]
      have happ : app 1 16 (.slice (some ⟨sid, 0, none⟩) (l.map strv).length ((l.map strv).length + rest.length)) x' X = some (.slice (some ⟨X.length, 0, none⟩) (l.length + ms.length) (l.length + ms.length), (bif gr then X.set sid (.view (l.map strv) 1 X.length) else X) ++ [.cells (l.map strv ++ ms.map strv) 1 true false]) := by
        unfold app
        rw [hf]
        simp only [hn, hid, if_true, hll, Nat.mul_one, Nat.zero_add]
        rw [if_neg (by omega), if_pos ⟨by simp, by rw [List.length_append, hll]; omega, by omega, by omega⟩, hold]
        rfl
      have hnew : ((bif gr then X.set sid (.view (l.map strv) 1 X.length) else X) ++ [.cells (l.map strv ++ ms.map strv) 1 true false])[X.length]? = some (.cells (l.map strv ++ ms.map strv) 1 true false) := by
        rw [List.getElem?_append_right (by cases gr <;> simp)]
        cases gr <;> simp
      refine ⟨_, _, [X.length], happ, .inr ⟨X.length, [], true, by simp, rfl, by rw [hnew, List.append_nil, List.map_append]⟩, ⟨?_, fun j hj hn => ?_, by simp⟩, ⟨hlen, hix, fun i y hi Y hy => ?_⟩⟩
      · cases gr <;> simp
      · rw [List.getElem?_append_left (by cases gr <;> simpa using hj)]
        cases gr
        · rfl
        · exact List.getElem?_set_ne (fun e => hn (by simp [e]))
      · have hcell : (l.map strv)[i]? = some (strv y) := by rw [List.getElem?_map, hi]; rfl
        have hil := (List.getElem?_eq_some_iff.1 hi).1
        rw [haddr]
        have hYn := hy _ _ hnew
        cases gr
        · have h0 : (X ++ [AObj.cells (l.map strv ++ ms.map strv) 1 true false])[sid]? = some (.cells (l.map strv ++ rest) 1 false false) := by rw [List.getElem?_append_left hlt]; exact hid
          refine ld1_at (hy _ _ h0) ?_
          rw [List.getElem?_append_left (by rw [hll]; exact hil)]; exact hcell
        · have h0 : (X.set sid (.view (l.map strv) 1 X.length) ++ [AObj.cells (l.map strv ++ ms.map strv) 1 true false])[sid]? = some (.view (l.map strv) 1 X.length) := by rw [List.getElem?_append_left (by simpa using hlt)]; exact set_get hid
          have h1 := hy _ _ h0
          simp only [ld1, pa, h1, hYn, heads_app, cond_true, hcell]
          rfl

theorem hasO_do (hl : l.length ≤ 1000000) (hs : Old X v l) : ∀ (t j : Nat), l.length - j = t → j ≤ l.length →
    loopM (c4 (F_law10Has.l1 (R n))) [strv x, v, iv l.length, iv j] X = some (if x ∈ l.drop j then .ret (.bool true) else .ext 0 [], X)
  | 0, j, ht, hj => by
    rw [List.drop_eq_nil_of_le (by omega)]
    refine loop_ext ?_
    rw [c4_r, show j = l.length by omega]
    unfold F_law10Has.l1
    rw [bind_eq lss_r, cnd_b, if_neg (by simp)]
    rfl
  | t + 1, j, ht, hj => by
    have hkl : j < l.length := by omega
    have hlt : (j : Int) < l.length := by omega
    have hg := List.getElem?_eq_getElem hkl
    have hd := List.drop_eq_getElem_cons hkl
    generalize l[j] = y at hg hd
    have x1 := hs.ix j hkl X
    have x2 := hs.ld j y hg X (.refl _)
    have x3 : bop .str .eql (strv y) (strv x) X = some (.bool (y == x), X) := eqs_v
    rw [hd]
    by_cases hyx : y = x
    · rw [if_pos (by simp [hyx])]
      refine loop_ret ?_
      rw [c4_r]
      unfold F_law10Has.l1
      rw [bind_eq lss_r, cnd_b, if_pos (by simpa using hlt), bind_eq x1, bind_eq x2, bind_eq x3, cnd_b, if_pos (by simpa using hyx)]
      rfl
    · have : (x ∈ y :: l.drop (j + 1)) ↔ x ∈ l.drop (j + 1) := by simp [Ne.symm hyx]
      simp only [this]
      refine (loop_next ?_).trans (hasO_do hl hs t (j + 1) (by omega) (by omega))
      rw [c4_r]
      unfold F_law10Has.l1
      rw [bind_eq lss_r, cnd_b, if_pos (by simpa using hlt), bind_eq x1, bind_eq x2, bind_eq x3, cnd_b, if_neg (by simpa using hyx), bind_eq add_r, wsuc (by omega)]
      rfl

theorem r_lhasO (hl : l.length ≤ 1000000) (hs : Old X v l) : R (n + 1) n_law10Has [v, strv x] X = some (.bool (decide (x ∈ l)), X) := by
  have e := hasO_do (n := n) (x := x) hl hs l.length 0 (by omega) (by omega)
  rw [show iv ((0 : Nat) : Int) = .int .i64 0 from rfl, List.drop_zero] at e
  rw [R, run_law10Has rfl]
  unfold F_law10Has
  rw [bind_eq (hs.len _)]
  by_cases h : x ∈ l
  · rw [if_pos h] at e
    rw [jn_ret e, decide_eq_true h]; rfl
  · rw [if_neg h] at e
    rw [jn_ext e, xk_hit, decide_eq_false h]; rfl

theorem rises_do (hl : l.length ≤ 1000000) (hs : Sl X v (l.map strv)) (ha : Asc l) : ∀ (t j : Nat), l.length - j = t → 1 ≤ j →
    loopM (c2 (F_law10Rises.l1 (R n))) [v, iv j] X = some (.ext 0 [], X)
  | 0, j, ht, hj => by
    have hlen : lenS v X = some (iv l.length, X) := by have := hs.len (H' := X); simpa using this
    refine loop_ext ?_
    rw [c2_r]
    unfold F_law10Rises.l1
    rw [bind_eq hlen, bind_eq lss_r, cnd_b, if_neg (by simp; omega)]
    rfl
  | t + 1, j, ht, hj => by
    have hkl : j < l.length := by omega
    have hlt : (j : Int) < l.length := by omega
    have hlen : lenS v X = some (iv l.length, X) := by have := hs.len (H' := X); simpa using this
    have hk1 : j - 1 < l.length := by omega
    have hlss : l[j - 1] < l[j] := List.pairwise_iff_getElem.1 ha _ _ hk1 hkl (by omega)
    have hg := List.getElem?_eq_getElem hkl
    have hg1 := List.getElem?_eq_getElem hk1
    generalize l[j] = y at hg hlss
    generalize l[j - 1] = z at hg1 hlss
    have x1 := hs.ix (i := j) (by simpa using hkl) .i64 X
    have x2 := hs.ldx (row_at hg)
    have x3 := hs.ix (i := j - 1) (by simpa using hk1) .i64 X
    have x4 := hs.ldx (row_at hg1)
    have x5 : bop .int .sub (iv j) (.int .i64 1) X = some (iv ((j - 1 : Nat) : Int), X) := by rw [sub_r, wpred (by omega) (by omega)]
    have x6 : bop .str .geq (strv z) (strv y) X = some (.bool false, X) := by rw [gesv, decide_eq_true hlss]; rfl
    refine (loop_next ?_).trans (rises_do hl hs ha t (j + 1) (by omega) (by omega))
    rw [c2_r]
    unfold F_law10Rises.l1
    rw [bind_eq hlen, bind_eq lss_r, cnd_b, if_pos (by simpa using hlt), bind_eq x5, bind_eq x3, bind_eq x4, bind_eq x1, bind_eq x2, bind_eq x6, cnd_b, if_neg (by simp), bind_eq add_r, wsuc (by omega)]
    rfl

theorem r_rises (hl : l.length ≤ 1000000) (hs : Sl X v (l.map strv)) (ha : Asc l) : R (n + 1) n_law10Rises [v] X = some (.bool true, X) := by
  have e := rises_do (n := n) hl hs ha (l.length - 1) 1 rfl (by omega)
  rw [show iv ((1 : Nat) : Int) = .int .i64 1 from rfl] at e
  rw [R, run_law10Rises rfl]
  unfold F_law10Rises
  rw [jn_ext e, xk_hit]
  rfl

/-- Each name, of a group's members and others. -/
theorem both3_do {z4 z6 z23 z24 z25 z46 z47 z48 vm vr : Value} {lm lr : List Tx} (hk : lr.length ≤ 1000000) (hlm : lm.length ≤ 1000000) (hm : ∀ y, y ∈ lm ↔ mem x y = true) (hx : x ∈ keysG G) : ∀ (t j : Nat) (X : Heap), lr.length - j = t → j ≤ lr.length → Sl X vr (lr.map strv) → Old X vm lm → Grp X g o G mem c →
    ∃ X', loopM (c14 (F_law10GroupBoth.l3 (R (n + 5)))) [pt g, z4, z6, strv x, vm, z23, z24, z25, z46, z47, z48, vr, iv lr.length, iv j] X = some (.ext 4 [pt g, z4, z6, z23, z24, z25, z46, z47, z48], X') ∧ HLe X X'
  | 0, j, X, ht, hj, hs, ho, h => by
    refine ⟨X, loop_ext ?_, .refl _⟩
    rw [c14_r, show j = lr.length by omega]
    unfold F_law10GroupBoth.l3
    rw [bind_eq lss_r, cnd_b, if_neg (by simp)]
    rfl
  | t + 1, j, X, ht, hj, hs, ho, h => by
    have hkl : j < lr.length := by omega
    have hlt : (j : Int) < lr.length := by omega
    have hg := List.getElem?_eq_getElem hkl
    generalize lr[j] = y at hg
    have x1 := hs.ix (i := j) (by simpa using hkl) .i64 X
    have x2 := hs.ldx (row_at hg)
    have e1 : R (n + 5) n_law10Has [vm, strv y] X = _ := r_lhasO (n := n + 4) (x := y) hlm ho
    obtain ⟨v2, q2, X2, e2, r2, k2, o2⟩ := r_gof (n := n + 1) (m := y) h
    have e2 : R (n + 5) n_groupGroupsOf [pt g, strv y] X = _ := e2
    have hfew : (ofL y (keysG G) mem).length ≤ 1000000 := by have := ofL_few (m := y) (mem := mem) (K := keysG G); have := h.few; simp at *; omega
    have e3 : R (n + 5) n_law10Has [v2, strv x] X2 = _ := r_lhas (n := n + 4) (x := x) hfew r2.rd
    have h1 : decide (y ∈ lm) = mem x y := by
      cases hb : mem x y with
      | false => exact decide_eq_false fun hy => by have := (hm y).1 hy; rw [hb] at this; cases this
      | true => exact decide_eq_true ((hm y).2 hb)
    have h2 : decide (x ∈ ofL y (keysG G) mem) = mem x y := by
      cases hb : mem x y with
      | false => exact decide_eq_false fun hy => by have := (ofL_in.1 hy).2; rw [hb] at this; cases this
      | true => exact decide_eq_true (ofL_in.2 ⟨hx, hb⟩)
    rw [h1] at e1
    rw [h2] at e3
    have q0 : bop .bool .neq (.bool (mem x y)) (.bool (mem x y)) X2 = some (.bool false, X2) := by rw [neb_r]; simp
    obtain ⟨X6, e7, k7⟩ := both3_do hk hlm hm hx t (j + 1) X2 (by omega) (by omega) (hs.mono k2) (ho.hle k2) (h.hle k2)
    refine ⟨X6, (loop_next ?_).trans e7, k2.trans k7⟩
    rw [c14_r]
    unfold F_law10GroupBoth.l3
    rw [bind_eq lss_r, cnd_b, if_pos (by simpa using hlt), bind_eq x1, bind_eq x2, bind_eq e1, bind_eq e2, bind_eq e3, bind_eq q0, cnd_b, if_neg (by simp), bind_eq add_r, wsuc (by omega)]
    rfl

/-- Each group. -/
theorem both2_do {z4 z23 z24 z25 vA : Value} {lA : List Tx} {b : Nat} {u : EAct} (hk : lA.length ≤ 1000) (hK : ∀ y ∈ lA, y ∈ keysG G) (hc : c ≤ 300) : ∀ (t j : Nat) (X : Heap), lA.length - j = t → j ≤ lA.length → Sl X vA (lA.map strv) → Grp X g o G mem c → X[b]? = some (.cells u.cells 1 false false) →
    ∃ X', loopM (c9 (F_law10GroupBoth.l2 (R (n + 8)))) [pt g, z4, pt b, z23, z24, z25, vA, iv lA.length, iv j] X = some (.ext 2 [pt g, z4, z23, z24, z25], X') ∧ HLe X X'
  | 0, j, X, ht, hj, hs, h, hb => by
    refine ⟨X, loop_ext ?_, .refl _⟩
    rw [c9_r, show j = lA.length by omega]
    unfold F_law10GroupBoth.l2
    rw [bind_eq lss_r, cnd_b, if_neg (by simp)]
    rfl
  | t + 1, j, X, ht, hj, hs, h, hb => by
    have hkl : j < lA.length := by omega
    have hlt : (j : Int) < lA.length := by omega
    have hg := List.getElem?_eq_getElem hkl
    have hmm := List.getElem_mem hkl
    generalize lA[j] = x at hg hmm
    have hxK := hK x hmm
    have x1 := hs.ix (i := j) (by simpa using hkl) .i64 X
    have x2 := hs.ldx (row_at hg)
    obtain ⟨v1, q1, l1, X1, e1, r1, i1, n1, k1, o1⟩ := r_gmembers (n := n) (k := x) h (by omega)
    have hE : errDrop x (keysG G) = 0 := by
      obtain ⟨p, hp, rfl⟩ := List.mem_map.1 hxK
      unfold errDrop
      rw [if_pos (h.ok p hp), if_pos hxK]
    rw [hE] at e1
    have hm1 : ∀ y, y ∈ l1 ↔ mem x y = true := fun y => by rw [i1.mem y]; exact ⟨fun h => h.2, fun h => ⟨hE, h⟩⟩
    have e2 : R (n + 8) n_law10Rises [v1] X1 = _ := r_rises (n := n + 7) (by omega) r1.rd i1.asc
    have hb1 := k1 _ _ hb
    have da : ld1 (pa b 1) X1 = some (strv u.nm, X1) := ld1_at hb1 rfl
    have db : ld1 (pa b 2) X1 = some (strv u.hs, X1) := ld1_at hb1 rfl
    have e3 := bslS3 (a := u.nm) (b := u.hs) (c := [97, 110, 110]) (H := X1)
    have k3 : HLe X1 (X1 ++ [AObj.cells [strv u.nm, strv u.hs, strv [97, 110, 110]] 1 false false]) := .app _ _
    have s3 : Sl (X1 ++ [AObj.cells [strv u.nm, strv u.hs, strv [97, 110, 110]] 1 false false]) (.slice (some ⟨X1.length, 0, none⟩) 3 3) (([u.nm, u.hs, [97, 110, 110]] : List Tx).map strv) := Sl.one (vs := [strv u.nm, strv u.hs, strv [97, 110, 110]]) (es := 1) (g := false) (ro := false) app_new
    generalize X1 ++ [AObj.cells [strv u.nm, strv u.hs, strv [97, 110, 110]] 1 false false] = X2 at e3 k3 s3
    have r2 := r1.step k3.step (by simp)
    obtain ⟨v4, X4, q4, e4, r4, s4, ho4⟩ := r2.pushN s3 (by simp) (by simp; omega)
    have hle4 := (k1.trans k3).more s4 o1
    have k4 := hle4.1
    have hlen4 : lenS v4 X4 = some (iv (l1 ++ [u.nm, u.hs, [97, 110, 110]]).length, X4) := by have := r4.rd.len (H' := X4); simpa using this
    obtain ⟨X5, e5, k5⟩ := both3_do (n := n + 3) (z4 := z4) (z6 := pt b) (z23 := z23) (z24 := z24) (z25 := z25) (z46 := vA) (z47 := iv lA.length) (z48 := iv j) (by simp; omega) (by omega) hm1 hxK (l1 ++ [u.nm, u.hs, [97, 110, 110]]).length 0 X4 (by omega) (by omega) r4.rd ho4 (h.hle k4)
    have e5 : loopM (c14 (F_law10GroupBoth.l3 (R (n + 8)))) [pt g, z4, pt b, strv x, v1, z23, z24, z25, vA, iv lA.length, iv j, v4, iv (l1 ++ [u.nm, u.hs, [97, 110, 110]]).length, .int .i64 0] X4 = _ := e5
    have k15 := k4.trans k5
    obtain ⟨X6, e7, k7⟩ := both2_do hk hK hc t (j + 1) X5 (by omega) (by omega) (hs.mono k15) (h.hle k15) (k15 _ _ hb)
    have q0 : bop .int .neq (iv 0) (.int .i64 0) X1 = some (.bool false, X1) := by rw [neq_r]; rfl
    have e3 : bsl 1 3 (.string ⟨#[]⟩) [(0, 1, strv u.nm), (1, 1, strv u.hs), (2, 1, .string ⟨#[97, 110, 110]⟩)] X1 = _ := e3
    refine ⟨X6, (loop_next ?_).trans e7, k15.trans k7⟩
    rw [c9_r]
    unfold F_law10GroupBoth.l2
    rw [bind_eq lss_r, cnd_b, if_pos (by simpa using hlt), bind_eq x1, bind_eq x2, bind_eq e1, bind_eq extr_p0, bind_eq extr_p1, bind_eq q0, b_g_in, b_assoc, bind_eq e2, b_assoc, bind_eq not_r, b_ret, c3_r, bind_eq pick_r]
    simp only [cond_false, Bool.not_true]
    rw [cnd_b, if_neg (by simp), bind_eq fa_z, bind_eq da, bind_eq fa_z, bind_eq db, bind_eq e3, bind_eq e4, bind_eq hlen4, jn_ext e5, xk_hit, c9_r, bind_eq add_r, wsuc (by omega)]
    rfl

/-- After each act. -/
theorem both1_do (hA : EActs H sl ac) (hn : ac.length ≤ 60) (hw0 : H.length ≤ w) : ∀ (t j : Nat) (G : GMap) (mem : Mem) (nv mv : Value) (N : List Tx) (M : List Pr) (X : Heap), ac.length - j = t → j ≤ ac.length → HLe H X → GSt X g o G mem nv mv N M j → (∀ i ∈ gown o G, H.length ≤ i) → X[w]? = some (.cells [nv, mv] 1 false false) → g ≠ w →
    ∃ X', loopM (c5 (F_law10GroupBoth.l1 (R (n + 10)))) [pt g, pt w, sl, iv ac.length, iv j] X = some (.ext 0 [], X')
  | 0, j, G, mem, nv, mv, N, M, X, ht, hj, hle, h, ho, hw, hgw => by
    refine ⟨X, loop_ext ?_⟩
    rw [c5_r, show j = ac.length by omega]
    unfold F_law10GroupBoth.l1
    rw [bind_eq lss_r, cnd_b, if_neg (by simp)]
    rfl
  | t + 1, j, G, mem, nv, mv, N, M, X, ht, hj, hle, h, ho, hw, hgw => by
    have hkl : j < ac.length := by omega
    have hlt : (j : Int) < ac.length := by omega
    have hja := List.getElem?_eq_getElem hkl
    generalize ac[j] = u at hja
    have g1 : (X ++ [AObj.cells u.cells 1 false false])[X.length]? = some (.cells u.cells 1 false false) := app_new
    have hf := fun {K : Value → A.M Out} => (hA.mono hle).fetch (k := K) hja
    have k1 : HLe X (X ++ [AObj.cells u.cells 1 false false]) := .app _ _
    generalize X ++ [AObj.cells u.cells 1 false false] = X1 at g1 k1 hf
    have d1 : ldA 2 (pt w) X1 = some (.agg #[nv, mv], X1) := ldA_at (k1 _ _ hw) rfl
    have d2 : ldA 3 (pt X.length) X1 = some (.agg u.cells.toArray, X1) := ldA_at g1 rfl
    obtain ⟨X2, G2, mem2, nv2, mv2, N2, M2, e2, h2, s2⟩ := r_ldo (n := n + 1) (u := u) (h.hle k1) (by omega)
    have e2 : R (n + 10) n_law10Do [pt g, .agg #[nv, mv], .agg u.cells.toArray] X1 = _ := e2
    have cells : ∀ {b : Nat} {cs : List Value}, X1[b]? = some (.cells cs 1 false false) → X2[b]? = some (.cells cs 1 false false) := fun hb => s2.get hb fun hm => ((h.hle k1).g.isMap hm).2 _ _ _ _ hb
    have hw2 := cells (k1 _ _ hw)
    have ha2 := cells g1
    have hm2 := (hle.trans k1).more s2 ho
    have w1 : stA 2 (pt w) (.agg #[nv2, mv2]) X2 = some (undef, X2.set w (.cells [nv2, mv2] 1 false false)) := stA_at (vs := [nv2, mv2]) hw2 rfl rfl h2.r.one.1
    have hw3 : (X2.set w (.cells [nv2, mv2] 1 false false))[w]? = some (.cells [nv2, mv2] 1 false false) := set_get hw2
    have hXw : X.length ≠ w := fun e => by have := get_lt hw; omega
    have ha3 : (X2.set w (.cells [nv2, mv2] 1 false false))[X.length]? = some (.cells u.cells 1 false false) := by rw [List.getElem?_set_ne (Ne.symm hXw)]; exact ha2
    have hnvS : ∃ a n c, nv = .slice a n c := h.r.n.elim fun q hq => hq.isS
    have h3 : GSt (X2.set w (.cells [nv2, mv2] 1 false false)) g o G2 mem2 nv2 mv2 N2 M2 (j + 1) := ⟨h2.g.setN hw2 hgw, h2.r.setBox hw2 hnvS, h2.ok, h2.few⟩
    have hle3 : HLe H (X2.set w (.cells [nv2, mv2] 1 false false)) := hm2.1.setN hw0
    generalize X2.set w (.cells [nv2, mv2] 1 false false) = X3 at w1 hw3 ha3 h3 hle3
    obtain ⟨v4, q4, X4, e4, r4, k4, o4⟩ := r_gall (n := n + 7) h3.g
    have e4 : R (n + 10) n_groupGroupsAll [pt g] X3 = _ := e4
    have h4 := h3.hle k4
    have hfew : (ksort (keysG G2)).length ≤ 6 := by rw [ksort_few]; have := h3.g.few; simpa using this
    have len4 : lenS v4 X4 = some (iv (ksort (keysG G2)).length, X4) := by have := r4.rd.len (H' := X4); simpa using this
    have e5 : R (n + 10) n_law10Rises [v4] X4 = _ := r_rises (n := n + 9) (by omega) r4.rd h3.g.keysAsc
    have q0 : bop .int .gtr (iv (ksort (keysG G2)).length) (.int .i64 6) X4 = some (.bool false, X4) := by rw [gtr_r, decide_eq_false (by omega)]
    obtain ⟨X6, e7, k7⟩ := both2_do (n := n + 2) (z4 := pt w) (z23 := sl) (z24 := iv ac.length) (z25 := iv j) (u := u) (by omega) (fun y hy => mem_ksort.1 hy) (by omega) (ksort (keysG G2)).length 0 X4 (by omega) (by omega) r4.rd h4.g (k4 _ _ ha3)
    have e7 : loopM (c9 (F_law10GroupBoth.l2 (R (n + 10)))) [pt g, pt w, pt X.length, sl, iv ac.length, iv j, v4, iv (ksort (keysG G2)).length, .int .i64 0] X4 = _ := e7
    have k37 := k4.trans k7
    obtain ⟨X7, e8⟩ := both1_do hA hn hw0 t (j + 1) G2 mem2 nv2 mv2 N2 M2 X6 (by omega) (by omega) (hle3.trans k37) (h3.hle k37) hm2.2 (k37 _ _ hw3) hgw
    refine ⟨X7, (loop_next ?_).trans e8⟩
    rw [c5_r]
    unfold F_law10GroupBoth.l1
    rw [bind_eq lss_r, cnd_b, if_pos (by simpa using hlt), hf, bind_eq d1, bind_eq d2, bind_eq e2, bind_eq extr_p0, bind_eq extr_p1, bind_eq w1, bind_eq e4, bind_eq len4, bind_eq q0, b_g_in, b_assoc, bind_eq e5, b_assoc, bind_eq not_r, b_ret, c3_r, bind_eq pick_r]
    simp only [cond_false, Bool.not_true]
    rw [cnd_b, if_neg (by simp), bind_eq len4, jn_ext e7, xk_hit, c5_r, bind_eq add_r, wsuc (by omega)]
    rfl

theorem both_core (hA : EActs H sl ac) (hn : ac.length ≤ 9223372036854775807) : ∃ H', R (n + 11) n_law10GroupBoth [sl] H = some (.bool true, H') := by
  have f1 : ∀ r X', F_law10GroupBoth (R (n + 10)) sl H = some (r, X') → R (n + 11) n_law10GroupBoth [sl] H = some (r, X') := fun r X' hr => by rw [R, run_law10GroupBoth rfl]; exact hr
  obtain ⟨H1, e1, l1⟩ := r_glives (n := n + 1) (H := H)
  have e1 : R (n + 10) n_law10Lives [] H = _ := e1
  obtain ⟨H2, e2, l2⟩ := r_gfew (n := n + 9) (hA.mono l1) hn
  have e2 : R (n + 10) n_law10Few [sl] H1 = _ := e2
  obtain ⟨H2', e2', l2'⟩ := r_glives (n := n + 1) (H := H2)
  have e2' : R (n + 10) n_law10Lives [] H2 = _ := e2'
  generalize hq : (ac.all fewA && decide (ac.length ≤ 60)) = fw at e2
  cases fw
  · refine ⟨H2', f1 _ _ ?_⟩
    unfold F_law10GroupBoth
    rw [bind_eq e1, bind_eq not_r]
    simp only [Bool.not_true]
    rw [b_g_in, b_assoc, bind_eq e2, b_assoc, bind_eq not_r, b_ret, c3_r, bind_eq pick_r]
    simp only [cond_false, Bool.not_false]
    rw [cnd_b, if_pos rfl, bind_eq e2']
    rfl
  · simp only [Bool.and_eq_true, decide_eq_true_eq] at hq
    obtain ⟨H3, g, o, e3, g3, l3, o1, o2⟩ := r_gnew (n := n + 9) (X := H2)
    have e3 : R (n + 10) n_groupNew [] H2 = _ := e3
    have e4 := box0 H3
    have b4 : (H3 ++ [AObj.cells [.slice none 0 0, .slice none 0 0] 1 false false])[H3.length]? = some (.cells [.slice none 0 0, .slice none 0 0] 1 false false) := app_new
    have l4 : HLe H3 (H3 ++ [AObj.cells [.slice none 0 0, .slice none 0 0] 1 false false]) := .app _ _
    generalize H3 ++ [AObj.cells [.slice none 0 0, .slice none 0 0] 1 false false] = H4 at e4 b4 l4
    have hA2 := hA.mono (((l1.trans l2).trans l3).trans l4)
    have hS : GSt H4 g o [] (fun _ _ => false) (.slice none 0 0) (.slice none 0 0) [] [] 0 := ⟨g3.hle l4, ⟨⟨[], RowS.nil⟩, ⟨[], RowN.nil⟩⟩, ⟨⟨List.Pairwise.nil, by simp⟩, by simp⟩, Nat.le_refl _⟩
    have hgl := g3.glt
    obtain ⟨H5, e5⟩ := both1_do (n := n) (w := H3.length) (hA.mono (l1.trans l2)) hq.2 (Nat.le_trans o1 (Nat.le_of_lt hgl)) ac.length 0 [] _ _ _ [] [] H4 (by omega) (by omega) (l3.trans l4) hS (by simpa using o2) b4 (by omega)
    rw [show iv ((0 : Nat) : Int) = .int .i64 0 from rfl] at e5
    refine ⟨H5, f1 _ _ ?_⟩
    unfold F_law10GroupBoth
    rw [bind_eq e1, bind_eq not_r]
    simp only [Bool.not_true]
    rw [b_g_in, b_assoc, bind_eq e2, b_assoc, bind_eq not_r, b_ret, c3_r, bind_eq pick_r]
    simp only [cond_false, Bool.not_true]
    rw [cnd_b, if_neg (by simp), bind_eq e3, bind_eq e4, bind_eq hA2.len, jn_ext e5, xk_hit]
    rfl

theorem law_GroupBoth : ∀ (xs : Ins [.slc eldActT]) (H : Heap) (vs : List Value), InsWf [.slc eldActT] xs → InsRd [.slc eldActT] xs H vs → ∃ n H', R n n_law10GroupBoth vs H = some (.bool true, H') := by
  intro xs H vs hwf hrd
  obtain ⟨l, _⟩ := xs
  obtain ⟨hl, _⟩ := hwf
  obtain ⟨c1, _, rfl, hc1, h1, rfl⟩ := hrd
  obtain ⟨v, rfl⟩ : ∃ v, c1 = [v] := by
    match c1, hc1 with
    | [v], _ => exact ⟨v, rfl⟩
  obtain ⟨ac, hA, hn⟩ := rd_eldActs hl h1
  obtain ⟨H', e⟩ := both_core (n := 0) hA hn
  exact ⟨11, H', e⟩

end

end Go.Proofs.Ytmacmlpiheimhaa.A
