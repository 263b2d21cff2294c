/- MailPlays: the index answers as the document's. -/
import Derived.Test.YtmacmlpiheimhaaDoorMailT
namespace Go.Proofs.YtmacmlpiheimhaaDoor.A
set_option linter.unusedVariables false
set_option linter.unusedSimpArgs false
open Go.Proofs Go.Proofs.YtmacmlpiheimhaaDoor

section
variable {H X : Heap} {n : Nat} {sl : Value} {ac : List EAct} {s t : List UInt8}

/-- After an act: what the two tell. -/
theorem plays_tell {x o a : Nat} {OW OF : SMap} {wv : Value} {most E : Int} {j : Nat} (hI : Idx X x o a OW OF) (hl : OF.length ≤ 60) (hw : Row9 X wv (sortM OF)) (hm : most ≤ 9223372036854775807 ∧ -9223372036854775808 ≤ most) (hj : j ≤ 1000) (K : Value → M Out) : ∃ X', (bind (R (n + 10) n_mailIndexOf [pt x, strv s]) fun v115x75 =>
  bind (extr v115x75 0) fun v116x76 =>
  bind (extr v115x75 1) fun v117x77 =>
  bind (R (n + 10) n_mailIndexFind [pt x, strv t]) fun v121x78 =>
  bind (extr v121x78 0) fun v122x79 =>
  bind (extr v121x78 1) fun v123x80 =>
  bind (R (n + 10) n_ref09Find [wv, strv t]) fun v127x81 =>
  bind (extr v127x81 0) fun v128x82 =>
  bind (extr v127x81 1) fun v129x83 =>
  bind (bop .int .neq (iv E) (iv E)) fun v132x84 =>
  bind (gateV v132x84 false (ret (pt x))) fun v134x85 =>
  bind (gateV v132x84 false (ret wv)) fun v136x86 =>
  bind (gateV v132x84 false (lenS v136x86)) fun v137x87 =>
  bind (gateV v132x84 false (R (n + 10) n_mailIndexLen [v134x85])) fun v135x88 =>
  bind (gateV v132x84 false (bop .int .neq v135x88 v137x87)) fun v138x89 =>
  bind (pick v132x84 (Value.bool true) v138x89) fun v139x90 =>
  bind (gateV v139x90 false (ret (pt x))) fun v141x91 =>
  bind (gateV v139x90 false (ret wv)) fun v143x92 =>
  bind (gateV v139x90 false (R (n + 10) n_law09Pairs [v141x91, (Value.int .i64 100)])) fun v142x93 =>
  bind (gateV v139x90 false (R (n + 10) n_law09Same [v142x93, v143x92])) fun v144x94 =>
  bind (gateV v139x90 false (uop .not v144x94)) fun v145x95 =>
  bind (pick v139x90 (Value.bool true) v145x95) fun v146x96 =>
  bind (gateV v146x96 false (ret (pt x))) fun v148x97 =>
  bind (gateV v146x96 false (ret (iv most))) fun v149x98 =>
  bind (gateV v146x96 false (ret wv)) fun v151x99 =>
  bind (gateV v146x96 false (ret (iv most))) fun v152x100 =>
  bind (gateV v146x96 false (ret wv)) fun v153x101 =>
  bind (gateV v146x96 false (lenS v153x101)) fun v154x102 =>
  bind (gateV v146x96 false (mxi false v152x100 v154x102)) fun v155x103 =>
  bind (gateV v146x96 false (mxi true (Value.int .i64 0) v155x103)) fun v156x104 =>
  bind (gateV v146x96 false (slv 2 v151x99 none (some v156x104) none)) fun v157x105 =>
  bind (gateV v146x96 false (R (n + 10) n_law09Pairs [v148x97, v149x98])) fun v150x106 =>
  bind (gateV v146x96 false (slv 2 v151x99 none (some v156x104) none)) fun u_107 => same u_107 v157x105 <|
  bind (gateV v146x96 false (R (n + 10) n_law09Same [v150x106, v157x105])) fun v158x108 =>
  bind (gateV v146x96 false (uop .not v158x108)) fun v159x109 =>
  bind (pick v146x96 (Value.bool true) v159x109) fun v160x110 =>
  bind (gateV v160x110 false (ret v116x76)) fun v162x111 =>
  bind (gateV v160x110 false (ret wv)) fun v163x112 =>
  bind (gateV v160x110 false (ret (strv s))) fun v164x113 =>
  bind (gateV v160x110 false (R (n + 10) n_ref09Of [v163x112, v164x113])) fun v165x114 =>
  bind (gateV v160x110 false (bop .str .neq v162x111 v165x114)) fun v166x115 =>
  bind (pick v160x110 (Value.bool true) v166x115) fun v167x116 =>
  bind (gateV v167x116 false (ret v117x77)) fun v169x117 =>
  bind (gateV v167x116 false (ret v116x76)) fun v170x118 =>
  bind (gateV v167x116 false (bop .str .neq v170x118 (Value.string ⟨#[]⟩))) fun v171x119 =>
  bind (gateV v167x116 false (bop .bool .neq v169x117 v171x119)) fun v172x120 =>
  bind (pick v167x116 (Value.bool true) v172x120) fun v173x121 =>
  bind (gateV v173x121 false (ret v122x79)) fun v175x122 =>
  bind (gateV v173x121 false (ret v128x82)) fun v176x123 =>
  bind (gateV v173x121 false (bop .str .neq v175x122 v176x123)) fun v177x124 =>
  bind (pick v173x121 (Value.bool true) v177x124) fun v178x125 =>
  bind (gateV v178x125 false (ret v123x80)) fun v180x126 =>
  bind (gateV v178x125 false (ret v129x83)) fun v181x127 =>
  bind (gateV v178x125 false (bop .int .neq v180x126 v181x127)) fun v182x128 =>
  bind (pick v178x125 (Value.bool true) v182x128) K) X = K (.bool false) X' ∧ HLe X X' := by
  have e1 : R (n + 10) n_mailIndexOf [pt x, strv s] X = _ := r_mof (n := n + 9) (k := s) hI
  obtain ⟨X1, e2, l1⟩ := r_mfind (n := n + 1) (m := t) hI
  have e2 : R (n + 10) n_mailIndexFind [pt x, strv t] X = _ := e2
  obtain ⟨X2, e3, l2⟩ := r_find9 (n := n + 5) (m := t) hI.inv hI.of.nod (by omega) (hw.mono l1)
  have e3 : R (n + 10) n_ref09Find [wv, strv t] X1 = _ := e3
  have l12 := l1.trans l2
  have e4 : R (n + 10) n_mailIndexLen [pt x] X2 = _ := r_mlen (n := n + 9) (hI.hle l12)
  have e5 : lenS wv X2 = some (iv OF.length, X2) := by
    have := hw.sl.len (H' := X2)
    rwa [List.length_map, sortM_len] at this
  have q1 : bop .int .neq (iv E) (iv E) X2 = some (.bool false, X2) := by rw [neq_r]; simp
  have q2 : bop .int .neq (iv OF.length) (iv OF.length) X2 = some (.bool false, X2) := by rw [neq_r]; simp
  have hm100 : ∀ {i : Nat}, ((sortM OF).take i).length ≤ 100000 := fun {i} => by rw [List.length_take, sortM_len]; omega
  obtain ⟨v3, p3, X3, e6, r6, l3, _⟩ := r_pairs (n := n + 6) (most := 100) (hI.hle l12) (by omega)
  have e6 : R (n + 10) n_law09Pairs [pt x, .int .i64 100] X2 = _ := e6
  have htk : (sortM OF).take (100 : Int).toNat = sortM OF := List.take_of_length_le (by rw [sortM_len]; show _ ≤ 100; omega)
  rw [htk] at r6
  have l123 := l12.trans l3
  have e7 : R (n + 10) n_law09Same [v3, wv] X3 = _ := r_same (n := n + 9) r6.rd (hw.mono l123).sl (by rw [sortM_len]; omega)
  rw [decide_eq_true rfl] at e7
  have e8 : lenS wv X3 = some (iv OF.length, X3) := by
    have := hw.sl.len (H' := X3)
    rwa [List.length_map, sortM_len] at this
  obtain ⟨q9, hr9⟩ := hw.mono l123
  obtain ⟨v4, e9, r9⟩ := hr9.head (by omega) (i := min most.toNat OF.length) (by rw [List.length_map, sortM_len]; omega)
  have hv : (if (if (OF.length : Int) < most then (OF.length : Int) else most) > 0 then (if (OF.length : Int) < most then (OF.length : Int) else most) else 0) = ((min most.toNat OF.length : Nat) : Int) := by split <;> split <;> omega
  obtain ⟨v5, p5, X4, e10, r10, l4, _⟩ := r_pairs (n := n + 6) (most := most) (hI.hle l123) (by omega)
  have e10 : R (n + 10) n_law09Pairs [pt x, iv most] X3 = _ := e10
  have e11 := e9 X4 l4
  have e9 := e9 X3 (.refl _)
  have e12 : R (n + 10) n_law09Same [v5, v4] X4 = _ := r_same (n := n + 9) (us := (sortM OF).take most.toNat) (ws := (sortM OF).take (min most.toNat OF.length)) r10.rd (by rw [List.map_take]; exact r9.mono l4) hm100
  have htk2 : (sortM OF).take most.toNat = (sortM OF).take (min most.toNat OF.length) := by
    by_cases h : most.toNat ≤ OF.length
    · rw [Nat.min_eq_left h]
    · rw [Nat.min_eq_right (by omega), List.take_of_length_le (by rw [sortM_len]; omega), List.take_of_length_le (by rw [sortM_len]; omega)]
  rw [decide_eq_true htk2] at e12
  obtain ⟨X5, e13, l5⟩ := r_of9 (n := n + 9) (k := s) (by rw [sortM_len]; omega) (hw.mono (l123.trans l4)).sl
  have e13 : R (n + 10) n_ref09Of [wv, strv s] X4 = _ := e13
  rw [aget_sortM hI.of.nod] at e13
  have q3 : bop .str .neq (strv ((aget s OF).getD [])) (strv ((aget s OF).getD [])) X5 = some (.bool false, X5) := by rw [nes_v]; simp
  have q4 : bop .str .neq (strv ((aget s OF).getD [])) (.string ⟨#[]⟩) X5 = some (.bool (aget s OF).isSome, X5) := by
    refine (nes_v (b := [])).trans ?_
    cases h : aget s OF with
    | none => rfl
    | some v =>
      have hv : v ≠ [] := (hI.inv.lens _ (aget_mem h)).2.2.1
      simpa using hv
  have q5 : bop .bool .neq (.bool (aget s OF).isSome) (.bool (aget s OF).isSome) X5 = some (.bool false, X5) := by simp [bop, eqv]
  have q6 : bop .str .neq (strv (findT t OW)) (strv (findT t OW)) X5 = some (.bool false, X5) := by rw [nes_v]; simp
  have q7 : bop .int .neq (iv (errFindI t OW)) (iv (errFindI t OW)) X5 = some (.bool false, X5) := by rw [neq_r]; simp
  refine ⟨X5, ?_, (l123.trans l4).trans l5⟩
  rw [bind_eq e1, bind_eq extr_p0, bind_eq extr_p1, bind_eq e2, bind_eq extr_p0, bind_eq extr_p1, bind_eq e3, bind_eq extr_p0, bind_eq extr_p1, bind_eq q1, b_gv_in, b_ret, b_gv_in, b_ret, b_gv_in, bind_eq e5, b_gv_in, bind_eq e4, b_gv_in, bind_eq q2, bind_eq pick_r]
  simp only [cond_false]
  rw [b_gv_in, b_ret, b_gv_in, b_ret, b_gv_in, bind_eq e6, b_gv_in, bind_eq e7, b_gv_in, bind_eq not_r, bind_eq pick_r]
  simp only [cond_false, Bool.not_true]
  rw [b_gv_in, b_ret, b_gv_in, b_ret, b_gv_in, b_ret, b_gv_in, b_ret, b_gv_in, b_ret, b_gv_in, bind_eq e8, b_gv_in, bind_eq mn_r, b_gv_in, bind_eq mx_r, hv, b_gv_in, bind_eq e9, b_gv_in, bind_eq e10, b_gv_in, bind_eq e11, same_self, b_gv_in, bind_eq e12, b_gv_in, bind_eq not_r, bind_eq pick_r]
  simp only [cond_false, Bool.not_true]
  rw [b_gv_in, b_ret, b_gv_in, b_ret, b_gv_in, b_ret, b_gv_in, bind_eq e13, b_gv_in, bind_eq q3, bind_eq pick_r]
  simp only [cond_false]
  rw [b_gv_in, b_ret, b_gv_in, b_ret, b_gv_in, bind_eq q4, b_gv_in, bind_eq q5, bind_eq pick_r]
  simp only [cond_false]
  rw [b_gv_in, b_ret, b_gv_in, b_ret, b_gv_in, bind_eq q6, bind_eq pick_r]
  simp only [cond_false]
  rw [b_gv_in, b_ret, b_gv_in, b_ret, b_gv_in, bind_eq q7, bind_eq pick_r]
  rfl

theorem renF_few9 {OF : SMap} {s t : List UInt8} : (renF s t OF).length ≤ OF.length + 1 := by
  have h1 := dropF_few (k := s) (OF := OF)
  have h2 := aput_le (k := t) (v := (aget s OF).getD []) (m := dropF s OF)
  unfold renF
  split <;> omega

/-- A row stays whatever happens to the index's maps. -/
theorem Row9.idx {X X' : Heap} {x o a : Nat} {OW OF ws : SMap} {w : Value} (h : Row9 X w ws) (hI : Idx X x o a OW OF) (hs : Step [o, a] X [o, a] X') : Row9 X' w ws := by
  obtain ⟨q, hr⟩ := h
  refine ⟨q, hr.step hs fun j hj hm => ?_⟩
  obtain ⟨es, clk, _, h2, _⟩ := hI.ow.ex
  obtain ⟨es', clk', _, h3, _⟩ := hI.of.ex
  rcases hr with ⟨_, rfl, _⟩ | ⟨sid, rest, r, g, _, rfl, hid, _, _⟩
  · cases hj
  · have hj : j = sid := by simpa using hj
    subst hj
    simp only [List.mem_cons, List.not_mem_nil, or_false] at hm
    rcases hm with rfl | rfl
    · rw [hid] at h2; cases h2
    · rw [hid] at h3; cases h3

/-- An act: drop, rename, on a copy, or set. -/
theorem plays_act {x o a : Nat} {OW OF : SMap} {A B C wv vl vj : Value} {qq : Nat} {u : EAct} (hx : X[qq]? = some (.cells u.cells 1 false false)) (hI : Idx X x o a OW OF) (hl : OF.length ≤ 800) (hw : Row9 X wv (sortM OF)) (b2 b3 b4 : Bool) : ∃ X' OW' OF' w' E, (cnd (.bool b2)
  (bind (fa 1 (pt qq)) fun v69x26 =>
  bind (ld1 v69x26) fun v70x27 =>
  bind (R (n + 10) n_ref09Of [wv, v70x27]) fun v71x28 =>
  bind (bop .str .neq v71x28 (Value.string ⟨#[]⟩)) fun v72x29 =>
  bind (fa 1 (pt qq)) fun v74x30 =>
  bind (ld1 v74x30) fun v75x31 =>
  bind (R (n + 10) n_ref09Put [wv, v75x31, (Value.string ⟨#[]⟩)]) fun v76x32 =>
  bind (fa 1 (pt qq)) fun v78x33 =>
  bind (ld1 v78x33) fun v79x34 =>
  bind (R (n + 10) n_mailIndexDrop [pt x, v79x34]) fun v80x35 =>
  bind (bop .bool .neq v80x35 v72x29) fun v82x36 =>
  cnd v82x36
  (ret (.ret (Value.bool false)))
  (ret (.nrm [A, B, C, pt x, v76x32, (Value.int .i64 0), (Value.int .i64 0), sl, vl, vj])))
  (jn (cnd (.bool b3)
  (bind (fa 1 (pt qq)) fun v87x38 =>
  bind (ld1 v87x38) fun v88x39 =>
  bind (fa 2 (pt qq)) fun v89x40 =>
  bind (ld1 v89x40) fun v90x41 =>
  bind (R (n + 10) n_ref09Rename [wv, v88x39, v90x41]) fun v91x42 =>
  bind (extr v91x42 0) fun v92x43 =>
  bind (extr v91x42 1) fun v93x44 =>
  bind (fa 1 (pt qq)) fun v95x45 =>
  bind (ld1 v95x45) fun v96x46 =>
  bind (fa 2 (pt qq)) fun v97x47 =>
  bind (ld1 v97x47) fun v98x48 =>
  bind (R (n + 10) n_mailIndexRename [pt x, v96x46, v98x48]) fun v99x49 =>
  ret (.nrm [A, B, C, pt x, v92x43, v99x49, v93x44, sl, vl, vj]))
  (jn (cnd (.bool b4)
  (bind (R (n + 10) n_mailIndexCopy [pt x]) fun v103x51 =>
  bind (fa 1 (pt qq)) fun v105x52 =>
  bind (ld1 v105x52) fun v106x53 =>
  bind (fa 2 (pt qq)) fun v107x54 =>
  bind (ld1 v107x54) fun v108x55 =>
  bind (R (n + 10) n_mailIndexSet [v103x51, v106x53, v108x55]) fun v109x56 =>
  bind (R (n + 10) n_mailIndexDrop [v103x51, (Value.string ⟨#[97, 110, 110]⟩)]) fun v111x57 =>
  ret (.nrm [A, B, C, pt x, wv, (Value.int .i64 0), (Value.int .i64 0), sl, vl, vj]))
  (bind (fa 1 (pt qq)) fun v53x58 =>
  bind (ld1 v53x58) fun v54x59 =>
  bind (fa 2 (pt qq)) fun v55x60 =>
  bind (ld1 v55x60) fun v56x61 =>
  bind (R (n + 10) n_ref09Set [wv, v54x59, v56x61]) fun v57x62 =>
  bind (extr v57x62 0) fun v58x63 =>
  bind (extr v57x62 1) fun v59x64 =>
  bind (fa 1 (pt qq)) fun v61x65 =>
  bind (ld1 v61x65) fun v62x66 =>
  bind (fa 2 (pt qq)) fun v63x67 =>
  bind (ld1 v63x67) fun v64x68 =>
  bind (R (n + 10) n_mailIndexSet [pt x, v62x66, v64x68]) fun v65x69 =>
  ret (.nrm [A, B, C, pt x, v58x63, v65x69, v59x64, sl, vl, vj]))) (c10 fun q70_0 q70_1 q70_2 q70_3 q70_4 q70_5 q70_6 q70_7 q70_8 q70_9 =>
  ret (.nrm [q70_0, q70_1, q70_2, q70_3, q70_4, q70_5, q70_6, q70_7, q70_8, q70_9])) noX retR)) (c10 fun q72_0 q72_1 q72_2 q72_3 q72_4 q72_5 q72_6 q72_7 q72_8 q72_9 =>
  ret (.nrm [q72_0, q72_1, q72_2, q72_3, q72_4, q72_5, q72_6, q72_7, q72_8, q72_9])) noX retR) : M Out) X = some (.nrm [A, B, C, pt x, w', iv E, iv E, sl, vl, vj], X') ∧ Idx X' x o a OW' OF' ∧ Row9 X' w' (sortM OF') ∧ OF'.length ≤ OF.length + 1 ∧ (∀ H0, HLe H0 X → H0.length ≤ o ∧ H0.length ≤ a → HLe H0 X') := by
  have hn := hI.of.nod
  have la : ∀ Y, HLe X Y → ld1 (pa qq 1) Y = some (strv u.nm, Y) := fun Y hy => ld1_at (hy _ _ hx) rfl
  have lb : ∀ Y, HLe X Y → ld1 (pa qq 2) Y = some (strv u.hs, Y) := fun Y hy => ld1_at (hy _ _ hx) rfl
  have m0 : ∀ {H0 Y Z : Heap}, HLe H0 X → H0.length ≤ o ∧ H0.length ≤ a → HLe X Y → Step [o, a] Y [o, a] Z → HLe H0 Z := fun h hb hy hs => ((h.trans hy).more hs (by simpa using hb)).1
  cases b2
  · cases b3
    · cases b4
      · obtain ⟨X1, w', e1, r1, k1⟩ := r_set9 (n := n) (k := u.nm) (m := u.hs) hI.inv hn (by omega) hw
        obtain ⟨X2, e2, I2, s2⟩ := r_mset (n := n + 1) (k := u.nm) (m := u.hs) (hI.hle k1)
        have e2 : R (n + 10) n_mailIndexSet [pt x, strv u.nm, strv u.hs] X1 = _ := e2
        refine ⟨X2, _, _, w', errSetI u.nm u.hs OW, ?_, I2, r1.idx (hI.hle k1) s2, setF_le, fun H0 h0 hb => m0 h0 hb k1 s2⟩
        rw [cnd_b, if_neg (by simp)]
        refine (jn_nrm (vs := [A, B, C, pt x, w', iv (errSetI u.nm u.hs OW), iv (errSetI u.nm u.hs OW), sl, vl, vj]) (H' := X2) ?_).trans rfl
        rw [cnd_b, if_neg (by simp)]
        refine (jn_nrm (vs := [A, B, C, pt x, w', iv (errSetI u.nm u.hs OW), iv (errSetI u.nm u.hs OW), sl, vl, vj]) (H' := X2) ?_).trans rfl
        rw [cnd_b, if_neg (by simp), bind_eq fa_z, bind_eq (la _ (.refl _)), bind_eq fa_z, bind_eq (lb _ (.refl _)), bind_eq e1, bind_eq extr_p0, bind_eq extr_p1, bind_eq fa_z, bind_eq (la _ k1), bind_eq fa_z, bind_eq (lb _ k1), bind_eq e2]
        rfl
      · obtain ⟨X1, x', o', a', e1, I1, k1, b1, b2, b3⟩ := r_mcopy (n := n + 8) hI
        have e1 : R (n + 10) n_mailIndexCopy [pt x] X = _ := e1
        obtain ⟨X2, e2, I2, s2⟩ := r_mset (n := n + 1) (k := u.nm) (m := u.hs) I1
        have e2 : R (n + 10) n_mailIndexSet [pt x', strv u.nm, strv u.hs] X1 = _ := e2
        obtain ⟨X3, e3, I3, s3⟩ := r_mdrop (n := n + 9) (k := [97, 110, 110]) I2
        have e3 : R (n + 10) n_mailIndexDrop [pt x', .string ⟨#[97, 110, 110]⟩] X2 = _ := e3
        have hb1 : ∀ j ∈ [o', a'], X.length ≤ j := by simpa using ⟨b2, b3⟩
        have k3 : HLe X X3 := ((k1.more s2 hb1).1.more s3 hb1).1
        refine ⟨X3, _, _, wv, 0, ?_, hI.hle k3, hw.mono k3, Nat.le_succ _, fun H0 h0 _ => h0.trans k3⟩
        rw [cnd_b, if_neg (by simp)]
        refine (jn_nrm (vs := [A, B, C, pt x, wv, iv 0, iv 0, sl, vl, vj]) (H' := X3) ?_).trans rfl
        rw [cnd_b, if_neg (by simp)]
        refine (jn_nrm (vs := [A, B, C, pt x, wv, iv 0, iv 0, sl, vl, vj]) (H' := X3) ?_).trans rfl
        rw [cnd_b, if_pos rfl, bind_eq e1, bind_eq fa_z, bind_eq (la _ k1), bind_eq fa_z, bind_eq (lb _ k1), bind_eq e2, bind_eq e3]
        rfl
    · obtain ⟨X1, w', e1, r1, k1⟩ := r_ren9 (n := n) (s := u.nm) (t := u.hs) hI.inv hn (by omega) hw
      obtain ⟨X2, e2, I2, s2⟩ := r_mren (n := n + 4) (old := u.nm) (next := u.hs) (hI.hle k1)
      have e2 : R (n + 10) n_mailIndexRename [pt x, strv u.nm, strv u.hs] X1 = _ := e2
      refine ⟨X2, _, _, w', errRenI u.nm u.hs OF, ?_, I2, r1.idx (hI.hle k1) s2, renF_few9, fun H0 h0 hb => m0 h0 hb k1 s2⟩
      rw [cnd_b, if_neg (by simp)]
      refine (jn_nrm (vs := [A, B, C, pt x, w', iv (errRenI u.nm u.hs OF), iv (errRenI u.nm u.hs OF), sl, vl, vj]) (H' := X2) ?_).trans rfl
      rw [cnd_b, if_pos rfl, bind_eq fa_z, bind_eq (la _ (.refl _)), bind_eq fa_z, bind_eq (lb _ (.refl _)), bind_eq e1, bind_eq extr_p0, bind_eq extr_p1, bind_eq fa_z, bind_eq (la _ k1), bind_eq fa_z, bind_eq (lb _ k1), bind_eq e2]
      rfl
  · obtain ⟨X1, e1, k1⟩ := r_of9 (n := n + 9) (k := u.nm) (by rw [sortM_len]; omega) hw.sl
    have e1 : R (n + 10) n_ref09Of [wv, strv u.nm] X = _ := e1
    rw [aget_sortM hn] at e1
    have q1 : bop .str .neq (strv ((aget u.nm OF).getD [])) (.string ⟨#[]⟩) X1 = some (.bool (aget u.nm OF).isSome, X1) := by
      refine (nes_v (b := [])).trans ?_
      cases h : aget u.nm OF with
      | none => rfl
      | some v =>
        have hv : v ≠ [] := (hI.inv.lens _ (aget_mem h)).2.2.1
        simpa using hv
    obtain ⟨X2, w', e2, r2, k2⟩ := r_put9 (n := n + 9) (k := u.nm) (m := []) (by rw [sortM_len]; omega) (hw.mono k1).sl
    have e2 : R (n + 10) n_ref09Put [wv, strv u.nm, .string ⟨#[]⟩] X1 = _ := e2
    rw [put9_drop hn] at r2
    have k12 := k1.trans k2
    obtain ⟨X3, e3, I3, s3⟩ := r_mdrop (n := n + 9) (k := u.nm) (hI.hle k12)
    have e3 : R (n + 10) n_mailIndexDrop [pt x, strv u.nm] X2 = _ := e3
    have q2 : bop .bool .neq (.bool (aget u.nm OF).isSome) (.bool (aget u.nm OF).isSome) X3 = some (.bool false, X3) := by simp [bop, eqv]
    refine ⟨X3, _, _, w', 0, ?_, I3, r2.idx (hI.hle k12) s3, by have := dropF_few (k := u.nm) (OF := OF); omega, fun H0 h0 hb => m0 h0 hb k12 s3⟩
    rw [cnd_b, if_pos rfl, bind_eq fa_z, bind_eq (la _ (.refl _)), bind_eq e1, bind_eq q1, bind_eq fa_z, bind_eq (la _ k1), bind_eq e2, bind_eq fa_z, bind_eq (la _ k12), bind_eq e3, bind_eq q2, cnd_b, if_neg (by simp)]
    rfl

/-- The acts, one by one. -/
theorem plays_do {x o a : Nat} {most : Int} (hm : most ≤ 9223372036854775807 ∧ -9223372036854775808 ≤ most) (hA : EActs H sl ac) (hn : ac.length ≤ 60) (hb : H.length ≤ o ∧ H.length ≤ a) : ∀ (r j : Nat) (OW OF : SMap) (wv : Value) (X : Heap), ac.length - j = r → j ≤ ac.length → HLe H X → Idx X x o a OW OF → Row9 X wv (sortM OF) → OF.length ≤ j →
    ∃ X', loopM (c8 (F_law09MailPlays.l1 (R (n + 10)))) [strv s, strv t, iv most, pt x, wv, sl, iv ac.length, iv j] X = some (.ext 0 [], X')
  | 0, j, OW, OF, wv, X, ht, hj, hle, hI, hw, hl => by
    refine ⟨X, loop_ext ?_⟩
    rw [c8_r, show j = ac.length by omega]
    unfold F_law09MailPlays.l1
    rw [bind_eq lss_r, cnd_b, if_neg (by simp)]
    rfl
  | r + 1, j, OW, OF, wv, X, ht, hj, hle, hI, hw, hl => by
    have hkl : j < ac.length := by omega
    have hlt : (j : Int) < ac.length := by omega
    have hja := List.getElem?_eq_getElem hkl
    generalize ac[j] = u at hja
    have g1 : (X ++ [AObj.cells u.cells 1 false false])[X.length]? = some (.cells u.cells 1 false false) := app_new
    have l0 : ld1 (pa X.length 0) (X ++ [.cells u.cells 1 false false]) = some (.int .u8 u.kd, X ++ [.cells u.cells 1 false false]) := ld1_at g1 rfl
    have hf := fun {K : Value → M Out} => (hA.mono hle).fetch (k := K) hja
    have k1 : HLe X (X ++ [AObj.cells u.cells 1 false false]) := .app _ _
    generalize X ++ [AObj.cells u.cells 1 false false] = X1 at g1 l0 k1 hf
    obtain ⟨X2, OW2, OF2, w2, E, e2, I2, r2, n2, m2⟩ := plays_act (n := n) (A := strv s) (B := strv t) (C := iv most) (sl := sl) (vl := iv ac.length) (vj := iv j) g1 (hI.hle k1) (by omega) (hw.mono k1) (((u.kd : Int).tmod 5) == 2) (((u.kd : Int).tmod 5) == 3) (((u.kd : Int).tmod 5) == 4)
    have hle2 := m2 H (hle.trans k1) hb
    obtain ⟨X3, e3, l3⟩ := plays_tell (n := n) (s := s) (t := t) (E := E) (j := j) I2 (by omega) r2 hm (by omega) (fun v183x129 =>
      cnd v183x129
      (ret (.ret (Value.bool false)))
      (bind (bop .int .add (iv j) (Value.int .i64 1)) fun v184x130 =>
      ret (.nrm [strv s, strv t, iv most, pt x, w2, sl, iv ac.length, v184x130])))
    obtain ⟨X4, e4⟩ := plays_do hm hA hn hb r (j + 1) OW2 OF2 w2 X3 (by omega) (by omega) (hle2.trans l3) (I2.hle l3) (r2.mono l3) (by omega)
    refine ⟨X4, (loop_next ?_).trans e4⟩
    rw [c8_r]
    unfold F_law09MailPlays.l1
    rw [bind_eq lss_r, cnd_b, if_pos (by simpa using hlt), hf, bind_eq fa_z, bind_eq l0, bind_eq (rem_r.trans (if_neg (by decide))), bind_eq eql_r]
    refine (jn_nrm (vs := [strv s, strv t, iv most, pt x, w2, iv E, iv E, sl, iv ac.length, iv j]) (H' := X2) ?_).trans ?_
    · have h4 : ∀ (c : Int) (K : Value → M Out), bind (bop .int .eql (.int .u8 ((u.kd : Int).tmod 5)) (.int .u8 c)) K = K (.bool (((u.kd : Int).tmod 5) == c)) := fun c K => funext fun Y => bind_eq eql_r
      rw [h4, h4]
      exact e2
    · rw [c10_r]
      refine e3.trans ?_
      rw [cnd_b, if_neg (by simp), bind_eq add_r, wsuc (by omega)]
      rfl

theorem plays_core {most : Int} (hm : most ≤ 9223372036854775807 ∧ -9223372036854775808 ≤ most) (hA : EActs H sl ac) (hn : ac.length ≤ 9223372036854775807) : ∃ H', R (n + 11) n_law09MailPlays [sl, strv s, strv t, iv most] H = some (.bool true, H') := by
  have f1 : ∀ r X', F_law09MailPlays (R (n + 10)) sl (strv s) (strv t) (iv most) H = some (r, X') → R (n + 11) n_law09MailPlays [sl, strv s, strv t, iv most] H = some (r, X') := fun r X' hr => by rw [R, run_law09MailPlays rfl]; exact hr
  obtain ⟨H1, e1, l1⟩ := r_mlives (n := n) (H := H)
  obtain ⟨H2, e2, l2⟩ := r_few (n := n + 9) (hA.mono l1) hn
  have e2 : R (n + 10) n_law09Few [sl] H1 = _ := e2
  obtain ⟨H2', e2', l2'⟩ := r_mlives (n := n) (H := H2)
  generalize hq : (ac.all fewA && decide (ac.length ≤ 60)) = fw at e2
  have q1 : (bind (lenT (strv s)) fun v25x7 => bind (bop .int .gtr v25x7 (Value.int .i64 50)) fun v26x8 => ret [strv s, v25x7, v26x8]) H2 = some ([strv s, iv s.length, .bool (decide ((s.length : Int) > 50))], H2) := by
    rw [bind_eq lenT_v, bind_eq gtr_r]; rfl
  have q2 : (bind (lenT (strv t)) fun v25x7 => bind (bop .int .gtr v25x7 (Value.int .i64 50)) fun v26x8 => ret [strv t, v25x7, v26x8]) H2 = some ([strv t, iv t.length, .bool (decide ((t.length : Int) > 50))], H2) := by
    rw [bind_eq lenT_v, bind_eq gtr_r]; rfl
  generalize hz : ((!fw || decide ((s.length : Int) > 50)) || decide ((t.length : Int) > 50)) = z
  have step : ∀ {k : Value → M Value}, bind (uop .not (.bool true)) (fun v17x2 =>
      bind (gate v17x2 false 3 (bind (R (n + 10) n_law09Few [sl]) fun v20x3 => bind (uop .not v20x3) fun v21x4 => ret [sl, v20x3, v21x4])) (c3 fun _ _ q5_2 =>
      bind (pick v17x2 (Value.bool true) q5_2) fun v22x6 =>
      bind (gate v22x6 false 3 (bind (lenT (strv s)) fun v25x7 => bind (bop .int .gtr v25x7 (Value.int .i64 50)) fun v26x8 => ret [strv s, v25x7, v26x8])) (c3 fun _ _ q9_2 =>
      bind (pick v22x6 (Value.bool true) q9_2) fun v27x10 =>
      bind (gate v27x10 false 3 (bind (lenT (strv t)) fun v30x11 => bind (bop .int .gtr v30x11 (Value.int .i64 50)) fun v31x12 => ret [strv t, v30x11, v31x12])) (c3 fun _ _ q13_2 =>
      bind (pick v27x10 (Value.bool true) q13_2) k)))) H1 = k (.bool z) H2 := fun {k} => by
    rw [bind_eq not_r]
    simp only [Bool.not_true]
    rw [b_g_in, b_assoc, bind_eq e2, b_assoc, bind_eq not_r, b_ret, c3_r, bind_eq pick_r]
    simp only [cond_false]
    rw [or3 q1, or3 q2, hz]
  cases z
  · have hfw : fw = true := by
      cases fw
      · simp at hz
      · rfl
    rw [hfw] at hq
    simp only [Bool.and_eq_true, decide_eq_true_eq] at hq
    obtain ⟨H3, x, o, a, e3, I3, l3, b1, b2, b3⟩ := r_mnew (n := n + 9) (X := H2)
    have e3 : R (n + 10) n_mailNew [] H2 = _ := e3
    have hA2 := hA.mono ((l1.trans l2).trans l3)
    obtain ⟨H4, e4⟩ := plays_do (n := n) (s := s) (t := t) hm (hA.mono (l1.trans l2)) hq.2 ⟨b2, b3⟩ ac.length 0 [] [] (.slice none 0 0) H3 (by omega) (by omega) l3 I3 ⟨[], by rw [List.eq_nil_of_length_eq_zero (l := sortM ([] : SMap)) (by rw [sortM_len]; rfl)]; exact RowN.nil⟩ (by simp)
    rw [show iv ((0 : Nat) : Int) = .int .i64 0 from rfl] at e4
    refine ⟨H4, f1 _ _ ?_⟩
    unfold F_law09MailPlays
    rw [bind_eq e1]
    refine step.trans ?_
    rw [cnd_b, if_neg (by simp), bind_eq e3, bind_eq hA2.len, jn_ext e4, xk_hit]
    rfl
  · refine ⟨H2', f1 _ _ ?_⟩
    unfold F_law09MailPlays
    rw [bind_eq e1]
    refine step.trans ?_
    rw [cnd_b, if_pos rfl, bind_eq e2']
    rfl

theorem wf_i64m {z : Int} (h : (Lit.int .i64 z).wf = true) : z ≤ 9223372036854775807 ∧ -9223372036854775808 ≤ z := by
  have : -9223372036854775808 ≤ z ∧ z ≤ 9223372036854775807 := by simpa [Lit.wf, IntKind.min, IntKind.max, IntKind.signed, IntKind.bits] using h
  exact ⟨this.2, this.1⟩

theorem law_MailPlays : ∀ (xs : Ins [.slc eldActT, .str, .str, .int .i64]) (H : Heap) (vs : List Value), InsWf [.slc eldActT, .str, .str, .int .i64] xs → InsRd [.slc eldActT, .str, .str, .int .i64] xs H vs → ∃ n H', R n n_law09MailPlays vs H = some (.bool true, H') := by
  intro xs H vs hwf hrd
  obtain ⟨l, s, t, m, _⟩ := xs
  obtain ⟨hl, _, _, hm, _⟩ := hwf
  obtain ⟨c1, _, rfl, hc1, h1, c2, _, rfl, hc2, h2, c3, _, rfl, hc3, h3, c4, _, rfl, hc4, h4, rfl⟩ := hrd
  obtain ⟨v, rfl⟩ : ∃ v, c1 = [v] := by
    match c1, hc1 with
    | [v], _ => exact ⟨v, rfl⟩
  have h2 : c2 = [.string s] := h2
  have h3 : c3 = [.string t] := h3
  have h4 : c4 = [.int .i64 m] := h4
  subst h2
  subst h3
  subst h4
  obtain ⟨ac, hA, hn⟩ := rd_eldActs hl h1
  have hs : Value.string s = strv (ByteArray.data s).toList := strv_of s
  have ht : Value.string t = strv (ByteArray.data t).toList := strv_of t
  obtain ⟨H', e⟩ := plays_core (n := 0) (s := (ByteArray.data s).toList) (t := (ByteArray.data t).toList) (wf_i64m hm) hA hn
  refine ⟨11, H', ?_⟩
  rw [← hs, ← ht] at e
  exact e

end

end Go.Proofs.YtmacmlpiheimhaaDoor.A
