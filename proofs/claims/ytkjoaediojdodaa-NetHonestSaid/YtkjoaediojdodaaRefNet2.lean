/- The document's net: taking, doubling. -/
import Derived.Test.YtkjoaediojdodaaRefNet
namespace Go.Proofs.Ytkjoaediojdodaa.A
set_option linter.unusedVariables false
set_option linter.unusedSimpArgs false
open Go.Proofs Go.Proofs.Ytkjoaediojdodaa

/-- The result's variable takes what the other one holds. -/
theorem fin1 {H : Heap} {i1 i2 : Nat} {sl z : Value} {lost l0 : Int} (g1 : H[i1]? = some (.cells [sl, iv lost] 1 false false)) (g2 : H[i2]? = some (.cells [z, iv l0] 1 false false)) (hne : i1 ≠ i2) (hoc : oneCell sl = true) :
    ldA 2 (pt i1) H = some (.agg #[sl, iv lost], H) ∧ stA 2 (pt i2) (.agg #[sl, iv lost]) H = some (undef, H.set i2 (.cells [sl, iv lost] 1 false false)) ∧
      ldA 2 (pt i2) (H.set i2 (.cells [sl, iv lost] 1 false false)) = some (.agg #[sl, iv lost], H.set i2 (.cells [sl, iv lost] 1 false false)) :=
  ⟨ld_all g1 rfl, st_all (vs := [sl, iv lost]) g2 rfl rfl (all2 hoc), ld_all (set_get g2) rfl⟩

/-- A slice is stored, and all is handed to the result's variable. -/
theorem fin2 {H : Heap} {i1 i2 : Nat} {sl sl2 z : Value} {lost l0 : Int} (g1 : H[i1]? = some (.cells [sl, iv lost] 1 false false)) (g2 : H[i2]? = some (.cells [z, iv l0] 1 false false)) (hne : i1 ≠ i2) (hoc : oneCell sl2 = true) :
    ∃ Ha Hb, st1 (pa i1 0) sl2 H = some (undef, Ha) ∧ Ha[i1]? = some (.cells [sl2, iv lost] 1 false false) ∧ ldA 2 (pt i1) Ha = some (.agg #[sl2, iv lost], Ha) ∧ stA 2 (pt i2) (.agg #[sl2, iv lost]) Ha = some (undef, Hb) ∧ ldA 2 (pt i2) Hb = some (.agg #[sl2, iv lost], Hb) ∧
      (∀ j, j ≠ i1 → Ha[j]? = H[j]?) ∧ (∀ j, j ≠ i1 → j ≠ i2 → Hb[j]? = H[j]?) := by
  have w1 : st1 (pa i1 0) sl2 H = some (undef, H.set i1 (.cells [sl2, iv lost] 1 false false)) := st1_at g1 (by simp) hoc
  have g3 : (H.set i1 (.cells [sl2, iv lost] 1 false false))[i1]? = some (.cells [sl2, iv lost] 1 false false) := set_get g1
  have g4 : (H.set i1 (.cells [sl2, iv lost] 1 false false))[i2]? = some (.cells [z, iv l0] 1 false false) := by rw [set_get_ne hne]; exact g2
  obtain ⟨w2, w3, w4⟩ := fin1 g3 g4 hne hoc
  refine ⟨_, _, w1, g3, w2, w3, w4, fun j h1 => set_get_ne (Ne.symm h1), fun j h1 h2 => ?_⟩
  rw [set_get_ne (Ne.symm h2), set_get_ne (Ne.symm h1)]

/-- A part of a row, from its beginning. -/
theorem RowS.cut1 {H : Heap} {sl : Value} {vs : List Value} {own : List Nat} (h : RowS H sl vs own) {k : Nat} (hk : k < vs.length) :
    ∃ a, (∀ H', (∀ j ∈ own, H'[j]? = H[j]?) → slv 1 sl none (some (iv k)) none H' = some (a, H')) ∧ ∀ H', (∀ j ∈ own, H'[j]? = H[j]?) → Sl H' a (vs.take k) := by
  rcases h with ⟨rfl, rfl, rfl⟩ | ⟨sid, rest, g, rfl, rfl, hid⟩
  · simp at hk
  · refine ⟨.slice (some ⟨sid, 0, none⟩) k (vs.length + rest.length), fun H' hH => ?_, fun H' hH => ?_⟩
    · have hid' : H'[sid]? = some (.cells (vs ++ rest) 1 g false) := by rw [hH sid (by simp)]; exact hid
      have a2 := slv_row (es := 1) (o := 0) (n := vs.length) (c := vs.length + rest.length) (lo := none) (hi := some (iv k)) (mx := none) hid' rfl bnd_nat rfl (by omega) (by omega) (by omega) (by omega)
      rw [a2]; simp
    · have hid' : H'[sid]? = some (.cells (vs ++ rest) 1 g false) := by rw [hH sid (by simp)]; exact hid
      have hl : (vs.take k).length = k := by simp; omega
      refine ⟨some ⟨sid, 0, none⟩, vs.length + rest.length, by rw [hl], (fun e => by cases e), ?_⟩
      simp only [fcells, hid']
      rw [if_pos (by simp; omega), List.drop_zero, Nat.mul_one, List.take_append_of_le_length (by omega)]

/-- A part of a row, to its end. -/
theorem RowS.cut2 {H : Heap} {sl : Value} {vs : List Value} {own : List Nat} (h : RowS H sl vs own) {k : Nat} (hk : k < vs.length) :
    ∃ a, (∀ H', (∀ j ∈ own, H'[j]? = H[j]?) → slv 1 sl (some (iv ((k + 1 : Nat) : Int))) none none H' = some (a, H')) ∧ ∀ H', (∀ j ∈ own, H'[j]? = H[j]?) → Sl H' a (vs.drop (k + 1)) := by
  rcases h with ⟨rfl, rfl, rfl⟩ | ⟨sid, rest, g, rfl, rfl, hid⟩
  · simp at hk
  · by_cases hkc : k + 1 = vs.length + rest.length
    · refine ⟨.slice (some ⟨sid, 0, some (bif g then 1 else 0)⟩) 0 0, fun H' hH => ?_, fun H' hH => ?_⟩
      · have hid' : H'[sid]? = some (.cells (vs ++ rest) 1 g false) := by rw [hH sid (by simp)]; exact hid
        have hb : bnd none (vs.length + rest.length) = some (vs.length + rest.length) := rfl
        have hb2 : bnd none vs.length = some vs.length := rfl
        simp only [slv, hid', bnd_nat, hb, hb2]
        rw [if_pos ⟨trivial, by omega, by omega, Nat.le_refl _⟩, if_pos hkc.symm]
      · rw [List.drop_eq_nil_of_le (by omega)]
        exact ⟨_, _, rfl, (fun e => by cases e), rfl⟩
    · refine ⟨.slice (some ⟨sid, k + 1, none⟩) (vs.length - (k + 1)) (vs.length + rest.length - (k + 1)), fun H' hH => ?_, fun H' hH => ?_⟩
      · have hid' : H'[sid]? = some (.cells (vs ++ rest) 1 g false) := by rw [hH sid (by simp)]; exact hid
        have a2 := slv_row (es := 1) (o := 0) (n := vs.length) (c := vs.length + rest.length) (lo := some (iv ((k + 1 : Nat) : Int))) (hi := none) (mx := none) hid' bnd_nat rfl rfl (by omega) (by omega) (by omega) (by omega)
        rw [a2]; simp
      · have hid' : H'[sid]? = some (.cells (vs ++ rest) 1 g false) := by rw [hH sid (by simp)]; exact hid
        have hl : (vs.drop (k + 1)).length = vs.length - (k + 1) := by simp
        refine ⟨some ⟨sid, k + 1, none⟩, _, by rw [hl], (fun e => by cases e), ?_⟩
        simp only [fcells, hid']
        rw [if_pos (by simp; omega)]
        rw [List.drop_append_of_le_length (by omega), Nat.mul_one, List.take_append_of_le_length (by simp), List.take_of_length_le (by simp)]

section
variable {H H' : Heap} {n : Nat} {ps : List (List UInt8)} {lost : Int} {sl : Value} {own : List Nat}

theorem r_refTakeNone (h : RowS H sl (([] : List (List UInt8)).map strv) own) {i : Int} (hi : 0 ≤ i ∧ i ≤ 18446744073709551615) :
    ∃ H', R (n + 2) n_ref30Take [.agg #[sl, iv lost], .int .u64 i] H = some (.tuple #[.agg #[sl, iv lost], .string ⟨#[]⟩, .bool false], H') ∧ HLe H H' := by
  have hoc := h.oneCell.1
  have k1 := HLe.app H [.cells [sl, iv lost] 1 false false]
  have g1 : (H ++ [AObj.cells [sl, iv lost] 1 false false])[H.length]? = some (.cells [sl, iv lost] 1 false false) := app_new
  have hlen1 : (H ++ [AObj.cells [sl, iv lost] 1 false false]).length = H.length + 1 := by simp
  have a1 := (two_vars h lost).1
  have a2 := (two_vars h lost).2 (H ++ [.cells [sl, iv lost] 1 false false])
  generalize H ++ [AObj.cells [sl, iv lost] 1 false false] = H1 at *
  have k2 := HLe.app H1 [.cells [.slice none 0 0, iv 0] 1 false false]
  have g2 : (H1 ++ [AObj.cells [.slice none 0 0, iv 0] 1 false false])[H1.length]? = some (.cells [.slice none 0 0, iv 0] 1 false false) := app_new
  generalize H1 ++ [AObj.cells [.slice none 0 0, iv 0] 1 false false] = H2 at *
  have k12 := k1.trans k2
  obtain ⟨H3, a3, k3⟩ := r_refAt (n := n) (lost := lost) (h.step k12.step (by simp)) hi (by simp)
  obtain ⟨w2, w3, w4⟩ := fin1 (k3 _ _ (k2 _ _ g1)) (k3 _ _ g2) (show H.length ≠ H1.length by omega) hoc
  refine ⟨H3.set H1.length (.cells [sl, iv lost] 1 false false), ?_, fun j o hj => ?_⟩
  · rw [R, run_ref30Take rfl]
    unfold F_ref30Take
    have hp : plc [] i = -1 := rfl
    rw [hp] at a3
    rw [bind_eq a1, bind_eq a2, bind_eq (ld_all (n := 2) (k2 _ _ g1) rfl), bind_eq a3, bind_eq lss_r]
    rw [show decide ((-1 : Int) < 0) = true from rfl, c_true, bind_eq w2, bind_eq w3, bind_eq w4]
    rfl
  · have := get_lt hj
    rw [set_get_ne (by omega)]
    exact k3 _ _ (k12 _ _ hj)

theorem r_refTake (h : RowS H sl (ps.map strv) own) {i : Int} (hi : 0 ≤ i ∧ i ≤ 18446744073709551615) (hl : ps.length ≤ 1000) {k : Nat} {p : List UInt8} (hk : plc ps i = k) (hp : ps[k]? = some p) :
    ∃ sl' H' own', R (n + 2) n_ref30Take [.agg #[sl, iv lost], .int .u64 i] H = some (.tuple #[.agg #[sl', iv lost], strv p, .bool true], H') ∧ RowS H' sl' ((ps.eraseIdx k).map strv) own' ∧ HLe H H' ∧ ∀ j ∈ own', H.length ≤ j := by
  have hkl : k < ps.length := (List.getElem?_eq_some_iff.1 hp).1
  have hoc := h.oneCell.1
  have hownlt := h.lt
  have k1 := HLe.app H [.cells [sl, iv lost] 1 false false]
  have g1 : (H ++ [AObj.cells [sl, iv lost] 1 false false])[H.length]? = some (.cells [sl, iv lost] 1 false false) := app_new
  have hlen1 : (H ++ [AObj.cells [sl, iv lost] 1 false false]).length = H.length + 1 := by simp
  have a1 := (two_vars h lost).1
  have a2 := (two_vars h lost).2 (H ++ [.cells [sl, iv lost] 1 false false])
  generalize H ++ [AObj.cells [sl, iv lost] 1 false false] = H1 at *
  have k2 := HLe.app H1 [.cells [.slice none 0 0, iv 0] 1 false false]
  have g2 : (H1 ++ [AObj.cells [.slice none 0 0, iv 0] 1 false false])[H1.length]? = some (.cells [.slice none 0 0, iv 0] 1 false false) := app_new
  have hlen2 : (H1 ++ [AObj.cells [.slice none 0 0, iv 0] 1 false false]).length = H1.length + 1 := by simp
  generalize H1 ++ [AObj.cells [.slice none 0 0, iv 0] 1 false false] = H2 at *
  have k12 := k1.trans k2
  obtain ⟨H3, a3, k3⟩ := r_refAt (n := n) (lost := lost) (h.step k12.step (by simp)) hi hl
  rw [hk] at a3
  have k13 := k12.trans k3
  have g1' := k3 _ _ (k2 _ _ g1)
  have g2' := k3 _ _ g2
  have hlen3 := k3.len
  -- what is read
  have hv : (ps.map strv)[k]? = some (strv p) := by simp [hp]
  have hkv : k < (ps.map strv).length := by simpa using hkl
  have keep : ∀ {X : Heap}, HLe H X → ∀ j ∈ own, X[j]? = H[j]? := fun {X} hX j hj => by
    have hl := hownlt j hj
    rw [List.getElem?_eq_getElem hl]; exact hX _ _ (List.getElem?_eq_getElem hl)
  obtain ⟨aid, o, cs, es, g, ro, f1, f2, f3, f4⟩ := (h.rd.mono k13).at hv .i64
  obtain ⟨c1, c1a, c1b⟩ := h.cut1 hkv
  obtain ⟨c2, c2a, c2b⟩ := h.cut2 hkv
  have hw : IntKind.i64.wrap ((k : Int) + 1) = ((k + 1 : Nat) : Int) := by rw [w64 (by omega) (by omega)]; simp
  -- a new row
  have k4 := HLe.app H3 [.cells [] 1 false false]
  have a4 : bsl 1 0 (.string ⟨#[]⟩) [] H3 = some (.slice (some ⟨H3.length, 0, none⟩) 0 0, H3 ++ [.cells [] 1 false false]) := bsl0
  have g4 : (H3 ++ [AObj.cells [] 1 false false])[H3.length]? = some (.cells [] 1 false false) := app_new
  have hlen4 : (H3 ++ [AObj.cells [] 1 false false]).length = H3.length + 1 := by simp
  generalize H3 ++ [AObj.cells [] 1 false false] = H4 at *
  have k14 := k13.trans k4
  obtain ⟨sl1, H5, o5, a5, r5, k5, ho5⟩ := row_of (b := 16) (c1b H4 (keep k14)) (by simp; omega) (by simp; omega) (s := .slice (some ⟨H3.length, 0, none⟩) 0 0) (.inr ⟨H3.length, false, rfl, g4, rfl⟩)
  have ho5' : ∀ j ∈ o5, H3.length ≤ j := fun j hj => by
    rcases ho5 j hj with h | ⟨_, h⟩
    · omega
    · cases h; exact Nat.le_refl _
  have k15 := k14.trans k5
  obtain ⟨sl2, H6, o6, a6, r6, st6⟩ := r5.app (b := 16) (c2b H5 (keep k15)) (by simp; omega) (by simp; omega)
  obtain ⟨k36, ho6⟩ := (k4.trans k5).more st6 ho5'
  obtain ⟨Ha, Hb, w1, _, w2, w3, w4, _, hb⟩ := fin2 (k36 _ _ g1') (k36 _ _ g2') (show H.length ≠ H1.length by omega) r6.oneCell.1
  have hres : (ps.map strv).take k ++ (ps.map strv).drop (k + 1) = (ps.eraseIdx k).map strv := by
    rw [eraseIdx_split, List.map_append, List.map_take, List.map_drop]
  rw [hres] at r6
  refine ⟨sl2, Hb, o6, ?_, r6.keep fun j hj => ?_, fun j o hj => ?_, fun j hj => by have := ho6 j hj; omega⟩
  · rw [R, run_ref30Take rfl]
    unfold F_ref30Take
    have hkk : ¬ ((k : Int) < 0) := by omega
    have l3 : ld1 (pa H.length 0) H3 = some (sl, H3) := ld1_at g1' rfl
    have l4 : ld1 (pa H.length 0) H4 = some (sl, H4) := ld1_at (k4 _ _ g1') rfl
    have l5 : ld1 (pa H.length 0) H5 = some (sl, H5) := ld1_at (k5 _ _ (k4 _ _ g1')) rfl
    have l3' : ld1 (pa aid o) H3 = some (strv p, H3) := ld1_at f2 f3
    rw [bind_eq a1, bind_eq a2, bind_eq (ld_all (n := 2) (k2 _ _ g1) rfl), bind_eq a3, bind_eq lss_r, decide_eq_false hkk, c_false, bind_eq fa_z, bind_eq l3, bind_eq (f1 _), bind_eq l3', bind_eq fa_z, bind_eq l3, bind_eq (c1a H3 (keep k13)), bind_eq fa_z, bind_eq l3,
      bind_eq add_r, hw, bind_eq (c2a H3 (keep k13)), bind_eq a4, bind_eq (c2a H4 (keep k14)), same_self, bind_eq l4, same_self, bind_eq (c1a H4 (keep k14)), same_self, bind_eq l4, same_self, bind_eq a5, bind_eq (c2a H5 (keep k15)), same_self, bind_eq l5, same_self,
      bind_eq a6, bind_eq fa_z, bind_eq w1, bind_eq w2, bind_eq w3, bind_eq w4]
    rfl
  · have := ho6 j hj
    rw [hb j (by omega) (by omega)]
  · have := get_lt hj
    rw [hb j (by omega) (by omega)]
    exact k36 _ _ (k13 _ _ hj)

theorem r_refDoubleNone (h : RowS H sl (ps.map strv) own) {i : Int} (hi : 0 ≤ i ∧ i ≤ 18446744073709551615) (hl : ps.length = 0 ∨ 128 ≤ ps.length ∧ ps.length ≤ 1000) :
    ∃ H', R (n + 2) n_ref30Double [.agg #[sl, iv lost], .int .u64 i] H = some (.tuple #[.agg #[sl, iv lost], .bool false], H') ∧ HLe H H' := by
  have hoc := h.oneCell.1
  have e0 := fun H' => h.rd.len (H' := H')
  rw [List.length_map] at e0
  have k1 := HLe.app H [.cells [sl, iv lost] 1 false false]
  have g1 : (H ++ [AObj.cells [sl, iv lost] 1 false false])[H.length]? = some (.cells [sl, iv lost] 1 false false) := app_new
  have hlen1 : (H ++ [AObj.cells [sl, iv lost] 1 false false]).length = H.length + 1 := by simp
  have a1 := (two_vars h lost).1
  have a2 := (two_vars h lost).2 (H ++ [.cells [sl, iv lost] 1 false false])
  generalize H ++ [AObj.cells [sl, iv lost] 1 false false] = H1 at *
  have k2 := HLe.app H1 [.cells [.slice none 0 0, iv 0] 1 false false]
  have g2 : (H1 ++ [AObj.cells [.slice none 0 0, iv 0] 1 false false])[H1.length]? = some (.cells [.slice none 0 0, iv 0] 1 false false) := app_new
  generalize H1 ++ [AObj.cells [.slice none 0 0, iv 0] 1 false false] = H2 at *
  have k12 := k1.trans k2
  obtain ⟨H3, a3, k3⟩ := r_refAt (n := n) (lost := lost) (h.step k12.step (by simp)) hi (by omega)
  obtain ⟨w2, w3, w4⟩ := fin1 (k3 _ _ (k2 _ _ g1)) (k3 _ _ g2) (show H.length ≠ H1.length by omega) hoc
  have l3 : ld1 (pa H.length 0) H3 = some (sl, H3) := ld1_at (k3 _ _ (k2 _ _ g1)) rfl
  refine ⟨H3.set H1.length (.cells [sl, iv lost] 1 false false), ?_, fun j o hj => ?_⟩
  · rw [R, run_ref30Double rfl]
    unfold F_ref30Double
    rw [bind_eq a1, bind_eq a2, bind_eq (ld_all (n := 2) (k2 _ _ g1) rfl), bind_eq a3, bind_eq lss_r]
    rcases hl with h0 | ⟨h0, h01⟩
    · have hp : plc ps i = -1 := by unfold plc; rw [if_pos h0]
      rw [hp, show decide ((-1 : Int) < 0) = true from rfl]
      have hb1 : (gate (Value.bool true) false 4 (bind (fa 0 (pt H.length)) fun v13x6 => bind (ld1 v13x6) fun v14x7 => bind (lenS v14x7) fun v15x8 => bind (bop .int .geq v15x8 (Value.int .i64 128)) fun v16x9 => ret [v13x6, v14x7, v15x8, v16x9])) H3 = some (List.replicate 4 notW, H3) := by
        rw [g_r, if_neg (by decide)]
      rw [bind_eq hb1, bind_eq pick_r, cond_true, c_true, bind_eq w2, bind_eq w3, bind_eq w4]
      rfl
    · obtain ⟨k, hk, hkl⟩ := plc_ok (ps := ps) hi.1 (by omega)
      have hkk : ¬ ((k : Int) < 0) := by omega
      have hge : (ps.length : Int) ≥ 128 := by omega
      rw [hk, decide_eq_false hkk]
      have hb1 : (gate (Value.bool false) false 4 (bind (fa 0 (pt H.length)) fun v13x6 => bind (ld1 v13x6) fun v14x7 => bind (lenS v14x7) fun v15x8 => bind (bop .int .geq v15x8 (Value.int .i64 128)) fun v16x9 => ret [v13x6, v14x7, v15x8, v16x9])) H3 = some ([pa H.length 0, sl, iv ps.length, .bool true], H3) := by
        rw [g_r, if_pos rfl, bind_eq fa_z, bind_eq l3, bind_eq (e0 _), bind_eq geq_r, decide_eq_true hge]; rfl
      rw [bind_eq hb1, bind_eq pick_r]
      simp only [cond_false, List.tail_cons, List.headD_cons]
      rw [c_true, bind_eq w2, bind_eq w3, bind_eq w4]
      rfl
  · have := get_lt hj
    rw [set_get_ne (by omega)]
    exact k3 _ _ (k12 _ _ hj)

theorem r_refDouble (h : RowS H sl (ps.map strv) own) {i : Int} (hi : 0 ≤ i ∧ i ≤ 18446744073709551615) (hl : ps.length < 128) {k : Nat} {p : List UInt8} (hk : plc ps i = k) (hp : ps[k]? = some p) :
    ∃ sl' H' own', R (n + 2) n_ref30Double [.agg #[sl, iv lost], .int .u64 i] H = some (.tuple #[.agg #[sl', iv lost], .bool true], H') ∧ RowS H' sl' ((ps ++ [p]).map strv) own' ∧ HLe H H' ∧ ∀ j ∈ own', H.length ≤ j := by
  have hkl : k < ps.length := (List.getElem?_eq_some_iff.1 hp).1
  have hoc := h.oneCell.1
  have e0 := fun H' => h.rd.len (H' := H')
  rw [List.length_map] at e0
  have k1 := HLe.app H [.cells [sl, iv lost] 1 false false]
  have g1 : (H ++ [AObj.cells [sl, iv lost] 1 false false])[H.length]? = some (.cells [sl, iv lost] 1 false false) := app_new
  have hlen1 : (H ++ [AObj.cells [sl, iv lost] 1 false false]).length = H.length + 1 := by simp
  have a1 := (two_vars h lost).1
  have a2 := (two_vars h lost).2 (H ++ [.cells [sl, iv lost] 1 false false])
  generalize H ++ [AObj.cells [sl, iv lost] 1 false false] = H1 at *
  have k2 := HLe.app H1 [.cells [.slice none 0 0, iv 0] 1 false false]
  have g2 : (H1 ++ [AObj.cells [.slice none 0 0, iv 0] 1 false false])[H1.length]? = some (.cells [.slice none 0 0, iv 0] 1 false false) := app_new
  have hlen2 : (H1 ++ [AObj.cells [.slice none 0 0, iv 0] 1 false false]).length = H1.length + 1 := by simp
  generalize H1 ++ [AObj.cells [.slice none 0 0, iv 0] 1 false false] = H2 at *
  have k12 := k1.trans k2
  obtain ⟨H3, a3, k3⟩ := r_refAt (n := n) (lost := lost) (h.step k12.step (by simp)) hi (by omega)
  rw [hk] at a3
  have k13 := k12.trans k3
  have hlen3 := k3.len
  have g1' := k3 _ _ (k2 _ _ g1)
  have g2' := k3 _ _ g2
  have hv : (ps.map strv)[k]? = some (strv p) := by simp [hp]
  obtain ⟨aid, o, cs, es, g, ro, f1, f2, f3, f4⟩ := (h.rd.mono k13).at hv .i64
  obtain ⟨sl', H4, o4, a4, r4, k4, ho4⟩ := r_refPut (n := n) (lost := lost) (p := p) (h.step k13.step (by simp)) hl
  have w3 : stA 2 (pt H1.length) (.agg #[sl', iv lost]) H4 = some (undef, H4.set H1.length (.cells [sl', iv lost] 1 false false)) := st_all (vs := [sl', iv lost]) (k4 _ _ g2') rfl rfl (all2 r4.oneCell.1)
  have w4 : ldA 2 (pt H1.length) (H4.set H1.length (.cells [sl', iv lost] 1 false false)) = some (.agg #[sl', iv lost], H4.set H1.length (.cells [sl', iv lost] 1 false false)) := ld_all (set_get (k4 _ _ g2')) rfl
  refine ⟨sl', H4.set H1.length (.cells [sl', iv lost] 1 false false), o4, ?_, r4.keep fun j hj => ?_, fun j o hj => ?_, fun j hj => by have := ho4 j hj; omega⟩
  · rw [R, run_ref30Double rfl]
    unfold F_ref30Double
    have hkk : ¬ ((k : Int) < 0) := by omega
    have hge : ¬ (ps.length : Int) ≥ 128 := by omega
    have l3 : ld1 (pa H.length 0) H3 = some (sl, H3) := ld1_at g1' rfl
    have l3' : ld1 (pa aid o) H3 = some (strv p, H3) := ld1_at f2 f3
    rw [bind_eq a1, bind_eq a2, bind_eq (ld_all (n := 2) (k2 _ _ g1) rfl), bind_eq a3, bind_eq lss_r, decide_eq_false hkk]
    have hb1 : (gate (Value.bool false) false 4 (bind (fa 0 (pt H.length)) fun v13x6 => bind (ld1 v13x6) fun v14x7 => bind (lenS v14x7) fun v15x8 => bind (bop .int .geq v15x8 (Value.int .i64 128)) fun v16x9 => ret [v13x6, v14x7, v15x8, v16x9])) H3 = some ([pa H.length 0, sl, iv ps.length, .bool false], H3) := by
      rw [g_r, if_pos rfl, bind_eq fa_z, bind_eq l3, bind_eq (e0 _), bind_eq geq_r, decide_eq_false hge]; rfl
    rw [bind_eq hb1, bind_eq pick_r]
    simp only [cond_false, List.tail_cons, List.headD_cons]
    rw [c_false, bind_eq (ld_all (n := 2) g1' rfl), bind_eq fa_z, bind_eq l3, bind_eq (f1 _), bind_eq l3', bind_eq a4, bind_eq extr_p0, bind_eq extr_p1, bind_eq w3, bind_eq w4]
    rfl
  · have := ho4 j hj
    rw [set_get_ne (by omega)]
  · have := get_lt hj
    rw [set_get_ne (by omega)]
    exact k4 _ _ (k13 _ _ hj)

end
end Go.Proofs.Ytkjoaediojdodaa.A
