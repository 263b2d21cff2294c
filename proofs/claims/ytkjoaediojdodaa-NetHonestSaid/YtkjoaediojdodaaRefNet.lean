/- The document's net: what its functions do. -/
import Derived.Test.YtkjoaediojdodaaNetOps2
import Derived.Test.YtkjoaediojdodaaNetOrder
namespace Go.Proofs.Ytkjoaediojdodaa.A
set_option linter.unusedVariables false
set_option linter.unusedSimpArgs false
open Go.Proofs Go.Proofs.Ytkjoaediojdodaa

abbrev strv (p : List UInt8) : Value := .string ⟨p.toArray⟩

theorem all2 {a : Value} {n : Int} (h : oneCell a = true) : ([a, iv n] : List Value).all oneCell = true := by rw [List.all_cons, h]; rfl

/-- Elements are appended to a row. -/
theorem RowS.app {H : Heap} {sl : Value} {vs : List Value} {own : List Nat} {b : Nat} (h : RowS H sl vs own) {x : Value} {ws : List Value} (hx : Sl H x ws) (hb : (vs.length + ws.length) * b ≤ 140737488355328) (hb0 : vs.length + ws.length ≤ 140737488355328) :
    ∃ sl' H' own', A.app 1 b sl x H = some (sl', H') ∧ RowS H' sl' (vs ++ ws) own' ∧ Step own H own' H' := by
  have hf := hx.fc
  have hn := hx.flen
  by_cases hws : ws = []
  · subst hws
    refine ⟨sl, H, own, ?_, by rw [List.append_nil]; exact h, .refl _ _⟩
    rcases h with ⟨rfl, rfl, rfl⟩ | ⟨sid, rest, g, rfl, rfl, hid⟩
    · unfold A.app; rw [hf]; simp [hn]
    · unfold A.app; rw [hf]; simp [hn, hid]
  · have hpos : 0 < ws.length := List.length_pos_iff.2 hws
    rcases h with ⟨rfl, rfl, rfl⟩ | ⟨sid, rest, g, rfl, rfl, hid⟩
    · refine ⟨_, H ++ [.cells ws 1 true false], [H.length], ?_, .inr ⟨H.length, [], true, rfl, rfl, by simp⟩, ⟨by simp, fun j hj _ => List.getElem?_append_left hj, by simp⟩⟩
      unfold A.app
      rw [hf]
      simp only [hn]
      rw [if_neg (by omega), if_pos ⟨by simpa using hb0, by simpa using hb⟩]
      simp
    · have hlt := get_lt hid
      by_cases hc : ws.length ≤ rest.length
      · refine ⟨_, H.set sid (.cells (vs ++ ws ++ rest.drop ws.length) 1 g false), [sid], ?_, .inr ⟨sid, rest.drop ws.length, g, rfl, rfl, set_get hid⟩, ⟨by simp, fun j hj hn => List.getElem?_set_ne (fun e => hn (by simp [e])), by simp⟩⟩
        unfold A.app
        rw [hf]
        simp only [hn, hid, if_true]
        rw [if_pos (by omega), if_neg (by omega), if_pos (by simp; omega)]
        simp only [Nat.mul_one, Nat.zero_add]
        rw [show splice (vs ++ rest) ws vs.length = vs ++ ws ++ rest.drop ws.length from by unfold splice; simp [List.drop_append]]
        congr 2
        simp; omega
      · have happ : A.app 1 b (.slice (some ⟨sid, 0, none⟩) vs.length (vs.length + rest.length)) x H = some (.slice (some ⟨H.length, 0, none⟩) (vs.length + ws.length) (vs.length + ws.length), (bif g then H.set sid .dead else H) ++ [.cells (vs ++ ws) 1 true false]) := by
          unfold A.app
          rw [hf]
          simp only [hn, hid, if_true]
          rw [if_neg (by omega), if_pos (by simp; omega)]
          simp
        refine ⟨_, _, [H.length], happ, .inr ⟨H.length, [], true, by simp, rfl, ?_⟩, ⟨?_, fun j hj hn => ?_, by simp⟩⟩
        · rw [List.getElem?_append_right (by cases g <;> simp)]
          cases g <;> simp
        · cases g <;> simp
        · rw [List.getElem?_append_left (by cases g <;> simpa using hj)]
          cases g
          · rfl
          · exact List.getElem?_set_ne (fun e => hn (by simp [e]))

section
variable {H H' : Heap} {n : Nat} {ps : List (List UInt8)} {lost : Int} {sl : Value} {own : List Nat}

/-- The two variables that each of these functions has. -/
theorem two_vars (h : RowS H sl (ps.map strv) own) (lost : Int) :
    alc 1 (.agg #[sl, iv lost]) H = some (pt H.length, H ++ [.cells [sl, iv lost] 1 false false]) ∧ (∀ H, alc 1 (.agg #[.slice none 0 0, .int .i64 0]) H = some (pt H.length, H ++ [.cells [.slice none 0 0, iv 0] 1 false false])) :=
  ⟨alc_all (all2 h.oneCell.1), fun H => alc_all rfl⟩

theorem r_refAt (h : RowS H sl (ps.map strv) own) {i : Int} (hi : 0 ≤ i ∧ i ≤ 18446744073709551615) (hl : ps.length ≤ 1000) : ∃ H', R (n + 1) n_ref30At [.agg #[sl, iv lost], .int .u64 i] H = some (iv (plc ps i), H') ∧ HLe H H' := by
  have e0 := fun H' => h.rd.len (H' := H')
  rw [List.length_map] at e0
  refine ⟨H ++ [.cells [sl, iv lost] 1 false false], ?_, .app _ _⟩
  rw [R, run_ref30At rfl]
  unfold F_ref30At
  have g1 : (H ++ [AObj.cells [sl, iv lost] 1 false false])[H.length]? = some (.cells [sl, iv lost] 1 false false) := app_new
  rw [bind_eq (two_vars h lost).1, bind_eq fa_z, bind_eq (ld1_at g1 rfl), bind_eq (e0 _), bind_eq eql_r]
  unfold plc
  by_cases h0 : ps.length = 0
  · rw [if_pos h0, h0]; rfl
  · have h0' : ¬ ((ps.length : Int) = 0) := by omega
    have w1 : IntKind.u64.wrap (ps.length : Int) = ps.length := by rw [wu64]; omega
    have m1 : i.tmod (ps.length : Int) = i % ps.length := Int.tmod_eq_emod_of_nonneg hi.1
    have hm := Int.emod_lt_of_pos i (show (0 : Int) < ps.length by omega)
    have hm0 := Int.emod_nonneg i h0'
    have w2 : IntKind.i64.wrap (i % (ps.length : Int)) = i % ps.length := w64 (by omega) (by omega)
    have hb : ((ps.length : Int) == 0) = false := by simpa using h0'
    rw [if_neg h0, hb, c_false, bind_eq fa_z, bind_eq (ld1_at g1 rfl), bind_eq (e0 _), bind_eq cvi_r, w1, bind_eq (rem_r.trans (if_neg h0')), m1, bind_eq cvi_r, w2]
    rfl

theorem r_refPut (h : RowS H sl (ps.map strv) own) (hl : ps.length < 128) {p : List UInt8} :
    ∃ sl' H' own', R (n + 1) n_ref30Put [.agg #[sl, iv lost], strv p] H = some (.tuple #[.agg #[sl', iv lost], .bool true], H') ∧ RowS H' sl' ((ps ++ [p]).map strv) own' ∧ HLe H H' ∧ ∀ j ∈ own', H.length ≤ j := by
  have e0 := fun H' => h.rd.len (H' := H')
  rw [List.length_map] at e0
  have hge : ¬ ((ps.length : Int) ≥ 128) := by omega
  have k1 := HLe.app H [.cells [sl, iv lost] 1 false false]
  have g1 : (H ++ [AObj.cells [sl, iv lost] 1 false false])[H.length]? = some (.cells [sl, iv lost] 1 false false) := app_new
  have hlen1 : (H ++ [AObj.cells [sl, iv lost] 1 false false]).length = H.length + 1 := by simp
  have a1 := (two_vars h lost).1
  have a2 := (two_vars h lost).2 (H ++ [.cells [sl, iv lost] 1 false false])
  generalize H ++ [AObj.cells [sl, iv lost] 1 false false] = H1 at *
  have k2 := HLe.app H1 [.cells [.slice none 0 0, iv 0] 1 false false]
  have g2 : (H1 ++ [AObj.cells [.slice none 0 0, iv 0] 1 false false])[H1.length]? = some (.cells [.slice none 0 0, iv 0] 1 false false) := app_new
  have hlen2 : (H1 ++ [AObj.cells [.slice none 0 0, iv 0] 1 false false]).length = H1.length + 1 := by simp
  generalize H1 ++ [AObj.cells [.slice none 0 0, iv 0] 1 false false] = H2 at *
  have k3 := HLe.app H2 [.cells [] 1 false false]
  have a3 : bsl 1 0 (.string ⟨#[]⟩) [] H2 = some (.slice (some ⟨H2.length, 0, none⟩) 0 0, H2 ++ [.cells [] 1 false false]) := bsl0
  have g3 : (H2 ++ [AObj.cells [] 1 false false])[H2.length]? = some (.cells [] 1 false false) := app_new
  have hlen3 : (H2 ++ [AObj.cells [] 1 false false]).length = H2.length + 1 := by simp
  generalize H2 ++ [AObj.cells [] 1 false false] = H3 at *
  have k13 := (k1.trans k2).trans k3
  obtain ⟨sl1, H4, o4, a4, r4, k4, ho4⟩ := row_of (b := 16) (h.rd.mono k13) (by simp; omega) (by simp; omega) (s := .slice (some ⟨H2.length, 0, none⟩) 0 0) (.inr ⟨H2.length, false, rfl, g3, rfl⟩)
  have ho4' : ∀ j ∈ o4, H2.length ≤ j := fun j hj => by
    rcases ho4 j hj with h | ⟨_, h⟩
    · omega
    · cases h; exact Nat.le_refl _
  have a5 : bsl 1 1 (.string ⟨#[]⟩) [(0, 1, strv p)] H4 = some (.slice (some ⟨H4.length, 0, none⟩) 1 1, H4 ++ [.cells [strv p] 1 false false]) := bsl1 rfl rfl rfl
  have k5 := HLe.app H4 [.cells [strv p] 1 false false]
  have s5 : Sl (H4 ++ [.cells [strv p] 1 false false]) (.slice (some ⟨H4.length, 0, none⟩) 1 1) [strv p] := Sl.one (vs := [strv p]) app_new
  have r5 := r4.step k5.step (by simp)
  generalize H4 ++ [AObj.cells [strv p] 1 false false] = H5 at *
  obtain ⟨sl2, H6, o6, a6, r6, st6, _⟩ := r5.push (b := 16) s5 (by simp; omega) (by simp; omega)
  have k25 : HLe H2 H5 := (k3.trans k4).trans k5
  obtain ⟨k26, ho6⟩ := k25.more st6 ho4'
  have g1' : H6[H.length]? = some (.cells [sl, iv lost] 1 false false) := k26 _ _ (k2 _ _ g1)
  have g2' : H6[H1.length]? = some (.cells [.slice none 0 0, iv 0] 1 false false) := k26 _ _ g2
  have w1 : st1 (pa H.length 0) sl2 H6 = some (undef, H6.set H.length (.cells [sl2, iv lost] 1 false false)) := st1_at g1' (by simp) r6.oneCell.1
  have g3' : (H6.set H.length (.cells [sl2, iv lost] 1 false false))[H.length]? = some (.cells [sl2, iv lost] 1 false false) := set_get g1'
  have w2 : ldA 2 (pt H.length) (H6.set H.length (.cells [sl2, iv lost] 1 false false)) = some (.agg #[sl2, iv lost], H6.set H.length (.cells [sl2, iv lost] 1 false false)) := ld_all g3' rfl
  have g4' : (H6.set H.length (.cells [sl2, iv lost] 1 false false))[H1.length]? = some (.cells [.slice none 0 0, iv 0] 1 false false) := by rw [set_get_ne (by omega)]; exact g2'
  have w3 : stA 2 (pt H1.length) (.agg #[sl2, iv lost]) (H6.set H.length (.cells [sl2, iv lost] 1 false false)) = some (undef, (H6.set H.length (.cells [sl2, iv lost] 1 false false)).set H1.length (.cells [sl2, iv lost] 1 false false)) := st_all (vs := [sl2, iv lost]) g4' rfl rfl (all2 r6.oneCell.1)
  have w4 : ldA 2 (pt H1.length) ((H6.set H.length (.cells [sl2, iv lost] 1 false false)).set H1.length (.cells [sl2, iv lost] 1 false false)) = some (.agg #[sl2, iv lost], (H6.set H.length (.cells [sl2, iv lost] 1 false false)).set H1.length (.cells [sl2, iv lost] 1 false false)) := ld_all (set_get g4') rfl
  refine ⟨sl2, (H6.set H.length (.cells [sl2, iv lost] 1 false false)).set H1.length (.cells [sl2, iv lost] 1 false false), o6, ?_, ?_, ?_, fun j hj => by have := ho6 j hj; omega⟩
  · rw [R, run_ref30Put rfl]
    unfold F_ref30Put
    rw [bind_eq a1, bind_eq a2, bind_eq fa_z, bind_eq (ld1_at (k2 _ _ g1) rfl), bind_eq (e0 _), bind_eq geq_r, decide_eq_false hge, c_false, bind_eq a3, bind_eq fa_z, bind_eq (ld1_at (k3 _ _ (k2 _ _ g1)) rfl), bind_eq a4, bind_eq a5, bind_eq a6, bind_eq fa_z, bind_eq w1, bind_eq w2, bind_eq w3, bind_eq w4]
    rfl
  · rw [List.map_append]
    exact r6.keep fun j hj => by
      have := ho6 j hj
      rw [set_get_ne (by omega), set_get_ne (by omega)]
  · intro j o hj
    have := get_lt hj
    rw [set_get_ne (by omega), set_get_ne (by omega)]
    exact k26 _ _ (k2 _ _ (k1 _ _ hj))

theorem r_refPutNo (h : RowS H sl (ps.map strv) own) (hl : ¬ ps.length < 128) (hlb : 0 ≤ lost ∧ lost < 1000000000) {s : Value} :
    ∃ H', R (n + 1) n_ref30Put [.agg #[sl, iv lost], s] H = some (.tuple #[.agg #[sl, iv (lost + 1)], .bool false], H') ∧ HLe H H' := by
  have e0 := fun H' => h.rd.len (H' := H')
  rw [List.length_map] at e0
  have hge : ((ps.length : Int) ≥ 128) := by omega
  have hw : IntKind.i64.wrap (lost + 1) = lost + 1 := w64 (by omega) (by omega)
  have hoc := h.oneCell.1
  have k1 := HLe.app H [.cells [sl, iv lost] 1 false false]
  have g1 : (H ++ [AObj.cells [sl, iv lost] 1 false false])[H.length]? = some (.cells [sl, iv lost] 1 false false) := app_new
  have hlen1 : (H ++ [AObj.cells [sl, iv lost] 1 false false]).length = H.length + 1 := by simp
  have a1 := (two_vars h lost).1
  have a2 := (two_vars h lost).2 (H ++ [.cells [sl, iv lost] 1 false false])
  generalize H ++ [AObj.cells [sl, iv lost] 1 false false] = H1 at *
  have k2 := HLe.app H1 [.cells [.slice none 0 0, iv 0] 1 false false]
  have g2 : (H1 ++ [AObj.cells [.slice none 0 0, iv 0] 1 false false])[H1.length]? = some (.cells [.slice none 0 0, iv 0] 1 false false) := app_new
  generalize H1 ++ [AObj.cells [.slice none 0 0, iv 0] 1 false false] = H2 at *
  have g1' := k2 _ _ g1
  have w1 : st1 (pa H.length 1) (iv (lost + 1)) H2 = some (undef, H2.set H.length (.cells [sl, iv (lost + 1)] 1 false false)) := st1_at g1' (by simp) rfl
  have g3 : (H2.set H.length (.cells [sl, iv (lost + 1)] 1 false false))[H.length]? = some (.cells [sl, iv (lost + 1)] 1 false false) := set_get g1'
  have w2 : ldA 2 (pt H.length) (H2.set H.length (.cells [sl, iv (lost + 1)] 1 false false)) = some (.agg #[sl, iv (lost + 1)], H2.set H.length (.cells [sl, iv (lost + 1)] 1 false false)) := ld_all g3 rfl
  have g4 : (H2.set H.length (.cells [sl, iv (lost + 1)] 1 false false))[H1.length]? = some (.cells [.slice none 0 0, iv 0] 1 false false) := by rw [set_get_ne (by omega)]; exact g2
  have w3 : stA 2 (pt H1.length) (.agg #[sl, iv (lost + 1)]) (H2.set H.length (.cells [sl, iv (lost + 1)] 1 false false)) = some (undef, (H2.set H.length (.cells [sl, iv (lost + 1)] 1 false false)).set H1.length (.cells [sl, iv (lost + 1)] 1 false false)) := st_all (vs := [sl, iv (lost + 1)]) g4 rfl rfl (all2 hoc)
  have w4 : ldA 2 (pt H1.length) ((H2.set H.length (.cells [sl, iv (lost + 1)] 1 false false)).set H1.length (.cells [sl, iv (lost + 1)] 1 false false)) = some (.agg #[sl, iv (lost + 1)], (H2.set H.length (.cells [sl, iv (lost + 1)] 1 false false)).set H1.length (.cells [sl, iv (lost + 1)] 1 false false)) := ld_all (set_get g4) rfl
  refine ⟨(H2.set H.length (.cells [sl, iv (lost + 1)] 1 false false)).set H1.length (.cells [sl, iv (lost + 1)] 1 false false), ?_, fun j o hj => ?_⟩
  · rw [R, run_ref30Put rfl]
    unfold F_ref30Put
    rw [bind_eq a1, bind_eq a2, bind_eq fa_z, bind_eq (ld1_at g1' rfl), bind_eq (e0 _), bind_eq geq_r, decide_eq_true hge, c_true, bind_eq fa_z, bind_eq (ld1_at g1' rfl), bind_eq add_r, hw, bind_eq fa_z, bind_eq w1, bind_eq w2, bind_eq w3, bind_eq w4]
    rfl
  · have := get_lt hj
    rw [set_get_ne (by omega), set_get_ne (by omega)]
    exact k2 _ _ (k1 _ _ hj)

end
end Go.Proofs.Ytkjoaediojdodaa.A
