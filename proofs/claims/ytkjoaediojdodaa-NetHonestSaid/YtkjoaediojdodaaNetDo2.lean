/- The law's 'do', case by case. -/
import Derived.Test.YtkjoaediojdodaaNetDo
namespace Go.Proofs.Ytkjoaediojdodaa.A
set_option linter.unusedVariables false
set_option linter.unusedSimpArgs false
open Go.Proofs Go.Proofs.Ytkjoaediojdodaa

/-- The acts' cells. -/
abbrev actC (kd : Int) (b : Value) (i at_ : Int) (t : Nat) : List Value := [.int .u8 kd, b, .int .u64 i, .int .u64 at_, .int .u32 t]

theorem Sl.oneC {H : Heap} {sl : Value} {vs : List Value} (h : Sl H sl vs) : oneCell sl = true := by
  obtain ⟨a, c, rfl, _⟩ := h; rfl

theorem do_vars {H : Heap} {sl b : Value} {lost kd i at_ : Int} {t : Nat} (hs : oneCell sl = true) (hb : oneCell b = true) :
    ∃ H1 H2 H3, alc 1 (.agg #[sl, iv lost]) H = some (pt H.length, H1) ∧ alc 1 (.agg (actC kd b i at_ t).toArray) H1 = some (pt (H.length + 1), H2) ∧ alc 1 (.agg #[.slice none 0 0, .int .i64 0]) H2 = some (pt (H.length + 2), H3) ∧ HLe H H3 ∧ H3.length = H.length + 3 ∧
      H3[H.length]? = some (.cells [sl, iv lost] 1 false false) ∧ H3[H.length + 1]? = some (.cells (actC kd b i at_ t) 1 false false) ∧ H3[H.length + 2]? = some (.cells [.slice none 0 0, iv 0] 1 false false) := by
  refine ⟨H ++ [.cells [sl, iv lost] 1 false false], H ++ [.cells [sl, iv lost] 1 false false] ++ [.cells (actC kd b i at_ t) 1 false false], H ++ [.cells [sl, iv lost] 1 false false] ++ [.cells (actC kd b i at_ t) 1 false false] ++ [.cells [.slice none 0 0, iv 0] 1 false false], alc_all (all2 hs), ?_, ?_, ?_, by simp, ?_, ?_, ?_⟩
  · have : (actC kd b i at_ t).all oneCell = true := by
      simp only [actC, List.all_cons, hb]; rfl
    have h := alc_all (es := 1) (H := H ++ [.cells [sl, iv lost] 1 false false]) this
    rw [h]; simp
  · have h := alc_all (es := 1) (H := H ++ [.cells [sl, iv lost] 1 false false] ++ [.cells (actC kd b i at_ t) 1 false false]) (vs := [.slice none 0 0, iv 0]) rfl
    rw [show (Value.agg #[.slice none 0 0, .int .i64 0]) = .agg [.slice none 0 0, iv 0].toArray from rfl, h]; simp
  · exact ((HLe.app _ _).trans (HLe.app _ _)).trans (HLe.app _ _)
  · rw [List.append_assoc, List.append_assoc, fr_get0]; rfl
  · rw [List.append_assoc, List.append_assoc, fr_get]; rfl
  · rw [List.append_assoc, List.append_assoc, fr_get]; rfl

/-- The result's variable is written and read. -/
theorem stR {H : Heap} {i6 : Nat} {z sl1 : Value} {l0 l1 : Int} (g : H[i6]? = some (.cells [z, iv l0] 1 false false)) (hoc : oneCell sl1 = true) :
    ∃ H', stA 2 (pt i6) (.agg #[sl1, iv l1]) H = some (undef, H') ∧ ldA 2 (pt i6) H' = some (.agg #[sl1, iv l1], H') ∧ (∀ x, x ≠ i6 → H'[x]? = H[x]?) ∧ H'.length = H.length :=
  ⟨H.set i6 (.cells [sl1, iv l1] 1 false false), st_all (vs := [sl1, iv l1]) g rfl rfl (all2 hoc), ld_all (set_get g) rfl, fun x hx => set_get_ne (Ne.symm hx), by simp⟩

/-- A variable of one's own holds what was answered. -/
theorem newR {H : Heap} {sl1 : Value} {l1 : Int} (hoc : oneCell sl1 = true) :
    alc 1 (.agg #[.slice none 0 0, .int .i64 0]) H = some (pt H.length, H ++ [.cells [.slice none 0 0, iv 0] 1 false false]) ∧
      stA 2 (pt H.length) (.agg #[sl1, iv l1]) (H ++ [.cells [.slice none 0 0, iv 0] 1 false false]) = some (undef, H ++ [.cells [sl1, iv l1] 1 false false]) := by
  refine ⟨alc_all rfl, ?_⟩
  have e3 : stA 2 (pt H.length) (.agg [sl1, iv l1].toArray) (H ++ [.cells [.slice none 0 0, iv 0] 1 false false]) = some (undef, (H ++ [AObj.cells [.slice none 0 0, iv 0] 1 false false]).set H.length (.cells [sl1, iv l1] 1 false false)) := st_all app_new rfl rfl (all2 hoc)
  rw [set_new] at e3
  exact e3

/-- What an act makes of the packets and of the number of those that were lost. -/
def DoR (kd i : Int) (p : List UInt8) (ps : List (List UInt8)) (lost : Int) (ps' : List (List UInt8)) (lost' : Int) : Prop :=
  (kd.tmod 8 = 2 ∧ lost' = lost ∧ ((ps = [] ∧ ps' = []) ∨ ∃ k : Nat, plc ps i = k ∧ k < ps.length ∧ ps' = ps.eraseIdx k)) ∨
  (kd.tmod 8 = 3 ∧ lost' = lost ∧ (ps' = ps ∨ ∃ (k : Nat) (q : List UInt8), plc ps i = k ∧ ps[k]? = some q ∧ ps.length < 128 ∧ ps' = ps ++ [q])) ∨
  (kd.tmod 8 = 4 ∧ lost' = lost ∧ (ps' = ps ∨ ∃ (k : Nat) (q q' : List UInt8), ps[k]? = some q ∧ q'.length = q.length ∧ ps' = ps.set k q')) ∨
  (kd.tmod 8 = 5 ∧ lost' = lost + ps.length ∧ ps' = []) ∨
  (kd.tmod 8 = 6 ∧ lost' = lost ∧ ps' = ps) ∨
  (kd.tmod 8 ≠ 2 ∧ kd.tmod 8 ≠ 3 ∧ kd.tmod 8 ≠ 4 ∧ kd.tmod 8 ≠ 5 ∧ kd.tmod 8 ≠ 6 ∧ (ps', lost') = putN p (if kd.tmod 8 = 7 then 60 else 1) ps lost)

/-- What 'do' leaves. -/
structure DoO (H : Heap) (id : Nat) (own ro : List Nat) (H' : Heap) (sl' : Value) (ps' : List (List UInt8)) (lost' : Int) (own' ro' : List Nat) : Prop where
  net : Net H' id ps' lost' own'
  row : RowS H' sl' (ps'.map strv) ro'
  dis : ∀ j ∈ ro', j ∉ own'
  len : H.length ≤ H'.length
  keep : ∀ x, x < H.length → x ∉ own → H'[x]? = H[x]?
  own : ∀ x ∈ own', x ∈ own ∨ H.length ≤ x
  ro : ∀ x ∈ ro', x ∈ ro ∨ H.length ≤ x

theorem gv_in {t : Bool} {m : M Value} {H : Heap} : gateV (.bool t) t m H = m H := by cases t <;> rfl

section
variable {n id : Nat} {H : Heap} {sl b : Value} {kd i at_ : Int} {t : Nat} {p : List UInt8} {ps : List (List UInt8)} {lost : Int} {own ro : List Nat}

theorem do_take (net : Net H id ps lost own) (row : RowS H sl (ps.map strv) ro) (dis : ∀ j ∈ ro, j ∉ own) (hbo : oneCell b = true) (hl : ps.length ≤ 128) (hq : ∀ q ∈ ps, q.length ≤ 100) (hi : 0 ≤ i ∧ i ≤ 18446744073709551615) (hm : kd.tmod 8 = 2) :
    ∃ H' sl' ps' lost' own' ro', R (n + 4) n_law30Do [pt id, .agg #[sl, iv lost], .agg (actC kd b i at_ t).toArray] H = some (.tuple #[.agg #[sl', iv lost'], .bool true], H') ∧ DoO H id own ro H' sl' ps' lost' own' ro' ∧ DoR kd i p ps lost ps' lost' := by
  obtain ⟨H1, H2, H3, a1, a2, a3, k3, hl3, g4, g5, g6⟩ := do_vars (H := H) (lost := lost) (kd := kd) (i := i) (at_ := at_) (t := t) row.oneCell.1 hbo
  have nlt := net.lt
  have rlt := row.lt
  have h8 : ¬ ((8 : Int) = 0) := by omega
  have row3 := row.step k3.step (by simp)
  have g2' : ld1 (pa (H.length + 1) 2) H3 = some (.int .u64 i, H3) := ld1_at g5 rfl
  by_cases h0 : ps.length = 0
  · have : ps = [] := List.length_eq_zero_iff.1 h0
    subst this
    obtain ⟨H4, e1, k4⟩ := r_refTakeNone (n := n + 1) (lost := lost) row3 hi
    obtain ⟨e2, e3⟩ := newR (H := H4) (sl1 := sl) (l1 := lost) row.oneCell.1
    have k6 := (k3.trans k4).trans (HLe.app H4 [.cells [sl, iv lost] 1 false false])
    have g5' : (H4 ++ [AObj.cells [sl, iv lost] 1 false false])[H.length + 1]? = some (.cells (actC kd b i at_ t) 1 false false) := app_get (k4 _ _ g5)
    have g6' : (H4 ++ [AObj.cells [sl, iv lost] 1 false false])[H.length + 2]? = some (.cells [.slice none 0 0, iv 0] 1 false false) := app_get (k4 _ _ g6)
    have e4 : ldA 2 (pt H4.length) (H4 ++ [.cells [sl, iv lost] 1 false false]) = some (.agg #[sl, iv lost], H4 ++ [.cells [sl, iv lost] 1 false false]) := ld_all app_new rfl
    generalize H4 ++ [AObj.cells [sl, iv lost] 1 false false] = H6 at *
    have net6 := net.step k6.step (by simp)
    have e5 := r_takeNone (n := n) net6 hi
    obtain ⟨H8, e6, e7, q8, l8⟩ := stR (sl1 := sl) (l1 := lost) g6' row.oneCell.1
    have b1 : ∀ X, b2s (.slice none 0 0) X = some (strv [], X) := fun X => rfl
    have hrow : ∀ x ∈ ro, H8[x]? = H[x]? := fun x hx => by
      have := rlt x hx
      rw [q8 x (by omega), List.getElem?_eq_getElem this]; exact k6 _ _ (List.getElem?_eq_getElem this)
    refine ⟨H8, sl, [], lost, own, ro, ?_, ⟨net6.keep fun x hx => q8 x (by have := nlt x hx; omega), row.keep hrow, dis, by rw [l8]; exact k6.len, fun x hx hn => ?_, fun x h => .inl h, fun x h => .inl h⟩, .inl ⟨hm, rfl, .inl ⟨rfl, rfl⟩⟩⟩
    · rw [R, run_law30Do rfl]
      unfold F_law30Do
      have g2'' : ld1 (pa (H.length + 1) 2) H6 = some (.int .u64 i, H6) := ld1_at g5' rfl
      have es : bop .str .eql (strv []) (.string ⟨#[]⟩) H6 = some (.bool true, H6) := eqs_empty
      rw [bind_eq a1, bind_eq a2, bind_eq a3, bind_eq fa_z, bind_eq (ld1_at g5 rfl), bind_eq (rem_r.trans (if_neg h8)), hm, bind_eq eql_r, show ((2 : Int) == 2) = true from rfl, c_true, bind_eq (ld_all (n := 2) g4 rfl), bind_eq fa_z, bind_eq g2', bind_eq e1, bind_eq extr_q0, bind_eq extr_q1, bind_eq extr_q2, bind_eq e2, bind_eq e3, bind_eq fa_z, bind_eq g2'', bind_eq e5, bind_eq extr_p0, bind_eq extr_p1, bind_eq e4, bind_eq eqb_r, show (false == false) = true from rfl, bind_eq (gv_in.trans ret_r), bind_eq (gv_in.trans (b1 _)), bind_eq (gv_in.trans ret_r), bind_eq (gv_in.trans es), bind_eq pick_r, cond_true, bind_eq e6, bind_eq (gv_in.trans (b1 _)), same_self, bind_eq e7]
      rfl
    · rw [q8 x (by omega), List.getElem?_eq_getElem hx]; exact k6 _ _ (List.getElem?_eq_getElem hx)
  · obtain ⟨k, hk, hkl⟩ := plc_ok (ps := ps) hi.1 h0
    have hpk := List.getElem?_eq_getElem hkl
    have hpq := hq _ (List.getElem_mem hkl)
    generalize ps[k] = pk at *
    obtain ⟨sl1, H4, ro1, e1, r1, k4, ho1⟩ := r_refTake (n := n + 1) (lost := lost) row3 hi (by omega) hk hpk
    have r1lt := r1.lt
    obtain ⟨e2, e3⟩ := newR (H := H4) (sl1 := sl1) (l1 := lost) r1.oneCell.1
    have k6 := (k3.trans k4).trans (HLe.app H4 [.cells [sl1, iv lost] 1 false false])
    have g5' : (H4 ++ [AObj.cells [sl1, iv lost] 1 false false])[H.length + 1]? = some (.cells (actC kd b i at_ t) 1 false false) := app_get (k4 _ _ g5)
    have g6' : (H4 ++ [AObj.cells [sl1, iv lost] 1 false false])[H.length + 2]? = some (.cells [.slice none 0 0, iv 0] 1 false false) := app_get (k4 _ _ g6)
    have g8 : (H4 ++ [AObj.cells [sl1, iv lost] 1 false false])[H4.length]? = some (.cells [sl1, iv lost] 1 false false) := app_new
    have r6 := r1.step (HLe.app H4 [.cells [sl1, iv lost] 1 false false]).step (by simp)
    have hl4 := k4.len
    have hl6 : (H4 ++ [AObj.cells [sl1, iv lost] 1 false false]).length = H4.length + 1 := by simp
    generalize H4 ++ [AObj.cells [sl1, iv lost] 1 false false] = H6 at *
    have net6 := net.step k6.step (by simp)
    obtain ⟨v, q, H7, own7, e5, r7, q7, net7, st7, sub7⟩ := r_take (n := n) net6 hi (by omega) hk hpk (by omega)
    have newid : ∀ x, H.length ≤ x → x ∉ own := fun x hx hm => by have := nlt x hm; omega
    have e4 : ldA 2 (pt H4.length) H7 = some (.agg #[sl1, iv lost], H7) := ld_all (st7.get g8 (newid _ (by omega))) rfl
    obtain ⟨H8, e6, e7, q8, l8⟩ := stR (sl1 := sl1) (l1 := lost) (st7.get g6' (newid _ (by omega))) r1.oneCell.1
    have b1 := b2s_sl r7.rd
    have b2 := b2s_sl (r7.keep (H' := H8) fun x hx => q8 x (by have := q7 x hx; omega)).rd
    have qx : ∀ x, x < H6.length → x ∉ own → x ≠ H.length + 2 → H8[x]? = H6[x]? := fun x hx hn hne => by rw [q8 x hne, st7.keep x hx hn]
    refine ⟨H8, sl1, ps.eraseIdx k, lost, own7, ro1, ?_, ⟨net7.keep fun x hx => q8 x (by have := nlt x (sub7 x hx); omega), r6.keep fun x hx => qx x (by have := r1lt x hx; omega) (newid x (by have := ho1 x hx; omega)) (by have := ho1 x hx; omega), fun x hx hm => newid x (by have := ho1 x hx; omega) (sub7 x hm), by rw [l8]; have := st7.len; omega, fun x hx hn => ?_, fun x h => .inl (sub7 x h), fun x h => .inr (by have := ho1 x h; omega)⟩, .inl ⟨hm, rfl, .inr ⟨k, hk, hkl, rfl⟩⟩⟩
    · rw [R, run_law30Do rfl]
      unfold F_law30Do
      have g2'' : ld1 (pa (H.length + 1) 2) H6 = some (.int .u64 i, H6) := ld1_at g5' rfl
      have es : bop .str .eql (strv pk) (strv pk) H7 = some (.bool true, H7) := by rw [eqs_r, BEq.rfl]
      rw [bind_eq a1, bind_eq a2, bind_eq a3, bind_eq fa_z, bind_eq (ld1_at g5 rfl), bind_eq (rem_r.trans (if_neg h8)), hm, bind_eq eql_r, show ((2 : Int) == 2) = true from rfl, c_true, bind_eq (ld_all (n := 2) g4 rfl), bind_eq fa_z, bind_eq g2', bind_eq e1, bind_eq extr_q0, bind_eq extr_q1, bind_eq extr_q2, bind_eq e2, bind_eq e3, bind_eq fa_z, bind_eq g2'', bind_eq e5, bind_eq extr_p0, bind_eq extr_p1, bind_eq e4, bind_eq eqb_r, show (true == true) = true from rfl, bind_eq (gv_in.trans ret_r), bind_eq (gv_in.trans b1), bind_eq (gv_in.trans ret_r), bind_eq (gv_in.trans es), bind_eq pick_r, cond_true, bind_eq e6, bind_eq (gv_in.trans b2), same_self, bind_eq e7]
      rfl
    · rw [qx x (by have := k6.len; omega) hn (by omega), List.getElem?_eq_getElem hx]; exact k6 _ _ (List.getElem?_eq_getElem hx)

/-- What is common to doubling and spoiling: the document's answer, then the net's. -/
theorem do_double (net : Net H id ps lost own) (row : RowS H sl (ps.map strv) ro) (dis : ∀ j ∈ ro, j ∉ own) (hbo : oneCell b = true) (hl : ps.length ≤ 128) (hq : ∀ q ∈ ps, q.length ≤ 100) (hi : 0 ≤ i ∧ i ≤ 18446744073709551615) (hm : kd.tmod 8 = 3) :
    ∃ H' sl' ps' lost' own' ro', R (n + 4) n_law30Do [pt id, .agg #[sl, iv lost], .agg (actC kd b i at_ t).toArray] H = some (.tuple #[.agg #[sl', iv lost'], .bool true], H') ∧ DoO H id own ro H' sl' ps' lost' own' ro' ∧ DoR kd i p ps lost ps' lost' := by
  obtain ⟨H1, H2, H3, a1, a2, a3, k3, hl3, g4, g5, g6⟩ := do_vars (H := H) (lost := lost) (kd := kd) (i := i) (at_ := at_) (t := t) row.oneCell.1 hbo
  have nlt := net.lt
  have rlt := row.lt
  have h8 : ¬ ((8 : Int) = 0) := by omega
  have row3 := row.step k3.step (by simp)
  have g2' : ld1 (pa (H.length + 1) 2) H3 = some (.int .u64 i, H3) := ld1_at g5 rfl
  have newid : ∀ x, H.length ≤ x → x ∉ own := fun x hx hm => by have := nlt x hm; omega
  -- the document's
  obtain ⟨ok, sl1, ps1, H4, ro1, e1, r1, k4, ho1, hrel, hnet⟩ : ∃ ok sl1 ps1 H4 ro1, R (n + 3) n_ref30Double [.agg #[sl, iv lost], .int .u64 i] H3 = some (.tuple #[.agg #[sl1, iv lost], .bool ok], H4) ∧ RowS H4 sl1 (ps1.map strv) ro1 ∧ HLe H3 H4 ∧ (∀ j ∈ ro1, j ∈ ro ∨ H3.length ≤ j) ∧
      (ps1 = ps ∨ ∃ (k : Nat) (q : List UInt8), plc ps i = k ∧ ps[k]? = some q ∧ ps.length < 128 ∧ ps1 = ps ++ [q]) ∧
      (∀ X, Net X id ps lost own → ∃ X' own', R (n + 3) n_netNetDouble [pt id, .int .u64 i] X = some (.bool ok, X') ∧ Net X' id ps1 lost own' ∧ Step own X own' X') := by
    by_cases h0 : ps.length = 0
    · have : ps = [] := List.length_eq_zero_iff.1 h0
      subst this
      obtain ⟨H4, e1, k4⟩ := r_refDoubleNone (n := n + 1) (lost := lost) row3 hi (.inl rfl)
      exact ⟨false, sl, [], H4, ro, e1, row3.step k4.step (by simp), k4, fun x h => .inl h, .inl rfl, fun X hX => ⟨X, own, r_doubleNone (n := n) hX hi, hX, .refl _ _⟩⟩
    · obtain ⟨k, hk, hkl⟩ := plc_ok (ps := ps) hi.1 h0
      have hpk := List.getElem?_eq_getElem hkl
      have hpq := hq _ (List.getElem_mem hkl)
      generalize ps[k] = pk at *
      by_cases hlt : ps.length < 128
      · obtain ⟨sl1, H4, ro1, e1, r1, k4, ho1⟩ := r_refDouble (n := n + 1) (lost := lost) row3 hi hlt hk hpk
        refine ⟨true, sl1, ps ++ [pk], H4, ro1, e1, r1, k4, fun x h => .inr (ho1 x h), .inr ⟨k, pk, hk, hpk, hlt, rfl⟩, fun X hX => ?_⟩
        obtain ⟨X', own', e, N, s⟩ := r_double (n := n) hX hi hl hk hpk (by omega)
        rw [if_pos hlt] at N
        rw [decide_eq_true hlt] at e
        exact ⟨X', own', e, N, s⟩
      · obtain ⟨H4, e1, k4⟩ := r_refDoubleNone (n := n + 1) (lost := lost) row3 hi (.inr (by omega))
        refine ⟨false, sl, ps, H4, ro, e1, row3.step k4.step (by simp), k4, fun x h => .inl h, .inl rfl, fun X hX => ?_⟩
        obtain ⟨X', own', e, N, s⟩ := r_double (n := n) hX hi hl hk hpk (by omega)
        rw [if_neg hlt] at N
        rw [decide_eq_false hlt] at e
        exact ⟨X', own', e, N, s⟩
  have r1lt := r1.lt
  obtain ⟨e2, e3⟩ := newR (H := H4) (sl1 := sl1) (l1 := lost) r1.oneCell.1
  have k6 := (k3.trans k4).trans (HLe.app H4 [.cells [sl1, iv lost] 1 false false])
  have g5' : (H4 ++ [AObj.cells [sl1, iv lost] 1 false false])[H.length + 1]? = some (.cells (actC kd b i at_ t) 1 false false) := app_get (k4 _ _ g5)
  have g6' : (H4 ++ [AObj.cells [sl1, iv lost] 1 false false])[H.length + 2]? = some (.cells [.slice none 0 0, iv 0] 1 false false) := app_get (k4 _ _ g6)
  have g8 : (H4 ++ [AObj.cells [sl1, iv lost] 1 false false])[H4.length]? = some (.cells [sl1, iv lost] 1 false false) := app_new
  have r6 := r1.step (HLe.app H4 [.cells [sl1, iv lost] 1 false false]).step (by simp)
  have hl4 := k4.len
  have hl6 : (H4 ++ [AObj.cells [sl1, iv lost] 1 false false]).length = H4.length + 1 := by simp
  generalize H4 ++ [AObj.cells [sl1, iv lost] 1 false false] = H6 at *
  have net6 := net.step k6.step (by simp)
  obtain ⟨H7, own7, e5, net7, st7⟩ := hnet H6 net6
  have e4 : ldA 2 (pt H4.length) H6 = some (.agg #[sl1, iv lost], H6) := ld_all g8 rfl
  have e4' : ldA 2 (pt H4.length) H7 = some (.agg #[sl1, iv lost], H7) := ld_all (st7.get g8 (newid _ (by omega))) rfl
  obtain ⟨H8, e6, e7, q8, l8⟩ := stR (sl1 := sl1) (l1 := lost) (st7.get g6' (newid _ (by omega))) r1.oneCell.1
  have qx : ∀ x, x < H6.length → x ∉ own → x ≠ H.length + 2 → H8[x]? = H6[x]? := fun x hx hn hne => by rw [q8 x hne, st7.keep x hx hn]
  have ro1n : ∀ x ∈ ro1, x ∉ own ∧ x ≠ H.length + 2 := fun x hx => by
    rcases ho1 x hx with h | h
    · exact ⟨dis x h, by have := rlt x h; omega⟩
    · exact ⟨newid x (by omega), by omega⟩
  have own7n : ∀ x ∈ own7, x ∈ own ∨ H6.length ≤ x := st7.own
  refine ⟨H8, sl1, ps1, lost, own7, ro1, ?_, ⟨net7.keep fun x hx => q8 x ?_, r6.keep fun x hx => qx x (by have := r1lt x hx; omega) (ro1n x hx).1 (ro1n x hx).2, fun x hx hm => ?_, by rw [l8]; have := st7.len; have := k6.len; omega, fun x hx hn => ?_, fun x h => (own7n x h).imp (fun h => h) fun h => by have := k6.len; omega, fun x h => (ho1 x h).imp (fun h => h) fun h => by omega⟩, .inr (.inl ⟨hm, rfl, hrel⟩)⟩
  · rw [R, run_law30Do rfl]
    unfold F_law30Do
    have g2'' : ld1 (pa (H.length + 1) 2) H6 = some (.int .u64 i, H6) := ld1_at g5' rfl
    rw [bind_eq a1, bind_eq a2, bind_eq a3, bind_eq fa_z, bind_eq (ld1_at g5 rfl), bind_eq (rem_r.trans (if_neg h8)), hm, bind_eq eql_r, show ((3 : Int) == 2) = false from rfl, c_false, bind_eq eql_r, show ((3 : Int) == 3) = true from rfl, c_true, bind_eq (ld_all (n := 2) g4 rfl), bind_eq fa_z, bind_eq g2', bind_eq e1, bind_eq extr_p0, bind_eq extr_p1, bind_eq e2, bind_eq e3, bind_eq e4, bind_eq fa_z, bind_eq g2'', bind_eq e5, bind_eq e4', same_self, bind_eq eqb_r, BEq.rfl, bind_eq e6, bind_eq e7]
    rfl
  · rcases own7n x hx with h | h
    · have := nlt x h; omega
    · have := k6.len; omega
  · rcases own7n x hm with h | h
    · exact (ro1n x hx).1 h
    · have := r1lt x hx; omega
  · rw [qx x (by have := k6.len; omega) hn (by omega), List.getElem?_eq_getElem hx]; exact k6 _ _ (List.getElem?_eq_getElem hx)

theorem do_spoil (net : Net H id ps lost own) (row : RowS H sl (ps.map strv) ro) (dis : ∀ j ∈ ro, j ∉ own) (hbo : oneCell b = true) (hl : ps.length ≤ 128) (hq : ∀ q ∈ ps, q.length ≤ 100) (hi : 0 ≤ i ∧ i ≤ 18446744073709551615) (hat : 0 ≤ at_ ∧ at_ ≤ 18446744073709551615) (ht : t < 4294967296) (hm : kd.tmod 8 = 4) :
    ∃ H' sl' ps' lost' own' ro', R (n + 4) n_law30Do [pt id, .agg #[sl, iv lost], .agg (actC kd b i at_ t).toArray] H = some (.tuple #[.agg #[sl', iv lost'], .bool true], H') ∧ DoO H id own ro H' sl' ps' lost' own' ro' ∧ DoR kd i p ps lost ps' lost' := by
  obtain ⟨H1, H2, H3, a1, a2, a3, k3, hl3, g4, g5, g6⟩ := do_vars (H := H) (lost := lost) (kd := kd) (i := i) (at_ := at_) (t := t) row.oneCell.1 hbo
  have nlt := net.lt
  have rlt := row.lt
  have h8 : ¬ ((8 : Int) = 0) := by omega
  have row3 := row.step k3.step (by simp)
  have g2' : ld1 (pa (H.length + 1) 2) H3 = some (.int .u64 i, H3) := ld1_at g5 rfl
  have g3' : ld1 (pa (H.length + 1) 3) H3 = some (.int .u64 at_, H3) := ld1_at g5 rfl
  have g4' : ld1 (pa (H.length + 1) 4) H3 = some (.int .u32 t, H3) := ld1_at g5 rfl
  have newid : ∀ x, H.length ≤ x → x ∉ own := fun x hx hm => by have := nlt x hm; omega
  obtain ⟨ok, sl1, ps1, H4, ro1, e1, r1, k4, ho1, hrel, hnet⟩ : ∃ ok sl1 ps1 H4 ro1, R (n + 3) n_ref30Spoil [.agg #[sl, iv lost], .int .u64 i, .int .u64 at_, .int .u32 t] H3 = some (.tuple #[.agg #[sl1, iv lost], .bool ok], H4) ∧ RowS H4 sl1 (ps1.map strv) ro1 ∧ HLe H3 H4 ∧ (∀ j ∈ ro1, j ∈ ro ∨ H3.length ≤ j) ∧
      (ps1 = ps ∨ ∃ (k : Nat) (q q' : List UInt8), ps[k]? = some q ∧ q'.length = q.length ∧ ps1 = ps.set k q') ∧
      (∀ X, Net X id ps lost own → ∃ X' own', R (n + 3) n_netNetSpoil [pt id, .int .u64 i, .int .u64 at_, .int .u32 t] X = some (.bool ok, X') ∧ Net X' id ps1 lost own' ∧ Step own X own' X') := by
    have none_ : (ps.length = 0 ∨ ∃ k : Nat, plc ps i = k ∧ ps[k]? = some []) → ∃ ok sl1 ps1 H4 ro1, R (n + 3) n_ref30Spoil [.agg #[sl, iv lost], .int .u64 i, .int .u64 at_, .int .u32 t] H3 = some (.tuple #[.agg #[sl1, iv lost], .bool ok], H4) ∧ RowS H4 sl1 (ps1.map strv) ro1 ∧ HLe H3 H4 ∧ (∀ j ∈ ro1, j ∈ ro ∨ H3.length ≤ j) ∧
      (ps1 = ps ∨ ∃ (k : Nat) (q q' : List UInt8), ps[k]? = some q ∧ q'.length = q.length ∧ ps1 = ps.set k q') ∧
      (∀ X, Net X id ps lost own → ∃ X' own', R (n + 3) n_netNetSpoil [pt id, .int .u64 i, .int .u64 at_, .int .u32 t] X = some (.bool ok, X') ∧ Net X' id ps1 lost own' ∧ Step own X own' X') := by
      intro hno
      obtain ⟨H4, e1, k4⟩ := r_refSpoilNo (n := n + 1) (lost := lost) (at_ := .int .u64 at_) (t := .int .u32 t) row3 hi (by omega) hno
      exact ⟨false, sl, ps, H4, ro, e1, row3.step k4.step (by simp), k4, fun x h => .inl h, .inl rfl, fun X hX => ⟨X, own, r_spoilNo (n := n + 1) hX hi (by omega) hno, hX, .refl _ _⟩⟩
    by_cases h0 : ps.length = 0
    · exact none_ (.inl h0)
    · obtain ⟨k, hk, hkl⟩ := plc_ok (ps := ps) hi.1 h0
      have hpk := List.getElem?_eq_getElem hkl
      have hpq := hq _ (List.getElem_mem hkl)
      generalize ps[k] = pk at *
      by_cases hp0 : pk = []
      · exact none_ (.inr ⟨k, hk, by rw [hpk, hp0]⟩)
      · obtain ⟨sl1, H4, ro1, e1, r1, k4, ho1⟩ := r_refSpoil (n := n + 1) (lost := lost) (at_ := at_) (t := t) row3 hi hat ht (by omega) hk hpk hp0 (by omega)
        refine ⟨_, sl1, _, H4, ro1, e1, r1, k4, fun x h => .inr (ho1 x h), .inr ⟨k, pk, _, hpk, splD_len _ _ _ _ _, rfl⟩, fun X hX => ?_⟩
        obtain ⟨X', e, N, s⟩ := r_spoil (n := n + 1) hX hi hat ht (by omega) hk hpk hp0 (by omega)
        exact ⟨X', own, e, N, s⟩
  have r1lt := r1.lt
  obtain ⟨e2, e3⟩ := newR (H := H4) (sl1 := sl1) (l1 := lost) r1.oneCell.1
  have k6 := (k3.trans k4).trans (HLe.app H4 [.cells [sl1, iv lost] 1 false false])
  have g5' : (H4 ++ [AObj.cells [sl1, iv lost] 1 false false])[H.length + 1]? = some (.cells (actC kd b i at_ t) 1 false false) := app_get (k4 _ _ g5)
  have g6' : (H4 ++ [AObj.cells [sl1, iv lost] 1 false false])[H.length + 2]? = some (.cells [.slice none 0 0, iv 0] 1 false false) := app_get (k4 _ _ g6)
  have g8 : (H4 ++ [AObj.cells [sl1, iv lost] 1 false false])[H4.length]? = some (.cells [sl1, iv lost] 1 false false) := app_new
  have r6 := r1.step (HLe.app H4 [.cells [sl1, iv lost] 1 false false]).step (by simp)
  have hl4 := k4.len
  have hl6 : (H4 ++ [AObj.cells [sl1, iv lost] 1 false false]).length = H4.length + 1 := by simp
  generalize H4 ++ [AObj.cells [sl1, iv lost] 1 false false] = H6 at *
  have net6 := net.step k6.step (by simp)
  obtain ⟨H7, own7, e5, net7, st7⟩ := hnet H6 net6
  have e4 : ldA 2 (pt H4.length) H6 = some (.agg #[sl1, iv lost], H6) := ld_all g8 rfl
  have e4' : ldA 2 (pt H4.length) H7 = some (.agg #[sl1, iv lost], H7) := ld_all (st7.get g8 (newid _ (by omega))) rfl
  obtain ⟨H8, e6, e7, q8, l8⟩ := stR (sl1 := sl1) (l1 := lost) (st7.get g6' (newid _ (by omega))) r1.oneCell.1
  have qx : ∀ x, x < H6.length → x ∉ own → x ≠ H.length + 2 → H8[x]? = H6[x]? := fun x hx hn hne => by rw [q8 x hne, st7.keep x hx hn]
  have ro1n : ∀ x ∈ ro1, x ∉ own ∧ x ≠ H.length + 2 := fun x hx => by
    rcases ho1 x hx with h | h
    · exact ⟨dis x h, by have := rlt x h; omega⟩
    · exact ⟨newid x (by omega), by omega⟩
  have own7n : ∀ x ∈ own7, x ∈ own ∨ H6.length ≤ x := st7.own
  refine ⟨H8, sl1, ps1, lost, own7, ro1, ?_, ⟨net7.keep fun x hx => q8 x ?_, r6.keep fun x hx => qx x (by have := r1lt x hx; omega) (ro1n x hx).1 (ro1n x hx).2, fun x hx hm => ?_, by rw [l8]; have := st7.len; have := k6.len; omega, fun x hx hn => ?_, fun x h => (own7n x h).imp (fun h => h) fun h => by have := k6.len; omega, fun x h => (ho1 x h).imp (fun h => h) fun h => by omega⟩, .inr (.inr (.inl ⟨hm, rfl, hrel⟩))⟩
  · rw [R, run_law30Do rfl]
    unfold F_law30Do
    have g2'' : ld1 (pa (H.length + 1) 2) H6 = some (.int .u64 i, H6) := ld1_at g5' rfl
    have g3'' : ld1 (pa (H.length + 1) 3) H6 = some (.int .u64 at_, H6) := ld1_at g5' rfl
    have g4'' : ld1 (pa (H.length + 1) 4) H6 = some (.int .u32 t, H6) := ld1_at g5' rfl
    rw [bind_eq a1, bind_eq a2, bind_eq a3, bind_eq fa_z, bind_eq (ld1_at g5 rfl), bind_eq (rem_r.trans (if_neg h8)), hm, bind_eq eql_r, show ((4 : Int) == 2) = false from rfl, c_false, bind_eq eql_r, show ((4 : Int) == 3) = false from rfl, c_false, bind_eq eql_r, show ((4 : Int) == 4) = true from rfl, c_true, bind_eq (ld_all (n := 2) g4 rfl), bind_eq fa_z, bind_eq g2', bind_eq fa_z, bind_eq g3', bind_eq fa_z, bind_eq g4', bind_eq e1, bind_eq extr_p0, bind_eq extr_p1, bind_eq e2, bind_eq e3, bind_eq e4, bind_eq fa_z, bind_eq g2'', bind_eq fa_z, bind_eq g3'', bind_eq fa_z, bind_eq g4'', bind_eq e5, bind_eq e4', same_self, bind_eq eqb_r, BEq.rfl, bind_eq e6, bind_eq e7]
    rfl
  · rcases own7n x hx with h | h
    · have := nlt x h; omega
    · have := k6.len; omega
  · rcases own7n x hm with h | h
    · exact (ro1n x hx).1 h
    · have := r1lt x hx; omega
  · rw [qx x (by have := k6.len; omega) hn (by omega), List.getElem?_eq_getElem hx]; exact k6 _ _ (List.getElem?_eq_getElem hx)

end
end Go.Proofs.Ytkjoaediojdodaa.A
