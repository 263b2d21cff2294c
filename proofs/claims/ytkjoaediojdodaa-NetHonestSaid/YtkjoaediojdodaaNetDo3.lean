/- The law's 'do': clearing, copying, putting; all of it. -/
import Derived.Test.YtkjoaediojdodaaNetDo2
namespace Go.Proofs.Ytkjoaediojdodaa.A
set_option linter.unusedVariables false
set_option linter.unusedSimpArgs false
open Go.Proofs Go.Proofs.Ytkjoaediojdodaa

theorem bsl2 {es : Nat} {z a b : Value} {H : Heap} (hz : z.cells = #[z]) (ha : a.cells = #[a]) (hb : b.cells = #[b]) (h1 : oneCell a = true) (h2 : oneCell b = true) :
    bsl es 2 z [(0, 1, a), (1, 1, b)] H = some (.slice (some ⟨H.length, 0, none⟩) 2 2, H ++ [.cells [a, b] es false false]) := by
  have ht : isTup a = false := by cases a <;> simp_all [isTup, oneCell]
  have ht2 : isTup b = false := by cases b <;> simp_all [isTup, oneCell]
  simp [bsl, bldC, reps, news, hz, ha, hb, ht, ht2, splice, h1, h2, List.replicate]

section
variable {n id : Nat} {H : Heap} {sl b : Value} {kd i at_ : Int} {t : Nat} {p : List UInt8} {ps : List (List UInt8)} {lost : Int} {own ro : List Nat}

theorem spoil_any (h : Net H id ps lost own) (hi : 0 ≤ i ∧ i ≤ 18446744073709551615) (hat : 0 ≤ at_ ∧ at_ ≤ 18446744073709551615) (ht : t < 4294967296) (hl : ps.length ≤ 1000) (hq : ∀ q ∈ ps, q.length ≤ 100) :
    ∃ ok X' ps', R (n + 2) n_netNetSpoil [pt id, .int .u64 i, .int .u64 at_, .int .u32 t] H = some (.bool ok, X') ∧ Net X' id ps' lost own ∧ Step own H own X' ∧ ps'.length = ps.length ∧ ∀ q ∈ ps', q.length ≤ 100 := by
  by_cases h0 : ps.length = 0
  · exact ⟨false, H, ps, r_spoilNo (n := n) h hi hl (.inl h0), h, .refl _ _, rfl, hq⟩
  · obtain ⟨k, hk, hkl⟩ := plc_ok (ps := ps) hi.1 h0
    have hpk := List.getElem?_eq_getElem hkl
    have hpq := hq _ (List.getElem_mem hkl)
    generalize ps[k] = pk at *
    by_cases hp0 : pk = []
    · exact ⟨false, H, ps, r_spoilNo (n := n) h hi hl (.inr ⟨k, hk, by rw [hpk, hp0]⟩), h, .refl _ _, rfl, hq⟩
    · obtain ⟨X', e, N, s⟩ := r_spoil (n := n) h hi hat ht hl hk hpk hp0 (by omega)
      refine ⟨_, X', _, e, N, s, by simp, fun q hm => ?_⟩
      rcases List.mem_or_eq_of_mem_set hm with h | h
      · exact hq q h
      · rw [h, splD_len]; exact hpq

theorem take_any (h : Net H id ps lost own) (hi : 0 ≤ i ∧ i ≤ 18446744073709551615) (hl : ps.length ≤ 1000) (hq : ∀ q ∈ ps, q.length ≤ 100) :
    ∃ v X' ps' own', R (n + 3) n_netNetTake [pt id, .int .u64 i] H = some (v, X') ∧ Net X' id ps' lost own' ∧ Step own H own' X' := by
  by_cases h0 : ps.length = 0
  · have : ps = [] := List.length_eq_zero_iff.1 h0
    subst this
    exact ⟨_, H, [], own, r_takeNone (n := n) h hi, h, .refl _ _⟩
  · obtain ⟨k, hk, hkl⟩ := plc_ok (ps := ps) hi.1 h0
    have hpk := List.getElem?_eq_getElem hkl
    have hpq := hq _ (List.getElem_mem hkl)
    obtain ⟨v, q, X', own', e, r, q1, N, s, _⟩ := r_take (n := n) h hi hl hk hpk (by omega)
    exact ⟨_, X', _, own', e, N, s⟩

theorem do_clear (net : Net H id ps lost own) (row : RowS H sl (ps.map strv) ro) (dis : ∀ j ∈ ro, j ∉ own) (hbo : oneCell b = true) (hl : ps.length ≤ 128) (hlb : 0 ≤ lost ∧ lost < 1000000000) (hm : kd.tmod 8 = 5) :
    ∃ H' sl' ps' lost' own' ro', R (n + 4) n_law30Do [pt id, .agg #[sl, iv lost], .agg (actC kd b i at_ t).toArray] H = some (.tuple #[.agg #[sl', iv lost'], .bool true], H') ∧ DoO H id own ro H' sl' ps' lost' own' ro' ∧ DoR kd i p ps lost ps' lost' := by
  obtain ⟨H1, H2, H3, a1, a2, a3, k3, hl3, g4, g5, g6⟩ := do_vars (H := H) (lost := lost) (kd := kd) (i := i) (at_ := at_) (t := t) row.oneCell.1 hbo
  have nlt := net.lt
  have h8 : ¬ ((8 : Int) = 0) := by omega
  have row3 := row.step k3.step (by simp)
  have newid : ∀ x, H.length ≤ x → x ∉ own := fun x hx hm => by have := nlt x hm; omega
  obtain ⟨H4, own4, e1, net4, st4⟩ := r_clear (n := n + 2) (net.step k3.step (by simp)) (by omega) hlb
  have e0 := fun H' => row.rd.len (H' := H')
  rw [List.length_map] at e0
  have hw : IntKind.i64.wrap (lost + (ps.length : Int)) = lost + ps.length := w64 (by omega) (by omega)
  have eb : bld (.agg #[.slice none 0 0, .int .i64 0]) [(1, 1, iv (lost + ps.length))] H4 = some (.agg #[.slice none 0 0, iv (lost + ps.length)], H4) := by
    simp [bld_r, bldC, Value.cells, isTup, splice]
  obtain ⟨H8, e6, e7, q8, l8⟩ := stR (sl1 := .slice none 0 0) (l1 := lost + ps.length) (st4.get g6 (newid _ (by omega))) rfl
  have l40 : ld1 (pa H.length 1) H4 = some (iv lost, H4) := ld1_at (st4.get g4 (newid _ (by omega))) rfl
  have l41 : ld1 (pa H.length 0) H4 = some (sl, H4) := ld1_at (st4.get g4 (newid _ (by omega))) rfl
  have own4n : ∀ x ∈ own4, x ∈ own ∨ H3.length ≤ x := st4.own
  refine ⟨H8, .slice none 0 0, [], lost + ps.length, own4, [], ?_, ⟨net4.keep fun x hx => q8 x ?_, RowS.nil, by simp, by rw [l8]; have := st4.len; omega, fun x hx hn => ?_, fun x h => (own4n x h).imp (fun h => h) fun h => by omega, by simp⟩, .inr (.inr (.inr (.inl ⟨hm, rfl, rfl⟩)))⟩
  · rw [R, run_law30Do rfl]
    unfold F_law30Do
    rw [bind_eq a1, bind_eq a2, bind_eq a3, bind_eq fa_z, bind_eq (ld1_at g5 rfl), bind_eq (rem_r.trans (if_neg h8)), hm, bind_eq eql_r, show ((5 : Int) == 2) = false from rfl, c_false, bind_eq eql_r, show ((5 : Int) == 3) = false from rfl, c_false, bind_eq eql_r, show ((5 : Int) == 4) = false from rfl, c_false, bind_eq eql_r, show ((5 : Int) == 5) = true from rfl, c_true, bind_eq e1, bind_eq fa_z, bind_eq l40, bind_eq fa_z, bind_eq l41, bind_eq (e0 _), bind_eq add_r, hw, bind_eq eb, bind_eq e6, bind_eq e7]
    rfl
  · rcases own4n x hx with h | h
    · have := nlt x h; omega
    · omega
  · rw [q8 x (by omega), st4.keep x (by omega) hn, List.getElem?_eq_getElem hx]; exact k3 _ _ (List.getElem?_eq_getElem hx)

theorem do_copy (net : Net H id ps lost own) (row : RowS H sl (ps.map strv) ro) (dis : ∀ j ∈ ro, j ∉ own) (hbo : oneCell b = true) (hl : ps.length ≤ 128) (hq : ∀ q ∈ ps, q.length ≤ 100) (hlb : 0 ≤ lost ∧ lost < 1000000000) (hi : 0 ≤ i ∧ i ≤ 18446744073709551615) (hat : 0 ≤ at_ ∧ at_ ≤ 18446744073709551615) (hm : kd.tmod 8 = 6) :
    ∃ H' sl' ps' lost' own' ro', R (n + 4) n_law30Do [pt id, .agg #[sl, iv lost], .agg (actC kd b i at_ t).toArray] H = some (.tuple #[.agg #[sl', iv lost'], .bool true], H') ∧ DoO H id own ro H' sl' ps' lost' own' ro' ∧ DoR kd i p ps lost ps' lost' := by
  obtain ⟨H1, H2, H3, a1, a2, a3, k3, hl3, g4, g5, g6⟩ := do_vars (H := H) (lost := lost) (kd := kd) (i := i) (at_ := at_) (t := t) row.oneCell.1 hbo
  have nlt := net.lt
  have rlt := row.lt
  have h8 : ¬ ((8 : Int) = 0) := by omega
  obtain ⟨id2, H4, own4, e1, k4, ho4, net4⟩ := r_copy (n := n + 1) (net.step k3.step (by simp)) hl (fun q h => by have := hq q h; omega)
  have lt4 := net4.lt
  have k34 : HLe H3 H4 := k4
  obtain ⟨ok, H5, ps5, e2, net5, st5, hl5, hq5⟩ := spoil_any (n := n + 1) (t := 4294967295) net4 hi hat (by omega) (by omega) hq
  obtain ⟨k5, ho5⟩ := k34.more st5 ho4
  have b1 : bsl 1 2 (.int .u8 0) [(0, 1, (Value.int .u8 122)), (1, 1, (Value.int .u8 122))] H5 = some (.slice (some ⟨H5.length, 0, none⟩) 2 2, H5 ++ [.cells [.int .u8 122, .int .u8 122] 1 false false]) := bsl2 rfl rfl rfl rfl rfl
  have m1 : mrk (.slice (some ⟨H5.length, 0, none⟩) 2 2) (H5 ++ [.cells [.int .u8 122, .int .u8 122] 1 false false]) = some (.slice (some ⟨H5.length, 0, none⟩) 2 2, H5 ++ [.cells [.int .u8 122, .int .u8 122] 1 false false]) := mrk_r app_new
  have s1 : Sl (H5 ++ [.cells [.int .u8 122, .int .u8 122] 1 false false]) (.slice (some ⟨H5.length, 0, none⟩) 2 2) (u8s [122, 122]) := Sl.one (vs := [.int .u8 122, .int .u8 122]) app_new
  have net6 := net5.step (HLe.app H5 [.cells [.int .u8 122, .int .u8 122] 1 false false]).step (by simp)
  have k6 := k5.trans (HLe.app H5 [.cells [.int .u8 122, .int .u8 122] 1 false false])
  generalize H5 ++ [AObj.cells [.int .u8 122, .int .u8 122] 1 false false] = H6 at *
  obtain ⟨H7, own7, e3, net7, st7⟩ := put_any (n := n + 1) net6 (by omega) hlb s1 (by simp)
  obtain ⟨k7, ho7⟩ := k6.more st7 ho5
  have hl7 : (putL ps5 [122, 122]).length ≤ 1000 := by have := putL_len (p := [122, 122]) (show ps5.length ≤ 128 by omega); omega
  have hq7 : ∀ q ∈ putL ps5 [122, 122], q.length ≤ 100 := by
    intro q hm
    unfold putL at hm
    split at hm
    · rcases List.mem_append.1 hm with h | h
      · exact hq5 q h
      · simp at h; subst h; simp
    · exact hq5 q hm
  obtain ⟨v, H8, ps8, own8, e4, net8, st8⟩ := take_any (n := n) (i := 0) net7 (by omega) hl7 hq7
  obtain ⟨k8, ho8⟩ := k7.more st8 ho7
  obtain ⟨H9, e6, e7, q9, l9⟩ := stR (sl1 := sl) (l1 := lost) (k8 _ _ g6) row.oneCell.1
  have l2 : ld1 (pa (H.length + 1) 2) H4 = some (.int .u64 i, H4) := ld1_at (k34 _ _ g5) rfl
  have l3 : ld1 (pa (H.length + 1) 3) H4 = some (.int .u64 at_, H4) := ld1_at (k34 _ _ g5) rfl
  have l4 : ldA 2 (pt H.length) H8 = some (.agg #[sl, iv lost], H8) := ld_all (k8 _ _ g4) rfl
  have qx : ∀ x, x < H.length → H9[x]? = H[x]? := fun x hx => by
    rw [q9 x (by omega), List.getElem?_eq_getElem hx]; exact k8 _ _ (k3 _ _ (List.getElem?_eq_getElem hx))
  refine ⟨H9, sl, ps, lost, own, ro, ?_, ⟨net.keep fun x hx => qx x (nlt x hx), row.keep fun x hx => qx x (rlt x hx), dis, by rw [l9]; have := k8.len; omega, fun x hx hn => qx x hx, fun x h => .inl h, fun x h => .inl h⟩, .inr (.inr (.inr (.inr (.inl ⟨hm, rfl, rfl⟩))))⟩
  rw [R, run_law30Do rfl]
  unfold F_law30Do
  have e2' : R (n + 3) n_netNetSpoil [pt id2, .int .u64 i, .int .u64 at_, .int .u32 4294967295] H4 = some (.bool ok, H5) := e2
  rw [bind_eq a1, bind_eq a2, bind_eq a3, bind_eq fa_z, bind_eq (ld1_at g5 rfl), bind_eq (rem_r.trans (if_neg h8)), hm, bind_eq eql_r, show ((6 : Int) == 2) = false from rfl, c_false, bind_eq eql_r, show ((6 : Int) == 3) = false from rfl, c_false, bind_eq eql_r, show ((6 : Int) == 4) = false from rfl, c_false, bind_eq eql_r, show ((6 : Int) == 5) = false from rfl, c_false, bind_eq eql_r, show ((6 : Int) == 6) = true from rfl, c_true,
    bind_eq e1, bind_eq fa_z, bind_eq l2, bind_eq fa_z, bind_eq l3, bind_eq e2', bind_eq b1, bind_eq m1, bind_eq e3, bind_eq e4, bind_eq l4, bind_eq e6, bind_eq e7]
  rfl

theorem do_put (net : Net H id ps lost own) (row : RowS H sl (ps.map strv) ro) (dis : ∀ j ∈ ro, j ∉ own) (hb : Sl H b (u8s p)) (hbn : ∀ j, own1 b = some j → j ∉ own) (hp : p.length ≤ 100) (hl : ps.length ≤ 128) (hlb : 0 ≤ lost ∧ lost < 900000000)
    (h2 : kd.tmod 8 ≠ 2) (h3 : kd.tmod 8 ≠ 3) (h4 : kd.tmod 8 ≠ 4) (h5 : kd.tmod 8 ≠ 5) (h6 : kd.tmod 8 ≠ 6) :
    ∃ H' sl' ps' lost' own' ro', R (n + 4) n_law30Do [pt id, .agg #[sl, iv lost], .agg (actC kd b i at_ t).toArray] H = some (.tuple #[.agg #[sl', iv lost'], .bool true], H') ∧ DoO H id own ro H' sl' ps' lost' own' ro' ∧ DoR kd i p ps lost ps' lost' := by
  obtain ⟨H1, H2, H3, a1, a2, a3, k3, hl3, g4, g5, g6⟩ := do_vars (H := H) (lost := lost) (kd := kd) (i := i) (at_ := at_) (t := t) row.oneCell.1 hb.oneC
  have nlt := net.lt
  have rlt := row.lt
  have blt := hb.lt
  have h8 : ¬ ((8 : Int) = 0) := by omega
  have newid : ∀ x, H.length ≤ x → x ∉ own := fun x hx hm => by have := nlt x hm; omega
  have newro : ∀ x, H.length ≤ x → x ∉ ro := fun x hx hm => by have := rlt x hm; omega
  have hI : DoI H3 id H.length (H.length + 1) (H.length + 2) sl (actC kd b i at_ t) b p ps lost own ro :=
    ⟨net.step k3.step (by simp), row.step k3.step (by simp), dis, g4, g5, ⟨_, _, g6⟩, ⟨newid _ (Nat.le_refl _), newro _ (Nat.le_refl _)⟩, newid _ (by omega), newid _ (by omega), ⟨by omega, by omega, by omega⟩, hb.mono k3, fun x hx => ⟨hbn x hx, by have := blt x hx; omega⟩⟩
  obtain ⟨c, hc, hcc⟩ : ∃ c : Nat, c = (if kd.tmod 8 = 7 then 60 else 1) ∧ c ≤ 60 := ⟨_, rfl, by split <;> omega⟩
  obtain ⟨H4, sl4, own4, ro4, e1, I4, l4, q4, o4, r4⟩ := do_loop (m := n + 1) (c := c) hp hcc c 0 (by omega) (by omega) hI hl hlb.1 (by omega)
  obtain ⟨net4, row4, dis4, g44, g45, ⟨z, l0, g46⟩, o44, o45, o46, ne4, bs4, bo4⟩ := I4
  obtain ⟨H5, e6, e7, q5, l5⟩ := stR (sl1 := sl4) (l1 := (putN p c ps lost).2) g46 row4.oneCell.1
  have e4 : ldA 2 (pt H.length) H4 = some (.agg #[sl4, iv (putN p c ps lost).2], H4) := ld_all g44 rfl
  have own4n : ∀ x ∈ own4, x ∈ own ∨ H.length ≤ x := fun x h => (o4 x h).imp (fun h => h) fun h => by omega
  have ro4n : ∀ x ∈ ro4, x ∈ ro ∨ H3.length ≤ x := r4
  refine ⟨H5, sl4, (putN p c ps lost).1, (putN p c ps lost).2, own4, ro4, ?_, ⟨net4.keep fun x hx => q5 x (fun e => o46 (e ▸ hx)), row4.keep fun x hx => q5 x ?_, dis4, by rw [l5]; omega, fun x hx hn => ?_, own4n, fun x h => (ro4n x h).imp (fun h => h) fun h => by omega⟩, .inr (.inr (.inr (.inr (.inr ⟨h2, h3, h4, h5, h6, by rw [hc]⟩))))⟩
  · rw [R, run_law30Do rfl]
    unfold F_law30Do
    rw [show ((0 : Nat) : Int) = 0 from rfl] at e1
    have lk : ld1 (pa (H.length + 1) 0) H3 = some (.int .u8 kd, H3) := ld1_at g5 rfl
    rw [bind_eq a1, bind_eq a2, bind_eq a3, bind_eq fa_z, bind_eq lk, bind_eq (rem_r.trans (if_neg h8)), bind_eq eql_r, beq_eq_false_iff_ne.2 h2, c_false, bind_eq eql_r, beq_eq_false_iff_ne.2 h3, c_false, bind_eq eql_r, beq_eq_false_iff_ne.2 h4, c_false, bind_eq eql_r, beq_eq_false_iff_ne.2 h5, c_false, bind_eq eql_r, beq_eq_false_iff_ne.2 h6, c_false,
      bind_eq fa_z, bind_eq lk, bind_eq (rem_r.trans (if_neg h8)), bind_eq eql_r]
    by_cases h7 : kd.tmod 8 = 7
    · rw [if_pos h7] at hc
      subst hc
      rw [show (kd.tmod 8 == 7) = true from by simp [h7], c_true, jn_nrm (ret_r)]
      simp only [List.tail_cons, List.headD_cons]
      rw [show (Value.int .i64 60) = iv ((60 : Nat) : Int) from rfl, jn_ext e1]
      simp only [Nat.beq_refl, cond_true, List.tail_cons, List.headD_cons]
      rw [bind_eq e4, bind_eq e6, bind_eq e7]
      rfl
    · rw [if_neg h7] at hc
      subst hc
      rw [beq_eq_false_iff_ne.2 h7, c_false, jn_nrm (ret_r)]
      simp only [List.tail_cons, List.headD_cons]
      rw [show (Value.int .i64 1) = iv ((1 : Nat) : Int) from rfl, jn_ext e1]
      simp only [Nat.beq_refl, cond_true, List.tail_cons, List.headD_cons]
      rw [bind_eq e4, bind_eq e6, bind_eq e7]
      rfl
  · rcases ro4n x hx with h | h
    · have := rlt x h; omega
    · omega
  · rw [q5 x (by omega), q4 x (by omega) hn (by omega), List.getElem?_eq_getElem hx]; exact k3 _ _ (List.getElem?_eq_getElem hx)

theorem r_do (net : Net H id ps lost own) (row : RowS H sl (ps.map strv) ro) (dis : ∀ j ∈ ro, j ∉ own) (hb : Sl H b (u8s p)) (hbn : ∀ j, own1 b = some j → j ∉ own) (hp : p.length ≤ 100) (hl : ps.length ≤ 128) (hq : ∀ q ∈ ps, q.length ≤ 100) (hlb : 0 ≤ lost ∧ lost < 900000000)
    (hi : 0 ≤ i ∧ i ≤ 18446744073709551615) (hat : 0 ≤ at_ ∧ at_ ≤ 18446744073709551615) (ht : t < 4294967296) :
    ∃ H' sl' ps' lost' own' ro', R (n + 4) n_law30Do [pt id, .agg #[sl, iv lost], .agg (actC kd b i at_ t).toArray] H = some (.tuple #[.agg #[sl', iv lost'], .bool true], H') ∧ DoO H id own ro H' sl' ps' lost' own' ro' ∧ DoR kd i p ps lost ps' lost' := by
  by_cases h2 : kd.tmod 8 = 2
  · exact do_take net row dis hb.oneC hl hq hi h2
  · by_cases h3 : kd.tmod 8 = 3
    · exact do_double net row dis hb.oneC hl hq hi h3
    · by_cases h4 : kd.tmod 8 = 4
      · exact do_spoil net row dis hb.oneC hl hq hi hat ht h4
      · by_cases h5 : kd.tmod 8 = 5
        · exact do_clear net row dis hb.oneC hl ⟨hlb.1, by omega⟩ h5
        · by_cases h6 : kd.tmod 8 = 6
          · exact do_copy net row dis hb.oneC hl hq ⟨hlb.1, by omega⟩ hi hat h6
          · exact do_put net row dis hb hbn hp hl hlb h2 h3 h4 h5 h6

theorem putN_len : ∀ (c : Nat) {ps : List (List UInt8)} {lost : Int}, ps.length ≤ 128 → 0 ≤ lost → (putN p c ps lost).1.length ≤ 128 ∧ 0 ≤ (putN p c ps lost).2 ∧ (putN p c ps lost).2 ≤ lost + c ∧ ∀ q ∈ (putN p c ps lost).1, q ∈ ps ∨ q = p
  | 0, ps, lost, hl, h0 => ⟨hl, h0, by simp [putN], fun q h => .inl h⟩
  | c + 1, ps, lost, hl, h0 => by
    have hk := putK_le (ps := ps) h0
    obtain ⟨h1, h2, h3, h4⟩ := putN_len c (putL_len (p := p) hl) hk.1
    refine ⟨h1, h2, by simp only [putN]; omega, fun q h => ?_⟩
    rcases h4 q h with h | h
    · unfold putL at h
      split at h
      · rcases List.mem_append.1 h with h | h
        · exact .inl h
        · exact .inr (by simpa using h)
      · exact .inl h
    · exact .inr h

/-- What stays true of the packets. -/
theorem DoR.bounds {ps' : List (List UInt8)} {lost' : Int} (h : DoR kd i p ps lost ps' lost') (hp : p.length ≤ 100) (hl : ps.length ≤ 128) (hq : ∀ q ∈ ps, q.length ≤ 100) (h0 : 0 ≤ lost) :
    ps'.length ≤ 128 ∧ (∀ q ∈ ps', q.length ≤ 100) ∧ 0 ≤ lost' ∧ lost' ≤ lost + 128 := by
  rcases h with ⟨_, rfl, h⟩ | ⟨_, rfl, h⟩ | ⟨_, rfl, h⟩ | ⟨_, rfl, rfl⟩ | ⟨_, rfl, rfl⟩ | ⟨_, _, _, _, _, h⟩
  · rcases h with ⟨rfl, rfl⟩ | ⟨k, _, hk, rfl⟩
    · exact ⟨by simp, by simp, h0, by omega⟩
    · exact ⟨by rw [List.length_eraseIdx_of_lt hk]; omega, fun q h => hq q (List.mem_of_mem_eraseIdx h), h0, by omega⟩
  · rcases h with rfl | ⟨k, q, _, hk, hlt, rfl⟩
    · exact ⟨hl, hq, h0, by omega⟩
    · refine ⟨by simp; omega, fun x h => ?_, h0, by omega⟩
      rcases List.mem_append.1 h with h | h
      · exact hq x h
      · have : x = q := by simpa using h
        rw [this]; exact hq q (List.mem_of_getElem? hk)
  · rcases h with rfl | ⟨k, q, q', hk, hlen, rfl⟩
    · exact ⟨hl, hq, h0, by omega⟩
    · refine ⟨by simpa using hl, fun x h => ?_, h0, by omega⟩
      rcases List.mem_or_eq_of_mem_set h with h | h
      · exact hq x h
      · rw [h, hlen]; exact hq q (List.mem_of_getElem? hk)
  · exact ⟨by simp, by simp, by omega, by omega⟩
  · exact ⟨hl, hq, h0, by omega⟩
  · obtain ⟨h1, h2, h3, h4⟩ := putN_len (p := p) (if kd.tmod 8 = 7 then 60 else 1) hl h0
    rw [← h] at h1 h2 h3 h4
    refine ⟨h1, fun q hm => ?_, h2, ?_⟩
    · rcases h4 q hm with h | h
      · exact hq q h
      · rw [h]; exact hp
    · simp only at h3
      split at h3 <;> omega

end
end Go.Proofs.Ytkjoaediojdodaa.A
