/- The document's device: fuse, put, flush. -/
import Derived.Test.YtahocinoohdagaaRefBlk2
namespace Go.Proofs.Ytahocinoohdagaa.A
set_option linter.unusedVariables false
set_option linter.unusedSimpArgs false
open Go.Proofs Go.Proofs.Ytahocinoohdagaa

section
variable {H H' : Heap} {sl : Value} {w : RS} {n : Nat}

/-- Two variables: the argument, and the answer. -/
theorem Ref.two (h : Ref H sl w) : ∃ H1 H2, alc 1 (w.val sl) H = some (pt H.length, H1) ∧ (∀ K : Heap, K = H1 → alc 1 (.agg #[.int .i64 0, .slice none 0 0, .bool false, .int .i64 0, .int .u64 0]) K = some (pt (H.length + 1), H2)) ∧ HLe H H2 ∧ H2.length = H.length + 2 ∧
    H2[H.length]? = some (.cells (w.cells sl) 1 false false) ∧ H2[H.length + 1]? = some (.cells zero5 1 false false) := by
  have a1 := h.box
  refine ⟨_, H ++ [.cells (w.cells sl) 1 false false] ++ [.cells zero5 1 false false], a1, ?_, (HLe.app _ _).trans (.app _ _), by simp, ?_, ?_⟩
  · rintro _ rfl
    have := alc_z (H ++ [.cells (w.cells sl) 1 false false])
    rw [List.length_append, List.length_singleton] at this
    exact this
  · exact app_get app_new
  · have : (H ++ [AObj.cells (w.cells sl) 1 false false]).length = H.length + 1 := by simp
    rw [← this]; exact app_new

/-- The answer is put, and read again; the state is as it was else. -/
theorem Ref.out {X : Heap} {c : Nat} {cs : List Value} {w' : RS} {sl' : Value} (h' : Ref X sl' w') (hc : X[c]? = some (.cells cs 1 false false)) (hl : cs.length = 5) (hn : ∀ j, own1 sl' = some j → j ≠ c) (hH : HLe H X) (hcH : H.length ≤ c) :
    ∃ X', (∀ {β : Type} (K : Value → M β), bind (stA 5 (pt c) (w'.val sl')) (fun _ => bind (ldA 5 (pt c)) K) X = K (w'.val sl') X') ∧ Ref X' sl' w' ∧ HLe H X' ∧ X'.length = X.length ∧ (∀ j, j ≠ c → X'[j]? = X[j]?) ∧ X'[c]? = some (.cells (w'.cells sl') 1 false false) := by
  refine ⟨X.set c (.cells (w'.cells sl') 1 false false), fun K => out5 hc hl rfl h'.all, ⟨h'.row.keep fun j hj => List.getElem?_set_ne (Ne.symm (hn j hj)), h'.few, h'.sz, h'.f⟩, fun j o hj => ?_, by simp, fun j hj => List.getElem?_set_ne (Ne.symm hj), set_get hc⟩
  have := get_lt hj
  rw [List.getElem?_set_ne (by omega)]
  exact hH _ _ hj

theorem RS.ok_burn {w : RS} (h : w.fuse ≤ 9223372036854775807) : w.burn.1.fuse ≤ 9223372036854775807 := by
  unfold RS.burn
  split
  · exact h
  · split
    · unfold RS.cut
      split
      · exact h
      · show (-1 : Int) ≤ _; omega
    · show w.fuse - 1 ≤ _; omega

theorem r_refBurn (h : Ref H sl w) (hm : w.mask < 18446744073709551616) : ∃ H' sl', R (n + 3) n_ref21Burn [w.val sl] H = some (.tuple #[w.burn.1.val sl', iv w.burn.2], H') ∧ Ref H' sl' w.burn.1 ∧ HLe H H' ∧ (∀ j, own1 sl' = some j → own1 sl = some j ∨ H.length ≤ j) ∧ (w.burn.2 = 0 → sl' = sl) := by
  obtain ⟨H1, H2, a1, a2, le, l2, c1, c2⟩ := h.two
  have a2 := a2 H1 rfl
  have h2 := h.mono le
  have a3 : ld1 (pa H.length 3) H2 = some (iv w.fuse, H2) := ld1_at c1 rfl
  have hsl : ∀ j, own1 sl = some j → j ≠ H.length + 1 := fun j hj => by have := h.row.own_lt hj; omega
  have hf := h.f
  rw [R, run_ref21Burn rfl]
  unfold F_ref21Burn RS.burn
  rw [bind_eq a1, bind_eq a2, bind_eq fa_z, bind_eq a3, bind_eq lss_r]
  by_cases h1 : w.fuse < 0
  · have f4 := ldA_at (n := 5) c1 rfl
    obtain ⟨X', e, r, k, _⟩ := Ref.out (H := H) h2 c2 rfl hsl le (by omega)
    refine ⟨X', sl, ?_, by rw [if_pos h1]; exact r, k, fun j hj => .inl hj, fun _ => rfl⟩
    rw [cnd_b, if_pos (by simpa using h1), bind_eq f4, if_pos h1]
    exact e _
  · rw [cnd_b, if_neg (by simpa using h1), bind_eq fa_z, bind_eq a3, bind_eq eql_r]
    by_cases h0 : w.fuse = 0
    · have f4 := ldA_at (n := 5) c1 rfl
      have a4 : ld1 (pa H.length 4) H2 = some (.int .u64 w.mask, H2) := ld1_at c1 rfl
      obtain ⟨H3, sl', e3, r3, le3, n3⟩ := r_refCut (n := n) h2 hm
      have hsl' : ∀ j, own1 sl' = some j → j ≠ H.length + 1 := fun j hj => by
        rcases n3 j hj with h | h
        · exact hsl j h
        · omega
      obtain ⟨X', e, r, k, _⟩ := Ref.out (H := H) r3 (le3 _ _ c2) rfl hsl' (le.trans le3) (by omega)
      refine ⟨X', sl', ?_, by rw [if_neg h1, if_pos h0]; exact r, k, ?_, fun hz => by rw [if_neg h1, if_pos h0] at hz; cases hz⟩
      · rw [cnd_b, if_pos (by simpa using h0), bind_eq f4, bind_eq fa_z, bind_eq a4, bind_eq e3, if_neg h1, if_pos h0]
        exact e _
      · intro j hj
        rcases n3 j hj with h | h
        · exact .inl h
        · exact .inr (by omega)
    · have w1 : IntKind.i64.wrap (w.fuse - 1) = w.fuse - 1 := w64 (by omega) (by omega)
      have f1 := st1_at (o := 3) (v := iv (w.fuse - 1)) c1 (by simp [RS.cells]) rfl
      generalize hX1 : H2.set H.length (.cells ((w.cells sl).set 3 (iv (w.fuse - 1))) 1 false false) = X1 at f1
      have hne : ∀ j, j ≠ H.length → X1[j]? = H2[j]? := fun j hj => by rw [← hX1]; exact List.getElem?_set_ne (Ne.symm hj)
      have y1 : X1[H.length]? = some (.cells (({ w with fuse := w.fuse - 1 } : RS).cells sl) 1 false false) := by rw [← hX1]; exact set_get c1
      have y2 : X1[H.length + 1]? = some (.cells zero5 1 false false) := by rw [hne _ (by omega)]; exact c2
      have f4 := ldA_at (n := 5) y1 rfl
      have hlt : ∀ j, own1 sl = some j → j < H.length := fun j hj => h.row.own_lt hj
      have h3 : Ref X1 sl ({ w with fuse := w.fuse - 1 } : RS) := ⟨h2.row.keep fun j hj => hne j (by have := hlt j hj; omega), h.few, h.sz, by show w.fuse - 1 ≤ _; omega⟩
      have le1 : HLe H X1 := fun j o hj => by
        have := get_lt hj
        rw [hne j (by omega)]; exact le _ _ hj
      obtain ⟨X', e, r, k, _⟩ := Ref.out (H := H) h3 y2 rfl hsl le1 (by omega)
      refine ⟨X', sl, ?_, by rw [if_neg h1, if_neg h0]; exact r, k, fun j hj => .inl hj, fun _ => rfl⟩
      rw [cnd_b, if_neg (by simpa using h0), bind_eq fa_z, bind_eq a3, bind_eq sub_r, w1, bind_eq fa_z, bind_eq f1, bind_eq f4, if_neg h1, if_neg h0]
      exact e _

/-- A row of what a slice holds, made of nothing. -/
theorem rowN_of {es b : Nat} {rows : List (List Value)} {x : Value} {id : Nat} {X : Heap} (hx : SlN es X x rows) (hid : X[id]? = some (.cells [] es false false)) (hes : 0 < es) (hb : rows.length * b ≤ 140737488355328) (hb0 : rows.length ≤ 140737488355328) :
    ∃ sl' X' own', app es b (.slice (some ⟨id, 0, none⟩) 0 0) x X = some (sl', X') ∧ RowN es X' sl' rows own' ∧ HLe X X' ∧ ∀ j ∈ own', j = id ∨ X.length ≤ j := by
  have hf := hx.fc
  have hn := hx.flen
  cases rows with
  | nil =>
    refine ⟨.slice (some ⟨id, 0, none⟩) 0 0, X, [id], ?_, .inr ⟨id, [], 0, false, rfl, rfl, by simpa using hid, by simp, by simp⟩, .refl _, by simp⟩
    unfold app
    rw [hf]
    simp only [hn, hid, if_true, List.length_nil]
    rw [if_pos (by omega)]
  | cons r rows =>
    have hfl := flat_len hx.ok
    refine ⟨_, X ++ [.cells (r :: rows).flatten es true false], [X.length], ?_, .inr ⟨X.length, [], 0, true, rfl, rfl, by simp, by simp, hx.ok⟩, .app _ _, by simp⟩
    unfold app
    rw [hf]
    simp only [hn, hid, if_true]
    rw [if_neg (by simp), if_pos (by simp at hb hb0 ⊢; omega)]
    simp

theorem r_refPut (h : Ref H sl w) (hm : w.mask < 18446744073709551616) (hw : w.l.length < 100000) (i : Int) (b : List UInt8) : ∃ H' sl', R (n + 4) n_ref21Put [w.val sl, iv i, strv b] H = some (.tuple #[(w.put i b).1.val sl', iv (w.put i b).2], H') ∧ Ref H' sl' (w.put i b).1 ∧ HLe H H' ∧ ∀ j, own1 sl' = some j → own1 sl = some j ∨ H.length ≤ j := by
  obtain ⟨H1, H2, a1, a2, le, l2, c1, c2⟩ := h.two
  have a2 := a2 H1 rfl
  have h2 := h.mono le
  have a3 : ld1 (pa H.length 2) H2 = some (.bool w.down, H2) := ld1_at c1 rfl
  have a4 : ld1 (pa H.length 0) H2 = some (iv w.n, H2) := ld1_at c1 rfl
  have hlt : ∀ j, own1 sl = some j → j < H.length := fun j hj => h.row.own_lt hj
  have f4 := ldA_at (n := 5) c1 rfl
  obtain ⟨Xn, en, rn, kn, _⟩ := Ref.out (H := H) h2 c2 rfl (fun j hj => by have := hlt j hj; omega) le (by omega)
  rw [R, run_ref21Put rfl]
  unfold F_ref21Put
  rw [bind_eq a1, bind_eq a2, bind_eq fa_z, bind_eq a3]
  cases hd : w.down
  · rw [cnd_b, if_neg (by simp), bind_eq lss_r]
    by_cases h1 : i < 0 ∨ i ≥ w.n
    · have hp : w.put i b = (w, 1) := by unfold RS.put; rw [hd, if_neg (by simp), if_pos h1]
      rw [hp]
      refine ⟨Xn, sl, ?_, rn, kn, fun j hj => .inl hj⟩
      by_cases h3 : i < 0
      · rw [decide_eq_true h3, bind_eq (g_r.trans (if_neg (by simp))), bind_eq pick_r]
        simp only [cond_true]
        rw [cnd_b, if_pos rfl, bind_eq f4]
        exact en _
      · have eg : gate (.bool false) false 4 (bind (fa 0 (pt H.length)) fun v17x8 => bind (ld1 v17x8) fun v18x9 => bind (bop .int .geq (iv i) v18x9) fun v19x10 => ret [iv i, v17x8, v18x9, v19x10]) H2 = some ([iv i, pa H.length 0, iv w.n, .bool (decide (i ≥ (w.n : Int)))], H2) := by
          rw [g_r, if_pos rfl, bind_eq fa_z, bind_eq a4, bind_eq geq_r]
          rfl
        rw [decide_eq_false h3, bind_eq eg]
        simp only [List.headD_cons, List.tail_cons]
        rw [bind_eq pick_r]
        simp only [cond_false]
        rw [cnd_b, if_pos (by simp; omega), bind_eq f4]
        exact en _
    · have h3 : ¬ i < 0 := by omega
      have h4 : ¬ i ≥ (w.n : Int) := by omega
      have eg : gate (.bool false) false 4 (bind (fa 0 (pt H.length)) fun v17x8 => bind (ld1 v17x8) fun v18x9 => bind (bop .int .geq (iv i) v18x9) fun v19x10 => ret [iv i, v17x8, v18x9, v19x10]) H2 = some ([iv i, pa H.length 0, iv w.n, .bool false], H2) := by
        rw [g_r, if_pos rfl, bind_eq fa_z, bind_eq a4, bind_eq geq_r, decide_eq_false h4]
        rfl
      rw [decide_eq_false h3, bind_eq eg]
      simp only [List.headD_cons, List.tail_cons]
      rw [bind_eq pick_r]
      simp only [cond_false]
      rw [cnd_b, if_neg (by simp), bind_eq lenT_v, bind_eq gtr_r]
      by_cases hb : b.length > 128
      · have hp : w.put i b = (w, 3) := by unfold RS.put; rw [hd, if_neg (by simp), if_neg h1, if_pos hb]
        rw [hp]
        refine ⟨Xn, sl, ?_, rn, kn, fun j hj => .inl hj⟩
        rw [cnd_b, if_pos (by simp; omega), bind_eq f4]
        exact en _
      · obtain ⟨H3, sb, e3, r3, le3, n3, z3⟩ := r_refBurn (n := n) h2 hm
        have f8 := alc_z H3
        generalize hH4 : H3 ++ [AObj.cells zero5 1 false false] = H4 at f8
        have le4 : HLe H3 H4 := by rw [← hH4]; exact .app _ _
        have l4 : H4.length = H3.length + 1 := by rw [← hH4]; simp
        have c8 : H4[H3.length]? = some (.cells zero5 1 false false) := by rw [← hH4]; exact app_new
        have l3 := le3.len
        have r4 := r3.mono le4
        have f9 := stA_at (n := 5) (vs := w.burn.1.cells sb) c8 rfl rfl r4.all
        generalize hH5 : H4.set H3.length (.cells (w.burn.1.cells sb) 1 false false) = H5 at f9
        have hne5 : ∀ j, j ≠ H3.length → H5[j]? = H4[j]? := fun j hj => by rw [← hH5]; exact List.getElem?_set_ne (Ne.symm hj)
        have c85 : H5[H3.length]? = some (.cells (w.burn.1.cells sb) 1 false false) := by rw [← hH5]; exact set_get c8
        have hsb : ∀ j, own1 sb = some j → j < H3.length := fun j hj => r3.row.own_lt hj
        have r5 : Ref H5 sb w.burn.1 := ⟨r4.row.keep fun j hj => hne5 j (by have := hsb j hj; omega), r4.few, r4.sz, r4.f⟩
        have le35 : HLe H3 H5 := fun j o hj => by
          have := get_lt hj
          rw [hne5 j (by omega)]; exact le4 _ _ hj
        have c65 : H5[H.length + 1]? = some (.cells zero5 1 false false) := le35 _ _ (le3 _ _ c2)
        have c35 : H5[H.length]? = some (.cells (w.cells sl) 1 false false) := le35 _ _ (le3 _ _ c1)
        have leH5 := le.trans (le3.trans le35)
        by_cases h0 : w.burn.2 = 0
        · obtain rfl := z3 h0
          have hp : w.put i b = ({ w.burn.1 with l := w.l ++ [⟨i.toNat, b, false⟩] }, 0) := by unfold RS.put; rw [hd, if_neg (by simp), if_neg h1, if_neg hb, if_pos h0]
          rw [hp]
          -- the rows
          generalize hH6 : H5 ++ [AObj.cells [] 3 false false] = H6
          have le6 : HLe H5 H6 := by rw [← hH6]; exact .app _ _
          have l6 : H6.length = H5.length + 1 := by rw [← hH6]; simp
          have e6 : bsl 3 0 (.agg #[.int .i64 0, .string ⟨#[]⟩, .bool false]) [] H5 = some (.slice (some ⟨H5.length, 0, none⟩) 0 0, H6) := by rw [← hH6]; exact bsl0
          have hs6 : SlN 3 H6 sb (w.l.map wcell) := (h.mono (leH5.trans le6)).row
          obtain ⟨s7, H7, o7, e7, r7, le7, ho7⟩ := rowN_of (b := 32) hs6 (by rw [← hH6]; exact app_new) (by omega) (by simp; omega) (by simp; omega)
          have ho7' : ∀ j ∈ o7, H5.length ≤ j := fun j hj => by rcases ho7 j hj with h | h <;> omega
          have le57 := le6.trans le7
          obtain ⟨v8, H8, s9, H9, o9, e8, e9, r9, le9, ho9⟩ := app_one (H0 := H5) (r := wcell ⟨i.toNat, b, false⟩) r7 le57 ho7' rfl rfl (by simp; omega)
          have hmap : w.l.map wcell ++ [wcell ⟨i.toNat, b, false⟩] = (w.l ++ [(⟨i.toNat, b, false⟩ : RW)]).map wcell := by simp
          rw [hmap] at r9
          have hi0 : ((i.toNat : Nat) : Int) = i := by omega
          have e8' : bld (.agg #[.int .i64 0, .string ⟨#[]⟩, .bool false]) [(0, 1, iv i), (1, 1, strv b), (2, 1, (Value.bool false))] H7 = some (.agg (wcell ⟨i.toNat, b, false⟩).toArray, H7) := by
            simp only [wcell, hi0]
            simp [bld, bldC, Value.cells, isTup, splice, strv]
          have l5 : H5.length = H3.length + 1 := by rw [← hH5]; simp [l4]
          have c89 := le9 _ _ c85
          have g1 := st1_at (o := 1) (v := s9) c89 (by simp [RS.cells]) r9.one.1
          generalize hH10 : H9.set H3.length (.cells ((w.burn.1.cells sb).set 1 s9) 1 false false) = H10 at g1
          have hne10 : ∀ j, j ≠ H3.length → H10[j]? = H9[j]? := fun j hj => by rw [← hH10]; exact List.getElem?_set_ne (Ne.symm hj)
          have c8x : H10[H3.length]? = some (.cells (({ w.burn.1 with l := w.l ++ [⟨i.toNat, b, false⟩] } : RS).cells s9) 1 false false) := by rw [← hH10]; exact set_get c89
          have c6x : H10[H.length + 1]? = some (.cells zero5 1 false false) := by rw [hne10 _ (by omega)]; exact le9 _ _ c65
          have hs9 : ∀ j, own1 s9 = some j → H5.length ≤ j := fun j hj => ho9 j (by have := r9.own1 hj; rw [this]; exact List.mem_singleton.2 rfl)
          have rx : Ref H10 s9 ({ w.burn.1 with l := w.l ++ [⟨i.toNat, b, false⟩] } : RS) := by
            refine ⟨r9.rd.keep fun j hj => hne10 j (by have := hs9 j hj; omega), by simp; omega, fun x hx => ?_, r3.f⟩
            rcases List.mem_append.1 hx with hx | hx
            · exact h.sz x hx
            · have : x = ⟨i.toNat, b, false⟩ := by simpa using hx
              rw [this]; show b.length ≤ 128; omega
          have lex : HLe H H10 := fun j o hj => by
            have := get_lt hj
            rw [hne10 j (by omega)]; exact le9 _ _ (leH5 _ _ hj)
          obtain ⟨X', e, r, k, _⟩ := Ref.out (H := H) rx c6x rfl (fun j hj => by have := hs9 j hj; omega) lex (by omega)
          have g2 := ldA_at (n := 5) c8x rfl
          have g3 : ld1 (pa H.length 1) H6 = some (sb, H6) := ld1_at (le6 _ _ c35) rfl
          refine ⟨X', s9, ?_, r, k, fun j hj => .inr (by have := hs9 j hj; omega)⟩
          rw [cnd_b, if_neg (by simp; omega), bind_eq f4, bind_eq e3, bind_eq extr_p0, bind_eq extr_p1, bind_eq f8, bind_eq f9, bind_eq neq_r, cnd_b, if_neg (by simp [h0]), bind_eq e6, bind_eq fa_z, bind_eq g3, bind_eq e7, bind_eq e8', bind_eq e8, bind_eq e9, bind_eq fa_z, bind_eq g1, bind_eq g2]
          exact e _
        · have hp : w.put i b = w.burn := by unfold RS.put; rw [hd, if_neg (by simp), if_neg h1, if_neg hb, if_neg h0]
          rw [hp]
          obtain ⟨X', e, r, k, _⟩ := Ref.out (H := H) r5 c65 rfl (fun j hj => by
            rcases n3 j hj with h | h
            · have := hlt j h; omega
            · omega) leH5 (by omega)
          have g2 := ldA_at (n := 5) c85 rfl
          refine ⟨X', sb, ?_, r, k, fun j hj => (n3 j hj).imp (fun h => h) fun h => by omega⟩
          rw [cnd_b, if_neg (by simp; omega), bind_eq f4, bind_eq e3, bind_eq extr_p0, bind_eq extr_p1, bind_eq f8, bind_eq f9, bind_eq neq_r, cnd_b, if_pos (by simpa using h0), bind_eq g2]
          exact e _
  · have hp : w.put i b = (w, 15) := by unfold RS.put; rw [hd]; rfl
    rw [hp]
    refine ⟨Xn, sl, ?_, rn, kn, fun j hj => .inl hj⟩
    rw [cnd_b, if_pos rfl, bind_eq f4]
    exact en _

theorem flush_do {H0 : Heap} {c2 c4 : Value} (h : Ref H0 sl w) : ∀ (t k : Nat) {acc : List RW} {s5 : Value} {own : List Nat} {X : Heap}, w.l.length - k = t → k ≤ w.l.length → acc.length = k → HLe H0 X → RowN 3 X s5 (acc.map wcell) own → (∀ j ∈ own, H0.length ≤ j) →
    ∃ X' s5' own', loopM (fun vs => F_ref21Flush.l1 (R n) (vs.headD undef) (vs.tail.headD undef) (vs.tail.tail.headD undef) (vs.tail.tail.tail.headD undef) (vs.tail.tail.tail.tail.headD undef) (vs.tail.tail.tail.tail.tail.headD undef)) [c2, c4, s5, sl, iv w.l.length, iv k] X = some (.ext 0 [c2, c4, s5'], X') ∧
      HLe H0 X' ∧ RowN 3 X' s5' ((acc ++ (w.l.drop k).map fun x : RW => { x with k := true }).map wcell) own' ∧ ∀ j ∈ own', H0.length ≤ j
  | 0, k, acc, s5, own, X, ht, hk, hacc, hle, hr, ho => by
    have : k = w.l.length := by omega
    subst this
    refine ⟨X, s5, own, loop_ext ?_, hle, ?_, ho⟩
    · simp only [F_ref21Flush.l1, List.headD_cons, List.tail_cons]
      rw [bind_eq lss_r, cnd_b, if_neg (by simp)]
      rfl
    · rw [List.drop_length, List.map_nil, List.append_nil]; exact hr
  | t + 1, k, acc, s5, own, X, ht, hk, hacc, hle, hr, ho => by
    have hkl : k < w.l.length := by omega
    have hlt : (k : Int) < w.l.length := by omega
    have hfew := h.few
    have w1 : IntKind.i64.wrap ((k : Int) + 1) = ((k + 1 : Nat) : Int) := by rw [w64 (by omega) (by omega)]; simp
    have hx := List.getElem?_eq_getElem hkl
    have hd := List.drop_eq_getElem_cons hkl
    generalize w.l[k] = x at hx hd
    generalize hX1 : X ++ [AObj.cells (wcell x) 1 false false] = X1
    have le1 : HLe X X1 := by rw [← hX1]; exact .app _ _
    have hc : X1[X.length]? = some (.cells (wcell x) 1 false false) := by rw [← hX1]; exact app_new
    have l0 : ld1 (pa X.length 0) X1 = some (iv x.i, X1) := ld1_at hc rfl
    have l1 : ld1 (pa X.length 1) X1 = some (strv x.b, X1) := ld1_at hc rfl
    have hr1 := hr.step le1.step (by simp)
    have hle1 := hle.trans le1
    obtain ⟨v, X2, s6, X3, own3, e2, e3, r3, le3, o3⟩ := app_one (r := wcell { x with k := true }) hr1 hle1 ho rfl rfl (by simp; omega)
    have hmap : acc.map wcell ++ [wcell { x with k := true }] = (acc ++ [{ x with k := true }]).map wcell := by simp
    rw [hmap] at r3
    have e4 : bld (.agg #[.int .i64 0, .string ⟨#[]⟩, .bool false]) [(0, 1, iv x.i), (1, 1, strv x.b), (2, 1, (Value.bool true))] X1 = some (.agg (wcell { x with k := true }).toArray, X1) := by
      simp [bld, bldC, Value.cells, isTup, splice, strv, wcell]
    obtain ⟨X', s5', own', e, r⟩ := flush_do (c2 := c2) (c4 := c4) h t (k + 1) (acc := acc ++ [{ x with k := true }]) (by omega) (by omega) (by simp; omega) le3 r3 o3
    refine ⟨X', s5', own', (loop_next (H' := X3) (vs' := [c2, c4, s6, sl, iv w.l.length, iv ((k + 1 : Nat) : Int)]) ?_).trans e, ?_⟩
    · simp only [List.headD_cons, List.tail_cons]
      unfold F_ref21Flush.l1
      rw [bind_eq lss_r, cnd_b, if_pos (by simpa using hlt), (h.mono hle).fetch hx, hX1, bind_eq fa_z, bind_eq l0, bind_eq fa_z, bind_eq l1, bind_eq e4, bind_eq e2, bind_eq e3, bind_eq add_r, w1]
      rfl
    · rw [hd, List.map_cons]
      have : (acc ++ [{ x with k := true }] ++ (w.l.drop (k + 1)).map fun x : RW => { x with k := true }) = acc ++ { x with k := true } :: (w.l.drop (k + 1)).map fun x : RW => { x with k := true } := by simp
      rw [this] at r
      exact r

theorem r_refFlush (h : Ref H sl w) (hm : w.mask < 18446744073709551616) : ∃ H' sl', R (n + 4) n_ref21Flush [w.val sl] H = some (.tuple #[w.flush.1.val sl', iv w.flush.2], H') ∧ Ref H' sl' w.flush.1 ∧ HLe H H' ∧ ∀ j, own1 sl' = some j → own1 sl = some j ∨ H.length ≤ j := by
  obtain ⟨H1, H2, a1, a2, le, l2, c1, c2⟩ := h.two
  have a2 := a2 H1 rfl
  have h2 := h.mono le
  have a3 : ld1 (pa H.length 2) H2 = some (.bool w.down, H2) := ld1_at c1 rfl
  have hlt : ∀ j, own1 sl = some j → j < H.length := fun j hj => h.row.own_lt hj
  have f4 := ldA_at (n := 5) c1 rfl
  rw [R, run_ref21Flush rfl]
  unfold F_ref21Flush
  rw [bind_eq a1, bind_eq a2, bind_eq fa_z, bind_eq a3]
  cases hd : w.down
  · obtain ⟨H3, sb, e3, r3, le3, n3, z3⟩ := r_refBurn (n := n) h2 hm
    have f8 := alc_z H3
    generalize hH4 : H3 ++ [AObj.cells zero5 1 false false] = H4 at f8
    have le4 : HLe H3 H4 := by rw [← hH4]; exact .app _ _
    have l4 : H4.length = H3.length + 1 := by rw [← hH4]; simp
    have c8 : H4[H3.length]? = some (.cells zero5 1 false false) := by rw [← hH4]; exact app_new
    have l3 := le3.len
    have r4 := r3.mono le4
    have f9 := stA_at (n := 5) (vs := w.burn.1.cells sb) c8 rfl rfl r4.all
    generalize hH5 : H4.set H3.length (.cells (w.burn.1.cells sb) 1 false false) = H5 at f9
    have hne5 : ∀ j, j ≠ H3.length → H5[j]? = H4[j]? := fun j hj => by rw [← hH5]; exact List.getElem?_set_ne (Ne.symm hj)
    have c85 : H5[H3.length]? = some (.cells (w.burn.1.cells sb) 1 false false) := by rw [← hH5]; exact set_get c8
    have hsb : ∀ j, own1 sb = some j → j < H3.length := fun j hj => r3.row.own_lt hj
    have r5 : Ref H5 sb w.burn.1 := ⟨r4.row.keep fun j hj => hne5 j (by have := hsb j hj; omega), r4.few, r4.sz, r4.f⟩
    have le35 : HLe H3 H5 := fun j o hj => by
      have := get_lt hj
      rw [hne5 j (by omega)]; exact le4 _ _ hj
    have l5 : H5.length = H3.length + 1 := by rw [← hH5]; simp [l4]
    have c65 : H5[H.length + 1]? = some (.cells zero5 1 false false) := le35 _ _ (le3 _ _ c2)
    have c35 : H5[H.length]? = some (.cells (w.cells sl) 1 false false) := le35 _ _ (le3 _ _ c1)
    have leH5 := le.trans (le3.trans le35)
    by_cases h0 : w.burn.2 = 0
    · obtain rfl := z3 h0
      have hp : w.flush = ({ w.burn.1 with l := w.l.map fun x : RW => { x with k := true } }, 0) := by unfold RS.flush; rw [hd, if_neg (by simp), if_pos h0]
      rw [hp]
      have hS := h.mono leH5
      obtain ⟨H9, s9, o9, e9, le9, r9, ho9⟩ := flush_do (n := n + 3) (c2 := pt (H.length + 1)) (c4 := pt H3.length) hS w.l.length 0 (acc := []) (s5 := .slice none 0 0) (own := []) (X := H5) rfl (by omega) rfl (.refl _) RowN.nil (by simp)
      rw [show ((0 : Nat) : Int) = 0 from rfl] at e9
      rw [List.drop_zero, List.nil_append] at r9
      have c89 := le9 _ _ c85
      have g1 := st1_at (o := 1) (v := s9) c89 (by simp [RS.cells]) r9.one.1
      generalize hH10 : H9.set H3.length (.cells ((w.burn.1.cells sb).set 1 s9) 1 false false) = H10 at g1
      have hne10 : ∀ j, j ≠ H3.length → H10[j]? = H9[j]? := fun j hj => by rw [← hH10]; exact List.getElem?_set_ne (Ne.symm hj)
      have c8x : H10[H3.length]? = some (.cells (({ w.burn.1 with l := w.l.map fun x : RW => { x with k := true } } : RS).cells s9) 1 false false) := by rw [← hH10]; exact set_get c89
      have c6x : H10[H.length + 1]? = some (.cells zero5 1 false false) := by rw [hne10 _ (by omega)]; exact le9 _ _ c65
      have hs9 : ∀ j, own1 s9 = some j → H5.length ≤ j := fun j hj => ho9 j (by have := r9.own1 hj; rw [this]; exact List.mem_singleton.2 rfl)
      have rx : Ref H10 s9 ({ w.burn.1 with l := w.l.map fun x : RW => { x with k := true } } : RS) := by
        refine ⟨r9.rd.keep fun j hj => hne10 j (by have := hs9 j hj; omega), by simpa using h.few, fun x hx => ?_, r3.f⟩
        obtain ⟨y, hy, rfl⟩ := List.mem_map.1 hx
        exact h.sz y hy
      have lex : HLe H H10 := fun j o hj => by
        have := get_lt hj
        rw [hne10 j (by omega)]; exact le9 _ _ (leH5 _ _ hj)
      obtain ⟨X', e, r, k, _⟩ := Ref.out (H := H) rx c6x rfl (fun j hj => by have := hs9 j hj; omega) lex (by omega)
      have g2 := ldA_at (n := 5) c8x rfl
      have g3 : ld1 (pa H.length 1) H5 = some (sb, H5) := ld1_at c35 rfl
      refine ⟨X', s9, ?_, r, k, fun j hj => .inr (by have := hs9 j hj; omega)⟩
      rw [cnd_b, if_neg (by simp), bind_eq f4, bind_eq e3, bind_eq extr_p0, bind_eq extr_p1, bind_eq f8, bind_eq f9, bind_eq neq_r, cnd_b, if_neg (by simp [h0]), bind_eq fa_z, bind_eq g3, bind_eq (hS.len H5), jn_ext e9, ext_hit0]
      simp only [List.headD_cons, List.tail_cons]
      rw [bind_eq fa_z, bind_eq g1, bind_eq g2]
      exact e _
    · have hp : w.flush = w.burn := by unfold RS.flush; rw [hd, if_neg (by simp), if_neg h0]
      rw [hp]
      obtain ⟨X', e, r, k, _⟩ := Ref.out (H := H) r5 c65 rfl (fun j hj => by
        rcases n3 j hj with h | h
        · have := hlt j h; omega
        · omega) leH5 (by omega)
      have g2 := ldA_at (n := 5) c85 rfl
      refine ⟨X', sb, ?_, r, k, fun j hj => (n3 j hj).imp (fun h => h) fun h => by omega⟩
      rw [cnd_b, if_neg (by simp), bind_eq f4, bind_eq e3, bind_eq extr_p0, bind_eq extr_p1, bind_eq f8, bind_eq f9, bind_eq neq_r, cnd_b, if_pos (by simpa using h0), bind_eq g2]
      exact e _
  · obtain ⟨Xn, en, rn, kn, _⟩ := Ref.out (H := H) h2 c2 rfl (fun j hj => by have := hlt j hj; omega) le (by omega)
    have hp : w.flush = (w, 15) := by unfold RS.flush; rw [hd]; rfl
    rw [hp]
    refine ⟨Xn, sl, ?_, rn, kn, fun j hj => .inl hj⟩
    rw [cnd_b, if_pos rfl, bind_eq f4]
    exact en _

end

end Go.Proofs.Ytahocinoohdagaa.A
