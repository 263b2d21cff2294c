/- The document's groups: texts in rows, and rows sorted. -/
import Derived.Test.YtmacmlpiheimhaaGrp4
namespace Go.Proofs.Ytmacmlpiheimhaa.A
set_option linter.unusedVariables false
set_option linter.unusedSimpArgs false
open Go.Proofs Go.Proofs.Ytmacmlpiheimhaa

open Go.Sort in
theorem ltsv {a c : Tx} {H : Heap} : bop .str .lss (strv a) (strv c) H = some (.bool (decide (a < c)), H) := by
  rw [← bytesLess_eq]
  show (sop .lss (⟨a.toArray⟩ : ByteArray) (⟨c.toArray⟩ : ByteArray)).map (·, H) = _
  unfold sop
  rw [ba_toList, ba_toList]
  rfl
open Go.Sort in
theorem gesv {a c : Tx} {H : Heap} : bop .str .geq (strv a) (strv c) H = some (.bool (!decide (a < c)), H) := by
  rw [← bytesLess_eq]
  show (sop .geq (⟨a.toArray⟩ : ByteArray) (⟨c.toArray⟩ : ByteArray)).map (·, H) = _
  unfold sop
  rw [ba_toList, ba_toList]
  rfl

theorem HLe.setN {H0 X : Heap} (h : HLe H0 X) {b : Nat} {o : AObj} (hb : H0.length ≤ b) : HLe H0 (X.set b o) := fun i v hi => by
  have := get_lt hi
  rw [List.getElem?_set_ne (by omega)]; exact h i v hi

section
variable {X X' H0 : Heap} {n : Nat} {v : Value} {l : List Tx} {x s : Tx}

/-! has -/

theorem has_do (hl : l.length ≤ 1000000) (hs : Sl X v (l.map strv)) : ∀ (t j : Nat), l.length - j = t → j ≤ l.length →
    loopM (c4 (F_ref10Has.l1 (R n))) [strv x, v, iv l.length, iv j] X = some (if x ∈ l.drop j then .ret (.bool true) else .ext 0 [], X)
  | 0, j, ht, hj => by
    rw [List.drop_eq_nil_of_le (by omega)]
    refine loop_ext ?_
    rw [c4_r, show j = l.length by omega]
    unfold F_ref10Has.l1
    rw [bind_eq lss_r, cnd_b, if_neg (by simp)]
    rfl
  | t + 1, j, ht, hj => by
    have hkl : j < l.length := by omega
    have hlt : (j : Int) < l.length := by omega
    have hg := List.getElem?_eq_getElem hkl
    have hd := List.drop_eq_getElem_cons hkl
    generalize l[j] = y at hg hd
    have x1 := hs.ix (i := j) (by simpa using hkl) .i64 X
    have x2 := hs.ldx (row_at hg)
    have x3 : bop .str .eql (strv y) (strv x) X = some (.bool (y == x), X) := eqs_v
    rw [hd]
    by_cases hyx : y = x
    · rw [if_pos (by simp [hyx])]
      refine loop_ret ?_
      rw [c4_r]
      unfold F_ref10Has.l1
      rw [bind_eq lss_r, cnd_b, if_pos (by simpa using hlt), bind_eq x1, bind_eq x2, bind_eq x3, cnd_b, if_pos (by simpa using hyx)]
      rfl
    · have : (x ∈ y :: l.drop (j + 1)) ↔ x ∈ l.drop (j + 1) := by simp [Ne.symm hyx]
      simp only [this]
      refine (loop_next ?_).trans (has_do hl hs t (j + 1) (by omega) (by omega))
      rw [c4_r]
      unfold F_ref10Has.l1
      rw [bind_eq lss_r, cnd_b, if_pos (by simpa using hlt), bind_eq x1, bind_eq x2, bind_eq x3, cnd_b, if_neg (by simpa using hyx), bind_eq add_r, wsuc (by omega)]
      rfl

theorem r_rhas (hl : l.length ≤ 1000000) (hs : Sl X v (l.map strv)) : R (n + 1) n_ref10Has [v, strv x] X = some (.bool (decide (x ∈ l)), X) := by
  have e := has_do (n := n) (x := x) hl hs l.length 0 (by omega) (by omega)
  rw [show iv ((0 : Nat) : Int) = .int .i64 0 from rfl, List.drop_zero] at e
  have hlen : lenS v X = some (iv l.length, X) := by have := hs.len (H' := X); simpa using this
  rw [R, run_ref10Has rfl]
  unfold F_ref10Has
  rw [bind_eq hlen]
  by_cases h : x ∈ l
  · rw [if_pos h] at e
    rw [jn_ret e, decide_eq_true h]; rfl
  · rw [if_neg h] at e
    rw [jn_ext e, xk_hit, decide_eq_false h]; rfl

theorem hasL_do (hl : l.length ≤ 1000000) (hs : Sl X v (l.map strv)) : ∀ (t j : Nat), l.length - j = t → j ≤ l.length →
    loopM (c4 (F_law10Has.l1 (R n))) [strv x, v, iv l.length, iv j] X = some (if x ∈ l.drop j then .ret (.bool true) else .ext 0 [], X)
  | 0, j, ht, hj => by
    rw [List.drop_eq_nil_of_le (by omega)]
    refine loop_ext ?_
    rw [c4_r, show j = l.length by omega]
    unfold F_law10Has.l1
    rw [bind_eq lss_r, cnd_b, if_neg (by simp)]
    rfl
  | t + 1, j, ht, hj => by
    have hkl : j < l.length := by omega
    have hlt : (j : Int) < l.length := by omega
    have hg := List.getElem?_eq_getElem hkl
    have hd := List.drop_eq_getElem_cons hkl
    generalize l[j] = y at hg hd
    have x1 := hs.ix (i := j) (by simpa using hkl) .i64 X
    have x2 := hs.ldx (row_at hg)
    have x3 : bop .str .eql (strv y) (strv x) X = some (.bool (y == x), X) := eqs_v
    rw [hd]
    by_cases hyx : y = x
    · rw [if_pos (by simp [hyx])]
      refine loop_ret ?_
      rw [c4_r]
      unfold F_law10Has.l1
      rw [bind_eq lss_r, cnd_b, if_pos (by simpa using hlt), bind_eq x1, bind_eq x2, bind_eq x3, cnd_b, if_pos (by simpa using hyx)]
      rfl
    · have : (x ∈ y :: l.drop (j + 1)) ↔ x ∈ l.drop (j + 1) := by simp [Ne.symm hyx]
      simp only [this]
      refine (loop_next ?_).trans (hasL_do hl hs t (j + 1) (by omega) (by omega))
      rw [c4_r]
      unfold F_law10Has.l1
      rw [bind_eq lss_r, cnd_b, if_pos (by simpa using hlt), bind_eq x1, bind_eq x2, bind_eq x3, cnd_b, if_neg (by simpa using hyx), bind_eq add_r, wsuc (by omega)]
      rfl

theorem r_lhas (hl : l.length ≤ 1000000) (hs : Sl X v (l.map strv)) : R (n + 1) n_law10Has [v, strv x] X = some (.bool (decide (x ∈ l)), X) := by
  have e := hasL_do (n := n) (x := x) hl hs l.length 0 (by omega) (by omega)
  rw [show iv ((0 : Nat) : Int) = .int .i64 0 from rfl, List.drop_zero] at e
  have hlen : lenS v X = some (iv l.length, X) := by have := hs.len (H' := X); simpa using this
  rw [R, run_law10Has rfl]
  unfold F_law10Has
  rw [bind_eq hlen]
  by_cases h : x ∈ l
  · rw [if_pos h] at e
    rw [jn_ret e, decide_eq_true h]; rfl
  · rw [if_neg h] at e
    rw [jn_ext e, xk_hit, decide_eq_false h]; rfl

/-! sorted -/

theorem spush {sl : Value} {rows : List Tx} {q : List Nat} {u : Tx} (hr : RowS X sl (rows.map strv) q) (hl : rows.length ≤ 100000) (hq : ∀ j ∈ q, H0.length ≤ j) (h0 : HLe H0 X) :
    ∃ w X1 sl' X2 q', bsl 1 1 (.string ⟨#[]⟩) [(0, 1, strv u)] X = some (w, X1) ∧ app 1 16 sl w X1 = some (sl', X2) ∧ RowS X2 sl' ((rows ++ [u]).map strv) q' ∧ HLe H0 X2 ∧ (∀ j ∈ q', H0.length ≤ j) ∧ Step q X q' X2 := by
  have l1 : HLe X (X ++ [.cells [strv u] 1 false false]) := .app _ _
  have s1 := (one_S (x := u) (H := X)).rd
  have e1 := bslS (x := u) (H := X)
  generalize X ++ [AObj.cells [strv u] 1 false false] = X1 at l1 s1 e1
  have hr1 := hr.step l1.step (by simp)
  obtain ⟨sl', X2, q', x5, hn2, s2, _⟩ := hr1.push (b := 16) s1 (by simp; omega) (by simp; omega)
  have hm := (h0.trans l1).more s2 hq
  exact ⟨_, X1, sl', X2, q', e1, x5, by rw [List.map_append]; exact hn2, hm.1, hm.2, (l1.step.more (by simp) (fun j hj => .inl hj)).trans s2⟩

def midT (s : Tx) : List Tx → Bool → List Tx
  | [], _ => []
  | t :: l, d => if (!d && decide (s < t)) = true then s :: t :: midT s l true else t :: midT s l d

def doneT (s : Tx) : List Tx → Bool → Bool
  | [], d => d
  | t :: l, d => doneT s l (d || decide (s < t))

theorem midT_true {s : Tx} : ∀ {l : List Tx}, midT s l true = l ∧ doneT s l true = true
  | [] => ⟨rfl, rfl⟩
  | t :: l => by
    have : midT s l true = l ∧ doneT s l true = true := midT_true
    simp [midT, doneT, this.1, this.2]

def insT (s : Tx) (l : List Tx) : List Tx := midT s l false ++ (if doneT s l false then [] else [s])

theorem insT_cons {t : Tx} {l : List Tx} : insT s (t :: l) = if s < t then s :: t :: l else t :: insT s l := by
  unfold insT
  by_cases h : s < t
  · simp [midT, doneT, h, (midT_true (s := s) (l := l)).1, (midT_true (s := s) (l := l)).2]
  · simp [midT, doneT, h]

theorem insT_len : ∀ {l : List Tx}, (insT s l).length = l.length + 1
  | [] => rfl
  | t :: l => by
    rw [insT_cons]
    split
    · rfl
    · rw [List.length_cons, insT_len]; rfl

theorem insT_mem : ∀ {l : List Tx}, x ∈ insT s l ↔ x = s ∨ x ∈ l
  | [] => by simp [insT, midT, doneT]
  | t :: l => by
    rw [insT_cons]
    split
    · simp
    · rw [List.mem_cons, insT_mem, List.mem_cons]
      constructor
      · rintro (h | h | h)
        · exact .inr (.inl h)
        · exact .inl h
        · exact .inr (.inr h)
      · rintro (h | h | h)
        · exact .inr (.inl h)
        · exact .inl h
        · exact .inr (.inr h)

theorem insT_asc : ∀ {l : List Tx}, Asc l → s ∉ l → Asc (insT s l)
  | [], _, _ => List.pairwise_singleton _ _
  | t :: l, h, hn => by
    obtain ⟨a1, a2⟩ := List.pairwise_cons.1 h
    simp only [List.mem_cons, not_or] at hn
    rw [insT_cons]
    split
    · rename_i hlt
      refine List.pairwise_cons.2 ⟨fun y hy => ?_, h⟩
      rcases List.mem_cons.1 hy with rfl | hy
      · exact hlt
      · exact List.lt_trans hlt (a1 y hy)
    · rename_i hlt
      have hts : t < s := Decidable.byContradiction fun h6 => hn.1 (List.le_antisymm (List.not_lt.1 h6) (List.not_lt.1 hlt))
      refine List.pairwise_cons.2 ⟨fun y hy => ?_, insT_asc a2 hn.2⟩
      rcases insT_mem.1 hy with rfl | hy
      · exact hts
      · exact a1 y hy

theorem sort2_do {us : List Tx} {uv z10 z11 z12 : Value} (hu : us.length ≤ 1000) (hA : Sl H0 uv (us.map strv)) : ∀ (t j : Nat) (sl : Value) (q : List Nat) (acc : List Tx) (done : Bool) (X : Heap), us.length - j = t → j ≤ us.length → acc.length ≤ 2 * j → HLe H0 X → (∀ i ∈ q, H0.length ≤ i) → RowS X sl (acc.map strv) q →
    ∃ X' sl' q', loopM (c9 (F_ref10Sorted.l2 (R n))) [strv s, sl, .bool done, z10, z11, z12, uv, iv us.length, iv j] X = some (.ext 2 [strv s, sl', .bool (doneT s (us.drop j) done), z10, z11, z12], X') ∧ RowS X' sl' ((acc ++ midT s (us.drop j) done).map strv) q' ∧ HLe H0 X' ∧ ∀ i ∈ q', H0.length ≤ i
  | 0, j, sl, q, acc, done, X, ht, hj, ha, hle, hq, hr => by
    have : j = us.length := by omega
    rw [this, List.drop_length]
    refine ⟨X, sl, q, loop_ext ?_, by simpa [midT] using hr, hle, hq⟩
    rw [c9_r]
    unfold F_ref10Sorted.l2
    rw [bind_eq lss_r, cnd_b, if_neg (by simp)]
    rfl
  | t + 1, j, sl, q, acc, done, X, ht, hj, ha, hle, hq, hr => by
    have hkl : j < us.length := by omega
    have hlt : (j : Int) < us.length := by omega
    have hg := List.getElem?_eq_getElem hkl
    have hd := List.drop_eq_getElem_cons hkl
    generalize us[j] = y at hg hd
    have hA' := hA.mono hle
    have x1 := hA'.ix (i := j) (by simpa using hkl) .i64 X
    have x2 := hA'.ldx (row_at hg)
    have hgate : ∀ K : Value → M Out, bind (uop .not (.bool done)) (fun v26x10 => bind (gate v26x10 true 3 (bind (bop .str .lss (strv s) (strv y)) fun v30x11 => ret [strv s, strv y, v30x11])) (c3 fun _ _ q12_2 => bind (pick v26x10 q12_2 (Value.bool false)) K)) X = K (.bool (!done && decide (s < y))) X := fun K => by
      rw [bind_eq not_r]
      cases done
      · simp only [Bool.not_false]
        rw [b_g_in, b_assoc, bind_eq ltsv, b_ret, c3_r, bind_eq pick_r]
        rfl
      · simp only [Bool.not_true]
        rw [bind_eq (g_r.trans (if_neg (by simp)))]
        simp only [List.replicate]
        rw [c3_r, bind_eq pick_r]
        rfl
    rw [hd]
    cases hb : (!done && decide (s < y))
    · obtain ⟨w, X1, sl1, X2, q2, a1, a2, r2, l2, o2, _⟩ := spush (u := y) hr (by omega) hq hle
      have hdone : (done || decide (s < y)) = done := by cases done <;> simp at hb ⊢ <;> exact hb
      obtain ⟨X3, sl3, q3, e3, r3, l3, o3⟩ := sort2_do hu hA t (j + 1) sl1 q2 (acc ++ [y]) done X2 (by omega) (by omega) (by simp; omega) l2 o2 r2
      refine ⟨X3, sl3, q3, (loop_next ?_).trans (e3.trans ?_), ?_, l3, o3⟩
      · rw [c9_r]
        unfold F_ref10Sorted.l2
        rw [bind_eq lss_r, cnd_b, if_pos (by simpa using hlt), bind_eq x1, bind_eq x2]
        refine (hgate _).trans ?_
        rw [hb]
        refine (jn_nrm (vs := [strv s, sl, .bool done, strv y, z10, z11, z12, uv, iv us.length, iv j]) (H' := X) ?_).trans ?_
        · rw [cnd_b, if_neg (by simp)]; rfl
        · rw [c10_r, bind_eq a1, bind_eq a2, bind_eq add_r, wsuc (by omega)]; rfl
      · simp only [doneT, hdone]
      · simp only [midT, hb]
        simpa using r3
    · obtain ⟨w, X1, sl1, X2, q2, a1, a2, r2, l2, o2, _⟩ := spush (u := s) hr (by omega) hq hle
      obtain ⟨w', X1', sl1', X2', q2', a1', a2', r2', l2', o2', _⟩ := spush (u := y) r2 (by simp; omega) o2 l2
      have hdone : done = false ∧ s < y := by simpa using hb
      obtain ⟨X3, sl3, q3, e3, r3, l3, o3⟩ := sort2_do hu hA t (j + 1) sl1' q2' (acc ++ [s] ++ [y]) true X2' (by omega) (by omega) (by simp; omega) l2' o2' r2'
      refine ⟨X3, sl3, q3, (loop_next ?_).trans (e3.trans ?_), ?_, l3, o3⟩
      · rw [c9_r]
        unfold F_ref10Sorted.l2
        rw [bind_eq lss_r, cnd_b, if_pos (by simpa using hlt), bind_eq x1, bind_eq x2]
        refine (hgate _).trans ?_
        rw [hb]
        refine (jn_nrm (vs := [strv s, sl1, .bool true, strv y, z10, z11, z12, uv, iv us.length, iv j]) (H' := X2) ?_).trans ?_
        · rw [cnd_b, if_pos rfl, bind_eq a1, bind_eq a2]; rfl
        · rw [c10_r, bind_eq a1', bind_eq a2', bind_eq add_r, wsuc (by omega)]; rfl
      · simp only [doneT, hdone.2, decide_true, Bool.or_true]
      · simp only [midT, hb, if_true]
        simpa using r3

theorem sort1_do {lv : Value} (hl : l.length ≤ 500) (hA : Sl H0 lv (l.map strv)) : ∀ (t j : Nat) (sl : Value) (q : List Nat) (acc : List Tx) (X : Heap), l.length - j = t → j ≤ l.length → acc.length ≤ j → HLe H0 X → (∀ i ∈ q, H0.length ≤ i) → RowS X sl (acc.map strv) q → Is acc (· ∈ l.take j) →
    ∃ X' sl' q' acc', loopM (c4 (F_ref10Sorted.l1 (R (n + 1)))) [sl, lv, iv l.length, iv j] X = some (.ext 0 [sl'], X') ∧ RowS X' sl' (acc'.map strv) q' ∧ Is acc' (· ∈ l) ∧ acc'.length ≤ l.length ∧ HLe H0 X' ∧ ∀ i ∈ q', H0.length ≤ i
  | 0, j, sl, q, acc, X, ht, hj, ha, hle, hq, hr, hI => by
    have : j = l.length := by omega
    subst this
    rw [List.take_length] at hI
    refine ⟨X, sl, q, acc, loop_ext ?_, hr, hI, ha, hle, hq⟩
    rw [c4_r]
    unfold F_ref10Sorted.l1
    rw [bind_eq lss_r, cnd_b, if_neg (by simp)]
    rfl
  | t + 1, j, sl, q, acc, X, ht, hj, ha, hle, hq, hr, hI => by
    have hkl : j < l.length := by omega
    have hlt : (j : Int) < l.length := by omega
    have hg := List.getElem?_eq_getElem hkl
    generalize l[j] = y at hg
    have hA' := hA.mono hle
    have x1 := hA'.ix (i := j) (by simpa using hkl) .i64 X
    have x2 := hA'.ldx (row_at hg)
    have x3 : R (n + 1) n_ref10Has [sl, strv y] X = _ := r_rhas (x := y) (by omega) hr.rd
    have hlenS : lenS sl X = some (iv acc.length, X) := by have := hr.rd.len (H' := X); simpa using this
    by_cases hy : y ∈ acc
    · rw [decide_eq_true hy] at x3
      have hI' : Is acc (· ∈ l.take (j + 1)) := ⟨hI.asc, fun z => by
        rw [take_in hg, hI.mem z]
        constructor
        · exact .inl
        · rintro (h | rfl)
          · exact h
          · exact (hI.mem _).1 hy⟩
      obtain ⟨X3, sl3, q3, acc3, e3, r3⟩ := sort1_do hl hA t (j + 1) sl q acc X (by omega) (by omega) (by omega) hle hq hr hI'
      refine ⟨X3, sl3, q3, acc3, (loop_next ?_).trans e3, r3⟩
      rw [c4_r]
      unfold F_ref10Sorted.l1
      rw [bind_eq lss_r, cnd_b, if_pos (by simpa using hlt)]
      refine (jn_nrm (vs := [sl, lv, iv l.length, iv j]) (H' := X) ?_).trans ?_
      · rw [bind_eq x1, bind_eq x2, bind_eq x3, cnd_b, if_pos rfl]; rfl
      · rw [c4_r, bind_eq add_r, wsuc (by omega)]; rfl
    · rw [decide_eq_false hy] at x3
      have hq2 : ∀ i ∈ ([] : List Nat), X.length ≤ i := by simp
      obtain ⟨X1, sl1, q1, e1, r1, l1, o1⟩ := sort2_do (n := n + 1) (s := y) (z10 := lv) (z11 := iv l.length) (z12 := iv j) (by omega) hr.rd acc.length 0 (.slice none 0 0) [] [] false X (by omega) (by omega) (by simp) (.refl _) hq2 RowS.nil
      rw [show iv ((0 : Nat) : Int) = .int .i64 0 from rfl, List.drop_zero] at e1
      rw [List.drop_zero, List.nil_append] at r1
      have hI' : Is (insT y acc) (· ∈ l.take (j + 1)) := ⟨insT_asc hI.asc hy, fun z => by
        rw [take_in hg, insT_mem, hI.mem z]
        exact Or.comm⟩
      have lX1 := hle.trans l1
      obtain ⟨X2, sl2, q2, e2, r2, l2, o2⟩ : ∃ X2 sl2 q2, (bind (uop .not (.bool (doneT y acc false))) fun v42x23 => jn (cnd v42x23 (bind (bsl 1 1 (.string ⟨#[]⟩) [(0, 1, strv y)]) fun v45x24 => bind (app 1 16 sl1 v45x24) fun v46x25 => ret (.nrm [v46x25, lv, iv l.length, iv j])) (ret (.nrm [sl1, lv, iv l.length, iv j]))) (c4 fun q26_0 q26_1 q26_2 q26_3 => ret (.nrm [q26_0, q26_1, q26_2, q26_3])) noX retR : M Out) X1 = some (.nrm [sl2, lv, iv l.length, iv j], X2) ∧ RowS X2 sl2 ((insT y acc).map strv) q2 ∧ HLe H0 X2 ∧ ∀ i ∈ q2, H0.length ≤ i := by
        have o1' : ∀ i ∈ q1, H0.length ≤ i := fun i hi => Nat.le_trans hle.len (o1 i hi)
        unfold insT
        cases hdn : doneT y acc false
        · have hml : (midT y acc false).length ≤ 100000 := by
            have := insT_len (s := y) (l := acc)
            unfold insT at this
            rw [List.length_append] at this
            omega
          obtain ⟨w, Y1, sl2, X2, q2, a1, a2, r2, l2, o2, _⟩ := spush (u := y) r1 hml o1' lX1
          refine ⟨X2, sl2, q2, ?_, by simpa using r2, l2, o2⟩
          rw [bind_eq not_r]
          refine (jn_nrm (vs := [sl2, lv, iv l.length, iv j]) (H' := X2) ?_).trans rfl
          rw [cnd_b, if_pos (by rfl), bind_eq a1, bind_eq a2]; rfl
        · refine ⟨X1, sl1, q1, ?_, by simpa using r1, lX1, o1'⟩
          rw [bind_eq not_r]
          refine (jn_nrm (vs := [sl1, lv, iv l.length, iv j]) (H' := X1) ?_).trans rfl
          rw [cnd_b, if_neg (by simp)]; rfl
      obtain ⟨X3, sl3, q3, acc3, e3, r3⟩ := sort1_do hl hA t (j + 1) sl2 q2 (insT y acc) X2 (by omega) (by omega) (by rw [insT_len]; omega) l2 o2 r2 hI'
      refine ⟨X3, sl3, q3, acc3, (loop_next ?_).trans e3, r3⟩
      rw [c4_r]
      unfold F_ref10Sorted.l1
      rw [bind_eq lss_r, cnd_b, if_pos (by simpa using hlt)]
      refine (jn_nrm (vs := [sl2, lv, iv l.length, iv j]) (H' := X2) ?_).trans ?_
      · rw [bind_eq x1, bind_eq x2, bind_eq x3, cnd_b, if_neg (by simp), bind_eq hlenS, jn_ext e1, xk_hit, c6_r]
        exact e2
      · rw [c4_r, bind_eq add_r, wsuc (by omega)]; rfl

theorem r_sorted (hl : l.length ≤ 500) (hA : Sl X v (l.map strv)) : ∃ X' v' q' l', R (n + 2) n_ref10Sorted [v] X = some (v', X') ∧ RowS X' v' (l'.map strv) q' ∧ Is l' (· ∈ l) ∧ l'.length ≤ l.length ∧ HLe X X' ∧ ∀ i ∈ q', X.length ≤ i := by
  obtain ⟨X', sl, q, acc, e, r⟩ := sort1_do (n := n) hl hA l.length 0 (.slice none 0 0) [] [] X (by omega) (by omega) (by simp) (.refl _) (by simp) RowS.nil ⟨List.Pairwise.nil, by simp⟩
  rw [show iv ((0 : Nat) : Int) = .int .i64 0 from rfl] at e
  have hlen : lenS v X = some (iv l.length, X) := by have := hA.len (H' := X); simpa using this
  refine ⟨X', sl, q, acc, ?_, r⟩
  rw [R, run_ref10Sorted rfl]
  unfold F_ref10Sorted
  rw [bind_eq hlen, jn_ext e, xk_hit]
  rfl

end

end Go.Proofs.Ytmacmlpiheimhaa.A

/- The document's groups: who is in which, filtered. -/
namespace Go.Proofs.Ytmacmlpiheimhaa.A
set_option linter.unusedVariables false
set_option linter.unusedSimpArgs false
open Go.Proofs Go.Proofs.Ytmacmlpiheimhaa

abbrev Pr := Tx × Tx
def prG (u : Pr) : List Value := [strv u.1, strv u.2]
theorem prG_len (u : Pr) : (prG u).length = 2 := rfl
theorem prG_one (u : Pr) : (prG u).all oneCell = true := rfl

structure RG (X : Heap) (nv mv : Value) (N : List Tx) (M : List Pr) : Prop where
  n : ∃ q, RowS X nv (N.map strv) q
  m : ∃ q, RowN 2 X mv (M.map prG) q

section
variable {X X' H0 : Heap} {n : Nat} {v nv mv z1 z2 z3 z4 : Value} {N l : List Tx} {M : List Pr} {x s t k m : Tx}

theorem RG.hle (h : RG X nv mv N M) (hl : HLe X X') : RG X' nv mv N M := ⟨h.n.elim fun q h => ⟨q, h.step hl.step (by simp)⟩, h.m.elim fun q h => ⟨q, h.step hl.step (by simp)⟩⟩
theorem RG.sn (h : RG X nv mv N M) : Sl X nv (N.map strv) := h.n.elim fun q h => h.rd
theorem RG.sm (h : RG X nv mv N M) : SlN 2 X mv (M.map prG) := h.m.elim fun q h => h.rd
theorem RG.one (h : RG X nv mv N M) : ([nv, mv].all oneCell) = true ∧ nv.cells = #[nv] ∧ mv.cells = #[mv] := by
  obtain ⟨q, hn⟩ := h.n
  obtain ⟨q', hm⟩ := h.m
  exact ⟨by simp [hn.one.1, hm.one.1], hn.one.2, hm.one.2⟩
theorem RG.lenN (h : RG X nv mv N M) (Y : Heap) : lenS nv Y = some (iv N.length, Y) := by have := h.sn.len (H' := Y); simpa using this
theorem RG.lenM (h : RG X nv mv N M) (Y : Heap) : lenS mv Y = some (iv M.length, Y) := by have := h.sm.len (H' := Y); simpa using this
theorem RG.box (h : RG X nv mv N M) (Y : Heap) : alc 1 (.agg #[nv, mv]) Y = some (pt Y.length, Y ++ [.cells [nv, mv] 1 false false]) := alc_a (vs := [nv, mv]) h.one.1

theorem box0 (Y : Heap) : alc 1 (.agg #[.slice none 0 0, .slice none 0 0]) Y = some (pt Y.length, Y ++ [.cells [.slice none 0 0, .slice none 0 0] 1 false false]) := alc_a (vs := [.slice none 0 0, .slice none 0 0]) rfl

theorem pfetchG {β : Type} {H : Heap} {sl : Value} {K : Value → A.M β} {us : List Pr} {j : Nat} {u : Pr} (h : SlN 2 H sl (us.map prG)) (hj : us[j]? = some u) :
    bind (ixa 2 sl (iv j)) (fun p => bind (ldA 2 p) fun v => bind (alc 1 (.agg #[.string ⟨#[]⟩, .string ⟨#[]⟩])) fun q => bind (stA 2 q v) fun _ => K q) H = K (pt H.length) (H ++ [.cells (prG u) 1 false false]) := by
  have hr : (us.map prG)[j]? = some (prG u) := by rw [List.getElem?_map, hj]; rfl
  rw [h.fetch hr (by omega) .i64]
  exact box_a (n := 2) (zs := [.string ⟨#[]⟩, .string ⟨#[]⟩]) (r := prG u) rfl rfl rfl rfl

theorem ppushG {sl : Value} {rows : List Pr} {q : List Nat} {u : Pr} (hr : RowN 2 X sl (rows.map prG) q) (hl : rows.length ≤ 10000) (hq : ∀ j ∈ q, H0.length ≤ j) (h0 : HLe H0 X) :
    ∃ w X1 sl' X2 q', bsl 2 1 (.agg #[.string ⟨#[]⟩, .string ⟨#[]⟩]) [(0, 2, .agg (prG u).toArray)] X = some (w, X1) ∧ app 2 32 sl w X1 = some (sl', X2) ∧ RowN 2 X2 sl' ((rows ++ [u]).map prG) q' ∧ HLe H0 X2 ∧ (∀ j ∈ q', H0.length ≤ j) ∧ Step q X q' X2 := by
  have x4 := bsl_a (es := 2) (z := .agg #[.string ⟨#[]⟩, .string ⟨#[]⟩]) (H := X) rfl (prG_len u) (prG_one u)
  have l1 : HLe X (X ++ [AObj.cells (prG u) 2 false false]) := .app _ _
  have s1 : SlN 2 (X ++ [AObj.cells (prG u) 2 false false]) (.slice (some ⟨X.length, 0, none⟩) 1 1) [prG u] := SlN.whole (rows := [prG u]) (c := 1) (e := 2) (g := false) (ro := false) (by rw [app_new]; simp) (by simp [prG_len])
  generalize X ++ [AObj.cells (prG u) 2 false false] = X1 at x4 l1 s1
  have hr1 : RowN 2 X1 sl _ q := hr.keep fun j hj => l1.step.keep j (hr.lt j hj) (by simp)
  obtain ⟨sl', X2, q', x5, hn2, s2⟩ := hr1.push (b := 32) s1 (prG_len _) (by simp; omega) (by simp; omega)
  have hm := (h0.trans l1).more s2 hq
  exact ⟨_, X1, sl', X2, q', x4, x5, by rw [List.map_append]; exact hn2, hm.1, hm.2, (l1.step.more (by simp) (fun j hj => .inl hj)).trans s2⟩

theorem bldP : bld (.agg #[.string ⟨#[]⟩, .string ⟨#[]⟩]) [(0, 1, strv k), (1, 1, strv m)] X = some (.agg (prG (k, m)).toArray, X) := by
  simp [↓bind_andk, andk_some, ↓jn_outk, outk_nrm, outk_ext, outk_ret, ↓cnd_b, ret_r, nilc_r, fa_r, ldOne_r, ldA_r, stOne_r, stA_r, rdk_r, rdkA_r, wrk_r, wrkA_r, alc_r, lenS_r, lenT_r, cvi_r, pick_r, not_r, mx_r, mn_r, ixa_r, ixaA_r, bld_r, add_r, sub_r, mul_r, quo_r, rem_r, eql_r, neq_r, lss_r, leq_r, gtr_r, geq_r, eqb_r, neb_r, eqp_r, nep_r, ↓gv_r, gvn_r, ↓g_r, gn_r, isTup, bldC, splice, Value.cells, strv, prG, oneCell]

theorem bldS {a a' : Option Addr} {n1 c1 n2 c2 : Nat} : bld (.agg #[.slice none 0 0, .slice none 0 0]) [(0, 1, .slice a n1 c1), (1, 1, .slice a' n2 c2)] X = some (.agg #[.slice a n1 c1, .slice a' n2 c2], X) := by
  simp [↓bind_andk, andk_some, ↓jn_outk, outk_nrm, outk_ext, outk_ret, ↓cnd_b, ret_r, nilc_r, fa_r, ldOne_r, ldA_r, stOne_r, stA_r, rdk_r, rdkA_r, wrk_r, wrkA_r, alc_r, lenS_r, lenT_r, cvi_r, pick_r, not_r, mx_r, mn_r, ixa_r, ixaA_r, bld_r, add_r, sub_r, mul_r, quo_r, rem_r, eql_r, neq_r, lss_r, leq_r, gtr_r, geq_r, eqb_r, neb_r, eqp_r, nep_r, ↓gv_r, gvn_r, ↓g_r, gn_r, isTup, bldC, splice, Value.cells]

theorem RowS.isS {vs : List Value} {q : List Nat} (h : RowS X v vs q) : ∃ a n c, v = .slice a n c := by
  rcases h with ⟨_, _, rfl⟩ | ⟨sid, rest, gr, rfl, _, _⟩
  · exact ⟨_, _, _, rfl⟩
  · exact ⟨_, _, _, rfl⟩
theorem RowN.isS {es : Nat} {vs : List (List Value)} {q : List Nat} (h : RowN es X v vs q) : ∃ a n c, v = .slice a n c := by
  rcases h with ⟨_, _, rfl⟩ | ⟨sid, rest, r, gr, rfl, _, _⟩
  · exact ⟨_, _, _, rfl⟩
  · exact ⟨_, _, _, rfl⟩

/-! in -/

theorem in_doG (hl : M.length ≤ 1000000) (hs : SlN 2 H0 mv (M.map prG)) : ∀ (t j : Nat) (X : Heap), M.length - j = t → j ≤ M.length → HLe H0 X →
    ∃ X', loopM (c5 (F_ref10In.l1 (R n))) [strv k, strv m, mv, iv M.length, iv j] X = some (if (k, m) ∈ M.drop j then .ret (.bool true) else .ext 0 [], X') ∧ HLe X X'
  | 0, j, X, ht, hj, hle => by
    rw [List.drop_eq_nil_of_le (by omega)]
    refine ⟨X, loop_ext ?_, .refl _⟩
    rw [c5_r, show j = M.length by omega]
    unfold F_ref10In.l1
    rw [bind_eq lss_r, cnd_b, if_neg (by simp)]
    rfl
  | t + 1, j, X, ht, hj, hle => by
    have hkl : j < M.length := by omega
    have hlt : (j : Int) < M.length := by omega
    have hg := List.getElem?_eq_getElem hkl
    have hd := List.drop_eq_getElem_cons hkl
    generalize M[j] = u at hg hd
    have hf := fun {K : Value → A.M Out} => pfetchG (K := K) (hs.mono hle) hg
    have bx : (X ++ [AObj.cells (prG u) 1 false false])[X.length]? = some (.cells (prG u) 1 false false) := app_new
    have l1 : HLe X (X ++ [AObj.cells (prG u) 1 false false]) := .app _ _
    generalize X ++ [AObj.cells (prG u) 1 false false] = X1 at hf bx l1
    have d0 : ld1 (pa X.length 0) X1 = some (strv u.1, X1) := ld1_at bx rfl
    have d1 : ld1 (pa X.length 1) X1 = some (strv u.2, X1) := ld1_at bx rfl
    have hgate : ∀ K : Value → A.M Out, bind (bop .str .eql (strv u.1) (strv k)) (fun v19x11 => bind (gate v19x11 true 4 (bind (fa 1 (pt X.length)) fun v21x12 => bind (ld1 v21x12) fun v22x13 => bind (bop .str .eql v22x13 (strv m)) fun v24x14 => ret [v21x12, v22x13, strv m, v24x14])) (c4 fun _ _ _ q15_3 => bind (pick v19x11 q15_3 (Value.bool false)) K)) X1 = K (.bool (u.1 == k && u.2 == m)) X1 := fun K => by
      rw [bind_eq eqs_v]
      cases u.1 == k
      · rw [bind_eq (g_r.trans (if_neg (by simp)))]
        simp only [List.replicate]
        rw [c4_r, bind_eq pick_r]; rfl
      · rw [b_g_in, b_assoc, bind_eq fa_z, b_assoc, bind_eq d1, b_assoc, bind_eq eqs_v, b_ret, c4_r, bind_eq pick_r]
        rfl
    rw [hd]
    by_cases hu : u = (k, m)
    · rw [if_pos (by simp [hu])]
      refine ⟨X1, loop_ret ?_, l1⟩
      rw [c5_r]
      unfold F_ref10In.l1
      rw [bind_eq lss_r, cnd_b, if_pos (by simpa using hlt), hf, bind_eq fa_z, bind_eq d0]
      refine (hgate _).trans ?_
      rw [cnd_b, if_pos (by simp [hu])]
      rfl
    · have hiff : ((k, m) ∈ u :: M.drop (j + 1)) ↔ (k, m) ∈ M.drop (j + 1) := by simp [Ne.symm hu]
      simp only [hiff]
      have hb : (u.1 == k && u.2 == m) = false := by
        cases h1 : (u.1 == k && u.2 == m) with
        | false => rfl
        | true =>
          simp only [Bool.and_eq_true, beq_iff_eq] at h1
          exact absurd (Prod.ext h1.1 h1.2) hu
      obtain ⟨X2, e2, l2⟩ := in_doG hl hs t (j + 1) X1 (by omega) (by omega) (hle.trans l1)
      refine ⟨X2, (loop_next ?_).trans e2, l1.trans l2⟩
      rw [c5_r]
      unfold F_ref10In.l1
      rw [bind_eq lss_r, cnd_b, if_pos (by simpa using hlt), hf, bind_eq fa_z, bind_eq d0]
      refine (hgate _).trans ?_
      rw [hb, cnd_b, if_neg (by simp), bind_eq add_r, wsuc (by omega)]
      rfl

theorem r_rin (h : RG X nv mv N M) (hl : M.length ≤ 1000000) : ∃ X', R (n + 1) n_ref10In [.agg #[nv, mv], strv k, strv m] X = some (.bool (decide ((k, m) ∈ M)), X') ∧ HLe X X' := by
  have e1 := h.box X
  have l1 : HLe X (X ++ [AObj.cells [nv, mv] 1 false false]) := .app _ _
  have b1 : (X ++ [AObj.cells [nv, mv] 1 false false])[X.length]? = some (.cells [nv, mv] 1 false false) := app_new
  generalize X ++ [AObj.cells [nv, mv] 1 false false] = X1 at e1 l1 b1
  have d1 : ld1 (pa X.length 1) X1 = some (mv, X1) := ld1_at b1 rfl
  obtain ⟨X2, e2, l2⟩ := in_doG (n := n) (k := k) (m := m) hl h.sm M.length 0 X1 (by omega) (by omega) l1
  rw [show iv ((0 : Nat) : Int) = .int .i64 0 from rfl, List.drop_zero] at e2
  refine ⟨X2, ?_, l1.trans l2⟩
  rw [R, run_ref10In rfl]
  unfold F_ref10In
  rw [bind_eq e1, bind_eq fa_z, bind_eq d1, bind_eq (h.lenM _)]
  by_cases hm : (k, m) ∈ M
  · rw [if_pos hm] at e2
    rw [jn_ret e2, decide_eq_true hm]; rfl
  · rw [if_neg hm] at e2
    rw [jn_ext e2, xk_hit, decide_eq_false hm]; rfl

/-! without -/

def noP (k m : Tx) (u : Pr) : Bool := !(u.1 == k) || !(u.2 == m)

theorem wo_do (hl : M.length ≤ 1000) (hs : SlN 2 H0 mv (M.map prG)) : ∀ (t j : Nat) (sl : Value) (q : List Nat) (acc : List Pr) (X : Heap), M.length - j = t → j ≤ M.length → acc.length ≤ j → HLe H0 X → (∀ i ∈ q, H0.length ≤ i) → RowN 2 X sl (acc.map prG) q →
    ∃ X' sl' q', loopM (c8 (F_ref10Without.l1 (R n))) [strv k, strv m, z1, z2, sl, mv, iv M.length, iv j] X = some (.ext 0 [z1, z2, sl'], X') ∧ RowN 2 X' sl' ((acc ++ (M.drop j).filter (noP k m)).map prG) q' ∧ Step q X q' X' ∧ ∀ i ∈ q', H0.length ≤ i
  | 0, j, sl, q, acc, X, ht, hj, ha, hle, hq, hr => by
    rw [List.drop_eq_nil_of_le (by omega)]
    refine ⟨X, sl, q, loop_ext ?_, by simpa using hr, .refl _ _, hq⟩
    rw [c8_r, show j = M.length by omega]
    unfold F_ref10Without.l1
    rw [bind_eq lss_r, cnd_b, if_neg (by simp)]
    rfl
  | t + 1, j, sl, q, acc, X, ht, hj, ha, hle, hq, hr => by
    have hkl : j < M.length := by omega
    have hlt : (j : Int) < M.length := by omega
    have hg := List.getElem?_eq_getElem hkl
    have hd := List.drop_eq_getElem_cons hkl
    generalize M[j] = u at hg hd
    have hf := fun {K : Value → A.M Out} => pfetchG (K := K) (hs.mono hle) hg
    have bx : (X ++ [AObj.cells (prG u) 1 false false])[X.length]? = some (.cells (prG u) 1 false false) := app_new
    have l1 : HLe X (X ++ [AObj.cells (prG u) 1 false false]) := .app _ _
    generalize X ++ [AObj.cells (prG u) 1 false false] = X1 at hf bx l1
    have hr1 := hr.step l1.step (by simp)
    have d0 : ld1 (pa X.length 0) X1 = some (strv u.1, X1) := ld1_at bx rfl
    have d1 : ld1 (pa X.length 1) X1 = some (strv u.2, X1) := ld1_at bx rfl
    have dA : ldA 2 (pt X.length) X1 = some (.agg (prG u).toArray, X1) := ldA_at bx rfl
    have hgate : ∀ K : Value → A.M Out, bind (bop .str .neq (strv u.1) (strv k)) (fun v20x12 => bind (gate v20x12 false 4 (bind (fa 1 (pt X.length)) fun v22x13 => bind (ld1 v22x13) fun v23x14 => bind (bop .str .neq v23x14 (strv m)) fun v25x15 => ret [v22x13, v23x14, strv m, v25x15])) (c4 fun _ _ _ q16_3 => bind (pick v20x12 (Value.bool true) q16_3) K)) X1 = K (.bool (noP k m u)) X1 := fun K => by
      unfold noP
      rw [bind_eq nes_v]
      cases !(u.1 == k)
      · rw [b_g_in, b_assoc, bind_eq fa_z, b_assoc, bind_eq d1, b_assoc, bind_eq nes_v, b_ret, c4_r, bind_eq pick_r]
        rfl
      · rw [bind_eq (g_r.trans (if_neg (by simp)))]
        simp only [List.replicate]
        rw [c4_r, bind_eq pick_r]; rfl
    rw [hd, List.filter_cons]
    cases hb : noP k m u
    · obtain ⟨X2, sl2, q2, e2, r2, s2, o2⟩ := wo_do hl hs t (j + 1) sl q acc X1 (by omega) (by omega) (by omega) (hle.trans l1) hq hr1
      refine ⟨X2, sl2, q2, (loop_next ?_).trans e2, by simpa using r2, l1.stepq.trans s2, o2⟩
      rw [c8_r]
      unfold F_ref10Without.l1
      rw [bind_eq lss_r, cnd_b, if_pos (by simpa using hlt), hf, bind_eq fa_z, bind_eq d0]
      refine (hgate _).trans ?_
      rw [hb]
      refine (jn_nrm (vs := [strv k, strv m, z1, z2, sl, mv, iv M.length, iv j]) (H' := X1) ?_).trans ?_
      · rw [cnd_b, if_neg (by simp)]; rfl
      · rw [c8_r, bind_eq add_r, wsuc (by omega)]; rfl
    · obtain ⟨w, Y, sl1, X2, q1, a1, a2, r1, l2, o1, s1⟩ := ppushG (u := u) hr1 (by omega) hq (hle.trans l1)
      obtain ⟨X3, sl2, q2, e2, r2, s2, o2⟩ := wo_do hl hs t (j + 1) sl1 q1 (acc ++ [u]) X2 (by omega) (by omega) (by simp; omega) l2 o1 r1
      refine ⟨X3, sl2, q2, (loop_next ?_).trans e2, by simpa using r2, (l1.stepq.trans s1).trans s2, o2⟩
      rw [c8_r]
      unfold F_ref10Without.l1
      rw [bind_eq lss_r, cnd_b, if_pos (by simpa using hlt), hf, bind_eq fa_z, bind_eq d0]
      refine (hgate _).trans ?_
      rw [hb]
      refine (jn_nrm (vs := [strv k, strv m, z1, z2, sl1, mv, iv M.length, iv j]) (H' := X2) ?_).trans ?_
      · rw [cnd_b, if_pos rfl, bind_eq dA, bind_eq a1, bind_eq a2]; rfl
      · rw [c8_r, bind_eq add_r, wsuc (by omega)]; rfl

/-- The struct's boxes: one filled, one empty. -/
theorem boxes (h : RG X nv mv N M) : ∃ X2, (∀ {β : Type} (K : Value → Value → A.M β), bind (alc 1 (.agg #[nv, mv])) (fun a => bind (alc 1 (.agg #[.slice none 0 0, .slice none 0 0])) fun b => K a b) X = K (pt X.length) (pt (X.length + 1)) X2) ∧ X2[X.length]? = some (.cells [nv, mv] 1 false false) ∧ X2[X.length + 1]? = some (.cells [.slice none 0 0, .slice none 0 0] 1 false false) ∧ HLe X X2 ∧ X2.length = X.length + 2 := by
  refine ⟨X ++ [.cells [nv, mv] 1 false false] ++ [.cells [.slice none 0 0, .slice none 0 0] 1 false false], fun K => ?_, app2_0, app2_1, (HLe.app _ _).trans (.app _ _), by simp⟩
  rw [bind_eq (h.box X), bind_eq (box0 _)]
  simp

/-- What is given back: the struct goes through the second box. -/
theorem fin {b1 b2 : Nat} {a1 a2 c1 c2 : Value} (h1 : X[b1]? = some (.cells [a1, a2] 1 false false)) (h2 : X[b2]? = some (.cells [c1, c2] 1 false false)) (hn : b1 ≠ b2) (ho : ([a1, a2].all oneCell) = true) {β : Type} (K : Value → A.M β) :
    bind (ldA 2 (pt b1)) (fun v => bind (stA 2 (pt b2) v) fun _ => bind (ldA 2 (pt b2)) K) X = K (.agg #[a1, a2]) (X.set b2 (.cells [a1, a2] 1 false false)) := by
  have e1 : ldA 2 (pt b1) X = some (.agg #[a1, a2], X) := ldA_at h1 rfl
  have e2 : stA 2 (pt b2) (.agg #[a1, a2]) X = some (undef, X.set b2 (.cells [a1, a2] 1 false false)) := stA_at (vs := [a1, a2]) h2 rfl rfl ho
  have e3 : ldA 2 (pt b2) (X.set b2 (.cells [a1, a2] 1 false false)) = some (.agg #[a1, a2], X.set b2 (.cells [a1, a2] 1 false false)) := ldA_at (set_get h2) rfl
  rw [bind_eq e1, bind_eq e2, bind_eq e3]

theorem RowS.setB {vs : List Value} {q : List Nat} {b : Nat} {o : AObj} (h : RowS X v vs q) (hb : b ∉ q) : RowS (X.set b o) v vs q := h.keep fun j hj => List.getElem?_set_ne fun e => hb (by rw [e]; exact hj)
theorem RowN.setB {es : Nat} {vs : List (List Value)} {q : List Nat} {b : Nat} {o : AObj} (h : RowN es X v vs q) (hb : b ∉ q) : RowN es (X.set b o) v vs q := h.keep fun j hj => List.getElem?_set_ne fun e => hb (by rw [e]; exact hj)

theorem r_rwithout (h : RG X nv mv N M) (hl : M.length ≤ 1000) : ∃ X' mv', R (n + 1) n_ref10Without [.agg #[nv, mv], strv k, strv m] X = some (.agg #[nv, mv'], X') ∧ RG X' nv mv' N (M.filter (noP k m)) ∧ HLe X X' := by
  obtain ⟨X1, e1, b1, b2, l1, len1⟩ := boxes h
  have d1 : ld1 (pa X.length 1) X1 = some (mv, X1) := ld1_at b1 rfl
  obtain ⟨X2, sl, q, e2, r2, s2, o2⟩ := wo_do (n := n) (k := k) (m := m) (z1 := pt X.length) (z2 := pt (X.length + 1)) hl (h.hle l1).sm M.length 0 (.slice none 0 0) [] [] X1 (by omega) (by omega) (by simp) (.refl _) (by simp) RowN.nil
  rw [show iv ((0 : Nat) : Int) = .int .i64 0 from rfl] at e2
  rw [List.drop_zero, List.nil_append] at r2
  have l2 := s2.hle
  have c1 := l2 _ _ b1
  have c2 := l2 _ _ b2
  have w3 : st1 (pa X.length 1) sl X2 = some (undef, X2.set X.length (.cells [nv, sl] 1 false false)) := st1_at (cs := [nv, mv]) c1 (by simp) r2.one.1
  have c3 : (X2.set X.length (.cells [nv, sl] 1 false false))[X.length]? = some (.cells [nv, sl] 1 false false) := set_get c1
  have c4 : (X2.set X.length (.cells [nv, sl] 1 false false))[X.length + 1]? = some (.cells [.slice none 0 0, .slice none 0 0] 1 false false) := by rw [List.getElem?_set_ne (by omega)]; exact c2
  have hone : ([nv, sl].all oneCell) = true := by
    have := h.one.1
    simp only [List.all_cons, List.all_nil, Bool.and_true, Bool.and_eq_true] at this ⊢
    exact ⟨this.1, r2.one.1⟩
  have hnq : X.length ∉ q ∧ X.length + 1 ∉ q := ⟨fun hm => by have := o2 _ hm; omega, fun hm => by have := o2 _ hm; omega⟩
  have l12 := l1.trans l2
  refine ⟨(X2.set X.length (.cells [nv, sl] 1 false false)).set (X.length + 1) (.cells [nv, sl] 1 false false), sl, ?_, ⟨?_, q, (r2.setB hnq.1).setB hnq.2⟩, (l12.setN (Nat.le_refl _)).setN (by omega)⟩
  · rw [R, run_ref10Without rfl]
    unfold F_ref10Without
    refine (e1 _).trans ?_
    rw [bind_eq fa_z, bind_eq d1, bind_eq (h.lenM _), jn_ext e2, xk_hit, c3_r, bind_eq fa_z, bind_eq w3]
    exact fin c3 c4 (by omega) hone _
  · obtain ⟨qn, hn⟩ := h.n
    exact ⟨qn, (hn.step ((l12.setN (Nat.le_refl _)).setN (by omega) : HLe X _).step (by simp))⟩

end

end Go.Proofs.Ytmacmlpiheimhaa.A

/- The document's groups: made, dropped; who joins and leaves. -/
namespace Go.Proofs.Ytmacmlpiheimhaa.A
set_option linter.unusedVariables false
set_option linter.unusedSimpArgs false
open Go.Proofs Go.Proofs.Ytmacmlpiheimhaa

/-- The document's rows say what the groups are. -/
structure RefOK (N : List Tx) (M : List Pr) (K : List Tx) (mem : Mem) : Prop where
  n : Is N (· ∈ K)
  m : ∀ k x, (k, x) ∈ M ↔ mem k x = true

theorem isLen {N K : List Tx} (h : Is N (· ∈ K)) (hK : K.Nodup) : N.length = K.length :=
  ((List.perm_ext_iff_of_nodup h.asc.nodup hK).2 h.mem).length_eq

section
variable {X X' H0 : Heap} {n : Nat} {v nv mv z1 z2 z3 z4 : Value} {N l K : List Tx} {M : List Pr} {mem : Mem} {x s t k m : Tx}

/-- An error: the struct goes back as it came. -/
theorem finE (h : RG X nv mv N M) {X1 : Heap} (l1 : HLe X X1) {e : Int} (b1 : X1[X.length]? = some (.cells [nv, mv] 1 false false)) (b2 : X1[X.length + 1]? = some (.cells [.slice none 0 0, .slice none 0 0] 1 false false)) :
    ∃ X', (bind (ldA 2 (pt X.length)) fun v9x5 => bind (stA 2 (pt (X.length + 1)) v9x5) fun _ => bind (ldA 2 (pt (X.length + 1))) fun vrx6 => ret (Value.tuple #[vrx6, iv e])) X1 = some (.tuple #[.agg #[nv, mv], iv e], X') ∧ RG X' nv mv N M ∧ HLe X X' := by
  have l2 : HLe X (X1.set (X.length + 1) (.cells [nv, mv] 1 false false)) := l1.setN (by omega)
  exact ⟨_, fin b1 b2 (by omega) h.one.1 _, h.hle l2, l2⟩

theorem r_rmake (h : RG X nv mv N M) (hO : RefOK N M K mem) (hK : K.Nodup) (hN : N.length ≤ 100) : ∃ X' nv' N', R (n + 5) n_ref10Make [.agg #[nv, mv], strv k] X = some (.tuple #[.agg #[nv', mv], iv (errMake k K)], X') ∧ RG X' nv' mv N' M ∧ RefOK N' M (makeK k K) mem ∧ HLe X X' := by
  have f1 : ∀ r X', F_ref10Make (R (n + 4)) (.agg #[nv, mv]) (strv k) X = some (r, X') → R (n + 5) n_ref10Make [.agg #[nv, mv], strv k] X = some (r, X') := fun r X' hr => by rw [R, run_ref10Make rfl]; exact hr
  obtain ⟨X1, e1, b1, b2, l1, len1⟩ := boxes h
  have h1 := h.hle l1
  have e2 : ∀ Y : Heap, R (n + 4) n_ref05Name [strv k] Y = some (.bool (nameB k), Y) := fun Y => r_refName0 (n := n + 1)
  have d0 : ld1 (pa X.length 0) X1 = some (nv, X1) := ld1_at b1 rfl
  have e3 : R (n + 4) n_ref10Has [nv, strv k] X1 = _ := r_rhas (n := n + 3) (x := k) (by omega) h1.sn
  have hlen := isLen hO.n hK
  have same : ∀ e, errMake k K = e → e ≠ 0 → RefOK N M (makeK k K) mem := fun e he hne => by unfold makeK; rw [if_neg (by rw [he]; exact hne)]; exact hO
  cases hn : nameB k
  · have hE : errMake k K = 10 := by unfold errMake; rw [hn]; rfl
    obtain ⟨X2, e4, r4, l4⟩ := finE (e := 10) h l1 b1 b2
    refine ⟨X2, nv, N, by rw [hE]; refine f1 _ _ ?_; unfold F_ref10Make; refine (e1 _).trans ?_; rw [bind_eq (e2 _), hn, bind_eq not_r, cnd_b, if_pos (by rfl)]; exact e4, r4, same _ hE (by decide), l4⟩
  · by_cases hk : k ∈ K
    · have hE : errMake k K = 9 := by unfold errMake; rw [hn, if_pos rfl, if_pos hk]
      have hkN : k ∈ N := (hO.n.mem k).2 hk
      rw [decide_eq_true hkN] at e3
      obtain ⟨X2, e4, r4, l4⟩ := finE (e := 9) h l1 b1 b2
      refine ⟨X2, nv, N, by rw [hE]; refine f1 _ _ ?_; unfold F_ref10Make; refine (e1 _).trans ?_; rw [bind_eq (e2 _), hn, bind_eq not_r, cnd_b, if_neg (by simp), bind_eq fa_z, bind_eq d0, bind_eq e3, cnd_b, if_pos rfl]; exact e4, r4, same _ hE (by decide), l4⟩
    · have hkN : ¬ k ∈ N := fun hm => hk ((hO.n.mem k).1 hm)
      rw [decide_eq_false hkN] at e3
      by_cases hl : 6 ≤ K.length
      · have hE : errMake k K = 7 := by unfold errMake; rw [hn, if_pos rfl, if_neg hk, if_pos hl]
        obtain ⟨X2, e4, r4, l4⟩ := finE (e := 7) h l1 b1 b2
        refine ⟨X2, nv, N, by rw [hE]; refine f1 _ _ ?_; unfold F_ref10Make; refine (e1 _).trans ?_; rw [bind_eq (e2 _), hn, bind_eq not_r, cnd_b, if_neg (by simp), bind_eq fa_z, bind_eq d0, bind_eq e3, cnd_b, if_neg (by simp), bind_eq fa_z, bind_eq d0, bind_eq (h.lenN _), bind_eq geq_r, cnd_b, if_pos (by simp; omega)]; exact e4, r4, same _ hE (by decide), l4⟩
      · have hE : errMake k K = 0 := by unfold errMake; rw [hn, if_pos rfl, if_neg hk, if_neg hl]
        have e5 := bsl0 (es := 1) (z := .string ⟨#[]⟩) (H := X1)
        have l5 : HLe X1 (X1 ++ [AObj.cells [] 1 false false]) := .app _ _
        have c5 : (X1 ++ [AObj.cells [] 1 false false])[X1.length]? = some (.cells [] 1 false false) := app_new
        generalize X1 ++ [AObj.cells [] 1 false false] = Y1 at e5 l5 c5
        have d5 : ld1 (pa X.length 0) Y1 = some (nv, Y1) := ld1_at (l5 _ _ b1) rfl
        obtain ⟨sl, Y2, q2, e6, r6, l6, o6⟩ := row_of (b := 16) (s := .slice (some ⟨X1.length, 0, none⟩) 0 0) (h1.hle l5).sn (by simp; omega) (by simp; omega) (.inr ⟨X1.length, false, rfl, c5, rfl⟩)
        have hq2 : ∀ j ∈ q2, X1.length ≤ j := fun j hj => by
          rcases o6 j hj with h | ⟨_, h⟩
          · exact Nat.le_trans l5.len h
          · have : X1.length = j := by simpa [own1] using h
            omega
        obtain ⟨w, Y3, sl3, Y4, q4, a1, a2, r4, l4, o4, _⟩ := spush (H0 := X1) (u := k) r6 (by omega) hq2 (l5.trans l6)
        obtain ⟨Y5, sl5, q5, N5, e7, r7, i7, n7, l7, o7⟩ := r_sorted (n := n + 2) (l := N ++ [k]) (by simp; omega) r4.rd
        have e7 : R (n + 4) n_ref10Sorted [sl3] Y4 = _ := e7
        have l15 := l4.trans l7
        have c1 := l15 _ _ b1
        have c2 := l15 _ _ b2
        have w3 : st1 (pa X.length 0) sl5 Y5 = some (undef, Y5.set X.length (.cells [sl5, mv] 1 false false)) := st1_at (cs := [nv, mv]) c1 (by simp) r7.one.1
        have c3 : (Y5.set X.length (.cells [sl5, mv] 1 false false))[X.length]? = some (.cells [sl5, mv] 1 false false) := set_get c1
        have c4 : (Y5.set X.length (.cells [sl5, mv] 1 false false))[X.length + 1]? = some (.cells [.slice none 0 0, .slice none 0 0] 1 false false) := by rw [List.getElem?_set_ne (by omega)]; exact c2
        have hone : ([sl5, mv].all oneCell) = true := by
          have := h.one.1
          simp only [List.all_cons, List.all_nil, Bool.and_true, Bool.and_eq_true] at this ⊢
          exact ⟨r7.one.1, this.2⟩
        have hq5 : X.length ∉ q5 ∧ X.length + 1 ∉ q5 := ⟨fun hm => by have := o7 _ hm; have := l4.len; omega, fun hm => by have := o7 _ hm; have := l4.len; omega⟩
        have l05 := (l1.trans l15)
        refine ⟨(Y5.set X.length (.cells [sl5, mv] 1 false false)).set (X.length + 1) (.cells [sl5, mv] 1 false false), sl5, N5, ?_, ⟨⟨q5, (r7.setB hq5.1).setB hq5.2⟩, ?_⟩, ?_, (l05.setN (Nat.le_refl _)).setN (by omega)⟩
        · rw [hE]
          refine f1 _ _ ?_
          unfold F_ref10Make
          refine (e1 _).trans ?_
          rw [bind_eq (e2 _), hn, bind_eq not_r, cnd_b, if_neg (by simp), bind_eq fa_z, bind_eq d0, bind_eq e3, cnd_b, if_neg (by simp), bind_eq fa_z, bind_eq d0, bind_eq (h.lenN _), bind_eq geq_r, cnd_b, if_neg (by simp; omega), bind_eq e5, bind_eq fa_z, bind_eq d5, bind_eq e6, bind_eq a1, bind_eq a2, bind_eq e7, bind_eq fa_z, bind_eq w3]
          exact fin c3 c4 (by omega) hone _
        · obtain ⟨qm, hm⟩ := h.m
          exact ⟨qm, hm.step ((l05.setN (Nat.le_refl _)).setN (by omega) : HLe X _).step (by simp)⟩
        · refine ⟨⟨i7.asc, fun z => ?_⟩, hO.m⟩
          rw [i7.mem z]
          unfold makeK
          rw [if_pos hE]
          simp only [List.mem_append, List.mem_singleton, hO.n.mem z]

/-! drop -/

theorem drop1_do {lv : Value} (hl : l.length ≤ 1000) (hA : Sl H0 lv (l.map strv)) : ∀ (t j : Nat) (sl : Value) (q : List Nat) (acc : List Tx) (X : Heap), l.length - j = t → j ≤ l.length → acc.length ≤ j → HLe H0 X → (∀ i ∈ q, H0.length ≤ i) → RowS X sl (acc.map strv) q →
    ∃ X' sl' q', loopM (c7 (F_ref10Drop.l1 (R n))) [strv k, z1, z2, sl, lv, iv l.length, iv j] X = some (.ext 0 [strv k, z1, z2, sl'], X') ∧ RowS X' sl' ((acc ++ (l.drop j).filter (fun x => decide (x ≠ k))).map strv) q' ∧ Step q X q' X' ∧ ∀ i ∈ q', H0.length ≤ i
  | 0, j, sl, q, acc, X, ht, hj, ha, hle, hq, hr => by
    rw [List.drop_eq_nil_of_le (by omega)]
    refine ⟨X, sl, q, loop_ext ?_, by simpa using hr, .refl _ _, hq⟩
    rw [c7_r, show j = l.length by omega]
    unfold F_ref10Drop.l1
    rw [bind_eq lss_r, cnd_b, if_neg (by simp)]
    rfl
  | t + 1, j, sl, q, acc, X, ht, hj, ha, hle, hq, hr => by
    have hkl : j < l.length := by omega
    have hlt : (j : Int) < l.length := by omega
    have hg := List.getElem?_eq_getElem hkl
    have hd := List.drop_eq_getElem_cons hkl
    generalize l[j] = y at hg hd
    have hA' := hA.mono hle
    have x1 := hA'.ix (i := j) (by simpa using hkl) .i64 X
    have x2 := hA'.ldx (row_at hg)
    rw [hd, List.filter_cons]
    by_cases hy : y = k
    · rw [if_neg (by simpa using hy)]
      obtain ⟨X2, sl2, q2, e2, r2, s2, o2⟩ := drop1_do hl hA t (j + 1) sl q acc X (by omega) (by omega) (by omega) hle hq hr
      refine ⟨X2, sl2, q2, (loop_next ?_).trans e2, r2, s2, o2⟩
      rw [c7_r]
      unfold F_ref10Drop.l1
      rw [bind_eq lss_r, cnd_b, if_pos (by simpa using hlt), bind_eq x1, bind_eq x2, bind_eq nes_v]
      refine (jn_nrm (vs := [strv k, z1, z2, sl, lv, iv l.length, iv j]) (H' := X) ?_).trans ?_
      · rw [cnd_b, if_neg (by simpa using hy)]; rfl
      · rw [c7_r, bind_eq add_r, wsuc (by omega)]; rfl
    · rw [if_pos (by simpa using hy)]
      obtain ⟨w, Y, sl1, X2, q1, a1, a2, r1, l2, o1, s1⟩ := spush (u := y) hr (by omega) hq hle
      obtain ⟨X3, sl2, q2, e2, r2, s2, o2⟩ := drop1_do hl hA t (j + 1) sl1 q1 (acc ++ [y]) X2 (by omega) (by omega) (by simp; omega) l2 o1 r1
      refine ⟨X3, sl2, q2, (loop_next ?_).trans e2, by simpa using r2, s1.trans s2, o2⟩
      rw [c7_r]
      unfold F_ref10Drop.l1
      rw [bind_eq lss_r, cnd_b, if_pos (by simpa using hlt), bind_eq x1, bind_eq x2, bind_eq nes_v]
      refine (jn_nrm (vs := [strv k, z1, z2, sl1, lv, iv l.length, iv j]) (H' := X2) ?_).trans ?_
      · rw [cnd_b, if_pos (by simpa using hy), bind_eq a1, bind_eq a2]; rfl
      · rw [c7_r, bind_eq add_r, wsuc (by omega)]; rfl

theorem drop2_do (hl : M.length ≤ 1000) (hs : SlN 2 H0 mv (M.map prG)) : ∀ (t j : Nat) (sl : Value) (q : List Nat) (acc : List Pr) (X : Heap), M.length - j = t → j ≤ M.length → acc.length ≤ j → HLe H0 X → (∀ i ∈ q, H0.length ≤ i) → RowN 2 X sl (acc.map prG) q →
    ∃ X' sl' q', loopM (c7 (F_ref10Drop.l2 (R n))) [strv k, z1, z2, sl, mv, iv M.length, iv j] X = some (.ext 2 [z1, z2, sl'], X') ∧ RowN 2 X' sl' ((acc ++ (M.drop j).filter (fun u => !(u.1 == k))).map prG) q' ∧ Step q X q' X' ∧ ∀ i ∈ q', H0.length ≤ i
  | 0, j, sl, q, acc, X, ht, hj, ha, hle, hq, hr => by
    rw [List.drop_eq_nil_of_le (by omega)]
    refine ⟨X, sl, q, loop_ext ?_, by simpa using hr, .refl _ _, hq⟩
    rw [c7_r, show j = M.length by omega]
    unfold F_ref10Drop.l2
    rw [bind_eq lss_r, cnd_b, if_neg (by simp)]
    rfl
  | t + 1, j, sl, q, acc, X, ht, hj, ha, hle, hq, hr => by
    have hkl : j < M.length := by omega
    have hlt : (j : Int) < M.length := by omega
    have hg := List.getElem?_eq_getElem hkl
    have hd := List.drop_eq_getElem_cons hkl
    generalize M[j] = u at hg hd
    have hf := fun {K : Value → A.M Out} => pfetchG (K := K) (hs.mono hle) hg
    have bx : (X ++ [AObj.cells (prG u) 1 false false])[X.length]? = some (.cells (prG u) 1 false false) := app_new
    have l1 : HLe X (X ++ [AObj.cells (prG u) 1 false false]) := .app _ _
    generalize X ++ [AObj.cells (prG u) 1 false false] = X1 at hf bx l1
    have hr1 := hr.step l1.step (by simp)
    have d0 : ld1 (pa X.length 0) X1 = some (strv u.1, X1) := ld1_at bx rfl
    have dA : ldA 2 (pt X.length) X1 = some (.agg (prG u).toArray, X1) := ldA_at bx rfl
    have q1 : bop .str .neq (strv u.1) (strv k) X1 = some (.bool (!(u.1 == k)), X1) := nes_v
    rw [hd, List.filter_cons]
    cases hb : !(u.1 == k)
    · rw [hb] at q1
      obtain ⟨X2, sl2, q2, e2, r2, s2, o2⟩ := drop2_do hl hs t (j + 1) sl q acc X1 (by omega) (by omega) (by omega) (hle.trans l1) hq hr1
      refine ⟨X2, sl2, q2, (loop_next ?_).trans e2, by simpa using r2, l1.stepq.trans s2, o2⟩
      rw [c7_r]
      unfold F_ref10Drop.l2
      rw [bind_eq lss_r, cnd_b, if_pos (by simpa using hlt), hf, bind_eq fa_z, bind_eq d0, bind_eq q1]
      refine (jn_nrm (vs := [strv k, z1, z2, sl, mv, iv M.length, iv j]) (H' := X1) ?_).trans ?_
      · rw [cnd_b, if_neg (by simp)]; rfl
      · rw [c7_r, bind_eq add_r, wsuc (by omega)]; rfl
    · rw [hb] at q1
      obtain ⟨w, Y, sl1, X2, q1', a1, a2, r1, l2, o1, s1⟩ := ppushG (u := u) hr1 (by omega) hq (hle.trans l1)
      obtain ⟨X3, sl2, q2, e2, r2, s2, o2⟩ := drop2_do hl hs t (j + 1) sl1 q1' (acc ++ [u]) X2 (by omega) (by omega) (by simp; omega) l2 o1 r1
      refine ⟨X3, sl2, q2, (loop_next ?_).trans e2, by simpa using r2, (l1.stepq.trans s1).trans s2, o2⟩
      rw [c7_r]
      unfold F_ref10Drop.l2
      rw [bind_eq lss_r, cnd_b, if_pos (by simpa using hlt), hf, bind_eq fa_z, bind_eq d0, bind_eq q1]
      refine (jn_nrm (vs := [strv k, z1, z2, sl1, mv, iv M.length, iv j]) (H' := X2) ?_).trans ?_
      · rw [cnd_b, if_pos rfl, bind_eq dA, bind_eq a1, bind_eq a2]; rfl
      · rw [c7_r, bind_eq add_r, wsuc (by omega)]; rfl

theorem r_rdrop (h : RG X nv mv N M) (hO : RefOK N M K mem) (hN : N.length ≤ 100) (hM : M.length ≤ 1000) : ∃ X' nv' mv' N' M', R (n + 5) n_ref10Drop [.agg #[nv, mv], strv k] X = some (.tuple #[.agg #[nv', mv'], iv (errDrop k K)], X') ∧ RG X' nv' mv' N' M' ∧ RefOK N' M' (dropK k K) (if errDrop k K = 0 then memDrop k mem else mem) ∧ M'.length ≤ M.length ∧ HLe X X' := by
  have f1 : ∀ r X', F_ref10Drop (R (n + 4)) (.agg #[nv, mv]) (strv k) X = some (r, X') → R (n + 5) n_ref10Drop [.agg #[nv, mv], strv k] X = some (r, X') := fun r X' hr => by rw [R, run_ref10Drop rfl]; exact hr
  obtain ⟨X1, e1, b1, b2, l1, len1⟩ := boxes h
  have h1 := h.hle l1
  have e2 : ∀ Y : Heap, R (n + 4) n_ref05Name [strv k] Y = some (.bool (nameB k), Y) := fun Y => r_refName0 (n := n + 1)
  have d0 : ld1 (pa X.length 0) X1 = some (nv, X1) := ld1_at b1 rfl
  have e3 : R (n + 4) n_ref10Has [nv, strv k] X1 = _ := r_rhas (n := n + 3) (x := k) (by omega) h1.sn
  have same : ∀ e, errDrop k K = e → e ≠ 0 → RefOK N M (dropK k K) (if errDrop k K = 0 then memDrop k mem else mem) := fun e he hne => by unfold dropK; rw [if_neg (by rw [he]; exact hne), if_neg (by rw [he]; exact hne)]; exact hO
  cases hn : nameB k
  · have hE : errDrop k K = 10 := by unfold errDrop; rw [hn]; rfl
    obtain ⟨X2, e4, r4, l4⟩ := finE (e := 10) h l1 b1 b2
    refine ⟨X2, nv, mv, N, M, by rw [hE]; refine f1 _ _ ?_; unfold F_ref10Drop; refine (e1 _).trans ?_; rw [bind_eq (e2 _), hn, bind_eq not_r, cnd_b, if_pos (by rfl)]; exact e4, r4, same _ hE (by decide), Nat.le_refl _, l4⟩
  · by_cases hk : k ∈ K
    · have hE : errDrop k K = 0 := by unfold errDrop; rw [hn, if_pos rfl, if_pos hk]
      have hkN : k ∈ N := (hO.n.mem k).2 hk
      rw [decide_eq_true hkN] at e3
      obtain ⟨X2, sl, q, e4, r4, s4, o4⟩ := drop1_do (n := n + 4) (k := k) (z1 := pt X.length) (z2 := pt (X.length + 1)) (by omega) h1.sn N.length 0 (.slice none 0 0) [] [] X1 (by omega) (by omega) (by simp) (.refl _) (by simp) RowS.nil
      rw [show iv ((0 : Nat) : Int) = .int .i64 0 from rfl] at e4
      rw [List.drop_zero, List.nil_append] at r4
      have l4 := s4.hle
      have d1 : ld1 (pa X.length 1) X2 = some (mv, X2) := ld1_at (l4 _ _ b1) rfl
      obtain ⟨X3, sm, qm, e5, r5, s5, o5⟩ := drop2_do (n := n + 4) (k := k) (z1 := pt (X.length + 1)) (z2 := sl) hM (h1.hle l4).sm M.length 0 (.slice none 0 0) [] [] X2 (by omega) (by omega) (by simp) (.refl _) (by simp) RowN.nil
      rw [show iv ((0 : Nat) : Int) = .int .i64 0 from rfl] at e5
      rw [List.drop_zero, List.nil_append] at r5
      have l5 := s5.hle
      have r4' := r4.step l5.step (by simp)
      have hbld : bld (.agg #[.slice none 0 0, .slice none 0 0]) [(0, 1, sl), (1, 1, sm)] X3 = some (.agg #[sl, sm], X3) := by
        obtain ⟨a, n1, c1, rfl⟩ := r4.isS
        obtain ⟨a', n2, c2, rfl⟩ := r5.isS
        exact bldS
      have c2 := l5 _ _ (l4 _ _ b2)
      have hone : ([sl, sm].all oneCell) = true := by simp [r4.one.1, r5.one.1]
      have w1 : stA 2 (pt (X.length + 1)) (.agg #[sl, sm]) X3 = some (undef, X3.set (X.length + 1) (.cells [sl, sm] 1 false false)) := stA_at (vs := [sl, sm]) c2 rfl rfl hone
      have w2 : ldA 2 (pt (X.length + 1)) (X3.set (X.length + 1) (.cells [sl, sm] 1 false false)) = some (.agg #[sl, sm], X3.set (X.length + 1) (.cells [sl, sm] 1 false false)) := ldA_at (set_get c2) rfl
      have hx1 := l1.len
      have hx2 := l4.len
      refine ⟨X3.set (X.length + 1) (.cells [sl, sm] 1 false false), sl, sm, N.filter (fun x => decide (x ≠ k)), M.filter (fun u => !(u.1 == k)), ?_, ⟨⟨q, r4'.setB fun hm => by have := o4 _ hm; omega⟩, ⟨qm, r5.setB fun hm => by have := o5 _ hm; omega⟩⟩, ?_, List.length_filter_le _ _, ((l1.trans l4).trans l5).setN (by omega)⟩
      · rw [hE]
        refine f1 _ _ ?_
        unfold F_ref10Drop
        refine (e1 _).trans ?_
        rw [bind_eq (e2 _), hn, bind_eq not_r, cnd_b, if_neg (by simp), bind_eq fa_z, bind_eq d0, bind_eq e3, bind_eq not_r, cnd_b, if_neg (by simp), bind_eq fa_z, bind_eq d0, bind_eq (h.lenN _), jn_ext e4, xk_hit, c4_r, bind_eq fa_z, bind_eq d1, bind_eq (h.lenM _), jn_ext e5, xk_hit, c3_r, bind_eq hbld, bind_eq w1, bind_eq w2]
        rfl
      · unfold dropK
        rw [if_pos hE, if_pos hE]
        refine ⟨⟨hO.n.asc.filter _, fun z => ?_⟩, fun k' z => ?_⟩
        · rw [List.mem_filter, List.mem_filter, hO.n.mem z]
        · rw [List.mem_filter, hO.m]; unfold memDrop; simp
    · have hE : errDrop k K = 8 := by unfold errDrop; rw [hn, if_pos rfl, if_neg hk]
      have hkN : ¬ k ∈ N := fun hm => hk ((hO.n.mem k).1 hm)
      rw [decide_eq_false hkN] at e3
      obtain ⟨X2, e4, r4, l4⟩ := finE (e := 8) h l1 b1 b2
      refine ⟨X2, nv, mv, N, M, by rw [hE]; refine f1 _ _ ?_; unfold F_ref10Drop; refine (e1 _).trans ?_; rw [bind_eq (e2 _), hn, bind_eq not_r, cnd_b, if_neg (by simp), bind_eq fa_z, bind_eq d0, bind_eq e3, bind_eq not_r, cnd_b, if_pos (by rfl)]; exact e4, r4, same _ hE (by decide), Nat.le_refl _, l4⟩

/-! join, leave -/

theorem rowN_of {rows : List (List Value)} {x : Value} {id : Nat} (hx : SlN 2 X x rows) (hl : rows.length ≤ 10000) (hid : X[id]? = some (.cells [] 2 false false)) :
    ∃ sl' X' q', app 2 32 (.slice (some ⟨id, 0, none⟩) 0 0) x X = some (sl', X') ∧ RowN 2 X' sl' rows q' ∧ HLe X X' ∧ ∀ j ∈ q', X.length ≤ j ∨ j = id := by
  have hf := hx.fc
  have hn := hx.flen
  by_cases h0 : rows = []
  · subst h0
    refine ⟨_, X, [id], ?_, .inr ⟨id, [], 0, false, rfl, rfl, by simpa using hid, by simp, by simp⟩, .refl _, fun j hj => .inr (by simpa using hj)⟩
    unfold app
    simp only [hf, hn, hid]
    simp
  · have hpos : 0 < rows.length := List.length_pos_iff.2 h0
    refine ⟨.slice (some ⟨X.length, 0, none⟩) rows.length rows.length, X ++ [.cells rows.flatten 2 true false], [X.length], ?_, .inr ⟨X.length, [], 0, true, rfl, rfl, by rw [app_new, List.append_nil], by simp, hx.ok⟩, .app _ _, fun j hj => .inl (by simp only [List.mem_singleton] at hj; omega)⟩
    unfold app
    simp only [hf, hn, hid, if_true]
    rw [if_neg (by omega), if_pos ⟨rfl, by simp, by omega, by omega⟩]
    simp

/-- Both are names; else an error. -/
theorem names2 {Y : Heap} {K' : Value → A.M Value} : bind (uop .not (.bool (nameB k))) (fun v10x4 => bind (gate v10x4 false 3 (bind (R (n + 4) n_ref05Name [strv m]) fun v13x5 => bind (uop .not v13x5) fun v14x6 => ret [strv m, v13x5, v14x6])) (c3 fun _ _ q7_2 => bind (pick v10x4 (Value.bool true) q7_2) K')) Y = K' (.bool (!(nameB k && nameB m))) Y := by
  have e2 : R (n + 4) n_ref05Name [strv m] Y = some (.bool (nameB m), Y) := r_refName0 (n := n + 1)
  rw [bind_eq not_r]
  cases nameB k
  · simp only [Bool.not_false]
    rw [bind_eq (g_r.trans (if_neg (by simp)))]
    simp only [List.replicate]
    rw [c3_r, bind_eq pick_r]; rfl
  · simp only [Bool.not_true]
    rw [b_g_in, b_assoc, bind_eq e2, b_assoc, bind_eq not_r, b_ret, c3_r, bind_eq pick_r]
    simp

theorem errFind1 : errFind k [m] K = if (nameB k && nameB m) then (if k ∈ K then 0 else 8) else 10 := by unfold errFind; simp

theorem r_rjoin (h : RG X nv mv N M) (hO : RefOK N M K mem) (hN : N.length ≤ 100) (hM : M.length ≤ 1000) : ∃ X' mv' M', R (n + 5) n_ref10Join [.agg #[nv, mv], strv k, strv m] X = some (.tuple #[.agg #[nv, mv'], iv (errJoin k m K mem)], X') ∧ RG X' nv mv' N M' ∧ RefOK N M' K (if errJoin k m K mem = 0 then memAdd k m mem else mem) ∧ M'.length ≤ M.length + 1 ∧ HLe X X' := by
  have f1 : ∀ r X', F_ref10Join (R (n + 4)) (.agg #[nv, mv]) (strv k) (strv m) X = some (r, X') → R (n + 5) n_ref10Join [.agg #[nv, mv], strv k, strv m] X = some (r, X') := fun r X' hr => by rw [R, run_ref10Join rfl]; exact hr
  obtain ⟨X1, e1, b1, b2, l1, len1⟩ := boxes h
  have h1 := h.hle l1
  have e2 : ∀ Y : Heap, R (n + 4) n_ref05Name [strv k] Y = some (.bool (nameB k), Y) := fun Y => r_refName0 (n := n + 1)
  have d0 : ld1 (pa X.length 0) X1 = some (nv, X1) := ld1_at b1 rfl
  have dA : ldA 2 (pt X.length) X1 = some (.agg #[nv, mv], X1) := ldA_at b1 rfl
  have e3 : R (n + 4) n_ref10Has [nv, strv k] X1 = _ := r_rhas (n := n + 3) (x := k) (by omega) h1.sn
  have same : ∀ e, errJoin k m K mem = e → e ≠ 0 → RefOK N M K (if errJoin k m K mem = 0 then memAdd k m mem else mem) := fun e he hne => by rw [if_neg (by rw [he]; exact hne)]; exact hO
  cases hn : (nameB k && nameB m)
  · have hE : errJoin k m K mem = 10 := by unfold errJoin; rw [errFind1, hn]; rfl
    obtain ⟨X2, e4, r4, l4⟩ := finE (e := 10) h l1 b1 b2
    refine ⟨X2, mv, M, by rw [hE]; refine f1 _ _ ?_; unfold F_ref10Join; refine (e1 _).trans ?_; rw [bind_eq (e2 _)]; refine names2.trans ?_; rw [hn, cnd_b, if_pos (by rfl)]; exact e4, r4, same _ hE (by decide), Nat.le_succ _, l4⟩
  · by_cases hk : k ∈ K
    · have hkN : k ∈ N := (hO.n.mem k).2 hk
      rw [decide_eq_true hkN] at e3
      obtain ⟨X2, e4, l4⟩ := r_rin (n := n + 3) (k := k) (m := m) h1 (by omega)
      have e4 : R (n + 4) n_ref10In [.agg #[nv, mv], strv k, strv m] X1 = _ := e4
      have hin := hO.m k m
      have l12 := l1.trans l4
      have b1' := l4 _ _ b1
      have b2' := l4 _ _ b2
      have d1 : ∀ Y, HLe X2 Y → ld1 (pa X.length 1) Y = some (mv, Y) := fun Y hy => ld1_at (hy _ _ b1') rfl
      cases hm : mem k m
      · have hE : errJoin k m K mem = 0 := by unfold errJoin; rw [errFind1, hn, if_pos rfl, if_pos hk, if_pos rfl, hm]; rfl
        have hnot : ¬ (k, m) ∈ M := fun h => by rw [hin, hm] at h; cases h
        rw [decide_eq_false hnot] at e4
        have e5 := bsl0 (es := 2) (z := .agg #[.string ⟨#[]⟩, .string ⟨#[]⟩]) (H := X2)
        have l5 : HLe X2 (X2 ++ [AObj.cells [] 2 false false]) := .app _ _
        have c5 : (X2 ++ [AObj.cells [] 2 false false])[X2.length]? = some (.cells [] 2 false false) := app_new
        generalize X2 ++ [AObj.cells [] 2 false false] = Y1 at e5 l5 c5
        obtain ⟨sl, Y2, q2, e6, r6, l6, o6⟩ := rowN_of (h.hle (l12.trans l5)).sm (by simp; omega) c5
        have hq2 : ∀ j ∈ q2, X2.length ≤ j := fun j hj => by
          have := l5.len
          rcases o6 j hj with h | h <;> omega
        obtain ⟨w, Y3, sl3, Y4, q4, a1, a2, r4, l7, o4, _⟩ := ppushG (H0 := X2) (u := (k, m)) r6 (by omega) hq2 (l5.trans l6)
        have c1 := l7 _ _ b1'
        have c2 := l7 _ _ b2'
        have w3 : st1 (pa X.length 1) sl3 Y4 = some (undef, Y4.set X.length (.cells [nv, sl3] 1 false false)) := st1_at (cs := [nv, mv]) c1 (by simp) r4.one.1
        have c3 : (Y4.set X.length (.cells [nv, sl3] 1 false false))[X.length]? = some (.cells [nv, sl3] 1 false false) := set_get c1
        have c4 : (Y4.set X.length (.cells [nv, sl3] 1 false false))[X.length + 1]? = some (.cells [.slice none 0 0, .slice none 0 0] 1 false false) := by rw [List.getElem?_set_ne (by omega)]; exact c2
        have hone : ([nv, sl3].all oneCell) = true := by
          have := h.one.1
          simp only [List.all_cons, List.all_nil, Bool.and_true, Bool.and_eq_true] at this ⊢
          exact ⟨this.1, r4.one.1⟩
        have hx2 := l4.len
        have hq4 : X.length ∉ q4 ∧ X.length + 1 ∉ q4 := ⟨fun hm => by have := o4 _ hm; omega, fun hm => by have := o4 _ hm; omega⟩
        have l05 := l12.trans l7
        have lfin : HLe X ((Y4.set X.length (.cells [nv, sl3] 1 false false)).set (X.length + 1) (.cells [nv, sl3] 1 false false)) := (l05.setN (Nat.le_refl _)).setN (by omega)
        refine ⟨_, sl3, M ++ [(k, m)], ?_, ⟨?_, q4, (r4.setB hq4.1).setB hq4.2⟩, ?_, by simp, lfin⟩
        · rw [hE]
          refine f1 _ _ ?_
          unfold F_ref10Join
          refine (e1 _).trans ?_
          rw [bind_eq (e2 _)]
          refine names2.trans ?_
          rw [hn, cnd_b, if_neg (by simp), bind_eq fa_z, bind_eq d0, bind_eq e3, bind_eq not_r, cnd_b, if_neg (by simp), bind_eq dA, bind_eq e4, cnd_b, if_neg (by simp), bind_eq e5, bind_eq fa_z, bind_eq (d1 _ l5), bind_eq e6, bind_eq bldP, bind_eq a1, bind_eq a2, bind_eq fa_z, bind_eq w3]
          exact fin c3 c4 (by omega) hone _
        · obtain ⟨qn, hn⟩ := h.n
          exact ⟨qn, hn.step lfin.step (by simp)⟩
        · rw [if_pos hE]
          refine ⟨hO.n, fun k' z => ?_⟩
          rw [List.mem_append, hO.m]
          unfold memAdd
          simp
      · have hE : errJoin k m K mem = 9 := by unfold errJoin; rw [errFind1, hn, if_pos rfl, if_pos hk, if_pos rfl, hm]; rfl
        have hyes : (k, m) ∈ M := hin.2 hm
        rw [decide_eq_true hyes] at e4
        obtain ⟨X3, e5, r5, l5⟩ := finE (e := 9) h l12 b1' b2'
        refine ⟨X3, mv, M, by rw [hE]; refine f1 _ _ ?_; unfold F_ref10Join; refine (e1 _).trans ?_; rw [bind_eq (e2 _)]; refine names2.trans ?_; rw [hn, cnd_b, if_neg (by simp), bind_eq fa_z, bind_eq d0, bind_eq e3, bind_eq not_r, cnd_b, if_neg (by simp), bind_eq dA, bind_eq e4, cnd_b, if_pos rfl]; exact e5, r5, same _ hE (by decide), Nat.le_succ _, l5⟩
    · have hE : errJoin k m K mem = 8 := by unfold errJoin; rw [errFind1, hn, if_pos rfl, if_neg hk]; rfl
      have hkN : ¬ k ∈ N := fun hm => hk ((hO.n.mem k).1 hm)
      rw [decide_eq_false hkN] at e3
      obtain ⟨X2, e4, r4, l4⟩ := finE (e := 8) h l1 b1 b2
      refine ⟨X2, mv, M, by rw [hE]; refine f1 _ _ ?_; unfold F_ref10Join; refine (e1 _).trans ?_; rw [bind_eq (e2 _)]; refine names2.trans ?_; rw [hn, cnd_b, if_neg (by simp), bind_eq fa_z, bind_eq d0, bind_eq e3, bind_eq not_r, cnd_b, if_pos (by rfl)]; exact e4, r4, same _ hE (by decide), Nat.le_succ _, l4⟩

theorem r_rleave (h : RG X nv mv N M) (hO : RefOK N M K mem) (hN : N.length ≤ 100) (hM : M.length ≤ 1000) : ∃ X' mv' M', R (n + 5) n_ref10Leave [.agg #[nv, mv], strv k, strv m] X = some (.tuple #[.agg #[nv, mv'], iv (errLeave k m K mem)], X') ∧ RG X' nv mv' N M' ∧ RefOK N M' K (if errLeave k m K mem = 0 then memDel k m mem else mem) ∧ M'.length ≤ M.length ∧ HLe X X' := by
  have f1 : ∀ r X', F_ref10Leave (R (n + 4)) (.agg #[nv, mv]) (strv k) (strv m) X = some (r, X') → R (n + 5) n_ref10Leave [.agg #[nv, mv], strv k, strv m] X = some (r, X') := fun r X' hr => by rw [R, run_ref10Leave rfl]; exact hr
  obtain ⟨X1, e1, b1, b2, l1, len1⟩ := boxes h
  have h1 := h.hle l1
  have e2 : ∀ Y : Heap, R (n + 4) n_ref05Name [strv k] Y = some (.bool (nameB k), Y) := fun Y => r_refName0 (n := n + 1)
  have d0 : ld1 (pa X.length 0) X1 = some (nv, X1) := ld1_at b1 rfl
  have dA : ∀ Y, HLe X1 Y → ldA 2 (pt X.length) Y = some (.agg #[nv, mv], Y) := fun Y hy => ldA_at (hy _ _ b1) rfl
  have e3 : R (n + 4) n_ref10Has [nv, strv k] X1 = _ := r_rhas (n := n + 3) (x := k) (by omega) h1.sn
  have same : ∀ e, errLeave k m K mem = e → e ≠ 0 → RefOK N M K (if errLeave k m K mem = 0 then memDel k m mem else mem) := fun e he hne => by rw [if_neg (by rw [he]; exact hne)]; exact hO
  cases hn : (nameB k && nameB m)
  · have hE : errLeave k m K mem = 10 := by unfold errLeave; rw [errFind1, hn]; rfl
    obtain ⟨X2, e4, r4, l4⟩ := finE (e := 10) h l1 b1 b2
    refine ⟨X2, mv, M, by rw [hE]; refine f1 _ _ ?_; unfold F_ref10Leave; refine (e1 _).trans ?_; rw [bind_eq (e2 _)]; refine names2.trans ?_; rw [hn, cnd_b, if_pos (by rfl)]; exact e4, r4, same _ hE (by decide), Nat.le_refl _, l4⟩
  · by_cases hk : k ∈ K
    · have hkN : k ∈ N := (hO.n.mem k).2 hk
      rw [decide_eq_true hkN] at e3
      obtain ⟨X2, e4, l4⟩ := r_rin (n := n + 3) (k := k) (m := m) h1 (by omega)
      have e4 : R (n + 4) n_ref10In [.agg #[nv, mv], strv k, strv m] X1 = _ := e4
      have hin := hO.m k m
      have l12 := l1.trans l4
      have b1' := l4 _ _ b1
      have b2' := l4 _ _ b2
      cases hm : mem k m
      · have hE : errLeave k m K mem = 12 := by unfold errLeave; rw [errFind1, hn, if_pos rfl, if_pos hk, if_pos rfl, hm]; rfl
        have hnot : ¬ (k, m) ∈ M := fun h => by rw [hin, hm] at h; cases h
        rw [decide_eq_false hnot] at e4
        obtain ⟨X3, e5, r5, l5⟩ := finE (e := 12) h l12 b1' b2'
        refine ⟨X3, mv, M, by rw [hE]; refine f1 _ _ ?_; unfold F_ref10Leave; refine (e1 _).trans ?_; rw [bind_eq (e2 _)]; refine names2.trans ?_; rw [hn, cnd_b, if_neg (by simp), bind_eq fa_z, bind_eq d0, bind_eq e3, bind_eq not_r, cnd_b, if_neg (by simp), bind_eq (dA _ (.refl _)), bind_eq e4, bind_eq not_r, cnd_b, if_pos (by rfl)]; exact e5, r5, same _ hE (by decide), Nat.le_refl _, l5⟩
      · have hE : errLeave k m K mem = 0 := by unfold errLeave; rw [errFind1, hn, if_pos rfl, if_pos hk, if_pos rfl, hm]; rfl
        have hyes : (k, m) ∈ M := hin.2 hm
        rw [decide_eq_true hyes] at e4
        obtain ⟨X3, mv', e5, r5, l5⟩ := r_rwithout (n := n + 3) (k := k) (m := m) (h1.hle l4) hM
        have e5 : R (n + 4) n_ref10Without [.agg #[nv, mv], strv k, strv m] X2 = _ := e5
        have c2 := l5 _ _ b2'
        have hone := r5.one.1
        have w1 : stA 2 (pt (X.length + 1)) (.agg #[nv, mv']) X3 = some (undef, X3.set (X.length + 1) (.cells [nv, mv'] 1 false false)) := stA_at (vs := [nv, mv']) c2 rfl rfl hone
        have w2 : ldA 2 (pt (X.length + 1)) (X3.set (X.length + 1) (.cells [nv, mv'] 1 false false)) = some (.agg #[nv, mv'], X3.set (X.length + 1) (.cells [nv, mv'] 1 false false)) := ldA_at (set_get c2) rfl
        have lfin : HLe X (X3.set (X.length + 1) (.cells [nv, mv'] 1 false false)) := (l12.trans l5).setN (by omega)
        refine ⟨_, mv', M.filter (noP k m), ?_, ⟨?_, ?_⟩, ?_, List.length_filter_le _ _, lfin⟩
        · rw [hE]
          refine f1 _ _ ?_
          unfold F_ref10Leave
          refine (e1 _).trans ?_
          rw [bind_eq (e2 _)]
          refine names2.trans ?_
          rw [hn, cnd_b, if_neg (by simp), bind_eq fa_z, bind_eq d0, bind_eq e3, bind_eq not_r, cnd_b, if_neg (by simp), bind_eq (dA _ (.refl _)), bind_eq e4, bind_eq not_r, cnd_b, if_neg (by simp), bind_eq (dA _ l4), bind_eq e5, bind_eq w1, bind_eq w2]
          rfl
        · obtain ⟨qn, hn⟩ := h.n
          exact ⟨qn, hn.step lfin.step (by simp)⟩
        · obtain ⟨qm, hm⟩ := r5.m
          refine ⟨qm, hm.setB fun hq => ?_⟩
          rcases hm with ⟨_, rfl, _⟩ | ⟨sid, rest, r, gr, _, rfl, hid, _, _⟩
          · cases hq
          · have hq : X.length + 1 = sid := by simpa using hq
            rw [← hq, c2] at hid
            injection hid with h1
            injection h1 with _ h2
            cases h2
        · rw [if_pos hE]
          refine ⟨hO.n, fun k' z => ?_⟩
          rw [List.mem_filter, hO.m]
          unfold memDel noP
          simp
    · have hE : errLeave k m K mem = 8 := by unfold errLeave; rw [errFind1, hn, if_pos rfl, if_neg hk]; rfl
      have hkN : ¬ k ∈ N := fun hm => hk ((hO.n.mem k).1 hm)
      rw [decide_eq_false hkN] at e3
      obtain ⟨X2, e4, r4, l4⟩ := finE (e := 8) h l1 b1 b2
      refine ⟨X2, mv, M, by rw [hE]; refine f1 _ _ ?_; unfold F_ref10Leave; refine (e1 _).trans ?_; rw [bind_eq (e2 _)]; refine names2.trans ?_; rw [hn, cnd_b, if_neg (by simp), bind_eq fa_z, bind_eq d0, bind_eq e3, bind_eq not_r, cnd_b, if_pos (by rfl)]; exact e4, r4, same _ hE (by decide), Nat.le_refl _, l4⟩

end

end Go.Proofs.Ytmacmlpiheimhaa.A

/- The document's groups: a group's members, a member's groups; renamed, removed. -/
namespace Go.Proofs.Ytmacmlpiheimhaa.A
set_option linter.unusedVariables false
set_option linter.unusedSimpArgs false
open Go.Proofs Go.Proofs.Ytmacmlpiheimhaa

section
variable {X X' H0 : Heap} {n : Nat} {v nv mv z1 z2 z3 z4 : Value} {N l K : List Tx} {M : List Pr} {mem : Mem} {x s t k m : Tx}

theorem memb_do (hl : M.length ≤ 1000) (hs : SlN 2 H0 mv (M.map prG)) : ∀ (t j : Nat) (sl : Value) (q : List Nat) (acc : List Tx) (X : Heap), M.length - j = t → j ≤ M.length → acc.length ≤ j → HLe H0 X → (∀ i ∈ q, H0.length ≤ i) → RowS X sl (acc.map strv) q →
    ∃ X' sl' q', loopM (c5 (F_ref10Members.l1 (R n))) [strv k, sl, mv, iv M.length, iv j] X = some (.ext 0 [sl'], X') ∧ RowS X' sl' ((acc ++ ((M.drop j).filter (fun u => u.1 == k)).map (·.2)).map strv) q' ∧ Step q X q' X' ∧ ∀ i ∈ q', H0.length ≤ i
  | 0, j, sl, q, acc, X, ht, hj, ha, hle, hq, hr => by
    rw [List.drop_eq_nil_of_le (by omega)]
    refine ⟨X, sl, q, loop_ext ?_, by simpa using hr, .refl _ _, hq⟩
    rw [c5_r, show j = M.length by omega]
    unfold F_ref10Members.l1
    rw [bind_eq lss_r, cnd_b, if_neg (by simp)]
    rfl
  | t + 1, j, sl, q, acc, X, ht, hj, ha, hle, hq, hr => by
    have hkl : j < M.length := by omega
    have hlt : (j : Int) < M.length := by omega
    have hg := List.getElem?_eq_getElem hkl
    have hd := List.drop_eq_getElem_cons hkl
    generalize M[j] = u at hg hd
    have hf := fun {K : Value → A.M Out} => pfetchG (K := K) (hs.mono hle) hg
    have bx : (X ++ [AObj.cells (prG u) 1 false false])[X.length]? = some (.cells (prG u) 1 false false) := app_new
    have l1 : HLe X (X ++ [AObj.cells (prG u) 1 false false]) := .app _ _
    generalize X ++ [AObj.cells (prG u) 1 false false] = X1 at hf bx l1
    have hr1 := hr.step l1.step (by simp)
    have d0 : ld1 (pa X.length 0) X1 = some (strv u.1, X1) := ld1_at bx rfl
    have d1 : ld1 (pa X.length 1) X1 = some (strv u.2, X1) := ld1_at bx rfl
    have q1 : bop .str .eql (strv u.1) (strv k) X1 = some (.bool (u.1 == k), X1) := eqs_v
    rw [hd, List.filter_cons]
    cases hb : (u.1 == k)
    · rw [hb] at q1
      obtain ⟨X2, sl2, q2, e2, r2, s2, o2⟩ := memb_do hl hs t (j + 1) sl q acc X1 (by omega) (by omega) (by omega) (hle.trans l1) hq hr1
      refine ⟨X2, sl2, q2, (loop_next ?_).trans e2, by simpa using r2, l1.stepq.trans s2, o2⟩
      rw [c5_r]
      unfold F_ref10Members.l1
      rw [bind_eq lss_r, cnd_b, if_pos (by simpa using hlt), hf, bind_eq fa_z, bind_eq d0, bind_eq q1]
      refine (jn_nrm (vs := [strv k, sl, mv, iv M.length, iv j]) (H' := X1) ?_).trans ?_
      · rw [cnd_b, if_neg (by simp)]; rfl
      · rw [c5_r, bind_eq add_r, wsuc (by omega)]; rfl
    · rw [hb] at q1
      obtain ⟨w, Y, sl1, X2, q1', a1, a2, r1, l2, o1, s1⟩ := spush (u := u.2) hr1 (by omega) hq (hle.trans l1)
      obtain ⟨X3, sl2, q2, e2, r2, s2, o2⟩ := memb_do hl hs t (j + 1) sl1 q1' (acc ++ [u.2]) X2 (by omega) (by omega) (by simp; omega) l2 o1 r1
      refine ⟨X3, sl2, q2, (loop_next ?_).trans e2, by simpa using r2, (l1.stepq.trans s1).trans s2, o2⟩
      rw [c5_r]
      unfold F_ref10Members.l1
      rw [bind_eq lss_r, cnd_b, if_pos (by simpa using hlt), hf, bind_eq fa_z, bind_eq d0, bind_eq q1]
      refine (jn_nrm (vs := [strv k, sl1, mv, iv M.length, iv j]) (H' := X2) ?_).trans ?_
      · rw [cnd_b, if_pos rfl, bind_eq fa_z, bind_eq d1, bind_eq a1, bind_eq a2]; rfl
      · rw [c5_r, bind_eq add_r, wsuc (by omega)]; rfl

theorem of_doG (hl : M.length ≤ 1000) (hs : SlN 2 H0 mv (M.map prG)) : ∀ (t j : Nat) (sl : Value) (q : List Nat) (acc : List Tx) (X : Heap), M.length - j = t → j ≤ M.length → acc.length ≤ j → HLe H0 X → (∀ i ∈ q, H0.length ≤ i) → RowS X sl (acc.map strv) q →
    ∃ X' sl' q', loopM (c5 (F_ref10Of.l1 (R n))) [strv k, sl, mv, iv M.length, iv j] X = some (.ext 0 [sl'], X') ∧ RowS X' sl' ((acc ++ ((M.drop j).filter (fun u => u.2 == k)).map (·.1)).map strv) q' ∧ Step q X q' X' ∧ ∀ i ∈ q', H0.length ≤ i
  | 0, j, sl, q, acc, X, ht, hj, ha, hle, hq, hr => by
    rw [List.drop_eq_nil_of_le (by omega)]
    refine ⟨X, sl, q, loop_ext ?_, by simpa using hr, .refl _ _, hq⟩
    rw [c5_r, show j = M.length by omega]
    unfold F_ref10Of.l1
    rw [bind_eq lss_r, cnd_b, if_neg (by simp)]
    rfl
  | t + 1, j, sl, q, acc, X, ht, hj, ha, hle, hq, hr => by
    have hkl : j < M.length := by omega
    have hlt : (j : Int) < M.length := by omega
    have hg := List.getElem?_eq_getElem hkl
    have hd := List.drop_eq_getElem_cons hkl
    generalize M[j] = u at hg hd
    have hf := fun {K : Value → A.M Out} => pfetchG (K := K) (hs.mono hle) hg
    have bx : (X ++ [AObj.cells (prG u) 1 false false])[X.length]? = some (.cells (prG u) 1 false false) := app_new
    have l1 : HLe X (X ++ [AObj.cells (prG u) 1 false false]) := .app _ _
    generalize X ++ [AObj.cells (prG u) 1 false false] = X1 at hf bx l1
    have hr1 := hr.step l1.step (by simp)
    have d0 : ld1 (pa X.length 1) X1 = some (strv u.2, X1) := ld1_at bx rfl
    have d1 : ld1 (pa X.length 0) X1 = some (strv u.1, X1) := ld1_at bx rfl
    have q1 : bop .str .eql (strv u.2) (strv k) X1 = some (.bool (u.2 == k), X1) := eqs_v
    rw [hd, List.filter_cons]
    cases hb : (u.2 == k)
    · rw [hb] at q1
      obtain ⟨X2, sl2, q2, e2, r2, s2, o2⟩ := of_doG hl hs t (j + 1) sl q acc X1 (by omega) (by omega) (by omega) (hle.trans l1) hq hr1
      refine ⟨X2, sl2, q2, (loop_next ?_).trans e2, by simpa using r2, l1.stepq.trans s2, o2⟩
      rw [c5_r]
      unfold F_ref10Of.l1
      rw [bind_eq lss_r, cnd_b, if_pos (by simpa using hlt), hf, bind_eq fa_z, bind_eq d0, bind_eq q1]
      refine (jn_nrm (vs := [strv k, sl, mv, iv M.length, iv j]) (H' := X1) ?_).trans ?_
      · rw [cnd_b, if_neg (by simp)]; rfl
      · rw [c5_r, bind_eq add_r, wsuc (by omega)]; rfl
    · rw [hb] at q1
      obtain ⟨w, Y, sl1, X2, q1', a1, a2, r1, l2, o1, s1⟩ := spush (u := u.1) hr1 (by omega) hq (hle.trans l1)
      obtain ⟨X3, sl2, q2, e2, r2, s2, o2⟩ := of_doG hl hs t (j + 1) sl1 q1' (acc ++ [u.1]) X2 (by omega) (by omega) (by simp; omega) l2 o1 r1
      refine ⟨X3, sl2, q2, (loop_next ?_).trans e2, by simpa using r2, (l1.stepq.trans s1).trans s2, o2⟩
      rw [c5_r]
      unfold F_ref10Of.l1
      rw [bind_eq lss_r, cnd_b, if_pos (by simpa using hlt), hf, bind_eq fa_z, bind_eq d0, bind_eq q1]
      refine (jn_nrm (vs := [strv k, sl1, mv, iv M.length, iv j]) (H' := X2) ?_).trans ?_
      · rw [cnd_b, if_pos rfl, bind_eq fa_z, bind_eq d1, bind_eq a1, bind_eq a2]; rfl
      · rw [c5_r, bind_eq add_r, wsuc (by omega)]; rfl

theorem box1 (h : RG X nv mv N M) : ∃ X1, alc 1 (.agg #[nv, mv]) X = some (pt X.length, X1) ∧ X1[X.length]? = some (.cells [nv, mv] 1 false false) ∧ HLe X X1 := ⟨_, h.box X, app_new, .app _ _⟩

theorem r_rmembers (h : RG X nv mv N M) (hO : RefOK N M K mem) (hN : N.length ≤ 100) (hM : M.length ≤ 400) : ∃ X' v q l, R (n + 5) n_ref10Members [.agg #[nv, mv], strv k] X = some (.tuple #[v, iv (errDrop k K)], X') ∧ RowS X' v (l.map strv) q ∧ Is l (fun m => errDrop k K = 0 ∧ mem k m = true) ∧ HLe X X' := by
  have f1 : ∀ r X', F_ref10Members (R (n + 4)) (.agg #[nv, mv]) (strv k) X = some (r, X') → R (n + 5) n_ref10Members [.agg #[nv, mv], strv k] X = some (r, X') := fun r X' hr => by rw [R, run_ref10Members rfl]; exact hr
  obtain ⟨X1, e1, b1, l1⟩ := box1 h
  have h1 := h.hle l1
  have e2 : ∀ Y : Heap, R (n + 4) n_ref05Name [strv k] Y = some (.bool (nameB k), Y) := fun Y => r_refName0 (n := n + 1)
  have d0 : ld1 (pa X.length 0) X1 = some (nv, X1) := ld1_at b1 rfl
  have d1 : ld1 (pa X.length 1) X1 = some (mv, X1) := ld1_at b1 rfl
  have e3 : R (n + 4) n_ref10Has [nv, strv k] X1 = _ := r_rhas (n := n + 3) (x := k) (by omega) h1.sn
  have nope : ∀ e, errDrop k K = e → e ≠ 0 → Is [] (fun m => errDrop k K = 0 ∧ mem k m = true) := fun e he hne => ⟨List.Pairwise.nil, fun x => ⟨fun hx => absurd hx (by simp), fun hx => absurd (he.symm.trans hx.1) hne⟩⟩
  cases hn : nameB k
  · have hE : errDrop k K = 10 := by unfold errDrop; rw [hn]; rfl
    refine ⟨X1, _, [], [], by rw [hE]; refine f1 _ _ ?_; unfold F_ref10Members; rw [bind_eq e1, bind_eq (e2 _), hn, bind_eq not_r, cnd_b, if_pos (by rfl)]; rfl, RowS.nil, nope _ hE (by decide), l1⟩
  · by_cases hk : k ∈ K
    · have hE : errDrop k K = 0 := by unfold errDrop; rw [hn, if_pos rfl, if_pos hk]
      have hkN : k ∈ N := (hO.n.mem k).2 hk
      rw [decide_eq_true hkN] at e3
      obtain ⟨X2, sl, q, e4, r4, s4, o4⟩ := memb_do (n := n + 4) (k := k) (by omega) h1.sm M.length 0 (.slice none 0 0) [] [] X1 (by omega) (by omega) (by simp) (.refl _) (by simp) RowS.nil
      rw [show iv ((0 : Nat) : Int) = .int .i64 0 from rfl] at e4
      rw [List.drop_zero, List.nil_append] at r4
      have hlen : ((M.filter (fun u => u.1 == k)).map (·.2)).length ≤ 500 := by
        have := List.length_filter_le (fun u : Pr => u.1 == k) M
        simp; omega
      obtain ⟨X3, v3, q3, l3, e5, r5, i5, n5, l5, o5⟩ := r_sorted (n := n + 2) hlen r4.rd
      have e5 : R (n + 4) n_ref10Sorted [sl] X2 = _ := e5
      refine ⟨X3, v3, q3, l3, ?_, r5, ⟨i5.asc, fun z => ?_⟩, (l1.trans s4.hle).trans l5⟩
      · rw [hE]
        refine f1 _ _ ?_
        unfold F_ref10Members
        rw [bind_eq e1, bind_eq (e2 _), hn, bind_eq not_r, cnd_b, if_neg (by simp), bind_eq fa_z, bind_eq d0, bind_eq e3, bind_eq not_r, cnd_b, if_neg (by simp), bind_eq fa_z, bind_eq d1, bind_eq (h.lenM _), jn_ext e4, xk_hit, c1_r, bind_eq e5]
        rfl
      · rw [i5.mem z, ← hO.m k z]
        constructor
        · intro hz
          obtain ⟨u, hu, rfl⟩ := List.mem_map.1 hz
          obtain ⟨h1, h2⟩ := List.mem_filter.1 hu
          have h2 : u.1 = k := by simpa using h2
          exact ⟨hE, by rw [← h2]; exact h1⟩
        · rintro ⟨_, hz⟩
          exact List.mem_map.2 ⟨(k, z), List.mem_filter.2 ⟨hz, by simp⟩, rfl⟩
    · have hE : errDrop k K = 8 := by unfold errDrop; rw [hn, if_pos rfl, if_neg hk]
      have hkN : ¬ k ∈ N := fun hm => hk ((hO.n.mem k).1 hm)
      rw [decide_eq_false hkN] at e3
      refine ⟨X1, _, [], [], by rw [hE]; refine f1 _ _ ?_; unfold F_ref10Members; rw [bind_eq e1, bind_eq (e2 _), hn, bind_eq not_r, cnd_b, if_neg (by simp), bind_eq fa_z, bind_eq d0, bind_eq e3, bind_eq not_r, cnd_b, if_pos (by rfl)]; rfl, RowS.nil, nope _ hE (by decide), l1⟩

theorem r_rof (h : RG X nv mv N M) (hM : M.length ≤ 400) : ∃ X' v q l, R (n + 3) n_ref10Of [.agg #[nv, mv], strv m] X = some (v, X') ∧ RowS X' v (l.map strv) q ∧ Is l (fun k => (k, m) ∈ M) ∧ l.length ≤ 500 ∧ HLe X X' ∧ ∀ j ∈ q, X.length ≤ j := by
  obtain ⟨X1, e1, b1, l1⟩ := box1 h
  have h1 := h.hle l1
  have d1 : ld1 (pa X.length 1) X1 = some (mv, X1) := ld1_at b1 rfl
  obtain ⟨X2, sl, q, e4, r4, s4, o4⟩ := of_doG (n := n + 2) (k := m) (by omega) h1.sm M.length 0 (.slice none 0 0) [] [] X1 (by omega) (by omega) (by simp) (.refl _) (by simp) RowS.nil
  rw [show iv ((0 : Nat) : Int) = .int .i64 0 from rfl] at e4
  rw [List.drop_zero, List.nil_append] at r4
  have hlen : ((M.filter (fun u => u.2 == m)).map (·.1)).length ≤ 500 := by
    have := List.length_filter_le (fun u : Pr => u.2 == m) M
    simp; omega
  obtain ⟨X3, v3, q3, l3, e5, r5, i5, n5, l5, o5⟩ := r_sorted (n := n) hlen r4.rd
  refine ⟨X3, v3, q3, l3, ?_, r5, ⟨i5.asc, fun z => ?_⟩, by omega, (l1.trans s4.hle).trans l5, fun j hj => Nat.le_trans (l1.trans s4.hle).len (o5 j hj)⟩
  · rw [R, run_ref10Of rfl]
    unfold F_ref10Of
    rw [bind_eq e1, bind_eq fa_z, bind_eq d1, bind_eq (h.lenM _), jn_ext e4, xk_hit, c1_r]
    refine (bind_eq e5).trans ?_
    rfl
  · rw [i5.mem z]
    constructor
    · intro hz
      obtain ⟨u, hu, rfl⟩ := List.mem_map.1 hz
      obtain ⟨h1, h2⟩ := List.mem_filter.1 hu
      have h2 : u.2 = m := by simpa using h2
      rw [← h2]; exact h1
    · intro hz
      exact List.mem_map.2 ⟨(z, m), List.mem_filter.2 ⟨hz, by simp⟩, rfl⟩

/-! renamed -/

def renP (s t : Tx) (u : Pr) : Pr := if u.2 = s then (u.1, t) else u

theorem rren_do (hl : M.length ≤ 1000) (hs : SlN 2 H0 mv (M.map prG)) : ∀ (r j : Nat) (sl : Value) (q : List Nat) (acc : List Pr) (X : Heap), M.length - j = r → j ≤ M.length → acc.length ≤ j → HLe H0 X → (∀ i ∈ q, H0.length ≤ i) → RowN 2 X sl (acc.map prG) q →
    ∃ X' sl' q', loopM (c8 (F_ref10Rename.l1 (R n))) [strv s, strv t, z1, z2, sl, mv, iv M.length, iv j] X = some (.ext 0 [z1, z2, sl'], X') ∧ RowN 2 X' sl' ((acc ++ (M.drop j).map (renP s t)).map prG) q' ∧ HLe H0 X' ∧ ∀ i ∈ q', H0.length ≤ i
  | 0, j, sl, q, acc, X, ht, hj, ha, hle, hq, hr => by
    rw [List.drop_eq_nil_of_le (by omega)]
    refine ⟨X, sl, q, loop_ext ?_, by simpa using hr, hle, hq⟩
    rw [c8_r, show j = M.length by omega]
    unfold F_ref10Rename.l1
    rw [bind_eq lss_r, cnd_b, if_neg (by simp)]
    rfl
  | r + 1, j, sl, q, acc, X, ht, hj, ha, hle, hq, hr => by
    have hkl : j < M.length := by omega
    have hlt : (j : Int) < M.length := by omega
    have hg := List.getElem?_eq_getElem hkl
    have hd := List.drop_eq_getElem_cons hkl
    generalize M[j] = u at hg hd
    have hf := fun {K : Value → A.M Out} => pfetchG (K := K) (hs.mono hle) hg
    have bx : (X ++ [AObj.cells (prG u) 1 false false])[X.length]? = some (.cells (prG u) 1 false false) := app_new
    have l1 : HLe X (X ++ [AObj.cells (prG u) 1 false false]) := .app _ _
    generalize X ++ [AObj.cells (prG u) 1 false false] = X1 at hf bx l1
    have hr1 := hr.step l1.step (by simp)
    have d1 : ld1 (pa X.length 1) X1 = some (strv u.2, X1) := ld1_at bx rfl
    have q1 : bop .str .eql (strv u.2) (strv s) X1 = some (.bool (u.2 == s), X1) := eqs_v
    have hx0 := hle.len
    have hXq : X.length ∉ q := fun hm => by have := hr.lt _ hm; omega
    obtain ⟨X2, e2, b2, r2, l2⟩ : ∃ X2, (cnd (.bool (u.2 == s)) (bind (fa 1 (pt X.length)) fun v38x26 => bind (st1 v38x26 (strv t)) fun _ => ret (.nrm [strv s, strv t, z1, z2, sl, pt X.length, mv, iv M.length, iv j])) (ret (.nrm [strv s, strv t, z1, z2, sl, pt X.length, mv, iv M.length, iv j])) : A.M Out) X1 = some (.nrm [strv s, strv t, z1, z2, sl, pt X.length, mv, iv M.length, iv j], X2) ∧ X2[X.length]? = some (.cells (prG (renP s t u)) 1 false false) ∧ RowN 2 X2 sl (acc.map prG) q ∧ HLe H0 X2 := by
      unfold renP
      by_cases hu : u.2 = s
      · have w : st1 (pa X.length 1) (strv t) X1 = some (undef, X1.set X.length (.cells [strv u.1, strv t] 1 false false)) := st1_at (cs := prG u) bx (by simp [prG]) rfl
        refine ⟨X1.set X.length (.cells [strv u.1, strv t] 1 false false), ?_, ?_, hr1.setB hXq, (hle.trans l1).setN hx0⟩
        · rw [cnd_b, if_pos (by simpa using hu), bind_eq fa_z, bind_eq w]; rfl
        · rw [if_pos hu]; exact set_get bx
      · refine ⟨X1, ?_, ?_, hr1, hle.trans l1⟩
        · rw [cnd_b, if_neg (by simpa using hu)]; rfl
        · rw [if_neg hu]; exact bx
    have dA : ldA 2 (pt X.length) X2 = some (.agg (prG (renP s t u)).toArray, X2) := ldA_at b2 rfl
    obtain ⟨w, Y, sl1, X3, q1', a1, a2, r3, l3, o3, s3⟩ := ppushG (u := renP s t u) r2 (by omega) hq l2
    obtain ⟨X4, sl2, q2, e4, r4, l4, o4⟩ := rren_do hl hs r (j + 1) sl1 q1' (acc ++ [renP s t u]) X3 (by omega) (by omega) (by simp; omega) l3 o3 r3
    refine ⟨X4, sl2, q2, (loop_next ?_).trans e4, by rw [hd]; simpa using r4, l4, o4⟩
    rw [c8_r]
    unfold F_ref10Rename.l1
    rw [bind_eq lss_r, cnd_b, if_pos (by simpa using hlt), hf, bind_eq fa_z, bind_eq d1, bind_eq q1]
    refine (jn_nrm (vs := [strv s, strv t, z1, z2, sl, pt X.length, mv, iv M.length, iv j]) (H' := X2) e2).trans ?_
    rw [c9_r, bind_eq dA, bind_eq a1, bind_eq a2, bind_eq add_r, wsuc (by omega)]
    rfl

theorem r_rren (h : RG X nv mv N M) (hO : RefOK N M K mem) (hout : ∀ k x, mem k x = true → k ∈ K) (hM : M.length ≤ 400) : ∃ X' mv' M', R (n + 5) n_ref10Rename [.agg #[nv, mv], strv s, strv t] X = some (.tuple #[.agg #[nv, mv'], iv (errRen s t K mem)], X') ∧ RG X' nv mv' N M' ∧ RefOK N M' K (if errRen s t K mem = 0 then memRen s t mem else mem) ∧ M'.length ≤ M.length ∧ HLe X X' := by
  have f1 : ∀ r X', F_ref10Rename (R (n + 4)) (.agg #[nv, mv]) (strv s) (strv t) X = some (r, X') → R (n + 5) n_ref10Rename [.agg #[nv, mv], strv s, strv t] X = some (r, X') := fun r X' hr => by rw [R, run_ref10Rename rfl]; exact hr
  obtain ⟨X1, e1, b1, b2, l1, len1⟩ := boxes h
  have h1 := h.hle l1
  have e2 : ∀ Y : Heap, R (n + 4) n_ref05Name [strv t] Y = some (.bool (nameB t), Y) := fun Y => r_refName0 (n := n + 1)
  have dA : ldA 2 (pt X.length) X1 = some (.agg #[nv, mv], X1) := ldA_at b1 rfl
  have same : ∀ e, errRen s t K mem = e → e ≠ 0 → RefOK N M K (if errRen s t K mem = 0 then memRen s t mem else mem) := fun e he hne => by rw [if_neg (by rw [he]; exact hne)]; exact hO
  cases hn : nameB t
  · have hE : errRen s t K mem = 10 := by unfold errRen; rw [hn]; rfl
    obtain ⟨X2, e4, r4, l4⟩ := finE (e := 10) h l1 b1 b2
    refine ⟨X2, mv, M, by rw [hE]; refine f1 _ _ ?_; unfold F_ref10Rename; refine (e1 _).trans ?_; rw [bind_eq (e2 _), hn, bind_eq not_r, cnd_b, if_pos (by rfl)]; exact e4, r4, same _ hE (by decide), Nat.le_refl _, l4⟩
  · obtain ⟨X2, v, q, l, e3, r3, i3, n3, l3, o3⟩ := r_rof (n := n + 1) (m := t) h1 hM
    have e3 : R (n + 4) n_ref10Of [.agg #[nv, mv], strv t] X1 = _ := e3
    have hlen : lenS v X2 = some (iv l.length, X2) := by have := r3.rd.len (H' := X2); simpa using this
    have hlO : l = [] ↔ ofL t K mem = [] := by
      rw [i3.nil]
      constructor
      · intro hx; refine List.eq_nil_iff_forall_not_mem.2 fun x hm => hx x ((hO.m x t).2 (ofL_in.1 hm).2)
      · intro hx x hm
        have hm := (hO.m x t).1 hm
        have : x ∈ ofL t K mem := ofL_in.2 ⟨hout x t hm, hm⟩
        rw [hx] at this; cases this
    -- the test, whether somebody is called so
    have hgate : ∃ X3, HLe X1 X3 ∧ ∀ K' : Value → A.M Value, bind (bop .str .neq (strv s) (strv t)) (fun v17x7 => bind (gate v17x7 true 5 (bind (ldA 2 (pt X.length)) fun v19x8 => bind (R (n + 4) n_ref10Of [v19x8, strv t]) fun v21x9 => bind (lenS v21x9) fun v22x10 => bind (bop .int .gtr v22x10 (Value.int .i64 0)) fun v23x11 => ret [v19x8, strv t, v21x9, v22x10, v23x11])) (c5 fun _ _ _ _ q12_4 => bind (pick v17x7 q12_4 (Value.bool false)) K')) X1 = K' (.bool (!(s == t) && decide (ofL t K mem ≠ []))) X3 := by
      cases hst : (s == t)
      · refine ⟨X2, l3, fun K' => ?_⟩
        rw [bind_eq nes_v, hst]
        simp only [Bool.not_false]
        rw [b_g_in, b_assoc, bind_eq dA, b_assoc, bind_eq e3, b_assoc, bind_eq hlen, b_assoc, bind_eq gtr_r, b_ret, c5_r, bind_eq pick_r]
        simp only [cond_true, Bool.true_and]
        have : decide ((l.length : Int) > 0) = decide (ofL t K mem ≠ []) := by
          rw [decide_eq_decide, Ne, ← hlO]
          have := List.length_pos_iff (l := l)
          constructor
          · intro hp; exact this.1 (by omega)
          · intro hp; have := this.2 hp; omega
        rw [this]
      · refine ⟨X1, .refl _, fun K' => ?_⟩
        rw [bind_eq nes_v, hst]
        simp only [Bool.not_true]
        rw [bind_eq (g_r.trans (if_neg (by simp)))]
        simp only [List.replicate]
        rw [c5_r, bind_eq pick_r]
        rfl
    obtain ⟨X3, l13, hgate⟩ := hgate
    have b1' := l13 _ _ b1
    have b2' := l13 _ _ b2
    have l03 := l1.trans l13
    by_cases hb : (!(s == t) && decide (ofL t K mem ≠ [])) = true
    · have hE : errRen s t K mem = 9 := by
        simp only [Bool.and_eq_true, Bool.not_eq_true', beq_eq_false_iff_ne, decide_eq_true_eq] at hb
        unfold errRen; rw [hn, if_pos rfl, if_neg hb.1, if_neg hb.2]
      obtain ⟨X4, e4, r4, l4⟩ := finE (e := 9) h l03 b1' b2'
      refine ⟨X4, mv, M, by rw [hE]; refine f1 _ _ ?_; unfold F_ref10Rename; refine (e1 _).trans ?_; rw [bind_eq (e2 _), hn, bind_eq not_r, cnd_b, if_neg (by simp)]; refine (hgate _).trans ?_; rw [cnd_b, if_pos hb]; exact e4, r4, same _ hE (by decide), Nat.le_refl _, l4⟩
    · have hE : errRen s t K mem = 0 := by
        unfold errRen; rw [hn, if_pos rfl]
        by_cases hst : s = t
        · rw [if_pos hst]
        · rw [if_neg hst]
          have : ofL t K mem = [] := by
            cases ho : ofL t K mem with
            | nil => rfl
            | cons a b => exact absurd (by rw [ho]; simp [hst]) hb
          rw [if_pos this]
      have d1 : ld1 (pa X.length 1) X3 = some (mv, X3) := ld1_at b1' rfl
      obtain ⟨X4, sl, q4, e4, r4, l4, o4⟩ := rren_do (n := n + 4) (s := s) (t := t) (z1 := pt X.length) (z2 := pt (X.length + 1)) (by omega) (h.hle l03).sm M.length 0 (.slice none 0 0) [] [] X3 (by omega) (by omega) (by simp) (.refl _) (by simp) RowN.nil
      rw [show iv ((0 : Nat) : Int) = .int .i64 0 from rfl] at e4
      rw [List.drop_zero, List.nil_append] at r4
      have c1 := l4 _ _ b1'
      have c2 := l4 _ _ b2'
      have w3 : st1 (pa X.length 1) sl X4 = some (undef, X4.set X.length (.cells [nv, sl] 1 false false)) := st1_at (cs := [nv, mv]) c1 (by simp) r4.one.1
      have c3 : (X4.set X.length (.cells [nv, sl] 1 false false))[X.length]? = some (.cells [nv, sl] 1 false false) := set_get c1
      have c4 : (X4.set X.length (.cells [nv, sl] 1 false false))[X.length + 1]? = some (.cells [.slice none 0 0, .slice none 0 0] 1 false false) := by rw [List.getElem?_set_ne (by omega)]; exact c2
      have hone : ([nv, sl].all oneCell) = true := by
        have := h.one.1
        simp only [List.all_cons, List.all_nil, Bool.and_true, Bool.and_eq_true] at this ⊢
        exact ⟨this.1, r4.one.1⟩
      have hx := l13.len
      have hq4 : X.length ∉ q4 ∧ X.length + 1 ∉ q4 := ⟨fun hm => by have := o4 _ hm; omega, fun hm => by have := o4 _ hm; omega⟩
      have lfin : HLe X ((X4.set X.length (.cells [nv, sl] 1 false false)).set (X.length + 1) (.cells [nv, sl] 1 false false)) := ((l03.trans l4).setN (Nat.le_refl _)).setN (by omega)
      refine ⟨_, sl, M.map (renP s t), ?_, ⟨?_, q4, (r4.setB hq4.1).setB hq4.2⟩, ?_, by simp, lfin⟩
      · rw [hE]
        refine f1 _ _ ?_
        unfold F_ref10Rename
        refine (e1 _).trans ?_
        rw [bind_eq (e2 _), hn, bind_eq not_r, cnd_b, if_neg (by simp)]
        refine (hgate _).trans ?_
        rw [cnd_b, if_neg hb, bind_eq fa_z, bind_eq d1, bind_eq (h.lenM _), jn_ext e4, xk_hit, c3_r, bind_eq fa_z, bind_eq w3]
        exact fin c3 c4 (by omega) hone _
      · obtain ⟨qn, hn⟩ := h.n
        exact ⟨qn, hn.step lfin.step (by simp)⟩
      · rw [if_pos hE]
        refine ⟨hO.n, fun k' z => ?_⟩
        unfold memRen
        rw [List.mem_map]
        constructor
        · rintro ⟨u, hu, he⟩
          unfold renP at he
          by_cases h2 : u.2 = s
          · rw [if_pos h2] at he
            have h3 : u.1 = k' := congrArg Prod.fst he
            have h4 : t = z := congrArg Prod.snd he
            have h5 : mem k' s = true := by rw [← hO.m, ← h3, ← h2]; exact hu
            rw [if_pos h5, h4]; simp
          · rw [if_neg h2] at he
            subst he
            have h5 := (hO.m k' z).1 hu
            split
            · simp only [Bool.or_eq_true, Bool.and_eq_true, Bool.not_eq_true', beq_eq_false_iff_ne]
              exact .inr ⟨h5, h2⟩
            · exact h5
        · intro hz
          by_cases h5 : mem k' s = true
          · rw [if_pos h5] at hz
            simp only [Bool.or_eq_true, beq_iff_eq, Bool.and_eq_true, Bool.not_eq_true', beq_eq_false_iff_ne] at hz
            rcases hz with rfl | ⟨h6, h7⟩
            · exact ⟨(k', s), (hO.m _ _).2 h5, by unfold renP; rw [if_pos rfl]⟩
            · exact ⟨(k', z), (hO.m _ _).2 h6, by unfold renP; rw [if_neg h7]⟩
          · rw [if_neg h5] at hz
            have h7 : z ≠ s := fun e => h5 (by rw [← e]; exact hz)
            exact ⟨(k', z), (hO.m _ _).2 hz, by unfold renP; rw [if_neg h7]⟩

/-! removed -/

def woL (m : Tx) : List Tx → List Pr → List Pr
  | [], M => M
  | k :: l, M => woL m l (M.filter (noP k m))

theorem woL_len : ∀ {l : List Tx} {M : List Pr}, (woL m l M).length ≤ M.length
  | [], _ => Nat.le_refl _
  | k :: l, M => by
    unfold woL
    exact Nat.le_trans woL_len (List.length_filter_le _ _)

theorem woL_mem {k' z : Tx} : ∀ {l : List Tx} {M : List Pr}, (k', z) ∈ woL m l M ↔ (k', z) ∈ M ∧ ¬ (k' ∈ l ∧ z = m)
  | [], M => by simp [woL]
  | k :: l, M => by
    unfold woL
    rw [woL_mem, List.mem_filter]
    unfold noP
    simp only [Bool.or_eq_true, Bool.not_eq_true', beq_eq_false_iff_ne, List.mem_cons]
    constructor
    · rintro ⟨⟨h1, h2⟩, h3⟩
      refine ⟨h1, fun ⟨h4, h5⟩ => ?_⟩
      rcases h4 with h4 | h4
      · rcases h2 with h2 | h2
        · exact h2 h4
        · exact h2 h5
      · exact h3 ⟨h4, h5⟩
    · rintro ⟨h1, h2⟩
      refine ⟨⟨h1, ?_⟩, fun ⟨h4, h5⟩ => h2 ⟨.inr h4, h5⟩⟩
      by_cases hk : k' = k
      · exact .inr fun hz => h2 ⟨.inl hk, hz⟩
      · exact .inl hk

theorem rrem_do {lv : Value} {q : List Nat} (hl : l.length ≤ 1000) {b : Nat} (hbq : b ∉ q) (hb : H0.length ≤ b) (hnv : ∃ q, RowS H0 nv (N.map strv) q) : ∀ (r j : Nat) (mv : Value) (M : List Pr) (X : Heap), l.length - j = r → j ≤ l.length → M.length ≤ 1000 → HLe H0 X → RowS X lv (l.map strv) q → RG X nv mv N M → X[b]? = some (.cells [nv, mv] 1 false false) →
    ∃ X' mv', loopM (c7 (F_ref10Remove.l1 (R (n + 1)))) [strv m, pt b, z2, z3, lv, iv l.length, iv j] X = some (.ext 0 [pt b, z2, z3], X') ∧ RG X' nv mv' N (woL m (l.drop j) M) ∧ X'[b]? = some (.cells [nv, mv'] 1 false false) ∧ HLe H0 X' ∧ Step [b] X [b] X'
  | 0, j, mv, M, X, ht, hj, hM, hle, hA', h, hbx => by
    rw [List.drop_eq_nil_of_le (by omega)]
    refine ⟨X, mv, loop_ext ?_, h, hbx, hle, .refl _ _⟩
    rw [c7_r, show j = l.length by omega]
    unfold F_ref10Remove.l1
    rw [bind_eq lss_r, cnd_b, if_neg (by simp)]
    rfl
  | r + 1, j, mv, M, X, ht, hj, hM, hle, hA', h, hbx => by
    have hkl : j < l.length := by omega
    have hlt : (j : Int) < l.length := by omega
    have hg := List.getElem?_eq_getElem hkl
    have hd := List.drop_eq_getElem_cons hkl
    generalize l[j] = k at hg hd
    have x1 := hA'.ix (i := j) (by simpa using hkl) .i64 X
    have x2 := hA'.ldx (row_at hg)
    have dA : ldA 2 (pt b) X = some (.agg #[nv, mv], X) := ldA_at hbx rfl
    obtain ⟨X1, mv1, e1, r1, l1⟩ := r_rwithout (n := n) (k := k) (m := m) h hM
    have c1 := l1 _ _ hbx
    have w1 : stA 2 (pt b) (.agg #[nv, mv1]) X1 = some (undef, X1.set b (.cells [nv, mv1] 1 false false)) := stA_at (vs := [nv, mv1]) c1 rfl rfl r1.one.1
    have nob : ∀ {q : List Nat}, RowN 2 X1 mv1 ((M.filter (noP k m)).map prG) q → b ∉ q := fun hm hq => by
      rcases hm with ⟨_, rfl, _⟩ | ⟨sid, rest, r, gr, _, rfl, hid, _, _⟩
      · cases hq
      · have hq : b = sid := by simpa using hq
        rw [← hq, c1] at hid
        injection hid with h1
        injection h1 with _ h2
        cases h2
    have lset := (hle.trans l1).setN (o := .cells [nv, mv1] 1 false false) hb
    have r2 : RG (X1.set b (.cells [nv, mv1] 1 false false)) nv mv1 N (M.filter (noP k m)) := ⟨hnv.elim fun q hq => ⟨q, hq.step lset.step (by simp)⟩, r1.m.elim fun q hq => ⟨q, hq.setB (nob hq)⟩⟩
    have s2 : Step [b] X [b] (X1.set b (.cells [nv, mv1] 1 false false)) := l1.stepq.trans ⟨by simp, fun i hi hn => List.getElem?_set_ne (fun e => hn (by simp [e])), fun i hi => .inl hi⟩
    obtain ⟨X3, mv3, e3, r3, b3, l3, s3⟩ := rrem_do hl hbq hb hnv r (j + 1) mv1 (M.filter (noP k m)) _ (by omega) (by omega) (Nat.le_trans (List.length_filter_le _ _) hM) ((hle.trans l1).setN hb) ((hA'.step l1.step (by simp)).setB hbq) r2 (set_get c1)
    refine ⟨X3, mv3, (loop_next ?_).trans e3, by rw [hd]; exact r3, b3, l3, s2.trans s3⟩
    rw [c7_r]
    unfold F_ref10Remove.l1
    rw [bind_eq lss_r, cnd_b, if_pos (by simpa using hlt), bind_eq x1, bind_eq x2, bind_eq dA, bind_eq e1, bind_eq w1, bind_eq add_r, wsuc (by omega)]
    rfl

theorem r_rrem (h : RG X nv mv N M) (hO : RefOK N M K mem) (hK : K.Nodup) (hout : ∀ k x, mem k x = true → k ∈ K) (hM : M.length ≤ 400) : ∃ X' mv' M', R (n + 5) n_ref10Remove [.agg #[nv, mv], strv m] X = some (.tuple #[.agg #[nv, mv'], iv (ofL m K mem).length], X') ∧ RG X' nv mv' N M' ∧ RefOK N M' K (memRem m mem) ∧ M'.length ≤ M.length ∧ HLe X X' := by
  obtain ⟨X1, e1, b1, b2, l1, len1⟩ := boxes h
  have h1 := h.hle l1
  have dA : ldA 2 (pt X.length) X1 = some (.agg #[nv, mv], X1) := ldA_at b1 rfl
  obtain ⟨X2, v, q, l, e3, r3, i3, n3, l3, o3⟩ := r_rof (n := n + 1) (m := m) h1 hM
  have e3 : R (n + 4) n_ref10Of [.agg #[nv, mv], strv m] X1 = _ := e3
  have hlen : ∀ Y, lenS v Y = some (iv l.length, Y) := fun Y => by have := r3.rd.len (H' := Y); simpa using this
  have l12 := l1.trans l3
  have b1' := l3 _ _ b1
  have b2' := l3 _ _ b2
  have h2 := h.hle l12
  have hn : ∃ q, RowS X nv (N.map strv) q := h.n
  have hbq : X.length ∉ q := fun hm => by have := o3 _ hm; omega
  obtain ⟨X3, mv3, e4, r4, c1, l4, s4⟩ := rrem_do (n := n + 3) (m := m) (z2 := pt (X.length + 1)) (z3 := v) (H0 := X) (by omega) (b := X.length) hbq (Nat.le_refl _) hn l.length 0 mv M X2 (by omega) (by omega) (by omega) l12 r3 h2 b1'
  rw [show iv ((0 : Nat) : Int) = .int .i64 0 from rfl] at e4
  rw [List.drop_zero] at r4
  have c2 := s4.get b2' (by simp)
  have hone := r4.one.1
  have w1 : ldA 2 (pt X.length) X3 = some (.agg #[nv, mv3], X3) := ldA_at c1 rfl
  have w2 : stA 2 (pt (X.length + 1)) (.agg #[nv, mv3]) X3 = some (undef, X3.set (X.length + 1) (.cells [nv, mv3] 1 false false)) := stA_at (vs := [nv, mv3]) c2 rfl rfl hone
  have w3 : ldA 2 (pt (X.length + 1)) (X3.set (X.length + 1) (.cells [nv, mv3] 1 false false)) = some (.agg #[nv, mv3], X3.set (X.length + 1) (.cells [nv, mv3] 1 false false)) := ldA_at (set_get c2) rfl
  have lfin : HLe X (X3.set (X.length + 1) (.cells [nv, mv3] 1 false false)) := l4.setN (by omega)
  have hlen2 : l.length = (ofL m K mem).length := by
    have h1 : l.Nodup := i3.asc.nodup
    refine ((List.perm_ext_iff_of_nodup h1 ?_).2 fun x => ?_).length_eq
    · exact ((ksort_asc hK).filter _).nodup
    · rw [i3.mem x, hO.m, ofL_in]
      exact ⟨fun hm => ⟨hout x m hm, hm⟩, fun hm => hm.2⟩
  have nob : ∀ {q : List Nat}, RowN 2 X3 mv3 ((woL m l M).map prG) q → X.length + 1 ∉ q := fun hm hq => by
    rcases hm with ⟨_, rfl, _⟩ | ⟨sid, rest, r, gr, _, rfl, hid, _, _⟩
    · cases hq
    · have hq : X.length + 1 = sid := by simpa using hq
      rw [← hq, c2] at hid
      injection hid with h1
      injection h1 with _ h2
      cases h2
  refine ⟨_, mv3, woL m l M, ?_, ⟨hn.elim fun q hq => ⟨q, hq.step lfin.step (by simp)⟩, r4.m.elim fun q hq => ⟨q, hq.setB (nob hq)⟩⟩, ⟨hO.n, fun k' z => ?_⟩, woL_len, lfin⟩
  · rw [R, run_ref10Remove rfl]
    unfold F_ref10Remove
    refine (e1 _).trans ?_
    rw [bind_eq dA, bind_eq e3, bind_eq (hlen _), jn_ext e4, xk_hit, c3_r, bind_eq w1, bind_eq (hlen _), bind_eq w2, bind_eq w3, hlen2]
    rfl
  · rw [woL_mem, hO.m]
    unfold memRem
    simp only [Bool.and_eq_true, Bool.not_eq_true', beq_eq_false_iff_ne]
    constructor
    · rintro ⟨h1, h2⟩
      refine ⟨h1, fun e => h2 ⟨?_, e⟩⟩
      rw [i3.mem, hO.m, ← e]; exact h1
    · rintro ⟨h1, h2⟩
      exact ⟨h1, fun h => h2 h.2⟩

end

end Go.Proofs.Ytmacmlpiheimhaa.A
