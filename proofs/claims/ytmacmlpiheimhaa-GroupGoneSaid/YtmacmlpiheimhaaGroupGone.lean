/- GroupGone: who is removed is in no group; who is renamed is where it was. -/
import Derived.Test.YtmacmlpiheimhaaGroupPlays
namespace Go.Proofs.Ytmacmlpiheimhaa.A
set_option linter.unusedVariables false
set_option linter.unusedSimpArgs false
open Go.Proofs Go.Proofs.Ytmacmlpiheimhaa

section
variable {H X X' : Heap} {n g o c w : Nat} {G : GMap} {mem mem' : Mem} {nv mv sl : Value} {N K : List Tx} {M : List Pr} {ac : List EAct} {nm nx m k x s t : Tx}

theorem ofL_nil (h : ∀ k ∈ K, mem k m = false) : ofL m K mem = [] := List.eq_nil_iff_forall_not_mem.2 fun k hk => by
  obtain ⟨h1, h2⟩ := ofL_in.1 hk
  rw [h k h1] at h2; cases h2

theorem gone1_do (hA : EActs H sl ac) (hn : ac.length ≤ 60) (hw0 : H.length ≤ w) : ∀ (t j : Nat) (G : GMap) (mem : Mem) (nv mv : Value) (N : List Tx) (M : List Pr) (X : Heap), ac.length - j = t → j ≤ ac.length → HLe H X → GSt X g o G mem nv mv N M j → (∀ i ∈ gown o G, H.length ≤ i) → X[w]? = some (.cells [nv, mv] 1 false false) → g ≠ w →
    ∃ X' G' mem', loopM (c7 (F_law10GroupGone.l1 (R (n + 9)))) [strv nm, strv nx, pt g, pt w, sl, iv ac.length, iv j] X = some (.ext 0 [strv nm, strv nx, pt g], X') ∧ Grp X' g o G' mem' 60
  | 0, j, G, mem, nv, mv, N, M, X, ht, hj, hle, h, ho, hw, hgw => by
    refine ⟨X, G, mem, loop_ext ?_, h.g.more (by omega) (fun _ _ => rfl)⟩
    rw [c7_r, show j = ac.length by omega]
    unfold F_law10GroupGone.l1
    rw [bind_eq lss_r, cnd_b, if_neg (by simp)]
    rfl
  | t + 1, j, G, mem, nv, mv, N, M, X, ht, hj, hle, h, ho, hw, hgw => by
    have hkl : j < ac.length := by omega
    have hlt : (j : Int) < ac.length := by omega
    have hja := List.getElem?_eq_getElem hkl
    generalize ac[j] = u at hja
    have g1 : (X ++ [AObj.cells u.cells 1 false false])[X.length]? = some (.cells u.cells 1 false false) := app_new
    have hf := fun {K : Value → A.M Out} => (hA.mono hle).fetch (k := K) hja
    have k1 : HLe X (X ++ [AObj.cells u.cells 1 false false]) := .app _ _
    generalize X ++ [AObj.cells u.cells 1 false false] = X1 at g1 k1 hf
    have d1 : ldA 2 (pt w) X1 = some (.agg #[nv, mv], X1) := ldA_at (k1 _ _ hw) rfl
    have d2 : ldA 3 (pt X.length) X1 = some (.agg u.cells.toArray, X1) := ldA_at g1 rfl
    obtain ⟨X2, G2, mem2, nv2, mv2, N2, M2, e2, h2, s2⟩ := r_ldo (n := n) (u := u) (h.hle k1) (by omega)
    have cells : ∀ {b : Nat} {cs : List Value}, X1[b]? = some (.cells cs 1 false false) → X2[b]? = some (.cells cs 1 false false) := fun hb => s2.get hb fun hm => ((h.hle k1).g.isMap hm).2 _ _ _ _ hb
    have hw2 := cells (k1 _ _ hw)
    have hm2 := (hle.trans k1).more s2 ho
    have w1 : stA 2 (pt w) (.agg #[nv2, mv2]) X2 = some (undef, X2.set w (.cells [nv2, mv2] 1 false false)) := stA_at (vs := [nv2, mv2]) hw2 rfl rfl h2.r.one.1
    have hw3 : (X2.set w (.cells [nv2, mv2] 1 false false))[w]? = some (.cells [nv2, mv2] 1 false false) := set_get hw2
    have hnvS : ∃ a n c, nv = .slice a n c := h.r.n.elim fun q hq => hq.isS
    have h3 : GSt (X2.set w (.cells [nv2, mv2] 1 false false)) g o G2 mem2 nv2 mv2 N2 M2 (j + 1) := ⟨h2.g.setN hw2 hgw, h2.r.setBox hw2 hnvS, h2.ok, h2.few⟩
    have hle3 : HLe H (X2.set w (.cells [nv2, mv2] 1 false false)) := hm2.1.setN hw0
    obtain ⟨X7, G7, mem7, e8, r8⟩ := gone1_do hA hn hw0 t (j + 1) G2 mem2 nv2 mv2 N2 M2 _ (by omega) (by omega) hle3 h3 hm2.2 hw3 hgw
    refine ⟨X7, G7, mem7, (loop_next ?_).trans e8, r8⟩
    rw [c7_r]
    unfold F_law10GroupGone.l1
    rw [bind_eq lss_r, cnd_b, if_pos (by simpa using hlt), hf, bind_eq d1, bind_eq d2, bind_eq e2, bind_eq extr_p0, bind_eq extr_p1, bind_eq w1, bind_eq add_r, wsuc (by omega)]
    rfl

/-! dropped and made again -/

theorem errDrop_in (h : Grp X g o G mem c) (hk : k ∈ keysG G) : errDrop k (keysG G) = 0 ∧ nameB k = true := by
  obtain ⟨p, hp, rfl⟩ := List.mem_map.1 hk
  have := h.ok p hp
  exact ⟨by unfold errDrop; rw [if_pos this, if_pos hk], this⟩

theorem gone2_do {vl : Value} {q : List Nat} {lA : List Tx} (hl : lA.length ≤ 6) (hnd : lA.Nodup) : ∀ (t j : Nat) (G : GMap) (mem : Mem) (X : Heap), lA.length - j = t → j ≤ lA.length → Grp X g o G mem c → RowS X vl (lA.map strv) q → (∀ y, y ∈ keysG G ↔ y ∈ lA) → (∀ y ∈ lA.take j, mem y x = false) →
    ∃ X' G' mem', loopM (c5 (F_law10GroupGone.l2 (R (n + 8)))) [strv x, pt g, vl, iv lA.length, iv j] X = some (.ext 2 [strv x, pt g], X') ∧ Grp X' g o G' mem' c ∧ ∀ y ∈ keysG G', mem' y x = false
  | 0, j, G, mem, X, ht, hj, h, hr, hK, hm => by
    have : j = lA.length := by omega
    subst this
    rw [List.take_length] at hm
    refine ⟨X, G, mem, loop_ext ?_, h, fun y hy => hm y ((hK y).1 hy)⟩
    rw [c5_r]
    unfold F_law10GroupGone.l2
    rw [bind_eq lss_r, cnd_b, if_neg (by simp)]
    rfl
  | t + 1, j, G, mem, X, ht, hj, h, hr, hK, hm => by
    have hkl : j < lA.length := by omega
    have hlt : (j : Int) < lA.length := by omega
    have hg := List.getElem?_eq_getElem hkl
    have hmm := List.getElem_mem hkl
    generalize lA[j] = y at hg hmm
    have hyK := (hK y).2 hmm
    have x1 := hr.ix (i := j) (by simpa using hkl) .i64 X
    have x2 := hr.ldx (row_at hg)
    obtain ⟨v1, q1, X1, e1, r1, k1, o1⟩ := r_gof (n := n + 4) (m := x) h
    have e1 : R (n + 8) n_groupGroupsOf [pt g, strv x] X = _ := e1
    have hfew : (ofL x (keysG G) mem).length ≤ 1000000 := by have := ofL_few (m := x) (mem := mem) (K := keysG G); have := h.few; simp at *; omega
    have e2 : R (n + 8) n_law10Has [v1, strv y] X1 = _ := r_lhas (n := n + 7) (x := y) hfew r1.rd
    have hdec : decide (y ∈ ofL x (keysG G) mem) = mem y x := by
      cases hb : mem y x with
      | false => exact decide_eq_false fun hy => by have := (ofL_in.1 hy).2; rw [hb] at this; cases this
      | true => exact decide_eq_true (ofL_in.2 ⟨hyK, hb⟩)
    rw [hdec] at e2
    have h1 := h.hle k1
    have hr1 := hr.step k1.step (by simp)
    cases hb : mem y x
    · rw [hb] at e2
      obtain ⟨X5, G5, mem5, e5, r5⟩ := gone2_do hl hnd t (j + 1) G mem X1 (by omega) (by omega) h1 hr1 hK (fun z hz => by
        rcases (take_in hg).1 hz with hz | rfl
        · exact hm z hz
        · exact hb)
      refine ⟨X5, G5, mem5, (loop_next ?_).trans e5, r5⟩
      rw [c5_r]
      unfold F_law10GroupGone.l2
      rw [bind_eq lss_r, cnd_b, if_pos (by simpa using hlt), bind_eq x1, bind_eq x2, bind_eq e1, bind_eq e2, bind_eq (g_r.trans (if_neg (by simp)))]
      simp only [List.replicate]
      rw [c5_r, bind_eq gn_r]
      simp only [List.replicate]
      rw [c4_r, bind_eq (g_r.trans (if_neg (by simp)))]
      simp only [List.replicate]
      rw [c1_r, bind_eq pick_r]
      simp only [cond_false]
      rw [cnd_b, if_neg (by simp), bind_eq add_r, wsuc (by omega)]
      rfl
    · rw [hb] at e2
      obtain ⟨hE1, hnb⟩ := errDrop_in h hyK
      obtain ⟨X2, G2, e3, h2, k2, s2⟩ := r_gdrop (n := n) (k := y) h1
      rw [hE1] at e3
      rw [if_pos hE1] at h2
      have hk2 : keysG G2 = (keysG G).filter (fun z => decide (z ≠ y)) := by rw [k2]; unfold dropK; rw [if_pos hE1]
      have hlen2 : (keysG G2).length < 6 := by
        have h5 : (keysG G2).length < (keysG G).length := by
          rw [hk2]
          refine Nat.lt_of_le_of_ne (List.length_filter_le _ _) fun e => ?_
          have := (List.length_filter_eq_length_iff.1 e) y hyK
          simp at this
        have := h.few
        simp at h5 ⊢; omega
      have hE2 : errMake y (keysG G2) = 0 := by
        unfold errMake
        rw [if_pos hnb, if_neg (by rw [hk2]; simp), if_neg (by omega)]
      obtain ⟨X3, G3, e4, h3, k3, s3⟩ := r_gmake (n := n) (k := y) h2
      rw [hE2] at e4
      have hk3 : ∀ z, z ∈ keysG G3 ↔ z ∈ lA := fun z => by
        rw [k3]
        unfold makeK
        rw [if_pos hE2, hk2, List.mem_append, List.mem_filter, hK]
        simp only [List.mem_singleton, decide_eq_true_eq]
        constructor
        · rintro (h | rfl)
          · exact h.1
          · exact hmm
        · intro hz
          by_cases e : z = y
          · exact .inr e
          · exact .inl ⟨hz, e⟩
      have hr3 := (hr1.grp h1 s2).grp h2 s3
      obtain ⟨X5, G5, mem5, e5, r5⟩ := gone2_do hl hnd t (j + 1) G3 (memDrop y mem) X3 (by omega) (by omega) h3 hr3 hk3 (fun z hz => by
        unfold memDrop
        rcases (take_in hg).1 hz with hz | rfl
        · rw [hm z hz]; rfl
        · simp)
      have q0 : ∀ Z : Heap, bop .int .neq (iv 0) (.int .i64 0) Z = some (.bool false, Z) := fun Z => by rw [neq_r]; rfl
      refine ⟨X5, G5, mem5, (loop_next ?_).trans e5, r5⟩
      rw [c5_r]
      unfold F_law10GroupGone.l2
      rw [bind_eq lss_r, cnd_b, if_pos (by simpa using hlt), bind_eq x1, bind_eq x2, bind_eq e1, bind_eq e2, b_g_in, b_assoc, bind_eq e3, b_assoc, bind_eq (q0 _), b_ret, c5_r, b_g_in, b_assoc, bind_eq e4, b_assoc, bind_eq (q0 _), b_ret, c4_r, b_g_in, b_assoc, bind_eq pick_r, b_ret, c1_r, bind_eq pick_r]
      simp only [cond_false, cond_true]
      rw [cnd_b, if_neg (by simp), bind_eq add_r, wsuc (by omega)]
      rfl

/-! joined all over -/

def joinM (x : Tx) (l : List Tx) (mem : Mem) (j : Nat) : Mem := fun k n => mem k n || (n == x && decide (k ∈ l.take j))

theorem gone3_do {vl : Value} {q : List Nat} {l : List Tx} (hl : l.length ≤ 6) (hnd : l.Nodup) (hK : ∀ y ∈ l, y ∈ keysG G) (hno : ∀ y ∈ l, mem y x = false) : ∀ (t j : Nat) (X : Heap), l.length - j = t → j ≤ l.length → Grp X g o G (if nameB x then joinM x l mem j else mem) (c + j) → RowS X vl (l.map strv) q →
    ∃ X', loopM (c6 (F_law10GroupGone.l3 (R (n + 8)))) [strv x, pt g, iv (if nameB x then j else 0 : Nat), vl, iv l.length, iv j] X = some (.ext 4 [strv x, pt g, iv (if nameB x then l.length else 0 : Nat)], X') ∧ Grp X' g o G (if nameB x then joinM x l mem l.length else mem) (c + l.length)
  | 0, j, X, ht, hj, h, hr => by
    have : j = l.length := by omega
    subst this
    refine ⟨X, loop_ext ?_, h⟩
    rw [c6_r]
    unfold F_law10GroupGone.l3
    rw [bind_eq lss_r, cnd_b, if_neg (by simp)]
    rfl
  | t + 1, j, X, ht, hj, h, hr => by
    have hkl : j < l.length := by omega
    have hlt : (j : Int) < l.length := by omega
    have hg := List.getElem?_eq_getElem hkl
    have hmm := List.getElem_mem hkl
    generalize l[j] = y at hg hmm
    have hyK := hK y hmm
    have hyn := hno y hmm
    have hnot := take_not hnd hg
    have x1 := hr.ix (i := j) (by simpa using hkl) .i64 X
    have x2 := hr.ldx (row_at hg)
    obtain ⟨hE0, hnb⟩ := errDrop_in h hyK
    obtain ⟨X1, e1, h1, s1⟩ := r_gjoin (n := n) (k := y) (m := x) h
    have hr1 := hr.grp h s1
    cases hx : nameB x
    · have hE : errJoin y x (keysG G) (if nameB x then joinM x l mem j else mem) = 10 := by
        unfold errJoin; rw [errFind1, hx]; simp
      rw [hE] at e1
      rw [if_neg (by rw [hE]; decide)] at h1
      obtain ⟨X5, e5, r5⟩ := gone3_do hl hnd hK hno t (j + 1) X1 (by omega) (by omega) (h1.more (Nat.le_refl _) (fun _ _ => by rw [hx]; rfl)) hr1
      rw [hx] at e5 r5
      refine ⟨X5, (loop_next ?_).trans e5, r5⟩
      rw [c6_r]
      unfold F_law10GroupGone.l3
      rw [bind_eq lss_r, cnd_b, if_pos (by simpa using hlt), bind_eq x1, bind_eq x2, bind_eq e1, bind_eq eql_r]
      refine (jn_nrm (vs := [strv x, pt g, iv ((0 : Nat) : Int), vl, iv l.length, iv j]) (H' := X1) ?_).trans ?_
      · rw [cnd_b, if_neg (by decide)]; rfl
      · rw [c6_r, bind_eq add_r, wsuc (by omega)]; rfl
    · have hmj : (if nameB x then joinM x l mem j else mem) y x = false := by
        rw [hx, if_pos rfl]; unfold joinM; rw [hyn, decide_eq_false hnot]; simp
      have hE : errJoin y x (keysG G) (if nameB x then joinM x l mem j else mem) = 0 := by
        unfold errJoin; rw [hmj, errFind1, hx, hnb]; simp [hyK]
      rw [hE] at e1
      rw [if_pos hE] at h1
      have hnext : ∀ k' n', (if nameB x then joinM x l mem (j + 1) else mem) k' n' = memAdd y x (if nameB x then joinM x l mem j else mem) k' n' := fun k' n' => by
        rw [hx, if_pos rfl, if_pos rfl]
        unfold memAdd joinM
        have := take_in (k := k') hg
        by_cases h1 : k' ∈ l.take j
        · rw [decide_eq_true (this.2 (.inl h1)), decide_eq_true h1]
          cases mem k' n' <;> cases (n' == x) <;> cases (k' == y) <;> rfl
        · rw [decide_eq_false h1]
          by_cases h2 : k' = y
          · rw [decide_eq_true (this.2 (.inr h2))]
            simp [h2]
          · rw [decide_eq_false (fun h => (this.1 h).elim h1 h2)]
            simp [h2]
      obtain ⟨X5, e5, r5⟩ := gone3_do hl hnd hK hno t (j + 1) X1 (by omega) (by omega) (h1.more (Nat.le_refl _) hnext) hr1
      rw [hx] at e5 r5
      refine ⟨X5, (loop_next ?_).trans e5, r5⟩
      rw [c6_r]
      unfold F_law10GroupGone.l3
      rw [bind_eq lss_r, cnd_b, if_pos (by simpa using hlt), bind_eq x1, bind_eq x2, bind_eq e1, bind_eq eql_r]
      refine (jn_nrm (vs := [strv x, pt g, iv ((j + 1 : Nat) : Int), vl, iv l.length, iv j]) (H' := X1) ?_).trans ?_
      · rw [cnd_b, if_pos (by decide)]
        simp only [if_true]
        rw [bind_eq add_r, wsuc (by omega)]; rfl
      · rw [c6_r, bind_eq add_r, wsuc (by omega)]; rfl

/-- What comes once the name is settled. -/
noncomputable def goneF (Γ : Funs) (q46_0 q46_1 : Value) : A.M Value :=
  bind (Γ n_groupGroupsAll [q46_1]) fun v78x47 =>
  bind (lenS v78x47) fun v79x48 =>
  jn (loopM (c5 (F_law10GroupGone.l2 Γ)) [q46_0, q46_1, v78x47, v79x48, (Value.int .i64 0)]) noN (xk 2 (c2 fun q65_0 q65_1 =>
  bind (Γ n_groupGroupsOf [q65_1, q65_0]) fun v104x66 =>
  bind (lenS v104x66) fun v105x67 =>
  bind (bop .int .neq v105x67 (Value.int .i64 0)) fun v106x68 =>
  bind (gate v106x68 false 4 (bind (Γ n_groupGroupsRemove [q65_1, q65_0]) fun v110x69 =>
  bind (bop .int .neq v110x69 (Value.int .i64 0)) fun v111x70 =>
  ret [q65_1, q65_0, v110x69, v111x70])) (c4 fun _ _ _ q71_3 =>
  bind (pick v106x68 (Value.bool true) q71_3) fun v112x72 =>
  cnd v112x72
  (ret (Value.bool false))
  (bind (Γ n_groupGroupsAll [q65_1]) fun v114x73 =>
  bind (lenS v114x73) fun v115x74 =>
  jn (loopM (c6 (F_law10GroupGone.l3 Γ)) [q65_0, q65_1, (Value.int .i64 0), v114x73, v115x74, (Value.int .i64 0)]) noN (xk 4 (c3 fun q85_0 q85_1 q85_2 =>
  bind (Γ n_groupGroupsRemove [q85_1, q85_0]) fun v130x86 =>
  bind (bop .int .eql v130x86 q85_2) fun v132x87 =>
  bind (gate v132x87 true 5 (bind (Γ n_groupGroupsOf [q85_1, q85_0]) fun v136x88 =>
  bind (lenS v136x88) fun v137x89 =>
  bind (bop .int .eql v137x89 (Value.int .i64 0)) fun v138x90 =>
  ret [q85_1, q85_0, v136x88, v137x89, v138x90])) (c5 fun _ _ _ _ q91_4 =>
  bind (pick v132x87 q91_4 (Value.bool false)) fun v139x92 =>
  ret v139x92)) noX) ret))) noX) ret

theorem r_gone (h : Grp X g o G mem c) : ∃ X', goneF (R (n + 8)) (strv x) (pt g) X = some (.bool true, X') := by
  obtain ⟨v1, q1, X1, e1, r1, k1, o1⟩ := r_gall (n := n + 5) h
  have e1 : R (n + 8) n_groupGroupsAll [pt g] X = _ := e1
  have hl1 : (ksort (keysG G)).length ≤ 6 := by rw [ksort_few]; have := h.few; simpa using this
  have len1 : lenS v1 X1 = some (iv (ksort (keysG G)).length, X1) := by have := r1.rd.len (H' := X1); simpa using this
  obtain ⟨X2, G2, mem2, e2, h2, m2⟩ := gone2_do (n := n) (x := x) hl1 h.keysAsc.nodup (ksort (keysG G)).length 0 G mem X1 (by omega) (by omega) (h.hle k1) r1 (fun y => mem_ksort.symm) (by simp)
  rw [show iv ((0 : Nat) : Int) = .int .i64 0 from rfl] at e2
  obtain ⟨v3, q3, X3, e3, r3, k3, o3⟩ := r_gof (n := n + 4) (m := x) h2
  have e3 : R (n + 8) n_groupGroupsOf [pt g, strv x] X2 = _ := e3
  rw [ofL_nil m2] at r3
  have len3 : lenS v3 X3 = some (iv 0, X3) := r3.rd.len (H' := X3)
  have h3 := h2.hle k3
  obtain ⟨X4, e4, h4, s4⟩ := r_gremove (n := n) (m := x) h3
  rw [ofL_nil m2] at e4
  have e4 : R (n + 8) n_groupGroupsRemove [pt g, strv x] X3 = some (iv 0, X4) := e4
  obtain ⟨v5, q5, X5, e5, r5, k5, o5⟩ := r_gall (n := n + 5) h4
  have e5 : R (n + 8) n_groupGroupsAll [pt g] X4 = _ := e5
  have hl5 : (ksort (keysG G2)).length ≤ 6 := by rw [ksort_few]; have := h2.few; simpa using this
  have len5 : lenS v5 X5 = some (iv (ksort (keysG G2)).length, X5) := by have := r5.rd.len (H' := X5); simpa using this
  have h5 := h4.hle k5
  have hno : ∀ y, memRem x mem2 y x = false := fun y => by unfold memRem; simp
  obtain ⟨X6, e6, h6⟩ := gone3_do (n := n) (x := x) (mem := memRem x mem2) hl5 h2.keysAsc.nodup (fun y hy => mem_ksort.1 hy) (fun y _ => hno y) (ksort (keysG G2)).length 0 X5 (by omega) (by omega) (h5.more (Nat.le_refl _) (fun k' n' => by
    split
    · unfold joinM; simp
    · rfl)) r5
  have e6 : loopM (c6 (F_law10GroupGone.l3 (R (n + 8)))) [strv x, pt g, .int .i64 0, v5, iv (ksort (keysG G2)).length, .int .i64 0] X5 = some (.ext 4 [strv x, pt g, iv (if nameB x then (ksort (keysG G2)).length else 0 : Nat)], X6) := by
    rw [← e6]
    cases nameB x <;> rfl
  obtain ⟨X7, e7, h7, s7⟩ := r_gremove (n := n) (m := x) h6
  have hcount : (ofL x (keysG G2) (if nameB x then joinM x (ksort (keysG G2)) (memRem x mem2) (ksort (keysG G2)).length else memRem x mem2)).length = (if nameB x then (ksort (keysG G2)).length else 0) := by
    cases nameB x
    · simp only [Bool.false_eq_true, if_false]
      rw [ofL_nil fun y _ => hno y]; rfl
    · simp only [if_true]
      unfold ofL
      rw [List.filter_eq_self.2 fun y hy => ?_]
      unfold joinM
      rw [List.take_length, decide_eq_true hy]; simp
  rw [hcount] at e7
  obtain ⟨v8, q8, X8, e8, r8, k8, o8⟩ := r_gof (n := n + 4) (m := x) h7
  have e8 : R (n + 8) n_groupGroupsOf [pt g, strv x] X7 = _ := e8
  rw [ofL_nil fun y _ => by unfold memRem; simp] at r8
  have len8 : lenS v8 X8 = some (iv 0, X8) := r8.rd.len (H' := X8)
  have q0 : ∀ Z : Heap, bop .int .neq (iv 0) (.int .i64 0) Z = some (.bool false, Z) := fun Z => by rw [neq_r]; rfl
  have q1 : ∀ Z : Heap, bop .int .eql (iv 0) (.int .i64 0) Z = some (.bool true, Z) := fun Z => by rw [eql_r]; rfl
  have q2 : bop .int .eql (iv (if nameB x then (ksort (keysG G2)).length else 0 : Nat)) (iv (if nameB x then (ksort (keysG G2)).length else 0 : Nat)) X7 = some (.bool true, X7) := by rw [eql_r]; simp
  refine ⟨X8, ?_⟩
  unfold goneF
  rw [bind_eq e1, bind_eq len1, jn_ext e2, xk_hit, c2_r, bind_eq e3, bind_eq len3, bind_eq (q0 _), b_g_in, b_assoc, bind_eq e4, b_assoc, bind_eq (q0 _), b_ret, c4_r, bind_eq pick_r]
  simp only [cond_false]
  rw [cnd_b, if_neg (by simp), bind_eq e5, bind_eq len5, jn_ext e6, xk_hit, c3_r, bind_eq e7, bind_eq q2, b_g_in, b_assoc, bind_eq e8, b_assoc, bind_eq len8, b_assoc, bind_eq (q1 _), b_ret, c5_r, bind_eq pick_r]
  rfl

theorem renOf (h : Grp X g o G mem c) (hE : errRen s t (keysG G) mem = 0) : ofL t (keysG G) (memRen s t mem) = ofL s (keysG G) mem ∧ (s ≠ t → ofL s (keysG G) (memRen s t mem) = []) := by
  have hn : nameB t = true := by
    cases hn : nameB t with
    | true => rfl
    | false => unfold errRen at hE; rw [hn] at hE; cases hE
  unfold errRen at hE
  rw [hn, if_pos rfl] at hE
  refine ⟨?_, fun hst => ofL_nil fun k hk => ?_⟩
  · unfold ofL
    refine List.filter_congr fun k hk => ?_
    unfold memRen
    by_cases hm : mem k s = true
    · rw [if_pos hm, hm]; simp
    · rw [if_neg hm]
      have hm : mem k s = false := by simpa using hm
      rw [hm]
      by_cases hst : s = t
      · rw [← hst]; exact hm
      · rw [if_neg hst] at hE
        by_cases ho : ofL t (keysG G) mem = []
        · cases hb : mem k t with
          | false => rfl
          | true =>
            have : k ∈ ofL t (keysG G) mem := ofL_in.2 ⟨mem_ksort.1 hk, hb⟩
            rw [ho] at this; cases this
        · rw [if_neg ho] at hE; cases hE
  · unfold memRen
    split
    · have : (s == t) = false := beq_eq_false_iff_ne.2 hst
      rw [this]; simp
    · rename_i hm; simpa using hm

/-- The name is given another one, if it may. -/
noncomputable def goneN (Γ : Funs) (q30_0 q30_1 q30_2 : Value) : A.M Value :=
  bind (Γ n_groupGroupsOf [q30_2, q30_0]) fun v52x31 =>
  bind (Γ n_groupGroupsRename [q30_2, q30_0, q30_1]) fun v56x32 =>
  bind (bop .int .eql v56x32 (Value.int .i64 0)) fun v57x33 =>
  jn (cnd v57x33
  (bind (Γ n_groupGroupsOf [q30_2, q30_1]) fun v60x34 =>
  bind (Γ n_law07SameTexts [v60x34, v52x31]) fun v62x35 =>
  bind (uop .not v62x35) fun v63x36 =>
  bind (gate v63x36 false 4 (bind (bop .str .neq q30_0 q30_1) fun v67x37 =>
  ret [q30_0, q30_1, v67x37, v67x37])) (c4 fun _ _ _ q38_3 =>
  bind (gate q38_3 true 5 (bind (Γ n_groupGroupsOf [q30_2, q30_0]) fun v71x39 =>
  bind (lenS v71x39) fun v72x40 =>
  bind (bop .int .neq v72x40 (Value.int .i64 0)) fun v73x41 =>
  ret [q30_2, q30_0, v71x39, v72x40, v73x41])) (c5 fun _ _ _ _ q42_4 =>
  bind (gate v63x36 false 1 (bind (pick q38_3 q42_4 (Value.bool false)) fun v74x43 =>
  ret [v74x43])) (c1 fun q44_0 =>
  bind (pick v63x36 (Value.bool true) q44_0) fun v75x45 =>
  cnd v75x45
  (ret (.ret (Value.bool false)))
  (ret (.nrm [q30_1, q30_2]))))))
  (ret (.nrm [q30_0, q30_2]))) (c2 fun q46_0 q46_1 => goneF Γ q46_0 q46_1) noX ret

theorem r_goneN (h : Grp X g o G mem c) : ∃ X', goneN (R (n + 8)) (strv s) (strv t) (pt g) X = some (.bool true, X') := by
  obtain ⟨v1, q1, X1, e1, r1, k1, o1⟩ := r_gof (n := n + 4) (m := s) h
  have e1 : R (n + 8) n_groupGroupsOf [pt g, strv s] X = _ := e1
  have h1 := h.hle k1
  obtain ⟨X2, e2, h2, s2⟩ := r_gren (n := n) (s := s) (t := t) h1
  have r2 := r1.grp h1 s2
  have hfew : (ofL s (keysG G) mem).length ≤ 1000 := by have := ofL_few (m := s) (mem := mem) (K := keysG G); have := h.few; simp at *; omega
  by_cases hE : errRen s t (keysG G) mem = 0
  · rw [hE] at e2
    rw [if_pos hE] at h2
    obtain ⟨ho1, ho2⟩ := renOf h hE
    obtain ⟨v3, q3, X3, e3, r3, k3, o3⟩ := r_gof (n := n + 4) (m := t) h2
    have e3 : R (n + 8) n_groupGroupsOf [pt g, strv t] X2 = _ := e3
    rw [ho1] at r3
    have e4 : R (n + 8) n_law07SameTexts [v3, v1] X3 = _ := r_sameTexts (n := n + 7) hfew r3.rd (r2.step k3.step (by simp)).rd
    have h3 := h2.hle k3
    have hgate : ∃ X4, Grp X4 g o G (memRen s t mem) c ∧ ∀ K' : Value → A.M Out, bind (gate (.bool false) false 4 (bind (bop .str .neq (strv s) (strv t)) fun v67x37 => ret [strv s, strv t, v67x37, v67x37])) (c4 fun _ _ _ q38_3 =>
        bind (gate q38_3 true 5 (bind (R (n + 8) n_groupGroupsOf [pt g, strv s]) fun v71x39 => bind (lenS v71x39) fun v72x40 => bind (bop .int .neq v72x40 (Value.int .i64 0)) fun v73x41 => ret [pt g, strv s, v71x39, v72x40, v73x41])) (c5 fun _ _ _ _ q42_4 =>
        bind (gate (.bool false) false 1 (bind (pick q38_3 q42_4 (Value.bool false)) fun v74x43 => ret [v74x43])) (c1 K'))) X3 = K' (.bool false) X4 := by
      cases hst : (s == t)
      · have hne : s ≠ t := by simpa using hst
        obtain ⟨v4, q4, X4, e5, r4, k4, o4⟩ := r_gof (n := n + 4) (m := s) h3
        have e5 : R (n + 8) n_groupGroupsOf [pt g, strv s] X3 = _ := e5
        rw [ho2 hne] at r4
        have len4 : lenS v4 X4 = some (iv 0, X4) := r4.rd.len (H' := X4)
        have q0 : bop .int .neq (iv 0) (.int .i64 0) X4 = some (.bool false, X4) := by rw [neq_r]; rfl
        refine ⟨X4, h3.hle k4, fun K' => ?_⟩
        rw [b_g_in, b_assoc, bind_eq nes_v, hst]
        simp only [Bool.not_false]
        rw [b_ret, c4_r, b_g_in, b_assoc, bind_eq e5, b_assoc, bind_eq len4, b_assoc, bind_eq q0, b_ret, c5_r, b_g_in, b_assoc, bind_eq pick_r, b_ret, c1_r]
        rfl
      · refine ⟨X3, h3, fun K' => ?_⟩
        rw [b_g_in, b_assoc, bind_eq nes_v, hst]
        simp only [Bool.not_true]
        rw [b_ret, c4_r, bind_eq (g_r.trans (if_neg (by simp)))]
        simp only [List.replicate]
        rw [c5_r, b_g_in, b_assoc, bind_eq pick_r, b_ret, c1_r]
        rfl
    obtain ⟨X4, h4, hgate⟩ := hgate
    obtain ⟨X5, e5⟩ := r_gone (n := n) (x := t) h4
    refine ⟨X5, ?_⟩
    unfold goneN
    rw [bind_eq e1, bind_eq e2, bind_eq eql_r]
    refine (jn_nrm (vs := [strv t, pt g]) (H' := X4) ?_).trans e5
    rw [cnd_b, if_pos (by decide), bind_eq e3, bind_eq e4, bind_eq not_r]
    simp only [Bool.not_true]
    refine (hgate _).trans ?_
    rw [bind_eq pick_r]
    simp only [cond_false]
    rw [cnd_b, if_neg (by simp)]
    rfl
  · rw [if_neg hE] at h2
    obtain ⟨X5, e5⟩ := r_gone (n := n) (x := s) h2
    refine ⟨X5, ?_⟩
    unfold goneN
    rw [bind_eq e1, bind_eq e2, bind_eq eql_r]
    refine (jn_nrm (vs := [strv s, pt g]) (H' := X2) ?_).trans e5
    rw [cnd_b, if_neg (by simpa using hE)]
    rfl

theorem gone_core {s t : Tx} (hA : EActs H sl ac) (hn : ac.length ≤ 9223372036854775807) : ∃ H', R (n + 11) n_law10GroupGone [sl, strv s, strv t] H = some (.bool true, H') := by
  have f1 : ∀ r X', F_law10GroupGone (R (n + 10)) sl (strv s) (strv t) H = some (r, X') → R (n + 11) n_law10GroupGone [sl, strv s, strv t] H = some (r, X') := fun r X' hr => by rw [R, run_law10GroupGone rfl]; exact hr
  obtain ⟨H1, e1, l1⟩ := r_glives (n := n + 1) (H := H)
  have e1 : R (n + 10) n_law10Lives [] H = _ := e1
  obtain ⟨H2, e2, l2⟩ := r_gfew (n := n + 9) (hA.mono l1) hn
  have e2 : R (n + 10) n_law10Few [sl] H1 = _ := e2
  obtain ⟨H2', e2', l2'⟩ := r_glives (n := n + 1) (H := H2)
  have e2' : R (n + 10) n_law10Lives [] H2 = _ := e2'
  generalize hq : (ac.all fewA && decide (ac.length ≤ 60)) = fw at e2
  have q1 : (bind (lenT (strv s)) fun v25x7 => bind (bop .int .gtr v25x7 (Value.int .i64 50)) fun v26x8 => ret [strv s, v25x7, v26x8]) H2 = some ([strv s, iv s.length, .bool (decide ((s.length : Int) > 50))], H2) := by
    rw [bind_eq lenT_v, bind_eq gtr_r]; rfl
  have q2 : (bind (lenT (strv t)) fun v25x7 => bind (bop .int .gtr v25x7 (Value.int .i64 50)) fun v26x8 => ret [strv t, v25x7, v26x8]) H2 = some ([strv t, iv t.length, .bool (decide ((t.length : Int) > 50))], H2) := by
    rw [bind_eq lenT_v, bind_eq gtr_r]; rfl
  generalize hz : ((!fw || decide ((s.length : Int) > 50)) || decide ((t.length : Int) > 50)) = z
  have step : ∀ {k : Value → A.M Value}, bind (uop .not (.bool true)) (fun v17x2 =>
      bind (gate v17x2 false 3 (bind (R (n + 10) n_law10Few [sl]) fun v20x3 => bind (uop .not v20x3) fun v21x4 => ret [sl, v20x3, v21x4])) (c3 fun _ _ q5_2 =>
      bind (pick v17x2 (Value.bool true) q5_2) fun v22x6 =>
      bind (gate v22x6 false 3 (bind (lenT (strv s)) fun v25x7 => bind (bop .int .gtr v25x7 (Value.int .i64 50)) fun v26x8 => ret [strv s, v25x7, v26x8])) (c3 fun _ _ q9_2 =>
      bind (pick v22x6 (Value.bool true) q9_2) fun v27x10 =>
      bind (gate v27x10 false 3 (bind (lenT (strv t)) fun v30x11 => bind (bop .int .gtr v30x11 (Value.int .i64 50)) fun v31x12 => ret [strv t, v30x11, v31x12])) (c3 fun _ _ q13_2 =>
      bind (pick v27x10 (Value.bool true) q13_2) k)))) H1 = k (.bool z) H2 := fun {k} => by
    rw [bind_eq not_r]
    simp only [Bool.not_true]
    rw [b_g_in, b_assoc, bind_eq e2, b_assoc, bind_eq not_r, b_ret, c3_r, bind_eq pick_r]
    simp only [cond_false]
    rw [or3g q1, or3g q2, hz]
  cases z
  · have hfw : fw = true := by
      cases fw
      · simp at hz
      · rfl
    rw [hfw] at hq
    simp only [Bool.and_eq_true, decide_eq_true_eq] at hq
    obtain ⟨H3, g, o, e3, g3, l3, o1, o2⟩ := r_gnew (n := n + 9) (X := H2)
    have e3 : R (n + 10) n_groupNew [] H2 = _ := e3
    have e4 := box0 H3
    have b4 : (H3 ++ [AObj.cells [.slice none 0 0, .slice none 0 0] 1 false false])[H3.length]? = some (.cells [.slice none 0 0, .slice none 0 0] 1 false false) := app_new
    have l4 : HLe H3 (H3 ++ [AObj.cells [.slice none 0 0, .slice none 0 0] 1 false false]) := .app _ _
    generalize H3 ++ [AObj.cells [.slice none 0 0, .slice none 0 0] 1 false false] = H4 at e4 b4 l4
    have hA2 := hA.mono (((l1.trans l2).trans l3).trans l4)
    have hS : GSt H4 g o [] (fun _ _ => false) (.slice none 0 0) (.slice none 0 0) [] [] 0 := ⟨g3.hle l4, ⟨⟨[], RowS.nil⟩, ⟨[], RowN.nil⟩⟩, ⟨⟨List.Pairwise.nil, by simp⟩, by simp⟩, Nat.le_refl _⟩
    have hgl := g3.glt
    obtain ⟨H5, G5, mem5, e5, g5⟩ := gone1_do (n := n + 1) (nm := s) (nx := t) (w := H3.length) (hA.mono (l1.trans l2)) hq.2 (Nat.le_trans o1 (Nat.le_of_lt hgl)) ac.length 0 [] _ _ _ [] [] H4 (by omega) (by omega) (l3.trans l4) hS (by simpa using o2) b4 (by omega)
    have e5 : loopM (c7 (F_law10GroupGone.l1 (R (n + 10)))) [strv s, strv t, pt g, pt H3.length, sl, iv ac.length, .int .i64 0] H4 = _ := e5
    obtain ⟨H6, e6⟩ := r_goneN (n := n + 2) (s := s) (t := t) g5
    have e6 : goneN (R (n + 10)) (strv s) (strv t) (pt g) H5 = _ := e6
    refine ⟨H6, f1 _ _ ?_⟩
    unfold F_law10GroupGone
    rw [bind_eq e1]
    refine step.trans ?_
    rw [cnd_b, if_neg (by simp), bind_eq e3, bind_eq e4, bind_eq hA2.len, jn_ext e5, xk_hit, c3_r]
    exact e6
  · refine ⟨H2', f1 _ _ ?_⟩
    unfold F_law10GroupGone
    rw [bind_eq e1]
    refine step.trans ?_
    rw [cnd_b, if_pos rfl, bind_eq e2']
    rfl

theorem law_GroupGone : ∀ (xs : Ins [.slc eldActT, .str, .str]) (H : Heap) (vs : List Value), InsWf [.slc eldActT, .str, .str] xs → InsRd [.slc eldActT, .str, .str] xs H vs → ∃ n H', R n n_law10GroupGone vs H = some (.bool true, H') := by
  intro xs H vs hwf hrd
  obtain ⟨l, s, t, _⟩ := xs
  obtain ⟨hl, _⟩ := hwf
  obtain ⟨c1, _, rfl, hc1, h1, c2, _, rfl, hc2, h2, c3, _, rfl, hc3, h3, rfl⟩ := hrd
  obtain ⟨v, rfl⟩ : ∃ v, c1 = [v] := by
    match c1, hc1 with
    | [v], _ => exact ⟨v, rfl⟩
  have h2 : c2 = [.string s] := h2
  have h3 : c3 = [.string t] := h3
  subst h2
  subst h3
  obtain ⟨ac, hA, hn⟩ := rd_eldActs hl h1
  have hs : Value.string s = strv (ByteArray.data s).toList := strv_of s
  have ht : Value.string t = strv (ByteArray.data t).toList := strv_of t
  obtain ⟨H', e⟩ := gone_core (n := 0) (s := (ByteArray.data s).toList) (t := (ByteArray.data t).toList) hA hn
  refine ⟨11, H', ?_⟩
  rw [← hs, ← ht] at e
  exact e

end

end Go.Proofs.Ytmacmlpiheimhaa.A
