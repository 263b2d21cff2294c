/- Groups: what is deleted from a row, where the test makes objects of its own; rows that rise; groups as they lie. -/
import Derived.Test.YtmacmlpiheimhaaEldActs
namespace Go.Proofs.Ytmacmlpiheimhaa.A
set_option linter.unusedVariables false
set_option linter.unusedSimpArgs false
open Go.Proofs Go.Proofs.Ytmacmlpiheimhaa

section
variable {H : Heap} {n : Nat} {f v : Value} {p : List UInt8 → Bool} {l : List (List UInt8)} {q : List Nat} {Q : Heap → Prop}

theorem HLe.stepq {X X' : Heap} (h : HLe X X') : Step q X q X' := h.step.more (by simp) (fun j hj => .inl hj)

theorem idx2_do (hl : l.length ≤ 1000000) (hQ : ∀ X X', Q X → HLe X X' → Q X') (hf : ∀ X, Q X → ∀ s ∈ l, ∃ X', callv (R n) f [strv s] X = some (.bool (p s), X') ∧ HLe X X') : ∀ (t k : Nat) (X : Heap), l.length - k = t → k ≤ l.length → Q X → RowS X v (l.map strv) q →
    ∃ X', loopM (c4 (F_slicesIndexFuncstringString.l1 (R n))) [v, f, iv l.length, iv k] X = some (match (l.drop k).findIdx? p with | some i => .ret (iv (k + i : Nat)) | none => .ext 0 [], X') ∧ HLe X X'
  | 0, k, X, ht, hk, hq, hr => by
    have : k = l.length := by omega
    subst this
    rw [List.drop_length]
    refine ⟨X, loop_ext ?_, .refl _⟩
    rw [c4_r]
    unfold F_slicesIndexFuncstringString.l1
    rw [bind_eq lss_r, cnd_b, if_neg (by simp)]
    rfl
  | t + 1, k, X, ht, hk, hq, hr => by
    have hkl : k < l.length := by omega
    have hlt : (k : Int) < l.length := by omega
    have hg := List.getElem?_eq_getElem hkl
    have hm : l[k] ∈ l := List.getElem_mem hkl
    have hd := List.drop_eq_getElem_cons hkl
    generalize l[k] = x at hg hd hm
    have x1 := hr.ix (i := k) (by simpa using hkl) .i64 X
    have x2 := hr.ldx (row_at hg)
    obtain ⟨X1, x3, l1⟩ := hf X hq x hm
    obtain ⟨X2, ih, l2⟩ := idx2_do hl hQ hf t (k + 1) X1 (by omega) (by omega) (hQ _ _ hq l1) (hr.step l1.step (by simp))
    rw [hd, List.findIdx?_cons]
    cases hp : p x
    · rw [hp] at x3
      refine ⟨X2, (loop_next ?_).trans (ih.trans ?_), l1.trans l2⟩
      · rw [c4_r]
        unfold F_slicesIndexFuncstringString.l1
        rw [bind_eq lss_r, cnd_b, if_pos (by simpa using hlt), bind_eq x1, bind_eq x2, bind_eq x3, cnd_b, if_neg (by simp), bind_eq add_r, wsuc (by omega)]
        rfl
      · cases (l.drop (k + 1)).findIdx? p with
        | none => rfl
        | some i => simp only [Bool.false_eq_true, if_false, Option.map_some]; rw [show k + 1 + i = k + (i + 1) by omega]
    · rw [hp] at x3
      refine ⟨X1, loop_ret ?_, l1⟩
      rw [c4_r]
      unfold F_slicesIndexFuncstringString.l1
      rw [bind_eq lss_r, cnd_b, if_pos (by simpa using hlt), bind_eq x1, bind_eq x2, bind_eq x3, cnd_b, if_pos rfl]
      rfl

theorem r_index2 (hr : RowS H v (l.map strv) q) (hl : l.length ≤ 1000000) (hQ : ∀ X X', Q X → HLe X X' → Q X') (hf : ∀ X, Q X → ∀ s ∈ l, ∃ X', callv (R n) f [strv s] X = some (.bool (p s), X') ∧ HLe X X') (h0 : Q H) :
    ∃ H', R (n + 1) n_slicesIndexFuncstringString [v, f] H = some (match l.findIdx? p with | some i => iv i | none => iv (-1), H') ∧ HLe H H' := by
  obtain ⟨H', e, le⟩ := idx2_do hl hQ hf l.length 0 H (by omega) (by omega) h0 hr
  rw [List.drop_zero] at e
  have e : loopM (c4 (F_slicesIndexFuncstringString.l1 (R n))) [v, f, iv l.length, .int .i64 0] H = _ := e
  have hlen : lenS v H = some (iv l.length, H) := by have := hr.rd.len (H' := H); simpa using this
  refine ⟨H', ?_, le⟩
  rw [R, run_slicesIndexFuncstringString rfl]
  unfold F_slicesIndexFuncstringString
  rw [bind_eq hlen]
  cases h : l.findIdx? p with
  | none => rw [h] at e; rw [jn_ext e, xk_hit]; rfl
  | some i =>
    rw [h] at e
    rw [jn_ret e]
    simp [ret]

theorem del2_do (hl : l.length ≤ 1000000) (hQ : ∀ X X', Q X → Step q X q X' → Q X') (hf : ∀ X, Q X → ∀ s ∈ l, ∃ X', callv (R n) f [strv s] X = some (.bool (p s), X') ∧ HLe X X') : ∀ (t j i : Nat) (cs : List (List UInt8)) (X : Heap), l.length - j = t → j ≤ l.length → i ≤ j → cs.length = l.length → cs.drop j = l.drop j → RowS X v (cs.map strv) q → Q X →
    ∃ (X' : Heap) (cs' : List (List UInt8)), loopM (c4 (F_slicesDeleteFuncstringString.l1 (R n))) [v, f, iv i, iv j] X = some (.ext 0 [v, iv (i + ((l.drop j).filter fun s => !p s).length : Nat)], X') ∧ RowS X' v (cs'.map strv) q ∧ cs'.length = l.length ∧
      cs'.take (i + ((l.drop j).filter fun s => !p s).length) = cs.take i ++ (l.drop j).filter (fun s => !p s) ∧ Step q X q X'
  | 0, j, i, cs, X, ht, hj, hi, hc, hd, hr, hq => by
    have : j = l.length := by omega
    subst this
    rw [List.drop_length]
    have hlen : lenS v X = some (iv l.length, X) := by have := hr.rd.len (H' := X); simpa [hc] using this
    refine ⟨X, cs, loop_ext ?_, hr, hc, by simp, .refl _ _⟩
    rw [c4_r]
    unfold F_slicesDeleteFuncstringString.l1
    rw [bind_eq hlen, bind_eq lss_r, cnd_b, if_neg (by simp)]
    rfl
  | t + 1, j, i, cs, X, ht, hj, hi, hc, hd, hr, hq => by
    have hjl : j < l.length := by omega
    have hlt : (j : Int) < l.length := by omega
    have hg := List.getElem?_eq_getElem hjl
    have hm : l[j] ∈ l := List.getElem_mem hjl
    have hdl := List.drop_eq_getElem_cons hjl
    generalize l[j] = x at hg hdl hm
    have hgc : cs[j]? = some x := by
      have h1 : (cs.drop j)[0]? = (l.drop j)[0]? := by rw [hd]
      simpa [hg] using h1
    have hlen : lenS v X = some (iv l.length, X) := by have := hr.rd.len (H' := X); simpa [hc] using this
    have x1 := hr.ix (i := j) (by simpa [hc] using hjl) .i64 X
    have x2 := hr.ldx (row_at hgc)
    obtain ⟨Y, x3, ly⟩ := hf X hq x hm
    have hqy := hQ _ _ hq (ly.stepq (q := q))
    have hry := hr.step ly.step (by simp)
    have hd1 : cs.drop (j + 1) = l.drop (j + 1) := by
      rw [← List.drop_drop, hd, List.drop_drop]
    rw [hdl, List.filter_cons]
    cases hp : p x
    · rw [hp] at x3
      have x4 := hry.ix (i := i) (by simp [hc]; omega) .i64 Y
      obtain ⟨X1, x5, r1, s1, _⟩ := hry.stx (i := i) (u := strv x) (by simp [hc]; omega) rfl
      have hset : (cs.map strv).set i (strv x) = (cs.set i x).map strv := by rw [List.map_set]
      rw [hset] at r1
      obtain ⟨X', cs', e, r', hc', ht', s'⟩ := del2_do hl hQ hf t (j + 1) (i + 1) (cs.set i x) X1 (by omega) (by omega) (by omega) (by simpa using hc) (by rw [List.drop_set_of_lt (by omega)]; exact hd1) r1 (hQ _ _ hqy s1)
      have hn : i + 1 + ((l.drop (j + 1)).filter fun s => !p s).length = i + (((l.drop (j + 1)).filter fun s => !p s).length + 1) := by omega
      rw [hn] at e ht'
      simp only [Bool.not_false, if_true, List.length_cons]
      refine ⟨X', cs', (loop_next ?_).trans e, r', hc', ?_, (ly.stepq.trans s1).trans s'⟩
      · rw [c4_r]
        unfold F_slicesDeleteFuncstringString.l1
        rw [bind_eq hlen, bind_eq lss_r, cnd_b, if_pos (by simpa using hlt), bind_eq x1, bind_eq x2, bind_eq x3, bind_eq not_r]
        refine (jn_nrm (vs := [v, f, iv ((i + 1 : Nat) : Int), iv j]) (H' := X1) ?_).trans ?_
        · rw [cnd_b, if_pos (by rfl), bind_eq x4, bind_eq x5, bind_eq add_r, wsuc (by omega)]; rfl
        · rw [c4_r, bind_eq add_r, wsuc (by omega)]; rfl
      · rw [ht']
        have : (cs.set i x).take (i + 1) = cs.take i ++ [x] := by
          have hil : i < (cs.set i x).length := by simp [hc]; omega
          rw [List.take_succ_eq_append_getElem hil, List.take_set_of_le (Nat.le_refl _)]
          simp
        rw [this]; simp
    · rw [hp] at x3
      obtain ⟨X', cs', e, r', hc', ht', s'⟩ := del2_do hl hQ hf t (j + 1) i cs Y (by omega) (by omega) (by omega) hc hd1 hry hqy
      simp only [Bool.not_true, Bool.false_eq_true, if_false]
      refine ⟨X', cs', (loop_next ?_).trans e, r', hc', ht', ly.stepq.trans s'⟩
      rw [c4_r]
      unfold F_slicesDeleteFuncstringString.l1
      rw [bind_eq hlen, bind_eq lss_r, cnd_b, if_pos (by simpa using hlt), bind_eq x1, bind_eq x2, bind_eq x3, bind_eq not_r]
      refine (jn_nrm (vs := [v, f, iv i, iv j]) (H' := Y) ?_).trans ?_
      · rw [cnd_b, if_neg (by simp)]; rfl
      · rw [c4_r, bind_eq add_r, wsuc (by omega)]; rfl

theorem r_deleteFunc2 (hr : RowS H v (l.map strv) q) (hl : l.length ≤ 1000000) (hQ : ∀ X X', Q X → Step q X q X' → Q X') (hf : ∀ X, Q X → ∀ s ∈ l, ∃ X', callv (R n) f [strv s] X = some (.bool (p s), X') ∧ HLe X X') (hf1 : ∀ X, Q X → ∀ s ∈ l, ∃ X', callv (R (n + 1)) f [strv s] X = some (.bool (p s), X') ∧ HLe X X') (h0 : Q H) :
    ∃ H' v', R (n + 2) n_slicesDeleteFuncstringString [v, f] H = some (v', H') ∧ RowS H' v' ((l.filter fun s => !p s).map strv) q ∧ Step q H q H' := by
  obtain ⟨Y, e1, ly⟩ := r_index2 hr hl (fun X X' hq hx => hQ X X' hq hx.stepq) hf h0
  have e1 : run Try.prog np lvs (n + 1) n_slicesIndexFuncstringString [v, f] H = _ := e1
  have hry := hr.step ly.step (by simp)
  have hqy := hQ _ _ h0 (ly.stepq (q := q))
  have hfi := filter_of_idx (p := p) (l := l)
  have hrun : R (n + 2) n_slicesDeleteFuncstringString [v, f] H = F_slicesDeleteFuncstringString (R (n + 1)) v f H := by rw [R, run_slicesDeleteFuncstringString rfl]
  rw [hrun]
  unfold F_slicesDeleteFuncstringString
  cases h : l.findIdx? p with
  | none =>
    rw [h] at e1 hfi
    refine ⟨Y, v, ?_, by rw [hfi]; exact hry, ly.stepq⟩
    rw [bind_eq e1, bind_eq eql_r, cnd_b, if_pos (by simp)]
    rfl
  | some i =>
    rw [h] at e1 hfi
    simp only at e1 hfi
    obtain ⟨X', cs', e2, r2, hc2, ht2, s2⟩ := del2_do (n := n + 1) hl hQ hf1 (l.length - (i + 1)) (i + 1) i l Y rfl (by omega) (by omega) rfl rfl hry hqy
    have hle : ((l.drop (i + 1)).filter fun s => !p s).length ≤ l.length - (i + 1) := by
      have := List.length_filter_le (fun s => !p s) (l.drop (i + 1))
      simpa using this
    obtain ⟨a, X2, v', a1, a2, a3, a4, a5⟩ := cut_clear r2 (i := i + ((l.drop (i + 1)).filter fun s => !p s).length) (by omega)
    refine ⟨X2, v', ?_, by rw [hfi.1, ← ht2]; exact a4, (ly.stepq.trans s2).trans a5⟩
    rw [bind_eq e1, bind_eq eql_r, cnd_b, if_neg (by simp), bind_eq add_r, wsuc (by omega), jn_ext e2, xk_hit, c2_r, bind_eq a1, bind_eq a2, bind_eq a3]
    rfl

end

/-! rows that rise -/

abbrev Tx := List UInt8

def Asc (l : List Tx) : Prop := l.Pairwise (· < ·)

theorem lt_irr {a : Tx} : ¬ a < a := List.lt_irrefl a

theorem asc_ext : ∀ {l l' : List Tx}, Asc l → Asc l' → (∀ x, x ∈ l ↔ x ∈ l') → l = l'
  | [], [], _, _, _ => rfl
  | [], b :: l', _, _, h => by have := (h b).2 (by simp); cases this
  | a :: l, [], _, _, h => by have := (h a).1 (by simp); cases this
  | a :: l, b :: l', h1, h2, h => by
    obtain ⟨a1, a2⟩ := List.pairwise_cons.1 h1
    obtain ⟨b1, b2⟩ := List.pairwise_cons.1 h2
    have hab : a = b := by
      rcases List.mem_cons.1 ((h a).1 (by simp)) with e | e
      · exact e
      · rcases List.mem_cons.1 ((h b).2 (by simp)) with e' | e'
        · exact e'.symm
        · exact absurd (List.lt_trans (b1 a e) (a1 b e')) lt_irr
    subst hab
    congr 1
    refine asc_ext a2 b2 fun x => ⟨fun hx => ?_, fun hx => ?_⟩
    · rcases List.mem_cons.1 ((h x).1 (List.mem_cons_of_mem _ hx)) with e | e
      · subst e; exact absurd (a1 _ hx) lt_irr
      · exact e
    · rcases List.mem_cons.1 ((h x).2 (List.mem_cons_of_mem _ hx)) with e | e
      · subst e; exact absurd (b1 _ hx) lt_irr
      · exact e

theorem ksort_asc {l : List Tx} (hn : l.Nodup) : Asc (ksort l) := by
  have h1 : (ksort l).Pairwise (fun a b => leB a b = true) := List.pairwise_mergeSort (fun a b c h h' => by
    simp only [leB, decide_eq_true_eq] at *
    exact List.le_trans h h') (fun a b => by
    simp only [leB, Bool.or_eq_true, decide_eq_true_eq]
    exact List.le_total a b) l
  have h2 : (ksort l).Nodup := ((List.mergeSort_perm l _).nodup_iff).2 hn
  unfold Asc
  have h3 := h1.and h2
  refine h3.imp fun {a b} h => ?_
  obtain ⟨h4, h5⟩ := h
  simp only [leB, decide_eq_true_eq] at h4
  exact Decidable.byContradiction fun h6 => h5 (List.le_antisymm h4 (List.not_lt.1 h6))

theorem mem_ksort {l : List Tx} {x : Tx} : x ∈ ksort l ↔ x ∈ l := List.mem_mergeSort

/-- The rising row of those that p holds for. -/
structure Is (l : List Tx) (p : Tx → Prop) : Prop where
  asc : Asc l
  mem : ∀ x, x ∈ l ↔ p x

theorem Is.uniq {l l' : List Tx} {p p' : Tx → Prop} (h : Is l p) (h' : Is l' p') (hp : ∀ x, p x ↔ p' x) : l = l' := asc_ext h.asc h'.asc fun x => (h.mem x).trans ((hp x).trans (h'.mem x).symm)
theorem Is.nil {l : List Tx} {p : Tx → Prop} (h : Is l p) : l = [] ↔ ∀ x, ¬ p x := by
  constructor
  · rintro rfl x hx; have := (h.mem x).2 hx; cases this
  · intro hx; exact List.eq_nil_iff_forall_not_mem.2 fun x hm => hx x ((h.mem x).1 hm)
theorem Asc.nodup {l : List Tx} (h : Asc l) : l.Nodup := h.imp fun {a b} hab e => by subst e; exact lt_irr hab
theorem Asc.filter {l : List Tx} (h : Asc l) (p : Tx → Bool) : Asc (l.filter p) := List.Pairwise.filter p h

end Go.Proofs.Ytmacmlpiheimhaa.A

/- Groups as they lie, and what package group does with them. -/
namespace Go.Proofs.Ytmacmlpiheimhaa.A
set_option linter.unusedVariables false
set_option linter.unusedSimpArgs false
open Go.Proofs Go.Proofs.Ytmacmlpiheimhaa

abbrev mapV (s : Nat) : Value := .map (some s)
abbrev unitV (_ : Unit) : Value := .agg #[]
abbrev GMap := List (Tx × Nat)
abbrev UMap := List (Tx × Unit)
abbrev Mem := Tx → Tx → Bool
abbrev gown (o : Nat) (G : GMap) : List Nat := o :: G.map (·.2)
abbrev keysG (G : GMap) : List Tx := G.map (·.1)

structure Grp (X : Heap) (g o : Nat) (G : GMap) (mem : Mem) (c : Nat) : Prop where
  cell : X[g]? = some (.cells [.map (some o)] 1 false false)
  mo : MapG mapV X o G
  ms : ∀ p ∈ G, ∃ S : UMap, MapG unitV X p.2 S ∧ (∀ n, (aget n S).isSome = mem p.1 n) ∧ S.length ≤ c ∧ ∀ q ∈ S, nameB q.1 = true
  out : ∀ k n, mem k n = true → (aget k G).isSome = true
  nod : (gown o G).Nodup
  ok : ∀ p ∈ G, nameB p.1 = true
  few : G.length ≤ 6

theorem aget_key {α : Type} {k : Tx} : ∀ {m : List (Tx × α)}, (aget k m).isSome = decide (k ∈ m.map (·.1))
  | [] => rfl
  | p :: m => by
    simp only [aget, List.map_cons, List.mem_cons]
    by_cases h : p.1 = k
    · rw [if_pos h]; simp [h]
    · rw [if_neg h, aget_key]
      have : k ≠ p.1 := Ne.symm h
      simp [this]

section
variable {X X' : Heap} {n g o c c' : Nat} {G : GMap} {mem mem' : Mem} {k m s t : Tx}

theorem Grp.isMap (h : Grp X g o G mem c) {j : Nat} (hj : j ∈ gown o G) : j < X.length ∧ ∀ cs es gr ro, X[j]? ≠ some (.cells cs es gr ro) := by
  have key : ∀ {α : Type} {enc : α → Value} {id : Nat} {mm : List (Tx × α)}, MapG enc X id mm → id < X.length ∧ ∀ cs es gr ro, X[id]? ≠ some (.cells cs es gr ro) := fun hm => ⟨hm.lt, fun cs es gr ro e => by
    obtain ⟨es', _, h1 | h1⟩ := hm.ex
    · obtain ⟨clk, h1, _⟩ := h1; rw [e] at h1; cases h1
    · rw [e] at h1; cases h1⟩
  rcases List.mem_cons.1 hj with rfl | hj
  · exact key h.mo
  · obtain ⟨p, hp, rfl⟩ := List.mem_map.1 hj
    obtain ⟨S, hS, _⟩ := h.ms p hp
    exact key hS

theorem Grp.gnot (h : Grp X g o G mem c) : g ∉ gown o G := fun hj => (h.isMap hj).2 _ _ _ _ h.cell
theorem Grp.glt (h : Grp X g o G mem c) : g < X.length := get_lt h.cell

theorem Grp.step {o1 o2 : List Nat} (h : Grp X g o G mem c) (hs : Step o1 X o2 X') (hg : g ∉ o1) (ho : ∀ j ∈ gown o G, j ∉ o1) : Grp X' g o G mem c :=
  ⟨hs.get h.cell hg, h.mo.step hs (ho o (by simp)), fun p hp => by
    obtain ⟨S, h1, h2⟩ := h.ms p hp
    exact ⟨S, h1.step hs (ho p.2 (List.mem_cons_of_mem _ (List.mem_map.2 ⟨p, hp, rfl⟩))), h2⟩, h.out, h.nod, h.ok, h.few⟩

theorem Grp.hle (h : Grp X g o G mem c) (hl : HLe X X') : Grp X' g o G mem c := h.step hl.step (by simp) (by simp)

theorem Grp.more (h : Grp X g o G mem c) (hc : c ≤ c') (hm : ∀ k n, mem' k n = mem k n) : Grp X g o G mem' c' :=
  ⟨h.cell, h.mo, fun p hp => by
    obtain ⟨S, h1, h2, h3, h4⟩ := h.ms p hp
    exact ⟨S, h1, fun n => (h2 n).trans (hm _ _).symm, Nat.le_trans h3 hc, h4⟩, fun k n hk => h.out k n (by rw [← hm]; exact hk), h.nod, h.ok, h.few⟩

theorem Grp.ldo (h : Grp X g o G mem c) : ld1 (pt g) X = some (.map (some o), X) := ld_s h.cell

/-- One set is turned. -/
theorem Grp.upd (h : Grp X g o G mem c) {id : Nat} {S' : UMap} (hk : aget k G = some id) (hm : MapG unitV X' id S') (hs : Step [id] X [id] X') (hn : ∀ q ∈ S', nameB q.1 = true) (hc : S'.length ≤ c') (hcc : c ≤ c')
    (hmem : ∀ k' n, mem' k' n = if k' = k then (aget n S').isSome else mem k' n) : Grp X' g o G mem' c' := by
  have hpm := aget_mem hk
  have hnod := h.nod
  simp only [List.nodup_cons] at hnod
  have hidm : id ∈ G.map (·.2) := List.mem_map.2 ⟨_, hpm, rfl⟩
  have hido : o ≠ id := fun e => hnod.1 (e ▸ hidm)
  have hidg : g ≠ id := fun e => h.gnot (e ▸ List.mem_cons_of_mem _ hidm)
  refine ⟨hs.get h.cell (by simpa using hidg), h.mo.step hs (by simpa using hido), fun p hp => ?_, fun k' n hk' => ?_, h.nod, h.ok, h.few⟩
  · by_cases hpid : p.2 = id
    · have hpk : p.1 = k := by
        have h1 : aget p.1 G = some p.2 := aget_of_mem h.mo.nod hp
        have hinj : ∀ (G : GMap), (G.map (·.2)).Nodup → p ∈ G → (k, id) ∈ G → p = (k, id) := by
          intro G hG h1 h2
          induction G with
          | nil => cases h1
          | cons a G ih =>
            simp only [List.map_cons, List.nodup_cons, List.mem_map, not_exists, not_and] at hG
            rcases List.mem_cons.1 h1 with e1 | e1
            · rcases List.mem_cons.1 h2 with e2 | e2
              · rw [e1, e2]
              · exact absurd (by rw [← e1]; exact hpid.symm) (hG.1 _ e2)
            · rcases List.mem_cons.1 h2 with e2 | e2
              · exact absurd (by rw [← e2]; exact hpid) (hG.1 _ e1)
              · exact ih hG.2 e1 e2
        rw [hinj G hnod.2 hp hpm]
      exact ⟨S', by rw [hpid]; exact hm, fun n => by rw [hmem, if_pos hpk], hc, hn⟩
    · obtain ⟨S, h1, h2, h3, h4⟩ := h.ms p hp
      have hpk : p.1 ≠ k := fun e => hpid (by
        have h5 : aget p.1 G = some p.2 := aget_of_mem h.mo.nod hp
        rw [e, hk] at h5; exact (Option.some.inj h5).symm)
      exact ⟨S, h1.step hs (by simpa using hpid), fun n => by rw [hmem, if_neg hpk]; exact h2 n, Nat.le_trans h3 hcc, h4⟩
  · rw [hmem] at hk'
    by_cases e : k' = k
    · rw [e, hk]; rfl
    · rw [if_neg e] at hk'; exact h.out k' n hk'

theorem Grp.step1 (h : Grp X g o G mem c) {id : Nat} (hk : aget k G = some id) (hs : Step [id] X [id] X') : Step (gown o G) X (gown o G) X' :=
  hs.more (fun j hj => by
    have hj : j = id := by simpa using hj
    subst hj
    exact List.mem_cons_of_mem _ (List.mem_map.2 ⟨_, aget_mem hk, rfl⟩)) (fun j hj => .inl hj)

theorem Grp.set (h : Grp X g o G mem c) {id : Nat} (hk : aget k G = some id) : ∃ S : UMap, MapG unitV X id S ∧ (∀ n, (aget n S).isSome = mem k n) ∧ S.length ≤ c ∧ ∀ q ∈ S, nameB q.1 = true := h.ms _ (aget_mem hk)

theorem Grp.key (h : Grp X g o G mem c) : (aget k G).isSome = decide (k ∈ keysG G) := aget_key

/-! names -/

theorem names_do {v : Value} {l : List Tx} (hl : l.length ≤ 1000) (hs : Sl X v (l.map strv)) : ∀ (t j : Nat), l.length - j = t → j ≤ l.length →
    loopM (c3 (F_groupNames.l1 (R (n + 5)))) [v, iv l.length, iv j] X = some (if (l.drop j).all nameB then .ext 0 [] else .ret (iv 10), X)
  | 0, j, ht, hj => by
    rw [List.drop_eq_nil_of_le (by omega)]
    refine loop_ext ?_
    rw [c3_r, show j = l.length by omega]
    unfold F_groupNames.l1
    rw [bind_eq lss_r, cnd_b, if_neg (by simp)]
    rfl
  | t + 1, j, ht, hj => by
    have hkl : j < l.length := by omega
    have hlt : (j : Int) < l.length := by omega
    have hg := List.getElem?_eq_getElem hkl
    have hd := List.drop_eq_getElem_cons hkl
    generalize l[j] = x at hg hd
    have x1 := hs.ix (i := j) (by simpa using hkl) .i64 X
    have x2 := hs.ldx (row_at hg)
    have x3 : R (n + 5) n_nameName [strv x] X = some (iv (errName x), X) := r_name0
    rw [hd, List.all_cons]
    cases hx : nameB x
    · refine loop_ret ?_
      rw [c3_r]
      unfold F_groupNames.l1
      rw [bind_eq lss_r, cnd_b, if_pos (by simpa using hlt), bind_eq x1, bind_eq x2, bind_eq x3, show errName x = 10 by unfold errName; rw [hx]; rfl, bind_eq neq_r, cnd_b, if_pos (by simp)]
      rfl
    · refine (loop_next ?_).trans (names_do hl hs t (j + 1) (by omega) (by omega))
      rw [c3_r]
      unfold F_groupNames.l1
      rw [bind_eq lss_r, cnd_b, if_pos (by simpa using hlt), bind_eq x1, bind_eq x2, bind_eq x3, show errName x = 0 by unfold errName; rw [hx]; rfl, bind_eq neq_r, cnd_b, if_neg (by simp), bind_eq add_r, wsuc (by omega)]
      rfl

def errNames (l : List Tx) : Int := if l.all nameB then 0 else 10

theorem r_gnames {v : Value} {l : List Tx} (hl : l.length ≤ 1000) (hs : Sl X v (l.map strv)) : R (n + 6) n_groupNames [v] X = some (iv (errNames l), X) := by
  have e := names_do (n := n) hl hs l.length 0 (by omega) (by omega)
  rw [show iv ((0 : Nat) : Int) = .int .i64 0 from rfl, List.drop_zero] at e
  have hlen : lenS v X = some (iv l.length, X) := by have := hs.len (H' := X); simpa using this
  rw [R, run_groupNames rfl]
  unfold F_groupNames errNames
  rw [bind_eq hlen]
  by_cases h : l.all nameB = true
  · rw [if_pos h] at e ⊢
    rw [jn_ext e, xk_hit]; rfl
  · rw [if_neg h] at e ⊢
    rw [jn_ret e]; rfl

/-! a group is found -/

def errFind (k : Tx) (ms : List Tx) (K : List Tx) : Int := if (k :: ms).all nameB then (if k ∈ K then 0 else 8) else 10

theorem r_gfind (h : Grp X g o G mem c) {mv : Value} {ms : List Tx} (hml : ms.length ≤ 5)
    (hrow : ∃ w X1 v X2, bsl 1 1 (.string ⟨#[]⟩) [(0, 1, strv k)] X = some (w, X1) ∧ app 1 16 w mv X1 = some (v, X2) ∧ Sl X2 v ((k :: ms).map strv) ∧ HLe X X2) :
    ∃ X', R (n + 7) n_groupGroupsFind [pt g, strv k, mv] X = some (.tuple #[.map (if errFind k ms (keysG G) = 0 then aget k G else none), iv (errFind k ms (keysG G))], X') ∧ HLe X X' := by
  obtain ⟨w, X1, v, X2, e1, e2, s2, l2⟩ := hrow
  have e3 : R (n + 6) n_groupNames [v] X2 = _ := r_gnames (n := n) (l := k :: ms) (by simp; omega) s2
  have h2 := h.hle l2
  refine ⟨X2, ?_, l2⟩
  rw [R, run_groupGroupsFind rfl]
  unfold F_groupGroupsFind errFind
  rw [bind_eq e1, bind_eq e2, bind_eq e3]
  unfold errNames
  by_cases hn : (k :: ms).all nameB = true
  · rw [if_pos hn, if_pos hn]
    have e4 := h2.mo.lkp (k := k) (z := .map none) (ok := true)
    have hkey := h2.key (k := k)
    rw [bind_eq neq_r, cnd_b, if_neg (by simp), bind_eq nilc_r, bind_eq fa_z, bind_eq h2.ldo]
    cases hk : aget k G with
    | none =>
      rw [hk] at e4 hkey
      have hnk : ¬ k ∈ keysG G := by simpa using hkey.symm
      rw [if_neg hnk, if_neg (by decide)]
      simp only [cond_true] at e4
      rw [bind_eq e4, bind_eq extr_p0, bind_eq extr_p1, bind_eq not_r, cnd_b, if_pos (by rfl)]
      rfl
    | some id =>
      rw [hk] at e4 hkey
      have hnk : k ∈ keysG G := by simpa using hkey.symm
      rw [if_pos hnk, if_pos rfl]
      simp only [cond_true] at e4
      rw [bind_eq e4, bind_eq extr_p0, bind_eq extr_p1, bind_eq not_r, cnd_b, if_neg (by simp)]
      rfl
  · rw [if_neg hn, if_neg hn, bind_eq neq_r, cnd_b, if_pos (by rfl)]
    rfl

theorem bslS {x : Tx} {H : Heap} : bsl 1 1 (.string ⟨#[]⟩) [(0, 1, strv x)] H = some (.slice (some ⟨H.length, 0, none⟩) 1 1, H ++ [.cells [strv x] 1 false false]) := bsl1 rfl rfl rfl

theorem one_S {x : Tx} {H : Heap} : RowS (H ++ [.cells [strv x] 1 false false]) (.slice (some ⟨H.length, 0, none⟩) 1 1) ([x].map strv) [H.length] := .inr ⟨H.length, [], false, rfl, rfl, by rw [app_new]; rfl⟩

theorem app_nil {b : Nat} {sl : Value} {vs : List Value} {q : List Nat} (h : RowS X sl vs q) : app 1 b sl (.slice none 0 0) X = some (sl, X) := by
  rcases h with ⟨rfl, rfl, rfl⟩ | ⟨sid, rest, gr, rfl, rfl, hid⟩
  · rfl
  · unfold app
    simp only [fcells, flen, hid, Nat.add_zero, Nat.le_add_right, if_true]

theorem r_gfind0 (h : Grp X g o G mem c) : ∃ X', R (n + 7) n_groupGroupsFind [pt g, strv k, .slice none 0 0] X = some (.tuple #[.map (if errFind k [] (keysG G) = 0 then aget k G else none), iv (errFind k [] (keysG G))], X') ∧ HLe X X' :=
  r_gfind h (by simp) ⟨_, _, _, _, bslS, app_nil one_S, one_S.rd, .app _ _⟩

theorem r_gfind1 (h : Grp X g o G mem c) {mv : Value} (hm : Sl X mv [strv m]) : ∃ X', R (n + 7) n_groupGroupsFind [pt g, strv k, mv] X = some (.tuple #[.map (if errFind k [m] (keysG G) = 0 then aget k G else none), iv (errFind k [m] (keysG G))], X') ∧ HLe X X' := by
  have l1 : HLe X (X ++ [.cells [strv k] 1 false false]) := .app _ _
  obtain ⟨v, X2, q, e2, r2, s2, _⟩ := (one_S (x := k) (H := X)).push (b := 16) (hm.mono l1) (by simp) (by simp)
  have l2 := (l1.more s2 (by simp)).1
  exact r_gfind h (by simp) ⟨_, _, _, _, bslS, e2, r2.rd, l2⟩

/-! made, dropped -/

theorem r_gnew : ∃ X' g o, R (n + 1) n_groupNew [] X = some (pt g, X') ∧ Grp X' g o [] (fun _ _ => false) 0 ∧ HLe X X' ∧ X.length ≤ g ∧ X.length ≤ o := by
  obtain ⟨H1, e1, g1, l1⟩ := mkm_g (α := Nat) (enc := mapV) X
  have e2 : bld (.agg #[.map none]) [(0, 1, .map (some X.length))] H1 = some (.agg #[.map (some X.length)], H1) := by simp [↓bind_andk, andk_some, ↓jn_outk, outk_nrm, outk_ext, outk_ret, ↓cnd_b, ret_r, nilc_r, fa_r, ldOne_r, ldA_r, stOne_r, stA_r, rdk_r, rdkA_r, wrk_r, wrkA_r, alc_r, lenS_r, lenT_r, cvi_r, pick_r, not_r, mx_r, mn_r, ixa_r, ixaA_r, bld_r, add_r, sub_r, mul_r, quo_r, rem_r, eql_r, neq_r, lss_r, leq_r, gtr_r, geq_r, eqb_r, neb_r, eqp_r, nep_r, ↓gv_r, gvn_r, ↓g_r, gn_r, isTup, bldC, splice, Value.cells]
  have e3 : alc 1 (.agg #[.map (some X.length)]) H1 = some (pt H1.length, H1 ++ [.cells [.map (some X.length)] 1 false false]) := by
    rw [alc_r]; simp [Value.cells, oneCell]
  refine ⟨H1 ++ [.cells [.map (some X.length)] 1 false false], H1.length, X.length, ?_, ⟨app_new, g1.hle (.app _ _), by simp, by simp, by simp, by simp, by simp⟩, l1.trans (.app _ _), l1.len, Nat.le_refl _⟩
  rw [R, run_groupNew rfl]
  unfold F_groupNew
  rw [bind_eq e1, bind_eq e2, bind_eq e3]
  rfl

def errMake (k : Tx) (K : List Tx) : Int := if nameB k then (if k ∈ K then 9 else if 6 ≤ K.length then 7 else 0) else 10
def makeK (k : Tx) (K : List Tx) : List Tx := if errMake k K = 0 then K ++ [k] else K

theorem r_gmake (h : Grp X g o G mem c) : ∃ X' G', R (n + 8) n_groupGroupsMake [pt g, strv k] X = some (iv (errMake k (keysG G)), X') ∧ Grp X' g o G' mem c ∧ keysG G' = makeK k (keysG G) ∧ Step (gown o G) X (gown o G') X' := by
  obtain ⟨X1, e1, l1⟩ := r_gfind0 (n := n) (k := k) h
  have h1 := h.hle l1
  have f1 : ∀ r X', F_groupGroupsMake (R (n + 7)) (pt g) (strv k) X = some (r, X') → R (n + 8) n_groupGroupsMake [pt g, strv k] X = some (r, X') := fun r X' hr => by rw [R, run_groupGroupsMake rfl]; exact hr
  have same : ∀ e, errMake k (keysG G) = e → e ≠ 0 → (F_groupGroupsMake (R (n + 7)) (pt g) (strv k) X = some (iv e, X1)) → ∃ X' G', R (n + 8) n_groupGroupsMake [pt g, strv k] X = some (iv (errMake k (keysG G)), X') ∧ Grp X' g o G' mem c ∧ keysG G' = makeK k (keysG G) ∧ Step (gown o G) X (gown o G') X' := fun e he hne hr => by
    refine ⟨X1, G, by rw [he]; exact f1 _ _ hr, h1, ?_, l1.stepq⟩
    unfold makeK; rw [if_neg (by rw [he]; exact hne)]
  cases hn : nameB k
  · have hE : errMake k (keysG G) = 10 := by unfold errMake; rw [hn]; rfl
    have hF : errFind k [] (keysG G) = 10 := by unfold errFind; simp [hn]
    rw [hF] at e1
    refine same _ hE (by decide) ?_
    unfold F_groupGroupsMake
    rw [bind_eq e1, bind_eq extr_p0, bind_eq extr_p1, bind_eq eql_r, cnd_b, if_neg (by decide), bind_eq neq_r, cnd_b, if_pos (by decide)]
    rfl
  · by_cases hk : k ∈ keysG G
    · have hE : errMake k (keysG G) = 9 := by unfold errMake; rw [hn, if_pos rfl, if_pos hk]
      have hF : errFind k [] (keysG G) = 0 := by unfold errFind; simp [hn, hk]
      rw [hF] at e1
      refine same _ hE (by decide) ?_
      unfold F_groupGroupsMake
      rw [bind_eq e1, bind_eq extr_p0, bind_eq extr_p1, bind_eq eql_r, cnd_b, if_pos (by decide)]
      rfl
    · have hF : errFind k [] (keysG G) = 8 := by unfold errFind; simp [hn, hk]
      rw [hF] at e1
      have hkl : (keysG G).length = G.length := by simp
      by_cases hl : 6 ≤ (keysG G).length
      · have hE : errMake k (keysG G) = 7 := by unfold errMake; rw [hn, if_pos rfl, if_neg hk, if_pos hl]
        refine same _ hE (by decide) ?_
        unfold F_groupGroupsMake
        rw [bind_eq e1, bind_eq extr_p0, bind_eq extr_p1, bind_eq eql_r, cnd_b, if_neg (by decide), bind_eq neq_r, cnd_b, if_neg (by decide), bind_eq nilc_r, bind_eq fa_z, bind_eq h1.ldo, bind_eq h1.mo.len, bind_eq geq_r, cnd_b, if_pos (by simp; omega)]
        rfl
      · have hE : errMake k (keysG G) = 0 := by unfold errMake; rw [hn, if_pos rfl, if_neg hk, if_neg hl]
        obtain ⟨X2, e2, m2, l2⟩ := mkm_g (α := Unit) (enc := unitV) X1
        have h2 := h1.hle l2
        have hkn : aget k G = none := by
          have := h.key (k := k)
          cases ha : aget k G with
          | none => rfl
          | some v => rw [ha] at this; exact absurd (by simpa using this.symm) hk
        obtain ⟨X3, e3, m3, s3, len3⟩ := h2.mo.mup (k := k) (v := X1.length)
        have ha : aput k X1.length G = G ++ [(k, X1.length)] := by unfold aput; rw [hkn]; rfl
        rw [ha] at m3
        have hlt : ∀ j ∈ gown o G, j < X1.length := fun j hj => (h1.isMap hj).1
        refine ⟨X3, G ++ [(k, X1.length)], ?_, ?_, ?_, ?_⟩
        · rw [hE]
          refine f1 _ _ ?_
          unfold F_groupGroupsMake
          rw [bind_eq e1, bind_eq extr_p0, bind_eq extr_p1, bind_eq eql_r, cnd_b, if_neg (by decide), bind_eq neq_r, cnd_b, if_neg (by decide), bind_eq nilc_r, bind_eq fa_z, bind_eq h1.ldo, bind_eq h1.mo.len, bind_eq geq_r, cnd_b, if_neg (by simp; omega), bind_eq nilc_r, bind_eq fa_z, bind_eq h1.ldo, bind_eq e2, bind_eq e3]
          rfl
        · have hgo : g ≠ o := fun e => h.gnot (by rw [e]; simp)
          have hoid : ∀ p ∈ G, p.2 ≠ o := fun p hp e => by
            have := h.nod
            simp only [List.nodup_cons] at this
            exact this.1 (List.mem_map.2 ⟨p, hp, e⟩)
          refine ⟨s3.get h2.cell (by simpa using hgo), m3, fun p hp => ?_, fun k' n' hk' => ?_, ?_, fun p hp => ?_, by simp; omega⟩
          · rcases List.mem_append.1 hp with hp | hp
            · obtain ⟨S, h5, h6⟩ := h2.ms p hp
              exact ⟨S, h5.step s3 (by simpa using hoid p hp), h6⟩
            · have : p = (k, X1.length) := by simpa using hp
              subst this
              refine ⟨[], m2.step s3 (by have := hlt o (by simp); simp; omega), fun n' => ?_, Nat.zero_le _, by simp⟩
              cases hb : mem k n' with
              | false => rfl
              | true => have := h.out k n' hb; rw [hkn] at this; cases this
          · rw [aget_append]
            have := h.out k' n' hk'
            cases hg : aget k' G with
            | none => rw [hg] at this; cases this
            | some v => rfl
          · have : gown o (G ++ [(k, X1.length)]) = gown o G ++ [X1.length] := by simp
            rw [this, List.nodup_append]
            refine ⟨h.nod, by simp, fun a ha b hb e => ?_⟩
            have := hlt a ha
            have hb : b = X1.length := by simpa using hb
            omega
          · rcases List.mem_append.1 hp with hp | hp
            · exact h.ok p hp
            · have : p = (k, X1.length) := by simpa using hp
              subst this; exact hn
        · unfold makeK; rw [if_pos hE]; simp
        · have s := (l1.trans l2).stepq (q := gown o G)
          have s := s.trans (s3.more (o2 := gown o G) (o2' := gown o G) (by simp) (fun j hj => .inl hj))
          refine ⟨s.len, s.keep, fun j hj => ?_⟩
          · have : gown o (G ++ [(k, X1.length)]) = gown o G ++ [X1.length] := by simp
            rw [this] at hj
            rcases List.mem_append.1 hj with hj | hj
            · exact .inl hj
            · have hj : j = X1.length := by simpa using hj
              exact .inr (by rw [hj]; exact l1.len)

def errDrop (k : Tx) (K : List Tx) : Int := if nameB k then (if k ∈ K then 0 else 8) else 10
def dropK (k : Tx) (K : List Tx) : List Tx := if errDrop k K = 0 then K.filter (fun x => decide (x ≠ k)) else K
def memDrop (k : Tx) (mem : Mem) : Mem := fun k' n => mem k' n && !(k' == k)

theorem errFind0 {k : Tx} {K : List Tx} : errFind k [] K = errDrop k K := by unfold errFind errDrop; simp

theorem r_gdrop (h : Grp X g o G mem c) : ∃ X' G', R (n + 8) n_groupGroupsDrop [pt g, strv k] X = some (iv (errDrop k (keysG G)), X') ∧ Grp X' g o G' (if errDrop k (keysG G) = 0 then memDrop k mem else mem) c ∧ keysG G' = dropK k (keysG G) ∧ Step (gown o G) X (gown o G') X' := by
  obtain ⟨X1, e1, l1⟩ := r_gfind0 (n := n) (k := k) h
  rw [errFind0] at e1
  have h1 := h.hle l1
  have f1 : ∀ r X', F_groupGroupsDrop (R (n + 7)) (pt g) (strv k) X = some (r, X') → R (n + 8) n_groupGroupsDrop [pt g, strv k] X = some (r, X') := fun r X' hr => by rw [R, run_groupGroupsDrop rfl]; exact hr
  by_cases hE : errDrop k (keysG G) = 0
  · rw [hE] at e1 ⊢
    obtain ⟨X2, e2, m2, s2, _⟩ := h1.mo.mde (k := k)
    have hgo : g ≠ o := fun e => h.gnot (by rw [e]; simp)
    have hoid : ∀ p ∈ G, p.2 ≠ o := fun p hp e => by
      have := h.nod
      simp only [List.nodup_cons] at this
      exact this.1 (List.mem_map.2 ⟨p, hp, e⟩)
    have hsub : (adel k G).Sublist G := List.filter_sublist
    refine ⟨X2, adel k G, f1 _ _ ?_, ?_, ?_, ?_⟩
    · unfold F_groupGroupsDrop
      rw [bind_eq e1, bind_eq extr_p0, bind_eq extr_p1, bind_eq eql_r]
      refine (jn_nrm (vs := [iv 0]) (H' := X2) ?_).trans ?_
      · rw [cnd_b, if_pos (by rfl), bind_eq nilc_r, bind_eq fa_z, bind_eq h1.ldo, bind_eq e2]; rfl
      · rfl
    · rw [if_pos rfl]
      refine ⟨s2.get h1.cell (by simpa using hgo), m2, fun p hp => ?_, fun k' n' hk' => ?_, ?_, fun p hp => h.ok p (hsub.subset hp), Nat.le_trans hsub.length_le h.few⟩
      · obtain ⟨S, h5, h6, h7⟩ := h1.ms p (hsub.subset hp)
        have hpk : p.1 ≠ k := by simpa [adel] using (List.mem_filter.1 hp).2
        refine ⟨S, h5.step s2 (by simpa using hoid p (hsub.subset hp)), fun n' => ?_, h7⟩
        rw [h6]; unfold memDrop; simp [hpk]
      · unfold memDrop at hk'
        simp only [Bool.and_eq_true, Bool.not_eq_true', beq_eq_false_iff_ne] at hk'
        rw [aget_adel_ne hk'.2]; exact h.out k' n' hk'.1
      · exact ((hsub.map (·.2)).cons_cons o).nodup h.nod
    · unfold dropK; rw [if_pos hE]
      unfold adel keysG
      rw [List.filter_map]; rfl
    · have s := l1.stepq (q := gown o G)
      have s := s.trans (s2.more (o2 := gown o G) (o2' := gown o G) (by simp) (fun j hj => .inl hj))
      refine ⟨s.len, s.keep, fun j hj => .inl ?_⟩
      exact ((hsub.map (·.2)).cons_cons o).subset hj
  · refine ⟨X1, G, f1 _ _ ?_, by rw [if_neg hE]; exact h1, by unfold dropK; rw [if_neg hE], l1.stepq⟩
    unfold F_groupGroupsDrop
    rw [bind_eq e1, bind_eq extr_p0, bind_eq extr_p1, bind_eq eql_r]
    refine (jn_nrm (vs := [iv (errDrop k (keysG G))]) (H' := X1) ?_).trans ?_
    · rw [cnd_b, if_neg (by simpa using hE)]; rfl
    · rfl

end

end Go.Proofs.Ytmacmlpiheimhaa.A

/- Groups: members come and go; all groups, a group's members, a member's groups. -/
namespace Go.Proofs.Ytmacmlpiheimhaa.A
set_option linter.unusedVariables false
set_option linter.unusedSimpArgs false
open Go.Proofs Go.Proofs.Ytmacmlpiheimhaa

theorem mem_aput {α : Type} {k : Tx} {v : α} {m : List (Tx × α)} {q : Tx × α} (h : q ∈ aput k v m) : q = (k, v) ∨ q ∈ m := by
  unfold aput at h
  split at h
  · obtain ⟨p, hp, rfl⟩ := List.mem_map.1 h
    by_cases e : p.1 = k
    · rw [if_pos e]; exact .inl rfl
    · rw [if_neg e]; exact .inr hp
  · rcases List.mem_append.1 h with h | h
    · exact .inr h
    · exact .inl (by simpa using h)

section
variable {X X' : Heap} {n g o c c' : Nat} {G : GMap} {mem mem' : Mem} {k m s t : Tx}

def errJoin (k m : Tx) (K : List Tx) (mem : Mem) : Int := if errFind k [m] K = 0 then (if mem k m then 9 else 0) else errFind k [m] K
def errLeave (k m : Tx) (K : List Tx) (mem : Mem) : Int := if errFind k [m] K = 0 then (if mem k m then 0 else 12) else errFind k [m] K
def memAdd (k m : Tx) (mem : Mem) : Mem := fun k' n => mem k' n || (k' == k && n == m)
def memDel (k m : Tx) (mem : Mem) : Mem := fun k' n => mem k' n && !(k' == k && n == m)

theorem errFind1_0 {k m : Tx} {K : List Tx} (h : errFind k [m] K = 0) : nameB k = true ∧ nameB m = true ∧ k ∈ K := by
  unfold errFind at h
  by_cases h1 : (k :: [m]).all nameB = true
  · rw [if_pos h1] at h
    simp only [List.all_cons, List.all_nil, Bool.and_true, Bool.and_eq_true] at h1
    by_cases h2 : k ∈ K
    · exact ⟨h1.1, h1.2, h2⟩
    · rw [if_neg h2] at h; cases h
  · rw [if_neg h1] at h; cases h

theorem bld0 {H : Heap} : bld (.agg #[]) [] H = some (.agg #[], H) := by simp [↓bind_andk, andk_some, ↓jn_outk, outk_nrm, outk_ext, outk_ret, ↓cnd_b, ret_r, nilc_r, fa_r, ldOne_r, ldA_r, stOne_r, stA_r, rdk_r, rdkA_r, wrk_r, wrkA_r, alc_r, lenS_r, lenT_r, cvi_r, pick_r, not_r, mx_r, mn_r, ixa_r, ixaA_r, bld_r, add_r, sub_r, mul_r, quo_r, rem_r, eql_r, neq_r, lss_r, leq_r, gtr_r, geq_r, eqb_r, neb_r, eqp_r, nep_r, ↓gv_r, gvn_r, ↓g_r, gn_r, isTup, bldC, splice, Value.cells]

theorem Grp.has (h : Grp X g o G mem c) (hk : k ∈ keysG G) : ∃ id, aget k G = some id := by
  have := h.key (k := k)
  cases ha : aget k G with
  | none => rw [ha] at this; exact absurd hk (by simpa using this.symm)
  | some v => exact ⟨v, rfl⟩

theorem r_gjoin (h : Grp X g o G mem c) : ∃ X', R (n + 8) n_groupGroupsJoin [pt g, strv k, strv m] X = some (iv (errJoin k m (keysG G) mem), X') ∧ Grp X' g o G (if errJoin k m (keysG G) mem = 0 then memAdd k m mem else mem) (c + 1) ∧ Step (gown o G) X (gown o G) X' := by
  have l0 : HLe X (X ++ [.cells [strv m] 1 false false]) := .app _ _
  have s0 := (one_S (x := m) (H := X)).rd
  have e0 := bslS (x := m) (H := X)
  generalize X ++ [AObj.cells [strv m] 1 false false] = X0 at l0 s0 e0
  obtain ⟨X1, e1, l1⟩ := r_gfind1 (n := n) (k := k) (m := m) (h.hle l0) s0
  have l01 := l0.trans l1
  have h1 := h.hle l01
  have f1 : ∀ r X', F_groupGroupsJoin (R (n + 7)) (pt g) (strv k) (strv m) X = some (r, X') → R (n + 8) n_groupGroupsJoin [pt g, strv k, strv m] X = some (r, X') := fun r X' hr => by rw [R, run_groupGroupsJoin rfl]; exact hr
  unfold errJoin
  by_cases hE : errFind k [m] (keysG G) = 0
  · rw [hE] at e1 ⊢
    rw [if_pos rfl] at e1 ⊢
    obtain ⟨b1, b2, b3⟩ := errFind1_0 hE
    obtain ⟨id, hid⟩ := h.has b3
    rw [hid] at e1
    obtain ⟨S, m1, m2, m3, m4⟩ := h1.set hid
    have e2 := m1.lkp (k := m) (z := .agg #[]) (ok := true)
    have l2 : HLe X1 (X1 ++ [.cells [] 1 false false]) := .app _ _
    have hbox := fun {K : Value → M Value} => box_a (k := K) (zs := []) (r := []) (n := 0) (H := X1) rfl rfl rfl rfl
    have h2 := h1.hle l2
    have m1 := m1.hle l2
    generalize X1 ++ [AObj.cells [] 1 false false] = X2 at hbox l2 h2 m1
    have hmm := m2 m
    cases hg : aget m S with
    | some u =>
      rw [hg] at hmm e2
      have hmm : mem k m = true := hmm.symm
      rw [if_pos hmm, if_neg (by decide)]
      refine ⟨X2, f1 _ _ ?_, h2.more (Nat.le_succ _) (fun _ _ => rfl), (l01.trans l2).stepq⟩
      unfold F_groupGroupsJoin
      simp only [cond_true] at e2
      rw [bind_eq e0, bind_eq e1, bind_eq extr_p0, bind_eq extr_p1, bind_eq neq_r, cnd_b, if_neg (by decide), bind_eq e2, bind_eq extr_p0, bind_eq extr_p1]
      refine hbox.trans ?_
      rw [cnd_b, if_pos rfl]
      rfl
    | none =>
      rw [hg] at hmm e2
      have hmm : mem k m = false := hmm.symm
      rw [if_neg (by simp [hmm]), if_pos rfl]
      simp only [cond_true] at e2
      obtain ⟨X3, e3, m5, s3, _⟩ := m1.mup (k := m) (v := ())
      have hlen : (aput m () S).length ≤ c + 1 := by rw [aput_len, hg]; simp; omega
      refine ⟨X3, f1 _ _ ?_, h2.upd hid m5 s3 (fun q hq => ?_) hlen (Nat.le_succ _) (fun k' n' => ?_), (l01.trans l2).stepq.trans (h2.step1 hid s3)⟩
      · unfold F_groupGroupsJoin
        rw [bind_eq e0, bind_eq e1, bind_eq extr_p0, bind_eq extr_p1, bind_eq neq_r, cnd_b, if_neg (by decide), bind_eq e2, bind_eq extr_p0, bind_eq extr_p1]
        refine hbox.trans ?_
        rw [cnd_b, if_neg (by simp), bind_eq bld0, bind_eq e3]
        rfl
      · rcases mem_aput hq with rfl | hq
        · exact b2
        · exact m4 q hq
      · unfold memAdd
        by_cases hk : k' = k
        · subst hk
          rw [if_pos rfl]
          by_cases hn : n' = m
          · subst hn; rw [aget_aput]; simp
          · rw [aget_aput_ne hn, m2]; simp [hn]
        · rw [if_neg hk]; simp [hk]
  · rw [if_neg hE, if_neg hE]
    refine ⟨X1, f1 _ _ ?_, h1.more (Nat.le_succ _) (fun _ _ => rfl), l01.stepq⟩
    unfold F_groupGroupsJoin
    rw [bind_eq e0, bind_eq e1, bind_eq extr_p0, bind_eq extr_p1, bind_eq neq_r, cnd_b, if_pos (by simpa using hE)]
    rfl

theorem r_gleave (h : Grp X g o G mem c) : ∃ X', R (n + 8) n_groupGroupsLeave [pt g, strv k, strv m] X = some (iv (errLeave k m (keysG G) mem), X') ∧ Grp X' g o G (if errLeave k m (keysG G) mem = 0 then memDel k m mem else mem) (c + 1) ∧ Step (gown o G) X (gown o G) X' := by
  have l0 : HLe X (X ++ [.cells [strv m] 1 false false]) := .app _ _
  have s0 := (one_S (x := m) (H := X)).rd
  have e0 := bslS (x := m) (H := X)
  generalize X ++ [AObj.cells [strv m] 1 false false] = X0 at l0 s0 e0
  obtain ⟨X1, e1, l1⟩ := r_gfind1 (n := n) (k := k) (m := m) (h.hle l0) s0
  have l01 := l0.trans l1
  have h1 := h.hle l01
  have f1 : ∀ r X', F_groupGroupsLeave (R (n + 7)) (pt g) (strv k) (strv m) X = some (r, X') → R (n + 8) n_groupGroupsLeave [pt g, strv k, strv m] X = some (r, X') := fun r X' hr => by rw [R, run_groupGroupsLeave rfl]; exact hr
  unfold errLeave
  by_cases hE : errFind k [m] (keysG G) = 0
  · rw [hE] at e1 ⊢
    rw [if_pos rfl] at e1 ⊢
    obtain ⟨b1, b2, b3⟩ := errFind1_0 hE
    obtain ⟨id, hid⟩ := h.has b3
    rw [hid] at e1
    obtain ⟨S, m1, m2, m3, m4⟩ := h1.set hid
    have e2 := m1.lkp (k := m) (z := .agg #[]) (ok := true)
    have l2 : HLe X1 (X1 ++ [.cells [] 1 false false]) := .app _ _
    have hbox := fun {K : Value → M Value} => box_a (k := K) (zs := []) (r := []) (n := 0) (H := X1) rfl rfl rfl rfl
    have h2 := h1.hle l2
    have m1 := m1.hle l2
    generalize X1 ++ [AObj.cells [] 1 false false] = X2 at hbox l2 h2 m1
    have hmm := m2 m
    cases hg : aget m S with
    | some u =>
      rw [hg] at hmm e2
      have hmm : mem k m = true := hmm.symm
      rw [if_pos hmm, if_pos rfl]
      simp only [cond_true] at e2
      obtain ⟨X3, e3, m5, s3, _⟩ := m1.mde (k := m)
      have hsub : (adel m S).Sublist S := List.filter_sublist
      refine ⟨X3, f1 _ _ ?_, h2.upd hid m5 s3 (fun q hq => m4 q (hsub.subset hq)) (Nat.le_trans hsub.length_le (Nat.le_trans m3 (Nat.le_succ _))) (Nat.le_succ _) (fun k' n' => ?_), (l01.trans l2).stepq.trans (h2.step1 hid s3)⟩
      · unfold F_groupGroupsLeave
        rw [bind_eq e0, bind_eq e1, bind_eq extr_p0, bind_eq extr_p1, bind_eq neq_r, cnd_b, if_neg (by decide), bind_eq e2, bind_eq extr_p0, bind_eq extr_p1]
        refine hbox.trans ?_
        rw [bind_eq not_r, cnd_b, if_neg (by simp), bind_eq e3]
        rfl
      · unfold memDel
        by_cases hk : k' = k
        · subst hk
          rw [if_pos rfl]
          by_cases hn : n' = m
          · subst hn; rw [aget_adel]; simp
          · rw [aget_adel_ne hn, m2]; simp [hn]
        · rw [if_neg hk]; simp [hk]
    | none =>
      rw [hg] at hmm e2
      have hmm : mem k m = false := hmm.symm
      rw [if_neg (by simp [hmm]), if_neg (by decide)]
      refine ⟨X2, f1 _ _ ?_, h2.more (Nat.le_succ _) (fun _ _ => rfl), (l01.trans l2).stepq⟩
      unfold F_groupGroupsLeave
      simp only [cond_true] at e2
      rw [bind_eq e0, bind_eq e1, bind_eq extr_p0, bind_eq extr_p1, bind_eq neq_r, cnd_b, if_neg (by decide), bind_eq e2, bind_eq extr_p0, bind_eq extr_p1]
      refine hbox.trans ?_
      rw [bind_eq not_r, cnd_b, if_pos (by rfl)]
      rfl
  · rw [if_neg hE, if_neg hE]
    refine ⟨X1, f1 _ _ ?_, h1.more (Nat.le_succ _) (fun _ _ => rfl), l01.stepq⟩
    unfold F_groupGroupsLeave
    rw [bind_eq e0, bind_eq e1, bind_eq extr_p0, bind_eq extr_p1, bind_eq neq_r, cnd_b, if_pos (by simpa using hE)]
    rfl

/-! rows of keys -/

theorem r_rising {id : Nat} {S : UMap} (hm : MapG unitV X id S) (hl : S.length ≤ 1000000) (hn : ∀ q ∈ S, nameB q.1 = true) : ∃ v q X', R (n + 2) n_groupRisingStruct [.map (some id)] X = some (v, X') ∧ RowS X' v ((ksort (S.map (·.1))).map strv) q ∧ HLe X X' ∧ ∀ j ∈ q, X.length ≤ j := by
  have e1 : R (n + 1) n_mapsKeysMapStringstructStringStruct [.map (some id)] X = some (.func (.func n_mapsKeysMapStringstructStringStruct1) #[] #[pt X.length], X ++ [.cells [.map (some id)] 1 false false]) := by
    rw [R, run_mapsKeysMapStringstructStringStruct rfl]
    unfold F_mapsKeysMapStringstructStringStruct
    rw [bind_eq (alc_s rfl rfl _)]
    rfl
  have l1 : HLe X (X ++ [.cells [.map (some id)] 1 false false]) := .app _ _
  obtain ⟨v, q, X2, e2, r2, l2, o2⟩ := (hm.hle l1).keys (gks := keyFns) (gc := n_nameCompare) (gk := n_mapsKeysMapStringstructStringStruct1) (c := X.length) (by decide) app_new hl (fun p hp => Nat.le_trans (name_len (hn p hp)) (by decide))
  have e2' : R (n + 1) n_slicesSortedFuncString [.func (.func n_mapsKeysMapStringstructStringStruct1) #[] #[pt X.length], .func (.func n_nameCompare) #[] #[]] (X ++ [.cells [.map (some id)] 1 false false]) = some (v, X2) := by
    rw [R, run_prim (show np n_slicesSortedFuncString = some (skeysM keyFns n_nameCompare) from rfl)]
    exact e2
  refine ⟨v, q, X2, ?_, r2, l1.trans l2, fun j hj => Nat.le_trans l1.len (o2 j hj)⟩
  rw [R, run_groupRisingStruct rfl]
  unfold F_groupRisingStruct
  rw [bind_eq e1, bind_eq e2']
  rfl

theorem r_gall (h : Grp X g o G mem c) : ∃ v q X', R (n + 3) n_groupGroupsAll [pt g] X = some (v, X') ∧ RowS X' v ((ksort (keysG G)).map strv) q ∧ HLe X X' ∧ ∀ j ∈ q, X.length ≤ j := by
  have e1 : R (n + 1) n_mapsKeysMapStringgroupSetStringGroupSet [.map (some o)] X = some (.func (.func n_mapsKeysMapStringgroupSetStringGroupSet1) #[] #[pt X.length], X ++ [.cells [.map (some o)] 1 false false]) := by
    rw [R, run_mapsKeysMapStringgroupSetStringGroupSet rfl]
    unfold F_mapsKeysMapStringgroupSetStringGroupSet
    rw [bind_eq (alc_s rfl rfl _)]
    rfl
  have l1 : HLe X (X ++ [.cells [.map (some o)] 1 false false]) := .app _ _
  obtain ⟨v, q, X2, e2, r2, l2, o2⟩ := (h.mo.hle l1).keys (gks := keyFns) (gc := n_nameCompare) (gk := n_mapsKeysMapStringgroupSetStringGroupSet1) (c := X.length) (by decide) app_new (Nat.le_trans h.few (by decide)) (fun p hp => Nat.le_trans (name_len (h.ok p hp)) (by decide))
  have e2' : R (n + 1) n_slicesSortedFuncString [.func (.func n_mapsKeysMapStringgroupSetStringGroupSet1) #[] #[pt X.length], .func (.func n_nameCompare) #[] #[]] (X ++ [.cells [.map (some o)] 1 false false]) = some (v, X2) := by
    rw [R, run_prim (show np n_slicesSortedFuncString = some (skeysM keyFns n_nameCompare) from rfl)]
    exact e2
  have e3 : R (n + 2) n_groupRisingGroupSet [.map (some o)] X = some (v, X2) := by
    rw [R, run_groupRisingGroupSet rfl]
    unfold F_groupRisingGroupSet
    rw [bind_eq e1, bind_eq e2']
    rfl
  refine ⟨v, q, X2, ?_, r2, l1.trans l2, fun j hj => Nat.le_trans l1.len (o2 j hj)⟩
  rw [R, run_groupGroupsAll rfl]
  unfold F_groupGroupsAll
  rw [bind_eq nilc_r, bind_eq fa_z, bind_eq h.ldo, bind_eq e3]
  rfl

theorem Grp.keysAsc (h : Grp X g o G mem c) : Asc (ksort (keysG G)) := ksort_asc h.mo.nod
theorem ksort_few {l : List Tx} : (ksort l).length = l.length := List.length_mergeSort l

theorem r_gmembers (h : Grp X g o G mem c) (hc : c ≤ 1000000) : ∃ v q l X', R (n + 8) n_groupGroupsMembers [pt g, strv k] X = some (.tuple #[v, iv (errDrop k (keysG G))], X') ∧ RowS X' v (l.map strv) q ∧ Is l (fun m => errDrop k (keysG G) = 0 ∧ mem k m = true) ∧ l.length ≤ c ∧ HLe X X' ∧ ∀ j ∈ q, X.length ≤ j := by
  obtain ⟨X1, e1, l1⟩ := r_gfind0 (n := n) (k := k) h
  rw [errFind0] at e1
  have h1 := h.hle l1
  have f1 : ∀ r X', F_groupGroupsMembers (R (n + 7)) (pt g) (strv k) X = some (r, X') → R (n + 8) n_groupGroupsMembers [pt g, strv k] X = some (r, X') := fun r X' hr => by rw [R, run_groupGroupsMembers rfl]; exact hr
  by_cases hE : errDrop k (keysG G) = 0
  · rw [hE] at e1 ⊢
    rw [if_pos rfl] at e1
    have hk : k ∈ keysG G := by
      unfold errDrop at hE
      by_cases hn : nameB k = true
      · rw [if_pos hn] at hE
        by_cases h2 : k ∈ keysG G
        · exact h2
        · rw [if_neg h2] at hE; cases hE
      · rw [if_neg hn] at hE; cases hE
    obtain ⟨id, hid⟩ := h.has hk
    rw [hid] at e1
    obtain ⟨S, m1, m2, m3, m4⟩ := h1.set hid
    obtain ⟨v, q, X2, e2, r2, l2, o2⟩ := r_rising (n := n + 5) m1 (by omega) m4
    have e2 : R (n + 7) n_groupRisingStruct [.map (some id)] X1 = _ := e2
    refine ⟨v, q, _, X2, f1 _ _ ?_, r2, ⟨ksort_asc m1.nod, fun x => ?_⟩, by rw [ksort_few]; simpa using m3, l1.trans l2, fun j hj => Nat.le_trans l1.len (o2 j hj)⟩
    · unfold F_groupGroupsMembers
      rw [bind_eq e1, bind_eq extr_p0, bind_eq extr_p1, bind_eq neq_r, cnd_b, if_neg (by decide), bind_eq e2]
      rfl
    · rw [mem_ksort]
      have := m2 x
      rw [aget_key] at this
      rw [← this]
      simp
  · refine ⟨_, [], [], X1, f1 _ _ ?_, RowS.nil, ⟨List.Pairwise.nil, fun x => ⟨fun hx => absurd hx (by simp), fun hx => absurd hx.1 hE⟩⟩, Nat.zero_le _, l1, by simp⟩
    unfold F_groupGroupsMembers
    rw [bind_eq e1, bind_eq extr_p0, bind_eq extr_p1, bind_eq neq_r, cnd_b, if_pos (by simpa using hE)]
    rfl

/-! a member's groups -/

def ofL (m : Tx) (K : List Tx) (mem : Mem) : List Tx := (ksort K).filter fun k => mem k m

theorem ofL_is {K : List Tx} (hn : K.Nodup) : Is (ofL m K mem) (fun k => k ∈ K ∧ mem k m = true) := ⟨(ksort_asc hn).filter _, fun x => by unfold ofL; rw [List.mem_filter, mem_ksort]⟩
theorem ofL_few {K : List Tx} : (ofL m K mem).length ≤ K.length := by
  unfold ofL
  have := List.length_filter_le (fun k => mem k m) (ksort K)
  rwa [ksort_few] at this

theorem r_gof1 {b1 b2 : Nat} (h : Grp X g o G mem c) (h1 : X[b1]? = some (.cells [pt g] 1 false false)) (h2 : X[b2]? = some (.cells [strv m] 1 false false)) (hk : k ∈ keysG G) :
    ∃ X', R (n + 1) n_groupGroupsOf1 [strv k, pt b1, pt b2] X = some (.bool (!mem k m), X') ∧ HLe X X' := by
  obtain ⟨id, hid⟩ := h.has hk
  obtain ⟨S, m1, m2, m3, m4⟩ := h.set hid
  have e2 : lkp .str (.map none) false (.map (some o)) (strv k) X = some (.map (some id), X) := by rw [h.mo.lkp, hid]; rfl
  have e3 : lkp .str (.agg #[]) true (.map (some id)) (strv m) X = some (.tuple #[.agg #[], .bool (mem k m)], X) := by
    rw [m1.lkp, ← m2 m]
    cases aget m S <;> rfl
  have l2 : HLe X (X ++ [.cells [] 1 false false]) := .app _ _
  have e4 : alc 1 (.agg #[]) X = some (pt X.length, X ++ [.cells [] 1 false false]) := alc_a (vs := []) rfl
  have a4 : (X ++ [AObj.cells [] 1 false false])[X.length]? = some (.cells [] 1 false false) := app_new
  have e5 : stA 0 (pt X.length) (.agg #[]) (X ++ [AObj.cells [] 1 false false]) = some (undef, (X ++ [AObj.cells [] 1 false false]).set X.length (.cells [] 1 false false)) := stA_at (vs := []) a4 rfl rfl rfl
  rw [set_new] at e5
  have h' := h.hle l2
  have m1' := m1.hle l2
  have b1' := l2 _ _ h1
  have b2' := l2 _ _ h2
  generalize X ++ [AObj.cells [] 1 false false] = X2 at l2 e4 e5 h' m1' b1' b2'
  have e2' : lkp .str (.map none) false (.map (some o)) (strv k) X2 = some (.map (some id), X2) := by rw [h'.mo.lkp, hid]; rfl
  have e3' : lkp .str (.agg #[]) true (.map (some id)) (strv m) X2 = some (.tuple #[.agg #[], .bool (mem k m)], X2) := by
    rw [m1'.lkp, ← m2 m]
    cases aget m S <;> rfl
  refine ⟨X2, ?_, l2⟩
  rw [R, run_groupGroupsOf1 rfl]
  unfold F_groupGroupsOf1
  rw [bind_eq (ld_s h1), bind_eq nilc_r, bind_eq fa_z, bind_eq h.ldo, bind_eq e2, bind_eq (ld_s h2), bind_eq e3, bind_eq extr_p0, bind_eq extr_p1, bind_eq e4, bind_eq e3', same_self, bind_eq (ld_s b2'), same_self, bind_eq e2', same_self]
  refine (bind_eq h'.ldo).trans ?_
  rw [same_self, bind_eq (ld_s b1'), same_self, bind_eq e5, bind_eq not_r]
  rfl

theorem r_gof (h : Grp X g o G mem c) : ∃ v q X', R (n + 4) n_groupGroupsOf [pt g, strv m] X = some (v, X') ∧ RowS X' v ((ofL m (keysG G) mem).map strv) q ∧ HLe X X' ∧ ∀ j ∈ q, X.length ≤ j := by
  have e1 := alc_s (v := pt g) rfl rfl X
  have l1 : HLe X (X ++ [AObj.cells [pt g] 1 false false]) := .app _ _
  have c1 : (X ++ [AObj.cells [pt g] 1 false false])[X.length]? = some (.cells [pt g] 1 false false) := app_new
  generalize X ++ [AObj.cells [pt g] 1 false false] = X1 at e1 l1 c1
  have e2 := alc_s (v := strv m) rfl rfl X1
  have l2 : HLe X1 (X1 ++ [AObj.cells [strv m] 1 false false]) := .app _ _
  have c2 : (X1 ++ [AObj.cells [strv m] 1 false false])[X1.length]? = some (.cells [strv m] 1 false false) := app_new
  generalize X1 ++ [AObj.cells [strv m] 1 false false] = X2 at e2 l2 c2
  have c1 := l2 _ _ c1
  have h2 := h.hle (l1.trans l2)
  obtain ⟨v, q, X3, e3, r3, l3, o3⟩ := r_gall (n := n) h2
  have e3 : R (n + 3) n_groupGroupsAll [pt g] X2 = _ := e3
  have l123 := (l1.trans l2).trans l3
  have hq : ∀ j ∈ q, j ∉ gown o G ∧ j ≠ g ∧ j ≠ X.length ∧ j ≠ X1.length := fun j hj => by
    have := o3 j hj
    have a1 := get_lt c1
    have a2 := get_lt c2
    have a3 := h2.glt
    exact ⟨fun hm => by have := (h2.isMap hm).1; omega, by omega, by omega, by omega⟩
  have hkeep : ∀ Y Y', (Grp Y g o G mem c ∧ Y[X.length]? = some (.cells [pt g] 1 false false) ∧ Y[X1.length]? = some (.cells [strv m] 1 false false)) → Step q Y q Y' → (Grp Y' g o G mem c ∧ Y'[X.length]? = some (.cells [pt g] 1 false false) ∧ Y'[X1.length]? = some (.cells [strv m] 1 false false)) := fun Y Y' ⟨a1, a2, a3⟩ hs =>
    ⟨a1.step hs (fun hm => (hq g hm).2.1 rfl) (fun j hj hm => (hq j hm).1 hj), hs.get a2 (fun hm => (hq _ hm).2.2.1 rfl), hs.get a3 (fun hm => (hq _ hm).2.2.2 rfl)⟩
  have hf : ∀ i Y, (Grp Y g o G mem c ∧ Y[X.length]? = some (.cells [pt g] 1 false false) ∧ Y[X1.length]? = some (.cells [strv m] 1 false false)) → ∀ s ∈ ksort (keysG G), ∃ Y', callv (R (i + 1)) (.func (.func 66) #[] #[pt X.length, pt X1.length]) [strv s] Y = some (.bool (!mem s m), Y') ∧ HLe Y Y' := fun i Y ⟨a1, a2, a3⟩ s hs => by
    obtain ⟨Y', e, l⟩ := r_gof1 (n := i) a1 a2 a3 (mem_ksort.1 hs)
    refine ⟨Y', ?_, l⟩
    have := call_c (n := i + 1) (g := 66) (bs := [pt X.length, pt X1.length]) (args := [strv s])
    exact (congrFun this Y).trans e
  obtain ⟨X4, v', e4, r4, s4⟩ := r_deleteFunc2 (n := n + 1) (p := fun s => !mem s m) (f := .func (.func 66) #[] #[pt X.length, pt X1.length]) (Q := fun Y => Grp Y g o G mem c ∧ Y[X.length]? = some (.cells [pt g] 1 false false) ∧ Y[X1.length]? = some (.cells [strv m] 1 false false)) r3 (by rw [ksort_few]; have := h.few; simp; omega) hkeep (hf n) (hf (n + 1)) ⟨h2.hle l3, l3 _ _ c1, l3 _ _ c2⟩
  have e4 : R (n + 3) n_slicesDeleteFuncstringString [v, .func (.func 66) #[] #[pt X.length, pt X1.length]] X3 = _ := e4
  have hm := l123.more s4 (fun j hj => Nat.le_trans (l1.trans l2).len (o3 j hj))
  refine ⟨v', q, X4, ?_, by simpa [ofL] using r4, hm.1, hm.2⟩
  rw [R, run_groupGroupsOf rfl]
  unfold F_groupGroupsOf
  rw [bind_eq e1, bind_eq e2, bind_eq (ld_s c1), bind_eq e3, bind_eq e4]
  rfl

end

end Go.Proofs.Ytmacmlpiheimhaa.A

/- Groups: a member is renamed, or removed; groups are copied. -/
namespace Go.Proofs.Ytmacmlpiheimhaa.A
set_option linter.unusedVariables false
set_option linter.unusedSimpArgs false
open Go.Proofs Go.Proofs.Ytmacmlpiheimhaa

section
variable {X X' : Heap} {n g o c c' : Nat} {G : GMap} {mem mem' : Mem} {k m s t : Tx}

theorem RowS.grp {v : Value} {vs : List Value} {q S' : List Nat} (h : RowS X v vs q) (hG : Grp X g o G mem c) (hs : Step (gown o G) X S' X') : RowS X' v vs q := by
  refine h.step hs fun j hj hm => ?_
  rcases h with ⟨_, rfl, _⟩ | ⟨sid, rest, gr, _, rfl, hid⟩
  · cases hj
  · have hj : j = sid := by simpa using hj
    subst hj
    exact (hG.isMap hm).2 _ _ _ _ hid

theorem RowN.grp {es : Nat} {v : Value} {vs : List (List Value)} {q S' : List Nat} (h : RowN es X v vs q) (hG : Grp X g o G mem c) (hs : Step (gown o G) X S' X') : RowN es X' v vs q := by
  refine h.step hs fun j hj hm => ?_
  rcases h with ⟨_, rfl, _⟩ | ⟨sid, rest, r, gr, _, rfl, hid, _⟩
  · cases hj
  · have hj : j = sid := by simpa using hj
    subst hj
    exact (hG.isMap hm).2 _ _ _ _ hid

def errRen (s t : Tx) (K : List Tx) (mem : Mem) : Int := if nameB t then (if s = t then 0 else if ofL t K mem = [] then 0 else 9) else 10
def memRen (s t : Tx) (mem : Mem) : Mem := fun k n => if mem k s then (n == t || (mem k n && !(n == s))) else mem k n
def memRem (m : Tx) (mem : Mem) : Mem := fun k n => mem k n && !(n == m)
def renM (s t : Tx) (l : List Tx) (mem : Mem) (j : Nat) : Mem := fun k n => if k ∈ l.take j then (n == t || (mem k n && !(n == s))) else mem k n
def remM (m : Tx) (l : List Tx) (mem : Mem) (j : Nat) : Mem := fun k n => if k ∈ l.take j then mem k n && !(n == m) else mem k n

theorem take_in {l : List Tx} {j : Nat} {x k : Tx} (hx : l[j]? = some x) : k ∈ l.take (j + 1) ↔ k ∈ l.take j ∨ k = x := by
  rw [List.take_add_one, hx]; simp

theorem take_not {l : List Tx} {j : Nat} {x : Tx} (hn : l.Nodup) (hx : l[j]? = some x) : x ∉ l.take j := fun hm => by
  obtain ⟨i, hi⟩ := List.getElem?_of_mem hm
  rw [List.getElem?_take] at hi
  split at hi
  · rename_i hij
    obtain ⟨h1, h2⟩ := List.getElem?_eq_some_iff.1 hi
    obtain ⟨h3, h4⟩ := List.getElem?_eq_some_iff.1 hx
    exact List.pairwise_iff_getElem.1 hn i j h1 h3 hij (h2.trans h4.symm)
  · cases hi

theorem ren_do {v : Value} {q : List Nat} {l : List Tx} (hl : l.length ≤ 1000) (hn : l.Nodup) (hK : ∀ x ∈ l, x ∈ keysG G ∧ mem x s = true) : ∀ (r j : Nat) (X : Heap), l.length - j = r → j ≤ l.length → Grp X g o G (renM s t l mem j) c → nameB t = true → RowS X v (l.map strv) q →
    ∃ X', loopM (c6 (F_groupGroupsRename.l1 (R n))) [pt g, strv s, strv t, v, iv l.length, iv j] X = some (.ext 0 [], X') ∧ Grp X' g o G (renM s t l mem l.length) c ∧ Step (gown o G) X (gown o G) X'
  | 0, j, X, hr, hj, h, ht, hrow => by
    have : j = l.length := by omega
    subst this
    refine ⟨X, loop_ext ?_, h, .refl _ _⟩
    rw [c6_r]
    unfold F_groupGroupsRename.l1
    rw [bind_eq lss_r, cnd_b, if_neg (by simp)]
    rfl
  | r + 1, j, X, hr, hj, h, ht, hrow => by
    have hkl : j < l.length := by omega
    have hlt : (j : Int) < l.length := by omega
    have hg := List.getElem?_eq_getElem hkl
    have hmm := List.getElem_mem hkl
    generalize l[j] = k at hg hmm
    obtain ⟨hkK, hks⟩ := hK k hmm
    have hnot := take_not hn hg
    have x1 := hrow.ix (i := j) (by simpa using hkl) .i64 X
    have x2 := hrow.ldx (row_at hg)
    obtain ⟨id, hid⟩ := h.has hkK
    obtain ⟨S, m1, m2, m3, m4⟩ := h.set hid
    have hmk : ∀ n', (aget n' S).isSome = mem k n' := fun n' => by rw [m2 n']; unfold renM; rw [if_neg hnot]
    have e2 : lkp .str (.map none) false (.map (some o)) (strv k) X = some (.map (some id), X) := by rw [h.mo.lkp, hid]; rfl
    obtain ⟨X1, e3, m5, s3, _⟩ := m1.mde (k := s)
    have hsub : (adel s S).Sublist S := List.filter_sublist
    have h1 := h.upd (mem' := fun k' n' => if k' = k then (aget n' (adel s S)).isSome else renM s t l mem j k' n') hid m5 s3 (fun q hq => m4 q (hsub.subset hq)) (Nat.le_trans hsub.length_le m3) (Nat.le_refl _) (fun _ _ => rfl)
    have e4 : lkp .str (.map none) false (.map (some o)) (strv k) X1 = some (.map (some id), X1) := by rw [h1.mo.lkp, hid]; rfl
    obtain ⟨X2, e5, m6, s5, _⟩ := m5.mup (k := t) (v := ())
    have hsS : (aget s S).isSome = true := by rw [hmk]; exact hks
    have hpos : 0 < S.length := by
      cases hS : S with
      | nil => rw [hS] at hsS; cases hsS
      | cons a b => simp
    have hlen : (aput t () (adel s S)).length ≤ c := by
      rw [aput_len]
      have := adel_len m1.nod hsS
      split <;> omega
    have h2 := h1.upd (mem' := renM s t l mem (j + 1)) hid m6 s5 (fun q hq => by
      rcases mem_aput hq with rfl | hq
      · exact ht
      · exact m4 q (hsub.subset hq)) hlen (Nat.le_refl _) (fun k' n' => by
      by_cases hk : k' = k
      · subst hk
        rw [if_pos rfl]
        unfold renM
        rw [if_pos ((take_in hg).2 (.inr rfl))]
        by_cases hnt : n' = t
        · subst hnt; rw [aget_aput]; simp
        · rw [aget_aput_ne hnt]
          by_cases hns : n' = s
          · subst hns; rw [aget_adel]; simp [hnt]
          · rw [aget_adel_ne hns, hmk, beq_eq_false_iff_ne.2 hnt, beq_eq_false_iff_ne.2 hns]; simp
      · rw [if_neg hk, if_neg hk]
        unfold renM
        by_cases hin : k' ∈ l.take j
        · rw [if_pos hin, if_pos ((take_in hg).2 (.inl hin))]
        · rw [if_neg hin, if_neg fun h => (take_in hg).1 h |>.elim hin hk])
    have st := (h.step1 hid s3).trans (h1.step1 hid s5)
    obtain ⟨X3, e6, h3, s6⟩ := ren_do hl hn hK r (j + 1) X2 (by omega) (by omega) h2 ht (hrow.grp h st)
    refine ⟨X3, (loop_next ?_).trans e6, h3, st.trans s6⟩
    rw [c6_r]
    unfold F_groupGroupsRename.l1
    rw [bind_eq lss_r, cnd_b, if_pos (by simpa using hlt), bind_eq x1, bind_eq x2, bind_eq nilc_r, bind_eq fa_z, bind_eq h.ldo, bind_eq e2, bind_eq e3, bind_eq nilc_r, bind_eq fa_z, bind_eq h1.ldo, bind_eq e4, bind_eq bld0, bind_eq e5, bind_eq add_r, wsuc (by omega)]
    rfl

theorem ofL_in {K : List Tx} {x : Tx} : x ∈ ofL m K mem ↔ x ∈ K ∧ mem x m = true := by unfold ofL; rw [List.mem_filter, mem_ksort]

theorem r_gren (h : Grp X g o G mem c) : ∃ X', R (n + 8) n_groupGroupsRename [pt g, strv s, strv t] X = some (iv (errRen s t (keysG G) mem), X') ∧ Grp X' g o G (if errRen s t (keysG G) mem = 0 then memRen s t mem else mem) c ∧ Step (gown o G) X (gown o G) X' := by
  have l0 : HLe X (X ++ [.cells [strv t] 1 false false]) := .app _ _
  have s0 := (one_S (x := t) (H := X)).rd
  have e0 := bslS (x := t) (H := X)
  generalize X ++ [AObj.cells [strv t] 1 false false] = X0 at l0 s0 e0
  have f1 : ∀ r X', F_groupGroupsRename (R (n + 7)) (pt g) (strv s) (strv t) X = some (r, X') → R (n + 8) n_groupGroupsRename [pt g, strv s, strv t] X = some (r, X') := fun r X' hr => by rw [R, run_groupGroupsRename rfl]; exact hr
  have e1 : R (n + 7) n_groupNames [_] X0 = _ := r_gnames (n := n + 1) (l := [t]) (by simp) s0
  have h0 := h.hle l0
  unfold errRen
  by_cases ht : nameB t = true
  · have hN : errNames [t] = 0 := by unfold errNames; simp [ht]
    rw [hN] at e1
    rw [if_pos ht]
    have q1 : bop .str .eql (strv s) (strv t) X0 = some (.bool (s == t), X0) := eqs_v
    by_cases hst : s = t
    · rw [if_pos hst, if_pos rfl]
      refine ⟨X0, f1 _ _ ?_, h0.more (Nat.le_refl _) (fun k' n' => ?_), l0.stepq⟩
      · unfold F_groupGroupsRename
        rw [bind_eq e0, bind_eq e1, bind_eq neq_r, cnd_b, if_neg (by decide), bind_eq q1, cnd_b, if_pos (by simpa using hst)]
        rfl
      · unfold memRen
        subst hst
        split
        · rename_i hm
          by_cases hn : n' = s
          · subst hn; simp [hm]
          · rw [beq_eq_false_iff_ne.2 hn]; simp
        · rfl
    · rw [if_neg hst]
      obtain ⟨v1, q1', X1, e2, r2, l2, o2⟩ := r_gof (n := n + 3) (m := t) h0
      have e2 : R (n + 7) n_groupGroupsOf [pt g, strv t] X0 = _ := e2
      have hlen1 : lenS v1 X1 = some (iv (ofL t (keysG G) mem).length, X1) := by have := r2.rd.len (H' := X1); simpa using this
      have h1 := h0.hle l2
      by_cases hO : ofL t (keysG G) mem = []
      · rw [if_pos hO, if_pos rfl]
        rw [hO] at hlen1
        obtain ⟨v2, q2, X2, e3, r3, l3, o3⟩ := r_gof (n := n + 3) (m := s) h1
        have e3 : R (n + 7) n_groupGroupsOf [pt g, strv s] X1 = _ := e3
        have h2 := h1.hle l3
        have hlen2 : lenS v2 X2 = some (iv (ofL s (keysG G) mem).length, X2) := by have := r3.rd.len (H' := X2); simpa using this
        have hfew : (ofL s (keysG G) mem).length ≤ 1000 := by have := ofL_few (m := s) (mem := mem) (K := keysG G); have := h.few; simp at *; omega
        have hnod : (ofL s (keysG G) mem).Nodup := (ofL_is h.mo.nod).asc.nodup
        have hr0 : ∀ k n', renM s t (ofL s (keysG G) mem) mem 0 k n' = mem k n' := fun k n' => by unfold renM; simp
        obtain ⟨X3, e4, h3, s4⟩ := ren_do (n := n + 7) (s := s) (t := t) hfew hnod (fun x hx => ofL_in.1 hx) (ofL s (keysG G) mem).length 0 X2 (by omega) (by omega) (h2.more (Nat.le_refl _) hr0) ht r3
        rw [show iv ((0 : Nat) : Int) = .int .i64 0 from rfl] at e4
        refine ⟨X3, f1 _ _ ?_, h3.more (Nat.le_refl _) (fun k' n' => ?_), ((l0.trans l2).trans l3).stepq.trans s4⟩
        · unfold F_groupGroupsRename
          rw [bind_eq e0, bind_eq e1, bind_eq neq_r, cnd_b, if_neg (by decide), bind_eq q1, cnd_b, if_neg (by simpa using hst), bind_eq e2, bind_eq hlen1, bind_eq gtr_r, cnd_b, if_neg (by simp), bind_eq e3, bind_eq hlen2, jn_ext e4, xk_hit]
          rfl
        · unfold memRen renM
          rw [List.take_length]
          by_cases hm : mem k' s = true
          · have hin : k' ∈ ofL s (keysG G) mem := ofL_in.2 ⟨by
              have := h.out k' s hm
              rw [h.key] at this; simpa using this, hm⟩
            rw [if_pos hm, if_pos hin]
          · rw [if_neg hm, if_neg fun hin => hm (ofL_in.1 hin).2]
      · rw [if_neg hO, if_neg (by decide)]
        have hpos : 0 < (ofL t (keysG G) mem).length := List.length_pos_iff.2 hO
        refine ⟨X1, f1 _ _ ?_, h1, (l0.trans l2).stepq⟩
        unfold F_groupGroupsRename
        rw [bind_eq e0, bind_eq e1, bind_eq neq_r, cnd_b, if_neg (by decide), bind_eq q1, cnd_b, if_neg (by simpa using hst), bind_eq e2, bind_eq hlen1, bind_eq gtr_r, cnd_b, if_pos (by simpa using hpos)]
        rfl
  · have hN : errNames [t] = 10 := by unfold errNames; simp [ht]
    rw [hN] at e1
    rw [if_neg ht, if_neg (by decide)]
    refine ⟨X0, f1 _ _ ?_, h0, l0.stepq⟩
    unfold F_groupGroupsRename
    rw [bind_eq e0, bind_eq e1, bind_eq neq_r, cnd_b, if_pos (by decide)]
    rfl

theorem rem_do {v z : Value} {q : List Nat} {l : List Tx} (hl : l.length ≤ 1000) (hn : l.Nodup) (hK : ∀ x ∈ l, x ∈ keysG G) : ∀ (r j : Nat) (X : Heap), l.length - j = r → j ≤ l.length → Grp X g o G (remM m l mem j) c → RowS X v (l.map strv) q →
    ∃ X', loopM (c6 (F_groupGroupsRemove.l1 (R n))) [pt g, strv m, z, v, iv l.length, iv j] X = some (.ext 0 [z], X') ∧ Grp X' g o G (remM m l mem l.length) c ∧ Step (gown o G) X (gown o G) X'
  | 0, j, X, hr, hj, h, hrow => by
    have : j = l.length := by omega
    subst this
    refine ⟨X, loop_ext ?_, h, .refl _ _⟩
    rw [c6_r]
    unfold F_groupGroupsRemove.l1
    rw [bind_eq lss_r, cnd_b, if_neg (by simp)]
    rfl
  | r + 1, j, X, hr, hj, h, hrow => by
    have hkl : j < l.length := by omega
    have hlt : (j : Int) < l.length := by omega
    have hg := List.getElem?_eq_getElem hkl
    have hmm := List.getElem_mem hkl
    generalize l[j] = k at hg hmm
    have hkK := hK k hmm
    have hnot := take_not hn hg
    have x1 := hrow.ix (i := j) (by simpa using hkl) .i64 X
    have x2 := hrow.ldx (row_at hg)
    obtain ⟨id, hid⟩ := h.has hkK
    obtain ⟨S, m1, m2, m3, m4⟩ := h.set hid
    have hmk : ∀ n', (aget n' S).isSome = mem k n' := fun n' => by rw [m2 n']; unfold remM; rw [if_neg hnot]
    have e2 : lkp .str (.map none) false (.map (some o)) (strv k) X = some (.map (some id), X) := by rw [h.mo.lkp, hid]; rfl
    obtain ⟨X1, e3, m5, s3, _⟩ := m1.mde (k := m)
    have hsub : (adel m S).Sublist S := List.filter_sublist
    have h1 := h.upd (mem' := remM m l mem (j + 1)) hid m5 s3 (fun q hq => m4 q (hsub.subset hq)) (Nat.le_trans hsub.length_le m3) (Nat.le_refl _) (fun k' n' => by
      by_cases hk : k' = k
      · subst hk
        rw [if_pos rfl]
        unfold remM
        rw [if_pos ((take_in hg).2 (.inr rfl))]
        by_cases hns : n' = m
        · subst hns; rw [aget_adel]; simp
        · rw [aget_adel_ne hns, hmk]; simp [hns]
      · rw [if_neg hk]
        unfold remM
        by_cases hin : k' ∈ l.take j
        · rw [if_pos hin, if_pos ((take_in hg).2 (.inl hin))]
        · rw [if_neg hin, if_neg fun h => (take_in hg).1 h |>.elim hin hk])
    have st := h.step1 hid s3
    obtain ⟨X3, e6, h3, s6⟩ := rem_do hl hn hK r (j + 1) X1 (by omega) (by omega) h1 (hrow.grp h st)
    refine ⟨X3, (loop_next ?_).trans e6, h3, st.trans s6⟩
    rw [c6_r]
    unfold F_groupGroupsRemove.l1
    rw [bind_eq lss_r, cnd_b, if_pos (by simpa using hlt), bind_eq x1, bind_eq x2, bind_eq nilc_r, bind_eq fa_z, bind_eq h.ldo, bind_eq e2, bind_eq e3, bind_eq add_r, wsuc (by omega)]
    rfl

theorem r_gremove (h : Grp X g o G mem c) : ∃ X', R (n + 8) n_groupGroupsRemove [pt g, strv m] X = some (iv (ofL m (keysG G) mem).length, X') ∧ Grp X' g o G (memRem m mem) c ∧ Step (gown o G) X (gown o G) X' := by
  obtain ⟨v2, q2, X2, e3, r3, l3, o3⟩ := r_gof (n := n + 3) (m := m) h
  have e3 : R (n + 7) n_groupGroupsOf [pt g, strv m] X = _ := e3
  have h2 := h.hle l3
  have hlen2 : ∀ Y, lenS v2 Y = some (iv (ofL m (keysG G) mem).length, Y) := fun Y => by have := r3.rd.len (H' := Y); simpa using this
  have hfew : (ofL m (keysG G) mem).length ≤ 1000 := by have := ofL_few (m := m) (mem := mem) (K := keysG G); have := h.few; simp at *; omega
  have hnod : (ofL m (keysG G) mem).Nodup := (ofL_is h.mo.nod).asc.nodup
  have hr0 : ∀ k n', remM m (ofL m (keysG G) mem) mem 0 k n' = mem k n' := fun k n' => by unfold remM; simp
  obtain ⟨X3, e4, h3, s4⟩ := rem_do (n := n + 7) (m := m) (z := v2) hfew hnod (fun x hx => (ofL_in.1 hx).1) (ofL m (keysG G) mem).length 0 X2 (by omega) (by omega) (h2.more (Nat.le_refl _) hr0) r3
  rw [show iv ((0 : Nat) : Int) = .int .i64 0 from rfl] at e4
  refine ⟨X3, ?_, h3.more (Nat.le_refl _) (fun k' n' => ?_), l3.stepq.trans s4⟩
  · rw [R, run_groupGroupsRemove rfl]
    unfold F_groupGroupsRemove
    rw [bind_eq e3, bind_eq (hlen2 _), jn_ext e4, xk_hit, c1_r, bind_eq (hlen2 _)]
    rfl
  · unfold memRem remM
    rw [List.take_length]
    by_cases hin : k' ∈ ofL m (keysG G) mem
    · rw [if_pos hin]
    · rw [if_neg hin]
      by_cases hn : n' = m
      · subst hn
        cases hm : mem k' n' with
        | false => rfl
        | true => exact absurd (ofL_in.2 ⟨by have := h.out k' n' hm; rw [h.key] at this; simpa using this, hm⟩) hin
      · simp [hn]

/-! copies -/

def renum (b : Nat) : GMap → GMap
  | [] => []
  | p :: G => (p.1, b) :: renum (b + 1) G

theorem renum_keys : ∀ {G : GMap} {b : Nat}, keysG (renum b G) = keysG G
  | [], _ => rfl
  | p :: G, b => by
    show p.1 :: keysG (renum (b + 1) G) = p.1 :: keysG G
    rw [renum_keys]

theorem renum_at : ∀ {G : GMap} {b : Nat} {p : Tx × Nat}, p ∈ renum b G → ∃ i q, G[i]? = some q ∧ p = (q.1, b + i)
  | [], _, _, h => by cases h
  | q :: G, b, p, h => by
    rcases List.mem_cons.1 h with rfl | h
    · exact ⟨0, q, rfl, rfl⟩
    · obtain ⟨i, r, h1, h2⟩ := renum_at h
      exact ⟨i + 1, r, by simpa using h1, by rw [h2]; congr 1; omega⟩

theorem renum_ids : ∀ {G : GMap} {b : Nat}, (renum b G).map (·.2) = List.range' b G.length
  | [], _ => rfl
  | p :: G, b => by
    show b :: (renum (b + 1) G).map (·.2) = _
    rw [renum_ids, List.length_cons, List.range'_succ]

theorem renum_aget : ∀ {G : GMap} {b : Nat}, (aget k (renum b G)).isSome = (aget k G).isSome
  | [], _ => rfl
  | p :: G, b => by
    simp only [renum, aget]
    by_cases h : p.1 = k
    · rw [if_pos h, if_pos h]; rfl
    · rw [if_neg h, if_neg h, renum_aget]

theorem outE_renum : ∀ {es : List (Value × Value × Nat)} {G : GMap} {b : Nat}, es.map kv = G.map (fun p => (strv p.1, mapV p.2)) → (outE b es).map kv = (renum b G).map (fun p => (strv p.1, mapV p.2))
  | [], [], _, _ => rfl
  | [], _ :: _, _, h => by cases h
  | _ :: _, [], _, h => by cases h
  | e :: es, p :: G, b, h => by
    simp only [List.map_cons, List.cons.injEq, kv, Prod.mk.injEq] at h
    simp only [outE, renum, List.map_cons, kv, h.1.1]
    rw [outE_renum h.2]

theorem setsOf_grp : ∀ {es : List (Value × Value × Nat)} {G : GMap}, es.map kv = G.map (fun p => (strv p.1, mapV p.2)) → (∀ p ∈ G, ∃ S, MapG unitV X p.2 S) → ∃ l, setsOf X es = some l ∧ l.length = G.length ∧ ∀ (i : Nat) (p : Tx × Nat), G[i]? = some p → l[i]? = X[p.2]?
  | [], [], _, _ => ⟨[], rfl, rfl, fun i p h => by simp at h⟩
  | [], _ :: _, h, _ => by cases h
  | _ :: _, [], h, _ => by cases h
  | e :: es, p :: G, h, hS => by
    simp only [List.map_cons, List.cons.injEq, kv, Prod.mk.injEq] at h
    obtain ⟨l, h1, h2, h3⟩ := setsOf_grp h.2 (fun p hp => hS p (List.mem_cons_of_mem _ hp))
    obtain ⟨S, hm⟩ := hS p (by simp)
    obtain ⟨x, hx, hmx⟩ : ∃ x, X[p.2]? = some x ∧ isMapO x = true := by
      obtain ⟨es', _, h4 | h4⟩ := hm.ex
      · obtain ⟨clk, h4, _⟩ := h4; exact ⟨_, h4, rfl⟩
      · exact ⟨_, h4, rfl⟩
    refine ⟨x :: l, ?_, by simp [h2], fun i q hi => ?_⟩
    · unfold setsOf
      simp only [h.1.2, h1, mapV, hx, hmx, if_true]
    · cases i with
      | zero =>
        have : p = q := by simpa using hi
        subst this
        simp [hx]
      | succ i => simpa using h3 i q (by simpa using hi)

theorem MapG.move {α : Type} {enc : α → Value} {id id' : Nat} {mm : List (Tx × α)} (h : MapG enc X id mm) (he : X'[id']? = X[id]?) : MapG enc X' id' mm := by
  obtain ⟨es, h1, h2⟩ := h.ex
  exact ⟨⟨es, h1, by rw [he]; exact h2⟩, h.nod⟩

theorem r_gcopy (h : Grp X g o G mem c) : ∃ X' g' o' G', R (n + 1) n_groupGroupsCopy [pt g] X = some (pt g', X') ∧ Grp X' g' o' G' mem c ∧ keysG G' = keysG G ∧ HLe X X' ∧ X.length ≤ g' ∧ ∀ j ∈ gown o' G', X.length ≤ j := by
  obtain ⟨es, h1, h2⟩ := h.mo.ex
  obtain ⟨l, h3, h4, h5⟩ := setsOf_grp h1 (fun p hp => by obtain ⟨S, hS, _⟩ := h.ms p hp; exact ⟨S, hS⟩)
  have hents : entsAt X o = some es := by
    unfold entsAt
    rcases h2 with ⟨clk, h2, hst⟩ | h2
    · simp only [h2]; rw [if_pos hst]
    · simp only [h2]
  have hk : KeysOk es (keysG G) := ⟨by
    have := congrArg (List.map (·.1)) h1
    rw [kv_key] at this
    rw [this]; simp [Function.comp_def], h.mo.nod, by have := h.few; simp; omega, fun k hk => by
    obtain ⟨p, hp, rfl⟩ := List.mem_map.1 hk
    exact Nat.le_trans (name_len (h.ok p hp)) (by decide)⟩
  have hrun : R (n + 1) n_groupGroupsCopy [pt g] X = some (pt (X.length + l.length + 1), X ++ l ++ [.mapU (outE X.length es)] ++ [.cells [.map (some (X.length + l.length))] 1 false false]) := by
    rw [R, run_prim (show np n_groupGroupsCopy = some copyGM from rfl)]
    unfold copyGM
    simp only [h.cell, hents, h3]
    rw [if_pos ⟨_, hk⟩]
  have hlen1 : (X ++ l).length = X.length + l.length := List.length_append
  have hlen2 : (X ++ l ++ [AObj.mapU (outE X.length es)]).length = X.length + l.length + 1 := by rw [List.length_append, hlen1, List.length_singleton]
  have hle : HLe X (X ++ l ++ [.mapU (outE X.length es)] ++ [.cells [.map (some (X.length + l.length))] 1 false false]) := fun i v hi => by
    rw [List.append_assoc, List.append_assoc, List.getElem?_append_left (get_lt hi)]; exact hi
  refine ⟨_, _, X.length + l.length, renum X.length G, hrun, ⟨?_, ⟨⟨outE X.length es, outE_renum h1, .inr ?_⟩, ?_⟩, fun p hp => ?_, fun k' n' hk' => by rw [renum_aget]; exact h.out k' n' hk', ?_, fun p hp => ?_, ?_⟩, renum_keys, hle, by omega, fun j hj => ?_⟩
  · rw [← hlen2]; exact app_new
  · rw [List.getElem?_append_left (by rw [hlen2]; omega), ← hlen1]; exact app_new
  · have : (keysG (renum X.length G)).Nodup := by rw [renum_keys]; exact h.mo.nod
    exact this
  · obtain ⟨i, q, hq, rfl⟩ := renum_at hp
    obtain ⟨S, a1, a2, a3, a4⟩ := h.ms q (List.mem_of_getElem? hq)
    refine ⟨S, a1.move ?_, a2, a3, a4⟩
    have hil : i < l.length := by rw [h4]; exact (List.getElem?_eq_some_iff.1 hq).1
    show (_ : Heap)[X.length + i]? = _
    rw [List.getElem?_append_left (by rw [hlen2]; omega), List.getElem?_append_left (by rw [hlen1]; omega), List.getElem?_append_right (by omega), Nat.add_sub_cancel_left]
    exact h5 i q hq
  · rw [gown, renum_ids, List.nodup_cons]
    refine ⟨fun hm => ?_, List.nodup_range'⟩
    have := List.mem_range'_1.1 hm
    omega
  · obtain ⟨i, q, hq, rfl⟩ := renum_at hp
    exact h.ok q (List.mem_of_getElem? hq)
  · have : (renum X.length G).length = G.length := by
      have := congrArg List.length (renum_ids (G := G) (b := X.length))
      simpa using this
    rw [this]; exact h.few
  · rw [gown, renum_ids] at hj
    rcases List.mem_cons.1 hj with rfl | hj
    · omega
    · exact (List.mem_range'_1.1 hj).1

end

end Go.Proofs.Ytmacmlpiheimhaa.A
