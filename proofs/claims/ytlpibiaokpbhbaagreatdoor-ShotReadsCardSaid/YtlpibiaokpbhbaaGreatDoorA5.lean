/- The operations that read and write the heap: what the abstract machine does, the model does. -/
import Derived.Test.YtlpibiaokpbhbaaGreatDoorA4
import Derived.ChangeKeysEq
namespace Go.Proofs.YtlpibiaokpbhbaaGreatDoor.A
set_option linter.unusedVariables false
set_option linter.unusedSimpArgs false
section
variable {P : Program} {G : Nat} {w0 : Base} {ι : Nat → Option Loc} {H H1 : Heap} {w : World} {v : Value}

theorem scalar_arr {cs : Array Value} (h : cs.all Scalar = true) (i : Nat) (hi : i < cs.size) : RV ι (cs.getD i undef) (cs.getD i undef) := by
  have h1 : ∀ v ∈ cs.toList, Scalar v = true := by
    rw [← Array.all_toList] at h
    exact List.all_eq_true.1 h
  have h2 : cs.getD i undef = cs[i] := by simp [hi]
  rw [h2]
  exact .sc (h1 _ (by simp))

theorem RV.const {v : Value} (h : constOK v = true) : RV ι v v := by
  cases v <;> first
    | exact .sc h
    | exact .agg rfl (scalar_arr h)
    | exact .tup rfl (scalar_arr h)

theorem info_some {t : TypeId} {d : TypeDesc} (h : P.underlying t = some d) : ∃ i, P.info? t = some i := by
  unfold Program.underlying at h
  split at h
  · exact ⟨_, by assumption⟩
  · exact ⟨_, by assumption⟩
  · cases h

theorem agg_true {t : TypeId} (h : aggT P t = some true) : ∃ i, P.info? t = some i ∧ ∀ w, (isAgg t).run P w = .ok true w := by
  unfold aggT at h
  split at h
  · rename_i hu
    obtain ⟨i, hi⟩ := info_some hu
    exact ⟨i, hi, fun w => by simp [isAgg, run_underlying hu]⟩
  · rename_i hu
    obtain ⟨i, hi⟩ := info_some hu
    exact ⟨i, hi, fun w => by simp [isAgg, run_underlying hu]⟩
  · cases h
  · cases h

theorem agg_false {t : TypeId} (h : aggT P t = some false) : ∃ i, P.info? t = some i ∧ ∀ w, (isAgg t).run P w = .ok false w := by
  unfold aggT at h
  split at h
  · cases h
  · cases h
  · rename_i d h1 h2 hu
    obtain ⟨i, hi⟩ := info_some hu
    refine ⟨i, hi, fun w => ?_⟩
    simp only [isAgg, Sem.run_bind, run_underlying hu, Result.andThen_ok]
    rfl
  · cases h

theorem run_szT {t : TypeId} {i : TypeInfo} (h : P.info? t = some i) : (sizeOf t).run P w = .ok (szT P t) w := by
  simp [sizeOf, run_typeInfo w h, szT, h]

/-- The block behind an object. -/
theorem Sim.cellsR (h : Sim G w0 ι H w) {id : Nat} {cs : List Value} {es : Nat} {g ro : Bool} {l : Loc} (hid : H[id]? = some (.cells cs es g ro)) (hl : ι id = some l) :
    ∃ c el fr, l.es = es ∧ l.grow = g ∧ w.heap[l.blk]? = some (.cells c el fr) ∧ l.base + cs.length ≤ l.tot ∧ l.tot ≤ c.size ∧
      RVs ι cs ((c.toList.drop l.base).take cs.length) ∧ (ro = false → w0.heap.size ≤ l.blk ∧ FrOK l.tot fr ∧ (l.grow = false → l.base = 0)) ∧ (∀ v ∈ cs, oneCell v = true) := by
  obtain ⟨l', c, el, fr, h1, h2, h3, h4, h5, h6, h7, h8, _, h9⟩ := h.obj id _ hid
  rw [hl] at h1; cases h1
  exact ⟨c, el, fr, h2, h3, h4, h5, h6, h7, h8, h9⟩

theorem cellW {b o : Nat} {c : Array Value} {el : TypeId} {fr : Nat × Nat} (h : w.heap[b]? = some (.cells c el fr)) : w.cell? ⟨b, o, none⟩ = c[o]? := by
  simp [World.cell?, h]

theorem RVs.at {cs : List Value} {c : Array Value} {base o : Nat} (h : RVs ι cs ((c.toList.drop base).take cs.length)) (ho : o < cs.length) :
    ∃ v', c[base + o]? = some v' ∧ RV ι (cs.getD o undef) v' := by
  have h1 := h.1
  have h2 := h.2 o ho
  simp only [List.length_take, List.length_drop, Array.length_toList] at h1
  have hlt : base + o < c.size := by omega
  refine ⟨c[base + o], Array.getElem?_eq_getElem hlt, ?_⟩
  simpa [List.getD_eq_getElem?_getD, List.getElem?_take, ho, List.getElem?_drop, hlt] using h2

theorem ldOne_run (hS : Sim G w0 ι H w) {t : TypeId} {x x' : Value} (ht : aggT P t = some false) (hx : RV ι x x') (h : ld1 x H = some (v, H1)) :
    H1 = H ∧ ∃ a v', x' = .pointer (some a) ∧ RV ι v v' ∧ (loadVar t a).run P w = .ok v' w := by
  unfold ld1 at h
  split at h
  · split at h
    · rename_i id o _ cs es g ro hid
      simp only [Option.map_eq_some_iff, Prod.mk.injEq] at h
      obtain ⟨u, hu, rfl, rfl⟩ := h
      obtain ⟨l, hl, rfl⟩ := hx.ptr_inv
      obtain ⟨c, el, fr, _, _, hb, _, _, hr, _⟩ := hS.cellsR hid hl
      obtain ⟨i, hi, hagg⟩ := agg_false ht
      have ho : o < cs.length := by
        rcases Nat.lt_or_ge o cs.length with h | h
        · exact h
        · rw [List.getElem?_eq_none h] at hu; cases hu
      obtain ⟨u', hu', hru⟩ := hr.at ho
      have : cs.getD o undef = u := by simp [List.getD_eq_getElem?_getD, hu]
      rw [this] at hru
      exact ⟨rfl, _, _, rfl, hru, by simp [loadVar, hagg, cellW hb, hu']⟩
    · rename_i id o _ cs es nx hid
      split at h
      · rename_i ds es2 g2 hnx
        cases hh : headsL cs ds with
        | false => rw [hh] at h; cases h
        | true =>
          rw [hh] at h
          simp only [cond_true, Option.map_eq_some_iff, Prod.mk.injEq] at h
          obtain ⟨u, hu, rfl, rfl⟩ := h
          obtain ⟨l, hl, rfl⟩ := hx.ptr_inv
          obtain ⟨i, hi, hagg⟩ := agg_false ht
          have ho : o < cs.length := by
            rcases Nat.lt_or_ge o cs.length with h | h
            · exact h
            · rw [List.getElem?_eq_none h] at hu; cases hu
          rcases hS.views id cs es nx l hid hl with ⟨l', k1, k2, k3⟩ | ⟨⟨c, el, fr, hb, _, hr⟩, _⟩
          · obtain ⟨c, el, fr, _, _, hb, _, _, hr, _⟩ := hS.cellsR hnx k1
            have hd := headsL_get hh hu
            have ho2 : o < ds.length := by
              rcases Nat.lt_or_ge o ds.length with h | h
              · exact h
              · rw [List.getElem?_eq_none h] at hd; cases hd
            obtain ⟨u', hu', hru⟩ := hr.at ho2
            have : ds.getD o undef = u := by simp [List.getD_eq_getElem?_getD, hd]
            rw [this] at hru
            rw [k2] at hb
            rw [k3] at hu'
            exact ⟨rfl, _, _, rfl, hru, by simp [loadVar, hagg, cellW hb, hu']⟩
          · obtain ⟨u', hu', hru⟩ := hr.at ho
            have : cs.getD o undef = u := by simp [List.getD_eq_getElem?_getD, hu]
            rw [this] at hru
            exact ⟨rfl, _, _, rfl, hru, by simp [loadVar, hagg, cellW hb, hu']⟩
      · cases h
    · cases h
  · cases h

theorem ldOne_sim (hS : Sim G w0 ι H w) {t : TypeId} {x x' : Value} (ht : aggT P t = some false) (hx : RV ι x x') (h : ld1 x H = some (v, H1)) :
    Res G w0 ι v H1 ((Instr.loadAt t x').run P w) := by
  obtain ⟨rfl, a, v', rfl, hv, hr⟩ := ldOne_run (P := P) hS ht hx h
  exact .same hS hv (by simp only [Instr.loadAt, Instr.sureAddr, Sem.run_bind, Sem.run_pure, Result.andThen_ok, hr])

theorem slice_take {cs : List Value} {c : Array Value} {base o n : Nat} (h : RVs ι cs ((c.toList.drop base).take cs.length)) (ho : o + n ≤ cs.length)
    (hb : base + cs.length ≤ c.size) : RVs ι ((cs.drop o).take n) ((c.toList.drop (base + o)).take n) ∧ base + o + n ≤ c.size := by
  have h2 := (h.drop o).take n
  rw [List.drop_take, List.drop_drop, List.take_take, Nat.min_eq_left (by omega)] at h2
  exact ⟨h2, by omega⟩

theorem run_loads {b o n : Nat} {c : Array Value} {el : TypeId} {fr : Nat × Nat} (h : w.heap[b]? = some (.cells c el fr)) (hn : o + n ≤ c.size) :
    (loadCells ⟨b, o, none⟩ n).run P w = .ok ((c.toList.drop o).take n).toArray w := by
  have hlen : ((c.toList.drop o).take n).length = n := by simp; omega
  have := run_loadCells_list (P := P) w ⟨b, o, none⟩ ((c.toList.drop o).take n) (fun j v hj => by
    have hadd : Addr.add ⟨b, o, none⟩ j = ⟨b, o + j, none⟩ := by
      unfold Addr.add; split
      · rename_i h0; subst h0; rfl
      · rfl
    rw [hadd, cellW h]
    rw [List.getElem?_take] at hj
    split at hj
    · rw [List.getElem?_drop] at hj
      simpa using hj
    · cases hj)
  rwa [hlen] at this

theorem ldA_run (hS : Sim G w0 ι H w) {t : TypeId} {x x' : Value} (ht : aggT P t = some true) (hx : RV ι x x') (h : ldA (szT P t) x H = some (v, H1)) :
    H1 = H ∧ ∃ a v', x' = .pointer (some a) ∧ RV ι v v' ∧ (loadVar t a).run P w = .ok v' w := by
  unfold ldA at h
  split at h
  · split at h
    · rename_i id o _ cs es g ro hid
      split at h
      · rename_i hle
        cases h
        obtain ⟨l, hl, rfl⟩ := hx.ptr_inv
        obtain ⟨c, el, fr, _, _, hb, h5, h6, hr, _⟩ := hS.cellsR hid hl
        obtain ⟨i, hi, hagg⟩ := agg_true ht
        obtain ⟨h1, h2⟩ := slice_take hr hle (by omega)
        refine ⟨rfl, _, _, rfl, .aggL h1, ?_⟩
        simp only [loadVar, Sem.run_bind, Sem.run_pure, Result.andThen_ok, hagg, if_true, run_szT hi, run_loads hb h2]
      · cases h
    · cases h
  · cases h

theorem ldA_sim (hS : Sim G w0 ι H w) {t : TypeId} {x x' : Value} (ht : aggT P t = some true) (hx : RV ι x x') (h : ldA (szT P t) x H = some (v, H1)) :
    Res G w0 ι v H1 ((Instr.loadAt t x').run P w) := by
  obtain ⟨rfl, a, v', rfl, hv, hr⟩ := ldA_run (P := P) hS ht hx h
  exact .same hS hv (by simp only [Instr.loadAt, Instr.sureAddr, Sem.run_bind, Sem.run_pure, Result.andThen_ok, hr])

/-! storing -/

theorem setCell_eq {b o : Nat} {c : Array Value} {el : TypeId} {fr : Nat × Nat} {u : Value} (h : w.heap[b]? = some (.cells c el fr)) :
    w.setCell ⟨b, o, none⟩ u = setB w b (.cells (c.setIfInBounds o u) el fr) := by
  have hb : b < w.heap.size := by
    rcases Nat.lt_or_ge b w.heap.size with h1 | h1
    · exact h1
    · rw [Array.getElem?_eq_none h1] at h; cases h
  have hg : w.heap[b] = .cells c el fr := by
    rw [Array.getElem?_eq_getElem hb] at h; simpa using h
  unfold World.setCell setB
  congr 1
  apply Array.ext
  · simp
  · intro i h1 h2
    simp only [Array.getElem_modify]
    by_cases e : b = i
    · subst e; simp [hg]
    · simp only [if_neg e]; rw [Array.getElem_setIfInBounds_ne (by simpa using h2) e]

theorem setB_setB {b : Nat} {o o' : Obj} : setB (setB w b o) b o' = setB w b o' := by
  unfold setB; simp

theorem setB_self {b : Nat} {o : Obj} (h : w.heap[b]? = some o) : setB w b o = w := by
  unfold setB
  have : w.heap.setIfInBounds b o = w.heap := by
    apply Array.ext
    · simp
    · intro i h1 h2
      rw [Array.getElem_setIfInBounds]
      split
      · rename_i e; subst e; rw [Array.getElem?_eq_getElem h2] at h; simpa using h.symm
      · rfl
  rw [this]

/-- Cells of a row, from 'o' on, turned. -/
def aspl (c : Array Value) (new : List Value) (o : Nat) : Array Value := (splice c.toList new o).toArray

theorem splice_length {cs new : List Value} {o : Nat} (h : o + new.length ≤ cs.length) : (splice cs new o).length = cs.length := by
  unfold splice; simp; omega

theorem aspl_size {c : Array Value} {new : List Value} {o : Nat} (h : o + new.length ≤ c.size) : (aspl c new o).size = c.size := by
  unfold aspl; simp [splice_length (cs := c.toList) (by simpa using h)]

theorem splice_cons {cs new : List Value} {u : Value} {o : Nat} (h : o < cs.length) : splice (cs.set o u) new (o + 1) = splice cs (u :: new) o := by
  unfold splice
  have h1 : (cs.set o u).take (o + 1) = cs.take o ++ [u] := by
    rw [List.take_add_one, List.take_set_of_le (Nat.le_refl o)]
    simp [h]
  have h2 : (cs.set o u).drop (o + 1 + new.length) = cs.drop (o + (u :: new).length) := by
    rw [List.drop_set_of_lt (by omega)]
    congr 1; simp; omega
  rw [h1, h2]; simp

theorem splice_nil {cs : List Value} {o : Nat} : splice cs [] o = cs := by
  unfold splice; simp

theorem run_stores {b : Nat} {el : TypeId} {fr : Nat × Nat} : ∀ (vs : List Value) (i o : Nat) (c : Array Value) (w : World), w.heap[b]? = some (.cells c el fr) →
    o + i + vs.length ≤ c.size → (∀ v ∈ vs, v.oneCell' = true) → (∀ j, o + i ≤ j → j < o + i + vs.length → ¬ (fr.1 ≤ j ∧ j < fr.2)) →
    (storeCells ⟨b, o, none⟩ vs i).run P w = .ok () (setB w b (.cells (aspl c vs (o + i)) el fr)) := by
  intro vs
  induction vs with
  | nil =>
    intro i o c w h _ _ _
    simp only [storeCells, Sem.run_pure]
    rw [show aspl c [] (o + i) = c by simp [aspl, splice_nil], setB_self h]
  | cons v vs ih =>
    intro i o c w h hle h1 hf
    have hadd : Addr.add ⟨b, o, none⟩ i = ⟨b, o + i, none⟩ := by
      unfold Addr.add; split
      · rename_i h0; subst h0; rfl
      · rfl
    have hv := h1 v (by simp)
    have hlt : o + i < c.size := by simp at hle; omega
    have hfz : w.frozen? ⟨b, o + i, none⟩ = false := by
      have := hf (o + i) (Nat.le_refl _) (by simp)
      simp only [World.frozen?, h]
      simp only [Bool.and_eq_false_iff, decide_eq_false_iff_not]
      omega
    have hb : b < w.heap.size := by
      rcases Nat.lt_or_ge b w.heap.size with h1 | h1
      · exact h1
      · rw [Array.getElem?_eq_none h1] at h; cases h
    simp only [storeCells, Sem.run_bind, hadd]
    rw [run_store P w _ v _ hv, cellW h, Array.getElem?_eq_getElem hlt]
    simp only [hfz, Bool.false_eq_true, if_false, Result.andThen_ok]
    rw [setCell_eq h]
    have h2 := ih (i + 1) o (c.setIfInBounds (o + i) v) (setB w b (.cells (c.setIfInBounds (o + i) v) el fr)) (setB_same hb) (by simp at hle ⊢; omega)
      (fun u hu => h1 u (by simp [hu])) (fun j hj1 hj2 => hf j (by omega) (by simp; omega))
    rw [h2, setB_setB]
    congr 3
    unfold aspl
    rw [show (c.setIfInBounds (o + i) v).toList = c.toList.set (o + i) v by simp, show o + (i + 1) = o + i + 1 by omega, splice_cons (by simpa using hlt)]

theorem RVs.splice {cs new : List Value} {c new' : List Value} (h : RVs ι cs c) (hn : RVs ι new new') {o : Nat} :
    RVs ι (A.splice cs new o) (A.splice c new' o) := by
  unfold A.splice
  refine RVs.append (RVs.append (h.take o) hn) ?_
  rw [← hn.1]; exact h.drop _

theorem splice_pre {pre m new : List Value} {o : Nat} : splice (pre ++ m) new (pre.length + o) = pre ++ splice m new o := by
  unfold A.splice
  simp only [List.take_append, List.drop_append, Nat.add_assoc]
  rw [List.take_of_length_le (by omega), List.drop_eq_nil_of_le (by omega)]
  simp

theorem splice_post {m post new : List Value} {o : Nat} (h : o + new.length ≤ m.length) : splice (m ++ post) new o = splice m new o ++ post := by
  unfold A.splice
  rw [List.take_append_of_le_length (by omega), List.drop_append_of_le_length h]
  simp

theorem drop_take_splice {c new : List Value} {base o n : Nat} (h : o + new.length ≤ n) (hn : base + n ≤ c.length) :
    ((splice c new (base + o)).drop base).take n = splice ((c.drop base).take n) new o := by
  have hc : c = c.take base ++ ((c.drop base).take n ++ (c.drop base).drop n) := by rw [List.take_append_drop, List.take_append_drop]
  have hp : (c.take base).length = base := by simp; omega
  have hm : ((c.drop base).take n).length = n := by simp; omega
  generalize c.take base = pre at hc hp
  generalize (c.drop base).drop n = post at hc
  generalize hmid : (c.drop base).take n = mid at hc hm
  subst hc
  rw [← hp, splice_pre, splice_post (by omega), List.drop_left, List.take_append_of_le_length (by rw [splice_length (by omega)]; omega), List.take_of_length_le (by rw [splice_length (by omega)]; omega)]

/-- Cells of an object that may be written are written. -/
theorem Sim.store (hS : Sim G w0 ι H w) {id o : Nat} {cs : List Value} {es : Nat} {g : Bool} {l : Loc} {new new' : List Value}
    (hid : H[id]? = some (.cells cs es g false)) (hl : ι id = some l) (ho : o + new.length ≤ cs.length) (hn : RVs ι new new') (h1 : ∀ v ∈ new, oneCell v = true) :
    ∃ w1, (storeCells ⟨l.blk, l.base + o, none⟩ new').run P w = .ok () w1 ∧ Sim G w0 ι (H.set id (.cells (splice cs new o) es g false)) w1 := by
  obtain ⟨c, el, fr, h2, h3, hb, h5, h6, hr, h7, h8⟩ := hS.cellsR hid hl
  have hlen := hn.1
  have h1' : ∀ v ∈ new', v.oneCell' = true := by
    intro u hu
    obtain ⟨i, hi, rfl⟩ := List.getElem_of_mem hu
    have hi' : i < new.length := by omega
    have := hn.2 i hi'
    simp only [List.getD_eq_getElem?_getD, List.getElem?_eq_getElem hi, List.getElem?_eq_getElem hi', Option.getD_some] at this
    exact this.oneCell (h1 _ (List.getElem_mem hi'))
  refine ⟨_, run_stores new' 0 (l.base + o) c w hb (by omega) h1' (fun j hj1 hj2 => (h7 rfl).2.1.not (by omega)), ?_⟩
  refine hS.set hid rfl hl rfl fun w' hw' => ⟨l, _, el, fr, hl, h2, h3, hw', ?_, ?_, ?_, h7, by simp, ?_⟩
  · rw [splice_length ho]; exact h5
  · rw [aspl_size (by omega)]; exact h6
  · rw [splice_length ho]
    simp only [aspl, Nat.add_zero]
    rw [drop_take_splice (by omega) (by have := hr.1; simp at this ⊢; omega)]
    exact hr.splice hn
  · intro u hu
    unfold A.splice at hu
    simp only [List.mem_append] at hu
    rcases hu with (hu | hu) | hu
    · exact h8 u (List.mem_of_mem_take hu)
    · exact h1 u hu
    · exact h8 u (List.mem_of_mem_drop hu)

theorem splice_one {cs : List Value} {u : Value} {o : Nat} (h : o < cs.length) : splice cs [u] o = cs.set o u := by
  rw [← splice_cons h, splice_nil]

theorem stOne_sim (hS : Sim G w0 ι H w) {t : TypeId} {x x' u u' : Value} (ht : aggT P t = some false) (hsz : szT P t = 1) (hx : RV ι x x') (hu : RV ι u u')
    (h : st1 x u H = some (v, H1)) : v = undef ∧ ResU G w0 ι H1 ((Instr.storeAt t x' u').run P w) := by
  unfold st1 at h
  split at h
  · split at h
    · rename_i id o _ cs es g hid
      split at h
      · rename_i hc
        cases h
        obtain ⟨l, hl, rfl⟩ := hx.ptr_inv
        obtain ⟨i, hi, _⟩ := agg_false ht
        obtain ⟨w1, hw1, hS1⟩ := hS.store (P := P) hid hl (new := [u]) (new' := [u']) (o := o) (by simp; omega) (.cons hu .nil) (by simpa using hc.2)
        refine ⟨rfl, ι, w1, .refl ι, by rwa [splice_one hc.1] at hS1, ?_⟩
        have hcell : u'.cells = #[u'] := by
          have := hu.oneCell hc.2
          cases u' <;> simp [Value.oneCell', Value.cells] at this ⊢
        simp only [Instr.storeAt, Instr.sureAddr, storeVar, Sem.run_bind, Sem.run_pure, Result.andThen_ok, run_szT hi, hsz, hcell]
        simpa using hw1
      · cases h
    · cases h
  · cases h

theorem stA_sim (hS : Sim G w0 ι H w) {t : TypeId} {x x' u u' : Value} (ht : aggT P t = some true) (hx : RV ι x x') (hu : RV ι u u')
    (h : stA (szT P t) x u H = some (v, H1)) : v = undef ∧ ResU G w0 ι H1 ((Instr.storeAt t x' u').run P w) := by
  unfold stA at h
  split at h
  · split at h
    · rename_i id o vs _ cs es g hid
      split at h
      · rename_i hc
        obtain ⟨hc1, hc2, hc3⟩ := hc
        cases h
        obtain ⟨l, hl, rfl⟩ := hx.ptr_inv
        obtain ⟨vs', rfl, hvs⟩ := hu.agg_inv
        obtain ⟨i, hi, _⟩ := agg_true ht
        obtain ⟨w1, hw1, hS1⟩ := hS.store (P := P) hid hl (new := vs.toList) (new' := vs'.toList) (o := o) (by simpa [hc2] using hc1) hvs (List.all_eq_true.1 hc3)
        refine ⟨rfl, ι, w1, .refl ι, hS1, ?_⟩
        have hsz : vs'.size = szT P t := by have := hvs.1; simp at this; omega
        simp only [Instr.storeAt, Instr.sureAddr, storeVar, Sem.run_bind, Sem.run_pure, Result.andThen_ok, run_szT hi, Value.cells, hsz]
        simpa using hw1
      · cases h
    · cases h
  · cases h

/-! addresses -/

theorem addr_add {b o n : Nat} : Addr.add ⟨b, o, none⟩ n = ⟨b, o + n, none⟩ := by
  unfold Addr.add; split
  · rename_i h0; subst h0; rfl
  · rfl

theorem fa_sim (hS : Sim G w0 ι H w) {s : TypeId} {fs : Array Field} {f : Nat} {fd : Field} {x x' : Value} (hs : P.underlying s = some (.struct fs)) (hf : fs[f]? = some fd)
    (hz : szT P fd.type ≠ 0) (hx : RV ι x x') (h : fa fd.offset x H = some (v, H1)) : Res G w0 ι v H1 ((Instr.fieldAt s x' f).run P w) := by
  unfold fa at h
  split at h
  · cases h
    obtain ⟨l, hl, rfl⟩ := hx.ptr_inv
    have hi : ∃ i, P.info? fd.type = some i := by
      unfold szT at hz
      cases e : P.info? fd.type with
      | none => simp [e] at hz
      | some i => exact ⟨i, rfl⟩
    obtain ⟨i, hi⟩ := hi
    refine .same hS (.ptr hl) ?_
    simp only [Instr.fieldAt, Sem.run_bind, run_underlying hs, Result.andThen_ok, hf, Instr.sureAddr, Sem.run_pure, fieldPlace, run_szT hi, hz, if_false, addr_add]
    simp [Nat.add_assoc]
  · cases h

theorem ixa_sim (hS : Sim G w0 ι H w) {t e : TypeId} {ie : TypeInfo} {x x' i i' : Value} (ht : P.underlying t = some (.slice e)) (he : P.info? e = some ie)
    (hx : RV ι x x') (hi : RV ι i i') (h : ixa (szT P e) x i H = some (v, H1)) : Res G w0 ι v H1 ((Instr.indexAt t x' i').run P w) := by
  unfold ixa at h
  split at h
  · split at h
    · rename_i hc
      cases h
      obtain ⟨l, c', hl, _, _, _, _, rfl⟩ := hx.slc_inv
      rw [hi.int_inv]
      refine .same hS (.ptr hl) ?_
      simp only [Instr.indexAt, asIntOf, Sem.run_bind, Sem.run_pure, Result.andThen_ok, run_underlying ht]
      rw [if_pos hc]
      simp [run_szT he, addr_add, Nat.add_assoc]
    · cases h
  · cases h

theorem ixaA_sim (hS : Sim G w0 ι H w) {t e : TypeId} {n : Nat} {ie : TypeInfo} {x x' i i' : Value} (ht : P.underlying t = some (.array n e)) (he : P.info? e = some ie)
    (hx : RV ι x x') (hi : RV ι i i') (h : ixaA n (szT P e) x i H = some (v, H1)) : Res G w0 ι v H1 ((Instr.indexAt t x' i').run P w) := by
  unfold ixaA at h
  split at h
  · split at h
    · rename_i hc
      cases h
      obtain ⟨l, hl, rfl⟩ := hx.ptr_inv
      rw [hi.int_inv]
      refine .same hS (.ptr hl) ?_
      simp only [Instr.indexAt, asIntOf, Sem.run_bind, Sem.run_pure, Result.andThen_ok, run_underlying ht, Instr.sureAddr]
      rw [if_pos hc]
      simp [run_szT he, addr_add, Nat.add_assoc]
    · cases h
  · cases h

theorem ixs_sim (hS : Sim G w0 ι H w) {t : TypeId} {x x' i i' : Value} (ht : P.underlying t = some .string)
    (hx : RV ι x x') (hi : RV ι i i') (h : ixs x i H = some (v, H1)) : Res G w0 ι v H1 ((Instr.index t x' i').run P w) := by
  unfold ixs at h
  split at h
  · split at h
    · rename_i s k n h0
      split at h
      · rename_i b hb
        cases h
        rw [hx.string_inv, hi.int_inv]
        refine .sc hS rfl ?_
        simp only [Instr.index, asIntOf, Sem.run_bind, Sem.run_pure, Result.andThen_ok, run_underlying ht]
        rw [if_pos h0, hb]
        rfl
      · cases h
    · cases h
  · cases h

theorem prt_run {t : TypeId} {g : Bool} (ht : aggT P t = some g) {a a' : Array Value} {off : Nat} (ha : RVs ι a.toList a'.toList)
    (h : prt g (szT P t) (.agg a) off H = some (v, H1)) : H1 = H ∧ ∃ v', RV ι v v' ∧ (part t a' off).run P w = .ok v' w := by
  unfold prt at h
  cases g with
  | true =>
    simp only [cond_true, Option.some.injEq, Prod.mk.injEq] at h
    obtain ⟨rfl, rfl⟩ := h
    obtain ⟨i, hi, hagg⟩ := agg_true ht
    refine ⟨rfl, .agg (a'.extract off (off + szT P t)), ?_, ?_⟩
    · have h2 := (ha.drop off).take (szT P t)
      obtain ⟨h3, h4⟩ := RVs.to_arr (a := a.extract off (off + szT P t)) (a' := a'.extract off (off + szT P t)) (by simpa [List.extract_eq_take_drop] using h2)
      exact .agg h3 h4
    · simp [part, hagg, run_szT hi]
  | false =>
    simp only [cond_false, Option.map_eq_some_iff, Prod.mk.injEq] at h
    obtain ⟨u, hu, rfl, rfl⟩ := h
    obtain ⟨i, hi, hagg⟩ := agg_false ht
    have ho : off < a.size := by
      rcases Nat.lt_or_ge off a.size with h | h
      · exact h
      · rw [Array.getElem?_eq_none h] at hu; cases hu
    have ho' : off < a'.size := by have := ha.1; simp at this; omega
    have h2 := ha.2 off (by simpa using ho)
    have e1 : a[off] = u := by rw [Array.getElem?_eq_getElem ho] at hu; simpa using hu
    refine ⟨rfl, a'[off], by simpa [List.getD_eq_getElem?_getD, ho, ho', e1] using h2, ?_⟩
    simp [part, hagg, ho']

theorem prt_sim (hS : Sim G w0 ι H w) {s : TypeId} {fs : Array Field} {f : Nat} {fd : Field} {g : Bool} {x x' : Value} (hs : P.underlying s = some (.struct fs)) (hf : fs[f]? = some fd)
    (hg : aggT P fd.type = some g) (hx : RV ι x x') (h : prt g (szT P fd.type) x fd.offset H = some (v, H1)) : Res G w0 ι v H1 ((Instr.field s x' f).run P w) := by
  have hh := h
  unfold prt at h
  split at h
  · obtain ⟨a', rfl, ha⟩ := hx.agg_inv
    obtain ⟨rfl, v', hv, hr⟩ := prt_run (P := P) (w := w) hg ha hh
    exact .same hS hv (by simp [Instr.field, run_underlying hs, hf, asAgg, hr])
  · cases h

theorem ixv_sim (hS : Sim G w0 ι H w) {t e : TypeId} {n : Nat} {g : Bool} {x x' i i' : Value} (ht : P.underlying t = some (.array n e)) (hg : aggT P e = some g)
    (hx : RV ι x x') (hi : RV ι i i') (h : ixv g n (szT P e) x i H = some (v, H1)) : Res G w0 ι v H1 ((Instr.index t x' i').run P w) := by
  unfold ixv at h
  split at h
  · split at h
    · rename_i k i hc
      have hh := h
      unfold prt at h
      split at h
      · obtain ⟨a', rfl, ha⟩ := hx.agg_inv
        obtain ⟨rfl, v', hv, hr⟩ := prt_run (P := P) (w := w) hg ha hh
        have hie : ∃ ie, P.info? e = some ie := by
          unfold aggT at hg
          split at hg
          · exact info_some (by assumption)
          · exact info_some (by assumption)
          · exact info_some (by assumption)
          · cases hg
        obtain ⟨ie, hie⟩ := hie
        rw [hi.int_inv]
        refine .same hS hv ?_
        simp only [Instr.index, asIntOf, Sem.run_bind, Sem.run_pure, Result.andThen_ok, run_underlying ht]
        rw [if_pos hc]
        simp [run_szT hie, hr]
      · cases h
    · cases h
  · cases h

end
end Go.Proofs.YtlpibiaokpbhbaaGreatDoor.A
