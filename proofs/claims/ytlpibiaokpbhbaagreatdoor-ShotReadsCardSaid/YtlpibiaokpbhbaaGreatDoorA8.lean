/- What is built, new slices, maps, clearing: what the abstract machine does, the model does. -/
import Derived.Test.YtlpibiaokpbhbaaGreatDoorA7
namespace Go.Proofs.YtlpibiaokpbhbaaGreatDoor.A
set_option linter.unusedVariables false
set_option linter.unusedSimpArgs false
section
variable {P : Program} {G : Nat} {w0 : Base} {ι : Nat → Option Loc} {H H1 : Heap} {w : World} {v : Value}

theorem foldl_cells (off : Nat) : ∀ (l : List Value) (j : Nat) (cs : Array Value), off + j + l.length ≤ cs.size →
    (l.zipIdx j).foldl (fun (cs : Array Value) (p : Value × Nat) => cs.setIfInBounds (off + p.2) p.1) cs = aspl cs l (off + j)
  | [], j, cs, _ => by simp [aspl, splice_nil]
  | u :: l, j, cs, h => by
    have h' : off + (j + 1) + l.length ≤ (cs.setIfInBounds (off + j) u).size := by simp at h ⊢; omega
    rw [List.zipIdx_cons, List.foldl_cons, foldl_cells off l (j + 1) _ h']
    unfold aspl
    have e : (cs.setIfInBounds (off + j) u).toList = cs.toList.set (off + j) u := by simp
    rw [e, show off + (j + 1) = off + j + 1 by omega, splice_cons (by simp at h ⊢; omega)]

theorem cells_rel {u u' : Value} (h : RV ι u u') (hu : isTup u = false) : RVs ι u.cells.toList u'.cells.toList := by
  have h2 := h
  cases h with
  | agg h1 h3 => exact .of_arr h1 h3
  | un => simp [isTup] at hu
  | nw => simp [isTup] at hu
  | tup h1 h3 => simp [isTup] at hu
  | sc hs => cases u <;> simp [Scalar] at hs <;> exact .cons h2 .nil
  | _ => exact .cons h2 .nil

/-- Parts, and where they go. -/
inductive PR (ι : Nat → Option Loc) (place : Nat → Option (Nat × Nat)) : List (Nat × Nat × Value) → List (Nat × Value) → Prop where
  | nil : PR ι place [] []
  | cons {off size i : Nat} {u u' : Value} {ps : List (Nat × Nat × Value)} {qs : List (Nat × Value)} : place i = some (off, size) → RV ι u u' → PR ι place ps qs →
      PR ι place ((off, size, u) :: ps) ((i, u') :: qs)

theorem fill_run {place : Nat → Option (Nat × Nat)} {ps : List (Nat × Nat × Value)} {qs : List (Nat × Value)} (h : PR ι place ps qs) :
    ∀ {cs cs1 : List Value} {c : Array Value}, RVs ι cs c.toList → bldC cs ps = some cs1 → ∃ c1, Instr.fill place c qs = some c1 ∧ RVs ι cs1 c1.toList := by
  induction h with
  | nil => intro cs cs1 c hr hb; cases hb; exact ⟨c, rfl, hr⟩
  | @cons off size i u u' ps qs hp hu _ ih =>
    intro cs cs1 c hr hb
    simp only [bldC] at hb
    split at hb
    · rename_i hc
      obtain ⟨h1, h2, h3⟩ := hc
      have hcr := cells_rel hu h1
      have hsz : u'.cells.size = size := by have := hcr.1; simp at this; omega
      have hlen := hr.1
      simp only [Array.length_toList] at hlen
      have hfold := foldl_cells off u'.cells.toList 0 c (by simp; omega)
      have hr2 : RVs ι (splice cs u.cells.toList off) (aspl c u'.cells.toList off).toList := hr.splice hcr
      obtain ⟨c1, hc1, hr1⟩ := ih hr2 hb
      refine ⟨c1, ?_, hr1⟩
      simp only [Instr.fill, hp]
      rw [if_neg (by simp; omega)]
      rw [← Array.foldl_toList, Array.toList_zipIdx]
      have e : (List.foldl (fun (cs : Array Value) (x : Value × Nat) => match x with | (c, j) => cs.setIfInBounds (off + j) c) c (u'.cells.toList.zipIdx 0)) = aspl c u'.cells.toList off := hfold
      rw [e]; exact hc1
    · cases hb

theorem run_mapM_fields : ∀ (l : List Field), (l.all fun f => (P.info? f.type).isSome) = true →
    (l.mapM (m := Sem) fun f => do pure (f.offset, ← sizeOf f.type)).run P w = .ok (l.map fun f => (f.offset, szT P f.type)) w
  | [], _ => rfl
  | f :: l, h => by
    simp only [List.all_cons, Bool.and_eq_true] at h
    obtain ⟨i, hi⟩ := Option.isSome_iff_exists.1 h.1
    have ih := run_mapM_fields l h.2
    simp only [List.mapM_cons, Sem.run_bind, run_szT hi, Result.andThen_ok, Sem.run_pure, ih, List.map_cons]

theorem bld_sim (hS : Sim G w0 ι H w) {t : TypeId} {ps : List (Nat × Nat × Value)} {qs : Array (Nat × Value)} {place : Nat → Option (Nat × Nat)} (ht : hasT P t = true) (hf : okFields P t = true)
    (hpl : (∃ fs, P.underlying t = some (.struct fs) ∧ place = fun i => (fs[i]?).map fun f => (f.offset, szT P f.type)) ∨
      (∃ n e, P.underlying t = some (.array n e) ∧ place = fun i => some (i * szT P e, szT P e)))
    (hp : PR ι place ps qs.toList) (h : bld (zeT P t) ps H = some (v, H1)) : Res G w0 ι v H1 ((Instr.build t qs).run P w) := by
  unfold bld at h
  simp only [Option.map_eq_some_iff, Prod.mk.injEq] at h
  obtain ⟨cs1, hb, rfl, rfl⟩ := h
  obtain ⟨i, hi, hz, hc, hzr⟩ := hasT_zero ht
  have hzc : RVs ι (zeT P t).cells.toList (zeT P t).cells.toList := by
    have hcc := RV.const (ι := ι) hc
    by_cases e : isTup (zeT P t) = true
    · have : ∃ a, zeT P t = .tuple a := by cases h2 : zeT P t <;> simp [h2, isTup] at e ⊢
      obtain ⟨a, ha⟩ := this
      rw [ha] at hcc ⊢
      exact .cons hcc .nil
    · exact cells_rel hcc (by simpa using e)
  obtain ⟨c1, hc1, hr1⟩ := fill_run hp hzc hb
  refine .same hS (.aggL hr1) ?_
  rcases hpl with ⟨fs, hu, rfl⟩ | ⟨n, e, hu, rfl⟩
  · have hall : (fs.toList.all fun f => (P.info? f.type).isSome) = true := by unfold okFields at hf; rw [hu] at hf; exact hf
    have hm := run_mapM_fields (P := P) (w := w) fs.toList hall
    have hm2 : (fs.mapM (m := Sem) fun f => do pure (f.offset, ← sizeOf f.type)).run P w = .ok (fs.map fun f => (f.offset, szT P f.type)) w := by
      rw [Array.mapM_eq_mapM_toList, Sem.run_map, hm]
      simp only [Result.andThen_ok]
      congr 1
      apply Array.ext'; simp
    simp only [Instr.build, Sem.run_bind, hzr, Result.andThen_ok, run_underlying hu, hm2]
    have hpl2 : (fun i : Nat => (fs.map fun f : Field => (f.offset, szT P f.type))[i]?) = fun i : Nat => (fs[i]?).map fun f : Field => (f.offset, szT P f.type) := by
      funext i; simp
    simp only [hpl2, hc1]
    rfl
  · have hei : ∃ ie, P.info? e = some ie := by
      unfold okFields at hf; rw [hu] at hf
      exact Option.isSome_iff_exists.1 hf
    obtain ⟨ie, hie⟩ := hei
    simp only [Instr.build, Sem.run_bind, hzr, Result.andThen_ok, run_underlying hu, run_szT hie, hc1]
    rfl

theorem reps_length (n : Nat) (z : List Value) : (reps n z).length = n * z.length := by
  induction n with
  | zero => simp [reps]
  | succ n ih =>
    have e : reps (n + 1) z = z ++ reps n z := by simp [reps, List.replicate_succ]
    rw [e, List.length_append, ih, Nat.add_mul, Nat.one_mul, Nat.add_comm]

theorem reps_get (z : List Value) : ∀ (n i : Nat), i < n * z.length → (reps n z)[i]? = z[i % z.length]?
  | 0, i, h => by simp at h
  | n + 1, i, h => by
    have e : reps (n + 1) z = z ++ reps n z := by simp [reps, List.replicate_succ]
    rw [e]
    rcases Nat.lt_or_ge i z.length with hi | hi
    · rw [List.getElem?_append_left hi, Nat.mod_eq_of_lt hi]
    · rw [List.getElem?_append_right hi, reps_get z n (i - z.length) (by rw [Nat.add_mul] at h; omega), ← Nat.mod_eq_sub_mod hi]

theorem range_reps {z : Array Value} {n : Nat} : ((Array.range (n * z.size)).map fun i => z[i % z.size]!).toList = reps n z.toList := by
  apply List.ext_getElem?
  intro i
  rcases Nat.lt_or_ge i (n * z.size) with hi | hi
  · have hpos : 0 < z.size := by
      rcases Nat.eq_zero_or_pos z.size with h | h
      · rw [h] at hi; simp at hi
      · exact h
    have hm := Nat.mod_lt i hpos
    rw [reps_get _ _ _ (by simpa using hi)]
    simp [hi, hm, getElem!_pos, Array.getElem?_eq_getElem]
  · rw [List.getElem?_eq_none (by simpa using hi), List.getElem?_eq_none (by rw [reps_length]; simpa using hi)]

theorem RVs.reps {z z' : List Value} (h : RVs ι z z') : ∀ n, RVs ι (A.reps n z) (A.reps n z')
  | 0 => .nil
  | n + 1 => by
    have e : ∀ y : List Value, A.reps (n + 1) y = y ++ A.reps n y := fun y => by simp [A.reps, List.replicate_succ]
    rw [e, e]; exact h.append (RVs.reps h n)

theorem mem_reps {z : List Value} {n : Nat} {u : Value} (h : u ∈ reps n z) : u ∈ z := by
  unfold reps at h
  simp only [List.mem_flatten, List.mem_replicate] at h
  obtain ⟨l, ⟨_, rfl⟩, hu⟩ := h
  exact hu

theorem const_cells {z : Value} (h : constOK z = true) (ht : isTup z = false) : (∀ u ∈ z.cells.toList, Scalar u = true) ∧ RVs ι z.cells.toList z.cells.toList := by
  have h1 : ∀ u ∈ z.cells.toList, Scalar u = true := by
    cases z with
    | agg cs => intro u hu; simp only [constOK, Value.cells] at h hu; rw [← Array.all_toList] at h; exact List.all_eq_true.1 h u hu
    | tuple => simp [isTup] at ht
    | _ => intro u hu; simp only [Value.cells, List.mem_singleton] at hu; subst hu; exact h
  exact ⟨h1, cells_rel (.const h) ht⟩

theorem scalar_one {u : Value} (h : Scalar u = true) : oneCell u = true := by cases u <;> first | rfl | simp [Scalar] at h

theorem bsl_sim (hS : Sim G w0 ι H w) {t e : TypeId} {len : Nat} {ps : List (Nat × Nat × Value)} {qs : Array (Nat × Value)} (ht : P.underlying t = some (.slice e)) (he : okE P e = true)
    (hle : len * szT P e ≤ 16777216) (hp : PR ι (fun i => some (i * szT P e, szT P e)) ps qs.toList) (h : bsl (szT P e) len (zeT P e) ps H = some (v, H1)) :
    Res G w0 ι v H1 ((Instr.buildSlice t len qs).run P w) := by
  unfold bsl at h
  split at h
  · rename_i cs hb
    split at h
    · rename_i h1
      unfold news at h
      cases h
      obtain ⟨i, hi, hz, hzr⟩ := okE_info he
      obtain ⟨hh, htup⟩ := okE_hasT he
      obtain ⟨_, _, _, hc, _⟩ := hasT_zero hh
      have hzc := (const_cells (ι := ι) hc htup).2
      have hcells : ((Array.range (len * szT P e)).map fun i => (if len * szT P e = 0 then #[] else (zeT P e).cells)[i % (if len * szT P e = 0 then #[] else (zeT P e).cells).size]!).toList = reps len (zeT P e).cells.toList := by
        by_cases h0 : len * szT P e = 0
        · rw [h0]
          have : (reps len (zeT P e).cells.toList).length = 0 := by rw [reps_length]; simpa [hz] using h0
          simpa using (List.length_eq_zero_iff.1 this).symm
        · simp only [h0, if_false]
          rw [← hz]; exact range_reps
      obtain ⟨c1, hc1, hr1⟩ := fill_run hp (c := (Array.range (len * szT P e)).map fun i => (if len * szT P e = 0 then #[] else (zeT P e).cells)[i % (if len * szT P e = 0 then #[] else (zeT P e).cells).size]!)
        (by rw [hcells]; exact hzc.reps len) hb
      have hal := hS.alloc hr1 (List.all_eq_true.1 h1) [] e (0, 0) (szT P e) false (.inl rfl)
      have hlen : cs.length = len * szT P e := by
        have := hr1.1
        have h2 : ∀ (ps : List (Nat × Nat × Value)) (a b : List Value), bldC a ps = some b → b.length = a.length := by
          intro ps
          induction ps with
          | nil => intro a b h; cases h; rfl
          | cons p ps ih =>
            intro a b h
            obtain ⟨o, s, u⟩ := p
            simp only [bldC] at h
            split at h
            · rename_i hc
              rw [ih _ _ h, splice_length (by simp; omega)]
            · cases h
        rw [h2 _ _ _ hb, reps_length]; simp [hz]
      refine ⟨_, .slice (some ⟨w.heap.size, 0, none⟩) len len, _, le_ext hS _, hal, ?_, ?_⟩
      · refine .slc (ext_self _ _ _) (Nat.le_refl _) (Nat.le_refl _) (by simp) ?_
        have := hr1.1
        simp only [List.length_nil, Nat.add_zero, Nat.zero_add]
        omega
      · simp only [Instr.buildSlice, Sem.run_bind, run_underlying ht, Result.andThen_ok, run_szT hi]
        rw [if_neg (by omega)]
        by_cases h0 : len * szT P e = 0
        · simp only [h0, if_true] at hc1
          simp only [Sem.run_bind, Sem.run_pure, Result.andThen_ok, h0, if_true, hc1, newRow, run_newObj]
          simp [pushO]
        · simp only [h0, if_false] at hc1
          simp only [Sem.run_bind, Sem.run_pure, Result.andThen_ok, h0, if_false, hzr, hc1, newRow, run_newObj]
          simp [pushO]
    · cases h
  · cases h

theorem mks_sim (hS : Sim G w0 ι H w) {t e : TypeId} {len len' cap cap' : Value} (ht : P.underlying t = some (.slice e)) (he : okE P e = true)
    (hl : RV ι len len') (hc : RV ι cap cap') (h : mks (szT P e) (byT P e) (zeT P e) len cap H = some (v, H1)) : Res G w0 ι v H1 ((Instr.makeSlice t len' cap').run P w) := by
  unfold mks at h
  split at h
  · rename_i k l k' c
    split at h
    · rename_i hcond
      obtain ⟨h0, hlc, hby, hcm⟩ := hcond
      cases h
      rw [hl.int_inv, hc.int_inv]
      obtain ⟨i, hi, hz, hzr⟩ := okE_info he
      obtain ⟨_, hbyi, _⟩ := info_bytes (P := P) (w := w) hi
      obtain ⟨hh, htup⟩ := okE_hasT he
      obtain ⟨_, _, _, hcst, _⟩ := hasT_zero hh
      obtain ⟨hsc, hzc⟩ := const_cells (ι := ι) hcst htup
      have hwl : IntKind.i64.wrap l = l := by unfold IntKind.wrap; simp [IntKind.bits, IntKind.signed]; omega
      have hwc : IntKind.i64.wrap c = c := by unfold IntKind.wrap; simp [IntKind.bits, IntKind.signed]; omega
      have hti : ∀ w, (typeInfo e).run P w = .ok i w := fun w => run_typeInfo w hi
      have hal := hS.alloc (hzc.reps c.toNat) (fun u hu => scalar_one (hsc u (mem_reps hu))) [] e (0, 0) (szT P e) false (.inl rfl)
      refine ⟨_, .slice (some ⟨w.heap.size, 0, none⟩) l.toNat c.toNat, _, le_ext hS _, hal, ?_, ?_⟩
      · refine .slc (ext_self _ _ _) (by omega) (Nat.le_refl _) (by simp) ?_
        rw [reps_length]
        simp [hz]
      · have hn1 : ¬ ((decide (c < 0) || decide ((i.bytes : Int) * c > 2 ^ 48)) || decide (l < 0) || decide (l > c)) = true := by
          simp only [Bool.or_eq_true, decide_eq_true_eq, hbyi]
          have : (byT P e : Int) * c = c * byT P e := Int.mul_comm _ _
          omega
        have hcells : ((Array.range (c.toNat * szT P e)).map fun i => (if c.toNat * szT P e = 0 then #[] else (zeT P e).cells)[i % (if c.toNat * szT P e = 0 then #[] else (zeT P e).cells).size]!) = (reps c.toNat (zeT P e).cells.toList).toArray := by
          apply Array.ext'
          by_cases h0 : c.toNat * szT P e = 0
          · rw [h0]
            have : (reps c.toNat (zeT P e).cells.toList).length = 0 := by rw [reps_length]; simpa [hz] using h0
            simpa using (List.length_eq_zero_iff.1 this).symm
          · simp only [h0, if_false]
            rw [← hz]; exact range_reps
        simp only [Instr.makeSlice, Sem.run_bind, run_underlying ht, Result.andThen_ok, asInt, asIntOf, Sem.run_pure, hti, hwl, hwc]
        rw [if_neg hn1]
        by_cases h0 : c.toNat * szT P e = 0
        · simp only [h0, if_true] at hcells
          simp only [Sem.run_bind, run_askRoom, Sem.run_pure, Result.andThen_ok, run_szT hi, h0, if_true, hcells, newRow, run_newObj]
          simp [pushO]
        · simp only [h0, if_false] at hcells
          simp only [Sem.run_bind, run_askRoom, Sem.run_pure, Result.andThen_ok, run_szT hi, h0, if_false, hzr, hcells, newRow, run_newObj]
          simp [pushO]
    · cases h
  · cases h

end
end Go.Proofs.YtlpibiaokpbhbaaGreatDoor.A
