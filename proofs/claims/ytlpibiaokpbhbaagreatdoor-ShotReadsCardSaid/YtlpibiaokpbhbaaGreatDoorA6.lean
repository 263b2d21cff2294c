/- The operations that make memory: what the abstract machine does, the model does. -/
import Derived.Test.YtlpibiaokpbhbaaGreatDoorA5
namespace Go.Proofs.YtlpibiaokpbhbaaGreatDoor.A
set_option linter.unusedVariables false
set_option linter.unusedSimpArgs false
section
variable {P : Program} {G : Nat} {w0 : Base} {ι : Nat → Option Loc} {H H1 : Heap} {w : World} {v : Value}

/-- A new row of cells. -/
theorem Sim.alloc (hS : Sim G w0 ι H w) {cs cs' : List Value} (h : RVs ι cs cs') (h1 : ∀ v ∈ cs, oneCell v = true) (extra : List Value) (el : TypeId) (fr : Nat × Nat) (es : Nat) (grow : Bool)
    (hf : FrOK (cs'.length + extra.length) fr) :
    Sim G w0 (extι ι H.length ⟨w.heap.size, 0, cs'.length + extra.length, es, grow⟩) (H ++ [.cells cs es grow false]) (pushO w (.cells (cs' ++ extra).toArray el fr)) := by
  refine hS.new _ rfl ⟨_, (cs' ++ extra).toArray, el, fr, ext_self _ _ _, rfl, rfl, pushO_new w _, ?_, ?_, ?_, fun _ => ⟨hS.size, by simpa using hf, fun _ => rfl⟩, by simp, h1⟩
  · have := h.1; simp; omega
  · simp
  · have := h.mono (le_ext hS ⟨w.heap.size, 0, cs'.length + extra.length, es, grow⟩)
    rw [h.1]
    simpa using this

theorem cells_toList {v v' : Value} (h : RV ι v v') (h1 : oneCell v = true ∨ ∃ a, v = .agg a) : RVs ι v.cells.toList v'.cells.toList := by
  rcases h1 with h1 | ⟨a, rfl⟩
  · have h2 := h.oneCell h1
    have e1 : v.cells = #[v] := by cases v <;> simp [oneCell, Value.cells] at h1 ⊢
    have e2 : v'.cells = #[v'] := by cases v' <;> simp [Value.oneCell', Value.cells] at h2 ⊢
    rw [e1, e2]
    exact .cons h .nil
  · obtain ⟨a', rfl, ha⟩ := h.agg_inv
    simpa [Value.cells] using ha

theorem alc_run (hS : Sim G w0 ι H w) {u u' : Value} {es : Nat} (t : TypeId) (hu : RV ι u u') (h : alc es u H = some (v, H1)) :
    Res G w0 ι v H1 ((do pure (.pointer (some (← newVar t u'))) : Sem Value).run P w) := by
  unfold alc at h
  split at h
  · rename_i h1
    unfold newc at h
    cases h
    have hc : oneCell u = true ∨ ∃ a, u = .agg a := by
      cases u <;> first | exact .inl rfl | exact .inr ⟨_, rfl⟩ | skip
      rename_i vs
      simp [Value.cells, oneCell] at h1
    have hr := cells_toList hu hc
    have hnew := hS.alloc hr (List.all_eq_true.1 h1) [] t (0, 0) es false (.inl rfl)
    refine ⟨_, _, _, le_ext hS _, hnew, .ptr (ext_self _ _ _), ?_⟩
    simp [newVar, newRow, pushO]
  · cases h

theorem hasT_zero {t : TypeId} (h : hasT P t = true) : ∃ i, P.info? t = some i ∧ i.zero = some (zeT P t) ∧ constOK (zeT P t) = true ∧ ∀ w, (zeroValue t).run P w = .ok (zeT P t) w := by
  unfold hasT at h
  simp only [Bool.and_eq_true] at h
  obtain ⟨h1, h2⟩ := h
  cases hi : P.info? t with
  | none => simp [hi] at h1
  | some i =>
    cases hz : i.zero with
    | none => simp [hi, hz] at h1
    | some z =>
      have e : zeT P t = z := by simp [zeT, hi, hz]
      exact ⟨i, rfl, by rw [e]; exact hz, h2, fun w => by simp [zeroValue, typeInfo, hi, hz, e]⟩

theorem box_sim (hS : Sim G w0 ι H w) {t : TypeId} {es : Nat} {u u' : Value} (hu : RV ι u u') (h : alc es u H = some (v, H1)) :
    Res G w0 ι v H1 ((Instr.box t u').run P w) := alc_run (P := P) hS t hu h

theorem alloc_sim (hS : Sim G w0 ι H w) {t : TypeId} {es : Nat} (ht : hasT P t = true) (h : alc es (zeT P t) H = some (v, H1)) :
    Res G w0 ι v H1 ((Instr.alloc t true (.tuple #[])).run P w) := by
  obtain ⟨i, hi, hz, hc, hr⟩ := hasT_zero ht
  have := alc_run (P := P) hS t (RV.const hc) h
  simpa [Instr.alloc, hr] using this

/-! rows of cells that are handed on -/

theorem lenOf_run {x x' : Value} (hx : RV ι x x') {size : Nat} {cs : List Value} (h : fcells size H x = some cs) : (Builtin.lenOf x').run P w = .ok (flen x) w := by
  unfold fcells at h
  split at h
  · obtain ⟨rfl, rfl, rfl⟩ := hx.nils_inv; rfl
  · obtain ⟨l, c', _, _, _, _, _, rfl⟩ := hx.slc_inv; rfl
  · obtain ⟨rfl, rfl, a', c', _, rfl⟩ := hx.slcE_inv; rfl
  · rw [hx.string_inv]; rfl
  · cases h

theorem fcells_len {size : Nat} {x x' : Value} (hx : RV ι x x') {cs : List Value} (h : fcells size H x = some cs) : cs.length = flen x * size := by
  unfold fcells at h
  split at h
  · obtain ⟨rfl, rfl, rfl⟩ := hx.nils_inv; cases h; simp [flen]
  · split at h
    · split at h
      · cases h; simp [flen]; omega
      · cases h
    · cases h
  · obtain ⟨rfl, rfl, _⟩ := hx.slcE_inv
    simp at h; subst h; simp [flen]
  · split at h
    · rename_i h1; subst h1; cases h; simp [flen, u8s]
    · cases h
  · cases h

theorem fcells_one (hS : Sim G w0 ι H w) {size : Nat} {x x' : Value} (hx : RV ι x x') {cs : List Value} (h : fcells size H x = some cs) : ∀ v ∈ cs, oneCell v = true := by
  unfold fcells at h
  split at h
  · cases h; simp
  · split at h
    · rename_i hid
      split at h
      · cases h
        obtain ⟨l, c', hl, _⟩ := hx.slc_inv
        obtain ⟨_, _, _, _, _, _, _, _, _, _, h1⟩ := hS.cellsR hid hl
        intro v hv
        exact h1 v (List.mem_of_mem_drop (List.mem_of_mem_take hv))
      · cases h
    · cases h
  · obtain ⟨rfl, rfl, _⟩ := hx.slcE_inv
    simp at h; subst h; simp
  · split at h
    · cases h
      intro v hv
      unfold u8s at hv
      obtain ⟨b, _, rfl⟩ := List.mem_map.1 hv
      rfl
    · cases h
  · cases h

theorem run_loads_zero {a : Addr} : (loadCells a 0).run P w = .ok #[] w := rfl

theorem fcells_run (hS : Sim G w0 ι H w) {size : Nat} {x x' : Value} (hx : RV ι x x') {cs : List Value} (h : fcells size H x = some cs)
    {k : Nat} (hk : k ≤ flen x) : ∃ arr : List Value, (Builtin.firstCells size k x').run P w = .ok arr.toArray w ∧ RVs ι (cs.take (k * size)) arr := by
  unfold fcells at h
  split at h
  · obtain ⟨rfl, rfl, rfl⟩ := hx.nils_inv
    cases h
    exact ⟨[], rfl, by simpa using RVs.nil⟩
  · split at h
    · rename_i hid
      split at h
      · rename_i hle
        cases h
        obtain ⟨l, c', hl, _, _, _, _, rfl⟩ := hx.slc_inv
        obtain ⟨c, el, fr, _, _, hb, h5, h6, hr, _⟩ := hS.cellsR hid hl
        simp only [flen] at hk
        have hkm := Nat.mul_le_mul_right size hk
        obtain ⟨h1, h2⟩ := slice_take hr (Nat.le_trans (Nat.add_le_add_left hkm _) hle) (by omega)
        refine ⟨_, run_loads hb h2, ?_⟩
        rw [List.take_take, Nat.min_eq_left hkm]
        exact h1
      · cases h
    · cases h
  · obtain ⟨rfl, rfl, a', c', _, rfl⟩ := hx.slcE_inv
    simp at h; subst h
    simp only [flen] at hk
    obtain rfl : k = 0 := by omega
    exact ⟨[], by simp [Builtin.firstCells, run_loads_zero], by simpa using RVs.nil⟩
  · rename_i s
    rw [hx.string_inv]
    split at h
    case isFalse => cases h
    rename_i h1
    subst h1
    cases h
    simp only [flen] at hk
    refine ⟨u8s (s.data.toList.take k), ?_, ?_⟩
    · simp only [Builtin.firstCells, Sem.run_pure]
      congr 1
      apply Array.ext'
      simp [u8s, ByteArray.data_extract, List.extract_eq_take_drop]
    · rw [Nat.mul_one]
      unfold u8s
      rw [← List.map_take]
      refine ⟨rfl, fun i hi => ?_⟩
      simp only [List.getD_eq_getElem?_getD, List.getElem?_map]
      cases e : (s.data.toList.take k)[i]? with
      | none => simp; exact .un
      | some b => simp; exact .sc rfl
  · cases h

/-! append -/

theorem growBy_le (need : Nat) (h : 256 ≤ need) : ∀ (rounds c : Nat), c ≤ 2 * need → Builtin.growBy need rounds c ≤ 2 * need
  | 0, c, hc => hc
  | r + 1, c, hc => by
    simp only [Builtin.growBy]
    split
    · exact hc
    · exact growBy_le need h r _ (by omega)

theorem nextslicecap_le {need cap : Nat} (h : cap < need) : Builtin.nextslicecap need cap ≤ 2 * need := by
  unfold Builtin.nextslicecap
  split
  · omega
  · split
    · omega
    · exact growBy_le need (by omega) 4 cap (by omega)

theorem zeroCells_size {z : Array Value} {n : Nat} : (Builtin.zeroCells z n).size = n * z.size := by simp [Builtin.zeroCells]

theorem info_bytes {e : TypeId} {i : TypeInfo} (hi : P.info? e = some i) : (typeInfo e).run P w = .ok i w ∧ i.bytes = byT P e ∧ i.size = szT P e :=
  ⟨run_typeInfo w hi, by simp [byT, hi], by simp [szT, hi]⟩

theorem okE_info {e : TypeId} (h : okE P e = true) : ∃ i, P.info? e = some i ∧ (zeT P e).cells.size = szT P e ∧ ∀ w, (zeroValue e).run P w = .ok (zeT P e) w := by
  unfold okE at h
  simp only [Bool.and_eq_true] at h
  obtain ⟨i, hi, _, _, hr⟩ := hasT_zero h.1.1
  exact ⟨i, hi, Nat.eq_of_beq_eq_true h.2, hr⟩

theorem okE_hasT {e : TypeId} (h : okE P e = true) : hasT P e = true ∧ isTup (zeT P e) = false := by
  unfold okE at h
  simp only [Bool.and_eq_true] at h
  exact ⟨h.1.1, by simpa using h.1.2⟩

/-- What append does where it must make memory. -/
theorem app_fresh (hS : Sim G w0 ι H w) {t u e : TypeId} {ty : TypeId} {base : Option Addr} {sLen sCap n : Nat} {x' : Value} {old new : List Value} {old' new' : List Value}
    (ht : P.underlying t = some (.slice e)) (hu : (∃ d, P.underlying u = some (.slice d)) ∨ P.underlying u = some .string) (he : okE P e = true)
    (hlen : ∀ w, (Builtin.lenOf x').run P w = .ok n w)
    (hold : (Builtin.firstCells (szT P e) sLen (.slice base sLen sCap)).run P { w with drawn := w.drawn + 1 } = .ok old'.toArray { w with drawn := w.drawn + 1 }) (hro : RVs ι old old')
    (hnew : (Builtin.firstCells (szT P e) n x').run P { w with drawn := w.drawn + 1 } = .ok new'.toArray { w with drawn := w.drawn + 1 }) (hrn : RVs ι new new')
    (ho1 : ∀ v ∈ old, oneCell v = true) (hn1 : ∀ v ∈ new, oneCell v = true) (hl : old.length = sLen * szT P e) (hl' : new.length = n * szT P e)
    (hcap : sCap < sLen + n) (hb : sLen + n ≤ 140737488355328) (hb' : (sLen + n) * byT P e ≤ 140737488355328) :
    Res G w0 ι (.slice (some ⟨H.length, 0, none⟩) (sLen + n) (sLen + n)) (H ++ [.cells (old ++ new) (szT P e) true false])
      ((Builtin.append_ #[t, u] ty #[.slice base sLen sCap, x']).run P w) := by
  obtain ⟨i, hi, hz, hzr⟩ := okE_info he
  obtain ⟨_, hby, hsz⟩ := info_bytes (P := P) (w := w) hi
  generalize hq : Question.cut (.appendCap (sLen + n) sCap e) (w.tape w.drawn (.appendCap (sLen + n) sCap e)) = newCap
  have hge : sLen + n ≤ newCap := by rw [← hq]; simp only [Question.cut]; omega
  have hroom : ¬ Builtin.nextslicecap (sLen + n) sCap * byT P e > 2 ^ 48 := by
    have h1 := Nat.mul_le_mul_right (byT P e) (nextslicecap_le hcap)
    rw [Nat.mul_assoc] at h1
    omega
  have hnb : ¬ (((sLen + n : Nat) : Int) > IntKind.i64.max) := by
    have : IntKind.i64.max = 9223372036854775807 := by decide
    rw [this]; omega
  have hnew2 := hS.congr (w' := { w with drawn := w.drawn + 1 }) rfl
  have hal := hnew2.alloc (hro.append hrn) (fun v hv => (List.mem_append.1 hv).elim (ho1 v) (hn1 v)) (Builtin.zeroCells (zeT P e).cells (newCap - (sLen + n))).toList e (0, 0) (szT P e) true (.inl rfl)
  refine ⟨_, .slice (some ⟨w.heap.size, 0, none⟩) (sLen + n) newCap, _, le_ext hS _, hal, ?_, ?_⟩
  · refine .slc (ext_self _ _ _) (Nat.le_refl _) hge (by simp) ?_
    have e1 := (hro.append hrn).1
    simp only [List.length_append] at e1
    simp only [List.length_append, Array.length_toList, zeroCells_size, hz]
    have e2 : old'.length + new'.length = (sLen + n) * szT P e := by rw [Nat.add_mul]; omega
    rw [e2, ← Nat.add_mul]
    have e3 : sLen + n + (newCap - (sLen + n)) = newCap := by omega
    rw [e3]; omega
  · have hn0 : ¬ (sLen + n ≤ sCap) := by omega
    have hti : ∀ w, (typeInfo e).run P w = .ok i w := fun w => run_typeInfo w hi
    rcases hu with ⟨f, hd⟩ | hd <;>
    · simp only [Builtin.append_, List.getElem?_toArray, List.getElem?_cons_zero, List.getElem?_cons_succ, Sem.run_bind, run_underlying ht, Result.andThen_ok, run_szT hi, run_underlying hd, Sem.run_pure, Bool.false_eq_true, if_false,
        hlen, hn0, Sem.run_ite, hnb, false_and, hti, hby, hroom, run_choose, Question.forced, hq, run_askRoom, hold, Bool.not_false, if_true, hnew, hzr]
      simp [newRow, pushO]
      have key : (old' ++ new').toArray ++ Builtin.zeroCells (zeT P e).cells (newCap - (sLen + n)) = (old' ++ (new' ++ (Builtin.zeroCells (zeT P e).cells (newCap - (sLen + n))).toList)).toArray := by
        apply Array.ext'
        simp
      rw [key]
      rfl

/-- The same result, where an object is given up besides. -/
theorem Res.kill {id : Nat} {x : AObj} {r : Result Value} (h : Res G w0 ι v (H ++ [x]) r) (hid : id < H.length) : Res G w0 ι v (H.set id .dead ++ [x]) r := by
  obtain ⟨ι1, v', w1, h1, h2, h3, h4⟩ := h
  refine ⟨ι1, v', w1, h1, ?_, h3, h4⟩
  have := h2.kill id
  rwa [List.set_append_left _ _ hid] at this

theorem Res.toView {id : Nat} {x : AObj} {cs : List Value} {es : Nat} {g : Bool} {r : Result Value} (h : Res G w0 ι v (H ++ [x]) r) (hid : H[id]? = some (.cells cs es g false)) (hl : ∃ l, ι id = some l) {vs : List Value} (hvs : ∃ k, vs = cs.take k) (e2 nx : Nat) : Res G w0 ι v (H.set id (.view vs e2 nx) ++ [x]) r := by
  obtain ⟨ι1, v', w1, h1, h2, h3, h4⟩ := h
  refine ⟨ι1, v', w1, h1, ?_, h3, h4⟩
  obtain ⟨l, hl⟩ := hl
  have hlt : id < H.length := (List.getElem?_eq_some_iff.1 hid).1
  have := h2.toView (id := id) (cs := cs) (es := es) (g := g) (by rw [List.getElem?_append_left hlt]; exact hid) (h1 _ _ hl) hvs e2 nx
  rwa [List.set_append_left _ _ hlt] at this

/-- A block that no object has is turned. -/
theorem Sim.put (hS : Sim G w0 ι H w) {b : Nat} (o' : Obj) (hb : w0.heap.size ≤ b) (hpr : b ∉ w0.prot) (hfree : ∀ (i : Nat) (o : AObj) (l : Loc), H[i]? = some o → o ≠ .dead → o.isV = false → ι i = some l → l.blk ≠ b)
    (hvw : ∀ j cs es nx lj, H[j]? = some (.view cs es nx) → ι j = some lj → lj.blk = b → ∃ l', ι nx = some l' ∧ l'.blk = lj.blk ∧ l'.base = lj.base) :
    Sim G w0 ι H (setB w b o') :=
  ⟨fun i o ho => by
    by_cases hv : o.isV = true
    · cases o with
      | view cs es nx => obtain ⟨l', h1, h2⟩ := hS.obj i _ ho; exact ⟨l', h1, by simpa using h2⟩
      | _ => cases hv
    · exact (hS.obj i o ho).blk fun l hl hd => setB_other (hfree i o l ho hd (by simpa using hv) hl), hS.inj, by simpa using hS.size, fun c hc => by rw [setB_other (by omega)]; exact hS.old c hc, hS.dom, hS.glob, hS.rest, fun c hc => by
    obtain ⟨p1, p2, p3⟩ := hS.prot c hc
    exact ⟨by rw [setB_other (fun e => hpr (by rw [← e]; exact hc))]; exact p1, p2, p3⟩, fun j cs es nx lj hj hlj => by
    by_cases hb2 : lj.blk = b
    · exact .inl (hvw j cs es nx lj hj hlj hb2)
    · exact (hS.views j cs es nx lj hj hlj).to (.refl ι) fun h1 _ => ⟨fun c el fr hc => ⟨fr, by rw [setB_other hb2]; exact hc⟩, h1⟩⟩

theorem run_firstCells_w {size n : Nat} {x' : Value} {arr : Array Value} (h : (Builtin.firstCells size n x').run P w = .ok arr w) :
    (Builtin.firstCells size n x').run P { w with drawn := w.drawn + 1 } = .ok arr { w with drawn := w.drawn + 1 } := by
  have hl : ∀ (a : Addr) (n i : Nat) (acc arr : Array Value), (loadCellsFrom a i n acc).run P w = .ok arr w →
      (loadCellsFrom a i n acc).run P { w with drawn := w.drawn + 1 } = .ok arr { w with drawn := w.drawn + 1 } := by
    intro a n
    induction n with
    | zero => intro i acc arr h; simp only [loadCellsFrom, Sem.run_pure] at h ⊢; cases h; rfl
    | succ n ih =>
      intro i acc arr h
      simp only [loadCellsFrom, Sem.run_bind, run_load] at h ⊢
      have hc : World.cell? { w with drawn := w.drawn + 1 } (a.add i) = w.cell? (a.add i) := rfl
      rw [hc]
      cases e : w.cell? (a.add i) with
      | some v =>
        rw [e] at h
        simp only [Result.andThen_ok] at h ⊢
        exact ih _ _ _ h
      | none =>
        rw [e] at h
        simp only at h ⊢
        have hf : World.farLoad P { w with drawn := w.drawn + 1 } (a.add i) (Mode.plain == Mode.atomic) = World.farLoad P w (a.add i) (Mode.plain == Mode.atomic) := rfl
        cases e2 : World.farLoad P w (a.add i) (Mode.plain == Mode.atomic) with
        | ok p =>
          obtain ⟨v, q⟩ := p
          rw [e2] at h
          rw [hf, e2]
          simp only [Result.andThen_ok] at h ⊢
          exact ih _ _ _ h
        | error e3 =>
          rw [e2] at h
          simp only [Result.andThen_halt] at h
          cases h
  unfold Builtin.firstCells at h ⊢
  split at h
  · exact hl _ _ _ _ _ h
  · simp only [Sem.run_pure] at h ⊢; cases h; rfl
  · simp only [Sem.run_pure] at h ⊢; cases h; rfl
  · simp at h

theorem app_sim (hS : Sim G w0 ι H w) {t u e ty : TypeId} {s s' x x' : Value}
    (ht : P.underlying t = some (.slice e)) (hu : (∃ d, P.underlying u = some (.slice d)) ∨ P.underlying u = some .string) (he : okE P e = true)
    (hs : RV ι s s') (hx : RV ι x x') (h : app (szT P e) (byT P e) s x H = some (v, H1)) : Res G w0 ι v H1 ((Builtin.append_ #[t, u] ty #[s', x']).run P w) := by
  unfold app at h
  split at h
  · cases h
  rename_i new hnew
  have hlx : ∀ w, (Builtin.lenOf x').run P w = .ok (flen x) w := fun w => lenOf_run hx hnew
  have hnl := fcells_len hx hnew
  have hn1 := fcells_one hS hx hnew
  obtain ⟨arr, har, hra⟩ := fcells_run (P := P) hS hx hnew (Nat.le_refl _)
  rw [List.take_of_length_le (by omega)] at hra
  obtain ⟨i, hi, hz, hzr⟩ := okE_info he
  have hin : ∀ (base : Option Addr) (sLen sCap : Nat), sLen + flen x ≤ sCap → (Builtin.append_ #[t, u] ty #[.slice base sLen sCap, x']).run P w =
      ((match base with | some a => storeCells (a.add (sLen * szT P e)) arr | none => pure ()).run P w).andThen fun _ w' => .ok (.slice base (sLen + flen x) sCap) w' := by
    intro base sLen sCap hle
    rcases hu with ⟨f, hd⟩ | hd <;>
    · simp only [Builtin.append_, List.getElem?_toArray, List.getElem?_cons_zero, List.getElem?_cons_succ, Sem.run_bind, run_underlying ht, Result.andThen_ok, run_szT hi, run_underlying hd, Sem.run_pure, Bool.false_eq_true, if_false,
        hlx, hle, if_true, Bool.not_false, har]
      cases base <;> simp
  simp only at h
  split at h
  · -- a nil slice
    obtain ⟨_, _, rfl⟩ := hs.nils_inv
    split at h
    · rename_i hn
      cases h
      exact .sc hS rfl (by rw [hin _ _ _ (by omega)]; simp [hn])
    · rename_i hn
      split at h
      · rename_i hb
        cases h
        have := app_fresh (P := P) (ty := ty) (base := none) (sLen := 0) (sCap := 0) (n := flen x) (x' := x') hS ht hu he hlx (old := []) (old' := []) rfl .nil (run_firstCells_w har) hra (by simp) hn1 (by simp) hnl (by omega) (by simpa using hb.1) (by simpa using hb.2)
        simpa using this
      · cases h
  · -- a slice that has no room
    obtain ⟨_, _, a', c', hc', rfl⟩ := hs.slcE_inv
    split at h
    · rename_i hn
      cases h
      refine .same hS (.slcE (a' := a') hc') ?_
      rw [hin _ _ _ (by omega)]
      have : arr = [] := by
        have := hra.1
        rw [hn] at hnl
        cases arr with
        | nil => rfl
        | cons => simp at this; omega
      simp [hn, this, storeCells]
    · rename_i hn
      split at h
      · rename_i hb
        obtain ⟨hj, hb1, hb2⟩ := hb
        cases h
        rw [hc' hj]
        have := app_fresh (P := P) (ty := ty) (base := some a') (sLen := 0) (sCap := 0) (n := flen x) (x' := x') hS ht hu he hlx (old := []) (old' := []) (by simp [Builtin.firstCells, run_loads_zero]) .nil (run_firstCells_w har) hra (by simp) hn1 (by simp) hnl (by omega) (by simpa using hb1) (by simpa using hb2)
        simpa using this
      · cases h
  · rename_i id o len cap
    split at h
    case h_2 => cases h
    rename_i cs es grow ro hid
    split at h
    case isFalse => cases h
    rename_i hes
    subst hes
    obtain ⟨l, c', hl, hlc, hcc, hex, hroom, rfl⟩ := hs.slc_inv
    obtain ⟨c, el, fr, hles, hlg, hb, h5, h6, hr, h7, h8⟩ := hS.cellsR hid hl
    split at h
    · -- within what is known of the capacity
      rename_i hle
      split at h
      · rename_i hn
        cases h
        refine .same hS (.slc hl hlc hcc hex hroom) ?_
        rw [hin _ _ _ (by omega)]
        have : arr = [] := by
          have := hra.1
          rw [hn] at hnl
          cases arr with
          | nil => rfl
          | cons => simp at this; omega
        simp [hn, this, storeCells]
      · split at h
        · rename_i hn hc
          obtain ⟨hro, hfit⟩ := hc
          subst hro
          cases h
          obtain ⟨w1, hw1, hS1⟩ := hS.store (P := P) hid hl (new := new) (new' := arr) (o := o + len * szT P e) (by rw [hnl, Nat.add_assoc, ← Nat.add_mul]; exact hfit) hra hn1
          refine ⟨ι, _, w1, .refl ι, hS1, .slc hl (by omega) hcc hex hroom, ?_⟩
          rw [hin _ _ _ (by omega)]
          simp only [addr_add, Nat.add_assoc] at hw1 ⊢
          rw [hw1]; rfl
        · cases h
    · rename_i hle
      split at h
      · rename_i hc
        obtain ⟨hgr, hfit, hb1, hb2⟩ := hc
        cases h
        have hlt : id < H.length := by
          rcases Nat.lt_or_ge id H.length with h | h
          · exact h
          · rw [List.getElem?_eq_none h] at hid; cases hid
        obtain ⟨hold, hbnd⟩ := slice_take (n := len * szT P e) hr hfit (by omega)
        have ho1 : ∀ v ∈ (cs.drop o).take (len * szT P e), oneCell v = true := fun v hv => h8 v (List.mem_of_mem_drop (List.mem_of_mem_take hv))
        have hol : ((cs.drop o).take (len * szT P e)).length = len * szT P e := by simp; omega
        have fresh : c' < len + flen x → Res G w0 ι (.slice (some ⟨H.length, 0, none⟩) (len + flen x) (len + flen x)) (H ++ [.cells ((cs.drop o).take (len * szT P e) ++ new) (szT P e) true false])
            ((Builtin.append_ #[t, u] ty #[.slice (some ⟨l.blk, l.base + o, none⟩) len c', x']).run P w) := fun hcc2 =>
          app_fresh (P := P) (ty := ty) (n := flen x) (x' := x') hS ht hu he hlx (run_firstCells_w (w := w) (by simpa [Builtin.firstCells] using run_loads (P := P) hb hbnd)) hold (run_firstCells_w har) hra ho1 hn1 hol hnl hcc2 hb1 hb2
        cases grow with
        | false =>
          have := hex hlg
          exact fresh (by omega)
        | true =>
          rcases Nat.lt_or_ge c' (len + flen x) with hcc2 | hcc2
          · simp only [cond_true]
            cases ho0 : Nat.beq o 0 with
            | false => exact (fresh hcc2).kill hlt
            | true =>
              have hro : ro = false := by simpa using hgr
              subst hro
              have : o = 0 := Nat.eq_of_beq_eq_true ho0
              subst this
              simp only [cond_true]
              exact (fresh hcc2).toView hid ⟨l, hl⟩ ⟨len * szT P e, by rw [List.drop_zero]⟩ _ _
          · -- in place
            have hro : ro = false := by simpa using hgr
            subst hro
            obtain ⟨hblk, hfz, hbase⟩ := h7 rfl
            have hal : arr.length = flen x * szT P e := by rw [← hra.1]; exact hnl
            have hle1 : l.base + o + (len + flen x) * szT P e ≤ l.tot := Nat.le_trans (Nat.add_le_add_left (Nat.mul_le_mul_right _ hcc2) _) (by rw [hles] at hroom; exact hroom)
            rw [Nat.add_mul] at hle1
            have harr1 : ∀ v ∈ arr, v.oneCell' = true := by
              intro u hu
              obtain ⟨j, hj, rfl⟩ := List.getElem_of_mem hu
              have hj' : j < new.length := by rw [hra.1]; exact hj
              have := hra.2 j hj'
              simp only [List.getD_eq_getElem?_getD, List.getElem?_eq_getElem hj, List.getElem?_eq_getElem hj', Option.getD_some] at this
              exact this.oneCell (hn1 _ (List.getElem_mem hj'))
            have hst := run_stores (P := P) arr 0 (l.base + o + len * szT P e) c w hb (by omega) harr1 (fun j hj1 hj2 => hfz.not (by omega))
            have hfree : ∀ (i : Nat) (ob : AObj) (li : Loc), (H.set id .dead)[i]? = some ob → ob ≠ .dead → ob.isV = false → ι i = some li → li.blk ≠ l.blk := by
              intro i ob li hi hd hnv hli hbe
              rw [List.getElem?_set] at hi
              split at hi
              · simp at hi; exact hd hi.symm
              · rename_i hne
                by_cases hw : ob.wr = true
                · exact hne (hS.inj i id ob _ li l hi hid hw rfl hli hl hbe).symm
                · have := (hS.obj i ob hi).old hd (by simpa using hw) hnv li hli
                  omega
            have hvw0 : ∀ j cs es nx lj, (H.set id .dead)[j]? = some (.view cs es nx) → ι j = some lj → lj.blk = l.blk → ∃ l', ι nx = some l' ∧ l'.blk = lj.blk ∧ l'.base = lj.base := by
              intro j cs' es' nx' lj hj hlj hbe
              rw [List.getElem?_set] at hj
              split at hj
              · simp at hj
              · rcases hS.views j cs' es' nx' lj hj hlj with ⟨l', k1, k2⟩ | ⟨_, k2⟩
                · exact ⟨l', k1, k2⟩
                · exact absurd hbe.symm (k2 id _ l hid rfl hl)
            have hS1 := (hS.kill id).put (.cells (aspl c arr (l.base + o + len * szT P e + 0)) el fr) hblk (fun hm => (hS.prot _ hm).2.2 id _ l hid (by simp) hl rfl) hfree hvw0
            have hb' : l.blk < w.heap.size := by
              rcases Nat.lt_or_ge l.blk w.heap.size with h1 | h1
              · exact h1
              · rw [Array.getElem?_eq_none h1] at hb; cases hb
            have hlen1 : (H.set id AObj.dead).length = H.length := by simp
            have hS2 := hS1.add (o := .cells ((cs.drop o).take (len * szT P e) ++ new) (szT P e) true false) (l := ⟨l.blk, l.base + o, l.tot, szT P e, true⟩)
              (by
                rw [hlen1]
                refine ⟨_, _, el, fr, ext_self _ _ _, rfl, rfl, setB_same hb', ?_, ?_, ?_, fun _ => ⟨hblk, hfz, fun h => by cases h⟩, by simp, fun v hv => (List.mem_append.1 hv).elim (ho1 v) (hn1 v)⟩
                · rw [List.length_append, hol, hnl]; show l.base + o + (len * szT P e + flen x * szT P e) ≤ l.tot; omega
                · rw [aspl_size (by omega)]; exact h6
                · have hle2 : Le ι (extι ι H.length ⟨l.blk, l.base + o, l.tot, szT P e, true⟩) := le_ext hS _
                  have h9 := (hold.append hra).mono hle2
                  have e1 : (((aspl c arr (l.base + o + len * szT P e + 0)).toList.drop (l.base + o)).take ((cs.drop o).take (len * szT P e) ++ new).length) = (c.toList.drop (l.base + o)).take (len * szT P e) ++ arr := by
                    rw [List.length_append, hol, hnl, ← hal]
                    simp only [aspl, Nat.add_zero]
                    have hA : l.base + o + (len * szT P e + arr.length) ≤ c.toList.length := by have := Array.length_toList (xs := c); omega
                    rw [drop_take_splice (Nat.le_refl _) hA]
                    unfold A.splice
                    rw [List.take_take, Nat.min_eq_left (Nat.le_add_right _ _), List.drop_eq_nil_of_le (List.length_take_le _ _)]
                    simp
                  rw [e1]; exact h9)
              (fun i oi li hi hw hli => hfree i oi li hi (by rintro rfl; simp [AObj.wr] at hw) (by cases oi <;> first | rfl | cases hw) hli)
              (fun b hm hbe => (hS.prot b hm).2.2 id _ l hid (by simp) hl hbe)
              (fun _ => hvw0)
            rw [hlen1] at hS2
            have hidd : (H.set id AObj.dead)[id]? = some .dead := List.getElem?_set_self hlt
            have hS3 : Sim G w0 (extι ι H.length ⟨l.blk, l.base + o, l.tot, szT P e, true⟩) ((bif true then H.set id (bif Nat.beq o 0 then .view ((cs.drop o).take (len * szT P e)) (szT P e) H.length else .dead) else H) ++ [.cells ((cs.drop o).take (len * szT P e) ++ new) (szT P e) true false]) (setB w l.blk (.cells (aspl c arr (l.base + o + len * szT P e + 0)) el fr)) := by
              simp only [cond_true]
              cases ho0 : Nat.beq o 0 with
              | false => exact hS2
              | true =>
                have : o = 0 := Nat.eq_of_beq_eq_true ho0
                subst this
                simp only [cond_true]
                have h5 := hS2.deadView (id := id) (nx := H.length) (l := l) (by rw [List.getElem?_append_left (by rw [hlen1]; exact hlt)]; exact hidd) (le_ext hS _ _ _ hl) (by simpa using hb') (fun b hm hbe => (hS.prot b hm).2.2 id _ l hid (by simp) hl hbe) (ext_self _ _ _) rfl (by simp) ((cs.drop 0).take (len * szT P e)) (szT P e)
                rw [List.set_append_left _ _ (by rw [hlen1]; exact hlt), List.set_set] at h5
                exact h5
            refine ⟨_, _, _, le_ext hS _, hS3, .slc (ext_self _ _ _) (Nat.le_refl _) hcc2 (by simp) ?_, ?_⟩
            · show l.base + o + 0 + c' * szT P e ≤ l.tot
              rw [hles] at hroom; exact hroom
            · rw [hin _ _ _ hcc2]
              simp only [addr_add] at hst ⊢
              rw [hst]; rfl
      · cases h
  · cases h

end
end Go.Proofs.YtlpibiaokpbhbaaGreatDoor.A
