/- Copying, slicing, texts and bytes, what is built, new slices: what the abstract machine does, the model does. -/
import Derived.Test.YtlpibiaokpbhbaaGreatDoorA6
import Derived.Laws.BytesString
namespace Go.Proofs.YtlpibiaokpbhbaaGreatDoor.A
set_option linter.unusedVariables false
set_option linter.unusedSimpArgs false
section
variable {P : Program} {G : Nat} {w0 : Base} {ι : Nat → Option Loc} {H H1 : Heap} {w : World} {v : Value}

theorem cpy_sim (hS : Sim G w0 ι H w) {t u e ty : TypeId} {d d' x x' : Value} (ht : P.underlying t = some (.slice e)) (he : okE P e = true)
    (hd : RV ι d d') (hx : RV ι x x') (h : cpy (szT P e) d x H = some (v, H1)) : Res G w0 ι v H1 ((Builtin.copy_ #[t, u] ty #[d', x']).run P w) := by
  unfold cpy at h
  split at h
  · rename_i n c hnew
    have hlx : ∀ w, (Builtin.lenOf x').run P w = .ok (flen x) w := fun w => lenOf_run hx hnew
    obtain ⟨i, hi, hz, hzr⟩ := okE_info he
    obtain ⟨rfl, rfl, rfl⟩ := hd.nils_inv
    obtain ⟨arr, har, hra⟩ := fcells_run (P := P) hS hx hnew (k := 0) (Nat.zero_le _)
    cases h
    refine .sc hS rfl ?_
    simp [Builtin.copy_, run_underlying ht, hlx, run_szT hi, har, goInt]
  · rename_i new id o len cap hnew
    split at h
    · rename_i cs es g hid
      simp only at h
      split at h
      · rename_i hle
        cases h
        have hlx : ∀ w, (Builtin.lenOf x').run P w = .ok (flen x) w := fun w => lenOf_run hx hnew
        obtain ⟨i, hi, hz, hzr⟩ := okE_info he
        obtain ⟨l, c', hl, hlc, hcc, hex, hroom, rfl⟩ := hd.slc_inv
        obtain ⟨arr, har, hra⟩ := fcells_run (P := P) hS hx hnew (k := min (flen x) len) (Nat.min_le_left _ _)
        have hnl := fcells_len hx hnew
        have hn1 := fcells_one hS hx hnew
        have hlen : (new.take (min (flen x) len * szT P e)).length = min (flen x) len * szT P e := by
          rw [List.length_take, hnl, Nat.min_eq_left (Nat.mul_le_mul_right _ (Nat.min_le_left _ _))]
        obtain ⟨w1, hw1, hS1⟩ := hS.store (P := P) hid hl (o := o) (by rw [hlen]; exact hle) hra (fun v hv => hn1 v (List.mem_of_mem_take hv))
        refine ⟨ι, _, w1, .refl ι, hS1, .sc rfl, ?_⟩
        simp only [Builtin.copy_, List.getElem?_toArray, List.getElem?_cons_zero, List.getElem?_cons_succ, Sem.run_bind, run_underlying ht, Result.andThen_ok, hlx, Sem.run_pure, run_szT hi, goInt]
        rw [show Nat.min (flen x) len = min (flen x) len from rfl, har]
        simp only [Result.andThen_ok]
        rw [hw1]; rfl
      · cases h
    · cases h
  · cases h

/-! slicing -/

/-- Bounds that are given, or not. -/
def RO (ι : Nat → Option Loc) : Option Value → Option Value → Prop
  | none, none => True
  | some v, some v' => RV ι v v'
  | _, _ => False

theorem bound_run {x x' : Value} (hx : RV ι x x') {d i y : Nat} (h : bnd (some x) d = some i) (hy : i ≤ y) (code : BoundsCode) : (Instr.sliceBound x' y code).run P w = .ok i w := by
  unfold bnd at h
  split at h
  · cases ‹some x = none›
  · rename_i k n hk
    cases hk
    split at h
    · rename_i h0
      cases h
      rw [hx.int_inv]
      simp only [Instr.sliceBound, asIntOf, Sem.run_bind, Sem.run_pure, Result.andThen_ok]
      rw [if_pos ⟨h0, by omega⟩]; rfl
    · cases h
  · cases h

theorem bounds_run {isSlice : Bool} {len cap cap' l h m : Nat} {lo lo' hi hi' mx mx' : Option Value} (hlo : RO ι lo lo') (hhi : RO ι hi hi') (hmx : RO ι mx mx')
    (el : bnd lo 0 = some l) (eh : bnd hi len = some h) (em : bnd mx cap = some m) (hlh : l ≤ h) (hhm : h ≤ m) (hmc : m ≤ cap) (hcc : cap ≤ cap') (hno : mx.isSome → hi.isSome) :
    ∃ m', (Instr.sliceBounds isSlice len cap' lo' hi' mx').run P w = .ok (l, h, m') w ∧ m ≤ m' ∧ (mx.isSome → m' = m) ∧ (mx = none → m' = cap' ∧ m = cap) := by
  cases mx with
  | none =>
    cases mx' with
    | some _ => exact hmx.elim
    | none =>
    simp only [bnd, Option.some.injEq] at em
    subst em
    refine ⟨cap', ?_, hcc, by simp, by simp⟩
    cases hi with
    | none =>
      cases hi' with
      | some _ => exact hhi.elim
      | none =>
      simp only [bnd, Option.some.injEq] at eh
      subst eh
      cases lo with
      | none =>
        cases lo' with
        | some _ => exact hlo.elim
        | none =>
        simp only [bnd, Option.some.injEq] at el
        subst el
        simp [Instr.sliceBounds]
      | some lv =>
        cases lo' with
        | none => exact hlo.elim
        | some lv' =>
        have := bound_run (P := P) (w := w) hlo el hlh BoundsCode.sliceB
        simp [Instr.sliceBounds, this]
    | some hv =>
      cases hi' with
      | none => exact hhi.elim
      | some hv' =>
      have hb := fun code => bound_run (P := P) (w := w) hhi eh (Nat.le_trans hhm hcc) code
      cases lo with
      | none =>
        cases lo' with
        | some _ => exact hlo.elim
        | none =>
        simp only [bnd, Option.some.injEq] at el
        subst el
        simp [Instr.sliceBounds, hb]
      | some lv =>
        cases lo' with
        | none => exact hlo.elim
        | some lv' =>
        have := bound_run (P := P) (w := w) hlo el hlh BoundsCode.sliceB
        simp [Instr.sliceBounds, hb, this]
  | some mv =>
    cases mx' with
    | none => exact hmx.elim
    | some mv' =>
    have hm := fun code => bound_run (P := P) (w := w) hmx em (Nat.le_trans hmc hcc) code
    refine ⟨m, ?_, Nat.le_refl _, by simp, by simp⟩
    cases hi with
    | none => simp at hno
    | some hv =>
      cases hi' with
      | none => exact hhi.elim
      | some hv' =>
      have hb := fun code => bound_run (P := P) (w := w) hhi eh hhm code
      cases lo with
      | none =>
        cases lo' with
        | some _ => exact hlo.elim
        | none =>
        simp only [bnd, Option.some.injEq] at el
        subst el
        simp [Instr.sliceBounds, hm, hb]
      | some lv =>
        cases lo' with
        | none => exact hlo.elim
        | some lv' =>
        have := fun code => bound_run (P := P) (w := w) hlo el hlh code
        simp [Instr.sliceBounds, hm, hb, this]

theorem sls_sim (hS : Sim G w0 ι H w) {t : TypeId} {x x' : Value} {lo lo' hi hi' : Option Value} (ht : P.underlying t = some .string) (hx : RV ι x x')
    (hlo : RO ι lo lo') (hhi : RO ι hi hi') (h : sls x lo hi H = some (v, H1)) : Res G w0 ι v H1 ((Instr.sliceAt t x' lo' hi' none).run P w) := by
  unfold sls at h
  split at h
  · rename_i s
    split at h
    · rename_i l hh el eh
      split at h
      · rename_i hc
        cases h
        rw [hx.string_inv]
        obtain ⟨m', hm', _⟩ := bounds_run (P := P) (w := w) (isSlice := false) (cap := s.size) (cap' := s.size) (mx := none) (mx' := none) hlo hhi trivial el eh rfl hc.1 hc.2 (Nat.le_refl _) (Nat.le_refl _) (by simp)
        refine .sc hS rfl ?_
        simp only [Instr.sliceAt, Sem.run_bind, run_underlying ht, Result.andThen_ok, Instr.slice, Option.isSome_none, Bool.false_eq_true, if_false, Sem.run_pure, hm']
      · cases h
    · cases h
  · cases h

theorem slv_sim (hS : Sim G w0 ι H w) {t e : TypeId} {ie : TypeInfo} {x x' : Value} {lo lo' hi hi' mx mx' : Option Value} (ht : P.underlying t = some (.slice e)) (he : P.info? e = some ie) (hx : RV ι x x')
    (hlo : RO ι lo lo') (hhi : RO ι hi hi') (hmx : RO ι mx mx') (hno : mx.isSome → hi.isSome) (h : slv (szT P e) x lo hi mx H = some (v, H1)) :
    Res G w0 ι v H1 ((Instr.sliceAt t x' lo' hi' mx').run P w) := by
  have run : ∀ (a : Option Addr) (n c l h m : Nat), (Instr.sliceBounds true n c lo' hi' mx').run P w = .ok (l, h, m) w →
      (Instr.sliceAt t (.slice a n c) lo' hi' mx').run P w = .ok (.slice (if m = l then a else a.map (·.add (l * szT P e))) (h - l) (m - l)) w := by
    intro a n c l h m hb
    simp [Instr.sliceAt, run_underlying ht, Instr.slice, hb, run_szT he]
  unfold slv at h
  split at h
  · obtain ⟨_, _, rfl⟩ := hx.nils_inv
    split at h
    · rename_i el eh em
      cases h
      obtain ⟨m', hm', h1, h2, h3⟩ := bounds_run (P := P) (w := w) (isSlice := true) (cap := 0) (cap' := 0) hlo hhi hmx el eh em (Nat.le_refl _) (Nat.le_refl _) (Nat.le_refl _) (Nat.le_refl _) hno
      have : m' = 0 := by
        cases mx with
        | none => exact (h3 rfl).1
        | some _ => exact h2 rfl
      subst this
      exact .sc hS rfl (by rw [run _ _ _ _ _ _ hm']; rfl)
    · cases h
  · obtain ⟨_, _, a', c', hc', rfl⟩ := hx.slcE_inv
    split at h
    · rename_i el eh
      cases h
      obtain ⟨m', hm', h1, h2, h3⟩ := bounds_run (P := P) (w := w) (isSlice := true) (cap := 0) (cap' := c') (m := 0) hlo hhi hmx el eh rfl (Nat.le_refl _) (Nat.le_refl _) (Nat.le_refl _) (Nat.zero_le _) (by simp)
      have : m' = c' := (h3 rfl).1
      subst this
      refine .same hS (.slcE (a' := a') hc') ?_
      rw [run _ _ _ _ _ _ hm']
      congr 2
      split
      · rfl
      · simp [Addr.add]
    · cases h
  · rename_i id o n c
    split at h
    · rename_i cs es' g ro hid
      split at h
      · rename_i l hh m el eh em
        split at h
        · rename_i hc
          obtain ⟨rfl, hlh, hhm, hmc⟩ := hc
          obtain ⟨lc, c', hl, hlc, hcc, hex, hroom, rfl⟩ := hx.slc_inv
          obtain ⟨_, _, _, hles, hlg, _⟩ := hS.cellsR hid hl
          obtain ⟨m', hm', h1, h2, h3⟩ := bounds_run (P := P) (w := w) (isSlice := true) hlo hhi hmx el eh em hlh hhm hmc hcc hno
          have hr := run (some ⟨lc.blk, lc.base + o, none⟩) n c' l hh m' hm'
          have hm2 : m' ≤ c' := by
            cases mx with
            | none => rw [(h3 rfl).1]; exact Nat.le_refl _
            | some _ => rw [h2 rfl]; omega
          split at h
          · rename_i hml
            cases h
            have e0 : hh - l = 0 := by omega
            rw [e0] at hr
            refine .same hS ?_ hr
            have hsome : ∃ a', (if m' = l then some (⟨lc.blk, lc.base + o, none⟩ : Addr) else (some (⟨lc.blk, lc.base + o, none⟩ : Addr)).map (·.add (l * szT P e))) = some a' := by split <;> exact ⟨_, rfl⟩
            obtain ⟨a', ha'⟩ := hsome
            rw [ha']
            refine .slcE fun hj => ?_
            cases mx with
            | some _ => rw [h2 rfl]; omega
            | none =>
              simp only at hj
              cases g with
              | true => simp at hj
              | false =>
                have := hex hlg
                have := h3 rfl
                omega
          · rename_i hml
            cases h
            rw [if_neg (by omega)] at hr
            simp only [Option.map_some, addr_add, Nat.add_assoc] at hr
            refine .same hS ?_ hr
            have := RV.slc (ι := ι) (id := id) (o := o + l * szT P e) (n := hh - l) (c := m - l) (c' := m' - l) hl (by omega) (by omega)
              (fun hg => by
                cases mx with
                | some _ => rw [h2 rfl]
                | none => have := hex hg; have := h3 rfl; omega)
              (by
                have e1 : (m' - l) * lc.es = m' * lc.es - l * lc.es := Nat.sub_mul _ _ _
                have e2 : l * lc.es ≤ m' * lc.es := Nat.mul_le_mul_right _ (by omega)
                have e3 : m' * lc.es ≤ c' * lc.es := Nat.mul_le_mul_right _ hm2
                rw [hles] at hroom e1 e2 e3 ⊢
                omega)
            exact this
        · cases h
      · cases h
    · cases h
  · cases h

/-! texts and bytes -/

theorem bytesOf_ints : ∀ (cs : List Value) (bs : List UInt8), bytesOf cs = some bs → ∃ ns : List Int, cs = ns.map (Value.int .u8) ∧ bs = ns.map fun n => UInt8.ofNat n.toNat
  | [], bs, h => ⟨[], rfl, by simpa [bytesOf] using h.symm⟩
  | c :: cs, bs, h => by
    unfold bytesOf at h
    split at h
    · cases ‹c :: cs = []›
    · rename_i n l e
      cases e
      simp only [Option.map_eq_some_iff] at h
      obtain ⟨bs', hb, rfl⟩ := h
      obtain ⟨ns, rfl, rfl⟩ := bytesOf_ints _ _ hb
      exact ⟨n :: ns, rfl, rfl⟩
    · cases h

theorem foldl_push (ns : List Int) : ∀ s : ByteArray, ns.foldl (fun r n => r.push (UInt8.ofNat n.toNat)) s = ⟨s.data ++ (ns.map fun n => UInt8.ofNat n.toNat).toArray⟩ := by
  induction ns with
  | nil => intro s; simp
  | cons n ns ih =>
    intro s
    rw [List.foldl_cons, ih]
    simp [ByteArray.push]

theorem RVs.scalars {cs cs' : List Value} (h : RVs ι cs cs') (hs : ∀ v ∈ cs, Scalar v = true) : cs' = cs := by
  induction cs generalizing cs' with
  | nil => exact h.nil_inv
  | cons c cs ih =>
    obtain ⟨c', r, rfl, h1, h2⟩ := h.cons_inv
    rw [h1.scalar_inv (hs c (by simp)), ih h2 fun v hv => hs v (by simp [hv])]

theorem b2s_sim (hS : Sim G w0 ι H w) {s d e : TypeId} {x x' : Value} (hs : P.underlying s = some (.slice e)) (he : P.underlying e = some (.int .u8)) (hd : P.underlying d = some .string)
    (hx : RV ι x x') (h : b2s x H = some (v, H1)) : Res G w0 ι v H1 ((convert s d x').run P w) := by
  unfold b2s at h
  split at h
  · rename_i a n c
    split at h
    · rename_i cs hcs
      simp only [Option.map_eq_some_iff, Prod.mk.injEq] at h
      obtain ⟨bs, hb, rfl, rfl⟩ := h
      obtain ⟨a', c', rfl, hnone⟩ := hx.slc_none
      rw [run_convert_bytes_string w s d e a' n c' hs he hd] 
      obtain ⟨arr, har, hra⟩ := fcells_run (P := P) hS hx hcs (Nat.le_refl _)
      have hlen := fcells_len hx hcs
      rw [List.take_of_length_le (by omega)] at hra
      obtain ⟨ns, rfl, rfl⟩ := bytesOf_ints _ _ hb
      have := hra.scalars (by intro v hv; obtain ⟨m, _, rfl⟩ := List.mem_map.1 hv; rfl)
      subst this
      refine .sc hS rfl ?_
      cases a' with
      | none =>
        have ha : a = none := by cases a <;> simp at hnone ⊢
        subst ha
        obtain ⟨rfl, rfl, _⟩ := hx.nils_inv
        simp [flen] at hlen
        subst hlen
        simp [Conv.bytesToString]; rfl
      | some a' =>
        simp only [flen, Builtin.firstCells, Nat.mul_one] at har
        rw [run_bytesToString w a' n c' ns har, foldl_push]
        simp
    · cases h
  · cases h

theorem run_s2b {e : TypeId} {s : ByteArray} {cap : Nat} (hq : Question.cut (.appendCap s.size 0 e) (w.tape w.drawn (.appendCap s.size 0 e)) = cap) (hge : s.size ≤ cap) :
    (Conv.stringToBytes e s).run P w = .ok (.slice (some ⟨w.heap.size, 0, none⟩) s.size cap)
      (pushO { w with drawn := w.drawn + 1 } (.cells (u8s s.data.toList ++ List.replicate (cap - s.size) (Value.int .u8 0)).toArray e (cap, cap + 1))) := by
  have h1 : (choose (.appendCap s.size 0 e)).run P w = .ok cap { w with drawn := w.drawn + 1 } := by
    rw [run_choose, if_neg (by simp [Question.forced]), hq]
  have harr : (s.data.map fun b : UInt8 => Value.int .u8 b.toNat) ++ Array.replicate (cap - s.size) (Value.int .u8 0) =
      (u8s s.data.toList ++ List.replicate (cap - s.size) (Value.int .u8 0)).toArray := by
    apply Array.ext'; simp [u8s]
  have hn : ((u8s s.data.toList ++ List.replicate (cap - s.size) (Value.int .u8 0)).toArray).size = cap := by
    simp [u8s]; omega
  unfold Conv.stringToBytes
  rw [Sem.run_bind, h1]
  simp only [Result.andThen_ok, harr]
  generalize (u8s s.data.toList ++ List.replicate (cap - s.size) (Value.int .u8 0)).toArray = arr at hn
  simp only [newRow, Sem.run_bind, run_newObj, Result.andThen_ok, Sem.run_pure, markStringish, run_shape]
  have hsh : World.shape? ({ heap := w.heap.push (.cells arr e), tape := w.tape, drawn := w.drawn + 1, os := w.os, output := w.output } : World) w.heap.size = some (e, cap) := by
    simp [World.shape?, hn]
  rw [hsh]
  simp only [run_freeze, Result.andThen_ok]
  congr 1
  unfold World.freeze pushO
  rw [if_neg (by decide)]
  simp only
  congr 1
  apply Array.ext
  · simp
  · intro i h1 h2
    rw [Array.getElem_modify]
    split
    · rename_i e1
      subst e1
      simp
    · rw [Array.getElem_push, Array.getElem_push]
      rename_i e1
      have : i < w.heap.size := by simp at h2; omega
      simp [this]

theorem s2b_sim (hS : Sim G w0 ι H w) {s d e : TypeId} {x x' : Value} (hs : P.underlying s = some .string) (hd : P.underlying d = some (.slice e)) (he : P.underlying e = some (.int .u8))
    (hx : RV ι x x') (h : s2b x H = some (v, H1)) : Res G w0 ι v H1 ((convert s d x').run P w) := by
  unfold s2b at h
  split at h
  · rename_i str
    unfold news at h
    cases h
    rw [hx.string_inv]
    generalize hq : Question.cut (.appendCap str.size 0 e) (w.tape w.drawn (.appendCap str.size 0 e)) = cap
    have hge : str.size ≤ cap := by rw [← hq]; simp only [Question.cut]; omega
    have hr : RVs ι (u8s str.data.toList) (u8s str.data.toList) := by
      refine ⟨rfl, fun i hi => ?_⟩
      simp only [u8s, List.getD_eq_getElem?_getD, List.getElem?_map]
      cases e : str.data.toList[i]? with
      | none => simp; exact .un
      | some b => simp; exact .sc rfl
    have hS2 := hS.congr (w' := { w with drawn := w.drawn + 1 }) rfl
    have hsz : (u8s str.data.toList).length = str.size := by simp [u8s]
    have hal := hS2.alloc hr (by unfold u8s; intro v hv; obtain ⟨m, _, rfl⟩ := List.mem_map.1 hv; rfl) (List.replicate (cap - str.size) (.int .u8 0)) e (cap, cap + 1) 1 true
      (.inr (by rw [hsz, List.length_replicate]; simp only; omega))
    refine ⟨_, .slice (some ⟨w.heap.size, 0, none⟩) str.size cap, _, le_ext hS _, hal, ?_, ?_⟩
    · refine .slc (ext_self _ _ _) (Nat.le_refl _) hge (by simp) ?_
      rw [hsz, List.length_replicate]; simp only; omega
    · have hc : (convert s d (.string str)).run P w = (Conv.stringToBytes e str).run P w := by
        simp [convert, run_underlying hs, run_underlying hd, run_underlying he]
      rw [hc, run_s2b hq hge]
  · cases h

theorem freeze_eq {b o n : Nat} {c : Array Value} {el : TypeId} {fr : Nat × Nat} (h : w.heap[b]? = some (.cells c el fr)) (hn : n ≠ 0) :
    w.freeze ⟨b, o, none⟩ n = setB w b (.cells c el (if fr.1 == fr.2 then (o, o + n) else (min fr.1 o, max fr.2 (o + n)))) := by
  have hb : b < w.heap.size := by
    rcases Nat.lt_or_ge b w.heap.size with h1 | h1
    · exact h1
    · rw [Array.getElem?_eq_none h1] at h; cases h
  have hg : w.heap[b] = .cells c el fr := by
    rw [Array.getElem?_eq_getElem hb] at h; simpa using h
  unfold World.freeze setB
  rw [if_neg hn]
  congr 1
  apply Array.ext
  · simp
  · intro i h1 h2
    simp only [Array.getElem_modify]
    by_cases e : b = i
    · subst e; simp [hg]
    · simp only [if_neg e]; rw [Array.getElem_setIfInBounds_ne (by simpa using h2) e]

theorem mrk_sim (hS : Sim G w0 ι H w) {s u e : TypeId} {x x' : Value} (hs : P.underlying s = some (.slice u)) (hd : P.underlying s = some (.slice e)) (he : P.underlying e = some (.int .u8))
    (hx : RV ι x x') (h : mrk x H = some (v, H1)) : Res G w0 ι v H1 ((convert s s x').run P w) := by
  unfold mrk at h
  split at h
  · rename_i id o n cc
    split at h
    · rename_i cs es g hid
      cases h
      have hx2 := hx
      obtain ⟨l, c', hl, _, _, _, _, rfl⟩ := hx2.slc_inv
      obtain ⟨c, el, fr, h2, h3, hb, h5, h6, hr, h7, h8⟩ := hS.cellsR hid hl
      have hb1 : l.blk < w.heap.size := by
        rcases Nat.lt_or_ge l.blk w.heap.size with h1 | h1
        · exact h1
        · rw [Array.getElem?_eq_none h1] at hb; cases hb
      have hfr : ∀ t, t ≤ c.size → FrOK t fr → FrOK t (if fr.1 == fr.2 then (c.size, c.size + 1) else (min fr.1 c.size, max fr.2 (c.size + 1))) := by
        intro t ht hf
        split
        · exact .inr ht
        · rename_i hne
          rcases hf with hf | hf
          · simp [hf] at hne
          · refine .inr ?_
            simp only; omega
      have hsim : Sim G w0 ι H (setB w l.blk (.cells c el (if fr.1 == fr.2 then (c.size, c.size + 1) else (min fr.1 c.size, max fr.2 (c.size + 1))))) := by
        refine ⟨fun i oi hi => ?_, hS.inj, by simpa using hS.size, fun b hb => ?_, hS.dom, hS.glob, hS.rest, fun b hb => ?_, fun j cs' es' nx' lj hj hlj => ?_⟩
        · have hR := hS.obj i oi hi
          cases oi with
          | dead => trivial
          | view cs' es' nx' => obtain ⟨l', h1, h2⟩ := hR; exact ⟨l', h1, by simpa using h2⟩
          | cells ci ei gi ri =>
            obtain ⟨li, c1, el1, fr1, k1, k2, k3, k4, k5, k6, k7, k8, k9⟩ := hR
            by_cases hbb : li.blk = l.blk
            · rw [hbb, hb] at k4
              cases k4
              refine ⟨li, c, el, _, k1, k2, k3, by rw [hbb]; exact setB_same hb1, k5, k6, k7, fun hr => ⟨(k8 hr).1, hfr _ k6 (k8 hr).2.1, (k8 hr).2.2⟩, k9⟩
            · exact ⟨li, c1, el1, fr1, k1, k2, k3, by rw [setB_other hbb]; exact k4, k5, k6, k7, k8, k9⟩
          | map es clk =>
            obtain ⟨li, en, k1, k2, k3, k4⟩ := hR
            refine ⟨li, en, k1, ?_, k3, k4⟩
            by_cases hbb : li.blk = l.blk
            · rw [hbb, hb] at k2; cases k2
            · rw [setB_other hbb]; exact k2
          | mapU es =>
            obtain ⟨li, en, clk, es2, k1, k2, k3, k4⟩ := hR
            refine ⟨li, en, clk, es2, k1, ?_, k3, k4⟩
            by_cases hbb : li.blk = l.blk
            · rw [hbb, hb] at k2; cases k2
            · rw [setB_other hbb]; exact k2
          | loop fn lv p xs cd regs st pd =>
            obtain ⟨li, rf, tmps, D, k1, k2, k3⟩ := hR
            refine ⟨li, rf, tmps, D, k1, ?_, k3⟩
            by_cases hbb : li.blk = l.blk
            · rw [hbb, hb] at k2; cases k2
            · rw [setB_other hbb]; exact k2
        · rw [setB_other (by have := (h7 rfl).1; omega)]; exact hS.old b hb
        · obtain ⟨p1, p2, p3⟩ := hS.prot b hb
          exact ⟨by rw [setB_other (Ne.symm (p3 id _ l hid (by simp) hl))]; exact p1, p2, p3⟩
        · refine (hS.views j cs' es' nx' lj hj hlj).to (.refl ι) fun h1 _ => ⟨fun c2 el2 fr2 hc => ?_, h1⟩
          by_cases hbb : lj.blk = l.blk
          · rw [hbb, hb] at hc
            cases hc
            exact ⟨_, by rw [hbb]; exact setB_same hb1⟩
          · exact ⟨fr2, by rw [setB_other hbb]; exact hc⟩
      refine ⟨ι, _, _, .refl ι, hsim, hx, ?_⟩
      rw [hs] at hd; cases hd
      have hsh : w.shape? l.blk = some (el, c.size) := by simp [World.shape?, hb]
      simp only [convert, Sem.run_bind, run_underlying hs, run_underlying he, Result.andThen_ok, beq_self_eq_true, markStringish, run_shape, hsh, run_freeze, freeze_eq hb (Nat.succ_ne_zero 0), Sem.run_pure]
    · cases h
  · cases h

end
end Go.Proofs.YtlpibiaokpbhbaaGreatDoor.A
