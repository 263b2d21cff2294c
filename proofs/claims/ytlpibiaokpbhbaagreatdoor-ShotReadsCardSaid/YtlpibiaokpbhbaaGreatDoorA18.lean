/- How the arguments stand in the abstract machine's heap. -/
import Derived.Test.YtlpibiaokpbhbaaGreatDoorA13
import Derived.ChangeArms
import Derived.ChangeOld
import Derived.Below
import Derived.Carry
import Derived.ProofKit
namespace Go.Proofs.YtlpibiaokpbhbaaGreatDoor.A
set_option linter.unusedVariables false
set_option linter.unusedSimpArgs false

/-- A reading of a type: no pointers, no maps. -/
inductive Ty where
  | bool | int (k : IntKind) | str | slc (e : Ty) | struct (r : Ty) | unit | pair (f r : Ty)

def Ty.den : Ty → Type
  | .bool => Bool
  | .int _ => Int
  | .str => ByteArray
  | .slc e => Option (List e.den × List e.den)
  | .struct r => r.den
  | .unit => Unit
  | .pair f r => f.den × r.den

def Ty.size : Ty → Nat
  | .struct r => r.size
  | .unit => 0
  | .pair f r => f.size + r.size
  | _ => 1

def Ty.fits (P : Program) : Ty → TypeId ⊕ (List Field × Nat) → Bool
  | .bool, .inl t => match P.underlying t with | some .bool => true | _ => false
  | .int k, .inl t => match P.underlying t with | some (.int k') => decide (k' = k) | _ => false
  | .str, .inl t => match P.underlying t with | some .string => true | _ => false
  | .slc e, .inl t => match P.underlying t with | some (.slice u) => e.fits P (.inl u) && Nat.beq (P.cellsOf u) e.size && Nat.ble 1 e.size | _ => false
  | .struct r, .inl t => match P.underlying t with | some (.struct fs) => r.fits P (.inr (fs.toList, 0)) && Nat.beq (P.cellsOf t) r.size | _ => false
  | .unit, .inr ([], _) => true
  | .pair f r, .inr (fd :: fs, off) => f.fits P (.inl fd.type) && Nat.beq fd.offset off && Nat.beq (P.cellsOf fd.type) f.size && r.fits P (.inr (fs, off + f.size))
  | _, _ => false

def Ty.wf : (t : Ty) → t.den → Prop
  | .bool, _ => True
  | .int k, n => (Lit.int k n).wf = true
  | .str, s => s.size ≤ maxLen
  | .slc _, none => True
  | .slc e, some (a, b) => (∀ x ∈ a, e.wf x) ∧ (∀ x ∈ b, e.wf x) ∧ a.length + b.length ≤ maxLen
  | .struct r, x => r.wf x
  | .unit, _ => True
  | .pair f r, (x, y) => f.wf x ∧ r.wf y

/-- The cells cs, in the heap H, read as x. -/
def Rd : (t : Ty) → t.den → Heap → List Value → Prop
  | .bool, b, _, cs => cs = [.bool b]
  | .int k, n, _, cs => cs = [.int k n]
  | .str, s, _, cs => cs = [.string s]
  | .slc _, none, _, cs => cs = [.slice none 0 0]
  | .slc e, some (a, b), H, cs => (a = [] ∧ b = [] ∧ cs = [.slice (some ⟨0, 0, some 1⟩) 0 0]) ∨
      ∃ id cells, cs = [.slice (some ⟨id, 0, none⟩) a.length (a.length + b.length)] ∧ H[id]? = some (.cells cells e.size false true) ∧
        cells.length = (a.length + b.length) * e.size ∧ ∀ i x, (a ++ b)[i]? = some x → Rd e x H ((cells.drop (i * e.size)).take e.size)
  | .struct r, x, H, cs => Rd r x H cs
  | .unit, _, _, cs => cs = []
  | .pair f r, (x, y), H, cs => Rd f x H (cs.take f.size) ∧ Rd r y H (cs.drop f.size)

def HLe (H H' : Heap) : Prop := ∀ (id : Nat) (o : AObj), H[id]? = some o → H'[id]? = some o

theorem HLe.refl (H : Heap) : HLe H H := fun _ _ h => h
theorem HLe.trans {H H' H'' : Heap} (h : HLe H H') (h' : HLe H' H'') : HLe H H'' := fun i o e => h' i o (h i o e)
theorem HLe.app (H l : Heap) : HLe H (H ++ l) := fun i o h => by
  rw [List.getElem?_append_left (List.getElem?_eq_some_iff.1 h).1]; exact h

theorem Rd.mono : ∀ (t : Ty) {x : t.den} {H H' : Heap} {cs : List Value}, Rd t x H cs → HLe H H' → Rd t x H' cs
  | .bool, _, _, _, _, h, _ => h
  | .int _, _, _, _, _, h, _ => h
  | .str, _, _, _, _, h, _ => h
  | .slc _, none, _, _, _, h, _ => h
  | .slc e, some (a, b), _, _, _, h, hl => by
    rcases h with h | ⟨id, cells, h1, h2, h3, h4⟩
    · exact .inl h
    · exact .inr ⟨id, cells, h1, hl _ _ h2, h3, fun i x hx => Rd.mono e (h4 i x hx) hl⟩
  | .struct r, _, _, _, _, h, hl => Rd.mono r (x := _) h hl
  | .unit, _, _, _, _, h, _ => h
  | .pair f r, (_, _), _, _, _, h, hl => ⟨Rd.mono f h.1 hl, Rd.mono r h.2 hl⟩

theorem Rd.ones : ∀ (t : Ty) {x : t.den} {H : Heap} {cs : List Value}, Rd t x H cs → ∀ v ∈ cs, oneCell v = true
  | .bool, _, _, _, h => by cases h; simp [oneCell]
  | .int _, _, _, _, h => by cases h; simp [oneCell]
  | .str, _, _, _, h => by cases h; simp [oneCell]
  | .slc _, none, _, _, h => by cases h; simp [oneCell]
  | .slc e, some (a, b), _, _, h => by
    rcases h with ⟨_, _, h⟩ | ⟨id, cells, h, _⟩ <;> cases h <;> simp [oneCell]
  | .struct r, _, _, _, h => Rd.ones r (x := _) h
  | .unit, _, _, _, h => by cases h; simp
  | .pair f r, (_, _), _, cs, h => fun v hv => by
    rw [← List.take_append_drop f.size cs] at hv
    rcases List.mem_append.1 hv with hv | hv
    · exact Rd.ones f h.1 v hv
    · exact Rd.ones r h.2 v hv

theorem cells_row {w : World} {a : Addr} {i sz : Nat} {cs : List Value} (hs : 1 ≤ sz) (h : w.cells? 0 (a.add (i * sz)) sz = some cs) :
    (i = 0 → a.spot = none) ∧ ∃ c el fr, w.heap[a.block]? = some (.cells c el fr) ∧ a.off + i * sz + sz ≤ c.size ∧ cs = (c.toList.drop (a.off + i * sz)).take sz := by
  obtain ⟨_, hl, hc⟩ := World.cells?_some h
  have hblk : (a.add (i * sz)).block = a.block := by unfold Addr.add; split <;> rfl
  have hoff : (a.add (i * sz)).off = a.off + i * sz := by unfold Addr.add; split <;> simp_all
  have get : ∀ j, j < sz → ∃ v, w.cell? ((a.add (i * sz)).add j) = some v ∧ cs[j]? = some v := by
    intro j hj
    rw [hc j hj]
    have : j < cs.length := by omega
    exact ⟨cs[j], List.getElem?_eq_getElem this, List.getElem?_eq_getElem this⟩
  have hadd : ∀ j, ((a.add (i * sz)).add j).block = a.block ∧ ((a.add (i * sz)).add j).off = a.off + i * sz + j := by
    intro j
    refine ⟨?_, ?_⟩ <;> unfold Addr.add <;> split <;> simp_all [Addr.add]
  refine ⟨fun hi => ?_, ?_⟩
  · subst hi
    obtain ⟨v, h0, _⟩ := get 0 hs
    rw [Nat.zero_mul] at h0
    simp only [Addr.add, if_pos] at h0
    unfold World.cell? at h0
    split at h0
    · split at h0
      · cases h0
      · rename_i hsp; simpa using hsp
    · cases h0
  · obtain ⟨v, h0, _⟩ := get 0 hs
    unfold World.cell? at h0
    rw [(hadd 0).1, (hadd 0).2] at h0
    split at h0
    · rename_i c el fr hb
      refine ⟨c, el, fr, hb, ?_, ?_⟩
      · obtain ⟨v, h1, _⟩ := get (sz - 1) (by omega)
        unfold World.cell? at h1
        rw [(hadd (sz - 1)).1, (hadd (sz - 1)).2, hb] at h1
        simp only at h1
        split at h1
        · cases h1
        · have := (Array.getElem?_eq_some_iff.1 h1).1
          omega
      · apply List.ext_getElem?
        intro j
        by_cases hj : j < sz
        · obtain ⟨v, h1, h2⟩ := get j hj
          rw [h2, List.getElem?_take, if_pos hj, List.getElem?_drop]
          unfold World.cell? at h1
          rw [(hadd j).1, (hadd j).2, hb] at h1
          simp only at h1
          split at h1
          · cases h1
          · rw [← h1]; simp
        · rw [List.getElem?_eq_none (by omega), List.getElem?_eq_none (by simp; omega)]
    · cases h0

section
variable {P : Program} {H0 : Type} {enc : TypeId × Value → H0} {W : World} {G : Nat}

def InOK (W : World) (G : Nat) (t : Ty) (ι : Nat → Option Loc) (H : Heap) (cs : List Value) : Prop :=
  ∃ x ι' H' cs', t.wf x ∧ Le ι ι' ∧ Sim G (b0 W) ι' H' W ∧ HLe H H' ∧ RVs ι' cs' cs ∧ Rd t x H' cs'

theorem rvs_one {ι : Nat → Option Loc} {v v' : Value} (h : RV ι v v') : RVs ι [v] [v'] := .cons h .nil

/-- What a type's row of fields reads. -/
def rowIn (P : Program) (enc : TypeId × Value → H0) (W : World) (fuel : Nat) (cs : List Value) (fs : List Field) : Prop :=
  ∀ f ∈ fs, ∃ d, DataW.trod enc P W 0 (fun _ => true) true fuel f.type ((cs.drop f.offset).take (P.cellsOf f.type)) = some d

theorem read_in : ∀ (t : Ty),
    (∀ {u : TypeId} {fuel : Nat} {cs : List Value} {d : DataW H0 × List MemPlace} {ι : Nat → Option Loc} {H : Heap}, t.fits P (.inl u) = true → DataW.trod enc P W 0 (fun _ => true) true fuel u cs = some d → Sim G (b0 W) ι H W →
      InOK W G t ι H cs ∧ cs.length = t.size) ∧
    (∀ {fs : List Field} {off fuel : Nat} {cs : List Value} {ι : Nat → Option Loc} {H : Heap}, t.fits P (.inr (fs, off)) = true → rowIn P enc W fuel cs fs → cs.length = off + t.size → Sim G (b0 W) ι H W →
      InOK W G t ι H (cs.drop off)) := by
  intro t
  induction t with
  | bool =>
    refine ⟨fun {u fuel cs d ι H} hf h hS => ?_, fun hf => by simp [Ty.fits] at hf⟩
    simp only [Ty.fits] at hf
    cases fuel with
    | zero => simp [DataW.trod] at h
    | succ n =>
      unfold DataW.trod at h
      split at hf
      · rename_i hu
        rw [hu] at h
        split at h <;> simp_all
        exact ⟨⟨(_ : Bool), ι, H, _, trivial, .refl _, hS, .refl _, rvs_one (.sc rfl), rfl⟩, rfl⟩
      · cases hf
  | int k =>
    refine ⟨fun {u fuel cs d ι H} hf h hS => ?_, fun hf => by simp [Ty.fits] at hf⟩
    simp only [Ty.fits] at hf
    cases fuel with
    | zero => simp [DataW.trod] at h
    | succ n =>
      unfold DataW.trod at h
      split at hf
      · rename_i k' hu
        rw [hu] at h
        split at h <;> simp_all
        rename_i n' _
        exact ⟨⟨n', ι, H, _, h.1.2, .refl _, hS, .refl _, rvs_one (.sc rfl), rfl⟩, rfl⟩
      · cases hf
  | str =>
    refine ⟨fun {u fuel cs d ι H} hf h hS => ?_, fun hf => by simp [Ty.fits] at hf⟩
    simp only [Ty.fits] at hf
    cases fuel with
    | zero => simp [DataW.trod] at h
    | succ n =>
      unfold DataW.trod at h
      split at hf
      · rename_i hu
        rw [hu] at h
        split at h <;> simp_all
        exact ⟨⟨(_ : ByteArray), ι, H, _, h.1, .refl _, hS, .refl _, rvs_one (.sc rfl), rfl⟩, rfl⟩
      · cases hf
  | slc e ih =>
    refine ⟨fun {u fuel cs d ι H} hf h hS => ?_, fun hf => by simp [Ty.fits] at hf⟩
    simp only [Ty.fits] at hf
    split at hf
    · rename_i u' hu
      simp only [Bool.and_eq_true] at hf
      obtain ⟨⟨hf, hsz⟩, h1⟩ := hf
      have hsz := Nat.eq_of_beq_eq_true hsz
      have h1 := Nat.le_of_ble_eq_true h1
      rcases DataW.trod_slice hu h with ⟨rfl, _⟩ | ⟨a, len, cap, elems, rest, n, _, rfl, rfl, _, hl, hm, hlen, hel, hsp, _⟩
      · exact ⟨⟨(none : Option (List e.den × List e.den)), ι, H, _, trivial, .refl _, hS, .refl _, rvs_one (.sc rfl), rfl⟩, rfl⟩
      · obtain ⟨hrl, hre⟩ := hsp rfl
        refine ⟨?_, rfl⟩
        rcases Nat.eq_zero_or_pos cap with h0 | h0
        · subst h0
          have : len = 0 := by omega
          subst this
          refine ⟨(some ([], []) : Option (List e.den × List e.den)), ι, H, _, ⟨by simp, by simp, by simp⟩, .refl _, hS, .refl _, rvs_one (.slcE (id := 0) (o := 0) (j := 1) (by simp)), .inl ⟨rfl, rfl, rfl⟩⟩
        · have each : ∀ i, i < cap → ∃ cs d, W.cells? 0 (a.add (i * e.size)) e.size = some cs ∧ DataW.trod enc P W 0 (fun _ => true) true n u' cs = some d := by
            intro i hi
            have : ∃ y, (W.cells? 0 (a.add (i * P.cellsOf u')) (P.cellsOf u')).bind (DataW.trod enc P W 0 (fun _ => true) true n u') = some y := by
              rcases Nat.lt_or_ge i len with h | h
              · exact ⟨elems[i], by rw [hel i h]; exact List.getElem?_eq_getElem _⟩
              · refine ⟨rest[i - len], ?_⟩
                have := hre (i - len) (by omega)
                rw [show len + (i - len) = i by omega] at this
                rw [this]; exact List.getElem?_eq_getElem _
            obtain ⟨y, hy⟩ := this
            rw [hsz] at hy
            obtain ⟨cs, h1, h2⟩ := Option.bind_eq_some_iff.1 hy
            exact ⟨cs, y, h1, h2⟩
          obtain ⟨cs0, d0, hc0, _⟩ := each 0 h0
          obtain ⟨hsp0, c, el, fr, hb, _, _⟩ := cells_row h1 hc0
          have hsp0 := hsp0 rfl
          have hrow : ∀ i, i < cap → a.off + (i + 1) * e.size ≤ c.size ∧ ∃ d, DataW.trod enc P W 0 (fun _ => true) true n u' ((c.toList.drop (a.off + i * e.size)).take e.size) = some d := by
            intro i hi
            obtain ⟨cs, d, hc, ht⟩ := each i hi
            obtain ⟨_, c', el', fr', hb', h2, rfl⟩ := cells_row h1 hc
            rw [hb] at hb'; cases hb'
            exact ⟨by rw [Nat.add_mul]; omega, d, ht⟩
          have key : ∀ k, k ≤ cap → ∃ (xs : List e.den) (ι' : Nat → Option Loc) (H' : Heap) (cells : List Value), xs.length = k ∧ cells.length = k * e.size ∧ (∀ x ∈ xs, e.wf x) ∧ Le ι ι' ∧ Sim G (b0 W) ι' H' W ∧ HLe H H' ∧
              RVs ι' cells ((c.toList.drop a.off).take (k * e.size)) ∧ ∀ i x, xs[i]? = some x → Rd e x H' ((cells.drop (i * e.size)).take e.size) := by
            intro k
            induction k with
            | zero => intro _; exact ⟨[], ι, H, [], rfl, by simp, by simp, .refl _, hS, .refl _, by simpa using RVs.nil, by simp⟩
            | succ k ihk =>
              intro hk
              obtain ⟨xs, ι1, H1, cells, hx, hcl, hwf, hle, hS1, hHl, hrv, hrd⟩ := ihk (by omega)
              obtain ⟨hsz1, d1, ht⟩ := hrow k (by omega)
              obtain ⟨⟨x, ι2, H2, cs2, hwx, hle2, hS2, hHl2, hrv2, hrd2⟩, _⟩ := ih.1 hf ht hS1
              have hl2 : cs2.length = e.size := by rw [hrv2.1]; simp; rw [Nat.add_mul] at hsz1; omega
              refine ⟨xs ++ [x], ι2, H2, cells ++ cs2, by simp [hx], by simp [hcl, hl2, Nat.add_mul], fun y hy => ?_, hle.trans hle2, hS2, hHl.trans hHl2, ?_, fun i y hy => ?_⟩
              · rcases List.mem_append.1 hy with hy | hy
                · exact hwf y hy
                · simp at hy; subst hy; exact hwx
              · have hcat : (c.toList.drop a.off).take ((k + 1) * e.size) = (c.toList.drop a.off).take (k * e.size) ++ (c.toList.drop (a.off + k * e.size)).take e.size := by
                  rw [Nat.add_mul, Nat.one_mul, List.take_add, List.drop_drop]
                rw [hcat]
                exact (hrv.mono hle2).append hrv2
              · rcases Nat.lt_or_ge i k with hi | hi
                · rw [List.getElem?_append_left (by omega)] at hy
                  have hle : (i + 1) * e.size ≤ k * e.size := Nat.mul_le_mul_right _ (by omega)
                  rw [Nat.add_mul] at hle
                  rw [List.drop_append_of_le_length (by omega), List.take_append_of_le_length (by simp; omega)]
                  exact (hrd i y hy).mono e hHl2
                · rw [List.getElem?_append_right (by omega)] at hy
                  have hik : i = k := by
                    rcases Nat.lt_or_ge (i - xs.length) 1 with h | h
                    · omega
                    · rw [List.getElem?_eq_none (by simpa using h)] at hy; cases hy
                  subst hik
                  rw [hx, Nat.sub_self] at hy
                  simp at hy; subst hy
                  rw [List.drop_append_of_le_length (by omega), List.drop_eq_nil_of_le (by omega), List.nil_append, List.take_of_length_le (by omega)]
                  exact hrd2
          obtain ⟨xs, ι1, H1, cells, hx, hcl, hwf, hle, hS1, hHl, hrv, hrd⟩ := key cap (Nat.le_refl _)
          have htot : a.off + cap * e.size ≤ c.size := by
            obtain ⟨h, _⟩ := hrow (cap - 1) (by omega)
            rwa [show cap - 1 + 1 = cap by omega] at h
          have hblk : a.block < W.heap.size := (Array.getElem?_eq_some_iff.1 hb).1
          have hones : ∀ v ∈ cells, oneCell v = true := by
            intro v hv
            obtain ⟨i, hi, rfl⟩ := List.getElem_of_mem hv
            have hq : i / e.size < cap := Nat.div_lt_of_lt_mul (by rw [Nat.mul_comm, ← hcl]; exact hi)
            have := Rd.ones e (hrd (i / e.size) xs[i / e.size] (List.getElem?_eq_getElem _)) cells[i]
            refine this (List.mem_iff_getElem?.2 ⟨i % e.size, ?_⟩)
            have hmod := Nat.mod_lt i (show e.size > 0 by omega)
            rw [List.getElem?_take, if_pos hmod, List.getElem?_drop, Nat.mul_comm, Nat.div_add_mod]
            exact List.getElem?_eq_getElem hi
          have hS2 := hS1.add (o := .cells cells e.size false true) (l := ⟨a.block, a.off, a.off + cap * e.size, e.size, false⟩)
            ⟨_, c, el, fr, ext_self _ _ _, rfl, rfl, hb, by simp [hcl], htot, by rw [hcl]; exact hrv.mono (le_ext hS1 _), by simp, fun _ => hblk, hones⟩
            (fun i oi li hi hw hl heq => by
              have := ((hS1.obj i oi hi).newer hw li hl).1
              rw [heq] at this
              simp only at this
              omega)
            (fun b hb => by cases hb) (fun h => by cases h)
          refine ⟨(some (xs.take len, xs.drop len) : Option (List e.den × List e.den)), _, _, [.slice (some ⟨H1.length, 0, none⟩) len cap], ⟨fun x hx => hwf x (List.mem_of_mem_take hx), fun x hx => hwf x (List.mem_of_mem_drop hx), ?_⟩, hle.trans (le_ext hS1 _), hS2, hHl.trans (.app _ _), rvs_one ?_, .inr ⟨H1.length, cells, ?_, by simp, ?_, fun i x hx => ?_⟩⟩
          · simp; omega
          · have : a = ⟨a.block, a.off, none⟩ := by cases a; simp_all
            rw [this]
            exact .slc (l := ⟨a.block, a.off, a.off + cap * e.size, e.size, false⟩) (o := 0) (ext_self _ _ _) hl (Nat.le_refl _) (fun _ => rfl) (by simp)
          · simp [hx]; omega
          · simp [hx, hcl]
            rw [show min len cap + (cap - len) = cap by omega]
          · rw [List.take_append_drop] at hx
            exact (hrd i x hx).mono e (.app _ _)
    · cases hf
  | struct r ih =>
    refine ⟨fun {u fuel cs d ι H} hf h hS => ?_, fun hf => by simp [Ty.fits] at hf⟩
    simp only [Ty.fits] at hf
    split at hf
    · rename_i fs hu
      simp only [Bool.and_eq_true] at hf
      have hsz := Nat.eq_of_beq_eq_true hf.2
      cases fuel with
      | zero => simp [DataW.trod] at h
      | succ n =>
        unfold DataW.trod at h
        rw [hu] at h
        simp only at h
        split at h
        · rename_i hlen
          obtain ⟨xs, hx, _⟩ := Option.map_eq_some_iff.1 h
          have hlen2 : cs.length = r.size := by rw [hlen, hsz]
          refine ⟨?_, hlen2⟩
          have := ih.2 (fuel := n) (cs := cs) (ι := ι) (H := H) hf.1 (fun f hfm => ?_) (by omega) hS
          · rw [List.drop_zero] at this
            obtain ⟨x, ι', H', cs', h⟩ := this
            exact ⟨x, ι', H', cs', h⟩
          · obtain ⟨i, hi⟩ := List.mem_iff_getElem?.1 hfm
            have h2 := mapM_some_get hx i f hi
            have hil : i < xs.length := by
              rw [mapM_some_length hx]; exact (List.getElem?_eq_some_iff.1 hi).1
            exact ⟨xs[i], by rw [h2]; exact List.getElem?_eq_getElem hil⟩
        · cases h
    · cases hf
  | unit =>
    refine ⟨fun hf => by simp [Ty.fits] at hf, fun {fs off fuel cs ι H} hf h hl hS => ?_⟩
    have : cs.drop off = [] := List.drop_eq_nil_of_le (by simp [hl, Ty.size])
    rw [this]
    exact ⟨(), ι, H, [], trivial, .refl _, hS, .refl _, .nil, rfl⟩
  | pair f r ihf ihr =>
    refine ⟨fun hf => by simp [Ty.fits] at hf, fun {fs off fuel cs ι H} hf h hl hS => ?_⟩
    cases fs with
    | nil => simp [Ty.fits] at hf
    | cons fd fs =>
      simp only [Ty.fits, Bool.and_eq_true] at hf
      obtain ⟨⟨⟨h1, h2⟩, h3⟩, h4⟩ := hf
      have h2 := Nat.eq_of_beq_eq_true h2
      have h3 := Nat.eq_of_beq_eq_true h3
      obtain ⟨d, hd⟩ := h fd (by simp)
      rw [h2, h3] at hd
      obtain ⟨⟨x, ι1, H1, cs1, hwx, hle1, hS1, hHl1, hrv1, hrd1⟩, hl1⟩ := ihf.1 h1 hd hS
      have hl2 : cs.length = off + (f.size + r.size) := hl
      obtain ⟨y, ι2, H2, cs2, hwy, hle2, hS2, hHl2, hrv2, hrd2⟩ := ihr.2 (cs := cs) h4 (fun g hg => h g (by simp [hg])) (by omega) hS1
      have hc1 : cs1.length = f.size := by rw [hrv1.1, hl1]
      refine ⟨(x, y), ι2, H2, cs1 ++ cs2, ⟨hwx, hwy⟩, hle1.trans hle2, hS2, hHl1.trans hHl2, ?_, ?_, ?_⟩
      · have : cs.drop off = (cs.drop off).take f.size ++ cs.drop (off + f.size) := by
          rw [← List.drop_drop, List.take_append_drop]
        rw [this]
        exact (hrv1.mono hle2).append hrv2
      · rw [← hc1, List.take_left]; exact hrd1.mono f hHl2
      · rw [← hc1, List.drop_left]; exact hrd2
end
end Go.Proofs.YtlpibiaokpbhbaaGreatDoor.A
