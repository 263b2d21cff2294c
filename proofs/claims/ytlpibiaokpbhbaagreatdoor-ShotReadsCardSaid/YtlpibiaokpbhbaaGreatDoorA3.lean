/- How a heap of the abstract machine stands to a world of the model; what keeps that relation. -/
import Derived.Test.YtlpibiaokpbhbaaGreatDoorA2
import Derived.Laws.Cells
import Derived.Laws.Rows
import Derived.Tactics
namespace Go.Proofs.YtlpibiaokpbhbaaGreatDoor.A
set_option linter.unusedVariables false
set_option linter.unusedSimpArgs false

inductive RV (ι : Nat → Option Loc) : Value → Value → Prop where
  | sc {v : Value} : Scalar v = true → RV ι v v
  | un {v' : Value} : RV ι (.tuple #[]) v'
  | nw : RV ι (.tuple #[.tuple #[]]) (.tuple #[])
  | ptr {id o : Nat} {l : Loc} : ι id = some l → RV ι (.pointer (some ⟨id, o, none⟩)) (.pointer (some ⟨l.blk, l.base + o, none⟩))
  | slc {id o n c c' : Nat} {l : Loc} : ι id = some l → n ≤ c → c ≤ c' → (l.grow = false → c' = c) → l.base + o + c' * l.es ≤ l.tot →
      RV ι (.slice (some ⟨id, o, none⟩) n c) (.slice (some ⟨l.blk, l.base + o, none⟩) n c')
  | slcE {id o j c' : Nat} {a' : Addr} : (j = 0 → c' = 0) → RV ι (.slice (some ⟨id, o, some j⟩) 0 0) (.slice (some a') 0 c')
  | mp {id : Nat} {l : Loc} : ι id = some l → RV ι (.map (some id)) (.map (some l.blk))
  | fn {f : Fn} {a a' b b' : Array Value} : (∀ l, f ≠ .yield l) → a.size = a'.size → (∀ i, i < a.size → RV ι (a.getD i undef) (a'.getD i undef)) →
      b.size = b'.size → (∀ i, i < b.size → RV ι (b.getD i undef) (b'.getD i undef)) → RV ι (.func f a b) (.func f a' b')
  | yl {id : Nat} {l : Loc} : ι id = some l → RV ι (.func (.yield id) #[] #[]) (.func (.yield l.blk) #[] #[])
  | ifc {t : TypeId} {v v' : Value} : RV ι v v' → RV ι (.iface t v) (.iface t v')
  | agg {a a' : Array Value} : a.size = a'.size → (∀ i, i < a.size → RV ι (a.getD i undef) (a'.getD i undef)) → RV ι (.agg a) (.agg a')
  | tup {a a' : Array Value} : a.size = a'.size → (∀ i, i < a.size → RV ι (a.getD i undef) (a'.getD i undef)) → RV ι (.tuple a) (.tuple a')

def Le (ι ι' : Nat → Option Loc) : Prop := ∀ i l, ι i = some l → ι' i = some l

theorem Le.refl (ι : Nat → Option Loc) : Le ι ι := fun _ _ h => h
theorem Le.trans {ι ι' ι'' : Nat → Option Loc} (h : Le ι ι') (h' : Le ι' ι'') : Le ι ι'' := fun i l e => h' i l (h i l e)

theorem RV.mono {ι ι' : Nat → Option Loc} (hl : Le ι ι') {v v' : Value} (h : RV ι v v') : RV ι' v v' := by
  induction h with
  | sc h => exact .sc h
  | un => exact .un
  | nw => exact .nw
  | ptr h => exact .ptr (hl _ _ h)
  | slc h a b c d => exact .slc (hl _ _ h) a b c d
  | slcE h => exact .slcE h
  | mp h => exact .mp (hl _ _ h)
  | fn n a _ b _ h1 h2 => exact .fn n a h1 b h2
  | yl h => exact .yl (hl _ _ h)
  | ifc _ h => exact .ifc h
  | agg a _ h => exact .agg a h
  | tup a _ h => exact .tup a h

/-- Rows of values. -/
def RVs (ι : Nat → Option Loc) (a b : List Value) : Prop := a.length = b.length ∧ ∀ i, i < a.length → RV ι (a.getD i undef) (b.getD i undef)

theorem RVs.mono {ι ι' : Nat → Option Loc} (hl : Le ι ι') {a b : List Value} (h : RVs ι a b) : RVs ι' a b := ⟨h.1, fun i hi => (h.2 i hi).mono hl⟩

theorem RVs.nil {ι : Nat → Option Loc} : RVs ι [] [] := ⟨rfl, fun _ h => by cases h⟩

theorem RVs.cons {ι : Nat → Option Loc} {v v' : Value} {a b : List Value} (hv : RV ι v v') (h : RVs ι a b) : RVs ι (v :: a) (v' :: b) :=
  ⟨by simp [h.1], fun i hi => by
    cases i with
    | zero => simpa using hv
    | succ i => simpa using h.2 i (by simpa using hi)⟩

theorem RVs.tail {ι : Nat → Option Loc} {v v' : Value} {a b : List Value} (h : RVs ι (v :: a) (v' :: b)) : RVs ι a b :=
  ⟨by simpa using h.1, fun i hi => by simpa using h.2 (i + 1) (by simpa using hi)⟩

theorem RVs.head {ι : Nat → Option Loc} {v v' : Value} {a b : List Value} (h : RVs ι (v :: a) (v' :: b)) : RV ι v v' := by
  simpa using h.2 0 (by simp)

theorem RVs.cons_inv {ι : Nat → Option Loc} {v : Value} {a b : List Value} (h : RVs ι (v :: a) b) : ∃ v' b', b = v' :: b' ∧ RV ι v v' ∧ RVs ι a b' := by
  cases b with
  | nil => have := h.1; simp at this
  | cons v' b' => exact ⟨v', b', rfl, h.head, h.tail⟩

theorem RVs.nil_inv {ι : Nat → Option Loc} {b : List Value} (h : RVs ι [] b) : b = [] := by
  have := h.1
  cases b with
  | nil => rfl
  | cons => simp at this

theorem RVs.append {ι : Nat → Option Loc} {a b : List Value} : ∀ {c d : List Value}, RVs ι a b → RVs ι c d → RVs ι (a ++ c) (b ++ d) := by
  induction a generalizing b with
  | nil => intro c d h h'; rw [h.nil_inv]; exact h'
  | cons v a ih =>
    intro c d h h'
    obtain ⟨v', b', rfl, hv, hb⟩ := h.cons_inv
    exact .cons hv (ih hb h')

theorem RVs.drop {ι : Nat → Option Loc} {a b : List Value} (h : RVs ι a b) (n : Nat) : RVs ι (a.drop n) (b.drop n) :=
  ⟨by simp [h.1], fun i hi => by
    have := h.2 (n + i) (by simp at hi; omega)
    simpa [List.getD_eq_getElem?_getD, List.getElem?_drop] using this⟩

theorem RVs.take {ι : Nat → Option Loc} {a b : List Value} (h : RVs ι a b) (n : Nat) : RVs ι (a.take n) (b.take n) :=
  ⟨by simp [h.1], fun i hi => by
    have hn : i < n := by simp at hi; omega
    have := h.2 i (by simp at hi; omega)
    simpa [List.getD_eq_getElem?_getD, List.getElem?_take, hn] using this⟩

theorem RVs.set {ι : Nat → Option Loc} {a b : List Value} {v v' : Value} (h : RVs ι a b) (n : Nat) (hv : RV ι v v') : RVs ι (a.set n v) (b.set n v') :=
  ⟨by simp [h.1], fun i hi => by
    have hi' : i < a.length := by simpa using hi
    have hb : i < b.length := h.1 ▸ hi'
    have := h.2 i hi'
    by_cases e : n = i
    · subst e; simpa [List.getD_eq_getElem?_getD, List.getElem?_set, hi', hb] using hv
    · simpa [List.getD_eq_getElem?_getD, List.getElem?_set, e] using this⟩

theorem RVs.of_arr {ι : Nat → Option Loc} {a a' : Array Value} (h : a.size = a'.size) (h' : ∀ i, i < a.size → RV ι (a.getD i undef) (a'.getD i undef)) :
    RVs ι a.toList a'.toList :=
  ⟨by simpa using h, fun i hi => by
    have := h' i (by simpa using hi)
    simpa [List.getD_eq_getElem?_getD, Array.getD_eq_getD_getElem?] using this⟩

theorem RVs.to_arr {ι : Nat → Option Loc} {a a' : Array Value} (h : RVs ι a.toList a'.toList) :
    a.size = a'.size ∧ ∀ i, i < a.size → RV ι (a.getD i undef) (a'.getD i undef) :=
  ⟨by simpa using h.1, fun i hi => by
    have := h.2 i (by simpa using hi)
    simpa [List.getD_eq_getElem?_getD, Array.getD_eq_getD_getElem?] using this⟩

theorem RV.aggL {ι : Nat → Option Loc} {a a' : List Value} (h : RVs ι a a') : RV ι (.agg a.toArray) (.agg a'.toArray) := by
  obtain ⟨h1, h2⟩ := RVs.to_arr (a := a.toArray) (a' := a'.toArray) (by simpa using h)
  exact .agg h1 h2

theorem RV.tupL {ι : Nat → Option Loc} {a a' : List Value} (h : RVs ι a a') : RV ι (.tuple a.toArray) (.tuple a'.toArray) := by
  obtain ⟨h1, h2⟩ := RVs.to_arr (a := a.toArray) (a' := a'.toArray) (by simpa using h)
  exact .tup h1 h2

/-! inversions -/

section
variable {ι : Nat → Option Loc} {v' : Value}
theorem RV.int_inv {k : IntKind} {n : Int} (h : RV ι (.int k n) v') : v' = .int k n := by cases h; rfl
theorem RV.bool_inv {b : Bool} (h : RV ι (.bool b) v') : v' = .bool b := by cases h; rfl
theorem RV.string_inv {s : ByteArray} (h : RV ι (.string s) v') : v' = .string s := by cases h; rfl
theorem RV.scalar_inv {v : Value} (hs : Scalar v = true) (h : RV ι v v') : v' = v := by
  cases h <;> first | rfl | simp [Scalar] at hs
theorem RV.ptr_inv {id o : Nat} (h : RV ι (.pointer (some ⟨id, o, none⟩)) v') : ∃ l, ι id = some l ∧ v' = .pointer (some ⟨l.blk, l.base + o, none⟩) := by
  cases h with
  | sc h => simp [Scalar] at h
  | ptr h => exact ⟨_, h, rfl⟩
theorem RV.slc_inv {id o n c : Nat} (h : RV ι (.slice (some ⟨id, o, none⟩) n c) v') :
    ∃ l c', ι id = some l ∧ n ≤ c ∧ c ≤ c' ∧ (l.grow = false → c' = c) ∧ l.base + o + c' * l.es ≤ l.tot ∧ v' = .slice (some ⟨l.blk, l.base + o, none⟩) n c' := by
  cases h with
  | sc h => simp [Scalar] at h
  | slc h1 h2 h3 h4 h5 => exact ⟨_, _, h1, h2, h3, h4, h5, rfl⟩
theorem RV.slcE_inv {id o j n c : Nat} (h : RV ι (.slice (some ⟨id, o, some j⟩) n c) v') :
    n = 0 ∧ c = 0 ∧ ∃ a' c', (j = 0 → c' = 0) ∧ v' = .slice (some a') 0 c' := by
  cases h with
  | sc h => simp [Scalar] at h
  | slcE h => exact ⟨rfl, rfl, _, _, h, rfl⟩
theorem RV.nils_inv {n c : Nat} (h : RV ι (.slice none n c) v') : n = 0 ∧ c = 0 ∧ v' = .slice none 0 0 := by
  cases h with
  | sc h =>
    unfold Scalar at h
    split at h <;> first | contradiction | skip
    all_goals simp_all
theorem RV.map_inv {id : Nat} (h : RV ι (.map (some id)) v') : ∃ l, ι id = some l ∧ v' = .map (some l.blk) := by
  cases h with
  | sc h => simp [Scalar] at h
  | mp h => exact ⟨_, h, rfl⟩
theorem RV.agg_inv {a : Array Value} (h : RV ι (.agg a) v') : ∃ a', v' = .agg a' ∧ RVs ι a.toList a'.toList := by
  cases h with
  | sc h => simp [Scalar] at h
  | agg h1 h2 => exact ⟨_, rfl, .of_arr h1 h2⟩
theorem RV.ifc_inv {t : TypeId} {v : Value} (h : RV ι (.iface t v) v') : ∃ u, v' = .iface t u ∧ RV ι v u := by
  cases h with
  | sc h => simp [Scalar] at h
  | ifc h => exact ⟨_, rfl, h⟩
theorem RV.fn_any {f : Fn} {a b : Array Value} (h : RV ι (.func f a b) v') : ∃ f' a' b', v' = .func f' a' b' := by
  cases h with
  | sc h => simp [Scalar] at h
  | fn _ _ _ _ _ => exact ⟨_, _, _, rfl⟩
  | yl _ => exact ⟨_, _, _, rfl⟩
theorem RV.yl_inv {id : Nat} {a b : Array Value} (h : RV ι (.func (.yield id) a b) v') : a = #[] ∧ b = #[] ∧ ∃ l, ι id = some l ∧ v' = .func (.yield l.blk) #[] #[] := by
  cases h with
  | sc h => simp [Scalar] at h
  | fn hn _ _ _ _ => exact absurd rfl (hn id)
  | yl h => exact ⟨rfl, rfl, _, h, rfl⟩
theorem RV.fn_inv {g : FuncId} {a b : Array Value} (h : RV ι (.func (.func g) a b) v') :
    ∃ a' b', v' = .func (.func g) a' b' ∧ RVs ι a.toList a'.toList ∧ RVs ι b.toList b'.toList := by
  cases h with
  | sc h => simp [Scalar] at h
  | fn hn h1 h2 h3 h4 => exact ⟨_, _, rfl, .of_arr h1 h2, .of_arr h3 h4⟩
end

theorem RV.oneCell {ι : Nat → Option Loc} {v v' : Value} (h : RV ι v v') (hv : A.oneCell v = true) : v'.oneCell' = true := by
  cases h <;> first | rfl | (simp [A.oneCell] at hv; done) | skip
  all_goals (rename_i h; revert h hv; cases v <;> simp [Scalar, A.oneCell, Value.oneCell'])

/-! objects -/

def EntL (ι : Nat → Option Loc) : List (Value × Value × Nat) → List MapEntry → Prop
  | [], [] => True
  | e :: es, n :: ns => (Scalar e.1 = true ∧ n.key = e.1 ∧ RV ι e.2.1 n.val ∧ n.born = e.2.2) ∧ EntL ι es ns
  | _, _ => False

def EntR (ι : Nat → Option Loc) (es : List (Value × Value × Nat)) (en : Array MapEntry) : Prop := EntL ι es en.toList

/-- A key and its element. -/
def kv (e : Value × Value × Nat) : Value × Value := (e.1, e.2.1)

structure StrK (es : List (Value × Value × Nat)) : Prop where
  str : ∀ e ∈ es, ∃ s, e.1 = .string s
  nod : (es.map (·.1)).Nodup

/-- Stamps below the clock, no two alike. -/
structure StampL (es : List (Value × Value × Nat)) (clk : Nat) : Prop where
  lt : ∀ e ∈ es, e.2.2 < clk
  nod : (es.map (·.2.2)).Nodup

/-- The same entries, in some order, under some stamps. -/
structure PermU (es2 : List (Value × Value × Nat)) (clk : Nat) (es : List (Value × Value × Nat)) : Prop where
  perm : (es2.map kv).Perm (es.map kv)
  k : StrK es
  st : StampL es2 clk

/-- No cell below t is frozen. -/
def FrOK (t : Nat) (fr : Nat × Nat) : Prop := fr.1 = fr.2 ∨ t ≤ fr.1

theorem FrOK.not {t : Nat} {fr : Nat × Nat} (h : FrOK t fr) {i : Nat} (hi : i < t) : ¬ (fr.1 ≤ i ∧ i < fr.2) := by
  rcases h with h | h <;> omega

/-- A world, and blocks that are kept as they are: those of deferred calls. -/
structure Base extends World where
  prot : List Nat := []
  /-- Those of the activation itself. -/
  own : List Nat := []

abbrev b0 (w : World) : Base := { toWorld := w, prot := [], own := [] }

def ObjR (w0 : Base) (ι : Nat → Option Loc) (id : Nat) (o : AObj) (w : World) : Prop :=
  match o with
  | .dead => True
  | .view _ _ _ => ∃ l, ι id = some l ∧ l.blk < w.heap.size
  | .cells cs es grow ro => ∃ l c el fr, ι id = some l ∧ l.es = es ∧ l.grow = grow ∧ w.heap[l.blk]? = some (.cells c el fr) ∧
      l.base + cs.length ≤ l.tot ∧ l.tot ≤ c.size ∧ RVs ι cs ((c.toList.drop l.base).take cs.length) ∧
      (ro = false → w0.heap.size ≤ l.blk ∧ FrOK l.tot fr ∧ (l.grow = false → l.base = 0)) ∧ (ro = true → l.blk < w0.heap.size) ∧ (∀ v ∈ cs, oneCell v = true)
  | .map es clk => ∃ l en, ι id = some l ∧ w.heap[l.blk]? = some (.map en clk) ∧ w0.heap.size ≤ l.blk ∧ EntR ι es en
  | .mapU es => ∃ l en clk es2, ι id = some l ∧ w.heap[l.blk]? = some (.map en clk) ∧ w0.heap.size ≤ l.blk ∧ EntR ι es2 en ∧ PermU es2 clk es
  | .loop fn _ _ _ cd regs st pd => ∃ l rf tmps D, ι id = some l ∧ w.heap[l.blk]? = some (.loop { state := st, pending := pd, fn := rf, tmps := tmps, params := cd.1, assign := cd.2.1, body := cd.2.2, defers := D }) ∧ w0.heap.size ≤ l.blk ∧
      tmps.size = fn.ntmps ∧ ∀ t, RV ι (rget regs t) (tmps.getD t undef)

/-- An object that may be written. -/
def AObj.wr : AObj → Bool
  | .cells _ _ _ ro => !ro
  | .map _ _ => true
  | .mapU _ => true
  | .dead => false
  | .view _ _ _ => false
  | .loop _ _ _ _ _ _ _ _ => true

def AObj.isV : AObj → Bool
  | .view _ _ _ => true
  | _ => false

/-- What a row that was given up still is: the beginning of the one that came of it, in one block; or a block that nobody writes. -/
def ViewR (ι : Nat → Option Loc) (H : Heap) (w : World) (cs : List Value) (nx : Nat) (l : Loc) : Prop :=
  (∃ l', ι nx = some l' ∧ l'.blk = l.blk ∧ l'.base = l.base) ∨
  ((∃ c el fr, w.heap[l.blk]? = some (.cells c el fr) ∧ l.base + cs.length ≤ c.size ∧ RVs ι cs ((c.toList.drop l.base).take cs.length)) ∧
    ∀ i oi li, H[i]? = some oi → oi.wr = true → ι i = some li → li.blk ≠ l.blk)

structure Sim (G : Nat) (w0 : Base) (ι : Nat → Option Loc) (H : Heap) (w : World) : Prop where
  obj : ∀ id o, H[id]? = some o → ObjR w0 ι id o w
  inj : ∀ (id1 id2 : Nat) (o1 o2 : AObj) (l1 l2 : Loc), H[id1]? = some o1 → H[id2]? = some o2 → o1.wr = true → o2.wr = true → ι id1 = some l1 → ι id2 = some l2 → l1.blk = l2.blk → id1 = id2
  size : w0.heap.size ≤ w.heap.size
  old : ∀ b, b < w0.heap.size → w.heap[b]? = w0.heap[b]?
  dom : ∀ id l, ι id = some l → id < H.length
  glob : ∀ g, g < G → ∃ l, ι g = some l ∧ l.blk = g ∧ l.base = 0
  rest : w.os = w0.os ∧ w.tape = w0.tape ∧ w.output = w0.output
  prot : ∀ b ∈ w0.prot, w.heap[b]? = some (.deferred (some [])) ∧ w0.heap.size ≤ b ∧ ∀ (id : Nat) (o : AObj) (l : Loc), H[id]? = some o → o ≠ .dead → ι id = some l → l.blk ≠ b
  views : ∀ j cs es nx l, H[j]? = some (.view cs es nx) → ι j = some l → ViewR ι H w cs nx l

theorem EntL.mono {ι ι' : Nat → Option Loc} (hl : Le ι ι') : ∀ {es : List (Value × Value × Nat)} {en : List MapEntry}, EntL ι es en → EntL ι' es en
  | [], [], _ => trivial
  | _ :: _, _ :: _, h => ⟨⟨h.1.1, h.1.2.1, h.1.2.2.1.mono hl, h.1.2.2.2⟩, h.2.mono hl⟩
  | [], _ :: _, h => h.elim
  | _ :: _, [], h => h.elim

theorem EntR.mono {ι ι' : Nat → Option Loc} (hl : Le ι ι') {es : List (Value × Value × Nat)} {en : Array MapEntry} (h : EntR ι es en) : EntR ι' es en := EntL.mono hl h

theorem EntL.length {ι : Nat → Option Loc} : ∀ {es : List (Value × Value × Nat)} {en : List MapEntry}, EntL ι es en → es.length = en.length
  | [], [], _ => rfl
  | _ :: _, _ :: _, h => by simp [h.2.length]
  | [], _ :: _, h => h.elim
  | _ :: _, [], h => h.elim

/-- The world's blocks may turn where objects that may be written lie; and there may be objects more, or less, elsewhere. -/
theorem ViewR.to {ι ι' : Nat → Option Loc} {H H' : Heap} {w w' : World} {cs : List Value} {nx : Nat} {l : Loc} (h : ViewR ι H w cs nx l) (hle : Le ι ι') (hk : (∀ i oi li, H[i]? = some oi → oi.wr = true → ι i = some li → li.blk ≠ l.blk) → (∃ c el fr, w.heap[l.blk]? = some (.cells c el fr)) →
    (∀ c el fr, w.heap[l.blk]? = some (.cells c el fr) → ∃ fr', w'.heap[l.blk]? = some (.cells c el fr')) ∧ ∀ i oi li, H'[i]? = some oi → oi.wr = true → ι' i = some li → li.blk ≠ l.blk) : ViewR ι' H' w' cs nx l := by
  rcases h with ⟨l', h1, h2⟩ | ⟨⟨c, el, fr, h1, h2, h3⟩, h4⟩
  · exact .inl ⟨l', hle _ _ h1, h2⟩
  · obtain ⟨k1, k2⟩ := hk h4 ⟨c, el, fr, h1⟩
    obtain ⟨fr', k3⟩ := k1 c el fr h1
    exact .inr ⟨⟨c, el, fr', k3, h2, h3.mono hle⟩, k2⟩

theorem ObjR.mono {w0 : Base} {ι ι' : Nat → Option Loc} (hl : Le ι ι') {id : Nat} {o : AObj} {w : World} (h : ObjR w0 ι id o w) : ObjR w0 ι' id o w := by
  cases o with
  | dead => trivial
  | view cs es nx => obtain ⟨l, h1, h2⟩ := h; exact ⟨l, hl _ _ h1, h2⟩
  | cells cs es grow ro =>
    obtain ⟨l, c, el, fr, h1, h2, h3, h4, h5, h6, h7, h8⟩ := h
    exact ⟨l, c, el, fr, hl _ _ h1, h2, h3, h4, h5, h6, h7.mono hl, h8⟩
  | map es clk =>
    obtain ⟨l, en, h1, h2, h3, h4⟩ := h
    exact ⟨l, en, hl _ _ h1, h2, h3, h4.mono hl⟩
  | mapU es =>
    obtain ⟨l, en, clk, es2, h1, h2, h3, h4, h5⟩ := h
    exact ⟨l, en, clk, es2, hl _ _ h1, h2, h3, h4.mono hl, h5⟩
  | loop fn lv p xs cd regs st pd =>
    obtain ⟨l, rf, tmps, D, h1, h2, h3, h5, h6⟩ := h
    exact ⟨l, rf, tmps, D, hl _ _ h1, h2, h3, h5, fun t => (h6 t).mono hl⟩

/-- The block of an object. -/
theorem ObjR.blk {w0 : Base} {ι : Nat → Option Loc} {id : Nat} {o : AObj} {w w' : World} (h : ObjR w0 ι id o w)
    (hh : ∀ l, ι id = some l → o ≠ .dead → w'.heap[l.blk]? = w.heap[l.blk]?) : ObjR w0 ι id o w' := by
  cases o with
  | dead => trivial
  | view cs es nx =>
    obtain ⟨l, h1, h2⟩ := h
    refine ⟨l, h1, ?_⟩
    have h3 := hh l h1 (by simp)
    rcases Nat.lt_or_ge l.blk w'.heap.size with h4 | h4
    · exact h4
    · rw [Array.getElem?_eq_none h4, Array.getElem?_eq_getElem h2] at h3; cases h3
  | cells cs es grow ro =>
    obtain ⟨l, c, el, fr, h1, h2, h3, h4, h5⟩ := h
    exact ⟨l, c, el, fr, h1, h2, h3, by rw [hh l h1 (by simp)]; exact h4, h5⟩
  | map es clk =>
    obtain ⟨l, en, h1, h2, h3⟩ := h
    exact ⟨l, en, h1, by rw [hh l h1 (by simp)]; exact h2, h3⟩
  | mapU es =>
    obtain ⟨l, en, clk, es2, h1, h2, h3⟩ := h
    exact ⟨l, en, clk, es2, h1, by rw [hh l h1 (by simp)]; exact h2, h3⟩
  | loop fn lv p xs cd regs st pd =>
    obtain ⟨l, rf, tmps, D, h1, h2, h3⟩ := h
    exact ⟨l, rf, tmps, D, h1, by rw [hh l h1 (by simp)]; exact h2, h3⟩

theorem ObjR.old {w0 : Base} {ι : Nat → Option Loc} {id : Nat} {o : AObj} {w : World} (h : ObjR w0 ι id o w) (hne : o ≠ .dead) (hwr : o.wr = false) (hv : o.isV = false) :
    ∀ l, ι id = some l → l.blk < w0.heap.size := by
  intro l hl
  cases o with
  | dead => exact absurd rfl hne
  | view cs es nx => cases hv
  | cells cs es grow ro =>
    obtain ⟨l', c, el, fr, h1, _, _, _, _, _, _, _, h8⟩ := h
    rw [hl] at h1; cases h1
    exact h8.1 (by simpa [AObj.wr] using hwr)
  | map es clk => simp [AObj.wr] at hwr
  | mapU es => simp [AObj.wr] at hwr
  | loop fn lv p xs cd regs st pd => simp [AObj.wr] at hwr

theorem ObjR.newer {w0 : Base} {ι : Nat → Option Loc} {id : Nat} {o : AObj} {w : World} (h : ObjR w0 ι id o w) (hwr : o.wr = true) :
    ∀ l, ι id = some l → w0.heap.size ≤ l.blk ∧ l.blk < w.heap.size := by
  intro l hl
  cases o with
  | dead => simp [AObj.wr] at hwr
  | view cs es nx => simp [AObj.wr] at hwr
  | cells cs es grow ro =>
    obtain ⟨l', c, el, fr, h1, _, _, h4, _, _, _, h7, _⟩ := h
    rw [hl] at h1; cases h1
    refine ⟨(h7 (by simpa [AObj.wr] using hwr)).1, ?_⟩
    rcases Nat.lt_or_ge l.blk w.heap.size with h | h
    · exact h
    · rw [Array.getElem?_eq_none h] at h4; cases h4
  | map es clk =>
    obtain ⟨l', en, h1, h2, h3, _⟩ := h
    rw [hl] at h1; cases h1
    refine ⟨h3, ?_⟩
    rcases Nat.lt_or_ge l.blk w.heap.size with h | h
    · exact h
    · rw [Array.getElem?_eq_none h] at h2; cases h2
  | mapU es =>
    obtain ⟨l', en, clk, es2, h1, h2, h3, _⟩ := h
    rw [hl] at h1; cases h1
    refine ⟨h3, ?_⟩
    rcases Nat.lt_or_ge l.blk w.heap.size with h | h
    · exact h
    · rw [Array.getElem?_eq_none h] at h2; cases h2
  | loop fn lv p xs cd regs st pd =>
    obtain ⟨l', rf, tmps, D, h1, h2, h3, _⟩ := h
    rw [hl] at h1; cases h1
    refine ⟨h3, ?_⟩
    rcases Nat.lt_or_ge l.blk w.heap.size with h | h
    · exact h
    · rw [Array.getElem?_eq_none h] at h2; cases h2

theorem ObjR.loc {w0 : Base} {ι : Nat → Option Loc} {id : Nat} {o : AObj} {w : World} (h : ObjR w0 ι id o w) (hne : o ≠ .dead) :
    ∃ l, ι id = some l ∧ l.blk < w.heap.size := by
  cases o with
  | dead => exact absurd rfl hne
  | view cs es nx => exact h
  | cells cs es grow ro =>
    obtain ⟨l', c, el, fr, h1, _, _, h4, _⟩ := h
    refine ⟨l', h1, ?_⟩
    rcases Nat.lt_or_ge l'.blk w.heap.size with h | h
    · exact h
    · rw [Array.getElem?_eq_none h] at h4; cases h4
  | map es clk =>
    obtain ⟨l', en, h1, h2, _⟩ := h
    refine ⟨l', h1, ?_⟩
    rcases Nat.lt_or_ge l'.blk w.heap.size with h | h
    · exact h
    · rw [Array.getElem?_eq_none h] at h2; cases h2
  | mapU es =>
    obtain ⟨l', en, clk, es2, h1, h2, _⟩ := h
    refine ⟨l', h1, ?_⟩
    rcases Nat.lt_or_ge l'.blk w.heap.size with h | h
    · exact h
    · rw [Array.getElem?_eq_none h] at h2; cases h2
  | loop fn lv p xs cd regs st pd =>
    obtain ⟨l', rf, tmps, D, h1, h2, _⟩ := h
    refine ⟨l', h1, ?_⟩
    rcases Nat.lt_or_ge l'.blk w.heap.size with h | h
    · exact h
    · rw [Array.getElem?_eq_none h] at h2; cases h2

/-- Only the heap counts. -/
theorem Sim.congr {G : Nat} {w0 : Base} {ι : Nat → Option Loc} {H : Heap} {w w' : World} (h : Sim G w0 ι H w) (hh : w'.heap = w.heap) (hr : w'.os = w.os ∧ w'.tape = w.tape ∧ w'.output = w.output := by exact ⟨rfl, rfl, rfl⟩) : Sim G w0 ι H w' :=
  ⟨fun id o ho => (h.obj id o ho).blk (fun _ _ _ => by rw [hh]), h.inj, by rw [hh]; exact h.size, fun b hb => by rw [hh]; exact h.old b hb, h.dom, h.glob, by rw [hr.1, hr.2.1, hr.2.2]; exact h.rest, fun b hb => by rw [hh]; exact h.prot b hb, fun j cs es nx l hj hl => (h.views j cs es nx l hj hl).to (.refl ι) fun h1 _ => ⟨fun c el fr hc => ⟨fr, by rw [hh]; exact hc⟩, h1⟩⟩

def setB (w : World) (b : Nat) (o : Obj) : World := { w with heap := w.heap.setIfInBounds b o }

theorem setB_same {w : World} {b : Nat} {o : Obj} (h : b < w.heap.size) : (setB w b o).heap[b]? = some o := by simp [setB, h]
theorem setB_other {w : World} {b c : Nat} {o : Obj} (h : c ≠ b) : (setB w b o).heap[c]? = w.heap[c]? := by
  simp [setB, Array.getElem?_setIfInBounds_ne (Ne.symm h)]
@[simp] theorem setB_size {w : World} {b : Nat} {o : Obj} : (setB w b o).heap.size = w.heap.size := by simp [setB]

/-- An object that may be written is written. -/
theorem Sim.set {G : Nat} {w0 : Base} {ι : Nat → Option Loc} {H : Heap} {w : World} (h : Sim G w0 ι H w) {id : Nat} {old new : AObj} {l : Loc} {o' : Obj}
    (hid : H[id]? = some old) (hwr : old.wr = true) (hl : ι id = some l) (hwr' : new.wr = true)
    (hR : ∀ w' : World, w'.heap[l.blk]? = some o' → ObjR w0 ι id new w') : Sim G w0 ι (H.set id new) (setB w l.blk o') := by
  obtain ⟨hb0, hb1⟩ := (h.obj id old hid).newer hwr l hl
  have hlt : id < H.length := by
    rcases Nat.lt_or_ge id H.length with h | h
    · exact h
    · rw [List.getElem?_eq_none h] at hid; cases hid
  have hget : ∀ i o, (H.set id new)[i]? = some o → (i = id ∧ o = new) ∨ (i ≠ id ∧ H[i]? = some o) := by
    intro i o ho
    by_cases e : id = i
    · subst e; rw [List.getElem?_set_self hlt] at ho; exact .inl ⟨rfl, by simpa using ho.symm⟩
    · rw [List.getElem?_set_ne e] at ho; exact .inr ⟨Ne.symm e, ho⟩
  refine ⟨fun i o ho => ?_, fun i j oi oj li lj hi hj wi wj ei ej eb => ?_, by simpa using h.size, fun b hb => ?_, fun i l' hl' => by simpa using h.dom i l' hl', h.glob, h.rest, fun b hb => ?_, fun j cs es nx l' hj hl' => ?_⟩
  · rcases hget i o ho with ⟨rfl, rfl⟩ | ⟨hne, ho'⟩
    · exact hR _ (setB_same hb1)
    · by_cases hv : o.isV = true
      · cases o with
        | view cs es nx => obtain ⟨l', h1, h2⟩ := h.obj i _ ho'; exact ⟨l', h1, by simpa using h2⟩
        | _ => cases hv
      · refine (h.obj i o ho').blk fun l' hl' hd => setB_other fun hbb => hne ?_
        by_cases hw : o.wr = true
        · exact h.inj i id o old l' l ho' hid hw hwr hl' hl hbb
        · exfalso
          have := (h.obj i o ho').old hd (by simpa using hw) (by simpa using hv) l' hl'
          omega
  · have key : ∀ (i : Nat) (o : AObj), (H.set id new)[i]? = some o → o.wr = true → ∃ o2 : AObj, H[i]? = some o2 ∧ o2.wr = true := by
      intro i o ho hw
      rcases hget i o ho with ⟨rfl, rfl⟩ | ⟨_, ho'⟩
      · exact ⟨old, hid, hwr⟩
      · exact ⟨o, ho', hw⟩
    obtain ⟨o1, h1, w1⟩ := key i oi hi wi
    obtain ⟨o2, h2, w2⟩ := key j oj hj wj
    exact h.inj i j o1 o2 li lj h1 h2 w1 w2 ei ej eb
  · rw [setB_other (by omega)]; exact h.old b hb
  · obtain ⟨p1, p2, p3⟩ := h.prot b hb
    have hod : old ≠ .dead := by intro e; rw [e] at hwr; cases hwr
    refine ⟨by rw [setB_other (Ne.symm (p3 id old l hid hod hl))]; exact p1, p2, fun i o l' ho hd hl' => ?_⟩
    rcases hget i o ho with ⟨rfl, _⟩ | ⟨_, ho'⟩
    · exact p3 i old l' hid hod hl'
    · exact p3 i o l' ho' hd hl'
  · rcases hget j _ hj with ⟨_, e⟩ | ⟨_, hj'⟩
    · rw [← e] at hwr'; cases hwr'
    · refine (h.views j cs es nx l' hj' hl').to (.refl ι) fun h1 _ => ?_
      have hne := h1 id old l hid hwr hl
      refine ⟨fun c el fr hc => ⟨fr, by rw [setB_other (Ne.symm hne)]; exact hc⟩, fun i oi li hi hw hli => ?_⟩
      rcases hget i oi hi with ⟨rfl, _⟩ | ⟨_, hi'⟩
      · rw [hl] at hli; cases hli; exact hne
      · exact h1 i oi li hi' hw hli

/-- An object is given up. -/
theorem Sim.kill {G : Nat} {w0 : Base} {ι : Nat → Option Loc} {H : Heap} {w : World} (h : Sim G w0 ι H w) (id : Nat) : Sim G w0 ι (H.set id .dead) w := by
  have hget : ∀ i o, (H.set id AObj.dead)[i]? = some o → o = .dead ∨ (i ≠ id ∧ H[i]? = some o) := by
    intro i o ho
    rw [List.getElem?_set] at ho
    by_cases e : id = i
    · rw [if_pos e] at ho
      split at ho
      · exact .inl (by simpa using ho.symm)
      · cases ho
    · rw [if_neg e] at ho; exact .inr ⟨Ne.symm e, ho⟩
  refine ⟨fun i o ho => ?_, fun i j oi oj li lj hi hj wi wj ei ej eb => ?_, h.size, h.old, fun i l' hl' => by simpa using h.dom i l' hl', h.glob, h.rest, fun b hb => ?_, fun j cs es nx l' hj hl' => ?_⟩
  · rcases hget i o ho with rfl | ⟨_, ho'⟩
    · trivial
    · exact h.obj i o ho'
  · rcases hget i oi hi with rfl | ⟨_, hi'⟩
    · simp [AObj.wr] at wi
    · rcases hget j oj hj with rfl | ⟨_, hj'⟩
      · simp [AObj.wr] at wj
      · exact h.inj i j oi oj li lj hi' hj' wi wj ei ej eb
  · obtain ⟨p1, p2, p3⟩ := h.prot b hb
    refine ⟨p1, p2, fun i o l' ho hd hl' => ?_⟩
    rcases hget i o ho with rfl | ⟨_, ho'⟩
    · exact absurd rfl hd
    · exact p3 i o l' ho' hd hl'
  · rcases hget j _ hj with e | ⟨_, hj'⟩
    · cases e
    · refine (h.views j cs es nx l' hj' hl').to (.refl ι) fun h1 _ => ⟨fun c el fr hc => ⟨fr, hc⟩, fun i oi li hi hw hli => ?_⟩
      rcases hget i oi hi with rfl | ⟨_, hi'⟩
      · cases hw
      · exact h1 i oi li hi' hw hli

/-- A row is given up, but for reading. -/
theorem Sim.toView {G : Nat} {w0 : Base} {ι : Nat → Option Loc} {H : Heap} {w : World} (h : Sim G w0 ι H w) {id : Nat} {cs : List Value} {es : Nat} {g : Bool} {l : Loc} (hid : H[id]? = some (.cells cs es g false)) (hl : ι id = some l) {vs : List Value} (hvs : ∃ k, vs = cs.take k) (e2 nx : Nat) : Sim G w0 ι (H.set id (.view vs e2 nx)) w := by
  have hget : ∀ i o, (H.set id (AObj.view vs e2 nx))[i]? = some o → (i = id ∧ o = .view vs e2 nx) ∨ (i ≠ id ∧ H[i]? = some o) := by
    intro i o ho
    rw [List.getElem?_set] at ho
    by_cases e : id = i
    · rw [if_pos e] at ho
      split at ho
      · exact .inl ⟨e.symm, by simpa using ho.symm⟩
      · cases ho
    · rw [if_neg e] at ho; exact .inr ⟨Ne.symm e, ho⟩
  have hnw : (AObj.view vs e2 nx).wr = false := rfl
  refine ⟨fun i o ho => ?_, fun i j oi oj li lj hi hj wi wj ei ej eb => ?_, h.size, h.old, fun i l' hl' => by simpa using h.dom i l' hl', h.glob, h.rest, fun b hb => ?_, fun j cs' es' nx' l' hj hl' => ?_⟩
  · rcases hget i o ho with ⟨rfl, rfl⟩ | ⟨_, ho'⟩
    · exact (h.obj _ _ hid).loc (by simp)
    · exact h.obj i o ho'
  · rcases hget i oi hi with ⟨rfl, rfl⟩ | ⟨_, hi'⟩
    · cases wi
    · rcases hget j oj hj with ⟨rfl, rfl⟩ | ⟨_, hj'⟩
      · cases wj
      · exact h.inj i j oi oj li lj hi' hj' wi wj ei ej eb
  · obtain ⟨p1, p2, p3⟩ := h.prot b hb
    refine ⟨p1, p2, fun i o l' ho hd hl' => ?_⟩
    rcases hget i o ho with ⟨rfl, rfl⟩ | ⟨_, ho'⟩
    · exact p3 i _ l' hid (by simp) hl'
    · exact p3 i o l' ho' hd hl'
  · rcases hget j _ hj with ⟨rfl, e⟩ | ⟨_, hj'⟩
    · cases e
      rw [hl] at hl'; cases hl'
      obtain ⟨k, rfl⟩ := hvs
      obtain ⟨l2, c, el, fr, k1, _, _, k4, k5, k6, k7, _⟩ := h.obj _ _ hid
      rw [hl] at k1; cases k1
      refine .inr ⟨⟨c, el, fr, k4, by rw [List.length_take]; omega, ?_⟩, fun i oi li hi hw hli hbe => ?_⟩
      · have := k7.take k
        rw [List.take_take] at this
        rw [List.length_take]; exact this
      · rcases hget i oi hi with ⟨rfl, rfl⟩ | ⟨hne, hi'⟩
        · cases hw
        · exact hne (h.inj i j oi _ li l hi' hid hw rfl hli hl hbe)
    · refine (h.views j cs' es' nx' l' hj' hl').to (.refl ι) fun h1 _ => ⟨fun c el fr hc => ⟨fr, hc⟩, fun i oi li hi hw hli => ?_⟩
      rcases hget i oi hi with ⟨rfl, rfl⟩ | ⟨_, hi'⟩
      · cases hw
      · exact h1 i oi li hi' hw hli

/-- What was given up may be read, where the row that came of it lies in the same block. -/
theorem Sim.deadView {G : Nat} {w0 : Base} {ι : Nat → Option Loc} {H : Heap} {w : World} (h : Sim G w0 ι H w) {id nx : Nat} {l l' : Loc} (hid : H[id]? = some .dead) (hl : ι id = some l) (hb : l.blk < w.heap.size) (hpr : ∀ b ∈ w0.prot, l.blk ≠ b) (hx : ι nx = some l') (h1 : l'.blk = l.blk) (h2 : l'.base = l.base) (vs : List Value) (e2 : Nat) : Sim G w0 ι (H.set id (.view vs e2 nx)) w := by
  have hget : ∀ i o, (H.set id (AObj.view vs e2 nx))[i]? = some o → (i = id ∧ o = .view vs e2 nx) ∨ (i ≠ id ∧ H[i]? = some o) := by
    intro i o ho
    rw [List.getElem?_set] at ho
    by_cases e : id = i
    · rw [if_pos e] at ho
      split at ho
      · exact .inl ⟨e.symm, by simpa using ho.symm⟩
      · cases ho
    · rw [if_neg e] at ho; exact .inr ⟨Ne.symm e, ho⟩
  refine ⟨fun i o ho => ?_, fun i j oi oj li lj hi hj wi wj ei ej eb => ?_, h.size, h.old, fun i l' hl' => by simpa using h.dom i l' hl', h.glob, h.rest, fun b hb => ?_, fun j cs' es' nx' l' hj hl' => ?_⟩
  · rcases hget i o ho with ⟨rfl, rfl⟩ | ⟨_, ho'⟩
    · exact ⟨l, hl, hb⟩
    · exact h.obj i o ho'
  · rcases hget i oi hi with ⟨rfl, rfl⟩ | ⟨_, hi'⟩
    · cases wi
    · rcases hget j oj hj with ⟨rfl, rfl⟩ | ⟨_, hj'⟩
      · cases wj
      · exact h.inj i j oi oj li lj hi' hj' wi wj ei ej eb
  · obtain ⟨p1, p2, p3⟩ := h.prot b hb
    refine ⟨p1, p2, fun i o l' ho hd hl' => ?_⟩
    rcases hget i o ho with ⟨rfl, rfl⟩ | ⟨_, ho'⟩
    · rw [hl] at hl'; cases hl'; exact hpr b hb
    · exact p3 i o l' ho' hd hl'
  · rcases hget j _ hj with ⟨rfl, e⟩ | ⟨_, hj'⟩
    · cases e
      rw [hl] at hl'; cases hl'
      exact .inl ⟨_, hx, h1, h2⟩
    · refine (h.views j cs' es' nx' l' hj' hl').to (.refl ι) fun h1 _ => ⟨fun c el fr hc => ⟨fr, hc⟩, fun i oi li hi hw hli => ?_⟩
      rcases hget i oi hi with ⟨rfl, rfl⟩ | ⟨_, hi'⟩
      · cases hw
      · exact h1 i oi li hi' hw hli

def extι (ι : Nat → Option Loc) (n : Nat) (l : Loc) : Nat → Option Loc := fun i => if i = n then some l else ι i

theorem le_ext {G : Nat} {w0 : Base} {ι : Nat → Option Loc} {H : Heap} {w : World} (h : Sim G w0 ι H w) (l : Loc) : Le ι (extι ι H.length l) := by
  intro i l' hl
  have := h.dom i l' hl
  unfold extι
  rw [if_neg (by omega)]; exact hl

@[simp] theorem ext_self (ι : Nat → Option Loc) (n : Nat) (l : Loc) : extι ι n l n = some l := by simp [extι]

/-- A new object, whose block no other object that may be written has. -/
theorem Sim.add {G : Nat} {w0 : Base} {ι : Nat → Option Loc} {H : Heap} {w : World} (h : Sim G w0 ι H w) {o : AObj} {l : Loc}
    (hR : ObjR w0 (extι ι H.length l) H.length o w) (hfree : ∀ i oi li, H[i]? = some oi → oi.wr = true → ι i = some li → li.blk ≠ l.blk) (hpr : ∀ b ∈ w0.prot, l.blk ≠ b)
    (hvw : o.wr = true → ∀ j cs es nx lj, H[j]? = some (.view cs es nx) → ι j = some lj → lj.blk = l.blk → ∃ l', ι nx = some l' ∧ l'.blk = lj.blk ∧ l'.base = lj.base) (hov : o.isV = false := by rfl) :
    Sim G w0 (extι ι H.length l) (H ++ [o]) w := by
  have hle := le_ext h l
  have hget : ∀ i x, (H ++ [o])[i]? = some x → (i = H.length ∧ x = o) ∨ (i < H.length ∧ H[i]? = some x) := by
    intro i x hx
    rcases Nat.lt_trichotomy i H.length with hi | hi | hi
    · rw [List.getElem?_append_left hi] at hx; exact .inr ⟨hi, hx⟩
    · subst hi; simp at hx; exact .inl ⟨rfl, hx.symm⟩
    · rw [List.getElem?_eq_none (by simp; omega)] at hx; cases hx
  refine ⟨fun i x hx => ?_, fun i j oi oj li lj hi hj wi wj ei ej eb => ?_, h.size, h.old, fun i l' hl' => ?_, fun g hg => ?_, h.rest, fun b hb => ?_, fun j cs es nx lj hj hlj => ?_⟩
  · rcases hget i x hx with ⟨rfl, rfl⟩ | ⟨_, hx'⟩
    · exact hR
    · exact (h.obj i x hx').mono hle
  · have nt : ∀ k lk, k < H.length → extι ι H.length l k = some lk → ι k = some lk := by
      intro k lk hk e
      unfold extι at e
      rw [if_neg (by omega)] at e; exact e
    rcases hget i oi hi with ⟨rfl, rfl⟩ | ⟨hlt, hi'⟩
    · rcases hget j oj hj with ⟨rfl, rfl⟩ | ⟨hlt, hj'⟩
      · rfl
      · rw [ext_self] at ei; cases ei
        exact absurd eb.symm (hfree j oj lj hj' wj (nt j lj hlt ej))
    · rcases hget j oj hj with ⟨rfl, rfl⟩ | ⟨hlt', hj'⟩
      · rw [ext_self] at ej; cases ej
        exact absurd eb (hfree i oi li hi' wi (nt i li hlt ei))
      · exact h.inj i j oi oj li lj hi' hj' wi wj (nt i li hlt ei) (nt j lj hlt' ej) eb
  · unfold extι at hl'
    split at hl'
    · simp; omega
    · have := h.dom i l' hl'; simp; omega
  · obtain ⟨l', h1, h2⟩ := h.glob g hg
    exact ⟨l', hle _ _ h1, h2⟩
  · obtain ⟨p1, p2, p3⟩ := h.prot b hb
    refine ⟨p1, p2, fun i x l' hx hd hl' => ?_⟩
    rcases hget i x hx with ⟨rfl, rfl⟩ | ⟨hlt, hx'⟩
    · rw [ext_self] at hl'; cases hl'
      exact hpr b hb
    · refine p3 i x l' hx' hd ?_
      unfold extι at hl'
      rw [if_neg (by omega)] at hl'; exact hl'
  · rcases hget j _ hj with ⟨_, e⟩ | ⟨hlt, hj'⟩
    · rw [← e] at hov; cases hov
    · have hlj' : ι j = some lj := by
        unfold extι at hlj
        rw [if_neg (by omega)] at hlj; exact hlj
      by_cases hsh : o.wr = true ∧ lj.blk = l.blk
      · obtain ⟨l', k1, k2⟩ := hvw hsh.1 j cs es nx lj hj' hlj' hsh.2
        exact .inl ⟨l', hle _ _ k1, k2⟩
      · refine (h.views j cs es nx lj hj' hlj').to hle fun h1 _ => ⟨fun c el fr hc => ⟨fr, hc⟩, fun i oi li hi hw hli => ?_⟩
        rcases hget i oi hi with ⟨rfl, rfl⟩ | ⟨hlt2, hi'⟩
        · rw [ext_self] at hli; cases hli
          exact fun e => hsh ⟨hw, e.symm⟩
        · refine h1 i oi li hi' hw ?_
          unfold extι at hli
          rw [if_neg (by omega)] at hli; exact hli

def pushO (w : World) (o : Obj) : World := { w with heap := w.heap.push o }

theorem pushO_new (w : World) (o : Obj) : (pushO w o).heap[w.heap.size]? = some o := by unfold pushO; simp
theorem pushO_old (w : World) (o : Obj) {b : Nat} (h : b < w.heap.size) : (pushO w o).heap[b]? = w.heap[b]? := by
  unfold pushO; simp [Array.getElem?_push]; omega

/-- A new block: nothing else turns. -/
theorem Sim.push {G : Nat} {w0 : Base} {ι : Nat → Option Loc} {H : Heap} {w : World} (h : Sim G w0 ι H w) (o : Obj) : Sim G w0 ι H (pushO w o) := by
  refine ⟨fun i x hx => (h.obj i x hx).blk fun l hl hd => ?_, h.inj, by have := h.size; simp [pushO]; omega, fun b hb => ?_, h.dom, h.glob, h.rest, fun b hb => ?_, fun j cs es nx l hj hl => (h.views j cs es nx l hj hl).to (.refl ι) fun h1 ⟨c0, el0, fr0, hc0⟩ => ⟨fun c el fr hc => ⟨fr, by rw [pushO_old w o (Array.getElem?_eq_some_iff.1 hc0).1]; exact hc⟩, h1⟩⟩
  · obtain ⟨l', hl', hlt⟩ := (h.obj i x hx).loc hd
    rw [hl] at hl'; cases hl'
    exact pushO_old w o hlt
  · rw [pushO_old w o (by have := h.size; omega)]; exact h.old b hb
  · obtain ⟨p1, p2, p3⟩ := h.prot b hb
    have hlt : b < w.heap.size := by
      rcases Nat.lt_or_ge b w.heap.size with h1 | h1
      · exact h1
      · rw [Array.getElem?_eq_none h1] at p1; cases p1
    exact ⟨by rw [pushO_old w o hlt]; exact p1, p2, p3⟩

/-- A new block for a new object. -/
theorem Sim.new {G : Nat} {w0 : Base} {ι : Nat → Option Loc} {H : Heap} {w : World} (h : Sim G w0 ι H w) {x : AObj} {l : Loc} (o : Obj) (hb : l.blk = w.heap.size)
    (hR : ObjR w0 (extι ι H.length l) H.length x (pushO w o)) (hov : x.isV = false := by rfl) : Sim G w0 (extι ι H.length l) (H ++ [x]) (pushO w o) := by
  refine (h.push o).add hR (fun i oi li hi wi e => ?_) (fun b hbp => ?_) (fun _ j cs es nx lj hj hlj hbe => ?_) hov
  · have := ((h.obj i oi hi).newer wi li e).2
    omega
  · have p1 := (h.prot b hbp).1
    have hlt : b < w.heap.size := by
      rcases Nat.lt_or_ge b w.heap.size with h1 | h1
      · exact h1
      · rw [Array.getElem?_eq_none h1] at p1; cases p1
    omega
  · rcases h.views j cs es nx lj hj hlj with ⟨l', k1, k2⟩ | ⟨⟨c, el, fr, k1, _⟩, _⟩
    · exact ⟨l', k1, k2⟩
    · have := (Array.getElem?_eq_some_iff.1 k1).1
      omega

end Go.Proofs.YtlpibiaokpbhbaaGreatDoor.A
