/- The abstract machine: a deterministic reading of the model's code on a heap without a tape. Definitions alone. -/
import Derived.Calls
import Derived.RangeFuncNested
import Derived.Orders
namespace Go.Proofs.YtlpibiaokpbhbaaGreatDoor.A
set_option linter.unusedVariables false
set_option linter.unusedSimpArgs false

structure Loc where
  blk : Nat
  base : Nat
  tot : Nat
  es : Nat
  grow : Bool

inductive AObj where
  | cells (cs : List Value) (es : Nat) (grow ro : Bool)
  | map (es : List (Value × Value × Nat)) (clk : Nat)
  /-- A map with texts as keys whose entries stand in some order, under some stamps. -/
  | mapU (es : List (Value × Value × Nat))
  | dead
  /-- A row that an append has given up: it may be read as long as the row that came of it begins alike. -/
  | view (cs : List Value) (es nx : Nat)
  /-- A range over a function: the function whose text it stands in, what is live, its place there, the blocks around, its text (the rounds' parameters, what is done first, the body), the registers, its state, the jump that a round has left. -/
  | loop (fn : Func) (lv : List (Nat × List Nat)) (p : Nat) (xs : List Nat) (cd : Array Tmp × Code × Code) (regs : List (Nat × Value)) (st : LoopState) (pd : Option Code)

abbrev Heap := List AObj
abbrev M (α : Type) := Heap → Option (α × Heap)

def fail {α : Type} : M α := fun _ => none
def ret {α : Type} (a : α) : M α := fun H => some (a, H)
def bind {α β : Type} (m : M α) (k : α → M β) : M β := fun H =>
  match m H with
  | none => none
  | some (a, H') => k a H'

inductive Out where
  | nrm (vs : List Value)
  | ext (id : Nat) (vs : List Value)
  | ret (v : Value)

/-! values -/

def i64 (n : Int) : Value := .int .i64 n

def Scalar : Value → Bool
  | .bool _ | .int _ _ | .float _ _ | .complex _ _ _ | .string _ | .pointer none | .slice none 0 0 | .map none | .chan none | .nilFunc | .nilIface => true
  | _ => false

/-- Bytes as cells. -/
def u8s (l : List UInt8) : List Value := l.map fun b => .int .u8 b.toNat

def constOK : Value → Bool
  | .agg cs => cs.all Scalar
  | .tuple cs => cs.all Scalar
  | v => Scalar v

/-! operations without the heap -/

def iarith (op : BinOp) (k : IntKind) (a b : Int) : Option Value :=
  match op with
  | .add => some (.int k (k.wrap (a + b)))
  | .sub => some (.int k (k.wrap (a - b)))
  | .mul => some (.int k (k.wrap (a * b)))
  | .quo => bif b == 0 then none else some (.int k (k.wrap (a.tdiv b)))
  | .rem => bif b == 0 then none else some (.int k (a.tmod b))
  | .and => some (.int k (k.wrap (BitVec.ofInt k.bits a &&& BitVec.ofInt k.bits b).toNat))
  | .or => some (.int k (k.wrap (BitVec.ofInt k.bits a ||| BitVec.ofInt k.bits b).toNat))
  | .xor => some (.int k (k.wrap (BitVec.ofInt k.bits a ^^^ BitVec.ofInt k.bits b).toNat))
  | .andNot => some (.int k (k.wrap (BitVec.ofInt k.bits a &&& ~~~ BitVec.ofInt k.bits b).toNat))
  | .eql => some (.bool (a == b))
  | .neq => some (.bool (a != b))
  | .lss => some (.bool (decide (a < b)))
  | .leq => some (.bool (decide (a ≤ b)))
  | .gtr => some (.bool (decide (a > b)))
  | .geq => some (.bool (decide (a ≥ b)))
  | _ => none

def ishift (op : BinOp) (k : IntKind) (a b : Int) : Option Value :=
  bif decide (b < 0) then none else
    match op with
    | .shl => some (.int k (k.wrap (a * 2 ^ (min b.toNat k.bits))))
    | .shr => some (.int k (a.fdiv (2 ^ (min b.toNat k.bits))))
    | _ => none

def sop (op : BinOp) (a b : ByteArray) : Option Value :=
  match op with
  | .add => bif decide (a.size + b.size ≤ 9223372036854775807) then some (.string (a ++ b)) else none
  | .eql => some (.bool (a.toList == b.toList))
  | .neq => some (.bool !(a.toList == b.toList))
  | .lss => some (.bool (Op.bytesLess a.toList b.toList))
  | .leq => some (.bool (Op.bytesLess a.toList b.toList || a.toList == b.toList))
  | .gtr => some (.bool !(Op.bytesLess a.toList b.toList || a.toList == b.toList))
  | .geq => some (.bool !(Op.bytesLess a.toList b.toList))
  | _ => none

/-- What kind of type the operands of a comparison have. -/
inductive TK where
  | int | str | bool | ptr | slc | map | fn | ifc | two | other
  deriving DecidableEq

/-- Are two pairs of texts the same? -/
def eq2 : List Value → List Value → Option Bool
  | [.string a, .string b], [.string c, .string d] => some (a == c && b == d)
  | _, _ => none

/-- What '==' says of two values one of which is nil, or of two bools. -/
def eqv : TK → Value → Value → Option Bool
  | .bool, .bool a, .bool b => some (a == b)
  | .ptr, .pointer none, .pointer b => some b.isNone
  | .ptr, .pointer a, .pointer none => some a.isNone
  | .slc, .slice none _ _, .slice b _ _ => some b.isNone
  | .slc, .slice a _ _, .slice none _ _ => some a.isNone
  | .map, .map none, .map b => some b.isNone
  | .map, .map a, .map none => some a.isNone
  | .fn, .nilFunc, .nilFunc => some true
  | .fn, .nilFunc, .func _ _ _ => some false
  | .fn, .func _ _ _, .nilFunc => some false
  | .ifc, .nilIface, .iface _ _ => some false
  | .ifc, .iface _ _, .nilIface => some false
  | .two, .agg xs, .agg ys => eq2 xs.toList ys.toList
  | _, _, _ => none

def bop (tk : TK) (op : BinOp) (x y : Value) : M Value := fun H =>
  match op, x, y with
  | .shl, .int k a, .int _ b => (ishift .shl k a b).map (·, H)
  | .shr, .int k a, .int _ b => (ishift .shr k a b).map (·, H)
  | _, .int k a, .int k' b => bif decide (k = k') then (iarith op k a b).map (·, H) else none
  | _, .string a, .string b => (sop op a b).map (·, H)
  | .eql, x, y => (eqv tk x y).map fun b => (.bool b, H)
  | .neq, x, y => (eqv tk x y).map fun b => (.bool (!b), H)
  | _, _, _ => none

def uop (op : UnOp) (x : Value) : M Value := fun H =>
  match op, x with
  | .neg, .int k n => some (.int k (k.wrap (0 - n)), H)
  | .xor, .int k n => (iarith .xor k (if k.signed then -1 else k.max) n).map (·, H)
  | .not, .bool b => some (.bool (!b), H)
  | _, _ => none

def nilc (x : Value) : M Value := fun H =>
  match x with
  | .pointer (some a) => some (.pointer (some a), H)
  | .func (.func f) a b => some (.func (.func f) a b, H)
  | _ => none

def cvi (k : IntKind) (x : Value) : M Value := fun H =>
  match x with
  | .int _ n => some (.int k (k.wrap n), H)
  | _ => none

def pick (c a b : Value) : M Value := fun H =>
  match c with
  | .bool t => some (bif t then a else b, H)
  | _ => none

def extr (t : Value) (i : Nat) : M Value := fun H =>
  match t with
  | .tuple vs => bif Nat.beq vs.size 1 then none else (vs[i]?).map (·, H)
  | _ => none

def lenS (x : Value) : M Value := fun H =>
  match x with
  | .slice _ n _ => some (.int .i64 n, H)
  | _ => none

def lenT (x : Value) : M Value := fun H =>
  match x with
  | .string s => some (.int .i64 s.size, H)
  | _ => none

def lenM (x : Value) : M Value := fun H =>
  match x with
  | .map none => some (.int .i64 0, H)
  | .map (some id) => match H[id]? with
    | some (.map es _) => some (.int .i64 es.length, H)
    | some (.mapU es) => some (.int .i64 es.length, H)
    | _ => none
  | _ => none

def mxi (mx : Bool) (x y : Value) : M Value := fun H =>
  match x, y with
  | .int k a, .int _ b => some (.int k (bif mx then (if b > a then b else a) else (if b < a then b else a)), H)
  | _, _ => none

def fa (off : Nat) (x : Value) : M Value := fun H =>
  match x with
  | .pointer (some ⟨id, o, none⟩) => some (.pointer (some ⟨id, o + off, none⟩), H)
  | _ => none

/-- The address of a slice's element. -/
def ixa (es : Nat) (x i : Value) : M Value := fun H =>
  match x, i with
  | .slice (some ⟨id, o, none⟩) n _, .int _ i => if 0 ≤ i ∧ i < n then some (.pointer (some ⟨id, o + i.toNat * es, none⟩), H) else none
  | _, _ => none

/-- The address of an array's element. -/
def ixaA (len es : Nat) (x i : Value) : M Value := fun H =>
  match x, i with
  | .pointer (some ⟨id, o, none⟩), .int _ i => if 0 ≤ i ∧ i < len then some (.pointer (some ⟨id, o + i.toNat * es, none⟩), H) else none
  | _, _ => none

/-- A byte of a string. -/
def ixs (x i : Value) : M Value := fun H =>
  match x, i with
  | .string s, .int _ i => if 0 ≤ i then (match s[i.toNat]? with | some b => some (.int .u8 b.toNat, H) | none => none) else none
  | _, _ => none

/-- A part of an array or of a struct that is a value. -/
def prt (agg : Bool) (size : Nat) (x : Value) (off : Nat) : M Value := fun H =>
  match x with
  | .agg cs => bif agg then some (.agg (cs.extract off (off + size)), H) else (cs[off]?).map (·, H)
  | _ => none

def ixv (agg : Bool) (len size : Nat) (x i : Value) : M Value := fun H =>
  match i with
  | .int _ i => if 0 ≤ i ∧ i < len then prt agg size x (i.toNat * size) H else none
  | _ => none

def oneCell : Value → Bool
  | .agg _ | .tuple _ => false
  | _ => true

/-! the heap -/

def cellsAt (H : Heap) (id : Nat) : Option (List Value) :=
  match H[id]? with
  | some (.cells cs _ _ _) => some cs
  | _ => none

/-- Is the value the same, and plain? -/
def sameV : Value → Value → Bool
  | .string a, .string b => decide (a = b)
  | .bool a, .bool b => decide (a = b)
  | .int k a, .int k' b => decide (k = k') && decide (a = b)
  | _, _ => false

/-- Does the second row begin as the first? -/
def headsL : List Value → List Value → Bool
  | [], _ => true
  | x :: xs, y :: ys => sameV x y && headsL xs ys
  | _ :: _, [] => false

theorem sameV_eq {a b : Value} (h : sameV a b = true) : a = b := by
  unfold sameV at h
  split at h
  · rw [of_decide_eq_true h]
  · rw [of_decide_eq_true h]
  · simp only [Bool.and_eq_true, decide_eq_true_eq] at h; rw [h.1, h.2]
  · cases h

theorem headsL_get : ∀ {cs ds : List Value} {i : Nat} {v : Value}, headsL cs ds = true → cs[i]? = some v → ds[i]? = some v
  | [], _, i, v, _, h => by simp at h
  | x :: xs, [], i, v, h, _ => by cases h
  | x :: xs, y :: ys, i, v, h, hi => by
    simp only [headsL, Bool.and_eq_true] at h
    cases i with
    | zero => rw [← sameV_eq h.1]; exact hi
    | succ i => simpa using headsL_get h.2 (by simpa using hi)

def ld1 (x : Value) : M Value := fun H =>
  match x with
  | .pointer (some ⟨id, o, none⟩) => match H[id]? with
    | some (.cells cs _ _ _) => (cs[o]?).map (·, H)
    | some (.view cs _ nx) => match H[nx]? with
      | some (.cells ds _ _ false) => bif headsL cs ds then (cs[o]?).map (·, H) else none
      | _ => none
    | _ => none
  | _ => none

def ldA (n : Nat) (x : Value) : M Value := fun H =>
  match x with
  | .pointer (some ⟨id, o, none⟩) => match H[id]? with
    | some (.cells cs _ _ _) => if o + n ≤ cs.length then some (.agg ((cs.drop o).take n).toArray, H) else none
    | _ => none
  | _ => none

def splice (cs new : List Value) (o : Nat) : List Value := cs.take o ++ new ++ cs.drop (o + new.length)

def st1 (x v : Value) : M Value := fun H =>
  match x with
  | .pointer (some ⟨id, o, none⟩) => match H[id]? with
    | some (.cells cs es g false) => if o < cs.length ∧ oneCell v then some (undef, H.set id (.cells (cs.set o v) es g false)) else none
    | _ => none
  | _ => none

def stA (n : Nat) (x v : Value) : M Value := fun H =>
  match x, v with
  | .pointer (some ⟨id, o, none⟩), .agg vs => match H[id]? with
    | some (.cells cs es g false) => if o + n ≤ cs.length ∧ vs.size = n ∧ vs.toList.all oneCell then some (undef, H.set id (.cells (splice cs vs.toList o) es g false)) else none
    | _ => none
  | _, _ => none

def newc (es : Nat) (grow : Bool) (cs : List Value) : M Value := fun H =>
  some (.pointer (some ⟨H.length, 0, none⟩), H ++ [.cells cs es grow false])

def alc (es : Nat) (v : Value) : M Value := fun H =>
  if v.cells.toList.all oneCell then newc es false v.cells.toList H else none

/-- A new slice. -/
def news (es : Nat) (grow : Bool) (len : Nat) (cs : List Value) : M Value := fun H =>
  some (.slice (some ⟨H.length, 0, none⟩) len len, H ++ [.cells cs es grow false])

/-- The cells that a slice's elements, or a string's bytes, are. -/
def fcells (size : Nat) (H : Heap) : Value → Option (List Value)
  | .slice none _ _ => some []
  | .slice (some ⟨id, o, none⟩) n _ => match H[id]? with
    | some (.cells cs _ _ _) => if o + n * size ≤ cs.length then some ((cs.drop o).take (n * size)) else none
    | _ => none
  | .slice (some ⟨_, _, some _⟩) n _ => if n = 0 then some [] else none
  | .string s => if size = 1 then some (u8s s.data.toList) else none
  | _ => none

def flen : Value → Nat
  | .slice _ n _ => n
  | .string s => s.size
  | _ => 0

/-- append: within what is known of the capacity, into a new object, or (where the capacity isn't known) the elder object is given up. -/
def app (size bytes : Nat) (s x : Value) : M Value := fun H =>
  match fcells size H x with
  | none => none
  | some new =>
    let n := flen x
    match s with
    | .slice none 0 0 =>
      if n = 0 then some (.slice none 0 0, H) else
      if n ≤ 140737488355328 ∧ n * bytes ≤ 140737488355328 then some (.slice (some ⟨H.length, 0, none⟩) n n, H ++ [.cells new size true false]) else none
    | .slice (some ⟨id, o, some j⟩) 0 0 =>
      if n = 0 then some (.slice (some ⟨id, o, some j⟩) 0 0, H) else
      if j = 0 ∧ n ≤ 140737488355328 ∧ n * bytes ≤ 140737488355328 then some (.slice (some ⟨H.length, 0, none⟩) n n, H ++ [.cells new size true false]) else none
    | .slice (some ⟨id, o, none⟩) len cap => match H[id]? with
      | some (.cells cs es grow ro) =>
        if es = size then
          if len + n ≤ cap then
            if n = 0 then some (.slice (some ⟨id, o, none⟩) len cap, H) else
            if ro = false ∧ o + (len + n) * size ≤ cs.length then some (.slice (some ⟨id, o, none⟩) (len + n) cap, H.set id (.cells (splice cs new (o + len * size)) es grow false)) else none
          else if (grow && ro) = false ∧ o + len * size ≤ cs.length ∧ len + n ≤ 140737488355328 ∧ (len + n) * bytes ≤ 140737488355328 then
            let old := (cs.drop o).take (len * size)
            some (.slice (some ⟨H.length, 0, none⟩) (len + n) (len + n), (bif grow then H.set id (bif Nat.beq o 0 then .view old size H.length else .dead) else H) ++ [.cells (old ++ new) size true false])
          else none
        else none
      | _ => none
    | _ => none

def cpy (size : Nat) (d x : Value) : M Value := fun H =>
  match fcells size H x, d with
  | some _, .slice none _ _ => some (.int .i64 0, H)
  | some new, .slice (some ⟨id, o, none⟩) len _ => match H[id]? with
    | some (.cells cs es g false) =>
      let n := min (flen x) len
      if o + n * size ≤ cs.length then some (.int .i64 n, H.set id (.cells (splice cs (new.take (n * size)) o) es g false)) else none
    | _ => none
  | _, _ => none

/-! slicing -/

def bnd (x : Option Value) (d : Nat) : Option Nat :=
  match x with
  | none => some d
  | some (.int _ i) => if 0 ≤ i then some i.toNat else none
  | some _ => none

def sls (x : Value) (lo hi : Option Value) : M Value := fun H =>
  match x with
  | .string s => match bnd lo 0, bnd hi s.size with
    | some l, some h => if l ≤ h ∧ h ≤ s.size then some (.string (s.extract l h), H) else none
    | _, _ => none
  | _ => none

def slv (es : Nat) (x : Value) (lo hi mx : Option Value) : M Value := fun H =>
  match x with
  | .slice none 0 0 => match bnd lo 0, bnd hi 0, bnd mx 0 with
    | some 0, some 0, some 0 => some (.slice none 0 0, H)
    | _, _, _ => none
  | .slice (some ⟨id, o, some j⟩) 0 0 => match bnd lo 0, bnd hi 0, mx with
    | some 0, some 0, none => some (.slice (some ⟨id, o, some j⟩) 0 0, H)
    | _, _, _ => none
  | .slice (some ⟨id, o, none⟩) n c => match H[id]? with
    | some (.cells _ es' g _) => match bnd lo 0, bnd hi n, bnd mx c with
      | some l, some h, some m =>
        if es' = es ∧ l ≤ h ∧ h ≤ m ∧ m ≤ c then
          if m = l then some (.slice (some ⟨id, o, some (match mx with | none => bif g then 1 else 0 | some _ => 0)⟩) 0 0, H)
          else some (.slice (some ⟨id, o + l * es, none⟩) (h - l) (m - l), H)
        else none
      | _, _, _ => none
    | _ => none
  | _ => none

/-! strings and bytes -/

def bytesOf : List Value → Option (List UInt8)
  | [] => some []
  | .int .u8 n :: l => (bytesOf l).map (UInt8.ofNat n.toNat :: ·)
  | _ :: _ => none

def b2s (x : Value) : M Value := fun H =>
  match x with
  | .slice _ _ _ => match fcells 1 H x with
    | some cs => (bytesOf cs).map fun bs => (.string ⟨bs.toArray⟩, H)
    | none => none
  | _ => none

/-- A row of bytes that is told to be such a row: the same one. -/
def mrk (x : Value) : M Value := fun H =>
  match x with
  | .slice (some ⟨id, o, none⟩) n c => match H[id]? with
    | some (.cells _ _ _ false) => some (.slice (some ⟨id, o, none⟩) n c, H)
    | _ => none
  | _ => none

def s2b (x : Value) : M Value := fun H =>
  match x with
  | .string s => news 1 true s.size (u8s s.data.toList) H
  | _ => none

def cvs (x : Value) : M Value := fun H =>
  match x with
  | .string s => some (.string s, H)
  | _ => none

/-! what is built -/

/-- What stands for an operation that was not wanted. -/
def notW : Value := .tuple #[.tuple #[]]

def isTup : Value → Bool
  | .tuple _ => true
  | _ => false

def bldC : List Value → List (Nat × Nat × Value) → Option (List Value)
  | cs, [] => some cs
  | cs, (off, size, v) :: ps => if isTup v = false ∧ v.cells.size = size ∧ off + size ≤ cs.length then bldC (splice cs v.cells.toList off) ps else none

def bld (z : Value) (ps : List (Nat × Nat × Value)) : M Value := fun H =>
  (bldC z.cells.toList ps).map fun cs => (.agg cs.toArray, H)

def reps (n : Nat) (zc : List Value) : List Value := (List.replicate n zc).flatten

def bsl (es len : Nat) (z : Value) (ps : List (Nat × Nat × Value)) : M Value := fun H =>
  match bldC (reps len z.cells.toList) ps with
  | some cs => if cs.all oneCell then news es false len cs H else none
  | none => none

def mks (es bytes : Nat) (z : Value) (len cap : Value) : M Value := fun H =>
  match len, cap with
  | .int _ l, .int _ c =>
    if 0 ≤ l ∧ l ≤ c ∧ c * bytes ≤ 140737488355328 ∧ c ≤ 140737488355328 then
      some (.slice (some ⟨H.length, 0, none⟩) l.toNat c.toNat, H ++ [.cells (reps c.toNat z.cells.toList) es false false])
    else none
  | _, _ => none

/-! maps -/

def mkm : M Value := fun H => some (.map (some H.length), H ++ [.map [] 0])

def sameK : TK → Value → Value → Option Bool
  | .int, .int k a, .int k' b => if k = k' then some (a == b) else none
  | .str, .string a, .string b => some (a == b)
  | .bool, .bool a, .bool b => some (a == b)
  | _, _, _ => none

/-- Where a key stands. -/
def findA (tk : TK) (k : Value) : List (Value × Value × Nat) → Nat → Option (Option (Nat × Value))
  | [], _ => some none
  | e :: es, i =>
    match sameK tk k e.1 with
    | some true => some (some (i, e.2.1))
    | some false => findA tk k es (i + 1)
    | none => none

def okK : TK → Value → Bool
  | .int, .int _ _ => true
  | .str, .string _ => true
  | .bool, .bool _ => true
  | _, _ => false

def lkp (tk : TK) (z : Value) (ok : Bool) (m k : Value) : M Value := fun H =>
  let back (v : Value) (is : Bool) : Option (Value × Heap) := some (bif ok then .tuple #[v, .bool is] else v, H)
  match m with
  | .map none => bif okK tk k then back z false else none
  | .map (some id) => match H[id]? with
    | some (.map es _) => bif okK tk k then (match findA tk k es 0 with
      | some (some (_, v)) => back v true
      | some none => back z false
      | none => none) else none
    | some (.mapU es) => bif okK tk k then (match findA tk k es 0 with
      | some (some (_, v)) => back v true
      | some none => back z false
      | none => none) else none
    | _ => none
  | _ => none

def setV (es : List (Value × Value × Nat)) (i : Nat) (v : Value) : List (Value × Value × Nat) := es.modify i fun e => (e.1, v, e.2.2)

def mup (tk : TK) (m k v : Value) : M Value := fun H =>
  match m with
  | .map (some id) => match H[id]? with
    | some (.map es clk) => bif okK tk k then (match findA tk k es 0 with
      | some (some (i, _)) => some (undef, H.set id (.map (setV es i v) clk))
      | some none => some (undef, H.set id (.map (es ++ [(k, v, clk)]) (clk + 1)))
      | none => none) else none
    | some (.mapU es) => bif okK tk k then (match findA tk k es 0 with
      | some (some (i, _)) => some (undef, H.set id (.mapU (setV es i v)))
      | some none => (match k with
        | .string _ => some (undef, H.set id (.mapU (es ++ [(k, v, 0)])))
        | _ => none)
      | none => none) else none
    | _ => none
  | _ => none

def men (tk : TK) (z : Value) (m k : Value) : M Value := fun H =>
  match m with
  | .map (some id) => match H[id]? with
    | some (.map es clk) => bif okK tk k then (match findA tk k es 0 with
      | some (some (i, v)) => some (.tuple #[v, .int .i64 ((es.getD i (undef, undef, 0)).2.2 : Nat)], H)
      | some none => some (.tuple #[z, .int .i64 (clk : Nat)], H.set id (.map (es ++ [(k, z, clk)]) (clk + 1)))
      | none => none) else none
    | _ => none
  | _ => none

def ens (m st v : Value) : M Value := fun H =>
  match m, st with
  | .map (some id), .int _ n => match H[id]? with
    | some (.map es clk) => match es.findIdx? (fun e => (e.2.2 : Int) == n) with
      | some i => some (undef, H.set id (.map (setV es i v) clk))
      | none => none
    | _ => none
  | _, _ => none

def mde (tk : TK) (m k : Value) : M Value := fun H =>
  match m with
  | .map none => bif okK tk k then some (.tuple #[], H) else none
  | .map (some id) => match H[id]? with
    | some (.map es clk) => bif okK tk k then (match findA tk k es 0 with
      | some (some (i, _)) => some (.tuple #[], H.set id (.map (es.eraseIdx i) clk))
      | some none => some (.tuple #[], H)
      | none => none) else none
    | some (.mapU es) => bif okK tk k then (match findA tk k es 0 with
      | some (some (i, _)) => some (.tuple #[], H.set id (.mapU (es.eraseIdx i)))
      | some none => some (.tuple #[], H)
      | none => none) else none
    | _ => none
  | _ => none

/-- clear -/
def clrM (x : Value) : M Value := fun H =>
  match x with
  | .map none => some (.tuple #[], H)
  | .map (some id) => match H[id]? with
    | some (.map _ clk) => some (.tuple #[], H.set id (.map [] clk))
    | some (.mapU _) => some (.tuple #[], H.set id (.mapU []))
    | _ => none
  | _ => none

def clr (z : Value) (es : Nat) (x : Value) : M Value := fun H =>
  match x with
  | .slice none _ _ => some (.tuple #[], H)
  | .slice (some ⟨_, _, some _⟩) 0 _ => some (.tuple #[], H)
  | .slice (some ⟨id, o, none⟩) n _ => if n = 0 then some (.tuple #[], H) else match H[id]? with
    | some (.cells cs es' g false) => if es' = es ∧ o + n * es ≤ cs.length then some (.tuple #[], H.set id (.cells (splice cs (reps n z.cells.toList) o) es g false)) else none
    | _ => none
  | _ => none

def mkif (t : TypeId) (x : Value) : M Value := fun H => some (.iface t x, H)

end Go.Proofs.YtlpibiaokpbhbaaGreatDoor.A
