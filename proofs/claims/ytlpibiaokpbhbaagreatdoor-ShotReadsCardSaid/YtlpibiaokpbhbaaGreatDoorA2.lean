/- The abstract machine: code. Definitions alone. -/
import Derived.Test.YtlpibiaokpbhbaaGreatDoorA1
namespace Go.Proofs.YtlpibiaokpbhbaaGreatDoor.A
set_option linter.unusedVariables false
set_option linter.unusedSimpArgs false

abbrev Regs := List (Nat × Value)

def rget : Regs → Nat → Value
  | [], _ => undef
  | (s, v) :: r, t => bif Nat.beq s t then v else rget r t

def rput (r : Regs) (d : Option Nat) (v : Value) : Regs :=
  match d with
  | some d => (d, v) :: r
  | none => r

def ev (r : Regs) : Operand → Value
  | .tmp t => rget r t
  | .const v => v
  | .global g => .pointer (some ⟨g, 0, none⟩)
  | .func f => .func (.func f) #[] #[]

def mk : List Nat → List Value → Regs
  | [], _ => []
  | t :: ts, vs => (t, vs.headD undef) :: mk ts vs.tail

def proj (L : List Nat) (r : Regs) : List Value := L.map (rget r)

def ins (t : Nat) : List Nat → List Nat
  | [] => [t]
  | u :: l => bif Nat.beq t u then u :: l else bif Nat.blt t u then t :: u :: l else u :: ins t l

def insAll (ts l : List Nat) : List Nat := ts.foldr ins l

def otmp : Operand → List Nat
  | .tmp t => [t]
  | _ => []

def otmps (os : List Operand) : List Nat := os.flatMap otmp

def dstOf (ops : List Oper) (j : Nat) : Option Nat := (ops[j]?).bind (·.dst)

def lkX : List (Nat × List Nat) → Nat → List Nat
  | [], _ => []
  | (i, L) :: X, j => bif Nat.beq i j then L else lkX X j

/-- May it end normally? -/
def falls : Code → Bool
  | .seq a b => falls a && falls b
  | .cond _ t e => falls t || falls e
  | .block id c => falls c || xto id c
  | .loop _ => false
  | .exit _ => false
  | .ret => false
  | _ => true
where xto (id : Nat) : Code → Bool
  | .seq a b => xto id a || xto id b
  | .cond _ t e => xto id t || xto id e
  | .block _ c => xto id c
  | .loop c => xto id c
  | .rangeFunc _ _ _ c => xto id c
  | .exit j => Nat.beq j id
  | _ => false

/-- How many exits to a block there are. -/
def xcount (id : Nat) : Code → Nat
  | .seq a b => xcount id a + xcount id b
  | .cond _ t e => xcount id t + xcount id e
  | .block _ c => xcount id c
  | .loop c => xcount id c
  | .rangeFunc _ _ _ c => bif falls.xto id c then 1 else 0
  | .exit j => bif Nat.beq j id then 1 else 0
  | _ => 0

/-! loops -/

def iterN (body : List Value → M Out) : Nat → List Value → M Out
  | 0, _ => fail
  | n + 1, vs => fun H =>
    match body vs H with
    | none => none
    | some (.nrm vs', H') => iterN body n vs' H'
    | some (o, H') => some (o, H')


open Classical in
noncomputable def loopM (body : List Value → M Out) (vs : List Value) : M Out := fun H =>
  if h : ∃ n, (iterN body n vs H).isSome then iterN body (Classical.choose h) vs H else none

def cnd {β : Type} (g : Value) (a b : M β) : M β :=
  match g with
  | .bool t => bif t then a else b
  | _ => fail

def gate (g : Value) (want : Bool) (n : Nat) (m : M (List Value)) : M (List Value) :=
  match g with
  | .bool b => bif b == want then m else ret (List.replicate n notW)
  | .tuple vs => bif Nat.beq vs.size 1 then ret (List.replicate n notW) else fail
  | _ => fail

/-- What a piece of code ended in, handed on. -/
def jn {β : Type} (m : M Out) (kn : List Value → M β) (kx : Nat → List Value → M β) (kr : Value → M β) : M β := bind m fun o =>
  match o with
  | .nrm vs => kn vs
  | .ext j vs => kx j vs
  | .ret v => kr v

abbrev Funs := FuncId → List Value → M Value

def callable (fn : Func) : Bool := !(fn.name == "runtime.NumGoroutine") && fn.body.isSome

def callG (P : Program) (g : FuncId) : Bool :=
  match P.funcs[g]? with
  | some fn => callable fn
  | none => false

/-- From here on the numbers stand for the rounds of ranges over functions, by the objects' numbers. -/
def yoff : Nat := 1000000

def callv (Γ : Funs) (f : Value) (args : List Value) : M Value :=
  match f with
  | .func (.func g) first captured => bif Nat.blt g yoff then Γ g (first.toList ++ (args ++ captured.toList)) else fail
  | .func (.yield L) _ _ => Γ (yoff + L) args
  | _ => fail

/-- A range over a function has come to its end: on, or the jump that a round has left. -/
def endLoopM {β : Type} (L : Nat) (k : Option Code → M β) : M β := fun H =>
  match H[L]? with
  | some (.loop fn lv p xs cd regs st pd) => (match st with
    | .busy => none
    | _ => k pd (H.set L (.loop fn lv p xs cd regs .exhausted pd)))
  | _ => none

/-- A range over a function. -/
def rangeM {β : Type} (ok : FuncId → Bool) (Γ : Funs) (v : Value) (fn : Func) (lv : List (Nat × List Nat)) (p : Nat) (xs : List Nat) (cd : Array Tmp × Code × Code) (regs : Regs) (k : Option Code → M β) : M β :=
  match v with
  | .func (.func g) first captured => bif Nat.blt g yoff && ok g then fun H =>
      (match Γ g (first.toList ++ ([.func (.yield H.length) #[] #[]] ++ captured.toList)) (H ++ [.loop fn lv p xs cd regs .ready none]) with
      | some (_, H1) => endLoopM H.length k H1
      | none => none)
    else fail
  | _ => fail

/-- A round begins. -/
def begM {β : Type} (L : Nat) (m : M β) : M β := fun H =>
  match H[L]? with
  | some (.loop fn lv p xs cd regs .ready pd) => m (H.set L (.loop fn lv p xs cd regs .busy pd))
  | _ => none

/-- A round ends: the loop goes on, or a jump is left. -/
def endR (L : Nat) (j : Option Code) : M Value := fun H =>
  match H[L]? with
  | some (.loop fn lv p xs cd regs _ _) => some (.bool j.isNone, H.set L (.loop fn lv p xs cd regs (if j.isNone then .ready else .done) j))
  | _ => none

/-- What a round is given. -/
def putPs (ps : List Nat) (vs : List Value) (r : Regs) : Regs := (ps.zip vs).foldl (fun r q => q :: r) r

section
variable (P : Program)

def aggT (t : TypeId) : Option Bool :=
  match P.underlying t with
  | some (.struct _) | some (.array _ _) => some true
  | some _ => some false
  | none => none

def szT (t : TypeId) : Nat := ((P.info? t).map (·.size)).getD 0
def byT (t : TypeId) : Nat := ((P.info? t).map (·.bytes)).getD 0
def zeT (t : TypeId) : Value := ((P.info? t).bind (·.zero)).getD undef
def hasT (t : TypeId) : Bool := ((P.info? t).bind (·.zero)).isSome && constOK (zeT P t)

/-- The stride of an array that is boxed. -/
def esT (t : TypeId) : Nat :=
  match P.underlying t with
  | some (.array _ e) => szT P e
  | _ => 1

def isStr (t : TypeId) : Bool := match P.underlying t with
  | some .string => true
  | _ => false

/-- A struct of two texts. -/
def twoB (t : TypeId) : List Field → Bool
  | [f, g] => f.name != "_" && (g.name != "_" && (Nat.beq f.offset 0 && (Nat.beq g.offset 1 && (isStr P f.type && (isStr P g.type && (!P.stoodInHeld t && !P.eqGuardType P.depth t))))))
  | _ => false

def tkT (t : TypeId) : TK :=
  match P.underlying t with
  | some (.int _) => .int
  | some .string => .str
  | some .bool => .bool
  | some (.pointer _) => .ptr
  | some (.slice _) => .slc
  | some (.map _ _) => .map
  | some (.func _ _ _) => .fn
  | some (.interface _) => .ifc
  | some (.struct fs) => bif twoB P t fs.toList then .two else .other
  | _ => .other

/-- A slice's element type: its zero value is known, and takes what an element takes. -/
def okE (e : TypeId) : Bool := hasT P e && !isTup (zeT P e) && Nat.beq (zeT P e).cells.size (szT P e)

end

section
variable (P : Program) (Γ : Funs)

inductive OpR where
  | val (v : Value)
  | cmp (m : M Value)

def appM {β : Type} (m : OpR) (k : Value → M β) : M β :=
  match m with
  | .val v => k v
  | .cmp m => bind m k

def exCall (ev : Operand → Value) (c : Call) : OpR :=
  match c.callee, c.args.toList, c.argTypes.toList with
  | .value f, as, _ => .cmp (callv Γ (ev f) (as.map ev))
  | .builtin .len, [x], [t] => (match P.underlying t with
    | some .string => .cmp (lenT (ev x))
    | some (.slice _) => .cmp (lenS (ev x))
    | some (.map _ _) => .cmp (lenM (ev x))
    | _ => .cmp fail)
  | .builtin .append, [s, x], [t, u] => (match P.underlying t, P.underlying u with
    | some (.slice e), some (.slice _) => bif okE P e then .cmp (app (szT P e) (byT P e) (ev s) (ev x)) else .cmp fail
    | some (.slice e), some .string => bif okE P e then .cmp (app (szT P e) (byT P e) (ev s) (ev x)) else .cmp fail
    | _, _ => .cmp fail)
  | .builtin .max, [x, y], _ => .cmp (mxi true (ev x) (ev y))
  | .builtin .min, [x, y], _ => .cmp (mxi false (ev x) (ev y))
  | .builtin .copy, [d, x], [t, _] => (match P.underlying t with
    | some (.slice e) => bif okE P e then .cmp (cpy (szT P e) (ev d) (ev x)) else .cmp fail
    | _ => .cmp fail)
  | .builtin .clear, [x], [t] => (match P.underlying t with
    | some (.slice e) => bif okE P e then .cmp (clr (zeT P e) (szT P e) (ev x)) else .cmp fail
    | some (.map _ _) => .cmp (clrM (ev x))
    | _ => .cmp fail)
  | .builtin .delete, [m, y], [t, _] => (match P.underlying t with
    | some (.map kt _) => .cmp (mde (tkT P kt) (ev m) (ev y))
    | _ => .cmp fail)
  | _, _, _ => .cmp fail

/-- Is each field's type known? -/
def okFields (t : TypeId) : Bool :=
  match P.underlying t with
  | some (.struct fs) => fs.toList.all fun f => (P.info? f.type).isSome
  | some (.array _ e) => (P.info? e).isSome
  | _ => false

/-- The parts of a struct or of an array: where they lie, how many cells they are. -/
def partsOf (t : TypeId) (ps : List (Nat × Operand)) (ev : Operand → Value) : Option (List (Nat × Nat × Value)) :=
  match P.underlying t with
  | some (.struct fs) => ps.mapM fun p => match fs[p.1]? with
    | some f => some (f.offset, szT P f.type, ev p.2)
    | none => none
  | some (.array _ e) => some (ps.map fun p => (p.1 * szT P e, szT P e, ev p.2))
  | _ => none

def opM (ev : Operand → Value) (o : Op) : OpR :=
  match o with
  | .move x | .assign x => .val (ev x)
  | .pick c a b => .cmp (pick (ev c) (ev a) (ev b))
  | .extract t i => .cmp (extr (ev t) i)
  | .nilCheck x => .cmp (nilc (ev x))
  | .binOp op t x y _ => .cmp (bop (tkT P t) op (ev x) (ev y))
  | .unOp op _ x => .cmp (uop op (ev x))
  | .convert s d x => (match P.underlying s, P.underlying d with
    | some (.int _), some (.int kd) => .cmp (cvi kd (ev x))
    | some .string, some .string => .cmp (cvs (ev x))
    | some .string, some (.slice e) => (match P.underlying e with
      | some (.int .u8) => .cmp (s2b (ev x))
      | _ => .cmp fail)
    | some (.slice e), some .string => (match P.underlying e with
      | some (.int .u8) => .cmp (b2s (ev x))
      | _ => .cmp fail)
    | some (.slice _), some (.slice e) => (match P.underlying e with
      | some (.int .u8) => bif Nat.beq s d then .cmp (mrk (ev x)) else .cmp fail
      | _ => .cmp fail)
    | _, _ => .cmp fail)
  | .fieldAddr s x f => (match P.underlying s with
    | some (.struct fs) => (match fs[f]? with
      | some fd => bif Nat.beq (szT P fd.type) 0 then .cmp fail else .cmp (fa fd.offset (ev x))
      | none => .cmp fail)
    | _ => .cmp fail)
  | .field s x f => (match P.underlying s with
    | some (.struct fs) => (match fs[f]? with
      | some fd => (match aggT P fd.type with
        | some g => .cmp (prt g (szT P fd.type) (ev x) fd.offset)
        | none => .cmp fail)
      | none => .cmp fail)
    | _ => .cmp fail)
  | .indexAddr t x i => (match P.underlying t with
    | some (.slice e) => (match P.info? e with
      | some _ => .cmp (ixa (szT P e) (ev x) (ev i))
      | none => .cmp fail)
    | some (.array n e) => (match P.info? e with
      | some _ => .cmp (ixaA n (szT P e) (ev x) (ev i))
      | none => .cmp fail)
    | _ => .cmp fail)
  | .index t x i => (match P.underlying t with
    | some .string => .cmp (ixs (ev x) (ev i))
    | some (.array n e) => (match aggT P e with
      | some g => .cmp (ixv g n (szT P e) (ev x) (ev i))
      | none => .cmp fail)
    | _ => .cmp fail)
  | .load t a => (match aggT P t with
    | some true => .cmp (ldA (szT P t) (ev a))
    | some false => .cmp (ld1 (ev a))
    | none => .cmp fail)
  | .store t a v => (match aggT P t with
    | some true => .cmp (stA (szT P t) (ev a) (ev v))
    | some false => bif Nat.beq (szT P t) 1 then .cmp (st1 (ev a) (ev v)) else .cmp fail
    | none => .cmp fail)
  | .alloc t => bif hasT P t then .cmp (alc (esT P t) (zeT P t)) else .cmp fail
  | .box t v => .cmp (alc (esT P t) (ev v))
  | .call c => exCall P Γ ev c
  | .slice t x lo hi mx => (match P.underlying t with
    | some .string => (match mx with | none => .cmp (sls (ev x) (lo.map ev) (hi.map ev)) | some _ => .cmp fail)
    | some (.slice e) => (match hi, mx with
      | none, some _ => .cmp fail
      | _, _ => (match P.info? e with
        | some _ => .cmp (slv (szT P e) (ev x) (lo.map ev) (hi.map ev) (mx.map ev))
        | none => .cmp fail))
    | _ => .cmp fail)
  | .build t ps => bif hasT P t && okFields P t then (match partsOf P t ps.toList ev with
    | some l => .cmp (bld (zeT P t) l)
    | none => .cmp fail) else .cmp fail
  | .buildSlice t len ps => (match P.underlying t with
    | some (.slice e) => bif okE P e && Nat.ble (len * szT P e) 16777216 then
        .cmp (bsl (szT P e) len (zeT P e) (ps.toList.map fun p => (p.1 * szT P e, szT P e, ev p.2))) else .cmp fail
    | _ => .cmp fail)
  | .makeSlice t l c => (match P.underlying t with
    | some (.slice e) => bif okE P e then .cmp (mks (szT P e) (byT P e) (zeT P e) (ev l) (ev c)) else .cmp fail
    | _ => .cmp fail)
  | .makeMap t r => (match P.underlying t, r with
    | some (.map _ _), none => .cmp mkm
    | _, _ => .cmp fail)
  | .lookup t m y ok => (match P.underlying t with
    | some (.map kt e) => bif hasT P e then .cmp (lkp (tkT P kt) (zeT P e) ok (ev m) (ev y)) else .cmp fail
    | _ => .cmp fail)
  | .mapUpdate t m y v => (match P.underlying t with
    | some (.map kt _) => .cmp (mup (tkT P kt) (ev m) (ev y) (ev v))
    | _ => .cmp fail)
  | .insert t m y v => (match P.underlying t with
    | some (.map kt _) => .cmp (mup (tkT P kt) (ev m) (ev y) (ev v))
    | _ => .cmp fail)
  | .mapEntry t m y => (match P.underlying t with
    | some (.map kt e) => bif hasT P e then .cmp (men (tkT P kt) (zeT P e) (ev m) (ev y)) else .cmp fail
    | _ => .cmp fail)
  | .entryStore _ m st v => .cmp (ens (ev m) (ev st) (ev v))
  | .makeFunc fn first captured => (match fn with
    | .func g => .val (.func (.func g) (first.map ev) (captured.map ev))
    | _ => .cmp fail)
  | .makeInterface t x => (match P.underlying t with
    | some (.interface _) => .cmp fail
    | some _ => .cmp (mkif t (ev x))
    | none => .cmp fail)
  | _ => .cmp fail

def exOp {β : Type} (ev : Operand → Value) (o : Op) (k : Value → M β) : M β := appM (opM P Γ ev o) k

def sameGuard (g : Option (Nat × Bool)) (j : Nat) (w : Bool) : Bool :=
  match g with
  | some (i, v) => Nat.beq i j && (v == w)
  | none => false

def spanG (j : Nat) (w : Bool) : List Oper → List Oper × List Oper
  | [] => ([], [])
  | o :: os => bif sameGuard o.guard j w then let p := spanG j w os; (o :: p.1, p.2) else ([], o :: os)

open Classical in
noncomputable def same {β : Type} (u v : Value) (m : M β) : M β := fun H => if u = v then m H else none

noncomputable def rechk {β : Type} : List (Nat × M Value × Value) → M β → M β
  | [], m => m
  | q :: qs, m => bind q.2.1 fun u => same u q.2.2 (rechk qs m)

/-! the order of a region that draws -/

def edgeOns (o : Oper) : List Nat := (o.after.toList.filter (Region.binds .any)).map (·.on)

def ancAll (ops : List Oper) : List (List Nat) :=
  ops.foldl (fun acc o => acc ++ [(edgeOns o).foldl (fun s j => insAll (j :: acc.getD j []) s) []]) []

def memN (l : List Nat) (i : Nat) : Bool := l.any (Nat.beq i)

def readyE (an : List (List Nat)) (dn : List Nat) (i : Nat) : Bool := !memN dn i && (an.getD i []).all (memN dn)

def firstSat (p : Nat → Bool) : Nat → Nat → Option Nat
  | 0, _ => none
  | n + 1, i => bif p i then some i else firstSat p n (i + 1)

def eagerGo (cl : List Nat) (an : List (List Nat)) (n : Nat) : Nat → List Nat → List Nat
  | 0, _ => []
  | m + 1, dn =>
    match firstSat (fun i => readyE an dn i && !(Nat.beq (cl.getD i 0) 2)) n 0 with
    | some i => i :: eagerGo cl an n m (i :: dn)
    | none => match firstSat (readyE an dn) n 0 with
      | some i => i :: eagerGo cl an n m (i :: dn)
      | none => []

/-- 0: it neither reads nor turns the heap; 1: it reads it; 2: all else. -/
def cls (o : Op) : Nat :=
  match o with
  | .move _ | .assign _ | .pick .. | .extract .. | .nilCheck _ | .binOp .. | .unOp .. | .fieldAddr .. | .field .. | .indexAddr .. | .index .. | .build .. | .makeFunc .. | .makeInterface .. => 0
  | .convert s d _ => (match P.underlying s, P.underlying d with
    | some (.int _), some (.int _) => 0
    | some .string, some .string => 0
    | some (.slice _), some .string => 1
    | _, _ => 2)
  | .slice t _ _ _ _ => (match P.underlying t with
    | some .string => 0
    | _ => 1)
  | .load .. | .lookup .. => 1
  | .call c => (match c.callee, c.argTypes.toList with
    | .builtin .len, [t] => (match P.underlying t with
      | some (.map _ _) => 1
      | _ => 0)
    | .builtin .max, _ => 0
    | .builtin .min, _ => 0
    | _, _ => 2)
  | _ => 2

/-- Operations in a row whose guard is met. -/
def exRow {β : Type} : List Oper → Regs → (Regs → M β) → M β
  | [], r, k => k r
  | o :: os, r, k => exOp P Γ (ev r) o.op fun v => exRow os (rput r o.dst v) k

def exOps {β : Type} (all : List Oper) : Nat → List Oper → Regs → (Regs → M β) → M β
  | 0, _, _, _ => fail
  | _ + 1, [], r, k => k r
  | n + 1, o :: os, r, k =>
    match o.guard with
    | none => exOp P Γ (ev r) o.op fun v => exOps all n os (rput r o.dst v) k
    | some (j, w) =>
      match dstOf all j with
      | none => fail
      | some d =>
        let p := spanG j w os
        let ds := (o :: p.1).filterMap (·.dst)
        bind (gate (rget r d) w ds.length (exRow P Γ (o :: p.1) r fun r' => ret (proj ds r'))) fun vs =>
          exOps all n p.2 (mk ds vs ++ r) k

/-! a region that draws its order -/

def evF (f : Nat → Value) : Operand → Value
  | .tmp t => f t
  | .const v => v
  | .global g => .pointer (some ⟨g, 0, none⟩)
  | .func f => .func (.func f) #[] #[]

/-- A guarded operation. -/
def gateV (g : Value) (want : Bool) (m : M Value) : M Value :=
  match g with
  | .bool b => bif b == want then m else ret notW
  | .tuple vs => bif Nat.beq vs.size 1 then ret notW else fail
  | _ => fail

def toM : OpR → M Value
  | .val v => ret v
  | .cmp m => m

def opG (all : List Oper) (f : Nat → Value) (o : Oper) : OpR :=
  match o.guard with
  | none => opM P Γ (evF f) o.op
  | some (j, w) => match dstOf all j with
    | some d => .cmp (gateV (f d) w (toM (opM P Γ (evF f) o.op)))
    | none => .cmp fail

/-- A read, as it was done: what it answered. -/
abbrev Reads := List (Nat × M Value × Value)

/-- Operations in some order; what was read ahead of an operation that may turn the heap, and not for sure ahead of it, is read once more behind it. -/
noncomputable def exD {β : Type} (an : List (List Nat)) (all : List Oper) : List (Nat × Oper) → Reads → Regs → (Regs → M β) → M β
  | [], _, r, k => k r
  | p :: l, rs, r, k =>
    appM (opG P Γ all (rget r) p.2) fun v =>
      match cls P p.2.op with
      | 0 => exD an all l rs (rput r p.2.dst v) k
      | 1 => exD an all l ((p.1, toM (opG P Γ all (rget r) p.2), v) :: rs) (rput r p.2.dst v) k
      | _ => rechk (rs.filter fun q => !(memN (an.getD p.1 []) q.1)) (exD an all l rs (rput r p.2.dst v) k)

def constsOK (x : Operand) : Bool :=
  match x with
  | .const v => constOK v
  | .global g => Nat.blt g P.globals.size
  | _ => true

def opsOK (N : Nat) (ops : List Oper) : Bool :=
  ops.all fun o => o.op.operands.toList.all (constsOK P) && (match o.dst with | some d => Nat.blt d N | none => true)

/-- A guard's group leaves the guard's own temporary alone. -/
def guardOK (ops : List Oper) : Bool :=
  ops.all fun o => match o.guard with
    | none => true
    | some (j, _) => match dstOf ops j with
      | some d => ops.all fun q => (match q.guard with | some (i, _) => !(Nat.beq i j) | none => true) || (match q.dst with | some e => !(Nat.beq d e) | none => true)
      | none => false

def pick2 (ops : List Oper) (l : List Nat) : List (Nat × Oper) := l.filterMap fun i => (ops[i]?).map fun o => (i, o)

def looks (all : List Oper) (o : Oper) : List Nat :=
  otmps o.op.operands.toList ++ (match o.guard with | some (j, _) => (dstOf all j).toList | none => [])

def subN (l m : List Nat) : Bool := l.all (memN m)

def posN (ord : List Nat) (i : Nat) : Nat :=
  match ord with
  | [] => 0
  | j :: ord => bif Nat.beq i j then 0 else posN ord i + 1

/-- How many operations that may turn the heap stand ahead of it. -/
def levN (cl : List Nat) (ord : List Nat) (i : Nat) : Nat :=
  match ord with
  | [] => 0
  | j :: ord => bif Nat.beq i j then 0 else (bif Nat.beq (cl.getD j 0) 2 then 1 else 0) + levN cl ord i

def allN (n : Nat) (p : Nat → Bool) : Bool := (List.range n).all p
def anyN (n : Nat) (p : Nat → Bool) : Bool := (List.range n).any p

def nodupN : List Nat → Bool
  | [] => true
  | i :: l => !memN l i && nodupN l

/-- What an order must be like. -/
def drawOK (ops : List Oper) (cl : List Nat) (an : List (List Nat)) (ord : List Nat) : Bool :=
  let n := ops.length
  let A := fun i => an.getD i []
  let ef := fun i => Nat.beq (cl.getD i 0) 2
  let lev := levN cl ord
  nodupN ord && allN n (memN ord) && ord.all (fun i => Nat.blt i n) && ops.all (fun o => match o.guard with | some (j, _) => Nat.blt j n | none => true) &&
  allN n (fun i => match ops[i]? with
    | none => false
    | some o =>
      (edgeOns o).all (fun e => memN (A i) e && Nat.blt e n) && (A i).all (fun x => (edgeOns o).any fun e => Nat.beq x e || memN (A e) x) && (A i).all (fun x => subN (A x) (A i) && Nat.blt (posN ord x) (posN ord i)) && !(memN (A i) i) &&
      (match o.guard with | some (j, _) => memN (A i) j && (dstOf ops j).isSome | none => true) &&
      (bif ef i then allN n (fun j => !(ef j) || Nat.beq j i || ((!(Nat.blt (lev j) (lev i)) || memN (A i) j) && !(Nat.beq (lev j) (lev i)))) else
        Nat.beq (lev i) 0 || anyN n (fun e => ef e && Nat.beq (lev e + 1) (lev i) && memN (A i) e)) &&
      allN (lev i) (fun j => anyN n fun e => ef e && Nat.beq (lev e) j) &&
      allN n (fun j => Nat.beq i j || (match o.dst, ops[j]? with
        | some d, some q => !(memN (looks ops q) d || (match q.dst with | some d' => Nat.beq d d' | none => false)) || ((memN (A j) i || memN (A i) j) && (match q.dst with | some d' => !(Nat.beq d d') | none => true))
        | _, _ => true)))

noncomputable def exReg {β : Type} (ops : List Oper) (draw : Bool) (r : Regs) (k : Regs → M β) : M β :=
  bif draw then
    let cl := ops.map fun o => cls P o.op
    let an := ancAll ops
    let ord := eagerGo cl an ops.length ops.length []
    bif drawOK ops cl an ord then exD P Γ an ops (pick2 ops ord) [] r k else fail
  else exOps P Γ ops (ops.length + 1) ops r k

/-- What the results' variables hold. -/
def resM {β : Type} (r : Regs) : List ResultVar → (List Value → M β) → M β
  | [], k => k []
  | .tmp t :: l, k => resM r l fun vs => k (rget r t :: vs)
  | .cell a t :: l, k =>
    match aggT P t with
    | some true => bind (ldA (szT P t) (rget r a)) fun v => resM r l fun vs => k (v :: vs)
    | some false => bind (ld1 (rget r a)) fun v => resM r l fun vs => k (v :: vs)
    | none => fail

def retM {β : Type} (fn : Func) (r : Regs) (kr : Value → M β) : M β :=
  resM P r fn.results.toList fun vs => match vs with
    | [v] => kr v
    | vs => kr (.tuple vs.toArray)

/-- What goes on behind an exit to one of the blocks around. -/
def extK {β : Type} (c : Code) : List (Nat × List Nat) → (Nat → Regs → M β) → Nat → List Value → M β
  | [], _ => fun _ _ => fail
  | p :: X, kx => bif falls.xto p.1 c then fun j vs => bif Nat.beq j p.1 then kx p.1 (mk p.2 vs) else extK c X kx j vs else extK c X kx

/-- What goes on behind a jump that a round has left. -/
def extR {β : Type} (c : Code) : List (Nat × List Nat) → (Nat → Regs → M β) → Nat → Regs → M β
  | [], _ => fun _ _ => fail
  | p :: X, kx => bif falls.xto p.1 c then fun j r => bif Nat.beq j p.1 then kx p.1 r else extR c X kx j r else extR c X kx

/-- 'lv': what is live behind a node of the code (and at a loop's head), by the node's number: it may say what it will. -/
noncomputable def E (rnd : Bool) (fn : Func) (lv : List (Nat × List Nat)) : Code → ∀ {β : Type}, Nat → List (Nat × List Nat) → Regs → (Regs → M β) → (Nat → Regs → M β) → (Value → M β) → M β
  | .skip, _, _, _, r, kn, _, _ => kn r
  | .region _ ops draw, _, _, _, r, kn, _, _ =>
    bif opsOK P fn.ntmps ops.toList && guardOK ops.toList then exReg P Γ ops.toList draw r kn else fail
  | .seq a b, _, p, X, r, kn, kx, kr => E rnd fn lv a (2 * p) X r (fun r' => E rnd fn lv b (2 * p + 1) X r' kn kx kr) kx kr
  | .cond c t e, _, p, X, r, kn, kx, kr =>
    bif !constsOK P c then fail else bif falls t && falls e then
      jn (cnd (ev r c) (E rnd fn lv t (2 * p) X r (fun r' => ret (.nrm (proj (lkX lv p) r'))) (fun j r' => ret (.ext j (proj (lkX X j) r'))) (fun v => ret (.ret v)))
          (E rnd fn lv e (2 * p + 1) X r (fun r' => ret (.nrm (proj (lkX lv p) r'))) (fun j r' => ret (.ext j (proj (lkX X j) r'))) (fun v => ret (.ret v))))
        (fun vs => kn (mk (lkX lv p) vs)) (extK (.cond c t e) X kx) kr
    else cnd (ev r c) (E rnd fn lv t (2 * p) X r kn kx kr) (E rnd fn lv e (2 * p + 1) X r kn kx kr)
  | .block id c, _, p, X, r, kn, kx, kr =>
    bif Nat.ble (xcount id c + (bif falls c then 1 else 0)) 1 then
      E rnd fn lv c (2 * p) ((id, lkX lv p) :: X) r kn (fun j r' => bif Nat.beq j id then kn r' else kx j r') kr
    else
      jn (E rnd fn lv c (2 * p) ((id, lkX lv p) :: X) r (fun r' => ret (.nrm (proj (lkX lv p) r'))) (fun j r' => bif Nat.beq j id then ret (.nrm (proj (lkX lv p) r')) else ret (.ext j (proj (lkX X j) r'))) (fun v => ret (.ret v)))
        (fun vs => kn (mk (lkX lv p) vs)) (extK (.block id c) X kx) kr
  | .loop c, _, p, X, r, _, kx, kr =>
    jn (loopM (fun vs => E rnd fn lv c (2 * p) X (mk (lkX lv p) vs) (fun r' => ret (.nrm (proj (lkX lv p) r'))) (fun j r' => ret (.ext j (proj (lkX X j) r'))) (fun v => ret (.ret v))) (proj (lkX lv p) r))
      (fun _ => fail) (extK (.loop c) X kx) kr
  | .exit id, _, _, _, r, _, kx, _ => kx id r
  | .rangeFunc g ps asg bd, _, p, X, r, kn, kx, kr =>
    bif rnd || !constsOK P g then fail else
      rangeM (callG P) Γ (ev r g) fn lv p (X.map fun q => q.1) (ps, asg, bd) (mk (lkX lv p) (proj (lkX lv p) r)) fun pd => match pd with
        | none => kn r
        | some (.exit j) => extR bd X kx j r
        | some .ret => retM P fn r kr
        | _ => fail
  | .ret, _, _, _, r, _, _, kr => bif rnd then kr undef else retM P fn r kr
  | _, _, _, _, _, _, _, _ => fail

def number : Nat → List Value → Regs
  | _, [] => []
  | i, v :: vs => (i, v) :: number (i + 1) vs

noncomputable def runF (fn : Func) (lv : List (Nat × List Nat)) (args : List Value) : M Value :=
  match fn.body with
  | some c => bif Nat.ble args.length fn.ntmps then E P Γ false fn lv c 1 [] (number 0 args) (fun r => retM P fn r ret) (fun _ _ => fail) ret else fail
  | none => fail

/-- A round of a range over a function. -/
noncomputable def roundF (L : Nat) (args : List Value) : M Value := fun H =>
  match H[L]? with
  | some (.loop fn lv p xs cd regs .ready _) =>
    (bif Nat.beq args.length cd.1.size && cd.1.toList.all (fun t => Nat.blt t fn.ntmps) then
      E P Γ true fn lv cd.2.1 (2 * p) (xs.map fun i => (i, [])) (putPs cd.1.toList args regs)
        (fun r => begM L (E P Γ true fn lv cd.2.2 (2 * p + 1) (xs.map fun i => (i, [])) r (fun _ => endR L none) (fun j _ => endR L (some (.exit j))) (fun _ => endR L (some .ret))))
        (fun _ _ => fail) (fun _ => fail)
    else fail) H
  | _ => none

end

noncomputable def run (P : Program) (prim : FuncId → Option (List Value → M Value)) (lvs : FuncId → List (Nat × List Nat)) : Nat → Funs
  | 0 => fun _ _ => fail
  | n + 1 => fun g args => bif Nat.blt g yoff then
      (match prim g with
      | some m => m args
      | none => match P.funcs[g]? with
        | some fn => bif callable fn then runF P (run P prim lvs n) fn (lvs g) args else fail
        | none => fail)
    else roundF P (run P prim lvs n) (g - yoff) args

/-- A piece of a function's text, by its number. -/
def atN (B : Code) : Nat → Nat → Option Code
  | 0, _ => none
  | fuel + 1, p => bif Nat.ble p 1 then some B else
    match atN B fuel (p / 2) with
    | some (.seq a b) => bif Nat.beq (p % 2) 0 then some a else some b
    | some (.cond _ a b) => bif Nat.beq (p % 2) 0 then some a else some b
    | some (.block _ c) => some c
    | some (.loop c) => some c
    | _ => none

/-- The range over a function that stands there. -/
def rfAt (fn : Func) (p : Nat) : Array Tmp × Code × Code :=
  match fn.body with
  | some B => match atN B p p with
    | some (.rangeFunc _ ps a b) => (ps, a, b)
    | _ => (#[], .skip, .skip)
  | none => (#[], .skip, .skip)

end Go.Proofs.YtlpibiaokpbhbaaGreatDoor.A
