/- What the law TallyPlays needs (part 1). -/
import Derived.Calls
import Derived.RangeFuncNested
import Derived.Orders
import Derived.Laws.Cells
import Derived.Laws.Rows
import Derived.Tactics
import GoSem.Dispatch
import Derived.Laws.Sem
import Derived.Laws.Entries
import Derived.ChangeKeysEq
import Derived.Laws.BytesString
namespace Go.Proofs.Ytfefblgkfdaekaa.A
set_option linter.unusedVariables false
set_option linter.unusedSimpArgs false
structure Loc where
 blk : Nat
 base : Nat
 tot : Nat
 es : Nat
 grow : Bool
inductive Zo where
 | cells (cs : List Value) (es : Nat) (grow ro : Bool)
 | map (es : List (Value × Value × Nat)) (clk : Nat)
 | mapU (es : List (Value × Value × Nat))
 | dead
 | view (cs : List Value) (es nx : Nat)
 | loop (fn : Func) (lv : List (Nat × List Nat)) (p : Nat) (xs : List Nat) (cd : Array Tmp × Code × Code) (regs : List (Nat × Value)) (st : LoopState) (pd : Option Code)
 | siter (s : ByteArray) (pos : Nat)
abbrev Zb:=List Zo
abbrev M (α : Type):=Zb→Option (α × Zb)
def fail {α : Type} : M α:=fun _=>none
def ret {α : Type} (a : α) : M α:=fun H=>some (a,H)
def bind {α β : Type} (m : M α) (k : α→M β) : M β:=fun H=>
 match m H with
 | none=>none
 | some (a,H')=>k a H'
inductive Out where
 | nrm (vs : List Value)
 | ext (id : Nat) (vs : List Value)
 | ret (v : Value)
def i64 (n : Int) : Value:=.int .i64 n
def Zy : Value→Bool
 | .bool _ | .int _ _ | .float _ _ | .complex _ _ _ | .string _ | .pointer none | .slice none 0 0 | .map none | .chan none | .nilFunc | .nilIface=>true
 | _=>false
def u8s (l : List UInt8) : List Value:=l.map fun b=>.int .u8 b.toNat
def Y5 : Value→Bool
 | .agg cs=>cs.all Zy
 | .tuple cs=>cs.all Zy
 | v=>Zy v
def Q0 (op : BinOp) (k : IntKind) (a b : Int) : Option Value:=
 match op with
 | .add=>some (.int k (k.wrap (a+b)))
 | .sub=>some (.int k (k.wrap (a - b)))
 | .mul=>some (.int k (k.wrap (a * b)))
 | .quo=>bif b==0 then none else some (.int k (k.wrap (a.tdiv b)))
 | .rem=>bif b==0 then none else some (.int k (a.tmod b))
 | .and=>some (.int k (k.wrap (BitVec.ofInt k.bits a &&& BitVec.ofInt k.bits b).toNat))
 | .or=>some (.int k (k.wrap (BitVec.ofInt k.bits a ||| BitVec.ofInt k.bits b).toNat))
 | .xor=>some (.int k (k.wrap (BitVec.ofInt k.bits a ^^^ BitVec.ofInt k.bits b).toNat))
 | .andNot=>some (.int k (k.wrap (BitVec.ofInt k.bits a &&& ~~~ BitVec.ofInt k.bits b).toNat))
 | .eql=>some (.bool (a==b))
 | .neq=>some (.bool (a !=b))
 | .lss=>some (.bool (decide (a < b)))
 | .leq=>some (.bool (decide (a≤b)))
 | .gtr=>some (.bool (decide (a > b)))
 | .geq=>some (.bool (decide (a≥b)))
 | _=>none
def ZaQ (op : BinOp) (k : IntKind) (a b : Int) : Option Value:=
 bif decide (b < 0) then none else
  match op with
  | .shl=>some (.int k (k.wrap (a * 2 ^ (min b.toNat k.bits))))
  | .shr=>some (.int k (a.fdiv (2 ^ (min b.toNat k.bits))))
  | _=>none
def sop (op : BinOp) (a b : ByteArray) : Option Value:=
 match op with
 | .add=>bif decide (a.size+b.size≤9223372036854775807) then some (.string (a++b)) else none
 | .eql=>some (.bool (a.toList==b.toList))
 | .neq=>some (.bool !(a.toList==b.toList))
 | .lss=>some (.bool (Op.bytesLess a.toList b.toList))
 | .leq=>some (.bool (Op.bytesLess a.toList b.toList || a.toList==b.toList))
 | .gtr=>some (.bool !(Op.bytesLess a.toList b.toList || a.toList==b.toList))
 | .geq=>some (.bool !(Op.bytesLess a.toList b.toList))
 | _=>none
inductive FK where
 | int | str | bool
 deriving DecidableEq
inductive TK where
 | int | str | bool | ptr | slc | map | fn | ifc | two | other
 | flat (l : List FK)
 deriving DecidableEq
def eqF : List FK→List Value→List Value→Option Bool
 | [],[],[]=>some true
 | .int :: ks,.int k a :: xs,.int l b :: ys=>if k=l then (bif a==b then eqF ks xs ys else some false) else none
 | .str :: ks,.string a :: xs,.string b :: ys=>bif a==b then eqF ks xs ys else some false
 | .bool :: ks,.bool a :: xs,.bool b :: ys=>bif a==b then eqF ks xs ys else some false
 | _,_,_=>none
def eq2 : List Value→List Value→Option Bool
 | [.string a,.string b],[.string c,.string d]=>some (a==c && b==d)
 | _,_=>none
def eqv : TK→Value→Value→Option Bool
 | .bool,.bool a,.bool b=>some (a==b)
 | .ptr,.pointer none,.pointer b=>some b.isNone
 | .ptr,.pointer a,.pointer none=>some a.isNone
 | .slc,.slice none _ _,.slice b _ _=>some b.isNone
 | .slc,.slice a _ _,.slice none _ _=>some a.isNone
 | .map,.map none,.map b=>some b.isNone
 | .map,.map a,.map none=>some a.isNone
 | .fn,.nilFunc,.nilFunc=>some true
 | .fn,.nilFunc,.func _ _ _=>some false
 | .fn,.func _ _ _,.nilFunc=>some false
 | .ifc,.nilIface,.iface _ _=>some false
 | .ifc,.iface _ _,.nilIface=>some false
 | .two,.agg xs,.agg ys=>eq2 xs.toList ys.toList
 | .flat ks,.agg xs,.agg ys=>bif Nat.beq xs.size ks.length && Nat.beq ys.size ks.length then eqF ks xs.toList ys.toList else none
 | _,_,_=>none
def bop (tk : TK) (op : BinOp) (x y : Value) : M Value:=fun H=>
 match op,x,y with
 | .shl,.int k a,.int _ b=>(ZaQ .shl k a b).map (·,H)
 | .shr,.int k a,.int _ b=>(ZaQ .shr k a b).map (·,H)
 | _,.int k a,.int k' b=>bif decide (k=k') then (Q0 op k a b).map (·,H) else none
 | _,.string a,.string b=>(sop op a b).map (·,H)
 | .eql,x,y=>(eqv tk x y).map fun b=>(.bool b,H)
 | .neq,x,y=>(eqv tk x y).map fun b=>(.bool (!b),H)
 | _,_,_=>none
def uop (op : UnOp) (x : Value) : M Value:=fun H=>
 match op,x with
 | .neg,.int k n=>some (.int k (k.wrap (0 - n)),H)
 | .xor,.int k n=>(Q0 .xor k (if k.signed then -1 else k.max) n).map (·,H)
 | .not,.bool b=>some (.bool (!b),H)
 | _,_=>none
def YS (x : Value) : M Value:=fun H=>
 match x with
 | .pointer (some a)=>some (.pointer (some a),H)
 | .func (.func f) a b=>some (.func (.func f) a b,H)
 | _=>none
def cvi (k : IntKind) (x : Value) : M Value:=fun H=>
 match x with
 | .int _ n=>some (.int k (k.wrap n),H)
 | _=>none
def pick (c a b : Value) : M Value:=fun H=>
 match c with
 | .bool t=>some (bif t then a else b,H)
 | _=>none
def Jp (t : Value) (i : Nat) : M Value:=fun H=>
 match t with
 | .tuple vs=>bif Nat.beq vs.size 1 then (match vs.toList,i with
  | [.bool b],0=>some (.bool b,H)
  | _,_=>none) else (vs[i]?).map (·,H)
 | _=>none
def KA (x : Value) : M Value:=fun H=>
 match x with
 | .slice _ n _=>some (.int .i64 n,H)
 | _=>none
def Zbf (x : Value) : M Value:=fun H=>
 match x with
 | .string s=>some (.int .i64 s.size,H)
 | _=>none
def Zb9 (x : Value) : M Value:=fun H=>
 match x with
 | .map none=>some (.int .i64 0,H)
 | .map (some id)=>match H[id]? with
  | some (.map es _)=>some (.int .i64 es.length,H)
  | some (.mapU es)=>some (.int .i64 es.length,H)
  | _=>none
 | _=>none
def mxi (mx : Bool) (x y : Value) : M Value:=fun H=>
 match x,y with
 | .int k a,.int _ b=>some (.int k (bif mx then (if b > a then b else a) else (if b < a then b else a)),H)
 | _,_=>none
def fa (off : Nat) (x : Value) : M Value:=fun H=>
 match x with
 | .pointer (some ⟨id,o,none⟩)=>some (.pointer (some ⟨id,o+off,none⟩),H)
 | _=>none
def ixa (es : Nat) (x i : Value) : M Value:=fun H=>
 match x,i with
 | .slice (some ⟨id,o,none⟩) n _,.int _ i=>if 0≤i∧i < n then some (.pointer (some ⟨id,o+i.toNat * es,none⟩),H) else none
 | _,_=>none
def J3 (len es : Nat) (x i : Value) : M Value:=fun H=>
 match x,i with
 | .pointer (some ⟨id,o,none⟩),.int _ i=>if 0≤i∧i < len then some (.pointer (some ⟨id,o+i.toNat * es,none⟩),H) else none
 | _,_=>none
def ixs (x i : Value) : M Value:=fun H=>
 match x,i with
 | .string s,.int _ i=>if 0≤i then (match s[i.toNat]? with | some b=>some (.int .u8 b.toNat,H) | none=>none) else none
 | _,_=>none
def prt (agg : Bool) (size : Nat) (x : Value) (off : Nat) : M Value:=fun H=>
 match x with
 | .agg cs=>bif agg then some (.agg (cs.extract off (off+size)),H) else (cs[off]?).map (·,H)
 | _=>none
def ixv (agg : Bool) (len size : Nat) (x i : Value) : M Value:=fun H=>
 match i with
 | .int _ i=>if 0≤i∧i < len then prt agg size x (i.toNat * size) H else none
 | _=>none
def oneCell : Value→Bool
 | .agg _ | .tuple _=>false
 | _=>true
def Zfs (H : Zb) (id : Nat) : Option (List Value):=
 match H[id]? with
 | some (.cells cs _ _ _)=>some cs
 | _=>none
def Zda : Value→Value→Bool
 | .string a,.string b=>decide (a=b)
 | .bool a,.bool b=>decide (a=b)
 | .int k a,.int k' b=>decide (k=k') && decide (a=b)
 | _,_=>false
def YR : List Value→List Value→Bool
 | [],_=>true
 | x :: xs,y :: ys=>Zda x y && YR xs ys
 | _ :: _,[]=>false
theorem Zd6 {a b : Value} (h : Zda a b=true) : a=b:=by
 unfold Zda at h
 split at h
 ·rw [of_decide_eq_true h]
 ·rw [of_decide_eq_true h]
 ·simp only [Bool.and_eq_true,decide_eq_true_eq] at h;rw [h.1,h.2]
 ·cases h
theorem K4 : ∀ {cs ds : List Value} {i : Nat} {v : Value},YR cs ds=true→cs[i]?=some v→ds[i]?=some v
 | [],_,i,v,_,h=>by simp at h
 | x :: xs,[],i,v,h,_=>by cases h
 | x :: xs,y :: ys,i,v,h,hi=>by
  simp only [YR,Bool.and_eq_true] at h
  cases i with
  | zero=>rw [← Zd6 h.1];exact hi
  | succ i=>simpa using K4 h.2 (by simpa using hi)
def ld1 (x : Value) : M Value:=fun H=>
 match x with
 | .pointer (some ⟨id,o,none⟩)=>match H[id]? with
  | some (.cells cs _ _ _)=>(cs[o]?).map (·,H)
  | some (.view cs _ nx)=>match H[nx]? with
   | some (.cells ds _ _ false)=>bif YR cs ds then (cs[o]?).map (·,H) else none
   | _=>none
  | _=>none
 | _=>none
def ldA (n : Nat) (x : Value) : M Value:=fun H=>
 match x with
 | .pointer (some ⟨id,o,none⟩)=>match H[id]? with
  | some (.cells cs _ _ _)=>if o+n≤cs.length then some (.agg ((cs.drop o).take n).toArray,H) else none
  | _=>none
 | _=>none
def splice (cs new : List Value) (o : Nat) : List Value:=cs.take o++new++cs.drop (o+new.length)
def st1 (x v : Value) : M Value:=fun H=>
 match x with
 | .pointer (some ⟨id,o,none⟩)=>match H[id]? with
  | some (.cells cs es g false)=>if o < cs.length∧oneCell v then some (undef,H.set id (.cells (cs.set o v) es g false)) else none
  | _=>none
 | _=>none
def stA (n : Nat) (x v : Value) : M Value:=fun H=>
 match x,v with
 | .pointer (some ⟨id,o,none⟩),.agg vs=>match H[id]? with
  | some (.cells cs es g false)=>if o+n≤cs.length∧vs.size=n∧vs.toList.all oneCell then some (undef,H.set id (.cells (splice cs vs.toList o) es g false)) else none
  | _=>none
 | _,_=>none
def ZdR (es : Nat) (grow : Bool) (cs : List Value) : M Value:=fun H=>
 some (.pointer (some ⟨H.length,0,none⟩),H++[.cells cs es grow false])
def alc (es : Nat) (v : Value) : M Value:=fun H=>
 if v.cells.toList.all oneCell then ZdR es false v.cells.toList H else none
def Zc3 (es : Nat) (grow : Bool) (len : Nat) (cs : List Value) : M Value:=fun H=>
 some (.slice (some ⟨H.length,0,none⟩) len len,H++[.cells cs es grow false])
def Qd (size : Nat) (H : Zb) : Value→Option (List Value)
 | .slice none _ _=>some []
 | .slice (some ⟨id,o,none⟩) n _=>match H[id]? with
  | some (.cells cs _ _ _)=>if o+n * size≤cs.length then some ((cs.drop o).take (n * size)) else none
  | _=>none
 | .slice (some ⟨_,_,some _⟩) n _=>if n=0 then some [] else none
 | .string s=>if size=1 then some (u8s s.data.toList) else none
 | _=>none
def flen : Value→Nat
 | .slice _ n _=>n
 | .string s=>s.size
 | _=>0
def app (size bytes : Nat) (s x : Value) : M Value:=fun H=>
 match Qd size H x with
 | none=>none
 | some new=>
  let n:=flen x
  match s with
  | .slice none 0 0=>
   if n=0 then some (.slice none 0 0,H) else
   if n≤140737488355328∧n * bytes≤140737488355328 then some (.slice (some ⟨H.length,0,none⟩) n n,H++[.cells new size true false]) else none
  | .slice (some ⟨id,o,some j⟩) 0 0=>
   if n=0 then some (.slice (some ⟨id,o,some j⟩) 0 0,H) else
   if j=0∧n≤140737488355328∧n * bytes≤140737488355328 then some (.slice (some ⟨H.length,0,none⟩) n n,H++[.cells new size true false]) else none
  | .slice (some ⟨id,o,none⟩) len cap=>match H[id]? with
   | some (.cells cs es grow ro)=>
    if es=size then
     if len+n≤cap then
      if n=0 then some (.slice (some ⟨id,o,none⟩) len cap,H) else
      if ro=false∧o+(len+n) * size≤cs.length then some (.slice (some ⟨id,o,none⟩) (len+n) cap,H.set id (.cells (splice cs new (o+len * size)) es grow false)) else none
     else if (grow && ro)=false∧o+len * size≤cs.length∧len+n≤140737488355328∧(len+n) * bytes≤140737488355328 then
      let old:=(cs.drop o).take (len * size)
      some (.slice (some ⟨H.length,0,none⟩) (len+n) (len+n),(bif grow then H.set id (bif Nat.beq o 0 then .view old size H.length else .dead) else H)++[.cells (old++new) size true false])
     else none
    else none
   | _=>none
  | _=>none
def cpy (size : Nat) (d x : Value) : M Value:=fun H=>
 match Qd size H x,d with
 | some _,.slice none _ _=>some (.int .i64 0,H)
 | some new,.slice (some ⟨id,o,none⟩) len _=>match H[id]? with
  | some (.cells cs es g false)=>
   let n:=min (flen x) len
   if o+n * size≤cs.length then some (.int .i64 n,H.set id (.cells (splice cs (new.take (n * size)) o) es g false)) else none
  | _=>none
 | _,_=>none
def bnd (x : Option Value) (d : Nat) : Option Nat:=
 match x with
 | none=>some d
 | some (.int _ i)=>if 0≤i then some i.toNat else none
 | some _=>none
def sls (x : Value) (lo hi : Option Value) : M Value:=fun H=>
 match x with
 | .string s=>match bnd lo 0,bnd hi s.size with
  | some l,some h=>if l≤h∧h≤s.size then some (.string (s.extract l h),H) else none
  | _,_=>none
 | _=>none
def slv (es : Nat) (x : Value) (lo hi mx : Option Value) : M Value:=fun H=>
 match x with
 | .slice none 0 0=>match bnd lo 0,bnd hi 0,bnd mx 0 with
  | some 0,some 0,some 0=>some (.slice none 0 0,H)
  | _,_,_=>none
 | .slice (some ⟨id,o,some j⟩) 0 0=>match bnd lo 0,bnd hi 0,mx with
  | some 0,some 0,none=>some (.slice (some ⟨id,o,some j⟩) 0 0,H)
  | _,_,_=>none
 | .slice (some ⟨id,o,none⟩) n c=>match H[id]? with
  | some (.cells _ es' g _)=>match bnd lo 0,bnd hi n,bnd mx c with
   | some l,some h,some m=>
    if es'=es∧l≤h∧h≤m∧m≤c then
     if m=l then some (.slice (some ⟨id,o,some (match mx with | none=>bif g then 1 else 0 | some _=>0)⟩) 0 0,H)
     else some (.slice (some ⟨id,o+l * es,none⟩) (h - l) (m - l),H)
    else none
   | _,_,_=>none
  | _=>none
 | _=>none
def KL : List Value→Option (List UInt8)
 | []=>some []
 | .int .u8 n :: l=>(KL l).map (UInt8.ofNat n.toNat :: ·)
 | _ :: _=>none
def b2s (x : Value) : M Value:=fun H=>
 match x with
 | .slice _ _ _=>match Qd 1 H x with
  | some cs=>(KL cs).map fun bs=>(.string ⟨bs.toArray⟩,H)
  | none=>none
 | _=>none
def mrk (x : Value) : M Value:=fun H=>
 match x with
 | .slice (some ⟨id,o,none⟩) n c=>match H[id]? with
  | some (.cells _ _ _ false)=>some (.slice (some ⟨id,o,none⟩) n c,H)
  | _=>none
 | _=>none
def s2b (x : Value) : M Value:=fun H=>
 match x with
 | .string s=>Zc3 1 true s.size (u8s s.data.toList) H
 | _=>none
def cvs (x : Value) : M Value:=fun H=>
 match x with
 | .string s=>some (.string s,H)
 | _=>none
def J4 : Value:=.tuple #[.tuple #[]]
def Yx : Value→Bool
 | .tuple _=>true
 | _=>false
def KC : List Value→List (Nat × Nat × Value)→Option (List Value)
 | cs,[]=>some cs
 | cs,(off,size,v) :: ps=>if Yx v=false∧v.cells.size=size∧off+size≤cs.length then KC (splice cs v.cells.toList off) ps else none
def bld (z : Value) (ps : List (Nat × Nat × Value)) : M Value:=fun H=>
 (KC z.cells.toList ps).map fun cs=>(.agg cs.toArray,H)
def reps (n : Nat) (zc : List Value) : List Value:=(List.replicate n zc).flatten
def bsl (es len : Nat) (z : Value) (ps : List (Nat × Nat × Value)) : M Value:=fun H=>
 match KC (reps len z.cells.toList) ps with
 | some cs=>if cs.all oneCell then Zc3 es false len cs H else none
 | none=>none
def mks (es bytes : Nat) (z : Value) (len cap : Value) : M Value:=fun H=>
 match len,cap with
 | .int _ l,.int _ c=>
  if 0≤l∧l≤c∧c * bytes≤140737488355328∧c≤140737488355328 then
   some (.slice (some ⟨H.length,0,none⟩) l.toNat c.toNat,H++[.cells (reps c.toNat z.cells.toList) es false false])
  else none
 | _,_=>none
def mkm : M Value:=fun H=>some (.map (some H.length),H++[.map [] 0])
def YG : TK→Value→Value→Option Bool
 | .int,.int k a,.int k' b=>if k=k' then some (a==b) else none
 | .str,.string a,.string b=>some (a==b)
 | .bool,.bool a,.bool b=>some (a==b)
 | _,_,_=>none
def Qq (tk : TK) (k : Value) : List (Value × Value × Nat)→Nat→Option (Option (Nat × Value))
 | [],_=>some none
 | e :: es,i=>
  match YG tk k e.1 with
  | some true=>some (some (i,e.2.1))
  | some false=>Qq tk k es (i+1)
  | none=>none
def okK : TK→Value→Bool
 | .int,.int _ _=>true
 | .str,.string _=>true
 | .bool,.bool _=>true
 | _,_=>false
def lkp (tk : TK) (z : Value) (ok : Bool) (m k : Value) : M Value:=fun H=>
 let back (v : Value) (is : Bool) : Option (Value × Zb):=some (bif ok then .tuple #[v,.bool is] else v,H)
 match m with
 | .map none=>bif okK tk k then back z false else none
 | .map (some id)=>match H[id]? with
  | some (.map es _)=>bif okK tk k then (match Qq tk k es 0 with
   | some (some (_,v))=>back v true
   | some none=>back z false
   | none=>none) else none
  | some (.mapU es)=>bif okK tk k then (match Qq tk k es 0 with
   | some (some (_,v))=>back v true
   | some none=>back z false
   | none=>none) else none
  | _=>none
 | _=>none
def Q5 (es : List (Value × Value × Nat)) (i : Nat) (v : Value) : List (Value × Value × Nat):=es.modify i fun e=>(e.1,v,e.2.2)
def mup (tk : TK) (m k v : Value) : M Value:=fun H=>
 match m with
 | .map (some id)=>match H[id]? with
  | some (.map es clk)=>bif okK tk k then (match Qq tk k es 0 with
   | some (some (i,_))=>some (undef,H.set id (.map (Q5 es i v) clk))
   | some none=>some (undef,H.set id (.map (es++[(k,v,clk)]) (clk+1)))
   | none=>none) else none
  | some (.mapU es)=>bif okK tk k then (match Qq tk k es 0 with
   | some (some (i,_))=>some (undef,H.set id (.mapU (Q5 es i v)))
   | some none=>(match k with
    | .string _=>some (undef,H.set id (.mapU (es++[(k,v,0)])))
    | _=>none)
   | none=>none) else none
  | _=>none
 | _=>none
def men (tk : TK) (z : Value) (m k : Value) : M Value:=fun H=>
 match m with
 | .map (some id)=>match H[id]? with
  | some (.map es clk)=>bif okK tk k then (match Qq tk k es 0 with
   | some (some (i,v))=>some (.tuple #[v,.int .i64 ((es.getD i (undef,undef,0)).2.2 : Nat)],H)
   | some none=>some (.tuple #[z,.int .i64 (clk : Nat)],H.set id (.map (es++[(k,z,clk)]) (clk+1)))
   | none=>none) else none
  | _=>none
 | _=>none
def ens (m st v : Value) : M Value:=fun H=>
 match m,st with
 | .map (some id),.int _ n=>match H[id]? with
  | some (.map es clk)=>match es.findIdx? (fun e=>(e.2.2 : Int)==n) with
   | some i=>some (undef,H.set id (.map (Q5 es i v) clk))
   | none=>none
  | _=>none
 | _,_=>none
def mde (tk : TK) (m k : Value) : M Value:=fun H=>
 match m with
 | .map none=>bif okK tk k then some (.tuple #[],H) else none
 | .map (some id)=>match H[id]? with
  | some (.map es clk)=>bif okK tk k then (match Qq tk k es 0 with
   | some (some (i,_))=>some (.tuple #[],H.set id (.map (es.eraseIdx i) clk))
   | some none=>some (.tuple #[],H)
   | none=>none) else none
  | some (.mapU es)=>bif okK tk k then (match Qq tk k es 0 with
   | some (some (i,_))=>some (.tuple #[],H.set id (.mapU (es.eraseIdx i)))
   | some none=>some (.tuple #[],H)
   | none=>none) else none
  | _=>none
 | _=>none
def Zei (x : Value) : M Value:=fun H=>
 match x with
 | .map none=>some (.tuple #[],H)
 | .map (some id)=>match H[id]? with
  | some (.map _ clk)=>some (.tuple #[],H.set id (.map [] clk))
  | some (.mapU _)=>some (.tuple #[],H.set id (.mapU []))
  | _=>none
 | _=>none
def clr (z : Value) (es : Nat) (x : Value) : M Value:=fun H=>
 match x with
 | .slice none _ _=>some (.tuple #[],H)
 | .slice (some ⟨_,_,some _⟩) 0 _=>some (.tuple #[],H)
 | .slice (some ⟨id,o,none⟩) n _=>if n=0 then some (.tuple #[],H) else match H[id]? with
  | some (.cells cs es' g false)=>if es'=es∧o+n * es≤cs.length then some (.tuple #[],H.set id (.cells (splice cs (reps n z.cells.toList) o) es g false)) else none
  | _=>none
 | _=>none
def Zb0 (t : TypeId) (x : Value) : M Value:=fun H=>some (.iface t x,H)
def Zc0 (x : Value) : M Value:=fun H=>
 match x with
 | .string s=>some (.pointer (some ⟨H.length,0,none⟩),H++[.siter s 0])
 | _=>none
def Zde (x : Value) : M Value:=fun H=>
 match x with
 | .pointer (some ⟨id,0,none⟩)=>match H[id]? with
  | some (.siter s pos)=>
   if pos < s.size then some (.tuple #[.bool true,.int .i64 pos,.int .i32 ((Utf8.decode s pos).1 : Nat)],H.set id (.siter s (pos+(Utf8.decode s pos).2)))
   else some (.tuple #[.bool false],H)
  | _=>none
 | _=>none
end Go.Proofs.Ytfefblgkfdaekaa.A
namespace Go.Proofs.Ytfefblgkfdaekaa.A
set_option linter.unusedVariables false
set_option linter.unusedSimpArgs false
abbrev Zf:=List (Nat × Value)
def Zk : Zf→Nat→Value
 | [],_=>undef
 | (s,v) :: r,t=>bif Nat.beq s t then v else Zk r t
def J0 (r : Zf) (d : Option Nat) (v : Value) : Zf:=
 match d with
 | some d=>(d,v) :: r
 | none=>r
def ev (r : Zf) : Operand→Value
 | .tmp t=>Zk r t
 | .const v=>v
 | .global g=>.pointer (some ⟨g,0,none⟩)
 | .func f=>.func (.func f) #[] #[]
def mk : List Nat→List Value→Zf
 | [],_=>[]
 | t :: ts,vs=>(t,vs.headD undef) :: mk ts vs.tail
def proj (L : List Nat) (r : Zf) : List Value:=L.map (Zk r)
def ins (t : Nat) : List Nat→List Nat
 | []=>[t]
 | u :: l=>bif Nat.beq t u then u :: l else bif Nat.blt t u then t :: u :: l else u :: ins t l
def Zfg (ts l : List Nat) : List Nat:=ts.foldr ins l
def Zc6 : Operand→List Nat
 | .tmp t=>[t]
 | _=>[]
def ZcW (os : List Operand) : List Nat:=os.flatMap Zc6
def J7 (ops : List Oper) (j : Nat) : Option Nat:=(ops[j]?).bind (·.dst)
def lkX : List (Nat × List Nat)→Nat→List Nat
 | [],_=>[]
 | (i,L) :: X,j=>bif Nat.beq i j then L else lkX X j
def Jq : Code→Bool
 | .seq a b=>Jq a && Jq b
 | .cond _ t e=>Jq t || Jq e
 | .block id c=>Jq c || xto id c
 | .loop _=>false
 | .exit _=>false
 | .ret=>false
 | _=>true
where xto (id : Nat) : Code→Bool
 | .seq a b=>xto id a || xto id b
 | .cond _ t e=>xto id t || xto id e
 | .block _ c=>xto id c
 | .loop c=>xto id c
 | .rangeFunc _ _ _ c=>xto id c
 | .exit j=>Nat.beq j id
 | _=>false
def YK (id : Nat) : Code→Nat
 | .seq a b=>YK id a+YK id b
 | .cond _ t e=>YK id t+YK id e
 | .block _ c=>YK id c
 | .loop c=>YK id c
 | .rangeFunc _ _ _ c=>bif Jq.xto id c then 1 else 0
 | .exit j=>bif Nat.beq j id then 1 else 0
 | _=>0
def JG (body : List Value→M Out) : Nat→List Value→M Out
 | 0,_=>fail
 | n+1,vs=>fun H=>
  match body vs H with
  | none=>none
  | some (.nrm vs',H')=>JG body n vs' H'
  | some (o,H')=>some (o,H')
open Classical in
noncomputable def Qb (body : List Value→M Out) (vs : List Value) : M Out:=fun H=>
 if h : ∃ n,(JG body n vs H).isSome then JG body (Classical.choose h) vs H else none
def cnd {β : Type} (g : Value) (a b : M β) : M β:=
 match g with
 | .bool t=>bif t then a else b
 | _=>fail
def JJ (g : Value) (want : Bool) (n : Nat) (m : M (List Value)) : M (List Value):=
 match g with
 | .bool b=>bif b==want then m else ret (List.replicate n J4)
 | .tuple vs=>bif Nat.beq vs.size 1 then ret (List.replicate n J4) else fail
 | _=>fail
def jn {β : Type} (m : M Out) (kn : List Value→M β) (kx : Nat→List Value→M β) (kr : Value→M β) : M β:=bind m fun o=>
 match o with
 | .nrm vs=>kn vs
 | .ext j vs=>kx j vs
 | .ret v=>kr v
abbrev Zp:=FuncId→List Value→M Value
def Yh (fn : Func) : Bool := !(fn.name == "runtime.NumGoroutine") && fn.body.isSome
def Zc8 (P : Program) (g : FuncId) : Bool:=
 match P.funcs[g]? with
 | some fn=>Yh fn
 | none=>false
def JM : Nat:=1000000
def ZbH (Γ : Zp) (f : Value) (args : List Value) : M Value:=
 match f with
 | .func (.func g) first captured=>bif Nat.blt g JM then Γ g (first.toList++(args++captured.toList)) else fail
 | .func (.yield L) _ _=>Γ (JM+L) args
 | _=>fail
def Zep (P : Program) (t : TypeId) (name : String) : Option FuncId:=
 match P.info? t,P.underlying t with
 | some i,some (.pointer _)=>(match i.methods.find? (fun m=>m.name==name) with
  | some m=>(match m.path.toList,m.func with
   | [],some (g,true)=>bif Nat.blt g JM then some g else none
   | _,_=>none)
  | none=>none)
 | _,_=>none
def ZbD (P : Program) (Γ : Zp) (v : Value) (name : String) (args : List Value) : M Value:=
 match v with
 | .iface t x=>(match Zep P t name with
  | some g=>Γ g (x :: args)
  | none=>fail)
 | _=>fail
def Zar {β : Type} (L : Nat) (k : Option Code→M β) : M β:=fun H=>
 match H[L]? with
 | some (.loop fn lv p xs cd regs st pd)=>(match st with
  | .busy=>none
  | _=>k pd (H.set L (.loop fn lv p xs cd regs .exhausted pd)))
 | _=>none
def ZaL {β : Type} (ok : FuncId→Bool) (Γ : Zp) (v : Value) (fn : Func) (lv : List (Nat × List Nat)) (p : Nat) (xs : List Nat) (cd : Array Tmp × Code × Code) (regs : Zf) (k : Option Code→M β) : M β:=
 match v with
 | .func (.func g) first captured=>bif Nat.blt g JM && ok g then fun H=>
   (match Γ g (first.toList++([.func (.yield H.length) #[] #[]]++captured.toList)) (H++[.loop fn lv p xs cd regs .ready none]) with
   | some (_,H1)=>Zar H.length k H1
   | none=>none)
  else fail
 | _=>fail
def Ze8 {β : Type} (L : Nat) (m : M β) : M β:=fun H=>
 match H[L]? with
 | some (.loop fn lv p xs cd regs .ready pd)=>m (H.set L (.loop fn lv p xs cd regs .busy pd))
 | _=>none
def ZbU (L : Nat) (j : Option Code) : M Value:=fun H=>
 match H[L]? with
 | some (.loop fn lv p xs cd regs _ _)=>some (.bool j.isNone,H.set L (.loop fn lv p xs cd regs (if j.isNone then .ready else .done) j))
 | _=>none
def Zem (ps : List Nat) (vs : List Value) (r : Zf) : Zf:=(ps.zip vs).foldl (fun r q=>q :: r) r
section
variable (P : Program)
def JH (t : TypeId) : Option Bool:=
 match P.underlying t with
 | some (.struct _) | some (.array _ _)=>some true
 | some _=>some false
 | none=>none
def szT (t : TypeId) : Nat:=((P.info? t).map (·.size)).getD 0
def byT (t : TypeId) : Nat:=((P.info? t).map (·.bytes)).getD 0
def zeT (t : TypeId) : Value:=((P.info? t).bind (·.zero)).getD undef
def Jt (t : TypeId) : Bool:=((P.info? t).bind (·.zero)).isSome && Y5 (zeT P t)
def esT (t : TypeId) : Nat:=
 match P.underlying t with
 | some (.array _ e)=>szT P e
 | _=>1
def ZbC (t : TypeId) : Bool:=match P.underlying t with
 | some .string=>true
 | _=>false
def Zc2 (t : TypeId) : List Field→Bool
 | [f, g] => f.name != "_" && (g.name != "_" && (Nat.beq f.offset 0 && (Nat.beq g.offset 1 && (ZbC P f.type && (ZbC P g.type && (!P.stoodInHeld t && !P.eqGuardType P.depth t))))))
 | _=>false
def Za0 (g : TypeId→Option (List FK)) : List Field→Nat→Option (List FK)
 | [],_=>some []
 | f :: l, o => bif f.name != "_" && Nat.beq f.offset o then (match g f.type with
  | some ks=>bif Nat.beq (szT P f.type) ks.length then (Za0 g l (o+ks.length)).map (ks++·) else none
  | none=>none) else none
def J6 : Nat→TypeId→Option (List FK)
 | 0,_=>none
 | d+1,t=>match P.underlying t with
  | some (.int _)=>some [.int]
  | some .string=>some [.str]
  | some .bool=>some [.bool]
  | some (.struct fs)=>bif P.stoodInHeld t then none else Za0 P (J6 d) fs.toList 0
  | some (.array n e)=>(match J6 d e with
   | some ks=>bif Nat.beq (szT P e) ks.length then some (List.replicate n ks).flatten else none
   | none=>none)
  | _=>none
def YY (t : TypeId) : TK:=bif P.eqGuardType P.depth t then .other else (match J6 P 5 t with
 | some l=>.flat l
 | none=>.other)
def tkT (t : TypeId) : TK:=
 match P.underlying t with
 | some (.int _)=>.int
 | some .string=>.str
 | some .bool=>.bool
 | some (.pointer _)=>.ptr
 | some (.slice _)=>.slc
 | some (.map _ _)=>.map
 | some (.func _ _ _)=>.fn
 | some (.interface _)=>.ifc
 | some (.struct fs)=>bif Zc2 P t fs.toList then .two else YY P t
 | some (.array _ _)=>YY P t
 | _=>.other
def okE (e : TypeId) : Bool:=Jt P e && !Yx (zeT P e) && Nat.beq (zeT P e).cells.size (szT P e)
end
section
variable (P : Program) (Γ : Zp)
inductive OpR where
 | val (v : Value)
 | cmp (m : M Value)
def Yl {β : Type} (m : OpR) (k : Value→M β) : M β:=
 match m with
 | .val v=>k v
 | .cmp m=>bind m k
def Yz (ev : Operand→Value) (c : Call) : OpR:=
 match c.callee,c.args.toList,c.argTypes.toList with
 | .value f,as,_=>.cmp (ZbH Γ (ev f) (as.map ev))
 | .invoke r nm,as,_=>.cmp (ZbD P Γ (ev r) nm (as.map ev))
 | .builtin .len,[x],[t]=>(match P.underlying t with
  | some .string=>.cmp (Zbf (ev x))
  | some (.slice _)=>.cmp (KA (ev x))
  | some (.map _ _)=>.cmp (Zb9 (ev x))
  | _=>.cmp fail)
 | .builtin .append,[s,x],[t,u]=>(match P.underlying t,P.underlying u with
  | some (.slice e),some (.slice _)=>bif okE P e then .cmp (app (szT P e) (byT P e) (ev s) (ev x)) else .cmp fail
  | some (.slice e),some .string=>bif okE P e then .cmp (app (szT P e) (byT P e) (ev s) (ev x)) else .cmp fail
  | _,_=>.cmp fail)
 | .builtin .max,[x,y],_=>.cmp (mxi true (ev x) (ev y))
 | .builtin .min,[x,y],_=>.cmp (mxi false (ev x) (ev y))
 | .builtin .copy,[d,x],[t,_]=>(match P.underlying t with
  | some (.slice e)=>bif okE P e then .cmp (cpy (szT P e) (ev d) (ev x)) else .cmp fail
  | _=>.cmp fail)
 | .builtin .clear,[x],[t]=>(match P.underlying t with
  | some (.slice e)=>bif okE P e then .cmp (clr (zeT P e) (szT P e) (ev x)) else .cmp fail
  | some (.map _ _)=>.cmp (Zei (ev x))
  | _=>.cmp fail)
 | .builtin .delete,[m,y],[t,_]=>(match P.underlying t with
  | some (.map kt _)=>.cmp (mde (tkT P kt) (ev m) (ev y))
  | _=>.cmp fail)
 | _,_,_=>.cmp fail
def YC (t : TypeId) : Bool:=
 match P.underlying t with
 | some (.struct fs)=>fs.toList.all fun f=>(P.info? f.type).isSome
 | some (.array _ e)=>(P.info? e).isSome
 | _=>false
def KO (t : TypeId) (ps : List (Nat × Operand)) (ev : Operand→Value) : Option (List (Nat × Nat × Value)):=
 match P.underlying t with
 | some (.struct fs)=>ps.mapM fun p=>match fs[p.1]? with
  | some f=>some (f.offset,szT P f.type,ev p.2)
  | none=>none
 | some (.array _ e)=>some (ps.map fun p=>(p.1 * szT P e,szT P e,ev p.2))
 | _=>none
def opM (ev : Operand→Value) (o : Op) : OpR:=
 match o with
 | .move x | .assign x=>.val (ev x)
 | .pick c a b=>.cmp (pick (ev c) (ev a) (ev b))
 | .extract t i=>.cmp (Jp (ev t) i)
 | .nilCheck x=>.cmp (YS (ev x))
 | .binOp op t x y _=>.cmp (bop (tkT P t) op (ev x) (ev y))
 | .unOp op _ x=>.cmp (uop op (ev x))
 | .convert s d x=>(match P.underlying s,P.underlying d with
  | some (.int _),some (.int kd)=>.cmp (cvi kd (ev x))
  | some .string,some .string=>.cmp (cvs (ev x))
  | some .string,some (.slice e)=>(match P.underlying e with
   | some (.int .u8)=>.cmp (s2b (ev x))
   | _=>.cmp fail)
  | some (.slice e),some .string=>(match P.underlying e with
   | some (.int .u8)=>.cmp (b2s (ev x))
   | _=>.cmp fail)
  | some (.slice _),some (.slice e)=>(match P.underlying e with
   | some (.int .u8)=>bif Nat.beq s d then .cmp (mrk (ev x)) else .cmp fail
   | _=>.cmp fail)
  | _,_=>.cmp fail)
 | .fieldAddr s x f=>(match P.underlying s with
  | some (.struct fs)=>(match fs[f]? with
   | some fd=>bif Nat.beq (szT P fd.type) 0 then .cmp fail else .cmp (fa fd.offset (ev x))
   | none=>.cmp fail)
  | _=>.cmp fail)
 | .field s x f=>(match P.underlying s with
  | some (.struct fs)=>(match fs[f]? with
   | some fd=>(match JH P fd.type with
    | some g=>.cmp (prt g (szT P fd.type) (ev x) fd.offset)
    | none=>.cmp fail)
   | none=>.cmp fail)
  | _=>.cmp fail)
 | .indexAddr t x i=>(match P.underlying t with
  | some (.slice e)=>(match P.info? e with
   | some _=>.cmp (ixa (szT P e) (ev x) (ev i))
   | none=>.cmp fail)
  | some (.array n e)=>(match P.info? e with
   | some _=>.cmp (J3 n (szT P e) (ev x) (ev i))
   | none=>.cmp fail)
  | _=>.cmp fail)
 | .index t x i=>(match P.underlying t with
  | some .string=>.cmp (ixs (ev x) (ev i))
  | some (.array n e)=>(match JH P e with
   | some g=>.cmp (ixv g n (szT P e) (ev x) (ev i))
   | none=>.cmp fail)
  | _=>.cmp fail)
 | .load t a=>(match JH P t with
  | some true=>.cmp (ldA (szT P t) (ev a))
  | some false=>.cmp (ld1 (ev a))
  | none=>.cmp fail)
 | .store t a v=>(match JH P t with
  | some true=>.cmp (stA (szT P t) (ev a) (ev v))
  | some false=>bif Nat.beq (szT P t) 1 then .cmp (st1 (ev a) (ev v)) else .cmp fail
  | none=>.cmp fail)
 | .alloc t=>bif Jt P t then .cmp (alc (esT P t) (zeT P t)) else .cmp fail
 | .box t v=>.cmp (alc (esT P t) (ev v))
 | .call c=>Yz P Γ ev c
 | .slice t x lo hi mx=>(match P.underlying t with
  | some .string=>(match mx with | none=>.cmp (sls (ev x) (lo.map ev) (hi.map ev)) | some _=>.cmp fail)
  | some (.slice e)=>(match hi,mx with
   | none,some _=>.cmp fail
   | _,_=>(match P.info? e with
    | some _=>.cmp (slv (szT P e) (ev x) (lo.map ev) (hi.map ev) (mx.map ev))
    | none=>.cmp fail))
  | _=>.cmp fail)
 | .build t ps=>bif Jt P t && YC P t then (match KO P t ps.toList ev with
  | some l=>.cmp (bld (zeT P t) l)
  | none=>.cmp fail) else .cmp fail
 | .buildSlice t len ps=>(match P.underlying t with
  | some (.slice e)=>bif okE P e && Nat.ble (len * szT P e) 16777216 then
    .cmp (bsl (szT P e) len (zeT P e) (ps.toList.map fun p=>(p.1 * szT P e,szT P e,ev p.2))) else .cmp fail
  | _=>.cmp fail)
 | .makeSlice t l c=>(match P.underlying t with
  | some (.slice e)=>bif okE P e then .cmp (mks (szT P e) (byT P e) (zeT P e) (ev l) (ev c)) else .cmp fail
  | _=>.cmp fail)
 | .makeMap t r=>(match P.underlying t,r with
  | some (.map _ _),none=>.cmp mkm
  | _,_=>.cmp fail)
 | .lookup t m y ok=>(match P.underlying t with
  | some (.map kt e)=>bif Jt P e then .cmp (lkp (tkT P kt) (zeT P e) ok (ev m) (ev y)) else .cmp fail
  | _=>.cmp fail)
 | .mapUpdate t m y v=>(match P.underlying t with
  | some (.map kt _)=>.cmp (mup (tkT P kt) (ev m) (ev y) (ev v))
  | _=>.cmp fail)
 | .insert t m y v=>(match P.underlying t with
  | some (.map kt _)=>.cmp (mup (tkT P kt) (ev m) (ev y) (ev v))
  | _=>.cmp fail)
 | .mapEntry t m y=>(match P.underlying t with
  | some (.map kt e)=>bif Jt P e then .cmp (men (tkT P kt) (zeT P e) (ev m) (ev y)) else .cmp fail
  | _=>.cmp fail)
 | .entryStore _ m st v=>.cmp (ens (ev m) (ev st) (ev v))
 | .makeFunc fn first captured=>(match fn with
  | .func g=>.val (.func (.func g) (first.map ev) (captured.map ev))
  | _=>.cmp fail)
 | .makeInterface t x=>(match P.underlying t with
  | some (.interface _)=>.cmp fail
  | some _=>.cmp (Zb0 t (ev x))
  | none=>.cmp fail)
 | .range t x=>(match P.underlying t with
  | some .string=>.cmp (Zc0 (ev x))
  | _=>.cmp fail)
 | .next it s=>bif s then .cmp (Zde (ev it)) else .cmp fail
 | _=>.cmp fail
def Jc {β : Type} (ev : Operand→Value) (o : Op) (k : Value→M β) : M β:=Yl (opM P Γ ev o) k
def Wu (g : Option (Nat × Bool)) (j : Nat) (w : Bool) : Bool:=
 match g with
 | some (i,v)=>Nat.beq i j && (v==w)
 | none=>false
def Kt (j : Nat) (w : Bool) : List Oper→List Oper × List Oper
 | []=>([],[])
 | o :: os=>bif Wu o.guard j w then let p:=Kt j w os;(o :: p.1,p.2) else ([],o :: os)
open Classical in
noncomputable def same {β : Type} (u v : Value) (m : M β) : M β:=fun H=>if u=v then m H else none
noncomputable def ZbB {β : Type} : List (Nat × M Value × Value)→M β→M β
 | [],m=>m
 | q :: qs,m=>bind q.2.1 fun u=>same u q.2.2 (ZbB qs m)
def Yn (o : Oper) : List Nat:=(o.after.toList.filter (Region.binds .any)).map (·.on)
def WA (ops : List Oper) : List (List Nat):=
 ops.foldl (fun acc o=>acc++[(Yn o).foldl (fun s j=>Zfg (j :: acc.getD j []) s) []]) []
def JE (l : List Nat) (i : Nat) : Bool:=l.any (Nat.beq i)
def WR (an : List (List Nat)) (dn : List Nat) (i : Nat) : Bool:=!JE dn i && (an.getD i []).all (JE dn)
def YB (p : Nat→Bool) : Nat→Nat→Option Nat
 | 0,_=>none
 | n+1,i=>bif p i then some i else YB p n (i+1)
def W0 (cl : List Nat) (an : List (List Nat)) (n : Nat) : Nat→List Nat→List Nat
 | 0,_=>[]
 | m+1,dn=>
  match YB (fun i=>WR an dn i && !(Nat.beq (cl.getD i 0) 2)) n 0 with
  | some i=>i :: W0 cl an n m (i :: dn)
  | none=>match YB (WR an dn) n 0 with
   | some i=>i :: W0 cl an n m (i :: dn)
   | none=>[]
def WP (cl : List Nat) (an : List (List Nat)) (f n : Nat) : Nat→List Nat→List Nat
 | 0,_=>[]
 | m+1,dn=>
  match YB (fun i=>WR an dn i && !(Nat.beq (cl.getD i 0) 2)) n 0 with
  | some i=>i :: WP cl an f n m (i :: dn)
  | none=>match YB (fun i=>WR an dn i && !(Nat.beq i f)) n 0 with
   | some i=>i :: WP cl an f n m (i :: dn)
   | none=>bif WR an dn f then f :: WP cl an f n m (f :: dn) else []
def WT (o : Oper) : Bool:=(match o.op with | .alloc _=>true | _=>false) && o.guard.isNone && o.dst.isSome
def ZdN (ops : List Oper) : Option Nat:=YB (fun i=>match ops[i]? with | some o=>WT o && (Yn o).isEmpty | none=>false) ops.length 0
def isF (fo : Option Nat) (i : Nat) : Bool:=match fo with | some f=>Nat.beq i f | none=>false
def cls (o : Op) : Nat:=
 match o with
 | .move _ | .assign _ | .pick .. | .extract .. | .nilCheck _ | .binOp .. | .unOp .. | .fieldAddr .. | .field .. | .indexAddr .. | .index .. | .build .. | .makeFunc .. | .makeInterface ..=>0
 | .convert s d _=>(match P.underlying s,P.underlying d with
  | some (.int _),some (.int _)=>0
  | some .string,some .string=>0
  | some (.slice _),some .string=>1
  | _,_=>2)
 | .slice t _ _ _ _=>(match P.underlying t with
  | some .string=>0
  | _=>1)
 | .load .. | .lookup ..=>1
 | .call c=>(match c.callee,c.argTypes.toList with
  | .builtin .len,[t]=>(match P.underlying t with
   | some (.map _ _)=>1
   | _=>0)
  | .builtin .max,_=>0
  | .builtin .min,_=>0
  | _,_=>2)
 | _=>2
def ZbF {β : Type} : List Oper→Zf→(Zf→M β)→M β
 | [],r,k=>k r
 | o :: os,r,k=>Jc P Γ (ev r) o.op fun v=>ZbF os (J0 r o.dst v) k
def WS {β : Type} (all : List Oper) : Nat→List Oper→Zf→(Zf→M β)→M β
 | 0,_,_,_=>fail
 | _+1,[],r,k=>k r
 | n+1,o :: os,r,k=>
  match o.guard with
  | none=>Jc P Γ (ev r) o.op fun v=>WS all n os (J0 r o.dst v) k
  | some (j,w)=>
   match J7 all j with
   | none=>fail
   | some d=>
    let p:=Kt j w os
    let ds:=(o :: p.1).filterMap (·.dst)
    bind (JJ (Zk r d) w ds.length (ZbF P Γ (o :: p.1) r fun r'=>ret (proj ds r'))) fun vs=>
     WS all n p.2 (mk ds vs++r) k
def evF (f : Nat→Value) : Operand→Value
 | .tmp t=>f t
 | .const v=>v
 | .global g=>.pointer (some ⟨g,0,none⟩)
 | .func f=>.func (.func f) #[] #[]
def Z0 (g : Value) (want : Bool) (m : M Value) : M Value:=
 match g with
 | .bool b=>bif b==want then m else ret J4
 | .tuple vs=>bif Nat.beq vs.size 1 then ret J4 else fail
 | _=>fail
def toM : OpR→M Value
 | .val v=>ret v
 | .cmp m=>m
def opG (all : List Oper) (f : Nat→Value) (o : Oper) : OpR:=
 match o.guard with
 | none=>opM P Γ (evF f) o.op
 | some (j,w)=>match J7 all j with
  | some d=>.cmp (Z0 (f d) w (toM (opM P Γ (evF f) o.op)))
  | none=>.cmp fail
abbrev YF:=List (Nat × M Value × Value)
noncomputable def exD {β : Type} (an : List (List Nat)) (all : List Oper) : List (Nat × Oper)→YF→Zf→(Zf→M β)→M β
 | [],_,r,k=>k r
 | p :: l,rs,r,k=>
  Yl (opG P Γ all (Zk r) p.2) fun v=>
   match cls P p.2.op with
   | 0=>exD an all l rs (J0 r p.2.dst v) k
   | 1=>exD an all l ((p.1,toM (opG P Γ all (Zk r) p.2),v) :: rs) (J0 r p.2.dst v) k
   | _=>ZbB (rs.filter fun q=>!(JE (an.getD p.1 []) q.1)) (exD an all l rs (J0 r p.2.dst v) k)
def Jn (x : Operand) : Bool:=
 match x with
 | .const v=>Y5 v
 | .global g=>Nat.blt g P.globals.size
 | _=>true
def K9 (N : Nat) (ops : List Oper) : Bool:=
 ops.all fun o=>o.op.operands.toList.all (Jn P) && (match o.dst with | some d=>Nat.blt d N | none=>true)
def Y3 (ops : List Oper) : Bool:=
 ops.all fun o=>match o.guard with
  | none=>true
  | some (j,_)=>match J7 ops j with
   | some d=>ops.all fun q=>(match q.guard with | some (i,_)=>!(Nat.beq i j) | none=>true) || (match q.dst with | some e=>!(Nat.beq d e) | none=>true)
   | none=>false
def Jx (ops : List Oper) (l : List Nat) : List (Nat × Oper):=l.filterMap fun i=>(ops[i]?).map fun o=>(i,o)
def Yf (all : List Oper) (o : Oper) : List Nat:=
 ZcW o.op.operands.toList++(match o.guard with | some (j,_)=>(J7 all j).toList | none=>[])
def Zfq (l m : List Nat) : Bool:=l.all (JE m)
def Yw (ord : List Nat) (i : Nat) : Nat:=
 match ord with
 | []=>0
 | j :: ord=>bif Nat.beq i j then 0 else Yw ord i+1
def Zs (cl : List Nat) (ord : List Nat) (i : Nat) : Nat:=
 match ord with
 | []=>0
 | j :: ord=>bif Nat.beq i j then 0 else (bif Nat.beq (cl.getD j 0) 2 then 1 else 0)+Zs cl ord i
def Wz (n : Nat) (p : Nat→Bool) : Bool:=(List.range n).all p
def Zb2 (n : Nat) (p : Nat→Bool) : Bool:=(List.range n).any p
def ZaV : List Nat→Bool
 | []=>true
 | i :: l=>!JE l i && ZaV l
def KM (fo : Option Nat) (ops : List Oper) (cl : List Nat) (an : List (List Nat)) (ord : List Nat) : Bool:=
 let n:=ops.length
 let A:=fun i=>an.getD i []
 let ef:=fun i=>Nat.beq (cl.getD i 0) 2
 let lev:=Zs cl ord
 ZaV ord && Wz n (JE ord) && ord.all (fun i=>Nat.blt i n) && ops.all (fun o=>match o.guard with | some (j,_)=>Nat.blt j n | none=>true) &&
 Wz n (fun i=>match ops[i]? with
  | none=>false
  | some o=>
   (Yn o).all (fun e=>JE (A i) e && Nat.blt e n) && (A i).all (fun x=>(Yn o).any fun e=>Nat.beq x e || JE (A e) x) && (A i).all (fun x=>Zfq (A x) (A i) && Nat.blt (Yw ord x) (Yw ord i)) && !(JE (A i) i) &&
   (match o.guard with | some (j,_)=>JE (A i) j && (J7 ops j).isSome | none=>true) &&
   (bif ef i then Wz n (fun j=>!(ef j) || Nat.beq j i || ((isF fo i || !(Nat.blt (lev j) (lev i)) || JE (A i) j) && !(Nat.beq (lev j) (lev i)))) else
    Nat.beq (lev i) 0 || Zb2 n (fun e=>ef e && Nat.beq (lev e+1) (lev i) && JE (A i) e)) &&
   Wz (lev i) (fun j=>Zb2 n fun e=>ef e && Nat.beq (lev e) j) &&
   Wz n (fun j=>Nat.beq i j || (match o.dst,ops[j]? with
    | some d,some q=>!(JE (Yf ops q) d || (match q.dst with | some d'=>Nat.beq d d' | none=>false)) || ((JE (A j) i || JE (A i) j) && (match q.dst with | some d'=>!(Nat.beq d d') | none=>true))
    | _,_=>true))) &&
 (match fo with
  | none=>true
  | some f=>Nat.blt f n && ef f && (match ops[f]? with | some o=>WT o | none=>false) && (A f).isEmpty &&
   Wz n (fun i=>!(JE (A i) f) || Nat.beq (lev f) 0 || Zb2 n (fun e=>ef e && Nat.beq (lev e+1) (lev f) && JE (A i) e)))
noncomputable def ZcZ {β : Type} (ops : List Oper) (draw : Bool) (r : Zf) (k : Zf→M β) : M β:=
 bif draw then
  let cl:=ops.map fun o=>cls P o.op
  let an:=WA ops
  let ord:=W0 cl an ops.length ops.length []
  bif KM none ops cl an ord then exD P Γ an ops (Jx ops ord) [] r k else
   match ZdN ops with
   | none=>fail
   | some f=>
    let ord:=WP cl an f ops.length ops.length []
    bif KM (some f) ops cl an ord then exD P Γ an ops (Jx ops ord) [] r k else fail
 else WS P Γ ops (ops.length+1) ops r k
def WG {β : Type} (r : Zf) : List ResultVar→(List Value→M β)→M β
 | [],k=>k []
 | .tmp t :: l,k=>WG r l fun vs=>k (Zk r t :: vs)
 | .cell a t :: l,k=>
  match JH P t with
  | some true=>bind (ldA (szT P t) (Zk r a)) fun v=>WG r l fun vs=>k (v :: vs)
  | some false=>bind (ld1 (Zk r a)) fun v=>WG r l fun vs=>k (v :: vs)
  | none=>fail
def ZbQ {β : Type} (fn : Func) (r : Zf) (kr : Value→M β) : M β:=
 WG P r fn.results.toList fun vs=>match vs with
  | [v]=>kr v
  | vs=>kr (.tuple vs.toArray)
def KV {β : Type} (c : Code) : List (Nat × List Nat)→(Nat→Zf→M β)→Nat→List Value→M β
 | [],_=>fun _ _=>fail
 | p :: X,kx=>bif Jq.xto p.1 c then fun j vs=>bif Nat.beq j p.1 then kx p.1 (mk p.2 vs) else KV c X kx j vs else KV c X kx
def Zb4 {β : Type} (c : Code) : List (Nat × List Nat)→(Nat→Zf→M β)→Nat→Zf→M β
 | [],_=>fun _ _=>fail
 | p :: X,kx=>bif Jq.xto p.1 c then fun j r=>bif Nat.beq j p.1 then kx p.1 r else Zb4 c X kx j r else Zb4 c X kx
noncomputable def E (rnd : Bool) (fn : Func) (lv : List (Nat × List Nat)) : Code→∀ {β : Type},Nat→List (Nat × List Nat)→Zf→(Zf→M β)→(Nat→Zf→M β)→(Value→M β)→M β
 | .skip,_,_,_,r,kn,_,_=>kn r
 | .region _ ops draw,_,_,_,r,kn,_,_=>
  bif K9 P fn.ntmps ops.toList && Y3 ops.toList then ZcZ P Γ ops.toList draw r kn else fail
 | .seq a b,_,p,X,r,kn,kx,kr=>E rnd fn lv a (2 * p) X r (fun r'=>E rnd fn lv b (2 * p+1) X r' kn kx kr) kx kr
 | .cond c t e,_,p,X,r,kn,kx,kr=>
  bif !Jn P c then fail else bif Jq t && Jq e then
   jn (cnd (ev r c) (E rnd fn lv t (2 * p) X r (fun r'=>ret (.nrm (proj (lkX lv p) r'))) (fun j r'=>ret (.ext j (proj (lkX X j) r'))) (fun v=>ret (.ret v)))
     (E rnd fn lv e (2 * p+1) X r (fun r'=>ret (.nrm (proj (lkX lv p) r'))) (fun j r'=>ret (.ext j (proj (lkX X j) r'))) (fun v=>ret (.ret v))))
    (fun vs=>kn (mk (lkX lv p) vs)) (KV (.cond c t e) X kx) kr
  else cnd (ev r c) (E rnd fn lv t (2 * p) X r kn kx kr) (E rnd fn lv e (2 * p+1) X r kn kx kr)
 | .block id c,_,p,X,r,kn,kx,kr=>
  bif Nat.ble (YK id c+(bif Jq c then 1 else 0)) 1 then
   E rnd fn lv c (2 * p) ((id,lkX lv p) :: X) r kn (fun j r'=>bif Nat.beq j id then kn r' else kx j r') kr
  else
   jn (E rnd fn lv c (2 * p) ((id,lkX lv p) :: X) r (fun r'=>ret (.nrm (proj (lkX lv p) r'))) (fun j r'=>bif Nat.beq j id then ret (.nrm (proj (lkX lv p) r')) else ret (.ext j (proj (lkX X j) r'))) (fun v=>ret (.ret v)))
    (fun vs=>kn (mk (lkX lv p) vs)) (KV (.block id c) X kx) kr
 | .loop c,_,p,X,r,_,kx,kr=>
  jn (Qb (fun vs=>E rnd fn lv c (2 * p) X (mk (lkX lv p) vs) (fun r'=>ret (.nrm (proj (lkX lv p) r'))) (fun j r'=>ret (.ext j (proj (lkX X j) r'))) (fun v=>ret (.ret v))) (proj (lkX lv p) r))
   (fun _=>fail) (KV (.loop c) X kx) kr
 | .exit id,_,_,_,r,_,kx,_=>kx id r
 | .rangeFunc g ps asg bd,_,p,X,r,kn,kx,kr=>
  bif rnd || !Jn P g then fail else
   ZaL (Zc8 P) Γ (ev r g) fn lv p (X.map fun q=>q.1) (ps,asg,bd) (mk (lkX lv p) (proj (lkX lv p) r)) fun pd=>match pd with
    | none=>kn r
    | some (.exit j)=>Zb4 bd X kx j r
    | some .ret=>ZbQ P fn r kr
    | _=>fail
 | .ret,_,_,_,r,_,_,kr=>bif rnd then kr undef else ZbQ P fn r kr
 | _,_,_,_,_,_,_,_=>fail
def KG : Nat→List Value→Zf
 | _,[]=>[]
 | i,v :: vs=>(i,v) :: KG (i+1) vs
noncomputable def Ju (fn : Func) (lv : List (Nat × List Nat)) (args : List Value) : M Value:=
 match fn.body with
 | some c=>bif Nat.ble args.length fn.ntmps then E P Γ false fn lv c 1 [] (KG 0 args) (fun r=>ZbQ P fn r ret) (fun _ _=>fail) ret else fail
 | none=>fail
noncomputable def Zcd (L : Nat) (args : List Value) : M Value:=fun H=>
 match H[L]? with
 | some (.loop fn lv p xs cd regs .ready _)=>
  (bif Nat.beq args.length cd.1.size && cd.1.toList.all (fun t=>Nat.blt t fn.ntmps) then
   E P Γ true fn lv cd.2.1 (2 * p) (xs.map fun i=>(i,[])) (Zem cd.1.toList args regs)
    (fun r=>Ze8 L (E P Γ true fn lv cd.2.2 (2 * p+1) (xs.map fun i=>(i,[])) r (fun _=>ZbU L none) (fun j _=>ZbU L (some (.exit j))) (fun _=>ZbU L (some .ret))))
    (fun _ _=>fail) (fun _=>fail)
  else fail) H
 | _=>none
end
noncomputable def run (P : Program) (prim : FuncId→Option (List Value→M Value)) (lvs : FuncId→List (Nat × List Nat)) : Nat→Zp
 | 0=>fun _ _=>fail
 | n+1=>fun g args=>bif Nat.blt g JM then
   (match prim g with
   | some m=>m args
   | none=>match P.funcs[g]? with
    | some fn=>bif Yh fn then Ju P (run P prim lvs n) fn (lvs g) args else fail
    | none=>fail)
  else Zcd P (run P prim lvs n) (g - JM) args
end Go.Proofs.Ytfefblgkfdaekaa.A
namespace Go.Proofs.Ytfefblgkfdaekaa.A
set_option linter.unusedVariables false
set_option linter.unusedSimpArgs false
inductive RV (ι : Nat→Option Loc) : Value→Value→Prop where
 | sc {v : Value} : Zy v=true→RV ι v v
 | un {v' : Value} : RV ι (.tuple #[]) v'
 | nw : RV ι (.tuple #[.tuple #[]]) (.tuple #[])
 | ptr {id o : Nat} {l : Loc} : ι id=some l→RV ι (.pointer (some ⟨id,o,none⟩)) (.pointer (some ⟨l.blk,l.base+o,none⟩))
 | slc {id o n c c' : Nat} {l : Loc} : ι id=some l→n≤c→c≤c'→(l.grow=false→c'=c)→l.base+o+c' * l.es≤l.tot→
   RV ι (.slice (some ⟨id,o,none⟩) n c) (.slice (some ⟨l.blk,l.base+o,none⟩) n c')
 | slcE {id o j c' : Nat} {a' : Addr} : (j=0→c'=0)→RV ι (.slice (some ⟨id,o,some j⟩) 0 0) (.slice (some a') 0 c')
 | mp {id : Nat} {l : Loc} : ι id=some l→RV ι (.map (some id)) (.map (some l.blk))
 | fn {f : Fn} {a a' b b' : Array Value} : (∀ l,f≠.yield l)→a.size=a'.size→(∀ i,i < a.size→RV ι (a.getD i undef) (a'.getD i undef))→
   b.size=b'.size→(∀ i,i < b.size→RV ι (b.getD i undef) (b'.getD i undef))→RV ι (.func f a b) (.func f a' b')
 | yl {id : Nat} {l : Loc} : ι id=some l→RV ι (.func (.yield id) #[] #[]) (.func (.yield l.blk) #[] #[])
 | ifc {t : TypeId} {v v' : Value} : RV ι v v'→RV ι (.iface t v) (.iface t v')
 | agg {a a' : Array Value} : a.size=a'.size→(∀ i,i < a.size→RV ι (a.getD i undef) (a'.getD i undef))→RV ι (.agg a) (.agg a')
 | tup {a a' : Array Value} : a.size=a'.size→(∀ i,i < a.size→RV ι (a.getD i undef) (a'.getD i undef))→RV ι (.tuple a) (.tuple a')
def Le (ι ι' : Nat→Option Loc) : Prop:=∀ i l,ι i=some l→ι' i=some l
theorem Le.refl (ι : Nat→Option Loc) : Le ι ι:=fun _ _ h=>h
theorem Le.trans {ι ι' ι'' : Nat→Option Loc} (h : Le ι ι') (h' : Le ι' ι'') : Le ι ι'':=fun i l e=>h' i l (h i l e)
theorem RV.mono {ι ι' : Nat→Option Loc} (hl : Le ι ι') {v v' : Value} (h : RV ι v v') : RV ι' v v':=by
 induction h with
 | sc h=>exact .sc h
 | un=>exact .un
 | nw=>exact .nw
 | ptr h=>exact .ptr (hl _ _ h)
 | slc h a b c d=>exact .slc (hl _ _ h) a b c d
 | slcE h=>exact .slcE h
 | mp h=>exact .mp (hl _ _ h)
 | fn n a _ b _ h1 h2=>exact .fn n a h1 b h2
 | yl h=>exact .yl (hl _ _ h)
 | ifc _ h=>exact .ifc h
 | agg a _ h=>exact .agg a h
 | tup a _ h=>exact .tup a h
def RVs (ι : Nat→Option Loc) (a b : List Value) : Prop:=a.length=b.length∧∀ i,i < a.length→RV ι (a.getD i undef) (b.getD i undef)
theorem RVs.mono {ι ι' : Nat→Option Loc} (hl : Le ι ι') {a b : List Value} (h : RVs ι a b) : RVs ι' a b:=⟨h.1,fun i hi=>(h.2 i hi).mono hl⟩
theorem RVs.nil {ι : Nat→Option Loc} : RVs ι [] []:=⟨rfl,fun _ h=>by cases h⟩
theorem RVs.cons {ι : Nat→Option Loc} {v v' : Value} {a b : List Value} (hv : RV ι v v') (h : RVs ι a b) : RVs ι (v :: a) (v' :: b):=
 ⟨by simp [h.1],fun i hi=>by
  cases i with
  | zero=>simpa using hv
  | succ i=>simpa using h.2 i (by simpa using hi)⟩
theorem RVs.tail {ι : Nat→Option Loc} {v v' : Value} {a b : List Value} (h : RVs ι (v :: a) (v' :: b)) : RVs ι a b:=
 ⟨by simpa using h.1,fun i hi=>by simpa using h.2 (i+1) (by simpa using hi)⟩
theorem RVs.head {ι : Nat→Option Loc} {v v' : Value} {a b : List Value} (h : RVs ι (v :: a) (v' :: b)) : RV ι v v':=by
 simpa using h.2 0 (by simp)
theorem RVs.cons_inv {ι : Nat→Option Loc} {v : Value} {a b : List Value} (h : RVs ι (v :: a) b) : ∃ v' b',b=v' :: b'∧RV ι v v'∧RVs ι a b':=by
 cases b with
 | nil=>have:=h.1;simp at this
 | cons v' b'=>exact ⟨v',b',rfl,h.head,h.tail⟩
theorem RVs.nil_inv {ι : Nat→Option Loc} {b : List Value} (h : RVs ι [] b) : b=[]:=by
 have:=h.1
 cases b with
 | nil=>rfl
 | cons=>simp at this
theorem RVs.append {ι : Nat→Option Loc} {a b : List Value} : ∀ {c d : List Value},RVs ι a b→RVs ι c d→RVs ι (a++c) (b++d):=by
 induction a generalizing b with
 | nil=>intro c d h h';rw [h.nil_inv];exact h'
 | cons v a ih=>
  intro c d h h'
  obtain ⟨v',b',rfl,hv,hb⟩:=h.cons_inv
  exact .cons hv (ih hb h')
theorem RVs.drop {ι : Nat→Option Loc} {a b : List Value} (h : RVs ι a b) (n : Nat) : RVs ι (a.drop n) (b.drop n):=
 ⟨by simp [h.1],fun i hi=>by
  have:=h.2 (n+i) (by simp at hi;omega)
  simpa [List.getD_eq_getElem?_getD,List.getElem?_drop] using this⟩
theorem RVs.take {ι : Nat→Option Loc} {a b : List Value} (h : RVs ι a b) (n : Nat) : RVs ι (a.take n) (b.take n):=
 ⟨by simp [h.1],fun i hi=>by
  have hn : i < n:=by simp at hi;omega
  have:=h.2 i (by simp at hi;omega)
  simpa [List.getD_eq_getElem?_getD,List.getElem?_take,hn] using this⟩
theorem RVs.of_arr {ι : Nat→Option Loc} {a a' : Array Value} (h : a.size=a'.size) (h' : ∀ i,i < a.size→RV ι (a.getD i undef) (a'.getD i undef)) :
  RVs ι a.toList a'.toList:=
 ⟨by simpa using h,fun i hi=>by
  have:=h' i (by simpa using hi)
  simpa [List.getD_eq_getElem?_getD,Array.getD_eq_getD_getElem?] using this⟩
theorem RVs.to_arr {ι : Nat→Option Loc} {a a' : Array Value} (h : RVs ι a.toList a'.toList) :
  a.size=a'.size∧∀ i,i < a.size→RV ι (a.getD i undef) (a'.getD i undef):=
 ⟨by simpa using h.1,fun i hi=>by
  have:=h.2 i (by simpa using hi)
  simpa [List.getD_eq_getElem?_getD,Array.getD_eq_getD_getElem?] using this⟩
theorem RV.aggL {ι : Nat→Option Loc} {a a' : List Value} (h : RVs ι a a') : RV ι (.agg a.toArray) (.agg a'.toArray):=by
 obtain ⟨h1,h2⟩:=RVs.to_arr (a:=a.toArray) (a':=a'.toArray) (by simpa using h)
 exact .agg h1 h2
theorem RV.tupL {ι : Nat→Option Loc} {a a' : List Value} (h : RVs ι a a') : RV ι (.tuple a.toArray) (.tuple a'.toArray):=by
 obtain ⟨h1,h2⟩:=RVs.to_arr (a:=a.toArray) (a':=a'.toArray) (by simpa using h)
 exact .tup h1 h2
section
variable {ι : Nat→Option Loc} {v' : Value}
theorem RV.int_inv {k : IntKind} {n : Int} (h : RV ι (.int k n) v') : v'=.int k n:=by cases h;rfl
theorem RV.bool_inv {b : Bool} (h : RV ι (.bool b) v') : v'=.bool b:=by cases h;rfl
theorem RV.string_inv {s : ByteArray} (h : RV ι (.string s) v') : v'=.string s:=by cases h;rfl
theorem RV.scalar_inv {v : Value} (hs : Zy v=true) (h : RV ι v v') : v'=v:=by
 cases h <;> first | rfl | simp [Zy] at hs
theorem RV.ptr_inv {id o : Nat} (h : RV ι (.pointer (some ⟨id,o,none⟩)) v') : ∃ l,ι id=some l∧v'=.pointer (some ⟨l.blk,l.base+o,none⟩):=by
 cases h with
 | sc h=>simp [Zy] at h
 | ptr h=>exact ⟨_,h,rfl⟩
theorem RV.slc_inv {id o n c : Nat} (h : RV ι (.slice (some ⟨id,o,none⟩) n c) v') :
  ∃ l c',ι id=some l∧n≤c∧c≤c'∧(l.grow=false→c'=c)∧l.base+o+c' * l.es≤l.tot∧v'=.slice (some ⟨l.blk,l.base+o,none⟩) n c':=by
 cases h with
 | sc h=>simp [Zy] at h
 | slc h1 h2 h3 h4 h5=>exact ⟨_,_,h1,h2,h3,h4,h5,rfl⟩
theorem RV.slcE_inv {id o j n c : Nat} (h : RV ι (.slice (some ⟨id,o,some j⟩) n c) v') :
  n=0∧c=0∧∃ a' c',(j=0→c'=0)∧v'=.slice (some a') 0 c':=by
 cases h with
 | sc h=>simp [Zy] at h
 | slcE h=>exact ⟨rfl,rfl,_,_,h,rfl⟩
theorem RV.nils_inv {n c : Nat} (h : RV ι (.slice none n c) v') : n=0∧c=0∧v'=.slice none 0 0:=by
 cases h with
 | sc h=>
  unfold Zy at h
  split at h <;> first | contradiction | skip
  all_goals simp_all
theorem RV.map_inv {id : Nat} (h : RV ι (.map (some id)) v') : ∃ l,ι id=some l∧v'=.map (some l.blk):=by
 cases h with
 | sc h=>simp [Zy] at h
 | mp h=>exact ⟨_,h,rfl⟩
theorem RV.agg_inv {a : Array Value} (h : RV ι (.agg a) v') : ∃ a',v'=.agg a'∧RVs ι a.toList a'.toList:=by
 cases h with
 | sc h=>simp [Zy] at h
 | agg h1 h2=>exact ⟨_,rfl,.of_arr h1 h2⟩
theorem RV.ifc_inv {t : TypeId} {v : Value} (h : RV ι (.iface t v) v') : ∃ u,v'=.iface t u∧RV ι v u:=by
 cases h with
 | sc h=>simp [Zy] at h
 | ifc h=>exact ⟨_,rfl,h⟩
theorem RV.fn_any {f : Fn} {a b : Array Value} (h : RV ι (.func f a b) v') : ∃ f' a' b',v'=.func f' a' b':=by
 cases h with
 | sc h=>simp [Zy] at h
 | fn _ _ _ _ _=>exact ⟨_,_,_,rfl⟩
 | yl _=>exact ⟨_,_,_,rfl⟩
theorem RV.yl_inv {id : Nat} {a b : Array Value} (h : RV ι (.func (.yield id) a b) v') : a=#[]∧b=#[]∧∃ l,ι id=some l∧v'=.func (.yield l.blk) #[] #[]:=by
 cases h with
 | sc h=>simp [Zy] at h
 | fn hn _ _ _ _=>exact absurd rfl (hn id)
 | yl h=>exact ⟨rfl,rfl,_,h,rfl⟩
theorem RV.fn_inv {g : FuncId} {a b : Array Value} (h : RV ι (.func (.func g) a b) v') :
  ∃ a' b',v'=.func (.func g) a' b'∧RVs ι a.toList a'.toList∧RVs ι b.toList b'.toList:=by
 cases h with
 | sc h=>simp [Zy] at h
 | fn hn h1 h2 h3 h4=>exact ⟨_,_,rfl,.of_arr h1 h2,.of_arr h3 h4⟩
end
theorem RV.oneCell {ι : Nat→Option Loc} {v v' : Value} (h : RV ι v v') (hv : A.oneCell v=true) : v'.oneCell'=true:=by
 cases h <;> first | rfl | (simp [A.oneCell] at hv;done) | skip
 all_goals (rename_i h;revert h hv;cases v <;> simp [Zy,A.oneCell,Value.oneCell'])
def Z4 (ι : Nat→Option Loc) : List (Value × Value × Nat)→List MapEntry→Prop
 | [],[]=>True
 | e :: es,n :: ns=>(Zy e.1=true∧n.key=e.1∧RV ι e.2.1 n.val∧n.born=e.2.2)∧Z4 ι es ns
 | _,_=>False
def J1 (ι : Nat→Option Loc) (es : List (Value × Value × Nat)) (en : Array MapEntry) : Prop:=Z4 ι es en.toList
def kv (e : Value × Value × Nat) : Value × Value:=(e.1,e.2.1)
structure Zeg (es : List (Value × Value × Nat)) : Prop where
 str : ∀ e∈es,∃ s,e.1=.string s
 nod : (es.map (·.1)).Nodup
structure Zb8 (es : List (Value × Value × Nat)) (clk : Nat) : Prop where
 lt : ∀ e∈es,e.2.2 < clk
 nod : (es.map (·.2.2)).Nodup
structure Jr (es2 : List (Value × Value × Nat)) (clk : Nat) (es : List (Value × Value × Nat)) : Prop where
 perm : (es2.map kv).Perm (es.map kv)
 k : Zeg es
 st : Zb8 es2 clk
def Zay (t : Nat) (fr : Nat × Nat) : Prop:=fr.1=fr.2∨t≤fr.1
theorem Zay.not {t : Nat} {fr : Nat × Nat} (h : Zay t fr) {i : Nat} (hi : i < t) : ¬ (fr.1≤i∧i < fr.2):=by
 rcases h with h | h <;> omega
structure Zg extends World where
 prot : List (Nat × Obj):=[]
 own : List Nat:=[]
abbrev b0 (w : World) : Zg:={ toWorld:=w,prot:=[],own:=[] }
def Ya (w0 : Zg) (ι : Nat→Option Loc) (id : Nat) (o : Zo) (w : World) : Prop:=
 match o with
 | .dead=>True
 | .view _ _ _=>∃ l,ι id=some l∧l.blk < w.heap.size
 | .cells cs es grow ro=>∃ l c el fr,ι id=some l∧l.es=es∧l.grow=grow∧w.heap[l.blk]?=some (.cells c el fr)∧
   l.base+cs.length≤l.tot∧l.tot≤c.size∧RVs ι cs ((c.toList.drop l.base).take cs.length)∧
   (ro=false→w0.heap.size≤l.blk∧Zay l.tot fr∧(l.grow=false→l.base=0))∧(ro=true→l.blk < w0.heap.size)∧(∀ v∈cs,oneCell v=true)
 | .map es clk=>∃ l en,ι id=some l∧w.heap[l.blk]?=some (.map en clk)∧w0.heap.size≤l.blk∧J1 ι es en
 | .mapU es=>∃ l en clk es2,ι id=some l∧w.heap[l.blk]?=some (.map en clk)∧w0.heap.size≤l.blk∧J1 ι es2 en∧Jr es2 clk es
 | .siter s pos=>∃ l,ι id=some l∧w.heap[l.blk]?=some (.stringIter s pos)∧w0.heap.size≤l.blk∧l.base=0
 | .loop fn _ _ _ cd regs st pd=>∃ l rf tmps D,ι id=some l∧w.heap[l.blk]?=some (.loop { state:=st,pending:=pd,fn:=rf,tmps:=tmps,params:=cd.1,assign:=cd.2.1,body:=cd.2.2,defers:=D })∧w0.heap.size≤l.blk∧
   tmps.size=fn.ntmps∧∀ t,RV ι (Zk regs t) (tmps.getD t undef)
def Zo.wr : Zo→Bool
 | .cells _ _ _ ro=>!ro
 | .map _ _=>true
 | .mapU _=>true
 | .dead=>false
 | .view _ _ _=>false
 | .loop _ _ _ _ _ _ _ _=>true
 | .siter _ _=>true
def Zo.isV : Zo→Bool
 | .view _ _ _=>true
 | _=>false
def ZbG (ι : Nat→Option Loc) (H : Zb) (w : World) (cs : List Value) (nx : Nat) (l : Loc) : Prop:=
 (∃ l',ι nx=some l'∧l'.blk=l.blk∧l'.base=l.base)∨
 ((∃ c el fr,w.heap[l.blk]?=some (.cells c el fr)∧l.base+cs.length≤c.size∧RVs ι cs ((c.toList.drop l.base).take cs.length))∧
  ∀ i oi li,H[i]?=some oi→oi.wr=true→ι i=some li→li.blk≠l.blk)
structure Sim (G : Nat) (w0 : Zg) (ι : Nat→Option Loc) (H : Zb) (w : World) : Prop where
 obj : ∀ id o,H[id]?=some o→Ya w0 ι id o w
 inj : ∀ (id1 id2 : Nat) (o1 o2 : Zo) (l1 l2 : Loc),H[id1]?=some o1→H[id2]?=some o2→o1.wr=true→o2.wr=true→ι id1=some l1→ι id2=some l2→l1.blk=l2.blk→id1=id2
 size : w0.heap.size≤w.heap.size
 old : ∀ b,b < w0.heap.size→w.heap[b]?=w0.heap[b]?
 dom : ∀ id l,ι id=some l→id < H.length
 glob : ∀ g,g < G→∃ l,ι g=some l∧l.blk=g∧l.base=0
 rest : w.os=w0.os∧w.tape=w0.tape∧w.output=w0.output
 prot : ∀ b∈w0.prot,w.heap[b.1]?=some b.2∧w0.heap.size≤b.1∧∀ (id : Nat) (o : Zo) (l : Loc),H[id]?=some o→o≠.dead→ι id=some l→l.blk≠b.1
 views : ∀ j cs es nx l,H[j]?=some (.view cs es nx)→ι j=some l→ZbG ι H w cs nx l
theorem Z4.mono {ι ι' : Nat→Option Loc} (hl : Le ι ι') : ∀ {es : List (Value × Value × Nat)} {en : List MapEntry},Z4 ι es en→Z4 ι' es en
 | [],[],_=>trivial
 | _ :: _,_ :: _,h=>⟨⟨h.1.1,h.1.2.1,h.1.2.2.1.mono hl,h.1.2.2.2⟩,h.2.mono hl⟩
 | [],_ :: _,h=>h.elim
 | _ :: _,[],h=>h.elim
theorem J1.mono {ι ι' : Nat→Option Loc} (hl : Le ι ι') {es : List (Value × Value × Nat)} {en : Array MapEntry} (h : J1 ι es en) : J1 ι' es en:=Z4.mono hl h
theorem Z4.length {ι : Nat→Option Loc} : ∀ {es : List (Value × Value × Nat)} {en : List MapEntry},Z4 ι es en→es.length=en.length
 | [],[],_=>rfl
 | _ :: _,_ :: _,h=>by simp [h.2.length]
 | [],_ :: _,h=>h.elim
 | _ :: _,[],h=>h.elim
theorem ZbG.to {ι ι' : Nat→Option Loc} {H H' : Zb} {w w' : World} {cs : List Value} {nx : Nat} {l : Loc} (h : ZbG ι H w cs nx l) (hle : Le ι ι') (hk : (∀ i oi li,H[i]?=some oi→oi.wr=true→ι i=some li→li.blk≠l.blk)→(∃ c el fr,w.heap[l.blk]?=some (.cells c el fr))→
  (∀ c el fr,w.heap[l.blk]?=some (.cells c el fr)→∃ fr',w'.heap[l.blk]?=some (.cells c el fr'))∧∀ i oi li,H'[i]?=some oi→oi.wr=true→ι' i=some li→li.blk≠l.blk) : ZbG ι' H' w' cs nx l:=by
 rcases h with ⟨l',h1,h2⟩ | ⟨⟨c,el,fr,h1,h2,h3⟩,h4⟩
 ·exact .inl ⟨l',hle _ _ h1,h2⟩
 ·obtain ⟨k1,k2⟩:=hk h4 ⟨c,el,fr,h1⟩
  obtain ⟨fr',k3⟩:=k1 c el fr h1
  exact .inr ⟨⟨c,el,fr',k3,h2,h3.mono hle⟩,k2⟩
theorem Ya.mono {w0 : Zg} {ι ι' : Nat→Option Loc} (hl : Le ι ι') {id : Nat} {o : Zo} {w : World} (h : Ya w0 ι id o w) : Ya w0 ι' id o w:=by
 cases o with
 | dead=>trivial
 | view cs es nx=>obtain ⟨l,h1,h2⟩:=h;exact ⟨l,hl _ _ h1,h2⟩
 | cells cs es grow ro=>
  obtain ⟨l,c,el,fr,h1,h2,h3,h4,h5,h6,h7,h8⟩:=h
  exact ⟨l,c,el,fr,hl _ _ h1,h2,h3,h4,h5,h6,h7.mono hl,h8⟩
 | map es clk=>
  obtain ⟨l,en,h1,h2,h3,h4⟩:=h
  exact ⟨l,en,hl _ _ h1,h2,h3,h4.mono hl⟩
 | mapU es=>
  obtain ⟨l,en,clk,es2,h1,h2,h3,h4,h5⟩:=h
  exact ⟨l,en,clk,es2,hl _ _ h1,h2,h3,h4.mono hl,h5⟩
 | siter s pos=>obtain ⟨l,h1,h2⟩:=h;exact ⟨l,hl _ _ h1,h2⟩
 | loop fn lv p xs cd regs st pd=>
  obtain ⟨l,rf,tmps,D,h1,h2,h3,h5,h6⟩:=h
  exact ⟨l,rf,tmps,D,hl _ _ h1,h2,h3,h5,fun t=>(h6 t).mono hl⟩
theorem Ya.blk {w0 : Zg} {ι : Nat→Option Loc} {id : Nat} {o : Zo} {w w' : World} (h : Ya w0 ι id o w)
  (hh : ∀ l,ι id=some l→o≠.dead→w'.heap[l.blk]?=w.heap[l.blk]?) : Ya w0 ι id o w':=by
 cases o with
 | dead=>trivial
 | view cs es nx=>
  obtain ⟨l,h1,h2⟩:=h
  refine ⟨l,h1,?_⟩
  have h3:=hh l h1 (by simp)
  rcases Nat.lt_or_ge l.blk w'.heap.size with h4 | h4
  ·exact h4
  ·rw [Array.getElem?_eq_none h4,Array.getElem?_eq_getElem h2] at h3;cases h3
 | cells cs es grow ro=>
  obtain ⟨l,c,el,fr,h1,h2,h3,h4,h5⟩:=h
  exact ⟨l,c,el,fr,h1,h2,h3,by rw [hh l h1 (by simp)];exact h4,h5⟩
 | map es clk=>
  obtain ⟨l,en,h1,h2,h3⟩:=h
  exact ⟨l,en,h1,by rw [hh l h1 (by simp)];exact h2,h3⟩
 | mapU es=>
  obtain ⟨l,en,clk,es2,h1,h2,h3⟩:=h
  exact ⟨l,en,clk,es2,h1,by rw [hh l h1 (by simp)];exact h2,h3⟩
 | siter s pos=>obtain ⟨l,h1,h2,h3⟩:=h;exact ⟨l,h1,by rw [hh l h1 (by simp)];exact h2,h3⟩
 | loop fn lv p xs cd regs st pd=>
  obtain ⟨l,rf,tmps,D,h1,h2,h3⟩:=h
  exact ⟨l,rf,tmps,D,h1,by rw [hh l h1 (by simp)];exact h2,h3⟩
theorem Ya.old {w0 : Zg} {ι : Nat→Option Loc} {id : Nat} {o : Zo} {w : World} (h : Ya w0 ι id o w) (hne : o≠.dead) (hwr : o.wr=false) (hv : o.isV=false) :
  ∀ l,ι id=some l→l.blk < w0.heap.size:=by
 intro l hl
 cases o with
 | dead=>exact absurd rfl hne
 | view cs es nx=>cases hv
 | cells cs es grow ro=>
  obtain ⟨l',c,el,fr,h1,_,_,_,_,_,_,_,h8⟩:=h
  rw [hl] at h1;cases h1
  exact h8.1 (by simpa [Zo.wr] using hwr)
 | map es clk=>simp [Zo.wr] at hwr
 | mapU es=>simp [Zo.wr] at hwr
 | siter s pos=>simp [Zo.wr] at hwr
 | loop fn lv p xs cd regs st pd=>simp [Zo.wr] at hwr
theorem Ya.newer {w0 : Zg} {ι : Nat→Option Loc} {id : Nat} {o : Zo} {w : World} (h : Ya w0 ι id o w) (hwr : o.wr=true) :
  ∀ l,ι id=some l→w0.heap.size≤l.blk∧l.blk < w.heap.size:=by
 intro l hl
 cases o with
 | dead=>simp [Zo.wr] at hwr
 | view cs es nx=>simp [Zo.wr] at hwr
 | cells cs es grow ro=>
  obtain ⟨l',c,el,fr,h1,_,_,h4,_,_,_,h7,_⟩:=h
  rw [hl] at h1;cases h1
  refine ⟨(h7 (by simpa [Zo.wr] using hwr)).1,?_⟩
  rcases Nat.lt_or_ge l.blk w.heap.size with h | h
  ·exact h
  ·rw [Array.getElem?_eq_none h] at h4;cases h4
 | map es clk=>
  obtain ⟨l',en,h1,h2,h3,_⟩:=h
  rw [hl] at h1;cases h1
  refine ⟨h3,?_⟩
  rcases Nat.lt_or_ge l.blk w.heap.size with h | h
  ·exact h
  ·rw [Array.getElem?_eq_none h] at h2;cases h2
 | mapU es=>
  obtain ⟨l',en,clk,es2,h1,h2,h3,_⟩:=h
  rw [hl] at h1;cases h1
  refine ⟨h3,?_⟩
  rcases Nat.lt_or_ge l.blk w.heap.size with h | h
  ·exact h
  ·rw [Array.getElem?_eq_none h] at h2;cases h2
 | siter s pos=>
  obtain ⟨l',h1,h2,h3,_⟩:=h
  rw [hl] at h1;cases h1
  refine ⟨h3,?_⟩
  rcases Nat.lt_or_ge l.blk w.heap.size with h | h
  ·exact h
  ·rw [Array.getElem?_eq_none h] at h2;cases h2
 | loop fn lv p xs cd regs st pd=>
  obtain ⟨l',rf,tmps,D,h1,h2,h3,_⟩:=h
  rw [hl] at h1;cases h1
  refine ⟨h3,?_⟩
  rcases Nat.lt_or_ge l.blk w.heap.size with h | h
  ·exact h
  ·rw [Array.getElem?_eq_none h] at h2;cases h2
theorem Ya.loc {w0 : Zg} {ι : Nat→Option Loc} {id : Nat} {o : Zo} {w : World} (h : Ya w0 ι id o w) (hne : o≠.dead) :
  ∃ l,ι id=some l∧l.blk < w.heap.size:=by
 cases o with
 | dead=>exact absurd rfl hne
 | view cs es nx=>exact h
 | cells cs es grow ro=>
  obtain ⟨l',c,el,fr,h1,_,_,h4,_⟩:=h
  refine ⟨l',h1,?_⟩
  rcases Nat.lt_or_ge l'.blk w.heap.size with h | h
  ·exact h
  ·rw [Array.getElem?_eq_none h] at h4;cases h4
 | map es clk=>
  obtain ⟨l',en,h1,h2,_⟩:=h
  refine ⟨l',h1,?_⟩
  rcases Nat.lt_or_ge l'.blk w.heap.size with h | h
  ·exact h
  ·rw [Array.getElem?_eq_none h] at h2;cases h2
 | mapU es=>
  obtain ⟨l',en,clk,es2,h1,h2,_⟩:=h
  refine ⟨l',h1,?_⟩
  rcases Nat.lt_or_ge l'.blk w.heap.size with h | h
  ·exact h
  ·rw [Array.getElem?_eq_none h] at h2;cases h2
 | siter s pos=>
  obtain ⟨l',h1,h2,_⟩:=h
  refine ⟨l',h1,?_⟩
  rcases Nat.lt_or_ge l'.blk w.heap.size with h | h
  ·exact h
  ·rw [Array.getElem?_eq_none h] at h2;cases h2
 | loop fn lv p xs cd regs st pd=>
  obtain ⟨l',rf,tmps,D,h1,h2,_⟩:=h
  refine ⟨l',h1,?_⟩
  rcases Nat.lt_or_ge l'.blk w.heap.size with h | h
  ·exact h
  ·rw [Array.getElem?_eq_none h] at h2;cases h2
theorem Sim.congr {G : Nat} {w0 : Zg} {ι : Nat→Option Loc} {H : Zb} {w w' : World} (h : Sim G w0 ι H w) (hh : w'.heap=w.heap) (hr : w'.os=w.os∧w'.tape=w.tape∧w'.output=w.output:=by exact ⟨rfl,rfl,rfl⟩) : Sim G w0 ι H w':=
 ⟨fun id o ho=>(h.obj id o ho).blk (fun _ _ _=>by rw [hh]),h.inj,by rw [hh];exact h.size,fun b hb=>by rw [hh];exact h.old b hb,h.dom,h.glob,by rw [hr.1,hr.2.1,hr.2.2];exact h.rest,fun b hb=>by rw [hh];exact h.prot b hb,fun j cs es nx l hj hl=>(h.views j cs es nx l hj hl).to (.refl ι) fun h1 _=>⟨fun c el fr hc=>⟨fr,by rw [hh];exact hc⟩,h1⟩⟩
def QP (w : World) (b : Nat) (o : Obj) : World:={ w with heap:=w.heap.setIfInBounds b o }
theorem YO {w : World} {b : Nat} {o : Obj} (h : b < w.heap.size) : (QP w b o).heap[b]?=some o:=by simp [QP,h]
theorem ZW {w : World} {b c : Nat} {o : Obj} (h : c≠b) : (QP w b o).heap[c]?=w.heap[c]?:=by
 simp [QP,Array.getElem?_setIfInBounds_ne (Ne.symm h)]
@[simp] theorem Zfp {w : World} {b : Nat} {o : Obj} : (QP w b o).heap.size=w.heap.size:=by simp [QP]
theorem Sim.set {G : Nat} {w0 : Zg} {ι : Nat→Option Loc} {H : Zb} {w : World} (h : Sim G w0 ι H w) {id : Nat} {old new : Zo} {l : Loc} {o' : Obj}
  (hid : H[id]?=some old) (hwr : old.wr=true) (hl : ι id=some l) (hwr' : new.wr=true)
  (hR : ∀ w' : World,w'.heap[l.blk]?=some o'→Ya w0 ι id new w') : Sim G w0 ι (H.set id new) (QP w l.blk o'):=by
 obtain ⟨hb0,hb1⟩:=(h.obj id old hid).newer hwr l hl
 have hlt : id < H.length:=by
  rcases Nat.lt_or_ge id H.length with h | h
  ·exact h
  ·rw [List.getElem?_eq_none h] at hid;cases hid
 have hget : ∀ i o,(H.set id new)[i]?=some o→(i=id∧o=new)∨(i≠id∧H[i]?=some o):=by
  intro i o ho
  by_cases e : id=i
  ·subst e;rw [List.getElem?_set_self hlt] at ho;exact .inl ⟨rfl,by simpa using ho.symm⟩
  ·rw [List.getElem?_set_ne e] at ho;exact .inr ⟨Ne.symm e,ho⟩
 refine ⟨fun i o ho=>?_,fun i j oi oj li lj hi hj wi wj ei ej eb=>?_,by simpa using h.size,fun b hb=>?_,fun i l' hl'=>by simpa using h.dom i l' hl',h.glob,h.rest,fun b hb=>?_,fun j cs es nx l' hj hl'=>?_⟩
 ·rcases hget i o ho with ⟨rfl,rfl⟩ | ⟨hne,ho'⟩
  ·exact hR _ (YO hb1)
  ·by_cases hv : o.isV=true
   ·cases o with
    | view cs es nx=>obtain ⟨l',h1,h2⟩:=h.obj i _ ho';exact ⟨l',h1,by simpa using h2⟩
    | _=>cases hv
   ·refine (h.obj i o ho').blk fun l' hl' hd=>ZW fun hbb=>hne ?_
    by_cases hw : o.wr=true
    ·exact h.inj i id o old l' l ho' hid hw hwr hl' hl hbb
    ·exfalso
     have:=(h.obj i o ho').old hd (by simpa using hw) (by simpa using hv) l' hl'
     omega
 ·have key : ∀ (i : Nat) (o : Zo),(H.set id new)[i]?=some o→o.wr=true→∃ o2 : Zo,H[i]?=some o2∧o2.wr=true:=by
   intro i o ho hw
   rcases hget i o ho with ⟨rfl,rfl⟩ | ⟨_,ho'⟩
   ·exact ⟨old,hid,hwr⟩
   ·exact ⟨o,ho',hw⟩
  obtain ⟨o1,h1,w1⟩:=key i oi hi wi
  obtain ⟨o2,h2,w2⟩:=key j oj hj wj
  exact h.inj i j o1 o2 li lj h1 h2 w1 w2 ei ej eb
 ·rw [ZW (by omega)];exact h.old b hb
 ·obtain ⟨p1,p2,p3⟩:=h.prot b hb
  have hod : old≠.dead:=by intro e;rw [e] at hwr;cases hwr
  refine ⟨by rw [ZW (Ne.symm (p3 id old l hid hod hl))];exact p1,p2,fun i o l' ho hd hl'=>?_⟩
  rcases hget i o ho with ⟨rfl,_⟩ | ⟨_,ho'⟩
  ·exact p3 i old l' hid hod hl'
  ·exact p3 i o l' ho' hd hl'
 ·rcases hget j _ hj with ⟨_,e⟩ | ⟨_,hj'⟩
  ·rw [← e] at hwr';cases hwr'
  ·refine (h.views j cs es nx l' hj' hl').to (.refl ι) fun h1 _=>?_
   have hne:=h1 id old l hid hwr hl
   refine ⟨fun c el fr hc=>⟨fr,by rw [ZW (Ne.symm hne)];exact hc⟩,fun i oi li hi hw hli=>?_⟩
   rcases hget i oi hi with ⟨rfl,_⟩ | ⟨_,hi'⟩
   ·rw [hl] at hli;cases hli;exact hne
   ·exact h1 i oi li hi' hw hli
theorem Sim.kill {G : Nat} {w0 : Zg} {ι : Nat→Option Loc} {H : Zb} {w : World} (h : Sim G w0 ι H w) (id : Nat) : Sim G w0 ι (H.set id .dead) w:=by
 have hget : ∀ i o,(H.set id Zo.dead)[i]?=some o→o=.dead∨(i≠id∧H[i]?=some o):=by
  intro i o ho
  rw [List.getElem?_set] at ho
  by_cases e : id=i
  ·rw [if_pos e] at ho
   split at ho
   ·exact .inl (by simpa using ho.symm)
   ·cases ho
  ·rw [if_neg e] at ho;exact .inr ⟨Ne.symm e,ho⟩
 refine ⟨fun i o ho=>?_,fun i j oi oj li lj hi hj wi wj ei ej eb=>?_,h.size,h.old,fun i l' hl'=>by simpa using h.dom i l' hl',h.glob,h.rest,fun b hb=>?_,fun j cs es nx l' hj hl'=>?_⟩
 ·rcases hget i o ho with rfl | ⟨_,ho'⟩
  ·trivial
  ·exact h.obj i o ho'
 ·rcases hget i oi hi with rfl | ⟨_,hi'⟩
  ·simp [Zo.wr] at wi
  ·rcases hget j oj hj with rfl | ⟨_,hj'⟩
   ·simp [Zo.wr] at wj
   ·exact h.inj i j oi oj li lj hi' hj' wi wj ei ej eb
 ·obtain ⟨p1,p2,p3⟩:=h.prot b hb
  refine ⟨p1,p2,fun i o l' ho hd hl'=>?_⟩
  rcases hget i o ho with rfl | ⟨_,ho'⟩
  ·exact absurd rfl hd
  ·exact p3 i o l' ho' hd hl'
 ·rcases hget j _ hj with e | ⟨_,hj'⟩
  ·cases e
  ·refine (h.views j cs es nx l' hj' hl').to (.refl ι) fun h1 _=>⟨fun c el fr hc=>⟨fr,hc⟩,fun i oi li hi hw hli=>?_⟩
   rcases hget i oi hi with rfl | ⟨_,hi'⟩
   ·cases hw
   ·exact h1 i oi li hi' hw hli
theorem Sim.toView {G : Nat} {w0 : Zg} {ι : Nat→Option Loc} {H : Zb} {w : World} (h : Sim G w0 ι H w) {id : Nat} {cs : List Value} {es : Nat} {g : Bool} {l : Loc} (hid : H[id]?=some (.cells cs es g false)) (hl : ι id=some l) {vs : List Value} (hvs : ∃ k,vs=cs.take k) (e2 nx : Nat) : Sim G w0 ι (H.set id (.view vs e2 nx)) w:=by
 have hget : ∀ i o,(H.set id (Zo.view vs e2 nx))[i]?=some o→(i=id∧o=.view vs e2 nx)∨(i≠id∧H[i]?=some o):=by
  intro i o ho
  rw [List.getElem?_set] at ho
  by_cases e : id=i
  ·rw [if_pos e] at ho
   split at ho
   ·exact .inl ⟨e.symm,by simpa using ho.symm⟩
   ·cases ho
  ·rw [if_neg e] at ho;exact .inr ⟨Ne.symm e,ho⟩
 have hnw : (Zo.view vs e2 nx).wr=false:=rfl
 refine ⟨fun i o ho=>?_,fun i j oi oj li lj hi hj wi wj ei ej eb=>?_,h.size,h.old,fun i l' hl'=>by simpa using h.dom i l' hl',h.glob,h.rest,fun b hb=>?_,fun j cs' es' nx' l' hj hl'=>?_⟩
 ·rcases hget i o ho with ⟨rfl,rfl⟩ | ⟨_,ho'⟩
  ·exact (h.obj _ _ hid).loc (by simp)
  ·exact h.obj i o ho'
 ·rcases hget i oi hi with ⟨rfl,rfl⟩ | ⟨_,hi'⟩
  ·cases wi
  ·rcases hget j oj hj with ⟨rfl,rfl⟩ | ⟨_,hj'⟩
   ·cases wj
   ·exact h.inj i j oi oj li lj hi' hj' wi wj ei ej eb
 ·obtain ⟨p1,p2,p3⟩:=h.prot b hb
  refine ⟨p1,p2,fun i o l' ho hd hl'=>?_⟩
  rcases hget i o ho with ⟨rfl,rfl⟩ | ⟨_,ho'⟩
  ·exact p3 i _ l' hid (by simp) hl'
  ·exact p3 i o l' ho' hd hl'
 ·rcases hget j _ hj with ⟨rfl,e⟩ | ⟨_,hj'⟩
  ·cases e
   rw [hl] at hl';cases hl'
   obtain ⟨k,rfl⟩:=hvs
   obtain ⟨l2,c,el,fr,k1,_,_,k4,k5,k6,k7,_⟩:=h.obj _ _ hid
   rw [hl] at k1;cases k1
   refine .inr ⟨⟨c,el,fr,k4,by rw [List.length_take];omega,?_⟩,fun i oi li hi hw hli hbe=>?_⟩
   ·have:=k7.take k
    rw [List.take_take] at this
    rw [List.length_take];exact this
   ·rcases hget i oi hi with ⟨rfl,rfl⟩ | ⟨hne,hi'⟩
    ·cases hw
    ·exact hne (h.inj i j oi _ li l hi' hid hw rfl hli hl hbe)
  ·refine (h.views j cs' es' nx' l' hj' hl').to (.refl ι) fun h1 _=>⟨fun c el fr hc=>⟨fr,hc⟩,fun i oi li hi hw hli=>?_⟩
   rcases hget i oi hi with ⟨rfl,rfl⟩ | ⟨_,hi'⟩
   ·cases hw
   ·exact h1 i oi li hi' hw hli
theorem Sim.deadView {G : Nat} {w0 : Zg} {ι : Nat→Option Loc} {H : Zb} {w : World} (h : Sim G w0 ι H w) {id nx : Nat} {l l' : Loc} (hid : H[id]?=some .dead) (hl : ι id=some l) (hb : l.blk < w.heap.size) (hpr : ∀ b∈w0.prot,l.blk≠b.1) (hx : ι nx=some l') (h1 : l'.blk=l.blk) (h2 : l'.base=l.base) (vs : List Value) (e2 : Nat) : Sim G w0 ι (H.set id (.view vs e2 nx)) w:=by
 have hget : ∀ i o,(H.set id (Zo.view vs e2 nx))[i]?=some o→(i=id∧o=.view vs e2 nx)∨(i≠id∧H[i]?=some o):=by
  intro i o ho
  rw [List.getElem?_set] at ho
  by_cases e : id=i
  ·rw [if_pos e] at ho
   split at ho
   ·exact .inl ⟨e.symm,by simpa using ho.symm⟩
   ·cases ho
  ·rw [if_neg e] at ho;exact .inr ⟨Ne.symm e,ho⟩
 refine ⟨fun i o ho=>?_,fun i j oi oj li lj hi hj wi wj ei ej eb=>?_,h.size,h.old,fun i l' hl'=>by simpa using h.dom i l' hl',h.glob,h.rest,fun b hb=>?_,fun j cs' es' nx' l' hj hl'=>?_⟩
 ·rcases hget i o ho with ⟨rfl,rfl⟩ | ⟨_,ho'⟩
  ·exact ⟨l,hl,hb⟩
  ·exact h.obj i o ho'
 ·rcases hget i oi hi with ⟨rfl,rfl⟩ | ⟨_,hi'⟩
  ·cases wi
  ·rcases hget j oj hj with ⟨rfl,rfl⟩ | ⟨_,hj'⟩
   ·cases wj
   ·exact h.inj i j oi oj li lj hi' hj' wi wj ei ej eb
 ·obtain ⟨p1,p2,p3⟩:=h.prot b hb
  refine ⟨p1,p2,fun i o l' ho hd hl'=>?_⟩
  rcases hget i o ho with ⟨rfl,rfl⟩ | ⟨_,ho'⟩
  ·rw [hl] at hl';cases hl';exact hpr b hb
  ·exact p3 i o l' ho' hd hl'
 ·rcases hget j _ hj with ⟨rfl,e⟩ | ⟨_,hj'⟩
  ·cases e
   rw [hl] at hl';cases hl'
   exact .inl ⟨_,hx,h1,h2⟩
  ·refine (h.views j cs' es' nx' l' hj' hl').to (.refl ι) fun h1 _=>⟨fun c el fr hc=>⟨fr,hc⟩,fun i oi li hi hw hli=>?_⟩
   rcases hget i oi hi with ⟨rfl,rfl⟩ | ⟨_,hi'⟩
   ·cases hw
   ·exact h1 i oi li hi' hw hli
def JD (ι : Nat→Option Loc) (n : Nat) (l : Loc) : Nat→Option Loc:=fun i=>if i=n then some l else ι i
theorem Jd {G : Nat} {w0 : Zg} {ι : Nat→Option Loc} {H : Zb} {w : World} (h : Sim G w0 ι H w) (l : Loc) : Le ι (JD ι H.length l):=by
 intro i l' hl
 have:=h.dom i l' hl
 unfold JD
 rw [if_neg (by omega)];exact hl
@[simp] theorem ZD (ι : Nat→Option Loc) (n : Nat) (l : Loc) : JD ι n l n=some l:=by simp [JD]
theorem Sim.add {G : Nat} {w0 : Zg} {ι : Nat→Option Loc} {H : Zb} {w : World} (h : Sim G w0 ι H w) {o : Zo} {l : Loc}
  (hR : Ya w0 (JD ι H.length l) H.length o w) (hfree : ∀ i oi li,H[i]?=some oi→oi.wr=true→ι i=some li→li.blk≠l.blk) (hpr : ∀ b∈w0.prot,l.blk≠b.1)
  (hvw : o.wr=true→∀ j cs es nx lj,H[j]?=some (.view cs es nx)→ι j=some lj→lj.blk=l.blk→∃ l',ι nx=some l'∧l'.blk=lj.blk∧l'.base=lj.base) (hov : o.isV=false:=by rfl) :
  Sim G w0 (JD ι H.length l) (H++[o]) w:=by
 have hle:=Jd h l
 have hget : ∀ i x,(H++[o])[i]?=some x→(i=H.length∧x=o)∨(i < H.length∧H[i]?=some x):=by
  intro i x hx
  rcases Nat.lt_trichotomy i H.length with hi | hi | hi
  ·rw [List.getElem?_append_left hi] at hx;exact .inr ⟨hi,hx⟩
  ·subst hi;simp at hx;exact .inl ⟨rfl,hx.symm⟩
  ·rw [List.getElem?_eq_none (by simp;omega)] at hx;cases hx
 refine ⟨fun i x hx=>?_,fun i j oi oj li lj hi hj wi wj ei ej eb=>?_,h.size,h.old,fun i l' hl'=>?_,fun g hg=>?_,h.rest,fun b hb=>?_,fun j cs es nx lj hj hlj=>?_⟩
 ·rcases hget i x hx with ⟨rfl,rfl⟩ | ⟨_,hx'⟩
  ·exact hR
  ·exact (h.obj i x hx').mono hle
 ·have nt : ∀ k lk,k < H.length→JD ι H.length l k=some lk→ι k=some lk:=by
   intro k lk hk e
   unfold JD at e
   rw [if_neg (by omega)] at e;exact e
  rcases hget i oi hi with ⟨rfl,rfl⟩ | ⟨hlt,hi'⟩
  ·rcases hget j oj hj with ⟨rfl,rfl⟩ | ⟨hlt,hj'⟩
   ·rfl
   ·rw [ZD] at ei;cases ei
    exact absurd eb.symm (hfree j oj lj hj' wj (nt j lj hlt ej))
  ·rcases hget j oj hj with ⟨rfl,rfl⟩ | ⟨hlt',hj'⟩
   ·rw [ZD] at ej;cases ej
    exact absurd eb (hfree i oi li hi' wi (nt i li hlt ei))
   ·exact h.inj i j oi oj li lj hi' hj' wi wj (nt i li hlt ei) (nt j lj hlt' ej) eb
 ·unfold JD at hl'
  split at hl'
  ·simp;omega
  ·have:=h.dom i l' hl';simp;omega
 ·obtain ⟨l',h1,h2⟩:=h.glob g hg
  exact ⟨l',hle _ _ h1,h2⟩
 ·obtain ⟨p1,p2,p3⟩:=h.prot b hb
  refine ⟨p1,p2,fun i x l' hx hd hl'=>?_⟩
  rcases hget i x hx with ⟨rfl,rfl⟩ | ⟨hlt,hx'⟩
  ·rw [ZD] at hl';cases hl'
   exact hpr b hb
  ·refine p3 i x l' hx' hd ?_
   unfold JD at hl'
   rw [if_neg (by omega)] at hl';exact hl'
 ·rcases hget j _ hj with ⟨_,e⟩ | ⟨hlt,hj'⟩
  ·rw [← e] at hov;cases hov
  ·have hlj' : ι j=some lj:=by
    unfold JD at hlj
    rw [if_neg (by omega)] at hlj;exact hlj
   by_cases hsh : o.wr=true∧lj.blk=l.blk
   ·obtain ⟨l',k1,k2⟩:=hvw hsh.1 j cs es nx lj hj' hlj' hsh.2
    exact .inl ⟨l',hle _ _ k1,k2⟩
   ·refine (h.views j cs es nx lj hj' hlj').to hle fun h1 _=>⟨fun c el fr hc=>⟨fr,hc⟩,fun i oi li hi hw hli=>?_⟩
    rcases hget i oi hi with ⟨rfl,rfl⟩ | ⟨hlt2,hi'⟩
    ·rw [ZD] at hli;cases hli
     exact fun e=>hsh ⟨hw,e.symm⟩
    ·refine h1 i oi li hi' hw ?_
     unfold JD at hli
     rw [if_neg (by omega)] at hli;exact hli
def ZQ (w : World) (o : Obj) : World:={ w with heap:=w.heap.push o }
theorem Yr (w : World) (o : Obj) : (ZQ w o).heap[w.heap.size]?=some o:=by unfold ZQ;simp
theorem Kp (w : World) (o : Obj) {b : Nat} (h : b < w.heap.size) : (ZQ w o).heap[b]?=w.heap[b]?:=by
 unfold ZQ;simp [Array.getElem?_push];omega
theorem Sim.push {G : Nat} {w0 : Zg} {ι : Nat→Option Loc} {H : Zb} {w : World} (h : Sim G w0 ι H w) (o : Obj) : Sim G w0 ι H (ZQ w o):=by
 refine ⟨fun i x hx=>(h.obj i x hx).blk fun l hl hd=>?_,h.inj,by have:=h.size;simp [ZQ];omega,fun b hb=>?_,h.dom,h.glob,h.rest,fun b hb=>?_,fun j cs es nx l hj hl=>(h.views j cs es nx l hj hl).to (.refl ι) fun h1 ⟨c0,el0,fr0,hc0⟩=>⟨fun c el fr hc=>⟨fr,by rw [Kp w o (Array.getElem?_eq_some_iff.1 hc0).1];exact hc⟩,h1⟩⟩
 ·obtain ⟨l',hl',hlt⟩:=(h.obj i x hx).loc hd
  rw [hl] at hl';cases hl'
  exact Kp w o hlt
 ·rw [Kp w o (by have:=h.size;omega)];exact h.old b hb
 ·obtain ⟨p1,p2,p3⟩:=h.prot b hb
  have hlt : b.1 < w.heap.size:=by
   rcases Nat.lt_or_ge b.1 w.heap.size with h1 | h1
   ·exact h1
   ·rw [Array.getElem?_eq_none h1] at p1;cases p1
  exact ⟨by rw [Kp w o hlt];exact p1,p2,p3⟩
theorem Sim.new {G : Nat} {w0 : Zg} {ι : Nat→Option Loc} {H : Zb} {w : World} (h : Sim G w0 ι H w) {x : Zo} {l : Loc} (o : Obj) (hb : l.blk=w.heap.size)
  (hR : Ya w0 (JD ι H.length l) H.length x (ZQ w o)) (hov : x.isV=false:=by rfl) : Sim G w0 (JD ι H.length l) (H++[x]) (ZQ w o):=by
 refine (h.push o).add hR (fun i oi li hi wi e=>?_) (fun b hbp=>?_) (fun _ j cs es nx lj hj hlj hbe=>?_) hov
 ·have:=((h.obj i oi hi).newer wi li e).2
  omega
 ·have p1:=(h.prot b hbp).1
  have hlt : b.1 < w.heap.size:=by
   rcases Nat.lt_or_ge b.1 w.heap.size with h1 | h1
   ·exact h1
   ·rw [Array.getElem?_eq_none h1] at p1;cases p1
  omega
 ·rcases h.views j cs es nx lj hj hlj with ⟨l',k1,k2⟩ | ⟨⟨c,el,fr,k1,_⟩,_⟩
  ·exact ⟨l',k1,k2⟩
  ·have:=(Array.getElem?_eq_some_iff.1 k1).1
   omega
end Go.Proofs.Ytfefblgkfdaekaa.A
namespace Go.Proofs.Ytfefblgkfdaekaa.A
set_option linter.unusedVariables false
set_option linter.unusedSimpArgs false
def Res (G : Nat) (w0 : Zg) (ι : Nat→Option Loc) (v : Value) (H1 : Zb) (r : Result Value) : Prop:=
 ∃ ι1 v' w1,Le ι ι1∧Sim G w0 ι1 H1 w1∧RV ι1 v v'∧r=.ok v' w1
def Zcf (G : Nat) (w0 : Zg) (ι : Nat→Option Loc) (H1 : Zb) (r : Result Unit) : Prop:=
 ∃ ι1 w1,Le ι ι1∧Sim G w0 ι1 H1 w1∧r=.ok () w1
section
variable {P : Program} {G : Nat} {w0 : Zg} {ι : Nat→Option Loc} {H H1 : Zb} {w : World} {v : Value}
theorem Res.same (hS : Sim G w0 ι H w) {v v' : Value} (hv : RV ι v v') {r : Result Value} (hr : r=.ok v' w) : Res G w0 ι v H r:=
 ⟨ι,v',w,.refl ι,hS,hv,hr⟩
theorem Res.sc (hS : Sim G w0 ι H w) {v : Value} (hv : Zy v=true) {r : Result Value} (hr : r=.ok v w) : Res G w0 ι v H r:=
 .same hS (.sc hv) hr
theorem Ky (op : BinOp) (t : TypeId) (x y : Operand) (k k' : IntKind) (a b : Int) : (eqGuard op t x y (.int k a) (.int k' b)).run P w=.ok () w:=by
 unfold eqGuard;split <;> simp
theorem Zbc (op : BinOp) (t : TypeId) (x y : Operand) (a b : ByteArray) : (eqGuard op t x y (.string a) (.string b)).run P w=.ok () w:=by
 unfold eqGuard;split <;> simp
theorem Zdf {op : BinOp} {k : IntKind} {a b : Int} {t : TypeId} (h : Q0 op k a b=some v) :
  Zy v=true∧(binOp op t (.int k a) (.int k b)).run P w=.ok v w:=by
 cases op <;> simp only [Q0,Option.some.injEq,reduceCtorEq] at h <;>
  first
   | (subst h;refine ⟨rfl,?_⟩;simp [binOp,Op.intArith,Op.intBits,Op.intCmp])
   | skip
 all_goals
  by_cases hb : b=0
  ·subst hb;simp at h
  ·have hb' : (b==0)=false:=by simpa using hb
   simp [hb'] at h
   subst h
   refine ⟨rfl,?_⟩
   simp [binOp,Op.intDiv,hb]
theorem ZaF {op : BinOp} {k k' : IntKind} {a b : Int} {t : TypeId} (hop : op=.shl∨op=.shr) (h : ZaQ op k a b=some v) :
  Zy v=true∧(binOp op t (.int k a) (.int k' b)).run P w=.ok v w:=by
 unfold ZaQ at h
 by_cases hb : b < 0
 ·simp [hb] at h
 ·rcases hop with rfl | rfl <;>
  ·simp [hb] at h
   subst h
   refine ⟨rfl,?_⟩
   simp [binOp,Op.shift,hb]
theorem ZeL {op : BinOp} {a b : ByteArray} {t : TypeId} (h : sop op a b=some v) :
  Zy v=true∧(binOp op t (.string a) (.string b)).run P w=.ok v w:=by
 cases op <;> simp only [sop,Option.some.injEq,reduceCtorEq] at h <;>
  first
   | (subst h;refine ⟨rfl,?_⟩;simp [binOp,Op.stringOp])
   | skip
 by_cases hb : a.size+b.size≤9223372036854775807
 ·simp [hb] at h
  subst h
  refine ⟨rfl,?_⟩
  have : ¬ ((a.size+b.size : Nat) : Int) > IntKind.i64.max:=by
   have : IntKind.i64.max=9223372036854775807:=by decide
   rw [this];omega
  simp only [binOp,Op.stringOp]
  rw [if_neg this];rfl
 ·simp [hb] at h
theorem Je {t : TypeId} {x y : Value} {r : Result Bool} (h : ∀ d,(Op.equalIn (d+1) t x y).run P w=r) : (Op.equal t x y).run P w=r:=h 9999
theorem ZdC {t : TypeId} {x y : Value} {r : Result Bool} (h : ∀ d,(Op.equalIn (d+2) t x y).run P w=r) : (Op.equal t x y).run P w=r:=h 9998
theorem QI {t : TypeId} {b : Bool} {k : TK} (h : (bif b then TK.two else YY P t)=k) (h1 : k≠.two) (h2 : ∀ l,k≠.flat l) (h3 : k≠.other) : False:=by
 cases b
 ·simp only [cond_false] at h
  unfold YY at h
  cases hb : P.eqGuardType P.depth t <;> rw [hb] at h
  ·simp only [cond_false] at h
   split at h
   ·exact h2 _ h.symm
   ·exact h3 h.symm
  ·exact h3 h.symm
 ·exact h1 h.symm
theorem Zbh {t : TypeId} (h : tkT P t=.bool) : P.underlying t=some .bool:=by
 unfold tkT at h;split at h <;> first | assumption | (cases h;done) | (exfalso;exact QI h (by intro e;cases e) (by intro l e;cases e) (by intro e;cases e)) | (exfalso;exact QI (b:=false) h (by intro e;cases e) (by intro l e;cases e) (by intro e;cases e))
theorem Zdv {t : TypeId} (h : tkT P t=.str) : P.underlying t=some .string:=by
 unfold tkT at h;split at h <;> first | assumption | (cases h;done) | (exfalso;exact QI h (by intro e;cases e) (by intro l e;cases e) (by intro e;cases e)) | (exfalso;exact QI (b:=false) h (by intro e;cases e) (by intro l e;cases e) (by intro e;cases e))
theorem ZdG {t : TypeId} (h : tkT P t=.int) : ∃ k,P.underlying t=some (.int k):=by
 unfold tkT at h;split at h <;> first | exact ⟨_,by assumption⟩ | (cases h;done) | (exfalso;exact QI h (by intro e;cases e) (by intro l e;cases e) (by intro e;cases e)) | (exfalso;exact QI (b:=false) h (by intro e;cases e) (by intro l e;cases e) (by intro e;cases e))
theorem Zdh {t : TypeId} (h : tkT P t=.ptr) : ∃ e,P.underlying t=some (.pointer e):=by
 unfold tkT at h;split at h <;> first | exact ⟨_,by assumption⟩ | (cases h;done) | (exfalso;exact QI h (by intro e;cases e) (by intro l e;cases e) (by intro e;cases e)) | (exfalso;exact QI (b:=false) h (by intro e;cases e) (by intro l e;cases e) (by intro e;cases e))
theorem ZdI {t : TypeId} (h : tkT P t=.slc) : ∃ e,P.underlying t=some (.slice e):=by
 unfold tkT at h;split at h <;> first | exact ⟨_,by assumption⟩ | (cases h;done) | (exfalso;exact QI h (by intro e;cases e) (by intro l e;cases e) (by intro e;cases e)) | (exfalso;exact QI (b:=false) h (by intro e;cases e) (by intro l e;cases e) (by intro e;cases e))
theorem ZdA {t : TypeId} (h : tkT P t=.map) : ∃ k e,P.underlying t=some (.map k e):=by
 unfold tkT at h;split at h <;> first | exact ⟨_,_,by assumption⟩ | (cases h;done) | (exfalso;exact QI h (by intro e;cases e) (by intro l e;cases e) (by intro e;cases e)) | (exfalso;exact QI (b:=false) h (by intro e;cases e) (by intro l e;cases e) (by intro e;cases e))
theorem ZcX {t : TypeId} (h : tkT P t=.fn) : ∃ a b c,P.underlying t=some (.func a b c):=by
 unfold tkT at h;split at h <;> first | exact ⟨_,_,_,by assumption⟩ | (cases h;done) | (exfalso;exact QI h (by intro e;cases e) (by intro l e;cases e) (by intro e;cases e)) | (exfalso;exact QI (b:=false) h (by intro e;cases e) (by intro l e;cases e) (by intro e;cases e))
theorem ZcM {t : TypeId} (h : ZbC P t=true) : P.underlying t=some .string:=by
 unfold ZbC at h;split at h <;> first | assumption | cases h
theorem Zfb {t : TypeId} (h : tkT P t = .two) : ∃ f g, P.underlying t = some (.struct #[f, g]) ∧ f.name ≠ "_" ∧ g.name ≠ "_" ∧ f.offset = 0 ∧ g.offset = 1 ∧ P.underlying f.type = some .string ∧ P.underlying g.type = some .string ∧ P.stoodInHeld t = false ∧ P.eqGuardType P.depth t = false := by
 have nf : YY P t≠.two:=fun h=>by
  unfold YY at h
  cases hq : P.eqGuardType P.depth t <;> rw [hq] at h
  ·simp only [cond_false] at h
   split at h <;> cases h
  ·cases h
 unfold tkT at h
 split at h <;> first | (cases h;done) | exact absurd h nf | skip
 rename_i fs hu
 cases hb : Zc2 P t fs.toList
 ·rw [hb] at h
  exact absurd h fun h=>by
   simp only [cond_false] at h
   unfold YY at h
   cases hq : P.eqGuardType P.depth t <;> rw [hq] at h
   ·simp only [cond_false] at h
    split at h <;> cases h
   ·cases h
 ·obtain ⟨l⟩:=fs
  match l,hb with
  | [f,g],hb=>
   simp only [Zc2,Bool.and_eq_true,bne_iff_ne,ne_eq,Bool.not_eq_true'] at hb
   obtain ⟨h1,h2,h3,h4,h5,h6,h7,h8⟩:=hb
   exact ⟨f,g,hu,h1,h2,Nat.eq_of_beq_eq_true h3,Nat.eq_of_beq_eq_true h4,ZcM h5,ZcM h6,h7,h8⟩
theorem ZaX {t : TypeId} {ks : List FK} (h : YY P t=.flat ks) : P.eqGuardType P.depth t=false∧J6 P 5 t=some ks:=by
 unfold YY at h
 cases hq : P.eqGuardType P.depth t <;> rw [hq] at h
 ·simp only [cond_false] at h
  split at h
  ·rename_i l hl
   cases h
   exact ⟨rfl,hl⟩
  ·cases h
 ·cases h
theorem ZeZ {t : TypeId} {ks : List FK} (h : tkT P t=.flat ks) : P.eqGuardType P.depth t=false∧J6 P 5 t=some ks∧((∃ fs,P.underlying t=some (.struct fs))∨∃ n e,P.underlying t=some (.array n e)):=by
 unfold tkT at h
 split at h <;> first | (cases h;done) | skip
 ·rename_i fs hu
  cases hb : Zc2 P t fs.toList
  ·rw [hb] at h
   simp only [cond_false] at h
   obtain ⟨h1,h2⟩:=ZaX h
   exact ⟨h1,h2,.inl ⟨fs,hu⟩⟩
  ·rw [hb] at h;cases h
 ·rename_i n e hu
  obtain ⟨h1,h2⟩:=ZaX h
  exact ⟨h1,h2,.inr ⟨n,e,hu⟩⟩
theorem Zdj {t : TypeId} (h : tkT P t=.ifc) : ∃ a,P.underlying t=some (.interface a):=by
 unfold tkT at h;split at h <;> first | exact ⟨_,by assumption⟩ | (cases h;done) | (exfalso;exact QI h (by intro e;cases e) (by intro l e;cases e) (by intro e;cases e)) | (exfalso;exact QI (b:=false) h (by intro e;cases e) (by intro l e;cases e) (by intro e;cases e))
theorem RV.ptr_none {a : Option Addr} {v' : Value} (h : RV ι (.pointer a) v') : ∃ a',v'=.pointer a'∧a'.isNone=a.isNone:=by
 cases h with
 | sc h=>exact ⟨_,rfl,rfl⟩
 | ptr h=>exact ⟨_,rfl,rfl⟩
theorem RV.slc_none {a : Option Addr} {n c : Nat} {v' : Value} (h : RV ι (.slice a n c) v') : ∃ a' c',v'=.slice a' n c'∧a'.isNone=a.isNone:=by
 cases h with
 | sc h=>exact ⟨_,_,rfl,rfl⟩
 | slc=>exact ⟨_,_,rfl,rfl⟩
 | slcE=>exact ⟨_,_,rfl,rfl⟩
theorem RV.map_none {a : Option Nat} {v' : Value} (h : RV ι (.map a) v') : ∃ a',v'=.map a'∧a'.isNone=a.isNone:=by
 cases h with
 | sc h=>exact ⟨_,rfl,rfl⟩
 | mp h=>exact ⟨_,rfl,rfl⟩
theorem Zae {d : Nat} {t : TypeId} {a b : ByteArray} (hu : P.underlying t=some .string) : (Op.equalIn (d+1) t (.string a) (.string b)).run P w=.ok (a==b) w:=by
 simp [Op.equalIn,run_underlying hu]
theorem K6 {t : TypeId} {cs : Array Value} {o : Nat} {v : Value} (hu : P.underlying t=some .string) (hv : cs[o]?=some v) : (part t cs o).run P w=.ok v w:=by
 simp [part,isAgg,run_underlying hu,hv]
theorem Zco {d : Nat} {t : TypeId} {f g : Field} {s1 s2 s3 s4 : ByteArray} (hu : P.underlying t = some (.struct #[f, g])) (hf : f.name ≠ "_") (hg : g.name ≠ "_") (of : f.offset = 0) (og : g.offset = 1) (uf : P.underlying f.type = some .string) (ug : P.underlying g.type = some .string) (hs : P.stoodInHeld t = false) :
  (Op.equalIn (d+2) t (.agg #[.string s1,.string s2]) (.agg #[.string s3,.string s4])).run P w=.ok (s1==s3 && s2==s4) w:=by
 have p1:=K6 (P:=P) (w:=w) (cs:=#[.string s1,.string s2]) (o:=0) (v:=.string s1) uf rfl
 have p2:=K6 (P:=P) (w:=w) (cs:=#[.string s3,.string s4]) (o:=0) (v:=.string s3) uf rfl
 have p3:=K6 (P:=P) (w:=w) (cs:=#[.string s1,.string s2]) (o:=1) (v:=.string s2) ug rfl
 have p4:=K6 (P:=P) (w:=w) (cs:=#[.string s3,.string s4]) (o:=1) (v:=.string s4) ug rfl
 have q1:=Zae (P:=P) (w:=w) (d:=d) (a:=s1) (b:=s3) uf
 have q2:=Zae (P:=P) (w:=w) (d:=d) (a:=s2) (b:=s4) ug
 rw [← of] at p1 p2
 rw [← og] at p3 p4
 rw [Op.equalIn.eq_2]
 generalize Op.equalIn (d+1)=E at q1 q2 ⊢
 simp only [Sem.run_bind,run_underlying hu,Result.andThen_ok]
 have hpr : Sem.run P program w=.ok P w:=by simp
 rw [hpr,Result.andThen_ok,if_neg (by rw [hs];decide)]
 simp only [List.forIn_toArray,List.forIn_cons,List.forIn_nil,Sem.run_bind,if_pos hf,if_pos hg,p1,p2,Result.andThen_ok,q1]
 cases s1==s3
 ·simp
 ·simp only [Bool.not_true,Bool.false_eq_true,if_false,Sem.run_pure,Result.andThen_ok,Sem.run_bind,p3,p4,q2]
  cases s2==s4 <;> simp
theorem JA {t : TypeId} {d : TypeDesc} (h : P.underlying t=some d) : ∃ i,P.info? t=some i:=by
 unfold Program.underlying at h
 split at h
 ·exact ⟨_,by assumption⟩
 ·exact ⟨_,by assumption⟩
 ·cases h
theorem Ql {t : TypeId} {i : TypeInfo} (h : P.info? t=some i) : (sizeOf t).run P w=.ok (szT P t) w:=by
 simp [sizeOf,run_typeInfo w h,szT,h]
theorem Za6 : ∀ {k1 k2 : List FK} {x1 x2 y1 y2 : List Value} (hx : x1.length=k1.length) (hy : y1.length=k1.length) {b : Bool} (h : eqF (k1++k2) (x1++x2) (y1++y2)=some b),
  ∃ c,eqF k1 x1 y1=some c∧(c=true→eqF k2 x2 y2=some b)∧(c=false→b=false)
 | [],k2,[],x2,[],y2,_,_,b,h=>⟨true,rfl,fun _=>h,fun h=>by cases h⟩
 | k :: k1,k2,x :: x1,x2,y :: y1,y2,hx,hy,b,h=>by
  have hx' : x1.length=k1.length:=by simpa using hx
  have hy' : y1.length=k1.length:=by simpa using hy
  have key : ∀ {q : Bool},(bif q then eqF (k1++k2) (x1++x2) (y1++y2) else some false)=some b→∃ c,(bif q then eqF k1 x1 y1 else some false)=some c∧(c=true→eqF k2 x2 y2=some b)∧(c=false→b=false):=by
   intro q hq
   cases q
   ·cases hq;exact ⟨false,rfl,fun h=>(by cases h),fun _=>rfl⟩
   ·exact Za6 hx' hy' hq
  simp only [List.cons_append] at h
  cases k <;> cases x <;> first | (simp [eqF] at h;done) | (cases y <;> first | (simp [eqF] at h;done) | skip)
  ·rename_i kd n kd2 n2
   simp only [eqF] at h ⊢
   by_cases hk : kd=kd2
   ·rw [if_pos hk] at h ⊢;exact key h
   ·rw [if_neg hk] at h;cases h
  ·exact key h
  ·exact key h
 | [],_,_ :: _,_,_,_,hx,_,_,_=>by cases hx
 | [],_,[],_,_ :: _,_,_,hy,_,_=>by cases hy
 | _ :: _,_,[],_,_,_,hx,_,_,_=>by cases hx
 | _ :: _,_,_ :: _,_,[],_,_,hy,_,_=>by cases hy
theorem ZdD : ∀ {ks : List FK} {xs ys xs' ys' : List Value} {b : Bool},eqF ks xs ys=some b→RVs ι xs xs'→RVs ι ys ys'→eqF ks xs' ys'=some b
 | [],[],[],xs',ys',b,h,hx,hy=>by rw [hx.nil_inv,hy.nil_inv];exact h
 | k :: ks,x :: xs,y :: ys,xs',ys',b,h,hx,hy=>by
  obtain ⟨p,r,rfl,hp,hr⟩:=hx.cons_inv
  obtain ⟨q,s,rfl,hq,hs⟩:=hy.cons_inv
  have key : ∀ {g : Bool},(bif g then eqF ks xs ys else some false)=some b→(bif g then eqF ks r s else some false)=some b:=by
   intro g hg
   cases g
   ·exact hg
   ·exact ZdD hg hr hs
  cases k <;> cases x <;> first | (simp [eqF] at h;done) | (cases y <;> first | (simp [eqF] at h;done) | skip)
  ·rename_i kd n kd2 n2
   rw [hp.scalar_inv rfl,hq.scalar_inv rfl]
   simp only [eqF] at h ⊢
   by_cases hk : kd=kd2
   ·rw [if_pos hk] at h ⊢;exact key h
   ·rw [if_neg hk] at h;cases h
  ·rw [hp.scalar_inv rfl,hq.scalar_inv rfl];exact key h
  ·rw [hp.scalar_inv rfl,hq.scalar_inv rfl];exact key h
 | [],_ :: _,_,_,_,_,h,_,_=>by simp [eqF] at h
 | [],[],_ :: _,_,_,_,h,_,_=>by simp [eqF] at h
 | k :: _,[],_,_,_,_,h,_,_=>by cases k <;> simp [eqF] at h
 | k :: _,x :: _,[],_,_,_,h,_,_=>by cases k <;> cases x <;> simp [eqF] at h
def JZ (P : Program) (t : TypeId) (xs : List Value) : Value:=match P.underlying t with
 | some (.struct _)=>.agg xs.toArray
 | some (.array _ _)=>.agg xs.toArray
 | _=>xs.headD undef
theorem Kr {d : Nat} {t : TypeId} {ks : List FK} (h : J6 P d t=some ks) (hs : szT P t=ks.length) {xs : List Value} {o : Nat} (hl : o+ks.length≤xs.length) : (part t xs.toArray o).run P w=.ok (JZ P t ((xs.drop o).take ks.length)) w:=by
 cases d with
 | zero=>cases h
 | succ d=>
  have one : ∀ {v : Value},o+1≤xs.length→ks.length=1→((xs.drop o).take ks.length).headD undef=xs.getD o undef∧xs.toArray[o]?=some (xs.getD o undef):=by
   intro v h1 h2
   have ho : o < xs.length:=h1
   constructor
   ·rw [h2]
    rw [List.drop_eq_getElem_cons ho]
    simp only [List.take_succ_cons,List.take_zero,List.headD_cons]
    simp [ho]
   ·simp [ho]
  simp only [J6] at h
  split at h
  ·rename_i k hu
   cases h
   obtain ⟨e1,e2⟩:=one (v:=undef) hl rfl
   simp only [JZ,hu]
   rw [e1]
   simp only [part,isAgg,Sem.run_bind,run_underlying hu,Result.andThen_ok,Sem.run_pure,Bool.false_eq_true,if_false]
   rw [e2];rfl
  ·rename_i hu
   cases h
   obtain ⟨e1,e2⟩:=one (v:=undef) hl rfl
   simp only [JZ,hu]
   rw [e1]
   simp only [part,isAgg,Sem.run_bind,run_underlying hu,Result.andThen_ok,Sem.run_pure,Bool.false_eq_true,if_false]
   rw [e2];rfl
  ·rename_i hu
   cases h
   obtain ⟨e1,e2⟩:=one (v:=undef) hl rfl
   simp only [JZ,hu]
   rw [e1]
   simp only [part,isAgg,Sem.run_bind,run_underlying hu,Result.andThen_ok,Sem.run_pure,Bool.false_eq_true,if_false]
   rw [e2];rfl
  ·rename_i fs hu
   obtain ⟨i,hi⟩:=JA hu
   simp only [JZ,hu]
   simp only [part,isAgg,Sem.run_bind,run_underlying hu,Result.andThen_ok,Sem.run_pure,if_true]
   rw [Ql hi,hs]
   simp only [Result.andThen_ok,Sem.run_pure]
   congr 2
   apply Array.ext'
   simp [List.extract_eq_take_drop]
  ·rename_i n el hu
   obtain ⟨i,hi⟩:=JA hu
   simp only [JZ,hu]
   simp only [part,isAgg,Sem.run_bind,run_underlying hu,Result.andThen_ok,Sem.run_pure,if_true]
   rw [Ql hi,hs]
   simp only [Result.andThen_ok,Sem.run_pure]
   congr 2
   apply Array.ext'
   simp [List.extract_eq_take_drop]
  ·cases h
theorem WC {d dd : Nat} {el : TypeId} {k1 : List FK} (hk : J6 P d el=some k1) (hz : szT P el=k1.length) (IH : ∀ {xs ys : List Value} {b : Bool},xs.length=k1.length→ys.length=k1.length→eqF k1 xs ys=some b→(Op.equalIn dd el (JZ P el xs) (JZ P el ys)).run P w=.ok b w) :
  ∀ (m j : Nat) {xs ys : List Value} {b : Bool},j * k1.length+m * k1.length=xs.length→xs.length=ys.length→eqF (List.replicate m k1).flatten (xs.drop (j * k1.length)) (ys.drop (j * k1.length))=some b→(Op.eqItems dd el k1.length xs.toArray ys.toArray (List.range' j m)).run P w=.ok b w
 | 0,j,xs,ys,b,hl,hl2,hq=>by
  have hxo : xs.drop (j * k1.length)=[]:=List.drop_eq_nil_of_le (by omega)
  have hyo : ys.drop (j * k1.length)=[]:=List.drop_eq_nil_of_le (by omega)
  rw [hxo,hyo] at hq
  cases hq
  simp [Op.eqItems]
 | m+1,j,xs,ys,b,hl,hl2,hq=>by
  have hm : (m+1) * k1.length=m * k1.length+k1.length:=by rw [Nat.add_mul];omega
  have hj : (j+1) * k1.length=j * k1.length+k1.length:=by rw [Nat.add_mul];omega
  have hsx : xs.drop (j * k1.length)=(xs.drop (j * k1.length)).take k1.length++xs.drop (j * k1.length+k1.length):=by
   rw [← List.drop_drop];exact (List.take_append_drop _ _).symm
  have hsy : ys.drop (j * k1.length)=(ys.drop (j * k1.length)).take k1.length++ys.drop (j * k1.length+k1.length):=by
   rw [← List.drop_drop];exact (List.take_append_drop _ _).symm
  rw [hsx,hsy,List.replicate_succ,List.flatten_cons] at hq
  have lx : ((xs.drop (j * k1.length)).take k1.length).length=k1.length:=by simp;omega
  have ly : ((ys.drop (j * k1.length)).take k1.length).length=k1.length:=by simp;omega
  obtain ⟨c,hc1,hc2,hc3⟩:=Za6 lx ly hq
  have p1:=Kr (w:=w) hk hz (xs:=xs) (o:=j * k1.length) (by omega)
  have p2:=Kr (w:=w) hk hz (xs:=ys) (o:=j * k1.length) (by omega)
  have p3:=IH lx ly hc1
  rw [List.range'_succ]
  simp only [Op.eqItems,Sem.run_bind,p1,p2,p3,Result.andThen_ok]
  cases c with
  | false=>
   rw [hc3 rfl]
   simp
  | true=>
   simp only [Bool.not_true,Bool.false_eq_true,if_false]
   exact WC hk hz IH m (j+1) (by omega) hl2 (by rw [hj];exact hc2 rfl)
theorem Ka : ∀ (d : Nat) {t : TypeId} {ks : List FK} (h : J6 P d t=some ks) {e : Nat} {xs ys : List Value} (hx : xs.length=ks.length) (hy : ys.length=ks.length) {b : Bool} (hb : eqF ks xs ys=some b),
  (Op.equalIn (d+e) t (JZ P t xs) (JZ P t ys)).run P w=.ok b w
 | 0,t,ks,h,e,xs,ys,hx,hy,b,hb=>by cases h
 | d+1,t,ks,h,e,xs,ys,hx,hy,b,hb=>by
  rw [show d+1+e=(d+e)+1 by omega]
  simp only [J6] at h
  split at h
  ·rename_i k hu
   cases h
   match xs,ys,hx,hy with
   | [x],[y],_,_=>
    simp only [JZ,hu,List.headD_cons]
    cases x <;> first | (simp [eqF] at hb;done) | (cases y <;> first | (simp [eqF] at hb;done) | skip)
    rename_i k1 n1 _ k2 n2 _
    simp only [eqF] at hb
    split at hb
    ·rename_i hk
     simp only [Op.equalIn,Sem.run_bind,run_underlying hu,Result.andThen_ok,if_pos hk,Sem.run_pure]
     generalize (n1==n2)=q at hb ⊢
     cases q <;> cases hb <;> rfl
    ·cases hb
  ·rename_i hu
   cases h
   match xs,ys,hx,hy with
   | [x],[y],_,_=>
    simp only [JZ,hu,List.headD_cons]
    cases x <;> first | (simp [eqF] at hb;done) | (cases y <;> first | (simp [eqF] at hb;done) | skip)
    rename_i n1 _ n2 _
    simp only [eqF] at hb
    simp only [Op.equalIn,Sem.run_bind,run_underlying hu,Result.andThen_ok,Sem.run_pure]
    generalize (n1==n2)=q at hb ⊢
    cases q <;> cases hb <;> rfl
  ·rename_i hu
   cases h
   match xs,ys,hx,hy with
   | [x],[y],_,_=>
    simp only [JZ,hu,List.headD_cons]
    cases x <;> first | (simp [eqF] at hb;done) | (cases y <;> first | (simp [eqF] at hb;done) | skip)
    rename_i n1 _ n2 _
    simp only [eqF] at hb
    simp only [Op.equalIn,Sem.run_bind,run_underlying hu,Result.andThen_ok,Sem.run_pure]
    generalize (n1==n2)=q at hb ⊢
    cases q <;> cases hb <;> rfl
  ·rename_i fs hu
   cases hsd : P.stoodInHeld t with
   | true=>rw [hsd] at h;cases h
   | false=>
   rw [hsd] at h
   simp only [cond_false] at h
   simp only [JZ,hu]
   rw [Op.equalIn.eq_2]
   simp only [Sem.run_bind,run_underlying hu,Result.andThen_ok]
   have hpr : Sem.run P program w=.ok P w:=by simp
   rw [hpr,Result.andThen_ok,if_neg (by rw [hsd];decide)]
   have loop : ∀ (l : List Field) (o : Nat) {kr : List FK},Za0 P (J6 P d) l o=some kr→o+kr.length=xs.length→eqF kr (xs.drop o) (ys.drop o)=some b→
     (forIn l ((none,()) : Option Bool × Unit) fun f __s=>
        if f.name ≠ "_" then do
         let __do_lift ← part f.type xs.toArray f.offset
         let __do_lift_1 ← part f.type ys.toArray f.offset
         let __do_lift ← Op.equalIn (d+e) f.type __do_lift __do_lift_1
         if (!__do_lift)=true then pure (ForInStep.done (some false,()))
          else pure (ForInStep.yield (none,()))
        else pure (ForInStep.yield (none,())) : Sem (Option Bool × Unit)).run P w=.ok (if b then (none,()) else (some false,())) w:=by
    intro l
    induction l with
    | nil=>
     intro o kr hk hl hq
     cases hk
     have hxo : xs.drop o=[]:=List.drop_eq_nil_of_le (by simp at hl;omega)
     have hyo : ys.drop o=[]:=List.drop_eq_nil_of_le (by simp at hl;omega)
     rw [hxo,hyo] at hq
     cases hq
     simp
    | cons f l ih=>
     intro o kr hk hl hq
     simp only [Za0] at hk
     cases hn : (f.name != "_" && Nat.beq f.offset o) with
     | false=>rw [hn] at hk;cases hk
     | true=>
     rw [hn] at hk
     simp only [cond_true] at hk
     simp only [Bool.and_eq_true,bne_iff_ne,ne_eq] at hn
     obtain ⟨hn1,hn2⟩:=hn
     have hn2:=Nat.eq_of_beq_eq_true hn2
     split at hk
     ·rename_i k1 hk1
      cases hz : Nat.beq (szT P f.type) k1.length with
      | false=>rw [hz] at hk;cases hk
      | true=>
      rw [hz] at hk
      simp only [cond_true,Option.map_eq_some_iff] at hk
      obtain ⟨k2,hk2,rfl⟩:=hk
      have hz:=Nat.eq_of_beq_eq_true hz
      simp only [List.length_append] at hl
      have hsx : xs.drop o=(xs.drop o).take k1.length++xs.drop (o+k1.length):=by
       rw [← List.drop_drop];exact (List.take_append_drop _ _).symm
      have hsy : ys.drop o=(ys.drop o).take k1.length++ys.drop (o+k1.length):=by
       rw [← List.drop_drop];exact (List.take_append_drop _ _).symm
      rw [hsx,hsy] at hq
      have lx : ((xs.drop o).take k1.length).length=k1.length:=by simp;omega
      have ly : ((ys.drop o).take k1.length).length=k1.length:=by simp;omega
      obtain ⟨c,hc1,hc2,hc3⟩:=Za6 lx ly hq
      have p1:=Kr (w:=w) hk1 hz (xs:=xs) (o:=o) (by omega)
      have p2:=Kr (w:=w) hk1 hz (xs:=ys) (o:=o) (by omega)
      have p3:=Ka d hk1 (e:=e) lx ly hc1
      simp only [List.forIn_cons,Sem.run_bind,if_pos hn1,hn2,p1,p2,p3,Result.andThen_ok]
      cases c with
      | false=>
       rw [hc3 rfl]
       simp
      | true=>
       simp only [Bool.not_true,Bool.false_eq_true,if_false,Sem.run_pure,Result.andThen_ok]
       exact ih (o+k1.length) hk2 (by omega) (hc2 rfl)
     ·cases hk
   have hl0 : ∀ {g : TypeId→Option (List FK)},True:=fun {_}=>trivial
   have:=loop fs.toList 0 h (by simp [hx]) (by simpa using hb)
   simp only [Sem.run_bind]
   rw [← Array.forIn_toList]
   rw [this]
   cases b <;> simp
  ·rename_i m el hu
   cases hk : J6 P d el with
   | none=>rw [hk] at h;cases h
   | some k1=>
   rw [hk] at h
   simp only at h
   cases hz : Nat.beq (szT P el) k1.length with
   | false=>rw [hz] at h;cases h
   | true=>
   rw [hz] at h
   have hz:=Nat.eq_of_beq_eq_true hz
   cases h
   have hel : ∃ i,P.info? el=some i:=by
    cases d with
    | zero=>cases hk
    | succ d=>
     simp only [J6] at hk
     split at hk <;> first | exact JA (by assumption) | cases hk
   obtain ⟨i,hi⟩:=hel
   have hlm : (List.replicate m k1).flatten.length=m * k1.length:=by simp
   simp only [JZ,hu]
   rw [run_equalIn_array w (d+e) xs.toArray ys.toArray hu hi,show P.cellsOf el=k1.length from hz,List.range_eq_range']
   refine WC hk hz (fun {xs ys b} h1 h2 h3=>Ka d hk (e:=e) h1 h2 h3) m 0 (by rw [hx,hlm];omega) (by rw [hx,hy]) ?_
   rw [Nat.zero_mul,List.drop_zero,List.drop_zero]
   exact hb
  ·cases h
theorem Zak {op : BinOp} {t : TypeId} {ox oy : Operand} {a b : Array Value} (hq : P.eqGuardType P.depth t=false) : (eqGuard op t ox oy (.agg a) (.agg b)).run P w=.ok () w:=by
 unfold eqGuard
 split <;> simp [hq]
theorem Zbd {t : TypeId} {x y x' y' : Value} {b : Bool} (hx : RV ι x x') (hy : RV ι y y') (h : eqv (tkT P t) x y=some b) :
  (Op.equal t x' y').run P w=.ok b w∧∀ op ox oy,(eqGuard op t ox oy x' y').run P w=.ok () w:=by
 generalize htk : tkT P t=tk at h
 unfold eqv at h
 split at h
 ·rw [hx.bool_inv,hy.bool_inv]
  have hu:=Zbh htk
  cases h
  refine ⟨Je fun d=>by simp [Op.equalIn,run_underlying hu],fun op ox oy=>?_⟩
  unfold eqGuard;split <;> simp
 ·obtain ⟨e,hu⟩:=Zdh htk
  obtain ⟨a',rfl,ha⟩:=hy.ptr_none
  obtain ⟨z,rfl,hz⟩:=hx.ptr_none
  cases z with
  | some _=>simp at hz
  | none=>
  cases h
  refine ⟨Je fun d=>by simp [Op.equalIn,run_underlying hu,ha],fun op ox oy=>?_⟩
  unfold eqGuard;split <;> simp
 ·obtain ⟨e,hu⟩:=Zdh htk
  obtain ⟨a',rfl,ha⟩:=hx.ptr_none
  obtain ⟨z,rfl,hz⟩:=hy.ptr_none
  cases z with
  | some _=>simp at hz
  | none=>
  cases h
  refine ⟨Je fun d=>?_,fun op ox oy=>by unfold eqGuard;split <;> simp⟩
  cases a' <;> simp [Op.equalIn,run_underlying hu,← ha]
 ·obtain ⟨e,hu⟩:=ZdI htk
  obtain ⟨a',c',rfl,ha⟩:=hy.slc_none
  obtain ⟨z,c'',rfl,hz⟩:=hx.slc_none
  cases z with
  | some _=>simp at hz
  | none=>
  cases h
  refine ⟨Je fun d=>by simp [Op.equalIn,run_underlying hu,ha],fun op ox oy=>?_⟩
  unfold eqGuard;split <;> simp
 ·obtain ⟨e,hu⟩:=ZdI htk
  obtain ⟨a',c',rfl,ha⟩:=hx.slc_none
  obtain ⟨z,c'',rfl,hz⟩:=hy.slc_none
  cases z with
  | some _=>simp at hz
  | none=>
  cases h
  refine ⟨Je fun d=>?_,fun op ox oy=>by unfold eqGuard;split <;> simp⟩
  cases a' <;> simp [Op.equalIn,run_underlying hu,← ha]
 ·obtain ⟨k,e,hu⟩:=ZdA htk
  obtain ⟨a',rfl,ha⟩:=hy.map_none
  obtain ⟨z,rfl,hz⟩:=hx.map_none
  cases z with
  | some _=>simp at hz
  | none=>
  cases h
  refine ⟨Je fun d=>by simp [Op.equalIn,run_underlying hu,ha],fun op ox oy=>?_⟩
  unfold eqGuard;split <;> simp
 ·obtain ⟨k,e,hu⟩:=ZdA htk
  obtain ⟨a',rfl,ha⟩:=hx.map_none
  obtain ⟨z,rfl,hz⟩:=hy.map_none
  cases z with
  | some _=>simp at hz
  | none=>
  cases h
  refine ⟨Je fun d=>?_,fun op ox oy=>by unfold eqGuard;split <;> simp⟩
  cases a' <;> simp [Op.equalIn,run_underlying hu,← ha]
 ·obtain ⟨a,b,c,hu⟩:=ZcX htk
  rw [hx.scalar_inv rfl,hy.scalar_inv rfl]
  cases h
  refine ⟨Je fun d=>by simp [Op.equalIn,run_underlying hu],fun op ox oy=>by unfold eqGuard;split <;> simp⟩
 ·obtain ⟨a,b,c,hu⟩:=ZcX htk
  obtain ⟨_,_,_,rfl⟩:=hy.fn_any
  rw [hx.scalar_inv rfl]
  cases h
  refine ⟨Je fun d=>by simp [Op.equalIn,run_underlying hu],fun op ox oy=>by unfold eqGuard;split <;> simp⟩
 ·obtain ⟨a,b,c,hu⟩:=ZcX htk
  obtain ⟨_,_,_,rfl⟩:=hx.fn_any
  rw [hy.scalar_inv rfl]
  cases h
  refine ⟨Je fun d=>by simp [Op.equalIn,run_underlying hu],fun op ox oy=>by unfold eqGuard;split <;> simp⟩
 ·obtain ⟨a,hu⟩:=Zdj htk
  obtain ⟨_,rfl,_⟩:=hy.ifc_inv
  rw [hx.scalar_inv rfl]
  cases h
  refine ⟨Je fun d=>by simp [Op.equalIn,run_underlying hu],fun op ox oy=>by unfold eqGuard;split <;> simp⟩
 ·obtain ⟨a,hu⟩:=Zdj htk
  obtain ⟨_,rfl,_⟩:=hx.ifc_inv
  rw [hy.scalar_inv rfl]
  cases h
  refine ⟨Je fun d=>by simp [Op.equalIn,run_underlying hu],fun op ox oy=>by unfold eqGuard;split <;> simp⟩
 ·rename_i xs ys
  obtain ⟨f,g,hu,hf,hg,of,og,uf,ug,hs,hq⟩:=Zfb htk
  obtain ⟨a',rfl,ha⟩:=hx.agg_inv
  obtain ⟨b',rfl,hb⟩:=hy.agg_inv
  unfold eq2 at h
  split at h
  ·rename_i s1 s2 s3 s4 h1 h2
   cases h
   rw [h1] at ha
   rw [h2] at hb
   have e1 : a'.toList=[.string s1,.string s2]:=by
    obtain ⟨p,r,e,hp,hr⟩:=ha.cons_inv
    obtain ⟨p2,r2,e2,hp2,hr2⟩:=hr.cons_inv
    have:=hr2.nil_inv;subst this
    rw [e,e2,hp.scalar_inv rfl,hp2.scalar_inv rfl]
   have e2 : b'.toList=[.string s3,.string s4]:=by
    obtain ⟨p,r,e,hp,hr⟩:=hb.cons_inv
    obtain ⟨p2,r2,e2,hp2,hr2⟩:=hr.cons_inv
    have:=hr2.nil_inv;subst this
    rw [e,e2,hp.scalar_inv rfl,hp2.scalar_inv rfl]
   have e1 : a'=#[.string s1,.string s2]:=by apply Array.ext';exact e1
   have e2 : b'=#[.string s3,.string s4]:=by apply Array.ext';exact e2
   subst e1
   subst e2
   exact ⟨ZdC fun d=>Zco hu hf hg of og uf ug hs,fun op ox oy=>Zak hq⟩
  ·cases h
 ·rename_i ks xs ys
  obtain ⟨hq,hl,hu⟩:=ZeZ htk
  obtain ⟨a',rfl,ha⟩:=hx.agg_inv
  obtain ⟨b',rfl,hb⟩:=hy.agg_inv
  cases hz : (Nat.beq xs.size ks.length && Nat.beq ys.size ks.length) with
  | false=>rw [hz] at h;cases h
  | true=>
  rw [hz] at h
  simp only [cond_true] at h
  simp only [Bool.and_eq_true] at hz
  have h1:=Nat.eq_of_beq_eq_true hz.1
  have h2:=Nat.eq_of_beq_eq_true hz.2
  have h3:=Ka (w:=w) 5 hl (e:=9995) (xs:=a'.toList) (ys:=b'.toList) (by rw [← ha.1];simpa using h1) (by rw [← hb.1];simpa using h2) (ZdD h ha hb)
  have hv : ∀ l : List Value,JZ P t l=.agg l.toArray:=fun l=>by
   rcases hu with ⟨fs,hu⟩ | ⟨m,el,hu⟩ <;> simp only [JZ,hu]
  rw [hv,hv] at h3
  exact ⟨h3,fun op ox oy=>Zak hq⟩
 ·cases h
theorem Zbo {t : TypeId} {x y x' y' : Value} {b : Bool} (hx : RV ι x x') (hy : RV ι y y') (h : eqv (tkT P t) x y=some b) :
  (binOp .eql t x' y').run P w=.ok (.bool b) w∧(binOp .neq t x' y').run P w=.ok (.bool !b) w:=by
 have he:=(Zbd (P:=P) (w:=w) hx hy h).1
 have hs : (∀ k n,x'≠.int k n)∧(∀ k n,x'≠.float k n)∧(∀ k n m,x'≠.complex k n m)∧(∀ s,x'≠.string s):=by
  generalize tkT P t=tk at h
  unfold eqv at h
  split at h <;> (try (cases h;done)) <;> refine ⟨?_,?_,?_,?_⟩ <;> intros <;> rintro rfl <;> cases hx
 obtain ⟨h1,h2,h3,h4⟩:=hs
 constructor
 ·unfold binOp
  split <;> first | (exfalso;first | exact h1 _ _ rfl | exact h2 _ _ rfl | exact h3 _ _ _ rfl | exact h4 _ rfl) | (simp_all;done) | skip
 ·unfold binOp
  split <;> first | (exfalso;first | exact h1 _ _ rfl | exact h2 _ _ rfl | exact h3 _ _ _ rfl | exact h4 _ rfl) | (simp_all;done) | skip
theorem ZeC (hS : Sim G w0 ι H w) {op : BinOp} {t : TypeId} {x y x' y' : Value} {ox oy : Operand} (hx : RV ι x x') (hy : RV ι y y')
  (h : bop (tkT P t) op x y H=some (v,H1)) : Res G w0 ι v H1 ((do eqGuard op t ox oy x' y';binOp op t x' y').run P w):=by
 unfold bop at h
 split at h
 ·rw [hx.int_inv,hy.int_inv]
  simp only [Option.map_eq_some_iff,Prod.mk.injEq] at h
  obtain ⟨u,hu,rfl,rfl⟩:=h
  obtain ⟨h1,h2⟩:=ZaF (P:=P) (w:=w) (t:=t) (.inl rfl) hu
  exact .sc hS h1 (by rw [Sem.run_bind,Ky];simpa using h2)
 ·rw [hx.int_inv,hy.int_inv]
  simp only [Option.map_eq_some_iff,Prod.mk.injEq] at h
  obtain ⟨u,hu,rfl,rfl⟩:=h
  obtain ⟨h1,h2⟩:=ZaF (P:=P) (w:=w) (t:=t) (.inr rfl) hu
  exact .sc hS h1 (by rw [Sem.run_bind,Ky];simpa using h2)
 ·rw [hx.int_inv,hy.int_inv]
  rename_i k a k' b _ _
  by_cases hk : k=k'
  ·subst hk
   simp only [decide_true,cond_true,Option.map_eq_some_iff,Prod.mk.injEq] at h
   obtain ⟨u,hu,rfl,rfl⟩:=h
   obtain ⟨h1,h2⟩:=Zdf (P:=P) (w:=w) (t:=t) hu
   exact .sc hS h1 (by rw [Sem.run_bind,Ky];simpa using h2)
  ·simp [hk] at h
 ·rw [hx.string_inv,hy.string_inv]
  simp only [Option.map_eq_some_iff,Prod.mk.injEq] at h
  obtain ⟨u,hu,rfl,rfl⟩:=h
  obtain ⟨h1,h2⟩:=ZeL (P:=P) (w:=w) (t:=t) hu
  exact .sc hS h1 (by rw [Sem.run_bind,Zbc];simpa using h2)
 ·simp only [Option.map_eq_some_iff,Prod.mk.injEq] at h
  obtain ⟨u,hu,rfl,rfl⟩:=h
  exact .sc hS rfl (by rw [Sem.run_bind,(Zbd hx hy hu).2];simpa using (Zbo hx hy hu).1)
 ·simp only [Option.map_eq_some_iff,Prod.mk.injEq] at h
  obtain ⟨u,hu,rfl,rfl⟩:=h
  exact .sc hS rfl (by rw [Sem.run_bind,(Zbd hx hy hu).2];simpa using (Zbo hx hy hu).2)
 ·cases h
theorem Zez (hS : Sim G w0 ι H w) {op : UnOp} {x x' : Value} (hx : RV ι x x') (h : uop op x H=some (v,H1)) :
  Res G w0 ι v H1 ((Op.unary op x').run P w):=by
 unfold uop at h
 split at h
 ·rw [hx.int_inv];cases h;exact .sc hS rfl (by simp [Op.unary,Op.intArith])
 ·rw [hx.int_inv]
  simp only [Option.map_eq_some_iff,Prod.mk.injEq,Q0,Option.some.injEq] at h
  obtain ⟨u,rfl,rfl,rfl⟩:=h
  exact .sc hS rfl (by simp [Op.unary,Op.intBits])
 ·rw [hx.bool_inv];cases h;exact .sc hS rfl (by simp [Op.unary])
 ·cases h
theorem Zes (hS : Sim G w0 ι H w) {k k' : IntKind} {s d : TypeId} {x x' : Value} (hs : P.underlying s=some (.int k')) (hd : P.underlying d=some (.int k))
  (hx : RV ι x x') (h : cvi k x H=some (v,H1)) : Res G w0 ι v H1 ((convert s d x').run P w):=by
 unfold cvi at h
 split at h
 ·rw [hx.int_inv];cases h
  exact .sc hS rfl (by simp [convert,run_underlying hs,run_underlying hd,Conv.intToInt])
 ·cases h
theorem ZeK (hS : Sim G w0 ι H w) {s d : TypeId} {x x' : Value} (hs : P.underlying s=some .string) (hd : P.underlying d=some .string)
  (hx : RV ι x x') (h : cvs x H=some (v,H1)) : Res G w0 ι v H1 ((convert s d x').run P w):=by
 unfold cvs at h
 split at h
 ·rw [hx.string_inv];cases h
  exact .sc hS rfl (by simp [convert,run_underlying hs,run_underlying hd])
 ·cases h
theorem Zek (hS : Sim G w0 ι H w) {c a b c' a' b' : Value} (hc : RV ι c c') (ha : RV ι a a') (hb : RV ι b b') (h : pick c a b H=some (v,H1)) :
  Res G w0 ι v H1 ((do pure (if ← asBool c' then a' else b')).run P w):=by
 unfold pick at h
 split at h
 ·rename_i t
  rw [hc.bool_inv];cases h
  cases t
  ·exact .same hS hb (by simp [asBool])
  ·exact .same hS ha (by simp [asBool])
 ·cases h
theorem ZdP (hS : Sim G w0 ι H w) {t t' : Value} {i : Nat} (ht : RV ι t t') (h : Jp t i H=some (v,H1)) :
  Res G w0 ι v H1 ((Instr.extract t' i).run P w):=by
 unfold Jp at h
 split at h
 ·rename_i vs
  cases hs1 : Nat.beq vs.size 1 with
  | true=>
   rw [hs1] at h
   simp only [cond_true] at h
   split at h
   ·rename_i b hvs
    cases h
    have e1 : vs=#[.bool b]:=by apply Array.ext';exact hvs
    subst e1
    cases ht with
    | sc h=>simp [Zy] at h
    | tup h1 h2=>
     rename_i a'
     have h3:=h2 0 (by simp)
     have h4 : 0 < a'.size:=by rw [← h1];simp
     have h5 : a'.getD 0 undef=.bool b:=by
      have h6 : RV ι (.bool b) (a'.getD 0 undef):=h3
      exact h6.bool_inv
     exact .same hS (.sc rfl) (by
      have h7 : a'[0]?=some (.bool b):=by
       rw [Array.getElem?_eq_getElem h4]
       simpa [h4] using h5
      simp [Instr.extract,h7])
   ·cases h
  | false=>
  rw [hs1] at h
  simp only [cond_false,Option.map_eq_some_iff,Prod.mk.injEq] at h
  obtain ⟨u,hu,rfl,rfl⟩:=h
  cases ht with
  | sc h=>simp [Zy] at h
  | nw=>cases hs1
  | un=>simp at hu
  | tup h1 h2=>
   rename_i a'
   have hi : i < vs.size:=by
    rcases Nat.lt_or_ge i vs.size with h | h
    ·exact h
    ·rw [Array.getElem?_eq_none h] at hu;cases hu
   have h3:=h2 i hi
   have hi' : i < a'.size:=h1 ▸ hi
   have e1 : vs.getD i undef=u:=by
    rw [Array.getElem?_eq_getElem hi] at hu;cases hu;simp [hi]
   rw [e1] at h3
   exact .same hS h3 (by simp [Instr.extract,hi'])
 ·cases h
theorem ZdZ (hS : Sim G w0 ι H w) {t e : TypeId} {x x' : Value} (ht : P.underlying t=some (.slice e)) (hx : RV ι x x') (h : KA x H=some (v,H1)) (ty : TypeId) :
  Res G w0 ι v H1 ((Builtin.len_ #[t] ty #[x']).run P w):=by
 unfold KA at h
 split at h
 ·obtain ⟨a',c',rfl,_⟩:=hx.slc_none
  cases h
  exact .sc hS rfl (by simp [Builtin.len_,run_underlying ht,goInt])
 ·cases h
theorem Zd7 (hS : Sim G w0 ι H w) {t : TypeId} {x x' : Value} (ht : P.underlying t=some .string) (hx : RV ι x x') (h : Zbf x H=some (v,H1)) (ty : TypeId) :
  Res G w0 ι v H1 ((Builtin.len_ #[t] ty #[x']).run P w):=by
 unfold Zbf at h
 split at h
 ·rw [hx.string_inv]
  cases h
  exact .sc hS rfl (by simp [Builtin.len_,run_underlying ht,goInt])
 ·cases h
end
end Go.Proofs.Ytfefblgkfdaekaa.A
namespace Go.Proofs.Ytfefblgkfdaekaa.A
set_option linter.unusedVariables false
set_option linter.unusedSimpArgs false
section
variable {P : Program} {G : Nat} {w0 : Zg} {ι : Nat→Option Loc} {H H1 : Zb} {w : World} {v : Value}
theorem ZaJ {cs : Array Value} (h : cs.all Zy=true) (i : Nat) (hi : i < cs.size) : RV ι (cs.getD i undef) (cs.getD i undef):=by
 have h1 : ∀ v∈cs.toList,Zy v=true:=by
  rw [← Array.all_toList] at h
  exact List.all_eq_true.1 h
 have h2 : cs.getD i undef=cs[i]:=by simp [hi]
 rw [h2]
 exact .sc (h1 _ (by simp))
theorem RV.const {v : Value} (h : Y5 v=true) : RV ι v v:=by
 cases v <;> first
  | exact .sc h
  | exact .agg rfl (ZaJ h)
  | exact .tup rfl (ZaJ h)
theorem ZaA {t : TypeId} (h : JH P t=some true) : ∃ i,P.info? t=some i∧∀ w,(isAgg t).run P w=.ok true w:=by
 unfold JH at h
 split at h
 ·rename_i hu
  obtain ⟨i,hi⟩:=JA hu
  exact ⟨i,hi,fun w=>by simp [isAgg,run_underlying hu]⟩
 ·rename_i hu
  obtain ⟨i,hi⟩:=JA hu
  exact ⟨i,hi,fun w=>by simp [isAgg,run_underlying hu]⟩
 ·cases h
 ·cases h
theorem Kn {t : TypeId} (h : JH P t=some false) : ∃ i,P.info? t=some i∧∀ w,(isAgg t).run P w=.ok false w:=by
 unfold JH at h
 split at h
 ·cases h
 ·cases h
 ·rename_i d h1 h2 hu
  obtain ⟨i,hi⟩:=JA hu
  refine ⟨i,hi,fun w=>?_⟩
  simp only [isAgg,Sem.run_bind,run_underlying hu,Result.andThen_ok]
  rfl
 ·cases h
theorem Sim.cellsR (h : Sim G w0 ι H w) {id : Nat} {cs : List Value} {es : Nat} {g ro : Bool} {l : Loc} (hid : H[id]?=some (.cells cs es g ro)) (hl : ι id=some l) :
  ∃ c el fr,l.es=es∧l.grow=g∧w.heap[l.blk]?=some (.cells c el fr)∧l.base+cs.length≤l.tot∧l.tot≤c.size∧
   RVs ι cs ((c.toList.drop l.base).take cs.length)∧(ro=false→w0.heap.size≤l.blk∧Zay l.tot fr∧(l.grow=false→l.base=0))∧(∀ v∈cs,oneCell v=true):=by
 obtain ⟨l',c,el,fr,h1,h2,h3,h4,h5,h6,h7,h8,_,h9⟩:=h.obj id _ hid
 rw [hl] at h1;cases h1
 exact ⟨c,el,fr,h2,h3,h4,h5,h6,h7,h8,h9⟩
theorem YX {b o : Nat} {c : Array Value} {el : TypeId} {fr : Nat × Nat} (h : w.heap[b]?=some (.cells c el fr)) : w.cell? ⟨b,o,none⟩=c[o]?:=by
 simp [World.cell?,h]
theorem RVs.at {cs : List Value} {c : Array Value} {base o : Nat} (h : RVs ι cs ((c.toList.drop base).take cs.length)) (ho : o < cs.length) :
  ∃ v',c[base+o]?=some v'∧RV ι (cs.getD o undef) v':=by
 have h1:=h.1
 have h2:=h.2 o ho
 simp only [List.length_take,List.length_drop,Array.length_toList] at h1
 have hlt : base+o < c.size:=by omega
 refine ⟨c[base+o],Array.getElem?_eq_getElem hlt,?_⟩
 simpa [List.getD_eq_getElem?_getD,List.getElem?_take,ho,List.getElem?_drop,hlt] using h2
theorem WK (hS : Sim G w0 ι H w) {t : TypeId} {x x' : Value} (ht : JH P t=some false) (hx : RV ι x x') (h : ld1 x H=some (v,H1)) :
  H1=H∧∃ a v',x'=.pointer (some a)∧RV ι v v'∧(loadVar t a).run P w=.ok v' w:=by
 unfold ld1 at h
 split at h
 ·split at h
  ·rename_i id o _ cs es g ro hid
   simp only [Option.map_eq_some_iff,Prod.mk.injEq] at h
   obtain ⟨u,hu,rfl,rfl⟩:=h
   obtain ⟨l,hl,rfl⟩:=hx.ptr_inv
   obtain ⟨c,el,fr,_,_,hb,_,_,hr,_⟩:=hS.cellsR hid hl
   obtain ⟨i,hi,hagg⟩:=Kn ht
   have ho : o < cs.length:=by
    rcases Nat.lt_or_ge o cs.length with h | h
    ·exact h
    ·rw [List.getElem?_eq_none h] at hu;cases hu
   obtain ⟨u',hu',hru⟩:=hr.at ho
   have : cs.getD o undef=u:=by simp [List.getD_eq_getElem?_getD,hu]
   rw [this] at hru
   exact ⟨rfl,_,_,rfl,hru,by simp [loadVar,hagg,YX hb,hu']⟩
  ·rename_i id o _ cs es nx hid
   split at h
   ·rename_i ds es2 g2 hnx
    cases hh : YR cs ds with
    | false=>rw [hh] at h;cases h
    | true=>
     rw [hh] at h
     simp only [cond_true,Option.map_eq_some_iff,Prod.mk.injEq] at h
     obtain ⟨u,hu,rfl,rfl⟩:=h
     obtain ⟨l,hl,rfl⟩:=hx.ptr_inv
     obtain ⟨i,hi,hagg⟩:=Kn ht
     have ho : o < cs.length:=by
      rcases Nat.lt_or_ge o cs.length with h | h
      ·exact h
      ·rw [List.getElem?_eq_none h] at hu;cases hu
     rcases hS.views id cs es nx l hid hl with ⟨l',k1,k2,k3⟩ | ⟨⟨c,el,fr,hb,_,hr⟩,_⟩
     ·obtain ⟨c,el,fr,_,_,hb,_,_,hr,_⟩:=hS.cellsR hnx k1
      have hd:=K4 hh hu
      have ho2 : o < ds.length:=by
       rcases Nat.lt_or_ge o ds.length with h | h
       ·exact h
       ·rw [List.getElem?_eq_none h] at hd;cases hd
      obtain ⟨u',hu',hru⟩:=hr.at ho2
      have : ds.getD o undef=u:=by simp [List.getD_eq_getElem?_getD,hd]
      rw [this] at hru
      rw [k2] at hb
      rw [k3] at hu'
      exact ⟨rfl,_,_,rfl,hru,by simp [loadVar,hagg,YX hb,hu']⟩
     ·obtain ⟨u',hu',hru⟩:=hr.at ho
      have : cs.getD o undef=u:=by simp [List.getD_eq_getElem?_getD,hu]
      rw [this] at hru
      exact ⟨rfl,_,_,rfl,hru,by simp [loadVar,hagg,YX hb,hu']⟩
   ·cases h
  ·cases h
 ·cases h
theorem ZdB (hS : Sim G w0 ι H w) {t : TypeId} {x x' : Value} (ht : JH P t=some false) (hx : RV ι x x') (h : ld1 x H=some (v,H1)) :
  Res G w0 ι v H1 ((Instr.loadAt t x').run P w):=by
 obtain ⟨rfl,a,v',rfl,hv,hr⟩:=WK (P:=P) hS ht hx h
 exact .same hS hv (by simp only [Instr.loadAt,Instr.sureAddr,Sem.run_bind,Sem.run_pure,Result.andThen_ok,hr])
theorem K1 {cs : List Value} {c : Array Value} {base o n : Nat} (h : RVs ι cs ((c.toList.drop base).take cs.length)) (ho : o+n≤cs.length)
  (hb : base+cs.length≤c.size) : RVs ι ((cs.drop o).take n) ((c.toList.drop (base+o)).take n)∧base+o+n≤c.size:=by
 have h2:=(h.drop o).take n
 rw [List.drop_take,List.drop_drop,List.take_take,Nat.min_eq_left (by omega)] at h2
 exact ⟨h2,by omega⟩
theorem Wo {b o n : Nat} {c : Array Value} {el : TypeId} {fr : Nat × Nat} (h : w.heap[b]?=some (.cells c el fr)) (hn : o+n≤c.size) :
  (loadCells ⟨b,o,none⟩ n).run P w=.ok ((c.toList.drop o).take n).toArray w:=by
 have hlen : ((c.toList.drop o).take n).length=n:=by simp;omega
 have:=run_loadCells_list (P:=P) w ⟨b,o,none⟩ ((c.toList.drop o).take n) (fun j v hj=>by
  have hadd : Addr.add ⟨b,o,none⟩ j=⟨b,o+j,none⟩:=by
   unfold Addr.add;split
   ·rename_i h0;subst h0;rfl
   ·rfl
  rw [hadd,YX h]
  rw [List.getElem?_take] at hj
  split at hj
  ·rw [List.getElem?_drop] at hj
   simpa using hj
  ·cases hj)
 rwa [hlen] at this
theorem Za8 (hS : Sim G w0 ι H w) {t : TypeId} {x x' : Value} (ht : JH P t=some true) (hx : RV ι x x') (h : ldA (szT P t) x H=some (v,H1)) :
  H1=H∧∃ a v',x'=.pointer (some a)∧RV ι v v'∧(loadVar t a).run P w=.ok v' w:=by
 unfold ldA at h
 split at h
 ·split at h
  ·rename_i id o _ cs es g ro hid
   split at h
   ·rename_i hle
    cases h
    obtain ⟨l,hl,rfl⟩:=hx.ptr_inv
    obtain ⟨c,el,fr,_,_,hb,h5,h6,hr,_⟩:=hS.cellsR hid hl
    obtain ⟨i,hi,hagg⟩:=ZaA ht
    obtain ⟨h1,h2⟩:=K1 hr hle (by omega)
    refine ⟨rfl,_,_,rfl,.aggL h1,?_⟩
    simp only [loadVar,Sem.run_bind,Sem.run_pure,Result.andThen_ok,hagg,if_true,Ql hi,Wo hb h2]
   ·cases h
  ·cases h
 ·cases h
theorem ZeU (hS : Sim G w0 ι H w) {t : TypeId} {x x' : Value} (ht : JH P t=some true) (hx : RV ι x x') (h : ldA (szT P t) x H=some (v,H1)) :
  Res G w0 ι v H1 ((Instr.loadAt t x').run P w):=by
 obtain ⟨rfl,a,v',rfl,hv,hr⟩:=Za8 (P:=P) hS ht hx h
 exact .same hS hv (by simp only [Instr.loadAt,Instr.sureAddr,Sem.run_bind,Sem.run_pure,Result.andThen_ok,hr])
theorem ZaW {b o : Nat} {c : Array Value} {el : TypeId} {fr : Nat × Nat} {u : Value} (h : w.heap[b]?=some (.cells c el fr)) :
  w.setCell ⟨b,o,none⟩ u=QP w b (.cells (c.setIfInBounds o u) el fr):=by
 have hb : b < w.heap.size:=by
  rcases Nat.lt_or_ge b w.heap.size with h1 | h1
  ·exact h1
  ·rw [Array.getElem?_eq_none h1] at h;cases h
 have hg : w.heap[b]=.cells c el fr:=by
  rw [Array.getElem?_eq_getElem hb] at h;simpa using h
 unfold World.setCell QP
 congr 1
 apply Array.ext
 ·simp
 ·intro i h1 h2
  simp only [Array.getElem_modify]
  by_cases e : b=i
  ·subst e;simp [hg]
  ·simp only [if_neg e];rw [Array.getElem_setIfInBounds_ne (by simpa using h2) e]
theorem Zdg {b : Nat} {o o' : Obj} : QP (QP w b o) b o'=QP w b o':=by
 unfold QP;simp
theorem Zbs {b : Nat} {o : Obj} (h : w.heap[b]?=some o) : QP w b o=w:=by
 unfold QP
 have : w.heap.setIfInBounds b o=w.heap:=by
  apply Array.ext
  ·simp
  ·intro i h1 h2
   rw [Array.getElem_setIfInBounds]
   split
   ·rename_i e;subst e;rw [Array.getElem?_eq_getElem h2] at h;simpa using h.symm
   ·rfl
 rw [this]
def JN (c : Array Value) (new : List Value) (o : Nat) : Array Value:=(splice c.toList new o).toArray
theorem Jw {cs new : List Value} {o : Nat} (h : o+new.length≤cs.length) : (splice cs new o).length=cs.length:=by
 unfold splice;simp;omega
theorem Zbq {c : Array Value} {new : List Value} {o : Nat} (h : o+new.length≤c.size) : (JN c new o).size=c.size:=by
 unfold JN;simp [Jw (cs:=c.toList) (by simpa using h)]
theorem Kz {cs new : List Value} {u : Value} {o : Nat} (h : o < cs.length) : splice (cs.set o u) new (o+1)=splice cs (u :: new) o:=by
 unfold splice
 have h1 : (cs.set o u).take (o+1)=cs.take o++[u]:=by
  rw [List.take_add_one,List.take_set_of_le (Nat.le_refl o)]
  simp [h]
 have h2 : (cs.set o u).drop (o+1+new.length)=cs.drop (o+(u :: new).length):=by
  rw [List.drop_set_of_lt (by omega)]
  congr 1;simp;omega
 rw [h1,h2];simp
theorem KU {cs : List Value} {o : Nat} : splice cs [] o=cs:=by
 unfold splice;simp
theorem K2 {b : Nat} {el : TypeId} {fr : Nat × Nat} : ∀ (vs : List Value) (i o : Nat) (c : Array Value) (w : World),w.heap[b]?=some (.cells c el fr)→
  o+i+vs.length≤c.size→(∀ v∈vs,v.oneCell'=true)→(∀ j,o+i≤j→j < o+i+vs.length→¬ (fr.1≤j∧j < fr.2))→
  (storeCells ⟨b,o,none⟩ vs i).run P w=.ok () (QP w b (.cells (JN c vs (o+i)) el fr)):=by
 intro vs
 induction vs with
 | nil=>
  intro i o c w h _ _ _
  simp only [storeCells,Sem.run_pure]
  rw [show JN c [] (o+i)=c by simp [JN,KU],Zbs h]
 | cons v vs ih=>
  intro i o c w h hle h1 hf
  have hadd : Addr.add ⟨b,o,none⟩ i=⟨b,o+i,none⟩:=by
   unfold Addr.add;split
   ·rename_i h0;subst h0;rfl
   ·rfl
  have hv:=h1 v (by simp)
  have hlt : o+i < c.size:=by simp at hle;omega
  have hfz : w.frozen? ⟨b,o+i,none⟩=false:=by
   have:=hf (o+i) (Nat.le_refl _) (by simp)
   simp only [World.frozen?,h]
   simp only [Bool.and_eq_false_iff,decide_eq_false_iff_not]
   omega
  have hb : b < w.heap.size:=by
   rcases Nat.lt_or_ge b w.heap.size with h1 | h1
   ·exact h1
   ·rw [Array.getElem?_eq_none h1] at h;cases h
  simp only [storeCells,Sem.run_bind,hadd]
  rw [run_store P w _ v _ hv,YX h,Array.getElem?_eq_getElem hlt]
  simp only [hfz,Bool.false_eq_true,if_false,Result.andThen_ok]
  rw [ZaW h]
  have h2:=ih (i+1) o (c.setIfInBounds (o+i) v) (QP w b (.cells (c.setIfInBounds (o+i) v) el fr)) (YO hb) (by simp at hle ⊢;omega)
   (fun u hu=>h1 u (by simp [hu])) (fun j hj1 hj2=>hf j (by omega) (by simp;omega))
  rw [h2,Zdg]
  congr 3
  unfold JN
  rw [show (c.setIfInBounds (o+i) v).toList=c.toList.set (o+i) v by simp,show o+(i+1)=o+i+1 by omega,Kz (by simpa using hlt)]
theorem RVs.splice {cs new : List Value} {c new' : List Value} (h : RVs ι cs c) (hn : RVs ι new new') {o : Nat} :
  RVs ι (A.splice cs new o) (A.splice c new' o):=by
 unfold A.splice
 refine RVs.append (RVs.append (h.take o) hn) ?_
 rw [← hn.1];exact h.drop _
theorem Zc5 {pre m new : List Value} {o : Nat} : splice (pre++m) new (pre.length+o)=pre++splice m new o:=by
 unfold A.splice
 simp only [List.take_append,List.drop_append,Nat.add_assoc]
 rw [List.take_of_length_le (by omega),List.drop_eq_nil_of_le (by omega)]
 simp
theorem Zct {m post new : List Value} {o : Nat} (h : o+new.length≤m.length) : splice (m++post) new o=splice m new o++post:=by
 unfold A.splice
 rw [List.take_append_of_le_length (by omega),List.drop_append_of_le_length h]
 simp
theorem Y6 {c new : List Value} {base o n : Nat} (h : o+new.length≤n) (hn : base+n≤c.length) :
  ((splice c new (base+o)).drop base).take n=splice ((c.drop base).take n) new o:=by
 have hc : c=c.take base++((c.drop base).take n++(c.drop base).drop n):=by rw [List.take_append_drop,List.take_append_drop]
 have hp : (c.take base).length=base:=by simp;omega
 have hm : ((c.drop base).take n).length=n:=by simp;omega
 generalize c.take base=pre at hc hp
 generalize (c.drop base).drop n=post at hc
 generalize hmid : (c.drop base).take n=mid at hc hm
 subst hc
 rw [← hp,Zc5,Zct (by omega),List.drop_left,List.take_append_of_le_length (by rw [Jw (by omega)];omega),List.take_of_length_le (by rw [Jw (by omega)];omega)]
theorem Sim.store (hS : Sim G w0 ι H w) {id o : Nat} {cs : List Value} {es : Nat} {g : Bool} {l : Loc} {new new' : List Value}
  (hid : H[id]?=some (.cells cs es g false)) (hl : ι id=some l) (ho : o+new.length≤cs.length) (hn : RVs ι new new') (h1 : ∀ v∈new,oneCell v=true) :
  ∃ w1,(storeCells ⟨l.blk,l.base+o,none⟩ new').run P w=.ok () w1∧Sim G w0 ι (H.set id (.cells (splice cs new o) es g false)) w1:=by
 obtain ⟨c,el,fr,h2,h3,hb,h5,h6,hr,h7,h8⟩:=hS.cellsR hid hl
 have hlen:=hn.1
 have h1' : ∀ v∈new',v.oneCell'=true:=by
  intro u hu
  obtain ⟨i,hi,rfl⟩:=List.getElem_of_mem hu
  have hi' : i < new.length:=by omega
  have:=hn.2 i hi'
  simp only [List.getD_eq_getElem?_getD,List.getElem?_eq_getElem hi,List.getElem?_eq_getElem hi',Option.getD_some] at this
  exact this.oneCell (h1 _ (List.getElem_mem hi'))
 refine ⟨_,K2 new' 0 (l.base+o) c w hb (by omega) h1' (fun j hj1 hj2=>(h7 rfl).2.1.not (by omega)),?_⟩
 refine hS.set hid rfl hl rfl fun w' hw'=>⟨l,_,el,fr,hl,h2,h3,hw',?_,?_,?_,h7,by simp,?_⟩
 ·rw [Jw ho];exact h5
 ·rw [Zbq (by omega)];exact h6
 ·rw [Jw ho]
  simp only [JN,Nat.add_zero]
  rw [Y6 (by omega) (by have:=hr.1;simp at this ⊢;omega)]
  exact hr.splice hn
 ·intro u hu
  unfold A.splice at hu
  simp only [List.mem_append] at hu
  rcases hu with (hu | hu) | hu
  ·exact h8 u (List.mem_of_mem_take hu)
  ·exact h1 u hu
  ·exact h8 u (List.mem_of_mem_drop hu)
theorem KW {cs : List Value} {u : Value} {o : Nat} (h : o < cs.length) : splice cs [u] o=cs.set o u:=by
 rw [← Kz h,KU]
theorem ZdL (hS : Sim G w0 ι H w) {t : TypeId} {x x' u u' : Value} (ht : JH P t=some false) (hsz : szT P t=1) (hx : RV ι x x') (hu : RV ι u u')
  (h : st1 x u H=some (v,H1)) : v=undef∧Zcf G w0 ι H1 ((Instr.storeAt t x' u').run P w):=by
 unfold st1 at h
 split at h
 ·split at h
  ·rename_i id o _ cs es g hid
   split at h
   ·rename_i hc
    cases h
    obtain ⟨l,hl,rfl⟩:=hx.ptr_inv
    obtain ⟨i,hi,_⟩:=Kn ht
    obtain ⟨w1,hw1,hS1⟩:=hS.store (P:=P) hid hl (new:=[u]) (new':=[u']) (o:=o) (by simp;omega) (.cons hu .nil) (by simpa using hc.2)
    refine ⟨rfl,ι,w1,.refl ι,by rwa [KW hc.1] at hS1,?_⟩
    have hcell : u'.cells=#[u']:=by
     have:=hu.oneCell hc.2
     cases u' <;> simp [Value.oneCell',Value.cells] at this ⊢
    simp only [Instr.storeAt,Instr.sureAddr,storeVar,Sem.run_bind,Sem.run_pure,Result.andThen_ok,Ql hi,hsz,hcell]
    simpa using hw1
   ·cases h
  ·cases h
 ·cases h
theorem Zet (hS : Sim G w0 ι H w) {t : TypeId} {x x' u u' : Value} (ht : JH P t=some true) (hx : RV ι x x') (hu : RV ι u u')
  (h : stA (szT P t) x u H=some (v,H1)) : v=undef∧Zcf G w0 ι H1 ((Instr.storeAt t x' u').run P w):=by
 unfold stA at h
 split at h
 ·split at h
  ·rename_i id o vs _ cs es g hid
   split at h
   ·rename_i hc
    obtain ⟨hc1,hc2,hc3⟩:=hc
    cases h
    obtain ⟨l,hl,rfl⟩:=hx.ptr_inv
    obtain ⟨vs',rfl,hvs⟩:=hu.agg_inv
    obtain ⟨i,hi,_⟩:=ZaA ht
    obtain ⟨w1,hw1,hS1⟩:=hS.store (P:=P) hid hl (new:=vs.toList) (new':=vs'.toList) (o:=o) (by simpa [hc2] using hc1) hvs (List.all_eq_true.1 hc3)
    refine ⟨rfl,ι,w1,.refl ι,hS1,?_⟩
    have hsz : vs'.size=szT P t:=by have:=hvs.1;simp at this;omega
    simp only [Instr.storeAt,Instr.sureAddr,storeVar,Sem.run_bind,Sem.run_pure,Result.andThen_ok,Ql hi,Value.cells,hsz]
    simpa using hw1
   ·cases h
  ·cases h
 ·cases h
theorem YD {b o n : Nat} : Addr.add ⟨b,o,none⟩ n=⟨b,o+n,none⟩:=by
 unfold Addr.add;split
 ·rename_i h0;subst h0;rfl
 ·rfl
theorem Zfa (hS : Sim G w0 ι H w) {s : TypeId} {fs : Array Field} {f : Nat} {fd : Field} {x x' : Value} (hs : P.underlying s=some (.struct fs)) (hf : fs[f]?=some fd)
  (hz : szT P fd.type≠0) (hx : RV ι x x') (h : fa fd.offset x H=some (v,H1)) : Res G w0 ι v H1 ((Instr.fieldAt s x' f).run P w):=by
 unfold fa at h
 split at h
 ·cases h
  obtain ⟨l,hl,rfl⟩:=hx.ptr_inv
  have hi : ∃ i,P.info? fd.type=some i:=by
   unfold szT at hz
   cases e : P.info? fd.type with
   | none=>simp [e] at hz
   | some i=>exact ⟨i,rfl⟩
  obtain ⟨i,hi⟩:=hi
  refine .same hS (.ptr hl) ?_
  simp only [Instr.fieldAt,Sem.run_bind,run_underlying hs,Result.andThen_ok,hf,Instr.sureAddr,Sem.run_pure,fieldPlace,Ql hi,hz,if_false,YD]
  simp [Nat.add_assoc]
 ·cases h
theorem ZeM (hS : Sim G w0 ι H w) {t e : TypeId} {ie : TypeInfo} {x x' i i' : Value} (ht : P.underlying t=some (.slice e)) (he : P.info? e=some ie)
  (hx : RV ι x x') (hi : RV ι i i') (h : ixa (szT P e) x i H=some (v,H1)) : Res G w0 ι v H1 ((Instr.indexAt t x' i').run P w):=by
 unfold ixa at h
 split at h
 ·split at h
  ·rename_i hc
   cases h
   obtain ⟨l,c',hl,_,_,_,_,rfl⟩:=hx.slc_inv
   rw [hi.int_inv]
   refine .same hS (.ptr hl) ?_
   simp only [Instr.indexAt,asIntOf,Sem.run_bind,Sem.run_pure,Result.andThen_ok,run_underlying ht]
   rw [if_pos hc]
   simp [Ql he,YD,Nat.add_assoc]
  ·cases h
 ·cases h
theorem Zd8 (hS : Sim G w0 ι H w) {t e : TypeId} {n : Nat} {ie : TypeInfo} {x x' i i' : Value} (ht : P.underlying t=some (.array n e)) (he : P.info? e=some ie)
  (hx : RV ι x x') (hi : RV ι i i') (h : J3 n (szT P e) x i H=some (v,H1)) : Res G w0 ι v H1 ((Instr.indexAt t x' i').run P w):=by
 unfold J3 at h
 split at h
 ·split at h
  ·rename_i hc
   cases h
   obtain ⟨l,hl,rfl⟩:=hx.ptr_inv
   rw [hi.int_inv]
   refine .same hS (.ptr hl) ?_
   simp only [Instr.indexAt,asIntOf,Sem.run_bind,Sem.run_pure,Result.andThen_ok,run_underlying ht,Instr.sureAddr]
   rw [if_pos hc]
   simp [Ql he,YD,Nat.add_assoc]
  ·cases h
 ·cases h
theorem ZeI (hS : Sim G w0 ι H w) {t : TypeId} {x x' i i' : Value} (ht : P.underlying t=some .string)
  (hx : RV ι x x') (hi : RV ι i i') (h : ixs x i H=some (v,H1)) : Res G w0 ι v H1 ((Instr.index t x' i').run P w):=by
 unfold ixs at h
 split at h
 ·split at h
  ·rename_i s k n h0
   split at h
   ·rename_i b hb
    cases h
    rw [hx.string_inv,hi.int_inv]
    refine .sc hS rfl ?_
    simp only [Instr.index,asIntOf,Sem.run_bind,Sem.run_pure,Result.andThen_ok,run_underlying ht]
    rw [if_pos h0,hb]
    rfl
   ·cases h
  ·cases h
 ·cases h
theorem Zcz {t : TypeId} {g : Bool} (ht : JH P t=some g) {a a' : Array Value} {off : Nat} (ha : RVs ι a.toList a'.toList)
  (h : prt g (szT P t) (.agg a) off H=some (v,H1)) : H1=H∧∃ v',RV ι v v'∧(part t a' off).run P w=.ok v' w:=by
 unfold prt at h
 cases g with
 | true=>
  simp only [cond_true,Option.some.injEq,Prod.mk.injEq] at h
  obtain ⟨rfl,rfl⟩:=h
  obtain ⟨i,hi,hagg⟩:=ZaA ht
  refine ⟨rfl,.agg (a'.extract off (off+szT P t)),?_,?_⟩
  ·have h2:=(ha.drop off).take (szT P t)
   obtain ⟨h3,h4⟩:=RVs.to_arr (a:=a.extract off (off+szT P t)) (a':=a'.extract off (off+szT P t)) (by simpa [List.extract_eq_take_drop] using h2)
   exact .agg h3 h4
  ·simp [part,hagg,Ql hi]
 | false=>
  simp only [cond_false,Option.map_eq_some_iff,Prod.mk.injEq] at h
  obtain ⟨u,hu,rfl,rfl⟩:=h
  obtain ⟨i,hi,hagg⟩:=Kn ht
  have ho : off < a.size:=by
   rcases Nat.lt_or_ge off a.size with h | h
   ·exact h
   ·rw [Array.getElem?_eq_none h] at hu;cases hu
  have ho' : off < a'.size:=by have:=ha.1;simp at this;omega
  have h2:=ha.2 off (by simpa using ho)
  have e1 : a[off]=u:=by rw [Array.getElem?_eq_getElem ho] at hu;simpa using hu
  refine ⟨rfl,a'[off],by simpa [List.getD_eq_getElem?_getD,ho,ho',e1] using h2,?_⟩
  simp [part,hagg,ho']
theorem Zev (hS : Sim G w0 ι H w) {s : TypeId} {fs : Array Field} {f : Nat} {fd : Field} {g : Bool} {x x' : Value} (hs : P.underlying s=some (.struct fs)) (hf : fs[f]?=some fd)
  (hg : JH P fd.type=some g) (hx : RV ι x x') (h : prt g (szT P fd.type) x fd.offset H=some (v,H1)) : Res G w0 ι v H1 ((Instr.field s x' f).run P w):=by
 have hh:=h
 unfold prt at h
 split at h
 ·obtain ⟨a',rfl,ha⟩:=hx.agg_inv
  obtain ⟨rfl,v',hv,hr⟩:=Zcz (P:=P) (w:=w) hg ha hh
  exact .same hS hv (by simp [Instr.field,run_underlying hs,hf,asAgg,hr])
 ·cases h
theorem ZeS (hS : Sim G w0 ι H w) {t e : TypeId} {n : Nat} {g : Bool} {x x' i i' : Value} (ht : P.underlying t=some (.array n e)) (hg : JH P e=some g)
  (hx : RV ι x x') (hi : RV ι i i') (h : ixv g n (szT P e) x i H=some (v,H1)) : Res G w0 ι v H1 ((Instr.index t x' i').run P w):=by
 unfold ixv at h
 split at h
 ·split at h
  ·rename_i k i hc
   have hh:=h
   unfold prt at h
   split at h
   ·obtain ⟨a',rfl,ha⟩:=hx.agg_inv
    obtain ⟨rfl,v',hv,hr⟩:=Zcz (P:=P) (w:=w) hg ha hh
    have hie : ∃ ie,P.info? e=some ie:=by
     unfold JH at hg
     split at hg
     ·exact JA (by assumption)
     ·exact JA (by assumption)
     ·exact JA (by assumption)
     ·cases hg
    obtain ⟨ie,hie⟩:=hie
    rw [hi.int_inv]
    refine .same hS hv ?_
    simp only [Instr.index,asIntOf,Sem.run_bind,Sem.run_pure,Result.andThen_ok,run_underlying ht]
    rw [if_pos hc]
    simp [Ql hie,hr]
   ·cases h
  ·cases h
 ·cases h
end
end Go.Proofs.Ytfefblgkfdaekaa.A
namespace Go.Proofs.Ytfefblgkfdaekaa.A
set_option linter.unusedVariables false
set_option linter.unusedSimpArgs false
section
variable {P : Program} {G : Nat} {w0 : Zg} {ι : Nat→Option Loc} {H H1 : Zb} {w : World} {v : Value}
theorem Sim.alloc (hS : Sim G w0 ι H w) {cs cs' : List Value} (h : RVs ι cs cs') (h1 : ∀ v∈cs,oneCell v=true) (extra : List Value) (el : TypeId) (fr : Nat × Nat) (es : Nat) (grow : Bool)
  (hf : Zay (cs'.length+extra.length) fr) :
  Sim G w0 (JD ι H.length ⟨w.heap.size,0,cs'.length+extra.length,es,grow⟩) (H++[.cells cs es grow false]) (ZQ w (.cells (cs'++extra).toArray el fr)):=by
 refine hS.new _ rfl ⟨_,(cs'++extra).toArray,el,fr,ZD _ _ _,rfl,rfl,Yr w _,?_,?_,?_,fun _=>⟨hS.size,by simpa using hf,fun _=>rfl⟩,by simp,h1⟩
 ·have:=h.1;simp;omega
 ·simp
 ·have:=h.mono (Jd hS ⟨w.heap.size,0,cs'.length+extra.length,es,grow⟩)
  rw [h.1]
  simpa using this
theorem Wm {v v' : Value} (h : RV ι v v') (h1 : oneCell v=true∨∃ a,v=.agg a) : RVs ι v.cells.toList v'.cells.toList:=by
 rcases h1 with h1 | ⟨a,rfl⟩
 ·have h2:=h.oneCell h1
  have e1 : v.cells=#[v]:=by cases v <;> simp [oneCell,Value.cells] at h1 ⊢
  have e2 : v'.cells=#[v']:=by cases v' <;> simp [Value.oneCell',Value.cells] at h2 ⊢
  rw [e1,e2]
  exact .cons h .nil
 ·obtain ⟨a',rfl,ha⟩:=h.agg_inv
  simpa [Value.cells] using ha
theorem ZcD (hS : Sim G w0 ι H w) {u u' : Value} {es : Nat} (t : TypeId) (hu : RV ι u u') (h : alc es u H=some (v,H1)) :
  Res G w0 ι v H1 ((do pure (.pointer (some (← newVar t u'))) : Sem Value).run P w):=by
 unfold alc at h
 split at h
 ·rename_i h1
  unfold ZdR at h
  cases h
  have hc : oneCell u=true∨∃ a,u=.agg a:=by
   cases u <;> first | exact .inl rfl | exact .inr ⟨_,rfl⟩ | skip
   rename_i vs
   simp [Value.cells,oneCell] at h1
  have hr:=Wm hu hc
  have hnew:=hS.alloc hr (List.all_eq_true.1 h1) [] t (0,0) es false (.inl rfl)
  refine ⟨_,_,_,Jd hS _,hnew,.ptr (ZD _ _ _),?_⟩
  simp [newVar,newRow,ZQ]
 ·cases h
theorem Jj {t : TypeId} (h : Jt P t=true) : ∃ i,P.info? t=some i∧i.zero=some (zeT P t)∧Y5 (zeT P t)=true∧∀ w,(zeroValue t).run P w=.ok (zeT P t) w:=by
 unfold Jt at h
 simp only [Bool.and_eq_true] at h
 obtain ⟨h1,h2⟩:=h
 cases hi : P.info? t with
 | none=>simp [hi] at h1
 | some i=>
  cases hz : i.zero with
  | none=>simp [hi,hz] at h1
  | some z=>
   have e : zeT P t=z:=by simp [zeT,hi,hz]
   exact ⟨i,rfl,by rw [e];exact hz,h2,fun w=>by simp [zeroValue,typeInfo,hi,hz,e]⟩
theorem ZeN (hS : Sim G w0 ι H w) {t : TypeId} {es : Nat} {u u' : Value} (hu : RV ι u u') (h : alc es u H=some (v,H1)) :
  Res G w0 ι v H1 ((Instr.box t u').run P w):=ZcD (P:=P) hS t hu h
theorem Zdw (hS : Sim G w0 ι H w) {t : TypeId} {es : Nat} (ht : Jt P t=true) (h : alc es (zeT P t) H=some (v,H1)) :
  Res G w0 ι v H1 ((Instr.alloc t true (.tuple #[])).run P w):=by
 obtain ⟨i,hi,hz,hc,hr⟩:=Jj ht
 have:=ZcD (P:=P) hS t (RV.const hc) h
 simpa [Instr.alloc,hr] using this
theorem Wy {x x' : Value} (hx : RV ι x x') {size : Nat} {cs : List Value} (h : Qd size H x=some cs) : (Builtin.lenOf x').run P w=.ok (flen x) w:=by
 unfold Qd at h
 split at h
 ·obtain ⟨rfl,rfl,rfl⟩:=hx.nils_inv;rfl
 ·obtain ⟨l,c',_,_,_,_,_,rfl⟩:=hx.slc_inv;rfl
 ·obtain ⟨rfl,rfl,a',c',_,rfl⟩:=hx.slcE_inv;rfl
 ·rw [hx.string_inv];rfl
 ·cases h
theorem KT {size : Nat} {x x' : Value} (hx : RV ι x x') {cs : List Value} (h : Qd size H x=some cs) : cs.length=flen x * size:=by
 unfold Qd at h
 split at h
 ·obtain ⟨rfl,rfl,rfl⟩:=hx.nils_inv;cases h;simp [flen]
 ·split at h
  ·split at h
   ·cases h;simp [flen];omega
   ·cases h
  ·cases h
 ·obtain ⟨rfl,rfl,_⟩:=hx.slcE_inv
  simp at h;subst h;simp [flen]
 ·split at h
  ·rename_i h1;subst h1;cases h;simp [flen,u8s]
  ·cases h
 ·cases h
theorem ZaS (hS : Sim G w0 ι H w) {size : Nat} {x x' : Value} (hx : RV ι x x') {cs : List Value} (h : Qd size H x=some cs) : ∀ v∈cs,oneCell v=true:=by
 unfold Qd at h
 split at h
 ·cases h;simp
 ·split at h
  ·rename_i hid
   split at h
   ·cases h
    obtain ⟨l,c',hl,_⟩:=hx.slc_inv
    obtain ⟨_,_,_,_,_,_,_,_,_,_,h1⟩:=hS.cellsR hid hl
    intro v hv
    exact h1 v (List.mem_of_mem_drop (List.mem_of_mem_take hv))
   ·cases h
  ·cases h
 ·obtain ⟨rfl,rfl,_⟩:=hx.slcE_inv
  simp at h;subst h;simp
 ·split at h
  ·cases h
   intro v hv
   unfold u8s at hv
   obtain ⟨b,_,rfl⟩:=List.mem_map.1 hv
   rfl
  ·cases h
 ·cases h
theorem KP {a : Addr} : (loadCells a 0).run P w=.ok #[] w:=rfl
theorem YZ (hS : Sim G w0 ι H w) {size : Nat} {x x' : Value} (hx : RV ι x x') {cs : List Value} (h : Qd size H x=some cs)
  {k : Nat} (hk : k≤flen x) : ∃ arr : List Value,(Builtin.firstCells size k x').run P w=.ok arr.toArray w∧RVs ι (cs.take (k * size)) arr:=by
 unfold Qd at h
 split at h
 ·obtain ⟨rfl,rfl,rfl⟩:=hx.nils_inv
  cases h
  exact ⟨[],rfl,by simpa using RVs.nil⟩
 ·split at h
  ·rename_i hid
   split at h
   ·rename_i hle
    cases h
    obtain ⟨l,c',hl,_,_,_,_,rfl⟩:=hx.slc_inv
    obtain ⟨c,el,fr,_,_,hb,h5,h6,hr,_⟩:=hS.cellsR hid hl
    simp only [flen] at hk
    have hkm:=Nat.mul_le_mul_right size hk
    obtain ⟨h1,h2⟩:=K1 hr (Nat.le_trans (Nat.add_le_add_left hkm _) hle) (by omega)
    refine ⟨_,Wo hb h2,?_⟩
    rw [List.take_take,Nat.min_eq_left hkm]
    exact h1
   ·cases h
  ·cases h
 ·obtain ⟨rfl,rfl,a',c',_,rfl⟩:=hx.slcE_inv
  simp at h;subst h
  simp only [flen] at hk
  obtain rfl : k=0:=by omega
  exact ⟨[],by simp [Builtin.firstCells,KP],by simpa using RVs.nil⟩
 ·rename_i s
  rw [hx.string_inv]
  split at h
  case isFalse=>cases h
  rename_i h1
  subst h1
  cases h
  simp only [flen] at hk
  refine ⟨u8s (s.data.toList.take k),?_,?_⟩
  ·simp only [Builtin.firstCells,Sem.run_pure]
   congr 1
   apply Array.ext'
   simp [u8s,ByteArray.data_extract,List.extract_eq_take_drop]
  ·rw [Nat.mul_one]
   unfold u8s
   rw [← List.map_take]
   refine ⟨rfl,fun i hi=>?_⟩
   simp only [List.getD_eq_getElem?_getD,List.getElem?_map]
   cases e : (s.data.toList.take k)[i]? with
   | none=>simp;exact .un
   | some b=>simp;exact .sc rfl
 ·cases h
theorem Zbp (need : Nat) (h : 256≤need) : ∀ (rounds c : Nat),c≤2 * need→Builtin.growBy need rounds c≤2 * need
 | 0,c,hc=>hc
 | r+1,c,hc=>by
  simp only [Builtin.growBy]
  split
  ·exact hc
  ·exact Zbp need h r _ (by omega)
theorem ZaI {need cap : Nat} (h : cap < need) : Builtin.nextslicecap need cap≤2 * need:=by
 unfold Builtin.nextslicecap
 split
 ·omega
 ·split
  ·omega
  ·exact Zbp need (by omega) 4 cap (by omega)
theorem Zbi {z : Array Value} {n : Nat} : (Builtin.zeroCells z n).size=n * z.size:=by simp [Builtin.zeroCells]
theorem ZaN {e : TypeId} {i : TypeInfo} (hi : P.info? e=some i) : (typeInfo e).run P w=.ok i w∧i.bytes=byT P e∧i.size=szT P e:=
 ⟨run_typeInfo w hi,by simp [byT,hi],by simp [szT,hi]⟩
theorem Yk {e : TypeId} (h : okE P e=true) : ∃ i,P.info? e=some i∧(zeT P e).cells.size=szT P e∧∀ w,(zeroValue e).run P w=.ok (zeT P e) w:=by
 unfold okE at h
 simp only [Bool.and_eq_true] at h
 obtain ⟨i,hi,_,_,hr⟩:=Jj h.1.1
 exact ⟨i,hi,Nat.eq_of_beq_eq_true h.2,hr⟩
theorem Zav {e : TypeId} (h : okE P e=true) : Jt P e=true∧Yx (zeT P e)=false:=by
 unfold okE at h
 simp only [Bool.and_eq_true] at h
 exact ⟨h.1.1,by simpa using h.1.2⟩
theorem WI (hS : Sim G w0 ι H w) {t u e : TypeId} {ty : TypeId} {base : Option Addr} {sLen sCap n : Nat} {x' : Value} {old new : List Value} {old' new' : List Value}
  (ht : P.underlying t=some (.slice e)) (hu : (∃ d,P.underlying u=some (.slice d))∨P.underlying u=some .string) (he : okE P e=true)
  (hlen : ∀ w,(Builtin.lenOf x').run P w=.ok n w)
  (hold : (Builtin.firstCells (szT P e) sLen (.slice base sLen sCap)).run P { w with drawn:=w.drawn+1 }=.ok old'.toArray { w with drawn:=w.drawn+1 }) (hro : RVs ι old old')
  (hnew : (Builtin.firstCells (szT P e) n x').run P { w with drawn:=w.drawn+1 }=.ok new'.toArray { w with drawn:=w.drawn+1 }) (hrn : RVs ι new new')
  (ho1 : ∀ v∈old,oneCell v=true) (hn1 : ∀ v∈new,oneCell v=true) (hl : old.length=sLen * szT P e) (hl' : new.length=n * szT P e)
  (hcap : sCap < sLen+n) (hb : sLen+n≤140737488355328) (hb' : (sLen+n) * byT P e≤140737488355328) :
  Res G w0 ι (.slice (some ⟨H.length,0,none⟩) (sLen+n) (sLen+n)) (H++[.cells (old++new) (szT P e) true false])
   ((Builtin.append_ #[t,u] ty #[.slice base sLen sCap,x']).run P w):=by
 obtain ⟨i,hi,hz,hzr⟩:=Yk he
 obtain ⟨_,hby,hsz⟩:=ZaN (P:=P) (w:=w) hi
 generalize hq : Question.cut (.appendCap (sLen+n) sCap e) (w.tape w.drawn (.appendCap (sLen+n) sCap e))=newCap
 have hge : sLen+n≤newCap:=by rw [← hq];simp only [Question.cut];omega
 have hroom : ¬ Builtin.nextslicecap (sLen+n) sCap * byT P e > 2 ^ 48:=by
  have h1:=Nat.mul_le_mul_right (byT P e) (ZaI hcap)
  rw [Nat.mul_assoc] at h1
  omega
 have hnb : ¬ (((sLen+n : Nat) : Int) > IntKind.i64.max):=by
  have : IntKind.i64.max=9223372036854775807:=by decide
  rw [this];omega
 have hnew2:=hS.congr (w':={ w with drawn:=w.drawn+1 }) rfl
 have hal:=hnew2.alloc (hro.append hrn) (fun v hv=>(List.mem_append.1 hv).elim (ho1 v) (hn1 v)) (Builtin.zeroCells (zeT P e).cells (newCap - (sLen+n))).toList e (0,0) (szT P e) true (.inl rfl)
 refine ⟨_,.slice (some ⟨w.heap.size,0,none⟩) (sLen+n) newCap,_,Jd hS _,hal,?_,?_⟩
 ·refine .slc (ZD _ _ _) (Nat.le_refl _) hge (by simp) ?_
  have e1:=(hro.append hrn).1
  simp only [List.length_append] at e1
  simp only [List.length_append,Array.length_toList,Zbi,hz]
  have e2 : old'.length+new'.length=(sLen+n) * szT P e:=by rw [Nat.add_mul];omega
  rw [e2,← Nat.add_mul]
  have e3 : sLen+n+(newCap - (sLen+n))=newCap:=by omega
  rw [e3];omega
 ·have hn0 : ¬ (sLen+n≤sCap):=by omega
  have hti : ∀ w,(typeInfo e).run P w=.ok i w:=fun w=>run_typeInfo w hi
  rcases hu with ⟨f,hd⟩ | hd <;>
  ·simp only [Builtin.append_,List.getElem?_toArray,List.getElem?_cons_zero,List.getElem?_cons_succ,Sem.run_bind,run_underlying ht,Result.andThen_ok,Ql hi,run_underlying hd,Sem.run_pure,Bool.false_eq_true,if_false,
    hlen,hn0,Sem.run_ite,hnb,false_and,hti,hby,hroom,run_choose,Question.forced,hq,run_askRoom,hold,Bool.not_false,if_true,hnew,hzr]
   simp [newRow,ZQ]
   have key : (old'++new').toArray++Builtin.zeroCells (zeT P e).cells (newCap - (sLen+n))=(old'++(new'++(Builtin.zeroCells (zeT P e).cells (newCap - (sLen+n))).toList)).toArray:=by
    apply Array.ext'
    simp
   rw [key]
   rfl
theorem Res.kill {id : Nat} {x : Zo} {r : Result Value} (h : Res G w0 ι v (H++[x]) r) (hid : id < H.length) : Res G w0 ι v (H.set id .dead++[x]) r:=by
 obtain ⟨ι1,v',w1,h1,h2,h3,h4⟩:=h
 refine ⟨ι1,v',w1,h1,?_,h3,h4⟩
 have:=h2.kill id
 rwa [List.set_append_left _ _ hid] at this
theorem Res.toView {id : Nat} {x : Zo} {cs : List Value} {es : Nat} {g : Bool} {r : Result Value} (h : Res G w0 ι v (H++[x]) r) (hid : H[id]?=some (.cells cs es g false)) (hl : ∃ l,ι id=some l) {vs : List Value} (hvs : ∃ k,vs=cs.take k) (e2 nx : Nat) : Res G w0 ι v (H.set id (.view vs e2 nx)++[x]) r:=by
 obtain ⟨ι1,v',w1,h1,h2,h3,h4⟩:=h
 refine ⟨ι1,v',w1,h1,?_,h3,h4⟩
 obtain ⟨l,hl⟩:=hl
 have hlt : id < H.length:=(List.getElem?_eq_some_iff.1 hid).1
 have:=h2.toView (id:=id) (cs:=cs) (es:=es) (g:=g) (by rw [List.getElem?_append_left hlt];exact hid) (h1 _ _ hl) hvs e2 nx
 rwa [List.set_append_left _ _ hlt] at this
theorem Sim.put (hS : Sim G w0 ι H w) {b : Nat} (o' : Obj) (hb : w0.heap.size≤b) (hpr : ∀ c∈w0.prot,c.1≠b) (hfree : ∀ (i : Nat) (o : Zo) (l : Loc),H[i]?=some o→o≠.dead→o.isV=false→ι i=some l→l.blk≠b)
  (hvw : ∀ j cs es nx lj,H[j]?=some (.view cs es nx)→ι j=some lj→lj.blk=b→∃ l',ι nx=some l'∧l'.blk=lj.blk∧l'.base=lj.base) :
  Sim G w0 ι H (QP w b o'):=
 ⟨fun i o ho=>by
  by_cases hv : o.isV=true
  ·cases o with
   | view cs es nx=>obtain ⟨l',h1,h2⟩:=hS.obj i _ ho;exact ⟨l',h1,by simpa using h2⟩
   | _=>cases hv
  ·exact (hS.obj i o ho).blk fun l hl hd=>ZW (hfree i o l ho hd (by simpa using hv) hl),hS.inj,by simpa using hS.size,fun c hc=>by rw [ZW (by omega)];exact hS.old c hc,hS.dom,hS.glob,hS.rest,fun c hc=>by
  obtain ⟨p1,p2,p3⟩:=hS.prot c hc
  exact ⟨by rw [ZW (hpr c hc)];exact p1,p2,p3⟩,fun j cs es nx lj hj hlj=>by
  by_cases hb2 : lj.blk=b
  ·exact .inl (hvw j cs es nx lj hj hlj hb2)
  ·exact (hS.views j cs es nx lj hj hlj).to (.refl ι) fun h1 _=>⟨fun c el fr hc=>⟨fr,by rw [ZW hb2];exact hc⟩,h1⟩⟩
theorem JQ {size n : Nat} {x' : Value} {arr : Array Value} (h : (Builtin.firstCells size n x').run P w=.ok arr w) :
  (Builtin.firstCells size n x').run P { w with drawn:=w.drawn+1 }=.ok arr { w with drawn:=w.drawn+1 }:=by
 have hl : ∀ (a : Addr) (n i : Nat) (acc arr : Array Value),(loadCellsFrom a i n acc).run P w=.ok arr w→
   (loadCellsFrom a i n acc).run P { w with drawn:=w.drawn+1 }=.ok arr { w with drawn:=w.drawn+1 }:=by
  intro a n
  induction n with
  | zero=>intro i acc arr h;simp only [loadCellsFrom,Sem.run_pure] at h ⊢;cases h;rfl
  | succ n ih=>
   intro i acc arr h
   simp only [loadCellsFrom,Sem.run_bind,run_load] at h ⊢
   have hc : World.cell? { w with drawn:=w.drawn+1 } (a.add i)=w.cell? (a.add i):=rfl
   rw [hc]
   cases e : w.cell? (a.add i) with
   | some v=>
    rw [e] at h
    simp only [Result.andThen_ok] at h ⊢
    exact ih _ _ _ h
   | none=>
    rw [e] at h
    simp only at h ⊢
    have hf : World.farLoad P { w with drawn:=w.drawn+1 } (a.add i) (Mode.plain==Mode.atomic)=World.farLoad P w (a.add i) (Mode.plain==Mode.atomic):=rfl
    cases e2 : World.farLoad P w (a.add i) (Mode.plain==Mode.atomic) with
    | ok p=>
     obtain ⟨v,q⟩:=p
     rw [e2] at h
     rw [hf,e2]
     simp only [Result.andThen_ok] at h ⊢
     exact ih _ _ _ h
    | error e3=>
     rw [e2] at h
     simp only [Result.andThen_halt] at h
     cases h
 unfold Builtin.firstCells at h ⊢
 split at h
 ·exact hl _ _ _ _ _ h
 ·simp only [Sem.run_pure] at h ⊢;cases h;rfl
 ·simp only [Sem.run_pure] at h ⊢;cases h;rfl
 ·simp at h
theorem ZcO (hS : Sim G w0 ι H w) {t u e ty : TypeId} {s s' x x' : Value}
  (ht : P.underlying t=some (.slice e)) (hu : (∃ d,P.underlying u=some (.slice d))∨P.underlying u=some .string) (he : okE P e=true)
  (hs : RV ι s s') (hx : RV ι x x') (h : app (szT P e) (byT P e) s x H=some (v,H1)) : Res G w0 ι v H1 ((Builtin.append_ #[t,u] ty #[s',x']).run P w):=by
 unfold app at h
 split at h
 ·cases h
 rename_i new hnew
 have hlx : ∀ w,(Builtin.lenOf x').run P w=.ok (flen x) w:=fun w=>Wy hx hnew
 have hnl:=KT hx hnew
 have hn1:=ZaS hS hx hnew
 obtain ⟨arr,har,hra⟩:=YZ (P:=P) hS hx hnew (Nat.le_refl _)
 rw [List.take_of_length_le (by omega)] at hra
 obtain ⟨i,hi,hz,hzr⟩:=Yk he
 have hin : ∀ (base : Option Addr) (sLen sCap : Nat),sLen+flen x≤sCap→(Builtin.append_ #[t,u] ty #[.slice base sLen sCap,x']).run P w=
   ((match base with | some a=>storeCells (a.add (sLen * szT P e)) arr | none=>pure ()).run P w).andThen fun _ w'=>.ok (.slice base (sLen+flen x) sCap) w':=by
  intro base sLen sCap hle
  rcases hu with ⟨f,hd⟩ | hd <;>
  ·simp only [Builtin.append_,List.getElem?_toArray,List.getElem?_cons_zero,List.getElem?_cons_succ,Sem.run_bind,run_underlying ht,Result.andThen_ok,Ql hi,run_underlying hd,Sem.run_pure,Bool.false_eq_true,if_false,
    hlx,hle,if_true,Bool.not_false,har]
   cases base <;> simp
 simp only at h
 split at h
 ·
  obtain ⟨_,_,rfl⟩:=hs.nils_inv
  split at h
  ·rename_i hn
   cases h
   exact .sc hS rfl (by rw [hin _ _ _ (by omega)];simp [hn])
  ·rename_i hn
   split at h
   ·rename_i hb
    cases h
    have:=WI (P:=P) (ty:=ty) (base:=none) (sLen:=0) (sCap:=0) (n:=flen x) (x':=x') hS ht hu he hlx (old:=[]) (old':=[]) rfl .nil (JQ har) hra (by simp) hn1 (by simp) hnl (by omega) (by simpa using hb.1) (by simpa using hb.2)
    simpa using this
   ·cases h
 ·
  obtain ⟨_,_,a',c',hc',rfl⟩:=hs.slcE_inv
  split at h
  ·rename_i hn
   cases h
   refine .same hS (.slcE (a':=a') hc') ?_
   rw [hin _ _ _ (by omega)]
   have : arr=[]:=by
    have:=hra.1
    rw [hn] at hnl
    cases arr with
    | nil=>rfl
    | cons=>simp at this;omega
   simp [hn,this,storeCells]
  ·rename_i hn
   split at h
   ·rename_i hb
    obtain ⟨hj,hb1,hb2⟩:=hb
    cases h
    rw [hc' hj]
    have:=WI (P:=P) (ty:=ty) (base:=some a') (sLen:=0) (sCap:=0) (n:=flen x) (x':=x') hS ht hu he hlx (old:=[]) (old':=[]) (by simp [Builtin.firstCells,KP]) .nil (JQ har) hra (by simp) hn1 (by simp) hnl (by omega) (by simpa using hb1) (by simpa using hb2)
    simpa using this
   ·cases h
 ·rename_i id o len cap
  split at h
  case h_2=>cases h
  rename_i cs es grow ro hid
  split at h
  case isFalse=>cases h
  rename_i hes
  subst hes
  obtain ⟨l,c',hl,hlc,hcc,hex,hroom,rfl⟩:=hs.slc_inv
  obtain ⟨c,el,fr,hles,hlg,hb,h5,h6,hr,h7,h8⟩:=hS.cellsR hid hl
  split at h
  ·
   rename_i hle
   split at h
   ·rename_i hn
    cases h
    refine .same hS (.slc hl hlc hcc hex hroom) ?_
    rw [hin _ _ _ (by omega)]
    have : arr=[]:=by
     have:=hra.1
     rw [hn] at hnl
     cases arr with
     | nil=>rfl
     | cons=>simp at this;omega
    simp [hn,this,storeCells]
   ·split at h
    ·rename_i hn hc
     obtain ⟨hro,hfit⟩:=hc
     subst hro
     cases h
     obtain ⟨w1,hw1,hS1⟩:=hS.store (P:=P) hid hl (new:=new) (new':=arr) (o:=o+len * szT P e) (by rw [hnl,Nat.add_assoc,← Nat.add_mul];exact hfit) hra hn1
     refine ⟨ι,_,w1,.refl ι,hS1,.slc hl (by omega) hcc hex hroom,?_⟩
     rw [hin _ _ _ (by omega)]
     simp only [YD,Nat.add_assoc] at hw1 ⊢
     rw [hw1];rfl
    ·cases h
  ·rename_i hle
   split at h
   ·rename_i hc
    obtain ⟨hgr,hfit,hb1,hb2⟩:=hc
    cases h
    have hlt : id < H.length:=by
     rcases Nat.lt_or_ge id H.length with h | h
     ·exact h
     ·rw [List.getElem?_eq_none h] at hid;cases hid
    obtain ⟨hold,hbnd⟩:=K1 (n:=len * szT P e) hr hfit (by omega)
    have ho1 : ∀ v∈(cs.drop o).take (len * szT P e),oneCell v=true:=fun v hv=>h8 v (List.mem_of_mem_drop (List.mem_of_mem_take hv))
    have hol : ((cs.drop o).take (len * szT P e)).length=len * szT P e:=by simp;omega
    have fresh : c' < len+flen x→Res G w0 ι (.slice (some ⟨H.length,0,none⟩) (len+flen x) (len+flen x)) (H++[.cells ((cs.drop o).take (len * szT P e)++new) (szT P e) true false])
      ((Builtin.append_ #[t,u] ty #[.slice (some ⟨l.blk,l.base+o,none⟩) len c',x']).run P w):=fun hcc2=>
     WI (P:=P) (ty:=ty) (n:=flen x) (x':=x') hS ht hu he hlx (JQ (w:=w) (by simpa [Builtin.firstCells] using Wo (P:=P) hb hbnd)) hold (JQ har) hra ho1 hn1 hol hnl hcc2 hb1 hb2
    cases grow with
    | false=>
     have:=hex hlg
     exact fresh (by omega)
    | true=>
     rcases Nat.lt_or_ge c' (len+flen x) with hcc2 | hcc2
     ·simp only [cond_true]
      cases ho0 : Nat.beq o 0 with
      | false=>exact (fresh hcc2).kill hlt
      | true=>
       have hro : ro=false:=by simpa using hgr
       subst hro
       have : o=0:=Nat.eq_of_beq_eq_true ho0
       subst this
       simp only [cond_true]
       exact (fresh hcc2).toView hid ⟨l,hl⟩ ⟨len * szT P e,by rw [List.drop_zero]⟩ _ _
     ·
      have hro : ro=false:=by simpa using hgr
      subst hro
      obtain ⟨hblk,hfz,hbase⟩:=h7 rfl
      have hal : arr.length=flen x * szT P e:=by rw [← hra.1];exact hnl
      have hle1 : l.base+o+(len+flen x) * szT P e≤l.tot:=Nat.le_trans (Nat.add_le_add_left (Nat.mul_le_mul_right _ hcc2) _) (by rw [hles] at hroom;exact hroom)
      rw [Nat.add_mul] at hle1
      have harr1 : ∀ v∈arr,v.oneCell'=true:=by
       intro u hu
       obtain ⟨j,hj,rfl⟩:=List.getElem_of_mem hu
       have hj' : j < new.length:=by rw [hra.1];exact hj
       have:=hra.2 j hj'
       simp only [List.getD_eq_getElem?_getD,List.getElem?_eq_getElem hj,List.getElem?_eq_getElem hj',Option.getD_some] at this
       exact this.oneCell (hn1 _ (List.getElem_mem hj'))
      have hst:=K2 (P:=P) arr 0 (l.base+o+len * szT P e) c w hb (by omega) harr1 (fun j hj1 hj2=>hfz.not (by omega))
      have hfree : ∀ (i : Nat) (ob : Zo) (li : Loc),(H.set id .dead)[i]?=some ob→ob≠.dead→ob.isV=false→ι i=some li→li.blk≠l.blk:=by
       intro i ob li hi hd hnv hli hbe
       rw [List.getElem?_set] at hi
       split at hi
       ·simp at hi;exact hd hi.symm
       ·rename_i hne
        by_cases hw : ob.wr=true
        ·exact hne (hS.inj i id ob _ li l hi hid hw rfl hli hl hbe).symm
        ·have:=(hS.obj i ob hi).old hd (by simpa using hw) hnv li hli
         omega
      have hvw0 : ∀ j cs es nx lj,(H.set id .dead)[j]?=some (.view cs es nx)→ι j=some lj→lj.blk=l.blk→∃ l',ι nx=some l'∧l'.blk=lj.blk∧l'.base=lj.base:=by
       intro j cs' es' nx' lj hj hlj hbe
       rw [List.getElem?_set] at hj
       split at hj
       ·simp at hj
       ·rcases hS.views j cs' es' nx' lj hj hlj with ⟨l',k1,k2⟩ | ⟨_,k2⟩
        ·exact ⟨l',k1,k2⟩
        ·exact absurd hbe.symm (k2 id _ l hid rfl hl)
      have hS1:=(hS.kill id).put (.cells (JN c arr (l.base+o+len * szT P e+0)) el fr) hblk (fun c hm=>Ne.symm ((hS.prot c hm).2.2 id _ l hid (by simp) hl)) hfree hvw0
      have hb' : l.blk < w.heap.size:=by
       rcases Nat.lt_or_ge l.blk w.heap.size with h1 | h1
       ·exact h1
       ·rw [Array.getElem?_eq_none h1] at hb;cases hb
      have hlen1 : (H.set id Zo.dead).length=H.length:=by simp
      have hS2:=hS1.add (o:=.cells ((cs.drop o).take (len * szT P e)++new) (szT P e) true false) (l:=⟨l.blk,l.base+o,l.tot,szT P e,true⟩)
       (by
        rw [hlen1]
        refine ⟨_,_,el,fr,ZD _ _ _,rfl,rfl,YO hb',?_,?_,?_,fun _=>⟨hblk,hfz,fun h=>by cases h⟩,by simp,fun v hv=>(List.mem_append.1 hv).elim (ho1 v) (hn1 v)⟩
        ·rw [List.length_append,hol,hnl];show l.base+o+(len * szT P e+flen x * szT P e)≤l.tot;omega
        ·rw [Zbq (by omega)];exact h6
        ·have hle2 : Le ι (JD ι H.length ⟨l.blk,l.base+o,l.tot,szT P e,true⟩):=Jd hS _
         have h9:=(hold.append hra).mono hle2
         have e1 : (((JN c arr (l.base+o+len * szT P e+0)).toList.drop (l.base+o)).take ((cs.drop o).take (len * szT P e)++new).length)=(c.toList.drop (l.base+o)).take (len * szT P e)++arr:=by
          rw [List.length_append,hol,hnl,← hal]
          simp only [JN,Nat.add_zero]
          have hA : l.base+o+(len * szT P e+arr.length)≤c.toList.length:=by have:=Array.length_toList (xs:=c);omega
          rw [Y6 (Nat.le_refl _) hA]
          unfold A.splice
          rw [List.take_take,Nat.min_eq_left (Nat.le_add_right _ _),List.drop_eq_nil_of_le (List.length_take_le _ _)]
          simp
         rw [e1];exact h9)
       (fun i oi li hi hw hli=>hfree i oi li hi (by rintro rfl;simp [Zo.wr] at hw) (by cases oi <;> first | rfl | cases hw) hli)
       (fun b hm hbe=>(hS.prot b hm).2.2 id _ l hid (by simp) hl hbe)
       (fun _=>hvw0)
      rw [hlen1] at hS2
      have hidd : (H.set id Zo.dead)[id]?=some .dead:=List.getElem?_set_self hlt
      have hS3 : Sim G w0 (JD ι H.length ⟨l.blk,l.base+o,l.tot,szT P e,true⟩) ((bif true then H.set id (bif Nat.beq o 0 then .view ((cs.drop o).take (len * szT P e)) (szT P e) H.length else .dead) else H)++[.cells ((cs.drop o).take (len * szT P e)++new) (szT P e) true false]) (QP w l.blk (.cells (JN c arr (l.base+o+len * szT P e+0)) el fr)):=by
       simp only [cond_true]
       cases ho0 : Nat.beq o 0 with
       | false=>exact hS2
       | true=>
        have : o=0:=Nat.eq_of_beq_eq_true ho0
        subst this
        simp only [cond_true]
        have h5:=hS2.deadView (id:=id) (nx:=H.length) (l:=l) (by rw [List.getElem?_append_left (by rw [hlen1];exact hlt)];exact hidd) (Jd hS _ _ _ hl) (by simpa using hb') (fun b hm hbe=>(hS.prot b hm).2.2 id _ l hid (by simp) hl hbe) (ZD _ _ _) rfl (by simp) ((cs.drop 0).take (len * szT P e)) (szT P e)
        rw [List.set_append_left _ _ (by rw [hlen1];exact hlt),List.set_set] at h5
        exact h5
      refine ⟨_,_,_,Jd hS _,hS3,.slc (ZD _ _ _) (Nat.le_refl _) hcc2 (by simp) ?_,?_⟩
      ·show l.base+o+0+c' * szT P e≤l.tot
       rw [hles] at hroom;exact hroom
      ·rw [hin _ _ _ hcc2]
       simp only [YD] at hst ⊢
       rw [hst];rfl
   ·cases h
 ·cases h
end
end Go.Proofs.Ytfefblgkfdaekaa.A
namespace Go.Proofs.Ytfefblgkfdaekaa.A
set_option linter.unusedVariables false
set_option linter.unusedSimpArgs false
section
variable {P : Program} {G : Nat} {w0 : Zg} {ι : Nat→Option Loc} {H H1 : Zb} {w : World} {v : Value}
theorem Zex (hS : Sim G w0 ι H w) {t u e ty : TypeId} {d d' x x' : Value} (ht : P.underlying t=some (.slice e)) (he : okE P e=true)
  (hd : RV ι d d') (hx : RV ι x x') (h : cpy (szT P e) d x H=some (v,H1)) : Res G w0 ι v H1 ((Builtin.copy_ #[t,u] ty #[d',x']).run P w):=by
 unfold cpy at h
 split at h
 ·rename_i n c hnew
  have hlx : ∀ w,(Builtin.lenOf x').run P w=.ok (flen x) w:=fun w=>Wy hx hnew
  obtain ⟨i,hi,hz,hzr⟩:=Yk he
  obtain ⟨rfl,rfl,rfl⟩:=hd.nils_inv
  obtain ⟨arr,har,hra⟩:=YZ (P:=P) hS hx hnew (k:=0) (Nat.zero_le _)
  cases h
  refine .sc hS rfl ?_
  simp [Builtin.copy_,run_underlying ht,hlx,Ql hi,har,goInt]
 ·rename_i new id o len cap hnew
  split at h
  ·rename_i cs es g hid
   simp only at h
   split at h
   ·rename_i hle
    cases h
    have hlx : ∀ w,(Builtin.lenOf x').run P w=.ok (flen x) w:=fun w=>Wy hx hnew
    obtain ⟨i,hi,hz,hzr⟩:=Yk he
    obtain ⟨l,c',hl,hlc,hcc,hex,hroom,rfl⟩:=hd.slc_inv
    obtain ⟨arr,har,hra⟩:=YZ (P:=P) hS hx hnew (k:=min (flen x) len) (Nat.min_le_left _ _)
    have hnl:=KT hx hnew
    have hn1:=ZaS hS hx hnew
    have hlen : (new.take (min (flen x) len * szT P e)).length=min (flen x) len * szT P e:=by
     rw [List.length_take,hnl,Nat.min_eq_left (Nat.mul_le_mul_right _ (Nat.min_le_left _ _))]
    obtain ⟨w1,hw1,hS1⟩:=hS.store (P:=P) hid hl (o:=o) (by rw [hlen];exact hle) hra (fun v hv=>hn1 v (List.mem_of_mem_take hv))
    refine ⟨ι,_,w1,.refl ι,hS1,.sc rfl,?_⟩
    simp only [Builtin.copy_,List.getElem?_toArray,List.getElem?_cons_zero,List.getElem?_cons_succ,Sem.run_bind,run_underlying ht,Result.andThen_ok,hlx,Sem.run_pure,Ql hi,goInt]
    rw [show Nat.min (flen x) len=min (flen x) len from rfl,har]
    simp only [Result.andThen_ok]
    rw [hw1];rfl
   ·cases h
  ·cases h
 ·cases h
def RO (ι : Nat→Option Loc) : Option Value→Option Value→Prop
 | none,none=>True
 | some v,some v'=>RV ι v v'
 | _,_=>False
theorem Ys {x x' : Value} (hx : RV ι x x') {d i y : Nat} (h : bnd (some x) d=some i) (hy : i≤y) (code : BoundsCode) : (Instr.sliceBound x' y code).run P w=.ok i w:=by
 unfold bnd at h
 split at h
 ·cases ‹some x=none›
 ·rename_i k n hk
  cases hk
  split at h
  ·rename_i h0
   cases h
   rw [hx.int_inv]
   simp only [Instr.sliceBound,asIntOf,Sem.run_bind,Sem.run_pure,Result.andThen_ok]
   rw [if_pos ⟨h0,by omega⟩];rfl
  ·cases h
 ·cases h
theorem Y1 {isSlice : Bool} {len cap cap' l h m : Nat} {lo lo' hi hi' mx mx' : Option Value} (hlo : RO ι lo lo') (hhi : RO ι hi hi') (hmx : RO ι mx mx')
  (el : bnd lo 0=some l) (eh : bnd hi len=some h) (em : bnd mx cap=some m) (hlh : l≤h) (hhm : h≤m) (hmc : m≤cap) (hcc : cap≤cap') (hno : mx.isSome→hi.isSome) :
  ∃ m',(Instr.sliceBounds isSlice len cap' lo' hi' mx').run P w=.ok (l,h,m') w∧m≤m'∧(mx.isSome→m'=m)∧(mx=none→m'=cap'∧m=cap):=by
 cases mx with
 | none=>
  cases mx' with
  | some _=>exact hmx.elim
  | none=>
  simp only [bnd,Option.some.injEq] at em
  subst em
  refine ⟨cap',?_,hcc,by simp,by simp⟩
  cases hi with
  | none=>
   cases hi' with
   | some _=>exact hhi.elim
   | none=>
   simp only [bnd,Option.some.injEq] at eh
   subst eh
   cases lo with
   | none=>
    cases lo' with
    | some _=>exact hlo.elim
    | none=>
    simp only [bnd,Option.some.injEq] at el
    subst el
    simp [Instr.sliceBounds]
   | some lv=>
    cases lo' with
    | none=>exact hlo.elim
    | some lv'=>
    have:=Ys (P:=P) (w:=w) hlo el hlh BoundsCode.sliceB
    simp [Instr.sliceBounds,this]
  | some hv=>
   cases hi' with
   | none=>exact hhi.elim
   | some hv'=>
   have hb:=fun code=>Ys (P:=P) (w:=w) hhi eh (Nat.le_trans hhm hcc) code
   cases lo with
   | none=>
    cases lo' with
    | some _=>exact hlo.elim
    | none=>
    simp only [bnd,Option.some.injEq] at el
    subst el
    simp [Instr.sliceBounds,hb]
   | some lv=>
    cases lo' with
    | none=>exact hlo.elim
    | some lv'=>
    have:=Ys (P:=P) (w:=w) hlo el hlh BoundsCode.sliceB
    simp [Instr.sliceBounds,hb,this]
 | some mv=>
  cases mx' with
  | none=>exact hmx.elim
  | some mv'=>
  have hm:=fun code=>Ys (P:=P) (w:=w) hmx em (Nat.le_trans hmc hcc) code
  refine ⟨m,?_,Nat.le_refl _,by simp,by simp⟩
  cases hi with
  | none=>simp at hno
  | some hv=>
   cases hi' with
   | none=>exact hhi.elim
   | some hv'=>
   have hb:=fun code=>Ys (P:=P) (w:=w) hhi eh hhm code
   cases lo with
   | none=>
    cases lo' with
    | some _=>exact hlo.elim
    | none=>
    simp only [bnd,Option.some.injEq] at el
    subst el
    simp [Instr.sliceBounds,hm,hb]
   | some lv=>
    cases lo' with
    | none=>exact hlo.elim
    | some lv'=>
    have:=fun code=>Ys (P:=P) (w:=w) hlo el hlh code
    simp [Instr.sliceBounds,hm,hb,this]
theorem ZeD (hS : Sim G w0 ι H w) {t : TypeId} {x x' : Value} {lo lo' hi hi' : Option Value} (ht : P.underlying t=some .string) (hx : RV ι x x')
  (hlo : RO ι lo lo') (hhi : RO ι hi hi') (h : sls x lo hi H=some (v,H1)) : Res G w0 ι v H1 ((Instr.sliceAt t x' lo' hi' none).run P w):=by
 unfold sls at h
 split at h
 ·rename_i s
  split at h
  ·rename_i l hh el eh
   split at h
   ·rename_i hc
    cases h
    rw [hx.string_inv]
    obtain ⟨m',hm',_⟩:=Y1 (P:=P) (w:=w) (isSlice:=false) (cap:=s.size) (cap':=s.size) (mx:=none) (mx':=none) hlo hhi trivial el eh rfl hc.1 hc.2 (Nat.le_refl _) (Nat.le_refl _) (by simp)
    refine .sc hS rfl ?_
    simp only [Instr.sliceAt,Sem.run_bind,run_underlying ht,Result.andThen_ok,Instr.slice,Option.isSome_none,Bool.false_eq_true,if_false,Sem.run_pure,hm']
   ·cases h
  ·cases h
 ·cases h
theorem ZeV (hS : Sim G w0 ι H w) {t e : TypeId} {ie : TypeInfo} {x x' : Value} {lo lo' hi hi' mx mx' : Option Value} (ht : P.underlying t=some (.slice e)) (he : P.info? e=some ie) (hx : RV ι x x')
  (hlo : RO ι lo lo') (hhi : RO ι hi hi') (hmx : RO ι mx mx') (hno : mx.isSome→hi.isSome) (h : slv (szT P e) x lo hi mx H=some (v,H1)) :
  Res G w0 ι v H1 ((Instr.sliceAt t x' lo' hi' mx').run P w):=by
 have run : ∀ (a : Option Addr) (n c l h m : Nat),(Instr.sliceBounds true n c lo' hi' mx').run P w=.ok (l,h,m) w→
   (Instr.sliceAt t (.slice a n c) lo' hi' mx').run P w=.ok (.slice (if m=l then a else a.map (·.add (l * szT P e))) (h - l) (m - l)) w:=by
  intro a n c l h m hb
  simp [Instr.sliceAt,run_underlying ht,Instr.slice,hb,Ql he]
 unfold slv at h
 split at h
 ·obtain ⟨_,_,rfl⟩:=hx.nils_inv
  split at h
  ·rename_i el eh em
   cases h
   obtain ⟨m',hm',h1,h2,h3⟩:=Y1 (P:=P) (w:=w) (isSlice:=true) (cap:=0) (cap':=0) hlo hhi hmx el eh em (Nat.le_refl _) (Nat.le_refl _) (Nat.le_refl _) (Nat.le_refl _) hno
   have : m'=0:=by
    cases mx with
    | none=>exact (h3 rfl).1
    | some _=>exact h2 rfl
   subst this
   exact .sc hS rfl (by rw [run _ _ _ _ _ _ hm'];rfl)
  ·cases h
 ·obtain ⟨_,_,a',c',hc',rfl⟩:=hx.slcE_inv
  split at h
  ·rename_i el eh
   cases h
   obtain ⟨m',hm',h1,h2,h3⟩:=Y1 (P:=P) (w:=w) (isSlice:=true) (cap:=0) (cap':=c') (m:=0) hlo hhi hmx el eh rfl (Nat.le_refl _) (Nat.le_refl _) (Nat.le_refl _) (Nat.zero_le _) (by simp)
   have : m'=c':=(h3 rfl).1
   subst this
   refine .same hS (.slcE (a':=a') hc') ?_
   rw [run _ _ _ _ _ _ hm']
   congr 2
   split
   ·rfl
   ·simp [Addr.add]
  ·cases h
 ·rename_i id o n c
  split at h
  ·rename_i cs es' g ro hid
   split at h
   ·rename_i l hh m el eh em
    split at h
    ·rename_i hc
     obtain ⟨rfl,hlh,hhm,hmc⟩:=hc
     obtain ⟨lc,c',hl,hlc,hcc,hex,hroom,rfl⟩:=hx.slc_inv
     obtain ⟨_,_,_,hles,hlg,_⟩:=hS.cellsR hid hl
     obtain ⟨m',hm',h1,h2,h3⟩:=Y1 (P:=P) (w:=w) (isSlice:=true) hlo hhi hmx el eh em hlh hhm hmc hcc hno
     have hr:=run (some ⟨lc.blk,lc.base+o,none⟩) n c' l hh m' hm'
     have hm2 : m'≤c':=by
      cases mx with
      | none=>rw [(h3 rfl).1];exact Nat.le_refl _
      | some _=>rw [h2 rfl];omega
     split at h
     ·rename_i hml
      cases h
      have e0 : hh - l=0:=by omega
      rw [e0] at hr
      refine .same hS ?_ hr
      have hsome : ∃ a',(if m'=l then some (⟨lc.blk,lc.base+o,none⟩ : Addr) else (some (⟨lc.blk,lc.base+o,none⟩ : Addr)).map (·.add (l * szT P e)))=some a':=by split <;> exact ⟨_,rfl⟩
      obtain ⟨a',ha'⟩:=hsome
      rw [ha']
      refine .slcE fun hj=>?_
      cases mx with
      | some _=>rw [h2 rfl];omega
      | none=>
       simp only at hj
       cases g with
       | true=>simp at hj
       | false=>
        have:=hex hlg
        have:=h3 rfl
        omega
     ·rename_i hml
      cases h
      rw [if_neg (by omega)] at hr
      simp only [Option.map_some,YD,Nat.add_assoc] at hr
      refine .same hS ?_ hr
      have:=RV.slc (ι:=ι) (id:=id) (o:=o+l * szT P e) (n:=hh - l) (c:=m - l) (c':=m' - l) hl (by omega) (by omega)
       (fun hg=>by
        cases mx with
        | some _=>rw [h2 rfl]
        | none=>have:=hex hg;have:=h3 rfl;omega)
       (by
        have e1 : (m' - l) * lc.es=m' * lc.es - l * lc.es:=Nat.sub_mul _ _ _
        have e2 : l * lc.es≤m' * lc.es:=Nat.mul_le_mul_right _ (by omega)
        have e3 : m' * lc.es≤c' * lc.es:=Nat.mul_le_mul_right _ hm2
        rw [hles] at hroom e1 e2 e3 ⊢
        omega)
      exact this
    ·cases h
   ·cases h
  ·cases h
 ·cases h
theorem WB : ∀ (cs : List Value) (bs : List UInt8),KL cs=some bs→∃ ns : List Int,cs=ns.map (Value.int .u8)∧bs=ns.map fun n=>UInt8.ofNat n.toNat
 | [],bs,h=>⟨[],rfl,by simpa [KL] using h.symm⟩
 | c :: cs,bs,h=>by
  unfold KL at h
  split at h
  ·cases ‹c :: cs=[]›
  ·rename_i n l e
   cases e
   simp only [Option.map_eq_some_iff] at h
   obtain ⟨bs',hb,rfl⟩:=h
   obtain ⟨ns,rfl,rfl⟩:=WB _ _ hb
   exact ⟨n :: ns,rfl,rfl⟩
  ·cases h
theorem ZcS (ns : List Int) : ∀ s : ByteArray,ns.foldl (fun r n=>r.push (UInt8.ofNat n.toNat)) s=⟨s.data++(ns.map fun n=>UInt8.ofNat n.toNat).toArray⟩:=by
 induction ns with
 | nil=>intro s;simp
 | cons n ns ih=>
  intro s
  rw [List.foldl_cons,ih]
  simp [ByteArray.push]
theorem RVs.scalars {cs cs' : List Value} (h : RVs ι cs cs') (hs : ∀ v∈cs,Zy v=true) : cs'=cs:=by
 induction cs generalizing cs' with
 | nil=>exact h.nil_inv
 | cons c cs ih=>
  obtain ⟨c',r,rfl,h1,h2⟩:=h.cons_inv
  rw [h1.scalar_inv (hs c (by simp)),ih h2 fun v hv=>hs v (by simp [hv])]
theorem ZeO (hS : Sim G w0 ι H w) {s d e : TypeId} {x x' : Value} (hs : P.underlying s=some (.slice e)) (he : P.underlying e=some (.int .u8)) (hd : P.underlying d=some .string)
  (hx : RV ι x x') (h : b2s x H=some (v,H1)) : Res G w0 ι v H1 ((convert s d x').run P w):=by
 unfold b2s at h
 split at h
 ·rename_i a n c
  split at h
  ·rename_i cs hcs
   simp only [Option.map_eq_some_iff,Prod.mk.injEq] at h
   obtain ⟨bs,hb,rfl,rfl⟩:=h
   obtain ⟨a',c',rfl,hnone⟩:=hx.slc_none
   rw [run_convert_bytes_string w s d e a' n c' hs he hd]
   obtain ⟨arr,har,hra⟩:=YZ (P:=P) hS hx hcs (Nat.le_refl _)
   have hlen:=KT hx hcs
   rw [List.take_of_length_le (by omega)] at hra
   obtain ⟨ns,rfl,rfl⟩:=WB _ _ hb
   have:=hra.scalars (by intro v hv;obtain ⟨m,_,rfl⟩:=List.mem_map.1 hv;rfl)
   subst this
   refine .sc hS rfl ?_
   cases a' with
   | none=>
    have ha : a=none:=by cases a <;> simp at hnone ⊢
    subst ha
    obtain ⟨rfl,rfl,_⟩:=hx.nils_inv
    simp [flen] at hlen
    subst hlen
    simp [Conv.bytesToString];rfl
   | some a'=>
    simp only [flen,Builtin.firstCells,Nat.mul_one] at har
    rw [run_bytesToString w a' n c' ns har,ZcS]
    simp
  ·cases h
 ·cases h
theorem Ze0 {e : TypeId} {s : ByteArray} {cap : Nat} (hq : Question.cut (.appendCap s.size 0 e) (w.tape w.drawn (.appendCap s.size 0 e))=cap) (hge : s.size≤cap) :
  (Conv.stringToBytes e s).run P w=.ok (.slice (some ⟨w.heap.size,0,none⟩) s.size cap)
   (ZQ { w with drawn:=w.drawn+1 } (.cells (u8s s.data.toList++List.replicate (cap - s.size) (Value.int .u8 0)).toArray e (cap,cap+1))):=by
 have h1 : (choose (.appendCap s.size 0 e)).run P w=.ok cap { w with drawn:=w.drawn+1 }:=by
  rw [run_choose,if_neg (by simp [Question.forced]),hq]
 have harr : (s.data.map fun b : UInt8=>Value.int .u8 b.toNat)++Array.replicate (cap - s.size) (Value.int .u8 0)=
   (u8s s.data.toList++List.replicate (cap - s.size) (Value.int .u8 0)).toArray:=by
  apply Array.ext';simp [u8s]
 have hn : ((u8s s.data.toList++List.replicate (cap - s.size) (Value.int .u8 0)).toArray).size=cap:=by
  simp [u8s];omega
 unfold Conv.stringToBytes
 rw [Sem.run_bind,h1]
 simp only [Result.andThen_ok,harr]
 generalize (u8s s.data.toList++List.replicate (cap - s.size) (Value.int .u8 0)).toArray=arr at hn
 simp only [newRow,Sem.run_bind,run_newObj,Result.andThen_ok,Sem.run_pure,markStringish,run_shape]
 have hsh : World.shape? ({ heap:=w.heap.push (.cells arr e),tape:=w.tape,drawn:=w.drawn+1,os:=w.os,output:=w.output } : World) w.heap.size=some (e,cap):=by
  simp [World.shape?,hn]
 rw [hsh]
 simp only [run_freeze,Result.andThen_ok]
 congr 1
 unfold World.freeze ZQ
 rw [if_neg (by decide)]
 simp only
 congr 1
 apply Array.ext
 ·simp
 ·intro i h1 h2
  rw [Array.getElem_modify]
  split
  ·rename_i e1
   subst e1
   simp
  ·rw [Array.getElem_push,Array.getElem_push]
   rename_i e1
   have : i < w.heap.size:=by simp at h2;omega
   simp [this]
theorem ZeW (hS : Sim G w0 ι H w) {s d e : TypeId} {x x' : Value} (hs : P.underlying s=some .string) (hd : P.underlying d=some (.slice e)) (he : P.underlying e=some (.int .u8))
  (hx : RV ι x x') (h : s2b x H=some (v,H1)) : Res G w0 ι v H1 ((convert s d x').run P w):=by
 unfold s2b at h
 split at h
 ·rename_i str
  unfold Zc3 at h
  cases h
  rw [hx.string_inv]
  generalize hq : Question.cut (.appendCap str.size 0 e) (w.tape w.drawn (.appendCap str.size 0 e))=cap
  have hge : str.size≤cap:=by rw [← hq];simp only [Question.cut];omega
  have hr : RVs ι (u8s str.data.toList) (u8s str.data.toList):=by
   refine ⟨rfl,fun i hi=>?_⟩
   simp only [u8s,List.getD_eq_getElem?_getD,List.getElem?_map]
   cases e : str.data.toList[i]? with
   | none=>simp;exact .un
   | some b=>simp;exact .sc rfl
  have hS2:=hS.congr (w':={ w with drawn:=w.drawn+1 }) rfl
  have hsz : (u8s str.data.toList).length=str.size:=by simp [u8s]
  have hal:=hS2.alloc hr (by unfold u8s;intro v hv;obtain ⟨m,_,rfl⟩:=List.mem_map.1 hv;rfl) (List.replicate (cap - str.size) (.int .u8 0)) e (cap,cap+1) 1 true
   (.inr (by rw [hsz,List.length_replicate];simp only;omega))
  refine ⟨_,.slice (some ⟨w.heap.size,0,none⟩) str.size cap,_,Jd hS _,hal,?_,?_⟩
  ·refine .slc (ZD _ _ _) (Nat.le_refl _) hge (by simp) ?_
   rw [hsz,List.length_replicate];simp only;omega
  ·have hc : (convert s d (.string str)).run P w=(Conv.stringToBytes e str).run P w:=by
    simp [convert,run_underlying hs,run_underlying hd,run_underlying he]
   rw [hc,Ze0 hq hge]
 ·cases h
theorem Zdk {b o n : Nat} {c : Array Value} {el : TypeId} {fr : Nat × Nat} (h : w.heap[b]?=some (.cells c el fr)) (hn : n≠0) :
  w.freeze ⟨b,o,none⟩ n=QP w b (.cells c el (if fr.1==fr.2 then (o,o+n) else (min fr.1 o,max fr.2 (o+n)))):=by
 have hb : b < w.heap.size:=by
  rcases Nat.lt_or_ge b w.heap.size with h1 | h1
  ·exact h1
  ·rw [Array.getElem?_eq_none h1] at h;cases h
 have hg : w.heap[b]=.cells c el fr:=by
  rw [Array.getElem?_eq_getElem hb] at h;simpa using h
 unfold World.freeze QP
 rw [if_neg hn]
 congr 1
 apply Array.ext
 ·simp
 ·intro i h1 h2
  simp only [Array.getElem_modify]
  by_cases e : b=i
  ·subst e;simp [hg]
  ·simp only [if_neg e];rw [Array.getElem_setIfInBounds_ne (by simpa using h2) e]
theorem ZeJ (hS : Sim G w0 ι H w) {s u e : TypeId} {x x' : Value} (hs : P.underlying s=some (.slice u)) (hd : P.underlying s=some (.slice e)) (he : P.underlying e=some (.int .u8))
  (hx : RV ι x x') (h : mrk x H=some (v,H1)) : Res G w0 ι v H1 ((convert s s x').run P w):=by
 unfold mrk at h
 split at h
 ·rename_i id o n cc
  split at h
  ·rename_i cs es g hid
   cases h
   have hx2:=hx
   obtain ⟨l,c',hl,_,_,_,_,rfl⟩:=hx2.slc_inv
   obtain ⟨c,el,fr,h2,h3,hb,h5,h6,hr,h7,h8⟩:=hS.cellsR hid hl
   have hb1 : l.blk < w.heap.size:=by
    rcases Nat.lt_or_ge l.blk w.heap.size with h1 | h1
    ·exact h1
    ·rw [Array.getElem?_eq_none h1] at hb;cases hb
   have hfr : ∀ t,t≤c.size→Zay t fr→Zay t (if fr.1==fr.2 then (c.size,c.size+1) else (min fr.1 c.size,max fr.2 (c.size+1))):=by
    intro t ht hf
    split
    ·exact .inr ht
    ·rename_i hne
     rcases hf with hf | hf
     ·simp [hf] at hne
     ·refine .inr ?_
      simp only;omega
   have hsim : Sim G w0 ι H (QP w l.blk (.cells c el (if fr.1==fr.2 then (c.size,c.size+1) else (min fr.1 c.size,max fr.2 (c.size+1))))):=by
    refine ⟨fun i oi hi=>?_,hS.inj,by simpa using hS.size,fun b hb=>?_,hS.dom,hS.glob,hS.rest,fun b hb=>?_,fun j cs' es' nx' lj hj hlj=>?_⟩
    ·have hR:=hS.obj i oi hi
     cases oi with
     | dead=>trivial
     | view cs' es' nx'=>obtain ⟨l',h1,h2⟩:=hR;exact ⟨l',h1,by simpa using h2⟩
     | cells ci ei gi ri=>
      obtain ⟨li,c1,el1,fr1,k1,k2,k3,k4,k5,k6,k7,k8,k9⟩:=hR
      by_cases hbb : li.blk=l.blk
      ·rw [hbb,hb] at k4
       cases k4
       refine ⟨li,c,el,_,k1,k2,k3,by rw [hbb];exact YO hb1,k5,k6,k7,fun hr=>⟨(k8 hr).1,hfr _ k6 (k8 hr).2.1,(k8 hr).2.2⟩,k9⟩
      ·exact ⟨li,c1,el1,fr1,k1,k2,k3,by rw [ZW hbb];exact k4,k5,k6,k7,k8,k9⟩
     | map es clk=>
      obtain ⟨li,en,k1,k2,k3,k4⟩:=hR
      refine ⟨li,en,k1,?_,k3,k4⟩
      by_cases hbb : li.blk=l.blk
      ·rw [hbb,hb] at k2;cases k2
      ·rw [ZW hbb];exact k2
     | mapU es=>
      obtain ⟨li,en,clk,es2,k1,k2,k3,k4⟩:=hR
      refine ⟨li,en,clk,es2,k1,?_,k3,k4⟩
      by_cases hbb : li.blk=l.blk
      ·rw [hbb,hb] at k2;cases k2
      ·rw [ZW hbb];exact k2
     | siter s pos=>
      obtain ⟨li,k1,k2,k3⟩:=hR
      refine ⟨li,k1,?_,k3⟩
      by_cases hbb : li.blk=l.blk
      ·rw [hbb,hb] at k2;cases k2
      ·rw [ZW hbb];exact k2
     | loop fn lv p xs cd regs st pd=>
      obtain ⟨li,rf,tmps,D,k1,k2,k3⟩:=hR
      refine ⟨li,rf,tmps,D,k1,?_,k3⟩
      by_cases hbb : li.blk=l.blk
      ·rw [hbb,hb] at k2;cases k2
      ·rw [ZW hbb];exact k2
    ·rw [ZW (by have:=(h7 rfl).1;omega)];exact hS.old b hb
    ·obtain ⟨p1,p2,p3⟩:=hS.prot b hb
     exact ⟨by rw [ZW (Ne.symm (p3 id _ l hid (by simp) hl))];exact p1,p2,p3⟩
    ·refine (hS.views j cs' es' nx' lj hj hlj).to (.refl ι) fun h1 _=>⟨fun c2 el2 fr2 hc=>?_,h1⟩
     by_cases hbb : lj.blk=l.blk
     ·rw [hbb,hb] at hc
      cases hc
      exact ⟨_,by rw [hbb];exact YO hb1⟩
     ·exact ⟨fr2,by rw [ZW hbb];exact hc⟩
   refine ⟨ι,_,_,.refl ι,hsim,hx,?_⟩
   rw [hs] at hd;cases hd
   have hsh : w.shape? l.blk=some (el,c.size):=by simp [World.shape?,hb]
   simp only [convert,Sem.run_bind,run_underlying hs,run_underlying he,Result.andThen_ok,beq_self_eq_true,markStringish,run_shape,hsh,run_freeze,Zdk hb (Nat.succ_ne_zero 0),Sem.run_pure]
  ·cases h
 ·cases h
theorem ZdV (hS : Sim G w0 ι H w) {t : TypeId} {x x' : Value} (ht : P.underlying t=some .string) (hx : RV ι x x') (h : Zc0 x H=some (v,H1)) : Res G w0 ι v H1 ((Instr.range t x').run P w):=by
 unfold Zc0 at h
 split at h
 ·rw [hx.string_inv]
  cases h
  rename_i s
  have hnew:=hS.new (x:=.siter s 0) (l:=⟨w.heap.size,0,0,0,false⟩) (.stringIter s 0) rfl ⟨_,ZD _ _ _,Yr w _,hS.size,rfl⟩
  exact ⟨_,_,_,Jd hS _,hnew,.ptr (ZD _ _ _),by simp [Instr.range,run_underlying ht];rfl⟩
 ·cases h
theorem Zd9 (hS : Sim G w0 ι H w) {t : TypeId} {x x' : Value} (hx : RV ι x x') (h : Zde x H=some (v,H1)) : Res G w0 ι v H1 ((Instr.next x' true t).run P w):=by
 unfold Zde at h
 split at h
 ·rename_i id
  obtain ⟨l,hl,rfl⟩:=hx.ptr_inv
  split at h
  ·rename_i s pos hid
   obtain ⟨l2,k1,k2,k3,k4⟩:=hS.obj id _ hid
   rw [hl] at k1;cases k1
   have hg : (getObj l.blk).run P w=.ok (.stringIter s pos) w:=by simp [getObj,Sem.run,k2]
   split at h
   ·rename_i hlt
    cases h
    have hset:=hS.set (new:=.siter s (pos+(Utf8.decode s pos).2)) (o':=.stringIter s (pos+(Utf8.decode s pos).2)) hid rfl hl rfl fun w' hw'=>⟨l,hl,hw',k3,k4⟩
    have hs : (setObj l.blk (.stringIter s (pos+(Utf8.decode s pos).2))).run P w=.ok () (QP w l.blk (.stringIter s (pos+(Utf8.decode s pos).2))):=by simp [setObj,Sem.run,k2,QP]
    refine ⟨_,_,_,.refl ι,hset,.tup (a':=#[.bool true,.int .i64 pos,.int .i32 ((Utf8.decode s pos).1 : Nat)]) rfl fun i hi=>?_,?_⟩
    ·match i,hi with
     | 0,_=>exact .sc rfl
     | 1,_=>exact .sc rfl
     | 2,_=>exact .sc rfl
     | i+3,h=>simp at h;omega
    ·simp [Instr.next,k4,hg,hlt,hs,goInt]
   ·rename_i hlt
    cases h
    refine ⟨_,_,_,.refl ι,hS,.tup (a':=#[.bool false]) rfl fun i hi=>?_,?_⟩
    ·match i,hi with
     | 0,_=>exact .sc rfl
     | i+1,h=>simp at h
    ·simp [Instr.next,k4,hg,hlt]
  ·cases h
 ·cases h
end
end Go.Proofs.Ytfefblgkfdaekaa.A
namespace Go.Proofs.Ytfefblgkfdaekaa.A
set_option linter.unusedVariables false
set_option linter.unusedSimpArgs false
section
variable {P : Program} {G : Nat} {w0 : Zg} {ι : Nat→Option Loc} {H H1 : Zb} {w : World} {v : Value}
theorem Zai (off : Nat) : ∀ (l : List Value) (j : Nat) (cs : Array Value),off+j+l.length≤cs.size→
  (l.zipIdx j).foldl (fun (cs : Array Value) (p : Value × Nat)=>cs.setIfInBounds (off+p.2) p.1) cs=JN cs l (off+j)
 | [],j,cs,_=>by simp [JN,KU]
 | u :: l,j,cs,h=>by
  have h' : off+(j+1)+l.length≤(cs.setIfInBounds (off+j) u).size:=by simp at h ⊢;omega
  rw [List.zipIdx_cons,List.foldl_cons,Zai off l (j+1) _ h']
  unfold JN
  have e : (cs.setIfInBounds (off+j) u).toList=cs.toList.set (off+j) u:=by simp
  rw [e,show off+(j+1)=off+j+1 by omega,Kz (by simp at h ⊢;omega)]
theorem Wv {u u' : Value} (h : RV ι u u') (hu : Yx u=false) : RVs ι u.cells.toList u'.cells.toList:=by
 have h2:=h
 cases h with
 | agg h1 h3=>exact .of_arr h1 h3
 | un=>simp [Yx] at hu
 | nw=>simp [Yx] at hu
 | tup h1 h3=>simp [Yx] at hu
 | sc hs=>cases u <;> simp [Zy] at hs <;> exact .cons h2 .nil
 | _=>exact .cons h2 .nil
inductive PR (ι : Nat→Option Loc) (place : Nat→Option (Nat × Nat)) : List (Nat × Nat × Value)→List (Nat × Value)→Prop where
 | nil : PR ι place [] []
 | cons {off size i : Nat} {u u' : Value} {ps : List (Nat × Nat × Value)} {qs : List (Nat × Value)} : place i=some (off,size)→RV ι u u'→PR ι place ps qs→
   PR ι place ((off,size,u) :: ps) ((i,u') :: qs)
theorem ZbT {place : Nat→Option (Nat × Nat)} {ps : List (Nat × Nat × Value)} {qs : List (Nat × Value)} (h : PR ι place ps qs) :
  ∀ {cs cs1 : List Value} {c : Array Value},RVs ι cs c.toList→KC cs ps=some cs1→∃ c1,Instr.fill place c qs=some c1∧RVs ι cs1 c1.toList:=by
 induction h with
 | nil=>intro cs cs1 c hr hb;cases hb;exact ⟨c,rfl,hr⟩
 | @cons off size i u u' ps qs hp hu _ ih=>
  intro cs cs1 c hr hb
  simp only [KC] at hb
  split at hb
  ·rename_i hc
   obtain ⟨h1,h2,h3⟩:=hc
   have hcr:=Wv hu h1
   have hsz : u'.cells.size=size:=by have:=hcr.1;simp at this;omega
   have hlen:=hr.1
   simp only [Array.length_toList] at hlen
   have hfold:=Zai off u'.cells.toList 0 c (by simp;omega)
   have hr2 : RVs ι (splice cs u.cells.toList off) (JN c u'.cells.toList off).toList:=hr.splice hcr
   obtain ⟨c1,hc1,hr1⟩:=ih hr2 hb
   refine ⟨c1,?_,hr1⟩
   simp only [Instr.fill,hp]
   rw [if_neg (by simp;omega)]
   rw [← Array.foldl_toList,Array.toList_zipIdx]
   have e : (List.foldl (fun (cs : Array Value) (x : Value × Nat)=>match x with | (c,j)=>cs.setIfInBounds (off+j) c) c (u'.cells.toList.zipIdx 0))=JN c u'.cells.toList off:=hfold
   rw [e];exact hc1
  ·cases hb
theorem Kq : ∀ (l : List Field),(l.all fun f=>(P.info? f.type).isSome)=true→
  (l.mapM (m:=Sem) fun f=>do pure (f.offset,← sizeOf f.type)).run P w=.ok (l.map fun f=>(f.offset,szT P f.type)) w
 | [],_=>rfl
 | f :: l,h=>by
  simp only [List.all_cons,Bool.and_eq_true] at h
  obtain ⟨i,hi⟩:=Option.isSome_iff_exists.1 h.1
  have ih:=Kq l h.2
  simp only [List.mapM_cons,Sem.run_bind,Ql hi,Result.andThen_ok,Sem.run_pure,ih,List.map_cons]
theorem ZcJ (hS : Sim G w0 ι H w) {t : TypeId} {ps : List (Nat × Nat × Value)} {qs : Array (Nat × Value)} {place : Nat→Option (Nat × Nat)} (ht : Jt P t=true) (hf : YC P t=true)
  (hpl : (∃ fs,P.underlying t=some (.struct fs)∧place=fun i=>(fs[i]?).map fun f=>(f.offset,szT P f.type))∨
   (∃ n e,P.underlying t=some (.array n e)∧place=fun i=>some (i * szT P e,szT P e)))
  (hp : PR ι place ps qs.toList) (h : bld (zeT P t) ps H=some (v,H1)) : Res G w0 ι v H1 ((Instr.build t qs).run P w):=by
 unfold bld at h
 simp only [Option.map_eq_some_iff,Prod.mk.injEq] at h
 obtain ⟨cs1,hb,rfl,rfl⟩:=h
 obtain ⟨i,hi,hz,hc,hzr⟩:=Jj ht
 have hzc : RVs ι (zeT P t).cells.toList (zeT P t).cells.toList:=by
  have hcc:=RV.const (ι:=ι) hc
  by_cases e : Yx (zeT P t)=true
  ·have : ∃ a,zeT P t=.tuple a:=by cases h2 : zeT P t <;> simp [h2,Yx] at e ⊢
   obtain ⟨a,ha⟩:=this
   rw [ha] at hcc ⊢
   exact .cons hcc .nil
  ·exact Wv hcc (by simpa using e)
 obtain ⟨c1,hc1,hr1⟩:=ZbT hp hzc hb
 refine .same hS (.aggL hr1) ?_
 rcases hpl with ⟨fs,hu,rfl⟩ | ⟨n,e,hu,rfl⟩
 ·have hall : (fs.toList.all fun f=>(P.info? f.type).isSome)=true:=by unfold YC at hf;rw [hu] at hf;exact hf
  have hm:=Kq (P:=P) (w:=w) fs.toList hall
  have hm2 : (fs.mapM (m:=Sem) fun f=>do pure (f.offset,← sizeOf f.type)).run P w=.ok (fs.map fun f=>(f.offset,szT P f.type)) w:=by
   rw [Array.mapM_eq_mapM_toList,Sem.run_map,hm]
   simp only [Result.andThen_ok]
   congr 1
   apply Array.ext';simp
  simp only [Instr.build,Sem.run_bind,hzr,Result.andThen_ok,run_underlying hu,hm2]
  have hpl2 : (fun i : Nat=>(fs.map fun f : Field=>(f.offset,szT P f.type))[i]?)=fun i : Nat=>(fs[i]?).map fun f : Field=>(f.offset,szT P f.type):=by
   funext i;simp
  simp only [hpl2,hc1]
  rfl
 ·have hei : ∃ ie,P.info? e=some ie:=by
   unfold YC at hf;rw [hu] at hf
   exact Option.isSome_iff_exists.1 hf
  obtain ⟨ie,hie⟩:=hei
  simp only [Instr.build,Sem.run_bind,hzr,Result.andThen_ok,run_underlying hu,Ql hie,hc1]
  rfl
theorem JT (n : Nat) (z : List Value) : (reps n z).length=n * z.length:=by
 induction n with
 | zero=>simp [reps]
 | succ n ih=>
  have e : reps (n+1) z=z++reps n z:=by simp [reps,List.replicate_succ]
  rw [e,List.length_append,ih,Nat.add_mul,Nat.one_mul,Nat.add_comm]
theorem ZbS (z : List Value) : ∀ (n i : Nat),i < n * z.length→(reps n z)[i]?=z[i % z.length]?
 | 0,i,h=>by simp at h
 | n+1,i,h=>by
  have e : reps (n+1) z=z++reps n z:=by simp [reps,List.replicate_succ]
  rw [e]
  rcases Nat.lt_or_ge i z.length with hi | hi
  ·rw [List.getElem?_append_left hi,Nat.mod_eq_of_lt hi]
  ·rw [List.getElem?_append_right hi,ZbS z n (i - z.length) (by rw [Nat.add_mul] at h;omega),← Nat.mod_eq_sub_mod hi]
theorem We {z : Array Value} {n : Nat} : ((Array.range (n * z.size)).map fun i=>z[i % z.size]!).toList=reps n z.toList:=by
 apply List.ext_getElem?
 intro i
 rcases Nat.lt_or_ge i (n * z.size) with hi | hi
 ·have hpos : 0 < z.size:=by
   rcases Nat.eq_zero_or_pos z.size with h | h
   ·rw [h] at hi;simp at hi
   ·exact h
  have hm:=Nat.mod_lt i hpos
  rw [ZbS _ _ _ (by simpa using hi)]
  simp [hi,hm,getElem!_pos,Array.getElem?_eq_getElem]
 ·rw [List.getElem?_eq_none (by simpa using hi),List.getElem?_eq_none (by rw [JT];simpa using hi)]
theorem RVs.reps {z z' : List Value} (h : RVs ι z z') : ∀ n,RVs ι (A.reps n z) (A.reps n z')
 | 0=>.nil
 | n+1=>by
  have e : ∀ y : List Value,A.reps (n+1) y=y++A.reps n y:=fun y=>by simp [A.reps,List.replicate_succ]
  rw [e,e];exact h.append (RVs.reps h n)
theorem ZbO {z : List Value} {n : Nat} {u : Value} (h : u∈reps n z) : u∈z:=by
 unfold reps at h
 simp only [List.mem_flatten,List.mem_replicate] at h
 obtain ⟨l,⟨_,rfl⟩,hu⟩:=h
 exact hu
theorem KB {z : Value} (h : Y5 z=true) (ht : Yx z=false) : (∀ u∈z.cells.toList,Zy u=true)∧RVs ι z.cells.toList z.cells.toList:=by
 have h1 : ∀ u∈z.cells.toList,Zy u=true:=by
  cases z with
  | agg cs=>intro u hu;simp only [Y5,Value.cells] at h hu;rw [← Array.all_toList] at h;exact List.all_eq_true.1 h u hu
  | tuple=>simp [Yx] at ht
  | _=>intro u hu;simp only [Value.cells,List.mem_singleton] at hu;subst hu;exact h
 exact ⟨h1,Wv (.const h) ht⟩
theorem ZaB {u : Value} (h : Zy u=true) : oneCell u=true:=by cases u <;> first | rfl | simp [Zy] at h
theorem Zeu (hS : Sim G w0 ι H w) {t e : TypeId} {len : Nat} {ps : List (Nat × Nat × Value)} {qs : Array (Nat × Value)} (ht : P.underlying t=some (.slice e)) (he : okE P e=true)
  (hle : len * szT P e≤16777216) (hp : PR ι (fun i=>some (i * szT P e,szT P e)) ps qs.toList) (h : bsl (szT P e) len (zeT P e) ps H=some (v,H1)) :
  Res G w0 ι v H1 ((Instr.buildSlice t len qs).run P w):=by
 unfold bsl at h
 split at h
 ·rename_i cs hb
  split at h
  ·rename_i h1
   unfold Zc3 at h
   cases h
   obtain ⟨i,hi,hz,hzr⟩:=Yk he
   obtain ⟨hh,htup⟩:=Zav he
   obtain ⟨_,_,_,hc,_⟩:=Jj hh
   have hzc:=(KB (ι:=ι) hc htup).2
   have hcells : ((Array.range (len * szT P e)).map fun i=>(if len * szT P e=0 then #[] else (zeT P e).cells)[i % (if len * szT P e=0 then #[] else (zeT P e).cells).size]!).toList=reps len (zeT P e).cells.toList:=by
    by_cases h0 : len * szT P e=0
    ·rw [h0]
     have : (reps len (zeT P e).cells.toList).length=0:=by rw [JT];simpa [hz] using h0
     simpa using (List.length_eq_zero_iff.1 this).symm
    ·simp only [h0,if_false]
     rw [← hz];exact We
   obtain ⟨c1,hc1,hr1⟩:=ZbT hp (c:=(Array.range (len * szT P e)).map fun i=>(if len * szT P e=0 then #[] else (zeT P e).cells)[i % (if len * szT P e=0 then #[] else (zeT P e).cells).size]!)
    (by rw [hcells];exact hzc.reps len) hb
   have hal:=hS.alloc hr1 (List.all_eq_true.1 h1) [] e (0,0) (szT P e) false (.inl rfl)
   have hlen : cs.length=len * szT P e:=by
    have:=hr1.1
    have h2 : ∀ (ps : List (Nat × Nat × Value)) (a b : List Value),KC a ps=some b→b.length=a.length:=by
     intro ps
     induction ps with
     | nil=>intro a b h;cases h;rfl
     | cons p ps ih=>
      intro a b h
      obtain ⟨o,s,u⟩:=p
      simp only [KC] at h
      split at h
      ·rename_i hc
       rw [ih _ _ h,Jw (by simp;omega)]
      ·cases h
    rw [h2 _ _ _ hb,JT];simp [hz]
   refine ⟨_,.slice (some ⟨w.heap.size,0,none⟩) len len,_,Jd hS _,hal,?_,?_⟩
   ·refine .slc (ZD _ _ _) (Nat.le_refl _) (Nat.le_refl _) (by simp) ?_
    have:=hr1.1
    simp only [List.length_nil,Nat.add_zero,Nat.zero_add]
    omega
   ·simp only [Instr.buildSlice,Sem.run_bind,run_underlying ht,Result.andThen_ok,Ql hi]
    rw [if_neg (by omega)]
    by_cases h0 : len * szT P e=0
    ·simp only [h0,if_true] at hc1
     simp only [Sem.run_bind,Sem.run_pure,Result.andThen_ok,h0,if_true,hc1,newRow,run_newObj]
     simp [ZQ]
    ·simp only [h0,if_false] at hc1
     simp only [Sem.run_bind,Sem.run_pure,Result.andThen_ok,h0,if_false,hzr,hc1,newRow,run_newObj]
     simp [ZQ]
  ·cases h
 ·cases h
theorem ZeQ (hS : Sim G w0 ι H w) {t e : TypeId} {len len' cap cap' : Value} (ht : P.underlying t=some (.slice e)) (he : okE P e=true)
  (hl : RV ι len len') (hc : RV ι cap cap') (h : mks (szT P e) (byT P e) (zeT P e) len cap H=some (v,H1)) : Res G w0 ι v H1 ((Instr.makeSlice t len' cap').run P w):=by
 unfold mks at h
 split at h
 ·rename_i k l k' c
  split at h
  ·rename_i hcond
   obtain ⟨h0,hlc,hby,hcm⟩:=hcond
   cases h
   rw [hl.int_inv,hc.int_inv]
   obtain ⟨i,hi,hz,hzr⟩:=Yk he
   obtain ⟨_,hbyi,_⟩:=ZaN (P:=P) (w:=w) hi
   obtain ⟨hh,htup⟩:=Zav he
   obtain ⟨_,_,_,hcst,_⟩:=Jj hh
   obtain ⟨hsc,hzc⟩:=KB (ι:=ι) hcst htup
   have hwl : IntKind.i64.wrap l=l:=by unfold IntKind.wrap;simp [IntKind.bits,IntKind.signed];omega
   have hwc : IntKind.i64.wrap c=c:=by unfold IntKind.wrap;simp [IntKind.bits,IntKind.signed];omega
   have hti : ∀ w,(typeInfo e).run P w=.ok i w:=fun w=>run_typeInfo w hi
   have hal:=hS.alloc (hzc.reps c.toNat) (fun u hu=>ZaB (hsc u (ZbO hu))) [] e (0,0) (szT P e) false (.inl rfl)
   refine ⟨_,.slice (some ⟨w.heap.size,0,none⟩) l.toNat c.toNat,_,Jd hS _,hal,?_,?_⟩
   ·refine .slc (ZD _ _ _) (by omega) (Nat.le_refl _) (by simp) ?_
    rw [JT]
    simp [hz]
   ·have hn1 : ¬ ((decide (c < 0) || decide ((i.bytes : Int) * c > 2 ^ 48)) || decide (l < 0) || decide (l > c))=true:=by
     simp only [Bool.or_eq_true,decide_eq_true_eq,hbyi]
     have : (byT P e : Int) * c=c * byT P e:=Int.mul_comm _ _
     omega
    have hcells : ((Array.range (c.toNat * szT P e)).map fun i=>(if c.toNat * szT P e=0 then #[] else (zeT P e).cells)[i % (if c.toNat * szT P e=0 then #[] else (zeT P e).cells).size]!)=(reps c.toNat (zeT P e).cells.toList).toArray:=by
     apply Array.ext'
     by_cases h0 : c.toNat * szT P e=0
     ·rw [h0]
      have : (reps c.toNat (zeT P e).cells.toList).length=0:=by rw [JT];simpa [hz] using h0
      simpa using (List.length_eq_zero_iff.1 this).symm
     ·simp only [h0,if_false]
      rw [← hz];exact We
    simp only [Instr.makeSlice,Sem.run_bind,run_underlying ht,Result.andThen_ok,asInt,asIntOf,Sem.run_pure,hti,hwl,hwc]
    rw [if_neg hn1]
    by_cases h0 : c.toNat * szT P e=0
    ·simp only [h0,if_true] at hcells
     simp only [Sem.run_bind,run_askRoom,Sem.run_pure,Result.andThen_ok,Ql hi,h0,if_true,hcells,newRow,run_newObj]
     simp [ZQ]
    ·simp only [h0,if_false] at hcells
     simp only [Sem.run_bind,run_askRoom,Sem.run_pure,Result.andThen_ok,Ql hi,h0,if_false,hzr,hcells,newRow,run_newObj]
     simp [ZQ]
  ·cases h
 ·cases h
end
end Go.Proofs.Ytfefblgkfdaekaa.A
namespace Go.Proofs.Ytfefblgkfdaekaa.A
set_option linter.unusedVariables false
set_option linter.unusedSimpArgs false
section
variable {P : Program} {G : Nat} {w0 : Zg} {ι : Nat→Option Loc} {H H1 : Zb} {w : World} {v : Value}
theorem Sim.mapR (h : Sim G w0 ι H w) {id : Nat} {es : List (Value × Value × Nat)} {clk : Nat} {l : Loc} (hid : H[id]?=some (.map es clk)) (hl : ι id=some l) :
  ∃ en,w.heap[l.blk]?=some (.map en clk)∧w0.heap.size≤l.blk∧J1 ι es en:=by
 obtain ⟨l',en,h1,h2,h3,h4⟩:=h.obj id _ hid
 rw [hl] at h1;cases h1
 exact ⟨en,h2,h3,h4⟩
theorem Sim.mapUR (h : Sim G w0 ι H w) {id : Nat} {es : List (Value × Value × Nat)} {l : Loc} (hid : H[id]?=some (.mapU es)) (hl : ι id=some l) :
  ∃ en clk es2,w.heap[l.blk]?=some (.map en clk)∧w0.heap.size≤l.blk∧J1 ι es2 en∧Jr es2 clk es:=by
 obtain ⟨l',en,clk,es2,h1,h2,h3,h4⟩:=h.obj id _ hid
 rw [hl] at h1;cases h1
 exact ⟨en,clk,es2,h2,h3,h4⟩
theorem Zej (hS : Sim G w0 ι H w) {t k e ty : TypeId} {x x' : Value} (ht : P.underlying t=some (.map k e)) (hx : RV ι x x') (h : Zb9 x H=some (v,H1)) :
  Res G w0 ι v H1 ((Builtin.len_ #[t] ty #[x']).run P w):=by
 unfold Zb9 at h
 split at h
 ·cases h
  rw [hx.scalar_inv rfl]
  exact .sc hS rfl (by simp [Builtin.len_,run_underlying ht,goInt])
 ·split at h
  ·rename_i hid
   cases h
   obtain ⟨l,hl,rfl⟩:=hx.map_inv
   obtain ⟨en,hb,_,hr⟩:=hS.mapR hid hl
   refine .sc hS rfl ?_
   have:=hr.length
   simp only [Array.length_toList] at this
   simp [Builtin.len_,run_underlying ht,goInt,getObj,Sem.run,hb,this]
  ·rename_i hid
   cases h
   obtain ⟨l,hl,rfl⟩:=hx.map_inv
   obtain ⟨en,clk,es2,hb,_,hr,hp⟩:=hS.mapUR hid hl
   refine .sc hS rfl ?_
   have:=hr.length
   simp only [Array.length_toList] at this
   have h2:=hp.perm.length_eq
   simp only [List.length_map] at h2
   simp [Builtin.len_,run_underlying ht,goInt,getObj,Sem.run,hb,← h2,this]
  ·cases h
 ·cases h
theorem Zbu {kt : TypeId} {d : TypeDesc} (hu : P.underlying kt=some d) {k u : Value} {b : Bool} (h : YG (tkT P kt) k u=some b) : Instr.sameNow d k u=some b:=by
 generalize htk : tkT P kt=tk at h
 unfold YG at h
 split at h
 ·obtain ⟨q,hq⟩:=ZdG htk
  rw [hu] at hq
  cases hq
  split at h
  ·simp_all [Instr.sameNow]
  ·cases h
 ·have hq:=Zdv htk
  rw [hu] at hq
  cases hq
  simp_all [Instr.sameNow]
 ·have hq:=Zbh htk
  rw [hu] at hq
  cases hq
  simp_all [Instr.sameNow]
 ·cases h
theorem QL {kt : TypeId} {d : TypeDesc} (hu : P.underlying kt=some d) {k : Value} : ∀ {es : List (Value × Value × Nat)} {en : List MapEntry} (i : Nat) {r : Option (Nat × Value)},Z4 ι es en→
  Qq (tkT P kt) k es i=some r→∃ r',Instr.findNow d k en i=some r'∧(match r,r' with
   | none,none=>True
   | some (j,u),some (j',u')=>j=j'∧RV ι u u'∧i≤j∧∃ e,es[j - i]?=some e∧e.2.1=u∧YG (tkT P kt) k e.1=some true
   | _,_=>False)
 | [],[],i,r,_,h=>by cases h;exact ⟨none,rfl,trivial⟩
 | e :: es,n :: ns,i,r,hr,h=>by
  simp only [Qq] at h
  split at h
  ·rename_i hk
   cases h
   refine ⟨some (i,n.val),?_,rfl,hr.1.2.2.1,Nat.le_refl _,e,by simp,rfl,hk⟩
   simp [Instr.findNow,hr.1.2.1,Zbu hu hk]
  ·rename_i hk
   obtain ⟨r',h1,h2⟩:=QL hu (i+1) hr.2 h
   refine ⟨r',?_,?_⟩
   ·simp [Instr.findNow,hr.1.2.1,Zbu hu hk,h1]
   ·cases r with
    | none=>
     cases r' with
     | none=>trivial
     | some _=>exact h2.elim
    | some p=>
     cases r' with
     | none=>exact h2.elim
     | some p'=>
      obtain ⟨h3,h4,h5,e',h6,h7⟩:=h2
      refine ⟨h3,h4,by omega,e',?_,h7⟩
      have : p.1 - i=(p.1 - (i+1))+1:=by omega
      rw [this];simpa using h6
  ·cases h
 | [],_ :: _,_,_,hr,_=>hr.elim
 | _ :: _,[],_,_,hr,_=>hr.elim
theorem ZP {kt : TypeId} {d : TypeDesc} (hu : P.underlying kt=some d) {k : Value} {es : List MapEntry} {r : Option (Nat × Value)} (h : Instr.findNow d k es 0=some r) :
  (Instr.findKey kt k es).run P w=.ok r w:=by
 simp [Instr.findKey,run_underlying hu,h]
theorem JP {kt : TypeId} {k : Value} (h : okK (tkT P kt) k=true) : ∃ d,P.underlying kt=some d∧Zy k=true∧∀ b w,(Instr.checkKey b 10000 kt k).run P w=.ok () w:=by
 have key : ∀ d,P.underlying kt=some d→okK (tkT P kt) k=true→Zy k=true∧∀ n b w,(Instr.checkKey b (n+1) kt k).run P w=.ok () w:=by
  intro d hd h
  generalize htk : tkT P kt=tk at h
  unfold okK at h
  split at h
  ·obtain ⟨q,hq⟩:=ZdG htk
   rw [hd] at hq
   cases hq
   exact ⟨rfl,fun n b w=>by simp [Instr.checkKey,run_underlying hd]⟩
  ·have hq:=Zdv htk
   rw [hd] at hq
   cases hq
   exact ⟨rfl,fun n b w=>by simp [Instr.checkKey,run_underlying hd]⟩
  ·have hq:=Zbh htk
   rw [hd] at hq
   cases hq
   exact ⟨rfl,fun n b w=>by simp [Instr.checkKey,run_underlying hd]⟩
  ·cases h
 cases hd : P.underlying kt with
 | none=>unfold tkT at h;rw [hd] at h;simp [okK] at h
 | some d=>
  obtain ⟨h1,h2⟩:=key d hd h
  exact ⟨d,rfl,h1,fun b w=>h2 9999 b w⟩
theorem ZO {b : Nat} {en : Array MapEntry} {clk : Nat} (h : w.heap[b]?=some (.map en clk)) : (getObj b).run P w=.ok (.map en clk) w:=by
 simp [getObj,Sem.run,h]
theorem Qv {b : Nat} {en : Array MapEntry} {clk : Nat} {o : Obj} (h : w.heap[b]?=some (.map en clk)) : (setObj b o).run P w=.ok () (QP w b o):=by
 simp [setObj,Sem.run,h,QP]
theorem ZcE (a b : ByteArray) : (a==b)=(a.data==b.data):=rfl
theorem Zfh {a b : ByteArray} (h : (a==b)=true) : a=b:=by
 rw [ZcE] at h;cases a;cases b;simpa using h
theorem ZcL (a : ByteArray) : (a==a)=true:=by rw [ZcE];simp
theorem KR {tk : TK} {k u : Value} (h : YG tk k u=some true) : k=u:=by
 unfold YG at h
 split at h
 ·split at h
  ·rename_i hk;subst hk;simp at h;subst h;rfl
  ·cases h
 ·simp only [Option.some.injEq] at h;rw [Zfh h]
 ·simp at h;subst h;rfl
 ·cases h
theorem Zd2 {tk : TK} {k u : Value} (h : YG tk k u=some false) : k≠u:=by
 rintro rfl
 cases tk <;> cases k <;> simp [YG,ZcL] at h
theorem YW {tk : TK} {k : Value} : ∀ {es : List (Value × Value × Nat)} {i : Nat},Qq tk k es i=some none→∀ e∈es,e.1≠k
 | [],_,_,e,he=>by cases he
 | a :: es,i,h,e,he=>by
  simp only [Qq] at h
  split at h
  ·cases h
  ·rename_i hk
   rcases List.mem_cons.1 he with rfl | he
   ·exact fun e=>Zd2 hk e.symm
   ·exact YW h e he
  ·cases h
theorem Jz {tk : TK} {k : Value} : ∀ {es : List (Value × Value × Nat)} {i j : Nat} {u : Value},Qq tk k es i=some (some (j,u))→∃ e,i≤j∧es[j - i]?=some e∧e.1=k∧e.2.1=u
 | [],_,_,_,h=>by cases h
 | a :: es,i,j,u,h=>by
  simp only [Qq] at h
  split at h
  ·rename_i hk
   cases h
   exact ⟨a,Nat.le_refl _,by simp,(KR hk).symm,rfl⟩
  ·obtain ⟨e,h1,h2,h3⟩:=Jz h
   refine ⟨e,by omega,?_,h3⟩
   have : j - i=(j - (i+1))+1:=by omega
   rw [this];simpa using h2
  ·cases h
theorem Zbw {s : ByteArray} : ∀ {es : List (Value × Value × Nat)} {i : Nat},(∀ e∈es,∃ s,e.1=.string s)→∃ r,Qq .str (.string s) es i=some r
 | [],_,_=>⟨_,rfl⟩
 | a :: es,i,h=>by
  obtain ⟨t,ht⟩:=h a (by simp)
  simp only [Qq,ht,YG]
  cases s==t
  ·exact Zbw fun e he=>h e (by simp [he])
  ·exact ⟨_,rfl⟩
theorem Zb3 {es : List (Value × Value × Nat)} : (es.map kv).map (·.1)=es.map (·.1):=by simp [kv,Function.comp_def]
theorem Jr.strs {es2 es : List (Value × Value × Nat)} {clk : Nat} (h : Jr es2 clk es) : ∀ e∈es2,∃ s,e.1=.string s:=by
 intro e he
 have : kv e∈es.map kv:=h.perm.mem_iff.1 (List.mem_map.2 ⟨e,he,rfl⟩)
 obtain ⟨e',h1,h2⟩:=List.mem_map.1 this
 obtain ⟨s,hs⟩:=h.k.str e' h1
 exact ⟨s,by rw [← hs];exact (congrArg Prod.fst h2).symm⟩
theorem Jr.nod2 {es2 es : List (Value × Value × Nat)} {clk : Nat} (h : Jr es2 clk es) : (es2.map (·.1)).Nodup:=by
 rw [← Zb3]
 refine ((h.perm.map (·.1)).nodup_iff).2 ?_
 rw [Zb3]
 exact h.k.nod
theorem Zdt {l : List (Value × Value)} (h : (l.map (·.1)).Nodup) {p q : Value × Value} (hp : p∈l) (hq : q∈l) (e : p.1=q.1) : p=q:=by
 induction l with
 | nil=>cases hp
 | cons a l ih=>
  simp only [List.map_cons,List.nodup_cons,List.mem_map,not_exists,not_and] at h
  rcases List.mem_cons.1 hp with hp' | hp'
  ·rcases List.mem_cons.1 hq with hq' | hq'
   ·rw [hp',hq']
   ·exact absurd (by rw [← hp'];exact e.symm) (h.1 q hq')
  ·rcases List.mem_cons.1 hq with hq' | hq'
   ·exact absurd (by rw [← hq'];exact e) (h.1 p hp')
   ·exact ih h.2 hp' hq'
theorem Jr.find {es2 es : List (Value × Value × Nat)} {clk : Nat} (h : Jr es2 clk es) {tk : TK} {k : Value} (hk : okK tk k=true) {r : Option (Nat × Value)} (hf : Qq tk k es 0=some r) :
  (r=none∧∃ s,tk=.str∧k=.string s∧Qq tk k es2 0=some none)∨(es=[]∧es2=[]∧r=none)∨∃ i j u,r=some (i,u)∧Qq tk k es2 0=some (some (j,u)):=by
 cases es with
 | nil=>
  have h2:=h.perm.length_eq
  have : es2=[]:=by simpa using h2
  cases hf
  exact .inr (.inl ⟨rfl,this,rfl⟩)
 | cons a es=>
  obtain ⟨t,ht⟩:=h.k.str a (by simp)
  obtain ⟨s,rfl,rfl⟩ : ∃ s,tk=.str∧k=.string s:=by
   simp only [Qq,ht] at hf
   unfold YG at hf
   split at hf
   ·rename_i hh
    split at hh
    ·cases ‹Value.string t=_›
    ·exact ⟨_,rfl,rfl⟩
    ·cases ‹Value.string t=_›
    ·cases hh
   ·rename_i hh
    split at hh
    ·cases ‹Value.string t=_›
    ·exact ⟨_,rfl,rfl⟩
    ·cases ‹Value.string t=_›
    ·cases hh
   ·cases hf
  obtain ⟨r2,h2⟩:=Zbw (s:=s) (i:=0) h.strs
  cases r with
  | none=>
   refine .inl ⟨rfl,s,rfl,rfl,?_⟩
   cases r2 with
   | none=>exact h2
   | some p=>
    obtain ⟨e,_,h3,h4,_⟩:=Jz h2
    have : kv e∈(a :: es).map kv:=h.perm.mem_iff.1 (List.mem_map.2 ⟨e,List.mem_of_getElem? h3,rfl⟩)
    obtain ⟨e',h5,h6⟩:=List.mem_map.1 this
    exact absurd ((congrArg Prod.fst h6).trans h4) (YW hf e' h5)
  | some p=>
   obtain ⟨e,_,h3,h4,h5⟩:=Jz hf
   have he : kv e∈es2.map kv:=h.perm.mem_iff.2 (List.mem_map.2 ⟨e,List.mem_of_getElem? h3,rfl⟩)
   cases r2 with
   | none=>
    obtain ⟨e',h6,h7⟩:=List.mem_map.1 he
    exact absurd ((congrArg Prod.fst h7).trans h4) (YW h2 e' h6)
   | some q=>
    obtain ⟨e',_,h6,h7,h8⟩:=Jz h2
    have he' : kv e'∈es2.map kv:=List.mem_map.2 ⟨e',List.mem_of_getElem? h6,rfl⟩
    have:=Zdt (by rw [Zb3];exact h.nod2) he he' (h4.trans h7.symm)
    have hu : q.2=p.2:=by rw [← h8,← h5];exact (congrArg Prod.snd this).symm
    exact .inr (.inr ⟨p.1,q.1,p.2,rfl,by rw [h2,← hu]⟩)
open Classical in
theorem Zbe {k v : Value} : ∀ {es : List (Value × Value × Nat)} {i : Nat} {e : Value × Value × Nat},(es.map (·.1)).Nodup→es[i]?=some e→e.1=k→
  (Q5 es i v).map kv=(es.map kv).map fun p=>if p.1=k then (p.1,v) else p
 | [],_,_,_,h,_=>by simp at h
 | a :: es,0,e,hn,h,hk=>by
  have : a=e:=by simpa using h
  subst this
  simp only [List.map_cons,List.nodup_cons,List.mem_map,not_exists,not_and] at hn
  simp only [Q5,List.modify_zero_cons,List.map_cons,kv,hk,if_true]
  congr 1
  rw [List.map_map]
  refine List.map_congr_left fun b hb=>?_
  have : ¬ b.1=k:=fun e=>hn.1 b hb (e.trans hk.symm)
  simp [kv,this]
 | a :: es,i+1,e,hn,h,hk=>by
  have h' : es[i]?=some e:=by simpa using h
  simp only [List.map_cons,List.nodup_cons,List.mem_map,not_exists,not_and] at hn
  have : ¬ a.1=k:=fun e'=>hn.1 e (List.mem_of_getElem? h') (hk.trans e'.symm)
  have ih:=Zbe (v:=v) hn.2 h' hk
  simp only [Q5] at ih
  simp only [Q5,List.modify_succ_cons,List.map_cons,ih]
  simp [kv,this]
theorem Zbr {v : Value} : ∀ {es : List (Value × Value × Nat)} {i : Nat},(Q5 es i v).map (·.1)=es.map (·.1)
 | [],i=>by simp [Q5]
 | a :: es,0=>by simp [Q5]
 | a :: es,i+1=>by
  have:=Zbr (v:=v) (es:=es) (i:=i)
  simp only [Q5] at this
  simp only [Q5,List.modify_succ_cons,List.map_cons,this]
theorem WD {v : Value} : ∀ {es : List (Value × Value × Nat)} {i : Nat},(Q5 es i v).map (·.2.2)=es.map (·.2.2)
 | [],i=>by simp [Q5]
 | a :: es,0=>by simp [Q5]
 | a :: es,i+1=>by
  have:=WD (v:=v) (es:=es) (i:=i)
  simp only [Q5] at this
  simp only [Q5,List.modify_succ_cons,List.map_cons,this]
theorem ZeG {v : Value} {es : List (Value × Value × Nat)} {i clk : Nat} (h : Zb8 es clk) : Zb8 (Q5 es i v) clk:=by
 refine ⟨fun e he=>?_,by rw [WD];exact h.nod⟩
 have : e.2.2∈es.map (·.2.2):=by rw [← WD (i:=i) (v:=v)];exact List.mem_map.2 ⟨e,he,rfl⟩
 obtain ⟨e',h1,h2⟩:=List.mem_map.1 this
 have:=h.lt e' h1
 omega
theorem Zdq {es es' : List (Value × Value × Nat)} (h : Zeg es) (he : es'.map (·.1)=es.map (·.1)) : Zeg es':=by
 refine ⟨fun e hm=>?_,by rw [he];exact h.nod⟩
 have : e.1∈es.map (·.1):=by rw [← he];exact List.mem_map.2 ⟨e,hm,rfl⟩
 obtain ⟨e',h1,h2⟩:=List.mem_map.1 this
 obtain ⟨s,hs⟩:=h.str e' h1
 exact ⟨s,by rw [← h2];exact hs⟩
theorem Jr.set {es2 es : List (Value × Value × Nat)} {clk : Nat} (h : Jr es2 clk es) {tk : TK} {k v u u2 : Value} {i j : Nat} (h1 : Qq tk k es 0=some (some (i,u))) (h2 : Qq tk k es2 0=some (some (j,u2))) : Jr (Q5 es2 j v) clk (Q5 es i v):=by
 classical
 obtain ⟨e,_,h3,h4,_⟩:=Jz h1
 obtain ⟨e',_,h6,h7,_⟩:=Jz h2
 rw [Nat.sub_zero] at h3 h6
 refine ⟨?_,Zdq h.k Zbr,ZeG h.st⟩
 rw [Zbe h.nod2 h6 h7,Zbe h.k.nod h3 h4]
 exact h.perm.map _
open Classical in
theorem Zaz {k : Value} : ∀ {es : List (Value × Value × Nat)} {i : Nat} {e : Value × Value × Nat},(es.map (·.1)).Nodup→es[i]?=some e→e.1=k→
  (es.eraseIdx i).map kv=(es.map kv).filter fun p=>decide (p.1≠k)
 | [],_,_,_,h,_=>by simp at h
 | a :: es,0,e,hn,h,hk=>by
  have : a=e:=by simpa using h
  subst this
  simp only [List.map_cons,List.nodup_cons,List.mem_map,not_exists,not_and] at hn
  rw [List.eraseIdx_cons_zero,List.map_cons,List.filter_cons,if_neg (by simp [kv,hk])]
  symm
  rw [List.filter_eq_self]
  intro p hp
  obtain ⟨b,hb,rfl⟩:=List.mem_map.1 hp
  exact decide_eq_true fun e=>hn.1 b hb (e.trans hk.symm)
 | a :: es,i+1,e,hn,h,hk=>by
  have h' : es[i]?=some e:=by simpa using h
  simp only [List.map_cons,List.nodup_cons,List.mem_map,not_exists,not_and] at hn
  have : ¬ a.1=k:=fun e'=>hn.1 e (List.mem_of_getElem? h') (hk.trans e'.symm)
  rw [List.eraseIdx_cons_succ,List.map_cons,Zaz hn.2 h' hk,List.map_cons,List.filter_cons,if_pos (by simp [kv,this])]
theorem Jr.erase {es2 es : List (Value × Value × Nat)} {clk : Nat} (h : Jr es2 clk es) {tk : TK} {k u u2 : Value} {i j : Nat} (h1 : Qq tk k es 0=some (some (i,u))) (h2 : Qq tk k es2 0=some (some (j,u2))) : Jr (es2.eraseIdx j) clk (es.eraseIdx i):=by
 classical
 obtain ⟨e,_,h3,h4,_⟩:=Jz h1
 obtain ⟨e',_,h6,h7,_⟩:=Jz h2
 rw [Nat.sub_zero] at h3 h6
 refine ⟨?_,⟨fun e hm=>h.k.str e ((List.eraseIdx_sublist es i).subset hm),?_⟩,⟨fun e hm=>h.st.lt e ((List.eraseIdx_sublist es2 j).subset hm),((List.eraseIdx_sublist es2 j).map _).nodup h.st.nod⟩⟩
 ·rw [Zaz h.nod2 h6 h7,Zaz h.k.nod h3 h4]
  exact h.perm.filter _
 ·exact ((List.eraseIdx_sublist es i).map _).nodup h.k.nod
theorem Jr.snoc {es2 es : List (Value × Value × Nat)} {clk : Nat} (h : Jr es2 clk es) {s : ByteArray} {v : Value} {c : Nat} (hn : Qq .str (.string s) es 0=some none) : Jr (es2++[(.string s,v,clk)]) (clk+1) (es++[(.string s,v,c)]):=by
 refine ⟨?_,⟨fun e he=>?_,?_⟩,⟨fun e he=>?_,?_⟩⟩
 ·rw [List.map_append,List.map_append]
  exact h.perm.append_right _
 ·rcases List.mem_append.1 he with he | he
  ·exact h.k.str e he
  ·have : e=(.string s,v,c):=by simpa using he
   exact ⟨s,by rw [this]⟩
 ·rw [List.map_append,List.nodup_append]
  refine ⟨h.k.nod,by simp,fun a ha b hb=>?_⟩
  have hb : b=.string s:=by simpa using hb
  obtain ⟨e,he,rfl⟩:=List.mem_map.1 ha
  rw [hb]
  exact YW hn e he
 ·rcases List.mem_append.1 he with he | he
  ·have:=h.st.lt e he;omega
  ·have : e=(.string s,v,clk):=by simpa using he
   rw [this];exact Nat.lt_succ_self _
 ·rw [List.map_append,List.nodup_append]
  refine ⟨h.st.nod,by simp,fun a ha b hb=>?_⟩
  have hb : b=clk:=by simpa using hb
  obtain ⟨e,he,rfl⟩:=List.mem_map.1 ha
  have:=h.st.lt e he;omega
theorem Ze1 (hS : Sim G w0 ι H w) {t kt e : TypeId} {ok : Bool} {m m' k k' : Value} (ht : P.underlying t=some (.map kt e)) (he : Jt P e=true)
  (hm : RV ι m m') (hk : RV ι k k') (h : lkp (tkT P kt) (zeT P e) ok m k H=some (v,H1)) : Res G w0 ι v H1 ((Instr.lookup t m' k' ok).run P w):=by
 obtain ⟨ie,hie,hz,hc,hzr⟩:=Jj he
 have hback : ∀ {u u' : Value} {is : Bool},RV ι u u'→(some (bif ok then .tuple #[u,.bool is] else u,H) : Option (Value × Zb))=some (v,H1)→
   Res G w0 ι v H1 (.ok (if ok then .tuple #[u',.bool is] else u') w):=by
  intro u u' is hu h
  cases ok with
  | true=>cases h;exact .same hS (.tupL (a:=[u,.bool is]) (a':=[u',.bool is]) (.cons hu (.cons (.sc rfl) .nil))) rfl
  | false=>cases h;exact .same hS hu rfl
 unfold lkp at h
 simp only at h
 split at h
 ·cases hok : okK (tkT P kt) k with
  | false=>simp [hok] at h
  | true=>
   obtain ⟨d,hd,hsk,hchk⟩:=JP hok
   simp only [hok,cond_true] at h
   have:=hback (.const hc) h
   have hk2:=hk.scalar_inv hsk
   subst hk2
   rw [hm.scalar_inv rfl]
   simpa [Instr.lookup,run_underlying ht,hchk,ZP hd (es:=[]) rfl,hzr] using this
 ·split at h
  ·rename_i hid
   cases hok : okK (tkT P kt) k with
   | false=>simp [hok] at h
   | true=>
    obtain ⟨d,hd,hsk,hchk⟩:=JP hok
    simp only [hok,cond_true] at h
    have hk2:=hk.scalar_inv hsk
    subst hk2
    obtain ⟨l,hl,rfl⟩:=hm.map_inv
    obtain ⟨en,hb,_,hr⟩:=hS.mapR hid hl
    split at h
    ·rename_i j u hf
     obtain ⟨r',h1,h2⟩:=QL hd 0 hr hf
     cases r' with
     | none=>exact h2.elim
     | some p=>
      have:=hback h2.2.1 h
      simpa [Instr.lookup,run_underlying ht,ZO hb,hchk,ZP hd h1] using this
    ·rename_i hf
     obtain ⟨r',h1,h2⟩:=QL hd 0 hr hf
     cases r' with
     | some p=>exact h2.elim
     | none=>
      have:=hback (.const hc) h
      simpa [Instr.lookup,run_underlying ht,ZO hb,hchk,ZP hd h1,hzr] using this
    ·cases h
  ·rename_i hid
   cases hok : okK (tkT P kt) k with
   | false=>simp [hok] at h
   | true=>
    obtain ⟨d,hd,hsk,hchk⟩:=JP hok
    simp only [hok,cond_true] at h
    have hk2:=hk.scalar_inv hsk
    subst hk2
    obtain ⟨l,hl,rfl⟩:=hm.map_inv
    obtain ⟨en,clk,es2,hb,_,hr,hp⟩:=hS.mapUR hid hl
    split at h
    ·rename_i j u hf
     rcases hp.find hok hf with ⟨h0,_⟩ | ⟨_,_,h0⟩ | ⟨i,j2,u2,h0,hf2⟩
     ·cases h0
     ·cases h0
     ·cases h0
      obtain ⟨r',h1,h2⟩:=QL hd 0 hr hf2
      cases r' with
      | none=>exact h2.elim
      | some p=>
       have:=hback h2.2.1 h
       simpa [Instr.lookup,run_underlying ht,ZO hb,hchk,ZP hd h1] using this
    ·rename_i hf
     have hf2 : Qq (tkT P kt) k' es2 0=some none:=by
      rcases hp.find hok hf with ⟨_,s,_,_,h0⟩ | ⟨_,h0,_⟩ | ⟨i,j2,u2,h0,_⟩
      ·exact h0
      ·rw [h0];rfl
      ·cases h0
     obtain ⟨r',h1,h2⟩:=QL hd 0 hr hf2
     cases r' with
     | some p=>exact h2.elim
     | none=>
      have:=hback (.const hc) h
      simpa [Instr.lookup,run_underlying ht,ZO hb,hchk,ZP hd h1,hzr] using this
    ·cases h
  ·cases h
 ·cases h
theorem Z4.get {ι : Nat→Option Loc} : ∀ {es : List (Value × Value × Nat)} {en : List MapEntry} {i : Nat} {e : Value × Value × Nat},Z4 ι es en→es[i]?=some e→
  ∃ n,en[i]?=some n∧Zy e.1=true∧n.key=e.1∧RV ι e.2.1 n.val∧n.born=e.2.2
 | [],[],i,e,_,h=>by simp at h
 | a :: es,n :: ns,0,e,hr,h=>by simp at h;subst h;exact ⟨n,by simp,hr.1⟩
 | a :: es,n :: ns,i+1,e,hr,h=>by simpa using Z4.get hr.2 (by simpa using h)
 | [],_ :: _,_,_,hr,_=>hr.elim
 | _ :: _,[],_,_,hr,_=>hr.elim
theorem Z4.modify {ι : Nat→Option Loc} {u u' : Value} (hu : RV ι u u') (f : MapEntry→MapEntry) (hf : ∀ n,(f n).val=u'∧(f n).born=n.born) : ∀ {es : List (Value × Value × Nat)} {en : List MapEntry} {i : Nat},Z4 ι es en→
  (∀ n,en[i]?=some n→(f n).key=n.key)→Z4 ι (Q5 es i u) (en.modify i f)
 | [],[],i,_,_=>by simp [Q5];trivial
 | a :: es,n :: ns,0,hr,hk=>by
  simp only [Q5,List.modify_zero_cons]
  exact ⟨⟨hr.1.1,by rw [hk n (by simp)];exact hr.1.2.1,by rw [(hf n).1];exact hu,by rw [(hf n).2];exact hr.1.2.2.2⟩,hr.2⟩
 | a :: es,n :: ns,i+1,hr,hk=>by
  simp only [Q5,List.modify_succ_cons]
  exact ⟨hr.1,Z4.modify hu f hf hr.2 fun n hn=>hk n (by simpa using hn)⟩
 | [],_ :: _,_,hr,_=>hr.elim
 | _ :: _,[],_,hr,_=>hr.elim
theorem Z4.snoc {ι : Nat→Option Loc} {k u : Value} {u' : Value} {b : Nat} (hk : Zy k=true) (hu : RV ι u u') : ∀ {es : List (Value × Value × Nat)} {en : List MapEntry},Z4 ι es en→
  Z4 ι (es++[(k,u,b)]) (en++[{ key:=k,val:=u',born:=b }])
 | [],[],_=>⟨⟨hk,rfl,hu,rfl⟩,trivial⟩
 | _ :: _,_ :: _,h=>⟨h.1,Z4.snoc hk hu h.2⟩
 | [],_ :: _,h=>h.elim
 | _ :: _,[],h=>h.elim
theorem Z4.erase {ι : Nat→Option Loc} : ∀ {es : List (Value × Value × Nat)} {en : List MapEntry} (i : Nat),Z4 ι es en→Z4 ι (es.eraseIdx i) (en.eraseIdx i)
 | [],[],_,_=>trivial
 | _ :: _,_ :: _,0,h=>h.2
 | _ :: _,_ :: _,i+1,h=>⟨h.1,Z4.erase i h.2⟩
 | [],_ :: _,_,h=>h.elim
 | _ :: _,[],_,h=>h.elim
theorem WJ {tk : TK} {k : Value} (h : okK tk k=true) : Instr.sameBits 10000 k k=true:=by
 have : ∀ n,Instr.sameBits n k k=true:=by
  intro n
  unfold okK at h
  split at h <;> first | (cases n <;> simp [Instr.sameBits,ZcL];done) | cases h
 exact this 10000
theorem Sim.setMap (hS : Sim G w0 ι H w) {id : Nat} {es es' : List (Value × Value × Nat)} {clk clk' : Nat} {l : Loc} {en' : Array MapEntry} (hid : H[id]?=some (.map es clk)) (hl : ι id=some l)
  (hr : J1 ι es' en') : Sim G w0 ι (H.set id (.map es' clk')) (QP w l.blk (.map en' clk')):=by
 obtain ⟨en,hb,hge,_⟩:=hS.mapR hid hl
 exact hS.set hid rfl hl rfl fun w' hw'=>⟨l,en',hl,hw',hge,hr⟩
theorem Sim.setMapU (hS : Sim G w0 ι H w) {id : Nat} {es es' es2 : List (Value × Value × Nat)} {clk' : Nat} {l : Loc} {en' : Array MapEntry} (hid : H[id]?=some (.mapU es)) (hl : ι id=some l)
  (hr : J1 ι es2 en') (hp : Jr es2 clk' es') : Sim G w0 ι (H.set id (.mapU es')) (QP w l.blk (.map en' clk')):=by
 obtain ⟨en,clk,e2,hb,hge,_⟩:=hS.mapUR hid hl
 exact hS.set hid rfl hl rfl fun w' hw'=>⟨l,en',clk',es2,hl,hw',hge,hr,hp⟩
theorem ZcC (hS : Sim G w0 ι H w) {t kt e : TypeId} {m m' k k' u u' : Value} (ht : P.underlying t=some (.map kt e))
  (hm : RV ι m m') (hk : RV ι k k') (hu : RV ι u u') (h : mup (tkT P kt) m k u H=some (v,H1)) : v=undef∧Zcf G w0 ι H1 ((Instr.mapUpdate t m' k' u').run P w):=by
 unfold mup at h
 split at h
 ·split at h
  ·rename_i id _ es clk hid
   cases hok : okK (tkT P kt) k with
   | false=>simp [hok] at h
   | true=>
    obtain ⟨d,hd,hsk,hchk⟩:=JP hok
    simp only [hok,cond_true] at h
    have hk2:=hk.scalar_inv hsk
    subst hk2
    obtain ⟨l,hl,rfl⟩:=hm.map_inv
    obtain ⟨en,hb,_,hr⟩:=hS.mapR hid hl
    split at h
    ·rename_i j u0 hf
     cases h
     obtain ⟨r',h1,h2⟩:=QL hd 0 hr hf
     cases r' with
     | none=>exact h2.elim
     | some p=>
      obtain ⟨h3,_,_,e0,h6,_,h8⟩:=h2
      subst h3
      rw [Nat.sub_zero] at h6
      obtain ⟨n,hn,_,hnk,_⟩:=Z4.get hr h6
      have hke : n.key=k':=by rw [hnk];exact (KR h8).symm
      have hn2 : en[p.1]?=some n:=by simpa using hn
      refine ⟨rfl,ι,_,.refl ι,hS.setMap (es':=Q5 es p.1 u) (clk':=clk) (en':=en.modify p.1 fun e=>{ e with key:=k',val:=u' }) hid hl ?_,?_⟩
      ·unfold J1
       rw [Array.toList_modify]
       exact Z4.modify hu (fun e=>{ e with key:=k',val:=u' }) (fun n=>⟨rfl,rfl⟩) hr (fun n' hn'=>by rw [hn] at hn';cases hn';exact hke.symm)
      ·have hkts : (Instr.keyThatStays (((en[p.1]?).map (·.key)).getD k') k').run P w=.ok k' w:=by
        rw [hn2]
        simp only [Option.map_some,Option.getD_some,hke,Instr.keyThatStays,WJ hok,if_true]
        rfl
       simp only [Instr.mapUpdate,Sem.run_bind,run_underlying ht,Result.andThen_ok,ZO hb,hchk,ZP hd h1,hkts,Qv hb]
    ·rename_i hf
     cases h
     obtain ⟨r',h1,h2⟩:=QL hd 0 hr hf
     cases r' with
     | some p=>exact h2.elim
     | none=>
      refine ⟨rfl,ι,_,.refl ι,hS.setMap (es':=es++[(k',u,clk)]) (clk':=clk+1) (en':=en.push { key:=k',val:=u',born:=clk }) hid hl ?_,?_⟩
      ·unfold J1
       rw [Array.toList_push]
       exact Z4.snoc hsk hu hr
      ·simp only [Instr.mapUpdate,Sem.run_bind,run_underlying ht,Result.andThen_ok,ZO hb,hchk,ZP hd h1,Qv hb]
    ·cases h
  ·rename_i id _ es hid
   cases hok : okK (tkT P kt) k with
   | false=>simp [hok] at h
   | true=>
    obtain ⟨d,hd,hsk,hchk⟩:=JP hok
    simp only [hok,cond_true] at h
    have hk2:=hk.scalar_inv hsk
    subst hk2
    obtain ⟨l,hl,rfl⟩:=hm.map_inv
    obtain ⟨en,clk,es2,hb,_,hr,hp⟩:=hS.mapUR hid hl
    split at h
    ·rename_i j u0 hf
     cases h
     rcases hp.find hok hf with ⟨h0,_⟩ | ⟨_,_,h0⟩ | ⟨i,j2,u2,h0,hf2⟩
     ·cases h0
     ·cases h0
     cases h0
     obtain ⟨r',h1,h2⟩:=QL hd 0 hr hf2
     cases r' with
     | none=>exact h2.elim
     | some p=>
      obtain ⟨h3,_,_,e0,h6,_,h8⟩:=h2
      subst h3
      rw [Nat.sub_zero] at h6
      obtain ⟨n,hn,_,hnk,_⟩:=Z4.get hr h6
      have hke : n.key=k':=by rw [hnk];exact (KR h8).symm
      have hn2 : en[p.1]?=some n:=by simpa using hn
      refine ⟨rfl,ι,_,.refl ι,hS.setMapU (es2:=Q5 es2 p.1 u) (clk':=clk) (en':=en.modify p.1 fun e=>{ e with key:=k',val:=u' }) hid hl ?_ (hp.set hf hf2),?_⟩
      ·unfold J1
       rw [Array.toList_modify]
       exact Z4.modify hu (fun e=>{ e with key:=k',val:=u' }) (fun n=>⟨rfl,rfl⟩) hr (fun n' hn'=>by rw [hn] at hn';cases hn';exact hke.symm)
      ·have hkts : (Instr.keyThatStays (((en[p.1]?).map (·.key)).getD k') k').run P w=.ok k' w:=by
        rw [hn2]
        simp only [Option.map_some,Option.getD_some,hke,Instr.keyThatStays,WJ hok,if_true]
        rfl
       simp only [Instr.mapUpdate,Sem.run_bind,run_underlying ht,Result.andThen_ok,ZO hb,hchk,ZP hd h1,hkts,Qv hb]
    ·rename_i hf
     split at h
     case h_2=>cases h
     rename_i s
     cases h
     have hf2 : Qq (tkT P kt) (.string s) es2 0=some none:=by
      rcases hp.find hok hf with ⟨_,s,_,_,h0⟩ | ⟨_,h0,_⟩ | ⟨i,j2,u2,h0,_⟩
      ·exact h0
      ·rw [h0];rfl
      ·cases h0
     obtain ⟨r',h1,h2⟩:=QL hd 0 hr hf2
     cases r' with
     | some p=>exact h2.elim
     | none=>
      have htk : tkT P kt=.str:=by
       unfold okK at hok
       split at hok <;> simp_all
      rw [htk] at hf
      refine ⟨rfl,ι,_,.refl ι,hS.setMapU (es2:=es2++[(.string s,u,clk)]) (clk':=clk+1) (en':=en.push { key:=.string s,val:=u',born:=clk }) hid hl ?_ (hp.snoc hf),?_⟩
      ·unfold J1
       rw [Array.toList_push]
       exact Z4.snoc hsk hu hr
      ·simp only [Instr.mapUpdate,Sem.run_bind,run_underlying ht,Result.andThen_ok,ZO hb,hchk,ZP hd h1,Qv hb]
    ·cases h
  ·cases h
 ·cases h
theorem Wg {b : Nat} {o : Obj} (h : w.heap[b]?=some o) : QP w b o=w:=Zbs h
theorem ZcQ {en : Array MapEntry} {i : Nat} {k : Value} (h : ∀ n,en[i]?=some n→n.key=k) : (en.modify i fun e=>{ e with key:=k })=en:=by
 apply Array.ext
 ·simp
 ·intro j h1 h2
  rw [Array.getElem_modify]
  split
  ·rename_i e;subst e
   have:=h en[i] (by simp [h2])
   cases hx : en[i]
   rw [hx] at this
   simp at this ⊢
   exact this.symm
  ·rfl
theorem Zeq (hS : Sim G w0 ι H w) {t kt e : TypeId} {m m' k k' : Value} (ht : P.underlying t=some (.map kt e)) (he : Jt P e=true)
  (hm : RV ι m m') (hk : RV ι k k') (h : men (tkT P kt) (zeT P e) m k H=some (v,H1)) : Res G w0 ι v H1 ((Instr.mapEntry t m' k').run P w):=by
 obtain ⟨ie,hie,hz,hc,hzr⟩:=Jj he
 unfold men at h
 split at h
 ·split at h
  ·rename_i id _ es clk hid
   cases hok : okK (tkT P kt) k with
   | false=>simp [hok] at h
   | true=>
    obtain ⟨d,hd,hsk,hchk⟩:=JP hok
    simp only [hok,cond_true] at h
    have hk2:=hk.scalar_inv hsk
    subst hk2
    obtain ⟨l,hl,rfl⟩:=hm.map_inv
    obtain ⟨en,hb,_,hr⟩:=hS.mapR hid hl
    split at h
    ·rename_i j u0 hf
     cases h
     obtain ⟨r',h1,h2⟩:=QL hd 0 hr hf
     cases r' with
     | none=>exact h2.elim
     | some p=>
      obtain ⟨h3,h4,_,e0,h6,h7,h8⟩:=h2
      subst h3
      rw [Nat.sub_zero] at h6
      obtain ⟨n,hn,_,hnk,_,hnb⟩:=Z4.get hr h6
      have hke : n.key=k':=by rw [hnk];exact (KR h8).symm
      have hn2 : en[p.1]?=some n:=by simpa using hn
      have hkts : (Instr.keyThatStays (((en[p.1]?).map (·.key)).getD k') k').run P w=.ok k' w:=by
       rw [hn2]
       simp only [Option.map_some,Option.getD_some,hke,Instr.keyThatStays,WJ hok,if_true]
       rfl
      have hmod : (en.modify p.1 fun e=>{ e with key:=k' })=en:=ZcQ fun n' hn'=>by rw [hn2] at hn';cases hn';exact hke
      refine ⟨ι,.tuple #[p.2,.int .i64 ((es.getD p.1 (undef,undef,0)).2.2 : Nat)],w,.refl ι,hS,.tupL (a:=[u0,_]) (a':=[p.2,_]) (.cons h4 (.cons (.sc rfl) .nil)),?_⟩
      simp only [Instr.mapEntry,Sem.run_bind,run_underlying ht,Result.andThen_ok,ZO hb,hchk,ZP hd h1,hkts,Qv hb,hmod,Wg hb,Sem.run_pure,goInt]
      rw [List.getD_eq_getElem?_getD,h6,hn2]
      simp [hnb]
    ·rename_i hf
     cases h
     obtain ⟨r',h1,h2⟩:=QL hd 0 hr hf
     cases r' with
     | some p=>exact h2.elim
     | none=>
      refine ⟨ι,.tuple #[zeT P e,.int .i64 (clk : Nat)],_,.refl ι,hS.setMap (es':=es++[(k',zeT P e,clk)]) (clk':=clk+1) (en':=en.push { key:=k',val:=zeT P e,born:=clk }) hid hl ?_,
       .tupL (a:=[zeT P e,_]) (a':=[zeT P e,_]) (.cons (.const hc) (.cons (.sc rfl) .nil)),?_⟩
      ·unfold J1
       rw [Array.toList_push]
       exact Z4.snoc hsk (.const hc) hr
      ·simp only [Instr.mapEntry,Sem.run_bind,run_underlying ht,Result.andThen_ok,ZO hb,hchk,ZP hd h1,hzr,Qv hb,Sem.run_pure,goInt]
    ·cases h
  ·cases h
 ·cases h
theorem Wn {n : Int} : ∀ {es : List (Value × Value × Nat)} {en : List MapEntry},Z4 ι es en→
  en.findIdx? (fun e=>(e.born : Int)==n)=es.findIdx? (fun e=>(e.2.2 : Int)==n)
 | [],[],_=>rfl
 | e :: es,a :: en,h=>by simp only [List.findIdx?_cons,h.1.2.2.2,Wn h.2]
 | [],_ :: _,h=>h.elim
 | _ :: _,[],h=>h.elim
theorem Zew (hS : Sim G w0 ι H w) {t : TypeId} {m m' s s' u u' : Value}
  (hm : RV ι m m') (hs : RV ι s s') (hu : RV ι u u') (h : ens m s u H=some (v,H1)) : v=undef∧Zcf G w0 ι H1 ((Instr.entryStore t m' s' u').run P w):=by
 unfold ens at h
 split at h
 ·split at h
  ·rename_i id _ n _ es clk hid
   obtain ⟨l,hl,rfl⟩:=hm.map_inv
   obtain ⟨en,hb,_,hr⟩:=hS.mapR hid hl
   rw [hs.int_inv]
   split at h
   ·rename_i i hi
    cases h
    have hi2 : en.findIdx? (fun e=>(e.born : Int)==n)=some i:=by
     rw [← Array.toArray_toList (xs:=en),List.findIdx?_toArray,Wn hr];exact hi
    refine ⟨rfl,ι,_,.refl ι,hS.setMap (es':=Q5 es i u) (clk':=clk) (en':=en.modify i fun e=>{ e with val:=u' }) hid hl ?_,?_⟩
    ·unfold J1
     rw [Array.toList_modify]
     exact Z4.modify hu (fun e=>{ e with val:=u' }) (fun n=>⟨rfl,rfl⟩) hr (fun n' _=>rfl)
    ·simp only [Instr.entryStore,Sem.run_bind,ZO hb,Result.andThen_ok,asInt,asIntOf,Sem.run_pure,hi2,Qv hb]
   ·cases h
  ·cases h
 ·cases h
theorem ZeE (hS : Sim G w0 ι H w) {t u kt e ty : TypeId} {m m' k k' : Value} (ht : P.underlying t=some (.map kt e))
  (hm : RV ι m m') (hk : RV ι k k') (h : mde (tkT P kt) m k H=some (v,H1)) : Res G w0 ι v H1 ((Builtin.delete_ #[t,u] ty #[m',k']).run P w):=by
 unfold mde at h
 split at h
 ·cases hok : okK (tkT P kt) k with
  | false=>simp [hok] at h
  | true=>
   obtain ⟨d,hd,hsk,hchk⟩:=JP hok
   simp only [hok,cond_true] at h
   cases h
   have hk2:=hk.scalar_inv hsk
   subst hk2
   rw [hm.scalar_inv rfl]
   exact .same hS (v':=.tuple #[]) .un (by simp [Builtin.delete_,run_underlying ht,hchk])
 ·split at h
  ·rename_i id _ es clk hid
   cases hok : okK (tkT P kt) k with
   | false=>simp [hok] at h
   | true=>
    obtain ⟨d,hd,hsk,hchk⟩:=JP hok
    simp only [hok,cond_true] at h
    have hk2:=hk.scalar_inv hsk
    subst hk2
    obtain ⟨l,hl,rfl⟩:=hm.map_inv
    obtain ⟨en,hb,_,hr⟩:=hS.mapR hid hl
    split at h
    ·rename_i j u0 hf
     cases h
     obtain ⟨r',h1,h2⟩:=QL hd 0 hr hf
     cases r' with
     | none=>exact h2.elim
     | some p=>
      obtain ⟨h3,_,_,e0,h6,_,_⟩:=h2
      subst h3
      rw [Nat.sub_zero] at h6
      obtain ⟨n,hn,_⟩:=Z4.get hr h6
      have hlt : p.1 < en.size:=by
       rcases Nat.lt_or_ge p.1 en.size with h | h
       ·exact h
       ·rw [List.getElem?_eq_none (by simpa using h)] at hn;cases hn
      refine ⟨ι,.tuple #[],_,.refl ι,hS.setMap (es':=es.eraseIdx p.1) (clk':=clk) (en':=en.eraseIdxIfInBounds p.1) hid hl ?_,.un,?_⟩
      ·unfold J1
       have : (en.eraseIdxIfInBounds p.1).toList=en.toList.eraseIdx p.1:=by
        unfold Array.eraseIdxIfInBounds
        rw [dif_pos hlt,Array.toList_eraseIdx]
       rw [this];exact Z4.erase _ hr
      ·simp only [Builtin.delete_,List.getElem?_toArray,List.getElem?_cons_zero,List.getElem?_cons_succ,Sem.run_bind,run_underlying ht,Result.andThen_ok,ZO hb,hchk,ZP hd h1,Qv hb,Sem.run_pure]
    ·rename_i hf
     cases h
     obtain ⟨r',h1,h2⟩:=QL hd 0 hr hf
     cases r' with
     | some p=>exact h2.elim
     | none=>
      refine .same hS (v':=.tuple #[]) .un ?_
      simp only [Builtin.delete_,List.getElem?_toArray,List.getElem?_cons_zero,List.getElem?_cons_succ,Sem.run_bind,run_underlying ht,Result.andThen_ok,ZO hb,hchk,ZP hd h1,Qv hb,Sem.run_pure,Wg hb]
    ·cases h
  ·rename_i id _ es hid
   cases hok : okK (tkT P kt) k with
   | false=>simp [hok] at h
   | true=>
    obtain ⟨d,hd,hsk,hchk⟩:=JP hok
    simp only [hok,cond_true] at h
    have hk2:=hk.scalar_inv hsk
    subst hk2
    obtain ⟨l,hl,rfl⟩:=hm.map_inv
    obtain ⟨en,clk,es2,hb,_,hr,hp⟩:=hS.mapUR hid hl
    split at h
    ·rename_i j u0 hf
     cases h
     rcases hp.find hok hf with ⟨h0,_⟩ | ⟨_,_,h0⟩ | ⟨i,j2,u2,h0,hf2⟩
     ·cases h0
     ·cases h0
     cases h0
     obtain ⟨r',h1,h2⟩:=QL hd 0 hr hf2
     cases r' with
     | none=>exact h2.elim
     | some p=>
      obtain ⟨h3,_,_,e0,h6,_,_⟩:=h2
      subst h3
      rw [Nat.sub_zero] at h6
      obtain ⟨n,hn,_⟩:=Z4.get hr h6
      have hlt : p.1 < en.size:=by
       rcases Nat.lt_or_ge p.1 en.size with h | h
       ·exact h
       ·rw [List.getElem?_eq_none (by simpa using h)] at hn;cases hn
      refine ⟨ι,.tuple #[],_,.refl ι,hS.setMapU (es2:=es2.eraseIdx p.1) (clk':=clk) (en':=en.eraseIdxIfInBounds p.1) hid hl ?_ (hp.erase hf hf2),.un,?_⟩
      ·unfold J1
       have : (en.eraseIdxIfInBounds p.1).toList=en.toList.eraseIdx p.1:=by
        unfold Array.eraseIdxIfInBounds
        rw [dif_pos hlt,Array.toList_eraseIdx]
       rw [this];exact Z4.erase _ hr
      ·simp only [Builtin.delete_,List.getElem?_toArray,List.getElem?_cons_zero,List.getElem?_cons_succ,Sem.run_bind,run_underlying ht,Result.andThen_ok,ZO hb,hchk,ZP hd h1,Qv hb,Sem.run_pure]
    ·rename_i hf
     cases h
     have hf2 : Qq (tkT P kt) k' es2 0=some none:=by
      rcases hp.find hok hf with ⟨_,s,_,_,h0⟩ | ⟨_,h0,_⟩ | ⟨i,j2,u2,h0,_⟩
      ·exact h0
      ·rw [h0];rfl
      ·cases h0
     obtain ⟨r',h1,h2⟩:=QL hd 0 hr hf2
     cases r' with
     | some p=>exact h2.elim
     | none=>
      refine .same hS (v':=.tuple #[]) .un ?_
      simp only [Builtin.delete_,List.getElem?_toArray,List.getElem?_cons_zero,List.getElem?_cons_succ,Sem.run_bind,run_underlying ht,Result.andThen_ok,ZO hb,hchk,ZP hd h1,Qv hb,Sem.run_pure,Wg hb]
    ·cases h
  ·cases h
 ·cases h
theorem Zer (hS : Sim G w0 ι H w) {t : TypeId} (h : mkm H=some (v,H1)) : Res G w0 ι v H1 ((Instr.makeMap t none).run P w):=by
 unfold mkm at h
 cases h
 have hnew:=hS.new (x:=.map [] 0) (l:=⟨w.heap.size,0,0,0,false⟩) (.map #[] 0) rfl ⟨_,#[],ZD _ _ _,Yr w _,hS.size,trivial⟩
 exact ⟨_,_,_,Jd hS _,hnew,.mp (ZD _ _ _),by simp [Instr.makeMap,ZQ]⟩
theorem Zcu (hS : Sim G w0 ι H w) {t kt e ty : TypeId} {x x' : Value} (ht : P.underlying t=some (.map kt e)) (hx : RV ι x x')
  (h : Zei x H=some (v,H1)) : Res G w0 ι v H1 ((Builtin.clear_ #[t] ty #[x']).run P w):=by
 unfold Zei at h
 split at h
 ·cases h
  rw [hx.scalar_inv rfl]
  exact .same hS (v':=.tuple #[]) .un (by simp [Builtin.clear_,run_underlying ht])
 ·split at h
  ·rename_i hid
   cases h
   obtain ⟨l,hl,rfl⟩:=hx.map_inv
   obtain ⟨en,hb,_,hr⟩:=hS.mapR hid hl
   refine ⟨ι,.tuple #[],_,.refl ι,hS.setMap (es':=[]) (clk':=_) (en':=#[]) hid hl trivial,.un,?_⟩
   simp only [Builtin.clear_,List.getElem?_toArray,List.getElem?_cons_zero,Sem.run_bind,run_underlying ht,Result.andThen_ok,ZO hb,Qv hb,Sem.run_pure]
  ·rename_i hid
   cases h
   obtain ⟨l,hl,rfl⟩:=hx.map_inv
   obtain ⟨en,clk,es2,hb,_,hr,hp⟩:=hS.mapUR hid hl
   refine ⟨ι,.tuple #[],_,.refl ι,hS.setMapU (es':=[]) (es2:=[]) (clk':=clk) (en':=#[]) hid hl trivial ⟨.refl _,⟨by simp,by simp⟩,⟨by simp,by simp⟩⟩,.un,?_⟩
   simp only [Builtin.clear_,List.getElem?_toArray,List.getElem?_cons_zero,Sem.run_bind,run_underlying ht,Result.andThen_ok,ZO hb,Qv hb,Sem.run_pure]
  ·cases h
 ·cases h
theorem Zbx (hS : Sim G w0 ι H w) {t e ty : TypeId} {x x' : Value} (ht : P.underlying t=some (.slice e)) (he : okE P e=true) (hx : RV ι x x')
  (h : clr (zeT P e) (szT P e) x H=some (v,H1)) : Res G w0 ι v H1 ((Builtin.clear_ #[t] ty #[x']).run P w):=by
 obtain ⟨i,hi,hz,hzr⟩:=Yk he
 obtain ⟨hh,htup⟩:=Zav he
 obtain ⟨_,_,_,hcst,_⟩:=Jj hh
 obtain ⟨hsc,hzc⟩:=KB (ι:=ι) hcst htup
 unfold clr at h
 split at h
 ·cases h
  obtain ⟨_,_,rfl⟩:=hx.nils_inv
  exact .same hS (v':=.tuple #[]) .un (by simp [Builtin.clear_,run_underlying ht])
 ·cases h
  obtain ⟨_,_,a',c',_,rfl⟩:=hx.slcE_inv
  exact .same hS (v':=.tuple #[]) .un (by simp [Builtin.clear_,run_underlying ht])
 ·rename_i id o n c
  obtain ⟨l,c',hl,hlc,hcc,hex,hroom,rfl⟩:=hx.slc_inv
  split at h
  ·rename_i hn
   cases h
   subst hn
   exact .same hS (v':=.tuple #[]) .un (by simp [Builtin.clear_,run_underlying ht])
  ·rename_i hn
   split at h
   ·rename_i cs es' g hid
    split at h
    ·rename_i hc
     obtain ⟨rfl,hc2⟩:=hc
     cases h
     have hlen : (reps n (zeT P e).cells.toList).length=n * szT P e:=by rw [JT];simp [hz]
     obtain ⟨w1,hw1,hS1⟩:=hS.store (P:=P) hid hl (o:=o) (by rw [hlen];exact hc2) (hzc.reps n) (fun u hu=>ZaB (hsc u (ZbO hu)))
     refine ⟨ι,.tuple #[],w1,.refl ι,hS1,.un,?_⟩
     have hzc2 : (Builtin.zeroCells (zeT P e).cells n).toList=reps n (zeT P e).cells.toList:=by unfold Builtin.zeroCells;exact We
     cases n with
     | zero=>exact absurd rfl hn
     | succ n=>
      simp only [Builtin.clear_,List.getElem?_toArray,List.getElem?_cons_zero,Sem.run_bind,run_underlying ht,Result.andThen_ok,hzr,hzc2,hw1,Sem.run_pure]
    ·cases h
   ·cases h
 ·cases h
theorem Zd0 (hS : Sim G w0 ι H w) {t : TypeId} {d : TypeDesc} {x x' : Value} (ht : P.underlying t=some d) (hd : ∀ ms,d≠.interface ms) (hx : RV ι x x') (h : Zb0 t x H=some (v,H1)) :
  Res G w0 ι v H1 ((Instr.makeInterface t x').run P w):=by
 unfold Zb0 at h
 cases h
 refine .same hS (.ifc hx) ?_
 simp only [Instr.makeInterface,Sem.run_bind,run_underlying ht,Result.andThen_ok]
 cases d <;> first | rfl | exact absurd rfl (hd _)
theorem ZcN (hS : Sim G w0 ι H w) {mx : Bool} {x x' y y' : Value} {tys : Array TypeId} {ty : TypeId} (hx : RV ι x x') (hy : RV ι y y') (h : mxi mx x y H=some (v,H1)) :
  Res G w0 ι v H1 ((bif mx then Builtin.max_ tys ty #[x',y'] else Builtin.min_ tys ty #[x',y']).run P w):=by
 unfold mxi at h
 split at h
 ·cases h
  rw [hx.int_inv,hy.int_inv]
  cases mx
  ·refine .sc hS rfl ?_
   simp [Builtin.min_,Builtin.min2]
  ·refine .sc hS rfl ?_
   simp [Builtin.max_,Builtin.max2]
 ·cases h
end
end Go.Proofs.Ytfefblgkfdaekaa.A

