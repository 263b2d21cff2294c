/- What the law ImageMost needs (part 2). -/
import Derived.Test.YtgfbgfafajiehaaGreatDoorZImageMost1
import Derived.CallsIn
import Derived.TacticsIn
import Derived.OrdersIn
import Derived.LoopNIn
import Derived.Laws.Externs
import Derived.RangeFuncIn
import Derived.RangeFuncRecord
import Derived.RangeFuncLeaves
import Derived.ChangeArms
import Derived.ChangeOld
import Derived.Below
import Derived.Carry
import Derived.ProofKit
import Derived.Laws.LoneSync
import Derived.LaidLaws
import Derived.Test.YtgfbgfafajiehaaGreatDoorProg
import Derived.KernelRfl
namespace Go.Proofs.YtgfbgfafajiehaaGreatDoor.A
set_option linter.unusedVariables false
set_option linter.unusedSimpArgs false
def FR (rd : Option Nat) : Fence:={ Fence.wide with round:=rd }
def _root_.Go.Oper.wpX (rd : Option Nat) (P : Program) (o : Oper) (a : Act) (w : World) (next : Act→World→Prop) (Q : Exit→Act→World→Prop) : Prop:=
 o.uponIn (FR rd) 0 P a next Q ((execOp a.eval o).run P w)
theorem Zmx {rd : Option Nat} {P : Program} {o : Oper} {a : Act} {w : World} {next : Act→World→Prop} {Q : Exit→Act→World→Prop} (hd : ∀ c,o.op≠.defer c) (h : o.wpX rd P a w next Q) : o.wpIn (FR rd) 0 P a w next Q:=by
 refine ⟨fun _ _=>trivial,?_⟩
 rw [Oper.semAt_eq _ _ _ hd]
 exact h
theorem ZaA {rd : Option Nat} {n : Nat} {P : Program} {g : FuncId} {args : Array Value} {w : World} {R : Ending→World→Prop} (h : Calls P g args w R) : CallsIn (FR rd) n P g args w R:=
 show CallsIn Fence.wide n P g args w R from callsIn_wide.2 h
theorem Zjt {rd : Option Nat} {n : Nat} {P : Program} {l : Nat} {f : FuncId} {tmps : Array Value} {assign body : Code} {w : World} {R : Ending→World→Prop} (h : RoundIn Fence.wide n P l f tmps assign body w R) : RoundIn (FR rd) n P l f tmps assign body w R:=h
def Yc (l : List Nat) : List Deferred:=l.map fun b=>{ target:=.collected b,args:=#[] }
structure St (G : Nat) (w0 : Zi) (N : Nat) (ι : Nat→Option Loc) (r : Ze) (H : Za) (a : Act) (w : World) : Prop where
 sim : Sim G w0 ι H w
 regs : ∀ t,RV ι (Zn r t) (a.tmps.getD t undef)
 size : a.tmps.size=N
 defers : a.defers=Yc w0.own
def QP (P : Program) (g : FuncId) : Prop := ∃ fn, P.funcs[g]? = some fn ∧ (fn.name == "runtime.NumGoroutine") = false ∧ fn.body.isNone = false
def ZfH (P : Program) (g : FuncId) (e : Array Value→Sem Value) : Prop:=
 ∃ fn, P.funcs[g]? = some fn ∧ (fn.name == "runtime.NumGoroutine") = false ∧ fn.body.isNone = true ∧ Extern.findNext fn = none ∧ Extern.find fn = some e
def Zfd (P : Program) (G : Nat) (w0 : Zi) (g : FuncId) (v : Value) (args : List Value) (H H1 : Za) : Prop:=
 QP P g∧∀ ι w args',Sim G w0 ι H w→RVs ι args args'→
  Calls P g args'.toArray w fun e w'=>∃ ι1 v',Le ι ι1∧e=.returned v'∧RV ι1 v v'∧Sim G w0 ι1 H1 w'
def Zkg (P : Program) (G : Nat) (w0 : Zi) (g : FuncId) (v : Value) (args : List Value) (H H1 : Za) : Prop:=
 ∃ e,ZfH P g e∧∀ ι w args',Sim G w0 ι H w→RVs ι args args'→Res G w0 ι v H1 ((e args'.toArray).run P w)
def Zk4 (P : Program) (G : Nat) (w0 : Zi) (L : Nat) (v : Value) (args : List Value) (H H1 : Za) : Prop:=
 ∀ ι w args' l,ι L=some l→Sim G w0 ι H w→RVs ι args args'→∃ f tmps asg bd,(Instr.yield l.blk args'.toArray).run P w=.ok (.round l.blk f tmps asg bd) w∧
  RoundIn Fence.wide 0 P l.blk f tmps asg bd w fun e w'=>∃ ι1 v',Le ι ι1∧e=.returned v'∧RV ι1 v v'∧Sim G w0 ι1 H1 w'
def Qc (P : Program) (G : Nat) (w0 : Zi) (g : FuncId) (m : List Value→M Value) : Prop:=
 ∀ args H v H1,m args H=some (v,H1)→(g < Z0∧(Zfd P G w0 g v args H H1∨Zkg P G w0 g v args H H1))∨(Z0≤g∧Zk4 P G w0 (g - Z0) v args H H1)
section
variable {P : Program} {Γ : Zb} {w0 : Zi} {N : Nat} {ι : Nat→Option Loc} {r : Ze} {H : Za} {a : Act} {w : World} {ρ : Operand→Value} {rd : Option Nat}
theorem St.put {G : Nat} (h : St G w0 N ι r H a w) {ι1 : Nat→Option Loc} {H1 : Za} {w1 : World} (hl : Le ι ι1) (hs : Sim G w0 ι1 H1 w1) {v v' : Value} (hv : RV ι1 v v') {d : Option Nat}
  (hd : ∀ x,d=some x→x < N) : St G w0 N ι1 (QG r d v) H1 (a.put d v') w1:=by
 cases d with
 | none=>exact ⟨hs,fun t=>(h.regs t).mono hl,h.size,h.defers⟩
 | some d=>
  have hlt:=hd d rfl
  refine ⟨hs,fun t=>?_,by simp [Act.put,h.size],h.defers⟩
  simp only [QG,Zn,Act.put]
  by_cases e : d=t
  ·subst e
   simpa [h.size,hlt] using hv
  ·have e1 : Nat.beq d t=false:=by
    cases h : Nat.beq d t with
    | false=>rfl
    | true=>exact absurd (Nat.eq_of_beq_eq_true h) e
   have:=(h.regs t).mono hl
   simpa [e1,Array.getElem?_setIfInBounds_ne e] using this
theorem St.ev (h : St P.globals.size w0 N ι r H a w) {x : Operand} (hx : Z2 P x=true) : RV ι (A.ev r x) (a.eval x):=by
 cases x with
 | tmp t=>exact h.regs t
 | const v=>exact .const hx
 | global g=>
  obtain ⟨l,h1,h2,h3⟩:=h.sim.glob g (by simpa [Z2] using hx)
  have:=RV.ptr (o:=0) h1
  rwa [h2,h3] at this
 | func f=>exact .fn (fun l e=>by cases e) rfl (by simp) rfl (by simp)
theorem bind_some {α β : Type} {m : M α} {k : α→M β} {H : Za} {x : β × Za} (h : A.bind m k H=some x) : ∃ v H1,m H=some (v,H1)∧k v H1=some x:=by
 unfold A.bind at h
 split at h
 ·cases h
 ·exact ⟨_,_,by assumption,h⟩
theorem Wa {β : Type} {H : Za} {x : β × Za} (h : (fail : M β) H=some x) : False:=by cases h
theorem Zc {β : Type} {k : Value→M β} {H : Za} {x : β × Za} (h : appM (.cmp fail) k H=some x) : False:=by cases h
def ZdA {β : Type} (P : Program) (w0 : Zi) (ι : Nat→Option Loc) (a : Act) (dst : Option Tmp) (k : Value→M β) (x : β × Za) (next : Act→World→Prop) : Prop:=
 ∀ ι1 v v' H1 w1,Le ι ι1→RV ι1 v v'→Sim P.globals.size w0 ι1 H1 w1→k v H1=some x→next (a.put dst v') w1
theorem Zq {β : Type} {o : Oper} {k : Value→M β} {x : β × Za} {next : Act→World→Prop} {Q : Exit→Act→World→Prop} {s : Sem Value} {v : Value} {H1 : Za}
  (hx : (execOp a.eval o).run P w=(s.run P w).andThen fun v w=>.ok (.value v) w) (hr : Res P.globals.size w0 ι v H1 (s.run P w)) (hk : k v H1=some x)
  (hn : ZdA P w0 ι a o.dst k x next) : o.wpX rd P a w next Q:=by
 obtain ⟨ι1,v',w1,h1,h2,h3,h4⟩:=hr
 unfold Oper.wpX
 rw [hx,h4]
 exact hn ι1 v v' H1 w1 h1 h3 h2 hk
theorem WC {β : Type} {o : Oper} {k : Value→M β} {x : β × Za} {next : Act→World→Prop} {Q : Exit→Act→World→Prop} {s : Sem Unit} {v : Value} {H1 : Za}
  (hx : (execOp a.eval o).run P w=(s.run P w).andThen fun _ w=>.ok .skip w) (hr : v=undef∧Zha P.globals.size w0 ι H1 (s.run P w)) (hk : k v H1=some x)
  (hn : ZdA P w0 ι a o.dst k x next) : o.wpX rd P a w next Q:=by
 obtain ⟨rfl,ι1,w1,h1,h2,h4⟩:=hr
 unfold Oper.wpX
 rw [hx,h4]
 exact hn ι1 undef undef H1 w1 h1 .un h2 hk
theorem ZbK {β : Type} {o : Oper} {k : Value→M β} {x : β × Za} {next : Act→World→Prop} {Q : Exit→Act→World→Prop} {v v' : Value}
  (hS : Sim P.globals.size w0 ι H w) (hx : (execOp a.eval o).run P w=.ok (.value v') w) (hv : RV ι v v') (hk : k v H=some x)
  (hn : ZdA P w0 ι a o.dst k x next) : o.wpX rd P a w next Q:=by
 unfold Oper.wpX
 rw [hx]
 exact hn ι v v' H w (.refl ι) hv hS hk
theorem Zv (s : Sem Value) : (do pure (Next.value (← s)) : Sem Next).run P w=(s.run P w).andThen fun v w=>.ok (.value v) w:=by
 simp only [Sem.run_bind,Sem.run_pure]
theorem Ya (s : Sem Unit) : (do s;pure Next.skip : Sem Next).run P w=(s.run P w).andThen fun _ w=>.ok .skip w:=by
 simp only [Sem.run_bind,Sem.run_pure]
theorem Zio {β : Type} {o : Oper} {c : Call} {f : Operand} {k : Value→M β} {x : β × Za} {next : Act→World→Prop} {Q : Exit→Act→World→Prop}
  (hS : Sim P.globals.size w0 ι H w) (hΓ : ∀ g,Qc P P.globals.size w0 g (Γ g)) (ho : o.op=.call c) (hf : c.callee=.value f)
  (hcf : RV ι (ρ f) (a.eval f)) (hca : ∀ y∈c.args.toList,RV ι (ρ y) (a.eval y)) (h : A.bind (ZX Γ (ρ f) (c.args.toList.map ρ)) k H=some x)
  (hn : ZdA P w0 ι a o.dst k x next) : o.wpX rd P a w next Q:=by
 obtain ⟨v,H1,h1,hk⟩:=bind_some h
 generalize hm : ZX Γ (ρ f) (c.args.toList.map ρ)=m at h1
 unfold ZX at hm
 split at hm
 ·rename_i g first captured hev
  cases hgy : Nat.blt g Z0 with
  | false=>rw [hgy] at hm;simp only [cond_false] at hm;subst hm;exact (Wa h1).elim
  | true=>
  rw [hgy] at hm
  subst hm
  have hgy' : g < Z0:=by simpa using hgy
  simp only [cond_true] at h1
  have hvf:=hcf
  rw [hev] at hvf
  obtain ⟨first',captured',hev',hr1,hr2⟩:=hvf.fn_inv
  have hargs : ∀ l : List Operand,(∀ y∈l,RV ι (ρ y) (a.eval y))→RVs ι (l.map ρ) (l.map a.eval):=by
   intro l
   induction l with
   | nil=>intro _;exact .nil
   | cons y l ih=>intro hl;exact .cons (hl y (by simp)) (ih fun z hz=>hl z (by simp [hz]))
  have e : ∀ X : Sem Next,(execOp a.eval o)=(do let d ← resolve a.eval c o.type;invoke d.target d.args):=by
   intro _;unfold execOp;rw [ho]
  rcases hΓ g _ _ _ _ h1 with ⟨_,⟨⟨fn,hfn,hname,hbody⟩,hcalls⟩ | ⟨ex,⟨fn,hfn,hname,hbody,hfnx,hfe⟩,hres⟩⟩ | ⟨hno,_⟩
  ·have hc:=hcalls ι w _ hS (hr1.append ((hargs _ hca).append hr2))
   have hrun : (execOp a.eval o).run P w=.ok (.enter g (first'.toList++(c.args.toList.map a.eval++captured'.toList)).toArray) w:=by
    rw [e (pure .skip)]
    simp only [resolve,hf,hev',Deferred.ofValue,Sem.run_bind,Sem.run_pure,Result.andThen_ok,invoke,callFunc,run_program,hfn,hname,hbody,Bool.false_eq_true,if_false]
    congr 2
    apply Array.ext'
    simp
   unfold Oper.wpX
   rw [hrun,Oper.uponIn_enter]
   refine ⟨(fun h=>by cases h),ZaA (hc.mono fun e w' he=>?_)⟩
   obtain ⟨ι1,v',hle,rfl,hv,hs⟩:=he
   exact hn ι1 v v' H1 w' hle hv hs hk
  ·refine Zq (s:=ex (first'.toList++(c.args.toList.map a.eval++captured'.toList)).toArray) ?_ (hres ι w _ hS (hr1.append ((hargs _ hca).append hr2))) hk hn
   rw [e (pure .skip)]
   have harr : (first'++c.args.map a.eval++captured')=(first'.toList++(c.args.toList.map a.eval++captured'.toList)).toArray:=by
    apply Array.ext';simp
   simp only [resolve,hf,hev',Deferred.ofValue,Sem.run_bind,Sem.run_pure,Result.andThen_ok,invoke,run_callFunc_extern hfn hname hbody hfnx hfe]
   first | rw [harr] | (congr 3;apply Array.ext';simp)
  ·exact absurd hgy' (Nat.not_lt_of_le hno)
 ·rename_i L ca cb hev
  subst hm
  have hvf:=hcf
  rw [hev] at hvf
  obtain ⟨rfl,rfl,l,hl,hev'⟩:=hvf.yl_inv
  have hargs : ∀ l : List Operand,(∀ y∈l,RV ι (ρ y) (a.eval y))→RVs ι (l.map ρ) (l.map a.eval):=by
   intro l
   induction l with
   | nil=>intro _;exact .nil
   | cons y l ih=>intro hl;exact .cons (hl y (by simp)) (ih fun z hz=>hl z (by simp [hz]))
  rcases hΓ _ _ _ _ _ h1 with ⟨hno,_⟩ | ⟨_,hY⟩
  ·exact absurd hno (Nat.not_lt_of_le (Nat.le_add_right _ _))
  rw [Nat.add_sub_cancel_left] at hY
  obtain ⟨f',tmps,asg,bd,hy,hr⟩:=hY ι w _ l hl hS (hargs _ hca)
  have hrun : (execOp a.eval o).run P w=.ok (.round l.blk f' tmps asg bd) w:=by
   have e : (execOp a.eval o)=(do let d ← resolve a.eval c o.type;invoke d.target d.args):=by unfold execOp;rw [ho]
   rw [e]
   rw [← hy]
   simp only [resolve,hf,hev',Deferred.ofValue,Sem.run_bind,Sem.run_pure,Result.andThen_ok,invoke]
   congr 2
   apply Array.ext'
   simp
  unfold Oper.wpX
  rw [hrun,Oper.uponIn_round]
  refine ⟨(fun h=>by cases h),Zjt (hr.mono fun e w' he=>?_)⟩
  obtain ⟨ι1,v',hle,rfl,hv,hs⟩:=he
  exact hn ι1 v v' H1 w' hle hv hs hk
 ·subst hm;exact (Wa h1).elim
theorem ZiF {β : Type} {o : Oper} {c : Call} {f : Operand} {nm : String} {k : Value→M β} {x : β × Za} {next : Act→World→Prop} {Q : Exit→Act→World→Prop}
  (hS : Sim P.globals.size w0 ι H w) (hΓ : ∀ g,Qc P P.globals.size w0 g (Γ g)) (ho : o.op=.call c) (hf : c.callee=.invoke f nm)
  (hcf : RV ι (ρ f) (a.eval f)) (hca : ∀ y∈c.args.toList,RV ι (ρ y) (a.eval y)) (h : A.bind (Zak P Γ (ρ f) nm (c.args.toList.map ρ)) k H=some x)
  (hn : ZdA P w0 ι a o.dst k x next) : o.wpX rd P a w next Q:=by
 obtain ⟨v,H1,h1,hk⟩:=bind_some h
 generalize hm : Zak P Γ (ρ f) nm (c.args.toList.map ρ)=m at h1
 unfold Zak at hm
 split at hm
 ·rename_i t y hev
  split at hm
  ·rename_i g hg
   subst hm
   have hvf:=hcf
   rw [hev] at hvf
   obtain ⟨y',hev',hy⟩:=hvf.ifc_inv
   have hargs : ∀ l : List Operand,(∀ y∈l,RV ι (ρ y) (a.eval y))→RVs ι (l.map ρ) (l.map a.eval):=by
    intro l
    induction l with
    | nil=>intro _;exact .nil
    | cons y l ih=>intro hl;exact .cons (hl y (by simp)) (ih fun z hz=>hl z (by simp [hz]))
   unfold ZlN at hg
   split at hg
   ·rename_i i e hi hu
    split at hg
    ·rename_i mt hmt
     split at hg
     ·rename_i g2 hp hfn2
      cases hgy : Nat.blt g2 Z0 with
      | false=>rw [hgy] at hg;cases hg
      | true=>
      rw [hgy] at hg
      cases hg
      have hgy' : g < Z0:=by simpa using hgy
      have hmeth : ∀ n,(method (n+1) t y' nm).run P w=.ok (g,y') w:=by
       intro n
       simp [method,run_typeInfo w hi,hmt,hp,follow,hfn2,receiverAt,run_underlying hu,Place.get]
      have e : (execOp a.eval o)=(do let d ← resolve a.eval c o.type;invoke d.target d.args):=by unfold execOp;rw [ho]
      have hrun1 : (execOp a.eval o).run P w=(callFunc g ((y' :: c.args.toList.map a.eval).toArray)).run P w:=by
       rw [e]
       simp only [resolve,hf,hev',Sem.run_bind,Sem.run_pure,Result.andThen_ok,invoke]
       have h0 : ((#[Value.iface t y'] : Array Value)++c.args.map a.eval)[0]?=some (.iface t y'):=by
        rw [← Array.getElem?_toList];simp
       have h2 : ((#[Value.iface t y'] : Array Value)++c.args.map a.eval).extract 1 ((#[Value.iface t y'] : Array Value)++c.args.map a.eval).size=c.args.map a.eval:=by
        apply Array.ext'
        simp only [Array.toList_extract,Array.toList_append,List.extract_eq_take_drop]
        simp
        exact List.take_of_length_le (by simp)
       rw [h0]
       simp only [h2,callMethod,Sem.run_bind,run_program,Result.andThen_ok]
       have h3:=hmeth (P.types.size+Made.depth - 1)
       rw [show P.types.size+Made.depth - 1+1=P.types.size+Made.depth from Nat.sub_add_cancel (Nat.le_trans (by decide) (Nat.le_add_left _ _))] at h3
       rw [h3]
       simp only [Result.andThen_ok]
       congr 2
       apply Array.ext';simp
      rcases hΓ g _ _ _ _ h1 with ⟨_,⟨⟨fn,hfn,hname,hbody⟩,hcalls⟩ | ⟨ex,⟨fn,hfn,hname,hbody,hfnx,hfe⟩,hres⟩⟩ | ⟨hno,_⟩
      ·have hc:=hcalls ι w _ hS (.cons hy (hargs _ hca))
       have hrun : (execOp a.eval o).run P w=.ok (.enter g (y' :: c.args.toList.map a.eval).toArray) w:=by
        rw [hrun1]
        simp only [callFunc,Sem.run_bind,run_program,Result.andThen_ok,hfn,hname,hbody,Bool.false_eq_true,if_false,Sem.run_pure]
       unfold Oper.wpX
       rw [hrun,Oper.uponIn_enter]
       refine ⟨(fun h=>by cases h),ZaA (hc.mono fun e w' he=>?_)⟩
       obtain ⟨ι1,v',hle,rfl,hv,hs⟩:=he
       exact hn ι1 v v' H1 w' hle hv hs hk
      ·refine Zq (s:=ex (y' :: c.args.toList.map a.eval).toArray) ?_ (hres ι w _ hS (.cons hy (hargs _ hca))) hk hn
       rw [hrun1,run_callFunc_extern hfn hname hbody hfnx hfe]
      ·exact absurd hgy' (Nat.not_lt_of_le hno)
     ·cases hg
    ·cases hg
   ·cases hg
  ·subst hm;exact (Wa h1).elim
 ·subst hm;exact (Wa h1).elim
theorem Qy {o : Oper} {c : Call} {b : Builtin} (ho : o.op=.call c) (hf : c.callee=.builtin b) :
  ∃ consts,∀ w,(execOp a.eval o).run P w=(builtin b c.argTypes o.type consts (c.args.map a.eval)).run P w:=by
 have e : (execOp a.eval o)=(do let d ← resolve a.eval c o.type;invoke d.target d.args):=by unfold execOp;rw [ho]
 refine ⟨c.args.map fun | .const _=>true | _=>false,fun w=>?_⟩
 rw [e]
 simp only [resolve,hf,Sem.run_bind,Sem.run_pure,Result.andThen_ok,invoke]
 rfl
theorem Km {α : Type} {c : Array α} {x : α} (h : c.toList=[x]) : c=#[x]:=by
 apply Array.ext';simpa using h
theorem Qt {α : Type} {c : Array α} {x y : α} (h : c.toList=[x,y]) : c=#[x,y]:=by
 apply Array.ext';simpa using h
theorem Zii {β : Type} {o : Oper} {c : Call} {k : Value→M β} {x : β × Za} {next : Act→World→Prop} {Q : Exit→Act→World→Prop}
  (hS : Sim P.globals.size w0 ι H w) (hΓ : ∀ g,Qc P P.globals.size w0 g (Γ g)) (ho : o.op=.call c)
  (hc : ∀ y∈c.operands.toList,RV ι (ρ y) (a.eval y)) (h : appM (Jz P Γ ρ c) k H=some x) (hn : ZdA P w0 ι a o.dst k x next) : o.wpX rd P a w next Q:=by
 have hargs : ∀ y∈c.args.toList,RV ι (ρ y) (a.eval y):=fun y hy=>hc y (by
  simp only [Call.operands,Array.toList_append,List.mem_append]
  exact .inr hy)
 generalize hm : Jz P Γ ρ c=m at h
 unfold Jz at hm
 split at hm
 ·rename_i f hf
  subst hm
  exact Zio hS hΓ ho hf (hc f (by simp [Call.operands,hf])) hargs h hn
 ·rename_i r nm hf
  subst hm
  exact ZiF hS hΓ ho hf (hc r (by simp [Call.operands,hf])) hargs h hn
 ·
  rename_i y t hf ha ht
  have hy:=hargs y (by simp [ha])
  obtain ⟨consts,hrun⟩:=Qy (P:=P) (a:=a) ho hf
  rw [Km ha,Km ht] at hrun
  split at hm
  ·subst hm
   obtain ⟨v,H1,h1,hk⟩:=bind_some h
   exact Zq (s:=Builtin.len_ #[t] o.type #[a.eval y]) (by rw [hrun];simp [builtin]) (ZlH hS (by assumption) hy h1 _) hk hn
  ·subst hm
   obtain ⟨v,H1,h1,hk⟩:=bind_some h
   exact Zq (s:=Builtin.len_ #[t] o.type #[a.eval y]) (by rw [hrun];simp [builtin]) (ZlB hS (by assumption) hy h1 _) hk hn
  ·subst hm
   obtain ⟨v,H1,h1,hk⟩:=bind_some h
   exact Zq (s:=Builtin.len_ #[t] o.type #[a.eval y]) (by rw [hrun];simp [builtin]) (Zlh hS (by assumption) hy h1) hk hn
  ·subst hm;exact (Zc h).elim
 ·
  rename_i s y t u hf ha ht
  have hs:=hargs s (by simp [ha])
  have hy:=hargs y (by simp [ha])
  obtain ⟨consts,hrun⟩:=Qy (P:=P) (a:=a) ho hf
  rw [Qt ha,Qt ht] at hrun
  split at hm
  ·rename_i e d hue hud
   cases he : okE P e with
   | false=>rw [he] at hm;subst hm;exact (Zc h).elim
   | true=>
    rw [he] at hm;subst hm
    obtain ⟨v,H1,h1,hk⟩:=bind_some h
    exact Zq (s:=Builtin.append_ #[t,u] o.type #[a.eval s,a.eval y]) (by rw [hrun];simp [builtin]) (Zi7 hS hue (.inl ⟨_,hud⟩) he hs hy h1) hk hn
  ·rename_i e hue hud
   cases he : okE P e with
   | false=>rw [he] at hm;subst hm;exact (Zc h).elim
   | true=>
    rw [he] at hm;subst hm
    obtain ⟨v,H1,h1,hk⟩:=bind_some h
    exact Zq (s:=Builtin.append_ #[t,u] o.type #[a.eval s,a.eval y]) (by rw [hrun];simp [builtin]) (Zi7 hS hue (.inr hud) he hs hy h1) hk hn
  ·subst hm;exact (Zc h).elim
 ·
  rename_i ts y z hf ha
  have hy:=hargs y (by simp [ha])
  have hz:=hargs z (by simp [ha])
  obtain ⟨consts,hrun⟩:=Qy (P:=P) (a:=a) ho hf
  rw [Qt ha] at hrun
  subst hm
  obtain ⟨v,H1,h1,hk⟩:=bind_some h
  exact Zq (s:=Builtin.max_ c.argTypes o.type #[a.eval y,a.eval z]) (by rw [hrun];simp [builtin]) (Zjj (mx:=true) (tys:=c.argTypes) (ty:=o.type) hS hy hz h1) hk hn
 ·
  rename_i ts y z hf ha
  have hy:=hargs y (by simp [ha])
  have hz:=hargs z (by simp [ha])
  obtain ⟨consts,hrun⟩:=Qy (P:=P) (a:=a) ho hf
  rw [Qt ha] at hrun
  subst hm
  obtain ⟨v,H1,h1,hk⟩:=bind_some h
  exact Zq (s:=Builtin.min_ c.argTypes o.type #[a.eval y,a.eval z]) (by rw [hrun];simp [builtin]) (Zjj (mx:=false) (tys:=c.argTypes) (ty:=o.type) hS hy hz h1) hk hn
 ·
  rename_i d y t u hf ha ht
  have hd:=hargs d (by simp [ha])
  have hy:=hargs y (by simp [ha])
  obtain ⟨consts,hrun⟩:=Qy (P:=P) (a:=a) ho hf
  rw [Qt ha,Qt ht] at hrun
  split at hm
  ·rename_i e hue
   cases he : okE P e with
   | false=>rw [he] at hm;subst hm;exact (Zc h).elim
   | true=>
    rw [he] at hm;subst hm
    obtain ⟨v,H1,h1,hk⟩:=bind_some h
    exact Zq (s:=Builtin.copy_ #[t,u] o.type #[a.eval d,a.eval y]) (by rw [hrun];simp [builtin]) (Zmm hS hue he hd hy h1) hk hn
  ·subst hm;exact (Zc h).elim
 ·
  rename_i y t hf ha ht
  have hy:=hargs y (by simp [ha])
  obtain ⟨consts,hrun⟩:=Qy (P:=P) (a:=a) ho hf
  rw [Km ha,Km ht] at hrun
  split at hm
  ·rename_i e hue
   cases he : okE P e with
   | false=>rw [he] at hm;subst hm;exact (Zc h).elim
   | true=>
    rw [he] at hm;subst hm
    obtain ⟨v,H1,h1,hk⟩:=bind_some h
    exact Zq (s:=Builtin.clear_ #[t] o.type #[a.eval y]) (by rw [hrun];simp [builtin]) (ZgT hS hue he hy h1) hk hn
  ·rename_i kt e hue
   subst hm
   obtain ⟨v,H1,h1,hk⟩:=bind_some h
   exact Zq (s:=Builtin.clear_ #[t] o.type #[a.eval y]) (by rw [hrun];simp [builtin]) (Zi3 hS hue hy h1) hk hn
  ·subst hm;exact (Zc h).elim
 ·
  rename_i m1 y t u hf ha ht
  have hm1:=hargs m1 (by simp [ha])
  have hy:=hargs y (by simp [ha])
  obtain ⟨consts,hrun⟩:=Qy (P:=P) (a:=a) ho hf
  rw [Qt ha,Qt ht] at hrun
  split at hm
  ·rename_i kt e hue
   subst hm
   obtain ⟨v,H1,h1,hk⟩:=bind_some h
   exact Zq (s:=Builtin.delete_ #[t,u] o.type #[a.eval m1,a.eval y]) (by rw [hrun];simp [builtin]) (Zl7 hS hue hm1 hy h1) hk hn
  ·subst hm;exact (Zc h).elim
 ·subst hm;exact (Zc h).elim
theorem RO.map {x : Option Operand} (h : ∀ y,x=some y→RV ι (ρ y) (a.eval y)) : RO ι (x.map ρ) (x.map a.eval):=by
 cases x with
 | none=>trivial
 | some y=>exact h y rfl
theorem RVs.map {l : List Operand} (h : ∀ y∈l,RV ι (ρ y) (a.eval y)) : RVs ι (l.map ρ) (l.map a.eval):=by
 induction l with
 | nil=>exact .nil
 | cons y l ih=>exact .cons (h y (by simp)) (ih fun z hz=>h z (by simp [hz]))
theorem PR.struct {fs : Array Field} : ∀ {ps : List (Nat × Operand)} {l : List (Nat × Nat × Value)},(∀ p∈ps,RV ι (ρ p.2) (a.eval p.2))→
  (ps.mapM fun p=>match fs[p.1]? with | some f=>some (f.offset,szT P f.type,ρ p.2) | none=>none)=some l→
  PR ι (fun i=>(fs[i]?).map fun f=>(f.offset,szT P f.type)) l (ps.map fun p=>(p.1,a.eval p.2))
 | [],l,_,h=>by simp at h;subst h;exact .nil
 | p :: ps,l,hr,h=>by
  simp only [List.mapM_cons] at h
  cases hf : fs[p.1]? with
  | none=>simp [hf] at h
  | some f=>
   simp only [hf] at h
   simp only [Option.bind_eq_bind,Option.bind_some] at h
   cases hl : (ps.mapM fun p=>match fs[p.1]? with | some f=>some (f.offset,szT P f.type,ρ p.2) | none=>none) with
   | none=>rw [hl] at h;simp at h
   | some l'=>
    rw [hl] at h
    simp at h
    subst h
    exact .cons (by simp [hf]) (hr p (by simp)) (PR.struct (fun q hq=>hr q (by simp [hq])) hl)
theorem PR.arr {n : Nat} : ∀ {ps : List (Nat × Operand)},(∀ p∈ps,RV ι (ρ p.2) (a.eval p.2))→
  PR ι (fun i=>some (i * n,n)) (ps.map fun p=>(p.1 * n,n,ρ p.2)) (ps.map fun p=>(p.1,a.eval p.2))
 | [],_=>.nil
 | p :: ps,hr=>.cons rfl (hr p (by simp)) (PR.arr fun q hq=>hr q (by simp [hq]))
theorem Zkd {β : Type} {o : Oper} {op : Op} {k : Value→M β} {x : β × Za} {next : Act→World→Prop} {Q : Exit→Act→World→Prop}
  (hS : Sim P.globals.size w0 ι H w) (hΓ : ∀ g,Qc P P.globals.size w0 g (Γ g)) (ho : o.op=op)
  (hc : ∀ y∈op.operands.toList,RV ι (ρ y) (a.eval y)) (h : Z7 P Γ ρ op k H=some x) (hn : ZdA P w0 ι a o.dst k x next) : o.wpX rd P a w next Q:=by
 cases op with
 | move y=>
  exact ZbK hS (by unfold execOp;rw [ho];rfl) (hc y (by simp [Op.operands])) h hn
 | assign y=>
  exact ZbK hS (by unfold execOp;rw [ho];rfl) (hc y (by simp [Op.operands])) h hn
 | pick c y z=>
  obtain ⟨v,H1,h1,hk⟩:=bind_some h
  exact Zq (s:=do pure (if ← asBool (a.eval c) then a.eval y else a.eval z)) (by simp only [execOp,ho,Sem.run_bind,Sem.run_pure];cases (asBool (a.eval c)).run P w <;> rfl)
   (ZlJ hS (hc c (by simp [Op.operands])) (hc y (by simp [Op.operands])) (hc z (by simp [Op.operands])) h1) hk hn
 | extract t i=>
  obtain ⟨v,H1,h1,hk⟩:=bind_some h
  exact Zq (s:=Instr.extract (a.eval t) i) (by unfold execOp;rw [ho];exact Zv _) (Zlr hS (hc t (by simp [Op.operands])) h1) hk hn
 | nilCheck y=>
  obtain ⟨v,H1,h1,hk⟩:=bind_some h
  have hy:=hc y (by simp [Op.operands])
  unfold Ql at h1
  split at h1
  ·rename_i b hev
   cases h1
   rw [hev] at hy
   obtain ⟨b',hb',hb2⟩:=hy.ptr_none
   cases b' with
   | none=>simp at hb2
   | some b'=>
    exact ZbK hS (v':=.pointer (some b')) (by unfold execOp;rw [ho];simp only [hb'];rfl) (by rw [← hb'];exact hy) hk hn
  ·rename_i f p q hev
   cases h1
   rw [hev] at hy
   obtain ⟨p',q',hb',_⟩:=hy.fn_inv
   exact ZbK hS (v':=.func (.func f) p' q') (by unfold execOp;rw [ho];simp only [hb'];rfl) (by rw [← hb'];exact hy) hk hn
  ·cases h1
 | binOp bo t y z t2=>
  obtain ⟨v,H1,h1,hk⟩:=bind_some h
  exact Zq (s:=do eqGuard bo t y z (a.eval y) (a.eval z);binOp bo t (a.eval y) (a.eval z)) (by unfold execOp;rw [ho];exact Zv (P:=P) (w:=w) _)
   (Zl9 hS (hc y (by simp [Op.operands])) (hc z (by simp [Op.operands])) h1) hk hn
 | unOp uo t y=>
  obtain ⟨v,H1,h1,hk⟩:=bind_some h
  exact Zq (s:=Op.unary uo (a.eval y)) (by unfold execOp;rw [ho];exact Zv _) (Zl4 hS (hc y (by simp [Op.operands])) h1) hk hn
 | convert s d y=>
  have hy:=hc y (by simp [Op.operands])
  unfold Z7 at h
  generalize hm : opM P Γ ρ (.convert s d y)=m at h
  unfold opM at hm
  simp only at hm
  have hx : ∀ w,(execOp a.eval o).run P w=((convert s d (a.eval y)).run P w).andThen fun v w=>.ok (.value v) w:=fun w=>by unfold execOp;rw [ho];exact Zv _
  split at hm
  ·subst hm
   obtain ⟨v,H1,h1,hk⟩:=bind_some h
   exact Zq (hx w) (ZlV hS (by assumption) (by assumption) hy h1) hk hn
  ·subst hm
   obtain ⟨v,H1,h1,hk⟩:=bind_some h
   exact Zq (hx w) (Zmg hS (by assumption) (by assumption) hy h1) hk hn
  ·split at hm
   ·subst hm
    obtain ⟨v,H1,h1,hk⟩:=bind_some h
    exact Zq (hx w) (Zl5 hS (by assumption) (by assumption) (by assumption) hy h1) hk hn
   ·subst hm;exact (Zc h).elim
  ·split at hm
   ·subst hm
    obtain ⟨v,H1,h1,hk⟩:=bind_some h
    exact Zq (hx w) (Zmp hS (by assumption) (by assumption) (by assumption) hy h1) hk hn
   ·subst hm;exact (Zc h).elim
  ·rename_i hu1 hu2
   split at hm
   ·rename_i hu3
    cases hb : Nat.beq s d with
    | false=>rw [hb] at hm;subst hm;exact (Zc h).elim
    | true=>
     rw [hb] at hm
     have:=Nat.eq_of_beq_eq_true hb
     subst this
     subst hm
     obtain ⟨v,H1,h1,hk⟩:=bind_some h
     exact Zq (hx w) (ZlS hS hu1 hu2 hu3 hy h1) hk hn
   ·subst hm;exact (Zc h).elim
  ·subst hm;exact (Zc h).elim
 | fieldAddr s y f=>
  have hy:=hc y (by simp [Op.operands])
  unfold Z7 at h
  generalize hm : opM P Γ ρ (.fieldAddr s y f)=m at h
  unfold opM at hm
  simp only at hm
  split at hm
  ·split at hm
   ·rename_i fd hfd
    cases hz : Nat.beq (szT P fd.type) 0 with
    | true=>rw [hz] at hm;subst hm;exact (Zc h).elim
    | false=>
     rw [hz] at hm;subst hm
     obtain ⟨v,H1,h1,hk⟩:=bind_some h
     exact Zq (s:=Instr.fieldAt s (a.eval y) f) (by unfold execOp;rw [ho];exact Zv _)
      (ZmK hS (by assumption) hfd (fun e=>by rw [e] at hz;cases hz) hy h1) hk hn
   ·subst hm;exact (Zc h).elim
  ·subst hm;exact (Zc h).elim
 | field s y f=>
  have hy:=hc y (by simp [Op.operands])
  unfold Z7 at h
  generalize hm : opM P Γ ρ (.field s y f)=m at h
  unfold opM at hm
  simp only at hm
  split at hm
  ·split at hm
   ·split at hm
    ·subst hm
     obtain ⟨v,H1,h1,hk⟩:=bind_some h
     exact Zq (s:=Instr.field s (a.eval y) f) (by unfold execOp;rw [ho];exact Zv _) (Zmf hS (by assumption) (by assumption) (by assumption) hy h1) hk hn
    ·subst hm;exact (Zc h).elim
   ·subst hm;exact (Zc h).elim
  ·subst hm;exact (Zc h).elim
 | indexAddr t y i=>
  have hy:=hc y (by simp [Op.operands])
  have hi:=hc i (by simp [Op.operands])
  unfold Z7 at h
  generalize hm : opM P Γ ρ (.indexAddr t y i)=m at h
  unfold opM at hm
  simp only at hm
  have hx : ∀ w,(execOp a.eval o).run P w=((Instr.indexAt t (a.eval y) (a.eval i)).run P w).andThen fun v w=>.ok (.value v) w:=fun w=>by unfold execOp;rw [ho];exact Zv _
  split at hm
  ·rename_i e hu
   cases he : P.info? e with
   | none=>rw [he] at hm;subst hm;exact (Zc h).elim
   | some ie=>
    rw [he] at hm;subst hm
    obtain ⟨v,H1,h1,hk⟩:=bind_some h
    exact Zq (hx w) (ZlX hS hu he hy hi h1) hk hn
  ·rename_i n e hu
   cases he : P.info? e with
   | none=>rw [he] at hm;subst hm;exact (Zc h).elim
   | some ie=>
    rw [he] at hm;subst hm
    obtain ⟨v,H1,h1,hk⟩:=bind_some h
    exact Zq (hx w) (Zlx hS hu he hy hi h1) hk hn
  ·subst hm;exact (Zc h).elim
 | index t y i=>
  have hy:=hc y (by simp [Op.operands])
  have hi:=hc i (by simp [Op.operands])
  unfold Z7 at h
  generalize hm : opM P Γ ρ (.index t y i)=m at h
  unfold opM at hm
  simp only at hm
  have hx : ∀ w,(execOp a.eval o).run P w=((Instr.index t (a.eval y) (a.eval i)).run P w).andThen fun v w=>.ok (.value v) w:=fun w=>by unfold execOp;rw [ho];exact Zv _
  split at hm
  ·subst hm
   obtain ⟨v,H1,h1,hk⟩:=bind_some h
   exact Zq (hx w) (Zmt hS (by assumption) hy hi h1) hk hn
  ·split at hm
   ·subst hm
    obtain ⟨v,H1,h1,hk⟩:=bind_some h
    exact Zq (hx w) (ZlR hS (by assumption) (by assumption) hy hi h1) hk hn
   ·subst hm;exact (Zc h).elim
  ·subst hm;exact (Zc h).elim
 | load t y=>
  have hy:=hc y (by simp [Op.operands])
  unfold Z7 at h
  generalize hm : opM P Γ ρ (.load t y)=m at h
  unfold opM at hm
  simp only at hm
  have hx : ∀ w,(execOp a.eval o).run P w=((Instr.loadAt t (a.eval y)).run P w).andThen fun v w=>.ok (.value v) w:=fun w=>by unfold execOp;rw [ho];exact Zv _
  split at hm
  ·subst hm
   obtain ⟨v,H1,h1,hk⟩:=bind_some h
   exact Zq (hx w) (Zmi hS (by assumption) hy h1) hk hn
  ·subst hm
   obtain ⟨v,H1,h1,hk⟩:=bind_some h
   exact Zq (hx w) (Zkp hS (by assumption) hy h1) hk hn
  ·subst hm;exact (Zc h).elim
 | store t y z=>
  have hy:=hc y (by simp [Op.operands])
  have hz:=hc z (by simp [Op.operands])
  unfold Z7 at h
  generalize hm : opM P Γ ρ (.store t y z)=m at h
  unfold opM at hm
  simp only at hm
  have hx : ∀ w,(execOp a.eval o).run P w=((Instr.storeAt t (a.eval y) (a.eval z)).run P w).andThen fun _ w=>.ok .skip w:=fun w=>by unfold execOp;rw [ho];exact Ya _
  split at hm
  ·subst hm
   obtain ⟨v,H1,h1,hk⟩:=bind_some h
   exact WC (hx w) (Zmh hS (by assumption) hy hz h1) hk hn
  ·cases hb : Nat.beq (szT P t) 1 with
   | false=>rw [hb] at hm;subst hm;exact (Zc h).elim
   | true=>
    rw [hb] at hm;subst hm
    obtain ⟨v,H1,h1,hk⟩:=bind_some h
    exact WC (hx w) (ZkI hS (by assumption) (Nat.eq_of_beq_eq_true hb) hy hz h1) hk hn
  ·subst hm;exact (Zc h).elim
 | alloc t=>
  unfold Z7 at h
  generalize hm : opM P Γ ρ (.alloc t)=m at h
  unfold opM at hm
  simp only at hm
  cases hb : QZ P t with
  | false=>rw [hb] at hm;subst hm;exact (Zc h).elim
  | true=>
   rw [hb] at hm;subst hm
   obtain ⟨v,H1,h1,hk⟩:=bind_some h
   exact Zq (s:=Instr.alloc t true (.tuple #[])) (by unfold execOp;rw [ho];exact Zv _) (ZkS hS hb h1) hk hn
 | box t y=>
  obtain ⟨v,H1,h1,hk⟩:=bind_some h
  exact Zq (s:=Instr.box t (a.eval y)) (by unfold execOp;rw [ho];exact Zv _) (Zmd hS (hc y (by simp [Op.operands])) h1) hk hn
 | call c=>
  exact Zii hS hΓ ho hc h hn
 | slice t y lo hi mx=>
  have hop : ∀ z,z∈([y]++lo.toList++hi.toList++mx.toList)→RV ι (ρ z) (a.eval z):=fun z hz=>hc z (by simpa [Op.operands] using hz)
  have hy:=hop y (by simp)
  have hlo : RO ι (lo.map ρ) (lo.map a.eval):=RO.map fun z hz=>hop z (by simp [hz])
  have hhi : RO ι (hi.map ρ) (hi.map a.eval):=RO.map fun z hz=>hop z (by simp [hz])
  have hmx : RO ι (mx.map ρ) (mx.map a.eval):=RO.map fun z hz=>hop z (by simp [hz])
  unfold Z7 at h
  generalize hm : opM P Γ ρ (.slice t y lo hi mx)=m at h
  unfold opM at hm
  simp only at hm
  have hx : ∀ w,(execOp a.eval o).run P w=((Instr.sliceAt t (a.eval y) (lo.map a.eval) (hi.map a.eval) (mx.map a.eval)).run P w).andThen fun v w=>.ok (.value v) w:=fun w=>by unfold execOp;rw [ho];exact Zv _
  split at hm
  ·split at hm
   ·subst hm
    obtain ⟨v,H1,h1,hk⟩:=bind_some h
    exact Zq (hx w) (Zmb hS (by assumption) hy hlo hhi h1) hk hn
   ·subst hm;exact (Zc h).elim
  ·rename_i e hu
   cases he : P.info? e with
   | none=>
    split at hm
    ·subst hm;exact (Zc h).elim
    ·rw [he] at hm;subst hm;exact (Zc h).elim
   | some ie=>
    split at hm
    ·subst hm;exact (Zc h).elim
    ·rename_i hne
     rw [he] at hm;subst hm
     obtain ⟨v,H1,h1,hk⟩:=bind_some h
     exact Zq (hx w) (Zl8 hS hu he hy hlo hhi hmx (by cases mx <;> cases hi <;> simp at hne ⊢) h1) hk hn
  ·subst hm;exact (Zc h).elim
 | build t ps=>
  have hop : ∀ p∈ps.toList,RV ι (ρ p.2) (a.eval p.2):=fun p hp=>hc p.2 (by
   simp only [Op.operands,List.mem_map]
   exact ⟨p,hp,rfl⟩)
  unfold Z7 at h
  generalize hm : opM P Γ ρ (.build t ps)=m at h
  unfold opM at hm
  simp only at hm
  have hx : ∀ w,(execOp a.eval o).run P w=((Instr.build t (ps.map fun p=>(p.1,a.eval p.2))).run P w).andThen fun v w=>.ok (.value v) w:=fun w=>by unfold execOp;rw [ho];exact Zv _
  cases hb : QZ P t && Yw P t with
  | false=>rw [hb] at hm;subst hm;exact (Zc h).elim
  | true=>
   rw [hb] at hm
   simp only [Bool.and_eq_true] at hb
   simp only [cond_true] at hm
   split at hm
   ·rename_i l hl
    subst hm
    obtain ⟨v,H1,h1,hk⟩:=bind_some h
    unfold WB at hl
    split at hl
    ·rename_i fs hu
     refine Zq (hx w) (Zjn hS hb.1 hb.2 (.inl ⟨fs,hu,rfl⟩) ?_ h1) hk hn
     have:=PR.struct (P:=P) (ι:=ι) (a:=a) (fs:=fs) hop hl
     simpa using this
    ·rename_i n e hu
     cases hl
     refine Zq (hx w) (Zjn hS hb.1 hb.2 (.inr ⟨n,e,hu,rfl⟩) ?_ h1) hk hn
     have:=PR.arr (ι:=ι) (a:=a) (n:=szT P e) hop
     simpa using this
    ·cases hl
   ·subst hm;exact (Zc h).elim
 | buildSlice t len ps=>
  have hop : ∀ p∈ps.toList,RV ι (ρ p.2) (a.eval p.2):=fun p hp=>hc p.2 (by
   simp only [Op.operands,List.mem_map]
   exact ⟨p,hp,rfl⟩)
  unfold Z7 at h
  generalize hm : opM P Γ ρ (.buildSlice t len ps)=m at h
  unfold opM at hm
  simp only at hm
  have hx : ∀ w,(execOp a.eval o).run P w=((Instr.buildSlice t len (ps.map fun p=>(p.1,a.eval p.2))).run P w).andThen fun v w=>.ok (.value v) w:=fun w=>by unfold execOp;rw [ho];exact Zv _
  split at hm
  ·rename_i e hu
   cases hb : okE P e && Nat.ble (len * szT P e) 16777216 with
   | false=>rw [hb] at hm;subst hm;exact (Zc h).elim
   | true=>
    rw [hb] at hm;subst hm
    simp only [Bool.and_eq_true] at hb
    obtain ⟨v,H1,h1,hk⟩:=bind_some h
    refine Zq (hx w) (ZlY hS hu hb.1 (Nat.le_of_ble_eq_true hb.2) ?_ h1) hk hn
    have:=PR.arr (ι:=ι) (a:=a) (n:=szT P e) hop
    simpa using this
  ·subst hm;exact (Zc h).elim
 | makeSlice t y z=>
  have hy:=hc y (by simp [Op.operands])
  have hz:=hc z (by simp [Op.operands])
  unfold Z7 at h
  generalize hm : opM P Γ ρ (.makeSlice t y z)=m at h
  unfold opM at hm
  simp only at hm
  have hx : ∀ w,(execOp a.eval o).run P w=((Instr.makeSlice t (a.eval y) (a.eval z)).run P w).andThen fun v w=>.ok (.value v) w:=fun w=>by unfold execOp;rw [ho];exact Zv _
  split at hm
  ·rename_i e hu
   cases hb : okE P e with
   | false=>rw [hb] at hm;subst hm;exact (Zc h).elim
   | true=>
    rw [hb] at hm;subst hm
    obtain ⟨v,H1,h1,hk⟩:=bind_some h
    exact Zq (hx w) (Zmr hS hu hb hy hz h1) hk hn
  ·subst hm;exact (Zc h).elim
 | makeMap t rs=>
  unfold Z7 at h
  generalize hm : opM P Γ ρ (.makeMap t rs)=m at h
  unfold opM at hm
  simp only at hm
  split at hm
  ·subst hm
   obtain ⟨v,H1,h1,hk⟩:=bind_some (m:=mkm) (k:=k) h
   exact Zq (s:=Instr.makeMap t none) (by unfold execOp;rw [ho];exact Zv _) (Zl3 hS h1) hk hn
  ·subst hm;exact (Zc h).elim
 | lookup t y z ok=>
  have hy:=hc y (by simp [Op.operands])
  have hz:=hc z (by simp [Op.operands])
  unfold Z7 at h
  generalize hm : opM P Γ ρ (.lookup t y z ok)=m at h
  unfold opM at hm
  simp only at hm
  split at hm
  ·rename_i kt e hu
   cases hb : QZ P e with
   | false=>rw [hb] at hm;subst hm;exact (Zc h).elim
   | true=>
    rw [hb] at hm;subst hm
    obtain ⟨v,H1,h1,hk⟩:=bind_some h
    exact Zq (s:=Instr.lookup t (a.eval y) (a.eval z) ok) (by unfold execOp;rw [ho];exact Zv _) (Zms hS hu hb hy hz h1) hk hn
  ·subst hm;exact (Zc h).elim
 | mapUpdate t y z u=>
  have hy:=hc y (by simp [Op.operands])
  have hz:=hc z (by simp [Op.operands])
  have hu:=hc u (by simp [Op.operands])
  unfold Z7 at h
  generalize hm : opM P Γ ρ (.mapUpdate t y z u)=m at h
  unfold opM at hm
  simp only at hm
  split at hm
  ·subst hm
   obtain ⟨v,H1,h1,hk⟩:=bind_some h
   exact WC (s:=Instr.mapUpdate t (a.eval y) (a.eval z) (a.eval u)) (by unfold execOp;rw [ho];exact Ya _) (Zi9 hS (by assumption) hy hz hu h1) hk hn
  ·subst hm;exact (Zc h).elim
 | insert t y z u=>
  have hy:=hc y (by simp [Op.operands])
  have hz:=hc z (by simp [Op.operands])
  have hu:=hc u (by simp [Op.operands])
  unfold Z7 at h
  generalize hm : opM P Γ ρ (.insert t y z u)=m at h
  unfold opM at hm
  simp only at hm
  split at hm
  ·subst hm
   obtain ⟨v,H1,h1,hk⟩:=bind_some h
   exact WC (s:=Instr.mapUpdate t (a.eval y) (a.eval z) (a.eval u)) (by unfold execOp;rw [ho];exact Ya _) (Zi9 hS (by assumption) hy hz hu h1) hk hn
  ·subst hm;exact (Zc h).elim
 | mapEntry t y z=>
  have hy:=hc y (by simp [Op.operands])
  have hz:=hc z (by simp [Op.operands])
  unfold Z7 at h
  generalize hm : opM P Γ ρ (.mapEntry t y z)=m at h
  unfold opM at hm
  simp only at hm
  split at hm
  ·rename_i kt e hu
   cases hb : QZ P e with
   | false=>rw [hb] at hm;subst hm;exact (Zc h).elim
   | true=>
    rw [hb] at hm;subst hm
    obtain ⟨v,H1,h1,hk⟩:=bind_some h
    exact Zq (s:=Instr.mapEntry t (a.eval y) (a.eval z)) (by unfold execOp;rw [ho];exact Zv _) (ZlP hS hu hb hy hz h1) hk hn
  ·subst hm;exact (Zc h).elim
 | entryStore t y z u=>
  obtain ⟨v,H1,h1,hk⟩:=bind_some h
  exact WC (s:=Instr.entryStore t (a.eval y) (a.eval z) (a.eval u)) (by unfold execOp;rw [ho];exact Ya _)
   (Zmk hS (hc y (by simp [Op.operands])) (hc z (by simp [Op.operands])) (hc u (by simp [Op.operands])) h1) hk hn
 | makeFunc fn fs cs=>
  have hop : ∀ z,z∈(fs++cs).toList→RV ι (ρ z) (a.eval z):=fun z hz=>hc z (by simpa [Op.operands] using hz)
  cases fn with
  | func gf=>?_
  | _=>exact (Zc h).elim
  refine ZbK hS (v':=.func (.func gf) (fs.map a.eval) (cs.map a.eval)) (by unfold execOp;rw [ho];rfl) ?_ h hn
  have h1:=RVs.map (ι:=ι) (a:=a) (l:=fs.toList) fun z hz=>hop z (by simp at hz ⊢;exact .inl hz)
  have h2:=RVs.map (ι:=ι) (a:=a) (l:=cs.toList) fun z hz=>hop z (by simp at hz ⊢;exact .inr hz)
  obtain ⟨e1,e2⟩:=RVs.to_arr (a:=fs.map ρ) (a':=fs.map a.eval) (by simpa using h1)
  obtain ⟨e3,e4⟩:=RVs.to_arr (a:=cs.map ρ) (a':=cs.map a.eval) (by simpa using h2)
  exact .fn (fun l e=>by cases e) e1 e2 e3 e4
 | makeInterface t y=>
  have hy:=hc y (by simp [Op.operands])
  unfold Z7 at h
  generalize hm : opM P Γ ρ (.makeInterface t y)=m at h
  unfold opM at hm
  simp only at hm
  split at hm
  ·subst hm;exact (Zc h).elim
  ·rename_i d hne hu
   subst hm
   obtain ⟨v,H1,h1,hk⟩:=bind_some (m:=Zhr t (ρ y)) (k:=k) h
   exact Zq (s:=Instr.makeInterface t (a.eval y)) (by unfold execOp;rw [ho];exact Zv _) (Zld hS hu hne hy h1) hk hn
  ·subst hm;exact (Zc h).elim
 | range t y=>
  have hy:=hc y (by simp [Op.operands])
  unfold Z7 at h
  generalize hm : opM P Γ ρ (.range t y)=m at h
  unfold opM at hm
  simp only at hm
  split at hm
  ·rename_i hu
   subst hm
   obtain ⟨v,H1,h1,hk⟩:=bind_some (m:=Zfm (ρ y)) (k:=k) h
   exact Zq (s:=Instr.range t (a.eval y)) (by unfold execOp;rw [ho];exact Zv _) (Zlv hS hu hy h1) hk hn
  ·subst hm;exact (Zc h).elim
 | next y s=>
  have hy:=hc y (by simp [Op.operands])
  unfold Z7 at h
  cases s with
  | false=>exact (Zc h).elim
  | true=>
   obtain ⟨v,H1,h1,hk⟩:=bind_some (m:=ZfW (ρ y)) (k:=k) h
   exact Zq (s:=Instr.next (a.eval y) true o.type) (by unfold execOp;rw [ho];exact Zv _) (Zli hS hy h1) hk hn
 | _=>exact (Zc h).elim
end
end Go.Proofs.YtgfbgfafajiehaaGreatDoor.A
namespace Go.Proofs.YtgfbgfafajiehaaGreatDoor.A
set_option linter.unusedVariables false
set_option linter.unusedSimpArgs false
section
variable {P : Program} {Γ : Zb} {w0 : Zi} {N : Nat} {ι : Nat→Option Loc} {r : Ze} {H : Za} {a : Act} {w : World} {rd : Option Nat}
theorem Zb2 {β : Type} {m : OpR} {k : Value→M β} {x : β × Za} (h : appM m k H=some x) :
  ∃ v H1,k v H1=some x∧∀ (γ : Type) (k' : Value→M γ),appM m k' H=k' v H1:=by
 cases m with
 | val v=>exact ⟨v,H,h,fun _ _=>rfl⟩
 | cmp m=>
  obtain ⟨v,H1,h1,h2⟩:=bind_some (m:=m) (k:=k) h
  exact ⟨v,H1,h2,fun γ k'=>by simp [appM,A.bind,h1]⟩
theorem W7 {o : Oper} {v : Value} {H1 : Za} {ρ : Operand→Value} (hS : Sim P.globals.size w0 ι H w) (hΓ : ∀ g,Qc P P.globals.size w0 g (Γ g))
  (hρ : ∀ y∈o.op.operands.toList,RV ι (ρ y) (a.eval y)) (h : ∀ (γ : Type) (k' : Value→M γ),appM (opM P Γ ρ o.op) k' H=k' v H1)
  {next : Act→World→Prop} {Q : Exit→Act→World→Prop} (hn : ∀ ι1 v' w1,Le ι ι1→RV ι1 v v'→Sim P.globals.size w0 ι1 H1 w1→next (a.put o.dst v') w1) : o.wpIn (FR rd) 0 P a w next Q:=by
 refine Zmx (fun c hc=>?_) ?_
 ·have h2:=h Value (fun u=>ret u)
  rw [hc] at h2
  cases h2
 refine Zkd (k:=fun v=>ret v) (x:=(v,H1)) hS hΓ rfl hρ (by rw [Z7,h];rfl) ?_
 intro ι1 u v' H2 w1 hl hv hs hk
 cases hk
 exact hn ι1 v' w1 hl hv hs
def We {β : Type} (P : Program) (w0 : Zi) (N : Nat) (ι : Nat→Option Loc) (k : Ze→M β) (x : β × Za) (next : Act→World→Prop) : Prop:=
 ∀ ι1 r1 H1 a1 w1,Le ι ι1→St P.globals.size w0 N ι1 r1 H1 a1 w1→k r1 H1=some x→next a1 w1
theorem ZbW {d : Option Nat} {v : Value} {t : Nat} (h : d≠some t) : Zn (QG r d v) t=Zn r t:=by
 cases d with
 | none=>rfl
 | some d=>
  have : Nat.beq d t=false:=by
   cases e : Nat.beq d t with
   | false=>rfl
   | true=>exact absurd (by rw [Nat.eq_of_beq_eq_true e]) h
  simp [QG,Zn,this]
structure W0 (P : Program) (N : Nat) (o : Oper) : Prop where
 consts : ∀ y∈o.op.operands.toList,Z2 P y=true
 dst : ∀ d,o.dst=some d→d < N
theorem Wd {ops : List Oper} (h : Wb P N ops=true) {o : Oper} (ho : o∈ops) : W0 P N o:=by
 unfold Wb at h
 have:=List.all_eq_true.1 h o ho
 simp only [Bool.and_eq_true] at this
 refine ⟨List.all_eq_true.1 this.1,fun d hd=>?_⟩
 have h2:=this.2
 rw [hd] at h2
 simpa using h2
theorem Zc0 {ops : Array Oper} {j : Nat} {d : Option Tmp} {v : Value} (h : ∀ e,(ops[j]?).bind (·.dst)=some e→d≠some e) :
  yielded ops (a.put d v).tmps j=yielded ops a.tmps j:=by
 unfold yielded
 cases he : (ops[j]?).bind (·.dst) with
 | none=>rfl
 | some e=>
  have hne:=h e he
  cases d with
  | none=>rfl
  | some d=>
   have : d≠e:=fun x=>hne (by rw [x])
   simp [Act.put,Array.getElem?_setIfInBounds_ne this]
theorem ZcV {ops : Array Oper} {Q : Exit→Act→World→Prop} {rest : List Oper} {j : Nat} {wt : Bool} (hΓ : ∀ g,Qc P P.globals.size w0 g (Γ g)) {β : Type} {x : β × Za} :
  ∀ (l : List Oper) {r : Ze} {H : Za} {ι : Nat→Option Loc} {a : Act} {w : World} {k : Ze→M β},(∀ p∈l,W0 P N p∧p.guard=some (j,wt)∧∀ e,(ops[j]?).bind (·.dst)=some e→p.dst≠some e)→
   St P.globals.size w0 N ι r H a w→yielded ops a.tmps j=some wt→Zb8 P Γ l r k H=some x→
   (∀ ι1 r1 H1 a1 w1,Le ι ι1→St P.globals.size w0 N ι1 r1 H1 a1 w1→(∀ t,(∀ p∈l,p.dst≠some t)→Zn r1 t=Zn r t)→(∀ t,(∀ p∈l,p.dst≠some t)→a1.tmps.getD t undef=a.tmps.getD t undef)→
    k r1 H1=some x→wpListIn (FR rd) 0 P ops Q rest a1 w1)→
   wpListIn (FR rd) 0 P ops Q (l++rest) a w
 | [],r,H,ι,a,w,k,_,hSt,_,h,hk=>hk ι r H a w (.refl ι) hSt (fun _ _=>rfl) (fun _ _=>rfl) h
 | p :: l,r,H,ι,a,w,k,hl,hSt,hy,h,hk=>by
  obtain ⟨hok,hg,hd⟩:=hl p (by simp)
  simp only [Zb8,Z7] at h
  obtain ⟨v,H1,h1,h2⟩:=Zb2 h
  simp only [List.cons_append,wpListIn]
  rw [if_pos (by simp [Region.wanted,hg,hy])]
  refine (W7 hSt.sim hΓ (fun y hy=>hSt.ev (hok.consts y hy)) h2 fun ι1 v' w1 hle hv hs=>?_)
  have hSt1:=hSt.put hle hs hv hok.dst
  refine ZcV hΓ l (fun q hq=>hl q (by simp [hq])) hSt1 (by rw [Zc0 hd];exact hy) h1 ?_
  intro ι2 r2 H2 a2 w2 hle2 hSt2 hr2 ha2 hk2
  refine hk ι2 r2 H2 a2 w2 (hle.trans hle2) hSt2 (fun t ht=>?_) (fun t ht=>?_) hk2
  ·rw [hr2 t fun q hq=>ht q (by simp [hq]),ZbW (ht p (by simp))]
  ·rw [ha2 t fun q hq=>ht q (by simp [hq])]
   have:=ht p (by simp)
   cases hdst : p.dst with
   | none=>rfl
   | some d=>
    have hne : d≠t:=fun e=>this (by rw [hdst,e])
    simp [Act.put,Array.getElem?_setIfInBounds_ne hne]
theorem Zdf {L : List Nat} {vs : List Value} {t : Nat} (h : ∀ d∈L,d≠t) : Zn (mk L vs++r) t=Zn r t:=by
 induction L generalizing vs with
 | nil=>rfl
 | cons d L ih=>
  have : Nat.beq d t=false:=by
   cases e : Nat.beq d t with
   | false=>rfl
   | true=>exact absurd (Nat.eq_of_beq_eq_true e) (h d (by simp))
  simp only [mk,List.cons_append,Zn,this,cond_false]
  exact ih fun e he=>h e (by simp [he])
theorem ZbG {L : List Nat} {r1 : Ze} {t : Nat} (h : t∈L) : Zn (mk L (proj L r1)++r) t=Zn r1 t:=by
 induction L with
 | nil=>cases h
 | cons d L ih=>
  simp only [proj,List.map_cons,mk,List.cons_append,Zn,List.headD_cons,List.tail_cons]
  cases e : Nat.beq d t with
  | true=>rw [Nat.eq_of_beq_eq_true e];rfl
  | false=>
   simp only [cond_false]
   refine ih ?_
   cases h with
   | head=>simp at e
   | tail _ h=>exact h
theorem Zi2 {L : List Nat} {n : Nat} {u : Value} {t : Nat} (h : t∈L) (hn : L.length≤n) : Zn (mk L (List.replicate n u)++r) t=u:=by
 induction L generalizing n with
 | nil=>cases h
 | cons d L ih=>
  cases n with
  | zero=>simp at hn
  | succ n=>
  simp only [List.replicate_succ,mk,List.cons_append,Zn,List.headD_cons,List.tail_cons]
  cases e : Nat.beq d t with
  | true=>rfl
  | false=>
   simp only [cond_false]
   refine ih ?_ (by simp at hn;omega)
   cases h with
   | head=>simp at e
   | tail _ h=>exact h
theorem Zeh {ops : Array Oper} {Q : Exit→Act→World→Prop} {rest : List Oper} {j : Nat} {wt : Bool} :
  ∀ (l : List Oper) {a : Act} {w : World},(∀ p∈l,W0 P N p∧p.guard=some (j,wt)∧∀ e,(ops[j]?).bind (·.dst)=some e→p.dst≠some e)→
   yielded ops a.tmps j≠some wt→a.tmps.size=N→a.defers=Yc w0.own→
   (∀ a1,a1.tmps.size=N→a1.defers=Yc w0.own→(∀ t,(∀ p∈l,p.dst≠some t)→a1.tmps.getD t undef=a.tmps.getD t undef)→(∀ t,(∃ p∈l,p.dst=some t)→a1.tmps.getD t undef=undef)→wpListIn (FR rd) 0 P ops Q rest a1 w)→
   wpListIn (FR rd) 0 P ops Q (l++rest) a w
 | [],a,w,_,_,hs,hd,hk=>hk a hs hd (fun _ _=>rfl) (by simp)
 | p :: l,a,w,hl,hy,hs,hdf,hk=>by
  obtain ⟨hok,hg,hd⟩:=hl p (by simp)
  simp only [List.cons_append,wpListIn]
  rw [if_neg (by simp [Region.wanted,hg,hy])]
  refine ⟨fun _ _=>trivial,Zeh l (fun q hq=>hl q (by simp [hq])) (by rw [Zc0 hd];exact hy) (by cases p.dst <;> simp [Act.put,hs]) (by cases p.dst <;> exact hdf) ?_⟩
  intro a1 h1 h2 h3 h4
  have hput : ∀ t,p.dst≠some t→(a.put p.dst undef).tmps.getD t undef=a.tmps.getD t undef:=by
   intro t ht
   cases hdst : p.dst with
   | none=>rfl
   | some d=>
    have hne : d≠t:=fun e=>ht (by rw [hdst,e])
    simp [Act.put,Array.getElem?_setIfInBounds_ne hne]
  refine hk a1 h1 h2 (fun t ht=>?_) (fun t ht=>?_)
  ·rw [h3 t fun q hq=>ht q (by simp [hq]),hput t (ht p (by simp))]
  ·obtain ⟨q,hq,hqt⟩:=ht
   by_cases hex : ∃ q∈l,q.dst=some t
   ·exact h4 t hex
   ·have : q=p:=by
     cases hq with
     | head=>rfl
     | tail _ hq=>exact absurd ⟨q,hq,hqt⟩ hex
    subst this
    rw [h3 t fun q' hq' e=>hex ⟨q',hq',e⟩,hqt]
    have:=hok.dst t hqt
    simp [Act.put,hs,this]
end
end Go.Proofs.YtgfbgfafajiehaaGreatDoor.A
namespace Go.Proofs.YtgfbgfafajiehaaGreatDoor.A
set_option linter.unusedVariables false
set_option linter.unusedSimpArgs false
section
variable {P : Program} {Γ : Zb} {w0 : Zi} {N : Nat} {ι : Nat→Option Loc} {r : Ze} {H : Za} {a : Act} {w : World} {rd : Option Nat}
theorem Ze5 {j : Nat} {wt : Bool} : ∀ (l : List Oper),(Wh j wt l).1++(Wh j wt l).2=l∧∀ p∈(Wh j wt l).1,p.guard=some (j,wt)
 | []=>⟨rfl,by simp [Wh]⟩
 | p :: l=>by
  obtain ⟨h1,h2⟩:=Ze5 (j:=j) (wt:=wt) l
  unfold Wh
  cases hs : Zbz p.guard j wt with
  | false=>exact ⟨rfl,by simp⟩
  | true=>
   simp only [cond_true]
   refine ⟨by simp [h1],fun q hq=>?_⟩
   cases hq with
   | head=>
    unfold Zbz at hs
    split at hs
    ·rename_i i v hg
     simp only [Bool.and_eq_true,beq_iff_eq] at hs
     rw [hg,Nat.eq_of_beq_eq_true hs.1,hs.2]
    ·cases hs
   | tail _ hq=>exact h2 q hq
theorem ZiI {ops : Array Oper} (h : YD ops.toList=true) {o q : Oper} (ho : o∈ops.toList) (hq : q∈ops.toList) {j : Nat} {wt wt' : Bool} (hg : o.guard=some (j,wt)) (hgq : q.guard=some (j,wt')) :
  ∀ e,(ops[j]?).bind (·.dst)=some e→q.dst≠some e:=by
 intro e he hqe
 unfold YD at h
 have h1:=List.all_eq_true.1 h o ho
 simp only [hg] at h1
 have hd : Jm ops.toList j=some e:=by simpa [Jm] using he
 rw [hd] at h1
 have h2:=List.all_eq_true.1 h1 q hq
 simp [hgq,hqe] at h2
theorem St.join {ι1 : Nat→Option Loc} {H1 : Za} {w1 : World} {a1 : Act} (hSt : St P.globals.size w0 N ι r H a w) (hle : Le ι ι1) (hs : Sim P.globals.size w0 ι1 H1 w1) (hsz : a1.tmps.size=N) (hdf : a1.defers=Yc w0.own)
  {ds : List Nat} {r' : Ze} (h1 : ∀ t,t∈ds→RV ι1 (Zn (r'++r) t) (a1.tmps.getD t undef)) (h2 : ∀ t,t∉ds→Zn (r'++r) t=Zn r t) (h3 : ∀ t,t∉ds→a1.tmps.getD t undef=a.tmps.getD t undef) :
  St P.globals.size w0 N ι1 (r'++r) H1 a1 w1:=by
 refine ⟨hs,fun t=>?_,hsz,hdf⟩
 by_cases ht : t∈ds
 ·exact h1 t ht
 ·rw [h2 t ht,h3 t ht];exact (hSt.regs t).mono hle
theorem YQ {ops : Array Oper} {Q : Exit→Act→World→Prop} (hΓ : ∀ g,Qc P P.globals.size w0 g (Γ g)) (hgd : YD ops.toList=true) {β : Type} {x : β × Za} :
  ∀ (n : Nat) {l : List Oper} {r : Ze} {H : Za} {ι : Nat→Option Loc} {a : Act} {w : World} {k : Ze→M β},(∀ p∈l,W0 P N p∧p∈ops.toList)→
   St P.globals.size w0 N ι r H a w→YO P Γ ops.toList n l r k H=some x→
   We P w0 N ι k x (fun a1 w1=>Q .normal a1 w1)→wpListIn (FR rd) 0 P ops Q l a w
 | 0,l,r,H,ι,a,w,k,_,_,h,_=>by simp [YO,fail] at h
 | n+1,[],r,H,ι,a,w,k,_,hSt,h,hk=>hk ι r H a w (.refl ι) hSt h
 | n+1,o :: os,r,H,ι,a,w,k,hl,hSt,h,hk=>by
  obtain ⟨hok,hmem⟩:=hl o (by simp)
  simp only [YO] at h
  cases hg : o.guard with
  | none=>
   rw [hg] at h
   simp only [Z7] at h
   obtain ⟨v,H1,h1,h2⟩:=Zb2 h
   simp only [wpListIn]
   rw [if_pos (by simp [Region.wanted,hg])]
   refine (W7 hSt.sim hΓ (fun y hy=>hSt.ev (hok.consts y hy)) h2 fun ι1 v' w1 hle hv hs=>?_)
   exact YQ hΓ hgd n (fun p hp=>hl p (by simp [hp])) (hSt.put hle hs hv hok.dst) h1 fun ι2 r2 H2 a2 w2 hle2 hSt2 hk2=>hk ι2 r2 H2 a2 w2 (hle.trans hle2) hSt2 hk2
  | some g=>
   obtain ⟨j,wt⟩:=g
   rw [hg] at h
   simp only at h
   cases hd : Jm ops.toList j with
   | none=>simp [hd,fail] at h
   | some d=>
    rw [hd] at h
    simp only at h
    obtain ⟨hsp,hspg⟩:=Ze5 (j:=j) (wt:=wt) os
    generalize Wh j wt os=p at h hsp hspg
    obtain ⟨p1,p2⟩:=p
    simp only at h hsp hspg
    subst hsp
    obtain ⟨vs,H1,hgate,hK⟩:=bind_some h
    have hd' : (ops[j]?).bind (·.dst)=some d:=by simpa [Jm] using hd
    have hgrp : ∀ q∈o :: p1,W0 P N q∧q.guard=some (j,wt)∧∀ e,(ops[j]?).bind (·.dst)=some e→q.dst≠some e:=by
     intro q hq
     obtain ⟨h1,h2⟩:=hl q (by cases hq with | head=>simp | tail _ hq=>exact List.mem_cons_of_mem _ (List.mem_append_left _ hq))
     have hqg : q.guard=some (j,wt):=by cases hq with | head=>exact hg | tail _ hq=>exact hspg q hq
     exact ⟨h1,hqg,ZiI hgd hmem h2 hg hqg⟩
    have hrest : ∀ q∈p2,W0 P N q∧q∈ops.toList:=fun q hq=>hl q (by simp [hq])
    have hin : ∀ t,t∉(o :: p1).filterMap (·.dst)↔∀ q∈o :: p1,q.dst≠some t:=by
     intro t
     simp only [List.mem_filterMap,not_exists,not_and]
    have hreg:=hSt.regs d
    have e0 : o :: (p1++p2)=(o :: p1)++p2:=rfl
    rw [e0]
    have hskip : yielded ops a.tmps j≠some wt→vs=List.replicate ((o :: p1).filterMap (·.dst)).length Y7→H1=H→wpListIn (FR rd) 0 P ops Q ((o :: p1)++p2) a w:=by
     intro hy hvs hH1
     subst hvs;subst hH1
     refine Zeh (o :: p1) hgrp hy hSt.size hSt.defers fun a1 h1 h2 h3 h4=>?_
     refine YQ hΓ hgd n hrest (hSt.join (ds:=(o :: p1).filterMap (·.dst)) (.refl ι) hSt.sim h1 h2 (fun t ht=>?_) (fun t ht=>?_) (fun t ht=>?_)) hK hk
     ·rw [Zi2 ht (Nat.le_refl _)]
      have : ∃ q∈o :: p1,q.dst=some t:=by simpa only [List.mem_filterMap] using ht
      rw [h4 t this];exact .nw
     ·exact Zdf fun e he hee=>ht (hee ▸ he)
     ·exact h3 t ((hin t).1 ht)
    unfold gate at hgate
    generalize hgv : Zn r d=gv at hgate hreg
    cases gv with
    | bool b=>
     simp only at hgate
     have hc:=hreg.bool_inv
     have hy : yielded ops a.tmps j=some b:=by
      unfold yielded
      rw [hd']
      simp only [Option.bind_some]
      rw [Array.getD_eq_getD_getElem?] at hc
      cases e : a.tmps[d]? with
      | none=>rw [e] at hc;cases hc
      | some u=>rw [e] at hc;simp only [Option.getD_some] at hc;subst hc;rfl
     cases hbw : b==wt with
     | true=>
      rw [hbw] at hgate
      simp only [cond_true] at hgate
      have hbe : b=wt:=by simpa using hbw
      subst hbe
      refine ZcV hΓ (o :: p1) hgrp hSt hy hgate ?_
      intro ι1 r1 H2 a1 w1 hle hSt1 hr1 ha1 hk1
      cases hk1
      refine YQ hΓ hgd n hrest (hSt.join (ds:=(o :: p1).filterMap (·.dst)) hle hSt1.sim hSt1.size hSt1.defers (fun t ht=>?_) (fun t ht=>?_) (fun t ht=>?_)) hK
       fun ι2 r2 H2 a2 w2 hle2 hSt2 hk2=>hk ι2 r2 H2 a2 w2 (hle.trans hle2) hSt2 hk2
      ·rw [ZbG ht];exact hSt1.regs t
      ·exact Zdf fun e he hee=>ht (hee ▸ he)
      ·exact ha1 t ((hin t).1 ht)
     | false=>
      rw [hbw] at hgate
      simp only [cond_false] at hgate
      cases hgate
      exact hskip (by rw [hy];intro e;cases e;simp at hbw) rfl rfl
    | tuple us=>
     simp only at hgate
     cases hus : Nat.beq us.size 1 with
     | false=>rw [hus] at hgate;cases hgate
     | true=>
      rw [hus] at hgate
      simp only [cond_true] at hgate
      cases hgate
      refine hskip ?_ rfl rfl
      have hnb : ∀ b,a.tmps.getD d undef≠.bool b:=by
       intro b hb
       rw [hb] at hreg
       cases hreg with
       | un=>cases hus
      unfold yielded
      rw [hd']
      simp only [Option.bind_some]
      intro hh
      split at hh
      ·rename_i b hb
       exact hnb b (by rw [Array.getD_eq_getD_getElem?,hb];rfl)
      ·cases hh
    | _=>cases hgate
end
end Go.Proofs.YtgfbgfafajiehaaGreatDoor.A
namespace Go.Proofs.YtgfbgfafajiehaaGreatDoor.A
set_option linter.unusedVariables false
set_option linter.unusedSimpArgs false
section
variable {P : Program} {Γ : Zb} {H H1 : Za} {v : Value}
theorem Zhn {ρ ρ' : Operand→Value} {c : Call} (h : ∀ y∈c.operands.toList,ρ y=ρ' y) : Jz P Γ ρ c=Jz P Γ ρ' c:=by
 have ha : ∀ y∈c.args.toList,ρ y=ρ' y:=fun y hy=>h y (by
  simp only [Call.operands,Array.toList_append,List.mem_append];exact .inr hy)
 unfold Jz
 split
 ·rename_i f hf
  rw [h f (by simp [Call.operands,hf]),List.map_congr_left ha]
 ·rename_i r nm hf
  rw [h r (by simp [Call.operands,hf]),List.map_congr_left ha]
 all_goals first
  | rfl
  | (simp_all;done)
theorem ZkC {ρ ρ' : Operand→Value} {op : Op} (h : ∀ y∈op.operands.toList,ρ y=ρ' y) : opM P Γ ρ op=opM P Γ ρ' op:=by
 cases op with
 | call c=>exact Zhn h
 | build t ps=>
  have hp : ∀ p∈ps.toList,ρ p.2=ρ' p.2:=fun p hp=>h p.2 (by simp only [Op.operands,List.mem_map];exact ⟨p,hp,rfl⟩)
  have e : WB P t ps.toList ρ=WB P t ps.toList ρ':=by
   unfold WB
   split
   ·generalize ps.toList=l at hp
    induction l with
    | nil=>rfl
    | cons p l ih=>simp only [List.mapM_cons,hp p (by simp),ih fun q hq=>hp q (by simp [hq])]
   ·congr 1;exact List.map_congr_left fun p hpm=>by rw [hp p hpm]
   ·rfl
  simp only [opM,e]
 | buildSlice t n ps=>
  have hp : ∀ p∈ps.toList,ρ p.2=ρ' p.2:=fun p hp=>h p.2 (by simp only [Op.operands,List.mem_map];exact ⟨p,hp,rfl⟩)
  have e : ∀ e : TypeId,(ps.toList.map fun p=>(p.1 * szT P e,szT P e,ρ p.2))=ps.toList.map fun p=>(p.1 * szT P e,szT P e,ρ' p.2):=fun e=>List.map_congr_left fun p hpm=>by rw [hp p hpm]
  simp only [opM,e]
 | makeFunc fn fs cs=>
  have e1 : fs.map ρ=fs.map ρ':=Array.map_congr_left fun x hx=>h x (by simp [Op.operands,hx])
  have e2 : cs.map ρ=cs.map ρ':=Array.map_congr_left fun x hx=>h x (by simp [Op.operands,hx])
  simp only [opM,e1,e2]
 | slice t x lo hi mx=>
  have hx:=h x (by simp [Op.operands])
  have hlo : lo.map ρ=lo.map ρ':=by cases lo with | none=>rfl | some y=>simp [h y (by simp [Op.operands])]
  have hhi : hi.map ρ=hi.map ρ':=by cases hi with | none=>rfl | some y=>simp [h y (by simp [Op.operands])]
  have hmx : mx.map ρ=mx.map ρ':=by cases mx with | none=>rfl | some y=>simp [h y (by simp [Op.operands])]
  simp only [opM,hx,hlo,hhi,hmx]
 | select cs b=>rfl
 | _=>first | rfl | (simp [Op.operands] at h;simp only [opM,h];done)
def ZK (m : M Value) : Prop:=∀ H v H1,m H=some (v,H1)→H1=H∧∀ H2,m H2=some (v,H2)
def QT (m : M Value) : Prop:=∀ H v H1,m H=some (v,H1)→H1=H
theorem ZK.read {m : M Value} (h : ZK m) : QT m:=fun H v H1 e=>(h H v H1 e).1
theorem Zg : ZK fail:=fun _ _ _ h=>by cases h
theorem JL (v : Value) : ZK (ret v):=fun _ _ _ h=>by cases h;exact ⟨rfl,fun _=>rfl⟩
theorem Qo {m : M Value} {o : Option Value} (h : ∀ H,m H=o.map (·,H)) : ZK m:=by
 intro H v H1 e
 rw [h] at e
 simp only [Option.map_eq_some_iff,Prod.mk.injEq] at e
 obtain ⟨u,rfl,rfl,rfl⟩:=e
 exact ⟨rfl,fun H2=>by rw [h];rfl⟩
theorem ZkF (c a b : Value) : ZK (pick c a b):=by
 cases c <;> first | exact Qo (o:=some _) fun _=>rfl | exact fun _ _ _ h=>by cases h
theorem Zkm (t : Value) (i : Nat) : ZK (Zu t i):=by
 cases t with
 | tuple vs=>
  cases hs : Nat.beq vs.size 1 with
  | true=>
   refine Qo (o:=match vs.toList,i with
    | [.bool b],0=>some (.bool b)
    | _,_=>none) fun H=>?_
   simp only [Zu,hs,cond_true]
   generalize vs.toList=l
   match l,i with
   | [.bool b],0=>rfl
   | [],_=>rfl
   | [.bool b],_+1=>rfl
   | v :: u :: r,_=>cases v <;> rfl
   | [.int _ _],_=>rfl
   | [.float _ _],_=>rfl
   | [.complex _ _ _],_=>rfl
   | [.string _],_=>rfl
   | [.pointer _],_=>rfl
   | [.slice _ _ _],_=>rfl
   | [.map _],_=>rfl
   | [.chan _],_=>rfl
   | [.func _ _ _],_=>rfl
   | [.nilFunc],_=>rfl
   | [.iface _ _],_=>rfl
   | [.nilIface],_=>rfl
   | [.agg _],_=>rfl
   | [.tuple _],_=>rfl
  | false=>exact Qo (o:=vs[i]?) fun H=>by simp [Zu,hs]
 | _=>exact fun _ _ _ h=>by cases h
theorem ZkE (x : Value) : ZK (Ql x):=by
 intro H v H1 h
 unfold Ql at h
 split at h
 ·cases h;exact ⟨rfl,fun _=>rfl⟩
 ·cases h;exact ⟨rfl,fun _=>rfl⟩
 ·cases h
theorem Zlj (tk : TK) (op : BinOp) (x y : Value) : ZK (bop tk op x y):=by
 intro H v H1 h
 unfold bop at h ⊢
 split at h
 ·simp only [Option.map_eq_some_iff,Prod.mk.injEq] at h;obtain ⟨u,hu,rfl,rfl⟩:=h;exact ⟨rfl,fun H2=>by simp [hu]⟩
 ·simp only [Option.map_eq_some_iff,Prod.mk.injEq] at h;obtain ⟨u,hu,rfl,rfl⟩:=h;exact ⟨rfl,fun H2=>by simp [hu]⟩
 ·rename_i k a k' b h1 h2
  by_cases hk : k=k'
  ·simp only [hk,decide_true,cond_true,Option.map_eq_some_iff,Prod.mk.injEq] at h
   obtain ⟨u,hu,rfl,rfl⟩:=h
   refine ⟨rfl,fun H2=>?_⟩
   first | (simp [hu,hk];done) | simp_all
  ·simp [hk] at h
 ·simp only [Option.map_eq_some_iff,Prod.mk.injEq] at h;obtain ⟨u,hu,rfl,rfl⟩:=h
  refine ⟨rfl,fun H2=>?_⟩
  first | (simp [hu];done) | simp_all
 ·simp only [Option.map_eq_some_iff,Prod.mk.injEq] at h;obtain ⟨u,hu,rfl,rfl⟩:=h
  refine ⟨rfl,fun H2=>?_⟩
  first | (simp [hu];done) | simp_all
 ·simp only [Option.map_eq_some_iff,Prod.mk.injEq] at h;obtain ⟨u,hu,rfl,rfl⟩:=h
  refine ⟨rfl,fun H2=>?_⟩
  first | (simp [hu];done) | simp_all
 ·cases h
theorem Zk7 (op : UnOp) (x : Value) : ZK (uop op x):=by
 intro H v H1 h
 unfold uop at h ⊢
 split at h
 ·cases h;exact ⟨rfl,fun _=>rfl⟩
 ·simp only [Option.map_eq_some_iff,Prod.mk.injEq] at h;obtain ⟨u,hu,rfl,rfl⟩:=h;exact ⟨rfl,fun H2=>by simp [hu]⟩
 ·cases h;exact ⟨rfl,fun _=>rfl⟩
 ·cases h
theorem Zle (k : IntKind) (x : Value) : ZK (cvi k x):=by
 cases x <;> first | exact Qo (o:=some _) fun _=>rfl | exact fun _ _ _ h=>by cases h
theorem Zll (x : Value) : ZK (cvs x):=by
 cases x <;> first | exact Qo (o:=some _) fun _=>rfl | exact fun _ _ _ h=>by cases h
theorem ZkP (x : Value) : ZK (Zk x):=by
 cases x <;> first | exact Qo (o:=some _) fun _=>rfl | exact fun _ _ _ h=>by cases h
theorem Zkj (x : Value) : ZK (ZV x):=by
 cases x <;> first | exact Qo (o:=some _) fun _=>rfl | exact fun _ _ _ h=>by cases h
theorem Zg0 (b : Bool) (x y : Value) : ZK (mxi b x y):=by
 cases x <;> first | (cases y <;> first | exact Qo (o:=some _) fun _=>rfl | exact fun _ _ _ h=>by cases h) | exact fun _ _ _ h=>by cases h
theorem ZlQ (n : Nat) (x : Value) : ZK (fa n x):=by
 intro H v H1 h
 unfold fa at h
 split at h
 ·cases h;exact ⟨rfl,fun _=>rfl⟩
 ·cases h
theorem Zlm (n : Nat) (x y : Value) : ZK (ixa n x y):=by
 intro H v H1 h
 unfold ixa at h
 split at h
 ·split at h
  ·rename_i hc;cases h;exact ⟨rfl,fun _=>by simp only [ixa,if_pos hc]⟩
  ·cases h
 ·cases h
theorem Zkn (n m : Nat) (x y : Value) : ZK (K3 n m x y):=by
 intro H v H1 h
 unfold K3 at h
 split at h
 ·split at h
  ·rename_i hc;cases h;exact ⟨rfl,fun _=>by simp only [K3,if_pos hc]⟩
  ·cases h
 ·cases h
theorem ZlL (x y : Value) : ZK (ixs x y):=by
 intro H v H1 h
 unfold ixs at h
 split at h
 ·split at h
  ·rename_i h0
   split at h
   ·rename_i hb;cases h;exact ⟨rfl,fun _=>by simp only [ixs,if_pos h0,hb]⟩
   ·cases h
  ·cases h
 ·cases h
theorem ZhE (g : Bool) (n : Nat) (x : Value) (o : Nat) : ZK (prt g n x o):=by
 cases x with
 | agg cs=>
  cases g with
  | true=>exact Qo (o:=some _) fun _=>rfl
  | false=>exact Qo (o:=cs[o]?) fun _=>rfl
 | _=>exact fun _ _ _ h=>by cases h
theorem ZlC (g : Bool) (n m : Nat) (x i : Value) : ZK (ixv g n m x i):=by
 cases i with
 | int k i=>
  by_cases hc : 0≤i∧i < n
  ·intro H v H1 h
   simp only [ixv,if_pos hc] at h ⊢
   exact ZhE _ _ _ _ H v H1 h
  ·exact fun _ _ _ h=>by simp only [ixv,if_neg hc] at h;cases h
 | _=>exact fun _ _ _ h=>by cases h
theorem ZlG (z : Value) (ps : List (Nat × Nat × Value)) : ZK (bld z ps):=
 Qo (o:=(Ka z.cells.toList ps).map fun cs=>.agg cs.toArray) fun H=>by simp [bld,Function.comp_def]
theorem ZkR (t : TypeId) (x : Value) : ZK (Zhr t x):=Qo (o:=some _) fun _=>rfl
theorem Zly (x : Value) (lo hi : Option Value) : ZK (sls x lo hi):=by
 intro H v H1 h
 unfold sls at h
 split at h
 ·split at h
  ·rename_i h1 h2
   split at h
   ·rename_i hc;cases h;exact ⟨rfl,fun _=>by simp only [sls,h1,h2,if_pos hc]⟩
   ·cases h
  ·cases h
 ·cases h
theorem Zlz (x : Value) : QT (ld1 x):=by
 intro H v H1 h
 unfold ld1 at h
 split at h
 ·split at h
  ·simp only [Option.map_eq_some_iff,Prod.mk.injEq] at h;obtain ⟨u,_,_,rfl⟩:=h;rfl
  ·split at h
   ·generalize KU _ _=bb at h
    cases bb with
    | false=>cases h
    | true=>
     simp only [cond_true,Option.map_eq_some_iff,Prod.mk.injEq] at h
     obtain ⟨u,_,_,rfl⟩:=h;rfl
   ·cases h
  ·cases h
 ·cases h
theorem Zk6 (n : Nat) (x : Value) : QT (ldA n x):=by
 intro H v H1 h
 unfold ldA at h
 split at h
 ·split at h
  ·split at h
   ·cases h;rfl
   ·cases h
  ·cases h
 ·cases h
theorem ZkX (x : Value) : QT (ZdU x):=by
 intro H v H1 h
 unfold ZdU at h
 split at h
 ·cases h;rfl
 ·split at h
  ·cases h;rfl
  ·cases h;rfl
  ·cases h
 ·cases h
theorem Zlo (tk : TK) (z : Value) (ok : Bool) (m k : Value) : QT (lkp tk z ok m k):=by
 intro H v H1 h
 unfold lkp at h
 simp only at h
 split at h
 ·cases hk : okK tk k with
  | false=>simp [hk] at h
  | true=>simp [hk] at h;exact h.2.symm
 ·split at h
  ·cases hk : okK tk k with
   | false=>simp [hk] at h
   | true=>
    simp only [hk,cond_true] at h
    split at h
    ·simp at h;exact h.2.symm
    ·simp at h;exact h.2.symm
    ·cases h
  ·cases hk : okK tk k with
   | false=>simp [hk] at h
   | true=>
    simp only [hk,cond_true] at h
    split at h
    ·simp at h;exact h.2.symm
    ·simp at h;exact h.2.symm
    ·cases h
  ·cases h
 ·cases h
theorem Zln (x : Value) : QT (b2s x):=by
 intro H v H1 h
 unfold b2s at h
 split at h
 ·split at h
  ·simp only [Option.map_eq_some_iff,Prod.mk.injEq] at h;obtain ⟨u,_,_,rfl⟩:=h;rfl
  ·cases h
 ·cases h
theorem Zlw (n : Nat) (x : Value) (lo hi mx : Option Value) : QT (slv n x lo hi mx):=by
 intro H v H1 h
 unfold slv at h
 split at h
 ·split at h
  ·cases h;rfl
  ·cases h
 ·split at h
  ·cases h;rfl
  ·cases h
 ·split at h
  ·split at h
   ·split at h
    ·split at h
     ·cases h;rfl
     ·cases h;rfl
    ·cases h
   ·cases h
  ·cases h
 ·cases h
theorem Zhd {ρ : Operand→Value} {op : Op} (h : cls P op=0) : ZK (toM (opM P Γ ρ op)):=by
 cases op with
 | move x=>exact JL _
 | assign x=>exact JL _
 | pick c a b=>exact ZkF _ _ _
 | extract t i=>exact Zkm _ _
 | nilCheck x=>exact ZkE _
 | binOp op t x y t2=>exact Zlj _ _ _ _
 | unOp op t x=>exact Zk7 _ _
 | makeFunc fn fs cs=>cases fn <;> first | exact JL _ | exact Zg
 | fieldAddr s x f=>
  simp only [opM]
  split
  ·split
   ·rename_i fd _
    cases hz : Nat.beq (szT P fd.type) 0 with
    | true=>simpa [hz,toM] using Zg
    | false=>simpa [hz,toM] using ZlQ _ _
   ·exact Zg
  ·exact Zg
 | field s x f=>
  simp only [opM]
  split
  ·split
   ·split
    ·exact ZhE _ _ _ _
    ·exact Zg
   ·exact Zg
  ·exact Zg
 | indexAddr t x i=>
  simp only [opM]
  split
  ·split
   ·exact Zlm _ _ _
   ·exact Zg
  ·split
   ·exact Zkn _ _ _ _
   ·exact Zg
  ·exact Zg
 | index t x i=>
  simp only [opM]
  split
  ·exact ZlL _ _
  ·split
   ·exact ZlC _ _ _ _ _
   ·exact Zg
  ·exact Zg
 | build t ps=>
  simp only [opM]
  cases hb : QZ P t && Yw P t with
  | false=>simpa [hb,toM] using Zg
  | true=>
   simp only [cond_true]
   split
   ·exact ZlG _ _
   ·exact Zg
 | makeInterface t x=>
  simp only [opM]
  split
  ·exact Zg
  ·exact ZkR _ _
  ·exact Zg
 | convert s d x=>
  simp only [cls] at h
  simp only [opM]
  split
  ·exact Zle _ _
  ·exact Zll _
  ·rename_i h1 h2;simp [h1,h2] at h
  ·rename_i h1 h2;simp [h1,h2] at h
  ·rename_i h1 h2;simp [h1,h2] at h
  ·exact Zg
 | slice t x lo hi mx=>
  simp only [cls] at h
  simp only [opM]
  split
  ·split
   ·exact Zly _ _ _
   ·exact Zg
  ·rename_i h1;simp [h1] at h
  ·exact Zg
 | call c=>
  simp only [cls] at h
  simp only [opM,Jz]
  split
  ·rename_i hf;simp [hf] at h
  ·rename_i hf;simp [hf] at h
  ·rename_i hf ha ht
   simp only [hf,ht] at h
   split
   ·exact Zkj _
   ·exact ZkP _
   ·rename_i hu;simp [hu] at h
   ·exact Zg
  ·rename_i hf ha ht;simp [hf] at h
  ·exact Zg0 _ _ _
  ·exact Zg0 _ _ _
  ·rename_i hf ha ht;simp [hf] at h
  ·rename_i hf ha ht;simp [hf] at h
  ·rename_i hf ha ht;simp [hf] at h
  ·exact Zg
 | _=>simp [cls] at h
theorem Zjc {ρ : Operand→Value} {op : Op} (h : cls P op=1) : QT (toM (opM P Γ ρ op)):=by
 cases op with
 | load t a=>
  simp only [opM]
  split
  ·exact Zk6 _ _
  ·exact Zlz _
  ·exact Zg.read
 | lookup t m k ok=>
  simp only [opM]
  split
  ·rename_i kt e _
   cases hb : QZ P e with
   | false=>simpa [hb,toM] using Zg.read
   | true=>simpa [hb,toM] using Zlo _ _ _ _ _
  ·exact Zg.read
 | convert s d x=>
  simp only [cls] at h
  simp only [opM]
  split
  ·rename_i h1 h2;simp [h1,h2] at h
  ·rename_i h1 h2;simp [h1,h2] at h
  ·rename_i h1 h2;simp [h1,h2] at h
  ·split
   ·exact Zln _
   ·exact Zg.read
  ·rename_i h1 h2;simp [h1,h2] at h
  ·exact Zg.read
 | slice t x lo hi mx=>
  simp only [cls] at h
  simp only [opM]
  split
  ·rename_i h1;simp [h1] at h
  ·split
   ·exact Zg.read
   ·split
    ·exact Zlw _ _ _ _ _
    ·exact Zg.read
  ·exact Zg.read
 | call c=>
  simp only [cls] at h
  simp only [opM,Jz]
  split
  ·rename_i hf;simp [hf] at h
  ·rename_i hf;simp [hf] at h
  ·rename_i hf ha ht
   simp only [hf,ht] at h
   split
   ·rename_i hu;simp [hu] at h
   ·rename_i hu;simp [hu] at h
   ·exact ZkX _
   ·exact Zg.read
  ·rename_i hf ha ht;simp [hf] at h
  ·rename_i hf ha;simp [hf] at h
  ·rename_i hf ha;simp [hf] at h
  ·rename_i hf ha ht;simp [hf] at h
  ·rename_i hf ha ht;simp [hf] at h
  ·rename_i hf ha ht;simp [hf] at h
  ·exact Zg.read
 | _=>simp [cls] at h
end
end Go.Proofs.YtgfbgfafajiehaaGreatDoor.A
namespace Go.Proofs.YtgfbgfafajiehaaGreatDoor.A
set_option linter.unusedVariables false
set_option linter.unusedSimpArgs false
section
variable {P : Program} {Γ : Zb} {w0 : Zi} {N : Nat}
def Zap (P : Program) (Γ : Zb) (all : List Oper) (f : Nat→Value) (o : Oper) (H : Za) (v : Value) (H1 : Za) : Prop:=
 ∀ (γ : Type) (k : Value→M γ),appM (opG P Γ all f o) k H=k v H1
theorem Zf2 {all : List Oper} {f f' : Nat→Value} {o : Oper} (h : ∀ t∈Yd all o,f t=f' t) : opG P Γ all f o=opG P Γ all f' o:=by
 have hop : opM P Γ (evF f) o.op=opM P Γ (evF f') o.op:=ZkC fun y hy=>by
  cases y with
  | tmp t=>
   refine h t ?_
   unfold Yd Zj9
   exact List.mem_append_left _ (List.mem_flatMap.2 ⟨.tmp t,hy,by simp [ZjY]⟩)
  | _=>rfl
 unfold opG
 cases hg : o.guard with
 | none=>exact hop
 | some g=>
  obtain ⟨j,w⟩:=g
  simp only
  cases hd : Jm all j with
  | none=>rfl
  | some d=>
   simp only
   rw [hop,h d (by unfold Yd;rw [hg];simp [hd])]
theorem YX {m : OpR} (hm : QT (toM m)) {H H1 : Za} {v : Value} (h : ∀ (γ : Type) (k : Value→M γ),appM m k H=k v H1) : H1=H∧toM m H=some (v,H):=by
 have e:=h (Value) (fun u=>ret u)
 cases m with
 | val u=>simp only [appM,ret,Option.some.injEq,Prod.mk.injEq] at e;obtain ⟨rfl,rfl⟩:=e;exact ⟨rfl,rfl⟩
 | cmp m=>
  obtain ⟨u,H2,h1,h2⟩:=bind_some (m:=m) (k:=fun u=>ret u) (x:=(v,H1)) e
  cases h2
  have:=hm H v H1 h1
  subst this
  exact ⟨rfl,h1⟩
theorem Zko {m : OpR} {H : Za} {v : Value} (h : toM m H=some (v,H)) : ∀ (γ : Type) (k : Value→M γ),appM m k H=k v H:=by
 intro γ k
 cases m with
 | val u=>cases h;rfl
 | cmp m=>simp only [toM] at h;simp [appM,A.bind,h]
theorem Zkh {g : Value} {w : Bool} {m : M Value} (h : ZK m) : ZK (gateV g w m):=by
 unfold gateV
 split
 ·rename_i b;cases b==w <;> first | exact JL _ | exact h
 ·rename_i vs;cases Nat.beq vs.size 1 <;> first | exact JL _ | exact Zg
 ·exact Zg
theorem ZkD {g : Value} {w : Bool} {m : M Value} (h : QT m) : QT (gateV g w m):=by
 unfold gateV
 split
 ·rename_i b;cases b==w <;> first | exact (JL _).read | exact h
 ·rename_i vs;cases Nat.beq vs.size 1 <;> first | exact (JL _).read | exact Zg.read
 ·exact Zg.read
theorem Zhg {all : List Oper} {f : Nat→Value} {o : Oper} (h : cls P o.op=0) : ZK (toM (opG P Γ all f o)):=by
 unfold opG
 split
 ·exact Zhd h
 ·split
  ·exact Zkh (Zhd h)
  ·exact Zg
theorem Zjd {all : List Oper} {f : Nat→Value} {o : Oper} (h : cls P o.op=1) : QT (toM (opG P Γ all f o)):=by
 unfold opG
 split
 ·exact Zjc h
 ·split
  ·exact ZkD (Zjc h)
  ·exact Zg.read
def Tr (P : Program) (Γ : Zb) (an : List (List Nat)) (all : List Oper) : List (Nat × Oper)→Jp→Ze→Za→Ze→List Za→Za→Prop
 | [],_,r,H,rf,hl,Hf=>rf=r∧hl=[]∧Hf=H
 | p :: l,rs,r,H,rf,hl,Hf=>∃ v H1,Zap P Γ all (Zn r) p.2 H v H1∧
   ((cls P p.2.op=0∧Tr P Γ an all l rs (QG r p.2.dst v) H rf hl Hf)∨
    (cls P p.2.op=1∧Tr P Γ an all l ((p.1,toM (opG P Γ all (Zn r) p.2),v) :: rs) (QG r p.2.dst v) H rf hl Hf)∨
    ((cls P p.2.op≠0∧cls P p.2.op≠1)∧∃ hl',hl=H1 :: hl'∧(∀ q∈rs,Qw (an.getD p.1 []) q.1=false→q.2.1 H1=some (q.2.2,H1))∧Tr P Γ an all l rs (QG r p.2.dst v) H1 rf hl' Hf))
theorem ZeY {β : Type} {x : β × Za} : ∀ {qs : Jp} {m : M β} {H : Za},(∀ q∈qs,QT q.2.1)→ZeH qs m H=some x→(∀ q∈qs,q.2.1 H=some (q.2.2,H))∧m H=some x
 | [],m,H,_,h=>⟨by simp,h⟩
 | q :: qs,m,H,hr,h=>by
  simp only [ZeH] at h
  obtain ⟨u,H2,h1,h2⟩:=bind_some h
  have:=hr q (by simp) H u H2 h1
  subst this
  unfold same at h2
  split at h2
  ·rename_i e
   subst e
   obtain ⟨h3,h4⟩:=ZeY (fun p hp=>hr p (by simp [hp])) h2
   refine ⟨fun p hp=>?_,h4⟩
   cases hp with
   | head=>exact h1
   | tail _ hp=>exact h3 p hp
  ·cases h2
theorem ZeN {β : Type} {x : β × Za} {an : List (List Nat)} {all : List Oper} {k : Ze→M β} : ∀ {l : List (Nat × Oper)} {rs : Jp} {r : Ze} {H : Za},(∀ q∈rs,QT q.2.1)→exD P Γ an all l rs r k H=some x→
  ∃ rf hl Hf,k rf Hf=some x∧Tr P Γ an all l rs r H rf hl Hf
 | [],rs,r,H,_,h=>⟨r,[],H,h,rfl,rfl,rfl⟩
 | p :: l,rs,r,H,hrs,h=>by
  simp only [exD] at h
  obtain ⟨v,H1,h1,h2⟩:=Zb2 h
  generalize hc : cls P p.2.op=c at h1
  rcases c with _ | _ | c
  ·have e:=(YX (Zhg (Γ:=Γ) (all:=all) (f:=Zn r) hc).read h2).1
   subst e
   obtain ⟨rf,hl,Hf,h3,h4⟩:=ZeN hrs h1
   exact ⟨rf,hl,Hf,h3,v,H1,h2,.inl ⟨hc,h4⟩⟩
  ·have hro:=Zjd (Γ:=Γ) (all:=all) (f:=Zn r) hc
   have e:=(YX hro h2).1
   subst e
   obtain ⟨rf,hl,Hf,h3,h4⟩:=ZeN (fun q hq=>by
    cases hq with
    | head=>exact hro
    | tail _ hq=>exact hrs q hq) h1
   exact ⟨rf,hl,Hf,h3,v,H1,h2,.inr (.inl ⟨hc,h4⟩)⟩
  ·have hc0 : cls P p.2.op≠0:=by omega
   have hc1 : cls P p.2.op≠1:=by omega
   obtain ⟨h5,h6⟩:=ZeY (fun q hq=>hrs q (List.mem_filter.1 hq).1) h1
   obtain ⟨rf,hl,Hf,h3,h4⟩:=ZeN hrs h6
   refine ⟨rf,H1 :: hl,Hf,h3,v,H1,h2,.inr (.inr ⟨⟨hc0,hc1⟩,hl,rfl,fun q hq hn=>h5 q ?_,h4⟩)⟩
   exact List.mem_filter.2 ⟨hq,by rw [hn];rfl⟩
theorem Zb9 {an : List (List Nat)} {all : List Oper} : ∀ {l : List (Nat × Oper)} {rs : Jp} {r : Ze} {H : Za} {rf : Ze} {hl : List Za} {Hf : Za},Tr P Γ an all l rs r H rf hl Hf→
  ∀ t,(∀ p∈l,p.2.dst≠some t)→Zn rf t=Zn r t
 | [],rs,r,H,rf,hl,Hf,h,t,_=>by rw [h.1]
 | p :: l,rs,r,H,rf,hl,Hf,h,t,ht=>by
  obtain ⟨v,H1,_,h⟩:=h
  have : Zn rf t=Zn (QG r p.2.dst v) t:=by
   rcases h with ⟨_,h⟩ | ⟨_,h⟩ | ⟨_,hl',_,_,h⟩ <;> exact Zb9 h t fun q hq=>ht q (by simp [hq])
  rw [this,ZbW (ht p (by simp))]
theorem Z4 {l : List Nat} {i : Nat} : Qw l i=true↔i∈l:=by
 unfold Qw
 rw [List.any_eq_true]
 constructor
 ·rintro ⟨x,hx,e⟩;rw [Nat.eq_of_beq_eq_true e];exact hx
 ·intro h;exact ⟨i,h,Nat.beq_refl i⟩
structure ZgW (all : List Oper) (cl : List Nat) (an : List (List Nat)) (ord : List Nat) : Prop where
 nodup : ord.Nodup
 cover : ∀ i,i < all.length→i∈ord
 inn : ∀ i∈ord,i < all.length
 edge : ∀ i o,all[i]?=some o→∀ e∈YG o,e∈an.getD i []∧e < all.length
 back : ∀ i o,all[i]?=some o→∀ x∈an.getD i [],∃ e∈YG o,x=e∨x∈an.getD e []
 trans : ∀ i,i < all.length→∀ x∈an.getD i [],(∀ y∈an.getD x [],y∈an.getD i [])∧Yk ord x < Yk ord i
 irr : ∀ i,i < all.length→i∉an.getD i []
 guard : ∀ i o j w,all[i]?=some o→o.guard=some (j,w)→j∈an.getD i []∧∃ d,Jm all j=some d
 chain : ∀ i,i < all.length→cl.getD i 0=2→∀ j,j < all.length→cl.getD j 0=2→j≠i→(ZL cl ord j < ZL cl ord i→j∈an.getD i [])∧ZL cl ord j≠ZL cl ord i
 eager : ∀ i,i < all.length→cl.getD i 0≠2→ZL cl ord i=0∨∃ e,e < all.length∧cl.getD e 0=2∧ZL cl ord e+1=ZL cl ord i∧e∈an.getD i []
 full : ∀ i,i < all.length→∀ j,j < ZL cl ord i→∃ e,e < all.length∧cl.getD e 0=2∧ZL cl ord e=j
 tmps : ∀ i o j q d,all[i]?=some o→all[j]?=some q→i≠j→o.dst=some d→(d∈Yd all q∨q.dst=some d)→(i∈an.getD j []∨j∈an.getD i [])∧q.dst≠some d
theorem YV {n : Nat} {p : Nat→Bool} (h : Zdi n p=true) {i : Nat} (hi : i < n) : p i=true:=by
 unfold Zdi at h
 exact List.all_eq_true.1 h i (List.mem_range.2 hi)
theorem Zgc {n : Nat} {p : Nat→Bool} (h : Zjv n p=true) : ∃ i,i < n∧p i=true:=by
 unfold Zjv at h
 obtain ⟨i,h1,h2⟩:=List.any_eq_true.1 h
 exact ⟨i,List.mem_range.1 h1,h2⟩
theorem Zcb {a b : Nat} : Nat.blt a b=true↔a < b:=by simp
theorem Y0 {a b : Nat} (h : a≠b) : Nat.beq a b=false:=by
 cases e : Nat.beq a b with
 | false=>rfl
 | true=>exact absurd (Nat.eq_of_beq_eq_true e) h
theorem ZbN {a b : Nat} (h : a=b) : Nat.beq a b=true:=by subst h;exact Nat.beq_refl a
theorem Zda : ∀ {l : List Nat},ZeZ l=true→l.Nodup
 | [],_=>.nil
 | i :: l,h=>by
  simp only [ZeZ,Bool.and_eq_true] at h
  refine List.nodup_cons.2 ⟨fun hm=>?_,Zda h.2⟩
  have:=h.1
  rw [Z4.2 hm] at this;cases this
theorem ZiG {all : List Oper} {cl : List Nat} {an : List (List Nat)} {ord : List Nat} (h : Za9 all cl an ord=true) : ZgW all cl an ord:=by
 unfold Za9 at h
 simp only [Bool.and_eq_true] at h
 obtain ⟨⟨⟨⟨h0,h1⟩,h2⟩,_⟩,h3⟩:=h
 have key : ∀ i,i < all.length→∃ o,all[i]?=some o:=fun i hi=>⟨all[i],List.getElem?_eq_getElem hi⟩
 have H : ∀ i o,all[i]?=some o→_:=fun i o ho=>by
  have hi : i < all.length:=by
   rcases Nat.lt_or_ge i all.length with h | h
   ·exact h
   ·rw [List.getElem?_eq_none h] at ho;cases ho
  have:=YV h3 hi
  simp only [ho,Bool.and_eq_true] at this
  exact this
 have lt : ∀ {i o},all[i]?=some o→i < all.length:=fun {i o} ho=>by
  rcases Nat.lt_or_ge i all.length with h | h
  ·exact h
  ·rw [List.getElem?_eq_none h] at ho;cases ho
 refine ⟨Zda h0,fun i hi=>Z4.1 (YV h1 hi),fun i hi=>Zcb.1 (List.all_eq_true.1 h2 i hi),?_,?_,?_,?_,?_,?_,?_,?_,?_⟩
 ·intro i o ho e he
  have:=List.all_eq_true.1 (H i o ho).1.1.1.1.1.1.1 e he
  simp only [Bool.and_eq_true] at this
  exact ⟨Z4.1 this.1,Zcb.1 this.2⟩
 ·intro i o ho x hx
  have:=List.all_eq_true.1 (H i o ho).1.1.1.1.1.1.2 x hx
  obtain ⟨e,he,h⟩:=List.any_eq_true.1 this
  simp only [Bool.or_eq_true] at h
  exact ⟨e,he,h.imp Nat.eq_of_beq_eq_true Z4.1⟩
 ·intro i hi x hx
  obtain ⟨o,ho⟩:=key i hi
  have:=List.all_eq_true.1 (H i o ho).1.1.1.1.1.2 x hx
  simp only [Bool.and_eq_true] at this
  exact ⟨fun y hy=>Z4.1 (List.all_eq_true.1 this.1 y hy),Zcb.1 this.2⟩
 ·intro i hi hm
  obtain ⟨o,ho⟩:=key i hi
  have:=(H i o ho).1.1.1.1.2
  rw [Z4.2 hm] at this;cases this
 ·intro i o j w ho hg
  have:=(H i o ho).1.1.1.2
  rw [hg] at this
  simp only [Bool.and_eq_true] at this
  exact ⟨Z4.1 this.1,Option.isSome_iff_exists.1 this.2⟩
 ·intro i hi hc j hj hcj hne
  obtain ⟨o,ho⟩:=key i hi
  have:=(H i o ho).1.1.2
  rw [ZbN hc,cond_true] at this
  have:=YV this hj
  simp only [Bool.or_eq_true,Bool.and_eq_true] at this
  rcases this with (h | h) | h
  ·rw [ZbN hcj] at h;cases h
  ·exact absurd (Nat.eq_of_beq_eq_true h) hne
  ·refine ⟨fun hlt=>?_,?_⟩
   ·rcases h.1 with h | h
    ·rw [Zcb.2 hlt] at h;cases h
    ·exact Z4.1 h
   ·intro e
    have:=h.2
    rw [ZbN e] at this;cases this
 ·intro i hi hc
  obtain ⟨o,ho⟩:=key i hi
  have:=(H i o ho).1.1.2
  rw [Y0 hc,cond_false] at this
  simp only [Bool.or_eq_true] at this
  rcases this with h | h
  ·exact .inl (Nat.eq_of_beq_eq_true h)
  ·obtain ⟨e,he,h⟩:=Zgc h
   simp only [Bool.and_eq_true] at h
   exact .inr ⟨e,he,Nat.eq_of_beq_eq_true h.1.1,Nat.eq_of_beq_eq_true h.1.2,Z4.1 h.2⟩
 ·intro i hi j hj
  obtain ⟨o,ho⟩:=key i hi
  have:=YV (H i o ho).1.2 hj
  obtain ⟨e,he,h⟩:=Zgc this
  simp only [Bool.and_eq_true] at h
  exact ⟨e,he,Nat.eq_of_beq_eq_true h.1,Nat.eq_of_beq_eq_true h.2⟩
 ·intro i o j q d ho hq hne hd hl
  have:=YV (H i o ho).2 (lt hq)
  simp only [hd,hq,Bool.or_eq_true,Bool.and_eq_true] at this
  rcases this with h | h
  ·exact absurd (Nat.eq_of_beq_eq_true h) hne
  ·rcases h with h | h
   ·exfalso
    rcases hl with hl | hl
    ·rw [Z4.2 hl] at h;simp at h
    ·rw [hl] at h;simp [Nat.beq_refl] at h
   ·refine ⟨h.1.imp Z4.1 Z4.1,fun e=>?_⟩
    have:=h.2
    rw [e] at this
    simp [Nat.beq_refl] at this
end
end Go.Proofs.YtgfbgfafajiehaaGreatDoor.A
namespace Go.Proofs.YtgfbgfafajiehaaGreatDoor.A
set_option linter.unusedVariables false
set_option linter.unusedSimpArgs false
section
variable {P : Program} {Γ : Zb}
def Wrt (all : List Oper) (j t : Nat) : Prop:=∃ q,all[j]?=some q∧q.dst=some t
open Classical in
noncomputable def fA (all : List Oper) (an : List (List Nat)) (r0 rf : Ze) (i t : Nat) : Value:=
 if ∃ j,j∈an.getD i []∧Wrt all j t then Zn rf t else Zn r0 t
def cE (cl : List Nat) : List Nat→Nat
 | []=>0
 | j :: l=>(bif Nat.beq (cl.getD j 0) 2 then 1 else 0)+cE cl l
theorem Zby {cl : List Nat} : ∀ (a b : List Nat),cE cl (a++b)=cE cl a+cE cl b
 | [],b=>by simp [cE]
 | j :: a,b=>by simp only [List.cons_append,cE,Zby a b];omega
theorem WD {cl : List Nat} {i : Nat} {tl : List Nat} : ∀ {dn : List Nat},i∉dn→ZL cl (dn++i :: tl) i=cE cl dn
 | [],_=>by simp [ZL,cE,Nat.beq_refl]
 | j :: dn,h=>by
  have hne : i≠j:=fun e=>h (by simp [e])
  simp only [List.cons_append,ZL,cE,Y0 hne,cond_false]
  rw [WD fun hm=>h (by simp [hm])]
theorem ZhY {i : Nat} {tl : List Nat} : ∀ {dn : List Nat},i∉dn→Yk (dn++i :: tl) i=dn.length
 | [],_=>by simp [Yk,Nat.beq_refl]
 | j :: dn,h=>by
  have hne : i≠j:=fun e=>h (by simp [e])
  simp only [List.cons_append,Yk,Y0 hne,cond_false,List.length_cons]
  rw [ZhY fun hm=>h (by simp [hm])]
theorem ZkV {j : Nat} {l : List Nat} : ∀ {dn : List Nat},j∈dn→Yk (dn++l) j < dn.length
 | k :: dn,h=>by
  simp only [List.cons_append,Yk]
  cases e : Nat.beq j k with
  | true=>simp
  | false=>
   simp only [cond_false,List.length_cons]
   have : j∈dn:=by
    cases h with
    | head=>simp at e
    | tail _ h=>exact h
   have:=ZkV (l:=l) this
   omega
theorem Zjg {j : Nat} {l : List Nat} : ∀ {dn : List Nat},j∉dn→dn.length≤Yk (dn++l) j
 | [],_=>by simp
 | k :: dn,h=>by
  have hne : j≠k:=fun e=>h (by simp [e])
  simp only [List.cons_append,Yk,Y0 hne,cond_false,List.length_cons]
  have:=Zjg (j:=j) (l:=l) (dn:=dn) fun hm=>h (List.mem_cons_of_mem _ hm)
  omega
theorem WV {cl : List Nat} : ∀ {l : List Nat} {j : Nat},j < cE cl l→∃ a e b,l=a++e :: b∧cl.getD e 0=2∧cE cl a=j
 | [],j,h=>by simp [cE] at h
 | k :: l,j,h=>by
  simp only [cE] at h
  cases hk : Nat.beq (cl.getD k 0) 2 with
  | true=>
   rw [hk,cond_true] at h
   cases j with
   | zero=>exact ⟨[],k,l,rfl,Nat.eq_of_beq_eq_true hk,rfl⟩
   | succ j=>
    obtain ⟨a,e,b,h1,h2,h3⟩:=WV (cl:=cl) (l:=l) (j:=j) (by omega)
    exact ⟨k :: a,e,b,by simp [h1],h2,by simp only [cE,hk,cond_true,h3];omega⟩
  | false=>
   rw [hk,cond_false,Nat.zero_add] at h
   obtain ⟨a,e,b,h1,h2,h3⟩:=WV h
   exact ⟨k :: a,e,b,by simp [h1],h2,by simp only [cE,hk,cond_false,h3];omega⟩
theorem Zca {an : List (List Nat)} {all : List Oper} : ∀ {l : List (Nat × Oper)} {rs : Jp} {r : Ze} {H : Za} {rf : Ze} {hl : List Za} {Hf : Za},Tr P Γ an all l rs r H rf hl Hf→
  (H :: hl).getD hl.length []=Hf
 | [],rs,r,H,rf,hl,Hf,h=>by obtain ⟨_,rfl,rfl⟩:=h;rfl
 | p :: l,rs,r,H,rf,hl,Hf,h=>by
  obtain ⟨v,H1,_,h⟩:=h
  rcases h with ⟨_,h⟩ | ⟨_,h⟩ | ⟨_,hl',rfl,_,h⟩
  ·exact Zca h
  ·exact Zca h
  ·simpa using Zca h
theorem ZeA {an : List (List Nat)} {all : List Oper} : ∀ {l : List Nat} {rs : Jp} {r : Ze} {H : Za} {rf : Ze} {hl : List Za} {Hf : Za},(∀ i∈l,i < all.length)→
  Tr P Γ an all (Qr all l) rs r H rf hl Hf→hl.length=cE (all.map fun o=>cls P o.op) l
 | [],rs,r,H,rf,hl,Hf,_,h=>by obtain ⟨_,rfl,_⟩:=h;rfl
 | i :: l,rs,r,H,rf,hl,Hf,hi,h=>by
  have hlt:=hi i (by simp)
  have ho : all[i]?=some all[i]:=List.getElem?_eq_getElem hlt
  have e : Qr all (i :: l)=(i,all[i]) :: Qr all l:=by simp [Qr,ho]
  rw [e] at h
  obtain ⟨v,H1,_,h⟩:=h
  have hcl : (all.map fun o=>cls P o.op).getD i 0=cls P all[i].op:=by simp [hlt]
  simp only [cE,hcl]
  rcases h with ⟨hc,h⟩ | ⟨hc,h⟩ | ⟨⟨hc0,hc1⟩,hl',rfl,_,h⟩
  ·rw [ZeA (fun j hj=>hi j (by simp [hj])) h]
   simp only at hc
   rw [hc];simp [Nat.beq]
  ·rw [ZeA (fun j hj=>hi j (by simp [hj])) h]
   simp only at hc
   rw [hc];simp [Nat.beq]
  ·have h2:=ZeA (fun j hj=>hi j (by simp [hj])) h
   have hc2 : cls P all[i].op=2:=by
    have : ∀ op,cls P op=0∨cls P op=1∨cls P op=2:=by
     intro op
     unfold cls
     split <;> first | simp | (split <;> simp) | skip
     split <;> first | simp | (split <;> simp)
    rcases this all[i].op with h | h | h
    ·exact absurd h hc0
    ·exact absurd h hc1
    ·exact h
   rw [hc2]
   simp [h2,Nat.beq];omega
structure ZlK (P : Program) (Γ : Zb) (all : List Oper) (cl : List Nat) (an : List (List Nat)) (ord : List Nat) (r0 rf : Ze) (hs : Nat→Za) (m : Nat) (i : Nat) (o : Oper) (v : Value) : Prop where
 dst : ∀ d,o.dst=some d→Zn rf d=v
 eff : cl.getD i 0=2→Zap P Γ all (fA all an r0 rf i) o (hs (ZL cl ord i)) v (hs (ZL cl ord i+1))
 non : cl.getD i 0≠2→∀ j,ZL cl ord i≤j→j≤m→(∀ e,e < all.length→cl.getD e 0=2→ZL cl ord i≤ZL cl ord e→ZL cl ord e < j→i∉an.getD e [])→
  Zap P Γ all (fA all an r0 rf i) o (hs j) v (hs j)
theorem ZjP {all : List Oper} {cl : List Nat} {an : List (List Nat)} {ord : List Nat} (hcl : cl=all.map fun o=>cls P o.op) (hO : ZgW all cl an ord) {r0 rf : Ze} {hs : Nat→Za} {m : Nat} {Hf : Za} (hm : m=cE cl ord) :
  ∀ (l dn : List Nat) {rs : Jp} {r : Ze} {H : Za} {hl : List Za},dn++l=ord→Tr P Γ an all (Qr all l) rs r H rf hl Hf→(∀ t,(∀ j∈dn,¬ Wrt all j t)→Zn r t=Zn r0 t)→
   (∀ q,q≤hl.length→hs (cE cl dn+q)=(H :: hl).getD q [])→
   (∀ i∈l,∃ o v,all[i]?=some o∧ZlK P Γ all cl an ord r0 rf hs m i o v)∧
   (∀ q∈rs,∀ e∈l,cl.getD e 0=2→q.1∉an.getD e []→q.2.1 (hs (ZL cl ord e+1))=some (q.2.2,hs (ZL cl ord e+1)))
 | [],dn,rs,r,H,hl,_,_,_,_=>⟨by simp,by simp⟩
 | i :: l,dn,rs,r,H,hl,hord,htr,hI2,hHS=>by
  have hiord : i∈ord:=by rw [← hord];simp
  have hlt:=hO.inn i hiord
  have ho : all[i]?=some all[i]:=List.getElem?_eq_getElem hlt
  generalize all[i]=o at ho
  have e : Qr all (i :: l)=(i,o) :: Qr all l:=by simp [Qr,ho]
  have hnd:=hO.nodup
  rw [← hord] at hnd
  have hidn : i∉dn:=fun hm=>by
   have:=(List.nodup_append.1 hnd).2.2 i hm i (by simp)
   exact this rfl
  have hil : i∉l:=(List.nodup_cons.1 (List.nodup_append.1 hnd).2.1).1
  have hdl : ∀ j∈dn,j∉l:=fun j hj hm=>(List.nodup_append.1 hnd).2.2 j hj j (by simp [hm]) rfl
  have hlev : ZL cl ord i=cE cl dn:=by rw [← hord];exact WD hidn
  have hcli : cl.getD i 0=cls P o.op:=by rw [hcl];simp [ho]
  have hpick : ∀ p∈Qr all (i :: l),p.1∈i :: l∧all[p.1]?=some p.2:=by
   intro p hp
   unfold Qr at hp
   obtain ⟨k,hk,hp⟩:=List.mem_filterMap.1 hp
   simp only [Option.map_eq_some_iff] at hp
   obtain ⟨q,hq,rfl⟩:=hp
   exact ⟨hk,hq⟩
  have hregs : ∀ t∈Yd all o,Zn r t=fA all an r0 rf i t:=by
   intro t ht
   unfold fA
   split
   ·rename_i hw
    obtain ⟨j,hj,q,hq,hqd⟩:=hw
    refine (Zb9 htr t fun p hp hpt=>?_).symm
    obtain ⟨hp1,hp2⟩:=hpick p hp
    have hjn : j < all.length:=by
     rcases Nat.lt_or_ge j all.length with h | h
     ·exact h
     ·rw [List.getElem?_eq_none h] at hq;cases hq
    have hjdn : j∈dn:=by
     have h1:=(hO.trans i hlt j hj).2
     rw [← hord,ZhY hidn] at h1
     refine Classical.byContradiction fun hno=>?_
     have:=Zjg (l:=i :: l) hno
     omega
    have hne : j≠p.1:=fun he=>by
     rw [← he] at hp1
     cases hp1 with
     | head=>exact hidn hjdn
     | tail _ h=>exact hdl j hjdn h
    exact (hO.tmps j q p.1 p.2 t hq hp2 hne hqd (.inr hpt)).2 hpt
   ·rename_i hw
    refine hI2 t fun j hj hwr=>hw ?_
    obtain ⟨q,hq,hqd⟩:=hwr
    have hne : j≠i:=fun he=>hidn (he ▸ hj)
    rcases (hO.tmps j q i o t hq ho hne hqd (.inl ht)).1 with h | h
    ·exact ⟨j,h,q,hq,hqd⟩
    ·exfalso
     have hjn : j < all.length:=by
      rcases Nat.lt_or_ge j all.length with h | h
      ·exact h
      ·rw [List.getElem?_eq_none h] at hq;cases hq
     have h1:=(hO.trans j hjn i h).2
     rw [← hord,ZhY hidn] at h1
     have:=ZkV (l:=i :: l) hj
     omega
  rw [e] at htr
  obtain ⟨v,H1,hst,htr⟩:=htr
  have hst' : Zap P Γ all (fA all an r0 rf i) o H v H1:=by
   intro γ k
   rw [← Zf2 hregs];exact hst γ k
  have hH : hs (cE cl dn)=H:=by have:=hHS 0 (Nat.zero_le _);simpa using this
  have hI2' : ∀ t,(∀ j∈dn++[i],¬ Wrt all j t)→Zn (QG r o.dst v) t=Zn r0 t:=by
   intro t ht
   rw [ZbW (fun hd=>ht i (by simp) ⟨o,ho,hd⟩)]
   exact hI2 t fun j hj=>ht j (by simp [hj])
  have hdstl : ∀ {rs' : Jp} {H' : Za} {hl' : List Za},Tr P Γ an all (Qr all l) rs' (QG r o.dst v) H' rf hl' Hf→∀ d,o.dst=some d→Zn rf d=v:=by
   intro rs' H' hl' ht d hd
   rw [Zb9 ht d fun p hp hpt=>?_]
   ·simp [QG,hd,Zn,Nat.beq_refl]
   ·obtain ⟨hp1,hp2⟩:=hpick p (by rw [e];simp [hp])
    have hpl : p.1∈l:=by
     unfold Qr at hp
     obtain ⟨k,hk,hp⟩:=List.mem_filterMap.1 hp
     simp only [Option.map_eq_some_iff] at hp
     obtain ⟨q,hq,rfl⟩:=hp
     exact hk
    have hne : i≠p.1:=fun he=>hil (he ▸ hpl)
    exact (hO.tmps i o p.1 p.2 d ho hp2 hne hd (.inr hpt)).2 hpt
  have hord' : (dn++[i])++l=ord:=by simpa using hord
  have hnon : cl.getD i 0≠2→∀ {rs' : Jp},H1=H→Tr P Γ an all (Qr all l) rs' (QG r o.dst v) H rf hl Hf→(∀ q∈rs,q∈rs')→
    (ZK (toM (opG P Γ all (Zn r) o))∨(i,toM (opG P Γ all (Zn r) o),v)∈rs')→QT (toM (opG P Γ all (Zn r) o))→
    (∀ i'∈i :: l,∃ o v,all[i']?=some o∧ZlK P Γ all cl an ord r0 rf hs m i' o v)∧
    (∀ q∈rs,∀ e∈i :: l,cl.getD e 0=2→q.1∉an.getD e []→q.2.1 (hs (ZL cl ord e+1))=some (q.2.2,hs (ZL cl ord e+1))):=by
   intro hne rs' hHH ht hsub hpr hrd
   subst hHH
   have hce : cE cl (dn++[i])=cE cl dn:=by rw [Zby];simp only [cE,Y0 hne,cond_false];omega
   obtain ⟨ih1,ih2⟩:=ZjP hcl hO hm l (dn++[i]) hord' ht hI2' (by rw [hce];exact hHS)
   refine ⟨fun i' hi'=>?_,fun q hq e' he' hce' hqe=>?_⟩
   ·cases hi' with
    | tail _ h=>exact ih1 i' h
    | head=>
     refine ⟨o,v,ho,hdstl ht,fun h=>absurd h hne,fun _ j hj1 hj2 hanc=>?_⟩
     obtain ⟨_,hval⟩:=YX hrd hst
     have hfin : ∀ j,toM (opG P Γ all (Zn r) o) (hs j)=some (v,hs j)→Zap P Γ all (fA all an r0 rf i) o (hs j) v (hs j):=by
      intro j hj γ k
      rw [← Zf2 hregs]
      exact Zko hj γ k
     rw [hlev] at hj1
     rcases Nat.lt_or_ge (cE cl dn) j with hjj | hjj
     ·refine hfin j ?_
      rcases hpr with hp | hin
      ·have h3:=(hp _ _ _ hval).2 (hs j);exact h3
      ·obtain ⟨a,e',b,h1,h2,h3⟩:=WV (cl:=cl) (l:=ord) (j:=j - 1) (by rw [← hm];omega)
       have hnd2:=hO.nodup
       rw [h1] at hnd2
       have hea : e'∉a:=fun hmm=>(List.nodup_append.1 hnd2).2.2 e' hmm e' (by simp) rfl
       have hle : ZL cl ord e'=j - 1:=by rw [h1,WD hea];exact h3
       have heo : e'∈ord:=by rw [h1];simp
       have hel : e'∈l:=by
        have hmem : e'∈dn++i :: l:=by rw [hord];exact heo
        rcases List.mem_append.1 hmem with h | h
        ·exfalso
         obtain ⟨s,t,hst2⟩:=List.append_of_mem h
         have hnd3:=hnd
         rw [hst2] at hnd3
         have hes : e'∉s:=fun hmm=>by
          have h4:=(List.nodup_append.1 (List.nodup_append.1 hnd3).1).2.2 e' hmm e' (by simp)
          exact h4 rfl
         have hle2 : ZL cl ord e'=cE cl s:=by
          rw [← hord,hst2,List.append_assoc,List.cons_append];exact WD hes
         have hce2 : cE cl dn=cE cl s+(1+cE cl t):=by
          rw [hst2,Zby];simp only [cE,h2,Nat.beq_refl,cond_true]
         omega
        ·cases h with
         | head=>exact absurd h2 hne
         | tail _ h=>exact h
       have:=ih2 _ hin e' hel h2 (hanc e' (hO.inn e' heo) h2 (by rw [hlev];omega) (by omega))
       rw [hle,show j - 1+1=j by omega] at this
       exact this
     ·have : j=cE cl dn:=by omega
      subst this
      refine hfin _ ?_
      rw [hH];exact hval
   ·cases he' with
    | head=>exact absurd hce' hne
    | tail _ h=>exact ih2 q (hsub q hq) e' h hce' hqe
  rcases htr with ⟨hc,ht⟩ | ⟨hc,ht⟩ | ⟨⟨hc0,hc1⟩,hl',rfl,hrk,ht⟩
  ·have hp:=Zhg (P:=P) (Γ:=Γ) (all:=all) (f:=Zn r) hc
   exact hnon (by rw [hcli];simp only at hc;omega) (YX hp.read hst).1 ht (fun q hq=>hq) (.inl hp) hp.read
  ·have hp:=Zjd (P:=P) (Γ:=Γ) (all:=all) (f:=Zn r) hc
   exact hnon (by rw [hcli];simp only at hc;omega) (YX hp hst).1 ht (fun q hq=>by simp [hq]) (.inr (by simp)) hp
  ·have hc2 : cl.getD i 0=2:=by
    rw [hcli]
    have : ∀ op,cls P op=0∨cls P op=1∨cls P op=2:=by
     intro op
     unfold cls
     split <;> first | simp | (split <;> simp) | skip
     split <;> first | simp | (split <;> simp)
    rcases this o.op with h | h | h
    ·exact absurd h hc0
    ·exact absurd h hc1
    ·exact h
   have hce : cE cl (dn++[i])=cE cl dn+1:=by rw [Zby];simp only [cE,hc2,Nat.beq_refl,cond_true]
   have hHS' : ∀ q,q≤hl'.length→hs (cE cl (dn++[i])+q)=(H1 :: hl').getD q []:=by
    intro q hq
    have:=hHS (q+1) (by simp;omega)
    rw [hce,show cE cl dn+1+q=cE cl dn+(q+1) by omega,this];simp
   have hH1 : hs (cE cl dn+1)=H1:=by have:=hHS 1 (by simp);simpa using this
   obtain ⟨ih1,ih2⟩:=ZjP hcl hO hm l (dn++[i]) hord' ht hI2' hHS'
   refine ⟨fun i' hi'=>?_,fun q hq e' he' hce' hqe=>?_⟩
   ·cases hi' with
    | tail _ h=>exact ih1 i' h
    | head=>
     refine ⟨o,v,ho,hdstl ht,fun _=>?_,fun h=>absurd hc2 h⟩
     rw [hlev,hH,hH1];exact hst'
   ·cases he' with
    | head=>
     rw [hlev,hH1]
     refine hrk q hq ?_
     cases hmm : Qw (an.getD i []) q.1 with
     | false=>rfl
     | true=>exact absurd (Z4.1 hmm) hqe
    | tail _ h=>exact ih2 q hq e' h hce' hqe
end
end Go.Proofs.YtgfbgfafajiehaaGreatDoor.A
namespace Go.Proofs.YtgfbgfafajiehaaGreatDoor.A
set_option linter.unusedVariables false
set_option linter.unusedSimpArgs false
section
variable {P : Program} {Γ : Zb} {w0 : Zi} {N : Nat} {ι : Nat→Option Loc} {H : Za} {a : Act} {w : World} {rd : Option Nat}
theorem ZlT {f : Nat→Value} (hS : Sim P.globals.size w0 ι H w) {y : Operand} (hc : Z2 P y=true) (hf : ∀ t∈ZjY y,RV ι (f t) (a.tmps.getD t undef)) : RV ι (evF f y) (a.eval y):=by
 cases y with
 | tmp t=>exact hf t (by simp [ZjY])
 | const v=>exact .const hc
 | global g=>
  obtain ⟨l,h1,h2,h3⟩:=hS.glob g (by simpa [Z2] using hc)
  have:=RV.ptr (o:=0) h1
  rwa [h2,h3] at this
 | func f=>exact .fn (fun l e=>by cases e) rfl (by simp) rfl (by simp)
theorem Zmz {X : OpR} {H H1 : Za} {v : Value} (h : ∀ (γ : Type) (k : Value→M γ),appM (.cmp (toM X)) k H=k v H1) : ∀ (γ : Type) (k : Value→M γ),appM X k H=k v H1:=by
 cases X <;> exact h
theorem Zew {ops : Array Oper} {Q : Exit→Act→World→Prop} {i : Nat} {o : Oper} {f : Nat→Value} {v : Value} {H1 : Za} (hΓ : ∀ g,Qc P P.globals.size w0 g (Γ g)) (ho : ops[i]?=some o)
  (hS : Sim P.globals.size w0 ι H w) (hok : W0 P N o) (hf : ∀ t∈Yd ops.toList o,RV ι (f t) (a.tmps.getD t undef)) (hst : Zap P Γ ops.toList f o H v H1)
  {K : Act→World→Prop} (hn : ∀ ι1 v' w1,Le ι ι1→RV ι1 v v'→Sim P.globals.size w0 ι1 H1 w1→K (a.put o.dst v') w1) : wpOpIn (FR rd) 0 P ops Q i K a w:=by
 unfold wpOpIn
 rw [ho]
 simp only
 have hρ : ∀ y∈o.op.operands.toList,RV ι (evF f y) (a.eval y):=fun y hy=>ZlT hS (hok.consts y hy) fun t ht=>hf t (by
  unfold Yd Zj9
  exact List.mem_append_left _ (List.mem_flatMap.2 ⟨y,hy,ht⟩))
 unfold Zap opG at hst
 cases hg : o.guard with
 | none=>
  rw [hg] at hst
  rw [if_pos (by simp [Region.wanted,hg])]
  exact (W7 hS hΓ hρ hst hn)
 | some g=>
  obtain ⟨j,wt⟩:=g
  rw [hg] at hst
  simp only at hst
  cases hd : Jm ops.toList j with
  | none=>
   rw [hd] at hst
   have:=hst (Value) (fun u=>ret u)
   cases this
  | some d=>
   rw [hd] at hst
   simp only at hst
   have hd' : (ops[j]?).bind (·.dst)=some d:=by simpa [Jm] using hd
   have hfd:=hf d (by unfold Yd;rw [hg];simp [hd])
   have hskip : yielded ops a.tmps j≠some wt→v=Y7→H1=H→(if Region.wanted o (yielded ops a.tmps)=true then o.wpIn (FR rd) 0 P a w K Q else (∀ f,o.about P w a.eval=some f→(FR rd).fn f)∧K (a.put o.dst undef) w):=by
    intro hy hv hH
    subst hv;subst hH
    rw [if_neg (by simp [Region.wanted,hg,hy])]
    exact ⟨fun _ _=>trivial,hn ι undef w (.refl ι) .nw hS⟩
   unfold gateV at hst
   generalize hgv : f d=gv at hst hfd
   cases gv with
   | bool b=>
    simp only at hst
    have hc:=hfd.bool_inv
    have hy : yielded ops a.tmps j=some b:=by
     unfold yielded
     rw [hd']
     simp only [Option.bind_some]
     rw [Array.getD_eq_getD_getElem?] at hc
     cases e : a.tmps[d]? with
     | none=>rw [e] at hc;cases hc
     | some u=>rw [e] at hc;simp only [Option.getD_some] at hc;subst hc;rfl
    cases hbw : b==wt with
    | true=>
     rw [hbw] at hst
     simp only [cond_true] at hst
     have hbe : b=wt:=by simpa using hbw
     subst hbe
     rw [if_pos (by simp [Region.wanted,hg,hy])]
     exact (W7 hS hΓ hρ (Zmz hst) hn)
    | false=>
     rw [hbw] at hst
     simp only [cond_false] at hst
     have:=hst (Value) (fun u=>ret u)
     cases this
     exact hskip (by rw [hy];intro e;cases e;simp at hbw) rfl rfl
   | tuple us=>
    simp only at hst
    cases hus : Nat.beq us.size 1 with
    | false=>
     rw [hus] at hst
     have:=hst (Value) (fun u=>ret u)
     cases this
    | true=>
     rw [hus] at hst
     have:=hst (Value) (fun u=>ret u)
     cases this
     refine hskip ?_ rfl rfl
     have hnb : ∀ b,a.tmps.getD d undef≠.bool b:=by
      intro b hb
      rw [hb] at hfd
      cases hfd with
      | un=>cases hus
     unfold yielded
     rw [hd']
     simp only [Option.bind_some]
     intro hh
     split at hh
     ·rename_i b hb
      exact hnb b (by rw [Array.getD_eq_getD_getElem?,hb];rfl)
     ·cases hh
   | _=>
    have:=hst (Value) (fun u=>ret u)
    cases this
theorem Zey {p q : Nat→Bool} {i : Nat} (h : ∀ j,j≠i→q j=p j) (hp : p i=true) (hq : q i=false) : ∀ {l : List Nat},l.Nodup→i∈l→l.countP p=l.countP q+1
 | [],_,hm=>by cases hm
 | j :: l,hnd,hm=>by
  obtain ⟨h1,h2⟩:=List.nodup_cons.1 hnd
  by_cases e : j=i
  ·subst e
   have : l.countP p=l.countP q:=by
    apply List.countP_congr
    intro x hx
    rw [h x fun e=>h1 (e ▸ hx)]
   simp [List.countP_cons,hp,hq,this]
  ·have hm' : i∈l:=by
    cases hm with
    | head=>exact absurd rfl e
    | tail _ hm=>exact hm
   have:=Zey h hp hq h2 hm'
   simp only [List.countP_cons,h j e,this]
   omega
theorem Zla {ops : Array Oper} {cl : List Nat} {an : List (List Nat)} {ord : List Nat} {Q : Exit→Act→World→Prop} (hΓ : ∀ g,Qc P P.globals.size w0 g (Γ g)) (hok : Wb P N ops.toList=true)
  (hO : ZgW ops.toList cl an ord) {r0 rf : Ze} {hs : Nat→Za} {m : Nat} (hm : m=cE cl ord)
  (hF : ∀ i,i < ops.size→∃ o v,ops[i]?=some o∧ZlK P Γ ops.toList cl an ord r0 rf hs m i o v)
  (hrf : ∀ t,(∀ j,¬ Wrt ops.toList j t)→Zn rf t=Zn r0 t)
  {ι : Nat→Option Loc} (hQ : ∀ ι1 a1 w1,Le ι ι1→St P.globals.size w0 N ι1 rf (hs m) a1 w1→Q .normal a1 w1) :
  ∀ (fuel : Nat) (listed : Array Bool) (j : Nat) (ι1 : Nat→Option Loc) (a : Act) (w : World),Le ι ι1→Sim P.globals.size w0 ι1 (hs j) w→a.tmps.size=N→a.defers=Yc w0.own→listed.size=ops.size→
   (∀ t,((∃ i,Wrt ops.toList i t∧listed.getD i false=true)→RV ι1 (Zn rf t) (a.tmps.getD t undef))∧((∀ i,Wrt ops.toList i t→listed.getD i false=false)→RV ι1 (Zn r0 t) (a.tmps.getD t undef)))→
   (∀ i,listed.getD i false=true→∀ x∈an.getD i [],listed.getD x false=true)→
   (∀ e,e < ops.size→cl.getD e 0=2→(listed.getD e false=true↔ZL cl ord e < j))→j≤m→
   (List.range ops.size).countP (fun i=>!listed.getD i false)=fuel→wpAnyIn (FR rd) 0 P .any ops Q fuel listed a w:=by
 have hlen : ops.toList.length=ops.size:=by simp
 have hget : ∀ (listed : Array Bool),listed.size=ops.size→∀ i,i < ops.size→listed.getD i true=listed.getD i false:=by
  intro listed hsz i hi
  simp [hsz,hi]
 have hready : ∀ (listed : Array Bool),listed.size=ops.size→Region.ready .any ops listed=[]→∀ i,i < ops.size→listed.getD i false=true:=by
  intro listed hsz hr
  have : ∀ q i,i < ops.size→Yk ord i < q→listed.getD i false=true:=by
   intro q
   induction q with
   | zero=>intro i _ h;omega
   | succ q ih=>
    intro i hi hp
    refine Classical.byContradiction fun hno=>?_
    have hno' : listed.getD i false=false:=by simpa using hno
    obtain ⟨o,v,ho,_⟩:=hF i hi
    have hol : ops.toList[i]?=some o:=by simpa using ho
    have hmem : i∈Region.ready .any ops listed:=mem_ready.2 ⟨by rw [hget listed hsz i hi];exact hno',o,ho,fun e he hb=>by
     have hee : e.on∈YG o:=List.mem_map.2 ⟨e,List.mem_filter.2 ⟨by simpa using he,hb⟩,rfl⟩
     obtain ⟨h1,h2⟩:=hO.edge i o hol e.on hee
     rw [hlen] at h2
     have h3:=(hO.trans i (by rw [hlen];exact hi) e.on h1).2
     exact ih e.on h2 (by omega)⟩
    rw [hr] at hmem;cases hmem
  exact fun i hi=>this (Yk ord i+1) i hi (Nat.lt_succ_self _)
 have hdone : ∀ (listed : Array Bool) (j : Nat) (ι1 : Nat→Option Loc) (a : Act) (w : World),Le ι ι1→Sim P.globals.size w0 ι1 (hs j) w→a.tmps.size=N→a.defers=Yc w0.own→listed.size=ops.size→
   (∀ t,((∃ i,Wrt ops.toList i t∧listed.getD i false=true)→RV ι1 (Zn rf t) (a.tmps.getD t undef))∧((∀ i,Wrt ops.toList i t→listed.getD i false=false)→RV ι1 (Zn r0 t) (a.tmps.getD t undef)))→
   (∀ e,e < ops.size→cl.getD e 0=2→(listed.getD e false=true↔ZL cl ord e < j))→j≤m→Region.ready .any ops listed=[]→Q .normal a w:=by
  intro listed j ι1 a w hle hS hsz hdf hls hreg heff hjm hr
  have hall:=hready listed hls hr
  have hjm2 : j=m:=by
   rcases Nat.lt_or_ge j m with h | h
   ·exfalso
    obtain ⟨p,e,q,h1,h2,h3⟩:=WV (cl:=cl) (l:=ord) (j:=j) (by omega)
    have hnd:=hO.nodup
    rw [h1] at hnd
    have hep : e∉p:=fun hmm=>(List.nodup_append.1 hnd).2.2 e hmm e (by simp) rfl
    have hle2 : ZL cl ord e=j:=by rw [h1,WD hep];exact h3
    have hen : e < ops.size:=by have:=hO.inn e (by rw [h1];simp);rw [hlen] at this;exact this
    have:=(heff e hen h2).1 (hall e hen)
    omega
   ·omega
  subst hjm2
  refine hQ ι1 a w hle ⟨hS,fun t=>?_,hsz,hdf⟩
  by_cases ht : ∃ i,Wrt ops.toList i t
  ·obtain ⟨i,hi⟩:=ht
   refine (hreg t).1 ⟨i,hi,hall i ?_⟩
   obtain ⟨q,hq,_⟩:=hi
   rcases Nat.lt_or_ge i ops.size with h | h
   ·exact h
   ·rw [List.getElem?_eq_none (by simpa using h)] at hq;cases hq
  ·rw [hrf t fun i hi=>ht ⟨i,hi⟩]
   exact (hreg t).2 fun i hi=>absurd ⟨i,hi⟩ ht
 intro fuel
 induction fuel with
 | zero=>
  intro listed j ι1 a w hle hS hsz hdf hls hreg hclo heff hjm hcnt
  have hall : ∀ i,i < ops.size→listed.getD i false=true:=by
   intro i hi
   have:=List.countP_eq_zero.1 hcnt i (List.mem_range.2 hi)
   simpa using this
  have hr : Region.ready .any ops listed=[]:=by
   cases hr : Region.ready .any ops listed with
   | nil=>rfl
   | cons i l=>
    exfalso
    have hmem : i∈Region.ready .any ops listed:=by rw [hr];simp
    obtain ⟨h1,o,ho,_⟩:=mem_ready.1 hmem
    have hi : i < ops.size:=(Array.getElem?_eq_some_iff.1 ho).1
    rw [hget listed hls i hi,hall i hi] at h1;cases h1
  exact ⟨hr,hdone listed j ι1 a w hle hS hsz hdf hls hreg heff hjm hr⟩
 | succ fuel ih=>
  intro listed j ι1 a w hle hS hsz hdf hls hreg hclo heff hjm hcnt
  refine ⟨fun hr=>hdone listed j ι1 a w hle hS hsz hdf hls hreg heff hjm hr,fun i hi=>?_⟩
  obtain ⟨hun,o,ho,hedges⟩:=mem_ready.1 hi
  have hin : i < ops.size:=(Array.getElem?_eq_some_iff.1 ho).1
  have hun' : listed.getD i false=false:=by rw [← hget listed hls i hin];exact hun
  have hol : ops.toList[i]?=some o:=by simpa using ho
  obtain ⟨o',v,ho',hfact⟩:=hF i hin
  rw [ho] at ho';cases ho'
  have hinl : i < ops.toList.length:=by rw [hlen];exact hin
  have hanc : ∀ x∈an.getD i [],listed.getD x false=true:=by
   intro x hx
   obtain ⟨e,he,h⟩:=hO.back i o hol x hx
   have hel : listed.getD e false=true:=by
    unfold YG at he
    obtain ⟨ed,hed,rfl⟩:=List.mem_map.1 he
    obtain ⟨h1,h2⟩:=List.mem_filter.1 hed
    exact hedges ed (by simpa using h1) h2
   rcases h with rfl | h
   ·exact hel
   ·exact hclo e hel x h
  have hnotin : ∀ e,listed.getD e false=true→i∉an.getD e []:=fun e he hie=>by
   have:=hclo e he i hie
   rw [hun'] at this;cases this
  have hlooks : ∀ t∈Yd ops.toList o,RV ι1 (fA ops.toList an r0 rf i t) (a.tmps.getD t undef):=by
   intro t ht
   unfold fA
   split
   ·rename_i hw
    obtain ⟨q,hq,hwq⟩:=hw
    exact (hreg t).1 ⟨q,hwq,hanc q hq⟩
   ·rename_i hw
    refine (hreg t).2 fun q hwq=>?_
    cases hl : listed.getD q false with
    | false=>rfl
    | true=>
     exfalso
     obtain ⟨oq,hoq,hdq⟩:=hwq
     have hne : q≠i:=fun e=>by subst e;rw [hun'] at hl;cases hl
     rcases (hO.tmps q oq i o t hoq hol hne hdq (.inl ht)).1 with h | h
     ·exact hw ⟨q,h,oq,hoq,hdq⟩
     ·exact hnotin q hl h
  have hset : ∀ e,(listed.setIfInBounds i true).getD e false=true↔(e=i∨listed.getD e false=true):=by
   intro e
   by_cases he : i=e
   ·subst he;simp [hls,hin]
   ·rw [getD_set_ne false he]
    simp [Ne.symm he]
  have hfin : ∀ (j' : Nat) (ι2 : Nat→Option Loc) (v' : Value) (w' : World),Le ι1 ι2→RV ι2 v v'→Sim P.globals.size w0 ι2 (hs j') w'→j'≤m→
    (∀ e,e < ops.size→cl.getD e 0=2→((e=i∨listed.getD e false=true)↔ZL cl ord e < j'))→wpAnyIn (FR rd) 0 P .any ops Q fuel (listed.setIfInBounds i true) (a.put o.dst v') w':=by
   intro j' ι2 v' w' hle2 hv hS2 hjm2 heff2
   refine ih _ j' ι2 _ w' (hle.trans hle2) hS2 (by cases o.dst <;> simp [Act.put,hsz]) (by cases o.dst <;> exact hdf) (by simpa using hls) (fun t=>?_) (fun e he x hx=>?_) (fun e he hce=>?_) hjm2 ?_
   ·have hput : o.dst≠some t→(a.put o.dst v').tmps.getD t undef=a.tmps.getD t undef:=by
     intro hne
     cases hd : o.dst with
     | none=>rfl
     | some d=>
      have : d≠t:=fun e=>hne (by rw [hd,e])
      simp [Act.put,Array.getElem?_setIfInBounds_ne this]
    by_cases hdt : o.dst=some t
    ·have hself : RV ι2 (Zn rf t) ((a.put o.dst v').tmps.getD t undef):=by
      rw [hfact.dst t hdt]
      have hlt:=(Wd hok (List.mem_of_getElem? hol)).dst t hdt
      rw [hdt]
      simpa [Act.put,hsz,hlt] using hv
     refine ⟨fun _=>hself,fun hno=>?_⟩
     have:=hno i ⟨o,hol,hdt⟩
     rw [(hset i).2 (.inl rfl)] at this;cases this
    ·rw [hput hdt]
     refine ⟨fun ⟨q,hwq,hlq⟩=>((hreg t).1 ⟨q,hwq,?_⟩).mono hle2,fun hno=>((hreg t).2 fun q hwq=>?_).mono hle2⟩
     ·rcases (hset q).1 hlq with rfl | h
      ·obtain ⟨oq,hoq,hdq⟩:=hwq
       rw [hol] at hoq;cases hoq
       exact absurd hdq hdt
      ·exact h
     ·cases hl : listed.getD q false with
      | false=>rfl
      | true=>
       have:=hno q hwq
       rw [(hset q).2 (.inr hl)] at this;cases this
   ·rcases (hset e).1 he with rfl | h
    ·exact (hset x).2 (.inr (hanc x hx))
    ·exact (hset x).2 (.inr (hclo e h x hx))
   ·rw [hset e];exact heff2 e he hce
   ·have hc:=Zey (p:=fun i=>!listed.getD i false) (q:=fun e=>!(listed.setIfInBounds i true).getD e false) (i:=i)
     (fun e hne=>by rw [getD_set_ne false (Ne.symm hne)]) (by simp only [hun'];rfl) (by rw [(hset i).2 (.inl rfl)];rfl) (List.nodup_range (n:=ops.size)) (List.mem_range.2 hin)
    omega
  by_cases hef : cl.getD i 0=2
  ·
   have hlev : ZL cl ord i=j:=by
    have h1 : ¬ ZL cl ord i < j:=fun h=>by
     have:=(heff i hin hef).2 h
     rw [hun'] at this;cases this
    rcases Nat.lt_or_ge j (ZL cl ord i) with h | h
    ·exfalso
     obtain ⟨e,he,hce,hle2⟩:=hO.full i hinl j h
     rw [hlen] at he
     have hne : e≠i:=fun x=>by subst x;omega
     have hea:=(hO.chain i hinl hef e (by rw [hlen];exact he) hce hne).1 (by omega)
     have:=(heff e he hce).1 (hanc e hea)
     omega
    ·omega
   have hst:=hfact.eff hef
   rw [hlev] at hst
   have hjm1 : j+1≤m:=by
    obtain ⟨s,t,hst2⟩:=List.append_of_mem (hO.cover i hinl)
    have hnd:=hO.nodup
    rw [hst2] at hnd
    have his : i∉s:=fun hmm=>(List.nodup_append.1 hnd).2.2 i hmm i (by simp) rfl
    have h1 : ZL cl ord i=cE cl s:=by rw [hst2];exact WD his
    rw [hm,hst2,Zby]
    simp only [cE,hef,Nat.beq_refl,cond_true]
    omega
   refine Zew hΓ ho hS (Wd hok (List.mem_of_getElem? hol)) hlooks hst fun ι2 v' w' hle2 hv hS2=>?_
   refine hfin (j+1) ι2 v' w' hle2 hv hS2 hjm1 fun e he hce=>?_
   constructor
   ·rintro (rfl | h)
    ·omega
    ·have:=(heff e he hce).1 h;omega
   ·intro h
    by_cases hei : e=i
    ·exact .inl hei
    ·refine .inr ((heff e he hce).2 ?_)
     have:=(hO.chain i hinl hef e (by rw [hlen];exact he) hce hei).2
     omega
  ·
   have hle1 : ZL cl ord i≤j:=by
    rcases hO.eager i hinl hef with h | ⟨e,he,hce,h1,h2⟩
    ·omega
    ·rw [hlen] at he
     have:=(heff e he hce).1 (hanc e h2)
     omega
   have hst:=hfact.non hef j hle1 hjm fun e he hce _ hlt=>by
    rw [hlen] at he
    exact hnotin e ((heff e he hce).2 hlt)
   refine Zew hΓ ho hS (Wd hok (List.mem_of_getElem? hol)) hlooks hst fun ι2 v' w' hle2 hv hS2=>?_
   refine hfin j ι2 v' w' hle2 hv hS2 hjm fun e he hce=>?_
   constructor
   ·rintro (rfl | h)
    ·exact absurd hce hef
    ·exact (heff e he hce).1 h
   ·intro h;exact .inr ((heff e he hce).2 h)
theorem Zke {id : Nat} {ops : Array Oper} {an : List (List Nat)} {ord : List Nat} {Q : Exit→Act→World→Prop} (hm : P.follows .mixedOrders=true) (hΓ : ∀ g,Qc P P.globals.size w0 g (Γ g))
  (hok : Wb P N ops.toList=true) (hO : ZgW ops.toList (ops.toList.map fun o=>cls P o.op) an ord) {β : Type} {x : β × Za} {k : Ze→M β} {r : Ze} (hSt : St P.globals.size w0 N ι r H a w)
  (h : exD P Γ an ops.toList (Qr ops.toList ord) [] r k H=some x) (hk : We P w0 N ι k x (fun a1 w1=>Q .normal a1 w1)) : (Code.region id ops true).wpIn (FR rd) 0 P Q a w:=by
 obtain ⟨rf,hl,Hf,h1,h2⟩:=ZeN (by simp) h
 have hlen : ops.toList.length=ops.size:=by simp
 have hhl:=ZeA (fun i hi=>hO.inn i hi) h2
 obtain ⟨f1,_⟩:=ZjP (r0:=r) (hs:=fun j=>(H :: hl).getD j []) (m:=cE (ops.toList.map fun o=>cls P o.op) ord) rfl hO rfl ord [] rfl h2 (fun _ _=>rfl) (fun q _=>by simp [cE])
 have hlast:=Zca h2
 rw [hhl] at hlast
 have hrep : ∀ i,(Array.replicate ops.size false).getD i false=false:=fun i=>by
  rw [Array.getD_eq_getD_getElem?,Array.getElem?_replicate];split <;> rfl
 refine wpIn_region_any hm (Zla (ι:=ι) (r0:=r) (rf:=rf) (hs:=fun j=>(H :: hl).getD j []) hΓ hok hO rfl (fun i hi=>?_) (fun t ht=>?_) (fun ι1 a1 w1 hle hSt1=>?_)
  ops.size (Array.replicate ops.size false) 0 ι a _ (.refl ι) (hSt.sim.congr rfl) hSt.size hSt.defers (by simp) (fun t=>⟨fun ⟨i,_,hi⟩=>?_,fun _=>hSt.regs t⟩) (fun i hi=>?_) (fun e he hce=>?_) (Nat.zero_le _) ?_)
 ·obtain ⟨o,v,ho,hf⟩:=f1 i (hO.cover i (by rw [hlen];exact hi))
  exact ⟨o,v,by simpa using ho,hf⟩
 ·refine Zb9 h2 t fun p hp hpt=>?_
  unfold Qr at hp
  obtain ⟨i,hi,hp⟩:=List.mem_filterMap.1 hp
  simp only [Option.map_eq_some_iff] at hp
  obtain ⟨q,hq,rfl⟩:=hp
  exact ht i ⟨q,hq,hpt⟩
 ·refine hk ι1 rf Hf a1 w1 hle ?_ h1
  rw [← hlast];exact hSt1
 ·rw [hrep i] at hi;cases hi
 ·rw [hrep i] at hi;cases hi
 ·rw [hrep e];simp
 ·rw [List.countP_eq_length.2 fun i hi=>by rw [hrep i];rfl]
  simp
end
end Go.Proofs.YtgfbgfafajiehaaGreatDoor.A
namespace Go.Proofs.YtgfbgfafajiehaaGreatDoor.A
set_option linter.unusedVariables false
set_option linter.unusedSimpArgs false
section
variable {P : Program} {Γ : Zb} {w0 : Zi} {N : Nat} {ι : Nat→Option Loc} {r : Ze} {H : Za} {a : Act} {w : World} {rd : Option Nat}
theorem ZiM {id : Nat} {ops : Array Oper} {draw : Bool} {Q : Exit→Act→World→Prop} (hm : P.follows .mixedOrders=true) (hΓ : ∀ g,Qc P P.globals.size w0 g (Γ g))
  (hok : Wb P N ops.toList=true) (hgd : YD ops.toList=true) {β : Type} {x : β × Za} {k : Ze→M β} (hSt : St P.globals.size w0 N ι r H a w)
  (h : Ze0 P Γ ops.toList draw r k H=some x) (hk : We P w0 N ι k x (fun a1 w1=>Q .normal a1 w1)) : (Code.region id ops draw).wpIn (FR rd) 0 P Q a w:=by
 unfold Ze0 at h
 cases draw with
 | true=>
  simp only [cond_true] at h
  cases hd : Za9 ops.toList (ops.toList.map fun o=>cls P o.op) (ZeW ops.toList) (WE (ops.toList.map fun o=>cls P o.op) (ZeW ops.toList) ops.toList.length ops.toList.length []) with
  | false=>rw [hd] at h;cases h
  | true=>
   rw [hd] at h
   simp only [cond_true] at h
   exact Zke hm hΓ hok (ZiG hd) hSt h hk
 | false=>
  simp only [cond_false] at h
  exact wpIn_region_list (YQ (Q:=Q) hΓ hgd _ (fun p hp=>⟨Wd hok hp,hp⟩) hSt h hk)
theorem St.proj (hSt : St P.globals.size w0 N ι r H a w) (L : List Nat) : St P.globals.size w0 N ι (A.mk L (A.proj L r)) H a w:=by
 refine ⟨hSt.sim,fun t=>?_,hSt.size,hSt.defers⟩
 by_cases ht : t∈L
 ·have:=ZbG (r:=[]) (r1:=r) ht
  rw [List.append_nil] at this
  rw [this];exact hSt.regs t
 ·have:=Zdf (r:=[]) (L:=L) (vs:=A.proj L r) (t:=t) fun d hd e=>ht (e ▸ hd)
  rw [List.append_nil] at this
  rw [this];exact .un
def YZ (a : Act) : ResultVar→Sem Value
 | .tmp t=>pure (a.tmps.getD t undef)
 | .cell b t=>do loadVar t (← asAddr (a.tmps.getD b undef))
theorem ZaK {β : Type} {x : β × Za} (hSt : St P.globals.size w0 N ι r H a w) : ∀ (l : List ResultVar) {k : List Value→M β},KM P r l k H=some x→
  ∃ vs,k vs H=some x∧∀ (b : Zi) (w' : World),Sim P.globals.size b ι H w'→∃ vs',RVs ι vs vs'∧(l.mapM (m:=Sem) (YZ a)).run P w'=.ok vs' w'
 | [],k,h=>⟨[],h,fun _ _ _=>⟨[],.nil,rfl⟩⟩
 | .tmp t :: l,k,h=>by
  simp only [KM] at h
  obtain ⟨vs,h1,h2⟩:=ZaK hSt l h
  refine ⟨_,h1,fun b w' hw=>?_⟩
  obtain ⟨vs',h3,h4⟩:=h2 b w' hw
  refine ⟨a.tmps.getD t undef :: vs',.cons (hSt.regs t) h3,?_⟩
  rw [List.mapM_cons,Sem.run_bind]
  simp only [YZ,Sem.run_pure,Result.andThen_ok,Sem.run_bind,h4]
 | .cell b t :: l,k,h=>by
  have hb:=hSt.regs b
  have fin : ∀ {v : Value},(∀ (b' : Zi) (w' : World),Sim P.globals.size b' ι H w'→∃ ad v',a.tmps.getD b undef=.pointer (some ad)∧RV ι v v'∧(loadVar t ad).run P w'=.ok v' w')→
    KM P r l (fun vs=>k (v :: vs)) H=some x→∃ vs,k vs H=some x∧∀ (b' : Zi) (w' : World),Sim P.globals.size b' ι H w'→∃ vs',RVs ι vs vs'∧((ResultVar.cell b t :: l).mapM (m:=Sem) (YZ a)).run P w'=.ok vs' w':=by
   intro v hp h
   obtain ⟨vs,h1,h2⟩:=ZaK hSt l h
   refine ⟨_,h1,fun b' w' hw=>?_⟩
   obtain ⟨vs',h3,h4⟩:=h2 b' w' hw
   obtain ⟨ad,v',hp,hv,hr⟩:=hp b' w' hw
   refine ⟨v' :: vs',.cons hv h3,?_⟩
   rw [List.mapM_cons,Sem.run_bind]
   simp only [YZ,hp,asAddr,Sem.run_pure,Result.andThen_ok,Sem.run_bind,hr,h4]
  simp only [KM] at h
  generalize hm : QM P t=m at h
  cases m with
  | none=>cases h
  | some g=>
   cases g with
   | true=>
    simp only at h
    obtain ⟨v,H1,h1,h2⟩:=bind_some h
    obtain ⟨rfl,_⟩:=ZfO (P:=P) hSt.sim hm hb h1
    refine fin (fun b' w' hw=>?_) h2
    obtain ⟨_,ad,v',hp,hv,hr⟩:=ZfO (P:=P) hw hm hb h1
    exact ⟨ad,v',hp,hv,hr⟩
   | false=>
    simp only at h
    obtain ⟨v,H1,h1,h2⟩:=bind_some h
    obtain ⟨rfl,_⟩:=Zbw (P:=P) hSt.sim hm hb h1
    refine fin (fun b' w' hw=>?_) h2
    obtain ⟨_,ad,v',hp,hv,hr⟩:=Zbw (P:=P) hw hm hb h1
    exact ⟨ad,v',hp,hv,hr⟩
theorem W8 {β : Type} {x : β × Za} {fn : Func} {kr : Value→M β} (hSt : St P.globals.size w0 N ι r H a w) (h : Wr P fn r kr H=some x) :
  ∃ v,kr v H=some x∧∀ (b : Zi) (w' : World),Sim P.globals.size b ι H w'→∃ v',(results fn a.tmps).run P w'=.ok v' w'∧RV ι v v':=by
 unfold Wr at h
 obtain ⟨vs,h1,h2⟩:=ZaK hSt _ h
 have hm : ∀ {w' : World} {vs' : List Value},(fn.results.toList.mapM (m:=Sem) (YZ a)).run P w'=.ok vs' w'→(fn.results.mapM (m:=Sem) (YZ a)).run P w'=.ok vs'.toArray w':=by
  intro w' vs' h3
  rw [Array.mapM_eq_mapM_toList,Sem.run_map,h3];rfl
 have hres : ∀ {w' : World} {vs' : List Value},(fn.results.toList.mapM (m:=Sem) (YZ a)).run P w'=.ok vs' w'→∀ v',(if h : vs'.toArray.size=1 then vs'.toArray[0] else .tuple vs'.toArray)=v'→(results fn a.tmps).run P w'=.ok v' w':=by
  intro w' vs' h3 v' hv
  unfold results
  rw [Sem.run_bind]
  show ((Sem.run P (fn.results.mapM (m:=Sem) (YZ a)) w').andThen _)=_
  rw [hm h3]
  simp only [Result.andThen_ok,Sem.run_pure]
  rw [hv]
 match vs,h1,h2 with
 | [],h1,h2=>
  refine ⟨_,h1,fun b w' hw=>?_⟩
  obtain ⟨vs',h3,h4⟩:=h2 b w' hw
  have:=h3.nil_inv;subst this
  exact ⟨_,hres h4 (.tuple #[]) rfl,.un⟩
 | [v],h1,h2=>
  refine ⟨_,h1,fun b w' hw=>?_⟩
  obtain ⟨vs',h3,h4⟩:=h2 b w' hw
  obtain ⟨v',r',rfl,hv,hr⟩:=h3.cons_inv
  have:=hr.nil_inv;subst this
  exact ⟨_,hres h4 v' rfl,hv⟩
 | v :: u :: vs,h1,h2=>
  refine ⟨_,h1,fun b w' hw=>?_⟩
  obtain ⟨vs',h3,h4⟩:=h2 b w' hw
  refine ⟨.tuple vs'.toArray,hres h4 _ ?_,.tupL h3⟩
  have:=h3.1
  rw [dif_neg (by simp at this ⊢;omega)]
inductive Ext : Zi→Zi→Prop
 | refl (b : Zi) : Ext b b
 | push {b c : Zi} (D : Nat) : Ext b c→D∉c.prot→Ext b { c with prot:=D :: c.prot,own:=D :: c.own }
theorem Ext.trans {a b c : Zi} (h : Ext a b) (h' : Ext b c) : Ext a c:=by
 induction h' with
 | refl=>exact h
 | push D _ hn ih=>exact .push D ih hn
theorem Sim.base {G : Nat} {b c : Zi} (h : Sim G b ι H w) (hb : c.toWorld=b.toWorld) (hp : ∀ x∈c.prot,x∈b.prot) : Sim G c ι H w:=by
 obtain ⟨cw,cp,co⟩:=c
 simp only at hb
 subst hb
 refine ⟨fun id o ho=>?_,h.inj,h.size,h.old,h.dom,h.glob,h.rest,fun x hx=>h.prot x (hp x hx),h.views⟩
 have:=h.obj id o ho
 cases o <;> exact this
theorem Ext.sim {G : Nat} {b c : Zi} (hE : Ext b c) : ∀ {ι : Nat→Option Loc} {H : Za} {w : World},Sim G c ι H w→Sim G b ι H w:=by
 induction hE with
 | refl=>exact fun h=>h
 | push D _ hn ih=>exact fun h=>ih (h.base rfl fun x hx=>List.mem_cons_of_mem _ hx)
theorem Zl2 {F : Fence} {n : Nat} {fn : Func} {tmps : Array Value} {R : Ending→World→Prop} {b c : Zi} (hE : Ext b c) (hb : b.own=[]) : ∀ {ι : Nat→Option Loc} {H : Za} {w : World},Sim P.globals.size c ι H w→
  (∀ w',Sim P.globals.size b ι H w'→∃ v,(results fn tmps).run P w'=.ok v w'∧R (.returned v) w')→LeavesInM F n P fn tmps R (Yc c.own) .returning w:=by
 induction hE with
 | refl=>
  intro ι H w h hR
  rw [hb]
  exact hR w h
 | @push c D hc hn ih=>
  intro ι H w h hR
  obtain ⟨p1,p2,p3⟩:=h.prot D (by simp)
  refine ⟨by simp,.inl ⟨D,_,rfl,run_takeDeferred p1,ih (ι:=ι) (H:=H) ?_ hR⟩⟩
  exact (h.base (c:=c) rfl fun x hx=>List.mem_cons_of_mem _ hx).put _ p2 hn (fun i o l h1 h2 _ h3=>p3 i o l h1 h2 h3) (fun j cs es nx lj hj hlj hbe=>absurd hbe (p3 j _ lj hj (by simp) hlj))
def ZmP (rnd : Bool) (P : Program) (w0 : Zi) (fn : Func) (ι : Nat→Option Loc) (v : Value) (H : Za) (a : Act) (w : World) : Prop:=
 Sim P.globals.size w0 ι H w∧a.defers=Yc w0.own∧(rnd=false→∀ (b : Zi) (w' : World),Sim P.globals.size b ι H w'→∃ v',(results fn a.tmps).run P w'=.ok v' w'∧RV ι v v')
theorem ZeI {body : List Value→M Out} {vs : List Value} {x : Out × Za} (h : Zd body vs H=some x) : ∃ n,Z6 body n vs H=some x:=by
 unfold Zd at h
 split at h
 ·exact ⟨_,h⟩
 ·cases h
theorem Zfk {β : Type} {m : M Out} {kn : List Value→M β} {kx : Nat→List Value→M β} {kr : Value→M β} {x : β × Za} (h : jn m kn kx kr H=some x) :
  ∃ o H1,m H=some (o,H1)∧((∃ vs,o=.nrm vs∧kn vs H1=some x)∨(∃ j vs,o=.ext j vs∧kx j vs H1=some x)∨(∃ v,o=.ret v∧kr v H1=some x)):=by
 obtain ⟨o,H1,h1,h2⟩:=bind_some h
 refine ⟨o,H1,h1,?_⟩
 cases o with
 | nrm vs=>exact .inl ⟨vs,rfl,h2⟩
 | ext j vs=>exact .inr (.inl ⟨j,vs,rfl,h2⟩)
 | ret v=>exact .inr (.inr ⟨v,rfl,h2⟩)
theorem Zfr {β : Type} {c : Code} {kx : Nat→Ze→M β} {j : Nat} {vs : List Value} : ∀ (X : List (Nat × List Nat)),ZZ.xto j c=false→JI c X kx j vs H=none
 | [],_=>rfl
 | p :: X,hj=>by
  simp only [JI]
  cases hp : ZZ.xto p.1 c with
  | false=>exact Zfr X hj
  | true=>
   simp only [cond_true]
   cases e : Nat.beq j p.1 with
   | true=>
    have:=Nat.eq_of_beq_eq_true e
    subst this
    rw [hj] at hp;cases hp
   | false=>exact Zfr X hj
theorem Y4 {β : Type} {c : Code} {kx : Nat→Ze→M β} {j : Nat} {vs : List Value} {x : β × Za} : ∀ (X : List (Nat × List Nat)),JI c X kx j vs H=some x→kx j (mk (lkX X j) vs) H=some x
 | [],h=>by cases h
 | p :: X,h=>by
  simp only [JI] at h
  simp only [lkX]
  cases hp : ZZ.xto p.1 c with
  | false=>
   rw [hp] at h
   simp only [cond_false] at h
   cases e : Nat.beq p.1 j with
   | true=>
    have:=Nat.eq_of_beq_eq_true e
    subst this
    rw [Zfr X hp] at h;cases h
   | false=>exact Y4 X h
  | true=>
   rw [hp] at h
   simp only [cond_true] at h
   cases e : Nat.beq j p.1 with
   | true=>
    have:=Nat.eq_of_beq_eq_true e
    subst this
    rw [e] at h
    simpa using h
   | false=>
    rw [e] at h
    have e' : Nat.beq p.1 j=false:=by
     cases e2 : Nat.beq p.1 j with
     | false=>rfl
     | true=>have:=Nat.eq_of_beq_eq_true e2;subst this;simp at e
    rw [e']
    exact Y4 X h
theorem Zbq {β : Type} {c : Code} {kx : Nat→Ze→M β} {j : Nat} {r : Ze} {x : β × Za} : ∀ (X : List (Nat × List Nat)),W3 c X kx j r H=some x→kx j r H=some x
 | [],h=>by cases h
 | p :: X,h=>by
  simp only [W3] at h
  cases hp : ZZ.xto p.1 c with
  | false=>rw [hp] at h;exact Zbq X h
  | true=>
   rw [hp] at h
   simp only [cond_true] at h
   cases e : Nat.beq j p.1 with
   | true=>
    have:=Nat.eq_of_beq_eq_true e
    subst this
    rw [e] at h
    exact h
   | false=>
    rw [e] at h
    exact Zbq X h
structure Ze1 {β : Type} (rnd : Bool) (P : Program) (w0 : Zi) (N : Nat) (fn : Func) (ι : Nat→Option Loc) (kn : Ze→M β) (kx : Nat→Ze→M β) (kr : Value→M β) (x : β × Za) (Q : Exit→Act→World→Prop) : Prop where
 nrm : ∀ b,Ext w0 b→We P b N ι kn x (fun a w=>Q .normal a w)
 ext : ∀ b,Ext w0 b→∀ j,We P b N ι (kx j) x (fun a w=>Q (.exit j) a w)
 ret : ∀ b,Ext w0 b→∀ ι1 v H1 a1 w1,Le ι ι1→ZmP rnd P b fn ι1 v H1 a1 w1→kr v H1=some x→Q .ret a1 w1
theorem We.mono {β : Type} {k : Ze→M β} {x : β × Za} {next : Act→World→Prop} {ι1 : Nat→Option Loc} (h : We P w0 N ι k x next) (hl : Le ι ι1) : We P w0 N ι1 k x next:=
 fun ι2 r2 H2 a2 w2 hle hSt hk=>h ι2 r2 H2 a2 w2 (hl.trans hle) hSt hk
theorem Ze1.mono {β : Type} {rnd : Bool} {fn : Func} {kn : Ze→M β} {kx : Nat→Ze→M β} {kr : Value→M β} {x : β × Za} {Q : Exit→Act→World→Prop} {ι1 : Nat→Option Loc} {b : Zi}
  (h : Ze1 rnd P w0 N fn ι kn kx kr x Q) (hb : Ext w0 b) (hl : Le ι ι1) : Ze1 rnd P b N fn ι1 kn kx kr x Q:=
 ⟨fun c hc=>(h.nrm c (hb.trans hc)).mono hl,fun c hc j=>(h.ext c (hb.trans hc) j).mono hl,fun c hc ι2 v H2 a2 w2 hle hR hk=>h.ret c (hb.trans hc) ι2 v H2 a2 w2 (hl.trans hle) hR hk⟩
theorem Ziv {β : Type} {ok : FuncId→Bool} {v : Value} {fn : Func} {lv : List (Nat × List Nat)} {p : Nat} {xs : List Nat} {cd : Array Tmp × Code × Code} {regs : Ze} {k : Option Code→M β} {x : β × Za}
  (h : Ym ok Γ v fn lv p xs cd regs k H=some x) : ∃ gf first captured u H1,v=.func (.func gf) first captured∧gf < Z0∧ok gf=true∧
   Γ gf (first.toList++([.func (.yield H.length) #[] #[]]++captured.toList)) (H++[.loop fn lv p xs cd regs .ready none])=some (u,H1)∧YJ H.length k H1=some x:=by
 cases v with
 | func f first captured=>
  cases f with
  | func gf=>
   simp only [Ym] at h
   cases hok : Nat.blt gf Z0 && ok gf with
   | false=>rw [hok] at h;cases h
   | true=>
    rw [hok] at h
    simp only [Bool.and_eq_true] at hok
    simp only [cond_true] at h
    generalize hm : Γ gf (first.toList++([.func (.yield H.length) #[] #[]]++captured.toList)) (H++[.loop fn lv p xs cd regs .ready none])=m at h
    cases m with
    | none=>cases h
    | some q=>exact ⟨gf,first,captured,q.1,q.2,rfl,by simpa using hok.1,hok.2,hm,h⟩
  | _=>cases h
 | _=>cases h
theorem Zh4 {β : Type} {g : Operand} {ps : Array Tmp} {asg bd : Code} {Q : Exit→Act→World→Prop} {fn : Func} {lv : List (Nat × List Nat)} {p : Nat} {xs : List Nat} {L : List Nat} {k : Option Code→M β} {x : β × Za}
  (hΓ : ∀ (b : Zi) g,Qc P P.globals.size b g (Γ g)) (hSt : St P.globals.size w0 fn.ntmps ι r H a w) (hg : Z2 P g=true)
  (h : Ym (Zen P) Γ (A.ev r g) fn lv p xs (ps,asg,bd) (A.mk L (A.proj L r)) k H=some x)
  (hk : ∀ pd b ι1 H1 a1 w1,Ext w0 b→Le ι ι1→St P.globals.size b fn.ntmps ι1 r H1 a1 w1→k pd H1=some x→(match pd with | none=>Q .normal a1 w1 | some c=>c.wpIn (FR none) 0 P Q a1 w1)) :
  (Code.rangeFunc g ps asg bd).wpIn (FR none) 0 P Q a w:=by
 have hv:=hSt.ev hg
 obtain ⟨gf,first,captured,v,H1,hev,hgy',hcg,hcall,h⟩:=Ziv h
 rw [hev] at hv
 obtain ⟨first',captured',hev',hr1,hr2⟩:=hv.fn_inv
 refine wpIn_rangeFunc fun fid hfid=>?_
 generalize hD : w.heap.size=D
 have hS1:=hSt.sim.push (.deferred (some []))
 let b1 : Zi:={ w0 with prot:=D :: w0.prot,own:=D :: w0.own }
 have hnp : D∉w0.prot:=by
  intro hm
  have p1:=(hSt.sim.prot D hm).1
  rw [Array.getElem?_eq_none (by omega)] at p1;cases p1
 have hS2 : Sim P.globals.size b1 ι H (ZH w (.deferred (some []))):=by
  refine ⟨fun id o ho=>?_,hS1.inj,hS1.size,hS1.old,hS1.dom,hS1.glob,hS1.rest,fun y hy=>?_,hS1.views⟩
  ·have:=hS1.obj id o ho
   cases o <;> exact this
  ·cases hy with
   | head=>
    refine ⟨by rw [← hD];exact Jd w _,by rw [← hD];exact hSt.sim.size,fun id o l ho hd hl e=>?_⟩
    obtain ⟨l',hl',hlt⟩:=(hSt.sim.obj id o ho).loc hd
    rw [hl] at hl';cases hl'
    omega
   | tail _ hy=>exact hS1.prot y hy
 let rec0 : Loop:={ state:=.ready,pending:=none,fn:=fid,tmps:=a.tmps,params:=ps,assign:=asg,body:=bd,defers:=D }
 let l0 : Loc:=⟨D+1,0,0,0,false⟩
 have hsz2 : (ZH w (.deferred (some []))).heap.size=D+1:=by simp [ZH,hD]
 have hle1 : Le ι (ZU ι H.length l0):=ZF hSt.sim _
 have hS3 : Sim P.globals.size b1 (ZU ι H.length l0) (H++[.loop fn lv p xs (ps,asg,bd) (A.mk L (A.proj L r)) .ready none]) (ZH (ZH w (.deferred (some []))) (.loop rec0)):=by
  refine hS2.new (.loop rec0) hsz2.symm ⟨l0,fid,a.tmps,D,Zm _ _ _,?_,?_,hSt.size,fun t=>?_⟩
  ·have:=Jd (ZH w (.deferred (some []))) (.loop rec0)
   rw [hsz2] at this
   exact this
  ·have:=hSt.sim.size
   show w0.heap.size≤D+1
   omega
  ·exact ((hSt.proj L).regs t).mono hle1
 have hRV : RVs (ZU ι H.length l0) (first.toList++([.func (.yield H.length) #[] #[]]++captured.toList)) (first'.toList++([.func (.yield (D+1)) #[] #[]]++captured'.toList)):=
  (hr1.mono hle1).append ((RVs.cons (.yl (l:=l0) (Zm _ _ _)) .nil).append (hr2.mono hle1))
 unfold Zen at hcg
 split at hcg
 case h_2=>cases hcg
 rename_i gfn hgfn
 unfold Jb at hcg
 simp only [Bool.and_eq_true] at hcg
 have hname : (gfn.name == "runtime.NumGoroutine") = false := by simpa using hcg.1
 have hbody : gfn.body.isNone=false:=by
  have:=hcg.2
  cases hb : gfn.body <;> simp_all
 rcases hΓ b1 gf _ _ _ _ hcall with ⟨_,⟨_,hcalls⟩ | ⟨ex,⟨fn',hfn',_,hbody',_⟩,_⟩⟩ | ⟨hno,_⟩
 ·have hc:=hcalls _ _ _ hS3 hRV
  refine ⟨D+1,Yc [D],ZH (ZH w (.deferred (some []))) (.loop rec0),{ target:=.fn (.func gf) captured',args:=first'++#[Value.func (.yield (D+1)) #[] #[]] },ZH (ZH w (.deferred (some []))) (.loop rec0),gf,
   (first'.toList++([Value.func (.yield (D+1)) #[] #[]]++captured'.toList)).toArray,ZH (ZH w (.deferred (some []))) (.loop rec0),?_,?_,fun _ _=>trivial,?_,(fun h=>by cases h),?_⟩
  ·have:=run_enterLoop_outer (P:=P) (w:=w) fid a.tmps ps asg bd
   rw [hD] at this
   exact this
  ·simp only [resolve,hev',Deferred.ofValue,Sem.run_bind,Sem.run_pure,Result.andThen_ok]
   simp [Act.eval]
  ·simp only [invoke,callFunc,Sem.run_bind,run_program,Result.andThen_ok,hgfn,hname,hbody,Bool.false_eq_true,if_false,Sem.run_pure]
   congr 2
   apply Array.ext'
   simp
  ·refine ZaA (hc.mono fun e w' he=>?_)
   obtain ⟨ι1,v',hle,rfl,hv',hs⟩:=he
   unfold YJ at h
   split at h
   case h_2=>cases h
   rename_i fn2 lv2 p2 xs2 cd2 regs2 st2 pd2 hget
   obtain ⟨l,rf,tmps2,D2,hl,hheap,hnew,hsz,hregs⟩:=hs.obj _ _ hget
   have hl0:=hle _ _ (Zm ι H.length l0)
   rw [hl] at hl0
   cases hl0
   have hst : st2≠.busy:=by
    rintro rfl
    cases h
   have hk' : k pd2 (H1.set H.length (.loop fn2 lv2 p2 xs2 cd2 regs2 .exhausted pd2))=some x:=by
    cases st2 with
    | busy=>exact absurd rfl hst
    | _=>exact h
   refine ⟨pd2,_,run_endLoop hheap hst,?_⟩
   have hS4:=hs.set (new:=.loop fn2 lv2 p2 xs2 cd2 regs2 .exhausted pd2) (o':=.loop { state:=.exhausted,pending:=pd2,fn:=rf,tmps:=tmps2,params:=cd2.1,assign:=cd2.2.1,body:=cd2.2.2,defers:=D2 }) hget rfl hl rfl
    fun w' hw'=>⟨l0,rf,tmps2,D2,hl,hw',hnew,hsz,hregs⟩
   refine hk pd2 b1 ι1 _ _ _ (.push D (.refl w0) hnp) (hle1.trans hle) ⟨hS4,fun t=>(hSt.regs t).mono (hle1.trans hle),hSt.size,?_⟩ hk'
   show Yc [D]++a.defers=Yc (D :: w0.own)
   rw [hSt.defers]
   rfl
 ·rw [hgfn] at hfn'
  cases hfn'
  rw [hbody] at hbody';cases hbody'
 ·exact absurd hgy' (Nat.not_lt_of_le hno)
theorem ZfI {rnd : Bool} (hrd : rnd=false→rd=none) (hm : P.follows .mixedOrders=true) (hΓ : ∀ (b : Zi) g,Qc P P.globals.size b g (Γ g)) (fn : Func) (lv : List (Nat × List Nat)) : ∀ (c : Code) {β : Type} {p : Nat} {X : List (Nat × List Nat)} {r : Ze} {kn : Ze→M β} {kx : Nat→Ze→M β} {kr : Value→M β}
  {w0 : Zi} {H : Za} {x : β × Za} {ι : Nat→Option Loc} {a : Act} {w : World} {Q : Exit→Act→World→Prop},St P.globals.size w0 fn.ntmps ι r H a w→E P Γ rnd fn lv c p X r kn kx kr H=some x→
  Ze1 rnd P w0 fn.ntmps fn ι kn kx kr x Q→c.wpIn (FR rd) 0 P Q a w:=by
 intro c
 induction c with
 | skip=>intro β p X r kn kx kr w0 H x ι a w Q hSt h hG;exact wpIn_skip (hG.nrm w0 (.refl w0) ι r H a w (.refl ι) hSt h)
 | region id ops draw=>
  intro β p X r kn kx kr w0 H x ι a w Q hSt h hG
  simp only [E] at h
  cases hok : Wb P fn.ntmps ops.toList && YD ops.toList with
  | false=>rw [hok] at h;cases h
  | true=>
   rw [hok] at h
   simp only [Bool.and_eq_true] at hok
   exact ZiM hm (hΓ w0) hok.1 hok.2 hSt h (hG.nrm w0 (.refl w0))
 | seq c d ihc ihd=>
  intro β p X r kn kx kr w0 H x ι a w Q hSt h hG
  simp only [E] at h
  refine wpIn_seq (ihc hSt h ⟨?_,hG.ext,hG.ret⟩)
  intro b hb ι1 r1 H1 a1 w1 hle hSt1 h1
  exact ihd hSt1 h1 (hG.mono hb hle)
 | cond c t e iht ihe=>
  intro β p X r kn kx kr w0 H x ι a w Q hSt h hG
  simp only [E] at h
  cases hcok : Z2 P c with
  | false=>rw [hcok] at h;cases h
  | true=>
  rw [hcok] at h
  simp only [Bool.not_true,cond_false] at h
  have hc:=hSt.ev hcok
  cases hf : ZZ t && ZZ e with
  | false=>
   rw [hf] at h
   simp only [cond_false] at h
   unfold cnd at h
   generalize A.ev r c=g at h hc
   cases g with
   | bool b=>
    refine wpIn_cond hc.bool_inv ?_
    cases b
    ·exact ihe hSt h hG
    ·exact iht hSt h hG
   | _=>cases h
  | true=>
   rw [hf] at h
   simp only [cond_true] at h
   obtain ⟨o,H1,h1,h2⟩:=Zfk h
   have hG2 : Ze1 rnd P w0 fn.ntmps fn ι (fun r'=>ret (Out.nrm (A.proj (lkX lv p) r'))) (fun j r'=>ret (Out.ext j (A.proj (lkX X j) r'))) (fun v=>ret (Out.ret v)) (o,H1) Q:=by
    refine ⟨?_,?_,?_⟩
    ·intro b hb ι1 r1 H2 a1 w1 hle hSt1 hk
     cases hk
     rcases h2 with ⟨vs,he,hk⟩ | ⟨j,vs,he,hk⟩ | ⟨v,he,hk⟩ <;> cases he
     exact hG.nrm b hb ι1 _ H1 a1 w1 hle (hSt1.proj _) hk
    ·intro b hb j ι1 r1 H2 a1 w1 hle hSt1 hk
     cases hk
     rcases h2 with ⟨vs,he,hk⟩ | ⟨j,vs,he,hk⟩ | ⟨v,he,hk⟩ <;> cases he
     exact hG.ext b hb _ ι1 _ H1 a1 w1 hle (hSt1.proj _) (Y4 _ hk)
    ·intro b hb ι1 v H2 a1 w1 hle hR hk
     cases hk
     rcases h2 with ⟨vs,he,hk⟩ | ⟨j,vs,he,hk⟩ | ⟨v,he,hk⟩ <;> cases he
     exact hG.ret b hb ι1 _ H1 a1 w1 hle hR hk
   unfold cnd at h1
   generalize A.ev r c=g at h1 hc
   cases g with
   | bool b=>
    refine wpIn_cond hc.bool_inv ?_
    cases b
    ·exact ihe hSt h1 hG2
    ·exact iht hSt h1 hG2
   | _=>cases h1
 | block id c ih=>
  intro β p X r kn kx kr w0 H x ι a w Q hSt h hG
  simp only [E] at h
  refine wpIn_block ?_
  cases hb : Nat.ble (Yi id c+(bif ZZ c then 1 else 0)) 1 with
  | true=>
   rw [hb] at h
   simp only [cond_true] at h
   refine ih hSt h ⟨hG.nrm,?_,hG.ret⟩
   intro b hb j ι1 r1 H1 a1 w1 hle hSt1 hk
   simp only [Exit.inBlock]
   cases hj : Nat.beq j id with
   | true=>
    rw [hj] at hk
    rw [if_pos (Nat.eq_of_beq_eq_true hj)]
    exact hG.nrm b hb ι1 r1 H1 a1 w1 hle hSt1 hk
   | false=>
    rw [hj] at hk
    rw [if_neg (fun e=>by subst e;simp at hj)]
    exact hG.ext b hb j ι1 r1 H1 a1 w1 hle hSt1 hk
  | false=>
   rw [hb] at h
   simp only [cond_false] at h
   obtain ⟨o,H1,h1,h2⟩:=Zfk h
   refine ih hSt h1 ⟨?_,?_,?_⟩
   ·intro b hb ι1 r1 H2 a1 w1 hle hSt1 hk
    cases hk
    rcases h2 with ⟨vs,he,hk⟩ | ⟨j,vs,he,hk⟩ | ⟨v,he,hk⟩ <;> cases he
    exact hG.nrm b hb ι1 _ H1 a1 w1 hle (hSt1.proj _) hk
   ·intro b hb j ι1 r1 H2 a1 w1 hle hSt1 hk
    simp only [Exit.inBlock]
    cases hj : Nat.beq j id with
    | true=>
     rw [hj] at hk
     rw [if_pos (Nat.eq_of_beq_eq_true hj)]
     cases hk
     rcases h2 with ⟨vs,he,hk⟩ | ⟨j,vs,he,hk⟩ | ⟨v,he,hk⟩ <;> cases he
     exact hG.nrm b hb ι1 _ H1 a1 w1 hle (hSt1.proj _) hk
    | false=>
     rw [hj] at hk
     rw [if_neg (fun e=>by subst e;simp at hj)]
     cases hk
     rcases h2 with ⟨vs,he,hk⟩ | ⟨j,vs,he,hk⟩ | ⟨v,he,hk⟩ <;> cases he
     exact hG.ext b hb _ ι1 _ H1 a1 w1 hle (hSt1.proj _) (Y4 _ hk)
   ·intro b hb ι1 v H2 a1 w1 hle hR hk
    cases hk
    rcases h2 with ⟨vs,he,hk⟩ | ⟨j,vs,he,hk⟩ | ⟨v,he,hk⟩ <;> cases he
    exact hG.ret b hb ι1 _ H1 a1 w1 hle hR hk
 | loop c ih=>
  intro β p X r kn kx kr w0 H x ι a w Q hSt h hG
  simp only [E] at h
  obtain ⟨o,H1,h1,h2⟩:=Zfk h
  obtain ⟨n,hn⟩:=ZeI h1
  refine wpIn_loop_rounds n ?_
  have key : ∀ (n : Nat) {b : Zi} {r : Ze} {H : Za} {ι1 : Nat→Option Loc} {a : Act} {w : World},Ext w0 b→Le ι ι1→St P.globals.size b fn.ntmps ι1 r H a w→
    Z6 (fun vs=>E P Γ rnd fn lv c (2 * p) X (A.mk (lkX lv p) vs) (fun r'=>ret (Out.nrm (A.proj (lkX lv p) r'))) (fun j r'=>ret (Out.ext j (A.proj (lkX X j) r'))) (fun v=>ret (Out.ret v))) n (A.proj (lkX lv p) r) H=some (o,H1)→
    Code.roundsIn (FR rd) 0 P c Q n a w:=by
   intro n
   induction n with
   | zero=>intro b r H ι1 a w _ _ _ h;cases h
   | succ n ihn=>
    intro b r H ι1 a w hb hle hSt1 hit
    simp only [Z6] at hit
    split at hit
    ·cases hit
    ·rename_i vs' H' he
     refine ih (hSt1.proj _) he ⟨?_,?_,?_⟩
     ·intro b2 hb2 ι2 r2 H2 a2 w2 hle2 hSt2 hk
      cases hk
      exact ihn (hb.trans hb2) (hle.trans hle2) hSt2 hit
     ·intro b2 hb2 j ι2 r2 H2 a2 w2 hle2 hSt2 hk
      cases hk
     ·intro b2 hb2 ι2 v H2 a2 w2 hle2 hR hk
      cases hk
    ·rename_i o' H' hno he
     cases hit
     refine ih (hSt1.proj _) he ⟨?_,?_,?_⟩
     ·intro b2 hb2 ι2 r2 H2 a2 w2 hle2 hSt2 hk
      cases hk
      exact (hno _ rfl).elim
     ·intro b2 hb2 j ι2 r2 H2 a2 w2 hle2 hSt2 hk
      cases hk
      rcases h2 with ⟨vs,he,hk⟩ | ⟨j,vs,he,hk⟩ | ⟨v,he,hk⟩ <;> cases he
      exact hG.ext b2 (hb.trans hb2) _ ι2 _ H1 a2 w2 (hle.trans hle2) (hSt2.proj _) (Y4 _ hk)
     ·intro b2 hb2 ι2 v H2 a2 w2 hle2 hR hk
      cases hk
      rcases h2 with ⟨vs,he,hk⟩ | ⟨j,vs,he,hk⟩ | ⟨v,he,hk⟩ <;> cases he
      exact hG.ret b2 (hb.trans hb2) ι2 _ H1 a2 w2 (hle.trans hle2) hR hk
  exact key n (.refl w0) (.refl ι) hSt hn
 | exit id=>intro β p X r kn kx kr w0 H x ι a w Q hSt h hG;exact wpIn_exit (hG.ext w0 (.refl w0) id ι r H a w (.refl ι) hSt h)
 | ret=>
  intro β p X r kn kx kr w0 H x ι a w Q hSt h hG
  simp only [E] at h
  cases rnd with
  | true=>exact wpIn_ret (hG.ret w0 (.refl w0) ι _ H a w (.refl ι) ⟨hSt.sim,hSt.defers,fun h=>by cases h⟩ h)
  | false=>
   obtain ⟨v,h1,h2⟩:=W8 hSt h
   exact wpIn_ret (hG.ret w0 (.refl w0) ι v H a w (.refl ι) ⟨hSt.sim,hSt.defers,fun _=>h2⟩ h1)
 | rangeFunc g ps asg bd _ _=>
  intro β p X r kn kx kr w0 H x ι a w Q hSt h hG
  simp only [E] at h
  cases hc : rnd || !Z2 P g with
  | true=>rw [hc] at h;cases h
  | false=>
   rw [hc] at h
   simp only [Bool.or_eq_false_iff,Bool.not_eq_false'] at hc
   obtain ⟨rfl,hg⟩:=hc
   obtain rfl:=hrd rfl
   simp only [cond_false] at h
   refine Zh4 hΓ hSt hg h fun pd b ι1 H1 a1 w1 hb hle hSt1 hk=>?_
   cases pd with
   | none=>exact hG.nrm b hb ι1 r H1 a1 w1 hle hSt1 hk
   | some c=>
    cases c with
    | exit j=>exact wpIn_exit (hG.ext b hb j ι1 r H1 a1 w1 hle hSt1 (Zbq _ hk))
    | ret=>
     obtain ⟨v,h1,h2⟩:=W8 hSt1 hk
     exact wpIn_ret (hG.ret b hb ι1 v H1 a1 w1 hle ⟨hSt1.sim,hSt1.defers,fun _=>h2⟩ h1)
    | _=>cases hk
 | _=>intro β p X r kn kx kr w0 H x ι a w Q hSt h hG;cases h
theorem Zc3 : ∀ (vs : List Value) (i t : Nat),Zn (Y1 i vs) t=if i≤t∧t < i+vs.length then vs.getD (t - i) undef else undef
 | [],i,t=>by simp [Y1,Zn]
 | v :: vs,i,t=>by
  simp only [Y1,Zn]
  cases e : Nat.beq i t with
  | true=>
   have:=Nat.eq_of_beq_eq_true e
   subst this
   simp
  | false=>
   have hne : i≠t:=fun h=>by subst h;simp at e
   rw [cond_false,Zc3 vs (i+1) t]
   by_cases h1 : i+1≤t∧t < i+1+vs.length
   ·rw [if_pos h1,if_pos (by simp;omega)]
    have : t - i=(t - (i+1))+1:=by omega
    rw [this];simp
   ·rw [if_neg h1,if_neg (by simp;omega)]
theorem Zju (hm : P.follows .mixedOrders=true) (hΓ : ∀ (b : Zi) g,Qc P P.globals.size b g (Γ g)) {g : FuncId} {fn : Func} {lv : List (Nat × List Nat)} (hfn : P.funcs[g]?=some fn) (hcall : Jb fn=true)
  {args : List Value} {H H1 : Za} {v : Value} (h : JF P Γ fn lv args H=some (v,H1)) : Zfd P P.globals.size w0 g v args H H1:=by
 unfold JF at h
 cases hb : fn.body with
 | none=>rw [hb] at h;cases h
 | some c=>
  rw [hb] at h
  simp only at h
  cases hle : Nat.ble args.length fn.ntmps with
  | false=>rw [hle] at h;cases h
  | true=>
   rw [hle] at h
   simp only [cond_true] at h
   have hlen:=Nat.le_of_ble_eq_true hle
   have hcl : QP P g:=by
    refine ⟨fn,hfn,?_,by simp [hb]⟩
    unfold Jb at hcall
    simp only [Bool.and_eq_true] at hcall
    simpa using hcall.1
   refine ⟨hcl,fun ι w args' hS hr=>callsIn_wide.1 (callsIn_of_wp_marks (F:=Fence.wide) (n:=0) hfn hb trivial ?_)⟩
   have hsz : args'.toArray.size=args.length:=by have:=hr.1;simp;omega
   have hret : ∀ b,Ext { w0 with own:=[] } b→∀ ι1 v' H2 a1 w1,Le ι ι1→ZmP false P b fn ι1 v' H2 a1 w1→v'=v→H2=H1→
     LeavesInM Fence.wide 0 P fn a1.tmps (fun e w'=>∃ ι1 v',Le ι ι1∧e=.returned v'∧RV ι1 v v'∧Sim P.globals.size w0 ι1 H1 w') a1.defers .returning w1:=by
    rintro b hb ι1 v' H2 a1 w1 hle1 ⟨hs,hd,hres⟩ rfl rfl
    rw [hd]
    refine Zl2 hb rfl hs fun w' hw'=>?_
    obtain ⟨v2,h2,hv2⟩:=hres rfl _ w' hw'
    exact ⟨v2,h2,ι1,v2,hle1,rfl,hv2,hw'.base rfl fun x hx=>hx⟩
   refine ZfI (rnd:=false) (rd:=none) (fun _=>rfl) hm hΓ fn lv c (ι:=ι) (w0:={ w0 with own:=[] }) ?_ h ⟨?_,?_,?_⟩
   ·refine ⟨hS.base rfl fun x hx=>hx,fun t=>?_,by simp at hsz ⊢;omega,rfl⟩
    rw [Zc3]
    split
    ·rename_i ht
     have h1:=hr.2 t (by omega)
     have ht' : t < args'.length:=by have:=hr.1;omega
     simp only [Nat.sub_zero]
     simpa [Array.getElem?_append,ht',List.getD_eq_getElem?_getD] using h1
    ·exact .un
   ·intro b hb ι1 r1 H2 a1 w1 hle1 hSt1 hk
    obtain ⟨v',h1,hres⟩:=W8 hSt1 hk
    cases h1
    exact hret b hb ι1 _ _ a1 w1 hle1 ⟨hSt1.sim,hSt1.defers,fun _=>hres⟩ rfl rfl
   ·intro b hb j ι1 r1 H2 a1 w1 hle1 hSt1 hk;cases hk
   ·intro b hb ι1 v' H2 a1 w1 hle1 hR hk
    cases hk
    exact hret b hb ι1 _ _ a1 w1 hle1 hR rfl rfl
theorem Zc4 {N : Nat} : ∀ {ps : List Nat} {vs vs' : List Value} {r : Ze} {T : Array Value},RVs ι vs vs'→(∀ t∈ps,t < N)→T.size=N→(∀ t,RV ι (Zn r t) (T.getD t undef))→
  ((ps.zip vs').foldl (fun tmps (t,a)=>tmps.setIfInBounds t a) T).size=N∧∀ t,RV ι (Zn (Zkc ps vs r) t) (((ps.zip vs').foldl (fun tmps (t,a)=>tmps.setIfInBounds t a) T).getD t undef)
 | [],vs,vs',r,T,_,_,hT,hr=>⟨hT,hr⟩
 | p :: ps,[],vs',r,T,hv,_,hT,hr=>by
  have:=hv.nil_inv;subst this
  exact ⟨hT,hr⟩
 | p :: ps,v :: vs,vs',r,T,hv,hp,hT,hr=>by
  obtain ⟨v',b',rfl,hv1,hv2⟩:=hv.cons_inv
  refine Zc4 (ps:=ps) (r:=(p,v) :: r) (T:=T.setIfInBounds p v') hv2 (fun t ht=>hp t (by simp [ht])) (by simpa using hT) fun t=>?_
  simp only [Zn]
  by_cases e : p=t
  ·subst e
   have:=hp p (by simp)
   simpa [hT,this] using hv1
  ·have e1 : Nat.beq p t=false:=by
    cases h : Nat.beq p t with
    | false=>rfl
    | true=>exact absurd (Nat.eq_of_beq_eq_true h) e
   have:=hr t
   simpa [e1,Array.getElem?_setIfInBounds_ne e] using this
theorem Zcj {ps : Array Tmp} {vs : List Value} {T : Array Value} : (ps.zip vs.toArray).foldl (fun tmps (x : Tmp × Value)=>tmps.setIfInBounds x.1 x.2) T=(ps.toList.zip vs).foldl (fun tmps (x : Tmp × Value)=>tmps.setIfInBounds x.1 x.2) T:=by
 rw [← Array.foldl_toList]
 simp
theorem Zhb (hm : P.follows .mixedOrders=true) (hΓ : ∀ (b : Zi) g,Qc P P.globals.size b g (Γ g)) {L : Nat} {args : List Value} {H H1 : Za} {v : Value} (h : ZeM P Γ L args H=some (v,H1)) : Zk4 P P.globals.size w0 L v args H H1:=by
 unfold ZeM at h
 split at h
 case h_2=>cases h
 rename_i fn lv p xs cd regs pd hget
 obtain ⟨ps,asg,bd⟩:=cd
 simp only at h
 cases hok : Nat.beq args.length ps.size && ps.toList.all (fun t=>Nat.blt t fn.ntmps) with
 | false=>rw [hok] at h;cases h
 | true=>
 rw [hok] at h
 simp only [Bool.and_eq_true,List.all_eq_true] at hok
 obtain ⟨hlen,hps⟩:=hok
 have hlen:=Nat.eq_of_beq_eq_true hlen
 simp only [cond_true] at h
 intro ι w args' l hl hS hr
 obtain ⟨l',rf,tmps,D,hl',hheap,hnew,hsz,hregs⟩:=hS.obj _ _ hget
 rw [hl] at hl';cases hl'
 have hlen' : args'.length=ps.size:=by rw [← hr.1];exact hlen
 have hy:=run_yield (P:=P) (args:=args'.toArray) hheap (by simpa using hlen')
 refine ⟨_,_,_,_,hy,?_⟩
 simp only
 rw [Zcj]
 obtain ⟨hsz2,hregs2⟩:=Zc4 (ps:=ps.toList) (r:=regs) hr (fun t ht=>by simpa using hps t ht) hsz hregs
 have endS : ∀ (jump : Option Code) {b : Zi} {ι1 : Nat→Option Loc} {H2 : Za} {w2 : World},Ext { w0 with own:=[] } b→Le ι ι1→Sim P.globals.size b ι1 H2 w2→WU L jump H2=some (v,H1)→
   ∃ u w',(Instr.endRound l.blk jump).run P w2=.ok u w'∧∃ ι1 v',Le ι ι1∧Ending.returned u=.returned v'∧RV ι1 v v'∧Sim P.globals.size w0 ι1 H1 w':=by
  intro jump b ι1 H2 w2 hb hle hs he
  unfold WU at he
  split at he
  case h_2=>cases he
  rename_i fn2 lv2 p2 xs2 cd2 regs2 st2 pd2 hget2
  cases he
  obtain ⟨l2,rf2,tmps2,D2,hl2,hheap2,hnew2,hsz2,hregs2⟩:=hs.obj _ _ hget2
  rw [hle _ _ hl] at hl2;cases hl2
  have hS4:=hs.set (new:=.loop fn2 lv2 p2 xs2 cd2 regs2 (if jump.isNone then .ready else .done) jump) (o':=.loop { state:=if jump.isNone then .ready else .done,pending:=jump,fn:=rf2,tmps:=tmps2,params:=cd2.1,assign:=cd2.2.1,body:=cd2.2.2,defers:=D2 }) hget2 rfl (hle _ _ hl) rfl
   fun w' hw'=>⟨l,rf2,tmps2,D2,hle _ _ hl,hw',hnew2,hsz2,hregs2⟩
  exact ⟨_,_,run_endRound jump hheap2,ι1,_,hle,rfl,.sc rfl,(hb.sim hS4).base rfl fun x hx=>hx⟩
 refine roundIn_of_wpIn trivial ?_
 refine ZfI (rnd:=true) (rd:=some l.blk) (fun h=>by cases h) hm hΓ fn lv asg (ι:=ι) (w0:={ w0 with own:=[] }) ⟨hS.base rfl fun x hx=>hx,hregs2,hsz2,rfl⟩ h ⟨?_,?_,?_⟩
 ·intro b hb ι1 r1 H2 a1 w1 hle hSt1 hk
  simp only [Exit.then]
  simp only [Zdo] at hk
  split at hk
  case h_2=>cases hk
  rename_i fn2 lv2 p2 xs2 cd2 regs2 pd2 hget2
  obtain ⟨l2,rf2,tmps2,D2,hl2,hheap2,hnew2,hsz2,hregs2⟩:=hSt1.sim.obj _ _ hget2
  rw [hle _ _ hl] at hl2;cases hl2
  have hS4:=hSt1.sim.set (new:=.loop fn2 lv2 p2 xs2 cd2 regs2 .busy pd2) (o':=.loop { state:=.busy,pending:=pd2,fn:=rf2,tmps:=tmps2,params:=cd2.1,assign:=cd2.2.1,body:=cd2.2.2,defers:=D2 }) hget2 rfl (hle _ _ hl) rfl
   fun w' hw'=>⟨l,rf2,tmps2,D2,hle _ _ hl,hw',hnew2,hsz2,hregs2⟩
  refine ⟨_,run_beginRound hheap2 rfl,?_⟩
  refine ZfI (rnd:=true) (rd:=some l.blk) (fun h=>by cases h) hm hΓ fn lv bd (ι:=ι1) (w0:=b) ⟨hS4,hSt1.regs,hSt1.size,hSt1.defers⟩ hk ⟨?_,?_,?_⟩
  ·intro c hc ι2 r2 H3 a2 w2 hle2 hSt2 hk2
   exact endS none (hb.trans hc) (hle.trans hle2) hSt2.sim hk2
  ·intro c hc j ι2 r2 H3 a2 w2 hle2 hSt2 hk2
   exact endS (some (.exit j)) (hb.trans hc) (hle.trans hle2) hSt2.sim hk2
  ·intro c hc ι2 v2 H3 a2 w2 hle2 hR hk2
   exact endS (some .ret) (hb.trans hc) (hle.trans hle2) hR.1 hk2
 ·intro b hb j ι1 r1 H2 a1 w1 hle1 hSt1 hk;cases hk
 ·intro b hb ι1 v' H2 a1 w1 hle1 hR hk;cases hk
def QU (P : Program) (G : Nat) (w0 : Zi) (g : FuncId) (m : List Value→M Value) : Prop:=
 ∀ args H v H1,m args H=some (v,H1)→Zfd P G w0 g v args H H1∨Zkg P G w0 g v args H H1
theorem JT (hm : P.follows .mixedOrders=true) {prim : FuncId→Option (List Value→M Value)} {lvs : FuncId→List (Nat × List Nat)} (hprim : ∀ (b : Zi) g m,prim g=some m→QU P P.globals.size b g m) : ∀ (n : Nat) (w0 : Zi) (g : FuncId),Qc P P.globals.size w0 g (run P prim lvs n g)
 | 0,w0,g=>by intro args H v H1 h;cases h
 | n+1,w0,g=>by
  intro args H v H1 h
  simp only [run] at h
  cases hy : Nat.blt g Z0 with
  | false=>
   rw [hy] at h
   exact .inr ⟨Nat.le_of_not_lt fun hlt=>(by rw [show Nat.blt g Z0=true by simpa using hlt] at hy;cases hy),Zhb hm (JT hm hprim n) h⟩
  | true=>
  rw [hy] at h
  simp only [cond_true] at h
  refine .inl ⟨by simpa using hy,?_⟩
  cases hp : prim g with
  | some m=>rw [hp] at h;exact hprim w0 g m hp args H v H1 h
  | none=>
   rw [hp] at h
   simp only at h
   cases hf : P.funcs[g]? with
   | none=>rw [hf] at h;cases h
   | some fn=>
    rw [hf] at h
    simp only at h
    cases hc : Jb fn with
    | false=>rw [hc] at h;cases h
    | true=>
     rw [hc] at h
     exact .inl (Zju hm (JT hm hprim n) hf hc h)
end
end Go.Proofs.YtgfbgfafajiehaaGreatDoor.A
namespace Go.Proofs.YtgfbgfafajiehaaGreatDoor.A
set_option linter.unusedVariables false
set_option linter.unusedSimpArgs false
inductive Ty where
 | bool | int (k : IntKind) | str | slc (e : Ty) | struct (r : Ty) | unit | pair (f r : Ty)
def Ty.den : Ty→Type
 | .bool=>Bool
 | .int _=>Int
 | .str=>ByteArray
 | .slc e=>Option (List e.den × List e.den)
 | .struct r=>r.den
 | .unit=>Unit
 | .pair f r=>f.den × r.den
def Ty.size : Ty→Nat
 | .struct r=>r.size
 | .unit=>0
 | .pair f r=>f.size+r.size
 | _=>1
def Ty.fits (P : Program) : Ty→TypeId ⊕ (List Field × Nat)→Bool
 | .bool,.inl t=>match P.underlying t with | some .bool=>true | _=>false
 | .int k,.inl t=>match P.underlying t with | some (.int k')=>decide (k'=k) | _=>false
 | .str,.inl t=>match P.underlying t with | some .string=>true | _=>false
 | .slc e,.inl t=>match P.underlying t with | some (.slice u)=>e.fits P (.inl u) && Nat.beq (P.cellsOf u) e.size && Nat.ble 1 e.size | _=>false
 | .struct r,.inl t=>match P.underlying t with | some (.struct fs)=>r.fits P (.inr (fs.toList,0)) && Nat.beq (P.cellsOf t) r.size | _=>false
 | .unit,.inr ([],_)=>true
 | .pair f r,.inr (fd :: fs,off)=>f.fits P (.inl fd.type) && Nat.beq fd.offset off && Nat.beq (P.cellsOf fd.type) f.size && r.fits P (.inr (fs,off+f.size))
 | _,_=>false
def Ty.wf : (t : Ty)→t.den→Prop
 | .bool,_=>True
 | .int k,n=>(Lit.int k n).wf=true
 | .str,s=>s.size≤maxLen
 | .slc _,none=>True
 | .slc e,some (a,b)=>(∀ x∈a,e.wf x)∧(∀ x∈b,e.wf x)∧a.length+b.length≤maxLen
 | .struct r,x=>r.wf x
 | .unit,_=>True
 | .pair f r,(x,y)=>f.wf x∧r.wf y
def Rd : (t : Ty)→t.den→Za→List Value→Prop
 | .bool,b,_,cs=>cs=[.bool b]
 | .int k,n,_,cs=>cs=[.int k n]
 | .str,s,_,cs=>cs=[.string s]
 | .slc _,none,_,cs=>cs=[.slice none 0 0]
 | .slc e,some (a,b),H,cs=>(a=[]∧b=[]∧cs=[.slice (some ⟨0,0,some 1⟩) 0 0])∨
   ∃ id cells,cs=[.slice (some ⟨id,0,none⟩) a.length (a.length+b.length)]∧H[id]?=some (.cells cells e.size false true)∧
    cells.length=(a.length+b.length) * e.size∧∀ i x,(a++b)[i]?=some x→Rd e x H ((cells.drop (i * e.size)).take e.size)
 | .struct r,x,H,cs=>Rd r x H cs
 | .unit,_,_,cs=>cs=[]
 | .pair f r,(x,y),H,cs=>Rd f x H (cs.take f.size)∧Rd r y H (cs.drop f.size)
def HLe (H H' : Za) : Prop:=∀ (id : Nat) (o : Zl),H[id]?=some o→H'[id]?=some o
theorem HLe.refl (H : Za) : HLe H H:=fun _ _ h=>h
theorem HLe.trans {H H' H'' : Za} (h : HLe H H') (h' : HLe H' H'') : HLe H H'':=fun i o e=>h' i o (h i o e)
theorem HLe.app (H l : Za) : HLe H (H++l):=fun i o h=>by
 rw [List.getElem?_append_left (List.getElem?_eq_some_iff.1 h).1];exact h
theorem Rd.mono : ∀ (t : Ty) {x : t.den} {H H' : Za} {cs : List Value},Rd t x H cs→HLe H H'→Rd t x H' cs
 | .bool,_,_,_,_,h,_=>h
 | .int _,_,_,_,_,h,_=>h
 | .str,_,_,_,_,h,_=>h
 | .slc _,none,_,_,_,h,_=>h
 | .slc e,some (a,b),_,_,_,h,hl=>by
  rcases h with h | ⟨id,cells,h1,h2,h3,h4⟩
  ·exact .inl h
  ·exact .inr ⟨id,cells,h1,hl _ _ h2,h3,fun i x hx=>Rd.mono e (h4 i x hx) hl⟩
 | .struct r,_,_,_,_,h,hl=>Rd.mono r (x:=_) h hl
 | .unit,_,_,_,_,h,_=>h
 | .pair f r,(_,_),_,_,_,h,hl=>⟨Rd.mono f h.1 hl,Rd.mono r h.2 hl⟩
theorem Rd.ones : ∀ (t : Ty) {x : t.den} {H : Za} {cs : List Value},Rd t x H cs→∀ v∈cs,oneCell v=true
 | .bool,_,_,_,h=>by cases h;simp [oneCell]
 | .int _,_,_,_,h=>by cases h;simp [oneCell]
 | .str,_,_,_,h=>by cases h;simp [oneCell]
 | .slc _,none,_,_,h=>by cases h;simp [oneCell]
 | .slc e,some (a,b),_,_,h=>by
  rcases h with ⟨_,_,h⟩ | ⟨id,cells,h,_⟩ <;> cases h <;> simp [oneCell]
 | .struct r,_,_,_,h=>Rd.ones r (x:=_) h
 | .unit,_,_,_,h=>by cases h;simp
 | .pair f r,(_,_),_,cs,h=>fun v hv=>by
  rw [← List.take_append_drop f.size cs] at hv
  rcases List.mem_append.1 hv with hv | hv
  ·exact Rd.ones f h.1 v hv
  ·exact Rd.ones r h.2 v hv
theorem Zf9 {w : World} {a : Addr} {i sz : Nat} {cs : List Value} (hs : 1≤sz) (h : w.cells? 0 (a.add (i * sz)) sz=some cs) :
  (i=0→a.spot=none)∧∃ c el fr,w.heap[a.block]?=some (.cells c el fr)∧a.off+i * sz+sz≤c.size∧cs=(c.toList.drop (a.off+i * sz)).take sz:=by
 obtain ⟨_,hl,hc⟩:=World.cells?_some h
 have hblk : (a.add (i * sz)).block=a.block:=by unfold Addr.add;split <;> rfl
 have hoff : (a.add (i * sz)).off=a.off+i * sz:=by unfold Addr.add;split <;> simp_all
 have get : ∀ j,j < sz→∃ v,w.cell? ((a.add (i * sz)).add j)=some v∧cs[j]?=some v:=by
  intro j hj
  rw [hc j hj]
  have : j < cs.length:=by omega
  exact ⟨cs[j],List.getElem?_eq_getElem this,List.getElem?_eq_getElem this⟩
 have hadd : ∀ j,((a.add (i * sz)).add j).block=a.block∧((a.add (i * sz)).add j).off=a.off+i * sz+j:=by
  intro j
  refine ⟨?_,?_⟩ <;> unfold Addr.add <;> split <;> simp_all [Addr.add]
 refine ⟨fun hi=>?_,?_⟩
 ·subst hi
  obtain ⟨v,h0,_⟩:=get 0 hs
  rw [Nat.zero_mul] at h0
  simp only [Addr.add,if_pos] at h0
  unfold World.cell? at h0
  split at h0
  ·split at h0
   ·cases h0
   ·rename_i hsp;simpa using hsp
  ·cases h0
 ·obtain ⟨v,h0,_⟩:=get 0 hs
  unfold World.cell? at h0
  rw [(hadd 0).1,(hadd 0).2] at h0
  split at h0
  ·rename_i c el fr hb
   refine ⟨c,el,fr,hb,?_,?_⟩
   ·obtain ⟨v,h1,_⟩:=get (sz - 1) (by omega)
    unfold World.cell? at h1
    rw [(hadd (sz - 1)).1,(hadd (sz - 1)).2,hb] at h1
    simp only at h1
    split at h1
    ·cases h1
    ·have:=(Array.getElem?_eq_some_iff.1 h1).1
     omega
   ·apply List.ext_getElem?
    intro j
    by_cases hj : j < sz
    ·obtain ⟨v,h1,h2⟩:=get j hj
     rw [h2,List.getElem?_take,if_pos hj,List.getElem?_drop]
     unfold World.cell? at h1
     rw [(hadd j).1,(hadd j).2,hb] at h1
     simp only at h1
     split at h1
     ·cases h1
     ·rw [← h1];simp
    ·rw [List.getElem?_eq_none (by omega),List.getElem?_eq_none (by simp;omega)]
  ·cases h0
section
variable {P : Program} {H0 : Type} {enc : TypeId × Value→H0} {W : World} {G : Nat}
def ZmE (W : World) (G : Nat) (t : Ty) (ι : Nat→Option Loc) (H : Za) (cs : List Value) : Prop:=
 ∃ x ι' H' cs',t.wf x∧Le ι ι'∧Sim G (b0 W) ι' H' W∧HLe H H'∧RVs ι' cs' cs∧Rd t x H' cs'
theorem Ky {ι : Nat→Option Loc} {v v' : Value} (h : RV ι v v') : RVs ι [v] [v']:=.cons h .nil
def ZmT (P : Program) (enc : TypeId × Value→H0) (W : World) (fuel : Nat) (cs : List Value) (fs : List Field) : Prop:=
 ∀ f∈fs,∃ d,DataW.trod enc P W 0 (fun _=>true) true fuel f.type ((cs.drop f.offset).take (P.cellsOf f.type))=some d
theorem ZlZ : ∀ (t : Ty),
  (∀ {u : TypeId} {fuel : Nat} {cs : List Value} {d : DataW H0 × List MemPlace} {ι : Nat→Option Loc} {H : Za},t.fits P (.inl u)=true→DataW.trod enc P W 0 (fun _=>true) true fuel u cs=some d→Sim G (b0 W) ι H W→
   ZmE W G t ι H cs∧cs.length=t.size)∧
  (∀ {fs : List Field} {off fuel : Nat} {cs : List Value} {ι : Nat→Option Loc} {H : Za},t.fits P (.inr (fs,off))=true→ZmT P enc W fuel cs fs→cs.length=off+t.size→Sim G (b0 W) ι H W→
   ZmE W G t ι H (cs.drop off)):=by
 intro t
 induction t with
 | bool=>
  refine ⟨fun {u fuel cs d ι H} hf h hS=>?_,fun hf=>by simp [Ty.fits] at hf⟩
  simp only [Ty.fits] at hf
  cases fuel with
  | zero=>simp [DataW.trod] at h
  | succ n=>
   unfold DataW.trod at h
   split at hf
   ·rename_i hu
    rw [hu] at h
    split at h <;> simp_all
    exact ⟨⟨(_ : Bool),ι,H,_,trivial,.refl _,hS,.refl _,Ky (.sc rfl),rfl⟩,rfl⟩
   ·cases hf
 | int k=>
  refine ⟨fun {u fuel cs d ι H} hf h hS=>?_,fun hf=>by simp [Ty.fits] at hf⟩
  simp only [Ty.fits] at hf
  cases fuel with
  | zero=>simp [DataW.trod] at h
  | succ n=>
   unfold DataW.trod at h
   split at hf
   ·rename_i k' hu
    rw [hu] at h
    split at h <;> simp_all
    rename_i n' _
    exact ⟨⟨n',ι,H,_,h.1.2,.refl _,hS,.refl _,Ky (.sc rfl),rfl⟩,rfl⟩
   ·cases hf
 | str=>
  refine ⟨fun {u fuel cs d ι H} hf h hS=>?_,fun hf=>by simp [Ty.fits] at hf⟩
  simp only [Ty.fits] at hf
  cases fuel with
  | zero=>simp [DataW.trod] at h
  | succ n=>
   unfold DataW.trod at h
   split at hf
   ·rename_i hu
    rw [hu] at h
    split at h <;> simp_all
    exact ⟨⟨(_ : ByteArray),ι,H,_,h.1,.refl _,hS,.refl _,Ky (.sc rfl),rfl⟩,rfl⟩
   ·cases hf
 | slc e ih=>
  refine ⟨fun {u fuel cs d ι H} hf h hS=>?_,fun hf=>by simp [Ty.fits] at hf⟩
  simp only [Ty.fits] at hf
  split at hf
  ·rename_i u' hu
   simp only [Bool.and_eq_true] at hf
   obtain ⟨⟨hf,hsz⟩,h1⟩:=hf
   have hsz:=Nat.eq_of_beq_eq_true hsz
   have h1:=Nat.le_of_ble_eq_true h1
   rcases DataW.trod_slice hu h with ⟨rfl,_⟩ | ⟨a,len,cap,elems,rest,n,_,rfl,rfl,_,hl,hm,hlen,hel,hsp,_⟩
   ·exact ⟨⟨(none : Option (List e.den × List e.den)),ι,H,_,trivial,.refl _,hS,.refl _,Ky (.sc rfl),rfl⟩,rfl⟩
   ·obtain ⟨hrl,hre⟩:=hsp rfl
    refine ⟨?_,rfl⟩
    rcases Nat.eq_zero_or_pos cap with h0 | h0
    ·subst h0
     have : len=0:=by omega
     subst this
     refine ⟨(some ([],[]) : Option (List e.den × List e.den)),ι,H,_,⟨by simp,by simp,by simp⟩,.refl _,hS,.refl _,Ky (.slcE (id:=0) (o:=0) (j:=1) (by simp)),.inl ⟨rfl,rfl,rfl⟩⟩
    ·have each : ∀ i,i < cap→∃ cs d,W.cells? 0 (a.add (i * e.size)) e.size=some cs∧DataW.trod enc P W 0 (fun _=>true) true n u' cs=some d:=by
      intro i hi
      have : ∃ y,(W.cells? 0 (a.add (i * P.cellsOf u')) (P.cellsOf u')).bind (DataW.trod enc P W 0 (fun _=>true) true n u')=some y:=by
       rcases Nat.lt_or_ge i len with h | h
       ·exact ⟨elems[i],by rw [hel i h];exact List.getElem?_eq_getElem _⟩
       ·refine ⟨rest[i - len],?_⟩
        have:=hre (i - len) (by omega)
        rw [show len+(i - len)=i by omega] at this
        rw [this];exact List.getElem?_eq_getElem _
      obtain ⟨y,hy⟩:=this
      rw [hsz] at hy
      obtain ⟨cs,h1,h2⟩:=Option.bind_eq_some_iff.1 hy
      exact ⟨cs,y,h1,h2⟩
     obtain ⟨cs0,d0,hc0,_⟩:=each 0 h0
     obtain ⟨hsp0,c,el,fr,hb,_,_⟩:=Zf9 h1 hc0
     have hsp0:=hsp0 rfl
     have hrow : ∀ i,i < cap→a.off+(i+1) * e.size≤c.size∧∃ d,DataW.trod enc P W 0 (fun _=>true) true n u' ((c.toList.drop (a.off+i * e.size)).take e.size)=some d:=by
      intro i hi
      obtain ⟨cs,d,hc,ht⟩:=each i hi
      obtain ⟨_,c',el',fr',hb',h2,rfl⟩:=Zf9 h1 hc
      rw [hb] at hb';cases hb'
      exact ⟨by rw [Nat.add_mul];omega,d,ht⟩
     have key : ∀ k,k≤cap→∃ (xs : List e.den) (ι' : Nat→Option Loc) (H' : Za) (cells : List Value),xs.length=k∧cells.length=k * e.size∧(∀ x∈xs,e.wf x)∧Le ι ι'∧Sim G (b0 W) ι' H' W∧HLe H H'∧
       RVs ι' cells ((c.toList.drop a.off).take (k * e.size))∧∀ i x,xs[i]?=some x→Rd e x H' ((cells.drop (i * e.size)).take e.size):=by
      intro k
      induction k with
      | zero=>intro _;exact ⟨[],ι,H,[],rfl,by simp,by simp,.refl _,hS,.refl _,by simpa using RVs.nil,by simp⟩
      | succ k ihk=>
       intro hk
       obtain ⟨xs,ι1,H1,cells,hx,hcl,hwf,hle,hS1,hHl,hrv,hrd⟩:=ihk (by omega)
       obtain ⟨hsz1,d1,ht⟩:=hrow k (by omega)
       obtain ⟨⟨x,ι2,H2,cs2,hwx,hle2,hS2,hHl2,hrv2,hrd2⟩,_⟩:=ih.1 hf ht hS1
       have hl2 : cs2.length=e.size:=by rw [hrv2.1];simp;rw [Nat.add_mul] at hsz1;omega
       refine ⟨xs++[x],ι2,H2,cells++cs2,by simp [hx],by simp [hcl,hl2,Nat.add_mul],fun y hy=>?_,hle.trans hle2,hS2,hHl.trans hHl2,?_,fun i y hy=>?_⟩
       ·rcases List.mem_append.1 hy with hy | hy
        ·exact hwf y hy
        ·simp at hy;subst hy;exact hwx
       ·have hcat : (c.toList.drop a.off).take ((k+1) * e.size)=(c.toList.drop a.off).take (k * e.size)++(c.toList.drop (a.off+k * e.size)).take e.size:=by
         rw [Nat.add_mul,Nat.one_mul,List.take_add,List.drop_drop]
        rw [hcat]
        exact (hrv.mono hle2).append hrv2
       ·rcases Nat.lt_or_ge i k with hi | hi
        ·rw [List.getElem?_append_left (by omega)] at hy
         have hle : (i+1) * e.size≤k * e.size:=Nat.mul_le_mul_right _ (by omega)
         rw [Nat.add_mul] at hle
         rw [List.drop_append_of_le_length (by omega),List.take_append_of_le_length (by simp;omega)]
         exact (hrd i y hy).mono e hHl2
        ·rw [List.getElem?_append_right (by omega)] at hy
         have hik : i=k:=by
          rcases Nat.lt_or_ge (i - xs.length) 1 with h | h
          ·omega
          ·rw [List.getElem?_eq_none (by simpa using h)] at hy;cases hy
         subst hik
         rw [hx,Nat.sub_self] at hy
         simp at hy;subst hy
         rw [List.drop_append_of_le_length (by omega),List.drop_eq_nil_of_le (by omega),List.nil_append,List.take_of_length_le (by omega)]
         exact hrd2
     obtain ⟨xs,ι1,H1,cells,hx,hcl,hwf,hle,hS1,hHl,hrv,hrd⟩:=key cap (Nat.le_refl _)
     have htot : a.off+cap * e.size≤c.size:=by
      obtain ⟨h,_⟩:=hrow (cap - 1) (by omega)
      rwa [show cap - 1+1=cap by omega] at h
     have hblk : a.block < W.heap.size:=(Array.getElem?_eq_some_iff.1 hb).1
     have hones : ∀ v∈cells,oneCell v=true:=by
      intro v hv
      obtain ⟨i,hi,rfl⟩:=List.getElem_of_mem hv
      have hq : i / e.size < cap:=Nat.div_lt_of_lt_mul (by rw [Nat.mul_comm,← hcl];exact hi)
      have:=Rd.ones e (hrd (i / e.size) xs[i / e.size] (List.getElem?_eq_getElem _)) cells[i]
      refine this (List.mem_iff_getElem?.2 ⟨i % e.size,?_⟩)
      have hmod:=Nat.mod_lt i (show e.size > 0 by omega)
      rw [List.getElem?_take,if_pos hmod,List.getElem?_drop,Nat.mul_comm,Nat.div_add_mod]
      exact List.getElem?_eq_getElem hi
     have hS2:=hS1.add (o:=.cells cells e.size false true) (l:=⟨a.block,a.off,a.off+cap * e.size,e.size,false⟩)
      ⟨_,c,el,fr,Zm _ _ _,rfl,rfl,hb,by simp [hcl],htot,by rw [hcl];exact hrv.mono (ZF hS1 _),by simp,fun _=>hblk,hones⟩
      (fun i oi li hi hw hl heq=>by
       have:=((hS1.obj i oi hi).newer hw li hl).1
       rw [heq] at this
       simp only at this
       omega)
      (fun b hb=>by cases hb) (fun h=>by cases h)
     refine ⟨(some (xs.take len,xs.drop len) : Option (List e.den × List e.den)),_,_,[.slice (some ⟨H1.length,0,none⟩) len cap],⟨fun x hx=>hwf x (List.mem_of_mem_take hx),fun x hx=>hwf x (List.mem_of_mem_drop hx),?_⟩,hle.trans (ZF hS1 _),hS2,hHl.trans (.app _ _),Ky ?_,.inr ⟨H1.length,cells,?_,by simp,?_,fun i x hx=>?_⟩⟩
     ·simp;omega
     ·have : a=⟨a.block,a.off,none⟩:=by cases a;simp_all
      rw [this]
      exact .slc (l:=⟨a.block,a.off,a.off+cap * e.size,e.size,false⟩) (o:=0) (Zm _ _ _) hl (Nat.le_refl _) (fun _=>rfl) (by simp)
     ·simp [hx];omega
     ·simp [hx,hcl]
      rw [show min len cap+(cap - len)=cap by omega]
     ·rw [List.take_append_drop] at hx
      exact (hrd i x hx).mono e (.app _ _)
  ·cases hf
 | struct r ih=>
  refine ⟨fun {u fuel cs d ι H} hf h hS=>?_,fun hf=>by simp [Ty.fits] at hf⟩
  simp only [Ty.fits] at hf
  split at hf
  ·rename_i fs hu
   simp only [Bool.and_eq_true] at hf
   have hsz:=Nat.eq_of_beq_eq_true hf.2
   cases fuel with
   | zero=>simp [DataW.trod] at h
   | succ n=>
    unfold DataW.trod at h
    rw [hu] at h
    simp only at h
    split at h
    ·rename_i hlen
     obtain ⟨xs,hx,_⟩:=Option.map_eq_some_iff.1 h
     have hlen2 : cs.length=r.size:=by rw [hlen,hsz]
     refine ⟨?_,hlen2⟩
     have:=ih.2 (fuel:=n) (cs:=cs) (ι:=ι) (H:=H) hf.1 (fun f hfm=>?_) (by omega) hS
     ·rw [List.drop_zero] at this
      obtain ⟨x,ι',H',cs',h⟩:=this
      exact ⟨x,ι',H',cs',h⟩
     ·obtain ⟨i,hi⟩:=List.mem_iff_getElem?.1 hfm
      have h2:=mapM_some_get hx i f hi
      have hil : i < xs.length:=by
       rw [mapM_some_length hx];exact (List.getElem?_eq_some_iff.1 hi).1
      exact ⟨xs[i],by rw [h2];exact List.getElem?_eq_getElem hil⟩
    ·cases h
  ·cases hf
 | unit=>
  refine ⟨fun hf=>by simp [Ty.fits] at hf,fun {fs off fuel cs ι H} hf h hl hS=>?_⟩
  have : cs.drop off=[]:=List.drop_eq_nil_of_le (by simp [hl,Ty.size])
  rw [this]
  exact ⟨(),ι,H,[],trivial,.refl _,hS,.refl _,.nil,rfl⟩
 | pair f r ihf ihr=>
  refine ⟨fun hf=>by simp [Ty.fits] at hf,fun {fs off fuel cs ι H} hf h hl hS=>?_⟩
  cases fs with
  | nil=>simp [Ty.fits] at hf
  | cons fd fs=>
   simp only [Ty.fits,Bool.and_eq_true] at hf
   obtain ⟨⟨⟨h1,h2⟩,h3⟩,h4⟩:=hf
   have h2:=Nat.eq_of_beq_eq_true h2
   have h3:=Nat.eq_of_beq_eq_true h3
   obtain ⟨d,hd⟩:=h fd (by simp)
   rw [h2,h3] at hd
   obtain ⟨⟨x,ι1,H1,cs1,hwx,hle1,hS1,hHl1,hrv1,hrd1⟩,hl1⟩:=ihf.1 h1 hd hS
   have hl2 : cs.length=off+(f.size+r.size):=hl
   obtain ⟨y,ι2,H2,cs2,hwy,hle2,hS2,hHl2,hrv2,hrd2⟩:=ihr.2 (cs:=cs) h4 (fun g hg=>h g (by simp [hg])) (by omega) hS1
   have hc1 : cs1.length=f.size:=by rw [hrv1.1,hl1]
   refine ⟨(x,y),ι2,H2,cs1++cs2,⟨hwx,hwy⟩,hle1.trans hle2,hS2,hHl1.trans hHl2,?_,?_,?_⟩
   ·have : cs.drop off=(cs.drop off).take f.size++cs.drop (off+f.size):=by
     rw [← List.drop_drop,List.take_append_drop]
    rw [this]
    exact (hrv1.mono hle2).append hrv2
   ·rw [← hc1,List.take_left];exact hrd1.mono f hHl2
   ·rw [← hc1,List.drop_left];exact hrd2
end
end Go.Proofs.YtgfbgfafajiehaaGreatDoor.A
namespace Go.Proofs.YtgfbgfafajiehaaGreatDoor.A
set_option linter.unusedVariables false
set_option linter.unusedSimpArgs false
def Ty.val : Ty→List Value→Value
 | .struct _,cs=>.agg cs.toArray
 | _,cs=>cs.headD undef
def Ins : List Ty→Type
 | []=>Unit
 | t :: ts=>t.den × Ins ts
def ZgZ : (ts : List Ty)→Ins ts→Prop
 | [],_=>True
 | t :: ts,(x,xs)=>t.wf x∧ZgZ ts xs
def ZgX : (ts : List Ty)→Ins ts→Za→List Value→Prop
 | [],_,_,vs=>vs=[]
 | t :: ts,(x,xs),H,vs=>∃ cs rest,vs=t.val cs :: rest∧cs.length=t.size∧Rd t x H cs∧ZgX ts xs H rest
def QX (P : Program) : List Ty→List TypeId→Bool
 | [],[]=>true
 | t :: ts,u :: us=>t.fits P (.inl u) && P.readableRec u && Nat.blt u P.types.size && QX P ts us
 | _,_=>false
section
variable {P : Program} {H0 : Type} {enc : TypeId × Value→H0} {W : World} {G base : Nat}
theorem ZjL {t : Ty} {u : TypeId} {v : Value} (hf : t.fits P (.inl u)=true) (hv : Value.okWide P W .any base u v) : t.val v.cells.toList=v:=by
 unfold Value.okWide at hv
 cases t with
 | struct r=>
  simp only [Ty.fits] at hf
  split at hf
  ·rename_i fs hu
   rw [hu] at hv
   obtain ⟨cs,rfl,_⟩:=hv
   simp [Ty.val,Value.cells]
  ·cases hf
 | unit=>simp [Ty.fits] at hf
 | pair f r=>simp [Ty.fits] at hf
 | _=>
  simp only [Ty.fits] at hf
  split at hf
  ·rename_i hu
   rw [hu] at hv
   simp only at hv
   cases v <;> first | rfl | (simp [Cell.okWide,hu,Cell.ok] at hv)
  ·cases hf
theorem ZlW {t : Ty} {u : TypeId} {ι : Nat→Option Loc} {cs : List Value} {v : Value} (hf : t.fits P (.inl u)=true) (hv : t.val v.cells.toList=v) (h : RVs ι cs v.cells.toList) (hl : cs.length=t.size) : RV ι (t.val cs) v:=by
 rw [← hv]
 cases t with
 | struct r=>exact .aggL h
 | unit=>simp [Ty.fits] at hf
 | pair f r=>simp [Ty.fits] at hf
 | _=>
  match cs,hl with
  | [c],_=>
   obtain ⟨c',r',he,hc,_⟩:=h.cons_inv
   rw [he];exact hc
theorem Zjb : ∀ (tys : List Ty) {ts : List TypeId} {vs : List Value} {ds : List (DataW H0)} {ps : List MemPlace} {ι : Nat→Option Loc} {H : Za},QX P tys ts=true→
  DataW.TrodAll enc P W 0 (fun _=>true) true ts vs ds ps→(∀ (j : Nat) t v,ts[j]?=some t→vs[j]?=some v→Value.okWide P W .any base t v)→Sim G (b0 W) ι H W→
  ∃ xs ι' H' vs',ZgZ tys xs∧Le ι ι'∧Sim G (b0 W) ι' H' W∧HLe H H'∧RVs ι' vs' vs∧ZgX tys xs H' vs'∧ds.length=tys.length
 | [],ts,vs,ds,ps,ι,H,hf,h,hv,hS=>by
  cases ts with
  | nil=>cases vs <;> cases ds <;> simp [DataW.TrodAll] at h <;> exact ⟨(),ι,H,[],trivial,.refl _,hS,.refl _,.nil,rfl,rfl⟩
  | cons=>simp [QX] at hf
 | t :: tys,ts,vs,ds,ps,ι,H,hf,h,hv,hS=>by
  cases ts with
  | nil=>simp [QX] at hf
  | cons u ts=>
   cases vs with
   | nil=>cases ds <;> simp [DataW.TrodAll] at h
   | cons v vs=>
    cases ds with
    | nil=>simp [DataW.TrodAll] at h
    | cons d ds=>
     obtain ⟨p,q,⟨fuel,h1⟩,h2,_⟩:=h
     simp only [QX,Bool.and_eq_true] at hf
     obtain ⟨⟨x,ι1,H1,cs1,hwx,hle1,hS1,hHl1,hrv1,hrd1⟩,hl1⟩:=(ZlZ t).1 hf.1.1.1 h1 hS
     obtain ⟨xs,ι2,H2,vs2,hw2,hle2,hS2,hHl2,hrv2,hrd2,hl2⟩:=Zjb tys hf.2 h2 (fun j t' v' ht' hv'=>hv (j+1) t' v' (by simpa using ht') (by simpa using hv')) hS1
     have hval:=ZjL hf.1.1.1 (hv 0 u v rfl rfl)
     have hc1 : cs1.length=t.size:=by rw [hrv1.1,hl1]
     exact ⟨(x,xs),ι2,H2,t.val cs1 :: vs2,⟨hwx,hw2⟩,hle1.trans hle2,hS2,hHl1.trans hHl2,.cons ((ZlW hf.1.1.1 hval hrv1 hc1).mono hle2) hrv2,
      ⟨cs1,vs2,rfl,hc1,hrd1.mono t hHl2,hrd2⟩,by simp [hl2]⟩
def ι0 (G : Nat) : Nat→Option Loc:=fun g=>if g < G then some ⟨g,0,0,1,false⟩ else none
theorem ZmX : Sim G (b0 W) (ι0 G) (List.replicate G Zl.dead) W:=by
 have hd : ∀ (i : Nat) (o : Zl),(List.replicate G Zl.dead)[i]?=some o→o=.dead:=by
  intro i o h
  rw [List.getElem?_replicate] at h
  split at h
  ·exact (Option.some.inj h).symm
  ·cases h
 refine ⟨fun i o h=>?_,fun i j o1 o2 l1 l2 h1 _ w1=>?_,Nat.le_refl _,fun _ _=>rfl,fun i l h=>?_,fun g hg=>⟨⟨g,0,0,1,false⟩,by simp [ι0,hg],rfl,rfl⟩,⟨rfl,rfl,rfl⟩,fun b hb=>(by cases hb),fun j cs es nx l hj _=>by have:=hd j _ hj;cases this⟩
 ·rw [hd i o h];trivial
 ·rw [hd i o1 h1] at w1;simp [Zl.wr] at w1
 ·unfold ι0 at h
  split at h
  ·simpa using ‹i < G›
  ·cases h
theorem ZaM {ts : List TypeId} (hl : laidOutB P=true) {W' : World} (hb : Go.RowKit.Below W.heap.size W W') : ∀ (tys : List Ty) {ts : List TypeId} {vs : List Value} {ds : List (DataW H0)} {ps : List MemPlace},QX P tys ts=true→
  DataW.TrodAll enc P W 0 (fun _=>true) true ts vs ds ps→(∀ x∈ps,x.block < W.heap.size)→DataW.TrodAll enc P W' 0 (fun b=>decide (b < W.heap.size)) true ts vs ds ps
 | [],ts,vs,ds,ps,hf,h,_=>by
  cases ts with
  | nil=>cases vs <;> cases ds <;> simp [DataW.TrodAll] at h ⊢ <;> exact h
  | cons=>simp [QX] at hf
 | t :: tys,ts,vs,ds,ps,hf,h,hlt=>by
  cases ts with
  | nil=>simp [QX] at hf
  | cons u ts=>
   cases vs with
   | nil=>cases ds <;> simp [DataW.TrodAll] at h
   | cons v vs=>
    cases ds with
    | nil=>simp [DataW.TrodAll] at h
    | cons d ds=>
     obtain ⟨p,q,h1,h2,rfl⟩:=h
     simp only [QX,Bool.and_eq_true] at hf
     exact ⟨p,q,Go.RowKit.Below.trod hl hf.1.1.2 (by simpa using hf.1.2) h1 hb (fun x hx=>hlt x (by simp [hx])),ZaM (ts:=ts) hl hb tys hf.2 h2 (fun x hx=>hlt x (by simp [hx])),rfl⟩
end
end Go.Proofs.YtgfbgfafajiehaaGreatDoor.A

namespace Go.Proofs.YtgfbgfafajiehaaGreatDoor.A
set_option linter.unusedVariables false
set_option linter.unusedSimpArgs false
theorem Jw {P : Program} {prim : FuncId→Option (List Value→M Value)} {lvs : FuncId→List (Nat × List Nat)} {g : FuncId} {fn : Func} {lv : List (Nat × List Nat)} {n : Nat} {args : List Value} (hp : prim g=none) (hl : lvs g=lv) (hf : P.funcs[g]?=some fn) (hc : Jb fn=true) (hy : Nat.blt g Z0=true:=by rfl) :
  run P prim lvs (n+1) g args=JF P (run P prim lvs n) fn lv args:=by
 simp only [run,hp,hf,hc,hy,cond_true,hl]
theorem ZaG {body : List Value→M Out} {x : Out × Za} : ∀ {n m : Nat} {vs : List Value} {H : Za},Z6 body n vs H=some x→n≤m→Z6 body m vs H=some x
 | 0,_,_,_,h,_=>by cases h
 | n+1,0,_,_,_,hm=>by omega
 | n+1,m+1,vs,H,h,hm=>by
  simp only [Z6] at h ⊢
  cases hb : body vs H with
  | none=>rw [hb] at h;cases h
  | some q=>
   obtain ⟨o,H'⟩:=q
   rw [hb] at h
   cases o with
   | nrm vs'=>exact ZaG h (by omega)
   | ext j vs'=>exact h
   | ret v=>exact h
theorem Wi {body : List Value→M Out} {vs : List Value} {H : Za} {x : Out × Za} : Zd body vs H=some x↔∃ n,Z6 body n vs H=some x:=by
 constructor
 ·exact ZeI
 ·rintro ⟨n,hn⟩
  have hex : ∃ n,(Z6 body n vs H).isSome:=⟨n,by rw [hn];rfl⟩
  unfold Zd
  rw [dif_pos hex]
  have hc:=Classical.choose_spec hex
  obtain ⟨y,hy⟩:=Option.isSome_iff_exists.1 hc
  rw [hy]
  have h1:=ZaG hn (Nat.le_max_left n (Classical.choose hex))
  have h2:=ZaG hy (Nat.le_max_right n (Classical.choose hex))
  rw [h1] at h2;exact h2.symm
theorem Zhq (body : List Value→M Out) (vs : List Value) (H : Za) : Zd body vs H=
  match body vs H with
  | none=>none
  | some (.nrm vs',H')=>Zd body vs' H'
  | some (o,H')=>some (o,H'):=by
 apply Option.ext
 intro x
 rw [show (Zd body vs H=some x)=(∃ n,Z6 body n vs H=some x) from propext Wi]
 constructor
 ·rintro ⟨n,hn⟩
  cases n with
  | zero=>cases hn
  | succ n=>
   simp only [Z6] at hn
   cases hb : body vs H with
   | none=>rw [hb] at hn;cases hn
   | some q=>
    obtain ⟨o,H'⟩:=q
    rw [hb] at hn
    cases o with
    | nrm vs'=>exact Wi.2 ⟨n,hn⟩
    | ext j vs'=>exact hn
    | ret v=>exact hn
 ·intro h
  cases hb : body vs H with
  | none=>rw [hb] at h;cases h
  | some q=>
   obtain ⟨o,H'⟩:=q
   rw [hb] at h
   cases o with
   | nrm vs'=>
    obtain ⟨n,hn⟩:=Wi.1 h
    exact ⟨n+1,by simp only [Z6,hb];exact hn⟩
   | ext j vs'=>exact ⟨1,by simp only [Z6,hb];exact h⟩
   | ret v=>exact ⟨1,by simp only [Z6,hb];exact h⟩
theorem Zo {α β : Type} {m : M α} {k : α→M β} {H H' : Za} {a : α} (h : m H=some (a,H')) : bind m k H=k a H':=by
 simp only [bind,h]
theorem Zk8 {body : List Value→M Out} {vs vs' : List Value} {j : Nat} {H H' : Za} (h : body vs H=some (.ext j vs',H')) : Zd body vs H=some (.ext j vs',H'):=by
 rw [Zhq,h]
theorem ZlF {body : List Value→M Out} {vs : List Value} {v : Value} {H H' : Za} (h : body vs H=some (.ret v,H')) : Zd body vs H=some (.ret v,H'):=by
 rw [Zhq,h]
theorem Zg8 {β : Type} {m : M Out} {kn : List Value→M β} {kx : Nat→List Value→M β} {kr : Value→M β} {H H' : Za} {vs : List Value} (h : m H=some (.nrm vs,H')) : jn m kn kx kr H=kn vs H':=by
 simp only [jn,bind,h]
theorem ZmA {β : Type} {m : M Out} {kn : List Value→M β} {kx : Nat→List Value→M β} {kr : Value→M β} {H H' : Za} {j : Nat} {vs : List Value} (h : m H=some (.ext j vs,H')) : jn m kn kx kr H=kx j vs H':=by
 simp only [jn,bind,h]
theorem Zkx {β : Type} {m : M Out} {kn : List Value→M β} {kx : Nat→List Value→M β} {kr : Value→M β} {H H' : Za} {v : Value} (h : m H=some (.ret v,H')) : jn m kn kx kr H=kr v H':=by
 simp only [jn,bind,h]
end Go.Proofs.YtgfbgfafajiehaaGreatDoor.A
namespace Go.Proofs.YtgfbgfafajiehaaGreatDoor.A
set_option linter.unusedVariables false
set_option linter.unusedSimpArgs false
theorem w64 {n : Int} (h1 : -9223372036854775808≤n) (h2 : n≤9223372036854775807) : IntKind.i64.wrap n=n:=by
 have e : IntKind.i64.wrap n=if (n % 18446744073709551616 : Int)≥9223372036854775808 then n % 18446744073709551616 - 18446744073709551616 else n % 18446744073709551616:=by
  simp [IntKind.wrap,IntKind.bits,IntKind.signed]
 rw [e]
 split <;> omega
theorem ZmV (n : Int) : IntKind.u64.wrap n=n % 18446744073709551616:=by simp [IntKind.wrap,IntKind.bits,IntKind.signed]
theorem wu8 (n : Int) : IntKind.u8.wrap n=n % 256:=by simp [IntKind.wrap,IntKind.bits,IntKind.signed]
section
variable {β : Type} {H : Za} {id o es n : Nat} {cs : List Value} {g ro : Bool} {v x y : Value} {k : Value→M β}
section
variable {p : IntKind} {a b : Int}
end
end
theorem KA {H : Za} {id : Nat} {a b : Zl} (h : H[id]?=some a) : (H.set id b)[id]?=some b:=
 List.getElem?_set_self (List.getElem?_eq_some_iff.1 h).1
theorem Zl6 {H : Za} {a : Zl} : (H++[a])[H.length]?=some a:=by simp
end Go.Proofs.YtgfbgfafajiehaaGreatDoor.A
namespace Go.Proofs.YtgfbgfafajiehaaGreatDoor.A
set_option linter.unusedVariables false
set_option linter.unusedSimpArgs false
def ZhI {α β : Type} (x : Option (α × Za)) (k : α→M β) : Option (β × Za):=
 match x with
 | none=>none
 | some (a,H)=>k a H
def Zds {β : Type} (x : Option (Out × Za)) (kn : List Value→M β) (kx : Nat→List Value→M β) (kr : Value→M β) : Option (β × Za):=
 match x with
 | none=>none
 | some (.nrm vs,H)=>kn vs H
 | some (.ext j vs,H)=>kx j vs H
 | some (.ret v,H)=>kr v H
def rdk (o : Option Zl) (i : Nat) (H : Za) : Option (Value × Za):=
 match o with
 | some (.cells cs _ _ _)=>(cs[i]?).map (·,H)
 | some (.view cs _ nx)=>match H[nx]? with
  | some (.cells ds _ _ false)=>bif KU cs ds then (cs[i]?).map (·,H) else none
  | _=>none
 | _=>none
def Zlc (o : Option Zl) (i n : Nat) (H : Za) : Option (Value × Za):=
 match o with
 | some (.cells cs _ _ _)=>if i+n≤cs.length then some (.agg ((cs.drop i).take n).toArray,H) else none
 | _=>none
def wrk (o : Option Zl) (id i : Nat) (v : Value) (H : Za) : Option (Value × Za):=
 match o with
 | some (.cells cs es g false)=>if i < cs.length∧oneCell v then some (undef,H.set id (.cells (cs.set i v) es g false)) else none
 | _=>none
def Zlb (o : Option Zl) (id i n : Nat) (vs : Array Value) (H : Za) : Option (Value × Za):=
 match o with
 | some (.cells cs es g false)=>if i+n≤cs.length∧vs.size=n∧vs.toList.all oneCell then some (undef,H.set id (.cells (splice cs vs.toList i) es g false)) else none
 | _=>none
section
variable {α β : Type} {k : α→M β} {H : Za}
theorem Q8 {m : M α} : bind m k H=ZhI (m H) k:=by unfold bind ZhI;rfl
@[congr] theorem ZmS {x x' : Option (α × Za)} {k : α→M β} (h : x=x') : ZhI x k=ZhI x' k:=by rw [h]
theorem Q9 {a : α} : ZhI (some (a,H)) k=k a H:=rfl
theorem YK {m : M Out} {kn : List Value→M β} {kx : Nat→List Value→M β} {kr : Value→M β} : jn m kn kx kr H=Zds (m H) kn kx kr:=by
 unfold jn bind Zds
 cases m H with
 | none=>rfl
 | some p=>obtain ⟨o,H'⟩:=p;cases o <;> rfl
@[congr] theorem ZmR {x x' : Option (Out × Za)} {kn : List Value→M β} {kx : Nat→List Value→M β} {kr : Value→M β} (h : x=x') : Zds x kn kx kr=Zds x' kn kx kr:=by rw [h]
section
variable {kn : List Value→M β} {kx : Nat→List Value→M β} {kr : Value→M β}
theorem JH {vs : List Value} : Zds (some (.nrm vs,H)) kn kx kr=kn vs H:=rfl
theorem JP {j : Nat} {vs : List Value} : Zds (some (.ext j vs,H)) kn kx kr=kx j vs H:=rfl
theorem JJ {v : Value} : Zds (some (.ret v,H)) kn kx kr=kr v H:=rfl
end
theorem JD {t : Bool} {a b : M β} : cnd (.bool t) a b H=if t=true then a H else b H:=by cases t <;> rfl
theorem WS {a : α} : ret a H=some (a,H):=rfl
end
section
variable {H : Za} {id o : Nat}
theorem KO {a : Addr} : Ql (.pointer (some a)) H=some (.pointer (some a),H):=rfl
theorem ZbB {off : Nat} : fa off (.pointer (some ⟨id,o,none⟩)) H=some (.pointer (some ⟨id,o+off,none⟩),H):=rfl
theorem YB : ld1 (.pointer (some ⟨id,o,none⟩)) H=rdk H[id]? o H:=by unfold ld1 rdk;rfl
theorem WQ {n : Nat} : ldA n (.pointer (some ⟨id,o,none⟩)) H=Zlc H[id]? o n H:=by unfold ldA Zlc;rfl
theorem YI {v : Value} : st1 (.pointer (some ⟨id,o,none⟩)) v H=wrk H[id]? id o v H:=by unfold st1 wrk;rfl
theorem ZaH {n : Nat} {vs : Array Value} : stA n (.pointer (some ⟨id,o,none⟩)) (.agg vs) H=Zlb H[id]? id o n vs H:=by unfold stA Zlb;rfl
theorem W6 {cs : List Value} {es : Nat} {g ro : Bool} {i : Nat} : rdk (some (.cells cs es g ro)) i H=(cs[i]?).map (·,H):=rfl
theorem KY {cs : List Value} {es n : Nat} {g ro : Bool} {i : Nat} : Zlc (some (.cells cs es g ro)) i n H=if i+n≤cs.length then some (.agg ((cs.drop i).take n).toArray,H) else none:=rfl
theorem Zau {cs : List Value} {es : Nat} {g : Bool} {i : Nat} {v : Value} : wrk (some (.cells cs es g false)) id i v H=if i < cs.length∧oneCell v then some (undef,H.set id (.cells (cs.set i v) es g false)) else none:=rfl
theorem KN {cs : List Value} {es n : Nat} {g : Bool} {i : Nat} {vs : Array Value} : Zlb (some (.cells cs es g false)) id i n vs H=
  if i+n≤cs.length∧vs.size=n∧vs.toList.all oneCell then some (undef,H.set id (.cells (splice cs vs.toList i) es g false)) else none:=rfl
theorem Zag {es : Nat} {v : Value} : alc es v H=if v.cells.toList.all oneCell then some (.pointer (some ⟨H.length,0,none⟩),H++[.cells v.cells.toList es false false]) else none:=rfl
theorem Y3 {a : Option Addr} {n c : Nat} : Zk (.slice a n c) H=some (.int .i64 n,H):=rfl
theorem YY {s : ByteArray} : ZV (.string s) H=some (.int .i64 s.size,H):=rfl
theorem YU {q p : IntKind} {n : Int} : cvi q (.int p n) H=some (.int q (q.wrap n),H):=rfl
theorem KJ {t : Bool} {x y : Value} : pick (.bool t) x y H=some (bif t then x else y,H):=rfl
theorem Zad {t : Bool} : uop .not (.bool t) H=some (.bool (!t),H):=rfl
theorem Zd4 {p : IntKind} {a b : Int} : mxi true (.int p a) (.int p b) H=some (.int p (if b > a then b else a),H):=rfl
theorem ZdJ {p : IntKind} {a b : Int} : mxi false (.int p a) (.int p b) H=some (.int p (if b < a then b else a),H):=rfl
theorem Kl {n c sz : Nat} {q : IntKind} {i : Int} : ixa sz (.slice (some ⟨id,o,none⟩) n c) (.int q i) H=if 0≤i∧i < n then some (.pointer (some ⟨id,o+i.toNat * sz,none⟩),H) else none:=rfl
theorem KP {n sz : Nat} {q : IntKind} {i : Int} : K3 n sz (.pointer (some ⟨id,o,none⟩)) (.int q i) H=if 0≤i∧i < n then some (.pointer (some ⟨id,o+i.toNat * sz,none⟩),H) else none:=rfl
theorem WW {z : Value} {ps : List (Nat × Nat × Value)} : bld z ps H=(Ka z.cells.toList ps).map fun cs=>(.agg cs.toArray,H):=rfl
section
variable {p : IntKind} {a b : Int}
theorem Q4 : bop .int .add (.int p a) (.int p b) H=some (.int p (p.wrap (a+b)),H):=by simp [bop,Z1]
theorem Ki : bop .int .sub (.int p a) (.int p b) H=some (.int p (p.wrap (a - b)),H):=by simp [bop,Z1]
theorem WT : bop .int .mul (.int p a) (.int p b) H=some (.int p (p.wrap (a * b)),H):=by simp [bop,Z1]
theorem Zav : bop .int .quo (.int p a) (.int p b) H=if b=0 then none else some (.int p (p.wrap (a.tdiv b)),H):=by
 by_cases h : b=0
 ·simp [bop,Z1,h]
 ·have e : (b==0)=false:=by simpa using h
  simp [bop,Z1,h,e]
theorem Zal : bop .int .rem (.int p a) (.int p b) H=if b=0 then none else some (.int p (a.tmod b),H):=by
 by_cases h : b=0
 ·simp [bop,Z1,h]
 ·have e : (b==0)=false:=by simpa using h
  simp [bop,Z1,h,e]
theorem Kj : bop .int .eql (.int p a) (.int p b) H=some (.bool (a==b),H):=by simp [bop,Z1]
theorem W5 : bop .int .neq (.int p a) (.int p b) H=some (.bool (a !=b),H):=by simp [bop,Z1]
theorem Zaz : bop .int .lss (.int p a) (.int p b) H=some (.bool (decide (a < b)),H):=by simp [bop,Z1]
theorem Kk : bop .int .leq (.int p a) (.int p b) H=some (.bool (decide (a≤b)),H):=by simp [bop,Z1]
theorem Zar : bop .int .gtr (.int p a) (.int p b) H=some (.bool (decide (a > b)),H):=by simp [bop,Z1]
theorem YS : bop .int .geq (.int p a) (.int p b) H=some (.bool (decide (a≥b)),H):=by simp [bop,Z1]
end
theorem WP {a b : Bool} : bop .bool .eql (.bool a) (.bool b) H=some (.bool (a==b),H):=by simp [bop,eqv]
theorem Zaj {a b : Bool} : bop .bool .neq (.bool a) (.bool b) H=some (.bool (!(a==b)),H):=by simp [bop,eqv]
theorem Zay {a : Addr} : bop .ptr .eql (.pointer (some a)) (.pointer none) H=some (.bool false,H):=by simp [bop,eqv]
theorem ZaF {a : Addr} : bop .ptr .neq (.pointer (some a)) (.pointer none) H=some (.bool true,H):=by simp [bop,eqv]
theorem Zd0 {t u : Bool} {m : M Value} : gateV (.bool t) u m H=if t=u then m H else some (Y7,H):=by
 cases t <;> cases u <;> rfl
theorem WX {u : Bool} {m : M Value} : gateV Y7 u m H=some (Y7,H):=rfl
theorem g_r {t u : Bool} {n : Nat} {m : M (List Value)} : gate (.bool t) u n m H=if t=u then m H else some (List.replicate n Y7,H):=by
 cases t <;> cases u <;> rfl
theorem Zdu {u : Bool} {n : Nat} {m : M (List Value)} : gate Y7 u n m H=some (List.replicate n Y7,H):=rfl
end
end Go.Proofs.YtgfbgfafajiehaaGreatDoor.A
namespace Go.Proofs.YtgfbgfafajiehaaGreatDoor.A
set_option linter.unusedVariables false
set_option linter.unusedSimpArgs false
section
variable {P : Program} {G : Nat} {w0 : Zi} {ι : Nat→Option Loc} {H H1 : Za} {w : World} {v : Value}
end
end Go.Proofs.YtgfbgfafajiehaaGreatDoor.A
namespace Go.Proofs.YtgfbgfafajiehaaGreatDoor.A
set_option linter.unusedVariables false
set_option linter.unusedSimpArgs false
abbrev iv (n : Int) : Value:=.int .i64 n
abbrev pa (id o : Nat) : Value:=.pointer (some ⟨id,o,none⟩)
abbrev pt (id : Nat) : Value:=.pointer (some ⟨id,0,none⟩)
def But (id : Nat) (H H' : Za) : Prop:=∀ j,j≠id→H'[j]?=H[j]?
theorem But.set {id : Nat} {H : Za} {o : Zl} : But id H (H.set id o):=fun j hj=>List.getElem?_set_ne (Ne.symm hj)
theorem YH {a b : Value} {H : Za} : Zu (.tuple #[a,b]) 0 H=some (a,H):=rfl
theorem YC {a b : Value} {H : Za} : Zu (.tuple #[a,b]) 1 H=some (b,H):=rfl
theorem HLe.len {H H' : Za} (h : HLe H H') : H.length≤H'.length:=by
 rcases Nat.lt_or_ge H'.length H.length with h1 | h1
 ·have:=h H'.length _ (List.getElem?_eq_getElem h1)
  simp at this
 ·exact h1
theorem WL {H : Za} {id : Nat} {o : Zl} (h : H[id]?=some o) : id < H.length:=(List.getElem?_eq_some_iff.1 h).1
section
variable {H : Za} {p : IntKind} {a b : Int}
end
theorem YL {a b c : Value} {H : Za} : Zu (.tuple #[a,b,c]) 0 H=some (a,H):=rfl
theorem Yx {a b c : Value} {H : Za} : Zu (.tuple #[a,b,c]) 1 H=some (b,H):=rfl
theorem Yy {a b c : Value} {H : Za} : Zu (.tuple #[a,b,c]) 2 H=some (c,H):=rfl
end Go.Proofs.YtgfbgfafajiehaaGreatDoor.A
namespace Go.Proofs.YtgfbgfafajiehaaGreatDoor.A
set_option linter.unusedVariables false
set_option linter.unusedSimpArgs false
def Sl (H : Za) (sl : Value) (vs : List Value) : Prop:=∃ a c,sl=.slice a vs.length c∧(a=none→c=0)∧ZP 1 H sl=some vs
section
variable {H H' : Za} {sl v : Value} {vs : List Value}
theorem Sl.len (h : Sl H sl vs) : Zk sl H'=some (iv vs.length,H'):=by
 obtain ⟨a,c,rfl,_⟩:=h;rfl
theorem Sl.flen (h : Sl H sl vs) : flen sl=vs.length:=by
 obtain ⟨a,c,rfl,_⟩:=h;rfl
theorem Sl.fc (h : Sl H sl vs) : ZP 1 H sl=some vs:=by
 obtain ⟨a,c,rfl,_,h⟩:=h;exact h
def own1 (sl : Value) : Option Nat:=
 match sl with
 | .slice (some ⟨id,_,none⟩) _ _=>some id
 | _=>none
theorem Sl.keep (h : Sl H sl vs) (hk : ∀ id,own1 sl=some id→H'[id]?=H[id]?) : Sl H' sl vs:=by
 obtain ⟨a,c,rfl,h0,h⟩:=h
 refine ⟨a,c,rfl,h0,?_⟩
 unfold ZP at h ⊢
 split at h
 ·exact h
 ·rename_i id o n x e
  cases e
  rw [hk id rfl];exact h
 ·exact h
 ·rename_i e;cases e
 ·cases h
theorem Sl.at (h : Sl H sl vs) {i : Nat} (hi : vs[i]?=some v) (q : IntKind) :
  ∃ id o cs es g ro,(∀ H',ixa 1 sl (.int q i) H'=some (pa id o,H'))∧H[id]?=some (.cells cs es g ro)∧cs[o]?=some v∧own1 sl=some id:=by
 have hlt : i < vs.length:=(List.getElem?_eq_some_iff.1 hi).1
 obtain ⟨a,c,rfl,_,h⟩:=h
 unfold ZP at h
 split at h
 ·cases h;simp at hi
 ·rename_i id o n x e
  cases e
  split at h
  ·rename_i cs es g ro hid
   split at h
   ·rename_i hle
    have hvs:=Option.some.inj h
    refine ⟨id,o+i,cs,es,g,ro,fun H'=>?_,hid,?_,rfl⟩
    ·rw [Kl,if_pos (by omega)];simp
    ·rw [← hvs] at hi
     simp [List.getElem?_take,List.getElem?_drop] at hi
     exact hi.2
   ·cases h
  ·cases h
 ·rename_i id o j n x e
  split at h
  ·cases h;simp at hi
  ·cases h
 ·rename_i e;cases e
 ·cases h
theorem Sl.fun (h : Sl H sl vs) {ws : List Value} (h' : Sl H sl ws) : ws=vs:=by
 have:=h.fc.symm.trans h'.fc
 simpa using this.symm
theorem Sl.nil : Sl H (.slice none 0 0) []:=⟨none,0,rfl,fun _=>rfl,rfl⟩
theorem Sl.one {id : Nat} {es : Nat} {g ro : Bool} {c : Nat} (h : H[id]?=some (.cells vs es g ro)) : Sl H (.slice (some ⟨id,0,none⟩) vs.length c) vs:=by
 refine ⟨_,_,rfl,(fun e=>by cases e),?_⟩
 unfold ZP
 simp [h]
end
structure Qm (own : List Nat) (H : Za) (own' : List Nat) (H' : Za) : Prop where
 len : H.length≤H'.length
 keep : ∀ j,j < H.length→j∉own→H'[j]?=H[j]?
 own : ∀ j∈own',j∈own∨H.length≤j
theorem Qm.refl (own : List Nat) (H : Za) : Qm own H own H:=⟨Nat.le_refl _,fun _ _ _=>rfl,fun _ h=>.inl h⟩
theorem Qm.trans {o1 o2 o3 : List Nat} {H1 H2 H3 : Za} (h : Qm o1 H1 o2 H2) (h' : Qm o2 H2 o3 H3) : Qm o1 H1 o3 H3:=by
 refine ⟨Nat.le_trans h.len h'.len,fun j hj hn=>?_,fun j hj=>?_⟩
 ·rw [h'.keep j (by have:=h.len;omega) (fun h2=>?_),h.keep j hj hn]
  rcases h.own j h2 with h3 | h3
  ·exact hn h3
  ·omega
 ·rcases h'.own j hj with h2 | h2
  ·rcases h.own j h2 with h3 | h3
   ·exact .inl h3
   ·exact .inr h3
  ·exact .inr (by have:=h.len;omega)
theorem Qm.get {own own' : List Nat} {H H' : Za} (h : Qm own H own' H') {j : Nat} {o : Zl} (hj : H[j]?=some o) (hn : j∉own) : H'[j]?=some o:=by
 rw [h.keep j (WL hj) hn];exact hj
theorem HLe.step {H H' : Za} (h : HLe H H') : Qm [] H [] H':=
 ⟨h.len,fun j hj _=>by
  rw [List.getElem?_eq_getElem hj];exact h _ _ (List.getElem?_eq_getElem hj),fun _ h=>by cases h⟩
theorem Qm.hle {own' : List Nat} {H H' : Za} (h : Qm [] H own' H') : HLe H H':=fun i o hi=>h.get hi (by simp)
theorem Qm.more {own own' : List Nat} {H H' : Za} (h : Qm own H own' H') {o2 o2' : List Nat} (h1 : ∀ j∈own,j∈o2) (h2 : ∀ j∈o2',j∈o2∨j∈own'∨H.length≤j) : Qm o2 H o2' H':=
 ⟨h.len,fun j hj hn=>h.keep j hj fun h3=>hn (h1 j h3),fun j hj=>by
  rcases h2 j hj with h3 | h3 | h3
  ·exact .inl h3
  ·rcases h.own j h3 with h4 | h4
   ·exact .inl (h1 j h4)
   ·exact .inr h4
  ·exact .inr h3⟩
def Q3 (H : Za) (sl : Value) (vs : List Value) (own : List Nat) : Prop:=
 (vs=[]∧own=[]∧sl=.slice none 0 0)∨
 ∃ sid rest g,sl=.slice (some ⟨sid,0,none⟩) vs.length (vs.length+rest.length)∧own=[sid]∧H[sid]?=some (.cells (vs++rest) 1 g false)
section
variable {H H' : Za} {sl v : Value} {vs : List Value} {own : List Nat}
theorem Q3.nil : Q3 H (.slice none 0 0) [] []:=.inl ⟨rfl,rfl,rfl⟩
theorem Q3.rd (h : Q3 H sl vs own) : Sl H sl vs:=by
 rcases h with ⟨rfl,rfl,rfl⟩ | ⟨sid,rest,g,rfl,rfl,hid⟩
 ·exact Sl.nil
 ·refine ⟨_,_,rfl,(fun e=>by cases e),?_⟩
  unfold ZP
  simp [hid]
theorem Q3.lt (h : Q3 H sl vs own) : ∀ j∈own,j < H.length:=by
 rcases h with ⟨rfl,rfl,rfl⟩ | ⟨sid,rest,g,rfl,rfl,hid⟩
 ·simp
 ·intro j hj
  simp at hj
  subst hj
  exact WL hid
theorem Q3.keep (h : Q3 H sl vs own) (hk : ∀ j∈own,H'[j]?=H[j]?) : Q3 H' sl vs own:=by
 rcases h with ⟨rfl,rfl,rfl⟩ | ⟨sid,rest,g,rfl,rfl,hid⟩
 ·exact .inl ⟨rfl,rfl,rfl⟩
 ·exact .inr ⟨sid,rest,g,rfl,rfl,by rw [hk sid (by simp)];exact hid⟩
theorem Q3.step {o1 o2 : List Nat} (h : Q3 H sl vs own) (hs : Qm o1 H o2 H') (hn : ∀ j∈own,j∉o1) : Q3 H' sl vs own:=
 h.keep fun j hj=>hs.keep j (h.lt j hj) (hn j hj)
theorem Q3.own1 (h : Q3 H sl vs own) {id : Nat} (hi : A.own1 sl=some id) : own=[id]:=by
 rcases h with ⟨rfl,rfl,rfl⟩ | ⟨sid,rest,g,rfl,rfl,hid⟩
 ·cases hi
 ·cases hi;rfl
end
end Go.Proofs.YtgfbgfafajiehaaGreatDoor.A
namespace Go.Proofs.YtgfbgfafajiehaaGreatDoor.A
set_option linter.unusedVariables false
set_option linter.unusedSimpArgs false
theorem HLe.more {H0 H H' : Za} {own own' : List Nat} (h : HLe H0 H) (hs : Qm own H own' H') (ho : ∀ j∈own,H0.length≤j) : HLe H0 H'∧∀ j∈own',H0.length≤j:=by
 refine ⟨fun i o hi=>hs.get (h i o hi) fun hm=>?_,fun j hj=>?_⟩
 ·have:=ho i hm
  have:=WL hi
  omega
 ·rcases hs.own j hj with h1 | h1
  ·exact ho j h1
  ·have:=h.len;omega
end Go.Proofs.YtgfbgfafajiehaaGreatDoor.A
namespace Go.Proofs.YtgfbgfafajiehaaGreatDoor.A
set_option linter.unusedVariables false
set_option linter.unusedSimpArgs false
inductive Qj {α β : Type} (R : α→β→Prop) : List α→List β→Prop
 | nil : Qj R [] []
 | cons {a : α} {b : β} {l : List α} {m : List β} : R a b→Qj R l m→Qj R (a :: l) (b :: m)
section
variable {α β : Type} {R S : α→β→Prop} {l l' : List α} {m m' : List β} {a : α} {b : β}
theorem Qj.len (h : Qj R l m) : l.length=m.length:=by
 induction h with
 | nil=>rfl
 | cons _ _ ih=>simp [ih]
theorem Qj.imp (h : Qj R l m) (hi : ∀ a b,R a b→S a b) : Qj S l m:=by
 induction h with
 | nil=>exact .nil
 | cons h _ ih=>exact .cons (hi _ _ h) ih
theorem Qj.at (h : Qj R l m) {i : Nat} (hb : m[i]?=some b) : ∃ a,l[i]?=some a∧R a b:=by
 induction h generalizing i with
 | nil=>simp at hb
 | cons h _ ih=>
  cases i with
  | zero=>
   simp only [List.getElem?_cons_zero,Option.some.injEq] at hb
   subst hb
   exact ⟨_,rfl,h⟩
  | succ i=>exact ih (by simpa using hb)
theorem Qj.atL (h : Qj R l m) {i : Nat} (ha : l[i]?=some a) : ∃ b,m[i]?=some b∧R a b:=by
 induction h generalizing i with
 | nil=>simp at ha
 | cons h _ ih=>
  cases i with
  | zero=>
   simp only [List.getElem?_cons_zero,Option.some.injEq] at ha
   subst ha
   exact ⟨_,rfl,h⟩
  | succ i=>exact ih (by simpa using ha)
theorem Qj.set (h : Qj R l m) {i : Nat} (hr : R a b) : Qj R (l.set i a) (m.set i b):=by
 induction h generalizing i with
 | nil=>exact .nil
 | cons h h2 ih=>
  cases i with
  | zero=>exact .cons hr h2
  | succ i=>exact .cons h ih
theorem Qj.app (h : Qj R l m) (h' : Qj R l' m') : Qj R (l++l') (m++m'):=by
 induction h with
 | nil=>exact h'
 | cons h _ ih=>exact .cons h ih
theorem Qj.one (h : R a b) : Qj R [a] [b]:=.cons h .nil
theorem Qj.mem (h : Qj R l m) (ha : a∈l) : ∃ b∈m,R a b:=by
 obtain ⟨i,hi,rfl⟩:=List.getElem_of_mem ha
 obtain ⟨b,hb,hr⟩:=h.atL (List.getElem?_eq_getElem hi)
 exact ⟨b,List.mem_of_getElem? hb,hr⟩
end
theorem Zab {es : Nat} : ∀ {rows : List (List Value)},(∀ r∈rows,r.length=es)→rows.flatten.length=rows.length * es
 | [],_=>by simp
 | r :: rows,h=>by
  rw [List.flatten_cons,List.length_append,h r (by simp),Zab fun x hx=>h x (by simp [hx]),List.length_cons,Nat.add_mul]
  omega
theorem Zcc {es : Nat} : ∀ {rows : List (List Value)} {i : Nat} {r : List Value} {rest : List Value},(∀ r∈rows,r.length=es)→rows[i]?=some r→((rows.flatten++rest).drop (i * es)).take es=r
 | [],_,_,_,_,h=>by simp at h
 | q :: rows,0,r,rest,h,hi=>by
  have : q=r:=by simpa using hi
  subst this
  have:=h q (by simp)
  simp [← this]
 | q :: rows,i+1,r,rest,h,hi=>by
  have hq:=h q (by simp)
  rw [List.flatten_cons,List.append_assoc,show (i+1) * es=q.length+i * es by rw [hq,Nat.add_mul];omega,List.drop_append]
  simp only [List.drop_eq_nil_of_le (Nat.le_add_right _ _),List.nil_append,Nat.add_sub_cancel_left]
  exact Zcc (fun x hx=>h x (by simp [hx])) (by simpa using hi)
def SlN (es : Nat) (H : Za) (sl : Value) (rows : List (List Value)) : Prop:=
 ∃ a c,sl=.slice a rows.length c∧(a=none→c=0)∧ZP es H sl=some rows.flatten∧∀ r∈rows,r.length=es
section
variable {H H' : Za} {sl v : Value} {rows : List (List Value)} {es : Nat}
theorem SlN.len (h : SlN es H sl rows) : Zk sl H'=some (iv rows.length,H'):=by
 obtain ⟨a,c,rfl,_⟩:=h;rfl
theorem SlN.flen (h : SlN es H sl rows) : flen sl=rows.length:=by
 obtain ⟨a,c,rfl,_⟩:=h;rfl
theorem SlN.fc (h : SlN es H sl rows) : ZP es H sl=some rows.flatten:=by
 obtain ⟨a,c,rfl,_,h,_⟩:=h;exact h
theorem SlN.ok (h : SlN es H sl rows) : ∀ r∈rows,r.length=es:=by
 obtain ⟨a,c,rfl,_,_,h⟩:=h;exact h
theorem SlN.one (h : SlN es H sl rows) : oneCell sl=true∧sl.cells=#[sl]:=by
 obtain ⟨a,c,rfl,_⟩:=h;exact ⟨rfl,rfl⟩
theorem SlN.keep (h : SlN es H sl rows) (hk : ∀ id,own1 sl=some id→H'[id]?=H[id]?) : SlN es H' sl rows:=by
 obtain ⟨a,c,rfl,h0,h,hr⟩:=h
 refine ⟨a,c,rfl,h0,?_,hr⟩
 unfold ZP at h ⊢
 split at h
 ·exact h
 ·rename_i id o n x e
  cases e
  rw [hk id rfl];exact h
 ·exact h
 ·rename_i e;cases e
 ·cases h
theorem SlN.at (h : SlN es H sl rows) {i : Nat} {r : List Value} (hi : rows[i]?=some r) (he : 0 < es) (q : IntKind) :
  ∃ id o cs e g ro,(∀ H',ixa es sl (.int q i) H'=some (pa id o,H'))∧H[id]?=some (.cells cs e g ro)∧(cs.drop o).take es=r∧o+es≤cs.length∧own1 sl=some id:=by
 have hlt : i < rows.length:=(List.getElem?_eq_some_iff.1 hi).1
 obtain ⟨a,c,rfl,_,h,hr⟩:=h
 have hfl:=Zab hr
 unfold ZP at h
 split at h
 ·have h:=Option.some.inj h
  have h0 : rows.flatten.length=0:=by rw [← h];rfl
  rw [hfl] at h0
  have:=Nat.mul_pos (show 0 < rows.length by omega) he
  omega
 ·rename_i id o n x e
  cases e
  split at h
  ·rename_i cs es' g ro hid
   split at h
   ·rename_i hle
    have hvs:=Option.some.inj h
    have hie : i * es+es≤rows.length * es:=by
     have:=Nat.mul_le_mul_right es (show i+1≤rows.length by omega)
     rw [Nat.add_mul] at this;omega
    refine ⟨id,o+i * es,cs,es',g,ro,fun H'=>?_,hid,?_,by omega,rfl⟩
    ·rw [Kl,if_pos (by omega)];simp
    ·have:=Zcc (rest:=[]) hr hi
     rw [List.append_nil,← hvs,List.drop_take,List.drop_drop,List.take_take,Nat.min_eq_left (Nat.le_sub_of_add_le (by omega))] at this
     exact this
   ·cases h
  ·cases h
 ·rename_i id o j n x e
  cases e
  split at h
  ·rename_i h0
   omega
  ·cases h
 ·rename_i e;cases e
 ·cases h
theorem SlN.fun (h : SlN es H sl rows) {rows' : List (List Value)} (h' : SlN es H sl rows') (he : 0 < es) : rows'=rows:=by
 have e1:=h.fc.symm.trans h'.fc
 have e2 : rows.length=rows'.length:=by
  have:=h.flen;rw [h'.flen] at this;exact this.symm
 have e3:=Option.some.inj e1
 apply List.ext_getElem e2.symm
 intro i h1 h2
 have a1:=Zcc (rest:=[]) h.ok (List.getElem?_eq_getElem h2)
 have a2:=Zcc (rest:=[]) h'.ok (List.getElem?_eq_getElem h1)
 rw [List.append_nil] at a1 a2
 rw [← a1,← a2,e3]
theorem SlN.nil : SlN es H (.slice none 0 0) []:=⟨none,0,rfl,fun _=>rfl,rfl,by simp⟩
end
def Jv (es : Nat) (H : Za) (sl : Value) (rows : List (List Value)) (own : List Nat) : Prop:=
 (rows=[]∧own=[]∧sl=.slice none 0 0)∨
 ∃ sid rest r g,sl=.slice (some ⟨sid,0,none⟩) rows.length (rows.length+r)∧own=[sid]∧H[sid]?=some (.cells (rows.flatten++rest) es g false)∧rest.length=r * es∧∀ x∈rows,x.length=es
section
variable {H H' : Za} {sl v : Value} {rows : List (List Value)} {es : Nat} {own : List Nat}
theorem Jv.nil : Jv es H (.slice none 0 0) [] []:=.inl ⟨rfl,rfl,rfl⟩
theorem Jv.rd (h : Jv es H sl rows own) : SlN es H sl rows:=by
 rcases h with ⟨rfl,rfl,rfl⟩ | ⟨sid,rest,r,g,rfl,rfl,hid,hr,hx⟩
 ·exact SlN.nil
 ·refine ⟨_,_,rfl,(fun e=>by cases e),?_,hx⟩
  unfold ZP
  simp only [hid]
  rw [if_pos (by rw [List.length_append,Zab hx];omega),← Zab hx]
  simp
theorem Jv.lt (h : Jv es H sl rows own) : ∀ j∈own,j < H.length:=by
 rcases h with ⟨rfl,rfl,rfl⟩ | ⟨sid,rest,r,g,rfl,rfl,hid,_⟩
 ·simp
 ·intro j hj
  simp at hj
  subst hj
  exact WL hid
theorem Jv.keep (h : Jv es H sl rows own) (hk : ∀ j∈own,H'[j]?=H[j]?) : Jv es H' sl rows own:=by
 rcases h with ⟨rfl,rfl,rfl⟩ | ⟨sid,rest,r,g,rfl,rfl,hid,hr⟩
 ·exact .inl ⟨rfl,rfl,rfl⟩
 ·exact .inr ⟨sid,rest,r,g,rfl,rfl,by rw [hk sid (by simp)];exact hid,hr⟩
theorem Jv.step {o1 o2 : List Nat} (h : Jv es H sl rows own) (hs : Qm o1 H o2 H') (hn : ∀ j∈own,j∉o1) : Jv es H' sl rows own:=
 h.keep fun j hj=>hs.keep j (h.lt j hj) (hn j hj)
theorem Jv.own1 (h : Jv es H sl rows own) {id : Nat} (hi : A.own1 sl=some id) : own=[id]:=by
 rcases h with ⟨rfl,rfl,rfl⟩ | ⟨sid,rest,r,g,rfl,rfl,hid,_⟩
 ·cases hi
 ·cases hi;rfl
theorem Jv.one (h : Jv es H sl rows own) : oneCell sl=true∧sl.cells=#[sl]:=h.rd.one
end
end Go.Proofs.YtgfbgfafajiehaaGreatDoor.A
namespace Go.Proofs.YtgfbgfafajiehaaGreatDoor.A
set_option linter.unusedVariables false
set_option linter.unusedSimpArgs false
theorem ZdL {id o : Nat} {H : Za} : fa o (pt id) H=some (pa id o,H):=by rw [ZbB,Nat.zero_add]
def Zr (p : List UInt8) : Value:=.string ⟨p.toArray⟩
section
variable {H : Za} {a b : List UInt8}
theorem Zjk : (⟨a.toArray⟩ : ByteArray).size=a.length:=by simp [ByteArray.size]
theorem ZmC : (⟨a.toArray⟩ : ByteArray)++⟨b.toArray⟩=⟨(a++b).toArray⟩:=by
 apply ByteArray.ext
 simp
theorem K0 (h : a.length+b.length≤9223372036854775807) : bop .str .add (Zr a) (Zr b) H=some (Zr (a++b),H):=by
 unfold Zr bop sop
 simp only [Zjk,decide_eq_true h,cond_true,ZmC,Option.map_some]
theorem KQ : ZV (Zr a) H=some (iv a.length,H):=by
 unfold Zr
 rw [YY,Zjk]
end
end Go.Proofs.YtgfbgfafajiehaaGreatDoor.A
namespace Go.Proofs.YtgfbgfafajiehaaGreatDoor.A
set_option linter.unusedVariables false
set_option linter.unusedSimpArgs false
section
variable {β : Type}
def c0 (k : β) (vs : List Value) : β:=k
def c1 (k : Value→β) (vs : List Value) : β:=k (vs.headD undef)
def c2 (k : Value→Value→β) (vs : List Value) : β:=c1 (k (vs.headD undef)) vs.tail
def c3 (k : Value→Value→Value→β) (vs : List Value) : β:=c2 (k (vs.headD undef)) vs.tail
def c4 (k : Value→Value→Value→Value→β) (vs : List Value) : β:=c3 (k (vs.headD undef)) vs.tail
def c5 (k : Value→Value→Value→Value→Value→β) (vs : List Value) : β:=c4 (k (vs.headD undef)) vs.tail
def c6 (k : Value→Value→Value→Value→Value→Value→β) (vs : List Value) : β:=c5 (k (vs.headD undef)) vs.tail
def c7 (k : Value→Value→Value→Value→Value→Value→Value→β) (vs : List Value) : β:=c6 (k (vs.headD undef)) vs.tail
def c8 (k : Value→Value→Value→Value→Value→Value→Value→Value→β) (vs : List Value) : β:=c7 (k (vs.headD undef)) vs.tail
def c9 (k : Value→Value→Value→Value→Value→Value→Value→Value→Value→β) (vs : List Value) : β:=c8 (k (vs.headD undef)) vs.tail
def c10 (k : Value→Value→Value→Value→Value→Value→Value→Value→Value→Value→β) (vs : List Value) : β:=c9 (k (vs.headD undef)) vs.tail
def c11 (k : Value→Value→Value→Value→Value→Value→Value→Value→Value→Value→Value→β) (vs : List Value) : β:=c10 (k (vs.headD undef)) vs.tail
def c12 (k : Value→Value→Value→Value→Value→Value→Value→Value→Value→Value→Value→Value→β) (vs : List Value) : β:=c11 (k (vs.headD undef)) vs.tail
def noN {α : Type} (vs : List Value) : M α:=fail
def noX {α : Type} (j : Nat) (vs : List Value) : M α:=fail
def Zt (v : Value) : M Out:=ret (.ret v)
def xk {α : Type} (i : Nat) (k : List Value→M α) (r : Nat→List Value→M α) (j : Nat) (vs : List Value) : M α:=bif Nat.beq j i then k vs else r j vs
variable {v0 v1 v2 v3 v4 v5 v6 v7 v8 v9 v10 v11 v12 v13 v14 v15 v16 v17 v18 v19 : Value}
theorem Zdv {k : β} {vs : List Value} : c0 k vs=k:=rfl
theorem ZdV {k : Value→β} : c1 k [v0]=k v0:=rfl
theorem Wq {k : Value→Value→β} : c2 k [v0,v1]=k v0 v1:=rfl
theorem Zdg {k : Value→Value→Value→β} : c3 k [v0,v1,v2]=k v0 v1 v2:=rfl
theorem ZdF {k : Value→Value→Value→Value→β} : c4 k [v0,v1,v2,v3]=k v0 v1 v2 v3:=rfl
theorem Zdc {k : Value→Value→Value→Value→Value→β} : c5 k [v0,v1,v2,v3,v4]=k v0 v1 v2 v3 v4:=rfl
theorem ZdS {k : Value→Value→Value→Value→Value→Value→β} : c6 k [v0,v1,v2,v3,v4,v5]=k v0 v1 v2 v3 v4 v5:=rfl
theorem Zb3 {k : Value→Value→Value→Value→Value→Value→Value→β} : c7 k [v0,v1,v2,v3,v4,v5,v6]=k v0 v1 v2 v3 v4 v5 v6:=rfl
theorem ZdE {k : Value→Value→Value→Value→Value→Value→Value→Value→β} : c8 k [v0,v1,v2,v3,v4,v5,v6,v7]=k v0 v1 v2 v3 v4 v5 v6 v7:=rfl
theorem Zde {k : Value→Value→Value→Value→Value→Value→Value→Value→Value→β} : c9 k [v0,v1,v2,v3,v4,v5,v6,v7,v8]=k v0 v1 v2 v3 v4 v5 v6 v7 v8:=rfl
theorem ZaE {k : Value→Value→Value→Value→Value→Value→Value→Value→Value→Value→β} : c10 k [v0,v1,v2,v3,v4,v5,v6,v7,v8,v9]=k v0 v1 v2 v3 v4 v5 v6 v7 v8 v9:=rfl
theorem Zah {k : Value→Value→Value→Value→Value→Value→Value→Value→Value→Value→Value→β} : c11 k [v0,v1,v2,v3,v4,v5,v6,v7,v8,v9,v10]=k v0 v1 v2 v3 v4 v5 v6 v7 v8 v9 v10:=rfl
theorem Zax {k : Value→Value→Value→Value→Value→Value→Value→Value→Value→Value→Value→Value→β} : c12 k [v0,v1,v2,v3,v4,v5,v6,v7,v8,v9,v10,v11]=k v0 v1 v2 v3 v4 v5 v6 v7 v8 v9 v10 v11:=rfl
theorem Y2 {α : Type} {i : Nat} {k : List Value→M α} {r : Nat→List Value→M α} {vs : List Value} : xk i k r i vs=k vs:=by
 unfold xk
 rw [Nat.beq_refl,cond_true]
end
section
variable {H H' : Za} {sl v u : Value} {vs : List Value} {own : List Nat} {i : Nat}
end
theorem Q3.one {H : Za} {sl : Value} {vs : List Value} {own : List Nat} (h : Q3 H sl vs own) : oneCell sl=true∧sl.cells=#[sl]:=by
 rcases h with ⟨_,_,rfl⟩ | ⟨_,_,_,rfl,_,_⟩ <;> exact ⟨rfl,rfl⟩
theorem Q3.new {k : Nat} {z : Value} {H : Za} {id : Nat} (h : H[id]?=some (.cells (List.replicate k z) 1 false false)) : Q3 H (.slice (some ⟨id,0,none⟩) k k) (List.replicate k z) [id]:=
 .inr ⟨id,[],false,by simp,rfl,by simpa using h⟩
end Go.Proofs.YtgfbgfafajiehaaGreatDoor.A

namespace Go.Proofs.YtgfbgfafajiehaaGreatDoor.A
set_option linter.unusedVariables false
set_option linter.unusedSimpArgs false
def Ref {β : Type} (m m' : M β) : Prop:=∀ H x,m H=some x→m' H=some x
theorem Ref.rfl {β : Type} {m : M β} : Ref m m:=fun _ _ h=>h
theorem Ref.fail {β : Type} {m : M β} : Ref fail m:=fun _ _ h=>by cases h
theorem Ref.bind {α β : Type} {m m' : M α} {k k' : α→M β} (h : Ref m m') (hk : ∀ v,Ref (k v) (k' v)) : Ref (A.bind m k) (A.bind m' k'):=by
 intro H x e
 obtain ⟨v,H1,h1,h2⟩:=bind_some e
 unfold A.bind
 rw [h _ _ h1]
 exact hk v _ _ h2
theorem Ref.appM {β : Type} {m m' : OpR} {k k' : Value→M β} (h : (∃ v,m=.val v∧m'=.val v)∨∃ a b,m=.cmp a∧m'=.cmp b∧Ref a b) (hk : ∀ v,Ref (k v) (k' v)) : Ref (A.appM m k) (A.appM m' k'):=by
 rcases h with ⟨v,rfl,rfl⟩ | ⟨a,b,rfl,rfl,h⟩
 ·exact hk v
 ·exact h.bind hk
theorem Ref.cnd {β : Type} {g : Value} {a a' b b' : M β} (ha : Ref a a') (hb : Ref b b') : Ref (A.cnd g a b) (A.cnd g a' b'):=by
 unfold A.cnd
 split
 ·cases ‹Bool›
  ·exact hb
  ·exact ha
 ·exact .rfl
theorem Ref.cond {β : Type} {g : Bool} {a a' b b' : M β} (ha : Ref a a') (hb : Ref b b') : Ref (bif g then a else b) (bif g then a' else b'):=by
 cases g
 ·exact hb
 ·exact ha
theorem Ref.jn {β : Type} {m m' : M Out} {kn kn' : List Value→M β} {kx kx' : Nat→List Value→M β} {kr kr' : Value→M β} (h : Ref m m') (hn : ∀ vs,Ref (kn vs) (kn' vs)) (hx : ∀ j vs,Ref (kx j vs) (kx' j vs)) (hr : ∀ v,Ref (kr v) (kr' v)) : Ref (A.jn m kn kx kr) (A.jn m' kn' kx' kr'):=by
 refine h.bind fun o=>?_
 cases o with
 | nrm vs=>exact hn vs
 | ext j vs=>exact hx j vs
 | ret v=>exact hr v
theorem Ref.gate {g : Value} {w : Bool} {n : Nat} {m m' : M (List Value)} (h : Ref m m') : Ref (A.gate g w n m) (A.gate g w n m'):=by
 unfold A.gate
 split
 ·exact h.cond .rfl
 ·exact .rfl
 ·exact .rfl
theorem Ref.gateV {g : Value} {w : Bool} {m m' : M Value} (h : Ref m m') : Ref (A.gateV g w m) (A.gateV g w m'):=by
 unfold A.gateV
 split
 ·exact h.cond .rfl
 ·exact .rfl
 ·exact .rfl
theorem Ref.iter {b b' : List Value→M Out} (h : ∀ vs,Ref (b vs) (b' vs)) (K : Nat) (vs : List Value) : Ref (Z6 b K vs) (Zd b' vs):=by
 have hi : ∀ (K : Nat) vs,Ref (Z6 b K vs) (Z6 b' K vs):=by
  intro K
  induction K with
  | zero=>exact fun _=>.rfl
  | succ K ih=>
   intro vs H x e
   simp only [Z6] at e ⊢
   cases e1 : b vs H with
   | none=>rw [e1] at e;cases e
   | some p=>
    rw [e1] at e
    rw [h vs _ _ e1]
    obtain ⟨o,H1⟩:=p
    cases o with
    | nrm vs'=>exact ih vs' _ _ e
    | ext j vs'=>exact e
    | ret v=>exact e
 exact fun H x e=>Wi.2 ⟨K,hi K vs _ _ e⟩
def Zhh (f : Value→Value→Bool) : List Value→List Value→Bool
 | [],[]=>true
 | a :: zs,b :: bs=>f a b && Zhh f zs bs
 | _,_=>false
theorem ZfM {f : Value→Value→Bool} (hf : ∀ a b,f a b=true→a=b) : ∀ {zs bs : List Value},Zhh f zs bs=true→zs=bs
 | [],[],_=>rfl
 | a :: zs,b :: bs,h=>by
  simp only [Zhh,Bool.and_eq_true] at h
  rw [hf _ _ h.1,ZfM hf h.2]
 | [],_ :: _,h=>by cases h
 | _ :: _,[],h=>by cases h
def ZmJ (f : Value→Value→Bool) (x y : Value) : Bool:=
 match x,y with
 | .agg a,.agg b=>Zhh f a.toList b.toList
 | .tuple a,.tuple b=>Zhh f a.toList b.toList
 | .iface t a,.iface u b=>Nat.beq t u && f a b
 | .int k a,.int l b=>decide (k=l) && decide (a=b)
 | .bool a,.bool b=>a==b
 | .string a,.string b=>decide (a=b)
 | .pointer a,.pointer b=>decide (a=b)
 | .slice a l c,.slice b m d=>decide (a=b) && (Nat.beq l m && Nat.beq c d)
 | .map a,.map b=>decide (a=b)
 | .nilFunc,.nilFunc=>true
 | .nilIface,.nilIface=>true
 | _,_=>false
def eqW : Nat→Value→Value→Bool
 | 0=>fun _ _=>false
 | n+1=>ZmJ (eqW n)
theorem ZeX : ∀ (n : Nat) (a b : Value),eqW n a b=true→a=b
 | 0,_,_,h=>by simp [eqW] at h
 | n+1,a,b,h=>by
  simp only [eqW] at h
  unfold ZmJ at h
  split at h
  ·rw [Array.ext' (ZfM (ZeX n) h)]
  ·rw [Array.ext' (ZfM (ZeX n) h)]
  ·simp only [Bool.and_eq_true] at h
   rw [Nat.eq_of_beq_eq_true h.1,ZeX n _ _ h.2]
  ·simp only [Bool.and_eq_true,decide_eq_true_eq] at h;rw [h.1,h.2]
  ·rw [beq_iff_eq.1 h]
  ·rw [of_decide_eq_true h]
  ·rw [of_decide_eq_true h]
  ·simp only [Bool.and_eq_true,decide_eq_true_eq] at h
   rw [h.1,Nat.eq_of_beq_eq_true h.2.1,Nat.eq_of_beq_eq_true h.2.2]
  ·rw [of_decide_eq_true h]
  ·rfl
  ·rfl
  ·cases h
def Zkb {β : Type} (u v : Value) (m : M β) : M β:=bif eqW 9 u v then m else fail
theorem ZkO {β : Type} {u v : Value} {m m' : M β} (h : Ref m m') : Ref (Zkb u v m) (same u v m'):=by
 intro H x e
 unfold Zkb at e
 cases hq : eqW 9 u v with
 | false=>rw [hq] at e;cases e
 | true=>
  rw [hq] at e
  unfold same
  rw [if_pos (ZeX 9 _ _ hq)]
  exact h _ _ e
def ZhT {β : Type} : List (Nat × M Value × Value)→M β→M β
 | [],m=>m
 | q :: qs,m=>bind q.2.1 fun u=>Zkb u q.2.2 (ZhT qs m)
def Za2 : List (Nat × M Value × Value)→List (Nat × M Value × Value)→Prop
 | [],[]=>True
 | a :: zs,b :: bs=>a.1=b.1∧Ref a.2.1 b.2.1∧a.2.2=b.2.2∧Za2 zs bs
 | _,_=>False
theorem ZeT {β : Type} {m m' : M β} (h : Ref m m') : ∀ {qs qs' : List (Nat × M Value × Value)},Za2 qs qs'→Ref (ZhT qs m) (ZeH qs' m')
 | [],[],_=>h
 | a :: zs,b :: bs,hq=>by
  refine hq.2.1.bind fun u=>?_
  rw [hq.2.2.1]
  exact ZkO (ZeT h hq.2.2.2)
 | [],_ :: _,hq=>hq.elim
 | _ :: _,[],hq=>hq.elim
theorem Za2.filter (p : Nat→Bool) : ∀ {qs qs' : List (Nat × M Value × Value)},Za2 qs qs'→Za2 (qs.filter fun q=>p q.1) (qs'.filter fun q=>p q.1)
 | [],[],_=>trivial
 | a :: zs,b :: bs,hq=>by
  obtain ⟨h1,h2,h3,h4⟩:=hq
  simp only [List.filter_cons,h1]
  cases p b.1
  ·exact Za2.filter p h4
  ·exact ⟨h1,h2,h3,Za2.filter p h4⟩
 | [],_ :: _,hq=>hq.elim
 | _ :: _,[],hq=>hq.elim
section
variable (P : Program) (Γ Γ' : Zb)
def Zeq (m m' : OpR) : Prop:=(∃ v,m=.val v∧m'=.val v)∨∃ a b,m=.cmp a∧m'=.cmp b∧Ref a b
theorem Zeq.rfl {m : OpR} : Zeq m m:=by
 cases m with
 | val v=>exact .inl ⟨v,Eq.refl _,Eq.refl _⟩
 | cmp a=>exact .inr ⟨a,a,Eq.refl _,Eq.refl _,.rfl⟩
variable {P Γ Γ'}
theorem Zkq (h : ∀ g zs,Ref (Γ g zs) (Γ' g zs)) (f : Value) (zs : List Value) : Ref (ZX Γ f zs) (ZX Γ' f zs):=by
 unfold ZX
 split
 ·exact (h _ _).cond .rfl
 ·exact h _ _
 ·exact .rfl
theorem ZkW (h : ∀ g zs,Ref (Γ g zs) (Γ' g zs)) (v : Value) (nm : String) (zs : List Value) : Ref (Zak P Γ v nm zs) (Zak P Γ' v nm zs):=by
 unfold Zak
 split
 ·split
  ·exact h _ _
  ·exact .rfl
 ·exact .rfl
theorem Zb7 (h : ∀ g zs,Ref (Γ g zs) (Γ' g zs)) (ev : Operand→Value) (o : Op) : Zeq (opM P Γ ev o) (opM P Γ' ev o):=by
 cases o with
 | call c=>
  simp only [opM]
  unfold Jz
  split
  ·exact .inr ⟨_,_,Eq.refl _,Eq.refl _,Zkq h _ _⟩
  ·exact .inr ⟨_,_,Eq.refl _,Eq.refl _,ZkW h _ _ _⟩
  all_goals exact .rfl
 | _=>exact .rfl
theorem Zja (h : ∀ g zs,Ref (Γ g zs) (Γ' g zs)) (all : List Oper) (f : Nat→Value) (o : Oper) : Zeq (opG P Γ all f o) (opG P Γ' all f o):=by
 unfold opG
 split
 ·exact Zb7 h _ _
 ·split
  ·refine .inr ⟨_,_,Eq.refl _,Eq.refl _,.gateV ?_⟩
   rcases Zb7 (P:=P) h (evF f) o.op with ⟨v,h1,h2⟩ | ⟨a,b,h1,h2,h3⟩
   ·rw [h1,h2];exact .rfl
   ·rw [h1,h2];exact h3
  ·exact .rfl
theorem Zl0 {m m' : OpR} (h : Zeq m m') : Ref (toM m) (toM m'):=by
 rcases h with ⟨v,h1,h2⟩ | ⟨a,b,h1,h2,h3⟩
 ·rw [h1,h2];exact .rfl
 ·rw [h1,h2];exact h3
theorem Zgd {β : Type} (h : ∀ g zs,Ref (Γ g zs) (Γ' g zs)) {k k' : Ze→M β} (hk : ∀ r,Ref (k r) (k' r)) : ∀ (os : List Oper) (r : Ze),Ref (Zb8 P Γ os r k) (Zb8 P Γ' os r k')
 | [],r=>hk r
 | o :: os,r=>Ref.appM (Zb7 h _ _) fun v=>Zgd h hk os _
theorem ZbL {β : Type} (h : ∀ g zs,Ref (Γ g zs) (Γ' g zs)) (all : List Oper) {k k' : Ze→M β} (hk : ∀ r,Ref (k r) (k' r)) : ∀ (n : Nat) (os : List Oper) (r : Ze),Ref (YO P Γ all n os r k) (YO P Γ' all n os r k')
 | 0,_,_=>.rfl
 | _+1,[],r=>hk r
 | n+1,o :: os,r=>by
  simp only [YO]
  split
  ·exact Ref.appM (Zb7 h _ _) fun v=>ZbL h all hk n os _
  ·split
   ·exact .rfl
   ·exact Ref.bind (.gate (Zgd h (fun r=>.rfl) _ _)) fun vs=>ZbL h all hk n _ _
variable (P Γ) in
def Zho {β : Type} (an : List (List Nat)) (all : List Oper) : List (Nat × Oper)→Jp→Ze→(Ze→M β)→M β
 | [],_,r,k=>k r
 | p :: l,rs,r,k=>
  appM (opG P Γ all (Zn r) p.2) fun v=>
   match cls P p.2.op with
   | 0=>Zho an all l rs (QG r p.2.dst v) k
   | 1=>Zho an all l ((p.1,toM (opG P Γ all (Zn r) p.2),v) :: rs) (QG r p.2.dst v) k
   | _=>ZhT (rs.filter fun q=>!(Qw (an.getD p.1 []) q.1)) (Zho an all l rs (QG r p.2.dst v) k)
theorem Zai {β : Type} (h : ∀ g zs,Ref (Γ g zs) (Γ' g zs)) (an : List (List Nat)) (all : List Oper) {k k' : Ze→M β} (hk : ∀ r,Ref (k r) (k' r)) :
  ∀ (l : List (Nat × Oper)) {rs rs' : Jp} (r : Ze),Za2 rs rs'→Ref (Zho P Γ an all l rs r k) (exD P Γ' an all l rs' r k')
 | [],_,_,r,_=>hk r
 | p :: l,rs,rs',r,hq=>by
  refine Ref.appM (Zja h _ _ _) fun v=>?_
  generalize cls P p.2.op=c
  match c with
  | 0=>exact Zai h an all hk l _ hq
  | 1=>exact Zai h an all hk l _ ⟨Eq.refl _,Zl0 (Zja h _ _ _),Eq.refl _,hq⟩
  | c+2=>exact ZeT (Zai h an all hk l _ hq) (hq.filter fun i=>!(Qw (an.getD p.1 []) i))
variable (P Γ) in
def ZhC {β : Type} (ops : List Oper) (draw : Bool) (r : Ze) (k : Ze→M β) : M β:=
 bif draw then
  let cl:=ops.map fun o=>cls P o.op
  let an:=ZeW ops
  let ord:=WE cl an ops.length ops.length []
  bif Za9 ops cl an ord then Zho P Γ an ops (Qr ops ord) [] r k else fail
 else YO P Γ ops (ops.length+1) ops r k
theorem ZjM {β : Type} (h : ∀ g zs,Ref (Γ g zs) (Γ' g zs)) (ops : List Oper) (draw : Bool) {k k' : Ze→M β} (hk : ∀ r,Ref (k r) (k' r)) (r : Ze) : Ref (ZhC P Γ ops draw r k) (Ze0 P Γ' ops draw r k'):=by
 unfold ZhC Ze0
 refine Ref.cond ?_ (ZbL h _ hk _ _ _)
 exact Ref.cond (Zai h _ _ hk _ _ trivial) .rfl
theorem ZaI {β : Type} {k k' : List Value→M β} (r : Ze) : ∀ (l : List ResultVar),(∀ vs,Ref (k vs) (k' vs))→Ref (KM P r l k) (KM P r l k')
 | [],hk=>hk []
 | .tmp t :: l,hk=>ZaI r l fun vs=>hk _
 | .cell a t :: l,hk=>by
  simp only [KM]
  split
  ·exact Ref.bind .rfl fun v=>ZaI r l fun vs=>hk _
  ·exact Ref.bind .rfl fun v=>ZaI r l fun vs=>hk _
  ·exact .rfl
theorem Zg9 {β : Type} {fn : Func} {r : Ze} {kr kr' : Value→M β} (hk : ∀ v,Ref (kr v) (kr' v)) : Ref (Wr P fn r kr) (Wr P fn r kr'):=by
 refine ZaI r _ fun vs=>?_
 split
 ·exact hk _
 ·exact hk _
theorem KG {β : Type} {c : Code} {kx kx' : Nat→Ze→M β} (hk : ∀ j r,Ref (kx j r) (kx' j r)) : ∀ (X : List (Nat × List Nat)) (j : Nat) (vs : List Value),Ref (JI c X kx j vs) (JI c X kx' j vs)
 | [],_,_=>.rfl
 | p :: X,j,vs=>by
  simp only [JI]
  cases ZZ.xto p.1 c with
  | false=>exact KG hk X j vs
  | true=>exact Ref.cond (hk _ _) (KG hk X j vs)
theorem Zdk {β : Type} {c : Code} {kx kx' : Nat→Ze→M β} (hk : ∀ j r,Ref (kx j r) (kx' j r)) : ∀ (X : List (Nat × List Nat)) (j : Nat) (r : Ze),Ref (W3 c X kx j r) (W3 c X kx' j r)
 | [],_,_=>.rfl
 | p :: X,j,r=>by
  simp only [W3]
  cases ZZ.xto p.1 c with
  | false=>exact Zdk hk X j r
  | true=>exact Ref.cond (hk _ _) (Zdk hk X j r)
theorem Zie {β : Type} {L : Nat} {k k' : Option Code→M β} (hk : ∀ c,Ref (k c) (k' c)) : Ref (YJ L k) (YJ L k'):=by
 intro H x e
 unfold YJ at e ⊢
 split at e
 ·split at e
  ·cases e
  ·exact hk _ _ _ e
 ·cases e
theorem ZjR {β : Type} (h : ∀ g zs,Ref (Γ g zs) (Γ' g zs)) {ok : FuncId→Bool} {v : Value} {fn : Func} {lv : List (Nat × List Nat)} {p : Nat} {xs : List Nat} {cd : Array Tmp × Code × Code} {regs : Ze} {k k' : Option Code→M β} (hk : ∀ c,Ref (k c) (k' c)) :
  Ref (Ym ok Γ v fn lv p xs cd regs k) (Ym ok Γ' v fn lv p xs cd regs k'):=by
 unfold Ym
 split
 ·refine Ref.cond ?_ .rfl
  intro H x e
  simp only at e ⊢
  split at e
  ·rename_i u H1 e1
   rw [h _ _ _ _ e1]
   exact Zie hk _ _ e
  ·cases e
 ·exact .rfl
theorem Zk9 {β : Type} {L : Nat} {m m' : M β} (h : Ref m m') : Ref (Zdo L m) (Zdo L m'):=by
 intro H x e
 unfold Zdo at e ⊢
 split at e
 ·exact h _ _ e
 ·cases e
variable (P Γ) in
def Ec (K : Nat) (rnd : Bool) (fn : Func) (lv : List (Nat × List Nat)) : Code→∀ {β : Type},Nat→List (Nat × List Nat)→Ze→(Ze→M β)→(Nat→Ze→M β)→(Value→M β)→M β
 | .skip,_,_,_,r,kn,_,_=>kn r
 | .region _ ops draw,_,_,_,r,kn,_,_=>
  bif Wb P fn.ntmps ops.toList && YD ops.toList then ZhC P Γ ops.toList draw r kn else fail
 | .seq a b,_,p,X,r,kn,kx,kr=>Ec K rnd fn lv a (2 * p) X r (fun r'=>Ec K rnd fn lv b (2 * p+1) X r' kn kx kr) kx kr
 | .cond c t e,_,p,X,r,kn,kx,kr=>
  bif !Z2 P c then fail else bif ZZ t && ZZ e then
   jn (cnd (ev r c) (Ec K rnd fn lv t (2 * p) X r (fun r'=>ret (.nrm (proj (lkX lv p) r'))) (fun j r'=>ret (.ext j (proj (lkX X j) r'))) (fun v=>ret (.ret v)))
     (Ec K rnd fn lv e (2 * p+1) X r (fun r'=>ret (.nrm (proj (lkX lv p) r'))) (fun j r'=>ret (.ext j (proj (lkX X j) r'))) (fun v=>ret (.ret v))))
    (fun vs=>kn (mk (lkX lv p) vs)) (JI (.cond c t e) X kx) kr
  else cnd (ev r c) (Ec K rnd fn lv t (2 * p) X r kn kx kr) (Ec K rnd fn lv e (2 * p+1) X r kn kx kr)
 | .block id c,_,p,X,r,kn,kx,kr=>
  bif Nat.ble (Yi id c+(bif ZZ c then 1 else 0)) 1 then
   Ec K rnd fn lv c (2 * p) ((id,lkX lv p) :: X) r kn (fun j r'=>bif Nat.beq j id then kn r' else kx j r') kr
  else
   jn (Ec K rnd fn lv c (2 * p) ((id,lkX lv p) :: X) r (fun r'=>ret (.nrm (proj (lkX lv p) r'))) (fun j r'=>bif Nat.beq j id then ret (.nrm (proj (lkX lv p) r')) else ret (.ext j (proj (lkX X j) r'))) (fun v=>ret (.ret v)))
    (fun vs=>kn (mk (lkX lv p) vs)) (JI (.block id c) X kx) kr
 | .loop c,_,p,X,r,_,kx,kr=>
  jn (Z6 (fun vs=>Ec K rnd fn lv c (2 * p) X (mk (lkX lv p) vs) (fun r'=>ret (.nrm (proj (lkX lv p) r'))) (fun j r'=>ret (.ext j (proj (lkX X j) r'))) (fun v=>ret (.ret v))) K (proj (lkX lv p) r))
   (fun _=>fail) (JI (.loop c) X kx) kr
 | .exit id,_,_,_,r,_,kx,_=>kx id r
 | .rangeFunc g ps asg bd,_,p,X,r,kn,kx,kr=>
  bif rnd || !Z2 P g then fail else
   Ym (Zen P) Γ (ev r g) fn lv p (X.map fun q=>q.1) (ps,asg,bd) (mk (lkX lv p) (proj (lkX lv p) r)) fun pd=>match pd with
    | none=>kn r
    | some (.exit j)=>W3 bd X kx j r
    | some .ret=>Wr P fn r kr
    | _=>fail
 | .ret,_,_,_,r,_,_,kr=>bif rnd then kr undef else Wr P fn r kr
 | _,_,_,_,_,_,_,_=>fail
theorem Zhv (h : ∀ g zs,Ref (Γ g zs) (Γ' g zs)) (K : Nat) (rnd : Bool) (fn : Func) (lv : List (Nat × List Nat)) : ∀ (c : Code) {β : Type} (p : Nat) (X : List (Nat × List Nat)) (r : Ze) {kn kn' : Ze→M β} {kx kx' : Nat→Ze→M β} {kr kr' : Value→M β},
  (∀ r,Ref (kn r) (kn' r))→(∀ j r,Ref (kx j r) (kx' j r))→(∀ v,Ref (kr v) (kr' v))→Ref (Ec P Γ K rnd fn lv c p X r kn kx kr) (E P Γ' rnd fn lv c p X r kn' kx' kr'):=by
 intro c
 induction c with
 | skip=>intro β p X r kn kn' kx kx' kr kr' hn hx hr;exact hn r
 | region id ops draw=>
  intro β p X r kn kn' kx kx' kr kr' hn hx hr
  simp only [Ec,E]
  exact Ref.cond (ZjM h _ _ hn _) .rfl
 | seq a b iha ihb=>
  intro β p X r kn kn' kx kx' kr kr' hn hx hr
  simp only [Ec,E]
  exact iha _ _ _ (fun r'=>ihb _ _ _ hn hx hr) hx hr
 | cond c t e iht ihe=>
  intro β p X r kn kn' kx kx' kr kr' hn hx hr
  simp only [Ec,E]
  refine Ref.cond .rfl (Ref.cond (Ref.jn (Ref.cnd ?_ ?_) (fun vs=>hn _) (KG hx X) hr) (Ref.cnd (iht _ _ _ hn hx hr) (ihe _ _ _ hn hx hr)))
  ·exact iht _ _ _ (fun _=>.rfl) (fun _ _=>.rfl) (fun _=>.rfl)
  ·exact ihe _ _ _ (fun _=>.rfl) (fun _ _=>.rfl) (fun _=>.rfl)
 | block id c ih=>
  intro β p X r kn kn' kx kx' kr kr' hn hx hr
  simp only [Ec,E]
  refine Ref.cond (ih _ _ _ hn (fun j r'=>Ref.cond (hn _) (hx _ _)) hr) (Ref.jn (ih _ _ _ (fun _=>.rfl) (fun _ _=>.rfl) (fun _=>.rfl)) (fun vs=>hn _) (KG hx X) hr)
 | loop c ih=>
  intro β p X r kn kn' kx kx' kr kr' hn hx hr
  simp only [Ec,E]
  exact Ref.jn (Ref.iter (fun vs=>ih _ _ _ (fun _=>.rfl) (fun _ _=>.rfl) (fun _=>.rfl)) _ _) (fun _=>.rfl) (KG hx X) hr
 | exit id=>intro β p X r kn kn' kx kx' kr kr' hn hx hr;exact hx id r
 | rangeFunc g ps asg bd iha ihb=>
  intro β p X r kn kn' kx kx' kr kr' hn hx hr
  simp only [Ec,E]
  refine Ref.cond .rfl (ZjR h fun pd=>?_)
  cases pd with
  | none=>exact hn r
  | some c=>cases c with
   | exit j=>exact Zdk hx X _ _
   | ret=>exact Zg9 hr
   | _=>exact .rfl
 | ret=>
  intro β p X r kn kn' kx kx' kr kr' hn hx hr
  simp only [Ec,E]
  exact Ref.cond (hr _) (Zg9 hr)
 | _=>intro β p X r kn kn' kx kx' kr kr' hn hx hr;simp only [Ec];exact .fail
end
def Zdt (P : Program) (prim : FuncId→Option (List Value→M Value)) (lvs : FuncId→List (Nat × List Nat)) (K : Nat) : Nat→Zb
 | 0=>fun _ _=>fail
 | n+1=>fun g args=>bif Nat.blt g Z0 then
   (match prim g with
   | some m=>m args
   | none=>match P.funcs[g]? with
    | some fn=>bif Jb fn then (match fn.body with
     | some c=>bif Nat.ble args.length fn.ntmps then Ec P (Zdt P prim lvs K n) K false fn (lvs g) c 1 [] (Y1 0 args) (fun r=>Wr P fn r ret) (fun _ _=>fail) ret else fail
     | none=>fail) else fail
    | none=>fail)
  else fun H=>match H[g - Z0]? with
   | some (.loop fn lv p xs cd regs .ready _)=>
    (bif Nat.beq args.length cd.1.size && cd.1.toList.all (fun t=>Nat.blt t fn.ntmps) then
     Ec P (Zdt P prim lvs K n) K true fn lv cd.2.1 (2 * p) (xs.map fun i=>(i,[])) (Zkc cd.1.toList args regs)
      (fun r=>Zdo (g - Z0) (Ec P (Zdt P prim lvs K n) K true fn lv cd.2.2 (2 * p+1) (xs.map fun i=>(i,[])) r (fun _=>WU (g - Z0) none) (fun j _=>WU (g - Z0) (some (.exit j))) (fun _=>WU (g - Z0) (some .ret))))
      (fun _ _=>fail) (fun _=>fail)
    else fail) H
   | _=>none
def ZmL (p p' : FuncId→Option (List Value→M Value)) : Prop:=∀ g,(p g=none∧p' g=none)∨∃ a b,p g=some a∧p' g=some b∧∀ zs,Ref (a zs) (b zs)
theorem Zao {P : Program} {prim prim' : FuncId→Option (List Value→M Value)} (hp : ZmL prim prim') {lvs : FuncId→List (Nat × List Nat)} (K : Nat) : ∀ (n : Nat) (g : FuncId) (zs : List Value),Ref (Zdt P prim lvs K n g zs) (run P prim' lvs n g zs)
 | 0,_,_=>.fail
 | n+1,g,zs=>by
  simp only [Zdt,run]
  refine Ref.cond ?_ ?_
  ·rcases hp g with ⟨h1,h2⟩ | ⟨a,b,h1,h2,h3⟩
   ·rw [h1,h2]
    cases P.funcs[g]? with
    | none=>exact .rfl
    | some fn=>
     refine Ref.cond ?_ .rfl
     unfold JF
     cases fn.body with
     | some c=>exact Ref.cond (Zhv (Zao hp K n) _ _ _ _ _ _ _ _ (fun _=>.rfl) (fun _ _=>.rfl) (fun _=>.rfl)) .rfl
     | none=>exact .rfl
   ·rw [h1,h2]
    exact h3 zs
  ·intro H x e
   unfold ZeM
   simp only at e ⊢
   split at e
   ·rename_i h1
    rw [h1]
    refine Ref.cond ?_ .rfl _ _ e
    exact Zhv (Zao hp K n) _ _ _ _ _ _ _ _ (fun r=>Zk9 (Zhv (Zao hp K n) _ _ _ _ _ _ _ _ (fun _=>.rfl) (fun _ _=>.rfl) (fun _=>.rfl))) (fun _ _=>.rfl) (fun _=>.rfl)
   ·cases e
def Zbe (gl : List Zl) : Prop:=∀ (g : Nat) o,gl[g]?=some o→o=.dead∨∃ cs es gr,o=.cells cs es gr true∧∀ v∈cs,Zp v=true
theorem RVs.plain {ι ι' : Nat→Option Loc} : ∀ {cs cs' : List Value},(∀ v∈cs,Zp v=true)→RVs ι cs cs'→RVs ι' cs cs'
 | [],cs',_,h=>by have:=h.nil_inv;subst this;exact .nil
 | v :: cs,cs',hs,h=>by
  obtain ⟨p,r,rfl,hp,hr⟩:=h.cons_inv
  rw [hp.scalar_inv (hs v (by simp))]
  exact .cons (.sc (hs v (by simp))) (RVs.plain (fun u hu=>hs u (by simp [hu])) hr)
theorem Zk3 {G : Nat} {w0 : Zi} {ι : Nat→Option Loc} {H : Za} {w : World} (hS : Sim G w0 ι H w) {gl : List Zl} (hg : gl.length=G) (hp : Zbe gl) (hH : H.take G=gl) : Sim G (b0 w) (fun g=>if g < G then ι g else none) gl w:=by
 have hget : ∀ (i : Nat) o,gl[i]?=some o→H[i]?=some o∧i < G:=by
  intro i o h
  have hi : i < G:=by rw [← hg];exact (List.getElem?_eq_some_iff.1 h).1
  rw [← hH,List.getElem?_take,if_pos hi] at h
  exact ⟨h,hi⟩
 refine ⟨fun i o h=>?_,fun i j o1 o2 l1 l2 h1 _ w1=>?_,Nat.le_refl _,fun _ _=>rfl,fun i l h=>?_,fun g hgG=>?_,⟨rfl,rfl,rfl⟩,fun b hb=>(by cases hb),fun j cs es nx l hj _=>?_⟩
 ·obtain ⟨h1,hi⟩:=hget i o h
  rcases hp i o h with rfl | ⟨cs,es,gr,rfl,hs⟩
  ·trivial
  ·have hO:=hS.obj i _ h1
   have hb:=hO.old (w0:=w0) (by simp) (by simp [Zl.wr]) rfl
   obtain ⟨l,c,el,fr,k1,k2,k3,k4,k5,k6,k7,k8,k9,k10⟩:=hO
   have hlt : l.blk < w.heap.size:=by
    rcases Nat.lt_or_ge l.blk w.heap.size with h | h
    ·exact h
    ·rw [Array.getElem?_eq_none h] at k4;cases k4
   exact ⟨l,c,el,fr,by simp [hi,k1],k2,k3,k4,k5,k6,k7.plain hs,(fun h=>nomatch h),(fun _=>hlt),k10⟩
 ·rcases hp i o1 h1 with rfl | ⟨cs,es,gr,rfl,_⟩ <;> simp [Zl.wr] at w1
 ·split at h
  ·rw [hg];assumption
  ·cases h
 ·obtain ⟨l,h1,h2⟩:=hS.glob g hgG
  exact ⟨l,by simp [hgG,h1],h2⟩
 ·rcases hp j _ hj with h | ⟨_,_,_,h,_⟩ <;> cases h
theorem Sim.grow {G : Nat} {w0 : Zi} {ι ι1 : Nat→Option Loc} {H H1 : Za} {w w' : World} (hS : Sim G w0 ι H w) (h : Sim G (b0 w) ι1 H1 w') : Sim G w0 ι H w':=by
 have hk : ∀ b,b < w.heap.size→w'.heap[b]?=w.heap[b]?:=h.old
 have hlt : ∀ {b : Nat} {o : Obj},w.heap[b]?=some o→b < w.heap.size:=fun {b o} e=>by
  rcases Nat.lt_or_ge b w.heap.size with h | h
  ·exact h
  ·rw [Array.getElem?_eq_none h] at e;cases e
 refine ⟨fun id o ho=>?_,hS.inj,Nat.le_trans hS.size h.size,fun b hb=>?_,hS.dom,hS.glob,?_,fun b hb=>?_,fun j cs es nx l hj hl=>?_⟩
 ·refine (hS.obj id o ho).blk fun l hl hne=>?_
  obtain ⟨l',h1,h2⟩:=(hS.obj id o ho).loc hne
  rw [hl] at h1;cases h1
  exact hk _ h2
 ·rw [hk b (Nat.lt_of_lt_of_le hb hS.size)];exact hS.old b hb
 ·obtain ⟨a1,a2,a3⟩:=h.rest
  obtain ⟨b1,b2,b3⟩:=hS.rest
  exact ⟨a1.trans b1,a2.trans b2,a3.trans b3⟩
 ·obtain ⟨a1,a2,a3⟩:=hS.prot b hb
  exact ⟨by rw [hk b (hlt a1)];exact a1,a2,a3⟩
 ·exact (hS.views j cs es nx l hj hl).to (.refl ι) fun h1 ⟨c,el,fr,hc⟩=>⟨fun c el fr hc'=>⟨fr,by rw [hk _ (hlt hc)];exact hc'⟩,h1⟩
open Classical in
noncomputable def KZ (gl : List Zl) (v : Value) (args : List Value) : M Value:=fun H=>
 if args=[]∧H.take gl.length=gl then some (v,H) else none
theorem Ziw {P : Program} (hm : P.follows .mixedOrders=true) {prim : FuncId→Option (List Value→M Value)} {lvs : FuncId→List (Nat × List Nat)} (hprim : ∀ (b : Zi) g m,prim g=some m→QU P P.globals.size b g m)
  {gl : List Zl} (hgl : gl.length=P.globals.size) (hpl : Zbe gl) {g : FuncId} (hgy : g < Z0) (hbody : ∀ fn,P.funcs[g]?=some fn→fn.body.isNone=false) {v : Value} (hv : Zp v=true) {n : Nat} (hrun : ∃ H1,run P prim lvs n g [] gl=some (v,H1)) (w0 : Zi) : QU P P.globals.size w0 g (KZ gl v):=by
 intro args H v' H1 h
 unfold KZ at h
 split at h
 ·rename_i hc
  obtain ⟨rfl,hH⟩:=hc
  cases h
  obtain ⟨H2,hrun⟩:=hrun
  left
  have hcal : QP P g:=by
   rcases JT hm hprim n (b0 default) g _ _ _ _ hrun with ⟨_,⟨hc,_⟩ | ⟨e,⟨fn,h1,_,h2,_⟩,_⟩⟩ | ⟨hno,_⟩
   ·exact hc
   ·rw [hbody fn h1] at h2;cases h2
   ·exact absurd hgy (Nat.not_lt_of_le hno)
  refine ⟨hcal,fun ι w args' hS hrv=>?_⟩
  have:=hrv.nil_inv;subst this
  rcases JT hm hprim n (b0 w) g _ _ _ _ hrun with ⟨_,⟨_,hc⟩ | ⟨e,⟨fn,h1,_,h2,_⟩,_⟩⟩ | ⟨hno,_⟩
  ·refine (hc _ w [] (Zk3 hS hgl hpl (by rw [← hgl];exact hH)) .nil).mono fun e w' ⟨ι1,u,hle,he,hu,hs⟩=>?_
   have:=hu.scalar_inv hv
   subst this
   exact ⟨ι,_,.refl ι,he,.sc hv,hS.grow hs⟩
  ·rw [hbody fn h1] at h2;cases h2
  ·exact absurd hgy (Nat.not_lt_of_le hno)
 ·cases h
theorem Zeb {P : Program} {w : World} {n : String} {d : DataW Unit} : ∀ {l : List (String × DataW Unit)} {ps : List MemPlace},DataW.LaidVars P w l ps→(n,d)∈l→
  ∃ g t cs fuel p,P.globalNamed n=some g∧(P.globals[g]?).map (·.type)=some t∧w.var? P n=some cs∧DataW.trod (fun _=>()) P w 0 (fun _=>true) false fuel t cs.toList=some (d,p)
 | [],_,_,hm=>by cases hm
 | (n',d') :: r,ps,h,hm=>by
  obtain ⟨g,t,cs,fuel,p,q,h1,h2,h3,h4,h5,_⟩:=h
  rcases List.mem_cons.1 hm with e | e
  ·cases e
   exact ⟨g,t,cs,fuel,p,h1,h2,h3,h4⟩
  ·exact Zeb h5 e
theorem ZhG {α β : Type} {f : α→Option β} : ∀ {l : List α} {r : List β},l.mapM f=some r→r.length=l.length∧∀ (i : Nat) (a : α),l[i]?=some a→∃ b,r[i]?=some b∧f a=some b
 | [],r,h=>by cases h;exact ⟨rfl,fun i a ha=>by simp at ha⟩
 | x :: l,r,h=>by
  simp only [List.mapM_cons,Option.bind_eq_bind,Option.bind_eq_some_iff,Option.pure_def,Option.some.injEq] at h
  obtain ⟨b,hb,r',hr',rfl⟩:=h
  obtain ⟨h1,h2⟩:=ZhG hr'
  refine ⟨by simp [h1],fun i a ha=>?_⟩
  cases i with
  | zero=>
   simp only [List.getElem?_cons_zero,Option.some.injEq] at ha
   subst ha
   exact ⟨b,rfl,hb⟩
  | succ i=>exact h2 i a (by simpa using ha)
theorem strs_laid {P : Program} {w : World} {laid : List (String × DataW Unit)} (h : laidMet P laid w) {n : String} {l : List (List UInt8)} (hm : (n,DataW.agg (l.map fun s=>.lit (.string s)))∈laid) {g : Nat} {t e : TypeId} {k : Nat} (hg : P.globalNamed n=some g)
  (hy : (P.globals[g]?).map (·.type)=some t) (ht : P.underlying t=some (.array k e)) (he : P.underlying e=some .string) (hce : P.cellsOf e=1) (hct : P.cellsOf t=k) :
  ∃ c ty fr,w.heap[g]?=some (.cells c ty fr)∧c.toList=l.map fun s=>Value.string ⟨s.toArray⟩:=by
 obtain ⟨ps,hv,_⟩:=h
 obtain ⟨g',t',cs,fuel,p,h1,h2,h3,h4⟩:=Zeb hv hm
 rw [hg] at h1;cases h1
 rw [hy] at h2;cases h2
 have hcs : cs.toList=l.map fun s=>Value.string ⟨s.toArray⟩:=by
  cases fuel with
  | zero=>simp [DataW.trod] at h4
  | succ fuel=>
   simp only [DataW.trod,ht,hce,hct,Nat.mul_one] at h4
   split at h4
   ·rename_i hl
    obtain ⟨xs,hm,hx⟩:=Option.map_eq_some_iff.1 h4
    have hxs : xs.map (·.1)=l.map fun s=>(DataW.lit (.string s) : DataW Unit):=by
     have:=congrArg Prod.fst hx
     simpa using this
    obtain ⟨hxl,hall⟩:=ZhG hm
    have hxl : xs.length=k:=by simpa using hxl
    have hll : l.length=k:=by
     have:=congrArg List.length hxs
     simp at this;omega
    apply List.ext_getElem?
    intro i
    by_cases hi : i < k
    ·obtain ⟨b,hb1,hb2⟩:=hall i i (by simp [hi])
     obtain ⟨s,e1,e2,_⟩:=DataW.trod_string he hb2
     have e3 : cs.toList[i]?=some (.string s):=by
      have:=congrArg (·[0]?) e1
      simpa [List.getElem?_take,List.getElem?_drop] using this
     have e4 : (xs.map (·.1))[i]?=some (DataW.lit (.string s.data.toList) : DataW Unit):=by rw [List.getElem?_map,hb1,e2];rfl
     rw [hxs,List.getElem?_map] at e4
     obtain ⟨s',e5,e6⟩:=Option.map_eq_some_iff.1 e4
     cases e6
     rw [e3,List.getElem?_map,e5]
     rfl
    ·rw [List.getElem?_eq_none (by omega),List.getElem?_eq_none (by simp;omega)]
   ·cases h4
 unfold World.var? at h3
 rw [hg] at h3
 simp only [Option.bind_some] at h3
 split at h3
 ·rename_i c ty fr hh
  cases h3
  exact ⟨_,_,_,hh,hcs⟩
 ·cases h3
def ιg (gl : List Zl) : Nat→Option Loc:=fun g=>match gl[g]? with
 | some (.cells cs es gr _)=>some ⟨g,0,cs.length,es,gr⟩
 | some _=>some ⟨g,0,0,1,false⟩
 | none=>none
def GlMet (gl : List Zl) (W : World) : Prop:=∀ (g : Nat) cs es gr,gl[g]?=some (.cells cs es gr true)→∃ c ty fr,W.heap[g]?=some (.cells c ty fr)∧c.toList=cs
theorem Zfc {ι : Nat→Option Loc} : ∀ {cs : List Value},(∀ v∈cs,Zp v=true)→RVs ι cs cs
 | [],_=>.nil
 | v :: cs,h=>.cons (.sc (h v (by simp))) (Zfc fun u hu=>h u (by simp [hu]))
theorem ZmH {W : World} {G : Nat} {gl : List Zl} (hgl : gl.length=G) (hpl : Zbe gl) (hm : GlMet gl W) : Sim G (b0 W) (ιg gl) gl W:=by
 refine ⟨fun i o h=>?_,fun i j o1 o2 l1 l2 h1 _ w1=>?_,Nat.le_refl _,fun _ _=>rfl,fun i l h=>?_,fun g hg=>?_,⟨rfl,rfl,rfl⟩,fun b hb=>(by cases hb),fun j cs es nx l hj _=>?_⟩
 ·rcases hpl i o h with rfl | ⟨cs,es,gr,rfl,hs⟩
  ·trivial
  ·obtain ⟨c,ty,fr,h1,h2⟩:=hm i cs es gr h
   have hlt : i < W.heap.size:=by
    rcases Nat.lt_or_ge i W.heap.size with h | h
    ·exact h
    ·rw [Array.getElem?_eq_none h] at h1;cases h1
   have hsz : cs.length=c.size:=by rw [← h2];simp
   refine ⟨⟨i,0,cs.length,es,gr⟩,c,ty,fr,by simp [ιg,h],rfl,rfl,h1,by simp,by simp [hsz],?_,(fun h=>nomatch h),(fun _=>hlt),fun v hv=>WY (hs v hv)⟩
   simp only [List.drop_zero]
   rw [h2,List.take_length]
   exact Zfc hs
 ·rcases hpl i o1 h1 with rfl | ⟨cs,es,gr,rfl,_⟩ <;> simp [Zl.wr] at w1
 ·unfold ιg at h
  cases hq : gl[i]? with
  | none=>rw [hq] at h;cases h
  | some o=>exact (List.getElem?_eq_some_iff.1 hq).1
 ·have hlt : g < gl.length:=hgl ▸ hg
  unfold ιg
  rw [List.getElem?_eq_getElem hlt]
  cases gl[g] <;> exact ⟨_,rfl,rfl,rfl⟩
 ·rcases hpl j _ hj with h | ⟨_,_,_,h,_⟩ <;> cases h
theorem law_callsG {P : Program} {H0 : Type} {enc : TypeId × Value→H0} {W : World} (hm : P.follows .mixedOrders=true) (hlo : laidOutB P=true) {prim : FuncId→Option (List Value→M Value)} {lvs : FuncId→List (Nat × List Nat)} {tys : List Ty} {g : FuncId} {fn : Func} {s : ChangeSpec} {args : Array Value} {ds gs : List (DataW H0)} {before : List MemPlace} {base : Nat} {tb : TypeId} {apart fresh handsOn : Bool}
  (hprim : ∀ (b : Zi) g m,prim g=some m→QU P P.globals.size b g m) {gl : List Zl} (hgl : gl.length=P.globals.size) (hpl : Zbe gl) (hmet : GlMet gl W)
  (hlaw : ∀ (xs : Ins tys) (H : Za) (vs : List Value),ZgZ tys xs→H.take gl.length=gl→ZgX tys xs H vs→∃ n H',run P prim lvs n g vs H=some (.bool true,H'))
  (hfn : P.funcs[g]?=some fn) (hbody : fn.body.isNone=false) (hgy : g < Z0) (hf : QX P tys fn.params.toList=true) (hres : fn.resultTypes=#[tb]) (htb : P.underlying tb=some .bool)
  (hvars : s.vars=[]) (hs : ∀ ds : List (DataW H0),ds.length=tys.length→s.fn H0 ds={ results:=[.lit (.bool true)],args:=ds })
  (hval : ∀ (j : Nat) t v,fn.params[j]?=some t→args[j]?=some v→Value.okWide P W .any base t v)
  (hW : DataW.Whole enc P fn.params.toList s.vars apart W args.toList ds gs before) :
  Calls P g args W fun e W'=>∃ v,e=.returned v∧s.post enc P fn apart fresh handsOn false W args v W':=by
 have hlt:=hW.lt
 obtain ⟨p,q,hA,hV,rfl,hfz,hnd⟩:=id hW
 rw [hvars] at hV
 obtain ⟨rfl,rfl⟩:=Go.ChangeShapes.trodVars_none hV
 obtain ⟨xs,ι,H,vs,hwf,hle,hS,hHl,hrv,hrd,hlen⟩:=Zjb (G:=P.globals.size) tys hf hA (fun j t v ht hv=>hval j t v (by simpa using ht) (by simpa using hv)) (ZmH hgl hpl hmet)
 have htk : H.take gl.length=gl:=by
  apply List.ext_getElem?
  intro i
  rw [List.getElem?_take]
  split
  ·rename_i hi
   rw [List.getElem?_eq_getElem hi]
   exact hHl i _ (List.getElem?_eq_getElem hi)
  ·rename_i hi
   rw [List.getElem?_eq_none (by omega)]
 obtain ⟨n,H',hrun⟩:=hlaw xs H vs hwf htk hrd
 have hcc : Zfd P P.globals.size (b0 W) g (.bool true) vs H H':=by
  rcases JT hm hprim n (b0 W) g vs H _ H' hrun with ⟨_,hc | ⟨e,⟨fn',h1,_,h2,_⟩,_⟩⟩ | ⟨hno,_⟩
  ·exact hc
  ·rw [hfn] at h1;cases h1
   rw [hbody] at h2;cases h2
  ·exact absurd hgy (Nat.not_lt_of_le hno)
 obtain ⟨_,hc⟩:=hcc
 refine (hc ι W args.toList hS hrv).mono fun e W' ⟨ι1,v',hle1,he,hv',hS'⟩=>?_
 have:=hv'.bool_inv
 subst this
 refine ⟨_,he,?_⟩
 have hb : Go.RowKit.Below W.heap.size W W':=⟨hS'.rest.1,hS'.rest.2.1,hS'.rest.2.2,hS'.size,hS'.old⟩
 have hsp:=hs (ds++[]) (by simpa using hlen)
 refine ⟨ds,[],p++[],[],p++[],[],hW,?_,?_,?_,hb.frame _,fun h=>by cases h⟩
 ·rw [hsp,hres]
  exact Go.ChangeShapes.trodAll_mk1 (Go.RowKit.shut_bool htb true)
 ·rw [hsp,List.append_nil,List.append_nil]
  exact ZaM (ts:=[]) hlo hb tys hf hA (fun x hx=>hlt x (by simpa using hx))
 ·rw [hsp,hvars];rfl
end Go.Proofs.YtgfbgfafajiehaaGreatDoor.A

namespace Go.Proofs.YtgfbgfafajiehaaGreatDoor.A
set_option linter.unusedVariables false
set_option linter.unusedSimpArgs false
open Go.Proofs Go.Proofs.YtgfbgfafajiehaaGreatDoor
def ZeD : List (Nat × List Nat):=[]
def Zaa : List (Nat × List Nat):=[(13,[0]),(61,[]),(122,[3,19,20,21]),(978,[3,19,20,21]),(1958,[3,19,20,21]),(125341,[3,5,7,8,9,19,20,21]),(125343,[3,19,20,21])]
def Zd5 : List (Nat × List Nat):=[(13,[0]),(61,[]),(122,[3,23,24,25]),(978,[3,23,24,25]),(1958,[3,23,24,25]),(31333,[3,5,23,24,25]),(501373,[3,5,8,9,23,24,25]),(1002749,[3,5,8,23,24,25]),(8022013,[3,5,7,23,24,25]),(32088063,[3,23,24,25])]
def Zce : List (Nat × List Nat):=[(13,[0,1]),(61,[0,1,5]),(253,[]),(506,[5,6,27,28,29]),(4050,[5,6,27,28,29]),(8102,[5,6,27,28,29]),(259279,[5,6,27,28,29])]
abbrev QS : Nat:=6
def Kf : List (Nat × List Nat):=[(13,[0]),(29,[0])]
def WR : List (Nat × List Nat):=[(13,[0]),(61,[]),(122,[3,33,34,35]),(978,[3,33,34,35]),(1958,[3,33,34,35]),(501373,[3,5,6,7,8,9,10,11,33,34,35]),(1002749,[3,6,9,33,34,35]),(2005501,[3,9,33,34,35]),(8021994,[3,6,9,10,12,33,34,35]),(16043991,[3,6,9,33,34,35]),(32087977,[3,6,9,10,12,33,34,35]),(32088061,[3,9,13,14,33,34,35]),(32088063,[3,33,34,35]),(64176126,[3,9,13,33,34,35,136,137,138]),(128351911,[3,6,9,10,12,33,34,35]),(513409010,[3,9,13,33,34,35,136,137,138]),(1026818022,[3,9,13,33,34,35,136,137,138]),(65716353439,[3,9,13,33,34,35,136,137,138])]
def ZfG : List (Nat × List Nat):=[(13,[0,1,2]),(61,[1,2,7]),(122,[1,2,7,39,40,41]),(253,[1,2,7,10]),(978,[1,2,7,39,40,41]),(1958,[1,2,7,39,40,41]),(2045,[1,7,10]),(4093,[]),(8186,[7,10,95,96,97]),(65490,[7,10,95,96,97]),(130982,[7,10,95,96,97]),(16765757,[7,10,17,18,19,20,95,96,97]),(33531519,[7,10,95,96,97])]
abbrev QL : Nat:=9
def Zgm : List (Nat × List Nat):=[(29,[1])]
abbrev Kt : Nat:=10
def Zi0 : List (Nat × List Nat):=[(13,[0]),(26,[0,5,6,7]),(210,[0,5,6,7]),(422,[0,5,6,7]),(3379,[0,5,6,7])]
abbrev Zb0 : Nat:=11
def ZjH : List (Nat × List Nat):=[(29,[3])]
abbrev ZA : Nat:=12
def Zft : List (Nat × List Nat):=[(13,[0])]
abbrev Qe : Nat:=13
def Za6 : List (Nat × List Nat):=[(13,[])]
abbrev ZT : Nat:=14
def Zd2 : List (Nat × List Nat):=[(13,[0,3,4]),(29,[0,3,4]),(117,[0,3,4]),(471,[0,3,4]),(1887,[0,3,4])]
abbrev ZkH : Nat:=15
def Zj3 : List (Nat × List Nat):=[(13,[1]),(29,[1]),(58,[1,19,20,21]),(61,[]),(466,[1,19,20,21]),(934,[1,19,20,21]),(7475,[1,19,20,21])]
abbrev ZlE : Nat:=16
def ZkK : List (Nat × List Nat):=[(6,[]),(25,[]),(103,[])]
abbrev Z8 : Nat:=17
def ZdW : List (Nat × List Nat):=[]
abbrev JQ : Nat:=18
def Zco : List (Nat × List Nat):=[(13,[0,1])]
abbrev ZdI : Nat:=19
def Zk0 : List (Nat × List Nat):=[]
abbrev ZbF : Nat:=20
def ZaZ : List (Nat × List Nat):=[]
abbrev Yl : Nat:=21
def ZaP : List (Nat × List Nat):=[]
def Zi4 : List (Nat × List Nat):=[]
def Zj8 : List (Nat × List Nat):=[(29,[0,4,5,6])]
def ZhR : List (Nat × List Nat):=[]
abbrev QI : Nat:=25
def Zgv : List (Nat × List Nat):=[]
abbrev Qh : Nat:=26
def ZbO : List (Nat × List Nat):=[(13,[0])]
abbrev K9 : Nat:=27
def ZdC : List (Nat × List Nat):=[]
def Zcs : List (Nat × List Nat):=[]
abbrev ZfN : Nat:=29
def Ze4 : List (Nat × List Nat):=[(29,[3])]
abbrev Zdd : Nat:=30
def Zkl : List (Nat × List Nat):=[(13,[0,1,2,3]),(125,[10,11]),(253,[10])]
abbrev YM : Nat:=31
def Za8 : List (Nat × List Nat):=[(13,[]),(53,[]),(105,[0,4]),(423,[0,4])]
abbrev ZjZ : Nat:=32
def ZiE : List (Nat × List Nat):=[]
abbrev ZjO : Nat:=33
def Zik : List (Nat × List Nat):=[]
def Zg4 : List (Nat × List Nat):=[(13,[0]),(61,[3]),(122,[3,16,17,18]),(978,[3,16,17,18]),(1958,[3,16,17,18])]
def Zgs : List (Nat × List Nat):=[(13,[0]),(61,[3]),(122,[3,19,20,21]),(978,[3,19,20,21]),(1958,[3,19,20,21])]
def ZeS : List (Nat × List Nat):=[(13,[0,3,4])]
def Zbv : List (Nat × List Nat):=[(13,[0,1,2])]
def Zbt : List (Nat × List Nat):=[(13,[0,1,4])]
def ZgS : List (Nat × List Nat):=[(27,[0,3,4]),(30,[4,6,7]),(121,[4,6,7]),(125,[4,6]),(487,[4,6,7])]
def ZdX : List (Nat × List Nat):=[(13,[]),(53,[]),(215,[])]
abbrev ZjU : Nat:=41
def Zi1 : List (Nat × List Nat):=[(29,[2,3]),(58,[1,2,3,13]),(466,[1,2,3,13,14]),(467,[1,2,3,13]),(3739,[1,2,3,13]),(14957,[1,2,3,13]),(59831,[1,2,3,13]),(239327,[1,2,3,13]),(957311,[1,2,3,13])]
abbrev Zis : Nat:=42
def Zhj : List (Nat × List Nat):=[(13,[]),(53,[]),(215,[])]
abbrev Zil : Nat:=43
def Zif : List (Nat × List Nat):=[(29,[3]),(58,[1,3,15]),(466,[1,3,15,16]),(467,[1,3,15]),(3739,[1,3,15]),(14957,[1,3,15]),(59831,[1,3,15]),(239327,[1,3,15]),(957311,[1,3,15])]
def Zcg : List (Nat × List Nat):=[(29,[3]),(58,[3,10,11]),(466,[3,10,11]),(934,[3,10,11])]
def Kb : List (Nat × List Nat):=[(13,[0,1]),(29,[]),(58,[0,1,12,13]),(466,[0,1,12,13]),(934,[0,1,12,13]),(7475,[0,1,12,13])]
def ZdY : List (Nat × List Nat):=[]
def Zi5 : List (Nat × List Nat):=[]
def ZgG : List (Nat × List Nat):=[(13,[2,3,4,5]),(29,[2,3,4,5]),(105,[2,3,4,5]),(117,[2,3,4,5]),(471,[2,3,4,5]),(1887,[2,3,4,5])]
def Zcv : List (Nat × List Nat):=[(13,[0,1]),(29,[]),(58,[0,1,12,13]),(466,[0,1,12,13]),(934,[0,1,12,13]),(7475,[0,1,12,13])]
def ZiY : List (Nat × List Nat):=[(13,[1])]
def Zhp : List (Nat × List Nat):=[(13,[0,3]),(26,[0,3,7]),(210,[0,3,7]),(422,[0,3,7]),(6759,[0,3,7])]
def Zht : List (Nat × List Nat):=[(13,[0,3]),(29,[]),(58,[0,3,19]),(466,[0,3,19]),(934,[0,3,19]),(29901,[0,3,5,6,19]),(29903,[0,3,19])]
def Zgt : List (Nat × List Nat):=[(13,[0])]
abbrev YP : Nat:=54
def Zbg : List (Nat × List Nat):=[]
def Zbx : List (Nat × List Nat):=[]
def WH : List (Nat × List Nat):=[(29,[5]),(58,[1,5,11,12,13]),(466,[1,5,11,12,13]),(934,[1,5,11,12,13]),(7475,[1,5,11,12,13])]
def Zef : List (Nat × List Nat):=[]
def Zec : List (Nat × List Nat):=[]
def ZiN : List (Nat × List Nat):=[(59,[4]),(125,[4,6]),(509,[4,7]),(1018,[4,7,29,30]),(2043,[4,7]),(4093,[9,10]),(8146,[4,7,29,30]),(8189,[9]),(16294,[4,7,29,30])]
def Zig : List (Nat × List Nat):=[(59,[4]),(253,[4,6,7]),(1021,[4,6,8]),(2042,[4,6,8,32,33]),(4091,[4,6,8]),(8189,[10,11]),(16338,[4,6,8,32,33]),(16381,[10]),(32678,[4,6,8,32,33])]
abbrev ZS : Nat:=61
def Zbr : List (Nat × List Nat):=[]
abbrev JO : Nat:=62
def Zcz : List (Nat × List Nat):=[]
abbrev Zgy : Nat:=63
def Zfp : List (Nat × List Nat):=[]
abbrev ZaO : Nat:=64
def Zfs : List (Nat × List Nat):=[(29,[3]),(58,[0,3,7,8,9]),(466,[0,3,7,8,9]),(934,[0,3,7,8,9])]
abbrev Zgf : Nat:=65
def ZjD : List (Nat × List Nat):=[(13,[0,1,5]),(61,[])]
abbrev Ji : Nat:=66
def ZaS : List (Nat × List Nat):=[]
abbrev ZdR : Nat:=67
def Zck : List (Nat × List Nat):=[(61,[0]),(122,[0,17,18,19]),(978,[0,17,18,19]),(1958,[0,17,18,19])]
abbrev ZdH : Nat:=68
def ZcH : List (Nat × List Nat):=[]
abbrev ZgA : Nat:=69
def Zfq : List (Nat × List Nat):=[]
abbrev Zgz : Nat:=70
def Zfn : List (Nat × List Nat):=[(29,[3]),(58,[0,3,9,10,11]),(466,[0,3,9,10,11]),(934,[0,3,9,10,11])]
def ZbS : List (Nat × List Nat):=[(13,[0,1,2])]
def Za0 : List (Nat × List Nat):=[(61,[0,1,6]),(125,[0,1]),(253,[0,1]),(489,[]),(509,[])]
abbrev ZhB : Nat:=73
def ZgH : List (Nat × List Nat):=[(13,[1,2])]
def Zcl : List (Nat × List Nat):=[(13,[4,5]),(53,[4,5]),(215,[4,5]),(863,[4,5]),(3455,[4,5]),(13823,[4,5]),(55295,[4,5]),(221183,[4,5])]
def Zct : List (Nat × List Nat):=[(13,[4,5]),(53,[4,5]),(215,[4,5]),(863,[4,5]),(3455,[4,5]),(13823,[4,5]),(55295,[4,5]),(221183,[4,5]),(884735,[4,5]),(3538943,[4,5]),(14155775,[4,5])]
abbrev QF : Nat:=76
def Zbl : List (Nat × List Nat):=[]
def Zgw : List (Nat × List Nat):=[(29,[1,3]),(61,[1]),(125,[])]
def Zhu : List (Nat × List Nat):=[(13,[1,2,3,6])]
def ZgP : List (Nat × List Nat):=[(13,[1,2,3]),(29,[1,2,3]),(61,[])]
def ZjX : List (Nat × List Nat):=[(27,[2,3,4,5]),(29,[2,3,4,5]),(61,[2,3,4,5]),(125,[2,3,4,5]),(1001,[2,4,5]),(2005,[2,4,5]),(2045,[2,4,5,7,8,9]),(4093,[4,5,7,8])]
def ZiB : List (Nat × List Nat):=[(29,[1,2,4,7,8,10]),(61,[1,2,4,7,8]),(125,[1,2,4,7,8])]
def Zg1 : List (Nat × List Nat):=[]
def Zg3 : List (Nat × List Nat):=[]
def ZgU : List (Nat × List Nat):=[]
def Zib : List (Nat × List Nat):=[(29,[3]),(58,[3,6,7]),(466,[3,6,7]),(934,[3,6,7]),(14951,[3,6,7])]
def ZaY : List (Nat × List Nat):=[]
def ZgR : List (Nat × List Nat):=[]
def ZhD : List (Nat × List Nat):=[(29,[3]),(58,[1,3,10,11]),(466,[1,3,10,11]),(934,[1,3,10,11])]
def ZdQ : List (Nat × List Nat):=[(13,[0,1])]
def ZbC : List (Nat × List Nat):=[(3,[]),(6,[1,9,10]),(50,[1,9,10]),(102,[1,9,10]),(1639,[1,9,10])]
def ZaW : List (Nat × List Nat):=[(7,[]),(14,[1,17,18,19]),(114,[1,17,18,19]),(230,[1,17,18,19])]
def Jt : List (Nat × List Nat):=[(13,[0])]
abbrev Zip : Nat:=93
def ZhF : List (Nat × List Nat):=[]
def Zdh : List (Nat × List Nat):=[]
abbrev Zf6 : Nat:=98
def Zka : List (Nat × List Nat):=[]
abbrev Kd : Nat:=99
def Za4 : List (Nat × List Nat):=[]
abbrev QR : Nat:=100
def ZcG : List (Nat × List Nat):=[]
abbrev KH : Nat:=101
def ZcM : List (Nat × List Nat):=[]
abbrev Kh : Nat:=102
def Zbp : List (Nat × List Nat):=[(3,[])]
abbrev Zga : Nat:=103
def Zjx : List (Nat × List Nat):=[(13,[0,1,4]),(61,[0,1,4,5]),(125,[0,4,5]),(253,[4,5])]
abbrev ZkM : Nat:=104
def ZjQ : List (Nat × List Nat):=[(29,[0,4]),(58,[0,4,11,12,13]),(61,[0,4]),(122,[0,4,23,24,25]),(125,[4]),(466,[0,4,11,12,13]),(934,[0,4,11,12,13]),(978,[0,4,23,24,25]),(1958,[0,4,23,24,25]),(14951,[0,4,11,12,13]),(31333,[0,4,9,23,24,25])]
abbrev KK : Nat:=105
def Zcx : List (Nat × List Nat):=[(13,[0])]
abbrev ZdG : Nat:=106
def Zcm : List (Nat × List Nat):=[(29,[0,7]),(58,[0,2,7,10,11]),(61,[7]),(466,[0,2,7,10,11]),(934,[0,2,7,10,11])]
abbrev Zgb : Nat:=107
def Zjy : List (Nat × List Nat):=[(27,[0,1]),(61,[0,7]),(122,[0,7,23,24,25]),(125,[7]),(250,[7,36,37,38]),(978,[0,7,23,24,25]),(1958,[0,7,23,24,25]),(2002,[7,36,37,38]),(4006,[7,36,37,38]),(128205,[7,11,36,37,38]),(256410,[7,11,36,37,38,54,55,56]),(256415,[7,36,37,38]),(2051282,[7,11,36,37,38,54,55,56]),(4102566,[7,11,36,37,38,54,55,56]),(65641063,[7,11,36,37,38,54,55,56])]
def Zcr : List (Nat × List Nat):=[(13,[0]),(26,[0,1,7,8]),(210,[0,1,7,8]),(422,[0,1,7,8])]
abbrev Zez : Nat:=109
def ZdK : List (Nat × List Nat):=[]
abbrev Zc6 : Nat:=110
def Zhi : List (Nat × List Nat):=[(13,[0,3]),(59,[0,3]),(61,[3]),(125,[])]
def ZaU : List (Nat × List Nat):=[(13,[0])]
def ZgN : List (Nat × List Nat):=[(13,[0])]
def ZcE : List (Nat × List Nat):=[]
abbrev ZeV : Nat:=114
def ZdB : List (Nat × List Nat):=[]
abbrev ZdD : Nat:=115
def ZcB : List (Nat × List Nat):=[(29,[0,1,4,6])]
def Zcd : List (Nat × List Nat):=[]
def Y8 : List (Nat × List Nat):=[(13,[0])]
def Zdp : List (Nat × List Nat):=[(13,[0])]
def ZcF : List (Nat × List Nat):=[(13,[0,1]),(125,[8,9,10])]
def ZbZ : List (Nat × List Nat):=[(6,[0]),(25,[0]),(103,[0])]
def Zbd : List (Nat × List Nat):=[(30,[0,1,2]),(121,[0,1,2]),(487,[0,1,2]),(1951,[0,1,2])]
def ZbE : List (Nat × List Nat):=[(14,[0,1,2,7]),(57,[0,1,2,7]),(231,[0,1,2,7])]
def Zcu : List (Nat × List Nat):=[(30,[0,1,2,7]),(121,[0,1,2,7]),(487,[0,1,2,7]),(1951,[0,1,2,7])]
def Zat : List (Nat × List Nat):=[]
def ZaJ : List (Nat × List Nat):=[]
def Ze9 : List (Nat × List Nat):=[(27,[0,1,2])]
def Zd3 : List (Nat × List Nat):=[(27,[0,1,2])]
def Zes : List (Nat × List Nat):=[]
def Zbn : List (Nat × List Nat):=[]
def Zgr : List (Nat × List Nat):=[(13,[]),(53,[]),(105,[4,5]),(215,[]),(423,[4,5]),(429,[4,12]),(863,[]),(1695,[4,5]),(1719,[4,12]),(3455,[]),(6783,[4,5]),(6879,[4,12]),(27135,[4,5]),(27519,[4,12]),(110079,[4,12]),(440319,[4,12]),(1761279,[4,12]),(7045119,[4,12])]
def ZhO : List (Nat × List Nat):=[(61,[1,3,5]),(125,[1,3,5]),(253,[5])]
def Zh3 : List (Nat × List Nat):=[(13,[0]),(29,[])]
def Zgo : List (Nat × List Nat):=[]
def ZjE : List (Nat × List Nat):=[(29,[2,3]),(58,[2,3,6,7,8]),(466,[2,3,6,7,8]),(934,[2,3,6,7,8])]
def ZgB : List (Nat × List Nat):=[(61,[2,4,7,8]),(245,[2,4,7,8]),(983,[2,4,7,8]),(3935,[2,4,7,8]),(15743,[2,4,7,8])]
def ZfD : List (Nat × List Nat):=[(61,[2,4,7,8]),(245,[2,4,7,8]),(983,[2,4,7,8]),(3935,[2,4,7,8]),(15743,[2,4,7,8]),(62975,[2,4,7,8]),(251903,[2,4,7,8]),(1007615,[2,4,7,8]),(4030463,[2,4,7,8]),(16121855,[2,4,7,8]),(64487423,[2,4,7,8]),(257949695,[2,4,7,8]),(1031798783,[2,4,7,8]),(4127195135,[2,4,7,8]),(16508780543,[2,4,7,8])]
def ZgD : List (Nat × List Nat):=[(29,[5]),(58,[0,5,12,13,14]),(466,[0,5,12,13,14]),(934,[0,5,12,13,14])]
def Zix : List (Nat × List Nat):=[(29,[3]),(58,[3,10,11,12]),(466,[3,10,11,12]),(934,[3,10,11,12])]
abbrev ZeB : Nat:=139
def ZiV : List (Nat × List Nat):=[(29,[5]),(58,[0,5,6,7]),(466,[0,5,6,7]),(934,[0,5,6,7])]
abbrev Ziz : Nat:=140
def Zhe : List (Nat × List Nat):=[]
def ZiD : List (Nat × List Nat):=[(13,[1])]
abbrev Zbi : Nat:=142
def ZaR : List (Nat × List Nat):=[]
abbrev Zml : Nat:=143
def ZlI : List (Nat × List Nat):=[(13,[1])]
def Zim : List (Nat × List Nat):=[]
def ZcA : List (Nat × List Nat):=[(29,[5]),(58,[5,10,11,12]),(466,[5,10,11,12]),(934,[5,10,11,12])]
abbrev ZcR : Nat:=148
def ZbJ : List (Nat × List Nat):=[]
def ZaQ : List (Nat × List Nat):=[(29,[3])]
abbrev Qa : Nat:=150
def Zfj : List (Nat × List Nat):=[]
abbrev ZbV : Nat:=151
def Za1 : List (Nat × List Nat):=[(29,[5])]
abbrev Zh7 : Nat:=152
def Zgp : List (Nat × List Nat):=[(29,[1,5]),(58,[1,5,13,14,15]),(123,[1]),(125,[1]),(250,[1,35,36,37]),(466,[1,5,13,14,15]),(934,[1,5,13,14,15]),(2002,[1,35,36,37]),(4006,[1,35,36,37]),(29899,[1,5,7,13,14,15]),(64103,[1,35,36,37])]
abbrev Zj4 : Nat:=153
def ZiS : List (Nat × List Nat):=[]
abbrev Zci : Nat:=154
def Zbb : List (Nat × List Nat):=[(14,[0,1]),(57,[0,1]),(231,[0,1]),(927,[0,1])]
abbrev ZcI : Nat:=155
def Zbc : List (Nat × List Nat):=[(29,[2,7]),(123,[2,7])]
abbrev ZfV : Nat:=156
def ZeP : List (Nat × List Nat):=[(27,[0,1,2]),(29,[0,1,2]),(125,[0,1,8]),(507,[0,1,8])]
abbrev Qk : Nat:=157
def Kp : List (Nat × List Nat):=[]
def QY : List (Nat × List Nat):=[]
def ZhN : List (Nat × List Nat):=[(13,[]),(26,[5,6,7]),(210,[5,6,7]),(422,[5,6,7]),(3379,[5,6,7])]
abbrev Ks : Nat:=160
def ZiP : List (Nat × List Nat):=[(13,[])]
def ZiT : List (Nat × List Nat):=[(29,[])]
def ZiX : List (Nat × List Nat):=[(13,[0]),(59,[])]
def ZgK : List (Nat × List Nat):=[(13,[0]),(29,[0]),(58,[0,10,11,12]),(61,[]),(122,[0,6]),(466,[0,10,11,12]),(934,[0,10,11,12]),(977,[0,6]),(978,[0,6]),(3913,[0,6]),(14951,[0,10,11,12])]
def Wx : List (Nat × List Nat):=[]
def Qf : List (Nat × List Nat):=[]
def ZcC : List (Nat × List Nat):=[(27,[0,1,4]),(61,[4,7])]
def Zfu : List (Nat × List Nat):=[]
abbrev J7 : Nat:=168
def Zdw : List (Nat × List Nat):=[]
def Zcq : List (Nat × List Nat):=[(27,[0,1])]
def Zhs : List (Nat × List Nat):=[(13,[0]),(61,[3]),(122,[3,11,12,13]),(978,[3,11,12,13]),(1958,[3,11,12,13])]
def ZiR : List (Nat × List Nat):=[(13,[0]),(253,[0,7]),(509,[0]),(1018,[0,35,36,37]),(8146,[0,35,36,37]),(16294,[0,35,36,37]),(130355,[0,35,36,37])]
def Zbf : List (Nat × List Nat):=[(27,[0,1,2]),(62,[0,1,2,8]),(249,[0,1,2,8]),(999,[0,1,2,8])]
def ZaB : List (Nat × List Nat):=[(27,[0,1,2]),(29,[0,1,2]),(61,[0,1,2]),(125,[]),(250,[0,1,2,26,27,28]),(2002,[0,1,2,26,27,28]),(4006,[0,1,2,26,27,28])]
def Zbu : List (Nat × List Nat):=[(29,[6])]
def Zcf : List (Nat × List Nat):=[(27,[0,2])]
def ZaT : List (Nat × List Nat):=[(29,[2,7]),(123,[2,7])]
def Zdn : List (Nat × List Nat):=[(29,[0,6]),(125,[8])]
def WO : List (Nat × List Nat):=[(29,[6])]
def Zeg : List (Nat × List Nat):=[(29,[5]),(58,[1,2,5,8,9]),(466,[1,2,5,8,9]),(934,[1,2,5,8,9]),(7475,[1,2,5,8,9])]
def Zfl : List (Nat × List Nat):=[(13,[0,1,2]),(29,[0,1,2]),(61,[0,1,2]),(125,[0,1,2])]
def ZfK : List (Nat × List Nat):=[(13,[0,1]),(29,[0,1])]
def Zeu : List (Nat × List Nat):=[(13,[0,1,2]),(29,[0,1,2]),(125,[0,2,8])]
def ZfL : List (Nat × List Nat):=[(13,[0,1]),(61,[0,6])]
def Zh0 : List (Nat × List Nat):=[(13,[0,1]),(61,[6]),(122,[1,6,12,13,14]),(978,[1,6,12,13,14]),(1958,[1,6,12,13,14]),(15667,[1,6,12,13,14])]
def ZfE : List (Nat × List Nat):=[]
def Zfv : List (Nat × List Nat):=[]
def ZeJ : List (Nat × List Nat):=[(29,[2,3,6,8,9]),(61,[2,3,6,8,9]),(125,[2,3,6,8]),(253,[2,3,6,8])]
def ZfB : List (Nat × List Nat):=[]
def ZhP : List (Nat × List Nat):=[(29,[1,3])]
def Ze3 : List (Nat × List Nat):=[(61,[1,2,3,6,8,9,10,11]),(125,[1,3,6,8,9,10]),(253,[1,3,6,8,10]),(509,[3,6,8,10]),(1018,[1,3,6,8,10,41,42,43]),(8146,[1,3,6,8,10,41,42,43]),(16294,[1,3,6,8,10,41,42,43]),(130355,[1,3,6,8,10,41,42,43])]
def Zel : List (Nat × List Nat):=[(29,[2,3,6,8]),(61,[2,3,6,8])]
def ZfA : List (Nat × List Nat):=[(61,[1,2,3,6,8,9,11]),(125,[1,2,3,6,8,11]),(253,[1,2,3,6,8])]
def ZcN : List (Nat × List Nat):=[]
def Zcn : List (Nat × List Nat):=[(29,[1,2,4,6]),(253,[2,4,8]),(506,[1,2,4,8,27,28,29]),(4050,[1,2,4,8,27,28,29]),(8102,[1,2,4,8,27,28,29])]
def ZhU : List (Nat × List Nat):=[(29,[1,3,6,8]),(61,[1,3,6,8])]
def ZgL : List (Nat × List Nat):=[(29,[1,3,6,8]),(61,[1,3,6,8])]
def Zid : List (Nat × List Nat):=[(29,[2,6]),(61,[]),(122,[6,18,19,20]),(978,[6,18,19,20]),(1958,[6,18,19,20]),(15667,[6,18,19,20])]
def Zfb : List (Nat × List Nat):=[(13,[1,2]),(29,[1,2]),(125,[6]),(250,[1,6,18,19,20]),(2002,[1,6,18,19,20]),(4006,[1,6,18,19,20]),(32051,[1,6,18,19,20])]
abbrev ZiO : Nat:=199
def ZhX : List (Nat × List Nat):=[(29,[5])]
abbrev ZcP : Nat:=200
def Zb1 : List (Nat × List Nat):=[(13,[0,1])]
def ZaV : List (Nat × List Nat):=[(61,[0,1,6]),(125,[0,1]),(253,[0,1]),(489,[]),(509,[])]
abbrev Zc5 : Nat:=202
def ZhL : List (Nat × List Nat):=[(13,[0,1]),(26,[0,1,5]),(29,[]),(209,[0,1,5]),(210,[0,1,5]),(841,[0,1,5])]
def ZjI : List (Nat × List Nat):=[]
def Zbh : List (Nat × List Nat):=[(27,[0,1]),(61,[9])]
def ZdT : List (Nat × List Nat):=[(29,[6])]
def Ws : List (Nat × List Nat):=[]
abbrev Z3 : Nat:=207
def QE : List (Nat × List Nat):=[]
abbrev Zhz : Nat:=209
def ZgI : List (Nat × List Nat):=[(13,[0])]
def Zhf : List (Nat × List Nat):=[]
def Zhk : List (Nat × List Nat):=[]
abbrev ZkT : Nat:=212
def ZjT : List (Nat × List Nat):=[(13,[]),(26,[0,1,7,8]),(210,[0,1,7,8]),(422,[0,1,7,8]),(3379,[0,1,7,8])]
def QH : List (Nat × List Nat):=[]
def JV : List (Nat × List Nat):=[(29,[0,1,5]),(61,[0,5]),(122,[0,1,5,6]),(977,[0,1,5,6]),(978,[0,1,5,6]),(7827,[0,1,5,6])]
def ZcJ : List (Nat × List Nat):=[]
def ZgO : List (Nat × List Nat):=[(29,[5]),(58,[5,10,11,12]),(466,[5,10,11,12]),(934,[5,10,11,12]),(7475,[5,10,11,12])]
def Zdm : List (Nat × List Nat):=[]
abbrev Zlk : Nat:=219
def ZkG : List (Nat × List Nat):=[]
abbrev ZjS : Nat:=220
def ZiW : List (Nat × List Nat):=[(29,[3]),(58,[3,8,9,10]),(466,[3,8,9,10]),(934,[3,8,9,10]),(7475,[3,8,9,10])]
abbrev Zg6 : Nat:=221
def ZgQ : List (Nat × List Nat):=[]
abbrev ZfU : Nat:=222
def Zej : List (Nat × List Nat):=[]
def ZhK : List (Nat × List Nat):=[]
def Zgu : List (Nat × List Nat):=[]
abbrev Zh1 : Nat:=225
def Zgx : List (Nat × List Nat):=[(13,[]),(26,[6,7,8]),(210,[6,7,8]),(422,[6,7,8]),(6759,[6,7,8])]
def Zaq : List (Nat × List Nat):=[]
def Zin : List (Nat × List Nat):=[(13,[]),(26,[0,1,5]),(210,[0,1,5]),(422,[0,1,5]),(3377,[0,1,5])]
abbrev Zc8 : Nat:=228
def Zh9 : List (Nat × List Nat):=[]
def Zhc : List (Nat × List Nat):=[]
def Zh8 : List (Nat × List Nat):=[(13,[]),(26,[1,7,8,9]),(210,[1,7,8,9]),(422,[1,7,8,9]),(3379,[1,7,8,9])]
def ZiH : List (Nat × List Nat):=[(61,[3,5,6]),(122,[3,5,6,9,10,11]),(125,[5]),(978,[3,5,6,9,10,11]),(1958,[3,5,6,9,10,11]),(31333,[3,5,6,8,9,10,11]),(31335,[3,5,6,9,10,11])]
def ZhQ : List (Nat × List Nat):=[(29,[5]),(58,[1,5,8,9,10]),(466,[1,5,8,9,10]),(934,[1,5,8,9,10]),(7475,[1,5,8,9,10])]
def Zfz : List (Nat × List Nat):=[]
abbrev ZiK : Nat:=234
def Zh5 : List (Nat × List Nat):=[(13,[1,2,4]),(61,[2,4,6])]
abbrev ZjK : Nat:=235
def ZiQ : List (Nat × List Nat):=[]
abbrev ZiU : Nat:=236
def Zih : List (Nat × List Nat):=[(13,[0]),(62,[0,4]),(124,[0,4]),(253,[0,4]),(497,[0,4]),(993,[0,4]),(2045,[0,5,6]),(4090,[0,5,6,7]),(4093,[0]),(32721,[0,5,6,7]),(32722,[0,5,6,7]),(130889,[0,5,6,7]),(1047113,[0,5,7]),(1047117,[0,5,6,7])]
def ZhM : List (Nat × List Nat):=[(13,[1,2,4]),(29,[1,2,4]),(61,[1,2,4])]
abbrev Zij : Nat:=238
def Zia : List (Nat × List Nat):=[(13,[1,2,4]),(29,[1,2,4]),(125,[1,2,4,6]),(250,[1,2,4,6,23,24,25]),(509,[4,6,9]),(1018,[1,4,6,9,38,39,40]),(2002,[1,2,4,6,23,24,25]),(4006,[1,2,4,6,23,24,25]),(8146,[1,4,6,9,38,39,40]),(16294,[1,4,6,9,38,39,40]),(32051,[1,2,4,6,23,24,25]),(130355,[1,4,6,9,38,39,40])]
abbrev ZfQ : Nat:=239
def ZeF : List (Nat × List Nat):=[(29,[5]),(58,[1,5,8,9,10]),(466,[1,5,8,9,10]),(934,[1,5,8,9,10]),(7475,[1,5,8,9,10])]
def ZfS : List (Nat × List Nat):=[(29,[1,3,6,8,9]),(61,[6,8])]
def Ziu : List (Nat × List Nat):=[(13,[]),(26,[1,7,8,9]),(210,[1,7,8,9]),(422,[1,7,8,9]),(3379,[1,7,8,9])]
def ZfP : List (Nat × List Nat):=[(29,[3]),(58,[3,10,11,12]),(466,[3,10,11,12]),(934,[3,10,11,12]),(14949,[3,5,10,11,12]),(119613,[5,6,7,10,11,12]),(239226,[5,6,7,10,11,12,19,20,21]),(239229,[6,10,11,12]),(1913810,[5,6,7,10,11,12,19,20,21]),(3827622,[5,6,7,10,11,12,19,20,21]),(61241957,[5,6,7,9,10,11,12,19,20,21])]
def Zgn : List (Nat × List Nat):=[(13,[])]
def Zcp : List (Nat × List Nat):=[]
def ZY : List (Nat × List Nat):=[(13,[2]),(26,[2]),(53,[])]
abbrev Zw : Nat:=246
def Qz : List (Nat × List Nat):=[(7,[]),(14,[0,1,2,3,4,10,11]),(28,[0,1,2,3,4,10,11]),(453,[0,1,2,3,4,10,11,12]),(909,[0,1,2,3,4,10,11,12]),(1821,[0,1,2,3,4,10,11,12]),(7293,[0,1,2,3,4,10,11,12,13,14]),(14589,[0,1,2,3,4,10,11,12,13]),(29181,[0,1,2,3,4,12,13]),(58357,[0,1,2,3,4,10,11,12,13]),(466943,[0,1,2,3,4,10,11])]
abbrev JB : Nat:=247
def WJ : List (Nat × List Nat):=[(6,[0])]
def Ziy : List (Nat × List Nat):=[]
abbrev Yq : Nat:=250
def Yn : List (Nat × List Nat):=[(13,[]),(26,[0,1,7,8]),(210,[0,1,7,8]),(422,[0,1,7,8]),(3379,[0,1,7,8])]
def Zch : List (Nat × List Nat):=[(27,[])]
def Kx : List (Nat × List Nat):=[(27,[0])]
def ZbH : List (Nat × List Nat):=[(13,[0,1,2,3]),(29,[0,1,2,3]),(61,[0,1,2,3]),(1022,[0,9,10]),(2044,[0,1,2,3,9,10]),(8177,[0,1,2,3,9,10]),(16353,[0,1,2,3,9,10]),(130837,[0,1,2,3,9,10,11])]
def Q1 : List (Nat × List Nat):=[]
def ZjW : List (Nat × List Nat):=[(13,[]),(26,[0,1,5]),(209,[0,1,5]),(210,[0,1,5]),(841,[0,1,5])]
abbrev Zf1 : Nat:=256
def Zj7 : List (Nat × List Nat):=[(13,[]),(26,[0,1,5]),(209,[0,1,5]),(210,[0,1,5]),(841,[0,1,5])]
abbrev ZiA : Nat:=257
def ZhV : List (Nat × List Nat):=[(61,[4]),(122,[0,3,4,5]),(977,[0,3,4,5]),(978,[0,3,4,5]),(15653,[0,3,4,5,6]),(31306,[0,3,4,5,6,19]),(250450,[0,3,4,5,6,19]),(500902,[0,3,4,5,6,19]),(4007219,[0,3,4,5,6,19])]
abbrev Zev : Nat:=258
def ZiC : List (Nat × List Nat):=[(13,[]),(26,[1,7,8,9]),(210,[1,7,8,9]),(422,[1,7,8,9]),(3379,[1,7,8,9])]
abbrev Zx : Nat:=259
def Z9 : List (Nat × List Nat):=[(3,[]),(6,[0,1,2,3,8]),(49,[0,1,2,3,8]),(50,[0,1,2,3,8]),(201,[0,1,2,3,8]),(402,[0,1,2,3,8,9]),(3217,[0,1,2,3,8,9]),(3218,[0,1,2,3,8,9])]
abbrev Yo : Nat:=260
def J9 : List (Nat × List Nat):=[(61,[0,3,8,9,10]),(63,[]),(122,[0,3,8,9,10,11]),(126,[0,3,8,9,12]),(977,[0,3,8,9,10,11]),(978,[0,3,8,9,10,11]),(1009,[0,3,8,9,12]),(1010,[0,3,8,9,12])]
abbrev Jr : Nat:=261
def Jn : List (Nat × List Nat):=[(7,[]),(119,[]),(238,[0,1,8,9,10,11]),(1905,[0,1,8,9,10,11]),(1906,[0,1,8,9,10,11]),(30501,[0,1,8,9,10,11,12])]
abbrev JK : Nat:=262
def Jy : List (Nat × List Nat):=[(509,[11,13]),(511,[]),(2045,[]),(4073,[0,3,11,12,13,14]),(8183,[])]
abbrev JA : Nat:=263
def Js : List (Nat × List Nat):=[(7,[]),(14,[0,8,9]),(57,[0,8,9]),(113,[0,8,9])]
abbrev QN : Nat:=264
def QK : List (Nat × List Nat):=[(29,[]),(58,[0,1,2,3,9,10]),(465,[0,1,2,3,9,10]),(466,[0,1,2,3,9,10]),(1864,[0,1,2,3,9,10]),(3728,[0,1,2,3,9,10]),(7461,[0,1,2,3,9,10]),(14913,[0,1,2,3,9,10]),(14925,[0,1,2,3,9,10]),(29825,[0,1,2,3,9,10]),(59709,[0,1,2,3,9,10]),(59711,[0,1,2,3,9,10]),(238837,[0,1,2,3,9,10]),(238845,[0,1,2,3,9,10]),(477674,[0,1,2,3,9,10,11]),(477690,[0,1,2,3,9,10,12]),(3821393,[0,1,2,3,9,10,11]),(3821394,[0,1,2,3,9,10,11]),(3821521,[0,1,2,3,9,10,12]),(3821522,[0,1,2,3,9,10,12]),(30571153,[0,1,2,3,9,10,11]),(30572177,[0,1,2,3,9,10,12])]
abbrev Jq : Nat:=265
def Jg : List (Nat × List Nat):=[(30,[11]),(60,[0,1,4,11,12]),(120,[0,1,4,11,12]),(480,[0,1,4,11,12]),(960,[0,1,4,11,12]),(962,[0,1,4,11,12]),(1924,[0,1,4,11,12]),(3841,[0,1,4,11,12]),(3853,[0,1,4,11,12]),(7681,[0,1,4,11,12]),(7697,[0,1,4,11,12]),(15393,[0,1,4,11,12])]
abbrev Yg : Nat:=266
def JZ : List (Nat × List Nat):=[(30,[0,1,4,12,13]),(60,[0,1,4,12,13]),(62,[0,1,4,12,13]),(124,[0,1,4,12,13]),(241,[0,1,4,12,13]),(253,[0,1,4,12,13]),(481,[0,1,4,12,13]),(497,[0,1,4,12,13]),(993,[0,1,4,12,13]),(2046,[0,1,13]),(4092,[0,1,4,12,13]),(8184,[0,1,4,12,13]),(32736,[0,1,4,12,13]),(65472,[0,1,4,12,13]),(65474,[0,1,4,12,13]),(130948,[0,1,4,12,13]),(261889,[0,1,4,12,13]),(261901,[0,1,4,12,13]),(523777,[0,1,4,12,13]),(523793,[0,1,4,12,13]),(1047585,[0,1,4,12,13])]
abbrev Zet : Nat:=267
def Zdl : List (Nat × List Nat):=[(13,[0,2]),(29,[0,2])]
abbrev Q5 : Nat:=268
def K2 : List (Nat × List Nat):=[(13,[0,2]),(29,[0,2]),(61,[0,2])]
def Y5 : List (Nat × List Nat):=[(14,[0,1,5]),(57,[0,1,5]),(231,[0,1,5]),(927,[0,1,5]),(1022,[]),(2044,[0,1,5,6,7,8,9,10]),(3711,[0,1,5]),(8177,[0,1,5,6,7,8,9,10]),(16353,[0,1,5,6,7,8,9,10]),(65417,[0,1,5,6,7,8,9,10]),(130837,[0,1,5,6,7,8,9,10]),(523359,[0,1,5,6,7,8,9,10]),(1046677,[0,1,5,6,7,8,9,10,11]),(2093439,[0,1,5,6,7,8,9,10]),(8373749,[]),(33495029,[8,13])]
abbrev Zdq : Nat:=270
def ZcK : List (Nat × List Nat):=[(29,[0,1]),(125,[0,1,6]),(250,[0,1,6,7]),(253,[6]),(2001,[0,1,6,7]),(2002,[0,1,6,7])]
abbrev Zfw : Nat:=271
def Ze6 : List (Nat × List Nat):=[(13,[0,1]),(29,[0,1]),(31,[]),(62,[0,1,5]),(124,[0,1,5]),(1989,[0,1,5,6])]
abbrev WM : Nat:=272
def Zfi : List (Nat × List Nat):=[]
abbrev QC : Nat:=274
def Ye : List (Nat × List Nat):=[(3,[]),(6,[0,2,3,4,10]),(12,[0,2,3,4,10]),(197,[0,2,3,4,10,11]),(397,[0,2,3,4,10,11]),(797,[0,2,3,4,10,11])]
abbrev Wo : Nat:=275
def K6 : List (Nat × List Nat):=[]
abbrev Zam : Nat:=276
def WG : List (Nat × List Nat):=[]
def Jc : List (Nat × List Nat):=[]
def YE : List (Nat × List Nat):=[]
abbrev Qs : Nat:=279
def JW : List (Nat × List Nat):=[]
abbrev QJ : Nat:=280
abbrev K1 : Nat:=281
def Kw : List (Nat × List Nat):=[]
abbrev Q7 : Nat:=282
def Q0 : List (Nat × List Nat):=[(125,[0,1,5,6,7,8]),(250,[0,1,5,6,7,8,9]),(253,[0,1,5,6,7,8]),(509,[]),(1018,[0,1,5,6,7,8,10]),(2001,[0,1,5,6,7,8,9]),(2002,[0,1,5,6,7,8,9]),(4073,[0,1,5,6,7,8,10]),(8145,[0,1,5,6,7,8,10]),(260703,[0,1,5,6,7,8,10])]
abbrev Qq : Nat:=283
def JY : List (Nat × List Nat):=[(13,[2]),(26,[2,4]),(210,[2,4]),(211,[2,4])]
abbrev J0 : Nat:=284
def JM : List (Nat × List Nat):=[(13,[2,3])]
abbrev Yz : Nat:=285
def YF : List (Nat × List Nat):=[(13,[1,2])]
abbrev Yh : Nat:=288
def J1 : List (Nat × List Nat):=[(29,[0,4]),(58,[0,4,5]),(125,[4,6]),(250,[4,6,7,8]),(465,[0,4,5]),(466,[0,4,5]),(2001,[4,6,7,8]),(2002,[4,6,7,8]),(16017,[4,6,7,8])]
def Jh : List (Nat × List Nat):=[(29,[0,4]),(253,[0,4,5,6]),(2045,[0,5,8,9]),(8189,[0,5,8,10]),(16381,[0,5,8,10]),(65533,[0,5,8,10,11]),(131069,[0,5,10,11]),(524285,[5,10,11,12])]
def Zcy : List (Nat × List Nat):=[(29,[7])]
def ZcO : List (Nat × List Nat):=[(29,[5])]
def Ze8 : List (Nat × List Nat):=[(27,[0,3])]
def ZbP : List (Nat × List Nat):=[(29,[7])]
def Zit : List (Nat × List Nat):=[]
def Zeo : List (Nat × List Nat):=[]
def ZgF : List (Nat × List Nat):=[(13,[])]
def Zdy : List (Nat × List Nat):=[]
def ZaX : List (Nat × List Nat):=[]
def ZhZ : List (Nat × List Nat):=[]
def Zdx : List (Nat × List Nat):=[(13,[0]),(29,[])]
def JX : List (Nat × List Nat):=[]
def ZcD : List (Nat × List Nat):=[(14,[0,1,2]),(57,[0,1,2]),(231,[0,1,2]),(927,[0,1,2]),(3711,[0,1,2])]
def ZcQ : List (Nat × List Nat):=[(27,[0,1])]
def Zd7 : List (Nat × List Nat):=[(27,[0,3])]
def Za7 : List (Nat × List Nat):=[(14,[0,1,2,7]),(57,[0,1,2,7]),(231,[0,1,2,7]),(927,[0,1,2,7]),(3711,[0,1,2,7])]
def Zaf : List (Nat × List Nat):=[(29,[5]),(58,[0,1,5,11,12,13]),(466,[0,1,5,11,12,13]),(934,[0,1,5,11,12,13])]
def ZdZ : List (Nat × List Nat):=[]
def Zd8 : List (Nat × List Nat):=[]
def Zmy : List (Nat × List (Nat × List Nat))→Nat→List (Nat × List Nat)
 | [],_=>[]
 | (i,l) :: t,g=>bif Nat.beq i g then l else Zmy t g
def lvs : Nat→List (Nat × List Nat):=Zmy [(2,ZeD),(3,Zaa),(4,Zd5),(5,Zce),(6,Kf),(7,WR),(8,ZfG),(9,Zgm),(10,Zi0),(11,ZjH),(12,Zft),(13,Za6),(14,Zd2),(15,Zj3),(16,ZkK),(17,ZdW),(18,Zco),(19,Zk0),(20,ZaZ),(21,ZaP),(22,Zi4),(23,Zj8),(24,ZhR),(25,Zgv),(26,ZbO),(27,ZdC),(28,Zcs),(29,Ze4),(30,Zkl),(31,Za8),(32,ZiE),(33,Zik),(34,Zg4),(35,Zgs),(36,ZeS),(37,Zbv),(38,Zbt),(39,ZgS),(40,ZdX),(41,Zi1),(42,Zhj),(43,Zif),(44,Zcg),(45,Kb),(46,ZdY),(47,Zi5),(48,ZgG),(49,Zcv),(50,ZiY),(51,Zhp),(52,Zht),(53,Zgt),(54,Zbg),(55,Zbx),(56,WH),(57,Zef),(58,Zec),(59,ZiN),(60,Zig),(61,Zbr),(62,Zcz),(63,Zfp),(64,Zfs),(65,ZjD),(66,ZaS),(67,Zck),(68,ZcH),(69,Zfq),(70,Zfn),(71,ZbS),(72,Za0),(73,ZgH),(74,Zcl),(75,Zct),(76,Zbl),(77,Zgw),(78,Zhu),(79,ZgP),(80,ZjX),(81,ZiB),(82,Zg1),(83,Zg3),(84,ZgU),(85,Zib),(86,ZaY),(87,ZgR),(88,ZhD),(89,ZdQ),(90,ZbC),(91,ZaW),(92,Jt),(93,ZhF),(96,Zdh),(98,Zka),(99,Za4),(100,ZcG),(101,ZcM),(102,Zbp),(103,Zjx),(104,ZjQ),(105,Zcx),(106,Zcm),(107,Zjy),(108,Zcr),(109,ZdK),(110,Zhi),(111,ZaU),(112,ZgN),(113,ZcE),(114,ZdB),(115,ZcB),(116,Zcd),(117,Y8),(118,Zdp),(119,ZcF),(120,ZbZ),(121,Zbd),(122,ZbE),(123,Zcu),(124,Zat),(125,ZaJ),(126,Ze9),(127,Zd3),(128,Zes),(129,Zbn),(130,Zgr),(131,ZhO),(132,Zh3),(133,Zgo),(134,ZjE),(135,ZgB),(136,ZfD),(137,ZgD),(138,Zix),(139,ZiV),(140,Zhe),(141,ZiD),(142,ZaR),(143,ZlI),(145,Zim),(147,ZcA),(148,ZbJ),(149,ZaQ),(150,Zfj),(151,Za1),(152,Zgp),(153,ZiS),(154,Zbb),(155,Zbc),(156,ZeP),(157,Kp),(158,QY),(159,ZhN),(160,ZiP),(161,ZiT),(162,ZiX),(163,ZgK),(164,Wx),(165,Qf),(166,ZcC),(167,Zfu),(168,Zdw),(169,Zcq),(170,Zhs),(171,ZiR),(172,Zbf),(173,ZaB),(174,Zbu),(175,Zcf),(176,ZaT),(177,Zdn),(178,WO),(179,Zeg),(180,Zfl),(181,ZfK),(182,Zeu),(183,ZfL),(184,Zh0),(185,ZfE),(186,Zfv),(187,ZeJ),(188,ZfB),(189,ZhP),(190,Ze3),(191,Zel),(192,ZfA),(193,ZcN),(194,Zcn),(195,ZhU),(196,ZgL),(197,Zid),(198,Zfb),(199,ZhX),(200,Zb1),(201,ZaV),(202,ZhL),(203,ZjI),(204,Zbh),(205,ZdT),(206,Ws),(207,QE),(209,ZgI),(210,Zhf),(211,Zhk),(212,ZjT),(213,QH),(215,JV),(216,ZcJ),(217,ZgO),(218,Zdm),(219,ZkG),(220,ZiW),(221,ZgQ),(222,Zej),(223,ZhK),(224,Zgu),(225,Zgx),(226,Zaq),(227,Zin),(228,Zh9),(229,Zhc),(230,Zh8),(231,ZiH),(232,ZhQ),(233,Zfz),(234,Zh5),(235,ZiQ),(236,Zih),(237,ZhM),(238,Zia),(239,ZeF),(240,ZfS),(241,Ziu),(242,ZfP),(243,Zgn),(244,Zcp),(245,ZY),(246,Qz),(247,WJ),(248,Ziy),(250,Yn),(251,Zch),(252,Kx),(253,ZbH),(254,Q1),(255,ZjW),(256,Zj7),(257,ZhV),(258,ZiC),(259,Z9),(260,J9),(261,Jn),(262,Jy),(263,Js),(264,QK),(265,Jg),(266,JZ),(267,Zdl),(268,K2),(269,Y5),(270,ZcK),(271,Ze6),(272,Zfi),(274,Ye),(275,K6),(276,WG),(277,Jc),(278,YE),(279,JW),(281,Kw),(282,Q0),(283,JY),(284,JM),(286,YF),(288,J1),(289,Jh),(305,Zcy),(306,ZcO),(307,Ze8),(308,ZbP),(309,Zit),(310,Zeo),(311,ZgF),(312,Zdy),(313,ZaX),(314,ZhZ),(315,Zdx),(316,JX),(317,ZcD),(318,ZcQ),(319,Zd7),(320,Za7),(321,Zaf),(322,ZdZ),(330,Zd8)]
end Go.Proofs.YtgfbgfafajiehaaGreatDoor.A

