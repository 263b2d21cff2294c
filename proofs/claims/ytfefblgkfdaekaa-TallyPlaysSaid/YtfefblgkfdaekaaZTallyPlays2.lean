/- What the law TallyPlays needs (part 2). -/
import Derived.Test.YtfefblgkfdaekaaZTallyPlays1
import Derived.CallsIn
import Derived.TacticsIn
import Derived.OrdersIn
import Derived.LoopNIn
import Derived.Laws.Externs
import Derived.RangeFuncIn
import Derived.RangeFuncRecord
import Derived.RangeFuncLeaves
import Derived.ChangeArms
import Derived.ChangeOld
import Derived.Below
import Derived.Carry
import Derived.ProofKit
import Derived.Laws.LoneSync
import Derived.Test.YtfefblgkfdaekaaProg
import Derived.KernelRfl
namespace Go.Proofs.Ytfefblgkfdaekaa.A
set_option linter.unusedVariables false
set_option linter.unusedSimpArgs false
def FR (rd : Option Nat) : Fence:={ Fence.wide with round:=rd }
def _root_.Go.Oper.wpX (rd : Option Nat) (P : Program) (o : Oper) (a : Act) (w : World) (next : Act→World→Prop) (Q : Exit→Act→World→Prop) : Prop:=
 o.uponIn (FR rd) 0 P a next Q ((execOp a.eval o).run P w)
theorem Zdp {rd : Option Nat} {P : Program} {o : Oper} {a : Act} {w : World} {next : Act→World→Prop} {Q : Exit→Act→World→Prop} (hd : ∀ c,o.op≠.defer c) (h : o.wpX rd P a w next Q) : o.wpIn (FR rd) 0 P a w next Q:=by
 refine ⟨fun _ _=>trivial,?_⟩
 rw [Oper.semAt_eq _ _ _ hd]
 exact h
theorem KZ {rd : Option Nat} {n : Nat} {P : Program} {g : FuncId} {args : Array Value} {w : World} {R : Ending→World→Prop} (h : Calls P g args w R) : CallsIn (FR rd) n P g args w R:=
 show CallsIn Fence.wide n P g args w R from callsIn_wide.2 h
theorem Zdc {rd : Option Nat} {n : Nat} {P : Program} {l : Nat} {f : FuncId} {tmps : Array Value} {assign body : Code} {w : World} {R : Ending→World→Prop} (h : RoundIn Fence.wide n P l f tmps assign body w R) : RoundIn (FR rd) n P l f tmps assign body w R:=h
def YH (l : List Nat) : List Deferred:=l.map fun b=>{ target:=.collected b,args:=#[] }
structure St (G : Nat) (w0 : Zg) (N : Nat) (ι : Nat→Option Loc) (r : Zf) (H : Zb) (a : Act) (w : World) : Prop where
 sim : Sim G w0 ι H w
 regs : ∀ t,RV ι (Zk r t) (a.tmps.getD t undef)
 size : a.tmps.size=N
 defers : a.defers=YH w0.own
def Zbn (P : Program) (g : FuncId) : Prop := ∃ fn, P.funcs[g]? = some fn ∧ (fn.name == "runtime.NumGoroutine") = false ∧ fn.body.isNone = false
def KJ (P : Program) (g : FuncId) (e : Array Value→Sem Value) : Prop:=
 ∃ fn, P.funcs[g]? = some fn ∧ (fn.name == "runtime.NumGoroutine") = false ∧ fn.body.isNone = true ∧ Extern.findNext fn = none ∧ Extern.find fn = some e
def ZaO (P : Program) (G : Nat) (w0 : Zg) (g : FuncId) (v : Value) (args : List Value) (H H1 : Zb) : Prop:=
 Zbn P g∧∀ ι w args',Sim G w0 ι H w→RVs ι args args'→
  Calls P g args'.toArray w fun e w'=>∃ ι1 v',Le ι ι1∧e=.returned v'∧RV ι1 v v'∧Sim G w0 ι1 H1 w'
def Zds (P : Program) (G : Nat) (w0 : Zg) (g : FuncId) (v : Value) (args : List Value) (H H1 : Zb) : Prop:=
 ∃ e,KJ P g e∧∀ ι w args',Sim G w0 ι H w→RVs ι args args'→Res G w0 ι v H1 ((e args'.toArray).run P w)
def Zdi (P : Program) (G : Nat) (w0 : Zg) (L : Nat) (v : Value) (args : List Value) (H H1 : Zb) : Prop:=
 ∀ ι w args' l,ι L=some l→Sim G w0 ι H w→RVs ι args args'→∃ f tmps asg bd,(Instr.yield l.blk args'.toArray).run P w=.ok (.round l.blk f tmps asg bd) w∧
  RoundIn Fence.wide 0 P l.blk f tmps asg bd w fun e w'=>∃ ι1 v',Le ι ι1∧e=.returned v'∧RV ι1 v v'∧Sim G w0 ι1 H1 w'
def Jf (P : Program) (G : Nat) (w0 : Zg) (g : FuncId) (m : List Value→M Value) : Prop:=
 ∀ args H v H1,m args H=some (v,H1)→(g < JM∧(ZaO P G w0 g v args H H1∨Zds P G w0 g v args H H1))∨(JM≤g∧Zdi P G w0 (g - JM) v args H H1)
section
variable {P : Program} {Γ : Zp} {w0 : Zg} {N : Nat} {ι : Nat→Option Loc} {r : Zf} {H : Zb} {a : Act} {w : World} {ρ : Operand→Value} {rd : Option Nat}
theorem St.put {G : Nat} (h : St G w0 N ι r H a w) {ι1 : Nat→Option Loc} {H1 : Zb} {w1 : World} (hl : Le ι ι1) (hs : Sim G w0 ι1 H1 w1) {v v' : Value} (hv : RV ι1 v v') {d : Option Nat}
  (hd : ∀ x,d=some x→x < N) : St G w0 N ι1 (J0 r d v) H1 (a.put d v') w1:=by
 cases d with
 | none=>exact ⟨hs,fun t=>(h.regs t).mono hl,h.size,h.defers⟩
 | some d=>
  have hlt:=hd d rfl
  refine ⟨hs,fun t=>?_,by simp [Act.put,h.size],h.defers⟩
  simp only [J0,Zk,Act.put]
  by_cases e : d=t
  ·subst e
   simpa [h.size,hlt] using hv
  ·have e1 : Nat.beq d t=false:=by
    cases h : Nat.beq d t with
    | false=>rfl
    | true=>exact absurd (Nat.eq_of_beq_eq_true h) e
   have:=(h.regs t).mono hl
   simpa [e1,Array.getElem?_setIfInBounds_ne e] using this
theorem St.ev (h : St P.globals.size w0 N ι r H a w) {x : Operand} (hx : Jn P x=true) : RV ι (A.ev r x) (a.eval x):=by
 cases x with
 | tmp t=>exact h.regs t
 | const v=>exact .const hx
 | global g=>
  obtain ⟨l,h1,h2,h3⟩:=h.sim.glob g (by simpa [Jn] using hx)
  have:=RV.ptr (o:=0) h1
  rwa [h2,h3] at this
 | func f=>exact .fn (fun l e=>by cases e) rfl (by simp) rfl (by simp)
theorem bind_some {α β : Type} {m : M α} {k : α→M β} {H : Zb} {x : β × Zb} (h : A.bind m k H=some x) : ∃ v H1,m H=some (v,H1)∧k v H1=some x:=by
 unfold A.bind at h
 split at h
 ·cases h
 ·exact ⟨_,_,by assumption,h⟩
theorem Ks {β : Type} {H : Zb} {x : β × Zb} (h : (fail : M β) H=some x) : False:=by cases h
theorem Zc {β : Type} {k : Value→M β} {H : Zb} {x : β × Zb} (h : Yl (.cmp fail) k H=some x) : False:=by cases h
def Zas {β : Type} (P : Program) (w0 : Zg) (ι : Nat→Option Loc) (a : Act) (dst : Option Tmp) (k : Value→M β) (x : β × Zb) (next : Act→World→Prop) : Prop:=
 ∀ ι1 v v' H1 w1,Le ι ι1→RV ι1 v v'→Sim P.globals.size w0 ι1 H1 w1→k v H1=some x→next (a.put dst v') w1
theorem Zi {β : Type} {o : Oper} {k : Value→M β} {x : β × Zb} {next : Act→World→Prop} {Q : Exit→Act→World→Prop} {s : Sem Value} {v : Value} {H1 : Zb}
  (hx : (execOp a.eval o).run P w=(s.run P w).andThen fun v w=>.ok (.value v) w) (hr : Res P.globals.size w0 ι v H1 (s.run P w)) (hk : k v H1=some x)
  (hn : Zas P w0 ι a o.dst k x next) : o.wpX rd P a w next Q:=by
 obtain ⟨ι1,v',w1,h1,h2,h3,h4⟩:=hr
 unfold Oper.wpX
 rw [hx,h4]
 exact hn ι1 v v' H1 w1 h1 h3 h2 hk
theorem KE {β : Type} {o : Oper} {k : Value→M β} {x : β × Zb} {next : Act→World→Prop} {Q : Exit→Act→World→Prop} {s : Sem Unit} {v : Value} {H1 : Zb}
  (hx : (execOp a.eval o).run P w=(s.run P w).andThen fun _ w=>.ok .skip w) (hr : v=undef∧Zcf P.globals.size w0 ι H1 (s.run P w)) (hk : k v H1=some x)
  (hn : Zas P w0 ι a o.dst k x next) : o.wpX rd P a w next Q:=by
 obtain ⟨rfl,ι1,w1,h1,h2,h4⟩:=hr
 unfold Oper.wpX
 rw [hx,h4]
 exact hn ι1 undef undef H1 w1 h1 .un h2 hk
theorem WF {β : Type} {o : Oper} {k : Value→M β} {x : β × Zb} {next : Act→World→Prop} {Q : Exit→Act→World→Prop} {v v' : Value}
  (hS : Sim P.globals.size w0 ι H w) (hx : (execOp a.eval o).run P w=.ok (.value v') w) (hv : RV ι v v') (hk : k v H=some x)
  (hn : Zas P w0 ι a o.dst k x next) : o.wpX rd P a w next Q:=by
 unfold Oper.wpX
 rw [hx]
 exact hn ι v v' H w (.refl ι) hv hS hk
theorem Zl (s : Sem Value) : (do pure (Next.value (← s)) : Sem Next).run P w=(s.run P w).andThen fun v w=>.ok (.value v) w:=by
 simp only [Sem.run_bind,Sem.run_pure]
theorem Yv (s : Sem Unit) : (do s;pure Next.skip : Sem Next).run P w=(s.run P w).andThen fun _ w=>.ok .skip w:=by
 simp only [Sem.run_bind,Sem.run_pure]
theorem Zcr {β : Type} {o : Oper} {c : Call} {f : Operand} {k : Value→M β} {x : β × Zb} {next : Act→World→Prop} {Q : Exit→Act→World→Prop}
  (hS : Sim P.globals.size w0 ι H w) (hΓ : ∀ g,Jf P P.globals.size w0 g (Γ g)) (ho : o.op=.call c) (hf : c.callee=.value f)
  (hcf : RV ι (ρ f) (a.eval f)) (hca : ∀ y∈c.args.toList,RV ι (ρ y) (a.eval y)) (h : A.bind (ZbH Γ (ρ f) (c.args.toList.map ρ)) k H=some x)
  (hn : Zas P w0 ι a o.dst k x next) : o.wpX rd P a w next Q:=by
 obtain ⟨v,H1,h1,hk⟩:=bind_some h
 generalize hm : ZbH Γ (ρ f) (c.args.toList.map ρ)=m at h1
 unfold ZbH at hm
 split at hm
 ·rename_i g first captured hev
  cases hgy : Nat.blt g JM with
  | false=>rw [hgy] at hm;simp only [cond_false] at hm;subst hm;exact (Ks h1).elim
  | true=>
  rw [hgy] at hm
  subst hm
  have hgy' : g < JM:=by simpa using hgy
  simp only [cond_true] at h1
  have hvf:=hcf
  rw [hev] at hvf
  obtain ⟨first',captured',hev',hr1,hr2⟩:=hvf.fn_inv
  have hargs : ∀ l : List Operand,(∀ y∈l,RV ι (ρ y) (a.eval y))→RVs ι (l.map ρ) (l.map a.eval):=by
   intro l
   induction l with
   | nil=>intro _;exact .nil
   | cons y l ih=>intro hl;exact .cons (hl y (by simp)) (ih fun z hz=>hl z (by simp [hz]))
  have e : ∀ X : Sem Next,(execOp a.eval o)=(do let d ← resolve a.eval c o.type;invoke d.target d.args):=by
   intro _;unfold execOp;rw [ho]
  rcases hΓ g _ _ _ _ h1 with ⟨_,⟨⟨fn,hfn,hname,hbody⟩,hcalls⟩ | ⟨ex,⟨fn,hfn,hname,hbody,hfnx,hfe⟩,hres⟩⟩ | ⟨hno,_⟩
  ·have hc:=hcalls ι w _ hS (hr1.append ((hargs _ hca).append hr2))
   have hrun : (execOp a.eval o).run P w=.ok (.enter g (first'.toList++(c.args.toList.map a.eval++captured'.toList)).toArray) w:=by
    rw [e (pure .skip)]
    simp only [resolve,hf,hev',Deferred.ofValue,Sem.run_bind,Sem.run_pure,Result.andThen_ok,invoke,callFunc,run_program,hfn,hname,hbody,Bool.false_eq_true,if_false]
    congr 2
    apply Array.ext'
    simp
   unfold Oper.wpX
   rw [hrun,Oper.uponIn_enter]
   refine ⟨(fun h=>by cases h),KZ (hc.mono fun e w' he=>?_)⟩
   obtain ⟨ι1,v',hle,rfl,hv,hs⟩:=he
   exact hn ι1 v v' H1 w' hle hv hs hk
  ·refine Zi (s:=ex (first'.toList++(c.args.toList.map a.eval++captured'.toList)).toArray) ?_ (hres ι w _ hS (hr1.append ((hargs _ hca).append hr2))) hk hn
   rw [e (pure .skip)]
   have harr : (first'++c.args.map a.eval++captured')=(first'.toList++(c.args.toList.map a.eval++captured'.toList)).toArray:=by
    apply Array.ext';simp
   simp only [resolve,hf,hev',Deferred.ofValue,Sem.run_bind,Sem.run_pure,Result.andThen_ok,invoke,run_callFunc_extern hfn hname hbody hfnx hfe]
   first | rw [harr] | (congr 3;apply Array.ext';simp)
  ·exact absurd hgy' (Nat.not_lt_of_le hno)
 ·rename_i L ca cb hev
  subst hm
  have hvf:=hcf
  rw [hev] at hvf
  obtain ⟨rfl,rfl,l,hl,hev'⟩:=hvf.yl_inv
  have hargs : ∀ l : List Operand,(∀ y∈l,RV ι (ρ y) (a.eval y))→RVs ι (l.map ρ) (l.map a.eval):=by
   intro l
   induction l with
   | nil=>intro _;exact .nil
   | cons y l ih=>intro hl;exact .cons (hl y (by simp)) (ih fun z hz=>hl z (by simp [hz]))
  rcases hΓ _ _ _ _ _ h1 with ⟨hno,_⟩ | ⟨_,hY⟩
  ·exact absurd hno (Nat.not_lt_of_le (Nat.le_add_right _ _))
  rw [Nat.add_sub_cancel_left] at hY
  obtain ⟨f',tmps,asg,bd,hy,hr⟩:=hY ι w _ l hl hS (hargs _ hca)
  have hrun : (execOp a.eval o).run P w=.ok (.round l.blk f' tmps asg bd) w:=by
   have e : (execOp a.eval o)=(do let d ← resolve a.eval c o.type;invoke d.target d.args):=by unfold execOp;rw [ho]
   rw [e]
   rw [← hy]
   simp only [resolve,hf,hev',Deferred.ofValue,Sem.run_bind,Sem.run_pure,Result.andThen_ok,invoke]
   congr 2
   apply Array.ext'
   simp
  unfold Oper.wpX
  rw [hrun,Oper.uponIn_round]
  refine ⟨(fun h=>by cases h),Zdc (hr.mono fun e w' he=>?_)⟩
  obtain ⟨ι1,v',hle,rfl,hv,hs⟩:=he
  exact hn ι1 v v' H1 w' hle hv hs hk
 ·subst hm;exact (Ks h1).elim
theorem Zcv {β : Type} {o : Oper} {c : Call} {f : Operand} {nm : String} {k : Value→M β} {x : β × Zb} {next : Act→World→Prop} {Q : Exit→Act→World→Prop}
  (hS : Sim P.globals.size w0 ι H w) (hΓ : ∀ g,Jf P P.globals.size w0 g (Γ g)) (ho : o.op=.call c) (hf : c.callee=.invoke f nm)
  (hcf : RV ι (ρ f) (a.eval f)) (hca : ∀ y∈c.args.toList,RV ι (ρ y) (a.eval y)) (h : A.bind (ZbD P Γ (ρ f) nm (c.args.toList.map ρ)) k H=some x)
  (hn : Zas P w0 ι a o.dst k x next) : o.wpX rd P a w next Q:=by
 obtain ⟨v,H1,h1,hk⟩:=bind_some h
 generalize hm : ZbD P Γ (ρ f) nm (c.args.toList.map ρ)=m at h1
 unfold ZbD at hm
 split at hm
 ·rename_i t y hev
  split at hm
  ·rename_i g hg
   subst hm
   have hvf:=hcf
   rw [hev] at hvf
   obtain ⟨y',hev',hy⟩:=hvf.ifc_inv
   have hargs : ∀ l : List Operand,(∀ y∈l,RV ι (ρ y) (a.eval y))→RVs ι (l.map ρ) (l.map a.eval):=by
    intro l
    induction l with
    | nil=>intro _;exact .nil
    | cons y l ih=>intro hl;exact .cons (hl y (by simp)) (ih fun z hz=>hl z (by simp [hz]))
   unfold Zep at hg
   split at hg
   ·rename_i i e hi hu
    split at hg
    ·rename_i mt hmt
     split at hg
     ·rename_i g2 hp hfn2
      cases hgy : Nat.blt g2 JM with
      | false=>rw [hgy] at hg;cases hg
      | true=>
      rw [hgy] at hg
      cases hg
      have hgy' : g < JM:=by simpa using hgy
      have hmeth : ∀ n,(method (n+1) t y' nm).run P w=.ok (g,y') w:=by
       intro n
       simp [method,run_typeInfo w hi,hmt,hp,follow,hfn2,receiverAt,run_underlying hu,Place.get]
      have e : (execOp a.eval o)=(do let d ← resolve a.eval c o.type;invoke d.target d.args):=by unfold execOp;rw [ho]
      have hrun1 : (execOp a.eval o).run P w=(callFunc g ((y' :: c.args.toList.map a.eval).toArray)).run P w:=by
       rw [e]
       simp only [resolve,hf,hev',Sem.run_bind,Sem.run_pure,Result.andThen_ok,invoke]
       have h0 : ((#[Value.iface t y'] : Array Value)++c.args.map a.eval)[0]?=some (.iface t y'):=by
        rw [← Array.getElem?_toList];simp
       have h2 : ((#[Value.iface t y'] : Array Value)++c.args.map a.eval).extract 1 ((#[Value.iface t y'] : Array Value)++c.args.map a.eval).size=c.args.map a.eval:=by
        apply Array.ext'
        simp only [Array.toList_extract,Array.toList_append,List.extract_eq_take_drop]
        simp
        exact List.take_of_length_le (by simp)
       rw [h0]
       simp only [h2,callMethod,Sem.run_bind,run_program,Result.andThen_ok]
       have h3:=hmeth (P.types.size+Made.depth - 1)
       rw [show P.types.size+Made.depth - 1+1=P.types.size+Made.depth from Nat.sub_add_cancel (Nat.le_trans (by decide) (Nat.le_add_left _ _))] at h3
       rw [h3]
       simp only [Result.andThen_ok]
       congr 2
       apply Array.ext';simp
      rcases hΓ g _ _ _ _ h1 with ⟨_,⟨⟨fn,hfn,hname,hbody⟩,hcalls⟩ | ⟨ex,⟨fn,hfn,hname,hbody,hfnx,hfe⟩,hres⟩⟩ | ⟨hno,_⟩
      ·have hc:=hcalls ι w _ hS (.cons hy (hargs _ hca))
       have hrun : (execOp a.eval o).run P w=.ok (.enter g (y' :: c.args.toList.map a.eval).toArray) w:=by
        rw [hrun1]
        simp only [callFunc,Sem.run_bind,run_program,Result.andThen_ok,hfn,hname,hbody,Bool.false_eq_true,if_false,Sem.run_pure]
       unfold Oper.wpX
       rw [hrun,Oper.uponIn_enter]
       refine ⟨(fun h=>by cases h),KZ (hc.mono fun e w' he=>?_)⟩
       obtain ⟨ι1,v',hle,rfl,hv,hs⟩:=he
       exact hn ι1 v v' H1 w' hle hv hs hk
      ·refine Zi (s:=ex (y' :: c.args.toList.map a.eval).toArray) ?_ (hres ι w _ hS (.cons hy (hargs _ hca))) hk hn
       rw [hrun1,run_callFunc_extern hfn hname hbody hfnx hfe]
      ·exact absurd hgy' (Nat.not_lt_of_le hno)
     ·cases hg
    ·cases hg
   ·cases hg
  ·subst hm;exact (Ks h1).elim
 ·subst hm;exact (Ks h1).elim
theorem JB {o : Oper} {c : Call} {b : Builtin} (ho : o.op=.call c) (hf : c.callee=.builtin b) :
  ∃ consts,∀ w,(execOp a.eval o).run P w=(builtin b c.argTypes o.type consts (c.args.map a.eval)).run P w:=by
 have e : (execOp a.eval o)=(do let d ← resolve a.eval c o.type;invoke d.target d.args):=by unfold execOp;rw [ho]
 refine ⟨c.args.map fun | .const _=>true | _=>false,fun w=>?_⟩
 rw [e]
 simp only [resolve,hf,Sem.run_bind,Sem.run_pure,Result.andThen_ok,invoke]
 rfl
theorem Y0 {α : Type} {c : Array α} {x : α} (h : c.toList=[x]) : c=#[x]:=by
 apply Array.ext';simpa using h
theorem Jy {α : Type} {c : Array α} {x y : α} (h : c.toList=[x,y]) : c=#[x,y]:=by
 apply Array.ext';simpa using h
theorem Zci {β : Type} {o : Oper} {c : Call} {k : Value→M β} {x : β × Zb} {next : Act→World→Prop} {Q : Exit→Act→World→Prop}
  (hS : Sim P.globals.size w0 ι H w) (hΓ : ∀ g,Jf P P.globals.size w0 g (Γ g)) (ho : o.op=.call c)
  (hc : ∀ y∈c.operands.toList,RV ι (ρ y) (a.eval y)) (h : Yl (Yz P Γ ρ c) k H=some x) (hn : Zas P w0 ι a o.dst k x next) : o.wpX rd P a w next Q:=by
 have hargs : ∀ y∈c.args.toList,RV ι (ρ y) (a.eval y):=fun y hy=>hc y (by
  simp only [Call.operands,Array.toList_append,List.mem_append]
  exact .inr hy)
 generalize hm : Yz P Γ ρ c=m at h
 unfold Yz at hm
 split at hm
 ·rename_i f hf
  subst hm
  exact Zcr hS hΓ ho hf (hc f (by simp [Call.operands,hf])) hargs h hn
 ·rename_i r nm hf
  subst hm
  exact Zcv hS hΓ ho hf (hc r (by simp [Call.operands,hf])) hargs h hn
 ·
  rename_i y t hf ha ht
  have hy:=hargs y (by simp [ha])
  obtain ⟨consts,hrun⟩:=JB (P:=P) (a:=a) ho hf
  rw [Y0 ha,Y0 ht] at hrun
  split at hm
  ·subst hm
   obtain ⟨v,H1,h1,hk⟩:=bind_some h
   exact Zi (s:=Builtin.len_ #[t] o.type #[a.eval y]) (by rw [hrun];simp [builtin]) (Zd7 hS (by assumption) hy h1 _) hk hn
  ·subst hm
   obtain ⟨v,H1,h1,hk⟩:=bind_some h
   exact Zi (s:=Builtin.len_ #[t] o.type #[a.eval y]) (by rw [hrun];simp [builtin]) (ZdZ hS (by assumption) hy h1 _) hk hn
  ·subst hm
   obtain ⟨v,H1,h1,hk⟩:=bind_some h
   exact Zi (s:=Builtin.len_ #[t] o.type #[a.eval y]) (by rw [hrun];simp [builtin]) (Zej hS (by assumption) hy h1) hk hn
  ·subst hm;exact (Zc h).elim
 ·
  rename_i s y t u hf ha ht
  have hs:=hargs s (by simp [ha])
  have hy:=hargs y (by simp [ha])
  obtain ⟨consts,hrun⟩:=JB (P:=P) (a:=a) ho hf
  rw [Jy ha,Jy ht] at hrun
  split at hm
  ·rename_i e d hue hud
   cases he : okE P e with
   | false=>rw [he] at hm;subst hm;exact (Zc h).elim
   | true=>
    rw [he] at hm;subst hm
    obtain ⟨v,H1,h1,hk⟩:=bind_some h
    exact Zi (s:=Builtin.append_ #[t,u] o.type #[a.eval s,a.eval y]) (by rw [hrun];simp [builtin]) (ZcO hS hue (.inl ⟨_,hud⟩) he hs hy h1) hk hn
  ·rename_i e hue hud
   cases he : okE P e with
   | false=>rw [he] at hm;subst hm;exact (Zc h).elim
   | true=>
    rw [he] at hm;subst hm
    obtain ⟨v,H1,h1,hk⟩:=bind_some h
    exact Zi (s:=Builtin.append_ #[t,u] o.type #[a.eval s,a.eval y]) (by rw [hrun];simp [builtin]) (ZcO hS hue (.inr hud) he hs hy h1) hk hn
  ·subst hm;exact (Zc h).elim
 ·
  rename_i ts y z hf ha
  have hy:=hargs y (by simp [ha])
  have hz:=hargs z (by simp [ha])
  obtain ⟨consts,hrun⟩:=JB (P:=P) (a:=a) ho hf
  rw [Jy ha] at hrun
  subst hm
  obtain ⟨v,H1,h1,hk⟩:=bind_some h
  exact Zi (s:=Builtin.max_ c.argTypes o.type #[a.eval y,a.eval z]) (by rw [hrun];simp [builtin]) (ZcN (mx:=true) (tys:=c.argTypes) (ty:=o.type) hS hy hz h1) hk hn
 ·
  rename_i ts y z hf ha
  have hy:=hargs y (by simp [ha])
  have hz:=hargs z (by simp [ha])
  obtain ⟨consts,hrun⟩:=JB (P:=P) (a:=a) ho hf
  rw [Jy ha] at hrun
  subst hm
  obtain ⟨v,H1,h1,hk⟩:=bind_some h
  exact Zi (s:=Builtin.min_ c.argTypes o.type #[a.eval y,a.eval z]) (by rw [hrun];simp [builtin]) (ZcN (mx:=false) (tys:=c.argTypes) (ty:=o.type) hS hy hz h1) hk hn
 ·
  rename_i d y t u hf ha ht
  have hd:=hargs d (by simp [ha])
  have hy:=hargs y (by simp [ha])
  obtain ⟨consts,hrun⟩:=JB (P:=P) (a:=a) ho hf
  rw [Jy ha,Jy ht] at hrun
  split at hm
  ·rename_i e hue
   cases he : okE P e with
   | false=>rw [he] at hm;subst hm;exact (Zc h).elim
   | true=>
    rw [he] at hm;subst hm
    obtain ⟨v,H1,h1,hk⟩:=bind_some h
    exact Zi (s:=Builtin.copy_ #[t,u] o.type #[a.eval d,a.eval y]) (by rw [hrun];simp [builtin]) (Zex hS hue he hd hy h1) hk hn
  ·subst hm;exact (Zc h).elim
 ·
  rename_i y t hf ha ht
  have hy:=hargs y (by simp [ha])
  obtain ⟨consts,hrun⟩:=JB (P:=P) (a:=a) ho hf
  rw [Y0 ha,Y0 ht] at hrun
  split at hm
  ·rename_i e hue
   cases he : okE P e with
   | false=>rw [he] at hm;subst hm;exact (Zc h).elim
   | true=>
    rw [he] at hm;subst hm
    obtain ⟨v,H1,h1,hk⟩:=bind_some h
    exact Zi (s:=Builtin.clear_ #[t] o.type #[a.eval y]) (by rw [hrun];simp [builtin]) (Zbx hS hue he hy h1) hk hn
  ·rename_i kt e hue
   subst hm
   obtain ⟨v,H1,h1,hk⟩:=bind_some h
   exact Zi (s:=Builtin.clear_ #[t] o.type #[a.eval y]) (by rw [hrun];simp [builtin]) (Zcu hS hue hy h1) hk hn
  ·subst hm;exact (Zc h).elim
 ·
  rename_i m1 y t u hf ha ht
  have hm1:=hargs m1 (by simp [ha])
  have hy:=hargs y (by simp [ha])
  obtain ⟨consts,hrun⟩:=JB (P:=P) (a:=a) ho hf
  rw [Jy ha,Jy ht] at hrun
  split at hm
  ·rename_i kt e hue
   subst hm
   obtain ⟨v,H1,h1,hk⟩:=bind_some h
   exact Zi (s:=Builtin.delete_ #[t,u] o.type #[a.eval m1,a.eval y]) (by rw [hrun];simp [builtin]) (ZeE hS hue hm1 hy h1) hk hn
  ·subst hm;exact (Zc h).elim
 ·subst hm;exact (Zc h).elim
theorem RO.map {x : Option Operand} (h : ∀ y,x=some y→RV ι (ρ y) (a.eval y)) : RO ι (x.map ρ) (x.map a.eval):=by
 cases x with
 | none=>trivial
 | some y=>exact h y rfl
theorem RVs.map {l : List Operand} (h : ∀ y∈l,RV ι (ρ y) (a.eval y)) : RVs ι (l.map ρ) (l.map a.eval):=by
 induction l with
 | nil=>exact .nil
 | cons y l ih=>exact .cons (h y (by simp)) (ih fun z hz=>h z (by simp [hz]))
theorem PR.struct {fs : Array Field} : ∀ {ps : List (Nat × Operand)} {l : List (Nat × Nat × Value)},(∀ p∈ps,RV ι (ρ p.2) (a.eval p.2))→
  (ps.mapM fun p=>match fs[p.1]? with | some f=>some (f.offset,szT P f.type,ρ p.2) | none=>none)=some l→
  PR ι (fun i=>(fs[i]?).map fun f=>(f.offset,szT P f.type)) l (ps.map fun p=>(p.1,a.eval p.2))
 | [],l,_,h=>by simp at h;subst h;exact .nil
 | p :: ps,l,hr,h=>by
  simp only [List.mapM_cons] at h
  cases hf : fs[p.1]? with
  | none=>simp [hf] at h
  | some f=>
   simp only [hf] at h
   simp only [Option.bind_eq_bind,Option.bind_some] at h
   cases hl : (ps.mapM fun p=>match fs[p.1]? with | some f=>some (f.offset,szT P f.type,ρ p.2) | none=>none) with
   | none=>rw [hl] at h;simp at h
   | some l'=>
    rw [hl] at h
    simp at h
    subst h
    exact .cons (by simp [hf]) (hr p (by simp)) (PR.struct (fun q hq=>hr q (by simp [hq])) hl)
theorem PR.arr {n : Nat} : ∀ {ps : List (Nat × Operand)},(∀ p∈ps,RV ι (ρ p.2) (a.eval p.2))→
  PR ι (fun i=>some (i * n,n)) (ps.map fun p=>(p.1 * n,n,ρ p.2)) (ps.map fun p=>(p.1,a.eval p.2))
 | [],_=>.nil
 | p :: ps,hr=>.cons rfl (hr p (by simp)) (PR.arr fun q hq=>hr q (by simp [hq]))
theorem Zc1 {β : Type} {o : Oper} {op : Op} {k : Value→M β} {x : β × Zb} {next : Act→World→Prop} {Q : Exit→Act→World→Prop}
  (hS : Sim P.globals.size w0 ι H w) (hΓ : ∀ g,Jf P P.globals.size w0 g (Γ g)) (ho : o.op=op)
  (hc : ∀ y∈op.operands.toList,RV ι (ρ y) (a.eval y)) (h : Jc P Γ ρ op k H=some x) (hn : Zas P w0 ι a o.dst k x next) : o.wpX rd P a w next Q:=by
 cases op with
 | move y=>
  exact WF hS (by unfold execOp;rw [ho];rfl) (hc y (by simp [Op.operands])) h hn
 | assign y=>
  exact WF hS (by unfold execOp;rw [ho];rfl) (hc y (by simp [Op.operands])) h hn
 | pick c y z=>
  obtain ⟨v,H1,h1,hk⟩:=bind_some h
  exact Zi (s:=do pure (if ← asBool (a.eval c) then a.eval y else a.eval z)) (by simp only [execOp,ho,Sem.run_bind,Sem.run_pure];cases (asBool (a.eval c)).run P w <;> rfl)
   (Zek hS (hc c (by simp [Op.operands])) (hc y (by simp [Op.operands])) (hc z (by simp [Op.operands])) h1) hk hn
 | extract t i=>
  obtain ⟨v,H1,h1,hk⟩:=bind_some h
  exact Zi (s:=Instr.extract (a.eval t) i) (by unfold execOp;rw [ho];exact Zl _) (ZdP hS (hc t (by simp [Op.operands])) h1) hk hn
 | nilCheck y=>
  obtain ⟨v,H1,h1,hk⟩:=bind_some h
  have hy:=hc y (by simp [Op.operands])
  unfold YS at h1
  split at h1
  ·rename_i b hev
   cases h1
   rw [hev] at hy
   obtain ⟨b',hb',hb2⟩:=hy.ptr_none
   cases b' with
   | none=>simp at hb2
   | some b'=>
    exact WF hS (v':=.pointer (some b')) (by unfold execOp;rw [ho];simp only [hb'];rfl) (by rw [← hb'];exact hy) hk hn
  ·rename_i f p q hev
   cases h1
   rw [hev] at hy
   obtain ⟨p',q',hb',_⟩:=hy.fn_inv
   exact WF hS (v':=.func (.func f) p' q') (by unfold execOp;rw [ho];simp only [hb'];rfl) (by rw [← hb'];exact hy) hk hn
  ·cases h1
 | binOp bo t y z t2=>
  obtain ⟨v,H1,h1,hk⟩:=bind_some h
  exact Zi (s:=do eqGuard bo t y z (a.eval y) (a.eval z);binOp bo t (a.eval y) (a.eval z)) (by unfold execOp;rw [ho];exact Zl (P:=P) (w:=w) _)
   (ZeC hS (hc y (by simp [Op.operands])) (hc z (by simp [Op.operands])) h1) hk hn
 | unOp uo t y=>
  obtain ⟨v,H1,h1,hk⟩:=bind_some h
  exact Zi (s:=Op.unary uo (a.eval y)) (by unfold execOp;rw [ho];exact Zl _) (Zez hS (hc y (by simp [Op.operands])) h1) hk hn
 | convert s d y=>
  have hy:=hc y (by simp [Op.operands])
  unfold Jc at h
  generalize hm : opM P Γ ρ (.convert s d y)=m at h
  unfold opM at hm
  simp only at hm
  have hx : ∀ w,(execOp a.eval o).run P w=((convert s d (a.eval y)).run P w).andThen fun v w=>.ok (.value v) w:=fun w=>by unfold execOp;rw [ho];exact Zl _
  split at hm
  ·subst hm
   obtain ⟨v,H1,h1,hk⟩:=bind_some h
   exact Zi (hx w) (Zes hS (by assumption) (by assumption) hy h1) hk hn
  ·subst hm
   obtain ⟨v,H1,h1,hk⟩:=bind_some h
   exact Zi (hx w) (ZeK hS (by assumption) (by assumption) hy h1) hk hn
  ·split at hm
   ·subst hm
    obtain ⟨v,H1,h1,hk⟩:=bind_some h
    exact Zi (hx w) (ZeW hS (by assumption) (by assumption) (by assumption) hy h1) hk hn
   ·subst hm;exact (Zc h).elim
  ·split at hm
   ·subst hm
    obtain ⟨v,H1,h1,hk⟩:=bind_some h
    exact Zi (hx w) (ZeO hS (by assumption) (by assumption) (by assumption) hy h1) hk hn
   ·subst hm;exact (Zc h).elim
  ·rename_i hu1 hu2
   split at hm
   ·rename_i hu3
    cases hb : Nat.beq s d with
    | false=>rw [hb] at hm;subst hm;exact (Zc h).elim
    | true=>
     rw [hb] at hm
     have:=Nat.eq_of_beq_eq_true hb
     subst this
     subst hm
     obtain ⟨v,H1,h1,hk⟩:=bind_some h
     exact Zi (hx w) (ZeJ hS hu1 hu2 hu3 hy h1) hk hn
   ·subst hm;exact (Zc h).elim
  ·subst hm;exact (Zc h).elim
 | fieldAddr s y f=>
  have hy:=hc y (by simp [Op.operands])
  unfold Jc at h
  generalize hm : opM P Γ ρ (.fieldAddr s y f)=m at h
  unfold opM at hm
  simp only at hm
  split at hm
  ·split at hm
   ·rename_i fd hfd
    cases hz : Nat.beq (szT P fd.type) 0 with
    | true=>rw [hz] at hm;subst hm;exact (Zc h).elim
    | false=>
     rw [hz] at hm;subst hm
     obtain ⟨v,H1,h1,hk⟩:=bind_some h
     exact Zi (s:=Instr.fieldAt s (a.eval y) f) (by unfold execOp;rw [ho];exact Zl _)
      (Zfa hS (by assumption) hfd (fun e=>by rw [e] at hz;cases hz) hy h1) hk hn
   ·subst hm;exact (Zc h).elim
  ·subst hm;exact (Zc h).elim
 | field s y f=>
  have hy:=hc y (by simp [Op.operands])
  unfold Jc at h
  generalize hm : opM P Γ ρ (.field s y f)=m at h
  unfold opM at hm
  simp only at hm
  split at hm
  ·split at hm
   ·split at hm
    ·subst hm
     obtain ⟨v,H1,h1,hk⟩:=bind_some h
     exact Zi (s:=Instr.field s (a.eval y) f) (by unfold execOp;rw [ho];exact Zl _) (Zev hS (by assumption) (by assumption) (by assumption) hy h1) hk hn
    ·subst hm;exact (Zc h).elim
   ·subst hm;exact (Zc h).elim
  ·subst hm;exact (Zc h).elim
 | indexAddr t y i=>
  have hy:=hc y (by simp [Op.operands])
  have hi:=hc i (by simp [Op.operands])
  unfold Jc at h
  generalize hm : opM P Γ ρ (.indexAddr t y i)=m at h
  unfold opM at hm
  simp only at hm
  have hx : ∀ w,(execOp a.eval o).run P w=((Instr.indexAt t (a.eval y) (a.eval i)).run P w).andThen fun v w=>.ok (.value v) w:=fun w=>by unfold execOp;rw [ho];exact Zl _
  split at hm
  ·rename_i e hu
   cases he : P.info? e with
   | none=>rw [he] at hm;subst hm;exact (Zc h).elim
   | some ie=>
    rw [he] at hm;subst hm
    obtain ⟨v,H1,h1,hk⟩:=bind_some h
    exact Zi (hx w) (ZeM hS hu he hy hi h1) hk hn
  ·rename_i n e hu
   cases he : P.info? e with
   | none=>rw [he] at hm;subst hm;exact (Zc h).elim
   | some ie=>
    rw [he] at hm;subst hm
    obtain ⟨v,H1,h1,hk⟩:=bind_some h
    exact Zi (hx w) (Zd8 hS hu he hy hi h1) hk hn
  ·subst hm;exact (Zc h).elim
 | index t y i=>
  have hy:=hc y (by simp [Op.operands])
  have hi:=hc i (by simp [Op.operands])
  unfold Jc at h
  generalize hm : opM P Γ ρ (.index t y i)=m at h
  unfold opM at hm
  simp only at hm
  have hx : ∀ w,(execOp a.eval o).run P w=((Instr.index t (a.eval y) (a.eval i)).run P w).andThen fun v w=>.ok (.value v) w:=fun w=>by unfold execOp;rw [ho];exact Zl _
  split at hm
  ·subst hm
   obtain ⟨v,H1,h1,hk⟩:=bind_some h
   exact Zi (hx w) (ZeI hS (by assumption) hy hi h1) hk hn
  ·split at hm
   ·subst hm
    obtain ⟨v,H1,h1,hk⟩:=bind_some h
    exact Zi (hx w) (ZeS hS (by assumption) (by assumption) hy hi h1) hk hn
   ·subst hm;exact (Zc h).elim
  ·subst hm;exact (Zc h).elim
 | load t y=>
  have hy:=hc y (by simp [Op.operands])
  unfold Jc at h
  generalize hm : opM P Γ ρ (.load t y)=m at h
  unfold opM at hm
  simp only at hm
  have hx : ∀ w,(execOp a.eval o).run P w=((Instr.loadAt t (a.eval y)).run P w).andThen fun v w=>.ok (.value v) w:=fun w=>by unfold execOp;rw [ho];exact Zl _
  split at hm
  ·subst hm
   obtain ⟨v,H1,h1,hk⟩:=bind_some h
   exact Zi (hx w) (ZeU hS (by assumption) hy h1) hk hn
  ·subst hm
   obtain ⟨v,H1,h1,hk⟩:=bind_some h
   exact Zi (hx w) (ZdB hS (by assumption) hy h1) hk hn
  ·subst hm;exact (Zc h).elim
 | store t y z=>
  have hy:=hc y (by simp [Op.operands])
  have hz:=hc z (by simp [Op.operands])
  unfold Jc at h
  generalize hm : opM P Γ ρ (.store t y z)=m at h
  unfold opM at hm
  simp only at hm
  have hx : ∀ w,(execOp a.eval o).run P w=((Instr.storeAt t (a.eval y) (a.eval z)).run P w).andThen fun _ w=>.ok .skip w:=fun w=>by unfold execOp;rw [ho];exact Yv _
  split at hm
  ·subst hm
   obtain ⟨v,H1,h1,hk⟩:=bind_some h
   exact KE (hx w) (Zet hS (by assumption) hy hz h1) hk hn
  ·cases hb : Nat.beq (szT P t) 1 with
   | false=>rw [hb] at hm;subst hm;exact (Zc h).elim
   | true=>
    rw [hb] at hm;subst hm
    obtain ⟨v,H1,h1,hk⟩:=bind_some h
    exact KE (hx w) (ZdL hS (by assumption) (Nat.eq_of_beq_eq_true hb) hy hz h1) hk hn
  ·subst hm;exact (Zc h).elim
 | alloc t=>
  unfold Jc at h
  generalize hm : opM P Γ ρ (.alloc t)=m at h
  unfold opM at hm
  simp only at hm
  cases hb : Jt P t with
  | false=>rw [hb] at hm;subst hm;exact (Zc h).elim
  | true=>
   rw [hb] at hm;subst hm
   obtain ⟨v,H1,h1,hk⟩:=bind_some h
   exact Zi (s:=Instr.alloc t true (.tuple #[])) (by unfold execOp;rw [ho];exact Zl _) (Zdw hS hb h1) hk hn
 | box t y=>
  obtain ⟨v,H1,h1,hk⟩:=bind_some h
  exact Zi (s:=Instr.box t (a.eval y)) (by unfold execOp;rw [ho];exact Zl _) (ZeN hS (hc y (by simp [Op.operands])) h1) hk hn
 | call c=>
  exact Zci hS hΓ ho hc h hn
 | slice t y lo hi mx=>
  have hop : ∀ z,z∈([y]++lo.toList++hi.toList++mx.toList)→RV ι (ρ z) (a.eval z):=fun z hz=>hc z (by simpa [Op.operands] using hz)
  have hy:=hop y (by simp)
  have hlo : RO ι (lo.map ρ) (lo.map a.eval):=RO.map fun z hz=>hop z (by simp [hz])
  have hhi : RO ι (hi.map ρ) (hi.map a.eval):=RO.map fun z hz=>hop z (by simp [hz])
  have hmx : RO ι (mx.map ρ) (mx.map a.eval):=RO.map fun z hz=>hop z (by simp [hz])
  unfold Jc at h
  generalize hm : opM P Γ ρ (.slice t y lo hi mx)=m at h
  unfold opM at hm
  simp only at hm
  have hx : ∀ w,(execOp a.eval o).run P w=((Instr.sliceAt t (a.eval y) (lo.map a.eval) (hi.map a.eval) (mx.map a.eval)).run P w).andThen fun v w=>.ok (.value v) w:=fun w=>by unfold execOp;rw [ho];exact Zl _
  split at hm
  ·split at hm
   ·subst hm
    obtain ⟨v,H1,h1,hk⟩:=bind_some h
    exact Zi (hx w) (ZeD hS (by assumption) hy hlo hhi h1) hk hn
   ·subst hm;exact (Zc h).elim
  ·rename_i e hu
   cases he : P.info? e with
   | none=>
    split at hm
    ·subst hm;exact (Zc h).elim
    ·rw [he] at hm;subst hm;exact (Zc h).elim
   | some ie=>
    split at hm
    ·subst hm;exact (Zc h).elim
    ·rename_i hne
     rw [he] at hm;subst hm
     obtain ⟨v,H1,h1,hk⟩:=bind_some h
     exact Zi (hx w) (ZeV hS hu he hy hlo hhi hmx (by cases mx <;> cases hi <;> simp at hne ⊢) h1) hk hn
  ·subst hm;exact (Zc h).elim
 | build t ps=>
  have hop : ∀ p∈ps.toList,RV ι (ρ p.2) (a.eval p.2):=fun p hp=>hc p.2 (by
   simp only [Op.operands,List.mem_map]
   exact ⟨p,hp,rfl⟩)
  unfold Jc at h
  generalize hm : opM P Γ ρ (.build t ps)=m at h
  unfold opM at hm
  simp only at hm
  have hx : ∀ w,(execOp a.eval o).run P w=((Instr.build t (ps.map fun p=>(p.1,a.eval p.2))).run P w).andThen fun v w=>.ok (.value v) w:=fun w=>by unfold execOp;rw [ho];exact Zl _
  cases hb : Jt P t && YC P t with
  | false=>rw [hb] at hm;subst hm;exact (Zc h).elim
  | true=>
   rw [hb] at hm
   simp only [Bool.and_eq_true] at hb
   simp only [cond_true] at hm
   split at hm
   ·rename_i l hl
    subst hm
    obtain ⟨v,H1,h1,hk⟩:=bind_some h
    unfold KO at hl
    split at hl
    ·rename_i fs hu
     refine Zi (hx w) (ZcJ hS hb.1 hb.2 (.inl ⟨fs,hu,rfl⟩) ?_ h1) hk hn
     have:=PR.struct (P:=P) (ι:=ι) (a:=a) (fs:=fs) hop hl
     simpa using this
    ·rename_i n e hu
     cases hl
     refine Zi (hx w) (ZcJ hS hb.1 hb.2 (.inr ⟨n,e,hu,rfl⟩) ?_ h1) hk hn
     have:=PR.arr (ι:=ι) (a:=a) (n:=szT P e) hop
     simpa using this
    ·cases hl
   ·subst hm;exact (Zc h).elim
 | buildSlice t len ps=>
  have hop : ∀ p∈ps.toList,RV ι (ρ p.2) (a.eval p.2):=fun p hp=>hc p.2 (by
   simp only [Op.operands,List.mem_map]
   exact ⟨p,hp,rfl⟩)
  unfold Jc at h
  generalize hm : opM P Γ ρ (.buildSlice t len ps)=m at h
  unfold opM at hm
  simp only at hm
  have hx : ∀ w,(execOp a.eval o).run P w=((Instr.buildSlice t len (ps.map fun p=>(p.1,a.eval p.2))).run P w).andThen fun v w=>.ok (.value v) w:=fun w=>by unfold execOp;rw [ho];exact Zl _
  split at hm
  ·rename_i e hu
   cases hb : okE P e && Nat.ble (len * szT P e) 16777216 with
   | false=>rw [hb] at hm;subst hm;exact (Zc h).elim
   | true=>
    rw [hb] at hm;subst hm
    simp only [Bool.and_eq_true] at hb
    obtain ⟨v,H1,h1,hk⟩:=bind_some h
    refine Zi (hx w) (Zeu hS hu hb.1 (Nat.le_of_ble_eq_true hb.2) ?_ h1) hk hn
    have:=PR.arr (ι:=ι) (a:=a) (n:=szT P e) hop
    simpa using this
  ·subst hm;exact (Zc h).elim
 | makeSlice t y z=>
  have hy:=hc y (by simp [Op.operands])
  have hz:=hc z (by simp [Op.operands])
  unfold Jc at h
  generalize hm : opM P Γ ρ (.makeSlice t y z)=m at h
  unfold opM at hm
  simp only at hm
  have hx : ∀ w,(execOp a.eval o).run P w=((Instr.makeSlice t (a.eval y) (a.eval z)).run P w).andThen fun v w=>.ok (.value v) w:=fun w=>by unfold execOp;rw [ho];exact Zl _
  split at hm
  ·rename_i e hu
   cases hb : okE P e with
   | false=>rw [hb] at hm;subst hm;exact (Zc h).elim
   | true=>
    rw [hb] at hm;subst hm
    obtain ⟨v,H1,h1,hk⟩:=bind_some h
    exact Zi (hx w) (ZeQ hS hu hb hy hz h1) hk hn
  ·subst hm;exact (Zc h).elim
 | makeMap t rs=>
  unfold Jc at h
  generalize hm : opM P Γ ρ (.makeMap t rs)=m at h
  unfold opM at hm
  simp only at hm
  split at hm
  ·subst hm
   obtain ⟨v,H1,h1,hk⟩:=bind_some (m:=mkm) (k:=k) h
   exact Zi (s:=Instr.makeMap t none) (by unfold execOp;rw [ho];exact Zl _) (Zer hS h1) hk hn
  ·subst hm;exact (Zc h).elim
 | lookup t y z ok=>
  have hy:=hc y (by simp [Op.operands])
  have hz:=hc z (by simp [Op.operands])
  unfold Jc at h
  generalize hm : opM P Γ ρ (.lookup t y z ok)=m at h
  unfold opM at hm
  simp only at hm
  split at hm
  ·rename_i kt e hu
   cases hb : Jt P e with
   | false=>rw [hb] at hm;subst hm;exact (Zc h).elim
   | true=>
    rw [hb] at hm;subst hm
    obtain ⟨v,H1,h1,hk⟩:=bind_some h
    exact Zi (s:=Instr.lookup t (a.eval y) (a.eval z) ok) (by unfold execOp;rw [ho];exact Zl _) (Ze1 hS hu hb hy hz h1) hk hn
  ·subst hm;exact (Zc h).elim
 | mapUpdate t y z u=>
  have hy:=hc y (by simp [Op.operands])
  have hz:=hc z (by simp [Op.operands])
  have hu:=hc u (by simp [Op.operands])
  unfold Jc at h
  generalize hm : opM P Γ ρ (.mapUpdate t y z u)=m at h
  unfold opM at hm
  simp only at hm
  split at hm
  ·subst hm
   obtain ⟨v,H1,h1,hk⟩:=bind_some h
   exact KE (s:=Instr.mapUpdate t (a.eval y) (a.eval z) (a.eval u)) (by unfold execOp;rw [ho];exact Yv _) (ZcC hS (by assumption) hy hz hu h1) hk hn
  ·subst hm;exact (Zc h).elim
 | insert t y z u=>
  have hy:=hc y (by simp [Op.operands])
  have hz:=hc z (by simp [Op.operands])
  have hu:=hc u (by simp [Op.operands])
  unfold Jc at h
  generalize hm : opM P Γ ρ (.insert t y z u)=m at h
  unfold opM at hm
  simp only at hm
  split at hm
  ·subst hm
   obtain ⟨v,H1,h1,hk⟩:=bind_some h
   exact KE (s:=Instr.mapUpdate t (a.eval y) (a.eval z) (a.eval u)) (by unfold execOp;rw [ho];exact Yv _) (ZcC hS (by assumption) hy hz hu h1) hk hn
  ·subst hm;exact (Zc h).elim
 | mapEntry t y z=>
  have hy:=hc y (by simp [Op.operands])
  have hz:=hc z (by simp [Op.operands])
  unfold Jc at h
  generalize hm : opM P Γ ρ (.mapEntry t y z)=m at h
  unfold opM at hm
  simp only at hm
  split at hm
  ·rename_i kt e hu
   cases hb : Jt P e with
   | false=>rw [hb] at hm;subst hm;exact (Zc h).elim
   | true=>
    rw [hb] at hm;subst hm
    obtain ⟨v,H1,h1,hk⟩:=bind_some h
    exact Zi (s:=Instr.mapEntry t (a.eval y) (a.eval z)) (by unfold execOp;rw [ho];exact Zl _) (Zeq hS hu hb hy hz h1) hk hn
  ·subst hm;exact (Zc h).elim
 | entryStore t y z u=>
  obtain ⟨v,H1,h1,hk⟩:=bind_some h
  exact KE (s:=Instr.entryStore t (a.eval y) (a.eval z) (a.eval u)) (by unfold execOp;rw [ho];exact Yv _)
   (Zew hS (hc y (by simp [Op.operands])) (hc z (by simp [Op.operands])) (hc u (by simp [Op.operands])) h1) hk hn
 | makeFunc fn fs cs=>
  have hop : ∀ z,z∈(fs++cs).toList→RV ι (ρ z) (a.eval z):=fun z hz=>hc z (by simpa [Op.operands] using hz)
  cases fn with
  | func gf=>?_
  | _=>exact (Zc h).elim
  refine WF hS (v':=.func (.func gf) (fs.map a.eval) (cs.map a.eval)) (by unfold execOp;rw [ho];rfl) ?_ h hn
  have h1:=RVs.map (ι:=ι) (a:=a) (l:=fs.toList) fun z hz=>hop z (by simp at hz ⊢;exact .inl hz)
  have h2:=RVs.map (ι:=ι) (a:=a) (l:=cs.toList) fun z hz=>hop z (by simp at hz ⊢;exact .inr hz)
  obtain ⟨e1,e2⟩:=RVs.to_arr (a:=fs.map ρ) (a':=fs.map a.eval) (by simpa using h1)
  obtain ⟨e3,e4⟩:=RVs.to_arr (a:=cs.map ρ) (a':=cs.map a.eval) (by simpa using h2)
  exact .fn (fun l e=>by cases e) e1 e2 e3 e4
 | makeInterface t y=>
  have hy:=hc y (by simp [Op.operands])
  unfold Jc at h
  generalize hm : opM P Γ ρ (.makeInterface t y)=m at h
  unfold opM at hm
  simp only at hm
  split at hm
  ·subst hm;exact (Zc h).elim
  ·rename_i d hne hu
   subst hm
   obtain ⟨v,H1,h1,hk⟩:=bind_some (m:=Zb0 t (ρ y)) (k:=k) h
   exact Zi (s:=Instr.makeInterface t (a.eval y)) (by unfold execOp;rw [ho];exact Zl _) (Zd0 hS hu hne hy h1) hk hn
  ·subst hm;exact (Zc h).elim
 | range t y=>
  have hy:=hc y (by simp [Op.operands])
  unfold Jc at h
  generalize hm : opM P Γ ρ (.range t y)=m at h
  unfold opM at hm
  simp only at hm
  split at hm
  ·rename_i hu
   subst hm
   obtain ⟨v,H1,h1,hk⟩:=bind_some (m:=Zc0 (ρ y)) (k:=k) h
   exact Zi (s:=Instr.range t (a.eval y)) (by unfold execOp;rw [ho];exact Zl _) (ZdV hS hu hy h1) hk hn
  ·subst hm;exact (Zc h).elim
 | next y s=>
  have hy:=hc y (by simp [Op.operands])
  unfold Jc at h
  cases s with
  | false=>exact (Zc h).elim
  | true=>
   obtain ⟨v,H1,h1,hk⟩:=bind_some (m:=Zde (ρ y)) (k:=k) h
   exact Zi (s:=Instr.next (a.eval y) true o.type) (by unfold execOp;rw [ho];exact Zl _) (Zd9 hS hy h1) hk hn
 | _=>exact (Zc h).elim
end
end Go.Proofs.Ytfefblgkfdaekaa.A
namespace Go.Proofs.Ytfefblgkfdaekaa.A
set_option linter.unusedVariables false
set_option linter.unusedSimpArgs false
section
variable {P : Program} {Γ : Zp} {w0 : Zg} {N : Nat} {ι : Nat→Option Loc} {r : Zf} {H : Zb} {a : Act} {w : World} {rd : Option Nat}
theorem Ww {β : Type} {m : OpR} {k : Value→M β} {x : β × Zb} (h : Yl m k H=some x) :
  ∃ v H1,k v H1=some x∧∀ (γ : Type) (k' : Value→M γ),Yl m k' H=k' v H1:=by
 cases m with
 | val v=>exact ⟨v,H,h,fun _ _=>rfl⟩
 | cmp m=>
  obtain ⟨v,H1,h1,h2⟩:=bind_some (m:=m) (k:=k) h
  exact ⟨v,H1,h2,fun γ k'=>by simp [Yl,A.bind,h1]⟩
theorem Wf {o : Oper} {v : Value} {H1 : Zb} {ρ : Operand→Value} (hS : Sim P.globals.size w0 ι H w) (hΓ : ∀ g,Jf P P.globals.size w0 g (Γ g))
  (hρ : ∀ y∈o.op.operands.toList,RV ι (ρ y) (a.eval y)) (h : ∀ (γ : Type) (k' : Value→M γ),Yl (opM P Γ ρ o.op) k' H=k' v H1)
  {next : Act→World→Prop} {Q : Exit→Act→World→Prop} (hn : ∀ ι1 v' w1,Le ι ι1→RV ι1 v v'→Sim P.globals.size w0 ι1 H1 w1→next (a.put o.dst v') w1) : o.wpIn (FR rd) 0 P a w next Q:=by
 refine Zdp (fun c hc=>?_) ?_
 ·have h2:=h Value (fun u=>ret u)
  rw [hc] at h2
  cases h2
 refine Zc1 (k:=fun v=>ret v) (x:=(v,H1)) hS hΓ rfl hρ (by rw [Jc,h];rfl) ?_
 intro ι1 u v' H2 w1 hl hv hs hk
 cases hk
 exact hn ι1 v' w1 hl hv hs
def Kl {β : Type} (P : Program) (w0 : Zg) (N : Nat) (ι : Nat→Option Loc) (k : Zf→M β) (x : β × Zb) (next : Act→World→Prop) : Prop:=
 ∀ ι1 r1 H1 a1 w1,Le ι ι1→St P.globals.size w0 N ι1 r1 H1 a1 w1→k r1 H1=some x→next a1 w1
theorem WE {d : Option Nat} {v : Value} {t : Nat} (h : d≠some t) : Zk (J0 r d v) t=Zk r t:=by
 cases d with
 | none=>rfl
 | some d=>
  have : Nat.beq d t=false:=by
   cases e : Nat.beq d t with
   | false=>rfl
   | true=>exact absurd (by rw [Nat.eq_of_beq_eq_true e]) h
  simp [J0,Zk,this]
structure K5 (P : Program) (N : Nat) (o : Oper) : Prop where
 consts : ∀ y∈o.op.operands.toList,Jn P y=true
 dst : ∀ d,o.dst=some d→d < N
theorem JL {ops : List Oper} (h : K9 P N ops=true) {o : Oper} (ho : o∈ops) : K5 P N o:=by
 unfold K9 at h
 have:=List.all_eq_true.1 h o ho
 simp only [Bool.and_eq_true] at this
 refine ⟨List.all_eq_true.1 this.1,fun d hd=>?_⟩
 have h2:=this.2
 rw [hd] at h2
 simpa using h2
theorem Zac {ops : Array Oper} {j : Nat} {d : Option Tmp} {v : Value} (h : ∀ e,(ops[j]?).bind (·.dst)=some e→d≠some e) :
  yielded ops (a.put d v).tmps j=yielded ops a.tmps j:=by
 unfold yielded
 cases he : (ops[j]?).bind (·.dst) with
 | none=>rfl
 | some e=>
  have hne:=h e he
  cases d with
  | none=>rfl
  | some d=>
   have : d≠e:=fun x=>hne (by rw [x])
   simp [Act.put,Array.getElem?_setIfInBounds_ne this]
theorem Zaj {ops : Array Oper} {Q : Exit→Act→World→Prop} {rest : List Oper} {j : Nat} {wt : Bool} (hΓ : ∀ g,Jf P P.globals.size w0 g (Γ g)) {β : Type} {x : β × Zb} :
  ∀ (l : List Oper) {r : Zf} {H : Zb} {ι : Nat→Option Loc} {a : Act} {w : World} {k : Zf→M β},(∀ p∈l,K5 P N p∧p.guard=some (j,wt)∧∀ e,(ops[j]?).bind (·.dst)=some e→p.dst≠some e)→
   St P.globals.size w0 N ι r H a w→yielded ops a.tmps j=some wt→ZbF P Γ l r k H=some x→
   (∀ ι1 r1 H1 a1 w1,Le ι ι1→St P.globals.size w0 N ι1 r1 H1 a1 w1→(∀ t,(∀ p∈l,p.dst≠some t)→Zk r1 t=Zk r t)→(∀ t,(∀ p∈l,p.dst≠some t)→a1.tmps.getD t undef=a.tmps.getD t undef)→
    k r1 H1=some x→wpListIn (FR rd) 0 P ops Q rest a1 w1)→
   wpListIn (FR rd) 0 P ops Q (l++rest) a w
 | [],r,H,ι,a,w,k,_,hSt,_,h,hk=>hk ι r H a w (.refl ι) hSt (fun _ _=>rfl) (fun _ _=>rfl) h
 | p :: l,r,H,ι,a,w,k,hl,hSt,hy,h,hk=>by
  obtain ⟨hok,hg,hd⟩:=hl p (by simp)
  simp only [ZbF,Jc] at h
  obtain ⟨v,H1,h1,h2⟩:=Ww h
  simp only [List.cons_append,wpListIn]
  rw [if_pos (by simp [Region.wanted,hg,hy])]
  refine (Wf hSt.sim hΓ (fun y hy=>hSt.ev (hok.consts y hy)) h2 fun ι1 v' w1 hle hv hs=>?_)
  have hSt1:=hSt.put hle hs hv hok.dst
  refine Zaj hΓ l (fun q hq=>hl q (by simp [hq])) hSt1 (by rw [Zac hd];exact hy) h1 ?_
  intro ι2 r2 H2 a2 w2 hle2 hSt2 hr2 ha2 hk2
  refine hk ι2 r2 H2 a2 w2 (hle.trans hle2) hSt2 (fun t ht=>?_) (fun t ht=>?_) hk2
  ·rw [hr2 t fun q hq=>ht q (by simp [hq]),WE (ht p (by simp))]
  ·rw [ha2 t fun q hq=>ht q (by simp [hq])]
   have:=ht p (by simp)
   cases hdst : p.dst with
   | none=>rfl
   | some d=>
    have hne : d≠t:=fun e=>this (by rw [hdst,e])
    simp [Act.put,Array.getElem?_setIfInBounds_ne hne]
theorem Zan {L : List Nat} {vs : List Value} {t : Nat} (h : ∀ d∈L,d≠t) : Zk (mk L vs++r) t=Zk r t:=by
 induction L generalizing vs with
 | nil=>rfl
 | cons d L ih=>
  have : Nat.beq d t=false:=by
   cases e : Nat.beq d t with
   | false=>rfl
   | true=>exact absurd (Nat.eq_of_beq_eq_true e) (h d (by simp))
  simp only [mk,List.cons_append,Zk,this,cond_false]
  exact ih fun e he=>h e (by simp [he])
theorem WQ {L : List Nat} {r1 : Zf} {t : Nat} (h : t∈L) : Zk (mk L (proj L r1)++r) t=Zk r1 t:=by
 induction L with
 | nil=>cases h
 | cons d L ih=>
  simp only [proj,List.map_cons,mk,List.cons_append,Zk,List.headD_cons,List.tail_cons]
  cases e : Nat.beq d t with
  | true=>rw [Nat.eq_of_beq_eq_true e];rfl
  | false=>
   simp only [cond_false]
   refine ih ?_
   cases h with
   | head=>simp at e
   | tail _ h=>exact h
theorem Zcs {L : List Nat} {n : Nat} {u : Value} {t : Nat} (h : t∈L) (hn : L.length≤n) : Zk (mk L (List.replicate n u)++r) t=u:=by
 induction L generalizing n with
 | nil=>cases h
 | cons d L ih=>
  cases n with
  | zero=>simp at hn
  | succ n=>
  simp only [List.replicate_succ,mk,List.cons_append,Zk,List.headD_cons,List.tail_cons]
  cases e : Nat.beq d t with
  | true=>rfl
  | false=>
   simp only [cond_false]
   refine ih ?_ (by simp at hn;omega)
   cases h with
   | head=>simp at e
   | tail _ h=>exact h
theorem ZaU {ops : Array Oper} {Q : Exit→Act→World→Prop} {rest : List Oper} {j : Nat} {wt : Bool} :
  ∀ (l : List Oper) {a : Act} {w : World},(∀ p∈l,K5 P N p∧p.guard=some (j,wt)∧∀ e,(ops[j]?).bind (·.dst)=some e→p.dst≠some e)→
   yielded ops a.tmps j≠some wt→a.tmps.size=N→a.defers=YH w0.own→
   (∀ a1,a1.tmps.size=N→a1.defers=YH w0.own→(∀ t,(∀ p∈l,p.dst≠some t)→a1.tmps.getD t undef=a.tmps.getD t undef)→(∀ t,(∃ p∈l,p.dst=some t)→a1.tmps.getD t undef=undef)→wpListIn (FR rd) 0 P ops Q rest a1 w)→
   wpListIn (FR rd) 0 P ops Q (l++rest) a w
 | [],a,w,_,_,hs,hd,hk=>hk a hs hd (fun _ _=>rfl) (by simp)
 | p :: l,a,w,hl,hy,hs,hdf,hk=>by
  obtain ⟨hok,hg,hd⟩:=hl p (by simp)
  simp only [List.cons_append,wpListIn]
  rw [if_neg (by simp [Region.wanted,hg,hy])]
  refine ⟨fun _ _=>trivial,ZaU l (fun q hq=>hl q (by simp [hq])) (by rw [Zac hd];exact hy) (by cases p.dst <;> simp [Act.put,hs]) (by cases p.dst <;> exact hdf) ?_⟩
  intro a1 h1 h2 h3 h4
  have hput : ∀ t,p.dst≠some t→(a.put p.dst undef).tmps.getD t undef=a.tmps.getD t undef:=by
   intro t ht
   cases hdst : p.dst with
   | none=>rfl
   | some d=>
    have hne : d≠t:=fun e=>ht (by rw [hdst,e])
    simp [Act.put,Array.getElem?_setIfInBounds_ne hne]
  refine hk a1 h1 h2 (fun t ht=>?_) (fun t ht=>?_)
  ·rw [h3 t fun q hq=>ht q (by simp [hq]),hput t (ht p (by simp))]
  ·obtain ⟨q,hq,hqt⟩:=ht
   by_cases hex : ∃ q∈l,q.dst=some t
   ·exact h4 t hex
   ·have : q=p:=by
     cases hq with
     | head=>rfl
     | tail _ hq=>exact absurd ⟨q,hq,hqt⟩ hex
    subst this
    rw [h3 t fun q' hq' e=>hex ⟨q',hq',e⟩,hqt]
    have:=hok.dst t hqt
    simp [Act.put,hs,this]
end
end Go.Proofs.Ytfefblgkfdaekaa.A
namespace Go.Proofs.Ytfefblgkfdaekaa.A
set_option linter.unusedVariables false
set_option linter.unusedSimpArgs false
section
variable {P : Program} {Γ : Zp} {w0 : Zg} {N : Nat} {ι : Nat→Option Loc} {r : Zf} {H : Zb} {a : Act} {w : World} {rd : Option Nat}
theorem Za2 {j : Nat} {wt : Bool} : ∀ (l : List Oper),(Kt j wt l).1++(Kt j wt l).2=l∧∀ p∈(Kt j wt l).1,p.guard=some (j,wt)
 | []=>⟨rfl,by simp [Kt]⟩
 | p :: l=>by
  obtain ⟨h1,h2⟩:=Za2 (j:=j) (wt:=wt) l
  unfold Kt
  cases hs : Wu p.guard j wt with
  | false=>exact ⟨rfl,by simp⟩
  | true=>
   simp only [cond_true]
   refine ⟨by simp [h1],fun q hq=>?_⟩
   cases hq with
   | head=>
    unfold Wu at hs
    split at hs
    ·rename_i i v hg
     simp only [Bool.and_eq_true,beq_iff_eq] at hs
     rw [hg,Nat.eq_of_beq_eq_true hs.1,hs.2]
    ·cases hs
   | tail _ hq=>exact h2 q hq
theorem Zcx {ops : Array Oper} (h : Y3 ops.toList=true) {o q : Oper} (ho : o∈ops.toList) (hq : q∈ops.toList) {j : Nat} {wt wt' : Bool} (hg : o.guard=some (j,wt)) (hgq : q.guard=some (j,wt')) :
  ∀ e,(ops[j]?).bind (·.dst)=some e→q.dst≠some e:=by
 intro e he hqe
 unfold Y3 at h
 have h1:=List.all_eq_true.1 h o ho
 simp only [hg] at h1
 have hd : J7 ops.toList j=some e:=by simpa [J7] using he
 rw [hd] at h1
 have h2:=List.all_eq_true.1 h1 q hq
 simp [hgq,hqe] at h2
theorem St.join {ι1 : Nat→Option Loc} {H1 : Zb} {w1 : World} {a1 : Act} (hSt : St P.globals.size w0 N ι r H a w) (hle : Le ι ι1) (hs : Sim P.globals.size w0 ι1 H1 w1) (hsz : a1.tmps.size=N) (hdf : a1.defers=YH w0.own)
  {ds : List Nat} {r' : Zf} (h1 : ∀ t,t∈ds→RV ι1 (Zk (r'++r) t) (a1.tmps.getD t undef)) (h2 : ∀ t,t∉ds→Zk (r'++r) t=Zk r t) (h3 : ∀ t,t∉ds→a1.tmps.getD t undef=a.tmps.getD t undef) :
  St P.globals.size w0 N ι1 (r'++r) H1 a1 w1:=by
 refine ⟨hs,fun t=>?_,hsz,hdf⟩
 by_cases ht : t∈ds
 ·exact h1 t ht
 ·rw [h2 t ht,h3 t ht];exact (hSt.regs t).mono hle
theorem YE {ops : Array Oper} {Q : Exit→Act→World→Prop} (hΓ : ∀ g,Jf P P.globals.size w0 g (Γ g)) (hgd : Y3 ops.toList=true) {β : Type} {x : β × Zb} :
  ∀ (n : Nat) {l : List Oper} {r : Zf} {H : Zb} {ι : Nat→Option Loc} {a : Act} {w : World} {k : Zf→M β},(∀ p∈l,K5 P N p∧p∈ops.toList)→
   St P.globals.size w0 N ι r H a w→WS P Γ ops.toList n l r k H=some x→
   Kl P w0 N ι k x (fun a1 w1=>Q .normal a1 w1)→wpListIn (FR rd) 0 P ops Q l a w
 | 0,l,r,H,ι,a,w,k,_,_,h,_=>by simp [WS,fail] at h
 | n+1,[],r,H,ι,a,w,k,_,hSt,h,hk=>hk ι r H a w (.refl ι) hSt h
 | n+1,o :: os,r,H,ι,a,w,k,hl,hSt,h,hk=>by
  obtain ⟨hok,hmem⟩:=hl o (by simp)
  simp only [WS] at h
  cases hg : o.guard with
  | none=>
   rw [hg] at h
   simp only [Jc] at h
   obtain ⟨v,H1,h1,h2⟩:=Ww h
   simp only [wpListIn]
   rw [if_pos (by simp [Region.wanted,hg])]
   refine (Wf hSt.sim hΓ (fun y hy=>hSt.ev (hok.consts y hy)) h2 fun ι1 v' w1 hle hv hs=>?_)
   exact YE hΓ hgd n (fun p hp=>hl p (by simp [hp])) (hSt.put hle hs hv hok.dst) h1 fun ι2 r2 H2 a2 w2 hle2 hSt2 hk2=>hk ι2 r2 H2 a2 w2 (hle.trans hle2) hSt2 hk2
  | some g=>
   obtain ⟨j,wt⟩:=g
   rw [hg] at h
   simp only at h
   cases hd : J7 ops.toList j with
   | none=>simp [hd,fail] at h
   | some d=>
    rw [hd] at h
    simp only at h
    obtain ⟨hsp,hspg⟩:=Za2 (j:=j) (wt:=wt) os
    generalize Kt j wt os=p at h hsp hspg
    obtain ⟨p1,p2⟩:=p
    simp only at h hsp hspg
    subst hsp
    obtain ⟨vs,H1,hgate,hK⟩:=bind_some h
    have hd' : (ops[j]?).bind (·.dst)=some d:=by simpa [J7] using hd
    have hgrp : ∀ q∈o :: p1,K5 P N q∧q.guard=some (j,wt)∧∀ e,(ops[j]?).bind (·.dst)=some e→q.dst≠some e:=by
     intro q hq
     obtain ⟨h1,h2⟩:=hl q (by cases hq with | head=>simp | tail _ hq=>exact List.mem_cons_of_mem _ (List.mem_append_left _ hq))
     have hqg : q.guard=some (j,wt):=by cases hq with | head=>exact hg | tail _ hq=>exact hspg q hq
     exact ⟨h1,hqg,Zcx hgd hmem h2 hg hqg⟩
    have hrest : ∀ q∈p2,K5 P N q∧q∈ops.toList:=fun q hq=>hl q (by simp [hq])
    have hin : ∀ t,t∉(o :: p1).filterMap (·.dst)↔∀ q∈o :: p1,q.dst≠some t:=by
     intro t
     simp only [List.mem_filterMap,not_exists,not_and]
    have hreg:=hSt.regs d
    have e0 : o :: (p1++p2)=(o :: p1)++p2:=rfl
    rw [e0]
    have hskip : yielded ops a.tmps j≠some wt→vs=List.replicate ((o :: p1).filterMap (·.dst)).length J4→H1=H→wpListIn (FR rd) 0 P ops Q ((o :: p1)++p2) a w:=by
     intro hy hvs hH1
     subst hvs;subst hH1
     refine ZaU (o :: p1) hgrp hy hSt.size hSt.defers fun a1 h1 h2 h3 h4=>?_
     refine YE hΓ hgd n hrest (hSt.join (ds:=(o :: p1).filterMap (·.dst)) (.refl ι) hSt.sim h1 h2 (fun t ht=>?_) (fun t ht=>?_) (fun t ht=>?_)) hK hk
     ·rw [Zcs ht (Nat.le_refl _)]
      have : ∃ q∈o :: p1,q.dst=some t:=by simpa only [List.mem_filterMap] using ht
      rw [h4 t this];exact .nw
     ·exact Zan fun e he hee=>ht (hee ▸ he)
     ·exact h3 t ((hin t).1 ht)
    unfold JJ at hgate
    generalize hgv : Zk r d=gv at hgate hreg
    cases gv with
    | bool b=>
     simp only at hgate
     have hc:=hreg.bool_inv
     have hy : yielded ops a.tmps j=some b:=by
      unfold yielded
      rw [hd']
      simp only [Option.bind_some]
      rw [Array.getD_eq_getD_getElem?] at hc
      cases e : a.tmps[d]? with
      | none=>rw [e] at hc;cases hc
      | some u=>rw [e] at hc;simp only [Option.getD_some] at hc;subst hc;rfl
     cases hbw : b==wt with
     | true=>
      rw [hbw] at hgate
      simp only [cond_true] at hgate
      have hbe : b=wt:=by simpa using hbw
      subst hbe
      refine Zaj hΓ (o :: p1) hgrp hSt hy hgate ?_
      intro ι1 r1 H2 a1 w1 hle hSt1 hr1 ha1 hk1
      cases hk1
      refine YE hΓ hgd n hrest (hSt.join (ds:=(o :: p1).filterMap (·.dst)) hle hSt1.sim hSt1.size hSt1.defers (fun t ht=>?_) (fun t ht=>?_) (fun t ht=>?_)) hK
       fun ι2 r2 H2 a2 w2 hle2 hSt2 hk2=>hk ι2 r2 H2 a2 w2 (hle.trans hle2) hSt2 hk2
      ·rw [WQ ht];exact hSt1.regs t
      ·exact Zan fun e he hee=>ht (hee ▸ he)
      ·exact ha1 t ((hin t).1 ht)
     | false=>
      rw [hbw] at hgate
      simp only [cond_false] at hgate
      cases hgate
      exact hskip (by rw [hy];intro e;cases e;simp at hbw) rfl rfl
    | tuple us=>
     simp only at hgate
     cases hus : Nat.beq us.size 1 with
     | false=>rw [hus] at hgate;cases hgate
     | true=>
      rw [hus] at hgate
      simp only [cond_true] at hgate
      cases hgate
      refine hskip ?_ rfl rfl
      have hnb : ∀ b,a.tmps.getD d undef≠.bool b:=by
       intro b hb
       rw [hb] at hreg
       cases hreg with
       | un=>cases hus
      unfold yielded
      rw [hd']
      simp only [Option.bind_some]
      intro hh
      split at hh
      ·rename_i b hb
       exact hnb b (by rw [Array.getD_eq_getD_getElem?,hb];rfl)
      ·cases hh
    | _=>cases hgate
end
end Go.Proofs.Ytfefblgkfdaekaa.A
namespace Go.Proofs.Ytfefblgkfdaekaa.A
set_option linter.unusedVariables false
set_option linter.unusedSimpArgs false
section
variable {P : Program} {Γ : Zp} {H H1 : Zb} {v : Value}
theorem ZbJ {ρ ρ' : Operand→Value} {c : Call} (h : ∀ y∈c.operands.toList,ρ y=ρ' y) : Yz P Γ ρ c=Yz P Γ ρ' c:=by
 have ha : ∀ y∈c.args.toList,ρ y=ρ' y:=fun y hy=>h y (by
  simp only [Call.operands,Array.toList_append,List.mem_append];exact .inr hy)
 unfold Yz
 split
 ·rename_i f hf
  rw [h f (by simp [Call.operands,hf]),List.map_congr_left ha]
 ·rename_i r nm hf
  rw [h r (by simp [Call.operands,hf]),List.map_congr_left ha]
 all_goals first
  | rfl
  | (simp_all;done)
theorem Zdu {ρ ρ' : Operand→Value} {op : Op} (h : ∀ y∈op.operands.toList,ρ y=ρ' y) : opM P Γ ρ op=opM P Γ ρ' op:=by
 cases op with
 | call c=>exact ZbJ h
 | build t ps=>
  have hp : ∀ p∈ps.toList,ρ p.2=ρ' p.2:=fun p hp=>h p.2 (by simp only [Op.operands,List.mem_map];exact ⟨p,hp,rfl⟩)
  have e : KO P t ps.toList ρ=KO P t ps.toList ρ':=by
   unfold KO
   split
   ·generalize ps.toList=l at hp
    induction l with
    | nil=>rfl
    | cons p l ih=>simp only [List.mapM_cons,hp p (by simp),ih fun q hq=>hp q (by simp [hq])]
   ·congr 1;exact List.map_congr_left fun p hpm=>by rw [hp p hpm]
   ·rfl
  simp only [opM,e]
 | buildSlice t n ps=>
  have hp : ∀ p∈ps.toList,ρ p.2=ρ' p.2:=fun p hp=>h p.2 (by simp only [Op.operands,List.mem_map];exact ⟨p,hp,rfl⟩)
  have e : ∀ e : TypeId,(ps.toList.map fun p=>(p.1 * szT P e,szT P e,ρ p.2))=ps.toList.map fun p=>(p.1 * szT P e,szT P e,ρ' p.2):=fun e=>List.map_congr_left fun p hpm=>by rw [hp p hpm]
  simp only [opM,e]
 | makeFunc fn fs cs=>
  have e1 : fs.map ρ=fs.map ρ':=Array.map_congr_left fun x hx=>h x (by simp [Op.operands,hx])
  have e2 : cs.map ρ=cs.map ρ':=Array.map_congr_left fun x hx=>h x (by simp [Op.operands,hx])
  simp only [opM,e1,e2]
 | slice t x lo hi mx=>
  have hx:=h x (by simp [Op.operands])
  have hlo : lo.map ρ=lo.map ρ':=by cases lo with | none=>rfl | some y=>simp [h y (by simp [Op.operands])]
  have hhi : hi.map ρ=hi.map ρ':=by cases hi with | none=>rfl | some y=>simp [h y (by simp [Op.operands])]
  have hmx : mx.map ρ=mx.map ρ':=by cases mx with | none=>rfl | some y=>simp [h y (by simp [Op.operands])]
  simp only [opM,hx,hlo,hhi,hmx]
 | select cs b=>rfl
 | _=>first | rfl | (simp [Op.operands] at h;simp only [opM,h];done)
def Qa (m : M Value) : Prop:=∀ H v H1,m H=some (v,H1)→H1=H∧∀ H2,m H2=some (v,H2)
def JO (m : M Value) : Prop:=∀ H v H1,m H=some (v,H1)→H1=H
theorem Qa.read {m : M Value} (h : Qa m) : JO m:=fun H v H1 e=>(h H v H1 e).1
theorem Zd : Qa fail:=fun _ _ _ h=>by cases h
theorem Yj (v : Value) : Qa (ret v):=fun _ _ _ h=>by cases h;exact ⟨rfl,fun _=>rfl⟩
theorem Jv {m : M Value} {o : Option Value} (h : ∀ H,m H=o.map (·,H)) : Qa m:=by
 intro H v H1 e
 rw [h] at e
 simp only [Option.map_eq_some_iff,Prod.mk.injEq] at e
 obtain ⟨u,rfl,rfl,rfl⟩:=e
 exact ⟨rfl,fun H2=>by rw [h];rfl⟩
theorem Zdx (c a b : Value) : Qa (pick c a b):=by
 cases c <;> first | exact Jv (o:=some _) fun _=>rfl | exact fun _ _ _ h=>by cases h
theorem ZdJ (t : Value) (i : Nat) : Qa (Jp t i):=by
 cases t with
 | tuple vs=>
  cases hs : Nat.beq vs.size 1 with
  | true=>
   refine Jv (o:=match vs.toList,i with
    | [.bool b],0=>some (.bool b)
    | _,_=>none) fun H=>?_
   simp only [Jp,hs,cond_true]
   generalize vs.toList=l
   match l,i with
   | [.bool b],0=>rfl
   | [],_=>rfl
   | [.bool b],_+1=>rfl
   | v :: u :: r,_=>cases v <;> rfl
   | [.int _ _],_=>rfl
   | [.float _ _],_=>rfl
   | [.complex _ _ _],_=>rfl
   | [.string _],_=>rfl
   | [.pointer _],_=>rfl
   | [.slice _ _ _],_=>rfl
   | [.map _],_=>rfl
   | [.chan _],_=>rfl
   | [.func _ _ _],_=>rfl
   | [.nilFunc],_=>rfl
   | [.iface _ _],_=>rfl
   | [.nilIface],_=>rfl
   | [.agg _],_=>rfl
   | [.tuple _],_=>rfl
  | false=>exact Jv (o:=vs[i]?) fun H=>by simp [Jp,hs]
 | _=>exact fun _ _ _ h=>by cases h
theorem ZdK (x : Value) : Qa (YS x):=by
 intro H v H1 h
 unfold YS at h
 split at h
 ·cases h;exact ⟨rfl,fun _=>rfl⟩
 ·cases h;exact ⟨rfl,fun _=>rfl⟩
 ·cases h
theorem ZdO (tk : TK) (op : BinOp) (x y : Value) : Qa (bop tk op x y):=by
 intro H v H1 h
 unfold bop at h ⊢
 split at h
 ·simp only [Option.map_eq_some_iff,Prod.mk.injEq] at h;obtain ⟨u,hu,rfl,rfl⟩:=h;exact ⟨rfl,fun H2=>by simp [hu]⟩
 ·simp only [Option.map_eq_some_iff,Prod.mk.injEq] at h;obtain ⟨u,hu,rfl,rfl⟩:=h;exact ⟨rfl,fun H2=>by simp [hu]⟩
 ·rename_i k a k' b h1 h2
  by_cases hk : k=k'
  ·simp only [hk,decide_true,cond_true,Option.map_eq_some_iff,Prod.mk.injEq] at h
   obtain ⟨u,hu,rfl,rfl⟩:=h
   refine ⟨rfl,fun H2=>?_⟩
   first | (simp [hu,hk];done) | simp_all
  ·simp [hk] at h
 ·simp only [Option.map_eq_some_iff,Prod.mk.injEq] at h;obtain ⟨u,hu,rfl,rfl⟩:=h
  refine ⟨rfl,fun H2=>?_⟩
  first | (simp [hu];done) | simp_all
 ·simp only [Option.map_eq_some_iff,Prod.mk.injEq] at h;obtain ⟨u,hu,rfl,rfl⟩:=h
  refine ⟨rfl,fun H2=>?_⟩
  first | (simp [hu];done) | simp_all
 ·simp only [Option.map_eq_some_iff,Prod.mk.injEq] at h;obtain ⟨u,hu,rfl,rfl⟩:=h
  refine ⟨rfl,fun H2=>?_⟩
  first | (simp [hu];done) | simp_all
 ·cases h
theorem Zee (op : UnOp) (x : Value) : Qa (uop op x):=by
 intro H v H1 h
 unfold uop at h ⊢
 split at h
 ·cases h;exact ⟨rfl,fun _=>rfl⟩
 ·simp only [Option.map_eq_some_iff,Prod.mk.injEq] at h;obtain ⟨u,hu,rfl,rfl⟩:=h;exact ⟨rfl,fun H2=>by simp [hu]⟩
 ·cases h;exact ⟨rfl,fun _=>rfl⟩
 ·cases h
theorem Zd1 (k : IntKind) (x : Value) : Qa (cvi k x):=by
 cases x <;> first | exact Jv (o:=some _) fun _=>rfl | exact fun _ _ _ h=>by cases h
theorem ZdX (x : Value) : Qa (cvs x):=by
 cases x <;> first | exact Jv (o:=some _) fun _=>rfl | exact fun _ _ _ h=>by cases h
theorem Zdo (x : Value) : Qa (KA x):=by
 cases x <;> first | exact Jv (o:=some _) fun _=>rfl | exact fun _ _ _ h=>by cases h
theorem Zdm (x : Value) : Qa (Zbf x):=by
 cases x <;> first | exact Jv (o:=some _) fun _=>rfl | exact fun _ _ _ h=>by cases h
theorem ZbN (b : Bool) (x y : Value) : Qa (mxi b x y):=by
 cases x <;> first | (cases y <;> first | exact Jv (o:=some _) fun _=>rfl | exact fun _ _ _ h=>by cases h) | exact fun _ _ _ h=>by cases h
theorem ZeP (n : Nat) (x : Value) : Qa (fa n x):=by
 intro H v H1 h
 unfold fa at h
 split at h
 ·cases h;exact ⟨rfl,fun _=>rfl⟩
 ·cases h
theorem Zeh (n : Nat) (x y : Value) : Qa (ixa n x y):=by
 intro H v H1 h
 unfold ixa at h
 split at h
 ·split at h
  ·rename_i hc;cases h;exact ⟨rfl,fun _=>by simp only [ixa,if_pos hc]⟩
  ·cases h
 ·cases h
theorem ZdM (n m : Nat) (x y : Value) : Qa (J3 n m x y):=by
 intro H v H1 h
 unfold J3 at h
 split at h
 ·split at h
  ·rename_i hc;cases h;exact ⟨rfl,fun _=>by simp only [J3,if_pos hc]⟩
  ·cases h
 ·cases h
theorem ZdU (x y : Value) : Qa (ixs x y):=by
 intro H v H1 h
 unfold ixs at h
 split at h
 ·split at h
  ·rename_i h0
   split at h
   ·rename_i hb;cases h;exact ⟨rfl,fun _=>by simp only [ixs,if_pos h0,hb]⟩
   ·cases h
  ·cases h
 ·cases h
theorem ZbM (g : Bool) (n : Nat) (x : Value) (o : Nat) : Qa (prt g n x o):=by
 cases x with
 | agg cs=>
  cases g with
  | true=>exact Jv (o:=some _) fun _=>rfl
  | false=>exact Jv (o:=cs[o]?) fun _=>rfl
 | _=>exact fun _ _ _ h=>by cases h
theorem ZdS (g : Bool) (n m : Nat) (x i : Value) : Qa (ixv g n m x i):=by
 cases i with
 | int k i=>
  by_cases hc : 0≤i∧i < n
  ·intro H v H1 h
   simp only [ixv,if_pos hc] at h ⊢
   exact ZbM _ _ _ _ H v H1 h
  ·exact fun _ _ _ h=>by simp only [ixv,if_neg hc] at h;cases h
 | _=>exact fun _ _ _ h=>by cases h
theorem Zec (z : Value) (ps : List (Nat × Nat × Value)) : Qa (bld z ps):=
 Jv (o:=(KC z.cells.toList ps).map fun cs=>.agg cs.toArray) fun H=>by simp [bld,Function.comp_def]
theorem ZdE (t : TypeId) (x : Value) : Qa (Zb0 t x):=Jv (o:=some _) fun _=>rfl
theorem ZdQ (x : Value) (lo hi : Option Value) : Qa (sls x lo hi):=by
 intro H v H1 h
 unfold sls at h
 split at h
 ·split at h
  ·rename_i h1 h2
   split at h
   ·rename_i hc;cases h;exact ⟨rfl,fun _=>by simp only [sls,h1,h2,if_pos hc]⟩
   ·cases h
  ·cases h
 ·cases h
theorem Zea (x : Value) : JO (ld1 x):=by
 intro H v H1 h
 unfold ld1 at h
 split at h
 ·split at h
  ·simp only [Option.map_eq_some_iff,Prod.mk.injEq] at h;obtain ⟨u,_,_,rfl⟩:=h;rfl
  ·split at h
   ·generalize YR _ _=bb at h
    cases bb with
    | false=>cases h
    | true=>
     simp only [cond_true,Option.map_eq_some_iff,Prod.mk.injEq] at h
     obtain ⟨u,_,_,rfl⟩:=h;rfl
   ·cases h
  ·cases h
 ·cases h
theorem ZdY (n : Nat) (x : Value) : JO (ldA n x):=by
 intro H v H1 h
 unfold ldA at h
 split at h
 ·split at h
  ·split at h
   ·cases h;rfl
   ·cases h
  ·cases h
 ·cases h
theorem Zdn (x : Value) : JO (Zb9 x):=by
 intro H v H1 h
 unfold Zb9 at h
 split at h
 ·cases h;rfl
 ·split at h
  ·cases h;rfl
  ·cases h;rfl
  ·cases h
 ·cases h
theorem Zed (tk : TK) (z : Value) (ok : Bool) (m k : Value) : JO (lkp tk z ok m k):=by
 intro H v H1 h
 unfold lkp at h
 simp only at h
 split at h
 ·cases hk : okK tk k with
  | false=>simp [hk] at h
  | true=>simp [hk] at h;exact h.2.symm
 ·split at h
  ·cases hk : okK tk k with
   | false=>simp [hk] at h
   | true=>
    simp only [hk,cond_true] at h
    split at h
    ·simp at h;exact h.2.symm
    ·simp at h;exact h.2.symm
    ·cases h
  ·cases hk : okK tk k with
   | false=>simp [hk] at h
   | true=>
    simp only [hk,cond_true] at h
    split at h
    ·simp at h;exact h.2.symm
    ·simp at h;exact h.2.symm
    ·cases h
  ·cases h
 ·cases h
theorem Zef (x : Value) : JO (b2s x):=by
 intro H v H1 h
 unfold b2s at h
 split at h
 ·split at h
  ·simp only [Option.map_eq_some_iff,Prod.mk.injEq] at h;obtain ⟨u,_,_,rfl⟩:=h;rfl
  ·cases h
 ·cases h
theorem Zd4 (n : Nat) (x : Value) (lo hi mx : Option Value) : JO (slv n x lo hi mx):=by
 intro H v H1 h
 unfold slv at h
 split at h
 ·split at h
  ·cases h;rfl
  ·cases h
 ·split at h
  ·cases h;rfl
  ·cases h
 ·split at h
  ·split at h
   ·split at h
    ·split at h
     ·cases h;rfl
     ·cases h;rfl
    ·cases h
   ·cases h
  ·cases h
 ·cases h
theorem Zcg {ρ : Operand→Value} {op : Op} (h : cls P op=0) : Qa (toM (opM P Γ ρ op)):=by
 cases op with
 | move x=>exact Yj _
 | assign x=>exact Yj _
 | pick c a b=>exact Zdx _ _ _
 | extract t i=>exact ZdJ _ _
 | nilCheck x=>exact ZdK _
 | binOp op t x y t2=>exact ZdO _ _ _ _
 | unOp op t x=>exact Zee _ _
 | makeFunc fn fs cs=>cases fn <;> first | exact Yj _ | exact Zd
 | fieldAddr s x f=>
  simp only [opM]
  split
  ·split
   ·rename_i fd _
    cases hz : Nat.beq (szT P fd.type) 0 with
    | true=>simpa [hz,toM] using Zd
    | false=>simpa [hz,toM] using ZeP _ _
   ·exact Zd
  ·exact Zd
 | field s x f=>
  simp only [opM]
  split
  ·split
   ·split
    ·exact ZbM _ _ _ _
    ·exact Zd
   ·exact Zd
  ·exact Zd
 | indexAddr t x i=>
  simp only [opM]
  split
  ·split
   ·exact Zeh _ _ _
   ·exact Zd
  ·split
   ·exact ZdM _ _ _ _
   ·exact Zd
  ·exact Zd
 | index t x i=>
  simp only [opM]
  split
  ·exact ZdU _ _
  ·split
   ·exact ZdS _ _ _ _ _
   ·exact Zd
  ·exact Zd
 | build t ps=>
  simp only [opM]
  cases hb : Jt P t && YC P t with
  | false=>simpa [hb,toM] using Zd
  | true=>
   simp only [cond_true]
   split
   ·exact Zec _ _
   ·exact Zd
 | makeInterface t x=>
  simp only [opM]
  split
  ·exact Zd
  ·exact ZdE _ _
  ·exact Zd
 | convert s d x=>
  simp only [cls] at h
  simp only [opM]
  split
  ·exact Zd1 _ _
  ·exact ZdX _
  ·rename_i h1 h2;simp [h1,h2] at h
  ·rename_i h1 h2;simp [h1,h2] at h
  ·rename_i h1 h2;simp [h1,h2] at h
  ·exact Zd
 | slice t x lo hi mx=>
  simp only [cls] at h
  simp only [opM]
  split
  ·split
   ·exact ZdQ _ _ _
   ·exact Zd
  ·rename_i h1;simp [h1] at h
  ·exact Zd
 | call c=>
  simp only [cls] at h
  simp only [opM,Yz]
  split
  ·rename_i hf;simp [hf] at h
  ·rename_i hf;simp [hf] at h
  ·rename_i hf ha ht
   simp only [hf,ht] at h
   split
   ·exact Zdm _
   ·exact Zdo _
   ·rename_i hu;simp [hu] at h
   ·exact Zd
  ·rename_i hf ha ht;simp [hf] at h
  ·exact ZbN _ _ _
  ·exact ZbN _ _ _
  ·rename_i hf ha ht;simp [hf] at h
  ·rename_i hf ha ht;simp [hf] at h
  ·rename_i hf ha ht;simp [hf] at h
  ·exact Zd
 | _=>simp [cls] at h
theorem ZcI {ρ : Operand→Value} {op : Op} (h : cls P op=1) : JO (toM (opM P Γ ρ op)):=by
 cases op with
 | load t a=>
  simp only [opM]
  split
  ·exact ZdY _ _
  ·exact Zea _
  ·exact Zd.read
 | lookup t m k ok=>
  simp only [opM]
  split
  ·rename_i kt e _
   cases hb : Jt P e with
   | false=>simpa [hb,toM] using Zd.read
   | true=>simpa [hb,toM] using Zed _ _ _ _ _
  ·exact Zd.read
 | convert s d x=>
  simp only [cls] at h
  simp only [opM]
  split
  ·rename_i h1 h2;simp [h1,h2] at h
  ·rename_i h1 h2;simp [h1,h2] at h
  ·rename_i h1 h2;simp [h1,h2] at h
  ·split
   ·exact Zef _
   ·exact Zd.read
  ·rename_i h1 h2;simp [h1,h2] at h
  ·exact Zd.read
 | slice t x lo hi mx=>
  simp only [cls] at h
  simp only [opM]
  split
  ·rename_i h1;simp [h1] at h
  ·split
   ·exact Zd.read
   ·split
    ·exact Zd4 _ _ _ _ _
    ·exact Zd.read
  ·exact Zd.read
 | call c=>
  simp only [cls] at h
  simp only [opM,Yz]
  split
  ·rename_i hf;simp [hf] at h
  ·rename_i hf;simp [hf] at h
  ·rename_i hf ha ht
   simp only [hf,ht] at h
   split
   ·rename_i hu;simp [hu] at h
   ·rename_i hu;simp [hu] at h
   ·exact Zdn _
   ·exact Zd.read
  ·rename_i hf ha ht;simp [hf] at h
  ·rename_i hf ha;simp [hf] at h
  ·rename_i hf ha;simp [hf] at h
  ·rename_i hf ha ht;simp [hf] at h
  ·rename_i hf ha ht;simp [hf] at h
  ·rename_i hf ha ht;simp [hf] at h
  ·exact Zd.read
 | _=>simp [cls] at h
end
end Go.Proofs.Ytfefblgkfdaekaa.A
namespace Go.Proofs.Ytfefblgkfdaekaa.A
set_option linter.unusedVariables false
set_option linter.unusedSimpArgs false
section
variable {P : Program} {Γ : Zp} {w0 : Zg} {N : Nat}
def Ko (P : Program) (Γ : Zp) (all : List Oper) (f : Nat→Value) (o : Oper) (H : Zb) (v : Value) (H1 : Zb) : Prop:=
 ∀ (γ : Type) (k : Value→M γ),Yl (opG P Γ all f o) k H=k v H1
theorem Zbt {all : List Oper} {f f' : Nat→Value} {o : Oper} (h : ∀ t∈Yf all o,f t=f' t) : opG P Γ all f o=opG P Γ all f' o:=by
 have hop : opM P Γ (evF f) o.op=opM P Γ (evF f') o.op:=Zdu fun y hy=>by
  cases y with
  | tmp t=>
   refine h t ?_
   unfold Yf ZcW
   exact List.mem_append_left _ (List.mem_flatMap.2 ⟨.tmp t,hy,by simp [Zc6]⟩)
  | _=>rfl
 unfold opG
 cases hg : o.guard with
 | none=>exact hop
 | some g=>
  obtain ⟨j,w⟩:=g
  simp only
  cases hd : J7 all j with
  | none=>rfl
  | some d=>
   simp only
   rw [hop,h d (by unfold Yf;rw [hg];simp [hd])]
theorem YP {m : OpR} (hm : JO (toM m)) {H H1 : Zb} {v : Value} (h : ∀ (γ : Type) (k : Value→M γ),Yl m k H=k v H1) : H1=H∧toM m H=some (v,H):=by
 have e:=h (Value) (fun u=>ret u)
 cases m with
 | val u=>simp only [Yl,ret,Option.some.injEq,Prod.mk.injEq] at e;obtain ⟨rfl,rfl⟩:=e;exact ⟨rfl,rfl⟩
 | cmp m=>
  obtain ⟨u,H2,h1,h2⟩:=bind_some (m:=m) (k:=fun u=>ret u) (x:=(v,H1)) e
  cases h2
  have:=hm H v H1 h1
  subst this
  exact ⟨rfl,h1⟩
theorem ZdH {m : OpR} {H : Zb} {v : Value} (h : toM m H=some (v,H)) : ∀ (γ : Type) (k : Value→M γ),Yl m k H=k v H:=by
 intro γ k
 cases m with
 | val u=>cases h;rfl
 | cmp m=>simp only [toM] at h;simp [Yl,A.bind,h]
theorem Zdr {g : Value} {w : Bool} {m : M Value} (h : Qa m) : Qa (Z0 g w m):=by
 unfold Z0
 split
 ·rename_i b;cases b==w <;> first | exact Yj _ | exact h
 ·rename_i vs;cases Nat.beq vs.size 1 <;> first | exact Yj _ | exact Zd
 ·exact Zd
theorem ZdF {g : Value} {w : Bool} {m : M Value} (h : JO m) : JO (Z0 g w m):=by
 unfold Z0
 split
 ·rename_i b;cases b==w <;> first | exact (Yj _).read | exact h
 ·rename_i vs;cases Nat.beq vs.size 1 <;> first | exact (Yj _).read | exact Zd.read
 ·exact Zd.read
theorem ZbR {all : List Oper} {f : Nat→Value} {o : Oper} (h : cls P o.op=0) : Qa (toM (opG P Γ all f o)):=by
 unfold opG
 split
 ·exact Zcg h
 ·split
  ·exact Zdr (Zcg h)
  ·exact Zd
theorem ZcA {all : List Oper} {f : Nat→Value} {o : Oper} (h : cls P o.op=1) : JO (toM (opG P Γ all f o)):=by
 unfold opG
 split
 ·exact ZcI h
 ·split
  ·exact ZdF (ZcI h)
  ·exact Zd.read
def Tr (P : Program) (Γ : Zp) (an : List (List Nat)) (all : List Oper) : List (Nat × Oper)→YF→Zf→Zb→Zf→List Zb→Zb→Prop
 | [],_,r,H,rf,hl,Hf=>rf=r∧hl=[]∧Hf=H
 | p :: l,rs,r,H,rf,hl,Hf=>∃ v H1,Ko P Γ all (Zk r) p.2 H v H1∧
   ((cls P p.2.op=0∧Tr P Γ an all l rs (J0 r p.2.dst v) H rf hl Hf)∨
    (cls P p.2.op=1∧Tr P Γ an all l ((p.1,toM (opG P Γ all (Zk r) p.2),v) :: rs) (J0 r p.2.dst v) H rf hl Hf)∨
    ((cls P p.2.op≠0∧cls P p.2.op≠1)∧∃ hl',hl=H1 :: hl'∧(∀ q∈rs,JE (an.getD p.1 []) q.1=false→q.2.1 H1=some (q.2.2,H1))∧Tr P Γ an all l rs (J0 r p.2.dst v) H1 rf hl' Hf))
theorem Za4 {β : Type} {x : β × Zb} : ∀ {qs : YF} {m : M β} {H : Zb},(∀ q∈qs,JO q.2.1)→ZbB qs m H=some x→(∀ q∈qs,q.2.1 H=some (q.2.2,H))∧m H=some x
 | [],m,H,_,h=>⟨by simp,h⟩
 | q :: qs,m,H,hr,h=>by
  simp only [ZbB] at h
  obtain ⟨u,H2,h1,h2⟩:=bind_some h
  have:=hr q (by simp) H u H2 h1
  subst this
  unfold same at h2
  split at h2
  ·rename_i e
   subst e
   obtain ⟨h3,h4⟩:=Za4 (fun p hp=>hr p (by simp [hp])) h2
   refine ⟨fun p hp=>?_,h4⟩
   cases hp with
   | head=>exact h1
   | tail _ hp=>exact h3 p hp
  ·cases h2
theorem ZaG {β : Type} {x : β × Zb} {an : List (List Nat)} {all : List Oper} {k : Zf→M β} : ∀ {l : List (Nat × Oper)} {rs : YF} {r : Zf} {H : Zb},(∀ q∈rs,JO q.2.1)→exD P Γ an all l rs r k H=some x→
  ∃ rf hl Hf,k rf Hf=some x∧Tr P Γ an all l rs r H rf hl Hf
 | [],rs,r,H,_,h=>⟨r,[],H,h,rfl,rfl,rfl⟩
 | p :: l,rs,r,H,hrs,h=>by
  simp only [exD] at h
  obtain ⟨v,H1,h1,h2⟩:=Ww h
  generalize hc : cls P p.2.op=c at h1
  rcases c with _ | _ | c
  ·have e:=(YP (ZbR (Γ:=Γ) (all:=all) (f:=Zk r) hc).read h2).1
   subst e
   obtain ⟨rf,hl,Hf,h3,h4⟩:=ZaG hrs h1
   exact ⟨rf,hl,Hf,h3,v,H1,h2,.inl ⟨hc,h4⟩⟩
  ·have hro:=ZcA (Γ:=Γ) (all:=all) (f:=Zk r) hc
   have e:=(YP hro h2).1
   subst e
   obtain ⟨rf,hl,Hf,h3,h4⟩:=ZaG (fun q hq=>by
    cases hq with
    | head=>exact hro
    | tail _ hq=>exact hrs q hq) h1
   exact ⟨rf,hl,Hf,h3,v,H1,h2,.inr (.inl ⟨hc,h4⟩)⟩
  ·have hc0 : cls P p.2.op≠0:=by omega
   have hc1 : cls P p.2.op≠1:=by omega
   obtain ⟨h5,h6⟩:=Za4 (fun q hq=>hrs q (List.mem_filter.1 hq).1) h1
   obtain ⟨rf,hl,Hf,h3,h4⟩:=ZaG hrs h6
   refine ⟨rf,H1 :: hl,Hf,h3,v,H1,h2,.inr (.inr ⟨⟨hc0,hc1⟩,hl,rfl,fun q hq hn=>h5 q ?_,h4⟩)⟩
   exact List.mem_filter.2 ⟨hq,by rw [hn];rfl⟩
theorem WX {an : List (List Nat)} {all : List Oper} : ∀ {l : List (Nat × Oper)} {rs : YF} {r : Zf} {H : Zb} {rf : Zf} {hl : List Zb} {Hf : Zb},Tr P Γ an all l rs r H rf hl Hf→
  ∀ t,(∀ p∈l,p.2.dst≠some t)→Zk rf t=Zk r t
 | [],rs,r,H,rf,hl,Hf,h,t,_=>by rw [h.1]
 | p :: l,rs,r,H,rf,hl,Hf,h,t,ht=>by
  obtain ⟨v,H1,_,h⟩:=h
  have : Zk rf t=Zk (J0 r p.2.dst v) t:=by
   rcases h with ⟨_,h⟩ | ⟨_,h⟩ | ⟨_,hl',_,_,h⟩ <;> exact WX h t fun q hq=>ht q (by simp [hq])
  rw [this,WE (ht p (by simp))]
theorem QM {l : List Nat} {i : Nat} : JE l i=true↔i∈l:=by
 unfold JE
 rw [List.any_eq_true]
 constructor
 ·rintro ⟨x,hx,e⟩;rw [Nat.eq_of_beq_eq_true e];exact hx
 ·intro h;exact ⟨i,h,Nat.beq_refl i⟩
structure WW (fo : Option Nat) (all : List Oper) (cl : List Nat) (an : List (List Nat)) (ord : List Nat) : Prop where
 nodup : ord.Nodup
 cover : ∀ i,i < all.length→i∈ord
 inn : ∀ i∈ord,i < all.length
 edge : ∀ i o,all[i]?=some o→∀ e∈Yn o,e∈an.getD i []∧e < all.length
 back : ∀ i o,all[i]?=some o→∀ x∈an.getD i [],∃ e∈Yn o,x=e∨x∈an.getD e []
 trans : ∀ i,i < all.length→∀ x∈an.getD i [],(∀ y∈an.getD x [],y∈an.getD i [])∧Yw ord x < Yw ord i
 irr : ∀ i,i < all.length→i∉an.getD i []
 guard : ∀ i o j w,all[i]?=some o→o.guard=some (j,w)→j∈an.getD i []∧∃ d,J7 all j=some d
 chain : ∀ i,i < all.length→cl.getD i 0=2→∀ j,j < all.length→cl.getD j 0=2→j≠i→(fo≠some i→Zs cl ord j < Zs cl ord i→j∈an.getD i [])∧Zs cl ord j≠Zs cl ord i
 eager : ∀ i,i < all.length→cl.getD i 0≠2→Zs cl ord i=0∨∃ e,e < all.length∧cl.getD e 0=2∧Zs cl ord e+1=Zs cl ord i∧e∈an.getD i []
 full : ∀ i,i < all.length→∀ j,j < Zs cl ord i→∃ e,e < all.length∧cl.getD e 0=2∧Zs cl ord e=j
 tmps : ∀ i o j q d,all[i]?=some o→all[j]?=some q→i≠j→o.dst=some d→(d∈Yf all q∨q.dst=some d)→(i∈an.getD j []∨j∈an.getD i [])∧q.dst≠some d
 flo : ∀ f,fo=some f→f < all.length∧cl.getD f 0=2∧(∃ o t d,all[f]?=some o∧o.op=.alloc t∧o.guard=none∧o.dst=some d)∧an.getD f []=[]∧
  ∀ i,i < all.length→f∈an.getD i []→Zs cl ord f=0∨∃ e,e < all.length∧cl.getD e 0=2∧Zs cl ord e+1=Zs cl ord f∧e∈an.getD i []
theorem ZbL {o : Oper} (h : WT o=true) : ∃ t d,o.op=.alloc t∧o.guard=none∧o.dst=some d:=by
 unfold WT at h
 simp only [Bool.and_eq_true] at h
 obtain ⟨⟨h1,h2⟩,h3⟩:=h
 obtain ⟨d,hd⟩:=Option.isSome_iff_exists.1 h3
 split at h1
 ·rename_i t ht
  exact ⟨t,d,ht,by simpa using h2,hd⟩
 ·cases h1
theorem Ym {n : Nat} {p : Nat→Bool} (h : Wz n p=true) {i : Nat} (hi : i < n) : p i=true:=by
 unfold Wz at h
 exact List.all_eq_true.1 h i (List.mem_range.2 hi)
theorem Wt {n : Nat} {p : Nat→Bool} (h : Zb2 n p=true) : ∃ i,i < n∧p i=true:=by
 unfold Zb2 at h
 obtain ⟨i,h1,h2⟩:=List.any_eq_true.1 h
 exact ⟨i,List.mem_range.1 h1,h2⟩
theorem KK {a b : Nat} : Nat.blt a b=true↔a < b:=by simp
theorem YN {a b : Nat} (h : a≠b) : Nat.beq a b=false:=by
 cases e : Nat.beq a b with
 | false=>rfl
 | true=>exact absurd (Nat.eq_of_beq_eq_true e) h
theorem Wr {a b : Nat} (h : a=b) : Nat.beq a b=true:=by subst h;exact Nat.beq_refl a
theorem Zad : ∀ {l : List Nat},ZaV l=true→l.Nodup
 | [],_=>.nil
 | i :: l,h=>by
  simp only [ZaV,Bool.and_eq_true] at h
  refine List.nodup_cons.2 ⟨fun hm=>?_,Zad h.2⟩
  have:=h.1
  rw [QM.2 hm] at this;cases this
theorem Zag {fo : Option Nat} {all : List Oper} {cl : List Nat} {an : List (List Nat)} {ord : List Nat} (h : KM fo all cl an ord=true) : WW fo all cl an ord:=by
 unfold KM at h
 simp only [Bool.and_eq_true] at h
 obtain ⟨⟨⟨⟨⟨h0,h1⟩,h2⟩,_⟩,h3⟩,hf⟩:=h
 have key : ∀ i,i < all.length→∃ o,all[i]?=some o:=fun i hi=>⟨all[i],List.getElem?_eq_getElem hi⟩
 have H : ∀ i o,all[i]?=some o→_:=fun i o ho=>by
  have hi : i < all.length:=by
   rcases Nat.lt_or_ge i all.length with h | h
   ·exact h
   ·rw [List.getElem?_eq_none h] at ho;cases ho
  have:=Ym h3 hi
  simp only [ho,Bool.and_eq_true] at this
  exact this
 have lt : ∀ {i o},all[i]?=some o→i < all.length:=fun {i o} ho=>by
  rcases Nat.lt_or_ge i all.length with h | h
  ·exact h
  ·rw [List.getElem?_eq_none h] at ho;cases ho
 refine ⟨Zad h0,fun i hi=>QM.1 (Ym h1 hi),fun i hi=>KK.1 (List.all_eq_true.1 h2 i hi),?_,?_,?_,?_,?_,?_,?_,?_,?_,?_⟩
 ·intro i o ho e he
  have:=List.all_eq_true.1 (H i o ho).1.1.1.1.1.1.1 e he
  simp only [Bool.and_eq_true] at this
  exact ⟨QM.1 this.1,KK.1 this.2⟩
 ·intro i o ho x hx
  have:=List.all_eq_true.1 (H i o ho).1.1.1.1.1.1.2 x hx
  obtain ⟨e,he,h⟩:=List.any_eq_true.1 this
  simp only [Bool.or_eq_true] at h
  exact ⟨e,he,h.imp Nat.eq_of_beq_eq_true QM.1⟩
 ·intro i hi x hx
  obtain ⟨o,ho⟩:=key i hi
  have:=List.all_eq_true.1 (H i o ho).1.1.1.1.1.2 x hx
  simp only [Bool.and_eq_true] at this
  exact ⟨fun y hy=>QM.1 (List.all_eq_true.1 this.1 y hy),KK.1 this.2⟩
 ·intro i hi hm
  obtain ⟨o,ho⟩:=key i hi
  have:=(H i o ho).1.1.1.1.2
  rw [QM.2 hm] at this;cases this
 ·intro i o j w ho hg
  have:=(H i o ho).1.1.1.2
  rw [hg] at this
  simp only [Bool.and_eq_true] at this
  exact ⟨QM.1 this.1,Option.isSome_iff_exists.1 this.2⟩
 ·intro i hi hc j hj hcj hne
  obtain ⟨o,ho⟩:=key i hi
  have:=(H i o ho).1.1.2
  rw [Wr hc,cond_true] at this
  have:=Ym this hj
  simp only [Bool.or_eq_true,Bool.and_eq_true] at this
  rcases this with (h | h) | h
  ·rw [Wr hcj] at h;cases h
  ·exact absurd (Nat.eq_of_beq_eq_true h) hne
  ·refine ⟨fun hfo hlt=>?_,?_⟩
   ·rcases h.1 with (h | h) | h
    ·exfalso
     unfold isF at h
     split at h
     ·rename_i f
      exact hfo (by rw [Nat.eq_of_beq_eq_true h])
     ·cases h
    ·rw [KK.2 hlt] at h;cases h
    ·exact QM.1 h
   ·intro e
    have:=h.2
    rw [Wr e] at this;cases this
 ·intro i hi hc
  obtain ⟨o,ho⟩:=key i hi
  have:=(H i o ho).1.1.2
  rw [YN hc,cond_false] at this
  simp only [Bool.or_eq_true] at this
  rcases this with h | h
  ·exact .inl (Nat.eq_of_beq_eq_true h)
  ·obtain ⟨e,he,h⟩:=Wt h
   simp only [Bool.and_eq_true] at h
   exact .inr ⟨e,he,Nat.eq_of_beq_eq_true h.1.1,Nat.eq_of_beq_eq_true h.1.2,QM.1 h.2⟩
 ·intro i hi j hj
  obtain ⟨o,ho⟩:=key i hi
  have:=Ym (H i o ho).1.2 hj
  obtain ⟨e,he,h⟩:=Wt this
  simp only [Bool.and_eq_true] at h
  exact ⟨e,he,Nat.eq_of_beq_eq_true h.1,Nat.eq_of_beq_eq_true h.2⟩
 ·intro i o j q d ho hq hne hd hl
  have:=Ym (H i o ho).2 (lt hq)
  simp only [hd,hq,Bool.or_eq_true,Bool.and_eq_true] at this
  rcases this with h | h
  ·exact absurd (Nat.eq_of_beq_eq_true h) hne
  ·rcases h with h | h
   ·exfalso
    rcases hl with hl | hl
    ·rw [QM.2 hl] at h;simp at h
    ·rw [hl] at h;simp [Nat.beq_refl] at h
   ·refine ⟨h.1.imp QM.1 QM.1,fun e=>?_⟩
    have:=h.2
    rw [e] at this
    simp [Nat.beq_refl] at this
 ·intro f hfo
  subst hfo
  simp only [Bool.and_eq_true] at hf
  obtain ⟨⟨⟨⟨k1,k2⟩,k3⟩,k4⟩,k5⟩:=hf
  refine ⟨KK.1 k1,Nat.eq_of_beq_eq_true k2,?_,by simpa using k4,fun i hi hm=>?_⟩
  ·split at k3
   ·rename_i o ho
    obtain ⟨t,d,h1,h2,h3⟩:=ZbL k3
    exact ⟨o,t,d,ho,h1,h2,h3⟩
   ·cases k3
  ·have:=Ym k5 hi
   simp only [Bool.or_eq_true] at this
   rcases this with (h | h) | h
   ·rw [QM.2 hm] at h;cases h
   ·exact .inl (Nat.eq_of_beq_eq_true h)
   ·obtain ⟨e,he,h⟩:=Wt h
    simp only [Bool.and_eq_true] at h
    exact .inr ⟨e,he,Nat.eq_of_beq_eq_true h.1.1,Nat.eq_of_beq_eq_true h.1.2,QM.1 h.2⟩
end
end Go.Proofs.Ytfefblgkfdaekaa.A
namespace Go.Proofs.Ytfefblgkfdaekaa.A
set_option linter.unusedVariables false
set_option linter.unusedSimpArgs false
section
variable {P : Program} {Γ : Zp}
def Wrt (all : List Oper) (j t : Nat) : Prop:=∃ q,all[j]?=some q∧q.dst=some t
open Classical in
noncomputable def fA (all : List Oper) (an : List (List Nat)) (r0 rf : Zf) (i t : Nat) : Value:=
 if ∃ j,j∈an.getD i []∧Wrt all j t then Zk rf t else Zk r0 t
def cE (cl : List Nat) : List Nat→Nat
 | []=>0
 | j :: l=>(bif Nat.beq (cl.getD j 0) 2 then 1 else 0)+cE cl l
theorem Wq {cl : List Nat} : ∀ (a b : List Nat),cE cl (a++b)=cE cl a+cE cl b
 | [],b=>by simp [cE]
 | j :: a,b=>by simp only [List.cons_append,cE,Wq a b];omega
theorem KI {cl : List Nat} {i : Nat} {tl : List Nat} : ∀ {dn : List Nat},i∉dn→Zs cl (dn++i :: tl) i=cE cl dn
 | [],_=>by simp [Zs,cE,Nat.beq_refl]
 | j :: dn,h=>by
  have hne : i≠j:=fun e=>h (by simp [e])
  simp only [List.cons_append,Zs,cE,YN hne,cond_false]
  rw [KI fun hm=>h (by simp [hm])]
theorem Zb6 {i : Nat} {tl : List Nat} : ∀ {dn : List Nat},i∉dn→Yw (dn++i :: tl) i=dn.length
 | [],_=>by simp [Yw,Nat.beq_refl]
 | j :: dn,h=>by
  have hne : i≠j:=fun e=>h (by simp [e])
  simp only [List.cons_append,Yw,YN hne,cond_false,List.length_cons]
  rw [Zb6 fun hm=>h (by simp [hm])]
theorem Zdy {j : Nat} {l : List Nat} : ∀ {dn : List Nat},j∈dn→Yw (dn++l) j < dn.length
 | k :: dn,h=>by
  simp only [List.cons_append,Yw]
  cases e : Nat.beq j k with
  | true=>simp
  | false=>
   simp only [cond_false,List.length_cons]
   have : j∈dn:=by
    cases h with
    | head=>simp at e
    | tail _ h=>exact h
   have:=Zdy (l:=l) this
   omega
theorem Zcy {j : Nat} {l : List Nat} : ∀ {dn : List Nat},j∉dn→dn.length≤Yw (dn++l) j
 | [],_=>by simp
 | k :: dn,h=>by
  have hne : j≠k:=fun e=>h (by simp [e])
  simp only [List.cons_append,Yw,YN hne,cond_false,List.length_cons]
  have:=Zcy (j:=j) (l:=l) (dn:=dn) fun hm=>h (List.mem_cons_of_mem _ hm)
  omega
theorem K0 {cl : List Nat} : ∀ {l : List Nat} {j : Nat},j < cE cl l→∃ a e b,l=a++e :: b∧cl.getD e 0=2∧cE cl a=j
 | [],j,h=>by simp [cE] at h
 | k :: l,j,h=>by
  simp only [cE] at h
  cases hk : Nat.beq (cl.getD k 0) 2 with
  | true=>
   rw [hk,cond_true] at h
   cases j with
   | zero=>exact ⟨[],k,l,rfl,Nat.eq_of_beq_eq_true hk,rfl⟩
   | succ j=>
    obtain ⟨a,e,b,h1,h2,h3⟩:=K0 (cl:=cl) (l:=l) (j:=j) (by omega)
    exact ⟨k :: a,e,b,by simp [h1],h2,by simp only [cE,hk,cond_true,h3];omega⟩
  | false=>
   rw [hk,cond_false,Nat.zero_add] at h
   obtain ⟨a,e,b,h1,h2,h3⟩:=K0 h
   exact ⟨k :: a,e,b,by simp [h1],h2,by simp only [cE,hk,cond_false,h3];omega⟩
theorem WV {an : List (List Nat)} {all : List Oper} : ∀ {l : List (Nat × Oper)} {rs : YF} {r : Zf} {H : Zb} {rf : Zf} {hl : List Zb} {Hf : Zb},Tr P Γ an all l rs r H rf hl Hf→
  (H :: hl).getD hl.length []=Hf
 | [],rs,r,H,rf,hl,Hf,h=>by obtain ⟨_,rfl,rfl⟩:=h;rfl
 | p :: l,rs,r,H,rf,hl,Hf,h=>by
  obtain ⟨v,H1,_,h⟩:=h
  rcases h with ⟨_,h⟩ | ⟨_,h⟩ | ⟨_,hl',rfl,_,h⟩
  ·exact WV h
  ·exact WV h
  ·simpa using WV h
theorem Za1 {an : List (List Nat)} {all : List Oper} : ∀ {l : List Nat} {rs : YF} {r : Zf} {H : Zb} {rf : Zf} {hl : List Zb} {Hf : Zb},(∀ i∈l,i < all.length)→
  Tr P Γ an all (Jx all l) rs r H rf hl Hf→hl.length=cE (all.map fun o=>cls P o.op) l
 | [],rs,r,H,rf,hl,Hf,_,h=>by obtain ⟨_,rfl,_⟩:=h;rfl
 | i :: l,rs,r,H,rf,hl,Hf,hi,h=>by
  have hlt:=hi i (by simp)
  have ho : all[i]?=some all[i]:=List.getElem?_eq_getElem hlt
  have e : Jx all (i :: l)=(i,all[i]) :: Jx all l:=by simp [Jx,ho]
  rw [e] at h
  obtain ⟨v,H1,_,h⟩:=h
  have hcl : (all.map fun o=>cls P o.op).getD i 0=cls P all[i].op:=by simp [hlt]
  simp only [cE,hcl]
  rcases h with ⟨hc,h⟩ | ⟨hc,h⟩ | ⟨⟨hc0,hc1⟩,hl',rfl,_,h⟩
  ·rw [Za1 (fun j hj=>hi j (by simp [hj])) h]
   simp only at hc
   rw [hc];simp [Nat.beq]
  ·rw [Za1 (fun j hj=>hi j (by simp [hj])) h]
   simp only at hc
   rw [hc];simp [Nat.beq]
  ·have h2:=Za1 (fun j hj=>hi j (by simp [hj])) h
   have hc2 : cls P all[i].op=2:=by
    have : ∀ op,cls P op=0∨cls P op=1∨cls P op=2:=by
     intro op
     unfold cls
     split <;> first | simp | (split <;> simp) | skip
     split <;> first | simp | (split <;> simp)
    rcases this all[i].op with h | h | h
    ·exact absurd h hc0
    ·exact absurd h hc1
    ·exact h
   rw [hc2]
   simp [h2,Nat.beq];omega
structure ZcY (P : Program) (Γ : Zp) (all : List Oper) (cl : List Nat) (an : List (List Nat)) (ord : List Nat) (r0 rf : Zf) (hs : Nat→Zb) (m : Nat) (i : Nat) (o : Oper) (v : Value) : Prop where
 dst : ∀ d,o.dst=some d→Zk rf d=v
 eff : cl.getD i 0=2→Ko P Γ all (fA all an r0 rf i) o (hs (Zs cl ord i)) v (hs (Zs cl ord i+1))
 non : cl.getD i 0≠2→∀ j,Zs cl ord i≤j→j≤m→(∀ e,e < all.length→cl.getD e 0=2→Zs cl ord i≤Zs cl ord e→Zs cl ord e < j→i∉an.getD e [])→
  Ko P Γ all (fA all an r0 rf i) o (hs j) v (hs j)
theorem ZcT {all : List Oper} {cl : List Nat} {an : List (List Nat)} {ord : List Nat} (hcl : cl=all.map fun o=>cls P o.op) {fo : Option Nat} (hO : WW fo all cl an ord) {r0 rf : Zf} {hs : Nat→Zb} {m : Nat} {Hf : Zb} (hm : m=cE cl ord) :
  ∀ (l dn : List Nat) {rs : YF} {r : Zf} {H : Zb} {hl : List Zb},dn++l=ord→Tr P Γ an all (Jx all l) rs r H rf hl Hf→(∀ t,(∀ j∈dn,¬ Wrt all j t)→Zk r t=Zk r0 t)→
   (∀ q,q≤hl.length→hs (cE cl dn+q)=(H :: hl).getD q [])→
   (∀ i∈l,∃ o v,all[i]?=some o∧ZcY P Γ all cl an ord r0 rf hs m i o v)∧
   (∀ q∈rs,∀ e∈l,cl.getD e 0=2→q.1∉an.getD e []→q.2.1 (hs (Zs cl ord e+1))=some (q.2.2,hs (Zs cl ord e+1)))
 | [],dn,rs,r,H,hl,_,_,_,_=>⟨by simp,by simp⟩
 | i :: l,dn,rs,r,H,hl,hord,htr,hI2,hHS=>by
  have hiord : i∈ord:=by rw [← hord];simp
  have hlt:=hO.inn i hiord
  have ho : all[i]?=some all[i]:=List.getElem?_eq_getElem hlt
  generalize all[i]=o at ho
  have e : Jx all (i :: l)=(i,o) :: Jx all l:=by simp [Jx,ho]
  have hnd:=hO.nodup
  rw [← hord] at hnd
  have hidn : i∉dn:=fun hm=>by
   have:=(List.nodup_append.1 hnd).2.2 i hm i (by simp)
   exact this rfl
  have hil : i∉l:=(List.nodup_cons.1 (List.nodup_append.1 hnd).2.1).1
  have hdl : ∀ j∈dn,j∉l:=fun j hj hm=>(List.nodup_append.1 hnd).2.2 j hj j (by simp [hm]) rfl
  have hlev : Zs cl ord i=cE cl dn:=by rw [← hord];exact KI hidn
  have hcli : cl.getD i 0=cls P o.op:=by rw [hcl];simp [ho]
  have hpick : ∀ p∈Jx all (i :: l),p.1∈i :: l∧all[p.1]?=some p.2:=by
   intro p hp
   unfold Jx at hp
   obtain ⟨k,hk,hp⟩:=List.mem_filterMap.1 hp
   simp only [Option.map_eq_some_iff] at hp
   obtain ⟨q,hq,rfl⟩:=hp
   exact ⟨hk,hq⟩
  have hregs : ∀ t∈Yf all o,Zk r t=fA all an r0 rf i t:=by
   intro t ht
   unfold fA
   split
   ·rename_i hw
    obtain ⟨j,hj,q,hq,hqd⟩:=hw
    refine (WX htr t fun p hp hpt=>?_).symm
    obtain ⟨hp1,hp2⟩:=hpick p hp
    have hjn : j < all.length:=by
     rcases Nat.lt_or_ge j all.length with h | h
     ·exact h
     ·rw [List.getElem?_eq_none h] at hq;cases hq
    have hjdn : j∈dn:=by
     have h1:=(hO.trans i hlt j hj).2
     rw [← hord,Zb6 hidn] at h1
     refine Classical.byContradiction fun hno=>?_
     have:=Zcy (l:=i :: l) hno
     omega
    have hne : j≠p.1:=fun he=>by
     rw [← he] at hp1
     cases hp1 with
     | head=>exact hidn hjdn
     | tail _ h=>exact hdl j hjdn h
    exact (hO.tmps j q p.1 p.2 t hq hp2 hne hqd (.inr hpt)).2 hpt
   ·rename_i hw
    refine hI2 t fun j hj hwr=>hw ?_
    obtain ⟨q,hq,hqd⟩:=hwr
    have hne : j≠i:=fun he=>hidn (he ▸ hj)
    rcases (hO.tmps j q i o t hq ho hne hqd (.inl ht)).1 with h | h
    ·exact ⟨j,h,q,hq,hqd⟩
    ·exfalso
     have hjn : j < all.length:=by
      rcases Nat.lt_or_ge j all.length with h | h
      ·exact h
      ·rw [List.getElem?_eq_none h] at hq;cases hq
     have h1:=(hO.trans j hjn i h).2
     rw [← hord,Zb6 hidn] at h1
     have:=Zdy (l:=i :: l) hj
     omega
  rw [e] at htr
  obtain ⟨v,H1,hst,htr⟩:=htr
  have hst' : Ko P Γ all (fA all an r0 rf i) o H v H1:=by
   intro γ k
   rw [← Zbt hregs];exact hst γ k
  have hH : hs (cE cl dn)=H:=by have:=hHS 0 (Nat.zero_le _);simpa using this
  have hI2' : ∀ t,(∀ j∈dn++[i],¬ Wrt all j t)→Zk (J0 r o.dst v) t=Zk r0 t:=by
   intro t ht
   rw [WE (fun hd=>ht i (by simp) ⟨o,ho,hd⟩)]
   exact hI2 t fun j hj=>ht j (by simp [hj])
  have hdstl : ∀ {rs' : YF} {H' : Zb} {hl' : List Zb},Tr P Γ an all (Jx all l) rs' (J0 r o.dst v) H' rf hl' Hf→∀ d,o.dst=some d→Zk rf d=v:=by
   intro rs' H' hl' ht d hd
   rw [WX ht d fun p hp hpt=>?_]
   ·simp [J0,hd,Zk,Nat.beq_refl]
   ·obtain ⟨hp1,hp2⟩:=hpick p (by rw [e];simp [hp])
    have hpl : p.1∈l:=by
     unfold Jx at hp
     obtain ⟨k,hk,hp⟩:=List.mem_filterMap.1 hp
     simp only [Option.map_eq_some_iff] at hp
     obtain ⟨q,hq,rfl⟩:=hp
     exact hk
    have hne : i≠p.1:=fun he=>hil (he ▸ hpl)
    exact (hO.tmps i o p.1 p.2 d ho hp2 hne hd (.inr hpt)).2 hpt
  have hord' : (dn++[i])++l=ord:=by simpa using hord
  have hnon : cl.getD i 0≠2→∀ {rs' : YF},H1=H→Tr P Γ an all (Jx all l) rs' (J0 r o.dst v) H rf hl Hf→(∀ q∈rs,q∈rs')→
    (Qa (toM (opG P Γ all (Zk r) o))∨(i,toM (opG P Γ all (Zk r) o),v)∈rs')→JO (toM (opG P Γ all (Zk r) o))→
    (∀ i'∈i :: l,∃ o v,all[i']?=some o∧ZcY P Γ all cl an ord r0 rf hs m i' o v)∧
    (∀ q∈rs,∀ e∈i :: l,cl.getD e 0=2→q.1∉an.getD e []→q.2.1 (hs (Zs cl ord e+1))=some (q.2.2,hs (Zs cl ord e+1))):=by
   intro hne rs' hHH ht hsub hpr hrd
   subst hHH
   have hce : cE cl (dn++[i])=cE cl dn:=by rw [Wq];simp only [cE,YN hne,cond_false];omega
   obtain ⟨ih1,ih2⟩:=ZcT hcl hO hm l (dn++[i]) hord' ht hI2' (by rw [hce];exact hHS)
   refine ⟨fun i' hi'=>?_,fun q hq e' he' hce' hqe=>?_⟩
   ·cases hi' with
    | tail _ h=>exact ih1 i' h
    | head=>
     refine ⟨o,v,ho,hdstl ht,fun h=>absurd h hne,fun _ j hj1 hj2 hanc=>?_⟩
     obtain ⟨_,hval⟩:=YP hrd hst
     have hfin : ∀ j,toM (opG P Γ all (Zk r) o) (hs j)=some (v,hs j)→Ko P Γ all (fA all an r0 rf i) o (hs j) v (hs j):=by
      intro j hj γ k
      rw [← Zbt hregs]
      exact ZdH hj γ k
     rw [hlev] at hj1
     rcases Nat.lt_or_ge (cE cl dn) j with hjj | hjj
     ·refine hfin j ?_
      rcases hpr with hp | hin
      ·have h3:=(hp _ _ _ hval).2 (hs j);exact h3
      ·obtain ⟨a,e',b,h1,h2,h3⟩:=K0 (cl:=cl) (l:=ord) (j:=j - 1) (by rw [← hm];omega)
       have hnd2:=hO.nodup
       rw [h1] at hnd2
       have hea : e'∉a:=fun hmm=>(List.nodup_append.1 hnd2).2.2 e' hmm e' (by simp) rfl
       have hle : Zs cl ord e'=j - 1:=by rw [h1,KI hea];exact h3
       have heo : e'∈ord:=by rw [h1];simp
       have hel : e'∈l:=by
        have hmem : e'∈dn++i :: l:=by rw [hord];exact heo
        rcases List.mem_append.1 hmem with h | h
        ·exfalso
         obtain ⟨s,t,hst2⟩:=List.append_of_mem h
         have hnd3:=hnd
         rw [hst2] at hnd3
         have hes : e'∉s:=fun hmm=>by
          have h4:=(List.nodup_append.1 (List.nodup_append.1 hnd3).1).2.2 e' hmm e' (by simp)
          exact h4 rfl
         have hle2 : Zs cl ord e'=cE cl s:=by
          rw [← hord,hst2,List.append_assoc,List.cons_append];exact KI hes
         have hce2 : cE cl dn=cE cl s+(1+cE cl t):=by
          rw [hst2,Wq];simp only [cE,h2,Nat.beq_refl,cond_true]
         omega
        ·cases h with
         | head=>exact absurd h2 hne
         | tail _ h=>exact h
       have:=ih2 _ hin e' hel h2 (hanc e' (hO.inn e' heo) h2 (by rw [hlev];omega) (by omega))
       rw [hle,show j - 1+1=j by omega] at this
       exact this
     ·have : j=cE cl dn:=by omega
      subst this
      refine hfin _ ?_
      rw [hH];exact hval
   ·cases he' with
    | head=>exact absurd hce' hne
    | tail _ h=>exact ih2 q (hsub q hq) e' h hce' hqe
  rcases htr with ⟨hc,ht⟩ | ⟨hc,ht⟩ | ⟨⟨hc0,hc1⟩,hl',rfl,hrk,ht⟩
  ·have hp:=ZbR (P:=P) (Γ:=Γ) (all:=all) (f:=Zk r) hc
   exact hnon (by rw [hcli];simp only at hc;omega) (YP hp.read hst).1 ht (fun q hq=>hq) (.inl hp) hp.read
  ·have hp:=ZcA (P:=P) (Γ:=Γ) (all:=all) (f:=Zk r) hc
   exact hnon (by rw [hcli];simp only at hc;omega) (YP hp hst).1 ht (fun q hq=>by simp [hq]) (.inr (by simp)) hp
  ·have hc2 : cl.getD i 0=2:=by
    rw [hcli]
    have : ∀ op,cls P op=0∨cls P op=1∨cls P op=2:=by
     intro op
     unfold cls
     split <;> first | simp | (split <;> simp) | skip
     split <;> first | simp | (split <;> simp)
    rcases this o.op with h | h | h
    ·exact absurd h hc0
    ·exact absurd h hc1
    ·exact h
   have hce : cE cl (dn++[i])=cE cl dn+1:=by rw [Wq];simp only [cE,hc2,Nat.beq_refl,cond_true]
   have hHS' : ∀ q,q≤hl'.length→hs (cE cl (dn++[i])+q)=(H1 :: hl').getD q []:=by
    intro q hq
    have:=hHS (q+1) (by simp;omega)
    rw [hce,show cE cl dn+1+q=cE cl dn+(q+1) by omega,this];simp
   have hH1 : hs (cE cl dn+1)=H1:=by have:=hHS 1 (by simp);simpa using this
   obtain ⟨ih1,ih2⟩:=ZcT hcl hO hm l (dn++[i]) hord' ht hI2' hHS'
   refine ⟨fun i' hi'=>?_,fun q hq e' he' hce' hqe=>?_⟩
   ·cases hi' with
    | tail _ h=>exact ih1 i' h
    | head=>
     refine ⟨o,v,ho,hdstl ht,fun _=>?_,fun h=>absurd hc2 h⟩
     rw [hlev,hH,hH1];exact hst'
   ·cases he' with
    | head=>
     rw [hlev,hH1]
     refine hrk q hq ?_
     cases hmm : JE (an.getD i []) q.1 with
     | false=>rfl
     | true=>exact absurd (QM.1 hmm) hqe
    | tail _ h=>exact ih2 q hq e' h hce' hqe
end
end Go.Proofs.Ytfefblgkfdaekaa.A
namespace Go.Proofs.Ytfefblgkfdaekaa.A
set_option linter.unusedVariables false
set_option linter.unusedSimpArgs false
section
variable {P : Program} {Γ : Zp} {w0 : Zg} {N : Nat} {ι : Nat→Option Loc} {H : Zb} {a : Act} {w : World} {rd : Option Nat}
theorem ZeY {f : Nat→Value} (hS : Sim P.globals.size w0 ι H w) {y : Operand} (hc : Jn P y=true) (hf : ∀ t∈Zc6 y,RV ι (f t) (a.tmps.getD t undef)) : RV ι (evF f y) (a.eval y):=by
 cases y with
 | tmp t=>exact hf t (by simp [Zc6])
 | const v=>exact .const hc
 | global g=>
  obtain ⟨l,h1,h2,h3⟩:=hS.glob g (by simpa [Jn] using hc)
  have:=RV.ptr (o:=0) h1
  rwa [h2,h3] at this
 | func f=>exact .fn (fun l e=>by cases e) rfl (by simp) rfl (by simp)
theorem Zfe {X : OpR} {H H1 : Zb} {v : Value} (h : ∀ (γ : Type) (k : Value→M γ),Yl (.cmp (toM X)) k H=k v H1) : ∀ (γ : Type) (k : Value→M γ),Yl X k H=k v H1:=by
 cases X <;> exact h
theorem Yt {ops : Array Oper} {Q : Exit→Act→World→Prop} {i : Nat} {o : Oper} {f : Nat→Value} {v : Value} {H1 : Zb} (hΓ : ∀ g,Jf P P.globals.size w0 g (Γ g)) (ho : ops[i]?=some o)
  (hS : Sim P.globals.size w0 ι H w) (hok : K5 P N o) (hf : ∀ t∈Yf ops.toList o,RV ι (f t) (a.tmps.getD t undef)) (hst : Ko P Γ ops.toList f o H v H1)
  {K : Act→World→Prop} (hn : ∀ ι1 v' w1,Le ι ι1→RV ι1 v v'→Sim P.globals.size w0 ι1 H1 w1→K (a.put o.dst v') w1) : wpOpIn (FR rd) 0 P ops Q i K a w:=by
 unfold wpOpIn
 rw [ho]
 simp only
 have hρ : ∀ y∈o.op.operands.toList,RV ι (evF f y) (a.eval y):=fun y hy=>ZeY hS (hok.consts y hy) fun t ht=>hf t (by
  unfold Yf ZcW
  exact List.mem_append_left _ (List.mem_flatMap.2 ⟨y,hy,ht⟩))
 unfold Ko opG at hst
 cases hg : o.guard with
 | none=>
  rw [hg] at hst
  rw [if_pos (by simp [Region.wanted,hg])]
  exact (Wf hS hΓ hρ hst hn)
 | some g=>
  obtain ⟨j,wt⟩:=g
  rw [hg] at hst
  simp only at hst
  cases hd : J7 ops.toList j with
  | none=>
   rw [hd] at hst
   have:=hst (Value) (fun u=>ret u)
   cases this
  | some d=>
   rw [hd] at hst
   simp only at hst
   have hd' : (ops[j]?).bind (·.dst)=some d:=by simpa [J7] using hd
   have hfd:=hf d (by unfold Yf;rw [hg];simp [hd])
   have hskip : yielded ops a.tmps j≠some wt→v=J4→H1=H→(if Region.wanted o (yielded ops a.tmps)=true then o.wpIn (FR rd) 0 P a w K Q else (∀ f,o.about P w a.eval=some f→(FR rd).fn f)∧K (a.put o.dst undef) w):=by
    intro hy hv hH
    subst hv;subst hH
    rw [if_neg (by simp [Region.wanted,hg,hy])]
    exact ⟨fun _ _=>trivial,hn ι undef w (.refl ι) .nw hS⟩
   unfold Z0 at hst
   generalize hgv : f d=gv at hst hfd
   cases gv with
   | bool b=>
    simp only at hst
    have hc:=hfd.bool_inv
    have hy : yielded ops a.tmps j=some b:=by
     unfold yielded
     rw [hd']
     simp only [Option.bind_some]
     rw [Array.getD_eq_getD_getElem?] at hc
     cases e : a.tmps[d]? with
     | none=>rw [e] at hc;cases hc
     | some u=>rw [e] at hc;simp only [Option.getD_some] at hc;subst hc;rfl
    cases hbw : b==wt with
    | true=>
     rw [hbw] at hst
     simp only [cond_true] at hst
     have hbe : b=wt:=by simpa using hbw
     subst hbe
     rw [if_pos (by simp [Region.wanted,hg,hy])]
     exact (Wf hS hΓ hρ (Zfe hst) hn)
    | false=>
     rw [hbw] at hst
     simp only [cond_false] at hst
     have:=hst (Value) (fun u=>ret u)
     cases this
     exact hskip (by rw [hy];intro e;cases e;simp at hbw) rfl rfl
   | tuple us=>
    simp only at hst
    cases hus : Nat.beq us.size 1 with
    | false=>
     rw [hus] at hst
     have:=hst (Value) (fun u=>ret u)
     cases this
    | true=>
     rw [hus] at hst
     have:=hst (Value) (fun u=>ret u)
     cases this
     refine hskip ?_ rfl rfl
     have hnb : ∀ b,a.tmps.getD d undef≠.bool b:=by
      intro b hb
      rw [hb] at hfd
      cases hfd with
      | un=>cases hus
     unfold yielded
     rw [hd']
     simp only [Option.bind_some]
     intro hh
     split at hh
     ·rename_i b hb
      exact hnb b (by rw [Array.getD_eq_getD_getElem?,hb];rfl)
     ·cases hh
   | _=>
    have:=hst (Value) (fun u=>ret u)
    cases this
theorem ZaT {p q : Nat→Bool} {i : Nat} (h : ∀ j,j≠i→q j=p j) (hp : p i=true) (hq : q i=false) : ∀ {l : List Nat},l.Nodup→i∈l→l.countP p=l.countP q+1
 | [],_,hm=>by cases hm
 | j :: l,hnd,hm=>by
  obtain ⟨h1,h2⟩:=List.nodup_cons.1 hnd
  by_cases e : j=i
  ·subst e
   have : l.countP p=l.countP q:=by
    apply List.countP_congr
    intro x hx
    rw [h x fun e=>h1 (e ▸ hx)]
   simp [List.countP_cons,hp,hq,this]
  ·have hm' : i∈l:=by
    cases hm with
    | head=>exact absurd rfl e
    | tail _ hm=>exact hm
   have:=ZaT h hp hq h2 hm'
   simp only [List.countP_cons,h j e,this]
   omega
def Wd (P : Program) (t : TypeId) : Obj:=.cells (zeT P t).cells t (0,0)
theorem ZaC {all : List Oper} {f : Nat→Value} {o : Oper} {t : TypeId} {v : Value} {H1 : Zb} (hst : Ko P Γ all f o H v H1) (hg : o.guard=none) (ho : o.op=.alloc t) :
  Jt P t=true∧(zeT P t).cells.toList.all oneCell=true∧v=.pointer (some ⟨H.length,0,none⟩)∧H1=H++[.cells (zeT P t).cells.toList (esT P t) false false]:=by
 have hst:=hst Value (fun u=>ret u)
 unfold opG at hst
 rw [hg] at hst
 simp only at hst
 rw [ho] at hst
 unfold opM at hst
 simp only at hst
 cases hb : Jt P t with
 | false=>
  rw [hb] at hst
  have hst : (none : Option (Value × Zb))=some (v,H1):=hst
  cases hst
 | true=>
  rw [hb] at hst
  have hst : bind (alc (esT P t) (zeT P t)) (fun u=>ret u) H=some (v,H1):=hst
  obtain ⟨u,H2,h1,h2⟩:=bind_some hst
  cases h2
  unfold alc at h1
  split at h1
  ·rename_i h3
   cases h1
   exact ⟨rfl,h3,rfl,rfl⟩
  ·cases h1
theorem Zd5 {ops : Array Oper} {Q : Exit→Act→World→Prop} {i : Nat} {o : Oper} {t : TypeId} (ho : ops[i]?=some o) (hop : o.op=.alloc t) (hg : o.guard=none) (ht : Jt P t=true)
  {K : Act→World→Prop} (hK : K (a.put o.dst (.pointer (some ⟨w.heap.size,0,none⟩))) (ZQ w (Wd P t))) : wpOpIn (FR rd) 0 P ops Q i K a w:=by
 unfold wpOpIn
 rw [ho]
 simp only
 rw [if_pos (by simp [Region.wanted,hg])]
 refine Zdp (by rw [hop];intro c hc;cases hc) ?_
 obtain ⟨z,hi,hz,hc,hr⟩:=Jj ht
 have e1 : (Instr.alloc t true (.tuple #[])).run P w=.ok (.pointer (some ⟨w.heap.size,0,none⟩)) (ZQ w (Wd P t)):=by
  simp [Instr.alloc,hr,newVar,newRow,ZQ,Wd]
 unfold Oper.wpX
 rw [show (execOp a.eval o).run P w=((Instr.alloc t true (.tuple #[])).run P w).andThen (fun v w=>.ok (.value v) w) from by unfold execOp;rw [hop];exact Zl _,e1]
 exact hK
theorem Sim.pend {G : Nat} (hS : Sim G w0 ι H w) (ob : Obj) : Sim G { w0 with prot:=(w.heap.size,ob) :: w0.prot } ι H (ZQ w ob):=by
 have hS1:=hS.push ob
 refine ⟨fun id o ho=>?_,hS1.inj,hS1.size,hS1.old,hS1.dom,hS1.glob,hS1.rest,fun y hy=>?_,hS1.views⟩
 ·have:=hS1.obj id o ho
  cases o <;> exact this
 ·cases hy with
  | head=>
   refine ⟨Yr w _,hS.size,fun id o l ho hd hl e=>?_⟩
   obtain ⟨l',hl',hlt⟩:=(hS.obj id o ho).loc hd
   rw [hl] at hl';cases hl'
   have e : l.blk=w.heap.size:=e
   omega
  | tail _ hy=>exact hS1.prot y hy
theorem Sim.adopt {G : Nat} {b : Nat} {t : TypeId} (ht : Jt P t=true) (h1 : (zeT P t).cells.toList.all oneCell=true) (hS : Sim G { w0 with prot:=(b,Wd P t) :: w0.prot } ι H w) (hb : ∀ c∈w0.prot,b≠c.1) :
  ∃ ι',Le ι ι'∧Sim G w0 ι' (H++[.cells (zeT P t).cells.toList (esT P t) false false]) w∧RV ι' (.pointer (some ⟨H.length,0,none⟩)) (.pointer (some ⟨b,0,none⟩)):=by
 obtain ⟨p1,p2,p3⟩:=hS.prot (b,Wd P t) (by simp)
 obtain ⟨z,hi,hz,hc,hr⟩:=Jj ht
 have hB : Sim G w0 ι H w:=⟨fun id o ho=>by have:=hS.obj id o ho;cases o <;> exact this,hS.inj,hS.size,hS.old,hS.dom,hS.glob,hS.rest,fun x hx=>hS.prot x (List.mem_cons_of_mem _ hx),hS.views⟩
 have hcr : RVs ι (zeT P t).cells.toList (zeT P t).cells.toList:=Wm (RV.const hc) (by
  cases hu : zeT P t <;> first | exact .inl rfl | exact .inr ⟨_,rfl⟩ | skip
  rw [hu] at h1
  simp [Value.cells,oneCell] at h1)
 let l : Loc:=⟨b,0,(zeT P t).cells.toList.length,esT P t,false⟩
 refine ⟨JD ι H.length l,Jd hB l,hB.add (l:=l) ⟨l,(zeT P t).cells,t,(0,0),ZD _ _ _,rfl,rfl,p1,?_,?_,?_,fun _=>⟨p2,.inl rfl,fun _=>rfl⟩,by simp,List.all_eq_true.1 h1⟩ (fun i oi li hi hw hl e=>p3 i oi li hi (by intro e;rw [e] at hw;cases hw) hl e) hb (fun _ j cs es nx lj hj hlj e=>absurd e (p3 j _ lj hj (by simp) hlj)),.ptr (ZD _ _ _)⟩
 ·show 0+(zeT P t).cells.toList.length≤(zeT P t).cells.toList.length
  omega
 ·show (zeT P t).cells.toList.length≤(zeT P t).cells.size
  simp
 ·show RVs _ _ (((zeT P t).cells.toList.drop 0).take (zeT P t).cells.toList.length)
  rw [List.drop_zero,List.take_length]
  exact hcr.mono (Jd hB l)
structure PSt (P : Program) (w0 : Zg) (N : Nat) (fo : Option Nat) (ops : Array Oper) (cl : List Nat) (an : List (List Nat)) (ord : List Nat) (r0 rf : Zf) (hs : Nat→Zb) (m : Nat) (ι : Nat→Option Loc) (pd : Bool) (listed : Array Bool) (j : Nat) (ι1 : Nat→Option Loc) (a : Act) (w : World) : Prop where
 le : Le ι ι1
 sim : pd=false→Sim P.globals.size w0 ι1 (hs j) w
 pen : pd=true→∃ f o t d b,fo=some f∧ops.toList[f]?=some o∧o.op=.alloc t∧o.guard=none∧o.dst=some d∧listed.getD f false=true∧j≤Zs cl ord f∧Sim P.globals.size { w0 with prot:=(b,Wd P t) :: w0.prot } ι1 (hs j) w∧(∀ c∈w0.prot,b≠c.1)∧a.tmps.getD d undef=.pointer (some ⟨b,0,none⟩)
 size : a.tmps.size=N
 defers : a.defers=YH w0.own
 lsz : listed.size=ops.size
 regs : ∀ t,((∃ i,Wrt ops.toList i t∧listed.getD i false=true∧(pd=true→fo≠some i))→RV ι1 (Zk rf t) (a.tmps.getD t undef))∧((∀ i,Wrt ops.toList i t→listed.getD i false=false)→RV ι1 (Zk r0 t) (a.tmps.getD t undef))
 clo : ∀ i,listed.getD i false=true→∀ x∈an.getD i [],listed.getD x false=true
 eff : ∀ e,e < ops.size→cl.getD e 0=2→(Zs cl ord e < j→listed.getD e false=true)∧(listed.getD e false=true→Zs cl ord e < j∨(pd=true∧fo=some e))
 jm : j≤m
theorem ZaP {all : List Oper} {cl : List Nat} {an : List (List Nat)} {ord : List Nat} {fo : Option Nat} (hO : WW fo all cl an ord) {m : Nat} (hm : m=cE cl ord) {i : Nat} (hi : i < all.length) (hef : cl.getD i 0=2) : Zs cl ord i+1≤m:=by
 obtain ⟨s,t,hst2⟩:=List.append_of_mem (hO.cover i hi)
 have hnd:=hO.nodup
 rw [hst2] at hnd
 have his : i∉s:=fun hmm=>(List.nodup_append.1 hnd).2.2 i hmm i (by simp) rfl
 have h1 : Zs cl ord i=cE cl s:=by rw [hst2];exact KI his
 rw [hm,hst2,Wq]
 rw [hst2] at h1
 simp only [cE,hef,Nat.beq_refl,cond_true]
 omega
theorem PSt.adopt {ops : Array Oper} {cl : List Nat} {an : List (List Nat)} {ord : List Nat} {fo : Option Nat} (hO : WW fo ops.toList cl an ord) {r0 rf : Zf} {hs : Nat→Zb} {m : Nat} (hm : m=cE cl ord)
  (hF : ∀ i,i < ops.size→∃ o v,ops[i]?=some o∧ZcY P Γ ops.toList cl an ord r0 rf hs m i o v) {ι ι1 : Nat→Option Loc} {listed : Array Bool} {j : Nat}
  (h : PSt P w0 N fo ops cl an ord r0 rf hs m ι true listed j ι1 a w) (hj : ∀ f,fo=some f→Zs cl ord f=j) : ∃ ι2,PSt P w0 N fo ops cl an ord r0 rf hs m ι false listed (j+1) ι2 a w:=by
 obtain ⟨f,o,t,d,b,hfo,hol,hop,hg,hd,hlf,hle,hS,hb,htm⟩:=h.pen rfl
 have hlev:=hj f hfo
 obtain ⟨hfl,hcf,_,_,_⟩:=hO.flo f hfo
 have hfs : f < ops.size:=by simpa using hfl
 obtain ⟨o',v,ho',hfact⟩:=hF f hfs
 have ho'' : ops.toList[f]?=some o':=by simpa using ho'
 rw [hol] at ho'';cases ho''
 have hst:=hfact.eff hcf
 rw [hlev] at hst
 obtain ⟨ht,h1,rfl,hH⟩:=ZaC hst hg hop
 obtain ⟨ι2,k1,k2,k3⟩:=hS.adopt ht h1 hb
 rw [← hH] at k2
 have hne : ∀ e,e < ops.size→cl.getD e 0=2→Zs cl ord e=j→e=f:=fun e he hce hl=>by
  refine Classical.byContradiction fun hn=>?_
  have:=(hO.chain e (by simpa using he) hce f hfl hcf (fun x=>hn x.symm)).2
  omega
 refine ⟨ι2,h.le.trans k1,fun _=>k2,(fun e=>by cases e),h.size,h.defers,h.lsz,fun x=>⟨fun ⟨i,hw,hl,_⟩=>?_,fun hno=>((h.regs x).2 hno).mono k1⟩,h.clo,fun e he hce=>⟨fun hl=>?_,fun hl=>?_⟩,?_⟩
 ·by_cases hfi : fo=some i
  ·rw [hfo] at hfi;cases hfi
   obtain ⟨q,hq,hqd⟩:=hw
   rw [hol] at hq;cases hq
   rw [hd] at hqd;cases hqd
   rw [hfact.dst d hd,htm]
   exact k3
  ·exact ((h.regs x).1 ⟨i,hw,hl,fun _=>hfi⟩).mono k1
 ·by_cases hlt : Zs cl ord e < j
  ·exact ((h.eff e he hce).1 hlt)
  ·have:=hne e he hce (by omega)
   rw [this];exact hlf
 ·rcases (h.eff e he hce).2 hl with h2 | ⟨_,h2⟩
  ·exact .inl (by omega)
  ·have:=hj e h2
   exact .inl (by omega)
 ·have:=ZaP hO hm hfl hcf
  omega
theorem Zd3 {ops : Array Oper} {cl : List Nat} {an : List (List Nat)} {ord : List Nat} {fo : Option Nat} {Q : Exit→Act→World→Prop} (hΓ : ∀ (b : Zg) g,Jf P P.globals.size b g (Γ g)) (hok : K9 P N ops.toList=true)
  (hO : WW fo ops.toList cl an ord) {r0 rf : Zf} {hs : Nat→Zb} {m : Nat} (hm : m=cE cl ord)
  (hF : ∀ i,i < ops.size→∃ o v,ops[i]?=some o∧ZcY P Γ ops.toList cl an ord r0 rf hs m i o v)
  (hrf : ∀ t,(∀ j,¬ Wrt ops.toList j t)→Zk rf t=Zk r0 t)
  {ι : Nat→Option Loc} (hQ : ∀ ι1 a1 w1,Le ι ι1→St P.globals.size w0 N ι1 rf (hs m) a1 w1→Q .normal a1 w1) :
  ∀ (fuel : Nat) (pd : Bool) (listed : Array Bool) (j : Nat) (ι1 : Nat→Option Loc) (a : Act) (w : World),PSt P w0 N fo ops cl an ord r0 rf hs m ι pd listed j ι1 a w→(pd=true→∀ f,fo=some f→j < Zs cl ord f)→
   (List.range ops.size).countP (fun i=>!listed.getD i false)=fuel→wpAnyIn (FR rd) 0 P .any ops Q fuel listed a w:=by
 have hlen : ops.toList.length=ops.size:=by simp
 have hget : ∀ (listed : Array Bool),listed.size=ops.size→∀ i,i < ops.size→listed.getD i true=listed.getD i false:=by
  intro listed hsz i hi
  simp [hsz,hi]
 have hready : ∀ (listed : Array Bool),listed.size=ops.size→Region.ready .any ops listed=[]→∀ i,i < ops.size→listed.getD i false=true:=by
  intro listed hsz hr
  have : ∀ q i,i < ops.size→Yw ord i < q→listed.getD i false=true:=by
   intro q
   induction q with
   | zero=>intro i _ h;omega
   | succ q ih=>
    intro i hi hp
    refine Classical.byContradiction fun hno=>?_
    have hno' : listed.getD i false=false:=by simpa using hno
    obtain ⟨o,v,ho,_⟩:=hF i hi
    have hol : ops.toList[i]?=some o:=by simpa using ho
    have hmem : i∈Region.ready .any ops listed:=mem_ready.2 ⟨by rw [hget listed hsz i hi];exact hno',o,ho,fun e he hb=>by
     have hee : e.on∈Yn o:=List.mem_map.2 ⟨e,List.mem_filter.2 ⟨by simpa using he,hb⟩,rfl⟩
     obtain ⟨h1,h2⟩:=hO.edge i o hol e.on hee
     rw [hlen] at h2
     have h3:=(hO.trans i (by rw [hlen];exact hi) e.on h1).2
     exact ih e.on h2 (by omega)⟩
    rw [hr] at hmem;cases hmem
  exact fun i hi=>this (Yw ord i+1) i hi (Nat.lt_succ_self _)
 have hdone : ∀ (pd : Bool) (listed : Array Bool) (j : Nat) (ι1 : Nat→Option Loc) (a : Act) (w : World),PSt P w0 N fo ops cl an ord r0 rf hs m ι pd listed j ι1 a w→(pd=true→∀ f,fo=some f→j < Zs cl ord f)→Region.ready .any ops listed=[]→Q .normal a w:=by
  intro pd listed j ι1 a w hS hpd hr
  have hall:=hready listed hS.lsz hr
  have hjm:=hS.jm
  have hjm2 : j=m:=by
   rcases Nat.lt_or_ge j m with h | h
   ·exfalso
    obtain ⟨p,e,q,h1,h2,h3⟩:=K0 (cl:=cl) (l:=ord) (j:=j) (by omega)
    have hnd:=hO.nodup
    rw [h1] at hnd
    have hep : e∉p:=fun hmm=>(List.nodup_append.1 hnd).2.2 e hmm e (by simp) rfl
    have hle2 : Zs cl ord e=j:=by rw [h1,KI hep];exact h3
    have hen : e < ops.size:=by have:=hO.inn e (by rw [h1];simp);rw [hlen] at this;exact this
    rcases (hS.eff e hen h2).2 (hall e hen) with h4 | ⟨h4,h5⟩
    ·omega
    ·have:=hpd h4 e h5
     omega
   ·omega
  have hpf : pd=false:=by
   cases hp : pd with
   | false=>rfl
   | true=>
    obtain ⟨f,_,_,_,_,hfo,_⟩:=hS.pen hp
    obtain ⟨hfl,hcf,_⟩:=hO.flo f hfo
    have h1:=ZaP hO hm hfl hcf
    have h2:=hpd hp f hfo
    omega
  subst hjm2
  refine hQ ι1 a w hS.le ⟨hS.sim hpf,fun t=>?_,hS.size,hS.defers⟩
  by_cases ht : ∃ i,Wrt ops.toList i t
  ·obtain ⟨i,hi⟩:=ht
   refine (hS.regs t).1 ⟨i,hi,hall i ?_,fun h=>by rw [hpf] at h;cases h⟩
   obtain ⟨q,hq,_⟩:=hi
   rcases Nat.lt_or_ge i ops.size with h | h
   ·exact h
   ·rw [List.getElem?_eq_none (by simpa using h)] at hq;cases hq
  ·rw [hrf t fun i hi=>ht ⟨i,hi⟩]
   exact (hS.regs t).2 fun i hi=>absurd ⟨i,hi⟩ ht
 intro fuel
 induction fuel with
 | zero=>
  intro pd listed j ι1 a w hS hpd hcnt
  have hall : ∀ i,i < ops.size→listed.getD i false=true:=by
   intro i hi
   have:=List.countP_eq_zero.1 hcnt i (List.mem_range.2 hi)
   simpa using this
  have hr : Region.ready .any ops listed=[]:=by
   cases hr : Region.ready .any ops listed with
   | nil=>rfl
   | cons i l=>
    exfalso
    have hmem : i∈Region.ready .any ops listed:=by rw [hr];simp
    obtain ⟨h1,o,ho,_⟩:=mem_ready.1 hmem
    have hi : i < ops.size:=(Array.getElem?_eq_some_iff.1 ho).1
    rw [hget listed hS.lsz i hi,hall i hi] at h1;cases h1
  exact ⟨hr,hdone pd listed j ι1 a w hS hpd hr⟩
 | succ fuel ih=>
  intro pd listed j ι1 a w hS hpd hcnt
  refine ⟨fun hr=>hdone pd listed j ι1 a w hS hpd hr,fun i hi=>?_⟩
  have hls:=hS.lsz
  have hclo:=hS.clo
  have heff:=hS.eff
  have hjm:=hS.jm
  obtain ⟨hun,o,ho,hedges⟩:=mem_ready.1 hi
  have hin : i < ops.size:=(Array.getElem?_eq_some_iff.1 ho).1
  have hun' : listed.getD i false=false:=by rw [← hget listed hls i hin];exact hun
  have hol : ops.toList[i]?=some o:=by simpa using ho
  obtain ⟨o',v,ho',hfact⟩:=hF i hin
  rw [ho] at ho';cases ho'
  have hinl : i < ops.toList.length:=by rw [hlen];exact hin
  have hanc : ∀ x∈an.getD i [],listed.getD x false=true:=by
   intro x hx
   obtain ⟨e,he,h⟩:=hO.back i o hol x hx
   have hel : listed.getD e false=true:=by
    unfold Yn at he
    obtain ⟨ed,hed,rfl⟩:=List.mem_map.1 he
    obtain ⟨h1,h2⟩:=List.mem_filter.1 hed
    exact hedges ed (by simpa using h1) h2
   rcases h with rfl | h
   ·exact hel
   ·exact hclo e hel x h
  have hnotin : ∀ e,listed.getD e false=true→i∉an.getD e []:=fun e he hie=>by
   have:=hclo e he i hie
   rw [hun'] at this;cases this
  have hfan : pd=true→∀ f,fo=some f→f∉an.getD i []:=fun hp f hf hm'=>by
   have h1:=hpd hp f hf
   rcases (hO.flo f hf).2.2.2.2 i hinl hm' with h0 | ⟨e,he,hce,hle,hem⟩
   ·omega
   ·rw [hlen] at he
    rcases (heff e he hce).2 (hanc e hem) with h2 | ⟨_,h2⟩
    ·omega
    ·have:=hpd hp e h2
     rw [hf] at h2;cases h2
     omega
  have hlooks : ∀ t∈Yf ops.toList o,RV ι1 (fA ops.toList an r0 rf i t) (a.tmps.getD t undef):=by
   intro t ht
   unfold fA
   split
   ·rename_i hw
    obtain ⟨q,hq,hwq⟩:=hw
    exact (hS.regs t).1 ⟨q,hwq,hanc q hq,fun hp hfq=>hfan hp q hfq hq⟩
   ·rename_i hw
    refine (hS.regs t).2 fun q hwq=>?_
    cases hl : listed.getD q false with
    | false=>rfl
    | true=>
     exfalso
     obtain ⟨oq,hoq,hdq⟩:=hwq
     have hne : q≠i:=fun e=>by subst e;rw [hun'] at hl;cases hl
     rcases (hO.tmps q oq i o t hoq hol hne hdq (.inl ht)).1 with h | h
     ·exact hw ⟨q,h,oq,hoq,hdq⟩
     ·exact hnotin q hl h
  have hset : ∀ e,(listed.setIfInBounds i true).getD e false=true↔(e=i∨listed.getD e false=true):=by
   intro e
   by_cases he : i=e
   ·subst he;simp [hls,hin]
   ·rw [getD_set_ne false he]
    simp [Ne.symm he]
  have hcnt' : (List.range ops.size).countP (fun e=>!(listed.setIfInBounds i true).getD e false)=fuel:=by
   have hc:=ZaT (p:=fun i=>!listed.getD i false) (q:=fun e=>!(listed.setIfInBounds i true).getD e false) (i:=i)
    (fun e hne=>by rw [getD_set_ne false (Ne.symm hne)]) (by simp only [hun'];rfl) (by rw [(hset i).2 (.inl rfl)];rfl) (List.nodup_range (n:=ops.size)) (List.mem_range.2 hin)
   omega
  have go : ∀ (pd' : Bool) (j' : Nat) (ι2 : Nat→Option Loc) (a' : Act) (w' : World),PSt P w0 N fo ops cl an ord r0 rf hs m ι pd' (listed.setIfInBounds i true) j' ι2 a' w'→wpAnyIn (FR rd) 0 P .any ops Q fuel (listed.setIfInBounds i true) a' w':=by
   intro pd' j' ι2 a' w' hP
   cases pd' with
   | false=>exact ih false _ j' ι2 a' w' hP (fun h=>by cases h) hcnt'
   | true=>
    obtain ⟨f,_,_,_,_,hfo,_,_,_,_,_,hjle,_⟩:=hP.pen rfl
    by_cases he : Zs cl ord f=j'
    ·obtain ⟨ι3,hP3⟩:=hP.adopt hO hm hF (fun f' hf'=>by rw [hfo] at hf';cases hf';exact he)
     exact ih false _ (j'+1) ι3 a' w' hP3 (fun h=>by cases h) hcnt'
    ·exact ih true _ j' ι2 a' w' hP (fun _ f' hf'=>by rw [hfo] at hf';cases hf';omega) hcnt'
  have hfin : ∀ (pd' : Bool) (j' : Nat) (ι2 : Nat→Option Loc) (v' : Value) (w' : World),Le ι1 ι2→(pd=true→pd'=true)→((pd'=true→fo≠some i)→RV ι2 v v')→(pd'=false→Sim P.globals.size w0 ι2 (hs j') w')→
    (pd'=true→∃ f of t d b,fo=some f∧ops.toList[f]?=some of∧of.op=.alloc t∧of.guard=none∧of.dst=some d∧(listed.setIfInBounds i true).getD f false=true∧j'≤Zs cl ord f∧Sim P.globals.size { w0 with prot:=(b,Wd P t) :: w0.prot } ι2 (hs j') w'∧(∀ c∈w0.prot,b≠c.1)∧(a.put o.dst v').tmps.getD d undef=.pointer (some ⟨b,0,none⟩))→j'≤m→
    (∀ e,e < ops.size→cl.getD e 0=2→(Zs cl ord e < j'→e=i∨listed.getD e false=true)∧((e=i∨listed.getD e false=true)→Zs cl ord e < j'∨(pd'=true∧fo=some e)))→wpAnyIn (FR rd) 0 P .any ops Q fuel (listed.setIfInBounds i true) (a.put o.dst v') w':=by
   intro pd' j' ι2 v' w' hle2 hpp hv hsim hpen hjm2 heff2
   refine go pd' j' ι2 _ w' ⟨hS.le.trans hle2,hsim,hpen,by cases o.dst <;> simp [Act.put,hS.size],by cases o.dst <;> exact hS.defers,by simpa using hls,fun t=>?_,fun e he x hx=>?_,fun e he hce=>?_,hjm2⟩
   ·have hput : o.dst≠some t→(a.put o.dst v').tmps.getD t undef=a.tmps.getD t undef:=by
     intro hne
     cases hd : o.dst with
     | none=>rfl
     | some d=>
      have : d≠t:=fun e=>hne (by rw [hd,e])
      simp [Act.put,Array.getElem?_setIfInBounds_ne this]
    by_cases hdt : o.dst=some t
    ·refine ⟨fun ⟨q,hwq,_,hq2⟩=>?_,fun hno=>?_⟩
     ·have hqi : q=i:=by
       refine Classical.byContradiction fun hne=>?_
       obtain ⟨oq,hoq,hdq⟩:=hwq
       exact (hO.tmps i o q oq t hol hoq (fun x=>hne x.symm) hdt (.inr hdq)).2 hdq
      subst hqi
      rw [hfact.dst t hdt]
      have hlt:=(JL hok (List.mem_of_getElem? hol)).dst t hdt
      rw [hdt]
      simpa [Act.put,hS.size,hlt] using hv hq2
     ·have:=hno i ⟨o,hol,hdt⟩
      rw [(hset i).2 (.inl rfl)] at this;cases this
    ·rw [hput hdt]
     refine ⟨fun ⟨q,hwq,hlq,hq2⟩=>((hS.regs t).1 ⟨q,hwq,?_,fun hp=>hq2 (hpp hp)⟩).mono hle2,fun hno=>((hS.regs t).2 fun q hwq=>?_).mono hle2⟩
     ·rcases (hset q).1 hlq with rfl | h
      ·obtain ⟨oq,hoq,hdq⟩:=hwq
       rw [hol] at hoq;cases hoq
       exact absurd hdq hdt
      ·exact h
     ·cases hl : listed.getD q false with
      | false=>rfl
      | true=>
       have:=hno q hwq
       rw [(hset q).2 (.inr hl)] at this;cases this
   ·rcases (hset e).1 he with rfl | h
    ·exact (hset x).2 (.inr (hanc x hx))
    ·exact (hset x).2 (.inr (hclo e h x hx))
   ·rw [hset e];exact heff2 e he hce
  have hkeep : ∀ (j' : Nat) (ι2 : Nat→Option Loc) (v' : Value) (w' : World) {f : Nat} {of : Oper} {t : TypeId} {d b : Nat},fo=some f→fo≠some i→ops.toList[f]?=some of→of.op=.alloc t→of.guard=none→of.dst=some d→listed.getD f false=true→j'≤Zs cl ord f→Sim P.globals.size { w0 with prot:=(b,Wd P t) :: w0.prot } ι2 (hs j') w'→(∀ c∈w0.prot,b≠c.1)→a.tmps.getD d undef=.pointer (some ⟨b,0,none⟩)→
    ∃ f of t d b,fo=some f∧ops.toList[f]?=some of∧of.op=.alloc t∧of.guard=none∧of.dst=some d∧(listed.setIfInBounds i true).getD f false=true∧j'≤Zs cl ord f∧Sim P.globals.size { w0 with prot:=(b,Wd P t) :: w0.prot } ι2 (hs j') w'∧(∀ c∈w0.prot,b≠c.1)∧(a.put o.dst v').tmps.getD d undef=.pointer (some ⟨b,0,none⟩):=by
   intro j' ι2 v' w' f of t d b h1 h2 h3 h4 h5 h6 h7 h8 h9 h10 h11
   refine ⟨f,of,t,d,b,h1,h3,h4,h5,h6,(hset f).2 (.inr h7),h8,h9,h10,?_⟩
   have hne : f≠i:=fun e=>h2 (by rw [← e];exact h1)
   have hdn:=(hO.tmps f of i o d h3 hol hne h6)
   cases hd : o.dst with
   | none=>exact h11
   | some d'=>
    have hdd : d'≠d:=fun e=>by
     subst e
     exact (hdn (.inr hd)).2 hd
    simp only [Act.put]
    rw [← h11]
    simp [Array.getElem?_setIfInBounds_ne hdd]
  by_cases hef : cl.getD i 0=2
  ·by_cases hfi : fo=some i
   ·
    have hpf : pd=false:=by
     cases hp : pd with
     | false=>rfl
     | true=>
      obtain ⟨f,_,_,_,_,hfo,_,_,_,_,hlf,_⟩:=hS.pen hp
      rw [hfi] at hfo;cases hfo
      rw [hun'] at hlf;cases hlf
    subst hpf
    obtain ⟨_,_,⟨oo,t,d,hoo,hop,hg,hd⟩,_,_⟩:=hO.flo i hfi
    rw [hol] at hoo;cases hoo
    have hge : ¬ Zs cl ord i < j:=fun h=>by
     have:=(heff i hin hef).1 h
     rw [hun'] at this;cases this
    have hst:=hfact.eff hef
    by_cases hlj : Zs cl ord i=j
    ·rw [hlj] at hst
     refine Yt (hΓ w0) ho (hS.sim rfl) (JL hok (List.mem_of_getElem? hol)) hlooks hst fun ι2 v' w' hle2 hv hS2=>?_
     refine hfin false (j+1) ι2 v' w' hle2 (fun h=>h) (fun _=>hv) (fun _=>hS2) (fun h=>by cases h) (by have:=ZaP hO hm hinl hef;omega) fun e he hce=>⟨fun h=>?_,fun h=>?_⟩
     ·by_cases hei : e=i
      ·exact .inl hei
      ·have:=(hO.chain e (by rw [hlen];exact he) hce i hinl hef (fun x=>hei x.symm)).2
       exact .inr ((heff e he hce).1 (by omega))
     ·rcases h with rfl | h
      ·exact .inl (by omega)
      ·rcases (heff e he hce).2 h with h2 | ⟨h2,_⟩
       ·exact .inl (by omega)
       ·cases h2
    ·obtain ⟨ht,h1,_,_⟩:=ZaC hst hg hop
     refine Zd5 ho hop hg ht ?_
     have hSim:=hS.sim rfl
     refine hfin true j ι1 _ _ (.refl ι1) (fun h=>by cases h) (fun h=>absurd hfi (h rfl)) (fun h=>by cases h) (fun _=>⟨i,o,t,d,w.heap.size,hfi,hol,hop,hg,hd,(hset i).2 (.inl rfl),by omega,hSim.pend _,fun c hc e=>?_,?_⟩) hjm fun e he hce=>⟨fun h=>.inr ((heff e he hce).1 h),fun h=>?_⟩
     ·have p1:=(hSim.prot c hc).1
      rw [← e,Array.getElem?_eq_none (Nat.le_refl _)] at p1;cases p1
     ·have hlt:=(JL hok (List.mem_of_getElem? hol)).dst d hd
      rw [hd]
      simp [Act.put,hS.size,hlt]
     ·rcases h with rfl | h
      ·exact .inr ⟨rfl,hfi⟩
      ·rcases (heff e he hce).2 h with h2 | ⟨h2,_⟩
       ·exact .inl h2
       ·cases h2
   ·
    have hlev : Zs cl ord i=j:=by
     have h1 : ¬ Zs cl ord i < j:=fun h=>by
      have:=(heff i hin hef).1 h
      rw [hun'] at this;cases this
     rcases Nat.lt_or_ge j (Zs cl ord i) with h | h
     ·exfalso
      obtain ⟨e,he,hce,hle2⟩:=hO.full i hinl j h
      rw [hlen] at he
      have hne : e≠i:=fun x=>by subst x;omega
      have hea:=(hO.chain i hinl hef e (by rw [hlen];exact he) hce hne).1 hfi (by omega)
      rcases (heff e he hce).2 (hanc e hea) with h2 | ⟨h2,h3⟩
      ·omega
      ·have:=hpd h2 e h3
       omega
     ·omega
    have hst:=hfact.eff hef
    rw [hlev] at hst
    have hjm1 : j+1≤m:=by have:=ZaP hO hm hinl hef;omega
    have heff2 : ∀ e,e < ops.size→cl.getD e 0=2→(Zs cl ord e < j+1→e=i∨listed.getD e false=true)∧((e=i∨listed.getD e false=true)→Zs cl ord e < j+1∨(pd=true∧fo=some e)):=fun e he hce=>⟨fun h=>by
     by_cases hei : e=i
     ·exact .inl hei
     ·have:=(hO.chain i hinl hef e (by rw [hlen];exact he) hce hei).2
      exact .inr ((heff e he hce).1 (by omega)),fun h=>by
     rcases h with rfl | h
     ·exact .inl (by omega)
     ·rcases (heff e he hce).2 h with h2 | h2
      ·exact .inl (by omega)
      ·exact .inr h2⟩
    cases hp : pd with
    | false=>
     rw [hp] at heff2
     refine Yt (hΓ w0) ho (hS.sim hp) (JL hok (List.mem_of_getElem? hol)) hlooks hst fun ι2 v' w' hle2 hv hS2=>?_
     exact hfin false (j+1) ι2 v' w' hle2 (fun h=>by rw [hp] at h;cases h) (fun _=>hv) (fun _=>hS2) (fun h=>by cases h) hjm1 heff2
    | true=>
     rw [hp] at heff2
     obtain ⟨f,of,t,d,b,hfo,h3,h4,h5,h6,h7,_,h9,h10,h11⟩:=hS.pen hp
     have hjl:=hpd hp f hfo
     refine Yt (hΓ _) ho h9 (JL hok (List.mem_of_getElem? hol)) hlooks hst fun ι2 v' w' hle2 hv hS2=>?_
     exact hfin true (j+1) ι2 v' w' hle2 (fun _=>rfl) (fun _=>hv) (fun h=>by cases h) (fun _=>hkeep (j+1) ι2 v' w' hfo hfi h3 h4 h5 h6 h7 (by omega) hS2 h10 h11) hjm1 heff2
  ·
   have hfi : fo≠some i:=fun h=>hef (hO.flo i h).2.1
   have hle1 : Zs cl ord i≤j:=by
    rcases hO.eager i hinl hef with h | ⟨e,he,hce,h1,h2⟩
    ·omega
    ·rw [hlen] at he
     rcases (heff e he hce).2 (hanc e h2) with h3 | ⟨h3,h4⟩
     ·omega
     ·exact absurd h2 (hfan h3 e h4)
   have hst:=hfact.non hef j hle1 hjm fun e he hce _ hlt=>by
    rw [hlen] at he
    exact hnotin e ((heff e he hce).1 hlt)
   have heff2 : ∀ e,e < ops.size→cl.getD e 0=2→(Zs cl ord e < j→e=i∨listed.getD e false=true)∧((e=i∨listed.getD e false=true)→Zs cl ord e < j∨(pd=true∧fo=some e)):=fun e he hce=>⟨fun h=>.inr ((heff e he hce).1 h),fun h=>by
    rcases h with rfl | h
    ·exact absurd hce hef
    ·exact (heff e he hce).2 h⟩
   cases hp : pd with
   | false=>
    rw [hp] at heff2
    refine Yt (hΓ w0) ho (hS.sim hp) (JL hok (List.mem_of_getElem? hol)) hlooks hst fun ι2 v' w' hle2 hv hS2=>?_
    exact hfin false j ι2 v' w' hle2 (fun h=>by rw [hp] at h;cases h) (fun _=>hv) (fun _=>hS2) (fun h=>by cases h) hjm heff2
   | true=>
    rw [hp] at heff2
    obtain ⟨f,of,t,d,b,hfo,h3,h4,h5,h6,h7,h8,h9,h10,h11⟩:=hS.pen hp
    refine Yt (hΓ _) ho h9 (JL hok (List.mem_of_getElem? hol)) hlooks hst fun ι2 v' w' hle2 hv hS2=>?_
    exact hfin true j ι2 v' w' hle2 (fun _=>rfl) (fun _=>hv) (fun h=>by cases h) (fun _=>hkeep j ι2 v' w' hfo hfi h3 h4 h5 h6 h7 h8 hS2 h10 h11) hjm heff2
theorem ZaM {id : Nat} {ops : Array Oper} {an : List (List Nat)} {ord : List Nat} {fo : Option Nat} {Q : Exit→Act→World→Prop} (hm : P.follows .mixedOrders=true) (hΓ : ∀ (b : Zg) g,Jf P P.globals.size b g (Γ g))
  (hok : K9 P N ops.toList=true) (hO : WW fo ops.toList (ops.toList.map fun o=>cls P o.op) an ord) {β : Type} {x : β × Zb} {k : Zf→M β} {r : Zf} (hSt : St P.globals.size w0 N ι r H a w)
  (h : exD P Γ an ops.toList (Jx ops.toList ord) [] r k H=some x) (hk : Kl P w0 N ι k x (fun a1 w1=>Q .normal a1 w1)) : (Code.region id ops true).wpIn (FR rd) 0 P Q a w:=by
 obtain ⟨rf,hl,Hf,h1,h2⟩:=ZaG (by simp) h
 have hlen : ops.toList.length=ops.size:=by simp
 have hhl:=Za1 (fun i hi=>hO.inn i hi) h2
 obtain ⟨f1,_⟩:=ZcT (r0:=r) (hs:=fun j=>(H :: hl).getD j []) (m:=cE (ops.toList.map fun o=>cls P o.op) ord) rfl hO rfl ord [] rfl h2 (fun _ _=>rfl) (fun q _=>by simp [cE])
 have hlast:=WV h2
 rw [hhl] at hlast
 have hrep : ∀ i,(Array.replicate ops.size false).getD i false=false:=fun i=>by
  rw [Array.getD_eq_getD_getElem?,Array.getElem?_replicate];split <;> rfl
 refine wpIn_region_any hm (Zd3 (ι:=ι) (r0:=r) (rf:=rf) (hs:=fun j=>(H :: hl).getD j []) hΓ hok hO rfl (fun i hi=>?_) (fun t ht=>?_) (fun ι1 a1 w1 hle hSt1=>?_)
  ops.size false (Array.replicate ops.size false) 0 ι a _ ⟨.refl ι,fun _=>hSt.sim.congr rfl,(fun h=>by cases h),hSt.size,hSt.defers,by simp,fun t=>⟨fun ⟨i,_,hi,_⟩=>?_,fun _=>hSt.regs t⟩,fun i hi=>?_,fun e he hce=>?_,Nat.zero_le _⟩ (fun h=>by cases h) ?_)
 ·obtain ⟨o,v,ho,hf⟩:=f1 i (hO.cover i (by rw [hlen];exact hi))
  exact ⟨o,v,by simpa using ho,hf⟩
 ·refine WX h2 t fun p hp hpt=>?_
  unfold Jx at hp
  obtain ⟨i,hi,hp⟩:=List.mem_filterMap.1 hp
  simp only [Option.map_eq_some_iff] at hp
  obtain ⟨q,hq,rfl⟩:=hp
  exact ht i ⟨q,hq,hpt⟩
 ·refine hk ι1 rf Hf a1 w1 hle ?_ h1
  rw [← hlast];exact hSt1
 ·rw [hrep i] at hi;cases hi
 ·rw [hrep i] at hi;cases hi
 ·rw [hrep e]
  exact ⟨fun h=>absurd h (Nat.not_lt_zero _),fun h=>by cases h⟩
 ·rw [List.countP_eq_length.2 fun i hi=>by rw [hrep i];rfl]
  simp
end
end Go.Proofs.Ytfefblgkfdaekaa.A
namespace Go.Proofs.Ytfefblgkfdaekaa.A
set_option linter.unusedVariables false
set_option linter.unusedSimpArgs false
section
variable {P : Program} {Γ : Zp} {w0 : Zg} {N : Nat} {ι : Nat→Option Loc} {r : Zf} {H : Zb} {a : Act} {w : World} {rd : Option Nat}
theorem Zcj {id : Nat} {ops : Array Oper} {draw : Bool} {Q : Exit→Act→World→Prop} (hm : P.follows .mixedOrders=true) (hΓ : ∀ (b : Zg) g,Jf P P.globals.size b g (Γ g))
  (hok : K9 P N ops.toList=true) (hgd : Y3 ops.toList=true) {β : Type} {x : β × Zb} {k : Zf→M β} (hSt : St P.globals.size w0 N ι r H a w)
  (h : ZcZ P Γ ops.toList draw r k H=some x) (hk : Kl P w0 N ι k x (fun a1 w1=>Q .normal a1 w1)) : (Code.region id ops draw).wpIn (FR rd) 0 P Q a w:=by
 unfold ZcZ at h
 cases draw with
 | true=>
  simp only [cond_true] at h
  cases hd : KM none ops.toList (ops.toList.map fun o=>cls P o.op) (WA ops.toList) (W0 (ops.toList.map fun o=>cls P o.op) (WA ops.toList) ops.toList.length ops.toList.length []) with
  | false=>
   rw [hd] at h
   simp only [cond_false] at h
   cases hf : ZdN ops.toList with
   | none=>rw [hf] at h;cases h
   | some f=>
    rw [hf] at h
    simp only at h
    cases hd2 : KM (some f) ops.toList (ops.toList.map fun o=>cls P o.op) (WA ops.toList) (WP (ops.toList.map fun o=>cls P o.op) (WA ops.toList) f ops.toList.length ops.toList.length []) with
    | false=>rw [hd2] at h;cases h
    | true=>
     rw [hd2] at h
     simp only [cond_true] at h
     exact ZaM hm hΓ hok (Zag hd2) hSt h hk
  | true=>
   rw [hd] at h
   simp only [cond_true] at h
   exact ZaM hm hΓ hok (Zag hd) hSt h hk
 | false=>
  simp only [cond_false] at h
  exact wpIn_region_list (YE (Q:=Q) (hΓ w0) hgd _ (fun p hp=>⟨JL hok hp,hp⟩) hSt h hk)
theorem St.proj (hSt : St P.globals.size w0 N ι r H a w) (L : List Nat) : St P.globals.size w0 N ι (A.mk L (A.proj L r)) H a w:=by
 refine ⟨hSt.sim,fun t=>?_,hSt.size,hSt.defers⟩
 by_cases ht : t∈L
 ·have:=WQ (r:=[]) (r1:=r) ht
  rw [List.append_nil] at this
  rw [this];exact hSt.regs t
 ·have:=Zan (r:=[]) (L:=L) (vs:=A.proj L r) (t:=t) fun d hd e=>ht (e ▸ hd)
  rw [List.append_nil] at this
  rw [this];exact .un
def YJ (a : Act) : ResultVar→Sem Value
 | .tmp t=>pure (a.tmps.getD t undef)
 | .cell b t=>do loadVar t (← asAddr (a.tmps.getD b undef))
theorem Wc {β : Type} {x : β × Zb} (hSt : St P.globals.size w0 N ι r H a w) : ∀ (l : List ResultVar) {k : List Value→M β},WG P r l k H=some x→
  ∃ vs,k vs H=some x∧∀ (b : Zg) (w' : World),Sim P.globals.size b ι H w'→∃ vs',RVs ι vs vs'∧(l.mapM (m:=Sem) (YJ a)).run P w'=.ok vs' w'
 | [],k,h=>⟨[],h,fun _ _ _=>⟨[],.nil,rfl⟩⟩
 | .tmp t :: l,k,h=>by
  simp only [WG] at h
  obtain ⟨vs,h1,h2⟩:=Wc hSt l h
  refine ⟨_,h1,fun b w' hw=>?_⟩
  obtain ⟨vs',h3,h4⟩:=h2 b w' hw
  refine ⟨a.tmps.getD t undef :: vs',.cons (hSt.regs t) h3,?_⟩
  rw [List.mapM_cons,Sem.run_bind]
  simp only [YJ,Sem.run_pure,Result.andThen_ok,Sem.run_bind,h4]
 | .cell b t :: l,k,h=>by
  have hb:=hSt.regs b
  have fin : ∀ {v : Value},(∀ (b' : Zg) (w' : World),Sim P.globals.size b' ι H w'→∃ ad v',a.tmps.getD b undef=.pointer (some ad)∧RV ι v v'∧(loadVar t ad).run P w'=.ok v' w')→
    WG P r l (fun vs=>k (v :: vs)) H=some x→∃ vs,k vs H=some x∧∀ (b' : Zg) (w' : World),Sim P.globals.size b' ι H w'→∃ vs',RVs ι vs vs'∧((ResultVar.cell b t :: l).mapM (m:=Sem) (YJ a)).run P w'=.ok vs' w':=by
   intro v hp h
   obtain ⟨vs,h1,h2⟩:=Wc hSt l h
   refine ⟨_,h1,fun b' w' hw=>?_⟩
   obtain ⟨vs',h3,h4⟩:=h2 b' w' hw
   obtain ⟨ad,v',hp,hv,hr⟩:=hp b' w' hw
   refine ⟨v' :: vs',.cons hv h3,?_⟩
   rw [List.mapM_cons,Sem.run_bind]
   simp only [YJ,hp,asAddr,Sem.run_pure,Result.andThen_ok,Sem.run_bind,hr,h4]
  simp only [WG] at h
  generalize hm : JH P t=m at h
  cases m with
  | none=>cases h
  | some g=>
   cases g with
   | true=>
    simp only at h
    obtain ⟨v,H1,h1,h2⟩:=bind_some h
    obtain ⟨rfl,_⟩:=Za8 (P:=P) hSt.sim hm hb h1
    refine fin (fun b' w' hw=>?_) h2
    obtain ⟨_,ad,v',hp,hv,hr⟩:=Za8 (P:=P) hw hm hb h1
    exact ⟨ad,v',hp,hv,hr⟩
   | false=>
    simp only at h
    obtain ⟨v,H1,h1,h2⟩:=bind_some h
    obtain ⟨rfl,_⟩:=WK (P:=P) hSt.sim hm hb h1
    refine fin (fun b' w' hw=>?_) h2
    obtain ⟨_,ad,v',hp,hv,hr⟩:=WK (P:=P) hw hm hb h1
    exact ⟨ad,v',hp,hv,hr⟩
theorem Wb {β : Type} {x : β × Zb} {fn : Func} {kr : Value→M β} (hSt : St P.globals.size w0 N ι r H a w) (h : ZbQ P fn r kr H=some x) :
  ∃ v,kr v H=some x∧∀ (b : Zg) (w' : World),Sim P.globals.size b ι H w'→∃ v',(results fn a.tmps).run P w'=.ok v' w'∧RV ι v v':=by
 unfold ZbQ at h
 obtain ⟨vs,h1,h2⟩:=Wc hSt _ h
 have hm : ∀ {w' : World} {vs' : List Value},(fn.results.toList.mapM (m:=Sem) (YJ a)).run P w'=.ok vs' w'→(fn.results.mapM (m:=Sem) (YJ a)).run P w'=.ok vs'.toArray w':=by
  intro w' vs' h3
  rw [Array.mapM_eq_mapM_toList,Sem.run_map,h3];rfl
 have hres : ∀ {w' : World} {vs' : List Value},(fn.results.toList.mapM (m:=Sem) (YJ a)).run P w'=.ok vs' w'→∀ v',(if h : vs'.toArray.size=1 then vs'.toArray[0] else .tuple vs'.toArray)=v'→(results fn a.tmps).run P w'=.ok v' w':=by
  intro w' vs' h3 v' hv
  unfold results
  rw [Sem.run_bind]
  show ((Sem.run P (fn.results.mapM (m:=Sem) (YJ a)) w').andThen _)=_
  rw [hm h3]
  simp only [Result.andThen_ok,Sem.run_pure]
  rw [hv]
 match vs,h1,h2 with
 | [],h1,h2=>
  refine ⟨_,h1,fun b w' hw=>?_⟩
  obtain ⟨vs',h3,h4⟩:=h2 b w' hw
  have:=h3.nil_inv;subst this
  exact ⟨_,hres h4 (.tuple #[]) rfl,.un⟩
 | [v],h1,h2=>
  refine ⟨_,h1,fun b w' hw=>?_⟩
  obtain ⟨vs',h3,h4⟩:=h2 b w' hw
  obtain ⟨v',r',rfl,hv,hr⟩:=h3.cons_inv
  have:=hr.nil_inv;subst this
  exact ⟨_,hres h4 v' rfl,hv⟩
 | v :: u :: vs,h1,h2=>
  refine ⟨_,h1,fun b w' hw=>?_⟩
  obtain ⟨vs',h3,h4⟩:=h2 b w' hw
  refine ⟨.tuple vs'.toArray,hres h4 _ ?_,.tupL h3⟩
  have:=h3.1
  rw [dif_neg (by simp at this ⊢;omega)]
inductive Ext : Zg→Zg→Prop
 | refl (b : Zg) : Ext b b
 | push {b c : Zg} (D : Nat) : Ext b c→(∀ x∈c.prot,x.1≠D)→Ext b { c with prot:=(D,.deferred (some [])) :: c.prot,own:=D :: c.own }
theorem Ext.trans {a b c : Zg} (h : Ext a b) (h' : Ext b c) : Ext a c:=by
 induction h' with
 | refl=>exact h
 | push D _ hn ih=>exact .push D ih hn
theorem Sim.base {G : Nat} {b c : Zg} (h : Sim G b ι H w) (hb : c.toWorld=b.toWorld) (hp : ∀ x∈c.prot,x∈b.prot) : Sim G c ι H w:=by
 obtain ⟨cw,cp,co⟩:=c
 simp only at hb
 subst hb
 refine ⟨fun id o ho=>?_,h.inj,h.size,h.old,h.dom,h.glob,h.rest,fun x hx=>h.prot x (hp x hx),h.views⟩
 have:=h.obj id o ho
 cases o <;> exact this
theorem Ext.sim {G : Nat} {b c : Zg} (hE : Ext b c) : ∀ {ι : Nat→Option Loc} {H : Zb} {w : World},Sim G c ι H w→Sim G b ι H w:=by
 induction hE with
 | refl=>exact fun h=>h
 | push D _ hn ih=>exact fun h=>ih (h.base rfl fun x hx=>List.mem_cons_of_mem _ hx)
theorem Zey {F : Fence} {n : Nat} {fn : Func} {tmps : Array Value} {R : Ending→World→Prop} {b c : Zg} (hE : Ext b c) (hb : b.own=[]) : ∀ {ι : Nat→Option Loc} {H : Zb} {w : World},Sim P.globals.size c ι H w→
  (∀ w',Sim P.globals.size b ι H w'→∃ v,(results fn tmps).run P w'=.ok v w'∧R (.returned v) w')→LeavesInM F n P fn tmps R (YH c.own) .returning w:=by
 induction hE with
 | refl=>
  intro ι H w h hR
  rw [hb]
  exact hR w h
 | @push c D hc hn ih=>
  intro ι H w h hR
  obtain ⟨p1,p2,p3⟩:=h.prot (D,.deferred (some [])) (by simp)
  refine ⟨by simp,.inl ⟨D,_,rfl,run_takeDeferred p1,ih (ι:=ι) (H:=H) ?_ hR⟩⟩
  exact (h.base (c:=c) rfl fun x hx=>List.mem_cons_of_mem _ hx).put _ p2 hn (fun i o l h1 h2 _ h3=>p3 i o l h1 h2 h3) (fun j cs es nx lj hj hlj hbe=>absurd hbe (p3 j _ lj hj (by simp) hlj))
def Ze5 (rnd : Bool) (P : Program) (w0 : Zg) (fn : Func) (ι : Nat→Option Loc) (v : Value) (H : Zb) (a : Act) (w : World) : Prop:=
 Sim P.globals.size w0 ι H w∧a.defers=YH w0.own∧(rnd=false→∀ (b : Zg) (w' : World),Sim P.globals.size b ι H w'→∃ v',(results fn a.tmps).run P w'=.ok v' w'∧RV ι v v')
theorem ZaD {body : List Value→M Out} {vs : List Value} {x : Out × Zb} (h : Qb body vs H=some x) : ∃ n,JG body n vs H=some x:=by
 unfold Qb at h
 split at h
 ·exact ⟨_,h⟩
 ·cases h
theorem Za7 {β : Type} {m : M Out} {kn : List Value→M β} {kx : Nat→List Value→M β} {kr : Value→M β} {x : β × Zb} (h : jn m kn kx kr H=some x) :
  ∃ o H1,m H=some (o,H1)∧((∃ vs,o=.nrm vs∧kn vs H1=some x)∨(∃ j vs,o=.ext j vs∧kx j vs H1=some x)∨(∃ v,o=.ret v∧kr v H1=some x)):=by
 obtain ⟨o,H1,h1,h2⟩:=bind_some h
 refine ⟨o,H1,h1,?_⟩
 cases o with
 | nrm vs=>exact .inl ⟨vs,rfl,h2⟩
 | ext j vs=>exact .inr (.inl ⟨j,vs,rfl,h2⟩)
 | ret v=>exact .inr (.inr ⟨v,rfl,h2⟩)
theorem Zbl {β : Type} {c : Code} {kx : Nat→Zf→M β} {j : Nat} {vs : List Value} : ∀ (X : List (Nat × List Nat)),Jq.xto j c=false→KV c X kx j vs H=none
 | [],_=>rfl
 | p :: X,hj=>by
  simp only [KV]
  cases hp : Jq.xto p.1 c with
  | false=>exact Zbl X hj
  | true=>
   simp only [cond_true]
   cases e : Nat.beq j p.1 with
   | true=>
    have:=Nat.eq_of_beq_eq_true e
    subst this
    rw [hj] at hp;cases hp
   | false=>exact Zbl X hj
theorem YL {β : Type} {c : Code} {kx : Nat→Zf→M β} {j : Nat} {vs : List Value} {x : β × Zb} : ∀ (X : List (Nat × List Nat)),KV c X kx j vs H=some x→kx j (mk (lkX X j) vs) H=some x
 | [],h=>by cases h
 | p :: X,h=>by
  simp only [KV] at h
  simp only [lkX]
  cases hp : Jq.xto p.1 c with
  | false=>
   rw [hp] at h
   simp only [cond_false] at h
   cases e : Nat.beq p.1 j with
   | true=>
    have:=Nat.eq_of_beq_eq_true e
    subst this
    rw [Zbl X hp] at h;cases h
   | false=>exact YL X h
  | true=>
   rw [hp] at h
   simp only [cond_true] at h
   cases e : Nat.beq j p.1 with
   | true=>
    have:=Nat.eq_of_beq_eq_true e
    subst this
    rw [e] at h
    simpa using h
   | false=>
    rw [e] at h
    have e' : Nat.beq p.1 j=false:=by
     cases e2 : Nat.beq p.1 j with
     | false=>rfl
     | true=>have:=Nat.eq_of_beq_eq_true e2;subst this;simp at e
    rw [e']
    exact YL X h
theorem Wx {β : Type} {c : Code} {kx : Nat→Zf→M β} {j : Nat} {r : Zf} {x : β × Zb} : ∀ (X : List (Nat × List Nat)),Zb4 c X kx j r H=some x→kx j r H=some x
 | [],h=>by cases h
 | p :: X,h=>by
  simp only [Zb4] at h
  cases hp : Jq.xto p.1 c with
  | false=>rw [hp] at h;exact Wx X h
  | true=>
   rw [hp] at h
   simp only [cond_true] at h
   cases e : Nat.beq j p.1 with
   | true=>
    have:=Nat.eq_of_beq_eq_true e
    subst this
    rw [e] at h
    exact h
   | false=>
    rw [e] at h
    exact Wx X h
structure ZaE {β : Type} (rnd : Bool) (P : Program) (w0 : Zg) (N : Nat) (fn : Func) (ι : Nat→Option Loc) (kn : Zf→M β) (kx : Nat→Zf→M β) (kr : Value→M β) (x : β × Zb) (Q : Exit→Act→World→Prop) : Prop where
 nrm : ∀ b,Ext w0 b→Kl P b N ι kn x (fun a w=>Q .normal a w)
 ext : ∀ b,Ext w0 b→∀ j,Kl P b N ι (kx j) x (fun a w=>Q (.exit j) a w)
 ret : ∀ b,Ext w0 b→∀ ι1 v H1 a1 w1,Le ι ι1→Ze5 rnd P b fn ι1 v H1 a1 w1→kr v H1=some x→Q .ret a1 w1
theorem Kl.mono {β : Type} {k : Zf→M β} {x : β × Zb} {next : Act→World→Prop} {ι1 : Nat→Option Loc} (h : Kl P w0 N ι k x next) (hl : Le ι ι1) : Kl P w0 N ι1 k x next:=
 fun ι2 r2 H2 a2 w2 hle hSt hk=>h ι2 r2 H2 a2 w2 (hl.trans hle) hSt hk
theorem ZaE.mono {β : Type} {rnd : Bool} {fn : Func} {kn : Zf→M β} {kx : Nat→Zf→M β} {kr : Value→M β} {x : β × Zb} {Q : Exit→Act→World→Prop} {ι1 : Nat→Option Loc} {b : Zg}
  (h : ZaE rnd P w0 N fn ι kn kx kr x Q) (hb : Ext w0 b) (hl : Le ι ι1) : ZaE rnd P b N fn ι1 kn kx kr x Q:=
 ⟨fun c hc=>(h.nrm c (hb.trans hc)).mono hl,fun c hc j=>(h.ext c (hb.trans hc) j).mono hl,fun c hc ι2 v H2 a2 w2 hle hR hk=>h.ret c (hb.trans hc) ι2 v H2 a2 w2 (hl.trans hle) hR hk⟩
theorem Zcn {β : Type} {ok : FuncId→Bool} {v : Value} {fn : Func} {lv : List (Nat × List Nat)} {p : Nat} {xs : List Nat} {cd : Array Tmp × Code × Code} {regs : Zf} {k : Option Code→M β} {x : β × Zb}
  (h : ZaL ok Γ v fn lv p xs cd regs k H=some x) : ∃ gf first captured u H1,v=.func (.func gf) first captured∧gf < JM∧ok gf=true∧
   Γ gf (first.toList++([.func (.yield H.length) #[] #[]]++captured.toList)) (H++[.loop fn lv p xs cd regs .ready none])=some (u,H1)∧Zar H.length k H1=some x:=by
 cases v with
 | func f first captured=>
  cases f with
  | func gf=>
   simp only [ZaL] at h
   cases hok : Nat.blt gf JM && ok gf with
   | false=>rw [hok] at h;cases h
   | true=>
    rw [hok] at h
    simp only [Bool.and_eq_true] at hok
    simp only [cond_true] at h
    generalize hm : Γ gf (first.toList++([.func (.yield H.length) #[] #[]]++captured.toList)) (H++[.loop fn lv p xs cd regs .ready none])=m at h
    cases m with
    | none=>cases h
    | some q=>exact ⟨gf,first,captured,q.1,q.2,rfl,by simpa using hok.1,hok.2,hm,h⟩
  | _=>cases h
 | _=>cases h
theorem ZbV {β : Type} {g : Operand} {ps : Array Tmp} {asg bd : Code} {Q : Exit→Act→World→Prop} {fn : Func} {lv : List (Nat × List Nat)} {p : Nat} {xs : List Nat} {L : List Nat} {k : Option Code→M β} {x : β × Zb}
  (hΓ : ∀ (b : Zg) g,Jf P P.globals.size b g (Γ g)) (hSt : St P.globals.size w0 fn.ntmps ι r H a w) (hg : Jn P g=true)
  (h : ZaL (Zc8 P) Γ (A.ev r g) fn lv p xs (ps,asg,bd) (A.mk L (A.proj L r)) k H=some x)
  (hk : ∀ pd b ι1 H1 a1 w1,Ext w0 b→Le ι ι1→St P.globals.size b fn.ntmps ι1 r H1 a1 w1→k pd H1=some x→(match pd with | none=>Q .normal a1 w1 | some c=>c.wpIn (FR none) 0 P Q a1 w1)) :
  (Code.rangeFunc g ps asg bd).wpIn (FR none) 0 P Q a w:=by
 have hv:=hSt.ev hg
 obtain ⟨gf,first,captured,v,H1,hev,hgy',hcg,hcall,h⟩:=Zcn h
 rw [hev] at hv
 obtain ⟨first',captured',hev',hr1,hr2⟩:=hv.fn_inv
 refine wpIn_rangeFunc fun fid hfid=>?_
 generalize hD : w.heap.size=D
 have hS1:=hSt.sim.push (.deferred (some []))
 let b1 : Zg:={ w0 with prot:=(D,.deferred (some [])) :: w0.prot,own:=D :: w0.own }
 have hnp : ∀ x∈w0.prot,x.1≠D:=by
  intro x hm e
  have p1:=(hSt.sim.prot x hm).1
  rw [e,Array.getElem?_eq_none (by omega)] at p1;cases p1
 have hS2 : Sim P.globals.size b1 ι H (ZQ w (.deferred (some []))):=by
  refine ⟨fun id o ho=>?_,hS1.inj,hS1.size,hS1.old,hS1.dom,hS1.glob,hS1.rest,fun y hy=>?_,hS1.views⟩
  ·have:=hS1.obj id o ho
   cases o <;> exact this
  ·cases hy with
   | head=>
    refine ⟨by rw [← hD];exact Yr w _,by rw [← hD];exact hSt.sim.size,fun id o l ho hd hl e=>?_⟩
    obtain ⟨l',hl',hlt⟩:=(hSt.sim.obj id o ho).loc hd
    rw [hl] at hl';cases hl'
    omega
   | tail _ hy=>exact hS1.prot y hy
 let rec0 : Loop:={ state:=.ready,pending:=none,fn:=fid,tmps:=a.tmps,params:=ps,assign:=asg,body:=bd,defers:=D }
 let l0 : Loc:=⟨D+1,0,0,0,false⟩
 have hsz2 : (ZQ w (.deferred (some []))).heap.size=D+1:=by simp [ZQ,hD]
 have hle1 : Le ι (JD ι H.length l0):=Jd hSt.sim _
 have hS3 : Sim P.globals.size b1 (JD ι H.length l0) (H++[.loop fn lv p xs (ps,asg,bd) (A.mk L (A.proj L r)) .ready none]) (ZQ (ZQ w (.deferred (some []))) (.loop rec0)):=by
  refine hS2.new (.loop rec0) hsz2.symm ⟨l0,fid,a.tmps,D,ZD _ _ _,?_,?_,hSt.size,fun t=>?_⟩
  ·have:=Yr (ZQ w (.deferred (some []))) (.loop rec0)
   rw [hsz2] at this
   exact this
  ·have:=hSt.sim.size
   show w0.heap.size≤D+1
   omega
  ·exact ((hSt.proj L).regs t).mono hle1
 have hRV : RVs (JD ι H.length l0) (first.toList++([.func (.yield H.length) #[] #[]]++captured.toList)) (first'.toList++([.func (.yield (D+1)) #[] #[]]++captured'.toList)):=
  (hr1.mono hle1).append ((RVs.cons (.yl (l:=l0) (ZD _ _ _)) .nil).append (hr2.mono hle1))
 unfold Zc8 at hcg
 split at hcg
 case h_2=>cases hcg
 rename_i gfn hgfn
 unfold Yh at hcg
 simp only [Bool.and_eq_true] at hcg
 have hname : (gfn.name == "runtime.NumGoroutine") = false := by simpa using hcg.1
 have hbody : gfn.body.isNone=false:=by
  have:=hcg.2
  cases hb : gfn.body <;> simp_all
 rcases hΓ b1 gf _ _ _ _ hcall with ⟨_,⟨_,hcalls⟩ | ⟨ex,⟨fn',hfn',_,hbody',_⟩,_⟩⟩ | ⟨hno,_⟩
 ·have hc:=hcalls _ _ _ hS3 hRV
  refine ⟨D+1,YH [D],ZQ (ZQ w (.deferred (some []))) (.loop rec0),{ target:=.fn (.func gf) captured',args:=first'++#[Value.func (.yield (D+1)) #[] #[]] },ZQ (ZQ w (.deferred (some []))) (.loop rec0),gf,
   (first'.toList++([Value.func (.yield (D+1)) #[] #[]]++captured'.toList)).toArray,ZQ (ZQ w (.deferred (some []))) (.loop rec0),?_,?_,fun _ _=>trivial,?_,(fun h=>by cases h),?_⟩
  ·have:=run_enterLoop_outer (P:=P) (w:=w) fid a.tmps ps asg bd
   rw [hD] at this
   exact this
  ·simp only [resolve,hev',Deferred.ofValue,Sem.run_bind,Sem.run_pure,Result.andThen_ok]
   simp [Act.eval]
  ·simp only [invoke,callFunc,Sem.run_bind,run_program,Result.andThen_ok,hgfn,hname,hbody,Bool.false_eq_true,if_false,Sem.run_pure]
   congr 2
   apply Array.ext'
   simp
  ·refine KZ (hc.mono fun e w' he=>?_)
   obtain ⟨ι1,v',hle,rfl,hv',hs⟩:=he
   unfold Zar at h
   split at h
   case h_2=>cases h
   rename_i fn2 lv2 p2 xs2 cd2 regs2 st2 pd2 hget
   obtain ⟨l,rf,tmps2,D2,hl,hheap,hnew,hsz,hregs⟩:=hs.obj _ _ hget
   have hl0:=hle _ _ (ZD ι H.length l0)
   rw [hl] at hl0
   cases hl0
   have hst : st2≠.busy:=by
    rintro rfl
    cases h
   have hk' : k pd2 (H1.set H.length (.loop fn2 lv2 p2 xs2 cd2 regs2 .exhausted pd2))=some x:=by
    cases st2 with
    | busy=>exact absurd rfl hst
    | _=>exact h
   refine ⟨pd2,_,run_endLoop hheap hst,?_⟩
   have hS4:=hs.set (new:=.loop fn2 lv2 p2 xs2 cd2 regs2 .exhausted pd2) (o':=.loop { state:=.exhausted,pending:=pd2,fn:=rf,tmps:=tmps2,params:=cd2.1,assign:=cd2.2.1,body:=cd2.2.2,defers:=D2 }) hget rfl hl rfl
    fun w' hw'=>⟨l0,rf,tmps2,D2,hl,hw',hnew,hsz,hregs⟩
   refine hk pd2 b1 ι1 _ _ _ (.push D (.refl w0) hnp) (hle1.trans hle) ⟨hS4,fun t=>(hSt.regs t).mono (hle1.trans hle),hSt.size,?_⟩ hk'
   show YH [D]++a.defers=YH (D :: w0.own)
   rw [hSt.defers]
   rfl
 ·rw [hgfn] at hfn'
  cases hfn'
  rw [hbody] at hbody';cases hbody'
 ·exact absurd hgy' (Nat.not_lt_of_le hno)
theorem Za9 {rnd : Bool} (hrd : rnd=false→rd=none) (hm : P.follows .mixedOrders=true) (hΓ : ∀ (b : Zg) g,Jf P P.globals.size b g (Γ g)) (fn : Func) (lv : List (Nat × List Nat)) : ∀ (c : Code) {β : Type} {p : Nat} {X : List (Nat × List Nat)} {r : Zf} {kn : Zf→M β} {kx : Nat→Zf→M β} {kr : Value→M β}
  {w0 : Zg} {H : Zb} {x : β × Zb} {ι : Nat→Option Loc} {a : Act} {w : World} {Q : Exit→Act→World→Prop},St P.globals.size w0 fn.ntmps ι r H a w→E P Γ rnd fn lv c p X r kn kx kr H=some x→
  ZaE rnd P w0 fn.ntmps fn ι kn kx kr x Q→c.wpIn (FR rd) 0 P Q a w:=by
 intro c
 induction c with
 | skip=>intro β p X r kn kx kr w0 H x ι a w Q hSt h hG;exact wpIn_skip (hG.nrm w0 (.refl w0) ι r H a w (.refl ι) hSt h)
 | region id ops draw=>
  intro β p X r kn kx kr w0 H x ι a w Q hSt h hG
  simp only [E] at h
  cases hok : K9 P fn.ntmps ops.toList && Y3 ops.toList with
  | false=>rw [hok] at h;cases h
  | true=>
   rw [hok] at h
   simp only [Bool.and_eq_true] at hok
   exact Zcj hm hΓ hok.1 hok.2 hSt h (hG.nrm w0 (.refl w0))
 | seq c d ihc ihd=>
  intro β p X r kn kx kr w0 H x ι a w Q hSt h hG
  simp only [E] at h
  refine wpIn_seq (ihc hSt h ⟨?_,hG.ext,hG.ret⟩)
  intro b hb ι1 r1 H1 a1 w1 hle hSt1 h1
  exact ihd hSt1 h1 (hG.mono hb hle)
 | cond c t e iht ihe=>
  intro β p X r kn kx kr w0 H x ι a w Q hSt h hG
  simp only [E] at h
  cases hcok : Jn P c with
  | false=>rw [hcok] at h;cases h
  | true=>
  rw [hcok] at h
  simp only [Bool.not_true,cond_false] at h
  have hc:=hSt.ev hcok
  cases hf : Jq t && Jq e with
  | false=>
   rw [hf] at h
   simp only [cond_false] at h
   unfold cnd at h
   generalize A.ev r c=g at h hc
   cases g with
   | bool b=>
    refine wpIn_cond hc.bool_inv ?_
    cases b
    ·exact ihe hSt h hG
    ·exact iht hSt h hG
   | _=>cases h
  | true=>
   rw [hf] at h
   simp only [cond_true] at h
   obtain ⟨o,H1,h1,h2⟩:=Za7 h
   have hG2 : ZaE rnd P w0 fn.ntmps fn ι (fun r'=>ret (Out.nrm (A.proj (lkX lv p) r'))) (fun j r'=>ret (Out.ext j (A.proj (lkX X j) r'))) (fun v=>ret (Out.ret v)) (o,H1) Q:=by
    refine ⟨?_,?_,?_⟩
    ·intro b hb ι1 r1 H2 a1 w1 hle hSt1 hk
     cases hk
     rcases h2 with ⟨vs,he,hk⟩ | ⟨j,vs,he,hk⟩ | ⟨v,he,hk⟩ <;> cases he
     exact hG.nrm b hb ι1 _ H1 a1 w1 hle (hSt1.proj _) hk
    ·intro b hb j ι1 r1 H2 a1 w1 hle hSt1 hk
     cases hk
     rcases h2 with ⟨vs,he,hk⟩ | ⟨j,vs,he,hk⟩ | ⟨v,he,hk⟩ <;> cases he
     exact hG.ext b hb _ ι1 _ H1 a1 w1 hle (hSt1.proj _) (YL _ hk)
    ·intro b hb ι1 v H2 a1 w1 hle hR hk
     cases hk
     rcases h2 with ⟨vs,he,hk⟩ | ⟨j,vs,he,hk⟩ | ⟨v,he,hk⟩ <;> cases he
     exact hG.ret b hb ι1 _ H1 a1 w1 hle hR hk
   unfold cnd at h1
   generalize A.ev r c=g at h1 hc
   cases g with
   | bool b=>
    refine wpIn_cond hc.bool_inv ?_
    cases b
    ·exact ihe hSt h1 hG2
    ·exact iht hSt h1 hG2
   | _=>cases h1
 | block id c ih=>
  intro β p X r kn kx kr w0 H x ι a w Q hSt h hG
  simp only [E] at h
  refine wpIn_block ?_
  cases hb : Nat.ble (YK id c+(bif Jq c then 1 else 0)) 1 with
  | true=>
   rw [hb] at h
   simp only [cond_true] at h
   refine ih hSt h ⟨hG.nrm,?_,hG.ret⟩
   intro b hb j ι1 r1 H1 a1 w1 hle hSt1 hk
   simp only [Exit.inBlock]
   cases hj : Nat.beq j id with
   | true=>
    rw [hj] at hk
    rw [if_pos (Nat.eq_of_beq_eq_true hj)]
    exact hG.nrm b hb ι1 r1 H1 a1 w1 hle hSt1 hk
   | false=>
    rw [hj] at hk
    rw [if_neg (fun e=>by subst e;simp at hj)]
    exact hG.ext b hb j ι1 r1 H1 a1 w1 hle hSt1 hk
  | false=>
   rw [hb] at h
   simp only [cond_false] at h
   obtain ⟨o,H1,h1,h2⟩:=Za7 h
   refine ih hSt h1 ⟨?_,?_,?_⟩
   ·intro b hb ι1 r1 H2 a1 w1 hle hSt1 hk
    cases hk
    rcases h2 with ⟨vs,he,hk⟩ | ⟨j,vs,he,hk⟩ | ⟨v,he,hk⟩ <;> cases he
    exact hG.nrm b hb ι1 _ H1 a1 w1 hle (hSt1.proj _) hk
   ·intro b hb j ι1 r1 H2 a1 w1 hle hSt1 hk
    simp only [Exit.inBlock]
    cases hj : Nat.beq j id with
    | true=>
     rw [hj] at hk
     rw [if_pos (Nat.eq_of_beq_eq_true hj)]
     cases hk
     rcases h2 with ⟨vs,he,hk⟩ | ⟨j,vs,he,hk⟩ | ⟨v,he,hk⟩ <;> cases he
     exact hG.nrm b hb ι1 _ H1 a1 w1 hle (hSt1.proj _) hk
    | false=>
     rw [hj] at hk
     rw [if_neg (fun e=>by subst e;simp at hj)]
     cases hk
     rcases h2 with ⟨vs,he,hk⟩ | ⟨j,vs,he,hk⟩ | ⟨v,he,hk⟩ <;> cases he
     exact hG.ext b hb _ ι1 _ H1 a1 w1 hle (hSt1.proj _) (YL _ hk)
   ·intro b hb ι1 v H2 a1 w1 hle hR hk
    cases hk
    rcases h2 with ⟨vs,he,hk⟩ | ⟨j,vs,he,hk⟩ | ⟨v,he,hk⟩ <;> cases he
    exact hG.ret b hb ι1 _ H1 a1 w1 hle hR hk
 | loop c ih=>
  intro β p X r kn kx kr w0 H x ι a w Q hSt h hG
  simp only [E] at h
  obtain ⟨o,H1,h1,h2⟩:=Za7 h
  obtain ⟨n,hn⟩:=ZaD h1
  refine wpIn_loop_rounds n ?_
  have key : ∀ (n : Nat) {b : Zg} {r : Zf} {H : Zb} {ι1 : Nat→Option Loc} {a : Act} {w : World},Ext w0 b→Le ι ι1→St P.globals.size b fn.ntmps ι1 r H a w→
    JG (fun vs=>E P Γ rnd fn lv c (2 * p) X (A.mk (lkX lv p) vs) (fun r'=>ret (Out.nrm (A.proj (lkX lv p) r'))) (fun j r'=>ret (Out.ext j (A.proj (lkX X j) r'))) (fun v=>ret (Out.ret v))) n (A.proj (lkX lv p) r) H=some (o,H1)→
    Code.roundsIn (FR rd) 0 P c Q n a w:=by
   intro n
   induction n with
   | zero=>intro b r H ι1 a w _ _ _ h;cases h
   | succ n ihn=>
    intro b r H ι1 a w hb hle hSt1 hit
    simp only [JG] at hit
    split at hit
    ·cases hit
    ·rename_i vs' H' he
     refine ih (hSt1.proj _) he ⟨?_,?_,?_⟩
     ·intro b2 hb2 ι2 r2 H2 a2 w2 hle2 hSt2 hk
      cases hk
      exact ihn (hb.trans hb2) (hle.trans hle2) hSt2 hit
     ·intro b2 hb2 j ι2 r2 H2 a2 w2 hle2 hSt2 hk
      cases hk
     ·intro b2 hb2 ι2 v H2 a2 w2 hle2 hR hk
      cases hk
    ·rename_i o' H' hno he
     cases hit
     refine ih (hSt1.proj _) he ⟨?_,?_,?_⟩
     ·intro b2 hb2 ι2 r2 H2 a2 w2 hle2 hSt2 hk
      cases hk
      exact (hno _ rfl).elim
     ·intro b2 hb2 j ι2 r2 H2 a2 w2 hle2 hSt2 hk
      cases hk
      rcases h2 with ⟨vs,he,hk⟩ | ⟨j,vs,he,hk⟩ | ⟨v,he,hk⟩ <;> cases he
      exact hG.ext b2 (hb.trans hb2) _ ι2 _ H1 a2 w2 (hle.trans hle2) (hSt2.proj _) (YL _ hk)
     ·intro b2 hb2 ι2 v H2 a2 w2 hle2 hR hk
      cases hk
      rcases h2 with ⟨vs,he,hk⟩ | ⟨j,vs,he,hk⟩ | ⟨v,he,hk⟩ <;> cases he
      exact hG.ret b2 (hb.trans hb2) ι2 _ H1 a2 w2 (hle.trans hle2) hR hk
  exact key n (.refl w0) (.refl ι) hSt hn
 | exit id=>intro β p X r kn kx kr w0 H x ι a w Q hSt h hG;exact wpIn_exit (hG.ext w0 (.refl w0) id ι r H a w (.refl ι) hSt h)
 | ret=>
  intro β p X r kn kx kr w0 H x ι a w Q hSt h hG
  simp only [E] at h
  cases rnd with
  | true=>exact wpIn_ret (hG.ret w0 (.refl w0) ι _ H a w (.refl ι) ⟨hSt.sim,hSt.defers,fun h=>by cases h⟩ h)
  | false=>
   obtain ⟨v,h1,h2⟩:=Wb hSt h
   exact wpIn_ret (hG.ret w0 (.refl w0) ι v H a w (.refl ι) ⟨hSt.sim,hSt.defers,fun _=>h2⟩ h1)
 | rangeFunc g ps asg bd _ _=>
  intro β p X r kn kx kr w0 H x ι a w Q hSt h hG
  simp only [E] at h
  cases hc : rnd || !Jn P g with
  | true=>rw [hc] at h;cases h
  | false=>
   rw [hc] at h
   simp only [Bool.or_eq_false_iff,Bool.not_eq_false'] at hc
   obtain ⟨rfl,hg⟩:=hc
   obtain rfl:=hrd rfl
   simp only [cond_false] at h
   refine ZbV hΓ hSt hg h fun pd b ι1 H1 a1 w1 hb hle hSt1 hk=>?_
   cases pd with
   | none=>exact hG.nrm b hb ι1 r H1 a1 w1 hle hSt1 hk
   | some c=>
    cases c with
    | exit j=>exact wpIn_exit (hG.ext b hb j ι1 r H1 a1 w1 hle hSt1 (Wx _ hk))
    | ret=>
     obtain ⟨v,h1,h2⟩:=Wb hSt1 hk
     exact wpIn_ret (hG.ret b hb ι1 v H1 a1 w1 hle ⟨hSt1.sim,hSt1.defers,fun _=>h2⟩ h1)
    | _=>cases hk
 | _=>intro β p X r kn kx kr w0 H x ι a w Q hSt h hG;cases h
theorem Zah : ∀ (vs : List Value) (i t : Nat),Zk (KG i vs) t=if i≤t∧t < i+vs.length then vs.getD (t - i) undef else undef
 | [],i,t=>by simp [KG,Zk]
 | v :: vs,i,t=>by
  simp only [KG,Zk]
  cases e : Nat.beq i t with
  | true=>
   have:=Nat.eq_of_beq_eq_true e
   subst this
   simp
  | false=>
   have hne : i≠t:=fun h=>by subst h;simp at e
   rw [cond_false,Zah vs (i+1) t]
   by_cases h1 : i+1≤t∧t < i+1+vs.length
   ·rw [if_pos h1,if_pos (by simp;omega)]
    have : t - i=(t - (i+1))+1:=by omega
    rw [this];simp
   ·rw [if_neg h1,if_neg (by simp;omega)]
theorem ZcV (hm : P.follows .mixedOrders=true) (hΓ : ∀ (b : Zg) g,Jf P P.globals.size b g (Γ g)) {g : FuncId} {fn : Func} {lv : List (Nat × List Nat)} (hfn : P.funcs[g]?=some fn) (hcall : Yh fn=true)
  {args : List Value} {H H1 : Zb} {v : Value} (h : Ju P Γ fn lv args H=some (v,H1)) : ZaO P P.globals.size w0 g v args H H1:=by
 unfold Ju at h
 cases hb : fn.body with
 | none=>rw [hb] at h;cases h
 | some c=>
  rw [hb] at h
  simp only at h
  cases hle : Nat.ble args.length fn.ntmps with
  | false=>rw [hle] at h;cases h
  | true=>
   rw [hle] at h
   simp only [cond_true] at h
   have hlen:=Nat.le_of_ble_eq_true hle
   have hcl : Zbn P g:=by
    refine ⟨fn,hfn,?_,by simp [hb]⟩
    unfold Yh at hcall
    simp only [Bool.and_eq_true] at hcall
    simpa using hcall.1
   refine ⟨hcl,fun ι w args' hS hr=>callsIn_wide.1 (callsIn_of_wp_marks (F:=Fence.wide) (n:=0) hfn hb trivial ?_)⟩
   have hsz : args'.toArray.size=args.length:=by have:=hr.1;simp;omega
   have hret : ∀ b,Ext { w0 with own:=[] } b→∀ ι1 v' H2 a1 w1,Le ι ι1→Ze5 false P b fn ι1 v' H2 a1 w1→v'=v→H2=H1→
     LeavesInM Fence.wide 0 P fn a1.tmps (fun e w'=>∃ ι1 v',Le ι ι1∧e=.returned v'∧RV ι1 v v'∧Sim P.globals.size w0 ι1 H1 w') a1.defers .returning w1:=by
    rintro b hb ι1 v' H2 a1 w1 hle1 ⟨hs,hd,hres⟩ rfl rfl
    rw [hd]
    refine Zey hb rfl hs fun w' hw'=>?_
    obtain ⟨v2,h2,hv2⟩:=hres rfl _ w' hw'
    exact ⟨v2,h2,ι1,v2,hle1,rfl,hv2,hw'.base rfl fun x hx=>hx⟩
   refine Za9 (rnd:=false) (rd:=none) (fun _=>rfl) hm hΓ fn lv c (ι:=ι) (w0:={ w0 with own:=[] }) ?_ h ⟨?_,?_,?_⟩
   ·refine ⟨hS.base rfl fun x hx=>hx,fun t=>?_,by simp at hsz ⊢;omega,rfl⟩
    rw [Zah]
    split
    ·rename_i ht
     have h1:=hr.2 t (by omega)
     have ht' : t < args'.length:=by have:=hr.1;omega
     simp only [Nat.sub_zero]
     simpa [Array.getElem?_append,ht',List.getD_eq_getElem?_getD] using h1
    ·exact .un
   ·intro b hb ι1 r1 H2 a1 w1 hle1 hSt1 hk
    obtain ⟨v',h1,hres⟩:=Wb hSt1 hk
    cases h1
    exact hret b hb ι1 _ _ a1 w1 hle1 ⟨hSt1.sim,hSt1.defers,fun _=>hres⟩ rfl rfl
   ·intro b hb j ι1 r1 H2 a1 w1 hle1 hSt1 hk;cases hk
   ·intro b hb ι1 v' H2 a1 w1 hle1 hR hk
    cases hk
    exact hret b hb ι1 _ _ a1 w1 hle1 hR rfl rfl
theorem Zab {N : Nat} : ∀ {ps : List Nat} {vs vs' : List Value} {r : Zf} {T : Array Value},RVs ι vs vs'→(∀ t∈ps,t < N)→T.size=N→(∀ t,RV ι (Zk r t) (T.getD t undef))→
  ((ps.zip vs').foldl (fun tmps (t,a)=>tmps.setIfInBounds t a) T).size=N∧∀ t,RV ι (Zk (Zem ps vs r) t) (((ps.zip vs').foldl (fun tmps (t,a)=>tmps.setIfInBounds t a) T).getD t undef)
 | [],vs,vs',r,T,_,_,hT,hr=>⟨hT,hr⟩
 | p :: ps,[],vs',r,T,hv,_,hT,hr=>by
  have:=hv.nil_inv;subst this
  exact ⟨hT,hr⟩
 | p :: ps,v :: vs,vs',r,T,hv,hp,hT,hr=>by
  obtain ⟨v',b',rfl,hv1,hv2⟩:=hv.cons_inv
  refine Zab (ps:=ps) (r:=(p,v) :: r) (T:=T.setIfInBounds p v') hv2 (fun t ht=>hp t (by simp [ht])) (by simpa using hT) fun t=>?_
  simp only [Zk]
  by_cases e : p=t
  ·subst e
   have:=hp p (by simp)
   simpa [hT,this] using hv1
  ·have e1 : Nat.beq p t=false:=by
    cases h : Nat.beq p t with
    | false=>rfl
    | true=>exact absurd (Nat.eq_of_beq_eq_true h) e
   have:=hr t
   simpa [e1,Array.getElem?_setIfInBounds_ne e] using this
theorem W1 {ps : Array Tmp} {vs : List Value} {T : Array Value} : (ps.zip vs.toArray).foldl (fun tmps (x : Tmp × Value)=>tmps.setIfInBounds x.1 x.2) T=(ps.toList.zip vs).foldl (fun tmps (x : Tmp × Value)=>tmps.setIfInBounds x.1 x.2) T:=by
 rw [← Array.foldl_toList]
 simp
theorem ZbK (hm : P.follows .mixedOrders=true) (hΓ : ∀ (b : Zg) g,Jf P P.globals.size b g (Γ g)) {L : Nat} {args : List Value} {H H1 : Zb} {v : Value} (h : Zcd P Γ L args H=some (v,H1)) : Zdi P P.globals.size w0 L v args H H1:=by
 unfold Zcd at h
 split at h
 case h_2=>cases h
 rename_i fn lv p xs cd regs pd hget
 obtain ⟨ps,asg,bd⟩:=cd
 simp only at h
 cases hok : Nat.beq args.length ps.size && ps.toList.all (fun t=>Nat.blt t fn.ntmps) with
 | false=>rw [hok] at h;cases h
 | true=>
 rw [hok] at h
 simp only [Bool.and_eq_true,List.all_eq_true] at hok
 obtain ⟨hlen,hps⟩:=hok
 have hlen:=Nat.eq_of_beq_eq_true hlen
 simp only [cond_true] at h
 intro ι w args' l hl hS hr
 obtain ⟨l',rf,tmps,D,hl',hheap,hnew,hsz,hregs⟩:=hS.obj _ _ hget
 rw [hl] at hl';cases hl'
 have hlen' : args'.length=ps.size:=by rw [← hr.1];exact hlen
 have hy:=run_yield (P:=P) (args:=args'.toArray) hheap (by simpa using hlen')
 refine ⟨_,_,_,_,hy,?_⟩
 simp only
 rw [W1]
 obtain ⟨hsz2,hregs2⟩:=Zab (ps:=ps.toList) (r:=regs) hr (fun t ht=>by simpa using hps t ht) hsz hregs
 have endS : ∀ (jump : Option Code) {b : Zg} {ι1 : Nat→Option Loc} {H2 : Zb} {w2 : World},Ext { w0 with own:=[] } b→Le ι ι1→Sim P.globals.size b ι1 H2 w2→ZbU L jump H2=some (v,H1)→
   ∃ u w',(Instr.endRound l.blk jump).run P w2=.ok u w'∧∃ ι1 v',Le ι ι1∧Ending.returned u=.returned v'∧RV ι1 v v'∧Sim P.globals.size w0 ι1 H1 w':=by
  intro jump b ι1 H2 w2 hb hle hs he
  unfold ZbU at he
  split at he
  case h_2=>cases he
  rename_i fn2 lv2 p2 xs2 cd2 regs2 st2 pd2 hget2
  cases he
  obtain ⟨l2,rf2,tmps2,D2,hl2,hheap2,hnew2,hsz2,hregs2⟩:=hs.obj _ _ hget2
  rw [hle _ _ hl] at hl2;cases hl2
  have hS4:=hs.set (new:=.loop fn2 lv2 p2 xs2 cd2 regs2 (if jump.isNone then .ready else .done) jump) (o':=.loop { state:=if jump.isNone then .ready else .done,pending:=jump,fn:=rf2,tmps:=tmps2,params:=cd2.1,assign:=cd2.2.1,body:=cd2.2.2,defers:=D2 }) hget2 rfl (hle _ _ hl) rfl
   fun w' hw'=>⟨l,rf2,tmps2,D2,hle _ _ hl,hw',hnew2,hsz2,hregs2⟩
  exact ⟨_,_,run_endRound jump hheap2,ι1,_,hle,rfl,.sc rfl,(hb.sim hS4).base rfl fun x hx=>hx⟩
 refine roundIn_of_wpIn trivial ?_
 refine Za9 (rnd:=true) (rd:=some l.blk) (fun h=>by cases h) hm hΓ fn lv asg (ι:=ι) (w0:={ w0 with own:=[] }) ⟨hS.base rfl fun x hx=>hx,hregs2,hsz2,rfl⟩ h ⟨?_,?_,?_⟩
 ·intro b hb ι1 r1 H2 a1 w1 hle hSt1 hk
  simp only [Exit.then]
  simp only [Ze8] at hk
  split at hk
  case h_2=>cases hk
  rename_i fn2 lv2 p2 xs2 cd2 regs2 pd2 hget2
  obtain ⟨l2,rf2,tmps2,D2,hl2,hheap2,hnew2,hsz2,hregs2⟩:=hSt1.sim.obj _ _ hget2
  rw [hle _ _ hl] at hl2;cases hl2
  have hS4:=hSt1.sim.set (new:=.loop fn2 lv2 p2 xs2 cd2 regs2 .busy pd2) (o':=.loop { state:=.busy,pending:=pd2,fn:=rf2,tmps:=tmps2,params:=cd2.1,assign:=cd2.2.1,body:=cd2.2.2,defers:=D2 }) hget2 rfl (hle _ _ hl) rfl
   fun w' hw'=>⟨l,rf2,tmps2,D2,hle _ _ hl,hw',hnew2,hsz2,hregs2⟩
  refine ⟨_,run_beginRound hheap2 rfl,?_⟩
  refine Za9 (rnd:=true) (rd:=some l.blk) (fun h=>by cases h) hm hΓ fn lv bd (ι:=ι1) (w0:=b) ⟨hS4,hSt1.regs,hSt1.size,hSt1.defers⟩ hk ⟨?_,?_,?_⟩
  ·intro c hc ι2 r2 H3 a2 w2 hle2 hSt2 hk2
   exact endS none (hb.trans hc) (hle.trans hle2) hSt2.sim hk2
  ·intro c hc j ι2 r2 H3 a2 w2 hle2 hSt2 hk2
   exact endS (some (.exit j)) (hb.trans hc) (hle.trans hle2) hSt2.sim hk2
  ·intro c hc ι2 v2 H3 a2 w2 hle2 hR hk2
   exact endS (some .ret) (hb.trans hc) (hle.trans hle2) hR.1 hk2
 ·intro b hb j ι1 r1 H2 a1 w1 hle1 hSt1 hk;cases hk
 ·intro b hb ι1 v' H2 a1 w1 hle1 hR hk;cases hk
def Kc (P : Program) (G : Nat) (w0 : Zg) (g : FuncId) (m : List Value→M Value) : Prop:=
 ∀ args H v H1,m args H=some (v,H1)→ZaO P G w0 g v args H H1∨Zds P G w0 g v args H H1
theorem WN (hm : P.follows .mixedOrders=true) {prim : FuncId→Option (List Value→M Value)} {lvs : FuncId→List (Nat × List Nat)} (hprim : ∀ (b : Zg) g m,prim g=some m→Kc P P.globals.size b g m) : ∀ (n : Nat) (w0 : Zg) (g : FuncId),Jf P P.globals.size w0 g (run P prim lvs n g)
 | 0,w0,g=>by intro args H v H1 h;cases h
 | n+1,w0,g=>by
  intro args H v H1 h
  simp only [run] at h
  cases hy : Nat.blt g JM with
  | false=>
   rw [hy] at h
   exact .inr ⟨Nat.le_of_not_lt fun hlt=>(by rw [show Nat.blt g JM=true by simpa using hlt] at hy;cases hy),ZbK hm (WN hm hprim n) h⟩
  | true=>
  rw [hy] at h
  simp only [cond_true] at h
  refine .inl ⟨by simpa using hy,?_⟩
  cases hp : prim g with
  | some m=>rw [hp] at h;exact hprim w0 g m hp args H v H1 h
  | none=>
   rw [hp] at h
   simp only at h
   cases hf : P.funcs[g]? with
   | none=>rw [hf] at h;cases h
   | some fn=>
    rw [hf] at h
    simp only at h
    cases hc : Yh fn with
    | false=>rw [hc] at h;cases h
    | true=>
     rw [hc] at h
     exact .inl (ZcV hm (WN hm hprim n) hf hc h)
end
end Go.Proofs.Ytfefblgkfdaekaa.A
namespace Go.Proofs.Ytfefblgkfdaekaa.A
set_option linter.unusedVariables false
set_option linter.unusedSimpArgs false
inductive Ty where
 | bool | int (k : IntKind) | str | slc (e : Ty) | struct (r : Ty) | unit | pair (f r : Ty)
def Ty.den : Ty→Type
 | .bool=>Bool
 | .int _=>Int
 | .str=>ByteArray
 | .slc e=>Option (List e.den × List e.den)
 | .struct r=>r.den
 | .unit=>Unit
 | .pair f r=>f.den × r.den
def Ty.size : Ty→Nat
 | .struct r=>r.size
 | .unit=>0
 | .pair f r=>f.size+r.size
 | _=>1
def Ty.fits (P : Program) : Ty→TypeId ⊕ (List Field × Nat)→Bool
 | .bool,.inl t=>match P.underlying t with | some .bool=>true | _=>false
 | .int k,.inl t=>match P.underlying t with | some (.int k')=>decide (k'=k) | _=>false
 | .str,.inl t=>match P.underlying t with | some .string=>true | _=>false
 | .slc e,.inl t=>match P.underlying t with | some (.slice u)=>e.fits P (.inl u) && Nat.beq (P.cellsOf u) e.size && Nat.ble 1 e.size | _=>false
 | .struct r,.inl t=>match P.underlying t with | some (.struct fs)=>r.fits P (.inr (fs.toList,0)) && Nat.beq (P.cellsOf t) r.size | _=>false
 | .unit,.inr ([],_)=>true
 | .pair f r,.inr (fd :: fs,off)=>f.fits P (.inl fd.type) && Nat.beq fd.offset off && Nat.beq (P.cellsOf fd.type) f.size && r.fits P (.inr (fs,off+f.size))
 | _,_=>false
def Ty.wf : (t : Ty)→t.den→Prop
 | .bool,_=>True
 | .int k,n=>(Lit.int k n).wf=true
 | .str,s=>s.size≤maxLen
 | .slc _,none=>True
 | .slc e,some (a,b)=>(∀ x∈a,e.wf x)∧(∀ x∈b,e.wf x)∧a.length+b.length≤maxLen
 | .struct r,x=>r.wf x
 | .unit,_=>True
 | .pair f r,(x,y)=>f.wf x∧r.wf y
def Rd : (t : Ty)→t.den→Zb→List Value→Prop
 | .bool,b,_,cs=>cs=[.bool b]
 | .int k,n,_,cs=>cs=[.int k n]
 | .str,s,_,cs=>cs=[.string s]
 | .slc _,none,_,cs=>cs=[.slice none 0 0]
 | .slc e,some (a,b),H,cs=>(a=[]∧b=[]∧cs=[.slice (some ⟨0,0,some 1⟩) 0 0])∨
   ∃ id cells,cs=[.slice (some ⟨id,0,none⟩) a.length (a.length+b.length)]∧H[id]?=some (.cells cells e.size false true)∧
    cells.length=(a.length+b.length) * e.size∧∀ i x,(a++b)[i]?=some x→Rd e x H ((cells.drop (i * e.size)).take e.size)
 | .struct r,x,H,cs=>Rd r x H cs
 | .unit,_,_,cs=>cs=[]
 | .pair f r,(x,y),H,cs=>Rd f x H (cs.take f.size)∧Rd r y H (cs.drop f.size)
def HLe (H H' : Zb) : Prop:=∀ (id : Nat) (o : Zo),H[id]?=some o→H'[id]?=some o
theorem HLe.refl (H : Zb) : HLe H H:=fun _ _ h=>h
theorem HLe.trans {H H' H'' : Zb} (h : HLe H H') (h' : HLe H' H'') : HLe H H'':=fun i o e=>h' i o (h i o e)
theorem HLe.app (H l : Zb) : HLe H (H++l):=fun i o h=>by
 rw [List.getElem?_append_left (List.getElem?_eq_some_iff.1 h).1];exact h
theorem Rd.mono : ∀ (t : Ty) {x : t.den} {H H' : Zb} {cs : List Value},Rd t x H cs→HLe H H'→Rd t x H' cs
 | .bool,_,_,_,_,h,_=>h
 | .int _,_,_,_,_,h,_=>h
 | .str,_,_,_,_,h,_=>h
 | .slc _,none,_,_,_,h,_=>h
 | .slc e,some (a,b),_,_,_,h,hl=>by
  rcases h with h | ⟨id,cells,h1,h2,h3,h4⟩
  ·exact .inl h
  ·exact .inr ⟨id,cells,h1,hl _ _ h2,h3,fun i x hx=>Rd.mono e (h4 i x hx) hl⟩
 | .struct r,_,_,_,_,h,hl=>Rd.mono r (x:=_) h hl
 | .unit,_,_,_,_,h,_=>h
 | .pair f r,(_,_),_,_,_,h,hl=>⟨Rd.mono f h.1 hl,Rd.mono r h.2 hl⟩
theorem Rd.ones : ∀ (t : Ty) {x : t.den} {H : Zb} {cs : List Value},Rd t x H cs→∀ v∈cs,oneCell v=true
 | .bool,_,_,_,h=>by cases h;simp [oneCell]
 | .int _,_,_,_,h=>by cases h;simp [oneCell]
 | .str,_,_,_,h=>by cases h;simp [oneCell]
 | .slc _,none,_,_,h=>by cases h;simp [oneCell]
 | .slc e,some (a,b),_,_,h=>by
  rcases h with ⟨_,_,h⟩ | ⟨id,cells,h,_⟩ <;> cases h <;> simp [oneCell]
 | .struct r,_,_,_,h=>Rd.ones r (x:=_) h
 | .unit,_,_,_,h=>by cases h;simp
 | .pair f r,(_,_),_,cs,h=>fun v hv=>by
  rw [← List.take_append_drop f.size cs] at hv
  rcases List.mem_append.1 hv with hv | hv
  ·exact Rd.ones f h.1 v hv
  ·exact Rd.ones r h.2 v hv
theorem Zbv {w : World} {a : Addr} {i sz : Nat} {cs : List Value} (hs : 1≤sz) (h : w.cells? 0 (a.add (i * sz)) sz=some cs) :
  (i=0→a.spot=none)∧∃ c el fr,w.heap[a.block]?=some (.cells c el fr)∧a.off+i * sz+sz≤c.size∧cs=(c.toList.drop (a.off+i * sz)).take sz:=by
 obtain ⟨_,hl,hc⟩:=World.cells?_some h
 have hblk : (a.add (i * sz)).block=a.block:=by unfold Addr.add;split <;> rfl
 have hoff : (a.add (i * sz)).off=a.off+i * sz:=by unfold Addr.add;split <;> simp_all
 have get : ∀ j,j < sz→∃ v,w.cell? ((a.add (i * sz)).add j)=some v∧cs[j]?=some v:=by
  intro j hj
  rw [hc j hj]
  have : j < cs.length:=by omega
  exact ⟨cs[j],List.getElem?_eq_getElem this,List.getElem?_eq_getElem this⟩
 have hadd : ∀ j,((a.add (i * sz)).add j).block=a.block∧((a.add (i * sz)).add j).off=a.off+i * sz+j:=by
  intro j
  refine ⟨?_,?_⟩ <;> unfold Addr.add <;> split <;> simp_all [Addr.add]
 refine ⟨fun hi=>?_,?_⟩
 ·subst hi
  obtain ⟨v,h0,_⟩:=get 0 hs
  rw [Nat.zero_mul] at h0
  simp only [Addr.add,if_pos] at h0
  unfold World.cell? at h0
  split at h0
  ·split at h0
   ·cases h0
   ·rename_i hsp;simpa using hsp
  ·cases h0
 ·obtain ⟨v,h0,_⟩:=get 0 hs
  unfold World.cell? at h0
  rw [(hadd 0).1,(hadd 0).2] at h0
  split at h0
  ·rename_i c el fr hb
   refine ⟨c,el,fr,hb,?_,?_⟩
   ·obtain ⟨v,h1,_⟩:=get (sz - 1) (by omega)
    unfold World.cell? at h1
    rw [(hadd (sz - 1)).1,(hadd (sz - 1)).2,hb] at h1
    simp only at h1
    split at h1
    ·cases h1
    ·have:=(Array.getElem?_eq_some_iff.1 h1).1
     omega
   ·apply List.ext_getElem?
    intro j
    by_cases hj : j < sz
    ·obtain ⟨v,h1,h2⟩:=get j hj
     rw [h2,List.getElem?_take,if_pos hj,List.getElem?_drop]
     unfold World.cell? at h1
     rw [(hadd j).1,(hadd j).2,hb] at h1
     simp only at h1
     split at h1
     ·cases h1
     ·rw [← h1];simp
    ·rw [List.getElem?_eq_none (by omega),List.getElem?_eq_none (by simp;omega)]
  ·cases h0
section
variable {P : Program} {H0 : Type} {enc : TypeId × Value→H0} {W : World} {G : Nat}
def Ze7 (W : World) (G : Nat) (t : Ty) (ι : Nat→Option Loc) (H : Zb) (cs : List Value) : Prop:=
 ∃ x ι' H' cs',t.wf x∧Le ι ι'∧Sim G (b0 W) ι' H' W∧HLe H H'∧RVs ι' cs' cs∧Rd t x H' cs'
theorem Y4 {ι : Nat→Option Loc} {v v' : Value} (h : RV ι v v') : RVs ι [v] [v']:=.cons h .nil
def Zfm (P : Program) (enc : TypeId × Value→H0) (W : World) (fuel : Nat) (cs : List Value) (fs : List Field) : Prop:=
 ∀ f∈fs,∃ d,DataW.trod enc P W 0 (fun _=>true) true fuel f.type ((cs.drop f.offset).take (P.cellsOf f.type))=some d
theorem ZeX : ∀ (t : Ty),
  (∀ {u : TypeId} {fuel : Nat} {cs : List Value} {d : DataW H0 × List MemPlace} {ι : Nat→Option Loc} {H : Zb},t.fits P (.inl u)=true→DataW.trod enc P W 0 (fun _=>true) true fuel u cs=some d→Sim G (b0 W) ι H W→
   Ze7 W G t ι H cs∧cs.length=t.size)∧
  (∀ {fs : List Field} {off fuel : Nat} {cs : List Value} {ι : Nat→Option Loc} {H : Zb},t.fits P (.inr (fs,off))=true→Zfm P enc W fuel cs fs→cs.length=off+t.size→Sim G (b0 W) ι H W→
   Ze7 W G t ι H (cs.drop off)):=by
 intro t
 induction t with
 | bool=>
  refine ⟨fun {u fuel cs d ι H} hf h hS=>?_,fun hf=>by simp [Ty.fits] at hf⟩
  simp only [Ty.fits] at hf
  cases fuel with
  | zero=>simp [DataW.trod] at h
  | succ n=>
   unfold DataW.trod at h
   split at hf
   ·rename_i hu
    rw [hu] at h
    split at h <;> simp_all
    exact ⟨⟨(_ : Bool),ι,H,_,trivial,.refl _,hS,.refl _,Y4 (.sc rfl),rfl⟩,rfl⟩
   ·cases hf
 | int k=>
  refine ⟨fun {u fuel cs d ι H} hf h hS=>?_,fun hf=>by simp [Ty.fits] at hf⟩
  simp only [Ty.fits] at hf
  cases fuel with
  | zero=>simp [DataW.trod] at h
  | succ n=>
   unfold DataW.trod at h
   split at hf
   ·rename_i k' hu
    rw [hu] at h
    split at h <;> simp_all
    rename_i n' _
    exact ⟨⟨n',ι,H,_,h.1.2,.refl _,hS,.refl _,Y4 (.sc rfl),rfl⟩,rfl⟩
   ·cases hf
 | str=>
  refine ⟨fun {u fuel cs d ι H} hf h hS=>?_,fun hf=>by simp [Ty.fits] at hf⟩
  simp only [Ty.fits] at hf
  cases fuel with
  | zero=>simp [DataW.trod] at h
  | succ n=>
   unfold DataW.trod at h
   split at hf
   ·rename_i hu
    rw [hu] at h
    split at h <;> simp_all
    exact ⟨⟨(_ : ByteArray),ι,H,_,h.1,.refl _,hS,.refl _,Y4 (.sc rfl),rfl⟩,rfl⟩
   ·cases hf
 | slc e ih=>
  refine ⟨fun {u fuel cs d ι H} hf h hS=>?_,fun hf=>by simp [Ty.fits] at hf⟩
  simp only [Ty.fits] at hf
  split at hf
  ·rename_i u' hu
   simp only [Bool.and_eq_true] at hf
   obtain ⟨⟨hf,hsz⟩,h1⟩:=hf
   have hsz:=Nat.eq_of_beq_eq_true hsz
   have h1:=Nat.le_of_ble_eq_true h1
   rcases DataW.trod_slice hu h with ⟨rfl,_⟩ | ⟨a,len,cap,elems,rest,n,_,rfl,rfl,_,hl,hm,hlen,hel,hsp,_⟩
   ·exact ⟨⟨(none : Option (List e.den × List e.den)),ι,H,_,trivial,.refl _,hS,.refl _,Y4 (.sc rfl),rfl⟩,rfl⟩
   ·obtain ⟨hrl,hre⟩:=hsp rfl
    refine ⟨?_,rfl⟩
    rcases Nat.eq_zero_or_pos cap with h0 | h0
    ·subst h0
     have : len=0:=by omega
     subst this
     refine ⟨(some ([],[]) : Option (List e.den × List e.den)),ι,H,_,⟨by simp,by simp,by simp⟩,.refl _,hS,.refl _,Y4 (.slcE (id:=0) (o:=0) (j:=1) (by simp)),.inl ⟨rfl,rfl,rfl⟩⟩
    ·have each : ∀ i,i < cap→∃ cs d,W.cells? 0 (a.add (i * e.size)) e.size=some cs∧DataW.trod enc P W 0 (fun _=>true) true n u' cs=some d:=by
      intro i hi
      have : ∃ y,(W.cells? 0 (a.add (i * P.cellsOf u')) (P.cellsOf u')).bind (DataW.trod enc P W 0 (fun _=>true) true n u')=some y:=by
       rcases Nat.lt_or_ge i len with h | h
       ·exact ⟨elems[i],by rw [hel i h];exact List.getElem?_eq_getElem _⟩
       ·refine ⟨rest[i - len],?_⟩
        have:=hre (i - len) (by omega)
        rw [show len+(i - len)=i by omega] at this
        rw [this];exact List.getElem?_eq_getElem _
      obtain ⟨y,hy⟩:=this
      rw [hsz] at hy
      obtain ⟨cs,h1,h2⟩:=Option.bind_eq_some_iff.1 hy
      exact ⟨cs,y,h1,h2⟩
     obtain ⟨cs0,d0,hc0,_⟩:=each 0 h0
     obtain ⟨hsp0,c,el,fr,hb,_,_⟩:=Zbv h1 hc0
     have hsp0:=hsp0 rfl
     have hrow : ∀ i,i < cap→a.off+(i+1) * e.size≤c.size∧∃ d,DataW.trod enc P W 0 (fun _=>true) true n u' ((c.toList.drop (a.off+i * e.size)).take e.size)=some d:=by
      intro i hi
      obtain ⟨cs,d,hc,ht⟩:=each i hi
      obtain ⟨_,c',el',fr',hb',h2,rfl⟩:=Zbv h1 hc
      rw [hb] at hb';cases hb'
      exact ⟨by rw [Nat.add_mul];omega,d,ht⟩
     have key : ∀ k,k≤cap→∃ (xs : List e.den) (ι' : Nat→Option Loc) (H' : Zb) (cells : List Value),xs.length=k∧cells.length=k * e.size∧(∀ x∈xs,e.wf x)∧Le ι ι'∧Sim G (b0 W) ι' H' W∧HLe H H'∧
       RVs ι' cells ((c.toList.drop a.off).take (k * e.size))∧∀ i x,xs[i]?=some x→Rd e x H' ((cells.drop (i * e.size)).take e.size):=by
      intro k
      induction k with
      | zero=>intro _;exact ⟨[],ι,H,[],rfl,by simp,by simp,.refl _,hS,.refl _,by simpa using RVs.nil,by simp⟩
      | succ k ihk=>
       intro hk
       obtain ⟨xs,ι1,H1,cells,hx,hcl,hwf,hle,hS1,hHl,hrv,hrd⟩:=ihk (by omega)
       obtain ⟨hsz1,d1,ht⟩:=hrow k (by omega)
       obtain ⟨⟨x,ι2,H2,cs2,hwx,hle2,hS2,hHl2,hrv2,hrd2⟩,_⟩:=ih.1 hf ht hS1
       have hl2 : cs2.length=e.size:=by rw [hrv2.1];simp;rw [Nat.add_mul] at hsz1;omega
       refine ⟨xs++[x],ι2,H2,cells++cs2,by simp [hx],by simp [hcl,hl2,Nat.add_mul],fun y hy=>?_,hle.trans hle2,hS2,hHl.trans hHl2,?_,fun i y hy=>?_⟩
       ·rcases List.mem_append.1 hy with hy | hy
        ·exact hwf y hy
        ·simp at hy;subst hy;exact hwx
       ·have hcat : (c.toList.drop a.off).take ((k+1) * e.size)=(c.toList.drop a.off).take (k * e.size)++(c.toList.drop (a.off+k * e.size)).take e.size:=by
         rw [Nat.add_mul,Nat.one_mul,List.take_add,List.drop_drop]
        rw [hcat]
        exact (hrv.mono hle2).append hrv2
       ·rcases Nat.lt_or_ge i k with hi | hi
        ·rw [List.getElem?_append_left (by omega)] at hy
         have hle : (i+1) * e.size≤k * e.size:=Nat.mul_le_mul_right _ (by omega)
         rw [Nat.add_mul] at hle
         rw [List.drop_append_of_le_length (by omega),List.take_append_of_le_length (by simp;omega)]
         exact (hrd i y hy).mono e hHl2
        ·rw [List.getElem?_append_right (by omega)] at hy
         have hik : i=k:=by
          rcases Nat.lt_or_ge (i - xs.length) 1 with h | h
          ·omega
          ·rw [List.getElem?_eq_none (by simpa using h)] at hy;cases hy
         subst hik
         rw [hx,Nat.sub_self] at hy
         simp at hy;subst hy
         rw [List.drop_append_of_le_length (by omega),List.drop_eq_nil_of_le (by omega),List.nil_append,List.take_of_length_le (by omega)]
         exact hrd2
     obtain ⟨xs,ι1,H1,cells,hx,hcl,hwf,hle,hS1,hHl,hrv,hrd⟩:=key cap (Nat.le_refl _)
     have htot : a.off+cap * e.size≤c.size:=by
      obtain ⟨h,_⟩:=hrow (cap - 1) (by omega)
      rwa [show cap - 1+1=cap by omega] at h
     have hblk : a.block < W.heap.size:=(Array.getElem?_eq_some_iff.1 hb).1
     have hones : ∀ v∈cells,oneCell v=true:=by
      intro v hv
      obtain ⟨i,hi,rfl⟩:=List.getElem_of_mem hv
      have hq : i / e.size < cap:=Nat.div_lt_of_lt_mul (by rw [Nat.mul_comm,← hcl];exact hi)
      have:=Rd.ones e (hrd (i / e.size) xs[i / e.size] (List.getElem?_eq_getElem _)) cells[i]
      refine this (List.mem_iff_getElem?.2 ⟨i % e.size,?_⟩)
      have hmod:=Nat.mod_lt i (show e.size > 0 by omega)
      rw [List.getElem?_take,if_pos hmod,List.getElem?_drop,Nat.mul_comm,Nat.div_add_mod]
      exact List.getElem?_eq_getElem hi
     have hS2:=hS1.add (o:=.cells cells e.size false true) (l:=⟨a.block,a.off,a.off+cap * e.size,e.size,false⟩)
      ⟨_,c,el,fr,ZD _ _ _,rfl,rfl,hb,by simp [hcl],htot,by rw [hcl];exact hrv.mono (Jd hS1 _),by simp,fun _=>hblk,hones⟩
      (fun i oi li hi hw hl heq=>by
       have:=((hS1.obj i oi hi).newer hw li hl).1
       rw [heq] at this
       simp only at this
       omega)
      (fun b hb=>by cases hb) (fun h=>by cases h)
     refine ⟨(some (xs.take len,xs.drop len) : Option (List e.den × List e.den)),_,_,[.slice (some ⟨H1.length,0,none⟩) len cap],⟨fun x hx=>hwf x (List.mem_of_mem_take hx),fun x hx=>hwf x (List.mem_of_mem_drop hx),?_⟩,hle.trans (Jd hS1 _),hS2,hHl.trans (.app _ _),Y4 ?_,.inr ⟨H1.length,cells,?_,by simp,?_,fun i x hx=>?_⟩⟩
     ·simp;omega
     ·have : a=⟨a.block,a.off,none⟩:=by cases a;simp_all
      rw [this]
      exact .slc (l:=⟨a.block,a.off,a.off+cap * e.size,e.size,false⟩) (o:=0) (ZD _ _ _) hl (Nat.le_refl _) (fun _=>rfl) (by simp)
     ·simp [hx];omega
     ·simp [hx,hcl]
      rw [show min len cap+(cap - len)=cap by omega]
     ·rw [List.take_append_drop] at hx
      exact (hrd i x hx).mono e (.app _ _)
  ·cases hf
 | struct r ih=>
  refine ⟨fun {u fuel cs d ι H} hf h hS=>?_,fun hf=>by simp [Ty.fits] at hf⟩
  simp only [Ty.fits] at hf
  split at hf
  ·rename_i fs hu
   simp only [Bool.and_eq_true] at hf
   have hsz:=Nat.eq_of_beq_eq_true hf.2
   cases fuel with
   | zero=>simp [DataW.trod] at h
   | succ n=>
    unfold DataW.trod at h
    rw [hu] at h
    simp only at h
    split at h
    ·rename_i hlen
     obtain ⟨xs,hx,_⟩:=Option.map_eq_some_iff.1 h
     have hlen2 : cs.length=r.size:=by rw [hlen,hsz]
     refine ⟨?_,hlen2⟩
     have:=ih.2 (fuel:=n) (cs:=cs) (ι:=ι) (H:=H) hf.1 (fun f hfm=>?_) (by omega) hS
     ·rw [List.drop_zero] at this
      obtain ⟨x,ι',H',cs',h⟩:=this
      exact ⟨x,ι',H',cs',h⟩
     ·obtain ⟨i,hi⟩:=List.mem_iff_getElem?.1 hfm
      have h2:=mapM_some_get hx i f hi
      have hil : i < xs.length:=by
       rw [mapM_some_length hx];exact (List.getElem?_eq_some_iff.1 hi).1
      exact ⟨xs[i],by rw [h2];exact List.getElem?_eq_getElem hil⟩
    ·cases h
  ·cases hf
 | unit=>
  refine ⟨fun hf=>by simp [Ty.fits] at hf,fun {fs off fuel cs ι H} hf h hl hS=>?_⟩
  have : cs.drop off=[]:=List.drop_eq_nil_of_le (by simp [hl,Ty.size])
  rw [this]
  exact ⟨(),ι,H,[],trivial,.refl _,hS,.refl _,.nil,rfl⟩
 | pair f r ihf ihr=>
  refine ⟨fun hf=>by simp [Ty.fits] at hf,fun {fs off fuel cs ι H} hf h hl hS=>?_⟩
  cases fs with
  | nil=>simp [Ty.fits] at hf
  | cons fd fs=>
   simp only [Ty.fits,Bool.and_eq_true] at hf
   obtain ⟨⟨⟨h1,h2⟩,h3⟩,h4⟩:=hf
   have h2:=Nat.eq_of_beq_eq_true h2
   have h3:=Nat.eq_of_beq_eq_true h3
   obtain ⟨d,hd⟩:=h fd (by simp)
   rw [h2,h3] at hd
   obtain ⟨⟨x,ι1,H1,cs1,hwx,hle1,hS1,hHl1,hrv1,hrd1⟩,hl1⟩:=ihf.1 h1 hd hS
   have hl2 : cs.length=off+(f.size+r.size):=hl
   obtain ⟨y,ι2,H2,cs2,hwy,hle2,hS2,hHl2,hrv2,hrd2⟩:=ihr.2 (cs:=cs) h4 (fun g hg=>h g (by simp [hg])) (by omega) hS1
   have hc1 : cs1.length=f.size:=by rw [hrv1.1,hl1]
   refine ⟨(x,y),ι2,H2,cs1++cs2,⟨hwx,hwy⟩,hle1.trans hle2,hS2,hHl1.trans hHl2,?_,?_,?_⟩
   ·have : cs.drop off=(cs.drop off).take f.size++cs.drop (off+f.size):=by
     rw [← List.drop_drop,List.take_append_drop]
    rw [this]
    exact (hrv1.mono hle2).append hrv2
   ·rw [← hc1,List.take_left];exact hrd1.mono f hHl2
   ·rw [← hc1,List.drop_left];exact hrd2
end
end Go.Proofs.Ytfefblgkfdaekaa.A
namespace Go.Proofs.Ytfefblgkfdaekaa.A
set_option linter.unusedVariables false
set_option linter.unusedSimpArgs false
def Ty.val : Ty→List Value→Value
 | .struct _,cs=>.agg cs.toArray
 | _,cs=>cs.headD undef
def Ins : List Ty→Type
 | []=>Unit
 | t :: ts=>t.den × Ins ts
def ZbA : (ts : List Ty)→Ins ts→Prop
 | [],_=>True
 | t :: ts,(x,xs)=>t.wf x∧ZbA ts xs
def ZbE : (ts : List Ty)→Ins ts→Zb→List Value→Prop
 | [],_,_,vs=>vs=[]
 | t :: ts,(x,xs),H,vs=>∃ cs rest,vs=t.val cs :: rest∧cs.length=t.size∧Rd t x H cs∧ZbE ts xs H rest
def JU (P : Program) : List Ty→List TypeId→Bool
 | [],[]=>true
 | t :: ts,u :: us=>t.fits P (.inl u) && P.readableRec u && Nat.blt u P.types.size && JU P ts us
 | _,_=>false
theorem Zfl {n : Int} (h : (Lit.int .u8 n).wf=true) : 0≤n∧n≤255:=by simpa [Lit.wf,IntKind.min,IntKind.max,IntKind.signed,IntKind.bits] using h
section
variable {P : Program} {H0 : Type} {enc : TypeId × Value→H0} {W : World} {G base : Nat}
theorem ZcP {t : Ty} {u : TypeId} {v : Value} (hf : t.fits P (.inl u)=true) (hv : Value.okWide P W .any base u v) : t.val v.cells.toList=v:=by
 unfold Value.okWide at hv
 cases t with
 | struct r=>
  simp only [Ty.fits] at hf
  split at hf
  ·rename_i fs hu
   rw [hu] at hv
   obtain ⟨cs,rfl,_⟩:=hv
   simp [Ty.val,Value.cells]
  ·cases hf
 | unit=>simp [Ty.fits] at hf
 | pair f r=>simp [Ty.fits] at hf
 | _=>
  simp only [Ty.fits] at hf
  split at hf
  ·rename_i hu
   rw [hu] at hv
   simp only at hv
   cases v <;> first | rfl | (simp [Cell.okWide,hu,Cell.ok] at hv)
  ·cases hf
theorem ZeA {t : Ty} {u : TypeId} {ι : Nat→Option Loc} {cs : List Value} {v : Value} (hf : t.fits P (.inl u)=true) (hv : t.val v.cells.toList=v) (h : RVs ι cs v.cells.toList) (hl : cs.length=t.size) : RV ι (t.val cs) v:=by
 rw [← hv]
 cases t with
 | struct r=>exact .aggL h
 | unit=>simp [Ty.fits] at hf
 | pair f r=>simp [Ty.fits] at hf
 | _=>
  match cs,hl with
  | [c],_=>
   obtain ⟨c',r',he,hc,_⟩:=h.cons_inv
   rw [he];exact hc
theorem ZcH : ∀ (tys : List Ty) {ts : List TypeId} {vs : List Value} {ds : List (DataW H0)} {ps : List MemPlace} {ι : Nat→Option Loc} {H : Zb},JU P tys ts=true→
  DataW.TrodAll enc P W 0 (fun _=>true) true ts vs ds ps→(∀ (j : Nat) t v,ts[j]?=some t→vs[j]?=some v→Value.okWide P W .any base t v)→Sim G (b0 W) ι H W→
  ∃ xs ι' H' vs',ZbA tys xs∧Le ι ι'∧Sim G (b0 W) ι' H' W∧HLe H H'∧RVs ι' vs' vs∧ZbE tys xs H' vs'∧ds.length=tys.length
 | [],ts,vs,ds,ps,ι,H,hf,h,hv,hS=>by
  cases ts with
  | nil=>cases vs <;> cases ds <;> simp [DataW.TrodAll] at h <;> exact ⟨(),ι,H,[],trivial,.refl _,hS,.refl _,.nil,rfl,rfl⟩
  | cons=>simp [JU] at hf
 | t :: tys,ts,vs,ds,ps,ι,H,hf,h,hv,hS=>by
  cases ts with
  | nil=>simp [JU] at hf
  | cons u ts=>
   cases vs with
   | nil=>cases ds <;> simp [DataW.TrodAll] at h
   | cons v vs=>
    cases ds with
    | nil=>simp [DataW.TrodAll] at h
    | cons d ds=>
     obtain ⟨p,q,⟨fuel,h1⟩,h2,_⟩:=h
     simp only [JU,Bool.and_eq_true] at hf
     obtain ⟨⟨x,ι1,H1,cs1,hwx,hle1,hS1,hHl1,hrv1,hrd1⟩,hl1⟩:=(ZeX t).1 hf.1.1.1 h1 hS
     obtain ⟨xs,ι2,H2,vs2,hw2,hle2,hS2,hHl2,hrv2,hrd2,hl2⟩:=ZcH tys hf.2 h2 (fun j t' v' ht' hv'=>hv (j+1) t' v' (by simpa using ht') (by simpa using hv')) hS1
     have hval:=ZcP hf.1.1.1 (hv 0 u v rfl rfl)
     have hc1 : cs1.length=t.size:=by rw [hrv1.1,hl1]
     exact ⟨(x,xs),ι2,H2,t.val cs1 :: vs2,⟨hwx,hw2⟩,hle1.trans hle2,hS2,hHl1.trans hHl2,.cons ((ZeA hf.1.1.1 hval hrv1 hc1).mono hle2) hrv2,
      ⟨cs1,vs2,rfl,hc1,hrd1.mono t hHl2,hrd2⟩,by simp [hl2]⟩
def ι0 (G : Nat) : Nat→Option Loc:=fun g=>if g < G then some ⟨g,0,0,1,false⟩ else none
theorem Zfr : Sim G (b0 W) (ι0 G) (List.replicate G Zo.dead) W:=by
 have hd : ∀ (i : Nat) (o : Zo),(List.replicate G Zo.dead)[i]?=some o→o=.dead:=by
  intro i o h
  rw [List.getElem?_replicate] at h
  split at h
  ·exact (Option.some.inj h).symm
  ·cases h
 refine ⟨fun i o h=>?_,fun i j o1 o2 l1 l2 h1 _ w1=>?_,Nat.le_refl _,fun _ _=>rfl,fun i l h=>?_,fun g hg=>⟨⟨g,0,0,1,false⟩,by simp [ι0,hg],rfl,rfl⟩,⟨rfl,rfl,rfl⟩,fun b hb=>(by cases hb),fun j cs es nx l hj _=>by have:=hd j _ hj;cases this⟩
 ·rw [hd i o h];trivial
 ·rw [hd i o1 h1] at w1;simp [Zo.wr] at w1
 ·unfold ι0 at h
  split at h
  ·simpa using ‹i < G›
  ·cases h
theorem Wi {ts : List TypeId} (hl : laidOutB P=true) {W' : World} (hb : Go.RowKit.Below W.heap.size W W') : ∀ (tys : List Ty) {ts : List TypeId} {vs : List Value} {ds : List (DataW H0)} {ps : List MemPlace},JU P tys ts=true→
  DataW.TrodAll enc P W 0 (fun _=>true) true ts vs ds ps→(∀ x∈ps,x.block < W.heap.size)→DataW.TrodAll enc P W' 0 (fun b=>decide (b < W.heap.size)) true ts vs ds ps
 | [],ts,vs,ds,ps,hf,h,_=>by
  cases ts with
  | nil=>cases vs <;> cases ds <;> simp [DataW.TrodAll] at h ⊢ <;> exact h
  | cons=>simp [JU] at hf
 | t :: tys,ts,vs,ds,ps,hf,h,hlt=>by
  cases ts with
  | nil=>simp [JU] at hf
  | cons u ts=>
   cases vs with
   | nil=>cases ds <;> simp [DataW.TrodAll] at h
   | cons v vs=>
    cases ds with
    | nil=>simp [DataW.TrodAll] at h
    | cons d ds=>
     obtain ⟨p,q,h1,h2,rfl⟩:=h
     simp only [JU,Bool.and_eq_true] at hf
     exact ⟨p,q,Go.RowKit.Below.trod hl hf.1.1.2 (by simpa using hf.1.2) h1 hb (fun x hx=>hlt x (by simp [hx])),Wi (ts:=ts) hl hb tys hf.2 h2 (fun x hx=>hlt x (by simp [hx])),rfl⟩
theorem law_calls (hm : P.follows .mixedOrders=true) (hlo : laidOutB P=true) {prim : FuncId→Option (List Value→M Value)} {lvs : FuncId→List (Nat × List Nat)} {tys : List Ty} {g : FuncId} {fn : Func} {s : ChangeSpec} {args : Array Value} {ds gs : List (DataW H0)} {before : List MemPlace} {base : Nat} {tb : TypeId} {apart fresh handsOn : Bool}
  (hprim : ∀ (b : Zg) g m,prim g=some m→Kc P P.globals.size b g m)
  (hlaw : ∀ (xs : Ins tys) (H : Zb) (vs : List Value),ZbA tys xs→ZbE tys xs H vs→∃ n H',run P prim lvs n g vs H=some (.bool true,H'))
  (hfn : P.funcs[g]?=some fn) (hbody : fn.body.isNone=false) (hgy : g < JM) (hf : JU P tys fn.params.toList=true) (hres : fn.resultTypes=#[tb]) (htb : P.underlying tb=some .bool)
  (hvars : s.vars=[]) (hs : ∀ ds : List (DataW H0),ds.length=tys.length→s.fn H0 ds={ results:=[.lit (.bool true)],args:=ds })
  (hval : ∀ (j : Nat) t v,fn.params[j]?=some t→args[j]?=some v→Value.okWide P W .any base t v)
  (hW : DataW.Whole enc P fn.params.toList s.vars apart W args.toList ds gs before) :
  Calls P g args W fun e W'=>∃ v,e=.returned v∧s.post enc P fn apart fresh handsOn false W args v W':=by
 have hlt:=hW.lt
 obtain ⟨p,q,hA,hV,rfl,hfz,hnd⟩:=id hW
 rw [hvars] at hV
 obtain ⟨rfl,rfl⟩:=Go.ChangeShapes.trodVars_none hV
 obtain ⟨xs,ι,H,vs,hwf,hle,hS,hHl,hrv,hrd,hlen⟩:=ZcH (G:=P.globals.size) tys hf hA (fun j t v ht hv=>hval j t v (by simpa using ht) (by simpa using hv)) Zfr
 obtain ⟨n,H',hrun⟩:=hlaw xs H vs hwf hrd
 have hcc : ZaO P P.globals.size (b0 W) g (.bool true) vs H H':=by
  rcases WN hm hprim n (b0 W) g vs H _ H' hrun with ⟨_,hc | ⟨e,⟨fn',h1,_,h2,_⟩,_⟩⟩ | ⟨hno,_⟩
  ·exact hc
  ·rw [hfn] at h1;cases h1
   rw [hbody] at h2;cases h2
  ·exact absurd hgy (Nat.not_lt_of_le hno)
 obtain ⟨_,hc⟩:=hcc
 refine (hc ι W args.toList hS hrv).mono fun e W' ⟨ι1,v',hle1,he,hv',hS'⟩=>?_
 have:=hv'.bool_inv
 subst this
 refine ⟨_,he,?_⟩
 have hb : Go.RowKit.Below W.heap.size W W':=⟨hS'.rest.1,hS'.rest.2.1,hS'.rest.2.2,hS'.size,hS'.old⟩
 have hsp:=hs (ds++[]) (by simpa using hlen)
 refine ⟨ds,[],p++[],[],p++[],[],hW,?_,?_,?_,hb.frame _,fun h=>by cases h⟩
 ·rw [hsp,hres]
  exact Go.ChangeShapes.trodAll_mk1 (Go.RowKit.shut_bool htb true)
 ·rw [hsp,List.append_nil,List.append_nil]
  exact Wi (ts:=[]) hlo hb tys hf hA (fun x hx=>hlt x (by simpa using hx))
 ·rw [hsp,hvars];rfl
end
end Go.Proofs.Ytfefblgkfdaekaa.A

namespace Go.Proofs.Ytfefblgkfdaekaa.A
set_option linter.unusedVariables false
set_option linter.unusedSimpArgs false
theorem QZ {P : Program} {prim : FuncId→Option (List Value→M Value)} {lvs : FuncId→List (Nat × List Nat)} {g : FuncId} {fn : Func} {lv : List (Nat × List Nat)} {n : Nat} {args : List Value} (hp : prim g=none) (hl : lvs g=lv) (hf : P.funcs[g]?=some fn) (hc : Yh fn=true) (hy : Nat.blt g JM=true:=by rfl) :
  run P prim lvs (n+1) g args=Ju P (run P prim lvs n) fn lv args:=by
 simp only [run,hp,hf,hc,hy,cond_true,hl]
theorem K3 {body : List Value→M Out} {x : Out × Zb} : ∀ {n m : Nat} {vs : List Value} {H : Zb},JG body n vs H=some x→n≤m→JG body m vs H=some x
 | 0,_,_,_,h,_=>by cases h
 | n+1,0,_,_,_,hm=>by omega
 | n+1,m+1,vs,H,h,hm=>by
  simp only [JG] at h ⊢
  cases hb : body vs H with
  | none=>rw [hb] at h;cases h
  | some q=>
   obtain ⟨o,H'⟩:=q
   rw [hb] at h
   cases o with
   | nrm vs'=>exact K3 h (by omega)
   | ext j vs'=>exact h
   | ret v=>exact h
theorem Wp {body : List Value→M Out} {vs : List Value} {H : Zb} {x : Out × Zb} : Qb body vs H=some x↔∃ n,JG body n vs H=some x:=by
 constructor
 ·exact ZaD
 ·rintro ⟨n,hn⟩
  have hex : ∃ n,(JG body n vs H).isSome:=⟨n,by rw [hn];rfl⟩
  unfold Qb
  rw [dif_pos hex]
  have hc:=Classical.choose_spec hex
  obtain ⟨y,hy⟩:=Option.isSome_iff_exists.1 hc
  rw [hy]
  have h1:=K3 hn (Nat.le_max_left n (Classical.choose hex))
  have h2:=K3 hy (Nat.le_max_right n (Classical.choose hex))
  rw [h1] at h2;exact h2.symm
theorem Zap (body : List Value→M Out) (vs : List Value) (H : Zb) : Qb body vs H=
  match body vs H with
  | none=>none
  | some (.nrm vs',H')=>Qb body vs' H'
  | some (o,H')=>some (o,H'):=by
 apply Option.ext
 intro x
 rw [show (Qb body vs H=some x)=(∃ n,JG body n vs H=some x) from propext Wp]
 constructor
 ·rintro ⟨n,hn⟩
  cases n with
  | zero=>cases hn
  | succ n=>
   simp only [JG] at hn
   cases hb : body vs H with
   | none=>rw [hb] at hn;cases hn
   | some q=>
    obtain ⟨o,H'⟩:=q
    rw [hb] at hn
    cases o with
    | nrm vs'=>exact Wp.2 ⟨n,hn⟩
    | ext j vs'=>exact hn
    | ret v=>exact hn
 ·intro h
  cases hb : body vs H with
  | none=>rw [hb] at h;cases h
  | some q=>
   obtain ⟨o,H'⟩:=q
   rw [hb] at h
   cases o with
   | nrm vs'=>
    obtain ⟨n,hn⟩:=Wp.1 h
    exact ⟨n+1,by simp only [JG,hb];exact hn⟩
   | ext j vs'=>exact ⟨1,by simp only [JG,hb];exact h⟩
   | ret v=>exact ⟨1,by simp only [JG,hb];exact h⟩
theorem Za {α β : Type} {m : M α} {k : α→M β} {H H' : Zb} {a : α} (h : m H=some (a,H')) : bind m k H=k a H':=by
 simp only [bind,h]
theorem YI {body : List Value→M Out} {vs vs' : List Value} {H H' : Zb} (h : body vs H=some (.nrm vs',H')) : Qb body vs H=Qb body vs' H':=by
 rw [Zap,h]
theorem YA {body : List Value→M Out} {vs vs' : List Value} {j : Nat} {H H' : Zb} (h : body vs H=some (.ext j vs',H')) : Qb body vs H=some (.ext j vs',H'):=by
 rw [Zap,h]
theorem Zcb {body : List Value→M Out} {vs : List Value} {v : Value} {H H' : Zb} (h : body vs H=some (.ret v,H')) : Qb body vs H=some (.ret v,H'):=by
 rw [Zap,h]
theorem Zr {β : Type} (v : Value) (m : M β) : same v v m=m:=by
 funext H;simp [same]
theorem Yu {β : Type} {m : M Out} {kn : List Value→M β} {kx : Nat→List Value→M β} {kr : Value→M β} {H H' : Zb} {vs : List Value} (h : m H=some (.nrm vs,H')) : jn m kn kx kr H=kn vs H':=by
 simp only [jn,bind,h]
theorem WH {β : Type} {m : M Out} {kn : List Value→M β} {kx : Nat→List Value→M β} {kr : Value→M β} {H H' : Zb} {j : Nat} {vs : List Value} (h : m H=some (.ext j vs,H')) : jn m kn kx kr H=kx j vs H':=by
 simp only [jn,bind,h]
end Go.Proofs.Ytfefblgkfdaekaa.A
namespace Go.Proofs.Ytfefblgkfdaekaa.A
set_option linter.unusedVariables false
set_option linter.unusedSimpArgs false
theorem w64 {n : Int} (h1 : -9223372036854775808≤n) (h2 : n≤9223372036854775807) : IntKind.i64.wrap n=n:=by
 have e : IntKind.i64.wrap n=if (n % 18446744073709551616 : Int)≥9223372036854775808 then n % 18446744073709551616 - 18446744073709551616 else n % 18446744073709551616:=by
  simp [IntKind.wrap,IntKind.bits,IntKind.signed]
 rw [e]
 split <;> omega
section
variable {β : Type} {H : Zb} {id o es n : Nat} {cs : List Value} {g ro : Bool} {v x y : Value} {k : Value→M β}
theorem KS {α : Type} {a : α} {k : α→M β} : bind (ret a) k H=k a H:=rfl
section
variable {p : IntKind} {a b : Int}
end
theorem QU {t : Bool} {m : M Value} : bind (Z0 (.bool t) t m) k H=bind m k H:=by simp [Z0]
theorem ZaY {t : Bool} {m : M (List Value)} {k : List Value→M β} : bind (JJ (.bool t) t n m) k H=bind m k H:=by simp [JJ]
end
theorem Jk {H : Zb} {id : Nat} {a b : Zo} (h : H[id]?=some a) : (H.set id b)[id]?=some b:=
 List.getElem?_set_self (List.getElem?_eq_some_iff.1 h).1
theorem Zdd {H : Zb} {id j : Nat} {b : Zo} (h : id≠j) : (H.set id b)[j]?=H[j]?:=List.getElem?_set_ne h
theorem Yp {H l : Zb} {id : Nat} {a : Zo} (h : H[id]?=some a) : (H++l)[id]?=some a:=by
 rw [List.getElem?_append_left (List.getElem?_eq_some_iff.1 h).1];exact h
theorem QK {H : Zb} {a : Zo} : (H++[a])[H.length]?=some a:=by simp
end Go.Proofs.Ytfefblgkfdaekaa.A
namespace Go.Proofs.Ytfefblgkfdaekaa.A
set_option linter.unusedVariables false
set_option linter.unusedSimpArgs false
def ZbW {α β : Type} (x : Option (α × Zb)) (k : α→M β) : Option (β × Zb):=
 match x with
 | none=>none
 | some (a,H)=>k a H
def Zaq {β : Type} (x : Option (Out × Zb)) (kn : List Value→M β) (kx : Nat→List Value→M β) (kr : Value→M β) : Option (β × Zb):=
 match x with
 | none=>none
 | some (.nrm vs,H)=>kn vs H
 | some (.ext j vs,H)=>kx j vs H
 | some (.ret v,H)=>kr v H
def rdk (o : Option Zo) (i : Nat) (H : Zb) : Option (Value × Zb):=
 match o with
 | some (.cells cs _ _ _)=>(cs[i]?).map (·,H)
 | some (.view cs _ nx)=>match H[nx]? with
  | some (.cells ds _ _ false)=>bif YR cs ds then (cs[i]?).map (·,H) else none
  | _=>none
 | _=>none
def Zeb (o : Option Zo) (i n : Nat) (H : Zb) : Option (Value × Zb):=
 match o with
 | some (.cells cs _ _ _)=>if i+n≤cs.length then some (.agg ((cs.drop i).take n).toArray,H) else none
 | _=>none
def wrk (o : Option Zo) (id i : Nat) (v : Value) (H : Zb) : Option (Value × Zb):=
 match o with
 | some (.cells cs es g false)=>if i < cs.length∧oneCell v then some (undef,H.set id (.cells (cs.set i v) es g false)) else none
 | _=>none
def Zel (o : Option Zo) (id i n : Nat) (vs : Array Value) (H : Zb) : Option (Value × Zb):=
 match o with
 | some (.cells cs es g false)=>if i+n≤cs.length∧vs.size=n∧vs.toList.all oneCell then some (undef,H.set id (.cells (splice cs vs.toList i) es g false)) else none
 | _=>none
section
variable {α β : Type} {k : α→M β} {H : Zb}
theorem Zm {m : M α} : bind m k H=ZbW (m H) k:=by unfold bind ZbW;rfl
@[congr] theorem Zfj {x x' : Option (α × Zb)} {k : α→M β} (h : x=x') : ZbW x k=ZbW x' k:=by rw [h]
theorem Zn {a : α} : ZbW (some (a,H)) k=k a H:=rfl
theorem ZH {m : M Out} {kn : List Value→M β} {kx : Nat→List Value→M β} {kr : Value→M β} : jn m kn kx kr H=Zaq (m H) kn kx kr:=by
 unfold jn bind Zaq
 cases m H with
 | none=>rfl
 | some p=>obtain ⟨o,H'⟩:=p;cases o <;> rfl
@[congr] theorem Zfk {x x' : Option (Out × Zb)} {kn : List Value→M β} {kx : Nat→List Value→M β} {kr : Value→M β} (h : x=x') : Zaq x kn kx kr=Zaq x' kn kx kr:=by rw [h]
section
variable {kn : List Value→M β} {kx : Nat→List Value→M β} {kr : Value→M β}
theorem Zx {vs : List Value} : Zaq (some (.nrm vs,H)) kn kx kr=kn vs H:=rfl
theorem Zv {j : Nat} {vs : List Value} : Zaq (some (.ext j vs,H)) kn kx kr=kx j vs H:=rfl
theorem Zu {v : Value} : Zaq (some (.ret v,H)) kn kx kr=kr v H:=rfl
end
theorem Zj {t : Bool} {a b : M β} : cnd (.bool t) a b H=if t=true then a H else b H:=by cases t <;> rfl
theorem QG {a : α} : ret a H=some (a,H):=rfl
end
section
variable {H : Zb} {id o : Nat}
theorem ZR {a : Addr} : YS (.pointer (some a)) H=some (.pointer (some a),H):=rfl
theorem QX {off : Nat} : fa off (.pointer (some ⟨id,o,none⟩)) H=some (.pointer (some ⟨id,o+off,none⟩),H):=rfl
theorem ZB : ld1 (.pointer (some ⟨id,o,none⟩)) H=rdk H[id]? o H:=by unfold ld1 rdk;rfl
theorem Z1 {n : Nat} : ldA n (.pointer (some ⟨id,o,none⟩)) H=Zeb H[id]? o n H:=by unfold ldA Zeb;rfl
theorem ZC {v : Value} : st1 (.pointer (some ⟨id,o,none⟩)) v H=wrk H[id]? id o v H:=by unfold st1 wrk;rfl
theorem Z2 {n : Nat} {vs : Array Value} : stA n (.pointer (some ⟨id,o,none⟩)) (.agg vs) H=Zel H[id]? id o n vs H:=by unfold stA Zel;rfl
theorem Qe {cs : List Value} {es : Nat} {g ro : Bool} {i : Nat} : rdk (some (.cells cs es g ro)) i H=(cs[i]?).map (·,H):=rfl
theorem ZE {cs : List Value} {es n : Nat} {g ro : Bool} {i : Nat} : Zeb (some (.cells cs es g ro)) i n H=if i+n≤cs.length then some (.agg ((cs.drop i).take n).toArray,H) else none:=rfl
theorem Qp {cs : List Value} {es : Nat} {g : Bool} {i : Nat} {v : Value} : wrk (some (.cells cs es g false)) id i v H=if i < cs.length∧oneCell v then some (undef,H.set id (.cells (cs.set i v) es g false)) else none:=rfl
theorem ZK {cs : List Value} {es n : Nat} {g : Bool} {i : Nat} {vs : Array Value} : Zel (some (.cells cs es g false)) id i n vs H=
  if i+n≤cs.length∧vs.size=n∧vs.toList.all oneCell then some (undef,H.set id (.cells (splice cs vs.toList i) es g false)) else none:=rfl
theorem Qi {es : Nat} {v : Value} : alc es v H=if v.cells.toList.all oneCell then some (.pointer (some ⟨H.length,0,none⟩),H++[.cells v.cells.toList es false false]) else none:=rfl
theorem ZY {a : Option Addr} {n c : Nat} : KA (.slice a n c) H=some (.int .i64 n,H):=rfl
theorem ZT {s : ByteArray} : Zbf (.string s) H=some (.int .i64 s.size,H):=rfl
theorem Qs {q p : IntKind} {n : Int} : cvi q (.int p n) H=some (.int q (q.wrap n),H):=rfl
theorem Zt {t : Bool} {x y : Value} : pick (.bool t) x y H=some (bif t then x else y,H):=rfl
theorem Z7 {t : Bool} : uop .not (.bool t) H=some (.bool (!t),H):=rfl
theorem Q4 {p : IntKind} {a b : Int} : mxi true (.int p a) (.int p b) H=some (.int p (if b > a then b else a),H):=rfl
theorem Q1 {p : IntKind} {a b : Int} : mxi false (.int p a) (.int p b) H=some (.int p (if b < a then b else a),H):=rfl
theorem Z6 {n c sz : Nat} {q : IntKind} {i : Int} : ixa sz (.slice (some ⟨id,o,none⟩) n c) (.int q i) H=if 0≤i∧i < n then some (.pointer (some ⟨id,o+i.toNat * sz,none⟩),H) else none:=rfl
theorem ZS {n sz : Nat} {q : IntKind} {i : Int} : J3 n sz (.pointer (some ⟨id,o,none⟩)) (.int q i) H=if 0≤i∧i < n then some (.pointer (some ⟨id,o+i.toNat * sz,none⟩),H) else none:=rfl
theorem QD {z : Value} {ps : List (Nat × Nat × Value)} : bld z ps H=(KC z.cells.toList ps).map fun cs=>(.agg cs.toArray,H):=rfl
section
variable {p : IntKind} {a b : Int}
theorem ZU : bop .int .add (.int p a) (.int p b) H=some (.int p (p.wrap (a+b)),H):=by simp [bop,Q0]
theorem Qw : bop .int .sub (.int p a) (.int p b) H=some (.int p (p.wrap (a - b)),H):=by simp [bop,Q0]
theorem QC : bop .int .mul (.int p a) (.int p b) H=some (.int p (p.wrap (a * b)),H):=by simp [bop,Q0]
theorem QA : bop .int .quo (.int p a) (.int p b) H=if b=0 then none else some (.int p (p.wrap (a.tdiv b)),H):=by
 by_cases h : b=0
 ·simp [bop,Q0,h]
 ·have e : (b==0)=false:=by simpa using h
  simp [bop,Q0,h,e]
theorem Qn : bop .int .rem (.int p a) (.int p b) H=if b=0 then none else some (.int p (a.tmod b),H):=by
 by_cases h : b=0
 ·simp [bop,Q0,h]
 ·have e : (b==0)=false:=by simpa using h
  simp [bop,Q0,h,e]
theorem Qj : bop .int .eql (.int p a) (.int p b) H=some (.bool (a==b),H):=by simp [bop,Q0]
theorem Z5 : bop .int .neq (.int p a) (.int p b) H=some (.bool (a !=b),H):=by simp [bop,Q0]
theorem ZN : bop .int .lss (.int p a) (.int p b) H=some (.bool (decide (a < b)),H):=by simp [bop,Q0]
theorem Qu : bop .int .leq (.int p a) (.int p b) H=some (.bool (decide (a≤b)),H):=by simp [bop,Q0]
theorem Qk : bop .int .gtr (.int p a) (.int p b) H=some (.bool (decide (a > b)),H):=by simp [bop,Q0]
theorem Qr : bop .int .geq (.int p a) (.int p b) H=some (.bool (decide (a≥b)),H):=by simp [bop,Q0]
end
theorem Qx {a b : Bool} : bop .bool .eql (.bool a) (.bool b) H=some (.bool (a==b),H):=by simp [bop,eqv]
theorem Qo {a b : Bool} : bop .bool .neq (.bool a) (.bool b) H=some (.bool (!(a==b)),H):=by simp [bop,eqv]
theorem QF {a : Addr} : bop .ptr .eql (.pointer (some a)) (.pointer none) H=some (.bool false,H):=by simp [bop,eqv]
theorem QH {a : Addr} : bop .ptr .neq (.pointer (some a)) (.pointer none) H=some (.bool true,H):=by simp [bop,eqv]
theorem Ja {t u : Bool} {m : M Value} : Z0 (.bool t) u m H=if t=u then m H else some (J4,H):=by
 cases t <;> cases u <;> rfl
theorem QE {u : Bool} {m : M Value} : Z0 J4 u m H=some (J4,H):=rfl
theorem g_r {t u : Bool} {n : Nat} {m : M (List Value)} : JJ (.bool t) u n m H=if t=u then m H else some (List.replicate n J4,H):=by
 cases t <;> cases u <;> rfl
theorem Q3 {u : Bool} {n : Nat} {m : M (List Value)} : JJ J4 u n m H=some (List.replicate n J4,H):=rfl
end
end Go.Proofs.Ytfefblgkfdaekaa.A
namespace Go.Proofs.Ytfefblgkfdaekaa.A
set_option linter.unusedVariables false
set_option linter.unusedSimpArgs false
def WM (k : IntKind) (args : List Value) : M Value:=fun H=>
 match args with
 | [p]=>match ld1 p H with
  | some (.int k' n,_)=>if k'=k then some (.int k n,H) else none
  | _=>none
 | _=>none
def KN (args : List Value) : M Value:=fun H=>
 match args with
 | [p,.int k n]=>match st1 p (.int k n) H with
  | some (_,H1)=>some (.tuple #[],H1)
  | none=>none
 | _=>none
def ZaR (k : IntKind) (args : List Value) : M Value:=fun H=>
 match args with
 | [p,.int _ y]=>match ld1 p H with
  | some (.int k' n,_)=>if k'=k then (match st1 p (.int k (k.wrap (n+y))) H with
   | some (_,H1)=>some (.int k (k.wrap (n+y)),H1)
   | none=>none) else none
  | _=>none
 | _=>none
def WZ (k : IntKind) (args : List Value) : M Value:=fun H=>
 match args with
 | [p,.int _ o,.int k2 y]=>match ld1 p H with
  | some (.int k' n,_)=>if k'=k then (match st1 p (.int k2 y) H with
   | some (_,H1)=>if n=o then some (.bool true,H1) else some (.bool false,H)
   | none=>none) else none
  | _=>none
 | _=>none
section
variable {P : Program} {G : Nat} {w0 : Zg} {ι : Nat→Option Loc} {H H1 : Zb} {w : World} {v : Value}
theorem Zat (hS : Sim G w0 ι H w) {x x' : Value} {k : IntKind} {n : Int} (hx : RV ι x x') (h : ld1 x H=some (.int k n,H1)) :
  ∃ a,x'=.pointer (some a)∧w.cell? a=some (.int k n):=by
 unfold ld1 at h
 split at h
 ·split at h
  ·rename_i id o _ cs es g ro hid
   simp only [Option.map_eq_some_iff,Prod.mk.injEq] at h
   obtain ⟨u,hu,rfl,rfl⟩:=h
   obtain ⟨l,hl,rfl⟩:=hx.ptr_inv
   obtain ⟨c,el,fr,_,_,hb,_,_,hr,_⟩:=hS.cellsR hid hl
   have ho : o < cs.length:=by
    rcases Nat.lt_or_ge o cs.length with h | h
    ·exact h
    ·rw [List.getElem?_eq_none h] at hu;cases hu
   obtain ⟨u',hu',hru⟩:=hr.at ho
   have : cs.getD o undef=.int k n:=by simp [List.getD_eq_getElem?_getD,hu]
   rw [this] at hru
   exact ⟨_,rfl,by rw [YX hb,hu',hru.int_inv]⟩
  ·rename_i id o _ cs es nx hid
   split at h
   ·rename_i ds es2 g2 hnx
    cases hh : YR cs ds with
    | false=>rw [hh] at h;cases h
    | true=>
     rw [hh] at h
     simp only [cond_true,Option.map_eq_some_iff,Prod.mk.injEq] at h
     obtain ⟨u,hu,rfl,rfl⟩:=h
     obtain ⟨l,hl,rfl⟩:=hx.ptr_inv
     have ho : o < cs.length:=by
      rcases Nat.lt_or_ge o cs.length with h | h
      ·exact h
      ·rw [List.getElem?_eq_none h] at hu;cases hu
     rcases hS.views id cs es nx l hid hl with ⟨l',k1,k2,k3⟩ | ⟨⟨c,el,fr,hb,_,hr⟩,_⟩
     ·obtain ⟨c,el,fr,_,_,hb,_,_,hr,_⟩:=hS.cellsR hnx k1
      have hd:=K4 hh hu
      have ho2 : o < ds.length:=by
       rcases Nat.lt_or_ge o ds.length with h | h
       ·exact h
       ·rw [List.getElem?_eq_none h] at hd;cases hd
      obtain ⟨u',hu',hru⟩:=hr.at ho2
      have : ds.getD o undef=.int k n:=by simp [List.getD_eq_getElem?_getD,hd]
      rw [this] at hru
      rw [k2] at hb
      rw [k3] at hu'
      exact ⟨_,rfl,by rw [YX hb,hu',hru.int_inv]⟩
     ·obtain ⟨u',hu',hru⟩:=hr.at ho
      have : cs.getD o undef=.int k n:=by simp [List.getD_eq_getElem?_getD,hu]
      rw [this] at hru
      exact ⟨_,rfl,by rw [YX hb,hu',hru.int_inv]⟩
   ·cases h
  ·cases h
 ·cases h
theorem Zax (P : Program) (hS : Sim G w0 ι H w) {x x' : Value} {k : IntKind} {n : Int} (hx : RV ι x x') (h : st1 x (.int k n) H=some (v,H1)) :
  ∃ a u,x'=.pointer (some a)∧w.cell? a=some u∧w.frozen? a=false∧Sim G w0 ι H1 (w.setCell a (.int k n)):=by
 unfold st1 at h
 split at h
 ·split at h
  ·rename_i id o _ cs es g hid
   split at h
   ·rename_i hc
    cases h
    obtain ⟨l,hl,rfl⟩:=hx.ptr_inv
    obtain ⟨c,el,fr,_,_,hb,h5,h6,hr,h7,_⟩:=hS.cellsR hid hl
    obtain ⟨w1,hw1,hS1⟩:=hS.store (P:=P) hid hl (new:=[.int k n]) (new':=[.int k n]) (o:=o) (by simp;omega) (.cons (.sc rfl) .nil) (by simpa using hc.2)
    have hlt : l.base+o < c.size:=by omega
    have hfz : w.frozen? ⟨l.blk,l.base+o,none⟩=false:=by
     have:=(h7 rfl).2.1.not (i:=l.base+o) (by omega)
     simp only [World.frozen?,hb]
     simp only [Bool.and_eq_false_iff,decide_eq_false_iff_not]
     omega
    refine ⟨_,_,rfl,by rw [YX hb];exact Array.getElem?_eq_getElem hlt,hfz,?_⟩
    rw [KW hc.1] at hS1
    have hst:=K2 (P:=P) [.int k n] 0 (l.base+o) c w hb (by simp;omega) (by simp [Value.oneCell']) (fun j hj1 hj2=>(h7 rfl).2.1.not (by simp at hj2;omega))
    rw [hw1] at hst
    have hw : w1=QP w l.blk (.cells (JN c [.int k n] (l.base+o+0)) el fr):=by injection hst
    rw [ZaW hb]
    rw [hw] at hS1
    have : JN c [.int k n] (l.base+o+0)=c.setIfInBounds (l.base+o) (.int k n):=by
     unfold JN
     rw [Nat.add_zero,KW (by simpa using hlt)]
     apply Array.ext';simp
    rwa [this] at hS1
   ·cases h
  ·cases h
 ·cases h
theorem ZbZ {g : FuncId} {k : IntKind} (he : KJ P g (Extern.Atomic.loadT (.int k))) : Kc P G w0 g (WM k):=by
 intro args H v H1 h
 refine .inr ⟨_,he,fun ι w args' hS hr=>?_⟩
 unfold WM at h
 split at h
 ·split at h
  ·rename_i p k' n H2 hp
   split at h
   ·rename_i hk
    subst hk
    cases h
    obtain ⟨p',r',rfl,hp',hr'⟩:=hr.cons_inv
    have:=hr'.nil_inv;subst this
    obtain ⟨a,rfl,hc⟩:=Zat hS hp' hp
    refine ⟨ι,.int k' n,w,.refl ι,hS,.sc rfl,?_⟩
    change (Sem.run P (do Extern.Atomic.read (.int k') (← asAddr (.pointer (some a)))) w)=_
    simp [Extern.Atomic.read,asAddr,hc,Result.andThen]
   ·cases h
  ·cases h
 ·cases h
theorem Zbz {g : FuncId} (he : KJ P g Extern.Atomic.storeT) : Kc P G w0 g KN:=by
 intro args H v H1 h
 refine .inr ⟨_,he,fun ι w args' hS hr=>?_⟩
 unfold KN at h
 split at h
 ·split at h
  ·rename_i p k n _ x H2 hp
   cases h
   obtain ⟨p',r',rfl,hp',hr'⟩:=hr.cons_inv
   obtain ⟨y',r2,rfl,hy',hr2⟩:=hr'.cons_inv
   have:=hr2.nil_inv;subst this
   have:=hy'.int_inv;subst this
   obtain ⟨a,u,rfl,hc,hz,hS1⟩:=Zax P hS hp' hp
   refine ⟨ι,.tuple #[],_,.refl ι,hS1,.un,?_⟩
   change (Sem.run P (do
    store (← asAddr (.pointer (some a))) (.int k n) .atomic
    pure Extern.Atomic.none_) w)=_
   simp [asAddr,hc,hz,run_store P w a (.int k n) .atomic rfl,Result.andThen,Extern.Atomic.none_]
  ·cases h
 ·cases h
theorem Zck {g : FuncId} {k : IntKind} (he : KJ P g (Extern.Atomic.update (Op.intArith .add) k true)) : Kc P G w0 g (ZaR k):=by
 intro args H v H1 h
 refine .inr ⟨_,he,fun ι w args' hS hr=>?_⟩
 unfold ZaR at h
 split at h
 ·split at h
  ·rename_i p k0 y _ k' n H2 hp
   split at h
   ·rename_i hk
    subst hk
    split at h
    ·rename_i x H3 hst
     cases h
     obtain ⟨p',r',rfl,hp',hr'⟩:=hr.cons_inv
     obtain ⟨y',r2,rfl,hy',hr2⟩:=hr'.cons_inv
     have:=hr2.nil_inv;subst this
     have:=hy'.int_inv;subst this
     obtain ⟨a,rfl,hc⟩:=Zat hS hp' hp
     obtain ⟨a2,u,e,hc2,hz,hS1⟩:=Zax P hS hp' hst
     cases e
     refine ⟨ι,_,_,.refl ι,hS1,.sc rfl,?_⟩
     change (Sem.run P (do
      let a' ← asAddr (.pointer (some a))
      let old ← Extern.Atomic.read (.int k') a'
      let new ← Op.intArith .add k' (← asInt old) (← asInt (.int k0 y))
      store a' new .atomic
      pure (if true=true then new else old)) w)=_
     simp [Extern.Atomic.read,asAddr,asInt,asIntOf,hc,hz,Op.intArith,run_store P w a (.int k' (k'.wrap (n+y))) .atomic rfl,Result.andThen]
    ·cases h
   ·cases h
  ·cases h
 ·cases h
theorem Zcq {g : FuncId} {k : IntKind} (he : KJ P g (Extern.Atomic.casT (.int k))) : Kc P G w0 g (WZ k):=by
 intro args H v H1 h
 refine .inr ⟨_,he,fun ι w args' hS hr=>?_⟩
 unfold WZ at h
 split at h
 ·split at h
  ·rename_i p k0 o k2 y _ k' n H2 hp
   split at h
   ·rename_i hk
    subst hk
    split at h
    ·rename_i x H3 hst
     obtain ⟨p',r',rfl,hp',hr'⟩:=hr.cons_inv
     obtain ⟨o',r2,rfl,ho',hr2⟩:=hr'.cons_inv
     obtain ⟨y',r3,rfl,hy',hr3⟩:=hr2.cons_inv
     have:=hr3.nil_inv;subst this
     have:=ho'.int_inv;subst this
     have:=hy'.int_inv;subst this
     obtain ⟨a,rfl,hc⟩:=Zat hS hp' hp
     obtain ⟨a2,u,e,hc2,hz,hS1⟩:=Zax P hS hp' hst
     cases e
     have key : ((Extern.Atomic.casT (.int k')) #[.pointer (some a),.int k0 o,.int k2 y]).run P w=(Sem.run P (do
      let a' ← asAddr (.pointer (some a))
      if ← Extern.Atomic.touchesFrozen a' then unsupported (.unsafePointer "a write to bytes that a string shares")
      let eq ← match Extern.Atomic.T.int k',← Extern.Atomic.read (.int k') a',Value.int k0 o with
       | _,.int _ x,.int _ y=>pure (x==y)
       | .ptr,.pointer x,.pointer y=>samePointer x y
       | .int _,.pointer (some _),.int _ 0 | .int _,.int _ 0,.pointer (some _)=>pure false
       | .int _,.pointer (some _),_ | .int _,_,.pointer (some _)=>unsupported .addressObserved
       | _, _, _ => stuck "atomic.CompareAndSwap: old is no T"
      if eq then store a' (.int k2 y) .atomic
      pure (Value.bool eq)) w):=rfl
     split at h
     ·rename_i hno
      cases h
      subst hno
      refine ⟨ι,.bool true,_,.refl ι,hS1,.sc rfl,?_⟩
      rw [key]
      simp [Extern.Atomic.touchesFrozen,Extern.Atomic.read,asAddr,viewAt,World.shape?_isSome_of_cell? hc,hc,hz,run_store P w a (.int k2 y) .atomic rfl,Result.andThen]
     ·rename_i hno
      cases h
      refine ⟨ι,.bool false,_,.refl ι,hS,.sc rfl,?_⟩
      rw [key]
      simp [Extern.Atomic.touchesFrozen,Extern.Atomic.read,asAddr,viewAt,World.shape?_isSome_of_cell? hc,hc,hz,hno,Result.andThen]
    ·cases h
   ·cases h
  ·cases h
 ·cases h
end
end Go.Proofs.Ytfefblgkfdaekaa.A
namespace Go.Proofs.Ytfefblgkfdaekaa.A
set_option linter.unusedVariables false
set_option linter.unusedSimpArgs false
abbrev iv (n : Int) : Value:=.int .i64 n
abbrev pa (id o : Nat) : Value:=.pointer (some ⟨id,o,none⟩)
abbrev pt (id : Nat) : Value:=.pointer (some ⟨id,0,none⟩)
def But (id : Nat) (H H' : Zb) : Prop:=∀ j,j≠id→H'[j]?=H[j]?
theorem But.set {id : Nat} {H : Zb} {o : Zo} : But id H (H.set id o):=fun j hj=>List.getElem?_set_ne (Ne.symm hj)
theorem ZcK {H : Zb} {a b : Zo} : (H++[a]).set H.length b=H++[b]:=by simp
theorem ZA {a b : Value} {H : Zb} : Jp (.tuple #[a,b]) 0 H=some (a,H):=rfl
theorem Zz {a b : Value} {H : Zb} : Jp (.tuple #[a,b]) 1 H=some (b,H):=rfl
theorem fetch {β : Type} {k : Value→M β} {sz lid n c i es : Nat} {g ro : Bool} {zs cells xs : List Value} {H : Zb} (h : H[lid]?=some (.cells cells es g ro)) (hi : i < n) (hx : (cells.drop (i * sz)).take sz=xs) (hl : i * sz+sz≤cells.length)
  (hz : zs.length=sz) (hz1 : zs.all oneCell=true) (h1 : xs.all oneCell=true) :
  bind (ixa sz (.slice (some ⟨lid,0,none⟩) n c) (iv i)) (fun p=>bind (ldA sz p) fun v=>bind (alc 1 (.agg zs.toArray)) fun q=>bind (stA sz q v) fun _=>k q) H=k (pt H.length) (H++[.cells xs 1 false false]):=by
 have hxl : xs.length=sz:=by rw [← hx];simp;omega
 have e1 : ixa sz (.slice (some ⟨lid,0,none⟩) n c) (iv i) H=some (.pointer (some ⟨lid,i * sz,none⟩),H):=by
  rw [Z6,if_pos (by omega)];simp
 have e2 : ldA sz (.pointer (some ⟨lid,i * sz,none⟩)) H=some (.agg xs.toArray,H):=by
  rw [Z1,h,ZE,if_pos hl,hx]
 have e3 : alc 1 (.agg zs.toArray) H=some (pt H.length,H++[.cells zs 1 false false]):=by
  rw [Qi];simp only [Value.cells,List.all_eq_true] at *;rw [if_pos (by simpa using hz1)]
 have e4 : stA sz (pt H.length) (.agg xs.toArray) (H++[.cells zs 1 false false])=some (undef,H++[.cells xs 1 false false]):=by
  rw [Z2,QK,ZK,if_pos ⟨by omega,by simpa using hxl,by simpa using h1⟩]
  have : splice zs xs.toArray.toList 0=xs:=by unfold splice;simp [List.drop_eq_nil_of_le (show zs.length≤xs.length by omega)]
  rw [this]
  simp
 rw [Za e1,Za e2,Za e3,Za e4]
theorem Ze4 {e : Ty} {x : (Ty.slc e).den} {H : Zb} {cs : List Value} (h : Rd (.slc e) x H cs) :
  cs=[.slice none 0 0]∨cs=[.slice (some ⟨0,0,some 1⟩) 0 0]∨∃ (l : List e.den) (n c id : Nat) (cells : List Value),cs=[.slice (some ⟨id,0,none⟩) n c]∧n≤l.length∧H[id]?=some (.cells cells e.size false true)∧cells.length=l.length * e.size∧
   (∀ i x,l[i]?=some x→Rd e x H ((cells.drop (i * e.size)).take e.size))∧(∃ a b,x=some (a,b)∧l=a++b∧n=a.length):=by
 cases x with
 | none=>exact .inl h
 | some p=>
  obtain ⟨a,b⟩:=p
  rcases h with ⟨_,_,h⟩ | ⟨id,cells,h1,h2,h3,h4⟩
  ·exact .inr (.inl h)
  ·exact .inr (.inr ⟨a++b,a.length,_,id,cells,h1,by simp,h2,by simpa using h3,h4,a,b,rfl,rfl,rfl⟩)
theorem HLe.len {H H' : Zb} (h : HLe H H') : H.length≤H'.length:=by
 rcases Nat.lt_or_ge H'.length H.length with h1 | h1
 ·have:=h H'.length _ (List.getElem?_eq_getElem h1)
  simp at this
 ·exact h1
theorem QY {H : Zb} {id : Nat} {o : Zo} (h : H[id]?=some o) : id < H.length:=(List.getElem?_eq_some_iff.1 h).1
section
variable {H : Zb} {p : IntKind} {a b : Int}
theorem ZaZ : bop .ptr .neq (.pointer none) (.pointer none) H=some (.bool false,H):=by simp [bop,eqv]
theorem Zc7 {cs : Array Value} {n : Nat} {q : IntKind} {i : Int} : ixv false n 1 (.agg cs) (.int q i) H=if 0≤i∧i < n then (cs[i.toNat]?).map (·,H) else none:=by
 simp [ixv,prt]
end
theorem ZI {a b c : Value} {H : Zb} : Jp (.tuple #[a,b,c]) 0 H=some (a,H):=rfl
theorem ZF {a b c : Value} {H : Zb} : Jp (.tuple #[a,b,c]) 1 H=some (b,H):=rfl
theorem ZG {a b c : Value} {H : Zb} : Jp (.tuple #[a,b,c]) 2 H=some (c,H):=rfl
end Go.Proofs.Ytfefblgkfdaekaa.A
namespace Go.Proofs.Ytfefblgkfdaekaa.A
set_option linter.unusedVariables false
set_option linter.unusedSimpArgs false
def Sl (H : Zb) (sl : Value) (vs : List Value) : Prop:=∃ a c,sl=.slice a vs.length c∧(a=none→c=0)∧Qd 1 H sl=some vs
section
variable {H H' : Zb} {sl v : Value} {vs : List Value}
theorem Sl.len (h : Sl H sl vs) : KA sl H'=some (iv vs.length,H'):=by
 obtain ⟨a,c,rfl,_⟩:=h;rfl
theorem Sl.flen (h : Sl H sl vs) : flen sl=vs.length:=by
 obtain ⟨a,c,rfl,_⟩:=h;rfl
theorem Sl.fc (h : Sl H sl vs) : Qd 1 H sl=some vs:=by
 obtain ⟨a,c,rfl,_,h⟩:=h;exact h
def own1 (sl : Value) : Option Nat:=
 match sl with
 | .slice (some ⟨id,_,none⟩) _ _=>some id
 | _=>none
theorem Sl.keep (h : Sl H sl vs) (hk : ∀ id,own1 sl=some id→H'[id]?=H[id]?) : Sl H' sl vs:=by
 obtain ⟨a,c,rfl,h0,h⟩:=h
 refine ⟨a,c,rfl,h0,?_⟩
 unfold Qd at h ⊢
 split at h
 ·exact h
 ·rename_i id o n x e
  cases e
  rw [hk id rfl];exact h
 ·exact h
 ·rename_i e;cases e
 ·cases h
theorem Sl.at (h : Sl H sl vs) {i : Nat} (hi : vs[i]?=some v) (q : IntKind) :
  ∃ id o cs es g ro,(∀ H',ixa 1 sl (.int q i) H'=some (pa id o,H'))∧H[id]?=some (.cells cs es g ro)∧cs[o]?=some v∧own1 sl=some id:=by
 have hlt : i < vs.length:=(List.getElem?_eq_some_iff.1 hi).1
 obtain ⟨a,c,rfl,_,h⟩:=h
 unfold Qd at h
 split at h
 ·cases h;simp at hi
 ·rename_i id o n x e
  cases e
  split at h
  ·rename_i cs es g ro hid
   split at h
   ·rename_i hle
    have hvs:=Option.some.inj h
    refine ⟨id,o+i,cs,es,g,ro,fun H'=>?_,hid,?_,rfl⟩
    ·rw [Z6,if_pos (by omega)];simp
    ·rw [← hvs] at hi
     simp [List.getElem?_take,List.getElem?_drop] at hi
     exact hi.2
   ·cases h
  ·cases h
 ·rename_i id o j n x e
  split at h
  ·cases h;simp at hi
  ·cases h
 ·rename_i e;cases e
 ·cases h
theorem Sl.fetch {β : Type} {k : Value→M β} (h : Sl H sl vs) {i : Nat} (hi : vs[i]?=some v) (q : IntKind) :
  bind (ixa 1 sl (.int q i)) (fun p=>bind (ld1 p) k) H=k v H:=by
 obtain ⟨id,o,cs,es,g,ro,e1,e2,e3,_⟩:=h.at hi q
 rw [Za (e1 H)]
 refine Za ?_
 rw [ZB,e2,Qe,e3];rfl
theorem Sl.fun (h : Sl H sl vs) {ws : List Value} (h' : Sl H sl ws) : ws=vs:=by
 have:=h.fc.symm.trans h'.fc
 simpa using this.symm
theorem Sl.nil : Sl H (.slice none 0 0) []:=⟨none,0,rfl,fun _=>rfl,rfl⟩
theorem Sl.one {id : Nat} {es : Nat} {g ro : Bool} {c : Nat} (h : H[id]?=some (.cells vs es g ro)) : Sl H (.slice (some ⟨id,0,none⟩) vs.length c) vs:=by
 refine ⟨_,_,rfl,(fun e=>by cases e),?_⟩
 unfold Qd
 simp [h]
end
structure Yi (own : List Nat) (H : Zb) (own' : List Nat) (H' : Zb) : Prop where
 len : H.length≤H'.length
 keep : ∀ j,j < H.length→j∉own→H'[j]?=H[j]?
 own : ∀ j∈own',j∈own∨H.length≤j
theorem Yi.trans {o1 o2 o3 : List Nat} {H1 H2 H3 : Zb} (h : Yi o1 H1 o2 H2) (h' : Yi o2 H2 o3 H3) : Yi o1 H1 o3 H3:=by
 refine ⟨Nat.le_trans h.len h'.len,fun j hj hn=>?_,fun j hj=>?_⟩
 ·rw [h'.keep j (by have:=h.len;omega) (fun h2=>?_),h.keep j hj hn]
  rcases h.own j h2 with h3 | h3
  ·exact hn h3
  ·omega
 ·rcases h'.own j hj with h2 | h2
  ·rcases h.own j h2 with h3 | h3
   ·exact .inl h3
   ·exact .inr h3
  ·exact .inr (by have:=h.len;omega)
theorem Yi.get {own own' : List Nat} {H H' : Zb} (h : Yi own H own' H') {j : Nat} {o : Zo} (hj : H[j]?=some o) (hn : j∉own) : H'[j]?=some o:=by
 rw [h.keep j (QY hj) hn];exact hj
theorem HLe.step {H H' : Zb} (h : HLe H H') : Yi [] H [] H':=
 ⟨h.len,fun j hj _=>by
  rw [List.getElem?_eq_getElem hj];exact h _ _ (List.getElem?_eq_getElem hj),fun _ h=>by cases h⟩
theorem Yi.hle {own' : List Nat} {H H' : Zb} (h : Yi [] H own' H') : HLe H H':=fun i o hi=>h.get hi (by simp)
theorem Yi.more {own own' : List Nat} {H H' : Zb} (h : Yi own H own' H') {o2 o2' : List Nat} (h1 : ∀ j∈own,j∈o2) (h2 : ∀ j∈o2',j∈o2∨j∈own'∨H.length≤j) : Yi o2 H o2' H':=
 ⟨h.len,fun j hj hn=>h.keep j hj fun h3=>hn (h1 j h3),fun j hj=>by
  rcases h2 j hj with h3 | h3 | h3
  ·exact .inl h3
  ·rcases h.own j h3 with h4 | h4
   ·exact .inl (h1 j h4)
   ·exact .inr h4
  ·exact .inr h3⟩
def JV (H : Zb) (sl : Value) (vs : List Value) (own : List Nat) : Prop:=
 (vs=[]∧own=[]∧sl=.slice none 0 0)∨
 ∃ sid rest g,sl=.slice (some ⟨sid,0,none⟩) vs.length (vs.length+rest.length)∧own=[sid]∧H[sid]?=some (.cells (vs++rest) 1 g false)
section
variable {H H' : Zb} {sl v : Value} {vs : List Value} {own : List Nat}
theorem JV.nil : JV H (.slice none 0 0) [] []:=.inl ⟨rfl,rfl,rfl⟩
theorem JV.rd (h : JV H sl vs own) : Sl H sl vs:=by
 rcases h with ⟨rfl,rfl,rfl⟩ | ⟨sid,rest,g,rfl,rfl,hid⟩
 ·exact Sl.nil
 ·refine ⟨_,_,rfl,(fun e=>by cases e),?_⟩
  unfold Qd
  simp [hid]
theorem JV.lt (h : JV H sl vs own) : ∀ j∈own,j < H.length:=by
 rcases h with ⟨rfl,rfl,rfl⟩ | ⟨sid,rest,g,rfl,rfl,hid⟩
 ·simp
 ·intro j hj
  simp at hj
  subst hj
  exact QY hid
theorem JV.keep (h : JV H sl vs own) (hk : ∀ j∈own,H'[j]?=H[j]?) : JV H' sl vs own:=by
 rcases h with ⟨rfl,rfl,rfl⟩ | ⟨sid,rest,g,rfl,rfl,hid⟩
 ·exact .inl ⟨rfl,rfl,rfl⟩
 ·exact .inr ⟨sid,rest,g,rfl,rfl,by rw [hk sid (by simp)];exact hid⟩
theorem JV.step {o1 o2 : List Nat} (h : JV H sl vs own) (hs : Yi o1 H o2 H') (hn : ∀ j∈own,j∉o1) : JV H' sl vs own:=
 h.keep fun j hj=>hs.keep j (h.lt j hj) (hn j hj)
theorem JV.own1 (h : JV H sl vs own) {id : Nat} (hi : A.own1 sl=some id) : own=[id]:=by
 rcases h with ⟨rfl,rfl,rfl⟩ | ⟨sid,rest,g,rfl,rfl,hid⟩
 ·cases hi
 ·cases hi;rfl
end
end Go.Proofs.Ytfefblgkfdaekaa.A
namespace Go.Proofs.Ytfefblgkfdaekaa.A
set_option linter.unusedVariables false
set_option linter.unusedSimpArgs false
theorem HLe.more {H0 H H' : Zb} {own own' : List Nat} (h : HLe H0 H) (hs : Yi own H own' H') (ho : ∀ j∈own,H0.length≤j) : HLe H0 H'∧∀ j∈own',H0.length≤j:=by
 refine ⟨fun i o hi=>hs.get (h i o hi) fun hm=>?_,fun j hj=>?_⟩
 ·have:=ho i hm
  have:=QY hi
  omega
 ·rcases hs.own j hj with h1 | h1
  ·exact ho j h1
  ·have:=h.len;omega
end Go.Proofs.Ytfefblgkfdaekaa.A
namespace Go.Proofs.Ytfefblgkfdaekaa.A
set_option linter.unusedVariables false
set_option linter.unusedSimpArgs false
inductive YT {α β : Type} (R : α→β→Prop) : List α→List β→Prop
 | nil : YT R [] []
 | cons {a : α} {b : β} {l : List α} {m : List β} : R a b→YT R l m→YT R (a :: l) (b :: m)
section
variable {α β : Type} {R S : α→β→Prop} {l l' : List α} {m m' : List β} {a : α} {b : β}
theorem YT.len (h : YT R l m) : l.length=m.length:=by
 induction h with
 | nil=>rfl
 | cons _ _ ih=>simp [ih]
theorem YT.imp (h : YT R l m) (hi : ∀ a b,R a b→S a b) : YT S l m:=by
 induction h with
 | nil=>exact .nil
 | cons h _ ih=>exact .cons (hi _ _ h) ih
theorem YT.at (h : YT R l m) {i : Nat} (hb : m[i]?=some b) : ∃ a,l[i]?=some a∧R a b:=by
 induction h generalizing i with
 | nil=>simp at hb
 | cons h _ ih=>
  cases i with
  | zero=>
   simp only [List.getElem?_cons_zero,Option.some.injEq] at hb
   subst hb
   exact ⟨_,rfl,h⟩
  | succ i=>exact ih (by simpa using hb)
theorem YT.one (h : R a b) : YT R [a] [b]:=.cons h .nil
end
theorem KX {es : Nat} : ∀ {rows : List (List Value)},(∀ r∈rows,r.length=es)→rows.flatten.length=rows.length * es
 | [],_=>by simp
 | r :: rows,h=>by
  rw [List.flatten_cons,List.length_append,h r (by simp),KX fun x hx=>h x (by simp [hx]),List.length_cons,Nat.add_mul]
  omega
theorem WU {es : Nat} : ∀ {rows : List (List Value)} {i : Nat} {r : List Value} {rest : List Value},(∀ r∈rows,r.length=es)→rows[i]?=some r→((rows.flatten++rest).drop (i * es)).take es=r
 | [],_,_,_,_,h=>by simp at h
 | q :: rows,0,r,rest,h,hi=>by
  have : q=r:=by simpa using hi
  subst this
  have:=h q (by simp)
  simp [← this]
 | q :: rows,i+1,r,rest,h,hi=>by
  have hq:=h q (by simp)
  rw [List.flatten_cons,List.append_assoc,show (i+1) * es=q.length+i * es by rw [hq,Nat.add_mul];omega,List.drop_append]
  simp only [List.drop_eq_nil_of_le (Nat.le_add_right _ _),List.nil_append,Nat.add_sub_cancel_left]
  exact WU (fun x hx=>h x (by simp [hx])) (by simpa using hi)
def SlN (es : Nat) (H : Zb) (sl : Value) (rows : List (List Value)) : Prop:=
 ∃ a c,sl=.slice a rows.length c∧(a=none→c=0)∧Qd es H sl=some rows.flatten∧∀ r∈rows,r.length=es
section
variable {H H' : Zb} {sl v : Value} {rows : List (List Value)} {es : Nat}
theorem SlN.len (h : SlN es H sl rows) : KA sl H'=some (iv rows.length,H'):=by
 obtain ⟨a,c,rfl,_⟩:=h;rfl
theorem SlN.flen (h : SlN es H sl rows) : flen sl=rows.length:=by
 obtain ⟨a,c,rfl,_⟩:=h;rfl
theorem SlN.fc (h : SlN es H sl rows) : Qd es H sl=some rows.flatten:=by
 obtain ⟨a,c,rfl,_,h,_⟩:=h;exact h
theorem SlN.ok (h : SlN es H sl rows) : ∀ r∈rows,r.length=es:=by
 obtain ⟨a,c,rfl,_,_,h⟩:=h;exact h
theorem SlN.one (h : SlN es H sl rows) : oneCell sl=true∧sl.cells=#[sl]:=by
 obtain ⟨a,c,rfl,_⟩:=h;exact ⟨rfl,rfl⟩
theorem SlN.keep (h : SlN es H sl rows) (hk : ∀ id,own1 sl=some id→H'[id]?=H[id]?) : SlN es H' sl rows:=by
 obtain ⟨a,c,rfl,h0,h,hr⟩:=h
 refine ⟨a,c,rfl,h0,?_,hr⟩
 unfold Qd at h ⊢
 split at h
 ·exact h
 ·rename_i id o n x e
  cases e
  rw [hk id rfl];exact h
 ·exact h
 ·rename_i e;cases e
 ·cases h
theorem SlN.mono (h : SlN es H sl rows) (hl : HLe H H') : SlN es H' sl rows:=by
 refine h.keep fun id hid=>?_
 obtain ⟨a,c,rfl,h0,h,hr⟩:=h
 unfold own1 at hid
 split at hid
 ·rename_i id' o n c' e
  cases e
  cases hid
  unfold Qd at h
  simp only at h
  split at h
  ·rename_i hg
   rw [hg];exact hl _ _ hg
  ·cases h
 ·cases hid
theorem SlN.at (h : SlN es H sl rows) {i : Nat} {r : List Value} (hi : rows[i]?=some r) (he : 0 < es) (q : IntKind) :
  ∃ id o cs e g ro,(∀ H',ixa es sl (.int q i) H'=some (pa id o,H'))∧H[id]?=some (.cells cs e g ro)∧(cs.drop o).take es=r∧o+es≤cs.length∧own1 sl=some id:=by
 have hlt : i < rows.length:=(List.getElem?_eq_some_iff.1 hi).1
 obtain ⟨a,c,rfl,_,h,hr⟩:=h
 have hfl:=KX hr
 unfold Qd at h
 split at h
 ·have h:=Option.some.inj h
  have h0 : rows.flatten.length=0:=by rw [← h];rfl
  rw [hfl] at h0
  have:=Nat.mul_pos (show 0 < rows.length by omega) he
  omega
 ·rename_i id o n x e
  cases e
  split at h
  ·rename_i cs es' g ro hid
   split at h
   ·rename_i hle
    have hvs:=Option.some.inj h
    have hie : i * es+es≤rows.length * es:=by
     have:=Nat.mul_le_mul_right es (show i+1≤rows.length by omega)
     rw [Nat.add_mul] at this;omega
    refine ⟨id,o+i * es,cs,es',g,ro,fun H'=>?_,hid,?_,by omega,rfl⟩
    ·rw [Z6,if_pos (by omega)];simp
    ·have:=WU (rest:=[]) hr hi
     rw [List.append_nil,← hvs,List.drop_take,List.drop_drop,List.take_take,Nat.min_eq_left (Nat.le_sub_of_add_le (by omega))] at this
     exact this
   ·cases h
  ·cases h
 ·rename_i id o j n x e
  cases e
  split at h
  ·rename_i h0
   omega
  ·cases h
 ·rename_i e;cases e
 ·cases h
theorem SlN.fetch {β : Type} {k : Value→M β} (h : SlN es H sl rows) {i : Nat} {r : List Value} (hi : rows[i]?=some r) (he : 0 < es) (q : IntKind) :
  bind (ixa es sl (.int q i)) (fun p=>bind (ldA es p) k) H=k (.agg r.toArray) H:=by
 obtain ⟨id,o,cs,e,g,ro,e1,e2,e3,e4,_⟩:=h.at hi he q
 rw [Za (e1 H)]
 refine Za ?_
 rw [Z1,e2,ZE,if_pos e4,e3]
theorem SlN.fun (h : SlN es H sl rows) {rows' : List (List Value)} (h' : SlN es H sl rows') (he : 0 < es) : rows'=rows:=by
 have e1:=h.fc.symm.trans h'.fc
 have e2 : rows.length=rows'.length:=by
  have:=h.flen;rw [h'.flen] at this;exact this.symm
 have e3:=Option.some.inj e1
 apply List.ext_getElem e2.symm
 intro i h1 h2
 have a1:=WU (rest:=[]) h.ok (List.getElem?_eq_getElem h2)
 have a2:=WU (rest:=[]) h'.ok (List.getElem?_eq_getElem h1)
 rw [List.append_nil] at a1 a2
 rw [← a1,← a2,e3]
theorem SlN.nil : SlN es H (.slice none 0 0) []:=⟨none,0,rfl,fun _=>rfl,rfl,by simp⟩
end
theorem Zfi {β : Type} {k : Value→M β} {zs r : List Value} {n : Nat} {H : Zb} (hz : zs.length=n) (hr : r.length=n) (hz1 : zs.all oneCell=true) (h1 : r.all oneCell=true) :
  bind (alc 1 (.agg zs.toArray)) (fun q=>bind (stA n q (.agg r.toArray)) fun _=>k q) H=k (pt H.length) (H++[.cells r 1 false false]):=by
 have e3 : alc 1 (.agg zs.toArray) H=some (pt H.length,H++[.cells zs 1 false false]):=by
  rw [Qi];simp only [Value.cells,List.all_eq_true] at *;rw [if_pos (by simpa using hz1)]
 have e4 : stA n (pt H.length) (.agg r.toArray) (H++[.cells zs 1 false false])=some (undef,H++[.cells r 1 false false]):=by
  rw [Z2,QK,ZK,if_pos ⟨by omega,by simpa using hr,by simpa using h1⟩]
  have : splice zs r.toArray.toList 0=r:=by unfold splice;simp [List.drop_eq_nil_of_le (show zs.length≤r.length by omega)]
  rw [this]
  simp
 rw [Za e3,Za e4]
def Yb (es : Nat) (H : Zb) (sl : Value) (rows : List (List Value)) (own : List Nat) : Prop:=
 (rows=[]∧own=[]∧sl=.slice none 0 0)∨
 ∃ sid rest r g,sl=.slice (some ⟨sid,0,none⟩) rows.length (rows.length+r)∧own=[sid]∧H[sid]?=some (.cells (rows.flatten++rest) es g false)∧rest.length=r * es∧∀ x∈rows,x.length=es
section
variable {H H' : Zb} {sl v : Value} {rows : List (List Value)} {es : Nat} {own : List Nat}
theorem Yb.nil : Yb es H (.slice none 0 0) [] []:=.inl ⟨rfl,rfl,rfl⟩
theorem Yb.rd (h : Yb es H sl rows own) : SlN es H sl rows:=by
 rcases h with ⟨rfl,rfl,rfl⟩ | ⟨sid,rest,r,g,rfl,rfl,hid,hr,hx⟩
 ·exact SlN.nil
 ·refine ⟨_,_,rfl,(fun e=>by cases e),?_,hx⟩
  unfold Qd
  simp only [hid]
  rw [if_pos (by rw [List.length_append,KX hx];omega),← KX hx]
  simp
theorem Yb.lt (h : Yb es H sl rows own) : ∀ j∈own,j < H.length:=by
 rcases h with ⟨rfl,rfl,rfl⟩ | ⟨sid,rest,r,g,rfl,rfl,hid,_⟩
 ·simp
 ·intro j hj
  simp at hj
  subst hj
  exact QY hid
theorem Yb.keep (h : Yb es H sl rows own) (hk : ∀ j∈own,H'[j]?=H[j]?) : Yb es H' sl rows own:=by
 rcases h with ⟨rfl,rfl,rfl⟩ | ⟨sid,rest,r,g,rfl,rfl,hid,hr⟩
 ·exact .inl ⟨rfl,rfl,rfl⟩
 ·exact .inr ⟨sid,rest,r,g,rfl,rfl,by rw [hk sid (by simp)];exact hid,hr⟩
theorem Yb.step {o1 o2 : List Nat} (h : Yb es H sl rows own) (hs : Yi o1 H o2 H') (hn : ∀ j∈own,j∉o1) : Yb es H' sl rows own:=
 h.keep fun j hj=>hs.keep j (h.lt j hj) (hn j hj)
theorem Yb.own1 (h : Yb es H sl rows own) {id : Nat} (hi : A.own1 sl=some id) : own=[id]:=by
 rcases h with ⟨rfl,rfl,rfl⟩ | ⟨sid,rest,r,g,rfl,rfl,hid,_⟩
 ·cases hi
 ·cases hi;rfl
theorem Yb.one (h : Yb es H sl rows own) : oneCell sl=true∧sl.cells=#[sl]:=h.rd.one
end
end Go.Proofs.Ytfefblgkfdaekaa.A
namespace Go.Proofs.Ytfefblgkfdaekaa.A
set_option linter.unusedVariables false
set_option linter.unusedSimpArgs false
theorem JS {H : Zb} {id o es : Nat} {cs : List Value} {g ro : Bool} {v : Value} (h : H[id]?=some (.cells cs es g ro)) (ho : cs[o]?=some v) : ld1 (pa id o) H=some (v,H):=by
 rw [ZB,h,Qe,ho];rfl
theorem QS {id o : Nat} {H : Zb} : fa o (pt id) H=some (pa id o,H):=by rw [QX,Nat.zero_add]
theorem Ze2 {H : Zb} {id o es : Nat} {cs : List Value} {g : Bool} {v : Value} (h : H[id]?=some (.cells cs es g false)) (ho : o < cs.length) (hv : oneCell v=true) : st1 (pa id o) v H=some (undef,H.set id (.cells (cs.set o v) es g false)):=by
 rw [ZC,h,Qp,if_pos ⟨ho,hv⟩]
theorem Zca {es : Nat} {cells : List Value} : ∀ (n : Nat),n * es≤cells.length→((List.range n).map fun i=>(cells.drop (i * es)).take es).flatten=cells.take (n * es)
 | 0,_=>by simp
 | n+1,h=>by
  have h1 : (n+1) * es=n * es+es:=by rw [Nat.add_mul];omega
  rw [List.range_succ,List.map_append,List.flatten_append,Zca n (by omega),h1,List.take_add]
  simp
theorem ZeT {e : Ty} {x : (Ty.slc e).den} {H : Zb} {v : Value} (hwf : (Ty.slc e).wf x) (h : Rd (.slc e) x H [v]) :
  ∃ rows,SlN e.size H v rows∧(∀ r∈rows,∃ y,e.wf y∧Rd e y H r)∧rows.length≤9223372036854775807∧∀ lid,own1 v=some lid→lid < H.length:=by
 rcases Ze4 h with h0 | h0 | ⟨l,n,c,id,cells,h0,hn,hid,hcl,hcs,a,b,hx,hl,hna⟩
 ·have : v=.slice none 0 0:=by simpa using h0
  subst this
  exact ⟨[],SlN.nil,by simp,by simp,fun _ h=>by cases h⟩
 ·have : v=.slice (some ⟨0,0,some 1⟩) 0 0:=by simpa using h0
  subst this
  exact ⟨[],⟨_,_,rfl,(fun e=>by cases e),rfl,by simp⟩,by simp,by simp,fun _ h=>by cases h⟩
 ·have : v=.slice (some ⟨id,0,none⟩) n c:=by simpa using h0
  subst this
  have hle : n * e.size≤cells.length:=by rw [hcl];exact Nat.mul_le_mul_right _ hn
  have hlen : ∀ i,i < n→((cells.drop (i * e.size)).take e.size).length=e.size:=fun i hi=>by
   have:=Nat.mul_le_mul_right e.size (show i+1≤n by omega)
   rw [Nat.add_mul,Nat.one_mul] at this
   simp;omega
  refine ⟨(List.range n).map fun i=>(cells.drop (i * e.size)).take e.size,⟨_,c,by rw [List.length_map,List.length_range],(fun e=>by cases e),?_,fun r hr=>?_⟩,fun r hr=>?_,?_,fun lid h=>by cases h;exact QY hid⟩
  ·unfold Qd
   simp only [hid]
   rw [Nat.zero_add,if_pos hle,List.drop_zero,Zca n hle]
  ·obtain ⟨i,hi,rfl⟩:=List.mem_map.1 hr
   exact hlen i (List.mem_range.1 hi)
  ·obtain ⟨i,hi,rfl⟩:=List.mem_map.1 hr
   have hi:=List.mem_range.1 hi
   have hil : i < l.length:=by omega
   refine ⟨l[i],?_,hcs i l[i] (List.getElem?_eq_getElem hil)⟩
   subst hx
   obtain ⟨w1,w2,_⟩:=hwf
   have : l[i]∈a++b:=by rw [← hl];exact List.getElem_mem hil
   exact (List.mem_append.1 this).elim (w1 _) (w2 _)
  ·rw [List.length_map,List.length_range]
   subst hx
   have:=hwf.2.2
   unfold maxLen at this
   omega
theorem Za3 {α : Type} {Q : List Value→α→Prop} {f : α→List Value} : ∀ {rows : List (List Value)},(∀ r∈rows,∃ a,r=f a∧Q r a)→∃ ac : List α,rows=ac.map f∧∀ a∈ac,Q (f a) a
 | [],_=>⟨[],rfl,by simp⟩
 | r :: rows,h=>by
  obtain ⟨a,h1,h2⟩:=h r (by simp)
  obtain ⟨ac,h3,h4⟩:=Za3 (rows:=rows) fun x hx=>h x (by simp [hx])
  subst h1
  refine ⟨a :: ac,by rw [h3];rfl,fun b hb=>?_⟩
  rcases List.mem_cons.1 hb with rfl | hb
  ·exact h2
  ·exact h4 b hb
def Zbj (p : List UInt8) : Value:=.string ⟨p.toArray⟩
section
variable {H : Zb} {a b : List UInt8}
theorem ZcB : (⟨a.toArray⟩ : ByteArray).size=a.length:=by simp [ByteArray.size]
theorem Zfc : (⟨a.toArray⟩ : ByteArray)++⟨b.toArray⟩=⟨(a++b).toArray⟩:=by
 apply ByteArray.ext
 simp
theorem ZZ (h : a.length+b.length≤9223372036854775807) : bop .str .add (Zbj a) (Zbj b) H=some (Zbj (a++b),H):=by
 unfold Zbj bop sop
 simp only [ZcB,decide_eq_true h,cond_true,Zfc,Option.map_some]
theorem ZX : Zbf (Zbj a) H=some (iv a.length,H):=by
 unfold Zbj
 rw [ZT,ZcB]
end
end Go.Proofs.Ytfefblgkfdaekaa.A
namespace Go.Proofs.Ytfefblgkfdaekaa.A
set_option linter.unusedVariables false
set_option linter.unusedSimpArgs false
section
variable {β : Type}
def c0 (k : β) (vs : List Value) : β:=k
def c1 (k : Value→β) (vs : List Value) : β:=k (vs.headD undef)
def c2 (k : Value→Value→β) (vs : List Value) : β:=c1 (k (vs.headD undef)) vs.tail
def c3 (k : Value→Value→Value→β) (vs : List Value) : β:=c2 (k (vs.headD undef)) vs.tail
def c4 (k : Value→Value→Value→Value→β) (vs : List Value) : β:=c3 (k (vs.headD undef)) vs.tail
def c5 (k : Value→Value→Value→Value→Value→β) (vs : List Value) : β:=c4 (k (vs.headD undef)) vs.tail
def c6 (k : Value→Value→Value→Value→Value→Value→β) (vs : List Value) : β:=c5 (k (vs.headD undef)) vs.tail
def c7 (k : Value→Value→Value→Value→Value→Value→Value→β) (vs : List Value) : β:=c6 (k (vs.headD undef)) vs.tail
def c8 (k : Value→Value→Value→Value→Value→Value→Value→Value→β) (vs : List Value) : β:=c7 (k (vs.headD undef)) vs.tail
def c9 (k : Value→Value→Value→Value→Value→Value→Value→Value→Value→β) (vs : List Value) : β:=c8 (k (vs.headD undef)) vs.tail
def c10 (k : Value→Value→Value→Value→Value→Value→Value→Value→Value→Value→β) (vs : List Value) : β:=c9 (k (vs.headD undef)) vs.tail
def c11 (k : Value→Value→Value→Value→Value→Value→Value→Value→Value→Value→Value→β) (vs : List Value) : β:=c10 (k (vs.headD undef)) vs.tail
def c12 (k : Value→Value→Value→Value→Value→Value→Value→Value→Value→Value→Value→Value→β) (vs : List Value) : β:=c11 (k (vs.headD undef)) vs.tail
def noN {α : Type} (vs : List Value) : M α:=fail
def noX {α : Type} (j : Nat) (vs : List Value) : M α:=fail
def Qy (v : Value) : M Out:=ret (.ret v)
def xk {α : Type} (i : Nat) (k : List Value→M α) (r : Nat→List Value→M α) (j : Nat) (vs : List Value) : M α:=bif Nat.beq j i then k vs else r j vs
variable {v0 v1 v2 v3 v4 v5 v6 v7 v8 v9 v10 v11 v12 v13 v14 v15 v16 v17 v18 v19 : Value}
theorem Q8 {k : β} {vs : List Value} : c0 k vs=k:=rfl
theorem QV {k : Value→β} : c1 k [v0]=k v0:=rfl
theorem QJ {k : Value→Value→β} : c2 k [v0,v1]=k v0 v1:=rfl
theorem QO {k : Value→Value→Value→β} : c3 k [v0,v1,v2]=k v0 v1 v2:=rfl
theorem Q7 {k : Value→Value→Value→Value→β} : c4 k [v0,v1,v2,v3]=k v0 v1 v2 v3:=rfl
theorem Q6 {k : Value→Value→Value→Value→Value→β} : c5 k [v0,v1,v2,v3,v4]=k v0 v1 v2 v3 v4:=rfl
theorem QT {k : Value→Value→Value→Value→Value→Value→β} : c6 k [v0,v1,v2,v3,v4,v5]=k v0 v1 v2 v3 v4 v5:=rfl
theorem QW {k : Value→Value→Value→Value→Value→Value→Value→β} : c7 k [v0,v1,v2,v3,v4,v5,v6]=k v0 v1 v2 v3 v4 v5 v6:=rfl
theorem Q2 {k : Value→Value→Value→Value→Value→Value→Value→Value→β} : c8 k [v0,v1,v2,v3,v4,v5,v6,v7]=k v0 v1 v2 v3 v4 v5 v6 v7:=rfl
theorem QQ {k : Value→Value→Value→Value→Value→Value→Value→Value→Value→β} : c9 k [v0,v1,v2,v3,v4,v5,v6,v7,v8]=k v0 v1 v2 v3 v4 v5 v6 v7 v8:=rfl
theorem Qz {k : Value→Value→Value→Value→Value→Value→Value→Value→Value→Value→β} : c10 k [v0,v1,v2,v3,v4,v5,v6,v7,v8,v9]=k v0 v1 v2 v3 v4 v5 v6 v7 v8 v9:=rfl
theorem Qt {k : Value→Value→Value→Value→Value→Value→Value→Value→Value→Value→Value→β} : c11 k [v0,v1,v2,v3,v4,v5,v6,v7,v8,v9,v10]=k v0 v1 v2 v3 v4 v5 v6 v7 v8 v9 v10:=rfl
theorem QB {k : Value→Value→Value→Value→Value→Value→Value→Value→Value→Value→Value→Value→β} : c12 k [v0,v1,v2,v3,v4,v5,v6,v7,v8,v9,v10,v11]=k v0 v1 v2 v3 v4 v5 v6 v7 v8 v9 v10 v11:=rfl
theorem ZL {α : Type} {i : Nat} {k : List Value→M α} {r : Nat→List Value→M α} {vs : List Value} : xk i k r i vs=k vs:=by
 unfold xk
 rw [Nat.beq_refl,cond_true]
end
section
variable {H H' : Zb} {sl v u : Value} {vs : List Value} {own : List Nat} {i : Nat}
end
theorem JV.one {H : Zb} {sl : Value} {vs : List Value} {own : List Nat} (h : JV H sl vs own) : oneCell sl=true∧sl.cells=#[sl]:=by
 rcases h with ⟨_,_,rfl⟩ | ⟨_,_,_,rfl,_,_⟩ <;> exact ⟨rfl,rfl⟩
theorem JV.new {k : Nat} {z : Value} {H : Zb} {id : Nat} (h : H[id]?=some (.cells (List.replicate k z) 1 false false)) : JV H (.slice (some ⟨id,0,none⟩) k k) (List.replicate k z) [id]:=
 .inr ⟨id,[],false,by simp,rfl,by simpa using h⟩
theorem KQ {α β γ : Type} {m : M α} {f : α→M β} {k : β→M γ} {H : Zb} : bind (bind m f) k H=bind m (fun a=>bind (f a) k) H:=by
 unfold bind
 cases m H <;> rfl
theorem ZdT {k : Nat} (h : k < 9223372036854775807) : IntKind.i64.wrap ((k : Int)+1)=((k+1 : Nat) : Int):=by rw [w64 (by omega) (by omega)];simp
end Go.Proofs.Ytfefblgkfdaekaa.A

namespace Go.Proofs.Ytfefblgkfdaekaa.A
set_option linter.unusedVariables false
set_option linter.unusedSimpArgs false
open Go.Proofs Go.Proofs.Ytfefblgkfdaekaa
def Za5 : List (Nat × List Nat):=[]
abbrev JF : Nat:=3
def YM : List (Nat × List Nat):=[(13,[0,1]),(125,[]),(250,[1,5,6,27,28,29]),(2002,[1,5,6,27,28,29]),(4006,[1,5,6,27,28,29]),(64101,[1,5,6,27,28,29]),(256405,[1,5,6,27,28,29]),(256413,[1,5,6,16,27,28,29]),(256415,[1,5,6,27,28,29]),(512826,[1,5,6,16,27,28,29,134,135]),(1025623,[1,5,6,27,28,29]),(4102487,[1,5,6,27,28,29]),(4102495,[1,5,6,27,28,29]),(4102610,[1,5,6,16,27,28,29,134,135]),(8205222,[1,5,6,16,27,28,29,134,135]),(16409975,[1,5,6,27,28,29]),(65639927,[1,5,6,27,28,29]),(65639935,[1,5,6,27,28,29])]
abbrev J2 : Nat:=4
def Wh : List (Nat × List Nat):=[]
abbrev J8 : Nat:=5
def W9 : List (Nat × List Nat):=[(13,[1,2,3,6])]
abbrev ZJ : Nat:=6
def Kh : List (Nat × List Nat):=[(27,[])]
abbrev Jh : Nat:=7
def Zaa : List (Nat × List Nat):=[(13,[1,2,4,8])]
abbrev Qg : Nat:=8
def W8 : List (Nat × List Nat):=[(13,[1,2])]
abbrev ZV : Nat:=9
def YQ : List (Nat × List Nat):=[(14,[]),(28,[2,7]),(113,[2,7]),(225,[2,7]),(1813,[2,7,8]),(1815,[2,7])]
abbrev QN : Nat:=10
def YV : List (Nat × List Nat):=[]
abbrev Jl : Nat:=11
def YU : List (Nat × List Nat):=[(29,[3]),(58,[3,8,9]),(466,[3,8,9]),(934,[3,8,9])]
abbrev Qf : Nat:=12
def Y7 : List (Nat × List Nat):=[(27,[])]
abbrev QR : Nat:=13
def Kb : List (Nat × List Nat):=[(29,[2,3]),(58,[0,2,3,5]),(466,[0,2,3,5]),(934,[0,2,3,5])]
abbrev JY : Nat:=14
def Y9 : List (Nat × List Nat):=[(29,[3]),(58,[3,7,8]),(466,[3,7,8]),(934,[3,7,8])]
abbrev J5 : Nat:=15
def Zaf : List (Nat × List Nat):=[]
abbrev Q9 : Nat:=16
def Km : List (Nat × List Nat):=[(13,[0,1])]
abbrev Jg : Nat:=17
def Yq : List (Nat × List Nat):=[]
abbrev Qm : Nat:=18
def Yc : List (Nat × List Nat):=[]
abbrev ZM : Nat:=19
def Jm : List (Nat × List Nat):=[]
abbrev Jb : Nat:=20
def J9 : List (Nat × List Nat):=[]
abbrev Yy : Nat:=21
abbrev Yo : Nat:=22
abbrev Js : Nat:=23
abbrev Ye : Nat:=24
def Ze6 : List (Nat × List (Nat × List Nat))→Nat→List (Nat × List Nat)
 | [],_=>[]
 | (i,l) :: t,g=>bif Nat.beq i g then l else Ze6 t g
def lvs : Nat→List (Nat × List Nat):=Ze6 [(2,Za5),(3,YM),(4,Wh),(5,W9),(6,Kh),(7,Zaa),(8,W8),(9,YQ),(10,YV),(11,YU),(12,Y7),(13,Kb),(14,Y9),(15,Zaf),(16,Km),(17,Yq),(18,Yc),(19,Jm),(20,J9)]
def np (g : FuncId) : Option (List Value→M Value):=
 match g with
 | 21=>some (ZaR .i64)
 | 22=>some (WM .i64)
 | 23=>some (WZ .i64)
 | 24=>some (KN)
 | _=>none
set_option maxRecDepth 100000 in
theorem np_sound (w0 : Zg) : ∀ g m,np g=some m→Kc Try.prog Try.prog.globals.size w0 g m:=by
 intro g m h
 unfold np at h
 split at h
 ·cases h;exact Zck ⟨Try.f21,Try.func21,by kernel_rfl,by kernel_rfl,by kernel_rfl,by kernel_rfl⟩
 ·cases h;exact ZbZ ⟨Try.f22,Try.func22,by kernel_rfl,by kernel_rfl,by kernel_rfl,by kernel_rfl⟩
 ·cases h;exact Zcq ⟨Try.f23,Try.func23,by kernel_rfl,by kernel_rfl,by kernel_rfl,by kernel_rfl⟩
 ·cases h;exact Zbz ⟨Try.f24,Try.func24,by kernel_rfl,by kernel_rfl,by kernel_rfl,by kernel_rfl⟩
 ·cases h
theorem KD (n : Nat) (args : List Value) : run Try.prog np lvs (n+1) Yy args=ZaR .i64 args:=rfl
theorem Kk (n : Nat) (args : List Value) : run Try.prog np lvs (n+1) Yo args=WM .i64 args:=rfl
theorem Ji (n : Nat) (args : List Value) : run Try.prog np lvs (n+1) Js args=WZ .i64 args:=rfl
theorem Kg (n : Nat) (args : List Value) : run Try.prog np lvs (n+1) Ye args=KN args:=rfl
noncomputable abbrev R (n : Nat) : Zp:=run Try.prog np lvs n
end Go.Proofs.Ytfefblgkfdaekaa.A

namespace Go.Proofs.Ytfefblgkfdaekaa.A
set_option linter.unusedVariables false
set_option maxRecDepth 100000
set_option linter.unusedSimpArgs false
open Go.Proofs Go.Proofs.Ytfefblgkfdaekaa
def RA0 (g : Nat) (F : Zp→M Value) : Prop:=∀ {prim : FuncId→Option (List Value→M Value)} (_ : prim g=none) (n : Nat),run Try.prog prim lvs (n+1) g []=F (run Try.prog prim lvs n)
theorem ra0 {g : Nat} {fn : Func} {F : Zp→M Value} (hf : Try.prog.funcs[g]?=some fn) (hc : (Yh fn && Nat.blt g JM)=true) (h : ∀ (Γ : Zp),Ju Try.prog Γ fn (lvs g) []=F Γ) : RA0 g F:=fun hp n=>(QZ hp rfl hf (by cases e : Yh fn <;> simp [e] at hc ⊢) (by cases e : Nat.blt g JM <;> simp [e] at hc ⊢)).trans (h _)
def RA1 (g : Nat) (F : Zp→Value→M Value) : Prop:=∀ {prim : FuncId→Option (List Value→M Value)} (_ : prim g=none) (n : Nat) (x0 : Value),run Try.prog prim lvs (n+1) g [x0]=F (run Try.prog prim lvs n) x0
theorem ra1 {g : Nat} {fn : Func} {F : Zp→Value→M Value} (hf : Try.prog.funcs[g]?=some fn) (hc : (Yh fn && Nat.blt g JM)=true) (h : ∀ (Γ : Zp) (x0 : Value),Ju Try.prog Γ fn (lvs g) [x0]=F Γ x0) : RA1 g F:=fun hp n x0=>(QZ hp rfl hf (by cases e : Yh fn <;> simp [e] at hc ⊢) (by cases e : Nat.blt g JM <;> simp [e] at hc ⊢)).trans (h _ x0)
def RA2 (g : Nat) (F : Zp→Value→Value→M Value) : Prop:=∀ {prim : FuncId→Option (List Value→M Value)} (_ : prim g=none) (n : Nat) (x0 x1 : Value),run Try.prog prim lvs (n+1) g [x0,x1]=F (run Try.prog prim lvs n) x0 x1
theorem ra2 {g : Nat} {fn : Func} {F : Zp→Value→Value→M Value} (hf : Try.prog.funcs[g]?=some fn) (hc : (Yh fn && Nat.blt g JM)=true) (h : ∀ (Γ : Zp) (x0 x1 : Value),Ju Try.prog Γ fn (lvs g) [x0,x1]=F Γ x0 x1) : RA2 g F:=fun hp n x0 x1=>(QZ hp rfl hf (by cases e : Yh fn <;> simp [e] at hc ⊢) (by cases e : Nat.blt g JM <;> simp [e] at hc ⊢)).trans (h _ x0 x1)
def RA3 (g : Nat) (F : Zp→Value→Value→Value→M Value) : Prop:=∀ {prim : FuncId→Option (List Value→M Value)} (_ : prim g=none) (n : Nat) (x0 x1 x2 : Value),run Try.prog prim lvs (n+1) g [x0,x1,x2]=F (run Try.prog prim lvs n) x0 x1 x2
theorem ra3 {g : Nat} {fn : Func} {F : Zp→Value→Value→Value→M Value} (hf : Try.prog.funcs[g]?=some fn) (hc : (Yh fn && Nat.blt g JM)=true) (h : ∀ (Γ : Zp) (x0 x1 x2 : Value),Ju Try.prog Γ fn (lvs g) [x0,x1,x2]=F Γ x0 x1 x2) : RA3 g F:=fun hp n x0 x1 x2=>(QZ hp rfl hf (by cases e : Yh fn <;> simp [e] at hc ⊢) (by cases e : Nat.blt g JM <;> simp [e] at hc ⊢)).trans (h _ x0 x1 x2)
def RA4 (g : Nat) (F : Zp→Value→Value→Value→Value→M Value) : Prop:=∀ {prim : FuncId→Option (List Value→M Value)} (_ : prim g=none) (n : Nat) (x0 x1 x2 x3 : Value),run Try.prog prim lvs (n+1) g [x0,x1,x2,x3]=F (run Try.prog prim lvs n) x0 x1 x2 x3
theorem ra4 {g : Nat} {fn : Func} {F : Zp→Value→Value→Value→Value→M Value} (hf : Try.prog.funcs[g]?=some fn) (hc : (Yh fn && Nat.blt g JM)=true) (h : ∀ (Γ : Zp) (x0 x1 x2 x3 : Value),Ju Try.prog Γ fn (lvs g) [x0,x1,x2,x3]=F Γ x0 x1 x2 x3) : RA4 g F:=fun hp n x0 x1 x2 x3=>(QZ hp rfl hf (by cases e : Yh fn <;> simp [e] at hc ⊢) (by cases e : Nat.blt g JM <;> simp [e] at hc ⊢)).trans (h _ x0 x1 x2 x3)
noncomputable def Zh.l2 (Γ : Zp) (s1 s5 s6 s16 s27 s28 s29 s134 s135 : Value) : M Out:=
 bind (bop .int .lss s135 (Value.int .i64 16)) fun y134=>
 cnd y134
 (bind (ixv false 16 1 s134 s135) fun y135=>
 bind (bop .int .add s16 y135) fun y136=>
 bind (bop .int .add s135 (Value.int .i64 1)) fun y137=>
 ret (.nrm [s1,s5,s6,y136,s27,s28,s29,s134,y137]))
 (ret (.ext 3 [s1,s5,s6,s16,s27,s28,s29]))
noncomputable def Zh.l1 (Γ : Zp) (s1 s5 s6 s27 s28 s29 : Value) : M Out:=
 bind (bop .int .lss s29 s28) fun y11=>
 cnd y11
 (bind (ixa 4 s27 s29) fun y12=>
 bind (ldA 4 y12) fun y13=>
 bind (alc 1 (.agg #[.int .u8 0,.int .i64 0,.int .i64 0,.int .i64 0])) fun y14=>
 bind (stA 4 y14 y13) fun _=>
 bind (fa 0 y14) fun y15=>
 bind (ld1 y15) fun y16=>
 bind (bop .int .rem y16 (Value.int .u8 4)) fun y17=>
 bind (bop .int .eql y17 (Value.int .u8 0)) fun y18=>
 jn (cnd y18
 (bind (ldA 16 s6) fun y19=>
 bind (fa 1 y14) fun y20=>
 bind (ld1 y20) fun y21=>
 bind (fa 2 y14) fun y22=>
 bind (ld1 y22) fun y23=>
 bind (Γ J8 [y19,y21,y23]) fun y24=>
 bind (Jp y24 0) fun y25=>
 bind (Jp y24 1) fun y26=>
 bind (alc 1 (.agg #[.int .i64 0,.int .i64 0,.int .i64 0,.int .i64 0,.int .i64 0,.int .i64 0,.int .i64 0,.int .i64 0,.int .i64 0,.int .i64 0,.int .i64 0,.int .i64 0,.int .i64 0,.int .i64 0,.int .i64 0,.int .i64 0])) fun y27=>
 bind (stA 16 y27 y25) fun _=>
 bind (ldA 16 y27) fun y28=>
 bind (stA 16 s6 y28) fun _=>
 bind (fa 1 y14) fun y29=>
 bind (ld1 y29) fun y30=>
 bind (fa 2 y14) fun y31=>
 bind (ld1 y31) fun y32=>
 bind (Γ ZJ [s5,y30,y32]) fun y33=>
 bind (bop .int .neq y33 y26) fun y34=>
 cnd y34
 (ret (.ret (Value.bool false)))
 (ret (.nrm [s1,s5,s6,s27,s28,s29])))
 (bind (bop .int .eql y17 (Value.int .u8 1)) fun y35=>
 jn (cnd y35
 (bind (ldA 16 s6) fun y36=>
 bind (fa 1 y14) fun y37=>
 bind (ld1 y37) fun y38=>
 bind (fa 2 y14) fun y39=>
 bind (ld1 y39) fun y40=>
 bind (ldA 16 s6) fun y41=>
 bind (fa 1 y14) fun y42=>
 bind (ld1 y42) fun y43=>
 bind (fa 2 y14) fun y44=>
 bind (ld1 y44) fun y45=>
 bind (Γ Qg [y41,y43]) fun y46=>
 bind (ld1 y44) fun u_47=>same u_47 y45 <|
 bind (ld1 y39) fun u_48=>same u_48 y40 <|
 bind (ld1 y37) fun u_49=>same u_49 y38 <|
 bind (ldA 16 s6) fun u_50=>same u_50 y36 <|
 bind (bop .int .lss y46 y45) fun y51=>
 bind (Γ Jh [y36,y38,y40,y51]) fun y52=>
 bind (Jp y52 0) fun y53=>
 bind (Jp y52 1) fun y54=>
 bind (alc 1 (.agg #[.int .i64 0,.int .i64 0,.int .i64 0,.int .i64 0,.int .i64 0,.int .i64 0,.int .i64 0,.int .i64 0,.int .i64 0,.int .i64 0,.int .i64 0,.int .i64 0,.int .i64 0,.int .i64 0,.int .i64 0,.int .i64 0])) fun y55=>
 bind (ld1 y44) fun u_56=>same u_56 y45 <|
 bind (ld1 y42) fun u_57=>same u_57 y43 <|
 bind (ldA 16 s6) fun u_58=>same u_58 y41 <|
 bind (ld1 y39) fun u_59=>same u_59 y40 <|
 bind (ld1 y37) fun u_60=>same u_60 y38 <|
 bind (ldA 16 s6) fun u_61=>same u_61 y36 <|
 bind (stA 16 y55 y53) fun _=>
 bind (ldA 16 y55) fun y62=>
 bind (stA 16 s6 y62) fun _=>
 bind (fa 1 y14) fun y63=>
 bind (ld1 y63) fun y64=>
 bind (fa 2 y14) fun y65=>
 bind (ld1 y65) fun y66=>
 bind (Γ ZV [s5,y64,y66]) fun y67=>
 bind (bop .bool .neq y67 y54) fun y68=>
 cnd y68
 (ret (.ret (Value.bool false)))
 (ret (.nrm [s1,s5,s6,s27,s28,s29])))
 (bind (bop .int .eql y17 (Value.int .u8 2)) fun y69=>
 jn (cnd y69
 (bind (ldA 16 s6) fun y70=>
 bind (fa 1 y14) fun y71=>
 bind (ld1 y71) fun y72=>
 bind (fa 3 y14) fun y73=>
 bind (ld1 y73) fun y74=>
 bind (ldA 16 s6) fun y75=>
 bind (fa 1 y14) fun y76=>
 bind (ld1 y76) fun y77=>
 bind (fa 2 y14) fun y78=>
 bind (ld1 y78) fun y79=>
 bind (Γ Qg [y75,y77]) fun y80=>
 bind (ld1 y78) fun u_81=>same u_81 y79 <|
 bind (ld1 y73) fun u_82=>same u_82 y74 <|
 bind (ld1 y71) fun u_83=>same u_83 y72 <|
 bind (ldA 16 s6) fun u_84=>same u_84 y70 <|
 bind (bop .int .eql y80 y79) fun y85=>
 bind (Γ Jh [y70,y72,y74,y85]) fun y86=>
 bind (Jp y86 0) fun y87=>
 bind (Jp y86 1) fun y88=>
 bind (alc 1 (.agg #[.int .i64 0,.int .i64 0,.int .i64 0,.int .i64 0,.int .i64 0,.int .i64 0,.int .i64 0,.int .i64 0,.int .i64 0,.int .i64 0,.int .i64 0,.int .i64 0,.int .i64 0,.int .i64 0,.int .i64 0,.int .i64 0])) fun y89=>
 bind (ld1 y78) fun u_90=>same u_90 y79 <|
 bind (ld1 y76) fun u_91=>same u_91 y77 <|
 bind (ldA 16 s6) fun u_92=>same u_92 y75 <|
 bind (ld1 y73) fun u_93=>same u_93 y74 <|
 bind (ld1 y71) fun u_94=>same u_94 y72 <|
 bind (ldA 16 s6) fun u_95=>same u_95 y70 <|
 bind (stA 16 y89 y87) fun _=>
 bind (ldA 16 y89) fun y96=>
 bind (stA 16 s6 y96) fun _=>
 bind (fa 1 y14) fun y97=>
 bind (ld1 y97) fun y98=>
 bind (fa 2 y14) fun y99=>
 bind (ld1 y99) fun y100=>
 bind (fa 3 y14) fun y101=>
 bind (ld1 y101) fun y102=>
 bind (Γ QN [s5,y98,y100,y102]) fun y103=>
 bind (bop .bool .neq y103 y88) fun y104=>
 cnd y104
 (ret (.ret (Value.bool false)))
 (ret (.nrm [s1,s5,s6,s27,s28,s29])))
 (bind (Γ Jl [s5]) fun y105=>
 bind (fa 1 y14) fun y106=>
 bind (ld1 y106) fun y107=>
 bind (Γ ZJ [y105,y107,(Value.int .i64 1)]) fun y108=>
 bind (fa 1 y14) fun y109=>
 bind (ld1 y109) fun y110=>
 bind (ldA 16 s6) fun y111=>
 bind (fa 1 y14) fun y112=>
 bind (ld1 y112) fun y113=>
 bind (Γ Qf [y105,y110]) fun y114=>
 bind (ld1 y112) fun u_115=>same u_115 y113 <|
 bind (ldA 16 s6) fun u_116=>same u_116 y111 <|
 bind (Γ Qg [y111,y113]) fun y117=>
 bind (bop .int .add y117 (Value.int .i64 1)) fun y118=>
 bind (bop .int .neq y114 y118) fun y119=>
 bind (Z0 y119 true (fa 1 y14)) fun y120=>
 bind (Z0 y119 true (ld1 y120)) fun y121=>
 bind (Z0 y119 true (bop .int .geq y121 (Value.int .i64 0))) fun y122=>
 bind (pick y119 y122 (Value.bool false)) fun y123=>
 bind (Z0 y123 true (fa 1 y14)) fun y124=>
 bind (Z0 y123 true (ld1 y124)) fun y125=>
 bind (Z0 y123 true (bop .int .lss y125 (Value.int .i64 16))) fun y126=>
 bind (pick y123 y126 (Value.bool false)) fun y127=>
 cnd y127
 (ret (.ret (Value.bool false)))
 (ret (.nrm [s1,s5,s6,s27,s28,s29])))) (c6 fun q128_0 q128_1 q128_2 q128_3 q128_4 q128_5=>
 ret (.nrm [q128_0,q128_1,q128_2,q128_3,q128_4,q128_5])) noX Qy)) (c6 fun q130_0 q130_1 q130_2 q130_3 q130_4 q130_5=>
 ret (.nrm [q130_0,q130_1,q130_2,q130_3,q130_4,q130_5])) noX Qy)) (c6 fun q132_0 q132_1 q132_2 q132_3 q132_4 q132_5=>
 bind (ldA 16 q132_2) fun y133=>
 jn (Qb (c9 (Zh.l2 Γ)) [q132_0,q132_1,q132_2,(Value.int .i64 0),q132_3,q132_4,q132_5,y133,(Value.int .i64 0)]) noN (xk 3 (c7 fun q139_0 q139_1 q139_2 q139_3 q139_4 q139_5 q139_6=>
 bind (ldA 16 q139_2) fun y140=>
 bind (Γ QR [q139_1]) fun y141=>
 bind (ldA 16 q139_2) fun u_142=>same u_142 y140 <|
 bind (bop (.flat [.int,.int,.int,.int,.int,.int,.int,.int,.int,.int,.int,.int,.int,.int,.int,.int]) .neq y141 y140) fun y143=>
 bind (Z0 y143 false (ret q139_3)) fun y144=>
 bind (Z0 y143 false (Γ JY [q139_1])) fun y145=>
 bind (Z0 y143 false (bop .int .neq y145 y144)) fun y146=>
 bind (pick y143 (Value.bool true) y146) fun y147=>
 bind (Z0 y147 false (ret q139_0)) fun y148=>
 bind (Z0 y147 false (ldA 16 q139_2)) fun y149=>
 bind (Z0 y147 false (ret q139_0)) fun y150=>
 bind (Z0 y147 false (Γ Qf [q139_1,y148])) fun y151=>
 bind (Z0 y147 false (ldA 16 q139_2)) fun u_152=>same u_152 y149 <|
 bind (Z0 y147 false (Γ Qg [y149,y150])) fun y153=>
 bind (Z0 y147 false (bop .int .neq y151 y153)) fun y154=>
 bind (pick y147 (Value.bool true) y154) fun y155=>
 cnd y155
 (ret (.ret (Value.bool false)))
 (bind (bop .int .add q139_6 (Value.int .i64 1)) fun y156=>
 ret (.nrm [q139_0,q139_1,q139_2,q139_4,q139_5,y156]))) noX) Qy) noX Qy)
 (ret (.ext 0 []))
noncomputable def Zh (Γ : Zp) (x0 x1 : Value) : M Value:=
 bind (Γ J2 []) fun y1=>
 bind (uop .not y1) fun y2=>
 bind (JJ y2 false 3 (bind (KA x0) fun y3=>
 bind (bop .int .gtr y3 (Value.int .i64 60)) fun y4=>
 ret [x0,y3,y4])) (c3 fun _ _ q5_2=>
 bind (pick y2 (Value.bool true) q5_2) fun y6=>
 cnd y6
 (bind (Γ J2 []) fun y7=>
 ret y7)
 (bind (alc 1 (.agg #[.int .i64 0,.int .i64 0,.int .i64 0,.int .i64 0,.int .i64 0,.int .i64 0,.int .i64 0,.int .i64 0,.int .i64 0,.int .i64 0,.int .i64 0,.int .i64 0,.int .i64 0,.int .i64 0,.int .i64 0,.int .i64 0])) fun y8=>
 bind (alc 1 (.agg #[.int .i64 0,.int .i64 0,.int .i64 0,.int .i64 0,.int .i64 0,.int .i64 0,.int .i64 0,.int .i64 0,.int .i64 0,.int .i64 0,.int .i64 0,.int .i64 0,.int .i64 0,.int .i64 0,.int .i64 0,.int .i64 0])) fun y9=>
 bind (KA x0) fun y10=>
 jn (Qb (c6 (Zh.l1 Γ)) [x1,y8,y9,x0,y10,(Value.int .i64 0)]) noN (xk 0 (c0 (ret (Value.bool true))) noX) ret))
theorem Wk : RA2 JF Zh:=ra2 Try.func3 (by kernel_rfl) fun _ _ _=>by kernel_rfl
noncomputable def Kf (Γ : Zp) : M Value:=
 bind (Γ J5 []) fun y1=>
 bind (bop .ptr .neq y1 (Value.pointer none)) fun y2=>
 bind (JJ y2 true 3 (bind (Γ ZJ [y1,(Value.int .i64 2),(Value.int .i64 5)]) fun y3=>
 bind (bop .int .eql y3 (Value.int .i64 5)) fun y4=>
 ret [y1,y3,y4])) (c3 fun _ _ q5_2=>
 bind (pick y2 q5_2 (Value.bool false)) fun y6=>
 bind (JJ y6 true 3 (bind (Γ ZV [y1,(Value.int .i64 2),(Value.int .i64 4)]) fun y7=>
 bind (uop .not y7) fun y8=>
 ret [y1,y7,y8])) (c3 fun _ _ q9_2=>
 bind (pick y6 q9_2 (Value.bool false)) fun y10=>
 bind (JJ y10 true 2 (bind (Γ ZV [y1,(Value.int .i64 2),(Value.int .i64 9)]) fun y11=>
 ret [y1,y11])) (c2 fun _ q12_1=>
 bind (pick y10 q12_1 (Value.bool false)) fun y13=>
 bind (JJ y13 true 3 (bind (Γ Qf [y1,(Value.int .i64 2)]) fun y14=>
 bind (bop .int .eql y14 (Value.int .i64 9)) fun y15=>
 ret [y1,y14,y15])) (c3 fun _ _ q16_2=>
 bind (pick y13 q16_2 (Value.bool false)) fun y17=>
 ret y17))))
theorem Zbm : RA0 J2 Kf:=ra0 Try.func4 (by kernel_rfl) fun _=>by kernel_rfl
noncomputable def K8 (Γ : Zp) (x0 x1 x2 : Value) : M Value:=
 bind (alc 1 x0) fun y1=>
 bind (alc 1 (.agg #[.int .i64 0,.int .i64 0,.int .i64 0,.int .i64 0,.int .i64 0,.int .i64 0,.int .i64 0,.int .i64 0,.int .i64 0,.int .i64 0,.int .i64 0,.int .i64 0,.int .i64 0,.int .i64 0,.int .i64 0,.int .i64 0])) fun y2=>
 bind (bop .int .lss x1 (Value.int .i64 0)) fun y3=>
 bind (JJ y3 false 2 (bind (bop .int .gtr x1 (Value.int .i64 15)) fun y4=>
 ret [x1,y4])) (c2 fun _ q5_1=>
 bind (pick y3 (Value.bool true) q5_1) fun y6=>
 cnd y6
 (bind (ldA 16 y1) fun y7=>
 bind (stA 16 y2 y7) fun _=>
 bind (ldA 16 y2) fun y8=>
 ret (Value.tuple #[y8,(Value.int .i64 0)]))
 (bind (J3 16 1 y1 x1) fun y9=>
 bind (ld1 y9) fun y10=>
 bind (bop .int .add y10 x2) fun y11=>
 bind (J3 16 1 y1 x1) fun y12=>
 bind (st1 y12 y11) fun _=>
 bind (ldA 16 y1) fun y13=>
 bind (J3 16 1 y1 x1) fun y14=>
 bind (ld1 y14) fun y15=>
 bind (stA 16 y2 y13) fun _=>
 bind (ld1 y14) fun u_16=>same u_16 y15 <|
 bind (ldA 16 y2) fun y17=>
 ret (Value.tuple #[y17,y15])))
theorem Zce : RA3 J8 K8:=ra3 Try.func5 (by kernel_rfl) fun _ _ _ _=>by kernel_rfl
noncomputable def JW (Γ : Zp) (x0 x1 x2 : Value) : M Value:=
 bind (Γ Q9 [x0,x1]) fun y1=>
 bind (bop .ptr .neq y1 (Value.pointer none)) fun y2=>
 cnd y2
 (bind (Γ Jg [y1,x2]) fun y3=>
 ret y3)
 (ret (Value.int .i64 0))
theorem W7 : RA3 ZJ JW:=ra3 Try.func6 (by kernel_rfl) fun _ _ _ _=>by kernel_rfl
noncomputable def KY (Γ : Zp) (x0 x1 x2 x3 : Value) : M Value:=
 bind (alc 1 x0) fun y1=>
 bind (alc 1 (.agg #[.int .i64 0,.int .i64 0,.int .i64 0,.int .i64 0,.int .i64 0,.int .i64 0,.int .i64 0,.int .i64 0,.int .i64 0,.int .i64 0,.int .i64 0,.int .i64 0,.int .i64 0,.int .i64 0,.int .i64 0,.int .i64 0])) fun y2=>
 bind (bop .int .lss x1 (Value.int .i64 0)) fun y3=>
 bind (JJ y3 false 2 (bind (bop .int .gtr x1 (Value.int .i64 15)) fun y4=>
 ret [x1,y4])) (c2 fun _ q5_1=>
 bind (pick y3 (Value.bool true) q5_1) fun y6=>
 bind (JJ y6 false 2 (bind (uop .not x3) fun y7=>
 ret [x3,y7])) (c2 fun _ q8_1=>
 bind (pick y6 (Value.bool true) q8_1) fun y9=>
 cnd y9
 (bind (ldA 16 y1) fun y10=>
 bind (stA 16 y2 y10) fun _=>
 bind (ldA 16 y2) fun y11=>
 ret (Value.tuple #[y11,(Value.bool false)]))
 (bind (J3 16 1 y1 x1) fun y12=>
 bind (st1 y12 x2) fun _=>
 bind (ldA 16 y1) fun y13=>
 bind (stA 16 y2 y13) fun _=>
 bind (ldA 16 y2) fun y14=>
 ret (Value.tuple #[y14,(Value.bool true)]))))
theorem ZbY : RA4 Jh KY:=ra4 Try.func7 (by kernel_rfl) fun _ _ _ _ _=>by kernel_rfl
noncomputable def Wa (Γ : Zp) (x0 x1 : Value) : M Value:=
 bind (alc 1 x0) fun y1=>
 bind (bop .int .lss x1 (Value.int .i64 0)) fun y2=>
 bind (JJ y2 false 2 (bind (bop .int .gtr x1 (Value.int .i64 15)) fun y3=>
 ret [x1,y3])) (c2 fun _ q4_1=>
 bind (pick y2 (Value.bool true) q4_1) fun y5=>
 cnd y5
 (ret (Value.int .i64 0))
 (bind (J3 16 1 y1 x1) fun y6=>
 bind (ld1 y6) fun y7=>
 ret y7))
theorem Zcc : RA2 Qg Wa:=ra2 Try.func8 (by kernel_rfl) fun _ _ _=>by kernel_rfl
noncomputable def Zq.l1 (Γ : Zp) (s2 s7 : Value) : M Out:=
 bind (bop .ptr .neq s7 (Value.pointer none)) fun y2=>
 cnd y2
 (bind (Γ Qm [s7]) fun y3=>
 bind (bop .int .geq y3 s2) fun y4=>
 cnd y4
 (ret (.ret (Value.bool false)))
 (bind (Γ ZM [s7,y3,s2]) fun y5=>
 cnd y5
 (ret (.ret (Value.bool true)))
 (ret (.nrm [s2,s7]))))
 (ret (.ext 0 []))
noncomputable def Zq (Γ : Zp) (x0 x1 x2 : Value) : M Value:=
 bind (Γ Q9 [x0,x1]) fun y1=>
 jn (Qb (c2 (Zq.l1 Γ)) [x2,y1]) noN (xk 0 (c0 (ret (Value.bool false))) noX) ret
theorem Wj : RA3 ZV Zq:=ra3 Try.func9 (by kernel_rfl) fun _ _ _ _=>by kernel_rfl
noncomputable def Jo (Γ : Zp) (x0 x1 x2 x3 : Value) : M Value:=
 bind (Γ Q9 [x0,x1]) fun y1=>
 bind (bop .ptr .neq y1 (Value.pointer none)) fun y2=>
 bind (JJ y2 true 4 (bind (Γ ZM [y1,x2,x3]) fun y3=>
 ret [y1,x2,x3,y3])) (c4 fun _ _ _ q4_3=>
 bind (pick y2 q4_3 (Value.bool false)) fun y5=>
 ret y5)
theorem WO : RA4 QN Jo:=ra4 Try.func10 (by kernel_rfl) fun _ _ _ _ _=>by kernel_rfl
noncomputable def Z3.l1 (Γ : Zp) (s3 s8 s9 : Value) : M Out:=
 bind (bop .int .lss s9 (Value.int .i64 16)) fun y3=>
 cnd y3
 (bind (ixv false 16 1 s8 s9) fun y4=>
 bind (YS s3) fun y5=>
 bind (fa 0 y5) fun y6=>
 bind (J3 16 1 y6 s9) fun y7=>
 bind (Γ Jb [y7,y4]) fun y8=>
 bind (bop .int .add s9 (Value.int .i64 1)) fun y9=>
 ret (.nrm [s3,s8,y9]))
 (ret (.ext 0 [s3]))
noncomputable def Z3 (Γ : Zp) (x0 : Value) : M Value:=
 bind (Γ J5 []) fun y1=>
 bind (Γ QR [x0]) fun y2=>
 jn (Qb (c3 (Z3.l1 Γ)) [y1,y2,(Value.int .i64 0)]) noN (xk 0 (c1 fun q11_0=>
 ret q11_0) noX) ret
theorem WL : RA1 Jl Z3:=ra1 Try.func11 (by kernel_rfl) fun _ _=>by kernel_rfl
noncomputable def JX (Γ : Zp) (x0 x1 : Value) : M Value:=
 bind (Γ Q9 [x0,x1]) fun y1=>
 bind (bop .ptr .neq y1 (Value.pointer none)) fun y2=>
 cnd y2
 (bind (Γ Qm [y1]) fun y3=>
 ret y3)
 (ret (Value.int .i64 0))
theorem W6 : RA2 Qf JX:=ra2 Try.func12 (by kernel_rfl) fun _ _ _=>by kernel_rfl
noncomputable def Qc.l1 (Γ : Zp) (s0 s2 s3 s5 : Value) : M Out:=
 bind (bop .int .lss s5 (Value.int .i64 16)) fun y3=>
 cnd y3
 (bind (YS s0) fun y4=>
 bind (fa 0 y4) fun y5=>
 bind (J3 16 1 y5 s5) fun y6=>
 bind (Γ Qm [y6]) fun y7=>
 bind (J3 16 1 s3 s5) fun y8=>
 bind (st1 y8 y7) fun _=>
 bind (bop .int .add s5 (Value.int .i64 1)) fun y9=>
 ret (.nrm [s0,s2,s3,y9]))
 (ret (.ext 0 [s2,s3]))
noncomputable def Qc (Γ : Zp) (x0 : Value) : M Value:=
 bind (alc 1 (.agg #[.int .i64 0,.int .i64 0,.int .i64 0,.int .i64 0,.int .i64 0,.int .i64 0,.int .i64 0,.int .i64 0,.int .i64 0,.int .i64 0,.int .i64 0,.int .i64 0,.int .i64 0,.int .i64 0,.int .i64 0,.int .i64 0])) fun y1=>
 bind (alc 1 (.agg #[.int .i64 0,.int .i64 0,.int .i64 0,.int .i64 0,.int .i64 0,.int .i64 0,.int .i64 0,.int .i64 0,.int .i64 0,.int .i64 0,.int .i64 0,.int .i64 0,.int .i64 0,.int .i64 0,.int .i64 0,.int .i64 0])) fun y2=>
 jn (Qb (c4 (Qc.l1 Γ)) [x0,y1,y2,(Value.int .i64 0)]) noN (xk 0 (c2 fun q11_0 q11_1=>
 bind (ldA 16 q11_1) fun y12=>
 bind (stA 16 q11_0 y12) fun _=>
 bind (ldA 16 q11_0) fun y13=>
 ret y13) noX) ret
theorem W3 : RA1 QR Qc:=ra1 Try.func13 (by kernel_rfl) fun _ _=>by kernel_rfl
noncomputable def Qh.l1 (Γ : Zp) (s3 s7 s8 : Value) : M Out:=
 bind (bop .int .lss s8 (Value.int .i64 16)) fun y2=>
 cnd y2
 (bind (ixv false 16 1 s7 s8) fun y3=>
 bind (bop .int .add s3 y3) fun y4=>
 bind (bop .int .add s8 (Value.int .i64 1)) fun y5=>
 ret (.nrm [y4,s7,y5]))
 (ret (.ext 0 [s3]))
noncomputable def Qh (Γ : Zp) (x0 : Value) : M Value:=
 bind (Γ QR [x0]) fun y1=>
 jn (Qb (c3 (Qh.l1 Γ)) [(Value.int .i64 0),y1,(Value.int .i64 0)]) noN (xk 0 (c1 fun q7_0=>
 ret q7_0) noX) ret
theorem W2 : RA1 JY Qh:=ra1 Try.func14 (by kernel_rfl) fun _ _=>by kernel_rfl
noncomputable def K7 (Γ : Zp) : M Value:=
 bind (bld (.agg #[.int .i64 0,.int .i64 0,.int .i64 0,.int .i64 0,.int .i64 0,.int .i64 0,.int .i64 0,.int .i64 0,.int .i64 0,.int .i64 0,.int .i64 0,.int .i64 0,.int .i64 0,.int .i64 0,.int .i64 0,.int .i64 0]) []) fun y1=>
 bind (alc 1 y1) fun y2=>
 ret y2
theorem ZbP : RA0 J5 K7:=ra0 Try.func15 (by kernel_rfl) fun _=>by kernel_rfl
noncomputable def JI (Γ : Zp) (x0 x1 : Value) : M Value:=
 bind (bop .int .lss x1 (Value.int .i64 0)) fun y1=>
 bind (JJ y1 false 2 (bind (bop .int .geq x1 (Value.int .i64 16)) fun y2=>
 ret [x1,y2])) (c2 fun _ q3_1=>
 bind (pick y1 (Value.bool true) q3_1) fun y4=>
 cnd y4
 (ret (Value.pointer none))
 (bind (YS x0) fun y5=>
 bind (fa 0 y5) fun y6=>
 bind (J3 16 1 y6 x1) fun y7=>
 ret y7))
theorem Zaw : RA2 Q9 JI:=ra2 Try.func16 (by kernel_rfl) fun _ _ _=>by kernel_rfl
noncomputable def JR (Γ : Zp) (x0 x1 : Value) : M Value:=
 bind (YS x0) fun y1=>
 bind (fa 0 y1) fun y2=>
 bind (Γ Yy [y2,x1]) fun y3=>
 ret y3
theorem Ku : RA2 Jg JR:=ra2 Try.func17 (by kernel_rfl) fun _ _ _=>by kernel_rfl
noncomputable def JK (Γ : Zp) (x0 : Value) : M Value:=
 bind (YS x0) fun y1=>
 bind (fa 0 y1) fun y2=>
 bind (Γ Yo [y2]) fun y3=>
 ret y3
theorem Ki : RA1 Qm JK:=ra1 Try.func18 (by kernel_rfl) fun _ _=>by kernel_rfl
noncomputable def Z8 (Γ : Zp) (x0 x1 x2 : Value) : M Value:=
 bind (YS x0) fun y1=>
 bind (fa 0 y1) fun y2=>
 bind (Γ Js [y2,x1,x2]) fun y3=>
 ret y3
theorem Yd : RA3 ZM Z8:=ra3 Try.func19 (by kernel_rfl) fun _ _ _ _=>by kernel_rfl
noncomputable def JC (Γ : Zp) (x0 x1 : Value) : M Value:=
 bind (YS x0) fun y1=>
 bind (fa 0 y1) fun y2=>
 bind (Γ Ye [y2,x1]) fun y3=>
 ret (Value.tuple #[])
theorem Kd : RA2 Jb JC:=ra2 Try.func20 (by kernel_rfl) fun _ _ _=>by kernel_rfl
end Go.Proofs.Ytfefblgkfdaekaa.A

