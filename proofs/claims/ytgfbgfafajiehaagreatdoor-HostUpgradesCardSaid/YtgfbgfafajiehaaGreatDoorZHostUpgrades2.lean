/- What the law HostUpgrades needs (part 2). -/
import Derived.Test.YtgfbgfafajiehaaGreatDoorZHostUpgrades1
import Derived.CallsIn
import Derived.TacticsIn
import Derived.OrdersIn
import Derived.LoopNIn
import Derived.Laws.Externs
import Derived.RangeFuncIn
import Derived.RangeFuncRecord
import Derived.RangeFuncLeaves
import Derived.ChangeArms
import Derived.ChangeOld
import Derived.Below
import Derived.Carry
import Derived.ProofKit
import Derived.Laws.LoneSync
import Derived.Test.YtgfbgfafajiehaaGreatDoorProg
import Derived.KernelRfl
set_option linter.unusedVariables false
set_option linter.unusedSimpArgs false
namespace Go.Proofs.YtgfbgfafajiehaaGreatDoor.A
open Go.Proofs Go.Proofs.YtgfbgfafajiehaaGreatDoor
def FR (rd:Option Nat):Fence:={ Fence.wide with round:=rd }
def _root_.Go.Oper.wpX (rd:Option Nat) (P:Program) (o:Oper) (a:Act) (w:World) (next:Act->World->Prop) (Q:Exit->Act->World->Prop):Prop:=
 o.uponIn (FR rd) 0 P a next Q ((execOp a.eval o).run P w)
theorem ZAt {rd:Option Nat} {P:Program} {o:Oper} {a:Act} {w:World} {next:Act->World->Prop} {Q:Exit->Act->World->Prop} (hd:∀ c,o.op≠.defer c) (h:o.wpX rd P a w next Q):o.wpIn (FR rd) 0 P a w next Q:=by
 refine⟨fun _ _=>trivial,?_⟩;rw[Oper.semAt_eq _ _ _ hd];exact h
theorem Zkn {rd:Option Nat} {n:Nat} {P:Program} {g:FuncId} {args:Array Value} {w:World} {R:Ending->World->Prop} (h:Calls P g args w R):CallsIn (FR rd) n P g args w R:=
 show CallsIn Fence.wide n P g args w R from callsIn_wide.2 h
theorem Zzx {rd:Option Nat} {n:Nat} {P:Program} {l:Nat} {f:FuncId} {tmps:Array Value} {assign body:Code} {w:World} {R:Ending->World->Prop} (h:RoundIn Fence.wide n P l f tmps assign body w R):RoundIn (FR rd) n P l f tmps assign body w R:=h
def ZfX (l:List Nat):List Deferred:=l.map fun b=>{ target:=.collected b,args:=#[] }
structure St (G:Nat) (w0:ZY) (N:Nat) (ι:Nat->Option Loc) (r:ZN) (H:Zd) (a:Act) (w:World):Prop where
 sim:Sim G w0 ι H w
 regs:∀ t,RV ι (Qu r t) (a.tmps.getD t undef)
 size:a.tmps.size=N
 defers:a.defers=ZfX w0.own
def Zbc (P : Program) (g : FuncId) : Prop := ∃ fn, P.funcs[g]? = some fn ∧ (fn.name == "runtime.NumGoroutine") = false ∧ fn.body.isNone = false
def Zsu (P:Program) (g:FuncId) (e:Array Value->Sem Value):Prop:=
 ∃ fn, P.funcs[g]? = some fn ∧ (fn.name == "runtime.NumGoroutine") = false ∧ fn.body.isNone = true ∧ Extern.findNext fn = none ∧ Extern.find fn = some e
def ZqA (P:Program) (G:Nat) (w0:ZY) (g:FuncId) (v:Value) (args:List Value) (H H1:Zd):Prop:=
 Zbc P g/\∀ ι w args',Sim G w0 ι H w->RVs ι args args'->
  Calls P g args'.toArray w fun e w'=>∃ ι1 v',Le ι ι1/\e=.returned v'/\RV ι1 v v'/\Sim G w0 ι1 H1 w'
def ZAv (P:Program) (G:Nat) (w0:ZY) (g:FuncId) (v:Value) (args:List Value) (H H1:Zd):Prop:=
 ∃ e,Zsu P g e/\∀ ι w args',Sim G w0 ι H w->RVs ι args args'->Res G w0 ι v H1 ((e args'.toArray).run P w)
def ZzV (P:Program) (G:Nat) (w0:ZY) (L:Nat) (v:Value) (args:List Value) (H H1:Zd):Prop:=
 ∀ ι w args' l,ι L=some l->Sim G w0 ι H w->RVs ι args args'->∃ f tmps asg bd,(Instr.yield l.blk args'.toArray).run P w=.ok (.round l.blk f tmps asg bd) w/\
  RoundIn Fence.wide 0 P l.blk f tmps asg bd w fun e w'=>∃ ι1 v',Le ι ι1/\e=.returned v'/\RV ι1 v v'/\Sim G w0 ι1 H1 w'
def WY (P:Program) (G:Nat) (w0:ZY) (g:FuncId) (m:List Value->M Value):Prop:=
 ∀ args H v H1,m args H=some (v,H1)->(g < Kn/\(ZqA P G w0 g v args H H1\/ZAv P G w0 g v args H H1))\/(Kn<=g/\ZzV P G w0 (g - Kn) v args H H1)
section
variable {P:Program} {Γ:Zc} {w0:ZY} {N:Nat} {ι:Nat->Option Loc} {r:ZN} {H:Zd} {a:Act} {w:World} {ρ:Operand->Value} {rd:Option Nat}
theorem St.put {G:Nat} (h:St G w0 N ι r H a w) {ι1:Nat->Option Loc} {H1:Zd} {w1:World} (hl:Le ι ι1) (hs:Sim G w0 ι1 H1 w1) {v v':Value} (hv:RV ι1 v v') {d:Option Nat}
  (hd:∀ x,d=some x->x < N):St G w0 N ι1 (ZbQ r d v) H1 (a.put d v') w1:=by
 cases d with
 | none=>exact⟨hs,fun t=>(h.regs t).mono hl,h.size,h.defers⟩
 | some d=>
  have hlt:=hd d rfl;refine⟨hs,fun t=>?_,by simp[Act.put,h.size],h.defers⟩;simp only[ZbQ,Qu,Act.put];by_cases e:d=t
  .subst e;simpa[h.size,hlt] using hv
  .have e1:Nat.beq d t=false:=by
    cases h:Nat.beq d t with
    | false=>rfl
    | true=>exact absurd (Nat.eq_of_beq_eq_true h) e
   have:=(h.regs t).mono hl;simpa[e1,Array.getElem?_setIfInBounds_ne e] using this
theorem St.ev (h:St P.globals.size w0 N ι r H a w) {x:Operand} (hx:Wt P x=true):RV ι (A.ev r x) (a.eval x):=by
 cases x with
 | tmp t=>exact h.regs t
 | const v=>exact .const hx
 | global g=>
  obtain⟨l,h1,h2,h3⟩:=h.sim.glob g (by simpa[Wt] using hx);have:=RV.ptr (o:=0) h1
  rwa [h2,h3] at this
 | func f=>exact .fn (fun l e=>by cases e) rfl (by simp) rfl (by simp)
theorem bind_some {α β:Type} {m:M α} {k:α->M β} {H:Zd} {x:β × Zd} (h:A.bind m k H=some x):∃ v H1,m H=some (v,H1)/\k v H1=some x:=by
 unfold A.bind at h;split at h
 .cases h
 .exact⟨_,_,by assumption,h⟩
theorem ZiE {β:Type} {H:Zd} {x:β × Zd} (h:(fail:M β) H=some x):False:=by cases h
theorem Zy {β:Type} {k:Value->M β} {H:Zd} {x:β × Zd} (h:appM (.cmp fail) k H=some x):False:=by cases h
def ZpG {β:Type} (P:Program) (w0:ZY) (ι:Nat->Option Loc) (a:Act) (dst:Option Tmp) (k:Value->M β) (x:β × Zd) (next:Act->World->Prop):Prop:=
 ∀ ι1 v v' H1 w1,Le ι ι1->RV ι1 v v'->Sim P.globals.size w0 ι1 H1 w1->k v H1=some x->next (a.put dst v') w1
theorem Qr {β:Type} {o:Oper} {k:Value->M β} {x:β × Zd} {next:Act->World->Prop} {Q:Exit->Act->World->Prop} {s:Sem Value} {v:Value} {H1:Zd}
  (hx:(execOp a.eval o).run P w=(s.run P w).andThen fun v w=>.ok (.value v) w) (hr:Res P.globals.size w0 ι v H1 (s.run P w)) (hk:k v H1=some x)
  (hn:ZpG P w0 ι a o.dst k x next):o.wpX rd P a w next Q:=by
 obtain⟨ι1,v',w1,h1,h2,h3,h4⟩:=hr;unfold Oper.wpX;rw[hx,h4];exact hn ι1 v v' H1 w1 h1 h3 h2 hk
theorem ZjH {β:Type} {o:Oper} {k:Value->M β} {x:β × Zd} {next:Act->World->Prop} {Q:Exit->Act->World->Prop} {s:Sem Unit} {v:Value} {H1:Zd}
  (hx:(execOp a.eval o).run P w=(s.run P w).andThen fun _ w=>.ok .skip w) (hr:v=undef/\ZvW P.globals.size w0 ι H1 (s.run P w)) (hk:k v H1=some x)
  (hn:ZpG P w0 ι a o.dst k x next):o.wpX rd P a w next Q:=by
 obtain⟨rfl,ι1,w1,h1,h2,h4⟩:=hr;unfold Oper.wpX;rw[hx,h4];exact hn ι1 undef undef H1 w1 h1 .un h2 hk
theorem Zmk {β:Type} {o:Oper} {k:Value->M β} {x:β × Zd} {next:Act->World->Prop} {Q:Exit->Act->World->Prop} {v v':Value}
  (hS:Sim P.globals.size w0 ι H w) (hx:(execOp a.eval o).run P w=.ok (.value v') w) (hv:RV ι v v') (hk:k v H=some x)
  (hn:ZpG P w0 ι a o.dst k x next):o.wpX rd P a w next Q:=by
 unfold Oper.wpX;rw[hx];exact hn ι v v' H w (.refl ι) hv hS hk
theorem Qz (s:Sem Value):(do pure (Next.value (<- s)):Sem Next).run P w=(s.run P w).andThen fun v w=>.ok (.value v) w:=by
 simp only[Sem.run_bind,Sem.run_pure]
theorem Ze4 (s:Sem Unit):(do s;pure Next.skip:Sem Next).run P w=(s.run P w).andThen fun _ w=>.ok .skip w:=by
 simp only[Sem.run_bind,Sem.run_pure]
theorem Zxz {β:Type} {o:Oper} {c:Call} {f:Operand} {k:Value->M β} {x:β × Zd} {next:Act->World->Prop} {Q:Exit->Act->World->Prop}
  (hS:Sim P.globals.size w0 ι H w) (hΓ:∀ g,WY P P.globals.size w0 g (Γ g)) (ho:o.op=.call c) (hf:c.callee=.value f)
  (hcf:RV ι (ρ f) (a.eval f)) (hca:∀ y∈c.args.toList,RV ι (ρ y) (a.eval y)) (h:A.bind (Qn Γ (ρ f) (c.args.toList.map ρ)) k H=some x)
  (hn:ZpG P w0 ι a o.dst k x next):o.wpX rd P a w next Q:=by
 obtain⟨v,H1,h1,hk⟩:=bind_some h;generalize hm:Qn Γ (ρ f) (c.args.toList.map ρ)=m at h1;unfold Qn at hm;split at hm
 .rename_i g first captured hev
  cases hgy:Nat.blt g Kn with
  | false=>rw[hgy] at hm;simp only[cond_false] at hm;subst hm;exact(ZiE h1).elim
  | true=>
  rw[hgy] at hm;subst hm;have hgy':g < Kn:=by simpa using hgy
  simp only[cond_true] at h1;have hvf:=hcf;rw[hev] at hvf;obtain⟨first',captured',hev',hr1,hr2⟩:=hvf.fn_inv;have hargs:∀ l:List Operand,(∀ y∈l,RV ι (ρ y) (a.eval y))->RVs ι (l.map ρ) (l.map a.eval):=by
   intro l
   induction l with
   | nil=>intro _;exact .nil
   | cons y l ih=>intro hl;exact .cons (hl y (by simp)) (ih fun z hz=>hl z (by simp[hz]))
  have e:∀ X:Sem Next,(execOp a.eval o)=(do let d <- resolve a.eval c o.type;invoke d.target d.args):=by
   intro _;unfold execOp;rw[ho]
  rcases hΓ g _ _ _ _ h1 with⟨_,⟨⟨fn,hfn,hname,hbody⟩,hcalls⟩|⟨ex,⟨fn,hfn,hname,hbody,hfnx,hfe⟩,hres⟩⟩|⟨hno,_⟩
  .have hc:=hcalls ι w _ hS (hr1.append ((hargs _ hca).append hr2));have hrun:(execOp a.eval o).run P w=.ok (.enter g (first'.toList++(c.args.toList.map a.eval++captured'.toList)).toArray) w:=by
    rw[e (pure .skip)];simp only[resolve,hf,hev',Deferred.ofValue,Sem.run_bind,Sem.run_pure,Result.andThen_ok,invoke,callFunc,run_program,hfn,hname,hbody,Bool.false_eq_true,if_false]
    congr 2
    apply Array.ext'
    simp
   unfold Oper.wpX;rw[hrun,Oper.uponIn_enter];refine⟨(fun h=>by cases h),Zkn (hc.mono fun e w' he=>?_)⟩;obtain⟨ι1,v',hle,rfl,hv,hs⟩:=he;exact hn ι1 v v' H1 w' hle hv hs hk
  .refine Qr (s:=ex (first'.toList++(c.args.toList.map a.eval++captured'.toList)).toArray) ?_ (hres ι w _ hS (hr1.append ((hargs _ hca).append hr2))) hk hn;rw[e (pure .skip)];have harr:(first'++c.args.map a.eval++captured')=(first'.toList++(c.args.toList.map a.eval++captured'.toList)).toArray:=by
    apply Array.ext';simp
   simp only[resolve,hf,hev',Deferred.ofValue,Sem.run_bind,Sem.run_pure,Result.andThen_ok,invoke,run_callFunc_extern hfn hname hbody hfnx hfe]
   first|rw[harr]|(congr 3;apply Array.ext';simp)
  .exact absurd hgy' (Nat.not_lt_of_le hno)
 .rename_i L ca cb hev;subst hm;have hvf:=hcf;rw[hev] at hvf;obtain⟨rfl,rfl,l,hl,hev'⟩:=hvf.yl_inv;have hargs:∀ l:List Operand,(∀ y∈l,RV ι (ρ y) (a.eval y))->RVs ι (l.map ρ) (l.map a.eval):=by
   intro l
   induction l with
   | nil=>intro _;exact .nil
   | cons y l ih=>intro hl;exact .cons (hl y (by simp)) (ih fun z hz=>hl z (by simp[hz]))
  rcases hΓ _ _ _ _ _ h1 with⟨hno,_⟩|⟨_,hY⟩
  .exact absurd hno (Nat.not_lt_of_le (Nat.le_add_right _ _))
  rw[Nat.add_sub_cancel_left] at hY;obtain⟨f',tmps,asg,bd,hy,hr⟩:=hY ι w _ l hl hS (hargs _ hca);have hrun:(execOp a.eval o).run P w=.ok (.round l.blk f' tmps asg bd) w:=by
   have e:(execOp a.eval o)=(do let d <- resolve a.eval c o.type;invoke d.target d.args):=by unfold execOp;rw[ho]
   rw[e];rw[<- hy];simp only[resolve,hf,hev',Deferred.ofValue,Sem.run_bind,Sem.run_pure,Result.andThen_ok,invoke]
   congr 2
   apply Array.ext'
   simp
  unfold Oper.wpX;rw[hrun,Oper.uponIn_round];refine⟨(fun h=>by cases h),Zzx (hr.mono fun e w' he=>?_)⟩;obtain⟨ι1,v',hle,rfl,hv,hs⟩:=he;exact hn ι1 v v' H1 w' hle hv hs hk
 .subst hm;exact(ZiE h1).elim
theorem Zxv {β:Type} {o:Oper} {c:Call} {f:Operand} {nm:String} {k:Value->M β} {x:β × Zd} {next:Act->World->Prop} {Q:Exit->Act->World->Prop}
  (hS:Sim P.globals.size w0 ι H w) (hΓ:∀ g,WY P P.globals.size w0 g (Γ g)) (ho:o.op=.call c) (hf:c.callee=.invoke f nm)
  (hcf:RV ι (ρ f) (a.eval f)) (hca:∀ y∈c.args.toList,RV ι (ρ y) (a.eval y)) (h:A.bind (Zbl P Γ (ρ f) nm (c.args.toList.map ρ)) k H=some x)
  (hn:ZpG P w0 ι a o.dst k x next):o.wpX rd P a w next Q:=by
 obtain⟨v,H1,h1,hk⟩:=bind_some h;generalize hm:Zbl P Γ (ρ f) nm (c.args.toList.map ρ)=m at h1;unfold Zbl at hm;split at hm
 .rename_i t y hev;split at hm
  .rename_i g hg;subst hm;have hvf:=hcf;rw[hev] at hvf;obtain⟨y',hev',hy⟩:=hvf.ifc_inv;have hargs:∀ l:List Operand,(∀ y∈l,RV ι (ρ y) (a.eval y))->RVs ι (l.map ρ) (l.map a.eval):=by
    intro l
    induction l with
    | nil=>intro _;exact .nil
    | cons y l ih=>intro hl;exact .cons (hl y (by simp)) (ih fun z hz=>hl z (by simp[hz]))
   unfold ZeJ at hg;split at hg
   .rename_i i e hi hu;split at hg
    .rename_i mt hmt;split at hg
     .rename_i g2 hp hfn2;cases hgy:Nat.blt g2 Kn with
      | false=>rw[hgy] at hg;cases hg
      | true=>
      rw[hgy] at hg;cases hg;have hgy':g < Kn:=by simpa using hgy
      have hmeth:∀ n,(method (n+1) t y' nm).run P w=.ok (g,y') w:=by
       intro n;simp[method,run_typeInfo w hi,hmt,hp,follow,hfn2,receiverAt,run_underlying hu,Place.get]
      have e:(execOp a.eval o)=(do let d <- resolve a.eval c o.type;invoke d.target d.args):=by unfold execOp;rw[ho]
      have hrun1:(execOp a.eval o).run P w=(callFunc g ((y' :: c.args.toList.map a.eval).toArray)).run P w:=by
       rw[e];simp only[resolve,hf,hev',Sem.run_bind,Sem.run_pure,Result.andThen_ok,invoke];have h0:((#[Value.iface t y']:Array Value)++c.args.map a.eval)[0]?=some (.iface t y'):=by
        rw[<- Array.getElem?_toList];simp
       have h2:((#[Value.iface t y']:Array Value)++c.args.map a.eval).extract 1 ((#[Value.iface t y']:Array Value)++c.args.map a.eval).size=c.args.map a.eval:=by
        apply Array.ext'
        simp only[Array.toList_extract,Array.toList_append,List.extract_eq_take_drop];simp
        exact List.take_of_length_le (by simp)
       rw[h0];simp only[h2,callMethod,Sem.run_bind,run_program,Result.andThen_ok];have h3:=hmeth (P.types.size+Made.depth - 1);rw[show P.types.size+Made.depth - 1+1=P.types.size+Made.depth from Nat.sub_add_cancel (Nat.le_trans (by decide) (Nat.le_add_left _ _))] at h3;rw[h3];simp only[Result.andThen_ok]
       congr 2
       apply Array.ext';simp
      rcases hΓ g _ _ _ _ h1 with⟨_,⟨⟨fn,hfn,hname,hbody⟩,hcalls⟩|⟨ex,⟨fn,hfn,hname,hbody,hfnx,hfe⟩,hres⟩⟩|⟨hno,_⟩
      .have hc:=hcalls ι w _ hS (.cons hy (hargs _ hca));have hrun:(execOp a.eval o).run P w=.ok (.enter g (y' :: c.args.toList.map a.eval).toArray) w:=by
        rw[hrun1];simp only[callFunc,Sem.run_bind,run_program,Result.andThen_ok,hfn,hname,hbody,Bool.false_eq_true,if_false,Sem.run_pure]
       unfold Oper.wpX;rw[hrun,Oper.uponIn_enter];refine⟨(fun h=>by cases h),Zkn (hc.mono fun e w' he=>?_)⟩;obtain⟨ι1,v',hle,rfl,hv,hs⟩:=he;exact hn ι1 v v' H1 w' hle hv hs hk
      .refine Qr (s:=ex (y' :: c.args.toList.map a.eval).toArray) ?_ (hres ι w _ hS (.cons hy (hargs _ hca))) hk hn;rw[hrun1,run_callFunc_extern hfn hname hbody hfnx hfe]
      .exact absurd hgy' (Nat.not_lt_of_le hno)
     .cases hg
    .cases hg
   .cases hg
  .subst hm;exact(ZiE h1).elim
 .subst hm;exact(ZiE h1).elim
theorem Zbs {o:Oper} {c:Call} {b:Builtin} (ho:o.op=.call c) (hf:c.callee=.builtin b) :
  ∃ consts,∀ w,(execOp a.eval o).run P w=(builtin b c.argTypes o.type consts (c.args.map a.eval)).run P w:=by
 have e:(execOp a.eval o)=(do let d <- resolve a.eval c o.type;invoke d.target d.args):=by unfold execOp;rw[ho]
 refine⟨c.args.map fun|.const _=>true|_=>false,fun w=>?_⟩;rw[e];simp only[resolve,hf,Sem.run_bind,Sem.run_pure,Result.andThen_ok,invoke];rfl
theorem Zhh {α:Type} {c:Array α} {x:α} (h:c.toList=[x]):c=#[x]:=by
 apply Array.ext';simpa using h
theorem Zbh {α:Type} {c:Array α} {x y:α} (h:c.toList=[x,y]):c=#[x,y]:=by
 apply Array.ext';simpa using h
theorem ZvB {β:Type} {o:Oper} {c:Call} {k:Value->M β} {x:β × Zd} {next:Act->World->Prop} {Q:Exit->Act->World->Prop}
  (hS:Sim P.globals.size w0 ι H w) (hΓ:∀ g,WY P P.globals.size w0 g (Γ g)) (ho:o.op=.call c)
  (hc:∀ y∈c.operands.toList,RV ι (ρ y) (a.eval y)) (h:appM (ZdM P Γ ρ c) k H=some x) (hn:ZpG P w0 ι a o.dst k x next):o.wpX rd P a w next Q:=by
 have hargs:∀ y∈c.args.toList,RV ι (ρ y) (a.eval y):=fun y hy=>hc y (by
  simp only[Call.operands,Array.toList_append,List.mem_append];exact .inr hy)
 generalize hm:ZdM P Γ ρ c=m at h;unfold ZdM at hm;split at hm
 .rename_i f hf;subst hm;exact Zxz hS hΓ ho hf (hc f (by simp[Call.operands,hf])) hargs h hn
 .rename_i r nm hf;subst hm;exact Zxv hS hΓ ho hf (hc r (by simp[Call.operands,hf])) hargs h hn
 .
  rename_i y t hf ha ht;have hy:=hargs y (by simp[ha]);obtain⟨consts,hrun⟩:=Zbs (P:=P) (a:=a) ho hf;rw[Zhh ha,Zhh ht] at hrun;split at hm
  .subst hm;obtain⟨v,H1,h1,hk⟩:=bind_some h;exact Qr (s:=Builtin.len_ #[t] o.type #[a.eval y]) (by rw[hrun];simp[builtin]) (ZCI hS (by assumption) hy h1 _) hk hn
  .subst hm;obtain⟨v,H1,h1,hk⟩:=bind_some h;exact Qr (s:=Builtin.len_ #[t] o.type #[a.eval y]) (by rw[hrun];simp[builtin]) (ZBw hS (by assumption) hy h1 _) hk hn
  .subst hm;obtain⟨v,H1,h1,hk⟩:=bind_some h;exact Qr (s:=Builtin.len_ #[t] o.type #[a.eval y]) (by rw[hrun];simp[builtin]) (ZB9 hS (by assumption) hy h1) hk hn
  .subst hm;exact(Zy h).elim
 .
  rename_i s y t u hf ha ht;have hs:=hargs s (by simp[ha]);have hy:=hargs y (by simp[ha]);obtain⟨consts,hrun⟩:=Zbs (P:=P) (a:=a) ho hf;rw[Zbh ha,Zbh ht] at hrun;split at hm
  .rename_i e d hue hud;cases he:okE P e with
   | false=>rw[he] at hm;subst hm;exact(Zy h).elim
   | true=>
    rw[he] at hm;subst hm;obtain⟨v,H1,h1,hk⟩:=bind_some h;exact Qr (s:=Builtin.append_ #[t,u] o.type #[a.eval s,a.eval y]) (by rw[hrun];simp[builtin]) (Zyu hS hue (.inl ⟨_,hud⟩) he hs hy h1) hk hn
  .rename_i e hue hud;cases he:okE P e with
   | false=>rw[he] at hm;subst hm;exact(Zy h).elim
   | true=>
    rw[he] at hm;subst hm;obtain⟨v,H1,h1,hk⟩:=bind_some h;exact Qr (s:=Builtin.append_ #[t,u] o.type #[a.eval s,a.eval y]) (by rw[hrun];simp[builtin]) (Zyu hS hue (.inr hud) he hs hy h1) hk hn
  .subst hm;exact(Zy h).elim
 .
  rename_i ts y z hf ha;have hy:=hargs y (by simp[ha]);have hz:=hargs z (by simp[ha]);obtain⟨consts,hrun⟩:=Zbs (P:=P) (a:=a) ho hf;rw[Zbh ha] at hrun;subst hm;obtain⟨v,H1,h1,hk⟩:=bind_some h;exact Qr (s:=Builtin.max_ c.argTypes o.type #[a.eval y,a.eval z]) (by rw[hrun];simp[builtin]) (Zyn (mx:=true) (tys:=c.argTypes) (ty:=o.type) hS hy hz h1) hk hn
 .
  rename_i ts y z hf ha;have hy:=hargs y (by simp[ha]);have hz:=hargs z (by simp[ha]);obtain⟨consts,hrun⟩:=Zbs (P:=P) (a:=a) ho hf;rw[Zbh ha] at hrun;subst hm;obtain⟨v,H1,h1,hk⟩:=bind_some h;exact Qr (s:=Builtin.min_ c.argTypes o.type #[a.eval y,a.eval z]) (by rw[hrun];simp[builtin]) (Zyn (mx:=false) (tys:=c.argTypes) (ty:=o.type) hS hy hz h1) hk hn
 .
  rename_i d y t u hf ha ht;have hd:=hargs d (by simp[ha]);have hy:=hargs y (by simp[ha]);obtain⟨consts,hrun⟩:=Zbs (P:=P) (a:=a) ho hf;rw[Zbh ha,Zbh ht] at hrun;split at hm
  .rename_i e hue;cases he:okE P e with
   | false=>rw[he] at hm;subst hm;exact(Zy h).elim
   | true=>
    rw[he] at hm;subst hm;obtain⟨v,H1,h1,hk⟩:=bind_some h;exact Qr (s:=Builtin.copy_ #[t,u] o.type #[a.eval d,a.eval y]) (by rw[hrun];simp[builtin]) (ZDH hS hue he hd hy h1) hk hn
  .subst hm;exact(Zy h).elim
 .
  rename_i y t hf ha ht;have hy:=hargs y (by simp[ha]);obtain⟨consts,hrun⟩:=Zbs (P:=P) (a:=a) ho hf;rw[Zhh ha,Zhh ht] at hrun;split at hm
  .rename_i e hue;cases he:okE P e with
   | false=>rw[he] at hm;subst hm;exact(Zy h).elim
   | true=>
    rw[he] at hm;subst hm;obtain⟨v,H1,h1,hk⟩:=bind_some h;exact Qr (s:=Builtin.clear_ #[t] o.type #[a.eval y]) (by rw[hrun];simp[builtin]) (Zus hS hue he hy h1) hk hn
  .rename_i kt e hue;subst hm;obtain⟨v,H1,h1,hk⟩:=bind_some h;exact Qr (s:=Builtin.clear_ #[t] o.type #[a.eval y]) (by rw[hrun];simp[builtin]) (Zxq hS hue hy h1) hk hn
  .subst hm;exact(Zy h).elim
 .
  rename_i m1 y t u hf ha ht;have hm1:=hargs m1 (by simp[ha]);have hy:=hargs y (by simp[ha]);obtain⟨consts,hrun⟩:=Zbs (P:=P) (a:=a) ho hf;rw[Zbh ha,Zbh ht] at hrun;split at hm
  .rename_i kt e hue;subst hm;obtain⟨v,H1,h1,hk⟩:=bind_some h;exact Qr (s:=Builtin.delete_ #[t,u] o.type #[a.eval m1,a.eval y]) (by rw[hrun];simp[builtin]) (ZDt hS hue hm1 hy h1) hk hn
  .subst hm;exact(Zy h).elim
 .subst hm;exact(Zy h).elim
theorem RO.map {x:Option Operand} (h:∀ y,x=some y->RV ι (ρ y) (a.eval y)):RO ι (x.map ρ) (x.map a.eval):=by
 cases x with
 | none=>trivial
 | some y=>exact h y rfl
theorem RVs.map {l:List Operand} (h:∀ y∈l,RV ι (ρ y) (a.eval y)):RVs ι (l.map ρ) (l.map a.eval):=by
 induction l with
 | nil=>exact .nil
 | cons y l ih=>exact .cons (h y (by simp)) (ih fun z hz=>h z (by simp[hz]))
theorem PR.struct {fs:Array Field}:∀ {ps:List (Nat × Operand)} {l:List (Nat × Nat × Value)},(∀ p∈ps,RV ι (ρ p.2) (a.eval p.2))->
  (ps.mapM fun p=>match fs[p.1]? with|some f=>some (f.offset,szT P f.type,ρ p.2)|none=>none)=some l->
  PR ι (fun i=>(fs[i]?).map fun f=>(f.offset,szT P f.type)) l (ps.map fun p=>(p.1,a.eval p.2))
 | [],l,_,h=>by simp at h;subst h;exact .nil
 | p :: ps,l,hr,h=>by
  simp only[List.mapM_cons] at h;cases hf:fs[p.1]? with
  | none=>simp[hf] at h
  | some f=>
   simp only[hf] at h;simp only[Option.bind_eq_bind,Option.bind_some] at h;cases hl:(ps.mapM fun p=>match fs[p.1]? with|some f=>some (f.offset,szT P f.type,ρ p.2)|none=>none) with
   | none=>rw[hl] at h;simp at h
   | some l'=>
    rw[hl] at h;simp at h
    subst h;exact .cons (by simp[hf]) (hr p (by simp)) (PR.struct (fun q hq=>hr q (by simp[hq])) hl)
theorem PR.arr {n:Nat}:∀ {ps:List (Nat × Operand)},(∀ p∈ps,RV ι (ρ p.2) (a.eval p.2))->
  PR ι (fun i=>some (i * n,n)) (ps.map fun p=>(p.1 * n,n,ρ p.2)) (ps.map fun p=>(p.1,a.eval p.2))
 | [],_=>.nil
 | p :: ps,hr=>.cons rfl (hr p (by simp)) (PR.arr fun q hq=>hr q (by simp[hq]))
theorem ZyP {β:Type} {o:Oper} {op:Op} {k:Value->M β} {x:β × Zd} {next:Act->World->Prop} {Q:Exit->Act->World->Prop}
  (hS:Sim P.globals.size w0 ι H w) (hΓ:∀ g,WY P P.globals.size w0 g (Γ g)) (ho:o.op=op)
  (hc:∀ y∈op.operands.toList,RV ι (ρ y) (a.eval y)) (h:WE P Γ ρ op k H=some x) (hn:ZpG P w0 ι a o.dst k x next):o.wpX rd P a w next Q:=by
 cases op with
 | move y=>
  exact Zmk hS (by unfold execOp;rw[ho];rfl) (hc y (by simp[Op.operands])) h hn
 | assign y=>
  exact Zmk hS (by unfold execOp;rw[ho];rfl) (hc y (by simp[Op.operands])) h hn
 | pick c y z=>
  obtain⟨v,H1,h1,hk⟩:=bind_some h;exact Qr (s:=do pure (if <- asBool (a.eval c) then a.eval y else a.eval z)) (by simp only[execOp,ho,Sem.run_bind,Sem.run_pure];cases (asBool (a.eval c)).run P w<;>rfl)
   (ZCE hS (hc c (by simp[Op.operands])) (hc y (by simp[Op.operands])) (hc z (by simp[Op.operands])) h1) hk hn
 | extract t i=>
  obtain⟨v,H1,h1,hk⟩:=bind_some h;exact Qr (s:=Instr.extract (a.eval t) i) (by unfold execOp;rw[ho];exact Qz _) (ZBt hS (hc t (by simp[Op.operands])) h1) hk hn
 | nilCheck y=>
  obtain⟨v,H1,h1,hk⟩:=bind_some h;have hy:=hc y (by simp[Op.operands]);unfold Zz at h1;split at h1
  .rename_i b hev;cases h1;rw[hev] at hy;obtain⟨b',hb',hb2⟩:=hy.ptr_none;cases b' with
   | none=>simp at hb2
   | some b'=>
    exact Zmk hS (v':=.pointer (some b')) (by unfold execOp;rw[ho];simp only[hb'];rfl) (by rw[<- hb'];exact hy) hk hn
  .rename_i f p q hev;cases h1;rw[hev] at hy;obtain⟨p',q',hb',_⟩:=hy.fn_inv;exact Zmk hS (v':=.func (.func f) p' q') (by unfold execOp;rw[ho];simp only[hb'];rfl) (by rw[<- hb'];exact hy) hk hn
  .cases h1
 | binOp bo t y z t2=>
  obtain⟨v,H1,h1,hk⟩:=bind_some h;exact Qr (s:=do eqGuard bo t y z (a.eval y) (a.eval z);binOp bo t (a.eval y) (a.eval z)) (by unfold execOp;rw[ho];exact Qz (P:=P) (w:=w) _)
   (ZEq hS (hc y (by simp[Op.operands])) (hc z (by simp[Op.operands])) h1) hk hn
 | unOp uo t y=>
  obtain⟨v,H1,h1,hk⟩:=bind_some h;exact Qr (s:=Op.unary uo (a.eval y)) (by unfold execOp;rw[ho];exact Qz _) (ZDI hS (hc y (by simp[Op.operands])) h1) hk hn
 | convert s d y=>
  have hy:=hc y (by simp[Op.operands]);unfold WE at h;generalize hm:opM P Γ ρ (.convert s d y)=m at h;unfold opM at hm;simp only at hm;have hx:∀ w,(execOp a.eval o).run P w=((convert s d (a.eval y)).run P w).andThen fun v w=>.ok (.value v) w:=fun w=>by unfold execOp;rw[ho];exact Qz _
  split at hm
  .subst hm;obtain⟨v,H1,h1,hk⟩:=bind_some h;exact Qr (hx w) (ZD6 hS (by assumption) (by assumption) hy h1) hk hn
  .subst hm;obtain⟨v,H1,h1,hk⟩:=bind_some h;exact Qr (hx w) (ZEi hS (by assumption) (by assumption) hy h1) hk hn
  .split at hm
   .subst hm;obtain⟨v,H1,h1,hk⟩:=bind_some h;exact Qr (hx w) (ZDB hS (by assumption) (by assumption) (by assumption) hy h1) hk hn
   .subst hm;exact(Zy h).elim
  .split at hm
   .subst hm;obtain⟨v,H1,h1,hk⟩:=bind_some h;exact Qr (hx w) (ZEu hS (by assumption) (by assumption) (by assumption) hy h1) hk hn
   .subst hm;exact(Zy h).elim
  .rename_i hu1 hu2;split at hm
   .rename_i hu3;cases hb:Nat.beq s d with
    | false=>rw[hb] at hm;subst hm;exact(Zy h).elim
    | true=>
     rw[hb] at hm;have:=Nat.eq_of_beq_eq_true hb;subst this;subst hm;obtain⟨v,H1,h1,hk⟩:=bind_some h;exact Qr (hx w) (ZD7 hS hu1 hu2 hu3 hy h1) hk hn
   .subst hm;exact(Zy h).elim
  .subst hm;exact(Zy h).elim
 | fieldAddr s y f=>
  have hy:=hc y (by simp[Op.operands]);unfold WE at h;generalize hm:opM P Γ ρ (.fieldAddr s y f)=m at h;unfold opM at hm;simp only at hm;split at hm
  .split at hm
   .rename_i fd hfd;cases hz:Nat.beq (szT P fd.type) 0 with
    | true=>rw[hz] at hm;subst hm;exact(Zy h).elim
    | false=>
     rw[hz] at hm;subst hm;obtain⟨v,H1,h1,hk⟩:=bind_some h;exact Qr (s:=Instr.fieldAt s (a.eval y) f) (by unfold execOp;rw[ho];exact Qz _)
      (ZET hS (by assumption) hfd (fun e=>by rw[e] at hz;cases hz) hy h1) hk hn
   .subst hm;exact(Zy h).elim
  .subst hm;exact(Zy h).elim
 | field s y f=>
  have hy:=hc y (by simp[Op.operands]);unfold WE at h;generalize hm:opM P Γ ρ (.field s y f)=m at h;unfold opM at hm;simp only at hm;split at hm
  .split at hm
   .split at hm
    .subst hm;obtain⟨v,H1,h1,hk⟩:=bind_some h;exact Qr (s:=Instr.field s (a.eval y) f) (by unfold execOp;rw[ho];exact Qz _) (ZDO hS (by assumption) (by assumption) (by assumption) hy h1) hk hn
    .subst hm;exact(Zy h).elim
   .subst hm;exact(Zy h).elim
  .subst hm;exact(Zy h).elim
 | indexAddr t y i=>
  have hy:=hc y (by simp[Op.operands]);have hi:=hc i (by simp[Op.operands]);unfold WE at h;generalize hm:opM P Γ ρ (.indexAddr t y i)=m at h;unfold opM at hm;simp only at hm;have hx:∀ w,(execOp a.eval o).run P w=((Instr.indexAt t (a.eval y) (a.eval i)).run P w).andThen fun v w=>.ok (.value v) w:=fun w=>by unfold execOp;rw[ho];exact Qz _
  split at hm
  .rename_i e hu;cases he:P.info? e with
   | none=>rw[he] at hm;subst hm;exact(Zy h).elim
   | some ie=>
    rw[he] at hm;subst hm;obtain⟨v,H1,h1,hk⟩:=bind_some h;exact Qr (hx w) (ZEp hS hu he hy hi h1) hk hn
  .rename_i n e hu;cases he:P.info? e with
   | none=>rw[he] at hm;subst hm;exact(Zy h).elim
   | some ie=>
    rw[he] at hm;subst hm;obtain⟨v,H1,h1,hk⟩:=bind_some h;exact Qr (hx w) (ZB0 hS hu he hy hi h1) hk hn
  .subst hm;exact(Zy h).elim
 | index t y i=>
  have hy:=hc y (by simp[Op.operands]);have hi:=hc i (by simp[Op.operands]);unfold WE at h;generalize hm:opM P Γ ρ (.index t y i)=m at h;unfold opM at hm;simp only at hm;have hx:∀ w,(execOp a.eval o).run P w=((Instr.index t (a.eval y) (a.eval i)).run P w).andThen fun v w=>.ok (.value v) w:=fun w=>by unfold execOp;rw[ho];exact Qz _
  split at hm
  .subst hm;obtain⟨v,H1,h1,hk⟩:=bind_some h;exact Qr (hx w) (ZC1 hS (by assumption) hy hi h1) hk hn
  .split at hm
   .subst hm;obtain⟨v,H1,h1,hk⟩:=bind_some h;exact Qr (hx w) (ZDx hS (by assumption) (by assumption) hy hi h1) hk hn
   .subst hm;exact(Zy h).elim
  .subst hm;exact(Zy h).elim
 | load t y=>
  have hy:=hc y (by simp[Op.operands]);unfold WE at h;generalize hm:opM P Γ ρ (.load t y)=m at h;unfold opM at hm;simp only at hm;have hx:∀ w,(execOp a.eval o).run P w=((Instr.loadAt t (a.eval y)).run P w).andThen fun v w=>.ok (.value v) w:=fun w=>by unfold execOp;rw[ho];exact Qz _
  split at hm
  .subst hm;obtain⟨v,H1,h1,hk⟩:=bind_some h;exact Qr (hx w) (ZDq hS (by assumption) hy h1) hk hn
  .subst hm;obtain⟨v,H1,h1,hk⟩:=bind_some h;exact Qr (hx w) (ZBb hS (by assumption) hy h1) hk hn
  .subst hm;exact(Zy h).elim
 | store t y z=>
  have hy:=hc y (by simp[Op.operands]);have hz:=hc z (by simp[Op.operands]);unfold WE at h;generalize hm:opM P Γ ρ (.store t y z)=m at h;unfold opM at hm;simp only at hm;have hx:∀ w,(execOp a.eval o).run P w=((Instr.storeAt t (a.eval y) (a.eval z)).run P w).andThen fun _ w=>.ok .skip w:=fun w=>by unfold execOp;rw[ho];exact Ze4 _
  split at hm
  .subst hm;obtain⟨v,H1,h1,hk⟩:=bind_some h;exact ZjH (hx w) (ZD8 hS (by assumption) hy hz h1) hk hn
  .cases hb:Nat.beq (szT P t) 1 with
   | false=>rw[hb] at hm;subst hm;exact(Zy h).elim
   | true=>
    rw[hb] at hm;subst hm;obtain⟨v,H1,h1,hk⟩:=bind_some h;exact ZjH (hx w) (ZzX hS (by assumption) (Nat.eq_of_beq_eq_true hb) hy hz h1) hk hn
  .subst hm;exact(Zy h).elim
 | alloc t=>
  unfold WE at h;generalize hm:opM P Γ ρ (.alloc t)=m at h;unfold opM at hm;simp only at hm;cases hb:ZaU P t with
  | false=>rw[hb] at hm;subst hm;exact(Zy h).elim
  | true=>
   rw[hb] at hm;subst hm;obtain⟨v,H1,h1,hk⟩:=bind_some h;exact Qr (s:=Instr.alloc t true (.tuple #[])) (by unfold execOp;rw[ho];exact Qz _) (ZAM hS hb h1) hk hn
 | box t y=>
  obtain⟨v,H1,h1,hk⟩:=bind_some h;exact Qr (s:=Instr.box t (a.eval y)) (by unfold execOp;rw[ho];exact Qz _) (ZDj hS (hc y (by simp[Op.operands])) h1) hk hn
 | call c=>
  exact ZvB hS hΓ ho hc h hn
 | slice t y lo hi mx=>
  have hop:∀ z,z∈([y]++lo.toList++hi.toList++mx.toList)->RV ι (ρ z) (a.eval z):=fun z hz=>hc z (by simpa[Op.operands] using hz);have hy:=hop y (by simp);have hlo:RO ι (lo.map ρ) (lo.map a.eval):=RO.map fun z hz=>hop z (by simp[hz]);have hhi:RO ι (hi.map ρ) (hi.map a.eval):=RO.map fun z hz=>hop z (by simp[hz]);have hmx:RO ι (mx.map ρ) (mx.map a.eval):=RO.map fun z hz=>hop z (by simp[hz]);unfold WE at h;generalize hm:opM P Γ ρ (.slice t y lo hi mx)=m at h;unfold opM at hm;simp only at hm;have hx:∀ w,(execOp a.eval o).run P w=((Instr.sliceAt t (a.eval y) (lo.map a.eval) (hi.map a.eval) (mx.map a.eval)).run P w).andThen fun v w=>.ok (.value v) w:=fun w=>by unfold execOp;rw[ho];exact Qz _
  split at hm
  .split at hm
   .subst hm;obtain⟨v,H1,h1,hk⟩:=bind_some h;exact Qr (hx w) (ZC6 hS (by assumption) hy hlo hhi h1) hk hn
   .subst hm;exact(Zy h).elim
  .rename_i e hu;cases he:P.info? e with
   | none=>
    split at hm
    .subst hm;exact(Zy h).elim
    .rw[he] at hm;subst hm;exact(Zy h).elim
   | some ie=>
    split at hm
    .subst hm;exact(Zy h).elim
    .rename_i hne;rw[he] at hm;subst hm;obtain⟨v,H1,h1,hk⟩:=bind_some h;exact Qr (hx w) (ZEj hS hu he hy hlo hhi hmx (by cases mx<;>cases hi<;>simp at hne ⊢) h1) hk hn
  .subst hm;exact(Zy h).elim
 | build t ps=>
  have hop:∀ p∈ps.toList,RV ι (ρ p.2) (a.eval p.2):=fun p hp=>hc p.2 (by
   simp only[Op.operands,List.mem_map];exact⟨p,hp,rfl⟩)
  unfold WE at h;generalize hm:opM P Γ ρ (.build t ps)=m at h;unfold opM at hm;simp only at hm;have hx:∀ w,(execOp a.eval o).run P w=((Instr.build t (ps.map fun p=>(p.1,a.eval p.2))).run P w).andThen fun v w=>.ok (.value v) w:=fun w=>by unfold execOp;rw[ho];exact Qz _
  cases hb:ZaU P t && Zfv P t with
  | false=>rw[hb] at hm;subst hm;exact(Zy h).elim
  | true=>
   rw[hb] at hm;simp only[Bool.and_eq_true] at hb;simp only[cond_true] at hm;split at hm
   .rename_i l hl;subst hm;obtain⟨v,H1,h1,hk⟩:=bind_some h;unfold ZjE at hl;split at hl
    .rename_i fs hu;refine Qr (hx w) (Zyp hS hb.1 hb.2 (.inl ⟨fs,hu,rfl⟩) ?_ h1) hk hn;have:=PR.struct (P:=P) (ι:=ι) (a:=a) (fs:=fs) hop hl;simpa using this
    .rename_i n e hu;cases hl;refine Qr (hx w) (Zyp hS hb.1 hb.2 (.inr ⟨n,e,hu,rfl⟩) ?_ h1) hk hn;have:=PR.arr (ι:=ι) (a:=a) (n:=szT P e) hop;simpa using this
    .cases hl
   .subst hm;exact(Zy h).elim
 | buildSlice t len ps=>
  have hop:∀ p∈ps.toList,RV ι (ρ p.2) (a.eval p.2):=fun p hp=>hc p.2 (by
   simp only[Op.operands,List.mem_map];exact⟨p,hp,rfl⟩)
  unfold WE at h;generalize hm:opM P Γ ρ (.buildSlice t len ps)=m at h;unfold opM at hm;simp only at hm;have hx:∀ w,(execOp a.eval o).run P w=((Instr.buildSlice t len (ps.map fun p=>(p.1,a.eval p.2))).run P w).andThen fun v w=>.ok (.value v) w:=fun w=>by unfold execOp;rw[ho];exact Qz _
  split at hm
  .rename_i e hu;cases hb:okE P e && Nat.ble (len * szT P e) 16777216 with
   | false=>rw[hb] at hm;subst hm;exact(Zy h).elim
   | true=>
    rw[hb] at hm;subst hm;simp only[Bool.and_eq_true] at hb;obtain⟨v,H1,h1,hk⟩:=bind_some h;refine Qr (hx w) (ZDC hS hu hb.1 (Nat.le_of_ble_eq_true hb.2) ?_ h1) hk hn;have:=PR.arr (ι:=ι) (a:=a) (n:=szT P e) hop;simpa using this
  .subst hm;exact(Zy h).elim
 | makeSlice t y z=>
  have hy:=hc y (by simp[Op.operands]);have hz:=hc z (by simp[Op.operands]);unfold WE at h;generalize hm:opM P Γ ρ (.makeSlice t y z)=m at h;unfold opM at hm;simp only at hm;have hx:∀ w,(execOp a.eval o).run P w=((Instr.makeSlice t (a.eval y) (a.eval z)).run P w).andThen fun v w=>.ok (.value v) w:=fun w=>by unfold execOp;rw[ho];exact Qz _
  split at hm
  .rename_i e hu;cases hb:okE P e with
   | false=>rw[hb] at hm;subst hm;exact(Zy h).elim
   | true=>
    rw[hb] at hm;subst hm;obtain⟨v,H1,h1,hk⟩:=bind_some h;exact Qr (hx w) (ZC4 hS hu hb hy hz h1) hk hn
  .subst hm;exact(Zy h).elim
 | makeMap t rs=>
  unfold WE at h;generalize hm:opM P Γ ρ (.makeMap t rs)=m at h;unfold opM at hm;simp only at hm;split at hm
  .subst hm;obtain⟨v,H1,h1,hk⟩:=bind_some (m:=mkm) (k:=k) h;exact Qr (s:=Instr.makeMap t none) (by unfold execOp;rw[ho];exact Qz _) (ZDv hS h1) hk hn
  .subst hm;exact(Zy h).elim
 | lookup t y z ok=>
  have hy:=hc y (by simp[Op.operands]);have hz:=hc z (by simp[Op.operands]);unfold WE at h;generalize hm:opM P Γ ρ (.lookup t y z ok)=m at h;unfold opM at hm;simp only at hm;split at hm
  .rename_i kt e hu;cases hb:ZaU P e with
   | false=>rw[hb] at hm;subst hm;exact(Zy h).elim
   | true=>
    rw[hb] at hm;subst hm;obtain⟨v,H1,h1,hk⟩:=bind_some h;exact Qr (s:=Instr.lookup t (a.eval y) (a.eval z) ok) (by unfold execOp;rw[ho];exact Qz _) (ZEd hS hu hb hy hz h1) hk hn
  .subst hm;exact(Zy h).elim
 | mapUpdate t y z u=>
  have hy:=hc y (by simp[Op.operands]);have hz:=hc z (by simp[Op.operands]);have hu:=hc u (by simp[Op.operands]);unfold WE at h;generalize hm:opM P Γ ρ (.mapUpdate t y z u)=m at h;unfold opM at hm;simp only at hm;split at hm
  .subst hm;obtain⟨v,H1,h1,hk⟩:=bind_some h;exact ZjH (s:=Instr.mapUpdate t (a.eval y) (a.eval z) (a.eval u)) (by unfold execOp;rw[ho];exact Ze4 _) (Zx3 hS (by assumption) hy hz hu h1) hk hn
  .subst hm;exact(Zy h).elim
 | insert t y z u=>
  have hy:=hc y (by simp[Op.operands]);have hz:=hc z (by simp[Op.operands]);have hu:=hc u (by simp[Op.operands]);unfold WE at h;generalize hm:opM P Γ ρ (.insert t y z u)=m at h;unfold opM at hm;simp only at hm;split at hm
  .subst hm;obtain⟨v,H1,h1,hk⟩:=bind_some h;exact ZjH (s:=Instr.mapUpdate t (a.eval y) (a.eval z) (a.eval u)) (by unfold execOp;rw[ho];exact Ze4 _) (Zx3 hS (by assumption) hy hz hu h1) hk hn
  .subst hm;exact(Zy h).elim
 | mapEntry t y z=>
  have hy:=hc y (by simp[Op.operands]);have hz:=hc z (by simp[Op.operands]);unfold WE at h;generalize hm:opM P Γ ρ (.mapEntry t y z)=m at h;unfold opM at hm;simp only at hm;split at hm
  .rename_i kt e hu;cases hb:ZaU P e with
   | false=>rw[hb] at hm;subst hm;exact(Zy h).elim
   | true=>
    rw[hb] at hm;subst hm;obtain⟨v,H1,h1,hk⟩:=bind_some h;exact Qr (s:=Instr.mapEntry t (a.eval y) (a.eval z)) (by unfold execOp;rw[ho];exact Qz _) (ZDy hS hu hb hy hz h1) hk hn
  .subst hm;exact(Zy h).elim
 | entryStore t y z u=>
  obtain⟨v,H1,h1,hk⟩:=bind_some h;exact ZjH (s:=Instr.entryStore t (a.eval y) (a.eval z) (a.eval u)) (by unfold execOp;rw[ho];exact Ze4 _)
   (ZEe hS (hc y (by simp[Op.operands])) (hc z (by simp[Op.operands])) (hc u (by simp[Op.operands])) h1) hk hn
 | makeFunc fn fs cs=>
  have hop:∀ z,z∈(fs++cs).toList->RV ι (ρ z) (a.eval z):=fun z hz=>hc z (by simpa[Op.operands] using hz);cases fn with
  | func gf=>?_
  | _=>exact(Zy h).elim
  refine Zmk hS (v':=.func (.func gf) (fs.map a.eval) (cs.map a.eval)) (by unfold execOp;rw[ho];rfl) ?_ h hn;have h1:=RVs.map (ι:=ι) (a:=a) (l:=fs.toList) fun z hz=>hop z (by simp at hz ⊢;exact .inl hz);have h2:=RVs.map (ι:=ι) (a:=a) (l:=cs.toList) fun z hz=>hop z (by simp at hz ⊢;exact .inr hz);obtain⟨e1,e2⟩:=RVs.to_arr (a:=fs.map ρ) (a':=fs.map a.eval) (by simpa using h1);obtain⟨e3,e4⟩:=RVs.to_arr (a:=cs.map ρ) (a':=cs.map a.eval) (by simpa using h2);exact .fn (fun l e=>by cases e) e1 e2 e3 e4
 | makeInterface t y=>
  have hy:=hc y (by simp[Op.operands]);unfold WE at h;generalize hm:opM P Γ ρ (.makeInterface t y)=m at h;unfold opM at hm;simp only at hm;split at hm
  .subst hm;exact(Zy h).elim
  .rename_i d hne hu;subst hm;obtain⟨v,H1,h1,hk⟩:=bind_some (m:=ZpY t (ρ y)) (k:=k) h;exact Qr (s:=Instr.makeInterface t (a.eval y)) (by unfold execOp;rw[ho];exact Qz _) (ZBW hS hu hne hy h1) hk hn
  .subst hm;exact(Zy h).elim
 | range t y=>
  have hy:=hc y (by simp[Op.operands]);unfold WE at h;generalize hm:opM P Γ ρ (.range t y)=m at h;unfold opM at hm;simp only at hm;split at hm
  .rename_i hu;subst hm;obtain⟨v,H1,h1,hk⟩:=bind_some (m:=Zmn (ρ y)) (k:=k) h;exact Qr (s:=Instr.range t (a.eval y)) (by unfold execOp;rw[ho];exact Qz _) (ZBJ hS hu hy h1) hk hn
  .subst hm;exact(Zy h).elim
 | next y s=>
  have hy:=hc y (by simp[Op.operands]);unfold WE at h;cases s with
  | false=>exact(Zy h).elim
  | true=>
   obtain⟨v,H1,h1,hk⟩:=bind_some (m:=Zh9 (ρ y)) (k:=k) h;exact Qr (s:=Instr.next (a.eval y) true o.type) (by unfold execOp;rw[ho];exact Qz _) (ZB8 hS hy h1) hk hn
 | _=>exact(Zy h).elim
end
section
variable {P:Program} {Γ:Zc} {w0:ZY} {N:Nat} {ι:Nat->Option Loc} {r:ZN} {H:Zd} {a:Act} {w:World} {rd:Option Nat}
theorem Zm5 {β:Type} {m:OpR} {k:Value->M β} {x:β × Zd} (h:appM m k H=some x) :
  ∃ v H1,k v H1=some x/\∀ (γ:Type) (k':Value->M γ),appM m k' H=k' v H1:=by
 cases m with
 | val v=>exact⟨v,H,h,fun _ _=>rfl⟩
 | cmp m=>
  obtain⟨v,H1,h1,h2⟩:=bind_some (m:=m) (k:=k) h;exact⟨v,H1,h2,fun γ k'=>by simp[appM,A.bind,h1]⟩
theorem Zka {o:Oper} {v:Value} {H1:Zd} {ρ:Operand->Value} (hS:Sim P.globals.size w0 ι H w) (hΓ:∀ g,WY P P.globals.size w0 g (Γ g))
  (hρ:∀ y∈o.op.operands.toList,RV ι (ρ y) (a.eval y)) (h:∀ (γ:Type) (k':Value->M γ),appM (opM P Γ ρ o.op) k' H=k' v H1)
  {next:Act->World->Prop} {Q:Exit->Act->World->Prop} (hn:∀ ι1 v' w1,Le ι ι1->RV ι1 v v'->Sim P.globals.size w0 ι1 H1 w1->next (a.put o.dst v') w1):o.wpIn (FR rd) 0 P a w next Q:=by
 refine ZAt (fun c hc=>?_) ?_
 .have h2:=h Value (fun u=>ret u);rw[hc] at h2;cases h2
 refine ZyP (k:=fun v=>ret v) (x:=(v,H1)) hS hΓ rfl hρ (by rw[WE,h];rfl) ?_;intro ι1 u v' H2 w1 hl hv hs hk;cases hk;exact hn ι1 v' w1 hl hv hs
def ZiW {β:Type} (P:Program) (w0:ZY) (N:Nat) (ι:Nat->Option Loc) (k:ZN->M β) (x:β × Zd) (next:Act->World->Prop):Prop:=
 ∀ ι1 r1 H1 a1 w1,Le ι ι1->St P.globals.size w0 N ι1 r1 H1 a1 w1->k r1 H1=some x->next a1 w1
theorem ZlK {d:Option Nat} {v:Value} {t:Nat} (h:d≠some t):Qu (ZbQ r d v) t=Qu r t:=by
 cases d with
 | none=>rfl
 | some d=>
  have:Nat.beq d t=false:=by
   cases e:Nat.beq d t with
   | false=>rfl
   | true=>exact absurd (by rw[Nat.eq_of_beq_eq_true e]) h
  simp[ZbQ,Qu,this]
structure ZkK (P:Program) (N:Nat) (o:Oper):Prop where
 consts:∀ y∈o.op.operands.toList,Wt P y=true
 dst:∀ d,o.dst=some d->d < N
theorem ZbW {ops:List Oper} (h:ZiS P N ops=true) {o:Oper} (ho:o∈ops):ZkK P N o:=by
 unfold ZiS at h;have:=List.all_eq_true.1 h o ho;simp only[Bool.and_eq_true] at this;refine⟨List.all_eq_true.1 this.1,fun d hd=>?_⟩;have h2:=this.2;rw[hd] at h2;simpa using h2
theorem ZoV {ops:Array Oper} {j:Nat} {d:Option Tmp} {v:Value} (h:∀ e,(ops[j]?).bind (·.dst)=some e->d≠some e) :
  yielded ops (a.put d v).tmps j=yielded ops a.tmps j:=by
 unfold yielded;cases he:(ops[j]?).bind (·.dst) with
 | none=>rfl
 | some e=>
  have hne:=h e he;cases d with
  | none=>rfl
  | some d=>
   have:d≠e:=fun x=>hne (by rw[x]);simp[Act.put,Array.getElem?_setIfInBounds_ne this]
theorem Zo3 {ops:Array Oper} {Q:Exit->Act->World->Prop} {rest:List Oper} {j:Nat} {wt:Bool} (hΓ:∀ g,WY P P.globals.size w0 g (Γ g)) {β:Type} {x:β × Zd} :
  ∀ (l:List Oper) {r:ZN} {H:Zd} {ι:Nat->Option Loc} {a:Act} {w:World} {k:ZN->M β},(∀ p∈l,ZkK P N p/\p.guard=some (j,wt)/\∀ e,(ops[j]?).bind (·.dst)=some e->p.dst≠some e)->
   St P.globals.size w0 N ι r H a w->yielded ops a.tmps j=some wt->ZnB P Γ l r k H=some x->
   (∀ ι1 r1 H1 a1 w1,Le ι ι1->St P.globals.size w0 N ι1 r1 H1 a1 w1->(∀ t,(∀ p∈l,p.dst≠some t)->Qu r1 t=Qu r t)->(∀ t,(∀ p∈l,p.dst≠some t)->a1.tmps.getD t undef=a.tmps.getD t undef)->
    k r1 H1=some x->wpListIn (FR rd) 0 P ops Q rest a1 w1)->
   wpListIn (FR rd) 0 P ops Q (l++rest) a w
 | [],r,H,ι,a,w,k,_,hSt,_,h,hk=>hk ι r H a w (.refl ι) hSt (fun _ _=>rfl) (fun _ _=>rfl) h
 | p :: l,r,H,ι,a,w,k,hl,hSt,hy,h,hk=>by
  obtain⟨hok,hg,hd⟩:=hl p (by simp);simp only[ZnB,WE] at h;obtain⟨v,H1,h1,h2⟩:=Zm5 h;simp only[List.cons_append,wpListIn];rw[if_pos (by simp[Region.wanted,hg,hy])];refine(Zka hSt.sim hΓ (fun y hy=>hSt.ev (hok.consts y hy)) h2 fun ι1 v' w1 hle hv hs=>?_);have hSt1:=hSt.put hle hs hv hok.dst;refine Zo3 hΓ l (fun q hq=>hl q (by simp[hq])) hSt1 (by rw[ZoV hd];exact hy) h1 ?_;intro ι2 r2 H2 a2 w2 hle2 hSt2 hr2 ha2 hk2;refine hk ι2 r2 H2 a2 w2 (hle.trans hle2) hSt2 (fun t ht=>?_) (fun t ht=>?_) hk2
  .rw[hr2 t fun q hq=>ht q (by simp[hq]),ZlK (ht p (by simp))]
  .rw[ha2 t fun q hq=>ht q (by simp[hq])];have:=ht p (by simp);cases hdst:p.dst with
   | none=>rfl
   | some d=>
    have hne:d≠t:=fun e=>this (by rw[hdst,e]);simp[Act.put,Array.getElem?_setIfInBounds_ne hne]
theorem Zp4 {L:List Nat} {vs:List Value} {t:Nat} (h:∀ d∈L,d≠t):Qu (mk L vs++r) t=Qu r t:=by
 induction L generalizing vs with
 | nil=>rfl
 | cons d L ih=>
  have:Nat.beq d t=false:=by
   cases e:Nat.beq d t with
   | false=>rfl
   | true=>exact absurd (Nat.eq_of_beq_eq_true e) (h d (by simp))
  simp only[mk,List.cons_append,Qu,this,cond_false];exact ih fun e he=>h e (by simp[he])
theorem Zmc {L:List Nat} {r1:ZN} {t:Nat} (h:t∈L):Qu (mk L (proj L r1)++r) t=Qu r1 t:=by
 induction L with
 | nil=>cases h
 | cons d L ih=>
  simp only[proj,List.map_cons,mk,List.cons_append,Qu,List.headD_cons,List.tail_cons];cases e:Nat.beq d t with
  | true=>rw[Nat.eq_of_beq_eq_true e];rfl
  | false=>
   simp only[cond_false];refine ih ?_;cases h with
   | head=>simp at e
   | tail _ h=>exact h
theorem ZxK {L:List Nat} {n:Nat} {u:Value} {t:Nat} (h:t∈L) (hn:L.length<=n):Qu (mk L (List.replicate n u)++r) t=u:=by
 induction L generalizing n with
 | nil=>cases h
 | cons d L ih=>
  cases n with
  | zero=>simp at hn
  | succ n=>
  simp only[List.replicate_succ,mk,List.cons_append,Qu,List.headD_cons,List.tail_cons];cases e:Nat.beq d t with
  | true=>rfl
  | false=>
   simp only[cond_false];refine ih ?_ (by simp at hn;omega);cases h with
   | head=>simp at e
   | tail _ h=>exact h
theorem Zqp {ops:Array Oper} {Q:Exit->Act->World->Prop} {rest:List Oper} {j:Nat} {wt:Bool} :
  ∀ (l:List Oper) {a:Act} {w:World},(∀ p∈l,ZkK P N p/\p.guard=some (j,wt)/\∀ e,(ops[j]?).bind (·.dst)=some e->p.dst≠some e)->
   yielded ops a.tmps j≠some wt->a.tmps.size=N->a.defers=ZfX w0.own->
   (∀ a1,a1.tmps.size=N->a1.defers=ZfX w0.own->(∀ t,(∀ p∈l,p.dst≠some t)->a1.tmps.getD t undef=a.tmps.getD t undef)->(∀ t,(∃ p∈l,p.dst=some t)->a1.tmps.getD t undef=undef)->wpListIn (FR rd) 0 P ops Q rest a1 w)->
   wpListIn (FR rd) 0 P ops Q (l++rest) a w
 | [],a,w,_,_,hs,hd,hk=>hk a hs hd (fun _ _=>rfl) (by simp)
 | p :: l,a,w,hl,hy,hs,hdf,hk=>by
  obtain⟨hok,hg,hd⟩:=hl p (by simp);simp only[List.cons_append,wpListIn];rw[if_neg (by simp[Region.wanted,hg,hy])];refine⟨fun _ _=>trivial,Zqp l (fun q hq=>hl q (by simp[hq])) (by rw[ZoV hd];exact hy) (by cases p.dst<;>simp[Act.put,hs]) (by cases p.dst<;>exact hdf) ?_⟩;intro a1 h1 h2 h3 h4;have hput:∀ t,p.dst≠some t->(a.put p.dst undef).tmps.getD t undef=a.tmps.getD t undef:=by
   intro t ht;cases hdst:p.dst with
   | none=>rfl
   | some d=>
    have hne:d≠t:=fun e=>ht (by rw[hdst,e]);simp[Act.put,Array.getElem?_setIfInBounds_ne hne]
  refine hk a1 h1 h2 (fun t ht=>?_) (fun t ht=>?_)
  .rw[h3 t fun q hq=>ht q (by simp[hq]),hput t (ht p (by simp))]
  .obtain⟨q,hq,hqt⟩:=ht;by_cases hex:∃ q∈l,q.dst=some t
   .exact h4 t hex
   .have:q=p:=by
     cases hq with
     | head=>rfl
     | tail _ hq=>exact absurd ⟨q,hq,hqt⟩ hex
    subst this;rw[h3 t fun q' hq' e=>hex ⟨q',hq',e⟩,hqt];have:=hok.dst t hqt;simp[Act.put,hs,this]
end
section
variable {P:Program} {Γ:Zc} {w0:ZY} {N:Nat} {ι:Nat->Option Loc} {r:ZN} {H:Zd} {a:Act} {w:World} {rd:Option Nat}
theorem Zr7 {j:Nat} {wt:Bool}:∀ (l:List Oper),(ZiP j wt l).1++(ZiP j wt l).2=l/\∀ p∈(ZiP j wt l).1,p.guard=some (j,wt)
 | []=>⟨rfl,by simp[ZiP]⟩
 | p :: l=>by
  obtain⟨h1,h2⟩:=Zr7 (j:=j) (wt:=wt) l;unfold ZiP;cases hs:Zmb p.guard j wt with
  | false=>exact⟨rfl,by simp⟩
  | true=>
   simp only[cond_true];refine⟨by simp[h1],fun q hq=>?_⟩;cases hq with
   | head=>
    unfold Zmb at hs;split at hs
    .rename_i i v hg;simp only[Bool.and_eq_true,beq_iff_eq] at hs;rw[hg,Nat.eq_of_beq_eq_true hs.1,hs.2]
    .cases hs
   | tail _ hq=>exact h2 q hq
theorem Zxu {ops:Array Oper} (h:ZfE ops.toList=true) {o q:Oper} (ho:o∈ops.toList) (hq:q∈ops.toList) {j:Nat} {wt wt':Bool} (hg:o.guard=some (j,wt)) (hgq:q.guard=some (j,wt')) :
  ∀ e,(ops[j]?).bind (·.dst)=some e->q.dst≠some e:=by
 intro e he hqe;unfold ZfE at h;have h1:=List.all_eq_true.1 h o ho;simp only[hg] at h1;have hd:Zc9 ops.toList j=some e:=by simpa[Zc9] using he
 rw[hd] at h1;have h2:=List.all_eq_true.1 h1 q hq;simp[hgq,hqe] at h2
theorem St.join {ι1:Nat->Option Loc} {H1:Zd} {w1:World} {a1:Act} (hSt:St P.globals.size w0 N ι r H a w) (hle:Le ι ι1) (hs:Sim P.globals.size w0 ι1 H1 w1) (hsz:a1.tmps.size=N) (hdf:a1.defers=ZfX w0.own)
  {ds:List Nat} {r':ZN} (h1:∀ t,t∈ds->RV ι1 (Qu (r'++r) t) (a1.tmps.getD t undef)) (h2:∀ t,t∉ds->Qu (r'++r) t=Qu r t) (h3:∀ t,t∉ds->a1.tmps.getD t undef=a.tmps.getD t undef) :
  St P.globals.size w0 N ι1 (r'++r) H1 a1 w1:=by
 refine⟨hs,fun t=>?_,hsz,hdf⟩;by_cases ht:t∈ds
 .exact h1 t ht
 .rw[h2 t ht,h3 t ht];exact(hSt.regs t).mono hle
theorem ZfS {ops:Array Oper} {Q:Exit->Act->World->Prop} (hΓ:∀ g,WY P P.globals.size w0 g (Γ g)) (hgd:ZfE ops.toList=true) {β:Type} {x:β × Zd} :
  ∀ (n:Nat) {l:List Oper} {r:ZN} {H:Zd} {ι:Nat->Option Loc} {a:Act} {w:World} {k:ZN->M β},(∀ p∈l,ZkK P N p/\p∈ops.toList)->
   St P.globals.size w0 N ι r H a w->ZfR P Γ ops.toList n l r k H=some x->
   ZiW P w0 N ι k x (fun a1 w1=>Q .normal a1 w1)->wpListIn (FR rd) 0 P ops Q l a w
 | 0,l,r,H,ι,a,w,k,_,_,h,_=>by simp[ZfR,fail] at h
 | n+1,[],r,H,ι,a,w,k,_,hSt,h,hk=>hk ι r H a w (.refl ι) hSt h
 | n+1,o :: os,r,H,ι,a,w,k,hl,hSt,h,hk=>by
  obtain⟨hok,hmem⟩:=hl o (by simp);simp only[ZfR] at h;cases hg:o.guard with
  | none=>
   rw[hg] at h;simp only[WE] at h;obtain⟨v,H1,h1,h2⟩:=Zm5 h;simp only[wpListIn];rw[if_pos (by simp[Region.wanted,hg])];refine(Zka hSt.sim hΓ (fun y hy=>hSt.ev (hok.consts y hy)) h2 fun ι1 v' w1 hle hv hs=>?_);exact ZfS hΓ hgd n (fun p hp=>hl p (by simp[hp])) (hSt.put hle hs hv hok.dst) h1 fun ι2 r2 H2 a2 w2 hle2 hSt2 hk2=>hk ι2 r2 H2 a2 w2 (hle.trans hle2) hSt2 hk2
  | some g=>
   obtain⟨j,wt⟩:=g;rw[hg] at h;simp only at h;cases hd:Zc9 ops.toList j with
   | none=>simp[hd,fail] at h
   | some d=>
    rw[hd] at h;simp only at h;obtain⟨hsp,hspg⟩:=Zr7 (j:=j) (wt:=wt) os;generalize ZiP j wt os=p at h hsp hspg;obtain⟨p1,p2⟩:=p;simp only at h hsp hspg;subst hsp;obtain⟨vs,H1,hgate,hK⟩:=bind_some h;have hd':(ops[j]?).bind (·.dst)=some d:=by simpa[Zc9] using hd
    have hgrp:∀ q∈o :: p1,ZkK P N q/\q.guard=some (j,wt)/\∀ e,(ops[j]?).bind (·.dst)=some e->q.dst≠some e:=by
     intro q hq;obtain⟨h1,h2⟩:=hl q (by cases hq with|head=>simp|tail _ hq=>exact List.mem_cons_of_mem _ (List.mem_append_left _ hq));have hqg:q.guard=some (j,wt):=by cases hq with|head=>exact hg|tail _ hq=>exact hspg q hq
     exact⟨h1,hqg,Zxu hgd hmem h2 hg hqg⟩
    have hrest:∀ q∈p2,ZkK P N q/\q∈ops.toList:=fun q hq=>hl q (by simp[hq]);have hin:∀ t,t∉(o :: p1).filterMap (·.dst)↔∀ q∈o :: p1,q.dst≠some t:=by
     intro t;simp only[List.mem_filterMap,not_exists,not_and]
    have hreg:=hSt.regs d;have e0:o :: (p1++p2)=(o :: p1)++p2:=rfl;rw[e0];have hskip:yielded ops a.tmps j≠some wt->vs=List.replicate ((o :: p1).filterMap (·.dst)).length ZZ->H1=H->wpListIn (FR rd) 0 P ops Q ((o :: p1)++p2) a w:=by
     intro hy hvs hH1;subst hvs;subst hH1;refine Zqp (o :: p1) hgrp hy hSt.size hSt.defers fun a1 h1 h2 h3 h4=>?_;refine ZfS hΓ hgd n hrest (hSt.join (ds:=(o :: p1).filterMap (·.dst)) (.refl ι) hSt.sim h1 h2 (fun t ht=>?_) (fun t ht=>?_) (fun t ht=>?_)) hK hk
     .rw[ZxK ht (Nat.le_refl _)];have:∃ q∈o :: p1,q.dst=some t:=by simpa only[List.mem_filterMap] using ht
      rw[h4 t this];exact .nw
     .exact Zp4 fun e he hee=>ht (hee ▸ he)
     .exact h3 t ((hin t).1 ht)
    unfold gate at hgate;generalize hgv:Qu r d=gv at hgate hreg;cases gv with
    | bool b=>
     simp only at hgate;have hc:=hreg.bool_inv;have hy:yielded ops a.tmps j=some b:=by
      unfold yielded;rw[hd'];simp only[Option.bind_some];rw[Array.getD_eq_getD_getElem?] at hc;cases e:a.tmps[d]? with
      | none=>rw[e] at hc;cases hc
      | some u=>rw[e] at hc;simp only[Option.getD_some] at hc;subst hc;rfl
     cases hbw:b==wt with
     | true=>
      rw[hbw] at hgate;simp only[cond_true] at hgate;have hbe:b=wt:=by simpa using hbw
      subst hbe;refine Zo3 hΓ (o :: p1) hgrp hSt hy hgate ?_;intro ι1 r1 H2 a1 w1 hle hSt1 hr1 ha1 hk1;cases hk1;refine ZfS hΓ hgd n hrest (hSt.join (ds:=(o :: p1).filterMap (·.dst)) hle hSt1.sim hSt1.size hSt1.defers (fun t ht=>?_) (fun t ht=>?_) (fun t ht=>?_)) hK
       fun ι2 r2 H2 a2 w2 hle2 hSt2 hk2=>hk ι2 r2 H2 a2 w2 (hle.trans hle2) hSt2 hk2
      .rw[Zmc ht];exact hSt1.regs t
      .exact Zp4 fun e he hee=>ht (hee ▸ he)
      .exact ha1 t ((hin t).1 ht)
     | false=>
      rw[hbw] at hgate;simp only[cond_false] at hgate;cases hgate;exact hskip (by rw[hy];intro e;cases e;simp at hbw) rfl rfl
    | tuple us=>
     simp only at hgate;cases hus:Nat.beq us.size 1 with
     | false=>rw[hus] at hgate;cases hgate
     | true=>
      rw[hus] at hgate;simp only[cond_true] at hgate;cases hgate;refine hskip ?_ rfl rfl;have hnb:∀ b,a.tmps.getD d undef≠.bool b:=by
       intro b hb;rw[hb] at hreg;cases hreg with
       | un=>cases hus
      unfold yielded;rw[hd'];simp only[Option.bind_some];intro hh;split at hh
      .rename_i b hb;exact hnb b (by rw[Array.getD_eq_getD_getElem?,hb];rfl)
      .cases hh
    | _=>cases hgate
end
section
variable {P:Program} {Γ:Zc} {H H1:Zd} {v:Value}
theorem Zv7 {ρ ρ':Operand->Value} {c:Call} (h:∀ y∈c.operands.toList,ρ y=ρ' y):ZdM P Γ ρ c=ZdM P Γ ρ' c:=by
 have ha:∀ y∈c.args.toList,ρ y=ρ' y:=fun y hy=>h y (by
  simp only[Call.operands,Array.toList_append,List.mem_append];exact .inr hy)
 unfold ZdM;split
 .rename_i f hf;rw[h f (by simp[Call.operands,hf]),List.map_congr_left ha]
 .rename_i r nm hf;rw[h r (by simp[Call.operands,hf]),List.map_congr_left ha]
 all_goals first
  | rfl
  | (simp_all;done)
theorem ZAx {ρ ρ':Operand->Value} {op:Op} (h:∀ y∈op.operands.toList,ρ y=ρ' y):opM P Γ ρ op=opM P Γ ρ' op:=by
 cases op with
 | call c=>exact Zv7 h
 | build t ps=>
  have hp:∀ p∈ps.toList,ρ p.2=ρ' p.2:=fun p hp=>h p.2 (by simp only[Op.operands,List.mem_map];exact⟨p,hp,rfl⟩);have e:ZjE P t ps.toList ρ=ZjE P t ps.toList ρ':=by
   unfold ZjE;split
   .generalize ps.toList=l at hp
    induction l with
    | nil=>rfl
    | cons p l ih=>simp only[List.mapM_cons,hp p (by simp),ih fun q hq=>hp q (by simp[hq])]
   .congr 1;exact List.map_congr_left fun p hpm=>by rw[hp p hpm]
   .rfl
  simp only[opM,e]
 | buildSlice t n ps=>
  have hp:∀ p∈ps.toList,ρ p.2=ρ' p.2:=fun p hp=>h p.2 (by simp only[Op.operands,List.mem_map];exact⟨p,hp,rfl⟩);have e:∀ e:TypeId,(ps.toList.map fun p=>(p.1 * szT P e,szT P e,ρ p.2))=ps.toList.map fun p=>(p.1 * szT P e,szT P e,ρ' p.2):=fun e=>List.map_congr_left fun p hpm=>by rw[hp p hpm]
  simp only[opM,e]
 | makeFunc fn fs cs=>
  have e1:fs.map ρ=fs.map ρ':=Array.map_congr_left fun x hx=>h x (by simp[Op.operands,hx]);have e2:cs.map ρ=cs.map ρ':=Array.map_congr_left fun x hx=>h x (by simp[Op.operands,hx]);simp only[opM,e1,e2]
 | slice t x lo hi mx=>
  have hx:=h x (by simp[Op.operands]);have hlo:lo.map ρ=lo.map ρ':=by cases lo with|none=>rfl|some y=>simp[h y (by simp[Op.operands])]
  have hhi:hi.map ρ=hi.map ρ':=by cases hi with|none=>rfl|some y=>simp[h y (by simp[Op.operands])]
  have hmx:mx.map ρ=mx.map ρ':=by cases mx with|none=>rfl|some y=>simp[h y (by simp[Op.operands])]
  simp only[opM,hx,hlo,hhi,hmx]
 | select cs b=>rfl
 | _=>first|rfl|(simp[Op.operands] at h;simp only[opM,h];done)
def YG (m:M Value):Prop:=∀ H v H1,m H=some (v,H1)->H1=H/\∀ H2,m H2=some (v,H2)
def Zb5 (m:M Value):Prop:=∀ H v H1,m H=some (v,H1)->H1=H
theorem YG.read {m:M Value} (h:YG m):Zb5 m:=fun H v H1 e=>(h H v H1 e).1
theorem ZX:YG fail:=fun _ _ _ h=>by cases h
theorem Zd6 (v:Value):YG (ret v):=fun _ _ _ h=>by cases h;exact⟨rfl,fun _=>rfl⟩
theorem ZaZ {m:M Value} {o:Option Value} (h:∀ H,m H=o.map (·,H)):YG m:=by
 intro H v H1 e;rw[h] at e;simp only[Option.map_eq_some_iff,Prod.mk.injEq] at e;obtain⟨u,rfl,rfl,rfl⟩:=e;exact⟨rfl,fun H2=>by rw[h];rfl⟩
theorem ZAh (c a b:Value):YG (pick c a b):=by
 cases c<;>first|exact ZaZ (o:=some _) fun _=>rfl|exact fun _ _ _ h=>by cases h
theorem ZAA (t:Value) (i:Nat):YG (Zm t i):=by
 cases t with
 | tuple vs=>
  cases hs:Nat.beq vs.size 1 with
  | true=>
   refine ZaZ (o:=match vs.toList,i with
    | [.bool b],0=>some (.bool b)
    | _,_=>none) fun H=>?_
   simp only[Zm,hs,cond_true];generalize vs.toList=l
   match l,i with
   | [.bool b],0=>rfl
   | [],_=>rfl
   | [.bool b],_+1=>rfl
   | v :: u :: r,_=>cases v<;>rfl
   | [.int _ _],_=>rfl
   | [.float _ _],_=>rfl
   | [.complex _ _ _],_=>rfl
   | [.string _],_=>rfl
   | [.pointer _],_=>rfl
   | [.slice _ _ _],_=>rfl
   | [.map _],_=>rfl
   | [.chan _],_=>rfl
   | [.func _ _ _],_=>rfl
   | [.nilFunc],_=>rfl
   | [.iface _ _],_=>rfl
   | [.nilIface],_=>rfl
   | [.agg _],_=>rfl
   | [.tuple _],_=>rfl
  | false=>exact ZaZ (o:=vs[i]?) fun H=>by simp[Zm,hs]
 | _=>exact fun _ _ _ h=>by cases h
theorem ZAD (x:Value):YG (Zz x):=by
 intro H v H1 h;unfold Zz at h;split at h
 .cases h;exact⟨rfl,fun _=>rfl⟩
 .cases h;exact⟨rfl,fun _=>rfl⟩
 .cases h
theorem ZBq (tk:TK) (op:BinOp) (x y:Value):YG (bop tk op x y):=by
 intro H v H1 h;unfold bop at h ⊢;split at h
 .simp only[Option.map_eq_some_iff,Prod.mk.injEq] at h;obtain⟨u,hu,rfl,rfl⟩:=h;exact⟨rfl,fun H2=>by simp[hu]⟩
 .simp only[Option.map_eq_some_iff,Prod.mk.injEq] at h;obtain⟨u,hu,rfl,rfl⟩:=h;exact⟨rfl,fun H2=>by simp[hu]⟩
 .rename_i k a k' b h1 h2;by_cases hk:k=k'
  .simp only[hk,decide_true,cond_true,Option.map_eq_some_iff,Prod.mk.injEq] at h;obtain⟨u,hu,rfl,rfl⟩:=h;refine⟨rfl,fun H2=>?_⟩
   first|(simp[hu,hk];done)|simp_all
  .simp[hk] at h
 .simp only[Option.map_eq_some_iff,Prod.mk.injEq] at h;obtain⟨u,hu,rfl,rfl⟩:=h;refine⟨rfl,fun H2=>?_⟩
  first|(simp[hu];done)|simp_all
 .simp only[Option.map_eq_some_iff,Prod.mk.injEq] at h;obtain⟨u,hu,rfl,rfl⟩:=h;refine⟨rfl,fun H2=>?_⟩
  first|(simp[hu];done)|simp_all
 .simp only[Option.map_eq_some_iff,Prod.mk.injEq] at h;obtain⟨u,hu,rfl,rfl⟩:=h;refine⟨rfl,fun H2=>?_⟩
  first|(simp[hu];done)|simp_all
 .cases h
theorem ZCz (op:UnOp) (x:Value):YG (uop op x):=by
 intro H v H1 h;unfold uop at h ⊢;split at h
 .cases h;exact⟨rfl,fun _=>rfl⟩
 .simp only[Option.map_eq_some_iff,Prod.mk.injEq] at h;obtain⟨u,hu,rfl,rfl⟩:=h;exact⟨rfl,fun H2=>by simp[hu]⟩
 .cases h;exact⟨rfl,fun _=>rfl⟩
 .cases h
theorem ZBT (k:IntKind) (x:Value):YG (cvi k x):=by
 cases x<;>first|exact ZaZ (o:=some _) fun _=>rfl|exact fun _ _ _ h=>by cases h
theorem ZCK (x:Value):YG (cvs x):=by
 cases x<;>first|exact ZaZ (o:=some _) fun _=>rfl|exact fun _ _ _ h=>by cases h
theorem ZAw (x:Value):YG (ZC x):=by
 cases x<;>first|exact ZaZ (o:=some _) fun _=>rfl|exact fun _ _ _ h=>by cases h
theorem ZAT (x:Value):YG (JM x):=by
 cases x<;>first|exact ZaZ (o:=some _) fun _=>rfl|exact fun _ _ _ h=>by cases h
theorem ZwC (b:Bool) (x y:Value):YG (mxi b x y):=by
 cases x<;>first|(cases y<;>first|exact ZaZ (o:=some _) fun _=>rfl|exact fun _ _ _ h=>by cases h)|exact fun _ _ _ h=>by cases h
theorem ZD4 (n:Nat) (x:Value):YG (fa n x):=by
 intro H v H1 h;unfold fa at h;split at h
 .cases h;exact⟨rfl,fun _=>rfl⟩
 .cases h
theorem ZBO (n:Nat) (x y:Value):YG (ixa n x y):=by
 intro H v H1 h;unfold ixa at h;split at h
 .split at h
  .rename_i hc;cases h;exact⟨rfl,fun _=>by simp only[ixa,if_pos hc]⟩
  .cases h
 .cases h
theorem ZzY (n m:Nat) (x y:Value):YG (WN n m x y):=by
 intro H v H1 h;unfold WN at h;split at h
 .split at h
  .rename_i hc;cases h;exact⟨rfl,fun _=>by simp only[WN,if_pos hc]⟩
  .cases h
 .cases h
theorem ZCi (x y:Value):YG (ixs x y):=by
 intro H v H1 h;unfold ixs at h;split at h
 .split at h
  .rename_i h0;split at h
   .rename_i hb;cases h;exact⟨rfl,fun _=>by simp only[ixs,if_pos h0,hb]⟩
   .cases h
  .cases h
 .cases h
theorem ZwO (g:Bool) (n:Nat) (x:Value) (o:Nat):YG (prt g n x o):=by
 cases x with
 | agg cs=>
  cases g with
  | true=>exact ZaZ (o:=some _) fun _=>rfl
  | false=>exact ZaZ (o:=cs[o]?) fun _=>rfl
 | _=>exact fun _ _ _ h=>by cases h
theorem ZBr (g:Bool) (n m:Nat) (x i:Value):YG (ixv g n m x i):=by
 cases i with
 | int k i=>
  by_cases hc:0<=i/\i < n
  .intro H v H1 h;simp only[ixv,if_pos hc] at h ⊢;exact ZwO _ _ _ _ H v H1 h
  .exact fun _ _ _ h=>by simp only[ixv,if_neg hc] at h;cases h
 | _=>exact fun _ _ _ h=>by cases h
theorem ZB7 (z:Value) (ps:List (Nat × Nat × Value)):YG (bld z ps):=
 ZaZ (o:=(WB z.cells.toList ps).map fun cs=>.agg cs.toArray) fun H=>by simp[bld,Function.comp_def]
theorem ZBh (t:TypeId) (x:Value):YG (ZpY t x):=ZaZ (o:=some _) fun _=>rfl
theorem ZBI (x:Value) (lo hi:Option Value):YG (sls x lo hi):=by
 intro H v H1 h;unfold sls at h;split at h
 .split at h
  .rename_i h1 h2;split at h
   .rename_i hc;cases h;exact⟨rfl,fun _=>by simp only[sls,h1,h2,if_pos hc]⟩
   .cases h
  .cases h
 .cases h
theorem ZCo (x:Value):Zb5 (ld1 x):=by
 intro H v H1 h;unfold ld1 at h;split at h
 .split at h
  .simp only[Option.map_eq_some_iff,Prod.mk.injEq] at h;obtain⟨u,_,_,rfl⟩:=h;rfl
  .split at h
   .generalize ZhK _ _=bb at h;cases bb with
    | false=>cases h
    | true=>
     simp only[cond_true,Option.map_eq_some_iff,Prod.mk.injEq] at h;obtain⟨u,_,_,rfl⟩:=h;rfl
   .cases h
  .cases h
 .cases h
theorem ZCb (n:Nat) (x:Value):Zb5 (ldA n x):=by
 intro H v H1 h;unfold ldA at h;split at h
 .split at h
  .split at h
   .cases h;rfl
   .cases h
  .cases h
 .cases h
theorem ZAK (x:Value):Zb5 (lenM x):=by
 intro H v H1 h;unfold lenM at h;split at h
 .cases h;rfl
 .split at h
  .cases h;rfl
  .cases h;rfl
  .cases h
 .cases h
theorem ZBR (tk:TK) (z:Value) (ok:Bool) (m k:Value):Zb5 (lkp tk z ok m k):=by
 intro H v H1 h;unfold lkp at h;simp only at h;split at h
 .cases hk:okK tk k with
  | false=>simp[hk] at h
  | true=>simp[hk] at h;exact h.2.symm
 .split at h
  .cases hk:okK tk k with
   | false=>simp[hk] at h
   | true=>
    simp only[hk,cond_true] at h;split at h
    .simp at h;exact h.2.symm
    .simp at h;exact h.2.symm
    .cases h
  .cases hk:okK tk k with
   | false=>simp[hk] at h
   | true=>
    simp only[hk,cond_true] at h;split at h
    .simp at h;exact h.2.symm
    .simp at h;exact h.2.symm
    .cases h
  .cases h
 .cases h
theorem ZB5 (x:Value):Zb5 (b2s x):=by
 intro H v H1 h;unfold b2s at h;split at h
 .split at h
  .simp only[Option.map_eq_some_iff,Prod.mk.injEq] at h;obtain⟨u,_,_,rfl⟩:=h;rfl
  .cases h
 .cases h
theorem ZBF (n:Nat) (x:Value) (lo hi mx:Option Value):Zb5 (slv n x lo hi mx):=by
 intro H v H1 h;unfold slv at h;split at h
 .split at h
  .cases h;rfl
  .cases h
 .split at h
  .cases h;rfl
  .cases h
 .split at h
  .split at h
   .split at h
    .split at h
     .cases h;rfl
     .cases h;rfl
    .cases h
   .cases h
  .cases h
 .cases h
theorem ZvR {ρ:Operand->Value} {op:Op} (h:cls P op=0):YG (toM (opM P Γ ρ op)):=by
 cases op with
 | move x=>exact Zd6 _
 | assign x=>exact Zd6 _
 | pick c a b=>exact ZAh _ _ _
 | extract t i=>exact ZAA _ _
 | nilCheck x=>exact ZAD _
 | binOp op t x y t2=>exact ZBq _ _ _ _
 | unOp op t x=>exact ZCz _ _
 | makeFunc fn fs cs=>cases fn<;>first|exact Zd6 _|exact ZX
 | fieldAddr s x f=>
  simp only[opM];split
  .split
   .rename_i fd _;cases hz:Nat.beq (szT P fd.type) 0 with
    | true=>simpa[hz,toM] using ZX
    | false=>simpa[hz,toM] using ZD4 _ _
   .exact ZX
  .exact ZX
 | field s x f=>
  simp only[opM];split
  .split
   .split
    .exact ZwO _ _ _ _
    .exact ZX
   .exact ZX
  .exact ZX
 | indexAddr t x i=>
  simp only[opM];split
  .split
   .exact ZBO _ _ _
   .exact ZX
  .split
   .exact ZzY _ _ _ _
   .exact ZX
  .exact ZX
 | index t x i=>
  simp only[opM];split
  .exact ZCi _ _
  .split
   .exact ZBr _ _ _ _ _
   .exact ZX
  .exact ZX
 | build t ps=>
  simp only[opM];cases hb:ZaU P t && Zfv P t with
  | false=>simpa[hb,toM] using ZX
  | true=>
   simp only[cond_true];split
   .exact ZB7 _ _
   .exact ZX
 | makeInterface t x=>
  simp only[opM];split
  .exact ZX
  .exact ZBh _ _
  .exact ZX
 | convert s d x=>
  simp only[cls] at h;simp only[opM];split
  .exact ZBT _ _
  .exact ZCK _
  .rename_i h1 h2;simp[h1,h2] at h
  .rename_i h1 h2;simp[h1,h2] at h
  .rename_i h1 h2;simp[h1,h2] at h
  .exact ZX
 | slice t x lo hi mx=>
  simp only[cls] at h;simp only[opM];split
  .split
   .exact ZBI _ _ _
   .exact ZX
  .rename_i h1;simp[h1] at h
  .exact ZX
 | call c=>
  simp only[cls] at h;simp only[opM,ZdM];split
  .rename_i hf;simp[hf] at h
  .rename_i hf;simp[hf] at h
  .rename_i hf ha ht;simp only[hf,ht] at h;split
   .exact ZAT _
   .exact ZAw _
   .rename_i hu;simp[hu] at h
   .exact ZX
  .rename_i hf ha ht;simp[hf] at h
  .exact ZwC _ _ _
  .exact ZwC _ _ _
  .rename_i hf ha ht;simp[hf] at h
  .rename_i hf ha ht;simp[hf] at h
  .rename_i hf ha ht;simp[hf] at h
  .exact ZX
 | _=>simp[cls] at h
theorem Zys {ρ:Operand->Value} {op:Op} (h:cls P op=1):Zb5 (toM (opM P Γ ρ op)):=by
 cases op with
 | load t a=>
  simp only[opM];split
  .exact ZCb _ _
  .exact ZCo _
  .exact ZX.read
 | lookup t m k ok=>
  simp only[opM];split
  .rename_i kt e _;cases hb:ZaU P e with
   | false=>simpa[hb,toM] using ZX.read
   | true=>simpa[hb,toM] using ZBR _ _ _ _ _
  .exact ZX.read
 | convert s d x=>
  simp only[cls] at h;simp only[opM];split
  .rename_i h1 h2;simp[h1,h2] at h
  .rename_i h1 h2;simp[h1,h2] at h
  .rename_i h1 h2;simp[h1,h2] at h
  .split
   .exact ZB5 _
   .exact ZX.read
  .rename_i h1 h2;simp[h1,h2] at h
  .exact ZX.read
 | slice t x lo hi mx=>
  simp only[cls] at h;simp only[opM];split
  .rename_i h1;simp[h1] at h
  .split
   .exact ZX.read
   .split
    .exact ZBF _ _ _ _ _
    .exact ZX.read
  .exact ZX.read
 | call c=>
  simp only[cls] at h;simp only[opM,ZdM];split
  .rename_i hf;simp[hf] at h
  .rename_i hf;simp[hf] at h
  .rename_i hf ha ht;simp only[hf,ht] at h;split
   .rename_i hu;simp[hu] at h
   .rename_i hu;simp[hu] at h
   .exact ZAK _
   .exact ZX.read
  .rename_i hf ha ht;simp[hf] at h
  .rename_i hf ha;simp[hf] at h
  .rename_i hf ha;simp[hf] at h
  .rename_i hf ha ht;simp[hf] at h
  .rename_i hf ha ht;simp[hf] at h
  .rename_i hf ha ht;simp[hf] at h
  .exact ZX.read
 | _=>simp[cls] at h
end
section
variable {P:Program} {Γ:Zc} {w0:ZY} {N:Nat}
def Ziy (P:Program) (Γ:Zc) (all:List Oper) (f:Nat->Value) (o:Oper) (H:Zd) (v:Value) (H1:Zd):Prop:=
 ∀ (γ:Type) (k:Value->M γ),appM (opG P Γ all f o) k H=k v H1
theorem ZtD {all:List Oper} {f f':Nat->Value} {o:Oper} (h:∀ t∈ZdQ all o,f t=f' t):opG P Γ all f o=opG P Γ all f' o:=by
 have hop:opM P Γ (evF f) o.op=opM P Γ (evF f') o.op:=ZAx fun y hy=>by
  cases y with
  | tmp t=>
   refine h t ?_;unfold ZdQ Zzq;exact List.mem_append_left _ (List.mem_flatMap.2 ⟨.tmp t,hy,by simp[ZzD]⟩)
  | _=>rfl
 unfold opG;cases hg:o.guard with
 | none=>exact hop
 | some g=>
  obtain⟨j,w⟩:=g;simp only;cases hd:Zc9 all j with
  | none=>rfl
  | some d=>
   simp only;rw[hop,h d (by unfold ZdQ;rw[hg];simp[hd])]
theorem Zgk {m:OpR} (hm:Zb5 (toM m)) {H H1:Zd} {v:Value} (h:∀ (γ:Type) (k:Value->M γ),appM m k H=k v H1):H1=H/\toM m H=some (v,H):=by
 have e:=h (Value) (fun u=>ret u);cases m with
 | val u=>simp only[appM,ret,Option.some.injEq,Prod.mk.injEq] at e;obtain⟨rfl,rfl⟩:=e;exact⟨rfl,rfl⟩
 | cmp m=>
  obtain⟨u,H2,h1,h2⟩:=bind_some (m:=m) (k:=fun u=>ret u) (x:=(v,H1)) e;cases h2;have:=hm H v H1 h1;subst this;exact⟨rfl,h1⟩
theorem ZAo {m:OpR} {H:Zd} {v:Value} (h:toM m H=some (v,H)):∀ (γ:Type) (k:Value->M γ),appM m k H=k v H:=by
 intro γ k;cases m with
 | val u=>cases h;rfl
 | cmp m=>simp only[toM] at h;simp[appM,A.bind,h]
theorem ZBl {g:Value} {w:Bool} {m:M Value} (h:YG m):YG (gateV g w m):=by
 unfold gateV;split
 .rename_i b;cases b==w<;>first|exact Zd6 _|exact h
 .rename_i vs;cases Nat.beq vs.size 1<;>first|exact Zd6 _|exact ZX
 .exact ZX
theorem ZAS {g:Value} {w:Bool} {m:M Value} (h:Zb5 m):Zb5 (gateV g w m):=by
 unfold gateV;split
 .rename_i b;cases b==w<;>first|exact(Zd6 _).read|exact h
 .rename_i vs;cases Nat.beq vs.size 1<;>first|exact(Zd6 _).read|exact ZX.read
 .exact ZX.read
theorem Zv5 {all:List Oper} {f:Nat->Value} {o:Oper} (h:cls P o.op=0):YG (toM (opG P Γ all f o)):=by
 unfold opG;split
 .exact ZvR h
 .split
  .exact ZBl (ZvR h)
  .exact ZX
theorem Zx9 {all:List Oper} {f:Nat->Value} {o:Oper} (h:cls P o.op=1):Zb5 (toM (opG P Γ all f o)):=by
 unfold opG;split
 .exact Zys h
 .split
  .exact ZAS (Zys h)
  .exact ZX.read
def Tr (P:Program) (Γ:Zc) (an:List (List Nat)) (all:List Oper):List (Nat × Oper)->Zc6->ZN->Zd->ZN->List Zd->Zd->Prop
 | [],_,r,H,rf,hl,Hf=>rf=r/\hl=[]/\Hf=H
 | p :: l,rs,r,H,rf,hl,Hf=>∃ v H1,Ziy P Γ all (Qu r) p.2 H v H1/\
   ((cls P p.2.op=0/\Tr P Γ an all l rs (ZbQ r p.2.dst v) H rf hl Hf)\/
    (cls P p.2.op=1/\Tr P Γ an all l ((p.1,toM (opG P Γ all (Qu r) p.2),v) :: rs) (ZbQ r p.2.dst v) H rf hl Hf)\/
    ((cls P p.2.op≠0/\cls P p.2.op≠1)/\∃ hl',hl=H1 :: hl'/\(∀ q∈rs,memN (an.getD p.1 []) q.1=false->q.2.1 H1=some (q.2.2,H1))/\Tr P Γ an all l rs (ZbQ r p.2.dst v) H1 rf hl' Hf))
theorem ZrI {β:Type} {x:β × Zd}:∀ {qs:Zc6} {m:M β} {H:Zd},(∀ q∈qs,Zb5 q.2.1)->ZqH qs m H=some x->(∀ q∈qs,q.2.1 H=some (q.2.2,H))/\m H=some x
 | [],m,H,_,h=>⟨by simp,h⟩
 | q :: qs,m,H,hr,h=>by
  simp only[ZqH] at h;obtain⟨u,H2,h1,h2⟩:=bind_some h;have:=hr q (by simp) H u H2 h1;subst this;unfold same at h2;split at h2
  .rename_i e;subst e;obtain⟨h3,h4⟩:=ZrI (fun p hp=>hr p (by simp[hp])) h2;refine⟨fun p hp=>?_,h4⟩;cases hp with
   | head=>exact h1
   | tail _ hp=>exact h3 p hp
  .cases h2
theorem ZqK {β:Type} {x:β × Zd} {an:List (List Nat)} {all:List Oper} {k:ZN->M β}:∀ {l:List (Nat × Oper)} {rs:Zc6} {r:ZN} {H:Zd},(∀ q∈rs,Zb5 q.2.1)->exD P Γ an all l rs r k H=some x->
  ∃ rf hl Hf,k rf Hf=some x/\Tr P Γ an all l rs r H rf hl Hf
 | [],rs,r,H,_,h=>⟨r,[],H,h,rfl,rfl,rfl⟩
 | p :: l,rs,r,H,hrs,h=>by
  simp only[exD] at h;obtain⟨v,H1,h1,h2⟩:=Zm5 h;generalize hc:cls P p.2.op=c at h1;rcases c with _|_|c
  .have e:=(Zgk (Zv5 (Γ:=Γ) (all:=all) (f:=Qu r) hc).read h2).1;subst e;obtain⟨rf,hl,Hf,h3,h4⟩:=ZqK hrs h1;exact⟨rf,hl,Hf,h3,v,H1,h2,.inl ⟨hc,h4⟩⟩
  .have hro:=Zx9 (Γ:=Γ) (all:=all) (f:=Qu r) hc;have e:=(Zgk hro h2).1;subst e;obtain⟨rf,hl,Hf,h3,h4⟩:=ZqK (fun q hq=>by
    cases hq with
    | head=>exact hro
    | tail _ hq=>exact hrs q hq) h1
   exact⟨rf,hl,Hf,h3,v,H1,h2,.inr (.inl ⟨hc,h4⟩)⟩
  .have hc0:cls P p.2.op≠0:=by omega
   have hc1:cls P p.2.op≠1:=by omega
   obtain⟨h5,h6⟩:=ZrI (fun q hq=>hrs q (List.mem_filter.1 hq).1) h1;obtain⟨rf,hl,Hf,h3,h4⟩:=ZqK hrs h6;refine⟨rf,H1 :: hl,Hf,h3,v,H1,h2,.inr (.inr ⟨⟨hc0,hc1⟩,hl,rfl,fun q hq hn=>h5 q ?_,h4⟩)⟩;exact List.mem_filter.2 ⟨hq,by rw[hn];rfl⟩
theorem Znr {an:List (List Nat)} {all:List Oper}:∀ {l:List (Nat × Oper)} {rs:Zc6} {r:ZN} {H:Zd} {rf:ZN} {hl:List Zd} {Hf:Zd},Tr P Γ an all l rs r H rf hl Hf->
  ∀ t,(∀ p∈l,p.2.dst≠some t)->Qu rf t=Qu r t
 | [],rs,r,H,rf,hl,Hf,h,t,_=>by rw[h.1]
 | p :: l,rs,r,H,rf,hl,Hf,h,t,ht=>by
  obtain⟨v,H1,_,h⟩:=h;have:Qu rf t=Qu (ZbQ r p.2.dst v) t:=by
   rcases h with⟨_,h⟩|⟨_,h⟩|⟨_,hl',_,_,h⟩<;>exact Znr h t fun q hq=>ht q (by simp[hq])
  rw[this,ZlK (ht p (by simp))]
theorem Ku {l:List Nat} {i:Nat}:memN l i=true↔i∈l:=by
 unfold memN;rw[List.any_eq_true];constructor
 .rintro⟨x,hx,e⟩;rw[Nat.eq_of_beq_eq_true e];exact hx
 .intro h;exact⟨i,h,Nat.beq_refl i⟩
structure ZnE (fo:Option Nat) (all:List Oper) (cl:List Nat) (an:List (List Nat)) (ord:List Nat):Prop where
 nodup:ord.Nodup
 cover:∀ i,i < all.length->i∈ord
 inn:∀ i∈ord,i < all.length
 edge:∀ i o,all[i]?=some o->∀ e∈Zed o,e∈an.getD i []/\e < all.length
 back:∀ i o,all[i]?=some o->∀ x∈an.getD i [],∃ e∈Zed o,x=e\/x∈an.getD e []
 trans:∀ i,i < all.length->∀ x∈an.getD i [],(∀ y∈an.getD x [],y∈an.getD i [])/\Zes ord x < Zes ord i
 irr:∀ i,i < all.length->i∉an.getD i []
 guard:∀ i o j w,all[i]?=some o->o.guard=some (j,w)->j∈an.getD i []/\∃ d,Zc9 all j=some d
 chain:∀ i,i < all.length->cl.getD i 0=2->∀ j,j < all.length->cl.getD j 0=2->j≠i->(fo≠some i->QQ cl ord j < QQ cl ord i->j∈an.getD i [])/\QQ cl ord j≠QQ cl ord i
 eager:∀ i,i < all.length->cl.getD i 0≠2->QQ cl ord i=0\/∃ e,e < all.length/\cl.getD e 0=2/\QQ cl ord e+1=QQ cl ord i/\e∈an.getD i []
 full:∀ i,i < all.length->∀ j,j < QQ cl ord i->∃ e,e < all.length/\cl.getD e 0=2/\QQ cl ord e=j
 tmps:∀ i o j q d,all[i]?=some o->all[j]?=some q->i≠j->o.dst=some d->(d∈ZdQ all q\/q.dst=some d)->(i∈an.getD j []\/j∈an.getD i [])/\q.dst≠some d
 flo:∀ f,fo=some f->f < all.length/\cl.getD f 0=2/\(∃ o t d,all[f]?=some o/\o.op=.alloc t/\o.guard=none/\o.dst=some d)/\an.getD f []=[]/\
  ∀ i,i < all.length->f∈an.getD i []->QQ cl ord f=0\/∃ e,e < all.length/\cl.getD e 0=2/\QQ cl ord e+1=QQ cl ord f/\e∈an.getD i []
theorem ZuY {o:Oper} (h:Znu o=true):∃ t d,o.op=.alloc t/\o.guard=none/\o.dst=some d:=by
 unfold Znu at h;simp only[Bool.and_eq_true] at h;obtain⟨⟨h1,h2⟩,h3⟩:=h;obtain⟨d,hd⟩:=Option.isSome_iff_exists.1 h3;split at h1
 .rename_i t ht;exact⟨t,d,ht,by simpa using h2,hd⟩
 .cases h1
theorem Zei {n:Nat} {p:Nat->Bool} (h:Zl0 n p=true) {i:Nat} (hi:i < n):p i=true:=by
 unfold Zl0 at h;exact List.all_eq_true.1 h i (List.mem_range.2 hi)
theorem Zng {n:Nat} {p:Nat->Bool} (h:ZwF n p=true):∃ i,i < n/\p i=true:=by
 unfold ZwF at h;obtain⟨i,h1,h2⟩:=List.any_eq_true.1 h;exact⟨i,List.mem_range.1 h1,h2⟩
theorem ZjV {a b:Nat}:Nat.blt a b=true↔a < b:=by simp
theorem ZgA {a b:Nat} (h:a≠b):Nat.beq a b=false:=by
 cases e:Nat.beq a b with
 | false=>rfl
 | true=>exact absurd (Nat.eq_of_beq_eq_true e) h
theorem Zmr {a b:Nat} (h:a=b):Nat.beq a b=true:=by subst h;exact Nat.beq_refl a
theorem ZoZ:∀ {l:List Nat},Zru l=true->l.Nodup
 | [],_=>.nil
 | i :: l,h=>by
  simp only[Zru,Bool.and_eq_true] at h;refine List.nodup_cons.2 ⟨fun hm=>?_,ZoZ h.2⟩;have:=h.1;rw[Ku.2 hm] at this;cases this
theorem ZoY {fo:Option Nat} {all:List Oper} {cl:List Nat} {an:List (List Nat)} {ord:List Nat} (h:Zgf fo all cl an ord=true):ZnE fo all cl an ord:=by
 unfold Zgf at h;simp only[Bool.and_eq_true] at h;obtain⟨⟨⟨⟨⟨h0,h1⟩,h2⟩,_⟩,h3⟩,hf⟩:=h;have key:∀ i,i < all.length->∃ o,all[i]?=some o:=fun i hi=>⟨all[i],List.getElem?_eq_getElem hi⟩;have H:∀ i o,all[i]?=some o->_:=fun i o ho=>by
  have hi:i < all.length:=by
   rcases Nat.lt_or_ge i all.length with h|h
   .exact h
   .rw[List.getElem?_eq_none h] at ho;cases ho
  have:=Zei h3 hi;simp only[ho,Bool.and_eq_true] at this;exact this
 have lt:∀ {i o},all[i]?=some o->i < all.length:=fun {i o} ho=>by
  rcases Nat.lt_or_ge i all.length with h|h
  .exact h
  .rw[List.getElem?_eq_none h] at ho;cases ho
 refine⟨ZoZ h0,fun i hi=>Ku.1 (Zei h1 hi),fun i hi=>ZjV.1 (List.all_eq_true.1 h2 i hi),?_,?_,?_,?_,?_,?_,?_,?_,?_,?_⟩
 .intro i o ho e he;have:=List.all_eq_true.1 (H i o ho).1.1.1.1.1.1.1 e he;simp only[Bool.and_eq_true] at this;exact⟨Ku.1 this.1,ZjV.1 this.2⟩
 .intro i o ho x hx;have:=List.all_eq_true.1 (H i o ho).1.1.1.1.1.1.2 x hx;obtain⟨e,he,h⟩:=List.any_eq_true.1 this;simp only[Bool.or_eq_true] at h;exact⟨e,he,h.imp Nat.eq_of_beq_eq_true Ku.1⟩
 .intro i hi x hx;obtain⟨o,ho⟩:=key i hi;have:=List.all_eq_true.1 (H i o ho).1.1.1.1.1.2 x hx;simp only[Bool.and_eq_true] at this;exact⟨fun y hy=>Ku.1 (List.all_eq_true.1 this.1 y hy),ZjV.1 this.2⟩
 .intro i hi hm;obtain⟨o,ho⟩:=key i hi;have:=(H i o ho).1.1.1.1.2;rw[Ku.2 hm] at this;cases this
 .intro i o j w ho hg;have:=(H i o ho).1.1.1.2;rw[hg] at this;simp only[Bool.and_eq_true] at this;exact⟨Ku.1 this.1,Option.isSome_iff_exists.1 this.2⟩
 .intro i hi hc j hj hcj hne;obtain⟨o,ho⟩:=key i hi;have:=(H i o ho).1.1.2;rw[Zmr hc,cond_true] at this;have:=Zei this hj;simp only[Bool.or_eq_true,Bool.and_eq_true] at this;rcases this with(h|h)|h
  .rw[Zmr hcj] at h;cases h
  .exact absurd (Nat.eq_of_beq_eq_true h) hne
  .refine⟨fun hfo hlt=>?_,?_⟩
   .rcases h.1 with(h|h)|h
    .exfalso
     unfold isF at h;split at h
     .rename_i f;exact hfo (by rw[Nat.eq_of_beq_eq_true h])
     .cases h
    .rw[ZjV.2 hlt] at h;cases h
    .exact Ku.1 h
   .intro e;have:=h.2;rw[Zmr e] at this;cases this
 .intro i hi hc;obtain⟨o,ho⟩:=key i hi;have:=(H i o ho).1.1.2;rw[ZgA hc,cond_false] at this;simp only[Bool.or_eq_true] at this;rcases this with h|h
  .exact .inl (Nat.eq_of_beq_eq_true h)
  .obtain⟨e,he,h⟩:=Zng h;simp only[Bool.and_eq_true] at h;exact .inr ⟨e,he,Nat.eq_of_beq_eq_true h.1.1,Nat.eq_of_beq_eq_true h.1.2,Ku.1 h.2⟩
 .intro i hi j hj;obtain⟨o,ho⟩:=key i hi;have:=Zei (H i o ho).1.2 hj;obtain⟨e,he,h⟩:=Zng this;simp only[Bool.and_eq_true] at h;exact⟨e,he,Nat.eq_of_beq_eq_true h.1,Nat.eq_of_beq_eq_true h.2⟩
 .intro i o j q d ho hq hne hd hl;have:=Zei (H i o ho).2 (lt hq);simp only[hd,hq,Bool.or_eq_true,Bool.and_eq_true] at this;rcases this with h|h
  .exact absurd (Nat.eq_of_beq_eq_true h) hne
  .rcases h with h|h
   .exfalso
    rcases hl with hl|hl
    .rw[Ku.2 hl] at h;simp at h
    .rw[hl] at h;simp[Nat.beq_refl] at h
   .refine⟨h.1.imp Ku.1 Ku.1,fun e=>?_⟩;have:=h.2;rw[e] at this;simp[Nat.beq_refl] at this
 .intro f hfo;subst hfo;simp only[Bool.and_eq_true] at hf;obtain⟨⟨⟨⟨k1,k2⟩,k3⟩,k4⟩,k5⟩:=hf;refine⟨ZjV.1 k1,Nat.eq_of_beq_eq_true k2,?_,by simpa using k4,fun i hi hm=>?_⟩
  .split at k3
   .rename_i o ho;obtain⟨t,d,h1,h2,h3⟩:=ZuY k3;exact⟨o,t,d,ho,h1,h2,h3⟩
   .cases k3
  .have:=Zei k5 hi;simp only[Bool.or_eq_true] at this;rcases this with(h|h)|h
   .rw[Ku.2 hm] at h;cases h
   .exact .inl (Nat.eq_of_beq_eq_true h)
   .obtain⟨e,he,h⟩:=Zng h;simp only[Bool.and_eq_true] at h;exact .inr ⟨e,he,Nat.eq_of_beq_eq_true h.1.1,Nat.eq_of_beq_eq_true h.1.2,Ku.1 h.2⟩
end
section
variable {P:Program} {Γ:Zc}
def Wrt (all:List Oper) (j t:Nat):Prop:=∃ q,all[j]?=some q/\q.dst=some t
open Classical in
noncomputable def fA (all:List Oper) (an:List (List Nat)) (r0 rf:ZN) (i t:Nat):Value:=
 if ∃ j,j∈an.getD i []/\Wrt all j t then Qu rf t else Qu r0 t
def cE (cl:List Nat):List Nat->Nat
 | []=>0
 | j :: l=>(bif Nat.beq (cl.getD j 0) 2 then 1 else 0)+cE cl l
theorem ZlN {cl:List Nat}:∀ (a b:List Nat),cE cl (a++b)=cE cl a+cE cl b
 | [],b=>by simp[cE]
 | j :: a,b=>by simp only[List.cons_append,cE,ZlN a b];omega
theorem ZjI {cl:List Nat} {i:Nat} {tl:List Nat}:∀ {dn:List Nat},i∉dn->QQ cl (dn++i :: tl) i=cE cl dn
 | [],_=>by simp[QQ,cE,Nat.beq_refl]
 | j :: dn,h=>by
  have hne:i≠j:=fun e=>h (by simp[e]);simp only[List.cons_append,QQ,cE,ZgA hne,cond_false];rw[ZjI fun hm=>h (by simp[hm])]
theorem Zvs {i:Nat} {tl:List Nat}:∀ {dn:List Nat},i∉dn->Zes (dn++i :: tl) i=dn.length
 | [],_=>by simp[Zes,Nat.beq_refl]
 | j :: dn,h=>by
  have hne:i≠j:=fun e=>h (by simp[e]);simp only[List.cons_append,Zes,ZgA hne,cond_false,List.length_cons];rw[Zvs fun hm=>h (by simp[hm])]
theorem ZzU {j:Nat} {l:List Nat}:∀ {dn:List Nat},j∈dn->Zes (dn++l) j < dn.length
 | k :: dn,h=>by
  simp only[List.cons_append,Zes];cases e:Nat.beq j k with
  | true=>simp
  | false=>
   simp only[cond_false,List.length_cons];have:j∈dn:=by
    cases h with
    | head=>simp at e
    | tail _ h=>exact h
   have:=ZzU (l:=l) this;omega
theorem Zx4 {j:Nat} {l:List Nat}:∀ {dn:List Nat},j∉dn->dn.length<=Zes (dn++l) j
 | [],_=>by simp
 | k :: dn,h=>by
  have hne:j≠k:=fun e=>h (by simp[e]);simp only[List.cons_append,Zes,ZgA hne,cond_false,List.length_cons];have:=Zx4 (j:=j) (l:=l) (dn:=dn) fun hm=>h (List.mem_cons_of_mem _ hm);omega
theorem ZkG {cl:List Nat}:∀ {l:List Nat} {j:Nat},j < cE cl l->∃ a e b,l=a++e :: b/\cl.getD e 0=2/\cE cl a=j
 | [],j,h=>by simp[cE] at h
 | k :: l,j,h=>by
  simp only[cE] at h;cases hk:Nat.beq (cl.getD k 0) 2 with
  | true=>
   rw[hk,cond_true] at h;cases j with
   | zero=>exact⟨[],k,l,rfl,Nat.eq_of_beq_eq_true hk,rfl⟩
   | succ j=>
    obtain⟨a,e,b,h1,h2,h3⟩:=ZkG (cl:=cl) (l:=l) (j:=j) (by omega);exact⟨k :: a,e,b,by simp[h1],h2,by simp only[cE,hk,cond_true,h3];omega⟩
  | false=>
   rw[hk,cond_false,Nat.zero_add] at h;obtain⟨a,e,b,h1,h2,h3⟩:=ZkG h;exact⟨k :: a,e,b,by simp[h1],h2,by simp only[cE,hk,cond_false,h3];omega⟩
theorem Znx {an:List (List Nat)} {all:List Oper}:∀ {l:List (Nat × Oper)} {rs:Zc6} {r:ZN} {H:Zd} {rf:ZN} {hl:List Zd} {Hf:Zd},Tr P Γ an all l rs r H rf hl Hf->
  (H :: hl).getD hl.length []=Hf
 | [],rs,r,H,rf,hl,Hf,h=>by obtain⟨_,rfl,rfl⟩:=h;rfl
 | p :: l,rs,r,H,rf,hl,Hf,h=>by
  obtain⟨v,H1,_,h⟩:=h;rcases h with⟨_,h⟩|⟨_,h⟩|⟨_,hl',rfl,_,h⟩
  .exact Znx h
  .exact Znx h
  .simpa using Znx h
theorem Zry {an:List (List Nat)} {all:List Oper}:∀ {l:List Nat} {rs:Zc6} {r:ZN} {H:Zd} {rf:ZN} {hl:List Zd} {Hf:Zd},(∀ i∈l,i < all.length)->
  Tr P Γ an all (W1 all l) rs r H rf hl Hf->hl.length=cE (all.map fun o=>cls P o.op) l
 | [],rs,r,H,rf,hl,Hf,_,h=>by obtain⟨_,rfl,_⟩:=h;rfl
 | i :: l,rs,r,H,rf,hl,Hf,hi,h=>by
  have hlt:=hi i (by simp);have ho:all[i]?=some all[i]:=List.getElem?_eq_getElem hlt;have e:W1 all (i :: l)=(i,all[i]) :: W1 all l:=by simp[W1,ho]
  rw[e] at h;obtain⟨v,H1,_,h⟩:=h;have hcl:(all.map fun o=>cls P o.op).getD i 0=cls P all[i].op:=by simp[hlt]
  simp only[cE,hcl];rcases h with⟨hc,h⟩|⟨hc,h⟩|⟨⟨hc0,hc1⟩,hl',rfl,_,h⟩
  .rw[Zry (fun j hj=>hi j (by simp[hj])) h];simp only at hc;rw[hc];simp[Nat.beq]
  .rw[Zry (fun j hj=>hi j (by simp[hj])) h];simp only at hc;rw[hc];simp[Nat.beq]
  .have h2:=Zry (fun j hj=>hi j (by simp[hj])) h;have hc2:cls P all[i].op=2:=by
    have:∀ op,cls P op=0\/cls P op=1\/cls P op=2:=by
     intro op;unfold cls;split<;>first|simp|(split<;>simp)|skip
     split<;>first|simp|(split<;>simp)
    rcases this all[i].op with h|h|h
    .exact absurd h hc0
    .exact absurd h hc1
    .exact h
   rw[hc2];simp[h2,Nat.beq];omega
structure ZyV (P:Program) (Γ:Zc) (all:List Oper) (cl:List Nat) (an:List (List Nat)) (ord:List Nat) (r0 rf:ZN) (hs:Nat->Zd) (m:Nat) (i:Nat) (o:Oper) (v:Value):Prop where
 dst:∀ d,o.dst=some d->Qu rf d=v
 eff:cl.getD i 0=2->Ziy P Γ all (fA all an r0 rf i) o (hs (QQ cl ord i)) v (hs (QQ cl ord i+1))
 non:cl.getD i 0≠2->∀ j,QQ cl ord i<=j->j<=m->(∀ e,e < all.length->cl.getD e 0=2->QQ cl ord i<=QQ cl ord e->QQ cl ord e < j->i∉an.getD e [])->
  Ziy P Γ all (fA all an r0 rf i) o (hs j) v (hs j)
theorem ZyS {all:List Oper} {cl:List Nat} {an:List (List Nat)} {ord:List Nat} (hcl:cl=all.map fun o=>cls P o.op) {fo:Option Nat} (hO:ZnE fo all cl an ord) {r0 rf:ZN} {hs:Nat->Zd} {m:Nat} {Hf:Zd} (hm:m=cE cl ord) :
  ∀ (l dn:List Nat) {rs:Zc6} {r:ZN} {H:Zd} {hl:List Zd},dn++l=ord->Tr P Γ an all (W1 all l) rs r H rf hl Hf->(∀ t,(∀ j∈dn,¬ Wrt all j t)->Qu r t=Qu r0 t)->
   (∀ q,q<=hl.length->hs (cE cl dn+q)=(H :: hl).getD q [])->
   (∀ i∈l,∃ o v,all[i]?=some o/\ZyV P Γ all cl an ord r0 rf hs m i o v)/\
   (∀ q∈rs,∀ e∈l,cl.getD e 0=2->q.1∉an.getD e []->q.2.1 (hs (QQ cl ord e+1))=some (q.2.2,hs (QQ cl ord e+1)))
 | [],dn,rs,r,H,hl,_,_,_,_=>⟨by simp,by simp⟩
 | i :: l,dn,rs,r,H,hl,hord,htr,hI2,hHS=>by
  have hiord:i∈ord:=by rw[<- hord];simp
  have hlt:=hO.inn i hiord;have ho:all[i]?=some all[i]:=List.getElem?_eq_getElem hlt;generalize all[i]=o at ho;have e:W1 all (i :: l)=(i,o) :: W1 all l:=by simp[W1,ho]
  have hnd:=hO.nodup;rw[<- hord] at hnd;have hidn:i∉dn:=fun hm=>by
   have:=(List.nodup_append.1 hnd).2.2 i hm i (by simp);exact this rfl
  have hil:i∉l:=(List.nodup_cons.1 (List.nodup_append.1 hnd).2.1).1;have hdl:∀ j∈dn,j∉l:=fun j hj hm=>(List.nodup_append.1 hnd).2.2 j hj j (by simp[hm]) rfl;have hlev:QQ cl ord i=cE cl dn:=by rw[<- hord];exact ZjI hidn
  have hcli:cl.getD i 0=cls P o.op:=by rw[hcl];simp[ho]
  have hpick:∀ p∈W1 all (i :: l),p.1∈i :: l/\all[p.1]?=some p.2:=by
   intro p hp;unfold W1 at hp;obtain⟨k,hk,hp⟩:=List.mem_filterMap.1 hp;simp only[Option.map_eq_some_iff] at hp;obtain⟨q,hq,rfl⟩:=hp;exact⟨hk,hq⟩
  have hregs:∀ t∈ZdQ all o,Qu r t=fA all an r0 rf i t:=by
   intro t ht;unfold fA;split
   .rename_i hw;obtain⟨j,hj,q,hq,hqd⟩:=hw;refine(Znr htr t fun p hp hpt=>?_).symm;obtain⟨hp1,hp2⟩:=hpick p hp;have hjn:j < all.length:=by
     rcases Nat.lt_or_ge j all.length with h|h
     .exact h
     .rw[List.getElem?_eq_none h] at hq;cases hq
    have hjdn:j∈dn:=by
     have h1:=(hO.trans i hlt j hj).2;rw[<- hord,Zvs hidn] at h1;refine Classical.byContradiction fun hno=>?_;have:=Zx4 (l:=i :: l) hno;omega
    have hne:j≠p.1:=fun he=>by
     rw[<- he] at hp1;cases hp1 with
     | head=>exact hidn hjdn
     | tail _ h=>exact hdl j hjdn h
    exact(hO.tmps j q p.1 p.2 t hq hp2 hne hqd (.inr hpt)).2 hpt
   .rename_i hw;refine hI2 t fun j hj hwr=>hw ?_;obtain⟨q,hq,hqd⟩:=hwr;have hne:j≠i:=fun he=>hidn (he ▸ hj);rcases(hO.tmps j q i o t hq ho hne hqd (.inl ht)).1 with h|h
    .exact⟨j,h,q,hq,hqd⟩
    .exfalso
     have hjn:j < all.length:=by
      rcases Nat.lt_or_ge j all.length with h|h
      .exact h
      .rw[List.getElem?_eq_none h] at hq;cases hq
     have h1:=(hO.trans j hjn i h).2;rw[<- hord,Zvs hidn] at h1;have:=ZzU (l:=i :: l) hj;omega
  rw[e] at htr;obtain⟨v,H1,hst,htr⟩:=htr;have hst':Ziy P Γ all (fA all an r0 rf i) o H v H1:=by
   intro γ k;rw[<- ZtD hregs];exact hst γ k
  have hH:hs (cE cl dn)=H:=by have:=hHS 0 (Nat.zero_le _);simpa using this
  have hI2':∀ t,(∀ j∈dn++[i],¬ Wrt all j t)->Qu (ZbQ r o.dst v) t=Qu r0 t:=by
   intro t ht;rw[ZlK (fun hd=>ht i (by simp) ⟨o,ho,hd⟩)];exact hI2 t fun j hj=>ht j (by simp[hj])
  have hdstl:∀ {rs':Zc6} {H':Zd} {hl':List Zd},Tr P Γ an all (W1 all l) rs' (ZbQ r o.dst v) H' rf hl' Hf->∀ d,o.dst=some d->Qu rf d=v:=by
   intro rs' H' hl' ht d hd;rw[Znr ht d fun p hp hpt=>?_]
   .simp[ZbQ,hd,Qu,Nat.beq_refl]
   .obtain⟨hp1,hp2⟩:=hpick p (by rw[e];simp[hp]);have hpl:p.1∈l:=by
     unfold W1 at hp;obtain⟨k,hk,hp⟩:=List.mem_filterMap.1 hp;simp only[Option.map_eq_some_iff] at hp;obtain⟨q,hq,rfl⟩:=hp;exact hk
    have hne:i≠p.1:=fun he=>hil (he ▸ hpl);exact(hO.tmps i o p.1 p.2 d ho hp2 hne hd (.inr hpt)).2 hpt
  have hord':(dn++[i])++l=ord:=by simpa using hord
  have hnon:cl.getD i 0≠2->∀ {rs':Zc6},H1=H->Tr P Γ an all (W1 all l) rs' (ZbQ r o.dst v) H rf hl Hf->(∀ q∈rs,q∈rs')->
    (YG (toM (opG P Γ all (Qu r) o))\/(i,toM (opG P Γ all (Qu r) o),v)∈rs')->Zb5 (toM (opG P Γ all (Qu r) o))->
    (∀ i'∈i :: l,∃ o v,all[i']?=some o/\ZyV P Γ all cl an ord r0 rf hs m i' o v)/\
    (∀ q∈rs,∀ e∈i :: l,cl.getD e 0=2->q.1∉an.getD e []->q.2.1 (hs (QQ cl ord e+1))=some (q.2.2,hs (QQ cl ord e+1))):=by
   intro hne rs' hHH ht hsub hpr hrd;subst hHH;have hce:cE cl (dn++[i])=cE cl dn:=by rw[ZlN];simp only[cE,ZgA hne,cond_false];omega
   obtain⟨ih1,ih2⟩:=ZyS hcl hO hm l (dn++[i]) hord' ht hI2' (by rw[hce];exact hHS);refine⟨fun i' hi'=>?_,fun q hq e' he' hce' hqe=>?_⟩
   .cases hi' with
    | tail _ h=>exact ih1 i' h
    | head=>
     refine⟨o,v,ho,hdstl ht,fun h=>absurd h hne,fun _ j hj1 hj2 hanc=>?_⟩;obtain⟨_,hval⟩:=Zgk hrd hst;have hfin:∀ j,toM (opG P Γ all (Qu r) o) (hs j)=some (v,hs j)->Ziy P Γ all (fA all an r0 rf i) o (hs j) v (hs j):=by
      intro j hj γ k;rw[<- ZtD hregs];exact ZAo hj γ k
     rw[hlev] at hj1;rcases Nat.lt_or_ge (cE cl dn) j with hjj|hjj
     .refine hfin j ?_;rcases hpr with hp|hin
      .have h3:=(hp _ _ _ hval).2 (hs j);exact h3
      .obtain⟨a,e',b,h1,h2,h3⟩:=ZkG (cl:=cl) (l:=ord) (j:=j - 1) (by rw[<- hm];omega);have hnd2:=hO.nodup;rw[h1] at hnd2;have hea:e'∉a:=fun hmm=>(List.nodup_append.1 hnd2).2.2 e' hmm e' (by simp) rfl;have hle:QQ cl ord e'=j - 1:=by rw[h1,ZjI hea];exact h3
       have heo:e'∈ord:=by rw[h1];simp
       have hel:e'∈l:=by
        have hmem:e'∈dn++i :: l:=by rw[hord];exact heo
        rcases List.mem_append.1 hmem with h|h
        .exfalso
         obtain⟨s,t,hst2⟩:=List.append_of_mem h;have hnd3:=hnd;rw[hst2] at hnd3;have hes:e'∉s:=fun hmm=>by
          have h4:=(List.nodup_append.1 (List.nodup_append.1 hnd3).1).2.2 e' hmm e' (by simp);exact h4 rfl
         have hle2:QQ cl ord e'=cE cl s:=by
          rw[<- hord,hst2,List.append_assoc,List.cons_append];exact ZjI hes
         have hce2:cE cl dn=cE cl s+(1+cE cl t):=by
          rw[hst2,ZlN];simp only[cE,h2,Nat.beq_refl,cond_true]
         omega
        .cases h with
         | head=>exact absurd h2 hne
         | tail _ h=>exact h
       have:=ih2 _ hin e' hel h2 (hanc e' (hO.inn e' heo) h2 (by rw[hlev];omega) (by omega));rw[hle,show j - 1+1=j by omega] at this;exact this
     .have:j=cE cl dn:=by omega
      subst this;refine hfin _ ?_;rw[hH];exact hval
   .cases he' with
    | head=>exact absurd hce' hne
    | tail _ h=>exact ih2 q (hsub q hq) e' h hce' hqe
  rcases htr with⟨hc,ht⟩|⟨hc,ht⟩|⟨⟨hc0,hc1⟩,hl',rfl,hrk,ht⟩
  .have hp:=Zv5 (P:=P) (Γ:=Γ) (all:=all) (f:=Qu r) hc;exact hnon (by rw[hcli];simp only at hc;omega) (Zgk hp.read hst).1 ht (fun q hq=>hq) (.inl hp) hp.read
  .have hp:=Zx9 (P:=P) (Γ:=Γ) (all:=all) (f:=Qu r) hc;exact hnon (by rw[hcli];simp only at hc;omega) (Zgk hp hst).1 ht (fun q hq=>by simp[hq]) (.inr (by simp)) hp
  .have hc2:cl.getD i 0=2:=by
    rw[hcli];have:∀ op,cls P op=0\/cls P op=1\/cls P op=2:=by
     intro op;unfold cls;split<;>first|simp|(split<;>simp)|skip
     split<;>first|simp|(split<;>simp)
    rcases this o.op with h|h|h
    .exact absurd h hc0
    .exact absurd h hc1
    .exact h
   have hce:cE cl (dn++[i])=cE cl dn+1:=by rw[ZlN];simp only[cE,hc2,Nat.beq_refl,cond_true]
   have hHS':∀ q,q<=hl'.length->hs (cE cl (dn++[i])+q)=(H1 :: hl').getD q []:=by
    intro q hq;have:=hHS (q+1) (by simp;omega);rw[hce,show cE cl dn+1+q=cE cl dn+(q+1) by omega,this];simp
   have hH1:hs (cE cl dn+1)=H1:=by have:=hHS 1 (by simp);simpa using this
   obtain⟨ih1,ih2⟩:=ZyS hcl hO hm l (dn++[i]) hord' ht hI2' hHS';refine⟨fun i' hi'=>?_,fun q hq e' he' hce' hqe=>?_⟩
   .cases hi' with
    | tail _ h=>exact ih1 i' h
    | head=>
     refine⟨o,v,ho,hdstl ht,fun _=>?_,fun h=>absurd hc2 h⟩;rw[hlev,hH,hH1];exact hst'
   .cases he' with
    | head=>
     rw[hlev,hH1];refine hrk q hq ?_;cases hmm:memN (an.getD i []) q.1 with
     | false=>rfl
     | true=>exact absurd (Ku.1 hmm) hqe
    | tail _ h=>exact ih2 q hq e' h hce' hqe
end
section
variable {P:Program} {Γ:Zc} {w0:ZY} {N:Nat} {ι:Nat->Option Loc} {H:Zd} {a:Act} {w:World} {rd:Option Nat}
theorem ZEk {f:Nat->Value} (hS:Sim P.globals.size w0 ι H w) {y:Operand} (hc:Wt P y=true) (hf:∀ t∈ZzD y,RV ι (f t) (a.tmps.getD t undef)):RV ι (evF f y) (a.eval y):=by
 cases y with
 | tmp t=>exact hf t (by simp[ZzD])
 | const v=>exact .const hc
 | global g=>
  obtain⟨l,h1,h2,h3⟩:=hS.glob g (by simpa[Wt] using hc);have:=RV.ptr (o:=0) h1
  rwa [h2,h3] at this
 | func f=>exact .fn (fun l e=>by cases e) rfl (by simp) rfl (by simp)
theorem ZE6 {X:OpR} {H H1:Zd} {v:Value} (h:∀ (γ:Type) (k:Value->M γ),appM (.cmp (toM X)) k H=k v H1):∀ (γ:Type) (k:Value->M γ),appM X k H=k v H1:=by
 cases X<;>exact h
theorem ZeW {ops:Array Oper} {Q:Exit->Act->World->Prop} {i:Nat} {o:Oper} {f:Nat->Value} {v:Value} {H1:Zd} (hΓ:∀ g,WY P P.globals.size w0 g (Γ g)) (ho:ops[i]?=some o)
  (hS:Sim P.globals.size w0 ι H w) (hok:ZkK P N o) (hf:∀ t∈ZdQ ops.toList o,RV ι (f t) (a.tmps.getD t undef)) (hst:Ziy P Γ ops.toList f o H v H1)
  {K:Act->World->Prop} (hn:∀ ι1 v' w1,Le ι ι1->RV ι1 v v'->Sim P.globals.size w0 ι1 H1 w1->K (a.put o.dst v') w1):wpOpIn (FR rd) 0 P ops Q i K a w:=by
 unfold wpOpIn;rw[ho];simp only;have hρ:∀ y∈o.op.operands.toList,RV ι (evF f y) (a.eval y):=fun y hy=>ZEk hS (hok.consts y hy) fun t ht=>hf t (by
  unfold ZdQ Zzq;exact List.mem_append_left _ (List.mem_flatMap.2 ⟨y,hy,ht⟩))
 unfold Ziy opG at hst;cases hg:o.guard with
 | none=>
  rw[hg] at hst;rw[if_pos (by simp[Region.wanted,hg])];exact(Zka hS hΓ hρ hst hn)
 | some g=>
  obtain⟨j,wt⟩:=g;rw[hg] at hst;simp only at hst;cases hd:Zc9 ops.toList j with
  | none=>
   rw[hd] at hst;have:=hst (Value) (fun u=>ret u);cases this
  | some d=>
   rw[hd] at hst;simp only at hst;have hd':(ops[j]?).bind (·.dst)=some d:=by simpa[Zc9] using hd
   have hfd:=hf d (by unfold ZdQ;rw[hg];simp[hd]);have hskip:yielded ops a.tmps j≠some wt->v=ZZ->H1=H->(if Region.wanted o (yielded ops a.tmps)=true then o.wpIn (FR rd) 0 P a w K Q else(∀ f,o.about P w a.eval=some f->(FR rd).fn f)/\K (a.put o.dst undef) w):=by
    intro hy hv hH;subst hv;subst hH;rw[if_neg (by simp[Region.wanted,hg,hy])];exact⟨fun _ _=>trivial,hn ι undef w (.refl ι) .nw hS⟩
   unfold gateV at hst;generalize hgv:f d=gv at hst hfd;cases gv with
   | bool b=>
    simp only at hst;have hc:=hfd.bool_inv;have hy:yielded ops a.tmps j=some b:=by
     unfold yielded;rw[hd'];simp only[Option.bind_some];rw[Array.getD_eq_getD_getElem?] at hc;cases e:a.tmps[d]? with
     | none=>rw[e] at hc;cases hc
     | some u=>rw[e] at hc;simp only[Option.getD_some] at hc;subst hc;rfl
    cases hbw:b==wt with
    | true=>
     rw[hbw] at hst;simp only[cond_true] at hst;have hbe:b=wt:=by simpa using hbw
     subst hbe;rw[if_pos (by simp[Region.wanted,hg,hy])];exact(Zka hS hΓ hρ (ZE6 hst) hn)
    | false=>
     rw[hbw] at hst;simp only[cond_false] at hst;have:=hst (Value) (fun u=>ret u);cases this;exact hskip (by rw[hy];intro e;cases e;simp at hbw) rfl rfl
   | tuple us=>
    simp only at hst;cases hus:Nat.beq us.size 1 with
    | false=>
     rw[hus] at hst;have:=hst (Value) (fun u=>ret u);cases this
    | true=>
     rw[hus] at hst;have:=hst (Value) (fun u=>ret u);cases this;refine hskip ?_ rfl rfl;have hnb:∀ b,a.tmps.getD d undef≠.bool b:=by
      intro b hb;rw[hb] at hfd;cases hfd with
      | un=>cases hus
     unfold yielded;rw[hd'];simp only[Option.bind_some];intro hh;split at hh
     .rename_i b hb;exact hnb b (by rw[Array.getD_eq_getD_getElem?,hb];rfl)
     .cases hh
   | _=>
    have:=hst (Value) (fun u=>ret u);cases this
theorem ZrZ {p q:Nat->Bool} {i:Nat} (h:∀ j,j≠i->q j=p j) (hp:p i=true) (hq:q i=false):∀ {l:List Nat},l.Nodup->i∈l->l.countP p=l.countP q+1
 | [],_,hm=>by cases hm
 | j :: l,hnd,hm=>by
  obtain⟨h1,h2⟩:=List.nodup_cons.1 hnd;by_cases e:j=i
  .subst e;have:l.countP p=l.countP q:=by
    apply List.countP_congr
    intro x hx;rw[h x fun e=>h1 (e ▸ hx)]
   simp[List.countP_cons,hp,hq,this]
  .have hm':i∈l:=by
    cases hm with
    | head=>exact absurd rfl e
    | tail _ hm=>exact hm
   have:=ZrZ h hp hq h2 hm';simp only[List.countP_cons,h j e,this];omega
def Zkk (P:Program) (t:TypeId):Obj:=.cells (zeT P t).cells t (0,0)
theorem Zrv {all:List Oper} {f:Nat->Value} {o:Oper} {t:TypeId} {v:Value} {H1:Zd} (hst:Ziy P Γ all f o H v H1) (hg:o.guard=none) (ho:o.op=.alloc t) :
  ZaU P t=true/\(zeT P t).cells.toList.all oneCell=true/\v=.pointer (some ⟨H.length,0,none⟩)/\H1=H++[.cells (zeT P t).cells.toList (esT P t) false false]:=by
 have hst:=hst Value (fun u=>ret u);unfold opG at hst;rw[hg] at hst;simp only at hst;rw[ho] at hst;unfold opM at hst;simp only at hst;cases hb:ZaU P t with
 | false=>
  rw[hb] at hst;have hst:(none:Option (Value × Zd))=some (v,H1):=hst;cases hst
 | true=>
  rw[hb] at hst;have hst:bind (alc (esT P t) (zeT P t)) (fun u=>ret u) H=some (v,H1):=hst;obtain⟨u,H2,h1,h2⟩:=bind_some hst;cases h2;unfold alc at h1;split at h1
  .rename_i h3;cases h1;exact⟨rfl,h3,rfl,rfl⟩
  .cases h1
theorem ZBs {ops:Array Oper} {Q:Exit->Act->World->Prop} {i:Nat} {o:Oper} {t:TypeId} (ho:ops[i]?=some o) (hop:o.op=.alloc t) (hg:o.guard=none) (ht:ZaU P t=true)
  {K:Act->World->Prop} (hK:K (a.put o.dst (.pointer (some ⟨w.heap.size,0,none⟩))) (J3 w (Zkk P t))):wpOpIn (FR rd) 0 P ops Q i K a w:=by
 unfold wpOpIn;rw[ho];simp only;rw[if_pos (by simp[Region.wanted,hg])];refine ZAt (by rw[hop];intro c hc;cases hc) ?_;obtain⟨z,hi,hz,hc,hr⟩:=Zai ht;have e1:(Instr.alloc t true (.tuple #[])).run P w=.ok (.pointer (some ⟨w.heap.size,0,none⟩)) (J3 w (Zkk P t)):=by
  simp[Instr.alloc,hr,newVar,newRow,J3,Zkk]
 unfold Oper.wpX;rw[show(execOp a.eval o).run P w=((Instr.alloc t true (.tuple #[])).run P w).andThen (fun v w=>.ok (.value v) w) from by unfold execOp;rw[hop];exact Qz _,e1];exact hK
theorem Sim.pend {G:Nat} (hS:Sim G w0 ι H w) (ob:Obj):Sim G { w0 with prot:=(w.heap.size,ob) :: w0.prot } ι H (J3 w ob):=by
 have hS1:=hS.push ob;refine⟨fun id o ho=>?_,hS1.inj,hS1.size,hS1.old,hS1.dom,hS1.glob,hS1.rest,fun y hy=>?_,hS1.views⟩
 .have:=hS1.obj id o ho;cases o<;>exact this
 .cases hy with
  | head=>
   refine⟨Zb0 w _,hS.size,fun id o l ho hd hl e=>?_⟩;obtain⟨l',hl',hlt⟩:=(hS.obj id o ho).loc hd;rw[hl] at hl';cases hl';have e:l.blk=w.heap.size:=e;omega
  | tail _ hy=>exact hS1.prot y hy
theorem Sim.adopt {G:Nat} {b:Nat} {t:TypeId} (ht:ZaU P t=true) (h1:(zeT P t).cells.toList.all oneCell=true) (hS:Sim G { w0 with prot:=(b,Zkk P t) :: w0.prot } ι H w) (hb:∀ c∈w0.prot,b≠c.1) :
  ∃ ι',Le ι ι'/\Sim G w0 ι' (H++[.cells (zeT P t).cells.toList (esT P t) false false]) w/\RV ι' (.pointer (some ⟨H.length,0,none⟩)) (.pointer (some ⟨b,0,none⟩)):=by
 obtain⟨p1,p2,p3⟩:=hS.prot (b,Zkk P t) (by simp);obtain⟨z,hi,hz,hc,hr⟩:=Zai ht;have hB:Sim G w0 ι H w:=⟨fun id o ho=>by have:=hS.obj id o ho;cases o<;>exact this,hS.inj,hS.size,hS.old,hS.dom,hS.glob,hS.rest,fun x hx=>hS.prot x (List.mem_cons_of_mem _ hx),hS.views⟩;have hcr:RVs ι (zeT P t).cells.toList (zeT P t).cells.toList:=Zmp (RV.const hc) (by
  cases hu:zeT P t<;>first|exact .inl rfl|exact .inr ⟨_,rfl⟩|skip
  rw[hu] at h1;simp[Value.cells,oneCell] at h1)
 let l:Loc:=⟨b,0,(zeT P t).cells.toList.length,esT P t,false⟩
 refine⟨Kf ι H.length l,JF hB l,hB.add (l:=l) ⟨l,(zeT P t).cells,t,(0,0),Qb _ _ _,rfl,rfl,p1,?_,?_,?_,fun _=>⟨p2,.inl rfl,fun _=>rfl⟩,by simp,List.all_eq_true.1 h1⟩ (fun i oi li hi hw hl e=>p3 i oi li hi (by intro e;rw[e] at hw;cases hw) hl e) hb (fun _ j cs es nx lj hj hlj e=>absurd e (p3 j _ lj hj (by simp) hlj)),.ptr (Qb _ _ _)⟩
 .show 0+(zeT P t).cells.toList.length<=(zeT P t).cells.toList.length
  omega
 .show(zeT P t).cells.toList.length<=(zeT P t).cells.size
  simp
 .show RVs _ _ (((zeT P t).cells.toList.drop 0).take (zeT P t).cells.toList.length)
  rw[List.drop_zero,List.take_length];exact hcr.mono (JF hB l)
structure PSt (P:Program) (w0:ZY) (N:Nat) (fo:Option Nat) (ops:Array Oper) (cl:List Nat) (an:List (List Nat)) (ord:List Nat) (r0 rf:ZN) (hs:Nat->Zd) (m:Nat) (ι:Nat->Option Loc) (pd:Bool) (listed:Array Bool) (j:Nat) (ι1:Nat->Option Loc) (a:Act) (w:World):Prop where
 le:Le ι ι1
 sim:pd=false->Sim P.globals.size w0 ι1 (hs j) w
 pen:pd=true->∃ f o t d b,fo=some f/\ops.toList[f]?=some o/\o.op=.alloc t/\o.guard=none/\o.dst=some d/\listed.getD f false=true/\j<=QQ cl ord f/\Sim P.globals.size { w0 with prot:=(b,Zkk P t) :: w0.prot } ι1 (hs j) w/\(∀ c∈w0.prot,b≠c.1)/\a.tmps.getD d undef=.pointer (some ⟨b,0,none⟩)
 size:a.tmps.size=N
 defers:a.defers=ZfX w0.own
 lsz:listed.size=ops.size
 regs:∀ t,((∃ i,Wrt ops.toList i t/\listed.getD i false=true/\(pd=true->fo≠some i))->RV ι1 (Qu rf t) (a.tmps.getD t undef))/\((∀ i,Wrt ops.toList i t->listed.getD i false=false)->RV ι1 (Qu r0 t) (a.tmps.getD t undef))
 clo:∀ i,listed.getD i false=true->∀ x∈an.getD i [],listed.getD x false=true
 eff:∀ e,e < ops.size->cl.getD e 0=2->(QQ cl ord e < j->listed.getD e false=true)/\(listed.getD e false=true->QQ cl ord e < j\/(pd=true/\fo=some e))
 jm:j<=m
theorem ZrC {all:List Oper} {cl:List Nat} {an:List (List Nat)} {ord:List Nat} {fo:Option Nat} (hO:ZnE fo all cl an ord) {m:Nat} (hm:m=cE cl ord) {i:Nat} (hi:i < all.length) (hef:cl.getD i 0=2):QQ cl ord i+1<=m:=by
 obtain⟨s,t,hst2⟩:=List.append_of_mem (hO.cover i hi);have hnd:=hO.nodup;rw[hst2] at hnd;have his:i∉s:=fun hmm=>(List.nodup_append.1 hnd).2.2 i hmm i (by simp) rfl;have h1:QQ cl ord i=cE cl s:=by rw[hst2];exact ZjI his
 rw[hm,hst2,ZlN];rw[hst2] at h1;simp only[cE,hef,Nat.beq_refl,cond_true];omega
theorem PSt.adopt {ops:Array Oper} {cl:List Nat} {an:List (List Nat)} {ord:List Nat} {fo:Option Nat} (hO:ZnE fo ops.toList cl an ord) {r0 rf:ZN} {hs:Nat->Zd} {m:Nat} (hm:m=cE cl ord)
  (hF:∀ i,i < ops.size->∃ o v,ops[i]?=some o/\ZyV P Γ ops.toList cl an ord r0 rf hs m i o v) {ι ι1:Nat->Option Loc} {listed:Array Bool} {j:Nat}
  (h:PSt P w0 N fo ops cl an ord r0 rf hs m ι true listed j ι1 a w) (hj:∀ f,fo=some f->QQ cl ord f=j):∃ ι2,PSt P w0 N fo ops cl an ord r0 rf hs m ι false listed (j+1) ι2 a w:=by
 obtain⟨f,o,t,d,b,hfo,hol,hop,hg,hd,hlf,hle,hS,hb,htm⟩:=h.pen rfl;have hlev:=hj f hfo;obtain⟨hfl,hcf,_,_,_⟩:=hO.flo f hfo;have hfs:f < ops.size:=by simpa using hfl
 obtain⟨o',v,ho',hfact⟩:=hF f hfs;have ho'':ops.toList[f]?=some o':=by simpa using ho'
 rw[hol] at ho'';cases ho'';have hst:=hfact.eff hcf;rw[hlev] at hst;obtain⟨ht,h1,rfl,hH⟩:=Zrv hst hg hop;obtain⟨ι2,k1,k2,k3⟩:=hS.adopt ht h1 hb;rw[<- hH] at k2;have hne:∀ e,e < ops.size->cl.getD e 0=2->QQ cl ord e=j->e=f:=fun e he hce hl=>by
  refine Classical.byContradiction fun hn=>?_;have:=(hO.chain e (by simpa using he) hce f hfl hcf (fun x=>hn x.symm)).2;omega
 refine⟨ι2,h.le.trans k1,fun _=>k2,(fun e=>by cases e),h.size,h.defers,h.lsz,fun x=>⟨fun⟨i,hw,hl,_⟩=>?_,fun hno=>((h.regs x).2 hno).mono k1⟩,h.clo,fun e he hce=>⟨fun hl=>?_,fun hl=>?_⟩,?_⟩
 .by_cases hfi:fo=some i
  .rw[hfo] at hfi;cases hfi;obtain⟨q,hq,hqd⟩:=hw;rw[hol] at hq;cases hq;rw[hd] at hqd;cases hqd;rw[hfact.dst d hd,htm];exact k3
  .exact((h.regs x).1 ⟨i,hw,hl,fun _=>hfi⟩).mono k1
 .by_cases hlt:QQ cl ord e < j
  .exact((h.eff e he hce).1 hlt)
  .have:=hne e he hce (by omega);rw[this];exact hlf
 .rcases(h.eff e he hce).2 hl with h2|⟨_,h2⟩
  .exact .inl (by omega)
  .have:=hj e h2;exact .inl (by omega)
 .have:=ZrC hO hm hfl hcf;omega
theorem ZBA {ops:Array Oper} {cl:List Nat} {an:List (List Nat)} {ord:List Nat} {fo:Option Nat} {Q:Exit->Act->World->Prop} (hΓ:∀ (b:ZY) g,WY P P.globals.size b g (Γ g)) (hok:ZiS P N ops.toList=true)
  (hO:ZnE fo ops.toList cl an ord) {r0 rf:ZN} {hs:Nat->Zd} {m:Nat} (hm:m=cE cl ord)
  (hF:∀ i,i < ops.size->∃ o v,ops[i]?=some o/\ZyV P Γ ops.toList cl an ord r0 rf hs m i o v)
  (hrf:∀ t,(∀ j,¬ Wrt ops.toList j t)->Qu rf t=Qu r0 t)
  {ι:Nat->Option Loc} (hQ:∀ ι1 a1 w1,Le ι ι1->St P.globals.size w0 N ι1 rf (hs m) a1 w1->Q .normal a1 w1) :
  ∀ (fuel:Nat) (pd:Bool) (listed:Array Bool) (j:Nat) (ι1:Nat->Option Loc) (a:Act) (w:World),PSt P w0 N fo ops cl an ord r0 rf hs m ι pd listed j ι1 a w->(pd=true->∀ f,fo=some f->j < QQ cl ord f)->
   (List.range ops.size).countP (fun i=>!listed.getD i false)=fuel->wpAnyIn (FR rd) 0 P .any ops Q fuel listed a w:=by
 have hlen:ops.toList.length=ops.size:=by simp
 have hget:∀ (listed:Array Bool),listed.size=ops.size->∀ i,i < ops.size->listed.getD i true=listed.getD i false:=by
  intro listed hsz i hi;simp[hsz,hi]
 have hready:∀ (listed:Array Bool),listed.size=ops.size->Region.ready .any ops listed=[]->∀ i,i < ops.size->listed.getD i false=true:=by
  intro listed hsz hr;have:∀ q i,i < ops.size->Zes ord i < q->listed.getD i false=true:=by
   intro q
   induction q with
   | zero=>intro i _ h;omega
   | succ q ih=>
    intro i hi hp;refine Classical.byContradiction fun hno=>?_;have hno':listed.getD i false=false:=by simpa using hno
    obtain⟨o,v,ho,_⟩:=hF i hi;have hol:ops.toList[i]?=some o:=by simpa using ho
    have hmem:i∈Region.ready .any ops listed:=mem_ready.2 ⟨by rw[hget listed hsz i hi];exact hno',o,ho,fun e he hb=>by
     have hee:e.on∈Zed o:=List.mem_map.2 ⟨e,List.mem_filter.2 ⟨by simpa using he,hb⟩,rfl⟩;obtain⟨h1,h2⟩:=hO.edge i o hol e.on hee;rw[hlen] at h2;have h3:=(hO.trans i (by rw[hlen];exact hi) e.on h1).2;exact ih e.on h2 (by omega)⟩
    rw[hr] at hmem;cases hmem
  exact fun i hi=>this (Zes ord i+1) i hi (Nat.lt_succ_self _)
 have hdone:∀ (pd:Bool) (listed:Array Bool) (j:Nat) (ι1:Nat->Option Loc) (a:Act) (w:World),PSt P w0 N fo ops cl an ord r0 rf hs m ι pd listed j ι1 a w->(pd=true->∀ f,fo=some f->j < QQ cl ord f)->Region.ready .any ops listed=[]->Q .normal a w:=by
  intro pd listed j ι1 a w hS hpd hr;have hall:=hready listed hS.lsz hr;have hjm:=hS.jm;have hjm2:j=m:=by
   rcases Nat.lt_or_ge j m with h|h
   .exfalso
    obtain⟨p,e,q,h1,h2,h3⟩:=ZkG (cl:=cl) (l:=ord) (j:=j) (by omega);have hnd:=hO.nodup;rw[h1] at hnd;have hep:e∉p:=fun hmm=>(List.nodup_append.1 hnd).2.2 e hmm e (by simp) rfl;have hle2:QQ cl ord e=j:=by rw[h1,ZjI hep];exact h3
    have hen:e < ops.size:=by have:=hO.inn e (by rw[h1];simp);rw[hlen] at this;exact this
    rcases(hS.eff e hen h2).2 (hall e hen) with h4|⟨h4,h5⟩
    .omega
    .have:=hpd h4 e h5;omega
   .omega
  have hpf:pd=false:=by
   cases hp:pd with
   | false=>rfl
   | true=>
    obtain⟨f,_,_,_,_,hfo,_⟩:=hS.pen hp;obtain⟨hfl,hcf,_⟩:=hO.flo f hfo;have h1:=ZrC hO hm hfl hcf;have h2:=hpd hp f hfo;omega
  subst hjm2;refine hQ ι1 a w hS.le ⟨hS.sim hpf,fun t=>?_,hS.size,hS.defers⟩;by_cases ht:∃ i,Wrt ops.toList i t
  .obtain⟨i,hi⟩:=ht;refine(hS.regs t).1 ⟨i,hi,hall i ?_,fun h=>by rw[hpf] at h;cases h⟩;obtain⟨q,hq,_⟩:=hi;rcases Nat.lt_or_ge i ops.size with h|h
   .exact h
   .rw[List.getElem?_eq_none (by simpa using h)] at hq;cases hq
  .rw[hrf t fun i hi=>ht ⟨i,hi⟩];exact(hS.regs t).2 fun i hi=>absurd ⟨i,hi⟩ ht
 intro fuel
 induction fuel with
 | zero=>
  intro pd listed j ι1 a w hS hpd hcnt;have hall:∀ i,i < ops.size->listed.getD i false=true:=by
   intro i hi;have:=List.countP_eq_zero.1 hcnt i (List.mem_range.2 hi);simpa using this
  have hr:Region.ready .any ops listed=[]:=by
   cases hr:Region.ready .any ops listed with
   | nil=>rfl
   | cons i l=>
    exfalso
    have hmem:i∈Region.ready .any ops listed:=by rw[hr];simp
    obtain⟨h1,o,ho,_⟩:=mem_ready.1 hmem;have hi:i < ops.size:=(Array.getElem?_eq_some_iff.1 ho).1;rw[hget listed hS.lsz i hi,hall i hi] at h1;cases h1
  exact⟨hr,hdone pd listed j ι1 a w hS hpd hr⟩
 | succ fuel ih=>
  intro pd listed j ι1 a w hS hpd hcnt;refine⟨fun hr=>hdone pd listed j ι1 a w hS hpd hr,fun i hi=>?_⟩;have hls:=hS.lsz;have hclo:=hS.clo;have heff:=hS.eff;have hjm:=hS.jm;obtain⟨hun,o,ho,hedges⟩:=mem_ready.1 hi;have hin:i < ops.size:=(Array.getElem?_eq_some_iff.1 ho).1;have hun':listed.getD i false=false:=by rw[<- hget listed hls i hin];exact hun
  have hol:ops.toList[i]?=some o:=by simpa using ho
  obtain⟨o',v,ho',hfact⟩:=hF i hin;rw[ho] at ho';cases ho';have hinl:i < ops.toList.length:=by rw[hlen];exact hin
  have hanc:∀ x∈an.getD i [],listed.getD x false=true:=by
   intro x hx;obtain⟨e,he,h⟩:=hO.back i o hol x hx;have hel:listed.getD e false=true:=by
    unfold Zed at he;obtain⟨ed,hed,rfl⟩:=List.mem_map.1 he;obtain⟨h1,h2⟩:=List.mem_filter.1 hed;exact hedges ed (by simpa using h1) h2
   rcases h with rfl|h
   .exact hel
   .exact hclo e hel x h
  have hnotin:∀ e,listed.getD e false=true->i∉an.getD e []:=fun e he hie=>by
   have:=hclo e he i hie;rw[hun'] at this;cases this
  have hfan:pd=true->∀ f,fo=some f->f∉an.getD i []:=fun hp f hf hm'=>by
   have h1:=hpd hp f hf;rcases(hO.flo f hf).2.2.2.2 i hinl hm' with h0|⟨e,he,hce,hle,hem⟩
   .omega
   .rw[hlen] at he;rcases(heff e he hce).2 (hanc e hem) with h2|⟨_,h2⟩
    .omega
    .have:=hpd hp e h2;rw[hf] at h2;cases h2;omega
  have hlooks:∀ t∈ZdQ ops.toList o,RV ι1 (fA ops.toList an r0 rf i t) (a.tmps.getD t undef):=by
   intro t ht;unfold fA;split
   .rename_i hw;obtain⟨q,hq,hwq⟩:=hw;exact(hS.regs t).1 ⟨q,hwq,hanc q hq,fun hp hfq=>hfan hp q hfq hq⟩
   .rename_i hw;refine(hS.regs t).2 fun q hwq=>?_;cases hl:listed.getD q false with
    | false=>rfl
    | true=>
     exfalso
     obtain⟨oq,hoq,hdq⟩:=hwq;have hne:q≠i:=fun e=>by subst e;rw[hun'] at hl;cases hl
     rcases(hO.tmps q oq i o t hoq hol hne hdq (.inl ht)).1 with h|h
     .exact hw ⟨q,h,oq,hoq,hdq⟩
     .exact hnotin q hl h
  have hset:∀ e,(listed.setIfInBounds i true).getD e false=true↔(e=i\/listed.getD e false=true):=by
   intro e;by_cases he:i=e
   .subst he;simp[hls,hin]
   .rw[getD_set_ne false he];simp[Ne.symm he]
  have hcnt':(List.range ops.size).countP (fun e=>!(listed.setIfInBounds i true).getD e false)=fuel:=by
   have hc:=ZrZ (p:=fun i=>!listed.getD i false) (q:=fun e=>!(listed.setIfInBounds i true).getD e false) (i:=i)
    (fun e hne=>by rw[getD_set_ne false (Ne.symm hne)]) (by simp only[hun'];rfl) (by rw[(hset i).2 (.inl rfl)];rfl) (List.nodup_range (n:=ops.size)) (List.mem_range.2 hin)
   omega
  have go:∀ (pd':Bool) (j':Nat) (ι2:Nat->Option Loc) (a':Act) (w':World),PSt P w0 N fo ops cl an ord r0 rf hs m ι pd' (listed.setIfInBounds i true) j' ι2 a' w'->wpAnyIn (FR rd) 0 P .any ops Q fuel (listed.setIfInBounds i true) a' w':=by
   intro pd' j' ι2 a' w' hP;cases pd' with
   | false=>exact ih false _ j' ι2 a' w' hP (fun h=>by cases h) hcnt'
   | true=>
    obtain⟨f,_,_,_,_,hfo,_,_,_,_,_,hjle,_⟩:=hP.pen rfl;by_cases he:QQ cl ord f=j'
    .obtain⟨ι3,hP3⟩:=hP.adopt hO hm hF (fun f' hf'=>by rw[hfo] at hf';cases hf';exact he);exact ih false _ (j'+1) ι3 a' w' hP3 (fun h=>by cases h) hcnt'
    .exact ih true _ j' ι2 a' w' hP (fun _ f' hf'=>by rw[hfo] at hf';cases hf';omega) hcnt'
  have hfin:∀ (pd':Bool) (j':Nat) (ι2:Nat->Option Loc) (v':Value) (w':World),Le ι1 ι2->(pd=true->pd'=true)->((pd'=true->fo≠some i)->RV ι2 v v')->(pd'=false->Sim P.globals.size w0 ι2 (hs j') w')->
    (pd'=true->∃ f of t d b,fo=some f/\ops.toList[f]?=some of/\of.op=.alloc t/\of.guard=none/\of.dst=some d/\(listed.setIfInBounds i true).getD f false=true/\j'<=QQ cl ord f/\Sim P.globals.size { w0 with prot:=(b,Zkk P t) :: w0.prot } ι2 (hs j') w'/\(∀ c∈w0.prot,b≠c.1)/\(a.put o.dst v').tmps.getD d undef=.pointer (some ⟨b,0,none⟩))->j'<=m->
    (∀ e,e < ops.size->cl.getD e 0=2->(QQ cl ord e < j'->e=i\/listed.getD e false=true)/\((e=i\/listed.getD e false=true)->QQ cl ord e < j'\/(pd'=true/\fo=some e)))->wpAnyIn (FR rd) 0 P .any ops Q fuel (listed.setIfInBounds i true) (a.put o.dst v') w':=by
   intro pd' j' ι2 v' w' hle2 hpp hv hsim hpen hjm2 heff2;refine go pd' j' ι2 _ w' ⟨hS.le.trans hle2,hsim,hpen,by cases o.dst<;>simp[Act.put,hS.size],by cases o.dst<;>exact hS.defers,by simpa using hls,fun t=>?_,fun e he x hx=>?_,fun e he hce=>?_,hjm2⟩
   .have hput:o.dst≠some t->(a.put o.dst v').tmps.getD t undef=a.tmps.getD t undef:=by
     intro hne;cases hd:o.dst with
     | none=>rfl
     | some d=>
      have:d≠t:=fun e=>hne (by rw[hd,e]);simp[Act.put,Array.getElem?_setIfInBounds_ne this]
    by_cases hdt:o.dst=some t
    .refine⟨fun⟨q,hwq,_,hq2⟩=>?_,fun hno=>?_⟩
     .have hqi:q=i:=by
       refine Classical.byContradiction fun hne=>?_;obtain⟨oq,hoq,hdq⟩:=hwq;exact(hO.tmps i o q oq t hol hoq (fun x=>hne x.symm) hdt (.inr hdq)).2 hdq
      subst hqi;rw[hfact.dst t hdt];have hlt:=(ZbW hok (List.mem_of_getElem? hol)).dst t hdt;rw[hdt];simpa[Act.put,hS.size,hlt] using hv hq2
     .have:=hno i ⟨o,hol,hdt⟩;rw[(hset i).2 (.inl rfl)] at this;cases this
    .rw[hput hdt];refine⟨fun⟨q,hwq,hlq,hq2⟩=>((hS.regs t).1 ⟨q,hwq,?_,fun hp=>hq2 (hpp hp)⟩).mono hle2,fun hno=>((hS.regs t).2 fun q hwq=>?_).mono hle2⟩
     .rcases(hset q).1 hlq with rfl|h
      .obtain⟨oq,hoq,hdq⟩:=hwq;rw[hol] at hoq;cases hoq;exact absurd hdq hdt
      .exact h
     .cases hl:listed.getD q false with
      | false=>rfl
      | true=>
       have:=hno q hwq;rw[(hset q).2 (.inr hl)] at this;cases this
   .rcases(hset e).1 he with rfl|h
    .exact(hset x).2 (.inr (hanc x hx))
    .exact(hset x).2 (.inr (hclo e h x hx))
   .rw[hset e];exact heff2 e he hce
  have hkeep:∀ (j':Nat) (ι2:Nat->Option Loc) (v':Value) (w':World) {f:Nat} {of:Oper} {t:TypeId} {d b:Nat},fo=some f->fo≠some i->ops.toList[f]?=some of->of.op=.alloc t->of.guard=none->of.dst=some d->listed.getD f false=true->j'<=QQ cl ord f->Sim P.globals.size { w0 with prot:=(b,Zkk P t) :: w0.prot } ι2 (hs j') w'->(∀ c∈w0.prot,b≠c.1)->a.tmps.getD d undef=.pointer (some ⟨b,0,none⟩)->
    ∃ f of t d b,fo=some f/\ops.toList[f]?=some of/\of.op=.alloc t/\of.guard=none/\of.dst=some d/\(listed.setIfInBounds i true).getD f false=true/\j'<=QQ cl ord f/\Sim P.globals.size { w0 with prot:=(b,Zkk P t) :: w0.prot } ι2 (hs j') w'/\(∀ c∈w0.prot,b≠c.1)/\(a.put o.dst v').tmps.getD d undef=.pointer (some ⟨b,0,none⟩):=by
   intro j' ι2 v' w' f of t d b h1 h2 h3 h4 h5 h6 h7 h8 h9 h10 h11;refine⟨f,of,t,d,b,h1,h3,h4,h5,h6,(hset f).2 (.inr h7),h8,h9,h10,?_⟩;have hne:f≠i:=fun e=>h2 (by rw[<- e];exact h1);have hdn:=(hO.tmps f of i o d h3 hol hne h6);cases hd:o.dst with
   | none=>exact h11
   | some d'=>
    have hdd:d'≠d:=fun e=>by
     subst e;exact(hdn (.inr hd)).2 hd
    simp only[Act.put];rw[<- h11];simp[Array.getElem?_setIfInBounds_ne hdd]
  by_cases hef:cl.getD i 0=2
  .by_cases hfi:fo=some i
   .
    have hpf:pd=false:=by
     cases hp:pd with
     | false=>rfl
     | true=>
      obtain⟨f,_,_,_,_,hfo,_,_,_,_,hlf,_⟩:=hS.pen hp;rw[hfi] at hfo;cases hfo;rw[hun'] at hlf;cases hlf
    subst hpf;obtain⟨_,_,⟨oo,t,d,hoo,hop,hg,hd⟩,_,_⟩:=hO.flo i hfi;rw[hol] at hoo;cases hoo;have hge:¬ QQ cl ord i < j:=fun h=>by
     have:=(heff i hin hef).1 h;rw[hun'] at this;cases this
    have hst:=hfact.eff hef;by_cases hlj:QQ cl ord i=j
    .rw[hlj] at hst;refine ZeW (hΓ w0) ho (hS.sim rfl) (ZbW hok (List.mem_of_getElem? hol)) hlooks hst fun ι2 v' w' hle2 hv hS2=>?_;refine hfin false (j+1) ι2 v' w' hle2 (fun h=>h) (fun _=>hv) (fun _=>hS2) (fun h=>by cases h) (by have:=ZrC hO hm hinl hef;omega) fun e he hce=>⟨fun h=>?_,fun h=>?_⟩
     .by_cases hei:e=i
      .exact .inl hei
      .have:=(hO.chain e (by rw[hlen];exact he) hce i hinl hef (fun x=>hei x.symm)).2;exact .inr ((heff e he hce).1 (by omega))
     .rcases h with rfl|h
      .exact .inl (by omega)
      .rcases(heff e he hce).2 h with h2|⟨h2,_⟩
       .exact .inl (by omega)
       .cases h2
    .obtain⟨ht,h1,_,_⟩:=Zrv hst hg hop;refine ZBs ho hop hg ht ?_;have hSim:=hS.sim rfl;refine hfin true j ι1 _ _ (.refl ι1) (fun h=>by cases h) (fun h=>absurd hfi (h rfl)) (fun h=>by cases h) (fun _=>⟨i,o,t,d,w.heap.size,hfi,hol,hop,hg,hd,(hset i).2 (.inl rfl),by omega,hSim.pend _,fun c hc e=>?_,?_⟩) hjm fun e he hce=>⟨fun h=>.inr ((heff e he hce).1 h),fun h=>?_⟩
     .have p1:=(hSim.prot c hc).1;rw[<- e,Array.getElem?_eq_none (Nat.le_refl _)] at p1;cases p1
     .have hlt:=(ZbW hok (List.mem_of_getElem? hol)).dst d hd;rw[hd];simp[Act.put,hS.size,hlt]
     .rcases h with rfl|h
      .exact .inr ⟨rfl,hfi⟩
      .rcases(heff e he hce).2 h with h2|⟨h2,_⟩
       .exact .inl h2
       .cases h2
   .
    have hlev:QQ cl ord i=j:=by
     have h1:¬ QQ cl ord i < j:=fun h=>by
      have:=(heff i hin hef).1 h;rw[hun'] at this;cases this
     rcases Nat.lt_or_ge j (QQ cl ord i) with h|h
     .exfalso
      obtain⟨e,he,hce,hle2⟩:=hO.full i hinl j h;rw[hlen] at he;have hne:e≠i:=fun x=>by subst x;omega
      have hea:=(hO.chain i hinl hef e (by rw[hlen];exact he) hce hne).1 hfi (by omega);rcases(heff e he hce).2 (hanc e hea) with h2|⟨h2,h3⟩
      .omega
      .have:=hpd h2 e h3;omega
     .omega
    have hst:=hfact.eff hef;rw[hlev] at hst;have hjm1:j+1<=m:=by have:=ZrC hO hm hinl hef;omega
    have heff2:∀ e,e < ops.size->cl.getD e 0=2->(QQ cl ord e < j+1->e=i\/listed.getD e false=true)/\((e=i\/listed.getD e false=true)->QQ cl ord e < j+1\/(pd=true/\fo=some e)):=fun e he hce=>⟨fun h=>by
     by_cases hei:e=i
     .exact .inl hei
     .have:=(hO.chain i hinl hef e (by rw[hlen];exact he) hce hei).2;exact .inr ((heff e he hce).1 (by omega)),fun h=>by
     rcases h with rfl|h
     .exact .inl (by omega)
     .rcases(heff e he hce).2 h with h2|h2
      .exact .inl (by omega)
      .exact .inr h2⟩
    cases hp:pd with
    | false=>
     rw[hp] at heff2;refine ZeW (hΓ w0) ho (hS.sim hp) (ZbW hok (List.mem_of_getElem? hol)) hlooks hst fun ι2 v' w' hle2 hv hS2=>?_;exact hfin false (j+1) ι2 v' w' hle2 (fun h=>by rw[hp] at h;cases h) (fun _=>hv) (fun _=>hS2) (fun h=>by cases h) hjm1 heff2
    | true=>
     rw[hp] at heff2;obtain⟨f,of,t,d,b,hfo,h3,h4,h5,h6,h7,_,h9,h10,h11⟩:=hS.pen hp;have hjl:=hpd hp f hfo;refine ZeW (hΓ _) ho h9 (ZbW hok (List.mem_of_getElem? hol)) hlooks hst fun ι2 v' w' hle2 hv hS2=>?_;exact hfin true (j+1) ι2 v' w' hle2 (fun _=>rfl) (fun _=>hv) (fun h=>by cases h) (fun _=>hkeep (j+1) ι2 v' w' hfo hfi h3 h4 h5 h6 h7 (by omega) hS2 h10 h11) hjm1 heff2
  .
   have hfi:fo≠some i:=fun h=>hef (hO.flo i h).2.1;have hle1:QQ cl ord i<=j:=by
    rcases hO.eager i hinl hef with h|⟨e,he,hce,h1,h2⟩
    .omega
    .rw[hlen] at he;rcases(heff e he hce).2 (hanc e h2) with h3|⟨h3,h4⟩
     .omega
     .exact absurd h2 (hfan h3 e h4)
   have hst:=hfact.non hef j hle1 hjm fun e he hce _ hlt=>by
    rw[hlen] at he;exact hnotin e ((heff e he hce).1 hlt)
   have heff2:∀ e,e < ops.size->cl.getD e 0=2->(QQ cl ord e < j->e=i\/listed.getD e false=true)/\((e=i\/listed.getD e false=true)->QQ cl ord e < j\/(pd=true/\fo=some e)):=fun e he hce=>⟨fun h=>.inr ((heff e he hce).1 h),fun h=>by
    rcases h with rfl|h
    .exact absurd hce hef
    .exact(heff e he hce).2 h⟩
   cases hp:pd with
   | false=>
    rw[hp] at heff2;refine ZeW (hΓ w0) ho (hS.sim hp) (ZbW hok (List.mem_of_getElem? hol)) hlooks hst fun ι2 v' w' hle2 hv hS2=>?_;exact hfin false j ι2 v' w' hle2 (fun h=>by rw[hp] at h;cases h) (fun _=>hv) (fun _=>hS2) (fun h=>by cases h) hjm heff2
   | true=>
    rw[hp] at heff2;obtain⟨f,of,t,d,b,hfo,h3,h4,h5,h6,h7,h8,h9,h10,h11⟩:=hS.pen hp;refine ZeW (hΓ _) ho h9 (ZbW hok (List.mem_of_getElem? hol)) hlooks hst fun ι2 v' w' hle2 hv hS2=>?_;exact hfin true j ι2 v' w' hle2 (fun _=>rfl) (fun _=>hv) (fun h=>by cases h) (fun _=>hkeep j ι2 v' w' hfo hfi h3 h4 h5 h6 h7 h8 hS2 h10 h11) hjm heff2
theorem Zrm {id:Nat} {ops:Array Oper} {an:List (List Nat)} {ord:List Nat} {fo:Option Nat} {Q:Exit->Act->World->Prop} (hm:P.follows .mixedOrders=true) (hΓ:∀ (b:ZY) g,WY P P.globals.size b g (Γ g))
  (hok:ZiS P N ops.toList=true) (hO:ZnE fo ops.toList (ops.toList.map fun o=>cls P o.op) an ord) {β:Type} {x:β × Zd} {k:ZN->M β} {r:ZN} (hSt:St P.globals.size w0 N ι r H a w)
  (h:exD P Γ an ops.toList (W1 ops.toList ord) [] r k H=some x) (hk:ZiW P w0 N ι k x (fun a1 w1=>Q .normal a1 w1)):(Code.region id ops true).wpIn (FR rd) 0 P Q a w:=by
 obtain⟨rf,hl,Hf,h1,h2⟩:=ZqK (by simp) h;have hlen:ops.toList.length=ops.size:=by simp
 have hhl:=Zry (fun i hi=>hO.inn i hi) h2;obtain⟨f1,_⟩:=ZyS (r0:=r) (hs:=fun j=>(H :: hl).getD j []) (m:=cE (ops.toList.map fun o=>cls P o.op) ord) rfl hO rfl ord [] rfl h2 (fun _ _=>rfl) (fun q _=>by simp[cE]);have hlast:=Znx h2;rw[hhl] at hlast;have hrep:∀ i,(Array.replicate ops.size false).getD i false=false:=fun i=>by
  rw[Array.getD_eq_getD_getElem?,Array.getElem?_replicate];split<;>rfl
 refine wpIn_region_any hm (ZBA (ι:=ι) (r0:=r) (rf:=rf) (hs:=fun j=>(H :: hl).getD j []) hΓ hok hO rfl (fun i hi=>?_) (fun t ht=>?_) (fun ι1 a1 w1 hle hSt1=>?_)
  ops.size false (Array.replicate ops.size false) 0 ι a _ ⟨.refl ι,fun _=>hSt.sim.congr rfl,(fun h=>by cases h),hSt.size,hSt.defers,by simp,fun t=>⟨fun⟨i,_,hi,_⟩=>?_,fun _=>hSt.regs t⟩,fun i hi=>?_,fun e he hce=>?_,Nat.zero_le _⟩ (fun h=>by cases h) ?_)
 .obtain⟨o,v,ho,hf⟩:=f1 i (hO.cover i (by rw[hlen];exact hi));exact⟨o,v,by simpa using ho,hf⟩
 .refine Znr h2 t fun p hp hpt=>?_;unfold W1 at hp;obtain⟨i,hi,hp⟩:=List.mem_filterMap.1 hp;simp only[Option.map_eq_some_iff] at hp;obtain⟨q,hq,rfl⟩:=hp;exact ht i ⟨q,hq,hpt⟩
 .refine hk ι1 rf Hf a1 w1 hle ?_ h1;rw[<- hlast];exact hSt1
 .rw[hrep i] at hi;cases hi
 .rw[hrep i] at hi;cases hi
 .rw[hrep e];exact⟨fun h=>absurd h (Nat.not_lt_zero _),fun h=>by cases h⟩
 .rw[List.countP_eq_length.2 fun i hi=>by rw[hrep i];rfl];simp
end
section
variable {P:Program} {Γ:Zc} {w0:ZY} {N:Nat} {ι:Nat->Option Loc} {r:ZN} {H:Zd} {a:Act} {w:World} {rd:Option Nat}
theorem Zxb {id:Nat} {ops:Array Oper} {draw:Bool} {Q:Exit->Act->World->Prop} (hm:P.follows .mixedOrders=true) (hΓ:∀ (b:ZY) g,WY P P.globals.size b g (Γ g))
  (hok:ZiS P N ops.toList=true) (hgd:ZfE ops.toList=true) {β:Type} {x:β × Zd} {k:ZN->M β} (hSt:St P.globals.size w0 N ι r H a w)
  (h:Zr0 P Γ ops.toList draw r k H=some x) (hk:ZiW P w0 N ι k x (fun a1 w1=>Q .normal a1 w1)):(Code.region id ops draw).wpIn (FR rd) 0 P Q a w:=by
 unfold Zr0 at h;cases draw with
 | true=>
  simp only[cond_true] at h;cases hd:Zgf none ops.toList (ops.toList.map fun o=>cls P o.op) (ZjX ops.toList) (Zjs (ops.toList.map fun o=>cls P o.op) (ZjX ops.toList) ops.toList.length ops.toList.length []) with
  | false=>
   rw[hd] at h;simp only[cond_false] at h;cases hf:ZqV ops.toList with
   | none=>rw[hf] at h;cases h
   | some f=>
    rw[hf] at h;simp only at h;cases hd2:Zgf (some f) ops.toList (ops.toList.map fun o=>cls P o.op) (ZjX ops.toList) (ZjQ (ops.toList.map fun o=>cls P o.op) (ZjX ops.toList) f ops.toList.length ops.toList.length []) with
    | false=>rw[hd2] at h;cases h
    | true=>
     rw[hd2] at h;simp only[cond_true] at h;exact Zrm hm hΓ hok (ZoY hd2) hSt h hk
  | true=>
   rw[hd] at h;simp only[cond_true] at h;exact Zrm hm hΓ hok (ZoY hd) hSt h hk
 | false=>
  simp only[cond_false] at h;exact wpIn_region_list (ZfS (Q:=Q) (hΓ w0) hgd _ (fun p hp=>⟨ZbW hok hp,hp⟩) hSt h hk)
theorem St.proj (hSt:St P.globals.size w0 N ι r H a w) (L:List Nat):St P.globals.size w0 N ι (A.mk L (A.proj L r)) H a w:=by
 refine⟨hSt.sim,fun t=>?_,hSt.size,hSt.defers⟩;by_cases ht:t∈L
 .have:=Zmc (r:=[]) (r1:=r) ht;rw[List.append_nil] at this;rw[this];exact hSt.regs t
 .have:=Zp4 (r:=[]) (L:=L) (vs:=A.proj L r) (t:=t) fun d hd e=>ht (e ▸ hd);rw[List.append_nil] at this;rw[this];exact .un
def Zgt (a:Act):ResultVar->Sem Value
 | .tmp t=>pure (a.tmps.getD t undef)
 | .cell b t=>do loadVar t (<- asAddr (a.tmps.getD b undef))
theorem ZkU {β:Type} {x:β × Zd} (hSt:St P.globals.size w0 N ι r H a w):∀ (l:List ResultVar) {k:List Value->M β},Zh0 P r l k H=some x->
  ∃ vs,k vs H=some x/\∀ (b:ZY) (w':World),Sim P.globals.size b ι H w'->∃ vs',RVs ι vs vs'/\(l.mapM (m:=Sem) (Zgt a)).run P w'=.ok vs' w'
 | [],k,h=>⟨[],h,fun _ _ _=>⟨[],.nil,rfl⟩⟩
 | .tmp t :: l,k,h=>by
  simp only[Zh0] at h;obtain⟨vs,h1,h2⟩:=ZkU hSt l h;refine⟨_,h1,fun b w' hw=>?_⟩;obtain⟨vs',h3,h4⟩:=h2 b w' hw;refine⟨a.tmps.getD t undef :: vs',.cons (hSt.regs t) h3,?_⟩;rw[List.mapM_cons,Sem.run_bind];simp only[Zgt,Sem.run_pure,Result.andThen_ok,Sem.run_bind,h4]
 | .cell b t :: l,k,h=>by
  have hb:=hSt.regs b;have fin:∀ {v:Value},(∀ (b':ZY) (w':World),Sim P.globals.size b' ι H w'->∃ ad v',a.tmps.getD b undef=.pointer (some ad)/\RV ι v v'/\(loadVar t ad).run P w'=.ok v' w')->
    Zh0 P r l (fun vs=>k (v :: vs)) H=some x->∃ vs,k vs H=some x/\∀ (b':ZY) (w':World),Sim P.globals.size b' ι H w'->∃ vs',RVs ι vs vs'/\((ResultVar.cell b t :: l).mapM (m:=Sem) (Zgt a)).run P w'=.ok vs' w':=by
   intro v hp h;obtain⟨vs,h1,h2⟩:=ZkU hSt l h;refine⟨_,h1,fun b' w' hw=>?_⟩;obtain⟨vs',h3,h4⟩:=h2 b' w' hw;obtain⟨ad,v',hp,hv,hr⟩:=hp b' w' hw;refine⟨v' :: vs',.cons hv h3,?_⟩;rw[List.mapM_cons,Sem.run_bind];simp only[Zgt,hp,asAddr,Sem.run_pure,Result.andThen_ok,Sem.run_bind,hr,h4]
  simp only[Zh0] at h;generalize hm:ZbD P t=m at h;cases m with
  | none=>cases h
  | some g=>
   cases g with
   | true=>
    simp only at h;obtain⟨v,H1,h1,h2⟩:=bind_some h;obtain⟨rfl,_⟩:=ZsQ (P:=P) hSt.sim hm hb h1;refine fin (fun b' w' hw=>?_) h2;obtain⟨_,ad,v',hp,hv,hr⟩:=ZsQ (P:=P) hw hm hb h1;exact⟨ad,v',hp,hv,hr⟩
   | false=>
    simp only at h;obtain⟨v,H1,h1,h2⟩:=bind_some h;obtain⟨rfl,_⟩:=ZmQ (P:=P) hSt.sim hm hb h1;refine fin (fun b' w' hw=>?_) h2;obtain⟨_,ad,v',hp,hv,hr⟩:=ZmQ (P:=P) hw hm hb h1;exact⟨ad,v',hp,hv,hr⟩
theorem Zkg {β:Type} {x:β × Zd} {fn:Func} {kr:Value->M β} (hSt:St P.globals.size w0 N ι r H a w) (h:Zjb P fn r kr H=some x) :
  ∃ v,kr v H=some x/\∀ (b:ZY) (w':World),Sim P.globals.size b ι H w'->∃ v',(results fn a.tmps).run P w'=.ok v' w'/\RV ι v v':=by
 unfold Zjb at h;obtain⟨vs,h1,h2⟩:=ZkU hSt _ h;have hm:∀ {w':World} {vs':List Value},(fn.results.toList.mapM (m:=Sem) (Zgt a)).run P w'=.ok vs' w'->(fn.results.mapM (m:=Sem) (Zgt a)).run P w'=.ok vs'.toArray w':=by
  intro w' vs' h3;rw[Array.mapM_eq_mapM_toList,Sem.run_map,h3];rfl
 have hres:∀ {w':World} {vs':List Value},(fn.results.toList.mapM (m:=Sem) (Zgt a)).run P w'=.ok vs' w'->∀ v',(if h:vs'.toArray.size=1 then vs'.toArray[0] else .tuple vs'.toArray)=v'->(results fn a.tmps).run P w'=.ok v' w':=by
  intro w' vs' h3 v' hv;unfold results;rw[Sem.run_bind];show((Sem.run P (fn.results.mapM (m:=Sem) (Zgt a)) w').andThen _)=_
  rw[hm h3];simp only[Result.andThen_ok,Sem.run_pure];rw[hv]
 match vs,h1,h2 with
 | [],h1,h2=>
  refine⟨_,h1,fun b w' hw=>?_⟩;obtain⟨vs',h3,h4⟩:=h2 b w' hw;have:=h3.nil_inv;subst this;exact⟨_,hres h4 (.tuple #[]) rfl,.un⟩
 | [v],h1,h2=>
  refine⟨_,h1,fun b w' hw=>?_⟩;obtain⟨vs',h3,h4⟩:=h2 b w' hw;obtain⟨v',r',rfl,hv,hr⟩:=h3.cons_inv;have:=hr.nil_inv;subst this;exact⟨_,hres h4 v' rfl,hv⟩
 | v :: u :: vs,h1,h2=>
  refine⟨_,h1,fun b w' hw=>?_⟩;obtain⟨vs',h3,h4⟩:=h2 b w' hw;refine⟨.tuple vs'.toArray,hres h4 _ ?_,.tupL h3⟩;have:=h3.1;rw[dif_neg (by simp at this ⊢;omega)]
inductive Ext:ZY->ZY->Prop
 | refl (b:ZY):Ext b b
 | push {b c:ZY} (D:Nat):Ext b c->(∀ x∈c.prot,x.1≠D)->Ext b { c with prot:=(D,.deferred (some [])) :: c.prot,own:=D :: c.own }
theorem Ext.trans {a b c:ZY} (h:Ext a b) (h':Ext b c):Ext a c:=by
 induction h' with
 | refl=>exact h
 | push D _ hn ih=>exact .push D ih hn
theorem Sim.base {G:Nat} {b c:ZY} (h:Sim G b ι H w) (hb:c.toWorld=b.toWorld) (hp:∀ x∈c.prot,x∈b.prot):Sim G c ι H w:=by
 obtain⟨cw,cp,co⟩:=c;simp only at hb;subst hb;refine⟨fun id o ho=>?_,h.inj,h.size,h.old,h.dom,h.glob,h.rest,fun x hx=>h.prot x (hp x hx),h.views⟩;have:=h.obj id o ho;cases o<;>exact this
theorem Ext.sim {G:Nat} {b c:ZY} (hE:Ext b c):∀ {ι:Nat->Option Loc} {H:Zd} {w:World},Sim G c ι H w->Sim G b ι H w:=by
 induction hE with
 | refl=>exact fun h=>h
 | push D _ hn ih=>exact fun h=>ih (h.base rfl fun x hx=>List.mem_cons_of_mem _ hx)
theorem ZDF {F:Fence} {n:Nat} {fn:Func} {tmps:Array Value} {R:Ending->World->Prop} {b c:ZY} (hE:Ext b c) (hb:b.own=[]):∀ {ι:Nat->Option Loc} {H:Zd} {w:World},Sim P.globals.size c ι H w->
  (∀ w',Sim P.globals.size b ι H w'->∃ v,(results fn tmps).run P w'=.ok v w'/\R (.returned v) w')->LeavesInM F n P fn tmps R (ZfX c.own) .returning w:=by
 induction hE with
 | refl=>
  intro ι H w h hR;rw[hb];exact hR w h
 | @push c D hc hn ih=>
  intro ι H w h hR;obtain⟨p1,p2,p3⟩:=h.prot (D,.deferred (some [])) (by simp);refine⟨by simp,.inl ⟨D,_,rfl,run_takeDeferred p1,ih (ι:=ι) (H:=H) ?_ hR⟩⟩;exact(h.base (c:=c) rfl fun x hx=>List.mem_cons_of_mem _ hx).put _ p2 hn (fun i o l h1 h2 _ h3=>p3 i o l h1 h2 h3) (fun j cs es nx lj hj hlj hbe=>absurd hbe (p3 j _ lj hj (by simp) hlj))
def ZEA (rnd:Bool) (P:Program) (w0:ZY) (fn:Func) (ι:Nat->Option Loc) (v:Value) (H:Zd) (a:Act) (w:World):Prop:=
 Sim P.globals.size w0 ι H w/\a.defers=ZfX w0.own/\(rnd=false->∀ (b:ZY) (w':World),Sim P.globals.size b ι H w'->∃ v',(results fn a.tmps).run P w'=.ok v' w'/\RV ι v v')
theorem Zr2 {body:List Value->M Out} {vs:List Value} {x:Out × Zd} (h:Zi body vs H=some x):∃ n,Ww body n vs H=some x:=by
 unfold Zi at h;split at h
 .exact⟨_,h⟩
 .cases h
theorem ZsB {β:Type} {m:M Out} {kn:List Value->M β} {kx:Nat->List Value->M β} {kr:Value->M β} {x:β × Zd} (h:jn m kn kx kr H=some x) :
  ∃ o H1,m H=some (o,H1)/\((∃ vs,o=.nrm vs/\kn vs H1=some x)\/(∃ j vs,o=.ext j vs/\kx j vs H1=some x)\/(∃ v,o=.ret v/\kr v H1=some x)):=by
 obtain⟨o,H1,h1,h2⟩:=bind_some h;refine⟨o,H1,h1,?_⟩;cases o with
 | nrm vs=>exact .inl ⟨vs,rfl,h2⟩
 | ext j vs=>exact .inr (.inl ⟨j,vs,rfl,h2⟩)
 | ret v=>exact .inr (.inr ⟨v,rfl,h2⟩)
theorem Zs8 {β:Type} {c:Code} {kx:Nat->ZN->M β} {j:Nat} {vs:List Value}:∀ (X:List (Nat × List Nat)),KT.xto j c=false->Zd3 c X kx j vs H=none
 | [],_=>rfl
 | p :: X,hj=>by
  simp only[Zd3];cases hp:KT.xto p.1 c with
  | false=>exact Zs8 X hj
  | true=>
   simp only[cond_true];cases e:Nat.beq j p.1 with
   | true=>
    have:=Nat.eq_of_beq_eq_true e;subst this;rw[hj] at hp;cases hp
   | false=>exact Zs8 X hj
theorem Zgy {β:Type} {c:Code} {kx:Nat->ZN->M β} {j:Nat} {vs:List Value} {x:β × Zd}:∀ (X:List (Nat × List Nat)),Zd3 c X kx j vs H=some x->kx j (mk (lkX X j) vs) H=some x
 | [],h=>by cases h
 | p :: X,h=>by
  simp only[Zd3] at h;simp only[lkX];cases hp:KT.xto p.1 c with
  | false=>
   rw[hp] at h;simp only[cond_false] at h;cases e:Nat.beq p.1 j with
   | true=>
    have:=Nat.eq_of_beq_eq_true e;subst this;rw[Zs8 X hp] at h;cases h
   | false=>exact Zgy X h
  | true=>
   rw[hp] at h;simp only[cond_true] at h;cases e:Nat.beq j p.1 with
   | true=>
    have:=Nat.eq_of_beq_eq_true e;subst this;rw[e] at h;simpa using h
   | false=>
    rw[e] at h;have e':Nat.beq p.1 j=false:=by
     cases e2:Nat.beq p.1 j with
     | false=>rfl
     | true=>have:=Nat.eq_of_beq_eq_true e2;subst this;simp at e
    rw[e'];exact Zgy X h
theorem ZlZ {β:Type} {c:Code} {kx:Nat->ZN->M β} {j:Nat} {r:ZN} {x:β × Zd}:∀ (X:List (Nat × List Nat)),ZkI c X kx j r H=some x->kx j r H=some x
 | [],h=>by cases h
 | p :: X,h=>by
  simp only[ZkI] at h;cases hp:KT.xto p.1 c with
  | false=>rw[hp] at h;exact ZlZ X h
  | true=>
   rw[hp] at h;simp only[cond_true] at h;cases e:Nat.beq j p.1 with
   | true=>
    have:=Nat.eq_of_beq_eq_true e;subst this;rw[e] at h;exact h
   | false=>
    rw[e] at h;exact ZlZ X h
structure ZrA {β:Type} (rnd:Bool) (P:Program) (w0:ZY) (N:Nat) (fn:Func) (ι:Nat->Option Loc) (kn:ZN->M β) (kx:Nat->ZN->M β) (kr:Value->M β) (x:β × Zd) (Q:Exit->Act->World->Prop):Prop where
 nrm:∀ b,Ext w0 b->ZiW P b N ι kn x (fun a w=>Q .normal a w)
 ext:∀ b,Ext w0 b->∀ j,ZiW P b N ι (kx j) x (fun a w=>Q (.exit j) a w)
 ret:∀ b,Ext w0 b->∀ ι1 v H1 a1 w1,Le ι ι1->ZEA rnd P b fn ι1 v H1 a1 w1->kr v H1=some x->Q .ret a1 w1
theorem ZiW.mono {β:Type} {k:ZN->M β} {x:β × Zd} {next:Act->World->Prop} {ι1:Nat->Option Loc} (h:ZiW P w0 N ι k x next) (hl:Le ι ι1):ZiW P w0 N ι1 k x next:=
 fun ι2 r2 H2 a2 w2 hle hSt hk=>h ι2 r2 H2 a2 w2 (hl.trans hle) hSt hk
theorem ZrA.mono {β:Type} {rnd:Bool} {fn:Func} {kn:ZN->M β} {kx:Nat->ZN->M β} {kr:Value->M β} {x:β × Zd} {Q:Exit->Act->World->Prop} {ι1:Nat->Option Loc} {b:ZY}
  (h:ZrA rnd P w0 N fn ι kn kx kr x Q) (hb:Ext w0 b) (hl:Le ι ι1):ZrA rnd P b N fn ι1 kn kx kr x Q:=
 ⟨fun c hc=>(h.nrm c (hb.trans hc)).mono hl,fun c hc j=>(h.ext c (hb.trans hc) j).mono hl,fun c hc ι2 v H2 a2 w2 hle hR hk=>h.ret c (hb.trans hc) ι2 v H2 a2 w2 (hl.trans hle) hR hk⟩
theorem Zw5 {β:Type} {ok:FuncId->Bool} {v:Value} {fn:Func} {lv:List (Nat × List Nat)} {p:Nat} {xs:List Nat} {cd:Array Tmp × Code × Code} {regs:ZN} {k:Option Code->M β} {x:β × Zd}
  (h:ZeN ok Γ v fn lv p xs cd regs k H=some x):∃ gf first captured u H1,v=.func (.func gf) first captured/\gf < Kn/\ok gf=true/\
   Γ gf (first.toList++([.func (.yield H.length) #[] #[]]++captured.toList)) (H++[.loop fn lv p xs cd regs .ready none])=some (u,H1)/\ZfM H.length k H1=some x:=by
 cases v with
 | func f first captured=>
  cases f with
  | func gf=>
   simp only[ZeN] at h;cases hok:Nat.blt gf Kn && ok gf with
   | false=>rw[hok] at h;cases h
   | true=>
    rw[hok] at h;simp only[Bool.and_eq_true] at hok;simp only[cond_true] at h;generalize hm:Γ gf (first.toList++([.func (.yield H.length) #[] #[]]++captured.toList)) (H++[.loop fn lv p xs cd regs .ready none])=m at h;cases m with
    | none=>cases h
    | some q=>exact⟨gf,first,captured,q.1,q.2,rfl,by simpa using hok.1,hok.2,hm,h⟩
  | _=>cases h
 | _=>cases h
theorem Zws {β:Type} {g:Operand} {ps:Array Tmp} {asg bd:Code} {Q:Exit->Act->World->Prop} {fn:Func} {lv:List (Nat × List Nat)} {p:Nat} {xs:List Nat} {L:List Nat} {k:Option Code->M β} {x:β × Zd}
  (hΓ:∀ (b:ZY) g,WY P P.globals.size b g (Γ g)) (hSt:St P.globals.size w0 fn.ntmps ι r H a w) (hg:Wt P g=true)
  (h:ZeN (Zrg P) Γ (A.ev r g) fn lv p xs (ps,asg,bd) (A.mk L (A.proj L r)) k H=some x)
  (hk:∀ pd b ι1 H1 a1 w1,Ext w0 b->Le ι ι1->St P.globals.size b fn.ntmps ι1 r H1 a1 w1->k pd H1=some x->(match pd with|none=>Q .normal a1 w1|some c=>c.wpIn (FR none) 0 P Q a1 w1)) :
  (Code.rangeFunc g ps asg bd).wpIn (FR none) 0 P Q a w:=by
 have hv:=hSt.ev hg;obtain⟨gf,first,captured,v,H1,hev,hgy',hcg,hcall,h⟩:=Zw5 h;rw[hev] at hv;obtain⟨first',captured',hev',hr1,hr2⟩:=hv.fn_inv;refine wpIn_rangeFunc fun fid hfid=>?_;generalize hD:w.heap.size=D;have hS1:=hSt.sim.push (.deferred (some []))
 let b1:ZY:={ w0 with prot:=(D,.deferred (some [])) :: w0.prot,own:=D :: w0.own }
 have hnp:∀ x∈w0.prot,x.1≠D:=by
  intro x hm e;have p1:=(hSt.sim.prot x hm).1;rw[e,Array.getElem?_eq_none (by omega)] at p1;cases p1
 have hS2:Sim P.globals.size b1 ι H (J3 w (.deferred (some []))):=by
  refine⟨fun id o ho=>?_,hS1.inj,hS1.size,hS1.old,hS1.dom,hS1.glob,hS1.rest,fun y hy=>?_,hS1.views⟩
  .have:=hS1.obj id o ho;cases o<;>exact this
  .cases hy with
   | head=>
    refine⟨by rw[<- hD];exact Zb0 w _,by rw[<- hD];exact hSt.sim.size,fun id o l ho hd hl e=>?_⟩;obtain⟨l',hl',hlt⟩:=(hSt.sim.obj id o ho).loc hd;rw[hl] at hl';cases hl';omega
   | tail _ hy=>exact hS1.prot y hy
 let rec0:Loop:={ state:=.ready,pending:=none,fn:=fid,tmps:=a.tmps,params:=ps,assign:=asg,body:=bd,defers:=D }
 let l0:Loc:=⟨D+1,0,0,0,false⟩
 have hsz2:(J3 w (.deferred (some []))).heap.size=D+1:=by simp[J3,hD]
 have hle1:Le ι (Kf ι H.length l0):=JF hSt.sim _;have hS3:Sim P.globals.size b1 (Kf ι H.length l0) (H++[.loop fn lv p xs (ps,asg,bd) (A.mk L (A.proj L r)) .ready none]) (J3 (J3 w (.deferred (some []))) (.loop rec0)):=by
  refine hS2.new (.loop rec0) hsz2.symm ⟨l0,fid,a.tmps,D,Qb _ _ _,?_,?_,hSt.size,fun t=>?_⟩
  .have:=Zb0 (J3 w (.deferred (some []))) (.loop rec0);rw[hsz2] at this;exact this
  .have:=hSt.sim.size;show w0.heap.size<=D+1
   omega
  .exact((hSt.proj L).regs t).mono hle1
 have hRV:RVs (Kf ι H.length l0) (first.toList++([.func (.yield H.length) #[] #[]]++captured.toList)) (first'.toList++([.func (.yield (D+1)) #[] #[]]++captured'.toList)):=
  (hr1.mono hle1).append ((RVs.cons (.yl (l:=l0) (Qb _ _ _)) .nil).append (hr2.mono hle1))
 unfold Zrg at hcg;split at hcg
 case h_2=>cases hcg
 rename_i gfn hgfn;unfold Zc0 at hcg;simp only [Bool.and_eq_true] at hcg;have hname : (gfn.name == "runtime.NumGoroutine") = false := by simpa using hcg.1
 have hbody:gfn.body.isNone=false:=by
  have:=hcg.2;cases hb:gfn.body<;>simp_all
 rcases hΓ b1 gf _ _ _ _ hcall with⟨_,⟨_,hcalls⟩|⟨ex,⟨fn',hfn',_,hbody',_⟩,_⟩⟩|⟨hno,_⟩
 .have hc:=hcalls _ _ _ hS3 hRV;refine⟨D+1,ZfX [D],J3 (J3 w (.deferred (some []))) (.loop rec0),{ target:=.fn (.func gf) captured',args:=first'++#[Value.func (.yield (D+1)) #[] #[]] },J3 (J3 w (.deferred (some []))) (.loop rec0),gf,
   (first'.toList++([Value.func (.yield (D+1)) #[] #[]]++captured'.toList)).toArray,J3 (J3 w (.deferred (some []))) (.loop rec0),?_,?_,fun _ _=>trivial,?_,(fun h=>by cases h),?_⟩
  .have:=run_enterLoop_outer (P:=P) (w:=w) fid a.tmps ps asg bd;rw[hD] at this;exact this
  .simp only[resolve,hev',Deferred.ofValue,Sem.run_bind,Sem.run_pure,Result.andThen_ok];simp[Act.eval]
  .simp only[invoke,callFunc,Sem.run_bind,run_program,Result.andThen_ok,hgfn,hname,hbody,Bool.false_eq_true,if_false,Sem.run_pure]
   congr 2
   apply Array.ext'
   simp
  .refine Zkn (hc.mono fun e w' he=>?_);obtain⟨ι1,v',hle,rfl,hv',hs⟩:=he;unfold ZfM at h;split at h
   case h_2=>cases h
   rename_i fn2 lv2 p2 xs2 cd2 regs2 st2 pd2 hget;obtain⟨l,rf,tmps2,D2,hl,hheap,hnew,hsz,hregs⟩:=hs.obj _ _ hget;have hl0:=hle _ _ (Qb ι H.length l0);rw[hl] at hl0;cases hl0;have hst:st2≠.busy:=by
    rintro rfl
    cases h
   have hk':k pd2 (H1.set H.length (.loop fn2 lv2 p2 xs2 cd2 regs2 .exhausted pd2))=some x:=by
    cases st2 with
    | busy=>exact absurd rfl hst
    | _=>exact h
   refine⟨pd2,_,run_endLoop hheap hst,?_⟩;have hS4:=hs.set (new:=.loop fn2 lv2 p2 xs2 cd2 regs2 .exhausted pd2) (o':=.loop { state:=.exhausted,pending:=pd2,fn:=rf,tmps:=tmps2,params:=cd2.1,assign:=cd2.2.1,body:=cd2.2.2,defers:=D2 }) hget rfl hl rfl
    fun w' hw'=>⟨l0,rf,tmps2,D2,hl,hw',hnew,hsz,hregs⟩
   refine hk pd2 b1 ι1 _ _ _ (.push D (.refl w0) hnp) (hle1.trans hle) ⟨hS4,fun t=>(hSt.regs t).mono (hle1.trans hle),hSt.size,?_⟩ hk';show ZfX [D]++a.defers=ZfX (D :: w0.own)
   rw[hSt.defers];rfl
 .rw[hgfn] at hfn';cases hfn';rw[hbody] at hbody';cases hbody'
 .exact absurd hgy' (Nat.not_lt_of_le hno)
theorem ZsC {rnd:Bool} (hrd:rnd=false->rd=none) (hm:P.follows .mixedOrders=true) (hΓ:∀ (b:ZY) g,WY P P.globals.size b g (Γ g)) (fn:Func) (lv:List (Nat × List Nat)):∀ (c:Code) {β:Type} {p:Nat} {X:List (Nat × List Nat)} {r:ZN} {kn:ZN->M β} {kx:Nat->ZN->M β} {kr:Value->M β}
  {w0:ZY} {H:Zd} {x:β × Zd} {ι:Nat->Option Loc} {a:Act} {w:World} {Q:Exit->Act->World->Prop},St P.globals.size w0 fn.ntmps ι r H a w->E P Γ rnd fn lv c p X r kn kx kr H=some x->
  ZrA rnd P w0 fn.ntmps fn ι kn kx kr x Q->c.wpIn (FR rd) 0 P Q a w:=by
 intro c
 induction c with
 | skip=>intro β p X r kn kx kr w0 H x ι a w Q hSt h hG;exact wpIn_skip (hG.nrm w0 (.refl w0) ι r H a w (.refl ι) hSt h)
 | region id ops draw=>
  intro β p X r kn kx kr w0 H x ι a w Q hSt h hG;simp only[E] at h;cases hok:ZiS P fn.ntmps ops.toList && ZfE ops.toList with
  | false=>rw[hok] at h;cases h
  | true=>
   rw[hok] at h;simp only[Bool.and_eq_true] at hok;exact Zxb hm hΓ hok.1 hok.2 hSt h (hG.nrm w0 (.refl w0))
 | seq c d ihc ihd=>
  intro β p X r kn kx kr w0 H x ι a w Q hSt h hG;simp only[E] at h;refine wpIn_seq (ihc hSt h ⟨?_,hG.ext,hG.ret⟩);intro b hb ι1 r1 H1 a1 w1 hle hSt1 h1;exact ihd hSt1 h1 (hG.mono hb hle)
 | cond c t e iht ihe=>
  intro β p X r kn kx kr w0 H x ι a w Q hSt h hG;simp only[E] at h;cases hcok:Wt P c with
  | false=>rw[hcok] at h;cases h
  | true=>
  rw[hcok] at h;simp only[Bool.not_true,cond_false] at h;have hc:=hSt.ev hcok;cases hf:KT t && KT e with
  | false=>
   rw[hf] at h;simp only[cond_false] at h;unfold cnd at h;generalize A.ev r c=g at h hc;cases g with
   | bool b=>
    refine wpIn_cond hc.bool_inv ?_;cases b
    .exact ihe hSt h hG
    .exact iht hSt h hG
   | _=>cases h
  | true=>
   rw[hf] at h;simp only[cond_true] at h;obtain⟨o,H1,h1,h2⟩:=ZsB h;have hG2:ZrA rnd P w0 fn.ntmps fn ι (fun r'=>ret (Out.nrm (A.proj (lkX lv p) r'))) (fun j r'=>ret (Out.ext j (A.proj (lkX X j) r'))) (fun v=>ret (Out.ret v)) (o,H1) Q:=by
    refine⟨?_,?_,?_⟩
    .intro b hb ι1 r1 H2 a1 w1 hle hSt1 hk;cases hk;rcases h2 with⟨vs,he,hk⟩|⟨j,vs,he,hk⟩|⟨v,he,hk⟩<;>cases he;exact hG.nrm b hb ι1 _ H1 a1 w1 hle (hSt1.proj _) hk
    .intro b hb j ι1 r1 H2 a1 w1 hle hSt1 hk;cases hk;rcases h2 with⟨vs,he,hk⟩|⟨j,vs,he,hk⟩|⟨v,he,hk⟩<;>cases he;exact hG.ext b hb _ ι1 _ H1 a1 w1 hle (hSt1.proj _) (Zgy _ hk)
    .intro b hb ι1 v H2 a1 w1 hle hR hk;cases hk;rcases h2 with⟨vs,he,hk⟩|⟨j,vs,he,hk⟩|⟨v,he,hk⟩<;>cases he;exact hG.ret b hb ι1 _ H1 a1 w1 hle hR hk
   unfold cnd at h1;generalize A.ev r c=g at h1 hc;cases g with
   | bool b=>
    refine wpIn_cond hc.bool_inv ?_;cases b
    .exact ihe hSt h1 hG2
    .exact iht hSt h1 hG2
   | _=>cases h1
 | block id c ih=>
  intro β p X r kn kx kr w0 H x ι a w Q hSt h hG;simp only[E] at h;refine wpIn_block ?_;cases hb:Nat.ble (Zex id c+(bif KT c then 1 else 0)) 1 with
  | true=>
   rw[hb] at h;simp only[cond_true] at h;refine ih hSt h ⟨hG.nrm,?_,hG.ret⟩;intro b hb j ι1 r1 H1 a1 w1 hle hSt1 hk;simp only[Exit.inBlock];cases hj:Nat.beq j id with
   | true=>
    rw[hj] at hk;rw[if_pos (Nat.eq_of_beq_eq_true hj)];exact hG.nrm b hb ι1 r1 H1 a1 w1 hle hSt1 hk
   | false=>
    rw[hj] at hk;rw[if_neg (fun e=>by subst e;simp at hj)];exact hG.ext b hb j ι1 r1 H1 a1 w1 hle hSt1 hk
  | false=>
   rw[hb] at h;simp only[cond_false] at h;obtain⟨o,H1,h1,h2⟩:=ZsB h;refine ih hSt h1 ⟨?_,?_,?_⟩
   .intro b hb ι1 r1 H2 a1 w1 hle hSt1 hk;cases hk;rcases h2 with⟨vs,he,hk⟩|⟨j,vs,he,hk⟩|⟨v,he,hk⟩<;>cases he;exact hG.nrm b hb ι1 _ H1 a1 w1 hle (hSt1.proj _) hk
   .intro b hb j ι1 r1 H2 a1 w1 hle hSt1 hk;simp only[Exit.inBlock];cases hj:Nat.beq j id with
    | true=>
     rw[hj] at hk;rw[if_pos (Nat.eq_of_beq_eq_true hj)];cases hk;rcases h2 with⟨vs,he,hk⟩|⟨j,vs,he,hk⟩|⟨v,he,hk⟩<;>cases he;exact hG.nrm b hb ι1 _ H1 a1 w1 hle (hSt1.proj _) hk
    | false=>
     rw[hj] at hk;rw[if_neg (fun e=>by subst e;simp at hj)];cases hk;rcases h2 with⟨vs,he,hk⟩|⟨j,vs,he,hk⟩|⟨v,he,hk⟩<;>cases he;exact hG.ext b hb _ ι1 _ H1 a1 w1 hle (hSt1.proj _) (Zgy _ hk)
   .intro b hb ι1 v H2 a1 w1 hle hR hk;cases hk;rcases h2 with⟨vs,he,hk⟩|⟨j,vs,he,hk⟩|⟨v,he,hk⟩<;>cases he;exact hG.ret b hb ι1 _ H1 a1 w1 hle hR hk
 | loop c ih=>
  intro β p X r kn kx kr w0 H x ι a w Q hSt h hG;simp only[E] at h;obtain⟨o,H1,h1,h2⟩:=ZsB h;obtain⟨n,hn⟩:=Zr2 h1;refine wpIn_loop_rounds n ?_;have key:∀ (n:Nat) {b:ZY} {r:ZN} {H:Zd} {ι1:Nat->Option Loc} {a:Act} {w:World},Ext w0 b->Le ι ι1->St P.globals.size b fn.ntmps ι1 r H a w->
    Ww (fun vs=>E P Γ rnd fn lv c (2 * p) X (A.mk (lkX lv p) vs) (fun r'=>ret (Out.nrm (A.proj (lkX lv p) r'))) (fun j r'=>ret (Out.ext j (A.proj (lkX X j) r'))) (fun v=>ret (Out.ret v))) n (A.proj (lkX lv p) r) H=some (o,H1)->
    Code.roundsIn (FR rd) 0 P c Q n a w:=by
   intro n
   induction n with
   | zero=>intro b r H ι1 a w _ _ _ h;cases h
   | succ n ihn=>
    intro b r H ι1 a w hb hle hSt1 hit;simp only[Ww] at hit;split at hit
    .cases hit
    .rename_i vs' H' he;refine ih (hSt1.proj _) he ⟨?_,?_,?_⟩
     .intro b2 hb2 ι2 r2 H2 a2 w2 hle2 hSt2 hk;cases hk;exact ihn (hb.trans hb2) (hle.trans hle2) hSt2 hit
     .intro b2 hb2 j ι2 r2 H2 a2 w2 hle2 hSt2 hk;cases hk
     .intro b2 hb2 ι2 v H2 a2 w2 hle2 hR hk;cases hk
    .rename_i o' H' hno he;cases hit;refine ih (hSt1.proj _) he ⟨?_,?_,?_⟩
     .intro b2 hb2 ι2 r2 H2 a2 w2 hle2 hSt2 hk;cases hk;exact(hno _ rfl).elim
     .intro b2 hb2 j ι2 r2 H2 a2 w2 hle2 hSt2 hk;cases hk;rcases h2 with⟨vs,he,hk⟩|⟨j,vs,he,hk⟩|⟨v,he,hk⟩<;>cases he;exact hG.ext b2 (hb.trans hb2) _ ι2 _ H1 a2 w2 (hle.trans hle2) (hSt2.proj _) (Zgy _ hk)
     .intro b2 hb2 ι2 v H2 a2 w2 hle2 hR hk;cases hk;rcases h2 with⟨vs,he,hk⟩|⟨j,vs,he,hk⟩|⟨v,he,hk⟩<;>cases he;exact hG.ret b2 (hb.trans hb2) ι2 _ H1 a2 w2 (hle.trans hle2) hR hk
  exact key n (.refl w0) (.refl ι) hSt hn
 | exit id=>intro β p X r kn kx kr w0 H x ι a w Q hSt h hG;exact wpIn_exit (hG.ext w0 (.refl w0) id ι r H a w (.refl ι) hSt h)
 | ret=>
  intro β p X r kn kx kr w0 H x ι a w Q hSt h hG;simp only[E] at h;cases rnd with
  | true=>exact wpIn_ret (hG.ret w0 (.refl w0) ι _ H a w (.refl ι) ⟨hSt.sim,hSt.defers,fun h=>by cases h⟩ h)
  | false=>
   obtain⟨v,h1,h2⟩:=Zkg hSt h;exact wpIn_ret (hG.ret w0 (.refl w0) ι v H a w (.refl ι) ⟨hSt.sim,hSt.defers,fun _=>h2⟩ h1)
 | rangeFunc g ps asg bd _ _=>
  intro β p X r kn kx kr w0 H x ι a w Q hSt h hG;simp only[E] at h;cases hc:rnd || !Wt P g with
  | true=>rw[hc] at h;cases h
  | false=>
   rw[hc] at h;simp only[Bool.or_eq_false_iff,Bool.not_eq_false'] at hc;obtain⟨rfl,hg⟩:=hc;obtain rfl:=hrd rfl;simp only[cond_false] at h;refine Zws hΓ hSt hg h fun pd b ι1 H1 a1 w1 hb hle hSt1 hk=>?_;cases pd with
   | none=>exact hG.nrm b hb ι1 r H1 a1 w1 hle hSt1 hk
   | some c=>
    cases c with
    | exit j=>exact wpIn_exit (hG.ext b hb j ι1 r H1 a1 w1 hle hSt1 (ZlZ _ hk))
    | ret=>
     obtain⟨v,h1,h2⟩:=Zkg hSt1 hk;exact wpIn_ret (hG.ret b hb ι1 v H1 a1 w1 hle ⟨hSt1.sim,hSt1.defers,fun _=>h2⟩ h1)
    | _=>cases hk
 | _=>intro β p X r kn kx kr w0 H x ι a w Q hSt h hG;cases h
theorem Zpa:∀ (vs:List Value) (i t:Nat),Qu (ZdK i vs) t=if i<=t/\t < i+vs.length then vs.getD (t - i) undef else undef
 | [],i,t=>by simp[ZdK,Qu]
 | v :: vs,i,t=>by
  simp only[ZdK,Qu];cases e:Nat.beq i t with
  | true=>
   have:=Nat.eq_of_beq_eq_true e;subst this;simp
  | false=>
   have hne:i≠t:=fun h=>by subst h;simp at e
   rw[cond_false,Zpa vs (i+1) t];by_cases h1:i+1<=t/\t < i+1+vs.length
   .rw[if_pos h1,if_pos (by simp;omega)];have:t - i=(t - (i+1))+1:=by omega
    rw[this];simp
   .rw[if_neg h1,if_neg (by simp;omega)]
theorem Zy0 (hm:P.follows .mixedOrders=true) (hΓ:∀ (b:ZY) g,WY P P.globals.size b g (Γ g)) {g:FuncId} {fn:Func} {lv:List (Nat × List Nat)} (hfn:P.funcs[g]?=some fn) (hcall:Zc0 fn=true)
  {args:List Value} {H H1:Zd} {v:Value} (h:Zs P Γ fn lv args H=some (v,H1)):ZqA P P.globals.size w0 g v args H H1:=by
 unfold Zs at h;cases hb:fn.body with
 | none=>rw[hb] at h;cases h
 | some c=>
  rw[hb] at h;simp only at h;cases hle:Nat.ble args.length fn.ntmps with
  | false=>rw[hle] at h;cases h
  | true=>
   rw[hle] at h;simp only[cond_true] at h;have hlen:=Nat.le_of_ble_eq_true hle;have hcl:Zbc P g:=by
    refine⟨fn,hfn,?_,by simp[hb]⟩;unfold Zc0 at hcall;simp only[Bool.and_eq_true] at hcall;simpa using hcall.1
   refine⟨hcl,fun ι w args' hS hr=>callsIn_wide.1 (callsIn_of_wp_marks (F:=Fence.wide) (n:=0) hfn hb trivial ?_)⟩;have hsz:args'.toArray.size=args.length:=by have:=hr.1;simp;omega
   have hret:∀ b,Ext { w0 with own:=[] } b->∀ ι1 v' H2 a1 w1,Le ι ι1->ZEA false P b fn ι1 v' H2 a1 w1->v'=v->H2=H1->
     LeavesInM Fence.wide 0 P fn a1.tmps (fun e w'=>∃ ι1 v',Le ι ι1/\e=.returned v'/\RV ι1 v v'/\Sim P.globals.size w0 ι1 H1 w') a1.defers .returning w1:=by
    rintro b hb ι1 v' H2 a1 w1 hle1 ⟨hs,hd,hres⟩ rfl rfl
    rw[hd];refine ZDF hb rfl hs fun w' hw'=>?_;obtain⟨v2,h2,hv2⟩:=hres rfl _ w' hw';exact⟨v2,h2,ι1,v2,hle1,rfl,hv2,hw'.base rfl fun x hx=>hx⟩
   refine ZsC (rnd:=false) (rd:=none) (fun _=>rfl) hm hΓ fn lv c (ι:=ι) (w0:={ w0 with own:=[] }) ?_ h ⟨?_,?_,?_⟩
   .refine⟨hS.base rfl fun x hx=>hx,fun t=>?_,by simp at hsz ⊢;omega,rfl⟩;rw[Zpa];split
    .rename_i ht;have h1:=hr.2 t (by omega);have ht':t < args'.length:=by have:=hr.1;omega
     simp only[Nat.sub_zero];simpa[Array.getElem?_append,ht',List.getD_eq_getElem?_getD] using h1
    .exact .un
   .intro b hb ι1 r1 H2 a1 w1 hle1 hSt1 hk;obtain⟨v',h1,hres⟩:=Zkg hSt1 hk;cases h1;exact hret b hb ι1 _ _ a1 w1 hle1 ⟨hSt1.sim,hSt1.defers,fun _=>hres⟩ rfl rfl
   .intro b hb j ι1 r1 H2 a1 w1 hle1 hSt1 hk;cases hk
   .intro b hb ι1 v' H2 a1 w1 hle1 hR hk;cases hk;exact hret b hb ι1 _ _ a1 w1 hle1 hR rfl rfl
theorem Zph {N:Nat}:∀ {ps:List Nat} {vs vs':List Value} {r:ZN} {T:Array Value},RVs ι vs vs'->(∀ t∈ps,t < N)->T.size=N->(∀ t,RV ι (Qu r t) (T.getD t undef))->
  ((ps.zip vs').foldl (fun tmps (t,a)=>tmps.setIfInBounds t a) T).size=N/\∀ t,RV ι (Qu (ZzG ps vs r) t) (((ps.zip vs').foldl (fun tmps (t,a)=>tmps.setIfInBounds t a) T).getD t undef)
 | [],vs,vs',r,T,_,_,hT,hr=>⟨hT,hr⟩
 | p :: ps,[],vs',r,T,hv,_,hT,hr=>by
  have:=hv.nil_inv;subst this;exact⟨hT,hr⟩
 | p :: ps,v :: vs,vs',r,T,hv,hp,hT,hr=>by
  obtain⟨v',b',rfl,hv1,hv2⟩:=hv.cons_inv;refine Zph (ps:=ps) (r:=(p,v) :: r) (T:=T.setIfInBounds p v') hv2 (fun t ht=>hp t (by simp[ht])) (by simpa using hT) fun t=>?_;simp only[Qu];by_cases e:p=t
  .subst e;have:=hp p (by simp);simpa[hT,this] using hv1
  .have e1:Nat.beq p t=false:=by
    cases h:Nat.beq p t with
    | false=>rfl
    | true=>exact absurd (Nat.eq_of_beq_eq_true h) e
   have:=hr t;simpa[e1,Array.getElem?_setIfInBounds_ne e] using this
theorem ZoB {ps:Array Tmp} {vs:List Value} {T:Array Value}:(ps.zip vs.toArray).foldl (fun tmps (x:Tmp × Value)=>tmps.setIfInBounds x.1 x.2) T=(ps.toList.zip vs).foldl (fun tmps (x:Tmp × Value)=>tmps.setIfInBounds x.1 x.2) T:=by
 rw[<- Array.foldl_toList];simp
theorem Zv4 (hm:P.follows .mixedOrders=true) (hΓ:∀ (b:ZY) g,WY P P.globals.size b g (Γ g)) {L:Nat} {args:List Value} {H H1:Zd} {v:Value} (h:Zrl P Γ L args H=some (v,H1)):ZzV P P.globals.size w0 L v args H H1:=by
 unfold Zrl at h;split at h
 case h_2=>cases h
 rename_i fn lv p xs cd regs pd hget;obtain⟨ps,asg,bd⟩:=cd;simp only at h;cases hok:Nat.beq args.length ps.size && ps.toList.all (fun t=>Nat.blt t fn.ntmps) with
 | false=>rw[hok] at h;cases h
 | true=>
 rw[hok] at h;simp only[Bool.and_eq_true,List.all_eq_true] at hok;obtain⟨hlen,hps⟩:=hok;have hlen:=Nat.eq_of_beq_eq_true hlen;simp only[cond_true] at h;intro ι w args' l hl hS hr;obtain⟨l',rf,tmps,D,hl',hheap,hnew,hsz,hregs⟩:=hS.obj _ _ hget;rw[hl] at hl';cases hl';have hlen':args'.length=ps.size:=by rw[<- hr.1];exact hlen
 have hy:=run_yield (P:=P) (args:=args'.toArray) hheap (by simpa using hlen');refine⟨_,_,_,_,hy,?_⟩;simp only;rw[ZoB];obtain⟨hsz2,hregs2⟩:=Zph (ps:=ps.toList) (r:=regs) hr (fun t ht=>by simpa using hps t ht) hsz hregs;have ZzJ:∀ (jump:Option Code) {b:ZY} {ι1:Nat->Option Loc} {H2:Zd} {w2:World},Ext { w0 with own:=[] } b->Le ι ι1->Sim P.globals.size b ι1 H2 w2->Ze7 L jump H2=some (v,H1)->
   ∃ u w',(Instr.endRound l.blk jump).run P w2=.ok u w'/\∃ ι1 v',Le ι ι1/\Ending.returned u=.returned v'/\RV ι1 v v'/\Sim P.globals.size w0 ι1 H1 w':=by
  intro jump b ι1 H2 w2 hb hle hs he;unfold Ze7 at he;split at he
  case h_2=>cases he
  rename_i fn2 lv2 p2 xs2 cd2 regs2 st2 pd2 hget2;cases he;obtain⟨l2,rf2,tmps2,D2,hl2,hheap2,hnew2,hsz2,hregs2⟩:=hs.obj _ _ hget2;rw[hle _ _ hl] at hl2;cases hl2;have hS4:=hs.set (new:=.loop fn2 lv2 p2 xs2 cd2 regs2 (if jump.isNone then .ready else .done) jump) (o':=.loop { state:=if jump.isNone then .ready else .done,pending:=jump,fn:=rf2,tmps:=tmps2,params:=cd2.1,assign:=cd2.2.1,body:=cd2.2.2,defers:=D2 }) hget2 rfl (hle _ _ hl) rfl
   fun w' hw'=>⟨l,rf2,tmps2,D2,hle _ _ hl,hw',hnew2,hsz2,hregs2⟩
  exact⟨_,_,run_endRound jump hheap2,ι1,_,hle,rfl,.sc rfl,(hb.sim hS4).base rfl fun x hx=>hx⟩
 refine roundIn_of_wpIn trivial ?_;refine ZsC (rnd:=true) (rd:=some l.blk) (fun h=>by cases h) hm hΓ fn lv asg (ι:=ι) (w0:={ w0 with own:=[] }) ⟨hS.base rfl fun x hx=>hx,hregs2,hsz2,rfl⟩ h ⟨?_,?_,?_⟩
 .intro b hb ι1 r1 H2 a1 w1 hle hSt1 hk;simp only[Exit.then];simp only[ZpW] at hk;split at hk
  case h_2=>cases hk
  rename_i fn2 lv2 p2 xs2 cd2 regs2 pd2 hget2;obtain⟨l2,rf2,tmps2,D2,hl2,hheap2,hnew2,hsz2,hregs2⟩:=hSt1.sim.obj _ _ hget2;rw[hle _ _ hl] at hl2;cases hl2;have hS4:=hSt1.sim.set (new:=.loop fn2 lv2 p2 xs2 cd2 regs2 .busy pd2) (o':=.loop { state:=.busy,pending:=pd2,fn:=rf2,tmps:=tmps2,params:=cd2.1,assign:=cd2.2.1,body:=cd2.2.2,defers:=D2 }) hget2 rfl (hle _ _ hl) rfl
   fun w' hw'=>⟨l,rf2,tmps2,D2,hle _ _ hl,hw',hnew2,hsz2,hregs2⟩
  refine⟨_,run_beginRound hheap2 rfl,?_⟩;refine ZsC (rnd:=true) (rd:=some l.blk) (fun h=>by cases h) hm hΓ fn lv bd (ι:=ι1) (w0:=b) ⟨hS4,hSt1.regs,hSt1.size,hSt1.defers⟩ hk ⟨?_,?_,?_⟩
  .intro c hc ι2 r2 H3 a2 w2 hle2 hSt2 hk2;exact ZzJ none (hb.trans hc) (hle.trans hle2) hSt2.sim hk2
  .intro c hc j ι2 r2 H3 a2 w2 hle2 hSt2 hk2;exact ZzJ (some (.exit j)) (hb.trans hc) (hle.trans hle2) hSt2.sim hk2
  .intro c hc ι2 v2 H3 a2 w2 hle2 hR hk2;exact ZzJ (some .ret) (hb.trans hc) (hle.trans hle2) hR.1 hk2
 .intro b hb j ι1 r1 H2 a1 w1 hle1 hSt1 hk;cases hk
 .intro b hb ι1 v' H2 a1 w1 hle1 hR hk;cases hk
def Zaw (P:Program) (G:Nat) (w0:ZY) (g:FuncId) (m:List Value->M Value):Prop:=
 ∀ args H v H1,m args H=some (v,H1)->ZqA P G w0 g v args H H1\/ZAv P G w0 g v args H H1
theorem ZbY (hm:P.follows .mixedOrders=true) {prim:FuncId->Option (List Value->M Value)} {lvs:FuncId->List (Nat × List Nat)} (hprim:∀ (b:ZY) g m,prim g=some m->Zaw P P.globals.size b g m):∀ (n:Nat) (w0:ZY) (g:FuncId),WY P P.globals.size w0 g (run P prim lvs n g)
 | 0,w0,g=>by intro args H v H1 h;cases h
 | n+1,w0,g=>by
  intro args H v H1 h;simp only[run] at h;cases hy:Nat.blt g Kn with
  | false=>
   rw[hy] at h;exact .inr ⟨Nat.le_of_not_lt fun hlt=>(by rw[show Nat.blt g Kn=true by simpa using hlt] at hy;cases hy),Zv4 hm (ZbY hm hprim n) h⟩
  | true=>
  rw[hy] at h;simp only[cond_true] at h;refine .inl ⟨by simpa using hy,?_⟩;cases hp:prim g with
  | some m=>rw[hp] at h;exact hprim w0 g m hp args H v H1 h
  | none=>
   rw[hp] at h;simp only at h;cases hf:P.funcs[g]? with
   | none=>rw[hf] at h;cases h
   | some fn=>
    rw[hf] at h;simp only at h;cases hc:Zc0 fn with
    | false=>rw[hc] at h;cases h
    | true=>
     rw[hc] at h;exact .inl (Zy0 hm (ZbY hm hprim n) hf hc h)
end
inductive Ty where
 | bool|int (k:IntKind)|str|slc (e:Ty)|struct (r:Ty)|unit|pair (f r:Ty)
def Ty.den:Ty->Type
 | .bool=>Bool
 | .int _=>Int
 | .str=>ByteArray
 | .slc e=>Option (List e.den × List e.den)
 | .struct r=>r.den
 | .unit=>Unit
 | .pair f r=>f.den × r.den
def Ty.size:Ty->Nat
 | .struct r=>r.size
 | .unit=>0
 | .pair f r=>f.size+r.size
 | _=>1
def Ty.fits (P:Program):Ty->TypeId ⊕ (List Field × Nat)->Bool
 | .bool,.inl t=>match P.underlying t with|some .bool=>true|_=>false
 | .int k,.inl t=>match P.underlying t with|some (.int k')=>decide (k'=k)|_=>false
 | .str,.inl t=>match P.underlying t with|some .string=>true|_=>false
 | .slc e,.inl t=>match P.underlying t with|some (.slice u)=>e.fits P (.inl u) && Nat.beq (P.cellsOf u) e.size && Nat.ble 1 e.size|_=>false
 | .struct r,.inl t=>match P.underlying t with|some (.struct fs)=>r.fits P (.inr (fs.toList,0)) && Nat.beq (P.cellsOf t) r.size|_=>false
 | .unit,.inr ([],_)=>true
 | .pair f r,.inr (fd :: fs,off)=>f.fits P (.inl fd.type) && Nat.beq fd.offset off && Nat.beq (P.cellsOf fd.type) f.size && r.fits P (.inr (fs,off+f.size))
 | _,_=>false
def Ty.wf:(t:Ty)->t.den->Prop
 | .bool,_=>True
 | .int k,n=>(Lit.int k n).wf=true
 | .str,s=>s.size<=maxLen
 | .slc _,none=>True
 | .slc e,some (a,b)=>(∀ x∈a,e.wf x)/\(∀ x∈b,e.wf x)/\a.length+b.length<=maxLen
 | .struct r,x=>r.wf x
 | .unit,_=>True
 | .pair f r,(x,y)=>f.wf x/\r.wf y
def Rd:(t:Ty)->t.den->Zd->List Value->Prop
 | .bool,b,_,cs=>cs=[.bool b]
 | .int k,n,_,cs=>cs=[.int k n]
 | .str,s,_,cs=>cs=[.string s]
 | .slc _,none,_,cs=>cs=[.slice none 0 0]
 | .slc e,some (a,b),H,cs=>(a=[]/\b=[]/\cs=[.slice (some ⟨0,0,some 1⟩) 0 0])\/
   ∃ id cells,cs=[.slice (some ⟨id,0,none⟩) a.length (a.length+b.length)]/\H[id]?=some (.cells cells e.size false true)/\
    cells.length=(a.length+b.length) * e.size/\∀ i x,(a++b)[i]?=some x->Rd e x H ((cells.drop (i * e.size)).take e.size)
 | .struct r,x,H,cs=>Rd r x H cs
 | .unit,_,_,cs=>cs=[]
 | .pair f r,(x,y),H,cs=>Rd f x H (cs.take f.size)/\Rd r y H (cs.drop f.size)
def HLe (H H':Zd):Prop:=∀ (id:Nat) (o:Ze),H[id]?=some o->H'[id]?=some o
theorem HLe.refl (H:Zd):HLe H H:=fun _ _ h=>h
theorem HLe.trans {H H' H'':Zd} (h:HLe H H') (h':HLe H' H''):HLe H H'':=fun i o e=>h' i o (h i o e)
theorem HLe.app (H l:Zd):HLe H (H++l):=fun i o h=>by
 rw[List.getElem?_append_left (List.getElem?_eq_some_iff.1 h).1];exact h
theorem Rd.mono:∀ (t:Ty) {x:t.den} {H H':Zd} {cs:List Value},Rd t x H cs->HLe H H'->Rd t x H' cs
 | .bool,_,_,_,_,h,_=>h
 | .int _,_,_,_,_,h,_=>h
 | .str,_,_,_,_,h,_=>h
 | .slc _,none,_,_,_,h,_=>h
 | .slc e,some (a,b),_,_,_,h,hl=>by
  rcases h with h|⟨id,cells,h1,h2,h3,h4⟩
  .exact .inl h
  .exact .inr ⟨id,cells,h1,hl _ _ h2,h3,fun i x hx=>Rd.mono e (h4 i x hx) hl⟩
 | .struct r,_,_,_,_,h,hl=>Rd.mono r (x:=_) h hl
 | .unit,_,_,_,_,h,_=>h
 | .pair f r,(_,_),_,_,_,h,hl=>⟨Rd.mono f h.1 hl,Rd.mono r h.2 hl⟩
theorem Rd.ones:∀ (t:Ty) {x:t.den} {H:Zd} {cs:List Value},Rd t x H cs->∀ v∈cs,oneCell v=true
 | .bool,_,_,_,h=>by cases h;simp[oneCell]
 | .int _,_,_,_,h=>by cases h;simp[oneCell]
 | .str,_,_,_,h=>by cases h;simp[oneCell]
 | .slc _,none,_,_,h=>by cases h;simp[oneCell]
 | .slc e,some (a,b),_,_,h=>by
  rcases h with⟨_,_,h⟩|⟨id,cells,h,_⟩<;>cases h<;>simp[oneCell]
 | .struct r,_,_,_,h=>Rd.ones r (x:=_) h
 | .unit,_,_,_,h=>by cases h;simp
 | .pair f r,(_,_),_,cs,h=>fun v hv=>by
  rw[<- List.take_append_drop f.size cs] at hv;rcases List.mem_append.1 hv with hv|hv
  .exact Rd.ones f h.1 v hv
  .exact Rd.ones r h.2 v hv
theorem Ztl {w:World} {a:Addr} {i sz:Nat} {cs:List Value} (hs:1<=sz) (h:w.cells? 0 (a.add (i * sz)) sz=some cs) :
  (i=0->a.spot=none)/\∃ c el fr,w.heap[a.block]?=some (.cells c el fr)/\a.off+i * sz+sz<=c.size/\cs=(c.toList.drop (a.off+i * sz)).take sz:=by
 obtain⟨_,hl,hc⟩:=World.cells?_some h;have hblk:(a.add (i * sz)).block=a.block:=by unfold Addr.add;split<;>rfl
 have hoff:(a.add (i * sz)).off=a.off+i * sz:=by unfold Addr.add;split<;>simp_all
 have get:∀ j,j < sz->∃ v,w.cell? ((a.add (i * sz)).add j)=some v/\cs[j]?=some v:=by
  intro j hj;rw[hc j hj];have:j < cs.length:=by omega
  exact⟨cs[j],List.getElem?_eq_getElem this,List.getElem?_eq_getElem this⟩
 have hadd:∀ j,((a.add (i * sz)).add j).block=a.block/\((a.add (i * sz)).add j).off=a.off+i * sz+j:=by
  intro j;refine⟨?_,?_⟩<;>unfold Addr.add<;>split<;>simp_all [Addr.add]
 refine⟨fun hi=>?_,?_⟩
 .subst hi;obtain⟨v,h0,_⟩:=get 0 hs;rw[Nat.zero_mul] at h0;simp only[Addr.add,if_pos] at h0;unfold World.cell? at h0;split at h0
  .split at h0
   .cases h0
   .rename_i hsp;simpa using hsp
  .cases h0
 .obtain⟨v,h0,_⟩:=get 0 hs;unfold World.cell? at h0;rw[(hadd 0).1,(hadd 0).2] at h0;split at h0
  .rename_i c el fr hb;refine⟨c,el,fr,hb,?_,?_⟩
   .obtain⟨v,h1,_⟩:=get (sz - 1) (by omega);unfold World.cell? at h1;rw[(hadd (sz - 1)).1,(hadd (sz - 1)).2,hb] at h1;simp only at h1;split at h1
    .cases h1
    .have:=(Array.getElem?_eq_some_iff.1 h1).1;omega
   .apply List.ext_getElem?
    intro j;by_cases hj:j < sz
    .obtain⟨v,h1,h2⟩:=get j hj;rw[h2,List.getElem?_take,if_pos hj,List.getElem?_drop];unfold World.cell? at h1;rw[(hadd j).1,(hadd j).2,hb] at h1;simp only at h1;split at h1
     .cases h1
     .rw[<- h1];simp
    .rw[List.getElem?_eq_none (by omega),List.getElem?_eq_none (by simp;omega)]
  .cases h0
section
variable {P:Program} {H0:Type} {enc:TypeId × Value->H0} {W:World} {G:Nat}
def ZEI (W:World) (G:Nat) (t:Ty) (ι:Nat->Option Loc) (H:Zd) (cs:List Value):Prop:=
 ∃ x ι' H' cs',t.wf x/\Le ι ι'/\Sim G (b0 W) ι' H' W/\HLe H H'/\RVs ι' cs' cs/\Rd t x H' cs'
theorem Zhw {ι:Nat->Option Loc} {v v':Value} (h:RV ι v v'):RVs ι [v] [v']:=.cons h .nil
def ZFY (P:Program) (enc:TypeId × Value->H0) (W:World) (fuel:Nat) (cs:List Value) (fs:List Field):Prop:=
 ∀ f∈fs,∃ d,DataW.trod enc P W 0 (fun _=>true) true fuel f.type ((cs.drop f.offset).take (P.cellsOf f.type))=some d
theorem ZDL:∀ (t:Ty),
  (∀ {u:TypeId} {fuel:Nat} {cs:List Value} {d:DataW H0 × List MemPlace} {ι:Nat->Option Loc} {H:Zd},t.fits P (.inl u)=true->DataW.trod enc P W 0 (fun _=>true) true fuel u cs=some d->Sim G (b0 W) ι H W->
   ZEI W G t ι H cs/\cs.length=t.size)/\
  (∀ {fs:List Field} {off fuel:Nat} {cs:List Value} {ι:Nat->Option Loc} {H:Zd},t.fits P (.inr (fs,off))=true->ZFY P enc W fuel cs fs->cs.length=off+t.size->Sim G (b0 W) ι H W->
   ZEI W G t ι H (cs.drop off)):=by
 intro t
 induction t with
 | bool=>
  refine⟨fun {u fuel cs d ι H} hf h hS=>?_,fun hf=>by simp[Ty.fits] at hf⟩;simp only[Ty.fits] at hf;cases fuel with
  | zero=>simp[DataW.trod] at h
  | succ n=>
   unfold DataW.trod at h;split at hf
   .rename_i hu;rw[hu] at h;split at h<;>simp_all
    exact⟨⟨(_:Bool),ι,H,_,trivial,.refl _,hS,.refl _,Zhw (.sc rfl),rfl⟩,rfl⟩
   .cases hf
 | int k=>
  refine⟨fun {u fuel cs d ι H} hf h hS=>?_,fun hf=>by simp[Ty.fits] at hf⟩;simp only[Ty.fits] at hf;cases fuel with
  | zero=>simp[DataW.trod] at h
  | succ n=>
   unfold DataW.trod at h;split at hf
   .rename_i k' hu;rw[hu] at h;split at h<;>simp_all
    rename_i n' _;exact⟨⟨n',ι,H,_,h.1.2,.refl _,hS,.refl _,Zhw (.sc rfl),rfl⟩,rfl⟩
   .cases hf
 | str=>
  refine⟨fun {u fuel cs d ι H} hf h hS=>?_,fun hf=>by simp[Ty.fits] at hf⟩;simp only[Ty.fits] at hf;cases fuel with
  | zero=>simp[DataW.trod] at h
  | succ n=>
   unfold DataW.trod at h;split at hf
   .rename_i hu;rw[hu] at h;split at h<;>simp_all
    exact⟨⟨(_:ByteArray),ι,H,_,h.1,.refl _,hS,.refl _,Zhw (.sc rfl),rfl⟩,rfl⟩
   .cases hf
 | slc e ih=>
  refine⟨fun {u fuel cs d ι H} hf h hS=>?_,fun hf=>by simp[Ty.fits] at hf⟩;simp only[Ty.fits] at hf;split at hf
  .rename_i u' hu;simp only[Bool.and_eq_true] at hf;obtain⟨⟨hf,hsz⟩,h1⟩:=hf;have hsz:=Nat.eq_of_beq_eq_true hsz;have h1:=Nat.le_of_ble_eq_true h1;rcases DataW.trod_slice hu h with⟨rfl,_⟩|⟨a,len,cap,elems,rest,n,_,rfl,rfl,_,hl,hm,hlen,hel,hsp,_⟩
   .exact⟨⟨(none:Option (List e.den × List e.den)),ι,H,_,trivial,.refl _,hS,.refl _,Zhw (.sc rfl),rfl⟩,rfl⟩
   .obtain⟨hrl,hre⟩:=hsp rfl;refine⟨?_,rfl⟩;rcases Nat.eq_zero_or_pos cap with h0|h0
    .subst h0;have:len=0:=by omega
     subst this;refine⟨(some ([],[]):Option (List e.den × List e.den)),ι,H,_,⟨by simp,by simp,by simp⟩,.refl _,hS,.refl _,Zhw (.slcE (id:=0) (o:=0) (j:=1) (by simp)),.inl ⟨rfl,rfl,rfl⟩⟩
    .have each:∀ i,i < cap->∃ cs d,W.cells? 0 (a.add (i * e.size)) e.size=some cs/\DataW.trod enc P W 0 (fun _=>true) true n u' cs=some d:=by
      intro i hi;have:∃ y,(W.cells? 0 (a.add (i * P.cellsOf u')) (P.cellsOf u')).bind (DataW.trod enc P W 0 (fun _=>true) true n u')=some y:=by
       rcases Nat.lt_or_ge i len with h|h
       .exact⟨elems[i],by rw[hel i h];exact List.getElem?_eq_getElem _⟩
       .refine⟨rest[i - len],?_⟩;have:=hre (i - len) (by omega);rw[show len+(i - len)=i by omega] at this;rw[this];exact List.getElem?_eq_getElem _
      obtain⟨y,hy⟩:=this;rw[hsz] at hy;obtain⟨cs,h1,h2⟩:=Option.bind_eq_some_iff.1 hy;exact⟨cs,y,h1,h2⟩
     obtain⟨cs0,d0,hc0,_⟩:=each 0 h0;obtain⟨hsp0,c,el,fr,hb,_,_⟩:=Ztl h1 hc0;have hsp0:=hsp0 rfl;have hrow:∀ i,i < cap->a.off+(i+1) * e.size<=c.size/\∃ d,DataW.trod enc P W 0 (fun _=>true) true n u' ((c.toList.drop (a.off+i * e.size)).take e.size)=some d:=by
      intro i hi;obtain⟨cs,d,hc,ht⟩:=each i hi;obtain⟨_,c',el',fr',hb',h2,rfl⟩:=Ztl h1 hc;rw[hb] at hb';cases hb';exact⟨by rw[Nat.add_mul];omega,d,ht⟩
     have key:∀ k,k<=cap->∃ (xs:List e.den) (ι':Nat->Option Loc) (H':Zd) (cells:List Value),xs.length=k/\cells.length=k * e.size/\(∀ x∈xs,e.wf x)/\Le ι ι'/\Sim G (b0 W) ι' H' W/\HLe H H'/\
       RVs ι' cells ((c.toList.drop a.off).take (k * e.size))/\∀ i x,xs[i]?=some x->Rd e x H' ((cells.drop (i * e.size)).take e.size):=by
      intro k
      induction k with
      | zero=>intro _;exact⟨[],ι,H,[],rfl,by simp,by simp,.refl _,hS,.refl _,by simpa using RVs.nil,by simp⟩
      | succ k ihk=>
       intro hk;obtain⟨xs,ι1,H1,cells,hx,hcl,hwf,hle,hS1,hHl,hrv,hrd⟩:=ihk (by omega);obtain⟨hsz1,d1,ht⟩:=hrow k (by omega);obtain⟨⟨x,ι2,H2,cs2,hwx,hle2,hS2,hHl2,hrv2,hrd2⟩,_⟩:=ih.1 hf ht hS1;have hl2:cs2.length=e.size:=by rw[hrv2.1];simp;rw[Nat.add_mul] at hsz1;omega
       refine⟨xs++[x],ι2,H2,cells++cs2,by simp[hx],by simp[hcl,hl2,Nat.add_mul],fun y hy=>?_,hle.trans hle2,hS2,hHl.trans hHl2,?_,fun i y hy=>?_⟩
       .rcases List.mem_append.1 hy with hy|hy
        .exact hwf y hy
        .simp at hy;subst hy;exact hwx
       .have hcat:(c.toList.drop a.off).take ((k+1) * e.size)=(c.toList.drop a.off).take (k * e.size)++(c.toList.drop (a.off+k * e.size)).take e.size:=by
         rw[Nat.add_mul,Nat.one_mul,List.take_add,List.drop_drop]
        rw[hcat];exact(hrv.mono hle2).append hrv2
       .rcases Nat.lt_or_ge i k with hi|hi
        .rw[List.getElem?_append_left (by omega)] at hy;have hle:(i+1) * e.size<=k * e.size:=Nat.mul_le_mul_right _ (by omega);rw[Nat.add_mul] at hle;rw[List.drop_append_of_le_length (by omega),List.take_append_of_le_length (by simp;omega)];exact(hrd i y hy).mono e hHl2
        .rw[List.getElem?_append_right (by omega)] at hy;have hik:i=k:=by
          rcases Nat.lt_or_ge (i - xs.length) 1 with h|h
          .omega
          .rw[List.getElem?_eq_none (by simpa using h)] at hy;cases hy
         subst hik;rw[hx,Nat.sub_self] at hy;simp at hy;subst hy
         rw[List.drop_append_of_le_length (by omega),List.drop_eq_nil_of_le (by omega),List.nil_append,List.take_of_length_le (by omega)];exact hrd2
     obtain⟨xs,ι1,H1,cells,hx,hcl,hwf,hle,hS1,hHl,hrv,hrd⟩:=key cap (Nat.le_refl _);have htot:a.off+cap * e.size<=c.size:=by
      obtain⟨h,_⟩:=hrow (cap - 1) (by omega)
      rwa [show cap - 1+1=cap by omega] at h
     have hblk:a.block < W.heap.size:=(Array.getElem?_eq_some_iff.1 hb).1;have hones:∀ v∈cells,oneCell v=true:=by
      intro v hv;obtain⟨i,hi,rfl⟩:=List.getElem_of_mem hv;have hq:i / e.size < cap:=Nat.div_lt_of_lt_mul (by rw[Nat.mul_comm,<- hcl];exact hi);have:=Rd.ones e (hrd (i / e.size) xs[i / e.size] (List.getElem?_eq_getElem _)) cells[i];refine this (List.mem_iff_getElem?.2 ⟨i % e.size,?_⟩);have hmod:=Nat.mod_lt i (show e.size > 0 by omega);rw[List.getElem?_take,if_pos hmod,List.getElem?_drop,Nat.mul_comm,Nat.div_add_mod];exact List.getElem?_eq_getElem hi
     have hS2:=hS1.add (o:=.cells cells e.size false true) (l:=⟨a.block,a.off,a.off+cap * e.size,e.size,false⟩)
      ⟨_,c,el,fr,Qb _ _ _,rfl,rfl,hb,by simp[hcl],htot,by rw[hcl];exact hrv.mono (JF hS1 _),by simp,fun _=>hblk,hones⟩
      (fun i oi li hi hw hl heq=>by
       have:=((hS1.obj i oi hi).newer hw li hl).1;rw[heq] at this;simp only at this;omega)
      (fun b hb=>by cases hb) (fun h=>by cases h)
     refine⟨(some (xs.take len,xs.drop len):Option (List e.den × List e.den)),_,_,[.slice (some ⟨H1.length,0,none⟩) len cap],⟨fun x hx=>hwf x (List.mem_of_mem_take hx),fun x hx=>hwf x (List.mem_of_mem_drop hx),?_⟩,hle.trans (JF hS1 _),hS2,hHl.trans (.app _ _),Zhw ?_,.inr ⟨H1.length,cells,?_,by simp,?_,fun i x hx=>?_⟩⟩
     .simp;omega
     .have:a=⟨a.block,a.off,none⟩:=by cases a;simp_all
      rw[this];exact .slc (l:=⟨a.block,a.off,a.off+cap * e.size,e.size,false⟩) (o:=0) (Qb _ _ _) hl (Nat.le_refl _) (fun _=>rfl) (by simp)
     .simp[hx];omega
     .simp[hx,hcl]
      rw[show min len cap+(cap - len)=cap by omega]
     .rw[List.take_append_drop] at hx;exact(hrd i x hx).mono e (.app _ _)
  .cases hf
 | struct r ih=>
  refine⟨fun {u fuel cs d ι H} hf h hS=>?_,fun hf=>by simp[Ty.fits] at hf⟩;simp only[Ty.fits] at hf;split at hf
  .rename_i fs hu;simp only[Bool.and_eq_true] at hf;have hsz:=Nat.eq_of_beq_eq_true hf.2;cases fuel with
   | zero=>simp[DataW.trod] at h
   | succ n=>
    unfold DataW.trod at h;rw[hu] at h;simp only at h;split at h
    .rename_i hlen;obtain⟨xs,hx,_⟩:=Option.map_eq_some_iff.1 h;have hlen2:cs.length=r.size:=by rw[hlen,hsz]
     refine⟨?_,hlen2⟩;have:=ih.2 (fuel:=n) (cs:=cs) (ι:=ι) (H:=H) hf.1 (fun f hfm=>?_) (by omega) hS
     .rw[List.drop_zero] at this;obtain⟨x,ι',H',cs',h⟩:=this;exact⟨x,ι',H',cs',h⟩
     .obtain⟨i,hi⟩:=List.mem_iff_getElem?.1 hfm;have h2:=mapM_some_get hx i f hi;have hil:i < xs.length:=by
       rw[mapM_some_length hx];exact(List.getElem?_eq_some_iff.1 hi).1
      exact⟨xs[i],by rw[h2];exact List.getElem?_eq_getElem hil⟩
    .cases h
  .cases hf
 | unit=>
  refine⟨fun hf=>by simp[Ty.fits] at hf,fun {fs off fuel cs ι H} hf h hl hS=>?_⟩;have:cs.drop off=[]:=List.drop_eq_nil_of_le (by simp[hl,Ty.size]);rw[this];exact⟨(),ι,H,[],trivial,.refl _,hS,.refl _,.nil,rfl⟩
 | pair f r ihf ihr=>
  refine⟨fun hf=>by simp[Ty.fits] at hf,fun {fs off fuel cs ι H} hf h hl hS=>?_⟩;cases fs with
  | nil=>simp[Ty.fits] at hf
  | cons fd fs=>
   simp only[Ty.fits,Bool.and_eq_true] at hf;obtain⟨⟨⟨h1,h2⟩,h3⟩,h4⟩:=hf;have h2:=Nat.eq_of_beq_eq_true h2;have h3:=Nat.eq_of_beq_eq_true h3;obtain⟨d,hd⟩:=h fd (by simp);rw[h2,h3] at hd;obtain⟨⟨x,ι1,H1,cs1,hwx,hle1,hS1,hHl1,hrv1,hrd1⟩,hl1⟩:=ihf.1 h1 hd hS;have hl2:cs.length=off+(f.size+r.size):=hl;obtain⟨y,ι2,H2,cs2,hwy,hle2,hS2,hHl2,hrv2,hrd2⟩:=ihr.2 (cs:=cs) h4 (fun g hg=>h g (by simp[hg])) (by omega) hS1;have hc1:cs1.length=f.size:=by rw[hrv1.1,hl1]
   refine⟨(x,y),ι2,H2,cs1++cs2,⟨hwx,hwy⟩,hle1.trans hle2,hS2,hHl1.trans hHl2,?_,?_,?_⟩
   .have:cs.drop off=(cs.drop off).take f.size++cs.drop (off+f.size):=by
     rw[<- List.drop_drop,List.take_append_drop]
    rw[this];exact(hrv1.mono hle2).append hrv2
   .rw[<- hc1,List.take_left];exact hrd1.mono f hHl2
   .rw[<- hc1,List.drop_left];exact hrd2
end
def Ty.val:Ty->List Value->Value
 | .struct _,cs=>.agg cs.toArray
 | _,cs=>cs.headD undef
def Ins:List Ty->Type
 | []=>Unit
 | t :: ts=>t.den × Ins ts
def ZuS:(ts:List Ty)->Ins ts->Prop
 | [],_=>True
 | t :: ts,(x,xs)=>t.wf x/\ZuS ts xs
def ZiZ:(ts:List Ty)->Ins ts->Zd->List Value->Prop
 | [],_,_,vs=>vs=[]
 | t :: ts,(x,xs),H,vs=>∃ cs rest,vs=t.val cs :: rest/\cs.length=t.size/\Rd t x H cs/\ZiZ ts xs H rest
theorem ZiZ.mono:∀ (ts:List Ty) {xs:Ins ts} {H H':Zd} {vs:List Value},ZiZ ts xs H vs->HLe H H'->ZiZ ts xs H' vs
 | [],_,_,_,_,h,_=>h
 | t :: ts,(_,_),_,_,_,⟨cs,rest,h1,h2,h3,h4⟩,hl=>⟨cs,rest,h1,h2,h3.mono t hl,ZiZ.mono ts h4 hl⟩
def Zcp (P:Program):List Ty->List TypeId->Bool
 | [],[]=>true
 | t :: ts,u :: us=>t.fits P (.inl u) && P.readableRec u && Nat.blt u P.types.size && Zcp P ts us
 | _,_=>false
theorem ZuT {n:Int} (h:(Lit.int .u8 n).wf=true):0<=n/\n<=255:=by simpa[Lit.wf,IntKind.min,IntKind.max,IntKind.signed,IntKind.bits] using h
theorem ZE4 {n:Int} (h:(Lit.int .u64 n).wf=true):0<=n/\n<=18446744073709551615:=by simpa[Lit.wf,IntKind.min,IntKind.max,IntKind.signed,IntKind.bits] using h
section
variable {P:Program} {H0:Type} {enc:TypeId × Value->H0} {W:World} {G base:Nat}
theorem ZzC {t:Ty} {u:TypeId} {v:Value} (hf:t.fits P (.inl u)=true) (hv:Value.okWide P W .any base u v):t.val v.cells.toList=v:=by
 unfold Value.okWide at hv;cases t with
 | struct r=>
  simp only[Ty.fits] at hf;split at hf
  .rename_i fs hu;rw[hu] at hv;obtain⟨cs,rfl,_⟩:=hv;simp[Ty.val,Value.cells]
  .cases hf
 | unit=>simp[Ty.fits] at hf
 | pair f r=>simp[Ty.fits] at hf
 | _=>
  simp only[Ty.fits] at hf;split at hf
  .rename_i hu;rw[hu] at hv;simp only at hv;cases v<;>first|rfl|(simp[Cell.okWide,hu,Cell.ok] at hv)
  .cases hf
theorem ZDd {t:Ty} {u:TypeId} {ι:Nat->Option Loc} {cs:List Value} {v:Value} (hf:t.fits P (.inl u)=true) (hv:t.val v.cells.toList=v) (h:RVs ι cs v.cells.toList) (hl:cs.length=t.size):RV ι (t.val cs) v:=by
 rw[<- hv];cases t with
 | struct r=>exact .aggL h
 | unit=>simp[Ty.fits] at hf
 | pair f r=>simp[Ty.fits] at hf
 | _=>
  match cs,hl with
  | [c],_=>
   obtain⟨c',r',he,hc,_⟩:=h.cons_inv;rw[he];exact hc
theorem Zx8:∀ (tys:List Ty) {ts:List TypeId} {vs:List Value} {ds:List (DataW H0)} {ps:List MemPlace} {ι:Nat->Option Loc} {H:Zd},Zcp P tys ts=true->
  DataW.TrodAll enc P W 0 (fun _=>true) true ts vs ds ps->(∀ (j:Nat) t v,ts[j]?=some t->vs[j]?=some v->Value.okWide P W .any base t v)->Sim G (b0 W) ι H W->
  ∃ xs ι' H' vs',ZuS tys xs/\Le ι ι'/\Sim G (b0 W) ι' H' W/\HLe H H'/\RVs ι' vs' vs/\ZiZ tys xs H' vs'/\ds.length=tys.length
 | [],ts,vs,ds,ps,ι,H,hf,h,hv,hS=>by
  cases ts with
  | nil=>cases vs<;>cases ds<;>simp[DataW.TrodAll] at h<;>exact⟨(),ι,H,[],trivial,.refl _,hS,.refl _,.nil,rfl,rfl⟩
  | cons=>simp[Zcp] at hf
 | t :: tys,ts,vs,ds,ps,ι,H,hf,h,hv,hS=>by
  cases ts with
  | nil=>simp[Zcp] at hf
  | cons u ts=>
   cases vs with
   | nil=>cases ds<;>simp[DataW.TrodAll] at h
   | cons v vs=>
    cases ds with
    | nil=>simp[DataW.TrodAll] at h
    | cons d ds=>
     obtain⟨p,q,⟨fuel,h1⟩,h2,_⟩:=h;simp only[Zcp,Bool.and_eq_true] at hf;obtain⟨⟨x,ι1,H1,cs1,hwx,hle1,hS1,hHl1,hrv1,hrd1⟩,hl1⟩:=(ZDL t).1 hf.1.1.1 h1 hS;obtain⟨xs,ι2,H2,vs2,hw2,hle2,hS2,hHl2,hrv2,hrd2,hl2⟩:=Zx8 tys hf.2 h2 (fun j t' v' ht' hv'=>hv (j+1) t' v' (by simpa using ht') (by simpa using hv')) hS1;have hval:=ZzC hf.1.1.1 (hv 0 u v rfl rfl);have hc1:cs1.length=t.size:=by rw[hrv1.1,hl1]
     exact⟨(x,xs),ι2,H2,t.val cs1 :: vs2,⟨hwx,hw2⟩,hle1.trans hle2,hS2,hHl1.trans hHl2,.cons ((ZDd hf.1.1.1 hval hrv1 hc1).mono hle2) hrv2,
      ⟨cs1,vs2,rfl,hc1,hrd1.mono t hHl2,hrd2⟩,by simp[hl2]⟩
def ι0 (G:Nat):Nat->Option Loc:=fun g=>if g < G then some ⟨g,0,0,1,false⟩ else none
theorem ZF9:Sim G (b0 W) (ι0 G) (List.replicate G Ze.dead) W:=by
 have hd:∀ (i:Nat) (o:Ze),(List.replicate G Ze.dead)[i]?=some o->o=.dead:=by
  intro i o h;rw[List.getElem?_replicate] at h;split at h
  .exact(Option.some.inj h).symm
  .cases h
 refine⟨fun i o h=>?_,fun i j o1 o2 l1 l2 h1 _ w1=>?_,Nat.le_refl _,fun _ _=>rfl,fun i l h=>?_,fun g hg=>⟨⟨g,0,0,1,false⟩,by simp[ι0,hg],rfl,rfl⟩,⟨rfl,rfl,rfl⟩,fun b hb=>(by cases hb),fun j cs es nx l hj _=>by have:=hd j _ hj;cases this⟩
 .rw[hd i o h];trivial
 .rw[hd i o1 h1] at w1;simp[Ze.wr] at w1
 .unfold ι0 at h;split at h
  .simpa using ‹i < G›
  .cases h
theorem Zle {ts:List TypeId} (hl:laidOutB P=true) {W':World} (hb:Go.RowKit.Below W.heap.size W W'):∀ (tys:List Ty) {ts:List TypeId} {vs:List Value} {ds:List (DataW H0)} {ps:List MemPlace},Zcp P tys ts=true->
  DataW.TrodAll enc P W 0 (fun _=>true) true ts vs ds ps->(∀ x∈ps,x.block < W.heap.size)->DataW.TrodAll enc P W' 0 (fun b=>decide (b < W.heap.size)) true ts vs ds ps
 | [],ts,vs,ds,ps,hf,h,_=>by
  cases ts with
  | nil=>cases vs<;>cases ds<;>simp[DataW.TrodAll] at h ⊢<;>exact h
  | cons=>simp[Zcp] at hf
 | t :: tys,ts,vs,ds,ps,hf,h,hlt=>by
  cases ts with
  | nil=>simp[Zcp] at hf
  | cons u ts=>
   cases vs with
   | nil=>cases ds<;>simp[DataW.TrodAll] at h
   | cons v vs=>
    cases ds with
    | nil=>simp[DataW.TrodAll] at h
    | cons d ds=>
     obtain⟨p,q,h1,h2,rfl⟩:=h;simp only[Zcp,Bool.and_eq_true] at hf;exact⟨p,q,Go.RowKit.Below.trod hl hf.1.1.2 (by simpa using hf.1.2) h1 hb (fun x hx=>hlt x (by simp[hx])),Zle (ts:=ts) hl hb tys hf.2 h2 (fun x hx=>hlt x (by simp[hx])),rfl⟩
end
theorem Zh {P:Program} {prim:FuncId->Option (List Value->M Value)} {lvs:FuncId->List (Nat × List Nat)} {g:FuncId} {fn:Func} {lv:List (Nat × List Nat)} {n:Nat} {args:List Value} (hp:prim g=none) (hl:lvs g=lv) (hf:P.funcs[g]?=some fn) (hc:Zc0 fn=true) (hy:Nat.blt g Kn=true:=by rfl) :
  run P prim lvs (n+1) g args=Zs P (run P prim lvs n) fn lv args:=by
 simp only[run,hp,hf,hc,hy,cond_true,hl]
theorem ZjZ {body:List Value->M Out} {x:Out × Zd}:∀ {n m:Nat} {vs:List Value} {H:Zd},Ww body n vs H=some x->n<=m->Ww body m vs H=some x
 | 0,_,_,_,h,_=>by cases h
 | n+1,0,_,_,_,hm=>by omega
 | n+1,m+1,vs,H,h,hm=>by
  simp only[Ww] at h ⊢;cases hb:body vs H with
  | none=>rw[hb] at h;cases h
  | some q=>
   obtain⟨o,H'⟩:=q;rw[hb] at h;cases o with
   | nrm vs'=>exact ZjZ h (by omega)
   | ext j vs'=>exact h
   | ret v=>exact h
theorem ZiD {body:List Value->M Out} {vs:List Value} {H:Zd} {x:Out × Zd}:Zi body vs H=some x↔∃ n,Ww body n vs H=some x:=by
 constructor
 .exact Zr2
 .rintro⟨n,hn⟩
  have hex:∃ n,(Ww body n vs H).isSome:=⟨n,by rw[hn];rfl⟩;unfold Zi;rw[dif_pos hex];have hc:=Classical.choose_spec hex;obtain⟨y,hy⟩:=Option.isSome_iff_exists.1 hc;rw[hy];have h1:=ZjZ hn (Nat.le_max_left n (Classical.choose hex));have h2:=ZjZ hy (Nat.le_max_right n (Classical.choose hex));rw[h1] at h2;exact h2.symm
theorem ZpV (body:List Value->M Out) (vs:List Value) (H:Zd):Zi body vs H=
  match body vs H with
  | none=>none
  | some (.nrm vs',H')=>Zi body vs' H'
  | some (o,H')=>some (o,H'):=by
 apply Option.ext
 intro x;rw[show(Zi body vs H=some x)=(∃ n,Ww body n vs H=some x) from propext ZiD];constructor
 .rintro⟨n,hn⟩
  cases n with
  | zero=>cases hn
  | succ n=>
   simp only[Ww] at hn;cases hb:body vs H with
   | none=>rw[hb] at hn;cases hn
   | some q=>
    obtain⟨o,H'⟩:=q;rw[hb] at hn;cases o with
    | nrm vs'=>exact ZiD.2 ⟨n,hn⟩
    | ext j vs'=>exact hn
    | ret v=>exact hn
 .intro h;cases hb:body vs H with
  | none=>rw[hb] at h;cases h
  | some q=>
   obtain⟨o,H'⟩:=q;rw[hb] at h;cases o with
   | nrm vs'=>
    obtain⟨n,hn⟩:=ZiD.1 h;exact⟨n+1,by simp only[Ww,hb];exact hn⟩
   | ext j vs'=>exact⟨1,by simp only[Ww,hb];exact h⟩
   | ret v=>exact⟨1,by simp only[Ww,hb];exact h⟩
theorem Za {α β:Type} {m:M α} {k:α->M β} {H H':Zd} {a:α} (h:m H=some (a,H')):bind m k H=k a H':=by
 simp only[bind,h]
theorem ZU {body:List Value->M Out} {vs vs':List Value} {H H':Zd} (h:body vs H=some (.nrm vs',H')):Zi body vs H=Zi body vs' H':=by
 rw[ZpV,h]
theorem Qq {body:List Value->M Out} {vs vs':List Value} {j:Nat} {H H':Zd} (h:body vs H=some (.ext j vs',H')):Zi body vs H=some (.ext j vs',H'):=by
 rw[ZpV,h]
theorem YA {body:List Value->M Out} {vs:List Value} {v:Value} {H H':Zd} (h:body vs H=some (.ret v,H')):Zi body vs H=some (.ret v,H'):=by
 rw[ZpV,h]
theorem Qx {β:Type} (v:Value) (m:M β):same v v m=m:=by
 funext H;simp[same]
theorem ZJ {β:Type} {m:M Out} {kn:List Value->M β} {kx:Nat->List Value->M β} {kr:Value->M β} {H H':Zd} {vs:List Value} (h:m H=some (.nrm vs,H')):jn m kn kx kr H=kn vs H':=by
 simp only[jn,bind,h]
theorem Q4 {β:Type} {m:M Out} {kn:List Value->M β} {kx:Nat->List Value->M β} {kr:Value->M β} {H H':Zd} {j:Nat} {vs:List Value} (h:m H=some (.ext j vs,H')):jn m kn kx kr H=kx j vs H':=by
 simp only[jn,bind,h]
theorem KG {β:Type} {m:M Out} {kn:List Value->M β} {kx:Nat->List Value->M β} {kr:Value->M β} {H H':Zd} {v:Value} (h:m H=some (.ret v,H')):jn m kn kx kr H=kr v H':=by
 simp only[jn,bind,h]
theorem w64 {n:Int} (h1:-9223372036854775808<=n) (h2:n<=9223372036854775807):IntKind.i64.wrap n=n:=by
 have e:IntKind.i64.wrap n=if(n % 18446744073709551616:Int)≥9223372036854775808 then n % 18446744073709551616 - 18446744073709551616 else n % 18446744073709551616:=by
  simp[IntKind.wrap,IntKind.bits,IntKind.signed]
 rw[e];split<;>omega
theorem ZBN (n:Int):IntKind.u64.wrap n=n % 18446744073709551616:=by simp[IntKind.wrap,IntKind.bits,IntKind.signed]
theorem wu8 (n:Int):IntKind.u8.wrap n=n % 256:=by simp[IntKind.wrap,IntKind.bits,IntKind.signed]
section
variable {β:Type} {H:Zd} {id o es n:Nat} {cs:List Value} {g ro:Bool} {v x y:Value} {k:Value->M β}
theorem Qe {α:Type} {a:α} {k:α->M β}:bind (ret a) k H=k a H:=rfl
section
variable {p:IntKind} {a b:Int}
end
theorem Zx {t:Bool} {m:M Value}:bind (gateV (.bool t) t m) k H=bind m k H:=by simp[gateV]
theorem Z0 {t:Bool} {m:M (List Value)} {k:List Value->M β}:bind (gate (.bool t) t n m) k H=bind m k H:=by simp[gate]
theorem ZA2 {u:Bool} {m:M (List Value)} {k:List Value->M β}:bind (gate ZZ u n m) k H=k (List.replicate n ZZ) H:=rfl
end
theorem ZW {H:Zd} {id:Nat} {a b:Ze} (h:H[id]?=some a):(H.set id b)[id]?=some b:=
 List.getElem?_set_self (List.getElem?_eq_some_iff.1 h).1
theorem Zo {H:Zd} {a:Ze}:(H++[a])[H.length]?=some a:=by simp
def ZwD {α β:Type} (x:Option (α × Zd)) (k:α->M β):Option (β × Zd):=
 match x with
 | none=>none
 | some (a,H)=>k a H
def Zp0 {β:Type} (x:Option (Out × Zd)) (kn:List Value->M β) (kx:Nat->List Value->M β) (kr:Value->M β):Option (β × Zd):=
 match x with
 | none=>none
 | some (.nrm vs,H)=>kn vs H
 | some (.ext j vs,H)=>kx j vs H
 | some (.ret v,H)=>kr v H
def rdk (o:Option Ze) (i:Nat) (H:Zd):Option (Value × Zd):=
 match o with
 | some (.cells cs _ _ _)=>(cs[i]?).map (·,H)
 | some (.view cs _ nx)=>match H[nx]? with
  | some (.cells ds _ _ false)=>bif ZhK cs ds then(cs[i]?).map (·,H) else none
  | _=>none
 | _=>none
def ZBn (o:Option Ze) (i n:Nat) (H:Zd):Option (Value × Zd):=
 match o with
 | some (.cells cs _ _ _)=>if i+n<=cs.length then some (.agg ((cs.drop i).take n).toArray,H) else none
 | _=>none
def wrk (o:Option Ze) (id i:Nat) (v:Value) (H:Zd):Option (Value × Zd):=
 match o with
 | some (.cells cs es g false)=>if i < cs.length/\oneCell v then some (undef,H.set id (.cells (cs.set i v) es g false)) else none
 | _=>none
def ZBX (o:Option Ze) (id i n:Nat) (vs:Array Value) (H:Zd):Option (Value × Zd):=
 match o with
 | some (.cells cs es g false)=>if i+n<=cs.length/\vs.size=n/\vs.toList.all oneCell then some (undef,H.set id (.cells (splice cs vs.toList i) es g false)) else none
 | _=>none
section
variable {α β:Type} {k:α->M β} {H:Zd}
theorem Z7 {m:M α}:bind m k H=ZwD (m H) k:=by unfold bind ZwD;rfl
@[congr] theorem ZFX {x x':Option (α × Zd)} {k:α->M β} (h:x=x'):ZwD x k=ZwD x' k:=by rw[h]
theorem Z5 {a:α}:ZwD (some (a,H)) k=k a H:=rfl
theorem QC {m:M Out} {kn:List Value->M β} {kx:Nat->List Value->M β} {kr:Value->M β}:jn m kn kx kr H=Zp0 (m H) kn kx kr:=by
 unfold jn bind Zp0;cases m H with
 | none=>rfl
 | some p=>obtain⟨o,H'⟩:=p;cases o<;>rfl
@[congr] theorem ZFM {x x':Option (Out × Zd)} {kn:List Value->M β} {kx:Nat->List Value->M β} {kr:Value->M β} (h:x=x'):Zp0 x kn kx kr=Zp0 x' kn kx kr:=by rw[h]
section
variable {kn:List Value->M β} {kx:Nat->List Value->M β} {kr:Value->M β}
theorem Qg {vs:List Value}:Zp0 (some (.nrm vs,H)) kn kx kr=kn vs H:=rfl
theorem Qj {j:Nat} {vs:List Value}:Zp0 (some (.ext j vs,H)) kn kx kr=kx j vs H:=rfl
theorem Qk {v:Value}:Zp0 (some (.ret v,H)) kn kx kr=kr v H:=rfl
end
theorem Zb {t:Bool} {a b:M β}:cnd (.bool t) a b H=if t=true then a H else b H:=by cases t<;>rfl
theorem JS {a:α}:ret a H=some (a,H):=rfl
end
section
variable {H:Zd} {id o:Nat}
theorem Zg {a:Addr}:Zz (.pointer (some a)) H=some (.pointer (some a),H):=rfl
theorem Yq {off:Nat}:fa off (.pointer (some ⟨id,o,none⟩)) H=some (.pointer (some ⟨id,o+off,none⟩),H):=rfl
theorem Qp:ld1 (.pointer (some ⟨id,o,none⟩)) H=rdk H[id]? o H:=by unfold ld1 rdk;rfl
theorem Js {n:Nat}:ldA n (.pointer (some ⟨id,o,none⟩)) H=ZBn H[id]? o n H:=by unfold ldA ZBn;rfl
theorem Qt {v:Value}:st1 (.pointer (some ⟨id,o,none⟩)) v H=wrk H[id]? id o v H:=by unfold st1 wrk;rfl
theorem Jq {n:Nat} {vs:Array Value}:stA n (.pointer (some ⟨id,o,none⟩)) (.agg vs) H=ZBX H[id]? id o n vs H:=by unfold stA ZBX;rfl
theorem Jo {cs:List Value} {es:Nat} {g ro:Bool} {i:Nat}:rdk (some (.cells cs es g ro)) i H=(cs[i]?).map (·,H):=rfl
theorem QN {cs:List Value} {es n:Nat} {g ro:Bool} {i:Nat}:ZBn (some (.cells cs es g ro)) i n H=if i+n<=cs.length then some (.agg ((cs.drop i).take n).toArray,H) else none:=rfl
theorem Jz {cs:List Value} {es:Nat} {g:Bool} {i:Nat} {v:Value}:wrk (some (.cells cs es g false)) id i v H=if i < cs.length/\oneCell v then some (undef,H.set id (.cells (cs.set i v) es g false)) else none:=rfl
theorem QO {cs:List Value} {es n:Nat} {g:Bool} {i:Nat} {vs:Array Value}:ZBX (some (.cells cs es g false)) id i n vs H=
  if i+n<=cs.length/\vs.size=n/\vs.toList.all oneCell then some (undef,H.set id (.cells (splice cs vs.toList i) es g false)) else none:=rfl
theorem QT {es:Nat} {v:Value}:alc es v H=if v.cells.toList.all oneCell then some (.pointer (some ⟨H.length,0,none⟩),H++[.cells v.cells.toList es false false]) else none:=rfl
theorem QZ {a:Option Addr} {n c:Nat}:ZC (.slice a n c) H=some (.int .i64 n,H):=rfl
theorem Q0 {s:ByteArray}:JM (.string s) H=some (.int .i64 s.size,H):=rfl
theorem QU {q p:IntKind} {n:Int}:cvi q (.int p n) H=some (.int q (q.wrap n),H):=rfl
theorem Zl {t:Bool} {x y:Value}:pick (.bool t) x y H=some (bif t then x else y,H):=rfl
theorem ZL {t:Bool}:uop .not (.bool t) H=some (.bool (!t),H):=rfl
theorem YY {p:IntKind} {a b:Int}:mxi true (.int p a) (.int p b) H=some (.int p (if b > a then b else a),H):=rfl
theorem YB {p:IntKind} {a b:Int}:mxi false (.int p a) (.int p b) H=some (.int p (if b < a then b else a),H):=rfl
theorem Jb {n c sz:Nat} {q:IntKind} {i:Int}:ixa sz (.slice (some ⟨id,o,none⟩) n c) (.int q i) H=if 0<=i/\i < n then some (.pointer (some ⟨id,o+i.toNat * sz,none⟩),H) else none:=rfl
theorem QL {n sz:Nat} {q:IntKind} {i:Int}:WN n sz (.pointer (some ⟨id,o,none⟩)) (.int q i) H=if 0<=i/\i < n then some (.pointer (some ⟨id,o+i.toNat * sz,none⟩),H) else none:=rfl
theorem ZEv {b:Bool}:Zm (.tuple #[.bool b]) 0 H=some (.bool b,H):=rfl
theorem JC {z:Value} {ps:List (Nat × Nat × Value)}:bld z ps H=(WB z.cells.toList ps).map fun cs=>(.agg cs.toArray,H):=rfl
section
variable {p:IntKind} {a b:Int}
theorem ZI:bop .int .add (.int p a) (.int p b) H=some (.int p (p.wrap (a+b)),H):=by simp[bop,Wb]
theorem Q1:bop .int .sub (.int p a) (.int p b) H=some (.int p (p.wrap (a - b)),H):=by simp[bop,Wb]
theorem JU:bop .int .mul (.int p a) (.int p b) H=some (.int p (p.wrap (a * b)),H):=by simp[bop,Wb]
theorem JY:bop .int .quo (.int p a) (.int p b) H=if b=0 then none else some (.int p (p.wrap (a.tdiv b)),H):=by
 by_cases h:b=0
 .simp[bop,Wb,h]
 .have e:(b==0)=false:=by simpa using h
  simp[bop,Wb,h,e]
theorem JO:bop .int .rem (.int p a) (.int p b) H=if b=0 then none else some (.int p (a.tmod b),H):=by
 by_cases h:b=0
 .simp[bop,Wb,h]
 .have e:(b==0)=false:=by simpa using h
  simp[bop,Wb,h,e]
theorem ZE:bop .int .eql (.int p a) (.int p b) H=some (.bool (a==b),H):=by simp[bop,Wb]
theorem Zn:bop .int .neq (.int p a) (.int p b) H=some (.bool (a !=b),H):=by simp[bop,Wb]
theorem Zt:bop .int .lss (.int p a) (.int p b) H=some (.bool (decide (a < b)),H):=by simp[bop,Wb]
theorem Jj:bop .int .leq (.int p a) (.int p b) H=some (.bool (decide (a<=b)),H):=by simp[bop,Wb]
theorem Qm:bop .int .gtr (.int p a) (.int p b) H=some (.bool (decide (a > b)),H):=by simp[bop,Wb]
theorem Qo:bop .int .geq (.int p a) (.int p b) H=some (.bool (decide (a≥b)),H):=by simp[bop,Wb]
end
theorem JA {a b:Bool}:bop .bool .eql (.bool a) (.bool b) H=some (.bool (a==b),H):=by simp[bop,eqv]
theorem JG {a b:Bool}:bop .bool .neq (.bool a) (.bool b) H=some (.bool (!(a==b)),H):=by simp[bop,eqv]
theorem Jy {a:Addr}:bop .ptr .eql (.pointer (some a)) (.pointer none) H=some (.bool false,H):=by simp[bop,eqv]
theorem JI {a:Addr}:bop .ptr .neq (.pointer (some a)) (.pointer none) H=some (.bool true,H):=by simp[bop,eqv]
theorem YV {t u:Bool} {m:M Value}:gateV (.bool t) u m H=if t=u then m H else some (ZZ,H):=by
 cases t<;>cases u<;>rfl
theorem JV {u:Bool} {m:M Value}:gateV ZZ u m H=some (ZZ,H):=rfl
theorem g_r {t u:Bool} {n:Nat} {m:M (List Value)}:gate (.bool t) u n m H=if t=u then m H else some (List.replicate n ZZ,H):=by
 cases t<;>cases u<;>rfl
theorem Y0 {u:Bool} {n:Nat} {m:M (List Value)}:gate ZZ u n m H=some (List.replicate n ZZ,H):=rfl
end
section
variable {P:Program} {G:Nat} {w0:ZY} {ι:Nat->Option Loc} {H H1:Zd} {w:World} {v:Value}
end
abbrev iv (n:Int):Value:=.int .i64 n
abbrev pa (id o:Nat):Value:=.pointer (some ⟨id,o,none⟩)
abbrev pt (id:Nat):Value:=.pointer (some ⟨id,0,none⟩)
def But (id:Nat) (H H':Zd):Prop:=∀ j,j≠id->H'[j]?=H[j]?
theorem But.set {id:Nat} {H:Zd} {o:Ze}:But id H (H.set id o):=fun j hj=>List.getElem?_set_ne (Ne.symm hj)
theorem ZEm {H:Zd} {a b:Ze}:(H++[a]).set H.length b=H++[b]:=by simp
theorem Zp {a b:Value} {H:Zd}:Zm (.tuple #[a,b]) 0 H=some (a,H):=rfl
theorem Zq {a b:Value} {H:Zd}:Zm (.tuple #[a,b]) 1 H=some (b,H):=rfl
theorem fetch {β:Type} {k:Value->M β} {sz lid n c i es:Nat} {g ro:Bool} {zs cells xs:List Value} {H:Zd} (h:H[lid]?=some (.cells cells es g ro)) (hi:i < n) (hx:(cells.drop (i * sz)).take sz=xs) (hl:i * sz+sz<=cells.length)
  (hz:zs.length=sz) (hz1:zs.all oneCell=true) (h1:xs.all oneCell=true) :
  bind (ixa sz (.slice (some ⟨lid,0,none⟩) n c) (iv i)) (fun p=>bind (ldA sz p) fun v=>bind (alc 1 (.agg zs.toArray)) fun q=>bind (stA sz q v) fun _=>k q) H=k (pt H.length) (H++[.cells xs 1 false false]):=by
 have hxl:xs.length=sz:=by rw[<- hx];simp;omega
 have e1:ixa sz (.slice (some ⟨lid,0,none⟩) n c) (iv i) H=some (.pointer (some ⟨lid,i * sz,none⟩),H):=by
  rw[Jb,if_pos (by omega)];simp
 have e2:ldA sz (.pointer (some ⟨lid,i * sz,none⟩)) H=some (.agg xs.toArray,H):=by
  rw[Js,h,QN,if_pos hl,hx]
 have e3:alc 1 (.agg zs.toArray) H=some (pt H.length,H++[.cells zs 1 false false]):=by
  rw[QT];simp only[Value.cells,List.all_eq_true] at *;rw[if_pos (by simpa using hz1)]
 have e4:stA sz (pt H.length) (.agg xs.toArray) (H++[.cells zs 1 false false])=some (undef,H++[.cells xs 1 false false]):=by
  rw[Jq,Zo,QO,if_pos ⟨by omega,by simpa using hxl,by simpa using h1⟩];have:splice zs xs.toArray.toList 0=xs:=by unfold splice;simp[List.drop_eq_nil_of_le (show zs.length<=xs.length by omega)]
  rw[this];simp
 rw[Za e1,Za e2,Za e3,Za e4]
theorem ZFn {e:Ty} {x:(Ty.slc e).den} {H:Zd} {cs:List Value} (h:Rd (.slc e) x H cs) :
  cs=[.slice none 0 0]\/cs=[.slice (some ⟨0,0,some 1⟩) 0 0]\/∃ (l:List e.den) (n c id:Nat) (cells:List Value),cs=[.slice (some ⟨id,0,none⟩) n c]/\n<=l.length/\H[id]?=some (.cells cells e.size false true)/\cells.length=l.length * e.size/\
   (∀ i x,l[i]?=some x->Rd e x H ((cells.drop (i * e.size)).take e.size))/\(∃ a b,x=some (a,b)/\l=a++b/\n=a.length):=by
 cases x with
 | none=>exact .inl h
 | some p=>
  obtain⟨a,b⟩:=p;rcases h with⟨_,_,h⟩|⟨id,cells,h1,h2,h3,h4⟩
  .exact .inr (.inl h)
  .exact .inr (.inr ⟨a++b,a.length,_,id,cells,h1,by simp,h2,by simpa using h3,h4,a,b,rfl,rfl,rfl⟩)
theorem HLe.len {H H':Zd} (h:HLe H H'):H.length<=H'.length:=by
 rcases Nat.lt_or_ge H'.length H.length with h1|h1
 .have:=h H'.length _ (List.getElem?_eq_getElem h1);simp at this
 .exact h1
theorem Z6 {H:Zd} {id:Nat} {o:Ze} (h:H[id]?=some o):id < H.length:=(List.getElem?_eq_some_iff.1 h).1
section
variable {H:Zd} {p:IntKind} {a b:Int}
theorem ZFA {q:IntKind}:bop .int .shr (.int p a) (.int q b) H=if b < 0 then none else some (.int p (a.fdiv (2 ^ (min b.toNat p.bits))),H):=by
 by_cases h:b < 0<;>simp[bop,ZmC,h]
theorem ZFE {s t:ByteArray}:bop .str .eql (.string s) (.string t) H=some (.bool (s.toList==t.toList),H):=by simp[bop,sop]
theorem ZFP {s t:ByteArray}:bop .str .neq (.string s) (.string t) H=some (.bool (!(s.toList==t.toList)),H):=by simp[bop,sop]
end
theorem QD {a b c:Value} {H:Zd}:Zm (.tuple #[a,b,c]) 0 H=some (a,H):=rfl
theorem QY {a b c:Value} {H:Zd}:Zm (.tuple #[a,b,c]) 1 H=some (b,H):=rfl
theorem QA {a b c:Value} {H:Zd}:Zm (.tuple #[a,b,c]) 2 H=some (c,H):=rfl
def Sl (H:Zd) (sl:Value) (vs:List Value):Prop:=∃ a c,sl=.slice a vs.length c/\(a=none->c=0)/\QH 1 H sl=some vs
section
variable {H H':Zd} {sl v:Value} {vs:List Value}
theorem Sl.len (h:Sl H sl vs):ZC sl H'=some (iv vs.length,H'):=by
 obtain⟨a,c,rfl,_⟩:=h;rfl
theorem Sl.flen (h:Sl H sl vs):flen sl=vs.length:=by
 obtain⟨a,c,rfl,_⟩:=h;rfl
theorem Sl.fc (h:Sl H sl vs):QH 1 H sl=some vs:=by
 obtain⟨a,c,rfl,_,h⟩:=h;exact h
theorem Sl.mono (h:Sl H sl vs) (hl:HLe H H'):Sl H' sl vs:=by
 obtain⟨a,c,rfl,h0,h⟩:=h;refine⟨a,c,rfl,h0,?_⟩;unfold QH at h ⊢;split at h
 .exact h
 .rename_i id o n x _;split at h
  .rename_i cs es g ro hid;simp only[hl _ _ hid];exact h
  .cases h
 .exact h
 .rename_i e;cases e
 .cases h
def own1 (sl:Value):Option Nat:=
 match sl with
 | .slice (some ⟨id,_,none⟩) _ _=>some id
 | _=>none
theorem Sl.keep (h:Sl H sl vs) (hk:∀ id,own1 sl=some id->H'[id]?=H[id]?):Sl H' sl vs:=by
 obtain⟨a,c,rfl,h0,h⟩:=h;refine⟨a,c,rfl,h0,?_⟩;unfold QH at h ⊢;split at h
 .exact h
 .rename_i id o n x e;cases e;rw[hk id rfl];exact h
 .exact h
 .rename_i e;cases e
 .cases h
theorem Sl.at (h:Sl H sl vs) {i:Nat} (hi:vs[i]?=some v) (q:IntKind) :
  ∃ id o cs es g ro,(∀ H',ixa 1 sl (.int q i) H'=some (pa id o,H'))/\H[id]?=some (.cells cs es g ro)/\cs[o]?=some v/\own1 sl=some id:=by
 have hlt:i < vs.length:=(List.getElem?_eq_some_iff.1 hi).1;obtain⟨a,c,rfl,_,h⟩:=h;unfold QH at h;split at h
 .cases h;simp at hi
 .rename_i id o n x e;cases e;split at h
  .rename_i cs es g ro hid;split at h
   .rename_i hle;have hvs:=Option.some.inj h;refine⟨id,o+i,cs,es,g,ro,fun H'=>?_,hid,?_,rfl⟩
    .rw[Jb,if_pos (by omega)];simp
    .rw[<- hvs] at hi;simp[List.getElem?_take,List.getElem?_drop] at hi
     exact hi.2
   .cases h
  .cases h
 .rename_i id o j n x e;split at h
  .cases h;simp at hi
  .cases h
 .rename_i e;cases e
 .cases h
theorem Sl.fetch {β:Type} {k:Value->M β} (h:Sl H sl vs) {i:Nat} (hi:vs[i]?=some v) (q:IntKind) :
  bind (ixa 1 sl (.int q i)) (fun p=>bind (ld1 p) k) H=k v H:=by
 obtain⟨id,o,cs,es,g,ro,e1,e2,e3,_⟩:=h.at hi q;rw[Za (e1 H)];refine Za ?_;rw[Qp,e2,Jo,e3];rfl
theorem Sl.fun (h:Sl H sl vs) {ws:List Value} (h':Sl H sl ws):ws=vs:=by
 have:=h.fc.symm.trans h'.fc;simpa using this.symm
theorem Sl.nil:Sl H (.slice none 0 0) []:=⟨none,0,rfl,fun _=>rfl,rfl⟩
theorem Sl.one {id:Nat} {es:Nat} {g ro:Bool} {c:Nat} (h:H[id]?=some (.cells vs es g ro)):Sl H (.slice (some ⟨id,0,none⟩) vs.length c) vs:=by
 refine⟨_,_,rfl,(fun e=>by cases e),?_⟩;unfold QH;simp[h]
end
structure Zr (own:List Nat) (H:Zd) (own':List Nat) (H':Zd):Prop where
 len:H.length<=H'.length
 keep:∀ j,j < H.length->j∉own->H'[j]?=H[j]?
 own:∀ j∈own',j∈own\/H.length<=j
theorem Zr.refl (own:List Nat) (H:Zd):Zr own H own H:=⟨Nat.le_refl _,fun _ _ _=>rfl,fun _ h=>.inl h⟩
theorem Zr.trans {o1 o2 o3:List Nat} {H1 H2 H3:Zd} (h:Zr o1 H1 o2 H2) (h':Zr o2 H2 o3 H3):Zr o1 H1 o3 H3:=by
 refine⟨Nat.le_trans h.len h'.len,fun j hj hn=>?_,fun j hj=>?_⟩
 .rw[h'.keep j (by have:=h.len;omega) (fun h2=>?_),h.keep j hj hn];rcases h.own j h2 with h3|h3
  .exact hn h3
  .omega
 .rcases h'.own j hj with h2|h2
  .rcases h.own j h2 with h3|h3
   .exact .inl h3
   .exact .inr h3
  .exact .inr (by have:=h.len;omega)
theorem Zr.get {own own':List Nat} {H H':Zd} (h:Zr own H own' H') {j:Nat} {o:Ze} (hj:H[j]?=some o) (hn:j∉own):H'[j]?=some o:=by
 rw[h.keep j (Z6 hj) hn];exact hj
theorem HLe.step {H H':Zd} (h:HLe H H'):Zr [] H [] H':=
 ⟨h.len,fun j hj _=>by
  rw[List.getElem?_eq_getElem hj];exact h _ _ (List.getElem?_eq_getElem hj),fun _ h=>by cases h⟩
theorem Zr.hle {own':List Nat} {H H':Zd} (h:Zr [] H own' H'):HLe H H':=fun i o hi=>h.get hi (by simp)
theorem Zr.more {own own':List Nat} {H H':Zd} (h:Zr own H own' H') {o2 o2':List Nat} (h1:∀ j∈own,j∈o2) (h2:∀ j∈o2',j∈o2\/j∈own'\/H.length<=j):Zr o2 H o2' H':=
 ⟨h.len,fun j hj hn=>h.keep j hj fun h3=>hn (h1 j h3),fun j hj=>by
  rcases h2 j hj with h3|h3|h3
  .exact .inl h3
  .rcases h.own j h3 with h4|h4
   .exact .inl (h1 j h4)
   .exact .inr h4
  .exact .inr h3⟩
def Zu (H:Zd) (sl:Value) (vs:List Value) (own:List Nat):Prop:=
 (vs=[]/\own=[]/\sl=.slice none 0 0)\/
 ∃ sid rest g,sl=.slice (some ⟨sid,0,none⟩) vs.length (vs.length+rest.length)/\own=[sid]/\H[sid]?=some (.cells (vs++rest) 1 g false)
section
variable {H H':Zd} {sl v:Value} {vs:List Value} {own:List Nat}
theorem Zu.nil:Zu H (.slice none 0 0) [] []:=.inl ⟨rfl,rfl,rfl⟩
theorem Zu.rd (h:Zu H sl vs own):Sl H sl vs:=by
 rcases h with⟨rfl,rfl,rfl⟩|⟨sid,rest,g,rfl,rfl,hid⟩
 .exact Sl.nil
 .refine⟨_,_,rfl,(fun e=>by cases e),?_⟩;unfold QH;simp[hid]
theorem Zu.lt (h:Zu H sl vs own):∀ j∈own,j < H.length:=by
 rcases h with⟨rfl,rfl,rfl⟩|⟨sid,rest,g,rfl,rfl,hid⟩
 .simp
 .intro j hj;simp at hj
  subst hj;exact Z6 hid
theorem Zu.keep (h:Zu H sl vs own) (hk:∀ j∈own,H'[j]?=H[j]?):Zu H' sl vs own:=by
 rcases h with⟨rfl,rfl,rfl⟩|⟨sid,rest,g,rfl,rfl,hid⟩
 .exact .inl ⟨rfl,rfl,rfl⟩
 .exact .inr ⟨sid,rest,g,rfl,rfl,by rw[hk sid (by simp)];exact hid⟩
theorem Zu.step {o1 o2:List Nat} (h:Zu H sl vs own) (hs:Zr o1 H o2 H') (hn:∀ j∈own,j∉o1):Zu H' sl vs own:=
 h.keep fun j hj=>hs.keep j (h.lt j hj) (hn j hj)
theorem Zu.own1 (h:Zu H sl vs own) {id:Nat} (hi:A.own1 sl=some id):own=[id]:=by
 rcases h with⟨rfl,rfl,rfl⟩|⟨sid,rest,g,rfl,rfl,hid⟩
 .cases hi
 .cases hi;rfl
theorem Zu.put (h:Zu H sl vs own) {i:Nat} {u:Value} (hi:vs[i]?=some v) (hu:oneCell u=true) (q:IntKind) :
  ∃ id o H',(∀ H',ixa 1 sl (.int q i) H'=some (pa id o,H'))/\st1 (pa id o) u H=some (undef,H')/\Zu H' sl (vs.set i u) own/\Zr own H own H'/\own=[id]/\H'.length=H.length:=by
 have hlt:i < vs.length:=(List.getElem?_eq_some_iff.1 hi).1;rcases h with⟨rfl,rfl,rfl⟩|⟨sid,rest,g,rfl,rfl,hid⟩
 .simp at hi
 .refine⟨sid,i,H.set sid (.cells ((vs++rest).set i u) 1 g false),fun H'=>?_,?_,?_,⟨by simp,fun j hj hn=>?_,fun j hj=>.inl hj⟩,rfl,by simp⟩
  .rw[Jb,if_pos (by omega)];simp
  .rw[Qt,hid,Jz,if_pos ⟨by simp;omega,hu⟩]
  .refine .inr ⟨sid,rest,g,by simp,rfl,?_⟩;rw[ZW hid,List.set_append_left _ _ hlt]
  .rw[List.getElem?_set_ne (fun e=>hn (by simp[e]))]
theorem Zu.push {b:Nat} (h:Zu H sl vs own) {x:Value} (hx:Sl H x [v]) (hb:(vs.length+1) * b<=140737488355328) (hb0:vs.length+1<=140737488355328) :
  ∃ sl' H' own',app 1 b sl x H=some (sl',H')/\Zu H' sl' (vs++[v]) own'/\Zr own H own' H'/\(∀ j,j < H.length->(∀ i∈own,j≠i)->H'[j]?=H[j]?):=by
 have hf:=hx.fc;have hn:=hx.flen;rcases h with⟨rfl,rfl,rfl⟩|⟨sid,rest,g,rfl,rfl,hid⟩
 .refine⟨_,H++[.cells [v] 1 true false],[H.length],?_,.inr ⟨H.length,[],true,rfl,rfl,by simp⟩,⟨by simp,fun j hj _=>List.getElem?_append_left hj,by simp⟩,fun j hj _=>List.getElem?_append_left hj⟩;unfold app;rw[hf];simp only[hn,List.length_singleton];rw[if_neg (by omega),if_pos ⟨by simp,by simpa using hb⟩];simp
 .have hlt:=Z6 hid;by_cases hc:vs.length+1<=vs.length+rest.length
  .cases rest with
   | nil=>simp only[List.length_nil] at hc;omega
   | cons r rest=>
    refine⟨_,H.set sid (.cells (vs++[v]++rest) 1 g false),[sid],?_,.inr ⟨sid,rest,g,rfl,rfl,ZW hid⟩,⟨by simp,fun j hj hn=>List.getElem?_set_ne (fun e=>hn (by simp[e])),by simp⟩,fun j hj hn=>List.getElem?_set_ne (Ne.symm (hn sid (by simp)))⟩;unfold app;rw[hf];simp only[hn,List.length_singleton,hid,if_true];rw[if_pos (by simp),if_neg (by omega),if_pos (by simp)];simp only[Nat.mul_one,Nat.zero_add];rw[show splice (vs++r :: rest) [v] vs.length=vs++[v]++rest from by unfold splice;simp[List.drop_append]]
    congr 2
    simp;omega
  .have hr:rest=[]:=by
    cases rest with
    | nil=>rfl
    | cons r rest=>simp at hc
   subst hr;have happ:app 1 b (.slice (some ⟨sid,0,none⟩) vs.length (vs.length+([]:List Value).length)) x H=some (.slice (some ⟨H.length,0,none⟩) (vs.length+1) (vs.length+1),(bif g then H.set sid (.view vs 1 H.length) else H)++[.cells (vs++[v]) 1 true false]):=by
    unfold app;rw[hf];simp only[hn,List.length_singleton,hid,if_true,List.length_nil,Nat.add_zero];rw[if_neg (by omega),if_pos (by simp;omega)];simp
   refine⟨_,_,[H.length],happ,.inr ⟨H.length,[],true,by simp,rfl,?_⟩,⟨?_,fun j hj hn=>?_,by simp⟩,fun j hj hn=>?_⟩
   .rw[List.getElem?_append_right (by cases g<;>simp)];cases g<;>simp
   .cases g<;>simp
   .rw[List.getElem?_append_left (by cases g<;>simpa using hj)];cases g
    .rfl
    .exact List.getElem?_set_ne (fun e=>hn (by simp[e]))
   .rw[List.getElem?_append_left (by cases g<;>simpa using hj)];cases g
    .rfl
    .exact List.getElem?_set_ne (Ne.symm (hn sid (by simp)))
theorem ZwK {b:Nat} {x:Value} (hx:Sl H x vs) (hb:vs.length * b<=140737488355328) (hb0:vs.length<=140737488355328) {s:Value} (hs:s=.slice none 0 0\/∃ id g,s=.slice (some ⟨id,0,none⟩) 0 0/\H[id]?=some (.cells [] 1 g false)/\g=false) :
  ∃ sl' H' own',app 1 b s x H=some (sl',H')/\Zu H' sl' vs own'/\HLe H H'/\(∀ j∈own',H.length<=j\/(vs=[]/\A.own1 s=some j)):=by
 have hf:=hx.fc;have hn:=hx.flen;rcases hs with rfl|⟨id,g,rfl,hid,rfl⟩
 .cases vs with
  | nil=>
   refine⟨.slice none 0 0,H,[],?_,Zu.nil,.refl _,by simp⟩;unfold app;rw[hf];simp[hn]
  | cons v vs=>
   refine⟨_,H++[.cells (v :: vs) 1 true false],[H.length],?_,.inr ⟨H.length,[],true,rfl,rfl,by simp⟩,.app _ _,by simp⟩;unfold app;rw[hf];simp only[hn];rw[if_neg (by simp),if_pos ⟨hb0,hb⟩];simp
 .cases vs with
  | nil=>
   refine⟨.slice (some ⟨id,0,none⟩) 0 0,H,[id],?_,.inr ⟨id,[],false,rfl,rfl,by simpa using hid⟩,.refl _,by simp[own1]⟩;unfold app;rw[hf];simp[hn,hid]
  | cons v vs=>
   refine⟨_,H++[.cells (v :: vs) 1 true false],[H.length],?_,.inr ⟨H.length,[],true,rfl,rfl,by simp⟩,.app _ _,by simp⟩;unfold app;rw[hf];simp only[hn,hid,if_true];rw[if_neg (by simp),if_pos (by simp at hb hb0 ⊢;omega)];simp
end
theorem ZBH {es:Nat} {z:Value} {H:Zd}:bsl es 0 z [] H=some (.slice (some ⟨H.length,0,none⟩) 0 0,H++[.cells [] es false false]):=by
 simp[bsl,WB,reps,Zjf]
theorem Zqb {es:Nat} {z v:Value} {H:Zd} (hz:z.cells=#[z]) (hv:v.cells=#[v]) (h1:oneCell v=true):bsl es 1 z [(0,1,v)] H=some (.slice (some ⟨H.length,0,none⟩) 1 1,H++[.cells [v] es false false]):=by
 have ht:Yw v=false:=by cases v<;>simp_all [Yw,oneCell]
 simp[bsl,WB,reps,Zjf,hz,hv,ht,splice,h1]
theorem ZoW:∀ (bs:List UInt8),ZfG (u8s bs)=some bs
 | []=>rfl
 | b :: bs=>by
  have:=ZoW bs;unfold u8s at this ⊢;simp[ZfG,this]
theorem Kp (bs:List UInt8):(u8s bs).length=bs.length:=by simp[u8s]
theorem ZEX {H:Zd} {v:Value} {bs:List UInt8} (h:Sl H v (u8s bs)):b2s v H=some (.string ⟨bs.toArray⟩,H):=by
 have hf:=h.fc;obtain⟨a,c,rfl,_⟩:=h;simp only[b2s,hf,ZoW,Option.map_some]
theorem Sl.isnil {H H':Zd} {v:Value} {vs:List Value} (h:Sl H v vs):(v=.slice none 0 0/\vs=[]/\bop .slc .eql v (.slice none 0 0) H'=some (.bool true,H'))\/bop .slc .eql v (.slice none 0 0) H'=some (.bool false,H'):=by
 obtain⟨a,c,rfl,h0,hf⟩:=h;cases a with
 | none=>
  have:vs=[]:=by simpa[QH] using hf.symm
  subst this;rw[h0 rfl];exact .inl ⟨rfl,rfl,rfl⟩
 | some a=>exact .inr rfl
theorem HLe.more {H0 H H':Zd} {own own':List Nat} (h:HLe H0 H) (hs:Zr own H own' H') (ho:∀ j∈own,H0.length<=j):HLe H0 H'/\∀ j∈own',H0.length<=j:=by
 refine⟨fun i o hi=>hs.get (h i o hi) fun hm=>?_,fun j hj=>?_⟩
 .have:=ho i hm;have:=Z6 hi;omega
 .rcases hs.own j hj with h1|h1
  .exact ho j h1
  .have:=h.len;omega
inductive ZaI {α β:Type} (R:α->β->Prop):List α->List β->Prop
 | nil:ZaI R [] []
 | cons {a:α} {b:β} {l:List α} {m:List β}:R a b->ZaI R l m->ZaI R (a :: l) (b :: m)
section
variable {α β:Type} {R S:α->β->Prop} {l l':List α} {m m':List β} {a:α} {b:β}
theorem ZaI.len (h:ZaI R l m):l.length=m.length:=by
 induction h with
 | nil=>rfl
 | cons _ _ ih=>simp[ih]
theorem ZaI.imp (h:ZaI R l m) (hi:∀ a b,R a b->S a b):ZaI S l m:=by
 induction h with
 | nil=>exact .nil
 | cons h _ ih=>exact .cons (hi _ _ h) ih
theorem ZaI.at (h:ZaI R l m) {i:Nat} (hb:m[i]?=some b):∃ a,l[i]?=some a/\R a b:=by
 induction h generalizing i with
 | nil=>simp at hb
 | cons h _ ih=>
  cases i with
  | zero=>
   simp only[List.getElem?_cons_zero,Option.some.injEq] at hb;subst hb;exact⟨_,rfl,h⟩
  | succ i=>exact ih (by simpa using hb)
theorem ZaI.atL (h:ZaI R l m) {i:Nat} (ha:l[i]?=some a):∃ b,m[i]?=some b/\R a b:=by
 induction h generalizing i with
 | nil=>simp at ha
 | cons h _ ih=>
  cases i with
  | zero=>
   simp only[List.getElem?_cons_zero,Option.some.injEq] at ha;subst ha;exact⟨_,rfl,h⟩
  | succ i=>exact ih (by simpa using ha)
theorem ZaI.set (h:ZaI R l m) {i:Nat} (hr:R a b):ZaI R (l.set i a) (m.set i b):=by
 induction h generalizing i with
 | nil=>exact .nil
 | cons h h2 ih=>
  cases i with
  | zero=>exact .cons hr h2
  | succ i=>exact .cons h ih
theorem ZaI.app (h:ZaI R l m) (h':ZaI R l' m'):ZaI R (l++l') (m++m'):=by
 induction h with
 | nil=>exact h'
 | cons h _ ih=>exact .cons h ih
theorem ZaI.one (h:R a b):ZaI R [a] [b]:=.cons h .nil
theorem ZaI.mem (h:ZaI R l m) (ha:a∈l):∃ b∈m,R a b:=by
 obtain⟨i,hi,rfl⟩:=List.getElem_of_mem ha;obtain⟨b,hb,hr⟩:=h.atL (List.getElem?_eq_getElem hi);exact⟨b,List.mem_of_getElem? hb,hr⟩
end
theorem Zbn {es:Nat}:∀ {rows:List (List Value)},(∀ r∈rows,r.length=es)->rows.flatten.length=rows.length * es
 | [],_=>by simp
 | r :: rows,h=>by
  rw[List.flatten_cons,List.length_append,h r (by simp),Zbn fun x hx=>h x (by simp[hx]),List.length_cons,Nat.add_mul];omega
theorem ZjA {es:Nat}:∀ {rows:List (List Value)} {i:Nat} {r:List Value} {rest:List Value},(∀ r∈rows,r.length=es)->rows[i]?=some r->((rows.flatten++rest).drop (i * es)).take es=r
 | [],_,_,_,_,h=>by simp at h
 | q :: rows,0,r,rest,h,hi=>by
  have:q=r:=by simpa using hi
  subst this;have:=h q (by simp);simp[<- this]
 | q :: rows,i+1,r,rest,h,hi=>by
  have hq:=h q (by simp);rw[List.flatten_cons,List.append_assoc,show(i+1) * es=q.length+i * es by rw[hq,Nat.add_mul];omega,List.drop_append];simp only[List.drop_eq_nil_of_le (Nat.le_add_right _ _),List.nil_append,Nat.add_sub_cancel_left];exact ZjA (fun x hx=>h x (by simp[hx])) (by simpa using hi)
def SlN (es:Nat) (H:Zd) (sl:Value) (rows:List (List Value)):Prop:=
 ∃ a c,sl=.slice a rows.length c/\(a=none->c=0)/\QH es H sl=some rows.flatten/\∀ r∈rows,r.length=es
section
variable {H H':Zd} {sl v:Value} {rows:List (List Value)} {es:Nat}
theorem SlN.len (h:SlN es H sl rows):ZC sl H'=some (iv rows.length,H'):=by
 obtain⟨a,c,rfl,_⟩:=h;rfl
theorem SlN.flen (h:SlN es H sl rows):flen sl=rows.length:=by
 obtain⟨a,c,rfl,_⟩:=h;rfl
theorem SlN.fc (h:SlN es H sl rows):QH es H sl=some rows.flatten:=by
 obtain⟨a,c,rfl,_,h,_⟩:=h;exact h
theorem SlN.ok (h:SlN es H sl rows):∀ r∈rows,r.length=es:=by
 obtain⟨a,c,rfl,_,_,h⟩:=h;exact h
theorem SlN.one (h:SlN es H sl rows):oneCell sl=true/\sl.cells=#[sl]:=by
 obtain⟨a,c,rfl,_⟩:=h;exact⟨rfl,rfl⟩
theorem SlN.keep (h:SlN es H sl rows) (hk:∀ id,own1 sl=some id->H'[id]?=H[id]?):SlN es H' sl rows:=by
 obtain⟨a,c,rfl,h0,h,hr⟩:=h;refine⟨a,c,rfl,h0,?_,hr⟩;unfold QH at h ⊢;split at h
 .exact h
 .rename_i id o n x e;cases e;rw[hk id rfl];exact h
 .exact h
 .rename_i e;cases e
 .cases h
theorem SlN.mono (h:SlN es H sl rows) (hl:HLe H H'):SlN es H' sl rows:=by
 refine h.keep fun id hid=>?_;obtain⟨a,c,rfl,h0,h,hr⟩:=h;unfold own1 at hid;split at hid
 .rename_i id' o n c' e;cases e;cases hid;unfold QH at h;simp only at h;split at h
  .rename_i hg;rw[hg];exact hl _ _ hg
  .cases h
 .cases hid
theorem SlN.at (h:SlN es H sl rows) {i:Nat} {r:List Value} (hi:rows[i]?=some r) (he:0 < es) (q:IntKind) :
  ∃ id o cs e g ro,(∀ H',ixa es sl (.int q i) H'=some (pa id o,H'))/\H[id]?=some (.cells cs e g ro)/\(cs.drop o).take es=r/\o+es<=cs.length/\own1 sl=some id:=by
 have hlt:i < rows.length:=(List.getElem?_eq_some_iff.1 hi).1;obtain⟨a,c,rfl,_,h,hr⟩:=h;have hfl:=Zbn hr;unfold QH at h;split at h
 .have h:=Option.some.inj h;have h0:rows.flatten.length=0:=by rw[<- h];rfl
  rw[hfl] at h0;have:=Nat.mul_pos (show 0 < rows.length by omega) he;omega
 .rename_i id o n x e;cases e;split at h
  .rename_i cs es' g ro hid;split at h
   .rename_i hle;have hvs:=Option.some.inj h;have hie:i * es+es<=rows.length * es:=by
     have:=Nat.mul_le_mul_right es (show i+1<=rows.length by omega);rw[Nat.add_mul] at this;omega
    refine⟨id,o+i * es,cs,es',g,ro,fun H'=>?_,hid,?_,by omega,rfl⟩
    .rw[Jb,if_pos (by omega)];simp
    .have:=ZjA (rest:=[]) hr hi;rw[List.append_nil,<- hvs,List.drop_take,List.drop_drop,List.take_take,Nat.min_eq_left (Nat.le_sub_of_add_le (by omega))] at this;exact this
   .cases h
  .cases h
 .rename_i id o j n x e;cases e;split at h
  .rename_i h0;omega
  .cases h
 .rename_i e;cases e
 .cases h
theorem SlN.fetch {β:Type} {k:Value->M β} (h:SlN es H sl rows) {i:Nat} {r:List Value} (hi:rows[i]?=some r) (he:0 < es) (q:IntKind) :
  bind (ixa es sl (.int q i)) (fun p=>bind (ldA es p) k) H=k (.agg r.toArray) H:=by
 obtain⟨id,o,cs,e,g,ro,e1,e2,e3,e4,_⟩:=h.at hi he q;rw[Za (e1 H)];refine Za ?_;rw[Js,e2,QN,if_pos e4,e3]
theorem SlN.fun (h:SlN es H sl rows) {rows':List (List Value)} (h':SlN es H sl rows') (he:0 < es):rows'=rows:=by
 have e1:=h.fc.symm.trans h'.fc;have e2:rows.length=rows'.length:=by
  have:=h.flen;rw[h'.flen] at this;exact this.symm
 have e3:=Option.some.inj e1
 apply List.ext_getElem e2.symm
 intro i h1 h2;have a1:=ZjA (rest:=[]) h.ok (List.getElem?_eq_getElem h2);have a2:=ZjA (rest:=[]) h'.ok (List.getElem?_eq_getElem h1);rw[List.append_nil] at a1 a2;rw[<- a1,<- a2,e3]
theorem SlN.nil:SlN es H (.slice none 0 0) []:=⟨none,0,rfl,fun _=>rfl,rfl,by simp⟩
theorem SlN.whole {id e:Nat} {g ro:Bool} {c:Nat} (h:H[id]?=some (.cells rows.flatten e g ro)) (hr:∀ r∈rows,r.length=es):SlN es H (.slice (some ⟨id,0,none⟩) rows.length c) rows:=by
 refine⟨_,_,rfl,(fun e=>by cases e),?_,hr⟩;unfold QH;simp only[h];rw[Zbn hr,if_pos (by omega)];simp[List.take_of_length_le (Nat.le_of_eq (Zbn hr))]
end
theorem ZbB {β:Type} {k:Value->M β} {zs r:List Value} {n:Nat} {H:Zd} (hz:zs.length=n) (hr:r.length=n) (hz1:zs.all oneCell=true) (h1:r.all oneCell=true) :
  bind (alc 1 (.agg zs.toArray)) (fun q=>bind (stA n q (.agg r.toArray)) fun _=>k q) H=k (pt H.length) (H++[.cells r 1 false false]):=by
 have e3:alc 1 (.agg zs.toArray) H=some (pt H.length,H++[.cells zs 1 false false]):=by
  rw[QT];simp only[Value.cells,List.all_eq_true] at *;rw[if_pos (by simpa using hz1)]
 have e4:stA n (pt H.length) (.agg r.toArray) (H++[.cells zs 1 false false])=some (undef,H++[.cells r 1 false false]):=by
  rw[Jq,Zo,QO,if_pos ⟨by omega,by simpa using hr,by simpa using h1⟩];have:splice zs r.toArray.toList 0=r:=by unfold splice;simp[List.drop_eq_nil_of_le (show zs.length<=r.length by omega)]
  rw[this];simp
 rw[Za e3,Za e4]
def Yj (es:Nat) (H:Zd) (sl:Value) (rows:List (List Value)) (own:List Nat):Prop:=
 (rows=[]/\own=[]/\sl=.slice none 0 0)\/
 ∃ sid rest r g,sl=.slice (some ⟨sid,0,none⟩) rows.length (rows.length+r)/\own=[sid]/\H[sid]?=some (.cells (rows.flatten++rest) es g false)/\rest.length=r * es/\∀ x∈rows,x.length=es
section
variable {H H':Zd} {sl v:Value} {rows:List (List Value)} {es:Nat} {own:List Nat}
theorem Yj.nil:Yj es H (.slice none 0 0) [] []:=.inl ⟨rfl,rfl,rfl⟩
theorem Yj.rd (h:Yj es H sl rows own):SlN es H sl rows:=by
 rcases h with⟨rfl,rfl,rfl⟩|⟨sid,rest,r,g,rfl,rfl,hid,hr,hx⟩
 .exact SlN.nil
 .refine⟨_,_,rfl,(fun e=>by cases e),?_,hx⟩;unfold QH;simp only[hid];rw[if_pos (by rw[List.length_append,Zbn hx];omega),<- Zbn hx];simp
theorem Yj.lt (h:Yj es H sl rows own):∀ j∈own,j < H.length:=by
 rcases h with⟨rfl,rfl,rfl⟩|⟨sid,rest,r,g,rfl,rfl,hid,_⟩
 .simp
 .intro j hj;simp at hj
  subst hj;exact Z6 hid
theorem Yj.keep (h:Yj es H sl rows own) (hk:∀ j∈own,H'[j]?=H[j]?):Yj es H' sl rows own:=by
 rcases h with⟨rfl,rfl,rfl⟩|⟨sid,rest,r,g,rfl,rfl,hid,hr⟩
 .exact .inl ⟨rfl,rfl,rfl⟩
 .exact .inr ⟨sid,rest,r,g,rfl,rfl,by rw[hk sid (by simp)];exact hid,hr⟩
theorem Yj.step {o1 o2:List Nat} (h:Yj es H sl rows own) (hs:Zr o1 H o2 H') (hn:∀ j∈own,j∉o1):Yj es H' sl rows own:=
 h.keep fun j hj=>hs.keep j (h.lt j hj) (hn j hj)
theorem Yj.own1 (h:Yj es H sl rows own) {id:Nat} (hi:A.own1 sl=some id):own=[id]:=by
 rcases h with⟨rfl,rfl,rfl⟩|⟨sid,rest,r,g,rfl,rfl,hid,_⟩
 .cases hi
 .cases hi;rfl
theorem Yj.one (h:Yj es H sl rows own):oneCell sl=true/\sl.cells=#[sl]:=h.rd.one
theorem Yj.push {b:Nat} (h:Yj es H sl rows own) {x:Value} {r:List Value} (hx:SlN es H x [r]) (hr:r.length=es) (hb:(rows.length+1) * b<=140737488355328) (hb0:rows.length+1<=140737488355328) :
  ∃ sl' H' own',app es b sl x H=some (sl',H')/\Yj es H' sl' (rows++[r]) own'/\Zr own H own' H':=by
 have hf:=hx.fc;rw[List.flatten_cons,List.flatten_nil,List.append_nil] at hf;have hn:=hx.flen;have hmem:∀ y∈rows++[r],(∀ z∈rows,z.length=es)->y.length=es:=fun y hy hz=>by
  rcases List.mem_append.1 hy with hy|hy
  .exact hz y hy
  .simp at hy;rw[hy];exact hr
 rcases h with⟨rfl,rfl,rfl⟩|⟨sid,rest,k,g,rfl,rfl,hid,hrl,hrow⟩
 .refine⟨_,H++[.cells r es true false],[H.length],?_,.inr ⟨H.length,[],0,true,rfl,rfl,by simp,by simp,fun y hy=>hmem y hy (by simp)⟩,⟨by simp,fun j hj _=>List.getElem?_append_left hj,by simp⟩⟩;unfold app;rw[hf];simp only[hn,List.length_singleton];rw[if_neg (by omega),if_pos ⟨by simp,by simpa using hb⟩];simp
 .have hfl:=Zbn hrow;by_cases hc:rows.length+1<=rows.length+k
  .obtain⟨k,rfl⟩:∃ m,k=m+1:=⟨k - 1,by omega⟩;have hks:(k+1) * es=k * es+es:=by rw[Nat.add_mul];omega
   have hsp:splice (rows.flatten++rest) r (rows.length * es)=rows.flatten++(r++rest.drop es):=by
    unfold splice;rw[<- hfl,List.take_left];rw[List.drop_append];rw[List.drop_eq_nil_of_le (show rows.flatten.length<=rows.flatten.length+r.length by omega),List.nil_append,Nat.add_sub_cancel_left,hr,List.append_assoc]
   refine⟨_,H.set sid (.cells (rows.flatten++(r++rest.drop es)) es g false),[sid],?_,.inr ⟨sid,rest.drop es,k,g,rfl,rfl,?_,by rw[List.length_drop];omega,fun y hy=>hmem y hy hrow⟩,⟨by simp,fun j hj hn=>List.getElem?_set_ne (fun e=>hn (by simp[e])),by simp⟩⟩
   .unfold app;rw[hf];simp only[hn,List.length_singleton,hid,if_true];rw[if_pos hc,if_neg (by omega),if_pos ⟨trivial,by rw[List.length_append,hfl,Nat.zero_add,Nat.add_mul,hrl];omega⟩];rw[Nat.zero_add,hsp];simp only[List.length_append,List.length_singleton]
    congr 3;omega
   .rw[ZW hid];simp
  .obtain rfl:k=0:=by omega
   have hr0:rest=[]:=List.eq_nil_of_length_eq_zero (by omega);subst hr0;have happ:app es b (.slice (some ⟨sid,0,none⟩) rows.length (rows.length+0)) x H=some (.slice (some ⟨H.length,0,none⟩) (rows.length+1) (rows.length+1),(bif g then H.set sid (.view rows.flatten es H.length) else H)++[.cells (rows.flatten++r) es true false]):=by
    unfold app;rw[hf];simp only[hn,List.length_singleton,hid,if_true,Nat.add_zero];rw[if_neg (by omega),if_pos ⟨by simp,by simp[hfl],by omega,by omega⟩];rw[List.drop_zero,List.append_nil,List.take_of_length_le (Nat.le_of_eq hfl)];rfl
   refine⟨_,_,[H.length],happ,.inr ⟨H.length,[],0,true,by simp,rfl,?_,by simp,fun y hy=>hmem y hy hrow⟩,⟨?_,fun j hj hn=>?_,by simp⟩⟩
   .rw[List.getElem?_append_right (by cases g<;>simp)];cases g<;>simp
   .cases g<;>simp
   .rw[List.getElem?_append_left (by cases g<;>simpa using hj)];cases g
    .rfl
    .exact List.getElem?_set_ne (fun e=>hn (by simp[e]))
end
theorem ZCT {es:Nat} {z:Value} {r:List Value} {H:Zd} (hz:z.cells.size=es) (hr:r.length=es) (h1:r.all oneCell=true) :
  bsl es 1 z [(0,es,.agg r.toArray)] H=some (.slice (some ⟨H.length,0,none⟩) 1 1,H++[.cells r es false false]):=by
 have hz':z.cells.toList.length=es:=by simpa using hz
 have hsp:splice (reps 1 z.cells.toList) r 0=r:=by
  unfold splice;rw[List.take_zero,List.nil_append,Nat.zero_add,List.drop_eq_nil_of_le (by simp[reps,hz',hr]),List.append_nil]
 have hl:(reps 1 z.cells.toList).length=es:=by simp[reps,hz']
 have hc:(Value.agg r.toArray).cells.toList=r:=by simp[Value.cells]
 have hs:(Value.agg r.toArray).cells.size=es:=by simp[Value.cells,hr]
 unfold bsl WB;simp[Yw,WB,hc,hs,hl,hsp,h1,Zjf,hr]
theorem Zv {H:Zd} {id o es:Nat} {cs:List Value} {g ro:Bool} {v:Value} (h:H[id]?=some (.cells cs es g ro)) (ho:cs[o]?=some v):ld1 (pa id o) H=some (v,H):=by
 rw[Qp,h,Jo,ho];rfl
theorem Zj {id o:Nat} {H:Zd}:fa o (pt id) H=some (pa id o,H):=by rw[Yq,Nat.zero_add]
theorem Zew {H:Zd} {id o es:Nat} {cs:List Value} {g:Bool} {v:Value} (h:H[id]?=some (.cells cs es g false)) (ho:o < cs.length) (hv:oneCell v=true):st1 (pa id o) v H=some (undef,H.set id (.cells (cs.set o v) es g false)):=by
 rw[Qt,h,Jz,if_pos ⟨ho,hv⟩]
theorem Qd {H:Zd} {id n es:Nat} {cs:List Value} {g ro:Bool} (h:H[id]?=some (.cells cs es g ro)) (hn:cs.length=n):ldA n (pt id) H=some (.agg cs.toArray,H):=by
 rw[Js,h,QN,if_pos (by omega)];simp only[List.drop_zero];rw[List.take_of_length_le (by omega)]
theorem WX {H:Zd} {id n es:Nat} {cs vs:List Value} {g:Bool} (h:H[id]?=some (.cells cs es g false)) (hn:cs.length=n) (hv:vs.length=n) (h1:vs.all oneCell=true):stA n (pt id) (.agg vs.toArray) H=some (undef,H.set id (.cells vs es g false)):=by
 rw[Jq,h,QO,if_pos ⟨by omega,by simpa using hv,by simpa using h1⟩];have:splice cs vs.toArray.toList 0=vs:=by unfold splice;simp[List.drop_eq_nil_of_le (show cs.length<=vs.length by omega)]
 rw[this]
theorem Zhr {H:Zd} {vs:List Value} (h1:vs.all oneCell=true):alc 1 (.agg vs.toArray) H=some (pt H.length,H++[.cells vs 1 false false]):=by
 rw[QT];simp only[Value.cells,List.all_eq_true] at *;rw[if_pos (by simpa using h1)]
theorem Zv8 {es:Nat} {cells:List Value}:∀ (n:Nat),n * es<=cells.length->((List.range n).map fun i=>(cells.drop (i * es)).take es).flatten=cells.take (n * es)
 | 0,_=>by simp
 | n+1,h=>by
  have h1:(n+1) * es=n * es+es:=by rw[Nat.add_mul];omega
  rw[List.range_succ,List.map_append,List.flatten_append,Zv8 n (by omega),h1,List.take_add];simp
theorem ZDZ {e:Ty} {x:(Ty.slc e).den} {H:Zd} {v:Value} (hwf:(Ty.slc e).wf x) (h:Rd (.slc e) x H [v]) :
  ∃ rows,SlN e.size H v rows/\(∀ r∈rows,∃ y,e.wf y/\Rd e y H r)/\rows.length<=9223372036854775807/\∀ lid,own1 v=some lid->lid < H.length:=by
 rcases ZFn h with h0|h0|⟨l,n,c,id,cells,h0,hn,hid,hcl,hcs,a,b,hx,hl,hna⟩
 .have:v=.slice none 0 0:=by simpa using h0
  subst this;exact⟨[],SlN.nil,by simp,by simp,fun _ h=>by cases h⟩
 .have:v=.slice (some ⟨0,0,some 1⟩) 0 0:=by simpa using h0
  subst this;exact⟨[],⟨_,_,rfl,(fun e=>by cases e),rfl,by simp⟩,by simp,by simp,fun _ h=>by cases h⟩
 .have:v=.slice (some ⟨id,0,none⟩) n c:=by simpa using h0
  subst this;have hle:n * e.size<=cells.length:=by rw[hcl];exact Nat.mul_le_mul_right _ hn
  have hlen:∀ i,i < n->((cells.drop (i * e.size)).take e.size).length=e.size:=fun i hi=>by
   have:=Nat.mul_le_mul_right e.size (show i+1<=n by omega);rw[Nat.add_mul,Nat.one_mul] at this;simp;omega
  refine⟨(List.range n).map fun i=>(cells.drop (i * e.size)).take e.size,⟨_,c,by rw[List.length_map,List.length_range],(fun e=>by cases e),?_,fun r hr=>?_⟩,fun r hr=>?_,?_,fun lid h=>by cases h;exact Z6 hid⟩
  .unfold QH;simp only[hid];rw[Nat.zero_add,if_pos hle,List.drop_zero,Zv8 n hle]
  .obtain⟨i,hi,rfl⟩:=List.mem_map.1 hr;exact hlen i (List.mem_range.1 hi)
  .obtain⟨i,hi,rfl⟩:=List.mem_map.1 hr;have hi:=List.mem_range.1 hi;have hil:i < l.length:=by omega
   refine⟨l[i],?_,hcs i l[i] (List.getElem?_eq_getElem hil)⟩;subst hx;obtain⟨w1,w2,_⟩:=hwf;have:l[i]∈a++b:=by rw[<- hl];exact List.getElem_mem hil
   exact(List.mem_append.1 this).elim (w1 _) (w2 _)
  .rw[List.length_map,List.length_range];subst hx;have:=hwf.2.2;unfold maxLen at this;omega
theorem ZrU {α:Type} {Q:List Value->α->Prop} {f:α->List Value}:∀ {rows:List (List Value)},(∀ r∈rows,∃ a,r=f a/\Q r a)->∃ ac:List α,rows=ac.map f/\∀ a∈ac,Q (f a) a
 | [],_=>⟨[],rfl,by simp⟩
 | r :: rows,h=>by
  obtain⟨a,h1,h2⟩:=h r (by simp);obtain⟨ac,h3,h4⟩:=ZrU (rows:=rows) fun x hx=>h x (by simp[hx]);subst h1;refine⟨a :: ac,by rw[h3];rfl,fun b hb=>?_⟩;rcases List.mem_cons.1 hb with rfl|hb
  .exact h2
  .exact h4 b hb
def strv (p:List UInt8):Value:=.string ⟨p.toArray⟩
theorem Zya (bs:ByteArray):∀ (d i:Nat) (r:List UInt8),bs.size - i=d->ByteArray.toList.loop bs i r=r.reverse++bs.data.toList.drop i
 | 0,i,r,hd=>by
  unfold ByteArray.toList.loop;have hs:bs.data.toList.length=bs.size:=Array.length_toList;rw[if_neg (by omega),List.drop_eq_nil_of_le (by omega),List.append_nil]
 | d+1,i,r,hd=>by
  unfold ByteArray.toList.loop;have hs:bs.data.toList.length=bs.size:=Array.length_toList;have hi:i < bs.data.toList.length:=by omega
  rw[if_pos (by omega),Zya bs d (i+1) _ (by omega),List.drop_eq_getElem_cons hi,List.reverse_cons,List.append_assoc]
  congr 2
  have hi2:i < bs.data.size:=by simpa using hi
  simp only[ByteArray.get!,Array.getElem_toList];rw[getElem!_pos bs.data i hi2];rfl
theorem Zac (p:List UInt8):(⟨p.toArray⟩:ByteArray).toList=p:=by
 have:=Zya ⟨p.toArray⟩ _ 0 [] rfl;simpa[ByteArray.toList] using this
section
variable {H:Zd} {a b:List UInt8}
theorem Zix:bop .str .eql (strv a) (strv b) H=some (.bool (a==b),H):=by
 unfold strv;rw[ZFE,Zac,Zac]
theorem ZiB:bop .str .neq (strv a) (strv b) H=some (.bool (!(a==b)),H):=by
 unfold strv;rw[ZFP,Zac,Zac]
theorem Zsv:(⟨a.toArray⟩:ByteArray).size=a.length:=by simp[ByteArray.size]
theorem ZES:(⟨a.toArray⟩:ByteArray)++⟨b.toArray⟩=⟨(a++b).toArray⟩:=by
 apply ByteArray.ext
 simp
theorem J4 (h:a.length+b.length<=9223372036854775807):bop .str .add (strv a) (strv b) H=some (strv (a++b),H):=by
 unfold strv bop sop;simp only[Zsv,decide_eq_true h,cond_true,ZES,Option.map_some]
theorem Z9:JM (strv a) H=some (iv a.length,H):=by
 unfold strv;rw[Q0,Zsv]
theorem ZFH {v:Value} (h:Sl H v (u8s a)):b2s v H=some (strv a,H):=ZEX h
end
section
variable {β:Type}
def c0 (k:β) (vs:List Value):β:=k
def c1 (k:Value->β) (vs:List Value):β:=k (vs.headD undef)
def c2 (k:Value->Value->β) (vs:List Value):β:=c1 (k (vs.headD undef)) vs.tail
def c3 (k:Value->Value->Value->β) (vs:List Value):β:=c2 (k (vs.headD undef)) vs.tail
def c4 (k:Value->Value->Value->Value->β) (vs:List Value):β:=c3 (k (vs.headD undef)) vs.tail
def c5 (k:Value->Value->Value->Value->Value->β) (vs:List Value):β:=c4 (k (vs.headD undef)) vs.tail
def c6 (k:Value->Value->Value->Value->Value->Value->β) (vs:List Value):β:=c5 (k (vs.headD undef)) vs.tail
def c7 (k:Value->Value->Value->Value->Value->Value->Value->β) (vs:List Value):β:=c6 (k (vs.headD undef)) vs.tail
def c8 (k:Value->Value->Value->Value->Value->Value->Value->Value->β) (vs:List Value):β:=c7 (k (vs.headD undef)) vs.tail
def c9 (k:Value->Value->Value->Value->Value->Value->Value->Value->Value->β) (vs:List Value):β:=c8 (k (vs.headD undef)) vs.tail
def c10 (k:Value->Value->Value->Value->Value->Value->Value->Value->Value->Value->β) (vs:List Value):β:=c9 (k (vs.headD undef)) vs.tail
def c11 (k:Value->Value->Value->Value->Value->Value->Value->Value->Value->Value->Value->β) (vs:List Value):β:=c10 (k (vs.headD undef)) vs.tail
def c12 (k:Value->Value->Value->Value->Value->Value->Value->Value->Value->Value->Value->Value->β) (vs:List Value):β:=c11 (k (vs.headD undef)) vs.tail
def c13 (k:Value->Value->Value->Value->Value->Value->Value->Value->Value->Value->Value->Value->Value->β) (vs:List Value):β:=c12 (k (vs.headD undef)) vs.tail
def c14 (k:Value->Value->Value->Value->Value->Value->Value->Value->Value->Value->Value->Value->Value->Value->β) (vs:List Value):β:=c13 (k (vs.headD undef)) vs.tail
def noN {α:Type} (vs:List Value):M α:=fail
def noX {α:Type} (j:Nat) (vs:List Value):M α:=fail
def ZF (v:Value):M Out:=ret (.ret v)
def xk {α:Type} (i:Nat) (k:List Value->M α) (r:Nat->List Value->M α) (j:Nat) (vs:List Value):M α:=bif Nat.beq j i then k vs else r j vs
variable {v0 v1 v2 v3 v4 v5 v6 v7 v8 v9 v10 v11 v12 v13 v14 v15 v16 v17 v18 v19:Value}
theorem Wa {k:β} {vs:List Value}:c0 k vs=k:=rfl
theorem J1 {k:Value->β}:c1 k [v0]=k v0:=rfl
theorem Qv {k:Value->Value->β}:c2 k [v0,v1]=k v0 v1:=rfl
theorem ZV {k:Value->Value->Value->β}:c3 k [v0,v1,v2]=k v0 v1 v2:=rfl
theorem ZM {k:Value->Value->Value->Value->β}:c4 k [v0,v1,v2,v3]=k v0 v1 v2 v3:=rfl
theorem Jf {k:Value->Value->Value->Value->Value->β}:c5 k [v0,v1,v2,v3,v4]=k v0 v1 v2 v3 v4:=rfl
theorem YN {k:Value->Value->Value->Value->Value->Value->β}:c6 k [v0,v1,v2,v3,v4,v5]=k v0 v1 v2 v3 v4 v5:=rfl
theorem KS {k:Value->Value->Value->Value->Value->Value->Value->β}:c7 k [v0,v1,v2,v3,v4,v5,v6]=k v0 v1 v2 v3 v4 v5 v6:=rfl
theorem Y5 {k:Value->Value->Value->Value->Value->Value->Value->Value->β}:c8 k [v0,v1,v2,v3,v4,v5,v6,v7]=k v0 v1 v2 v3 v4 v5 v6 v7:=rfl
theorem KN {k:Value->Value->Value->Value->Value->Value->Value->Value->Value->β}:c9 k [v0,v1,v2,v3,v4,v5,v6,v7,v8]=k v0 v1 v2 v3 v4 v5 v6 v7 v8:=rfl
theorem YO {k:Value->Value->Value->Value->Value->Value->Value->Value->Value->Value->β}:c10 k [v0,v1,v2,v3,v4,v5,v6,v7,v8,v9]=k v0 v1 v2 v3 v4 v5 v6 v7 v8 v9:=rfl
theorem YR {k:Value->Value->Value->Value->Value->Value->Value->Value->Value->Value->Value->β}:c11 k [v0,v1,v2,v3,v4,v5,v6,v7,v8,v9,v10]=k v0 v1 v2 v3 v4 v5 v6 v7 v8 v9 v10:=rfl
theorem YP {k:Value->Value->Value->Value->Value->Value->Value->Value->Value->Value->Value->Value->β}:c12 k [v0,v1,v2,v3,v4,v5,v6,v7,v8,v9,v10,v11]=k v0 v1 v2 v3 v4 v5 v6 v7 v8 v9 v10 v11:=rfl
theorem ZP {α:Type} {i:Nat} {k:List Value->M α} {r:Nat->List Value->M α} {vs:List Value}:xk i k r i vs=k vs:=by
 unfold xk;rw[Nat.beq_refl,cond_true]
end
def ixp (sl:Value) (i:Nat):Value:=
 match sl with
 | .slice (some ⟨id,o,none⟩) _ _=>pa id (o+i)
 | _=>undef
section
variable {H H':Zd} {sl v u:Value} {vs:List Value} {own:List Nat} {i:Nat}
theorem Sl.ix (h:Sl H sl vs) (hi:i < vs.length) (q:IntKind) (H':Zd):ixa 1 sl (.int q i) H'=some (ixp sl i,H'):=by
 obtain⟨id,o,cs,es,g,ro,e1,_,_,e4⟩:=h.at (List.getElem?_eq_getElem hi) q;obtain⟨a,c,rfl,_⟩:=h;unfold own1 at e4;split at e4
 .rename_i id' o' _ _ e;cases e;rw[Jb,if_pos (by omega)];simp[ixp]
 .cases e4
theorem Sl.ldx (h:Sl H sl vs) (hi:vs[i]?=some v):ld1 (ixp sl i) H=some (v,H):=by
 obtain⟨id,o,cs,es,g,ro,e1,e2,e3,_⟩:=h.at hi .i64;have hlt:i < vs.length:=(List.getElem?_eq_some_iff.1 hi).1;have:=(h.ix hlt .i64 H).symm.trans (e1 H);have e:ixp sl i=pa id o:=by simpa using this
 rw[e,Qp,e2,Jo,e3];rfl
theorem Zu.ix (h:Zu H sl vs own) (hi:i < vs.length) (q:IntKind) (H':Zd):ixa 1 sl (.int q i) H'=some (ixp sl i,H'):=h.rd.ix hi q H'
theorem Zu.ldx (h:Zu H sl vs own) (hi:vs[i]?=some v):ld1 (ixp sl i) H=some (v,H):=h.rd.ldx hi
theorem Zu.stx (h:Zu H sl vs own) (hi:i < vs.length) (hu:oneCell u=true):∃ H',st1 (ixp sl i) u H=some (undef,H')/\Zu H' sl (vs.set i u) own/\Zr own H own H'/\H'.length=H.length:=by
 obtain⟨id,o,H',a1,a2,a3,a4,_,a5⟩:=h.put (List.getElem?_eq_getElem hi) hu .i64;have:=(h.ix hi .i64 H).symm.trans (a1 H);have e:ixp sl i=pa id o:=by simpa using this
 exact⟨H',by rw[e];exact a2,a3,a4,a5⟩
end
theorem Zu.one {H:Zd} {sl:Value} {vs:List Value} {own:List Nat} (h:Zu H sl vs own):oneCell sl=true/\sl.cells=#[sl]:=by
 rcases h with⟨_,_,rfl⟩|⟨_,_,_,rfl,_,_⟩<;>exact⟨rfl,rfl⟩
theorem ZFW {k b:Nat} {z:Value} {H:Zd} (hz:z.cells=#[z]) (h1:k * b<=140737488355328) (h2:k<=140737488355328):mks 1 b z (iv k) (iv k) H=some (.slice (some ⟨H.length,0,none⟩) k k,H++[.cells (List.replicate k z) 1 false false]):=by
 have hr:∀ m,reps m z.cells.toList=List.replicate m z:=fun m=>by
  rw[hz]
  induction m with
  | zero=>rfl
  | succ m ih=>
   unfold reps at ih ⊢;rw[List.replicate_succ,List.flatten_cons,ih];rfl
 unfold mks;simp only[];rw[if_pos (by omega)];simp only[Int.toNat_natCast,hr]
theorem Zu.new {k:Nat} {z:Value} {H:Zd} {id:Nat} (h:H[id]?=some (.cells (List.replicate k z) 1 false false)):Zu H (.slice (some ⟨id,0,none⟩) k k) (List.replicate k z) [id]:=
 .inr ⟨id,[],false,by simp,rfl,by simpa using h⟩
theorem Zk {α β γ:Type} {m:M α} {f:α->M β} {k:β->M γ} {H:Zd}:bind (bind m f) k H=bind m (fun a=>bind (f a) k) H:=by
 unfold bind;cases m H<;>rfl
theorem JX {k:Nat} (h:k < 9223372036854775807):IntKind.i64.wrap ((k:Int)+1)=((k+1:Nat):Int):=by rw[w64 (by omega) (by omega)];simp
theorem ZCX {k:Nat} (h:0 < k) (h2:k<=9223372036854775807):IntKind.i64.wrap ((k:Int) - 1)=((k - 1:Nat):Int):=by rw[w64 (by omega) (by omega)];omega
abbrev ZaO:Nat:=7
abbrev JN:Nat:=9
abbrev W8:Nat:=10
abbrev ZbX:Nat:=11
abbrev Jt:Nat:=12
abbrev Qf:Nat:=13
abbrev ZR:Nat:=14
abbrev ZbV:Nat:=15
abbrev ZBD:Nat:=16
abbrev Jr:Nat:=17
abbrev J0:Nat:=18
abbrev Zbr:Nat:=19
abbrev Yk:Nat:=20
abbrev KU:Nat:=27
abbrev YW:Nat:=28
abbrev QB:Nat:=29
abbrev ZpC:Nat:=30
abbrev ZdH:Nat:=31
abbrev Zdg:Nat:=32
abbrev Zca:Nat:=33
abbrev Zam:Nat:=36
abbrev J9:Nat:=37
abbrev K2:Nat:=38
abbrev ZbO:Nat:=39
abbrev Za8:Nat:=40
abbrev Zab:Nat:=41
abbrev ZfU:Nat:=42
abbrev ZfY:Nat:=43
abbrev Wm:Nat:=44
abbrev YH:Nat:=45
abbrev ZpZ:Nat:=49
abbrev K9:Nat:=55
abbrev W6:Nat:=56
abbrev Zaj:Nat:=57
abbrev Zap:Nat:=58
abbrev Jc:Nat:=61
abbrev KA:Nat:=62
abbrev Zt5:Nat:=63
abbrev ZaY:Nat:=64
abbrev Ztz:Nat:=65
abbrev YT:Nat:=66
abbrev Zp9:Nat:=67
abbrev Zpt:Nat:=68
abbrev Zt7:Nat:=69
abbrev Zuu:Nat:=70
abbrev WS:Nat:=71
abbrev WA:Nat:=72
abbrev WF:Nat:=73
abbrev Wl:Nat:=74
abbrev Ws:Nat:=75
abbrev Kb:Nat:=76
abbrev ZwJ:Nat:=84
abbrev Zxx:Nat:=85
abbrev Zm7:Nat:=86
abbrev Zvk:Nat:=87
abbrev Zxk:Nat:=88
abbrev Zro:Nat:=89
abbrev Jk:Nat:=92
abbrev ZdG:Nat:=93
abbrev ZQ:Nat:=94
abbrev Jh:Nat:=95
abbrev Zbf:Nat:=96
abbrev WW:Nat:=97
abbrev ZtM:Nat:=98
abbrev ZgV:Nat:=99
abbrev Zb3:Nat:=100
abbrev Zip:Nat:=101
abbrev Zg8:Nat:=102
abbrev Ztn:Nat:=103
abbrev ZA8:Nat:=104
abbrev Zil:Nat:=105
abbrev ZpN:Nat:=106
abbrev ZcI:Nat:=107
abbrev Kv:Nat:=108
abbrev Za6:Nat:=109
abbrev Zcl:Nat:=110
abbrev Zfd:Nat:=112
abbrev ZaN:Nat:=113
abbrev Zbg:Nat:=114
abbrev KB:Nat:=115
abbrev Ky:Nat:=116
abbrev YF:Nat:=117
abbrev Ki:Nat:=118
abbrev ZaK:Nat:=119
abbrev W0:Nat:=120
abbrev K3:Nat:=121
abbrev Yz:Nat:=122
abbrev Wp:Nat:=123
abbrev We:Nat:=124
abbrev Wi:Nat:=125
abbrev Zan:Nat:=126
abbrev WH:Nat:=127
abbrev ZbN:Nat:=128
abbrev WO:Nat:=129
abbrev Zhl:Nat:=139
abbrev ZoK:Nat:=140
abbrev Zzv:Nat:=141
abbrev Zl8:Nat:=142
abbrev ZDe:Nat:=143
abbrev Zhe:Nat:=145
abbrev ZnO:Nat:=148
abbrev Qa:Nat:=150
abbrev Zmy:Nat:=151
abbrev ZcO:Nat:=152
abbrev Ze9:Nat:=153
abbrev Ya:Nat:=154
abbrev Yx:Nat:=155
abbrev Y8:Nat:=156
abbrev ZO:Nat:=157
abbrev JH:Nat:=158
abbrev Zbq:Nat:=159
abbrev QS:Nat:=160
abbrev KZ:Nat:=161
abbrev ZeT:Nat:=162
abbrev ZcH:Nat:=163
abbrev WG:Nat:=164
abbrev QI:Nat:=165
abbrev Qy:Nat:=166
abbrev Zce:Nat:=167
abbrev JP:Nat:=168
abbrev ZaM:Nat:=169
abbrev ZfT:Nat:=170
abbrev W4:Nat:=171
abbrev K4:Nat:=172
abbrev Kj:Nat:=173
abbrev K8:Nat:=174
abbrev Wq:Nat:=175
abbrev KJ:Nat:=176
abbrev Za3:Nat:=177
abbrev K0:Nat:=178
abbrev ZxA:Nat:=199
abbrev ZnR:Nat:=200
abbrev Za5:Nat:=201
abbrev KO:Nat:=202
abbrev ZiC:Nat:=203
abbrev JD:Nat:=204
abbrev Jp:Nat:=205
abbrev Wn:Nat:=207
abbrev Zaz:Nat:=209
abbrev ZdD:Nat:=210
abbrev Ko:Nat:=211
abbrev Kh:Nat:=212
abbrev Ja:Nat:=213
abbrev Ji:Nat:=214
abbrev Z4:Nat:=215
abbrev KC:Nat:=216
abbrev Kk:Nat:=217
abbrev JQ:Nat:=218
abbrev ZkE:Nat:=219
abbrev Ze3:Nat:=220
abbrev Zax:Nat:=221
abbrev ZbJ:Nat:=222
abbrev ZdL:Nat:=223
abbrev YU:Nat:=224
abbrev ZaH:Nat:=225
abbrev Wd:Nat:=226
abbrev Zzo:Nat:=227
abbrev Zi2:Nat:=228
abbrev Zuj:Nat:=233
abbrev Zxf:Nat:=234
abbrev ZyK:Nat:=235
abbrev ZoH:Nat:=236
abbrev Zxh:Nat:=238
abbrev Zsr:Nat:=239
abbrev ZqD:Nat:=241
abbrev Kt:Nat:=244
def KX:List (Nat × List Nat):=[(13,[2]),(26,[2]),(53,[])]
abbrev QX:Nat:=246
abbrev ZdP:Nat:=247
abbrev Zc7:Nat:=248
abbrev Yb:Nat:=249
abbrev QP:Nat:=250
abbrev Qh:Nat:=251
abbrev KP:Nat:=252
abbrev ZbA:Nat:=253
abbrev JK:Nat:=254
abbrev Ztv:Nat:=256
abbrev ZwW:Nat:=257
abbrev ZqJ:Nat:=258
abbrev Jd:Nat:=259
abbrev Zfk:Nat:=260
abbrev Zdq:Nat:=261
abbrev ZdX:Nat:=262
abbrev ZdI:Nat:=263
abbrev ZbT:Nat:=264
abbrev Zdb:Nat:=265
abbrev Zez:Nat:=266
abbrev ZrB:Nat:=267
abbrev Zcz:Nat:=268
abbrev Q8:Nat:=269
abbrev ZpK:Nat:=270
abbrev ZbI:Nat:=271
abbrev Zao:Nat:=272
abbrev YC:Nat:=273
abbrev Zbw:Nat:=274
abbrev Zi8:Nat:=275
abbrev ZkJ:Nat:=276
abbrev JW:Nat:=279
abbrev ZbE:Nat:=280
abbrev Zib:Nat:=281
abbrev ZcC:Nat:=282
abbrev Za4:Nat:=283
abbrev Zer:Nat:=284
abbrev Y9:Nat:=285
abbrev Yp:Nat:=287
abbrev ZeS:Nat:=288
abbrev Zas:Nat:=305
abbrev Zau:Nat:=306
abbrev Zc8:Nat:=307
abbrev WZ:Nat:=308
abbrev Zb4:Nat:=309
abbrev ZbC:Nat:=310
abbrev ZaA:Nat:=311
abbrev Za2:Nat:=312
abbrev YZ:Nat:=313
abbrev JZ:Nat:=314
abbrev Yh:Nat:=315
abbrev JR:Nat:=316
abbrev ZaG:Nat:=317
abbrev Zat:Nat:=318
abbrev Zdk:Nat:=319
abbrev WV:Nat:=320
abbrev Wf:Nat:=321
abbrev Zbj:Nat:=322
def ZE5:List (Nat × List (Nat × List Nat))->Nat->List (Nat × List Nat)
 | [],_=>[]
 | (i,l) :: t,g=>bif Nat.beq i g then l else ZE5 t g
def lvs:Nat->List (Nat × List Nat):=ZE5 [(7,[(13,[0]),(61,[]),(122,[3,33,34,35]),(978,[3,33,34,35]),(1958,[3,33,34,35]),(501373,[3,5,6,7,8,9,10,11,33,34,35]),(1002749,[3,6,9,33,34,35]),(2005501,[3,9,33,34,35]),(8021994,[3,6,9,10,12,33,34,35]),(16043991,[3,6,9,33,34,35]),(32087977,[3,6,9,10,12,33,34,35]),(32088061,[3,9,13,14,33,34,35]),(32088063,[3,33,34,35]),(64176126,[3,9,13,33,34,35,136,137,138]),(128351911,[3,6,9,10,12,33,34,35]),(513409010,[3,9,13,33,34,35,136,137,138]),(1026818022,[3,9,13,33,34,35,136,137,138]),(65716353439,[3,9,13,33,34,35,136,137,138])]),(9,[(29,[1])]),(10,[(13,[0]),(26,[0,5,6,7]),(210,[0,5,6,7]),(422,[0,5,6,7]),(3379,[0,5,6,7])]),(11,[(29,[3])]),(12,[(13,[0])]),(13,[(13,[])]),(14,[(13,[0,3,4]),(29,[0,3,4]),(117,[0,3,4]),(471,[0,3,4]),(1887,[0,3,4])]),(15,[(13,[1]),(29,[1]),(58,[1,19,20,21]),(61,[]),(466,[1,19,20,21]),(934,[1,19,20,21]),(7475,[1,19,20,21])]),(16,[(6,[]),(25,[]),(103,[])]),(18,[(13,[0,1])]),(29,[(29,[3])]),(30,[(13,[0,1,2,3]),(125,[10,11]),(253,[10])]),(31,[(13,[]),(53,[]),(105,[0,4]),(423,[0,4])]),(34,[(13,[0]),(61,[3]),(122,[3,16,17,18]),(978,[3,16,17,18]),(1958,[3,16,17,18])]),(35,[(13,[0]),(61,[3]),(122,[3,19,20,21]),(978,[3,19,20,21]),(1958,[3,19,20,21])]),(36,[(13,[0,3,4])]),(37,[(13,[0,1,2])]),(38,[(13,[0,1,4])]),(39,[(27,[0,3,4]),(30,[4,6,7]),(121,[4,6,7]),(125,[4,6]),(487,[4,6,7])]),(40,[(13,[]),(53,[]),(215,[])]),(41,[(29,[2,3]),(58,[1,2,3,13]),(466,[1,2,3,13,14]),(467,[1,2,3,13]),(3739,[1,2,3,13]),(14957,[1,2,3,13]),(59831,[1,2,3,13]),(239327,[1,2,3,13]),(957311,[1,2,3,13])]),(42,[(13,[]),(53,[]),(215,[])]),(43,[(29,[3]),(58,[1,3,15]),(466,[1,3,15,16]),(467,[1,3,15]),(3739,[1,3,15]),(14957,[1,3,15]),(59831,[1,3,15]),(239327,[1,3,15]),(957311,[1,3,15])]),(44,[(29,[3]),(58,[3,10,11]),(466,[3,10,11]),(934,[3,10,11])]),(45,[(13,[0,1]),(29,[]),(58,[0,1,12,13]),(466,[0,1,12,13]),(934,[0,1,12,13]),(7475,[0,1,12,13])]),(56,[(29,[5]),(58,[1,5,11,12,13]),(466,[1,5,11,12,13]),(934,[1,5,11,12,13]),(7475,[1,5,11,12,13])]),(59,[(59,[4]),(125,[4,6]),(509,[4,7]),(1018,[4,7,29,30]),(2043,[4,7]),(4093,[9,10]),(8146,[4,7,29,30]),(8189,[9]),(16294,[4,7,29,30])]),(60,[(59,[4]),(253,[4,6,7]),(1021,[4,6,8]),(2042,[4,6,8,32,33]),(4091,[4,6,8]),(8189,[10,11]),(16338,[4,6,8,32,33]),(16381,[10]),(32678,[4,6,8,32,33])]),(64,[(29,[3]),(58,[0,3,7,8,9]),(466,[0,3,7,8,9]),(934,[0,3,7,8,9])]),(65,[(13,[0,1,5]),(61,[])]),(67,[(61,[0]),(122,[0,17,18,19]),(978,[0,17,18,19]),(1958,[0,17,18,19])]),(70,[(29,[3]),(58,[0,3,9,10,11]),(466,[0,3,9,10,11]),(934,[0,3,9,10,11])]),(71,[(13,[0,1,2])]),(72,[(61,[0,1,6]),(125,[0,1]),(253,[0,1]),(489,[]),(509,[])]),(73,[(13,[1,2])]),(74,[(13,[4,5]),(53,[4,5]),(215,[4,5]),(863,[4,5]),(3455,[4,5]),(13823,[4,5]),(55295,[4,5]),(221183,[4,5])]),(75,[(13,[4,5]),(53,[4,5]),(215,[4,5]),(863,[4,5]),(3455,[4,5]),(13823,[4,5]),(55295,[4,5]),(221183,[4,5]),(884735,[4,5]),(3538943,[4,5]),(14155775,[4,5])]),(89,[(13,[0,1])]),(90,[(3,[]),(6,[1,9,10]),(50,[1,9,10]),(102,[1,9,10]),(1639,[1,9,10])]),(91,[(7,[]),(14,[1,17,18,19]),(114,[1,17,18,19]),(230,[1,17,18,19])]),(92,[(13,[0])]),(102,[(3,[])]),(103,[(13,[0,1,4]),(61,[0,1,4,5]),(125,[0,4,5]),(253,[4,5])]),(104,[(29,[0,4]),(58,[0,4,11,12,13]),(61,[0,4]),(122,[0,4,23,24,25]),(125,[4]),(466,[0,4,11,12,13]),(934,[0,4,11,12,13]),(978,[0,4,23,24,25]),(1958,[0,4,23,24,25]),(14951,[0,4,11,12,13]),(31333,[0,4,9,23,24,25])]),(105,[(13,[0])]),(106,[(29,[0,7]),(58,[0,2,7,10,11]),(61,[7]),(466,[0,2,7,10,11]),(934,[0,2,7,10,11])]),(107,[(27,[0,1]),(61,[0,7]),(122,[0,7,23,24,25]),(125,[7]),(250,[7,36,37,38]),(978,[0,7,23,24,25]),(1958,[0,7,23,24,25]),(2002,[7,36,37,38]),(4006,[7,36,37,38]),(128205,[7,11,36,37,38]),(256410,[7,11,36,37,38,54,55,56]),(256415,[7,36,37,38]),(2051282,[7,11,36,37,38,54,55,56]),(4102566,[7,11,36,37,38,54,55,56]),(65641063,[7,11,36,37,38,54,55,56])]),(108,[(13,[0]),(26,[0,1,7,8]),(210,[0,1,7,8]),(422,[0,1,7,8])]),(110,[(13,[0,3]),(59,[0,3]),(61,[3]),(125,[])]),(111,[(13,[0])]),(112,[(13,[0])]),(115,[(29,[0,1,4,6])]),(117,[(13,[0])]),(118,[(13,[0])]),(119,[(13,[0,1]),(125,[8,9,10])]),(120,[(6,[0]),(25,[0]),(103,[0])]),(121,[(30,[0,1,2]),(121,[0,1,2]),(487,[0,1,2]),(1951,[0,1,2])]),(122,[(14,[0,1,2,7]),(57,[0,1,2,7]),(231,[0,1,2,7])]),(123,[(30,[0,1,2,7]),(121,[0,1,2,7]),(487,[0,1,2,7]),(1951,[0,1,2,7])]),(126,[(27,[0,1,2])]),(127,[(27,[0,1,2])]),(143,[(13,[1])]),(147,[(29,[5]),(58,[5,10,11,12]),(466,[5,10,11,12]),(934,[5,10,11,12])]),(149,[(29,[3])]),(151,[(29,[5])]),(152,[(29,[1,5]),(58,[1,5,13,14,15]),(123,[1]),(125,[1]),(250,[1,35,36,37]),(466,[1,5,13,14,15]),(934,[1,5,13,14,15]),(2002,[1,35,36,37]),(4006,[1,35,36,37]),(29899,[1,5,7,13,14,15]),(64103,[1,35,36,37])]),(154,[(14,[0,1]),(57,[0,1]),(231,[0,1]),(927,[0,1])]),(155,[(29,[2,7]),(123,[2,7])]),(156,[(27,[0,1,2]),(29,[0,1,2]),(125,[0,1,8]),(507,[0,1,8])]),(159,[(13,[]),(26,[5,6,7]),(210,[5,6,7]),(422,[5,6,7]),(3379,[5,6,7])]),(160,[(13,[])]),(161,[(29,[])]),(162,[(13,[0]),(59,[])]),(163,[(13,[0]),(29,[0]),(58,[0,10,11,12]),(61,[]),(122,[0,6]),(466,[0,10,11,12]),(934,[0,10,11,12]),(977,[0,6]),(978,[0,6]),(3913,[0,6]),(14951,[0,10,11,12])]),(166,[(27,[0,1,4]),(61,[4,7])]),(169,[(27,[0,1])]),(170,[(13,[0]),(61,[3]),(122,[3,11,12,13]),(978,[3,11,12,13]),(1958,[3,11,12,13])]),(171,[(13,[0]),(253,[0,7]),(509,[0]),(1018,[0,35,36,37]),(8146,[0,35,36,37]),(16294,[0,35,36,37]),(130355,[0,35,36,37])]),(172,[(27,[0,1,2]),(62,[0,1,2,8]),(249,[0,1,2,8]),(999,[0,1,2,8])]),(173,[(27,[0,1,2]),(29,[0,1,2]),(61,[0,1,2]),(125,[]),(250,[0,1,2,26,27,28]),(2002,[0,1,2,26,27,28]),(4006,[0,1,2,26,27,28])]),(174,[(29,[6])]),(175,[(27,[0,2])]),(176,[(29,[2,7]),(123,[2,7])]),(177,[(29,[0,6]),(125,[8])]),(178,[(29,[6])]),(200,[(13,[0,1])]),(201,[(61,[0,1,6]),(125,[0,1]),(253,[0,1]),(489,[]),(509,[])]),(202,[(13,[0,1]),(26,[0,1,5]),(29,[]),(209,[0,1,5]),(210,[0,1,5]),(841,[0,1,5])]),(204,[(27,[0,1]),(61,[9])]),(205,[(29,[6])]),(209,[(13,[0])]),(212,[(13,[]),(26,[0,1,7,8]),(210,[0,1,7,8]),(422,[0,1,7,8]),(3379,[0,1,7,8])]),(215,[(29,[0,1,5]),(61,[0,5]),(122,[0,1,5,6]),(977,[0,1,5,6]),(978,[0,1,5,6]),(7827,[0,1,5,6])]),(217,[(29,[5]),(58,[5,10,11,12]),(466,[5,10,11,12]),(934,[5,10,11,12]),(7475,[5,10,11,12])]),(220,[(29,[3]),(58,[3,8,9,10]),(466,[3,8,9,10]),(934,[3,8,9,10]),(7475,[3,8,9,10])]),(225,[(13,[]),(26,[6,7,8]),(210,[6,7,8]),(422,[6,7,8]),(6759,[6,7,8])]),(245,[(13,[2]),(26,[2]),(53,[])]),(246,[(7,[]),(14,[0,1,2,3,4,10,11]),(28,[0,1,2,3,4,10,11]),(453,[0,1,2,3,4,10,11,12]),(909,[0,1,2,3,4,10,11,12]),(1821,[0,1,2,3,4,10,11,12]),(7293,[0,1,2,3,4,10,11,12,13,14]),(14589,[0,1,2,3,4,10,11,12,13]),(29181,[0,1,2,3,4,12,13]),(58357,[0,1,2,3,4,10,11,12,13]),(466943,[0,1,2,3,4,10,11])]),(247,[(6,[0])]),(250,[(13,[]),(26,[0,1,7,8]),(210,[0,1,7,8]),(422,[0,1,7,8]),(3379,[0,1,7,8])]),(251,[(27,[])]),(252,[(27,[0])]),(253,[(13,[0,1,2,3]),(29,[0,1,2,3]),(61,[0,1,2,3]),(1022,[0,9,10]),(2044,[0,1,2,3,9,10]),(8177,[0,1,2,3,9,10]),(16353,[0,1,2,3,9,10]),(130837,[0,1,2,3,9,10,11])]),(259,[(3,[]),(6,[0,1,2,3,8]),(49,[0,1,2,3,8]),(50,[0,1,2,3,8]),(201,[0,1,2,3,8]),(402,[0,1,2,3,8,9]),(3217,[0,1,2,3,8,9]),(3218,[0,1,2,3,8,9])]),(260,[(61,[0,3,8,9,10]),(63,[]),(122,[0,3,8,9,10,11]),(126,[0,3,8,9,12]),(977,[0,3,8,9,10,11]),(978,[0,3,8,9,10,11]),(1009,[0,3,8,9,12]),(1010,[0,3,8,9,12])]),(261,[(7,[]),(119,[]),(238,[0,1,8,9,10,11]),(1905,[0,1,8,9,10,11]),(1906,[0,1,8,9,10,11]),(30501,[0,1,8,9,10,11,12])]),(262,[(509,[11,13]),(511,[]),(2045,[]),(4073,[0,3,11,12,13,14]),(8183,[])]),(263,[(7,[]),(14,[0,8,9]),(57,[0,8,9]),(113,[0,8,9])]),(264,[(29,[]),(58,[0,1,2,3,9,10]),(465,[0,1,2,3,9,10]),(466,[0,1,2,3,9,10]),(1864,[0,1,2,3,9,10]),(3728,[0,1,2,3,9,10]),(7461,[0,1,2,3,9,10]),(14913,[0,1,2,3,9,10]),(14925,[0,1,2,3,9,10]),(29825,[0,1,2,3,9,10]),(59709,[0,1,2,3,9,10]),(59711,[0,1,2,3,9,10]),(238837,[0,1,2,3,9,10]),(238845,[0,1,2,3,9,10]),(477674,[0,1,2,3,9,10,11]),(477690,[0,1,2,3,9,10,12]),(3821393,[0,1,2,3,9,10,11]),(3821394,[0,1,2,3,9,10,11]),(3821521,[0,1,2,3,9,10,12]),(3821522,[0,1,2,3,9,10,12]),(30571153,[0,1,2,3,9,10,11]),(30572177,[0,1,2,3,9,10,12])]),(265,[(30,[11]),(60,[0,1,4,11,12]),(120,[0,1,4,11,12]),(480,[0,1,4,11,12]),(960,[0,1,4,11,12]),(962,[0,1,4,11,12]),(1924,[0,1,4,11,12]),(3841,[0,1,4,11,12]),(3853,[0,1,4,11,12]),(7681,[0,1,4,11,12]),(7697,[0,1,4,11,12]),(15393,[0,1,4,11,12])]),(266,[(30,[0,1,4,12,13]),(60,[0,1,4,12,13]),(62,[0,1,4,12,13]),(124,[0,1,4,12,13]),(241,[0,1,4,12,13]),(253,[0,1,4,12,13]),(481,[0,1,4,12,13]),(497,[0,1,4,12,13]),(993,[0,1,4,12,13]),(2046,[0,1,13]),(4092,[0,1,4,12,13]),(8184,[0,1,4,12,13]),(32736,[0,1,4,12,13]),(65472,[0,1,4,12,13]),(65474,[0,1,4,12,13]),(130948,[0,1,4,12,13]),(261889,[0,1,4,12,13]),(261901,[0,1,4,12,13]),(523777,[0,1,4,12,13]),(523793,[0,1,4,12,13]),(1047585,[0,1,4,12,13])]),(267,[(13,[0,2]),(29,[0,2])]),(268,[(13,[0,2]),(29,[0,2]),(61,[0,2])]),(269,[(14,[0,1,5]),(57,[0,1,5]),(231,[0,1,5]),(927,[0,1,5]),(1022,[]),(2044,[0,1,5,6,7,8,9,10]),(3711,[0,1,5]),(8177,[0,1,5,6,7,8,9,10]),(16353,[0,1,5,6,7,8,9,10]),(65417,[0,1,5,6,7,8,9,10]),(130837,[0,1,5,6,7,8,9,10]),(523359,[0,1,5,6,7,8,9,10]),(1046677,[0,1,5,6,7,8,9,10,11]),(2093439,[0,1,5,6,7,8,9,10]),(8373749,[]),(33495029,[8,13])]),(270,[(29,[0,1]),(125,[0,1,6]),(250,[0,1,6,7]),(253,[6]),(2001,[0,1,6,7]),(2002,[0,1,6,7])]),(271,[(13,[0,1]),(29,[0,1]),(31,[]),(62,[0,1,5]),(124,[0,1,5]),(1989,[0,1,5,6])]),(274,[(3,[]),(6,[0,2,3,4,10]),(12,[0,2,3,4,10]),(197,[0,2,3,4,10,11]),(397,[0,2,3,4,10,11]),(797,[0,2,3,4,10,11])]),(282,[(125,[0,1,5,6,7,8]),(250,[0,1,5,6,7,8,9]),(253,[0,1,5,6,7,8]),(509,[]),(1018,[0,1,5,6,7,8,10]),(2001,[0,1,5,6,7,8,9]),(2002,[0,1,5,6,7,8,9]),(4073,[0,1,5,6,7,8,10]),(8145,[0,1,5,6,7,8,10]),(260703,[0,1,5,6,7,8,10])]),(283,[(13,[2]),(26,[2,4]),(210,[2,4]),(211,[2,4])]),(284,[(13,[2,3])]),(286,[(13,[1,2])]),(288,[(29,[0,4]),(58,[0,4,5]),(125,[4,6]),(250,[4,6,7,8]),(465,[0,4,5]),(466,[0,4,5]),(2001,[4,6,7,8]),(2002,[4,6,7,8]),(16017,[4,6,7,8])]),(289,[(29,[0,4]),(253,[0,4,5,6]),(2045,[0,5,8,9]),(8189,[0,5,8,10]),(16381,[0,5,8,10]),(65533,[0,5,8,10,11]),(131069,[0,5,10,11]),(524285,[5,10,11,12])]),(305,[(29,[7])]),(306,[(29,[5])]),(307,[(27,[0,3])]),(308,[(29,[7])]),(311,[(13,[])]),(315,[(13,[0]),(29,[])]),(317,[(14,[0,1,2]),(57,[0,1,2]),(231,[0,1,2]),(927,[0,1,2]),(3711,[0,1,2])]),(318,[(27,[0,1])]),(319,[(27,[0,3])]),(320,[(14,[0,1,2,7]),(57,[0,1,2,7]),(231,[0,1,2,7]),(927,[0,1,2,7]),(3711,[0,1,2,7])]),(321,[(29,[5]),(58,[0,1,5,11,12,13]),(466,[0,1,5,11,12,13]),(934,[0,1,5,11,12,13])])]
end Go.Proofs.YtgfbgfafajiehaaGreatDoor.A

