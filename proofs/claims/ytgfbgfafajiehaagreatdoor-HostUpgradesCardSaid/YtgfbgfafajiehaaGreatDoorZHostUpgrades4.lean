/- What the law HostUpgrades needs (part 4). -/
import Derived.Test.YtgfbgfafajiehaaGreatDoorZHostUpgrades3
import Derived.LaidLaws
import Derived.ChangeArms
import Derived.Maps.Own
import Derived.Sort.KeysCollected
import Derived.Lib.Bytealg
import Derived.Test.YtgfbgfafajiehaaGreatDoorProg
import Derived.WalkKit
import Derived.Maps.RangeWalk
import Derived.Deep.RegionWith
import Derived.Deep.Cut
import Derived.Laws.Cover1
import Derived.Sort.Walk0
import Derived.Sort.OwnSorted
import Derived.Shelf.SlGeneric
import Derived.Shelf.SlIter.Collect
import Derived.Shelf.SlSortCmp.Whole1
import Derived.Shelf.SlMaps.Clone
import Derived.Ground.GgzProg
import Derived.Ground.SlsfProg
import Derived.Ground.SlmcProg
import Derived.KernelRfl
set_option linter.unusedVariables false
set_option linter.unusedSimpArgs false
namespace Go.Proofs.YtgfbgfafajiehaaGreatDoor.A
open Go.Proofs Go.Proofs.YtgfbgfafajiehaaGreatDoor
def Ref {β:Type} (m m':M β):Prop:=∀ H x,m H=some x->m' H=some x
theorem Ref.rfl {β:Type} {m:M β}:Ref m m:=fun _ _ h=>h
theorem Ref.fail {β:Type} {m:M β}:Ref fail m:=fun _ _ h=>by cases h
theorem Ref.bind {α β:Type} {m m':M α} {k k':α->M β} (h:Ref m m') (hk:∀ v,Ref (k v) (k' v)):Ref (A.bind m k) (A.bind m' k'):=by
 intro H x e;obtain⟨v,H1,h1,h2⟩:=bind_some e;unfold A.bind;rw[h _ _ h1];exact hk v _ _ h2
theorem Ref.appM {β:Type} {m m':OpR} {k k':Value->M β} (h:(∃ v,m=.val v/\m'=.val v)\/∃ a b,m=.cmp a/\m'=.cmp b/\Ref a b) (hk:∀ v,Ref (k v) (k' v)):Ref (A.appM m k) (A.appM m' k'):=by
 rcases h with⟨v,rfl,rfl⟩|⟨a,b,rfl,rfl,h⟩
 .exact hk v
 .exact h.bind hk
theorem Ref.cnd {β:Type} {g:Value} {a a' b b':M β} (ha:Ref a a') (hb:Ref b b'):Ref (A.cnd g a b) (A.cnd g a' b'):=by
 unfold A.cnd;split
 .cases ‹Bool›
  .exact hb
  .exact ha
 .exact .rfl
theorem Ref.cond {β:Type} {g:Bool} {a a' b b':M β} (ha:Ref a a') (hb:Ref b b'):Ref (bif g then a else b) (bif g then a' else b'):=by
 cases g
 .exact hb
 .exact ha
theorem Ref.jn {β:Type} {m m':M Out} {kn kn':List Value->M β} {kx kx':Nat->List Value->M β} {kr kr':Value->M β} (h:Ref m m') (hn:∀ vs,Ref (kn vs) (kn' vs)) (hx:∀ j vs,Ref (kx j vs) (kx' j vs)) (hr:∀ v,Ref (kr v) (kr' v)):Ref (A.jn m kn kx kr) (A.jn m' kn' kx' kr'):=by
 refine h.bind fun o=>?_;cases o with
 | nrm vs=>exact hn vs
 | ext j vs=>exact hx j vs
 | ret v=>exact hr v
theorem Ref.gate {g:Value} {w:Bool} {n:Nat} {m m':M (List Value)} (h:Ref m m'):Ref (A.gate g w n m) (A.gate g w n m'):=by
 unfold A.gate;split
 .exact h.cond .rfl
 .exact .rfl
 .exact .rfl
theorem Ref.gateV {g:Value} {w:Bool} {m m':M Value} (h:Ref m m'):Ref (A.gateV g w m) (A.gateV g w m'):=by
 unfold A.gateV;split
 .exact h.cond .rfl
 .exact .rfl
 .exact .rfl
theorem Ref.iter {b b':List Value->M Out} (h:∀ vs,Ref (b vs) (b' vs)) (K:Nat) (vs:List Value):Ref (Ww b K vs) (Zi b' vs):=by
 have hi:∀ (K:Nat) vs,Ref (Ww b K vs) (Ww b' K vs):=by
  intro K
  induction K with
  | zero=>exact fun _=>.rfl
  | succ K ih=>
   intro vs H x e;simp only[Ww] at e ⊢;cases e1:b vs H with
   | none=>rw[e1] at e;cases e
   | some p=>
    rw[e1] at e;rw[h vs _ _ e1];obtain⟨o,H1⟩:=p;cases o with
    | nrm vs'=>exact ih vs' _ _ e
    | ext j vs'=>exact e
    | ret v=>exact e
 exact fun H x e=>ZiD.2 ⟨K,hi K vs _ _ e⟩
def ZvD (f:Value->Value->Bool):List Value->List Value->Bool
 | [],[]=>true
 | a :: zs,b :: bs=>f a b && ZvD f zs bs
 | _,_=>false
theorem Ztg {f:Value->Value->Bool} (hf:∀ a b,f a b=true->a=b):∀ {zs bs:List Value},ZvD f zs bs=true->zs=bs
 | [],[],_=>rfl
 | a :: zs,b :: bs,h=>by
  simp only[ZvD,Bool.and_eq_true] at h;rw[hf _ _ h.1,Ztg hf h.2]
 | [],_ :: _,h=>by cases h
 | _ :: _,[],h=>by cases h
def ZFb (f:Value->Value->Bool) (x y:Value):Bool:=
 match x,y with
 | .agg a,.agg b=>ZvD f a.toList b.toList
 | .tuple a,.tuple b=>ZvD f a.toList b.toList
 | .iface t a,.iface u b=>Nat.beq t u && f a b
 | .int k a,.int l b=>decide (k=l) && decide (a=b)
 | .bool a,.bool b=>a==b
 | .string a,.string b=>decide (a=b)
 | .pointer a,.pointer b=>decide (a=b)
 | .slice a l c,.slice b m d=>decide (a=b) && (Nat.beq l m && Nat.beq c d)
 | .map a,.map b=>decide (a=b)
 | .nilFunc,.nilFunc=>true
 | .nilIface,.nilIface=>true
 | _,_=>false
def eqW:Nat->Value->Value->Bool
 | 0=>fun _ _=>false
 | n+1=>ZFb (eqW n)
theorem Zq2:∀ (n:Nat) (a b:Value),eqW n a b=true->a=b
 | 0,_,_,h=>by simp[eqW] at h
 | n+1,a,b,h=>by
  simp only[eqW] at h;unfold ZFb at h;split at h
  .rw[Array.ext' (Ztg (Zq2 n) h)]
  .rw[Array.ext' (Ztg (Zq2 n) h)]
  .simp only[Bool.and_eq_true] at h;rw[Nat.eq_of_beq_eq_true h.1,Zq2 n _ _ h.2]
  .simp only[Bool.and_eq_true,decide_eq_true_eq] at h;rw[h.1,h.2]
  .rw[beq_iff_eq.1 h]
  .rw[of_decide_eq_true h]
  .rw[of_decide_eq_true h]
  .simp only[Bool.and_eq_true,decide_eq_true_eq] at h;rw[h.1,Nat.eq_of_beq_eq_true h.2.1,Nat.eq_of_beq_eq_true h.2.2]
  .rw[of_decide_eq_true h]
  .rfl
  .rfl
  .cases h
def Zzn {β:Type} (u v:Value) (m:M β):M β:=bif eqW 9 u v then m else fail
theorem ZAP {β:Type} {u v:Value} {m m':M β} (h:Ref m m'):Ref (Zzn u v m) (same u v m'):=by
 intro H x e;unfold Zzn at e;cases hq:eqW 9 u v with
 | false=>rw[hq] at e;cases e
 | true=>
  rw[hq] at e;unfold same;rw[if_pos (Zq2 9 _ _ hq)];exact h _ _ e
def ZvI {β:Type}:List (Nat × M Value × Value)->M β->M β
 | [],m=>m
 | q :: qs,m=>bind q.2.1 fun u=>Zzn u q.2.2 (ZvI qs m)
def Zmj:List (Nat × M Value × Value)->List (Nat × M Value × Value)->Prop
 | [],[]=>True
 | a :: zs,b :: bs=>a.1=b.1/\Ref a.2.1 b.2.1/\a.2.2=b.2.2/\Zmj zs bs
 | _,_=>False
theorem ZqO {β:Type} {m m':M β} (h:Ref m m'):∀ {qs qs':List (Nat × M Value × Value)},Zmj qs qs'->Ref (ZvI qs m) (ZqH qs' m')
 | [],[],_=>h
 | a :: zs,b :: bs,hq=>by
  refine hq.2.1.bind fun u=>?_;rw[hq.2.2.1];exact ZAP (ZqO h hq.2.2.2)
 | [],_ :: _,hq=>hq.elim
 | _ :: _,[],hq=>hq.elim
theorem Zmj.filter (p:Nat->Bool):∀ {qs qs':List (Nat × M Value × Value)},Zmj qs qs'->Zmj (qs.filter fun q=>p q.1) (qs'.filter fun q=>p q.1)
 | [],[],_=>trivial
 | a :: zs,b :: bs,hq=>by
  obtain⟨h1,h2,h3,h4⟩:=hq;simp only[List.filter_cons,h1];cases p b.1
  .exact Zmj.filter p h4
  .exact⟨h1,h2,h3,Zmj.filter p h4⟩
 | [],_ :: _,hq=>hq.elim
 | _ :: _,[],hq=>hq.elim
section
variable (P:Program) (Γ Γ':Zc)
def ZrD (m m':OpR):Prop:=(∃ v,m=.val v/\m'=.val v)\/∃ a b,m=.cmp a/\m'=.cmp b/\Ref a b
theorem ZrD.rfl {m:OpR}:ZrD m m:=by
 cases m with
 | val v=>exact .inl ⟨v,Eq.refl _,Eq.refl _⟩
 | cmp a=>exact .inr ⟨a,a,Eq.refl _,Eq.refl _,.rfl⟩
variable {P Γ Γ'}
theorem Zz3 (h:∀ g zs,Ref (Γ g zs) (Γ' g zs)) (f:Value) (zs:List Value):Ref (Qn Γ f zs) (Qn Γ' f zs):=by
 unfold Qn;split
 .exact(h _ _).cond .rfl
 .exact h _ _
 .exact .rfl
theorem ZA7 (h:∀ g zs,Ref (Γ g zs) (Γ' g zs)) (v:Value) (nm:String) (zs:List Value):Ref (Zbl P Γ v nm zs) (Zbl P Γ' v nm zs):=by
 unfold Zbl;split
 .split
  .exact h _ _
  .exact .rfl
 .exact .rfl
theorem Znz (h:∀ g zs,Ref (Γ g zs) (Γ' g zs)) (ev:Operand->Value) (o:Op):ZrD (opM P Γ ev o) (opM P Γ' ev o):=by
 cases o with
 | call c=>
  simp only[opM];unfold ZdM;split
  .exact .inr ⟨_,_,Eq.refl _,Eq.refl _,Zz3 h _ _⟩
  .exact .inr ⟨_,_,Eq.refl _,Eq.refl _,ZA7 h _ _ _⟩
  all_goals exact .rfl
 | _=>exact .rfl
theorem ZxY (h:∀ g zs,Ref (Γ g zs) (Γ' g zs)) (all:List Oper) (f:Nat->Value) (o:Oper):ZrD (opG P Γ all f o) (opG P Γ' all f o):=by
 unfold opG;split
 .exact Znz h _ _
 .split
  .refine .inr ⟨_,_,Eq.refl _,Eq.refl _,.gateV ?_⟩;rcases Znz (P:=P) h (evF f) o.op with⟨v,h1,h2⟩|⟨a,b,h1,h2,h3⟩
   .rw[h1,h2];exact .rfl
   .rw[h1,h2];exact h3
  .exact .rfl
theorem ZDK {m m':OpR} (h:ZrD m m'):Ref (toM m) (toM m'):=by
 rcases h with⟨v,h1,h2⟩|⟨a,b,h1,h2,h3⟩
 .rw[h1,h2];exact .rfl
 .rw[h1,h2];exact h3
theorem ZtA {β:Type} (h:∀ g zs,Ref (Γ g zs) (Γ' g zs)) {k k':ZN->M β} (hk:∀ r,Ref (k r) (k' r)):∀ (os:List Oper) (r:ZN),Ref (ZnB P Γ os r k) (ZnB P Γ' os r k')
 | [],r=>hk r
 | o :: os,r=>Ref.appM (Znz h _ _) fun v=>ZtA h hk os _
theorem Zme {β:Type} (h:∀ g zs,Ref (Γ g zs) (Γ' g zs)) (all:List Oper) {k k':ZN->M β} (hk:∀ r,Ref (k r) (k' r)):∀ (n:Nat) (os:List Oper) (r:ZN),Ref (ZfR P Γ all n os r k) (ZfR P Γ' all n os r k')
 | 0,_,_=>.rfl
 | _+1,[],r=>hk r
 | n+1,o :: os,r=>by
  simp only[ZfR];split
  .exact Ref.appM (Znz h _ _) fun v=>Zme h all hk n os _
  .split
   .exact .rfl
   .exact Ref.bind (.gate (ZtA h (fun r=>.rfl) _ _)) fun vs=>Zme h all hk n _ _
variable (P Γ) in
def ZsU {β:Type} (an:List (List Nat)) (all:List Oper):List (Nat × Oper)->Zc6->ZN->(ZN->M β)->M β
 | [],_,r,k=>k r
 | p :: l,rs,r,k=>
  appM (opG P Γ all (Qu r) p.2) fun v=>
   match cls P p.2.op with
   | 0=>ZsU an all l rs (ZbQ r p.2.dst v) k
   | 1=>ZsU an all l ((p.1,toM (opG P Γ all (Qu r) p.2),v) :: rs) (ZbQ r p.2.dst v) k
   | _=>ZvI (rs.filter fun q=>!(memN (an.getD p.1 []) q.1)) (ZsU an all l rs (ZbQ r p.2.dst v) k)
theorem ZhZ {β:Type} (h:∀ g zs,Ref (Γ g zs) (Γ' g zs)) (an:List (List Nat)) (all:List Oper) {k k':ZN->M β} (hk:∀ r,Ref (k r) (k' r)) :
  ∀ (l:List (Nat × Oper)) {rs rs':Zc6} (r:ZN),Zmj rs rs'->Ref (ZsU P Γ an all l rs r k) (exD P Γ' an all l rs' r k')
 | [],_,_,r,_=>hk r
 | p :: l,rs,rs',r,hq=>by
  refine Ref.appM (ZxY h _ _ _) fun v=>?_;generalize cls P p.2.op=c
  match c with
  | 0=>exact ZhZ h an all hk l _ hq
  | 1=>exact ZhZ h an all hk l _ ⟨Eq.refl _,ZDK (ZxY h _ _ _),Eq.refl _,hq⟩
  | c+2=>exact ZqO (ZhZ h an all hk l _ hq) (hq.filter fun i=>!(memN (an.getD p.1 []) i))
variable (P Γ) in
def ZvO {β:Type} (ops:List Oper) (draw:Bool) (r:ZN) (k:ZN->M β):M β:=
 bif draw then
  let cl:=ops.map fun o=>cls P o.op
  let an:=ZjX ops
  let ord:=Zjs cl an ops.length ops.length []
  bif Zgf none ops cl an ord then ZsU P Γ an ops (W1 ops ord) [] r k else
   match ZqV ops with
   | none=>fail
   | some f=>
    let ord:=ZjQ cl an f ops.length ops.length []
    bif Zgf (some f) ops cl an ord then ZsU P Γ an ops (W1 ops ord) [] r k else fail
 else ZfR P Γ ops (ops.length+1) ops r k
theorem Zzc {β:Type} (h:∀ g zs,Ref (Γ g zs) (Γ' g zs)) (ops:List Oper) (draw:Bool) {k k':ZN->M β} (hk:∀ r,Ref (k r) (k' r)) (r:ZN):Ref (ZvO P Γ ops draw r k) (Zr0 P Γ' ops draw r k'):=by
 unfold ZvO Zr0;refine Ref.cond ?_ (Zme h _ hk _ _ _);refine Ref.cond (ZhZ h _ _ hk _ _ trivial) ?_;cases ZqV ops with
 | none=>exact .rfl
 | some f=>exact Ref.cond (ZhZ h _ _ hk _ _ trivial) .rfl
theorem ZkX {β:Type} {k k':List Value->M β} (r:ZN):∀ (l:List ResultVar),(∀ vs,Ref (k vs) (k' vs))->Ref (Zh0 P r l k) (Zh0 P r l k')
 | [],hk=>hk []
 | .tmp t :: l,hk=>ZkX r l fun vs=>hk _
 | .cell a t :: l,hk=>by
  simp only[Zh0];split
  .exact Ref.bind .rfl fun v=>ZkX r l fun vs=>hk _
  .exact Ref.bind .rfl fun v=>ZkX r l fun vs=>hk _
  .exact .rfl
theorem Zu1 {β:Type} {fn:Func} {r:ZN} {kr kr':Value->M β} (hk:∀ v,Ref (kr v) (kr' v)):Ref (Zjb P fn r kr) (Zjb P fn r kr'):=by
 refine ZkX r _ fun vs=>?_;split
 .exact hk _
 .exact hk _
theorem Zij {β:Type} {c:Code} {kx kx':Nat->ZN->M β} (hk:∀ j r,Ref (kx j r) (kx' j r)):∀ (X:List (Nat × List Nat)) (j:Nat) (vs:List Value),Ref (Zd3 c X kx j vs) (Zd3 c X kx' j vs)
 | [],_,_=>.rfl
 | p :: X,j,vs=>by
  simp only[Zd3];cases KT.xto p.1 c with
  | false=>exact Zij hk X j vs
  | true=>exact Ref.cond (hk _ _) (Zij hk X j vs)
theorem Zpm {β:Type} {c:Code} {kx kx':Nat->ZN->M β} (hk:∀ j r,Ref (kx j r) (kx' j r)):∀ (X:List (Nat × List Nat)) (j:Nat) (r:ZN),Ref (ZkI c X kx j r) (ZkI c X kx' j r)
 | [],_,_=>.rfl
 | p :: X,j,r=>by
  simp only[ZkI];cases KT.xto p.1 c with
  | false=>exact Zpm hk X j r
  | true=>exact Ref.cond (hk _ _) (Zpm hk X j r)
theorem ZvA {β:Type} {L:Nat} {k k':Option Code->M β} (hk:∀ c,Ref (k c) (k' c)):Ref (ZfM L k) (ZfM L k'):=by
 intro H x e;unfold ZfM at e ⊢;split at e
 .split at e
  .cases e
  .exact hk _ _ _ e
 .cases e
theorem ZzF {β:Type} (h:∀ g zs,Ref (Γ g zs) (Γ' g zs)) {ok:FuncId->Bool} {v:Value} {fn:Func} {lv:List (Nat × List Nat)} {p:Nat} {xs:List Nat} {cd:Array Tmp × Code × Code} {regs:ZN} {k k':Option Code->M β} (hk:∀ c,Ref (k c) (k' c)) :
  Ref (ZeN ok Γ v fn lv p xs cd regs k) (ZeN ok Γ' v fn lv p xs cd regs k'):=by
 unfold ZeN;split
 .refine Ref.cond ?_ .rfl;intro H x e;simp only at e ⊢;split at e
  .rename_i u H1 e1;rw[h _ _ _ _ e1];exact ZvA hk _ _ e
  .cases e
 .exact .rfl
theorem ZCx {β:Type} {L:Nat} {m m':M β} (h:Ref m m'):Ref (ZpW L m) (ZpW L m'):=by
 intro H x e;unfold ZpW at e ⊢;split at e
 .exact h _ _ e
 .cases e
variable (P Γ) in
def Ec (K:Nat) (rnd:Bool) (fn:Func) (lv:List (Nat × List Nat)):Code->∀ {β:Type},Nat->List (Nat × List Nat)->ZN->(ZN->M β)->(Nat->ZN->M β)->(Value->M β)->M β
 | .skip,_,_,_,r,kn,_,_=>kn r
 | .region _ ops draw,_,_,_,r,kn,_,_=>
  bif ZiS P fn.ntmps ops.toList && ZfE ops.toList then ZvO P Γ ops.toList draw r kn else fail
 | .seq a b,_,p,X,r,kn,kx,kr=>Ec K rnd fn lv a (2 * p) X r (fun r'=>Ec K rnd fn lv b (2 * p+1) X r' kn kx kr) kx kr
 | .cond c t e,_,p,X,r,kn,kx,kr=>
  bif !Wt P c then fail else bif KT t && KT e then
   jn (cnd (ev r c) (Ec K rnd fn lv t (2 * p) X r (fun r'=>ret (.nrm (proj (lkX lv p) r'))) (fun j r'=>ret (.ext j (proj (lkX X j) r'))) (fun v=>ret (.ret v)))
     (Ec K rnd fn lv e (2 * p+1) X r (fun r'=>ret (.nrm (proj (lkX lv p) r'))) (fun j r'=>ret (.ext j (proj (lkX X j) r'))) (fun v=>ret (.ret v))))
    (fun vs=>kn (mk (lkX lv p) vs)) (Zd3 (.cond c t e) X kx) kr
  else cnd (ev r c) (Ec K rnd fn lv t (2 * p) X r kn kx kr) (Ec K rnd fn lv e (2 * p+1) X r kn kx kr)
 | .block id c,_,p,X,r,kn,kx,kr=>
  bif Nat.ble (Zex id c+(bif KT c then 1 else 0)) 1 then
   Ec K rnd fn lv c (2 * p) ((id,lkX lv p) :: X) r kn (fun j r'=>bif Nat.beq j id then kn r' else kx j r') kr
  else
   jn (Ec K rnd fn lv c (2 * p) ((id,lkX lv p) :: X) r (fun r'=>ret (.nrm (proj (lkX lv p) r'))) (fun j r'=>bif Nat.beq j id then ret (.nrm (proj (lkX lv p) r')) else ret (.ext j (proj (lkX X j) r'))) (fun v=>ret (.ret v)))
    (fun vs=>kn (mk (lkX lv p) vs)) (Zd3 (.block id c) X kx) kr
 | .loop c,_,p,X,r,_,kx,kr=>
  jn (Ww (fun vs=>Ec K rnd fn lv c (2 * p) X (mk (lkX lv p) vs) (fun r'=>ret (.nrm (proj (lkX lv p) r'))) (fun j r'=>ret (.ext j (proj (lkX X j) r'))) (fun v=>ret (.ret v))) K (proj (lkX lv p) r))
   (fun _=>fail) (Zd3 (.loop c) X kx) kr
 | .exit id,_,_,_,r,_,kx,_=>kx id r
 | .rangeFunc g ps asg bd,_,p,X,r,kn,kx,kr=>
  bif rnd || !Wt P g then fail else
   ZeN (Zrg P) Γ (ev r g) fn lv p (X.map fun q=>q.1) (ps,asg,bd) (mk (lkX lv p) (proj (lkX lv p) r)) fun pd=>match pd with
    | none=>kn r
    | some (.exit j)=>ZkI bd X kx j r
    | some .ret=>Zjb P fn r kr
    | _=>fail
 | .ret,_,_,_,r,_,_,kr=>bif rnd then kr undef else Zjb P fn r kr
 | _,_,_,_,_,_,_,_=>fail
theorem Zv9 (h:∀ g zs,Ref (Γ g zs) (Γ' g zs)) (K:Nat) (rnd:Bool) (fn:Func) (lv:List (Nat × List Nat)):∀ (c:Code) {β:Type} (p:Nat) (X:List (Nat × List Nat)) (r:ZN) {kn kn':ZN->M β} {kx kx':Nat->ZN->M β} {kr kr':Value->M β},
  (∀ r,Ref (kn r) (kn' r))->(∀ j r,Ref (kx j r) (kx' j r))->(∀ v,Ref (kr v) (kr' v))->Ref (Ec P Γ K rnd fn lv c p X r kn kx kr) (E P Γ' rnd fn lv c p X r kn' kx' kr'):=by
 intro c
 induction c with
 | skip=>intro β p X r kn kn' kx kx' kr kr' hn hx hr;exact hn r
 | region id ops draw=>
  intro β p X r kn kn' kx kx' kr kr' hn hx hr;simp only[Ec,E];exact Ref.cond (Zzc h _ _ hn _) .rfl
 | seq a b iha ihb=>
  intro β p X r kn kn' kx kx' kr kr' hn hx hr;simp only[Ec,E];exact iha _ _ _ (fun r'=>ihb _ _ _ hn hx hr) hx hr
 | cond c t e iht ihe=>
  intro β p X r kn kn' kx kx' kr kr' hn hx hr;simp only[Ec,E];refine Ref.cond .rfl (Ref.cond (Ref.jn (Ref.cnd ?_ ?_) (fun vs=>hn _) (Zij hx X) hr) (Ref.cnd (iht _ _ _ hn hx hr) (ihe _ _ _ hn hx hr)))
  .exact iht _ _ _ (fun _=>.rfl) (fun _ _=>.rfl) (fun _=>.rfl)
  .exact ihe _ _ _ (fun _=>.rfl) (fun _ _=>.rfl) (fun _=>.rfl)
 | block id c ih=>
  intro β p X r kn kn' kx kx' kr kr' hn hx hr;simp only[Ec,E];refine Ref.cond (ih _ _ _ hn (fun j r'=>Ref.cond (hn _) (hx _ _)) hr) (Ref.jn (ih _ _ _ (fun _=>.rfl) (fun _ _=>.rfl) (fun _=>.rfl)) (fun vs=>hn _) (Zij hx X) hr)
 | loop c ih=>
  intro β p X r kn kn' kx kx' kr kr' hn hx hr;simp only[Ec,E];exact Ref.jn (Ref.iter (fun vs=>ih _ _ _ (fun _=>.rfl) (fun _ _=>.rfl) (fun _=>.rfl)) _ _) (fun _=>.rfl) (Zij hx X) hr
 | exit id=>intro β p X r kn kn' kx kx' kr kr' hn hx hr;exact hx id r
 | rangeFunc g ps asg bd iha ihb=>
  intro β p X r kn kn' kx kx' kr kr' hn hx hr;simp only[Ec,E];refine Ref.cond .rfl (ZzF h fun pd=>?_);cases pd with
  | none=>exact hn r
  | some c=>cases c with
   | exit j=>exact Zpm hx X _ _
   | ret=>exact Zu1 hr
   | _=>exact .rfl
 | ret=>
  intro β p X r kn kn' kx kx' kr kr' hn hx hr;simp only[Ec,E];exact Ref.cond (hr _) (Zu1 hr)
 | _=>intro β p X r kn kn' kx kx' kr kr' hn hx hr;simp only[Ec];exact .fail
end
def Zne (P:Program) (prim:FuncId->Option (List Value->M Value)) (lvs:FuncId->List (Nat × List Nat)) (K:Nat):Nat->Zc
 | 0=>fun _ _=>fail
 | n+1=>fun g args=>bif Nat.blt g Kn then
   (match prim g with
   | some m=>m args
   | none=>match P.funcs[g]? with
    | some fn=>bif Zc0 fn then(match fn.body with
     | some c=>bif Nat.ble args.length fn.ntmps then Ec P (Zne P prim lvs K n) K false fn (lvs g) c 1 [] (ZdK 0 args) (fun r=>Zjb P fn r ret) (fun _ _=>fail) ret else fail
     | none=>fail) else fail
    | none=>fail)
  else fun H=>match H[g - Kn]? with
   | some (.loop fn lv p xs cd regs .ready _)=>
    (bif Nat.beq args.length cd.1.size && cd.1.toList.all (fun t=>Nat.blt t fn.ntmps) then
     Ec P (Zne P prim lvs K n) K true fn lv cd.2.1 (2 * p) (xs.map fun i=>(i,[])) (ZzG cd.1.toList args regs)
      (fun r=>ZpW (g - Kn) (Ec P (Zne P prim lvs K n) K true fn lv cd.2.2 (2 * p+1) (xs.map fun i=>(i,[])) r (fun _=>Ze7 (g - Kn) none) (fun j _=>Ze7 (g - Kn) (some (.exit j))) (fun _=>Ze7 (g - Kn) (some .ret))))
      (fun _ _=>fail) (fun _=>fail)
    else fail) H
   | _=>none
def ZFo (p p':FuncId->Option (List Value->M Value)):Prop:=∀ g,(p g=none/\p' g=none)\/∃ a b,p g=some a/\p' g=some b/\∀ zs,Ref (a zs) (b zs)
theorem Zie {P:Program} {prim prim':FuncId->Option (List Value->M Value)} (hp:ZFo prim prim') {lvs:FuncId->List (Nat × List Nat)} (K:Nat):∀ (n:Nat) (g:FuncId) (zs:List Value),Ref (Zne P prim lvs K n g zs) (run P prim' lvs n g zs)
 | 0,_,_=>.fail
 | n+1,g,zs=>by
  simp only[Zne,run];refine Ref.cond ?_ ?_
  .rcases hp g with⟨h1,h2⟩|⟨a,b,h1,h2,h3⟩
   .rw[h1,h2];cases P.funcs[g]? with
    | none=>exact .rfl
    | some fn=>
     refine Ref.cond ?_ .rfl;unfold Zs;cases fn.body with
     | some c=>exact Ref.cond (Zv9 (Zie hp K n) _ _ _ _ _ _ _ _ (fun _=>.rfl) (fun _ _=>.rfl) (fun _=>.rfl)) .rfl
     | none=>exact .rfl
   .rw[h1,h2];exact h3 zs
  .intro H x e;unfold Zrl;simp only at e ⊢;split at e
   .rename_i h1;rw[h1];refine Ref.cond ?_ .rfl _ _ e;exact Zv9 (Zie hp K n) _ _ _ _ _ _ _ _ (fun r=>ZCx (Zv9 (Zie hp K n) _ _ _ _ _ _ _ _ (fun _=>.rfl) (fun _ _=>.rfl) (fun _=>.rfl))) (fun _ _=>.rfl) (fun _=>.rfl)
   .cases e
def Zju (gl:List Ze):Prop:=∀ (g:Nat) o,gl[g]?=some o->o=.dead\/∃ cs es gr,o=.cells cs es gr true/\∀ v∈cs,Qi v=true
theorem RVs.plain {ι ι':Nat->Option Loc}:∀ {cs cs':List Value},(∀ v∈cs,Qi v=true)->RVs ι cs cs'->RVs ι' cs cs'
 | [],cs',_,h=>by have:=h.nil_inv;subst this;exact .nil
 | v :: cs,cs',hs,h=>by
  obtain⟨p,r,rfl,hp,hr⟩:=h.cons_inv;rw[hp.scalar_inv (hs v (by simp))];exact .cons (.sc (hs v (by simp))) (RVs.plain (fun u hu=>hs u (by simp[hu])) hr)
theorem ZtG {G:Nat} {w0:ZY} {ι:Nat->Option Loc} {H:Zd} {w:World} (hS:Sim G w0 ι H w) {gl:List Ze} (hg:gl.length=G) (hp:Zju gl) (hH:H.take G=gl):Sim G (b0 w) (fun g=>if g < G then ι g else none) gl w:=by
 have hget:∀ (i:Nat) o,gl[i]?=some o->H[i]?=some o/\i < G:=by
  intro i o h;have hi:i < G:=by rw[<- hg];exact(List.getElem?_eq_some_iff.1 h).1
  rw[<- hH,List.getElem?_take,if_pos hi] at h;exact⟨h,hi⟩
 refine⟨fun i o h=>?_,fun i j o1 o2 l1 l2 h1 _ w1=>?_,Nat.le_refl _,fun _ _=>rfl,fun i l h=>?_,fun g hgG=>?_,⟨rfl,rfl,rfl⟩,fun b hb=>(by cases hb),fun j cs es nx l hj _=>?_⟩
 .obtain⟨h1,hi⟩:=hget i o h;rcases hp i o h with rfl|⟨cs,es,gr,rfl,hs⟩
  .trivial
  .have hO:=hS.obj i _ h1;have hb:=hO.old (w0:=w0) (by simp) (by simp[Ze.wr]) rfl;obtain⟨l,c,el,fr,k1,k2,k3,k4,k5,k6,k7,k8,k9,k10⟩:=hO;have hlt:l.blk < w.heap.size:=by
    rcases Nat.lt_or_ge l.blk w.heap.size with h|h
    .exact h
    .rw[Array.getElem?_eq_none h] at k4;cases k4
   exact⟨l,c,el,fr,by simp[hi,k1],k2,k3,k4,k5,k6,k7.plain hs,(fun h=>nomatch h),(fun _=>hlt),k10⟩
 .rcases hp i o1 h1 with rfl|⟨cs,es,gr,rfl,_⟩<;>simp[Ze.wr] at w1
 .split at h
  .rw[hg];assumption
  .cases h
 .obtain⟨l,h1,h2⟩:=hS.glob g hgG;exact⟨l,by simp[hgG,h1],h2⟩
 .rcases hp j _ hj with h|⟨_,_,_,h,_⟩<;>cases h
theorem Sim.grow {G:Nat} {w0:ZY} {ι ι1:Nat->Option Loc} {H H1:Zd} {w w':World} (hS:Sim G w0 ι H w) (h:Sim G (b0 w) ι1 H1 w'):Sim G w0 ι H w':=by
 have hk:∀ b,b < w.heap.size->w'.heap[b]?=w.heap[b]?:=h.old;have hlt:∀ {b:Nat} {o:Obj},w.heap[b]?=some o->b < w.heap.size:=fun {b o} e=>by
  rcases Nat.lt_or_ge b w.heap.size with h|h
  .exact h
  .rw[Array.getElem?_eq_none h] at e;cases e
 refine⟨fun id o ho=>?_,hS.inj,Nat.le_trans hS.size h.size,fun b hb=>?_,hS.dom,hS.glob,?_,fun b hb=>?_,fun j cs es nx l hj hl=>?_⟩
 .refine(hS.obj id o ho).blk fun l hl hne=>?_;obtain⟨l',h1,h2⟩:=(hS.obj id o ho).loc hne;rw[hl] at h1;cases h1;exact hk _ h2
 .rw[hk b (Nat.lt_of_lt_of_le hb hS.size)];exact hS.old b hb
 .obtain⟨a1,a2,a3⟩:=h.rest;obtain⟨b1,b2,b3⟩:=hS.rest;exact⟨a1.trans b1,a2.trans b2,a3.trans b3⟩
 .obtain⟨a1,a2,a3⟩:=hS.prot b hb;exact⟨by rw[hk b.1 (hlt a1)];exact a1,a2,a3⟩
 .exact(hS.views j cs es nx l hj hl).to (.refl ι) fun h1 ⟨c,el,fr,hc⟩=>⟨fun c el fr hc'=>⟨fr,by rw[hk _ (hlt hc)];exact hc'⟩,h1⟩
open Classical in
noncomputable def Zif (gl:List Ze) (v:Value) (args:List Value):M Value:=fun H=>
 if args=[]/\H.take gl.length=gl then some (v,H) else none
theorem Zw1 {P:Program} (hm:P.follows .mixedOrders=true) {prim:FuncId->Option (List Value->M Value)} {lvs:FuncId->List (Nat × List Nat)} (hprim:∀ (b:ZY) g m,prim g=some m->Zaw P P.globals.size b g m)
  {gl:List Ze} (hgl:gl.length=P.globals.size) (hpl:Zju gl) {g:FuncId} (hgy:g < Kn) (hbody:∀ fn,P.funcs[g]?=some fn->fn.body.isNone=false) {v:Value} (hv:Qi v=true) {n:Nat} (hrun:∃ H1,run P prim lvs n g [] gl=some (v,H1)) (w0:ZY):Zaw P P.globals.size w0 g (Zif gl v):=by
 intro args H v' H1 h;unfold Zif at h;split at h
 .rename_i hc;obtain⟨rfl,hH⟩:=hc;cases h;obtain⟨H2,hrun⟩:=hrun
  left
  have hcal:Zbc P g:=by
   rcases ZbY hm hprim n (b0 default) g _ _ _ _ hrun with⟨_,⟨hc,_⟩|⟨e,⟨fn,h1,_,h2,_⟩,_⟩⟩|⟨hno,_⟩
   .exact hc
   .rw[hbody fn h1] at h2;cases h2
   .exact absurd hgy (Nat.not_lt_of_le hno)
  refine⟨hcal,fun ι w args' hS hrv=>?_⟩;have:=hrv.nil_inv;subst this;rcases ZbY hm hprim n (b0 w) g _ _ _ _ hrun with⟨_,⟨_,hc⟩|⟨e,⟨fn,h1,_,h2,_⟩,_⟩⟩|⟨hno,_⟩
  .refine(hc _ w [] (ZtG hS hgl hpl (by rw[<- hgl];exact hH)) .nil).mono fun e w' ⟨ι1,u,hle,he,hu,hs⟩=>?_;have:=hu.scalar_inv hv;subst this;exact⟨ι,_,.refl ι,he,.sc hv,hS.grow hs⟩
  .rw[hbody fn h1] at h2;cases h2
  .exact absurd hgy (Nat.not_lt_of_le hno)
 .cases h
theorem ZqC {P:Program} {w:World} {n:String} {d:DataW Unit}:∀ {l:List (String × DataW Unit)} {ps:List MemPlace},DataW.LaidVars P w l ps->(n,d)∈l->
  ∃ g t cs fuel p,P.globalNamed n=some g/\(P.globals[g]?).map (·.type)=some t/\w.var? P n=some cs/\DataW.trod (fun _=>()) P w 0 (fun _=>true) false fuel t cs.toList=some (d,p)
 | [],_,_,hm=>by cases hm
 | (n',d') :: r,ps,h,hm=>by
  obtain⟨g,t,cs,fuel,p,q,h1,h2,h3,h4,h5,_⟩:=h;rcases List.mem_cons.1 hm with e|e
  .cases e;exact⟨g,t,cs,fuel,p,h1,h2,h3,h4⟩
  .exact ZqC h5 e
theorem ZuZ {α β:Type} {f:α->Option β}:∀ {l:List α} {r:List β},l.mapM f=some r->r.length=l.length/\∀ (i:Nat) (a:α),l[i]?=some a->∃ b,r[i]?=some b/\f a=some b
 | [],r,h=>by cases h;exact⟨rfl,fun i a ha=>by simp at ha⟩
 | x :: l,r,h=>by
  simp only[List.mapM_cons,Option.bind_eq_bind,Option.bind_eq_some_iff,Option.pure_def,Option.some.injEq] at h;obtain⟨b,hb,r',hr',rfl⟩:=h;obtain⟨h1,h2⟩:=ZuZ hr';refine⟨by simp[h1],fun i a ha=>?_⟩;cases i with
  | zero=>
   simp only[List.getElem?_cons_zero,Option.some.injEq] at ha;subst ha;exact⟨b,rfl,hb⟩
  | succ i=>exact h2 i a (by simpa using ha)
theorem strs_laid {P:Program} {w:World} {laid:List (String × DataW Unit)} (h:laidMet P laid w) {n:String} {l:List (List UInt8)} (hm:(n,DataW.agg (l.map fun s=>.lit (.string s)))∈laid) {g:Nat} {t e:TypeId} {k:Nat} (hg:P.globalNamed n=some g)
  (hy:(P.globals[g]?).map (·.type)=some t) (ht:P.underlying t=some (.array k e)) (he:P.underlying e=some .string) (hce:P.cellsOf e=1) (hct:P.cellsOf t=k) :
  ∃ c ty fr,w.heap[g]?=some (.cells c ty fr)/\c.toList=l.map fun s=>Value.string ⟨s.toArray⟩:=by
 obtain⟨ps,hv,_⟩:=h;obtain⟨g',t',cs,fuel,p,h1,h2,h3,h4⟩:=ZqC hv hm;rw[hg] at h1;cases h1;rw[hy] at h2;cases h2;have hcs:cs.toList=l.map fun s=>Value.string ⟨s.toArray⟩:=by
  cases fuel with
  | zero=>simp[DataW.trod] at h4
  | succ fuel=>
   simp only[DataW.trod,ht,hce,hct,Nat.mul_one] at h4;split at h4
   .rename_i hl;obtain⟨xs,hm,hx⟩:=Option.map_eq_some_iff.1 h4;have hxs:xs.map (·.1)=l.map fun s=>(DataW.lit (.string s):DataW Unit):=by
     have:=congrArg Prod.fst hx;simpa using this
    obtain⟨hxl,hall⟩:=ZuZ hm;have hxl:xs.length=k:=by simpa using hxl
    have hll:l.length=k:=by
     have:=congrArg List.length hxs;simp at this;omega
    apply List.ext_getElem?
    intro i;by_cases hi:i < k
    .obtain⟨b,hb1,hb2⟩:=hall i i (by simp[hi]);obtain⟨s,e1,e2,_⟩:=DataW.trod_string he hb2;have e3:cs.toList[i]?=some (.string s):=by
      have:=congrArg (·[0]?) e1;simpa[List.getElem?_take,List.getElem?_drop] using this
     have e4:(xs.map (·.1))[i]?=some (DataW.lit (.string s.data.toList):DataW Unit):=by rw[List.getElem?_map,hb1,e2];rfl
     rw[hxs,List.getElem?_map] at e4;obtain⟨s',e5,e6⟩:=Option.map_eq_some_iff.1 e4;cases e6;rw[e3,List.getElem?_map,e5];rfl
    .rw[List.getElem?_eq_none (by omega),List.getElem?_eq_none (by simp;omega)]
   .cases h4
 unfold World.var? at h3;rw[hg] at h3;simp only[Option.bind_some] at h3;split at h3
 .rename_i c ty fr hh;cases h3;exact⟨_,_,_,hh,hcs⟩
 .cases h3
def ιg (gl:List Ze):Nat->Option Loc:=fun g=>match gl[g]? with
 | some (.cells cs es gr _)=>some ⟨g,0,cs.length,es,gr⟩
 | some _=>some ⟨g,0,0,1,false⟩
 | none=>none
def GlMet (gl:List Ze) (W:World):Prop:=∀ (g:Nat) cs es gr,gl[g]?=some (.cells cs es gr true)->∃ c ty fr,W.heap[g]?=some (.cells c ty fr)/\c.toList=cs
theorem Zj1 {ι:Nat->Option Loc}:∀ {cs:List Value},(∀ v∈cs,Qi v=true)->RVs ι cs cs
 | [],_=>.nil
 | v :: cs,h=>.cons (.sc (h v (by simp))) (Zj1 fun u hu=>h u (by simp[hu]))
theorem ZEZ {W:World} {G:Nat} {gl:List Ze} (hgl:gl.length=G) (hpl:Zju gl) (hm:GlMet gl W):Sim G (b0 W) (ιg gl) gl W:=by
 refine⟨fun i o h=>?_,fun i j o1 o2 l1 l2 h1 _ w1=>?_,Nat.le_refl _,fun _ _=>rfl,fun i l h=>?_,fun g hg=>?_,⟨rfl,rfl,rfl⟩,fun b hb=>(by cases hb),fun j cs es nx l hj _=>?_⟩
 .rcases hpl i o h with rfl|⟨cs,es,gr,rfl,hs⟩
  .trivial
  .obtain⟨c,ty,fr,h1,h2⟩:=hm i cs es gr h;have hlt:i < W.heap.size:=by
    rcases Nat.lt_or_ge i W.heap.size with h|h
    .exact h
    .rw[Array.getElem?_eq_none h] at h1;cases h1
   have hsz:cs.length=c.size:=by rw[<- h2];simp
   refine⟨⟨i,0,cs.length,es,gr⟩,c,ty,fr,by simp[ιg,h],rfl,rfl,h1,by simp,by simp[hsz],?_,(fun h=>nomatch h),(fun _=>hlt),fun v hv=>Zky (hs v hv)⟩;simp only[List.drop_zero];rw[h2,List.take_length];exact Zj1 hs
 .rcases hpl i o1 h1 with rfl|⟨cs,es,gr,rfl,_⟩<;>simp[Ze.wr] at w1
 .unfold ιg at h;cases hq:gl[i]? with
  | none=>rw[hq] at h;cases h
  | some o=>exact(List.getElem?_eq_some_iff.1 hq).1
 .have hlt:g < gl.length:=hgl ▸ hg;unfold ιg;rw[List.getElem?_eq_getElem hlt];cases gl[g]<;>exact⟨_,rfl,rfl,rfl⟩
 .rcases hpl j _ hj with h|⟨_,_,_,h,_⟩<;>cases h
theorem law_callsG {P:Program} {H0:Type} {enc:TypeId × Value->H0} {W:World} (hm:P.follows .mixedOrders=true) (hlo:laidOutB P=true) {prim:FuncId->Option (List Value->M Value)} {lvs:FuncId->List (Nat × List Nat)} {tys:List Ty} {g:FuncId} {fn:Func} {s:ChangeSpec} {args:Array Value} {ds gs:List (DataW H0)} {before:List MemPlace} {base:Nat} {tb:TypeId} {apart fresh handsOn:Bool}
  (hprim:∀ (b:ZY) g m,prim g=some m->Zaw P P.globals.size b g m) {gl:List Ze} (hgl:gl.length=P.globals.size) (hpl:Zju gl) (hmet:GlMet gl W)
  (hlaw:∀ (xs:Ins tys) (H:Zd) (vs:List Value),ZuS tys xs->H.take gl.length=gl->ZiZ tys xs H vs->∃ n H',run P prim lvs n g vs H=some (.bool true,H'))
  (hfn:P.funcs[g]?=some fn) (hbody:fn.body.isNone=false) (hgy:g < Kn) (hf:Zcp P tys fn.params.toList=true) (hres:fn.resultTypes=#[tb]) (htb:P.underlying tb=some .bool)
  (hvars:s.vars=[]) (hs:∀ ds:List (DataW H0),ds.length=tys.length->s.fn H0 ds={ results:=[.lit (.bool true)],args:=ds })
  (hval:∀ (j:Nat) t v,fn.params[j]?=some t->args[j]?=some v->Value.okWide P W .any base t v)
  (hW:DataW.Whole enc P fn.params.toList s.vars apart W args.toList ds gs before) :
  Calls P g args W fun e W'=>∃ v,e=.returned v/\s.post enc P fn apart fresh handsOn false W args v W':=by
 have hlt:=hW.lt;obtain⟨p,q,hA,hV,rfl,hfz,hnd⟩:=id hW;rw[hvars] at hV;obtain⟨rfl,rfl⟩:=Go.ChangeShapes.trodVars_none hV;obtain⟨xs,ι,H,vs,hwf,hle,hS,hHl,hrv,hrd,hlen⟩:=Zx8 (G:=P.globals.size) tys hf hA (fun j t v ht hv=>hval j t v (by simpa using ht) (by simpa using hv)) (ZEZ hgl hpl hmet);have htk:H.take gl.length=gl:=by
  apply List.ext_getElem?
  intro i;rw[List.getElem?_take];split
  .rename_i hi;rw[List.getElem?_eq_getElem hi];exact hHl i _ (List.getElem?_eq_getElem hi)
  .rename_i hi;rw[List.getElem?_eq_none (by omega)]
 obtain⟨n,H',hrun⟩:=hlaw xs H vs hwf htk hrd;have hcc:ZqA P P.globals.size (b0 W) g (.bool true) vs H H':=by
  rcases ZbY hm hprim n (b0 W) g vs H _ H' hrun with⟨_,hc|⟨e,⟨fn',h1,_,h2,_⟩,_⟩⟩|⟨hno,_⟩
  .exact hc
  .rw[hfn] at h1;cases h1;rw[hbody] at h2;cases h2
  .exact absurd hgy (Nat.not_lt_of_le hno)
 obtain⟨_,hc⟩:=hcc;refine(hc ι W args.toList hS hrv).mono fun e W' ⟨ι1,v',hle1,he,hv',hS'⟩=>?_;have:=hv'.bool_inv;subst this;refine⟨_,he,?_⟩;have hb:Go.RowKit.Below W.heap.size W W':=⟨hS'.rest.1,hS'.rest.2.1,hS'.rest.2.2,hS'.size,hS'.old⟩;have hsp:=hs (ds++[]) (by simpa using hlen);refine⟨ds,[],p++[],[],p++[],[],hW,?_,?_,?_,hb.frame _,fun h=>by cases h⟩
 .rw[hsp,hres];exact Go.ChangeShapes.trodAll_mk1 (Go.RowKit.shut_bool htb true)
 .rw[hsp,List.append_nil,List.append_nil];exact Zle (ts:=[]) hlo hb tys hf hA (fun x hx=>hlt x (by simpa using hx))
 .rw[hsp,hvars];rfl
def Zjv:Value->Bool
 | .agg cs=>cs.toList.all Qi
 | v=>Qi v
theorem RVs.same {ι:Nat->Option Loc}:∀ {cs cs':List Value},(∀ v∈cs,Qi v=true)->RVs ι cs cs'->cs'=cs
 | [],cs',_,h=>h.nil_inv
 | v :: cs,cs',hs,h=>by
  obtain⟨p,r,rfl,hp,hr⟩:=h.cons_inv;rw[hp.scalar_inv (hs v (by simp)),RVs.same (fun u hu=>hs u (by simp[hu])) hr]
theorem RV.plain_inv {ι:Nat->Option Loc} {v v':Value} (h:Zjv v=true) (hr:RV ι v v'):v'=v:=by
 cases v with
 | agg cs=>
  obtain⟨a',rfl,ha⟩:=hr.agg_inv;have:=RVs.same (List.all_eq_true.1 h) ha;rw[Array.ext' this]
 | _=>exact hr.scalar_inv h
theorem RV.plain_mk {ι:Nat->Option Loc} {v:Value} (h:Zjv v=true):RV ι v v:=by
 cases v with
 | agg cs=>
  have h1:=Zj1 (ι:=ι) (List.all_eq_true.1 h);exact .agg rfl fun i hi=>by
   have:=h1.2 i (by simpa using hi);simpa using this
 | _=>exact .sc h
theorem RVs.plain_args {ι:Nat->Option Loc}:∀ {vs vs':List Value},(∀ v∈vs,Zjv v=true)->RVs ι vs vs'->vs'=vs
 | [],vs',_,h=>h.nil_inv
 | v :: vs,vs',hs,h=>by
  obtain⟨p,r,rfl,hp,hr⟩:=h.cons_inv;rw[hp.plain_inv (hs v (by simp)),RVs.plain_args (fun u hu=>hs u (by simp[hu])) hr]
theorem RVs.plain_self {ι:Nat->Option Loc}:∀ {vs:List Value},(∀ v∈vs,Zjv v=true)->RVs ι vs vs
 | [],_=>.nil
 | v :: vs,h=>.cons (.plain_mk (h v (by simp))) (RVs.plain_self fun u hu=>h u (by simp[hu]))
open Classical in
noncomputable def ZhD (gl:List Ze) (f:List Value->Option Value) (args:List Value):M Value:=fun H=>
 match f args with
 | some v=>if H.take gl.length=gl then some (v,H) else none
 | none=>none
theorem ZwB {P:Program} (hm:P.follows .mixedOrders=true) {prim:FuncId->Option (List Value->M Value)} {lvs:FuncId->List (Nat × List Nat)} (hprim:∀ (b:ZY) g m,prim g=some m->Zaw P P.globals.size b g m)
  {gl:List Ze} (hgl:gl.length=P.globals.size) (hpl:Zju gl) {g:FuncId} (hgy:g < Kn) (hbody:∀ fn,P.funcs[g]?=some fn->fn.body.isNone=false) {f:List Value->Option Value}
  (hf:∀ args v,f args=some v->(∀ a∈args,Zjv a=true)/\Zjv v=true/\∃ n H1,run P prim lvs n g args gl=some (v,H1)) (w0:ZY):Zaw P P.globals.size w0 g (ZhD gl f):=by
 intro args H v' H1 h;unfold ZhD at h;split at h
 .rename_i v hv;split at h
  .rename_i hH;cases h;obtain⟨ha,hpv,n,H2,hrun⟩:=hf args v' hv
   left
   have hcal:Zbc P g:=by
    rcases ZbY hm hprim n (b0 default) g _ _ _ _ hrun with⟨_,⟨hc,_⟩|⟨e,⟨fn,h1,_,h2,_⟩,_⟩⟩|⟨hno,_⟩
    .exact hc
    .rw[hbody fn h1] at h2;cases h2
    .exact absurd hgy (Nat.not_lt_of_le hno)
   refine⟨hcal,fun ι w args' hS hrv=>?_⟩;rw[RVs.plain_args ha hrv];rcases ZbY hm hprim n (b0 w) g _ _ _ _ hrun with⟨_,⟨_,hc⟩|⟨e,⟨fn,h1,_,h2,_⟩,_⟩⟩|⟨hno,_⟩
   .refine(hc _ w args (ZtG hS hgl hpl (by rw[<- hgl];exact hH)) (RVs.plain_self ha)).mono fun e w' ⟨ι1,u,hle,he,hu,hs⟩=>?_;have:=hu.plain_inv hpv;subst this;exact⟨ι,_,.refl ι,he,.plain_mk hpv,hS.grow hs⟩
   .rw[hbody fn h1] at h2;cases h2
   .exact absurd hgy (Nat.not_lt_of_le hno)
  .cases h
 .cases h
theorem ZCq {gl:List Ze} {f:List Value->Option Value} {args:List Value} {v:Value} {H:Zd} (hf:f args=some v) (h:H.take gl.length=gl):ZhD gl f args H=some (v,H):=by
 unfold ZhD;rw[hf];simp only;rw[if_pos h]
section
open Go.Sort
section
variable {P:Program} {w0:ZY} {ι:Nat->Option Loc} {H H1:Zd} {w w':World} {v:Value} {G:Nat}
def Za1 (args:List Value):M Value:=fun H=>
 match args with
 | [.map none]=>some (.map none,H)
 | [.map (some id)]=>match H[id]? with
  | some (.map es clk)=>some (.map (some H.length),H++[.map es clk])
  | some (.mapU es)=>some (.map (some H.length),H++[.mapU es])
  | _=>none
 | _=>none
structure Zia (P:Program) (g:FuncId):Prop where
 c:Zbc P g
 nil:∀ w,Calls P g #[.map none] w fun e w'=>e=.returned (.map none)/\w'=w
 some:∀ b es clock w,w.heap[b]?=some (.map es clock)->Calls P g #[.map (some b)] w fun e w'=>e=.returned (.map (some w.heap.size))/\w'=w.alloc (.map es clock)
theorem Zjh {g:FuncId} (hC:Zia P g):Zaw P G w0 g Za1:=by
 intro args H v H1 h;refine .inl ⟨hC.c,fun ι w args' hS hr=>?_⟩;unfold Za1 at h;split at h
 .cases h;obtain⟨x,r,rfl,hx,hr2⟩:=hr.cons_inv;rw[hr2.nil_inv,hx.scalar_inv rfl];refine(hC.nil w).mono fun e w' ⟨he,hw⟩=>⟨ι,_,.refl ι,he,.sc rfl,by rw[hw];exact hS⟩
 .obtain⟨x,r,rfl,hx,hr2⟩:=hr.cons_inv;obtain⟨l,hl,rfl⟩:=hx.map_inv;rw[hr2.nil_inv];split at h
  .rename_i id _ es clk hid;cases h;obtain⟨en,hb,hge,hE⟩:=hS.mapR hid hl;refine(hC.some l.blk en clk w hb).mono fun e w' ⟨he,hw⟩=>?_;have hnew:=hS.new (x:=.map es clk) (l:=⟨w.heap.size,0,0,0,false⟩) (.map en clk) rfl ⟨_,en,Qb _ _ _,Zb0 w _,hS.size,hE.mono (JF hS _)⟩;exact⟨_,_,JF hS _,he,.mp (Qb _ _ _),by rw[hw];exact hnew⟩
  .rename_i id _ es hid;cases h;obtain⟨en,clk,es2,hb,hge,hE,hp⟩:=hS.mapUR hid hl;refine(hC.some l.blk en clk w hb).mono fun e w' ⟨he,hw⟩=>?_;have hnew:=hS.new (x:=.mapU es) (l:=⟨w.heap.size,0,0,0,false⟩) (.map en clk) rfl ⟨_,en,clk,es2,Qb _ _ _,Zb0 w _,hS.size,hE.mono (JF hS _),hp⟩;exact⟨_,_,JF hS _,he,.mp (Qb _ _ _),by rw[hw];exact hnew⟩
  .cases h
 .cases h
abbrev QK (ks:List (List UInt8)):List (List UInt8):=ks.mergeSort leB
structure Zgq (es:List (Value × Value × Nat)) (ks:List (List UInt8)):Prop where
 keys:es.map (·.1)=ks.map strv
 nod:ks.Nodup
 few:ks.length<=1000000
 len:∀ k∈ks,k.length<=1000000
theorem ZpB {a b:List UInt8} (h:strv a=strv b):a=b:=by simpa[strv] using h
theorem ZwG {a b:List (List UInt8)} (h:a.map strv=b.map strv):a=b:=by
 have:Function.Injective strv:=fun _ _ h=>ZpB h;exact(List.map_inj_right (fun _ _ h=>ZpB h)).1 h
def ZjB (ks:List (List UInt8)) (H:Zd):Option (Value × Zd):=
 if ks=[] then some (.slice none 0 0,H)
 else some (.slice (some ⟨H.length,0,none⟩) ks.length ks.length,H++[.cells ((QK ks).map strv) 1 true false])
open Classical in
noncomputable def Za7 (gks:List FuncId) (gc:FuncId) (args:List Value):M Value:=fun H=>
 if h:∃ gk c id es ks,gk∈gks/\args=[.func (.func gk) #[] #[pt c],.func (.func gc) #[] #[]]/\(∃ e,H[c]?=some (.cells [.map (some id)] e false false))/\Zgq es ks/\((∃ clk,H[id]?=some (.map es clk)/\Zcg es clk)\/H[id]?=some (.mapU es)) then
  ZjB (Classical.choose (Classical.choose_spec (Classical.choose_spec (Classical.choose_spec (Classical.choose_spec h))))) H
 else none
theorem ZpE {gks:List FuncId} {gc gk:FuncId} {c id e:Nat} {es:List (Value × Value × Nat)} {ks:List (List UInt8)} (hg:gk∈gks) (hc:H[c]?=some (.cells [.map (some id)] e false false)) (hk:Zgq es ks)
  (hm:(∃ clk,H[id]?=some (.map es clk)/\Zcg es clk)\/H[id]?=some (.mapU es)):Za7 gks gc [.func (.func gk) #[] #[pt c],.func (.func gc) #[] #[]] H=ZjB ks H:=by
 have hex:∃ gk' c' id' es' ks',gk'∈gks/\[Value.func (.func gk) #[] #[pt c],.func (.func gc) #[] #[]]=[.func (.func gk') #[] #[pt c'],.func (.func gc) #[] #[]]/\(∃ e,H[c']?=some (.cells [.map (some id')] e false false))/\Zgq es' ks'/\((∃ clk,H[id']?=some (.map es' clk)/\Zcg es' clk)\/H[id']?=some (.mapU es')):=
  ⟨gk,c,id,es,ks,hg,rfl,⟨e,hc⟩,hk,hm⟩
 unfold Za7;rw[dif_pos hex]
 congr 1
 obtain⟨_,h2,⟨e',h3⟩,h4,h5⟩:=Classical.choose_spec (Classical.choose_spec (Classical.choose_spec (Classical.choose_spec (Classical.choose_spec hex))));generalize Classical.choose (Classical.choose_spec (Classical.choose_spec (Classical.choose_spec (Classical.choose_spec hex))))=ks' at h4 ⊢;generalize Classical.choose (Classical.choose_spec (Classical.choose_spec (Classical.choose_spec hex)))=es' at h4 h5;generalize Classical.choose (Classical.choose_spec (Classical.choose_spec hex))=id' at h3 h5;generalize Classical.choose (Classical.choose_spec hex)=c' at h2 h3;have ec:c=c':=by simp at h2;exact h2.2
 subst ec;rw[hc] at h3;have ei:id=id':=by simp at h3;exact h3.1
 subst ei;have ees:es'=es:=by
  rcases hm with⟨clk,h6,_⟩|h6<;>rcases h5 with⟨clk',h7,_⟩|h7<;>rw[h6] at h7<;>cases h7<;>rfl
 subst ees;exact ZwG (h4.keys.symm.trans hk.keys)
theorem ZAd {gks:List FuncId} {gc:FuncId} {args:List Value} (h:Za7 gks gc args H=some (v,H1)) :
  ∃ gk c id e es ks,gk∈gks/\args=[.func (.func gk) #[] #[pt c],.func (.func gc) #[] #[]]/\H[c]?=some (.cells [.map (some id)] e false false)/\Zgq es ks/\((∃ clk,H[id]?=some (.map es clk)/\Zcg es clk)\/H[id]?=some (.mapU es))/\ZjB ks H=some (v,H1):=by
 have h0:=h;unfold Za7 at h;split at h
 .rename_i hex;obtain⟨gk,c,id,es,ks,h1,rfl,⟨e,h3⟩,h4,h5⟩:=hex;rw[ZpE h1 h3 h4 h5] at h0;exact⟨gk,c,id,e,es,ks,h1,rfl,h3,h4,h5,h0⟩
 .cases h
structure ZhB (P:Program) (g gk gc:FuncId):Prop where
 c:Zbc P g
 run:∀ (w:World) (Bm b:Nat) (es:Array MapEntry) (clock:Nat) (ks:List (List UInt8)),Bm < w.heap.size->w.cell? ⟨Bm,0,none⟩=some (.map (some b))->w.heap[b]?=some (.map es clock)->es.toList.map (·.key)=ks.map strv->Go.MapKept.Stamped es clock->
  (∀ k∈ks,k.length<=1000000)->ks.length<=1000000->
  Calls P g #[.func (.func gk) #[] #[.pointer (some ⟨Bm,0,none⟩)],.func (.func gc) #[] #[]] w fun e w'=>∃ (v:Value) (t:TypeId),e=.returned v/\w'.ownsRow w.heap.size t 1 v ks.length ((QK ks).map strv)/\(v=.slice none 0 0↔ks=[])/\Go.RowKit.Below w.heap.size w w'
theorem Sim.below (h:Sim G w0 ι H w) (hb:Go.RowKit.Below w.heap.size w w'):Sim G w0 ι H w':=by
 refine⟨fun i x hx=>(h.obj i x hx).blk fun l hl hd=>?_,h.inj,Nat.le_trans h.size hb.size,fun b hlt=>by rw[hb.block b (Nat.lt_of_lt_of_le hlt h.size)];exact h.old b hlt,h.dom,h.glob,?_,fun b hbp=>?_,fun j cs es nx l hj hl=>(h.views j cs es nx l hj hl).to (.refl ι) fun h1 ⟨c0,el0,fr0,hc0⟩=>⟨fun c el fr hc=>⟨fr,by rw[hb.block _ (Array.getElem?_eq_some_iff.1 hc0).1];exact hc⟩,h1⟩⟩
 .obtain⟨l',hl',hlt⟩:=(h.obj i x hx).loc hd;rw[hl] at hl';cases hl';exact hb.block _ hlt
 .rw[hb.os,hb.tape,hb.output];exact h.rest
 .obtain⟨p1,p2,p3⟩:=h.prot b hbp;have hlt:b.1 < w.heap.size:=by
   rcases Nat.lt_or_ge b.1 w.heap.size with h1|h1
   .exact h1
   .rw[Array.getElem?_eq_none h1] at p1;cases p1
  exact⟨by rw[hb.block b.1 hlt];exact p1,p2,p3⟩
theorem Jv.keys {ι:Nat->Option Loc}:∀ {es:List (Value × Value × Nat)} {en:List MapEntry},Jv ι es en->en.map (·.key)=es.map (·.1)/\en.map (·.born)=es.map (·.2.2)
 | [],[],_=>⟨rfl,rfl⟩
 | e :: es,n :: ns,h=>by
  obtain⟨h1,h2⟩:=Jv.keys h.2;exact⟨by rw[List.map_cons,List.map_cons,h1,h.1.2.1],by rw[List.map_cons,List.map_cons,h2,h.1.2.2.2]⟩
 | [],_ :: _,h=>h.elim
 | _ :: _,[],h=>h.elim
theorem Zzj {a b:List (List UInt8)} (h:a.Perm b):QK a=QK b:=mergeSort_of_perm h
theorem ZiO (ks:List (List UInt8)):(QK ks).length=ks.length:=List.length_mergeSort ks
theorem Zj9 {ks:List (List UInt8)} (h:ks.Nodup):(ks.map strv).Nodup:=by
 rw[List.nodup_iff_pairwise_ne] at h ⊢;rw[List.pairwise_map];exact h.imp fun h e=>h (ZpB e)
theorem ZxB {gks:List FuncId} {g gc:FuncId} (hgks:gks≠[]) (hC:∀ gk∈gks,ZhB P g gk gc):Zaw P G w0 g (Za7 gks gc):=by
 intro args H v H1 h;have hcall:Zbc P g:=by
  cases gks with
  | nil=>exact absurd rfl hgks
  | cons a l=>exact(hC a (by simp)).c
 refine .inl ⟨hcall,fun ι w args' hS hr=>?_⟩;obtain⟨gk,c,id,e,es,ks,hg,rfl,hc,hk,hm,ho⟩:=ZAd h;obtain⟨x,r,rfl,hx,hr2⟩:=hr.cons_inv;obtain⟨y,r,rfl,hy,hr3⟩:=hr2.cons_inv;rw[hr3.nil_inv];obtain⟨a1,b1,rfl,ha1,hb1⟩:=hx.fn_inv;obtain⟨a2,b2,rfl,ha2,hb2⟩:=hy.fn_inv;have ea1:a1=#[]:=by have:=ha1.nil_inv;simpa using this
 have ea2:a2=#[]:=by have:=ha2.nil_inv;simpa using this
 have eb2:b2=#[]:=by have:=hb2.nil_inv;simpa using this
 obtain⟨p',q',eb1,hp',hq'⟩:=hb1.cons_inv;have:=hq'.nil_inv;subst this;obtain⟨lc,hlc,rfl⟩:=hp'.ptr_inv;have eb1:b1=#[.pointer (some ⟨lc.blk,lc.base+0,none⟩)]:=by
  apply Array.ext'
  simpa using eb1
 subst ea1;subst ea2;subst eb2;subst eb1;obtain⟨cc,el,fr,_,hgrow,hbc,hb5,hb6,hrc,hro,_⟩:=hS.cellsR hc hlc;have hbase:lc.base=0:=(hro rfl).2.2 hgrow;have hbl:lc.blk < w.heap.size:=by
  rcases Nat.lt_or_ge lc.blk w.heap.size with h1|h1
  .exact h1
  .rw[Array.getElem?_eq_none h1] at hbc;cases hbc
 obtain⟨u,hu1,hu2⟩:=hrc.at (o:=0) (by simp);obtain⟨lm,hlm,hu3⟩:=RV.map_inv (id:=id) hu2;subst hu3;have hcell:w.cell? ⟨lc.blk,0,none⟩=some (.map (some lm.blk)):=by
  rw[Zhn hbc];simpa[hbase] using hu1
 obtain⟨en,clock,ks',hmb,hkeys,hst,hperm⟩:∃ (en:Array MapEntry) (clock:Nat) (ks':List (List UInt8)),w.heap[lm.blk]?=some (.map en clock)/\en.toList.map (·.key)=ks'.map strv/\Go.MapKept.Stamped en clock/\ks'.Perm ks:=by
  rcases hm with⟨clk,hid,hst⟩|hid
  .obtain⟨en,hb,_,hE⟩:=hS.mapR hid hlm;obtain⟨k1,k2⟩:=Jv.keys hE;refine⟨en,clk,ks,hb,k1.trans hk.keys,⟨fun x hx=>?_,by rw[k2];exact hst.nod,by rw[k1,hk.keys];exact Zj9 hk.nod⟩,.refl _⟩;have:x.born∈en.toList.map (·.born):=List.mem_map.2 ⟨x,hx,rfl⟩;rw[k2] at this;obtain⟨e',h1,h2⟩:=List.mem_map.1 this;rw[<- h2];exact hst.lt e' h1
  .obtain⟨en,clk,es2,hb,_,hE,hp⟩:=hS.mapUR hid hlm;obtain⟨k1,k2⟩:=Jv.keys hE;have hpk:(es2.map (·.1)).Perm (es.map (·.1)):=by
    have:=hp.perm.map (·.1)
    rwa [ZeG,ZeG] at this
   obtain⟨ks2,hks2⟩:∃ ks2:List (List UInt8),es2.map (·.1)=ks2.map strv:=by
    refine⟨es2.map fun e=>match e.1 with|.string s=>s.data.toList|_=>[],?_⟩;rw[List.map_map];refine List.map_congr_left fun e he=>?_;obtain⟨s,hs⟩:=hp.strs e he;simp[hs,strv]
   rw[hks2,hk.keys] at hpk;have hpk2:ks2.Perm ks:=by
    have h3:=hpk.map fun v:Value=>match v with|.string s=>s.data.toList|_=>([]:List UInt8)
    simpa[List.map_map,Function.comp_def,strv] using h3
   refine⟨en,clk,ks2,hb,k1.trans hks2,⟨fun x hx=>?_,by rw[k2];exact hp.st.nod,by rw[k1];exact hp.nod2⟩,hpk2⟩;have:x.born∈en.toList.map (·.born):=List.mem_map.2 ⟨x,hx,rfl⟩;rw[k2] at this;obtain⟨e',h1,h2⟩:=List.mem_map.1 this;rw[<- h2];exact hp.st.lt e' h1
 have hfew:=hk.few;have hcon:=(hC gk hg).run w lc.blk lm.blk en clock ks' hbl hcell hmb hkeys hst (fun k hm=>hk.len k (hperm.mem_iff.1 hm)) (by rw[hperm.length_eq];exact hfew);rw[Zzj hperm,hperm.length_eq] at hcon;simp only[Nat.add_zero,hbase];refine hcon.mono fun ee w' ⟨v',t,he,hrow,hnil,hb⟩=>?_;have hnil2:v'=.slice none 0 0↔ks=[]:=by
  rw[hnil];constructor
  .rintro rfl;exact List.eq_nil_of_length_eq_zero (by rw[<- hperm.length_eq];rfl)
  .rintro rfl;exact List.eq_nil_of_length_eq_zero (by rw[hperm.length_eq];rfl)
 have hS':=hS.below hb;unfold ZjB at ho;by_cases h0:ks=[]
 .rw[if_pos h0] at ho;cases ho;exact⟨ι,_,.refl ι,he,by rw[hnil2.2 h0];exact .sc rfl,hS'⟩
 .rw[if_neg h0] at ho;cases ho;rcases hrow.2 with⟨hv,_⟩|⟨gb,cap,cur,rfl,hge,hgb,r1,r2,r3,r4⟩
  .exact absurd (hnil2.1 hv) h0
  have hlen:((QK ks).map strv).length=ks.length:=by rw[List.length_map,ZiO]
  rw[Nat.mul_one] at r3 r4;have hadd:=hS'.add (o:=.cells ((QK ks).map strv) 1 true false) (l:=⟨gb,0,cap,1,true⟩) ⟨⟨gb,0,cap,1,true⟩,cur,t,(0,0),Qb _ _ _,rfl,rfl,hgb,by show 0+_<=cap;omega,by show cap<=cur.size;omega,by
   show RVs _ _ ((cur.toList.drop 0).take _)
   rw[List.drop_zero,hlen,r4];refine⟨rfl,fun i hi=>?_⟩;rw[List.getD_eq_getElem?_getD,List.getElem?_eq_getElem hi];simp only[List.getElem_map,Option.getD_some];exact .sc rfl,fun _=>⟨Nat.le_trans hS.size hge,.inl rfl,fun h=>by cases h⟩,by simp,fun x hx=>by
   obtain⟨k,_,rfl⟩:=List.mem_map.1 hx;rfl⟩ (fun i oi li hi hw hl=>by
   have:=((hS.obj i oi hi).newer hw li hl).2;show li.blk≠gb
   omega) (fun b hbp=>by
   have p1:=(hS.prot b hbp).1;show gb≠b.1
   intro e;rw[<- e,Array.getElem?_eq_none hge] at p1;cases p1) (fun _ j cs es nx lj hj hlj hbe=>by
   rcases hS.views j cs es nx lj hj hlj with⟨l',k1,k2⟩|⟨⟨c,el,fr,k1,_⟩,_⟩
   .exact⟨l',k1,k2⟩
   .have:=(Array.getElem?_eq_some_iff.1 k1).1;have hbe:lj.blk=gb:=hbe;omega)
  refine⟨_,_,JF hS' _,he,?_,hadd⟩;have:=RV.slc (ι:=Kf ι H.length ⟨gb,0,cap,1,true⟩) (id:=H.length) (o:=0) (n:=ks.length) (c:=ks.length) (c':=cap) (Qb _ _ _) (Nat.le_refl _) r1 (fun h=>by cases h) (by simp);simpa using this
end
end
section
variable {α:Type}
def Zf (k:List UInt8):List (List UInt8 × α)->Option α
 | []=>none
 | p :: m=>if p.1=k then some p.2 else Zf k m
def Ys (k:List UInt8) (m:List (List UInt8 × α)):List (List UInt8 × α):=m.filter fun p=>decide (p.1≠k)
def Qs (k:List UInt8) (v:α) (m:List (List UInt8 × α)):List (List UInt8 × α):=
 if(Zf k m).isSome then m.map fun p=>if p.1=k then(k,v) else p else m++[(k,v)]
variable {k:List UInt8} {v:α} {m:List (List UInt8 × α)}
theorem Zec:∀ {m:List (List UInt8 × α)},Zf k m=none↔∀ p∈m,p.1≠k
 | []=>by simp[Zf]
 | p :: m=>by
  simp only[Zf];split
  .rename_i h;simp[h]
  .rename_i h;rw[Zec];simp[h]
theorem Kz:∀ {m:List (List UInt8 × α)} {v:α},Zf k m=some v->(k,v)∈m
 | [],v,h=>by cases h
 | p :: m,v,h=>by
  simp only[Zf] at h;split at h
  .rename_i hp;cases h;subst hp;simp
  .exact List.mem_cons_of_mem _ (Kz h)
theorem Zck:∀ {m:List (List UInt8 × α)} {v:α},(m.map (·.1)).Nodup->(k,v)∈m->Zf k m=some v
 | [],v,_,h=>by cases h
 | p :: m,v,hn,h=>by
  simp only[List.map_cons,List.nodup_cons,List.mem_map,not_exists,not_and] at hn;simp only[Zf];rcases List.mem_cons.1 h with h|h
  .subst h;rw[if_pos rfl]
  .rw[if_neg fun e=>hn.1 _ h e.symm];exact Zck hn.2 h
theorem ZCl:∀ {m:List (List UInt8 × α)} {v:α},Zf k m=some v->∃ j:Nat,m[j]?=some (k,v)
 | m,v,h=>List.getElem?_of_mem (Kz h)
theorem ZkC:∀ {m:List (List UInt8 × α)} {j:Nat} {v0:α},(m.map (·.1)).Nodup->m[j]?=some (k,v0)->m.set j (k,v)=m.map fun p=>if p.1=k then(k,v) else p
 | [],j,v0,_,h=>by simp at h
 | p :: m,0,v0,hn,h=>by
  have:p=(k,v0):=by simpa using h
  subst this;simp only[List.map_cons,List.nodup_cons,List.mem_map,not_exists,not_and] at hn;simp only[List.set_cons_zero,List.map_cons,if_true]
  congr 1
  conv=>lhs;rw[<- List.map_id m]
  refine List.map_congr_left fun q hq=>?_;rw[if_neg (hn.1 q hq)];rfl
 | p :: m,j+1,v0,hn,h=>by
  have h':m[j]?=some (k,v0):=by simpa using h
  simp only[List.map_cons,List.nodup_cons,List.mem_map,not_exists,not_and] at hn;have hp:¬ p.1=k:=fun e=>hn.1 (k,v0) (List.mem_of_getElem? h') e.symm;simp only[List.set_cons_succ,List.map_cons,if_neg hp];rw[ZkC hn.2 h']
theorem ZeU:∀ {m:List (List UInt8 × α)} {j:Nat} {v0:α},(m.map (·.1)).Nodup->m[j]?=some (k,v0)->m.eraseIdx j=Ys k m
 | [],j,v0,_,h=>by simp at h
 | p :: m,0,v0,hn,h=>by
  have:p=(k,v0):=by simpa using h
  subst this;simp only[List.map_cons,List.nodup_cons,List.mem_map,not_exists,not_and] at hn;unfold Ys;rw[List.eraseIdx_cons_zero,List.filter_cons,if_neg (by simp)];symm
  rw[List.filter_eq_self];exact fun q hq=>decide_eq_true (hn.1 q hq)
 | p :: m,j+1,v0,hn,h=>by
  have h':m[j]?=some (k,v0):=by simpa using h
  simp only[List.map_cons,List.nodup_cons,List.mem_map,not_exists,not_and] at hn;have hp:¬ p.1=k:=fun e=>hn.1 (k,v0) (List.mem_of_getElem? h') e.symm;have ih:=ZeU hn.2 h';unfold Ys at ih ⊢;rw[List.eraseIdx_cons_succ,List.filter_cons,if_pos (by simpa using hp),ih]
theorem Zts (h:Zf k m=none):Ys k m=m:=by
 unfold Ys;rw[List.filter_eq_self];exact fun p hp=>decide_eq_true (Zec.1 h p hp)
theorem Zqs (h:(m.map (·.1)).Nodup):((Qs k v m).map (·.1)).Nodup:=by
 unfold Qs;split
 .rw[List.map_map];have:((fun p:List UInt8 × α=>p.1) ∘ fun p=>if p.1=k then(k,v) else p)=fun p=>p.1:=by
   funext p
   simp only[Function.comp];split
   .rename_i h;exact h.symm
   .rfl
  rw[this];exact h
 .rename_i hs;have hn:Zf k m=none:=by cases e:Zf k m<;>simp_all
  rw[List.map_append,List.nodup_append];refine⟨h,by simp,fun a ha b hb=>?_⟩;have hb:b=k:=by simpa using hb
  obtain⟨p,hp,rfl⟩:=List.mem_map.1 ha;rw[hb];exact Zec.1 hn p hp
theorem ZqP (h:(m.map (·.1)).Nodup):((Ys k m).map (·.1)).Nodup:=(List.filter_sublist.map _).nodup h
end
theorem ZAq {a b:List UInt8}:((⟨a.toArray⟩:ByteArray)==⟨b.toArray⟩)=(a==b):=by
 rw[ZnA];simp
theorem Zhv {α:Type} {enc:α->Value} {k:List UInt8}:∀ {es:List (Value × Value × Nat)} {m:List (List UInt8 × α)} (i:Nat),es.map kv=m.map (fun p=>(strv p.1,enc p.2))->
  (Zf k m=none/\J8 .str (strv k) es i=some none)\/∃ j v,m[j]?=some (k,v)/\Zf k m=some v/\J8 .str (strv k) es i=some (some (i+j,enc v))
 | [],[],i,_=>.inl ⟨rfl,rfl⟩
 | e :: es,p :: m,i,h=>by
  simp only[List.map_cons,List.cons.injEq,kv,Prod.mk.injEq] at h;obtain⟨⟨h1,h2⟩,h3⟩:=h;have hs:ZcA .str (strv k) e.1=some (k==p.1):=by rw[h1];simp only[ZcA,strv,ZAq]
  simp only[J8,hs,Zf];by_cases hk:p.1=k
  .rw[show(k==p.1)=true by rw[hk];simp,if_pos hk];exact .inr ⟨0,p.2,by rw[<- hk];rfl,rfl,by rw[h2];rfl⟩
  .rw[show(k==p.1)=false by rw[beq_eq_false_iff_ne];exact Ne.symm hk,if_neg hk];rcases Zhv (i+1) h3 with⟨h4,h5⟩|⟨j,v,h4,h5,h6⟩
   .exact .inl ⟨h4,h5⟩
   .exact .inr ⟨j+1,v,by simpa using h4,h5,by simp only;rw[h6];congr 3;omega⟩
 | [],_ :: _,_,h=>by cases h
 | _ :: _,[],_,h=>by cases h
theorem Zkb {u:Value}:∀ {es:List (Value × Value × Nat)} {j:Nat} {p:Value × Value},(es.map kv)[j]?=some p->(YJ es j u).map kv=(es.map kv).set j (p.1,u)
 | [],j,p,h=>by simp at h
 | e :: es,0,p,h=>by
  have:kv e=p:=by simpa using h
  subst this;simp[YJ,kv]
 | e :: es,j+1,p,h=>by
  have:=Zkb (u:=u) (es:=es) (j:=j) (p:=p) (by simpa using h);simp only[YJ] at this;simp only[YJ,List.modify_succ_cons,List.map_cons,List.set_cons_succ,this]
section
variable {α:Type} {enc:α->Value} {H H':Zd} {id:Nat} {m:List (List UInt8 × α)} {k:List UInt8} {v:α}
structure JL (enc:α->Value) (H:Zd) (id:Nat) (m:List (List UInt8 × α)):Prop where
 ex:∃ es,es.map kv=m.map (fun p=>(strv p.1,enc p.2))/\((∃ clk,H[id]?=some (.map es clk)/\Zcg es clk)\/H[id]?=some (.mapU es))
 nod:(m.map (·.1)).Nodup
theorem JL.lt (h:JL enc H id m):id < H.length:=by
 obtain⟨es,_,h1|h1⟩:=h.ex
 .obtain⟨clk,h1,_⟩:=h1;exact Z6 h1
 .exact Z6 h1
theorem JL.keep (h:JL enc H id m) (hk:H'[id]?=H[id]?):JL enc H' id m:=by
 obtain⟨es,h1,h2⟩:=h.ex;exact⟨⟨es,h1,by rw[hk];exact h2⟩,h.nod⟩
theorem JL.hle (h:JL enc H id m) (hl:HLe H H'):JL enc H' id m:=h.keep (hl.step.keep id h.lt (by simp))
theorem JL.step {o1 o2:List Nat} (h:JL enc H id m) (hs:Zr o1 H o2 H') (hn:id∉o1):JL enc H' id m:=h.keep (hs.keep id h.lt hn)
theorem Zaq:okK .str (strv k)=true:=rfl
theorem JL.len (h:JL enc H id m):lenM (.map (some id)) H=some (iv m.length,H):=by
 obtain⟨es,h1,h2⟩:=h.ex;have hl:es.length=m.length:=by have:=congrArg List.length h1;simpa using this
 unfold lenM;rcases h2 with⟨clk,h2,_⟩|h2<;>simp only[h2,hl]
theorem JL.lkp (h:JL enc H id m) {z:Value} {ok:Bool}:A.lkp .str z ok (.map (some id)) (strv k) H=
  some (match Zf k m with
   | some v=>bif ok then .tuple #[enc v,.bool true] else enc v
   | none=>bif ok then .tuple #[z,.bool false] else z,H):=by
 obtain⟨es,h1,h2⟩:=h.ex;unfold A.lkp;rcases Zhv (k:=k) 0 h1 with⟨h3,h4⟩|⟨j,v,h3,h4,h5⟩
 .rcases h2 with⟨clk,h2,_⟩|h2<;>simp only[h2,Zaq,cond_true,h3,h4]
 .rcases h2 with⟨clk,h2,_⟩|h2<;>simp only[h2,Zaq,cond_true,h4,h5]
theorem JL.mup (h:JL enc H id m):∃ H',A.mup .str (.map (some id)) (strv k) (enc v) H=some (undef,H')/\JL enc H' id (Qs k v m)/\Zr [id] H [id] H'/\H'.length=H.length:=by
 obtain⟨es,h1,h2⟩:=h.ex;have hst:∀ o,Zr [id] H [id] (H.set id o):=fun o=>⟨by simp,fun j hj hn=>List.getElem?_set_ne (fun e=>hn (by simp[e])),fun j hj=>.inl hj⟩;have hnod:=Zqs (k:=k) (v:=v) h.nod;have hget:∀ {j:Nat} {v0:α},m[j]?=some (k,v0)->(es.map kv)[j]?=some (strv k,enc v0):=fun hj=>by rw[h1,List.getElem?_map,hj];rfl
 rcases Zhv (k:=k) 0 h1 with⟨h3,h4⟩|⟨j,v0,h3,h4,h5⟩
 .have ha:Qs k v m=m++[(k,v)]:=by unfold Qs;rw[h3];rfl
  rw[ha] at hnod ⊢;have hm:∀ b,(es++[(strv k,enc v,b)]).map kv=(m++[(k,v)]).map fun p=>(strv p.1,enc p.2):=fun b=>by rw[List.map_append,List.map_append,h1];rfl
  rcases h2 with⟨clk,h2,hs⟩|h2
  .refine⟨H.set id (.map (es++[(strv k,enc v,clk)]) (clk+1)),?_,⟨⟨_,hm clk,.inl ⟨clk+1,ZW h2,⟨fun e he=>?_,?_⟩⟩⟩,hnod⟩,hst _,by simp⟩
   .unfold A.mup;simp only[h2,Zaq,cond_true,h4]
   .rcases List.mem_append.1 he with he|he
    .have:=hs.lt e he;omega
    .have:e=(strv k,enc v,clk):=by simpa using he
     rw[this];exact Nat.lt_succ_self _
   .rw[List.map_append,List.nodup_append];refine⟨hs.nod,by simp,fun a ha b hb=>?_⟩;have hb:b=clk:=by simpa using hb
    obtain⟨e,he,rfl⟩:=List.mem_map.1 ha;have:=hs.lt e he;omega
  .refine⟨H.set id (.mapU (es++[(strv k,enc v,0)])),?_,⟨⟨_,hm 0,.inr (ZW h2)⟩,hnod⟩,hst _,by simp⟩;unfold A.mup;simp only[h2,Zaq,cond_true,h4];rfl
 .have ha:Qs k v m=m.set j (k,v):=by unfold Qs;rw[h4];exact(ZkC h.nod h3).symm
  rw[ha] at hnod ⊢;rw[Nat.zero_add] at h5;have hm:(YJ es j (enc v)).map kv=(m.set j (k,v)).map fun p=>(strv p.1,enc p.2):=by
   rw[Zkb (hget h3),h1,List.map_set]
  rcases h2 with⟨clk,h2,hs⟩|h2
  .refine⟨H.set id (.map (YJ es j (enc v)) clk),?_,⟨⟨_,hm,.inl ⟨clk,ZW h2,ZnH hs⟩⟩,hnod⟩,hst _,by simp⟩;unfold A.mup;simp only[h2,Zaq,cond_true,h5]
  .refine⟨H.set id (.mapU (YJ es j (enc v))),?_,⟨⟨_,hm,.inr (ZW h2)⟩,hnod⟩,hst _,by simp⟩;unfold A.mup;simp only[h2,Zaq,cond_true,h5]
theorem JL.mde (h:JL enc H id m):∃ H',A.mde .str (.map (some id)) (strv k) H=some (.tuple #[],H')/\JL enc H' id (Ys k m)/\Zr [id] H [id] H'/\H'.length=H.length:=by
 obtain⟨es,h1,h2⟩:=h.ex;have hst:∀ o,Zr [id] H [id] (H.set id o):=fun o=>⟨by simp,fun j hj hn=>List.getElem?_set_ne (fun e=>hn (by simp[e])),fun j hj=>.inl hj⟩;have hnod:=ZqP (k:=k) h.nod;rcases Zhv (k:=k) 0 h1 with⟨h3,h4⟩|⟨j,v0,h3,h4,h5⟩
 .refine⟨H,?_,by rw[Zts h3];exact h,.refl _ _,rfl⟩;unfold A.mde;rcases h2 with⟨clk,h2,hs⟩|h2<;>simp only[h2,Zaq,cond_true,h4]
 .have ha:Ys k m=m.eraseIdx j:=(ZeU h.nod h3).symm;rw[ha] at hnod ⊢;rw[Nat.zero_add] at h5;have hm:(es.eraseIdx j).map kv=(m.eraseIdx j).map fun p=>(strv p.1,enc p.2):=by
   have hg:∀ {β γ:Type} (f:β->γ) (l:List β) (j:Nat),(l.eraseIdx j).map f=(l.map f).eraseIdx j:=fun f l j=>by
    rw[List.eraseIdx_eq_take_drop_succ,List.eraseIdx_eq_take_drop_succ,List.map_append,List.map_take,List.map_drop]
   rw[hg,hg,h1]
  rcases h2 with⟨clk,h2,hs⟩|h2
  .refine⟨H.set id (.map (es.eraseIdx j) clk),?_,⟨⟨_,hm,.inl ⟨clk,ZW h2,⟨fun e he=>hs.lt e ((List.eraseIdx_sublist es j).subset he),((List.eraseIdx_sublist es j).map _).nodup hs.nod⟩⟩⟩,hnod⟩,hst _,by simp⟩;unfold A.mde;simp only[h2,Zaq,cond_true,h5]
  .refine⟨H.set id (.mapU (es.eraseIdx j)),?_,⟨⟨_,hm,.inr (ZW h2)⟩,hnod⟩,hst _,by simp⟩;unfold A.mde;simp only[h2,Zaq,cond_true,h5]
theorem JL.clone (h:JL enc H id m):∃ H',Za1 [.map (some id)] H=some (.map (some H.length),H')/\JL enc H' H.length m/\HLe H H':=by
 obtain⟨es,h1,h2⟩:=h.ex;rcases h2 with⟨clk,h2,hs⟩|h2
 .exact⟨_,by unfold Za1;simp only[h2],⟨⟨es,h1,.inl ⟨clk,Zo,hs⟩⟩,h.nod⟩,.app _ _⟩
 .exact⟨_,by unfold Za1;simp only[h2],⟨⟨es,h1,.inr Zo⟩,h.nod⟩,.app _ _⟩
theorem ZuP (H:Zd):∃ H',mkm H=some (.map (some H.length),H')/\JL enc H' H.length []/\HLe H H':=
 ⟨_,rfl,⟨⟨[],rfl,.inl ⟨0,Zo,⟨by simp,by simp⟩⟩⟩,by simp⟩,.app _ _⟩
theorem JL.keys (h:JL enc H id m) {gks:List FuncId} {gc gk:FuncId} {c e:Nat} (hg:gk∈gks) (hc:H[c]?=some (.cells [.map (some id)] e false false)) (hf:m.length<=1000000) (hl:∀ p∈m,p.1.length<=1000000) :
  ∃ v q H',Za7 gks gc [.func (.func gk) #[] #[pt c],.func (.func gc) #[] #[]] H=some (v,H')/\Zu H' v ((QK (m.map (·.1))).map strv) q/\HLe H H'/\∀ j∈q,H.length<=j:=by
 obtain⟨es,h1,h2⟩:=h.ex;have hk:Zgq es (m.map (·.1)):=⟨by
  have:=congrArg (List.map (·.1)) h1;rw[ZeG] at this;rw[this];simp[Function.comp_def],h.nod,by simpa using hf,fun k hk=>by
  obtain⟨p,hp,rfl⟩:=List.mem_map.1 hk;exact hl p hp⟩
 rw[ZpE hg hc hk h2];unfold ZjB;by_cases h0:m.map (·.1)=[]
 .rw[if_pos h0,h0];have hz:QK ([]:List (List UInt8))=[]:=List.mergeSort_nil;rw[hz];exact⟨_,[],_,rfl,Zu.nil,.refl _,by simp⟩
 .rw[if_neg h0];refine⟨_,[H.length],_,rfl,.inr ⟨H.length,[],true,?_,rfl,by simp⟩,.app _ _,by simp⟩;simp[ZiO]
end
def ZkM (args:List Value):M Value:=fun H=>
 match args with
 | [.string s,.int .u8 c]=>some (iv (Go.Lib.indexByte s.data.toList c.toNat.toUInt8),H)
 | _=>none
def Zkq (args:List Value):M Value:=fun H=>
 match args with
 | [.string s,.int .u8 c]=>some (iv (Go.Lib.countByte s.data.toList c.toNat.toUInt8),H)
 | _=>none
section
variable {P:Program} {G:Nat} {w0:ZY}
theorem ZyY {g:FuncId} (he:Zsu P g Extern.BytealgIndexByte.indexByte):Zaw P G w0 g ZkM:=by
 intro args H v H1 h;refine .inr ⟨_,he,fun ι w args' hS hr=>?_⟩;unfold ZkM at h;split at h
 .rename_i s c;cases h;obtain⟨p',r',rfl,hp',hr'⟩:=hr.cons_inv;obtain⟨y',r2,rfl,hy',hr2⟩:=hr'.cons_inv;have:=hr2.nil_inv;subst this;have:=hy'.int_inv;subst this;have:=hp'.scalar_inv rfl;subst this;exact⟨ι,_,w,.refl ι,hS,.sc rfl,Go.Lib.run_indexByteString s c w⟩
 .cases h
theorem ZyZ {g:FuncId} (he:Zsu P g Extern.BytealgCount.count):Zaw P G w0 g Zkq:=by
 intro args H v H1 h;refine .inr ⟨_,he,fun ι w args' hS hr=>?_⟩;unfold Zkq at h;split at h
 .rename_i s c;cases h;obtain⟨p',r',rfl,hp',hr'⟩:=hr.cons_inv;obtain⟨y',r2,rfl,hy',hr2⟩:=hr'.cons_inv;have:=hr2.nil_inv;subst this;have:=hy'.int_inv;subst this;have:=hp'.scalar_inv rfl;subst this;exact⟨ι,_,w,.refl ι,hS,.sc rfl,Go.Lib.run_countString s c w⟩
 .cases h
end
theorem Zyx (b:UInt8):(b.toNat:Int).toNat.toUInt8=b:=by
 rw[Int.toNat_natCast];simp
theorem ZEO {s:List UInt8} {b:UInt8} {H:Zd}:ZkM [strv s,.int .u8 b.toNat] H=some (iv (Go.Lib.indexByte s b),H):=by
 unfold ZkM strv;simp only[Zyx]
theorem ZFg {s:List UInt8} {b:UInt8} {H:Zd}:Zkq [strv s,.int .u8 b.toNat] H=some (iv (s.count b),H):=by
 unfold Zkq strv Go.Lib.countByte;simp only[Zyx]
theorem ZfF {b:UInt8}:∀ {s:List UInt8},Go.Lib.indexByte s b=if b∈s then(((s.takeWhile (· !=b)).length:Nat):Int) else -1
 | []=>rfl
 | c :: s=>by
  have ih:=ZfF (b:=b) (s:=s);unfold Go.Lib.indexByte;by_cases hc:c=b
  .subst hc;simp
  .have h1:(c==b)=false:=beq_eq_false_iff_ne.2 hc;have h2:(c !=b)=true:=by simp[hc]
   rw[h1,List.takeWhile_cons,h2,ih];by_cases hm:b∈s
   .have:¬ ((((s.takeWhile (· !=b)).length:Nat):Int)==-1)=true:=by simp
    simp[hm,this]
   .have hm2:¬ b∈c :: s:=by simp[hm,Ne.symm hc]
    simp[hm,Ne.symm hc]
theorem ZtC {α β:Type} {f:α->β} {m m':List β} (h:m.Perm m'):∀ {l:List α},l.map f=m->∃ l':List α,l'.Perm l/\l'.map f=m':=by
 induction h with
 | nil=>intro l h;exact⟨l,.refl _,h⟩
 | cons x _ ih=>
  intro l h;cases l with
  | nil=>cases h
  | cons a l=>
   simp only[List.map_cons,List.cons.injEq] at h;obtain⟨l',h1,h2⟩:=ih h.2;exact⟨a :: l',h1.cons a,by simp[h.1,h2]⟩
 | swap x y l=>
  intro q h
  match q,h with
  | a :: b :: q,h=>
   simp only[List.map_cons,List.cons.injEq] at h;exact⟨b :: a :: q,.swap a b q,by simp[h.1,h.2.1,h.2.2]⟩
 | trans _ _ ih1 ih2=>
  intro l h;obtain⟨l1,h1,h2⟩:=ih1 h;obtain⟨l2,h3,h4⟩:=ih2 h2;exact⟨l2,h3.trans h1,h4⟩
def Zh5:Ze->Bool
 | .map _ _=>true
 | .mapU _=>true
 | _=>false
def ZeV (H:Zd):List (Value × Value × Nat)->Option (List Ze)
 | []=>some []
 | e :: es=>match e.2.1,ZeV H es with
  | .map (some s),some l=>match H[s]? with
   | some x=>if Zh5 x then some (x :: l) else none
   | none=>none
  | _,_=>none
def Zb7 (base:Nat):List (Value × Value × Nat)->List (Value × Value × Nat)
 | []=>[]
 | e :: es=>(e.1,.map (some base),0) :: Zb7 (base+1) es
open Classical in
noncomputable def Znh (H:Zd) (o:Nat):Option (List (Value × Value × Nat)):=
 match H[o]? with
 | some (.map es clk)=>if Zcg es clk then some es else none
 | some (.mapU es)=>some es
 | _=>none
open Classical in
noncomputable def Zjx (args:List Value):M Value:=fun H=>
 match args with
 | [.pointer (some ⟨g,0,none⟩)]=>match H[g]? with
  | some (.cells [.map (some o)] _ false false)=>match Znh H o with
   | some es=>match ZeV H es with
    | some l=>if ∃ ks,Zgq es ks then some (pt (H.length+l.length+1),H++l++[.mapU (Zb7 H.length es)]++[.cells [.map (some (H.length+l.length))] 1 false false]) else none
    | none=>none
   | none=>none
  | _=>none
 | _=>none
section
variable {P:Program} {w0:ZY} {ι:Nat->Option Loc} {H H1:Zd} {w w':World} {v:Value} {G:Nat}
theorem ZzN {args:List Value} (h:Zjx args H=some (v,H1)):∃ g o e es ks l,args=[pt g]/\H[g]?=some (.cells [.map (some o)] e false false)/\Znh H o=some es/\Zgq es ks/\ZeV H es=some l/\v=pt (H.length+l.length+1)/\H1=H++l++[.mapU (Zb7 H.length es)]++[.cells [.map (some (H.length+l.length))] 1 false false]:=by
 unfold Zjx at h;split at h
 .rename_i g;split at h
  .rename_i o e hg;split at h
   .rename_i es hes;split at h
    .rename_i l hl;split at h
     .rename_i hk;obtain⟨ks,hk⟩:=hk;cases h;exact⟨g,o,e,es,ks,l,rfl,hg,hes,hk,hl,rfl,rfl⟩
     .cases h
    .cases h
   .cases h
  .cases h
 .cases h
structure Zyy (P:Program) (g:FuncId):Prop where
 c:Zbc P g
 run:∀ (w:World) (gb b:Nat) (es:Array MapEntry) (clock:Nat),gb < w.heap.size->w.cell? ⟨gb,0,none⟩=some (.map (some b))->w.heap[b]?=some (.map es clock)->Go.MapKept.Stamped es clock->
  (∀ x∈es.toList,∃ k:List UInt8,x.key=strv k)->(∀ x∈es.toList,∃ sb ses sclk,x.val=.map (some sb)/\w.heap[sb]?=some (.map ses sclk))->
  Calls P g #[.pointer (some ⟨gb,0,none⟩)] w fun e w'=>∃ (gb' ob:Nat) (el:TypeId) (en:Array MapEntry) (ck:Nat) (L:List (MapEntry × Nat)),e=.returned (.pointer (some ⟨gb',0,none⟩))/\
   w'.heap[gb']?=some (.cells #[.map (some ob)] el (0,0))/\w'.heap[ob]?=some (.map en ck)/\Go.MapKept.Stamped en ck/\
   en.toList.map (fun x=>(x.key,x.val))=L.map (fun p=>(p.1.key,Value.map (some p.2)))/\(L.map (·.1)).Perm es.toList/\
   (∀ p∈L,∃ sb,p.1.val=.map (some sb)/\w'.heap[p.2]?=w.heap[sb]?)/\(gb' :: ob :: L.map (·.2)).Nodup/\(∀ q∈gb' :: ob :: L.map (·.2),w.heap.size<=q)/\Go.RowKit.Below w.heap.size w w'
def ZeA (ι:Nat->Option Loc) (H:Zd) (b:Nat):Prop:=(∀ i oi li,H[i]?=some oi->oi.wr=true->ι i=some li->li.blk≠b)/\
 ∀ j cs es nx lj,H[j]?=some (.view cs es nx)->ι j=some lj->lj.blk=b->∃ l',ι nx=some l'/\l'.blk=lj.blk/\l'.base=lj.base
theorem ZeA.add {o:Ze} {l:Loc} {b:Nat} (h:ZeA ι H b) (hS:Sim G w0 ι H w) (hb:l.blk≠b) (hov:o.isV=false:=by rfl):ZeA (Kf ι H.length l) (H++[o]) b:=by
 refine⟨?_,fun j cs es nx lj hj hlj hbe=>?_⟩
 rotate_left
 .rcases Nat.lt_trichotomy j H.length with hlt|rfl|hgt
  .rw[List.getElem?_append_left hlt] at hj;have:Kf ι H.length l j=ι j:=by unfold Kf;simp[Nat.ne_of_lt hlt]
   rw[this] at hlj;obtain⟨l',k1,k2⟩:=h.2 j cs es nx lj hj hlj hbe;exact⟨l',JF hS _ _ _ k1,k2⟩
  .rw[Zo] at hj;rw[Option.some.inj hj] at hov;cases hov
  .rw[List.getElem?_eq_none (by simp;omega)] at hj;cases hj
 intro i oi li hi hw hl;rcases Nat.lt_trichotomy i H.length with hlt|rfl|hgt
 .rw[List.getElem?_append_left hlt] at hi;have:Kf ι H.length l i=ι i:=by unfold Kf;simp[Nat.ne_of_lt hlt]
  rw[this] at hl;exact h.1 i oi li hi hw hl
 .have:Kf ι H.length l H.length=some l:=Qb _ _ _;rw[this] at hl;cases hl;exact hb
 .rw[List.getElem?_eq_none (by simp;omega)] at hi;cases hi
abbrev ZhJ (b:Nat):Loc:=⟨b,0,0,0,false⟩
def Zjj (ι:Nat->Option Loc):Value->Value
 | .map (some s)=>.map ((ι s).map (·.blk))
 | v=>v
theorem ZAc {H:Zd} {w':World} (hS:Sim G w0 ι H w):∀ (es:List (Value × Value × Nat)) (L:List (MapEntry × Nat)) (l:List Ze) (ι0:Nat->Option Loc) (H0:Zd),Sim G w0 ι0 H0 w'->Le ι ι0->ZeV H es=some l->
  L.map (fun p=>(p.1.key,p.1.val))=es.map (fun e=>(e.1,Zjj ι e.2.1))->(∀ p∈L,∃ sb,p.1.val=.map (some sb)/\w'.heap[p.2]?=w.heap[sb]?)->(L.map (·.2)).Nodup->(∀ p∈L,ZeA ι0 H0 p.2/\w0.heap.size<=p.2/\∀ b∈w0.prot,p.2≠b.1)->
  ∃ ι1,Le ι0 ι1/\Sim G w0 ι1 (H0++l) w'/\l.length=es.length/\(∀ i p,L[i]?=some p->ι1 (H0.length+i)=some (ZhJ p.2))/\(∀ b,ZeA ι0 H0 b->b∉L.map (·.2)->ZeA ι1 (H0++l) b)
 | [],L,l,ι0,H0,h0,hle,hl,hm,_,_,_=>by
  cases hl;have:L=[]:=by simpa using hm
  subst this;exact⟨ι0,.refl _,by rw[List.append_nil];exact h0,rfl,fun i p h=>by simp at h,fun b h _=>by rw[List.append_nil];exact h⟩
 | e :: es,L,l,ι0,H0,h0,hle,hl,hm,hc,hn,hf=>by
  cases L with
  | nil=>simp at hm
  | cons p L=>
   simp only[List.map_cons,List.cons.injEq,Prod.mk.injEq] at hm;unfold ZeV at hl;split at hl
   .rename_i _ _ s l' he hl';split at hl
    .rename_i x hx;split at hl
     .rename_i hmp;cases hl;obtain⟨sb,hsb,hcp⟩:=hc p (by simp);obtain⟨hfp,hgp,hpp⟩:=hf p (by simp);rw[he] at hm;have hv:=hm.1.2;rw[hsb] at hv;have hsl:∃ ls,ι s=some ls/\ls.blk=sb:=by
       simp only[Zjj] at hv;cases hs:ι s with
       | none=>rw[hs] at hv;simp at hv
       | some ls=>rw[hs] at hv;exact⟨ls,rfl,by simpa using hv.symm⟩
      obtain⟨ls,hls,rfl⟩:=hsl;have hR:ZcP w0 (Kf ι0 H0.length (ZhJ p.2)) H0.length x w':=by
       have hle2:Le ι (Kf ι0 H0.length (ZhJ p.2)):=hle.trans (JF h0 _);cases x with
       | map es' clk=>
        obtain⟨en,hb,hge,hE⟩:=hS.mapR hx hls;exact⟨_,en,Qb _ _ _,hcp.trans hb,hgp,hE.mono hle2⟩
       | mapU es'=>
        obtain⟨en,clk,es2,hb,hge,hE,hp⟩:=hS.mapUR hx hls;exact⟨_,en,clk,es2,Qb _ _ _,hcp.trans hb,hgp,hE.mono hle2,hp⟩
       | _=>simp[Zh5] at hmp
      have hov:x.isV=false:=by cases x<;>first|rfl|simp[Zh5] at hmp
      have h1:=h0.add hR hfp.1 hpp (fun _=>hfp.2) hov;simp only[List.map_cons,List.nodup_cons] at hn;obtain⟨ι1,a1,a2,a3,a4,a5⟩:=ZAc hS es L l' _ _ h1 (hle.trans (JF h0 _)) hl' hm.2 (fun q hq=>hc q (by simp[hq])) hn.2 (fun q hq=>by
       obtain⟨b1,b2⟩:=hf q (by simp[hq]);exact⟨b1.add h0 (fun e=>hn.1 (List.mem_map.2 ⟨q,hq,e.symm⟩)) hov,b2⟩)
      refine⟨ι1,(JF h0 _).trans a1,by rw[List.append_assoc,List.singleton_append] at a2;exact a2,by simp[a3],fun i q hi=>?_,fun b hb hnb=>?_⟩
      .cases i with
       | zero=>
        have:p=q:=by simpa using hi
        subst this;exact a1 _ _ (Qb _ _ _)
       | succ i=>
        have:=a4 i q (by simpa using hi)
        rwa [List.length_append,List.length_singleton,Nat.add_assoc,Nat.add_comm 1 i] at this
      .simp only[List.map_cons,List.mem_cons,not_or] at hnb;have:=a5 b (hb.add h0 (Ne.symm hnb.1) hov) hnb.2
       rwa [List.append_assoc,List.singleton_append] at this
     .cases hl
    .cases hl
   .cases hl
theorem ZeA.sim (h:Sim G w0 ι H w) {b:Nat} (hb:w.heap.size<=b):ZeA ι H b:=⟨fun i oi li hi hw hl=>by
 have:=((h.obj i oi hi).newer hw li hl).2;omega,fun j cs es nx lj hj hlj hbe=>by
 rcases h.views j cs es nx lj hj hlj with⟨l',k1,k2⟩|⟨⟨c,el,fr,k1,_⟩,_⟩
 .exact⟨l',k1,k2⟩
 .have:=(Array.getElem?_eq_some_iff.1 k1).1;omega⟩
theorem ZsO (h:Sim G w0 ι H w) {b:Nat} (hb:w.heap.size<=b):∀ c∈w0.prot,b≠c.1:=fun c hc e=>by
 have p1:=(h.prot c hc).1;rw[<- e,Array.getElem?_eq_none hb] at p1;cases p1
def Zu9 (B:List ((MapEntry × Nat) × Nat)) (en:List MapEntry):List (Value × Value × Nat):=List.zipWith (fun b x=>(b.1.1.key,Value.map (some b.2),x.born)) B en
theorem Zvy:∀ (B:List ((MapEntry × Nat) × Nat)) (en:List MapEntry),en.map (fun x=>(x.key,x.val))=B.map (fun b=>(b.1.1.key,Value.map (some b.1.2)))->(∀ b∈B,Qi b.1.1.key=true/\ι b.2=some (ZhJ b.1.2))->
  Jv ι (Zu9 B en) en/\(Zu9 B en).map kv=B.map (fun b=>(b.1.1.key,Value.map (some b.2)))/\(Zu9 B en).map (·.2.2)=en.map (·.born)
 | [],[],_,_=>⟨trivial,rfl,rfl⟩
 | [],_ :: _,h,_=>by simp at h
 | _ :: _,[],h,_=>by simp at h
 | b :: B,x :: en,h,hb=>by
  simp only[List.map_cons,List.cons.injEq,Prod.mk.injEq] at h;obtain⟨h1,h2,h3⟩:=Zvy B en h.2 (fun c hc=>hb c (by simp[hc]));obtain⟨g1,g2⟩:=hb b (by simp);have hm:RV ι (.map (some b.2)) (.map (some b.1.2)):=.mp (l:=ZhJ b.1.2) g2;refine⟨⟨⟨g1,h.1.1,by rw[h.1.2];exact hm,rfl⟩,h1⟩,?_,?_⟩
  .simp only[List.map_cons];rw[<- h2];rfl
  .simp only[List.map_cons];rw[<- h3];rfl
theorem ZxQ:∀ (es:List (Value × Value × Nat)) (L:List (MapEntry × Nat)) (base:Nat),L.map (fun p=>p.1.key)=es.map (·.1)->
  (Zb7 base es).map kv=(L.zipIdx base).map (fun b=>(b.1.1.key,Value.map (some b.2)))/\(Zb7 base es).map (·.1)=es.map (·.1)
 | [],L,base,h=>by
  have:L=[]:=by simpa using h
  subst this;exact⟨rfl,rfl⟩
 | e :: es,[],base,h=>by simp at h
 | e :: es,p :: L,base,h=>by
  simp only[List.map_cons,List.cons.injEq] at h;obtain⟨h1,h2⟩:=ZxQ es L (base+1) h.2;refine⟨?_,?_⟩
  .simp only[Zb7,List.map_cons,List.zipIdx_cons];rw[h1,<- h.1];rfl
  .simp only[Zb7,List.map_cons];rw[h2]
theorem ZqN:∀ {es:List (Value × Value × Nat)} {l:List Ze},ZeV H es=some l->∀ e∈es,∃ s x,e.2.1=.map (some s)/\H[s]?=some x/\Zh5 x=true
 | [],l,h,e,he=>by cases he
 | e0 :: es,l,h,e,he=>by
  unfold ZeV at h;split at h
  .rename_i _ _ s l' hv hl';split at h
   .rename_i x hx;split at h
    .rename_i hm;rcases List.mem_cons.1 he with rfl|he
     .exact⟨s,x,hv,hx,hm⟩
     .exact ZqN hl' e he
    .cases h
   .cases h
  .cases h
theorem ZtE (hle:∀ e:Value × Value × Nat,∀ n,RV ι e.2.1 n->(∃ s,e.2.1=.map (some s))->n=Zjj ι e.2.1):∀ (es:List (Value × Value × Nat)) (en:List MapEntry),Jv ι es en->(∀ e∈es,∃ s,e.2.1=.map (some s))->en.map (fun x=>(x.key,x.val))=es.map (fun e=>(e.1,Zjj ι e.2.1))
 | [],[],_,_=>rfl
 | [],_ :: _,h,_=>h.elim
 | _ :: _,[],h,_=>h.elim
 | e :: es,n :: ns,h,hs=>by
  simp only[List.map_cons];rw[ZtE hle es ns h.2 (fun e he=>hs e (by simp[he])),h.1.2.1,hle e _ h.1.2.2.1 (hs e (by simp))]
theorem ZDm {e:Value × Value × Nat} {n:Value} (h:RV ι e.2.1 n) (hs:∃ s,e.2.1=.map (some s)):n=Zjj ι e.2.1:=by
 obtain⟨s,hs⟩:=hs;rw[hs] at h ⊢;obtain⟨l,hl,rfl⟩:=h.map_inv;simp[Zjj,hl]
theorem Zzf {g:FuncId} (hC:Zyy P g):Zaw P G w0 g Zjx:=by
 intro args H v H1 h;refine .inl ⟨hC.c,fun ι w args' hS hr=>?_⟩;obtain⟨gi,o,e1,es,ks,l,rfl,hg,hes,hk,hl,rfl,rfl⟩:=ZzN h;obtain⟨x,r,rfl,hx,hr2⟩:=hr.cons_inv;rw[hr2.nil_inv];obtain⟨lc,hlc,rfl⟩:=hx.ptr_inv;obtain⟨cc,el,fr,_,hgrow,hbc,hb5,hb6,hrc,hro,_⟩:=hS.cellsR hg hlc;have hbase:lc.base=0:=(hro rfl).2.2 hgrow;have hbl:lc.blk < w.heap.size:=by
  rcases Nat.lt_or_ge lc.blk w.heap.size with h1|h1
  .exact h1
  .rw[Array.getElem?_eq_none h1] at hbc;cases hbc
 obtain⟨u,hu1,hu2⟩:=hrc.at (o:=0) (by simp);obtain⟨lm,hlm,hu3⟩:=RV.map_inv (id:=o) hu2;subst hu3;have hcell:w.cell? ⟨lc.blk,0,none⟩=some (.map (some lm.blk)):=by
  rw[Zhn hbc];simpa[hbase] using hu1
 have hsets:=ZqN hl;have hismap:∀ e∈es,∃ s,e.2.1=.map (some s):=fun e he=>by obtain⟨s,_,h1,_⟩:=hsets e he;exact⟨s,h1⟩
 obtain⟨en,clock,es2,hmb,hE,hperm,hst⟩:∃ (en:Array MapEntry) (clock:Nat) (es2:List (Value × Value × Nat)),w.heap[lm.blk]?=some (.map en clock)/\Zcq ι es2 en/\(es2.map kv).Perm (es.map kv)/\Zcg es2 clock:=by
  unfold Znh at hes;split at hes
  .rename_i es0 clk hid;split at hes
   .rename_i hst;cases hes;obtain⟨en,hb,_,hE⟩:=hS.mapR hid hlm;exact⟨en,_,_,hb,hE,.refl _,hst⟩
   .cases hes
  .rename_i es0 hid;cases hes;obtain⟨en,clk,es2,hb,_,hE,hp⟩:=hS.mapUR hid hlm;exact⟨en,clk,es2,hb,hE,hp.perm,hp.st⟩
  .cases hes
 have hmem2:∀ e∈es2,∃ f∈es,f.1=e.1/\f.2.1=e.2.1:=fun e he=>by
  have:kv e∈es.map kv:=hperm.mem_iff.1 (List.mem_map.2 ⟨e,he,rfl⟩);obtain⟨f,hf,h1⟩:=List.mem_map.1 this;unfold kv at h1;simp only[Prod.mk.injEq] at h1;exact⟨f,hf,h1.1,h1.2⟩
 have hismap2:∀ e∈es2,∃ s,e.2.1=.map (some s):=fun e he=>by
  obtain⟨f,hf,_,h2⟩:=hmem2 e he;rw[<- h2];exact hismap f hf
 obtain⟨k1,k2⟩:=Jv.keys hE;have hkv:=ZtE (fun e n h hs=>ZDm h hs) es2 en.toList hE hismap2;have hkeyp:(es2.map (·.1)).Perm (ks.map strv):=by
  have h3:=hperm.map (·.1);rw[ZeG,ZeG] at h3;rw[<- hk.keys];exact h3
 have hstr:∀ x∈en.toList,∃ k:List UInt8,x.key=strv k:=fun x hx=>by
  have h3:x.key∈es2.map (·.1):=by rw[<- k1];exact List.mem_map.2 ⟨x,hx,rfl⟩
  obtain⟨k,_,h4⟩:=List.mem_map.1 (hkeyp.mem_iff.1 h3);exact⟨k,h4.symm⟩
 have hsets2:∀ x∈en.toList,∃ sb ses sclk,x.val=.map (some sb)/\w.heap[sb]?=some (.map ses sclk):=fun x hx=>by
  have h3:(x.key,x.val)∈es2.map (fun e=>(e.1,Zjj ι e.2.1)):=by rw[<- hkv];exact List.mem_map.2 ⟨x,hx,rfl⟩
  obtain⟨e,he,h4⟩:=List.mem_map.1 h3;obtain⟨f,hf,_,hf2⟩:=hmem2 e he;obtain⟨s,y,hy1,hy2,hy3⟩:=hsets f hf;simp only[Prod.mk.injEq] at h4;rw[<- hf2,hy1] at h4;have hd:y≠.dead:=by rintro rfl;simp[Zh5] at hy3
  obtain⟨ls,hls,_⟩:=(hS.obj s y hy2).loc hd;have h5:x.val=.map (some ls.blk):=by rw[<- h4.2];simp[Zjj,hls]
  cases y with
  | map es' clk=>
   obtain⟨en',hb,_,_⟩:=hS.mapR hy2 hls;exact⟨_,_,_,h5,hb⟩
  | mapU es'=>
   obtain⟨en',clk,_,hb,_,_⟩:=hS.mapUR hy2 hls;exact⟨_,_,_,h5,hb⟩
  | _=>simp[Zh5] at hy3
 have hstamp:Go.MapKept.Stamped en clock:=by
  refine⟨fun x hx=>?_,by rw[k2];exact hst.nod,by rw[k1];exact hkeyp.nodup_iff.2 (Zj9 hk.nod)⟩;have h3:x.born∈en.toList.map (·.born):=List.mem_map.2 ⟨x,hx,rfl⟩;rw[k2] at h3;obtain⟨e',h1,h2⟩:=List.mem_map.1 h3;rw[<- h2];exact hst.lt e' h1
 simp only[Nat.add_zero,hbase];refine(hC.run w lc.blk lm.blk en clock hbl hcell hmb hstamp hstr hsets2).mono fun ee w' ⟨gb',ob,el',en',ck,L,he,hgb,hob,hst',hen',hL,hcp,hnd,hge,hb⟩=>?_;have hS':=hS.below hb;have hLkv:(L.map fun p=>(p.1.key,p.1.val)).Perm (es.map fun e=>(e.1,Zjj ι e.2.1)):=by
  have h3:=hL.map (fun x:MapEntry=>(x.key,x.val));rw[List.map_map,hkv] at h3;have h4:=hperm.map (fun q:Value × Value=>(q.1,Zjj ι q.2));rw[List.map_map,List.map_map] at h4;exact h3.trans h4
 obtain⟨L',hL',hLm⟩:=ZtC hLkv rfl;simp only[List.nodup_cons,List.mem_cons,not_or] at hnd;obtain⟨⟨n1,n2⟩,n3,n4⟩:=hnd;have hnod':(L'.map (·.2)).Nodup:=(hL'.map _).nodup_iff.2 n4;have hgeL:∀ p∈L',w.heap.size<=p.2:=fun p hp=>hge _ (by simp only[List.mem_cons,List.mem_map];exact .inr (.inr ⟨p,hL'.mem_iff.1 hp,rfl⟩));obtain⟨ι1,a1,a2,a3,a4,a5⟩:=ZAc hS es L' l ι H hS' (.refl _) hl hLm (fun p hp=>hcp p (hL'.mem_iff.1 hp)) hnod' (fun p hp=>⟨ZeA.sim hS (hgeL p hp),Nat.le_trans hS.size (hgeL p hp),ZsO hS (hgeL p hp)⟩);have hobge:=hge ob (by simp);have hgbge:=hge gb' (by simp);have hobF:ZeA ι1 (H++l) ob:=a5 ob (ZeA.sim hS hobge) fun hm=>n3 ((hL'.map (·.2)).mem_iff.1 hm);have hgbF:ZeA ι1 (H++l) gb':=a5 gb' (ZeA.sim hS hgbge) fun hm=>n2 ((hL'.map (·.2)).mem_iff.1 hm);obtain⟨B,hB,hBm⟩:=ZtC (f:=Prod.fst) (l:=L'.zipIdx H.length) (m':=L) (by rw[List.zipIdx_map_fst];exact hL') rfl;have hBi:∀ b∈B,Qi b.1.1.key=true/\ι1 b.2=some (ZhJ b.1.2):=fun b hb=>by
  have hb':=hB.mem_iff.1 hb;obtain⟨i,hi⟩:=List.getElem?_of_mem hb';rw[List.getElem?_zipIdx] at hi;cases hq:L'[i]? with
  | none=>rw[hq] at hi;cases hi
  | some q=>
   rw[hq] at hi;have hi:(q,H.length+i)=b:=by simpa using hi
   subst hi;refine⟨?_,a4 i q hq⟩;have hqL:q.1∈L.map (·.1):=List.mem_map.2 ⟨q,hL'.mem_iff.1 (List.mem_of_getElem? hq),rfl⟩;obtain⟨k,hk⟩:=hstr q.1 (hL.mem_iff.1 hqL);show Qi q.1.key=true
   rw[hk];rfl
 have hen2:en'.toList.map (fun x=>(x.key,x.val))=B.map (fun b=>(b.1.1.key,Value.map (some b.1.2))):=by
  rw[hen',<- hBm,List.map_map];rfl
 obtain⟨z1,z2,z3⟩:=Zvy B en'.toList hen2 hBi;have hkeysL:L'.map (fun p=>p.1.key)=es.map (·.1):=by
  have:=congrArg (List.map Prod.fst) hLm;simpa[List.map_map,Function.comp_def] using this
 obtain⟨y1,y2⟩:=ZxQ es L' H.length hkeysL;have hle1:Le ι ι1:=a1;have hlen:(H++l).length=H.length+l.length:=List.length_append;have hPU:W5 (Zu9 B en'.toList) ck (Zb7 H.length es):=by
  refine⟨?_,⟨fun e he=>?_,?_⟩,⟨fun e he=>?_,?_⟩⟩
  .rw[z2,y1];exact hB.map _
  .have:e.1∈(Zb7 H.length es).map (·.1):=List.mem_map.2 ⟨e,he,rfl⟩;rw[y2,hk.keys] at this;obtain⟨k,_,h4⟩:=List.mem_map.1 this;exact⟨_,h4.symm⟩
  .rw[y2,hk.keys];exact Zj9 hk.nod
  .have:e.2.2∈(Zu9 B en'.toList).map (·.2.2):=List.mem_map.2 ⟨e,he,rfl⟩;rw[z3] at this;obtain⟨x,hx,h4⟩:=List.mem_map.1 this;rw[<- h4];exact hst'.1 x hx
  .rw[z3];exact hst'.2.1
 have hO:=a2.add (o:=.mapU (Zb7 H.length es)) (l:=ZhJ ob) ⟨ZhJ ob,en',ck,_,Qb _ _ _,hob,Nat.le_trans hS.size hobge,z1.mono (JF a2 _),hPU⟩ hobF.1 (ZsO hS hobge) (fun _=>hobF.2);have hgbF2:ZeA (Kf ι1 (H++l).length (ZhJ ob)) (H++l++[.mapU (Zb7 H.length es)]) gb':=hgbF.add a2 (Ne.symm n1);have hN:=hO.add (o:=.cells [.map (some (H.length+l.length))] 1 false false) (l:=⟨gb',0,1,1,false⟩) (by
  refine⟨⟨gb',0,1,1,false⟩,_,_,_,Qb _ _ _,rfl,rfl,hgb,by simp,by simp,?_,fun _=>⟨Nat.le_trans hS.size hgbge,.inl rfl,fun _=>rfl⟩,by simp,by simp[oneCell]⟩;refine⟨rfl,fun i hi=>?_⟩;have:i=0:=by simpa using hi
  subst this;refine .mp (l:=ZhJ ob) (JF hO _ _ _ ?_);rw[<- hlen];exact Qb _ _ _) hgbF2.1 (ZsO hS hgbge) (fun _=>hgbF2.2)
 refine⟨_,_,(hle1.trans (JF a2 _)).trans (JF hO _),he,?_,hN⟩;have hp:=RV.ptr (ι:=Kf (Kf ι1 (H++l).length (ZhJ ob)) (H++l++[Ze.mapU (Zb7 H.length es)]).length ⟨gb',0,1,1,false⟩) (o:=0) (Qb _ _ _);have hlen2:(H++l++[Ze.mapU (Zb7 H.length es)]).length=H.length+l.length+1:=by rw[List.length_append,List.length_append,List.length_singleton]
 rw[hlen2] at hp ⊢;exact hp
end
section
open Go.RowKit Go.Maps Go.ChangeMaps Go.MapKept
section
variable {P:Program} (w:World) {ops:Array Oper} {rest:List Oper} {o:Oper} {a:Act} {Q:Exit->Act->World->Prop}
theorem Zpq (hg:o.guard=none) (m:Operand) (t:TypeId) (hop:o.op=Op.range t m) (k e:TypeId) (ht:P.underlying t=some (.map k e)) (b:Nat) (es:Array MapEntry) (clock:Nat)
  (hm:a.eval m=.map (some b)) (hb:w.heap[b]?=some (.map es clock))
  (hK:wpList P ops Q rest (a.put o.dst (.pointer (some ⟨w.heap.size,0,none⟩))) (w.alloc (.mapIter (some b) clock #[] clock))) :
  wpList P ops Q (o :: rest) a w:=by
 refine wpList_plain hg fun K' hK'=>?_;have hrun:=run_range_map (P:=P) w t k e b es clock ht hb;unfold Oper.wp;simp[execOp,hop,hm,hrun,Result.andThen]
 exact hK' _ _ hK
theorem Zr4 (hg:o.guard=none) (it:Operand) (hop:o.op=Op.next it false) (b r since c0 clock:Nat) (seen:Array Nat) (es:Array MapEntry)
  (hit:a.eval it=.pointer (some ⟨r,0,none⟩)) (hr:w.heap[r]?=some (.mapIter (some b) since seen c0)) (hb:w.heap[b]?=some (.map es clock)) (hst:Go.MapKept.Stamped es clock) (hsince:since=clock) (hsc:since<=c0)
  (hDone:(∀ x∈es.toList,x.born∈seen)->wpList P ops Q rest (a.put o.dst (.tuple #[.bool false])) w)
  (hMore:∀ (e:MapEntry) (w':World),e∈es.toList->e.born∉seen->w'.heap[r]?=some (.mapIter (some b) since (seen.push e.born) clock)->(leftOf es (seen.push e.born)).size < (leftOf es seen).size->
   w.grownBy w' (some r)->w'.heap.size=w.heap.size->(Instr.entry (.pointer (some ⟨r,0,none⟩))).run P w'=.ok (.tuple #[e.key,e.val]) w'->wpList P ops Q rest (a.put o.dst (.tuple #[.bool true,e.key,e.val])) w') :
  wpList P ops Q (o :: rest) a w:=by
 refine wpList_plain hg fun K' hK'=>?_;unfold Oper.wp;have hold:∀ x∈es.toList,x.born < since:=by rw[hsince];exact hst.1
 rcases run_next_at (P:=P) w o.type r b since c0 seen es clock hr hb hold hsc with⟨h0,hrun⟩|⟨e,he,w1,hal,hrun⟩
 .simp[execOp,hop,hit,hrun,Result.andThen]
  refine hK' _ _ (hDone fun x hx=>?_);have:=all_seen es seen h0 x hx;simpa using this
 .obtain⟨hem,hes⟩:=mem_left he;have hr1:w1.heap[r]?=some (.mapIter (some b) since seen c0):=by rcases hal with rfl|rfl<;>exact hr
  have hb1:w1.heap[b]?=some (.map es clock):=by rcases hal with rfl|rfl<;>exact hb
  have hset:=heap_set (o':=.mapIter (some b) since (seen.push e.born) clock) hr1;have hne:r≠b:=by
   intro e1;rw[e1,hb] at hr;cases hr
  have hb':(setBlock w1 r (.mapIter (some b) since (seen.push e.born) clock)).heap[b]?=some (.map es clock):=(hset.2 b (fun e1=>hne e1.symm)).trans hb1;simp[execOp,hop,hit,hrun,Result.andThen]
  refine hK' _ _ (hMore e _ hem (by simpa using hes) hset.1 (left_shrinks es seen e he) ?_ ?_ (run_entry_at _ r b since seen es clock e hset.1 hb' hem ((stamped_iff es clock).1 hst).2.1))
  .rcases hal with rfl|rfl<;>exact⟨rfl,rfl,rfl,by simp[setBlock],fun i _ hi=>hset.2 i (fun e1=>hi (by rw[e1]))⟩
  .rcases hal with rfl|rfl<;>simp[setBlock]
end
theorem Ks {w:World} {o:Obj} {b:Nat} (h:b < w.heap.size):(w.alloc o).heap[b]?=w.heap[b]?:=(MapKept.heap_alloc w o).2 b h
theorem Zxo {P:Program} {t kt e:TypeId} {k:List UInt8} {en:Array MapEntry} {ck ob:Nat} {W:World} (ht:P.underlying t=some (.map kt e)) (htk:tkT P kt=.str) (hb:W.heap[ob]?=some (.map en ck)) (hkeys:∀ x∈en.toList,∃ k',x.key=strv k'/\k'≠k) (v:Value) :
  ∃ W2,(Instr.mapUpdate t (.map (some ob)) (strv k) v).run P W=.ok () W2/\W2=setB W ob (.map (en.push { key:=strv k,val:=v,born:=ck }) (ck+1)):=by
 have hok:okK (tkT P kt) (strv k)=true:=by rw[htk];rfl
 obtain⟨d,hd,hsk,hchk⟩:=Zbt hok;have hE:∀ l:List MapEntry,(∀ x∈l,∃ k',x.key=strv k'/\k'≠k)->Jv (fun _=>none) (l.map fun x=>(x.key,Value.tuple #[],x.born)) l/\∀ i,J8 .str (strv k) (l.map fun x=>(x.key,Value.tuple #[],x.born)) i=some none:=by
  intro l
  induction l with
  | nil=>intro _;exact⟨trivial,fun _=>rfl⟩
  | cons x l ih=>
   intro h;obtain⟨k',hk1,hk2⟩:=h x (by simp);obtain⟨h1,h2⟩:=ih fun y hy=>h y (by simp[hy]);refine⟨⟨⟨by show Qi x.key=true;rw[hk1];rfl,rfl,.un,rfl⟩,h1⟩,fun i=>?_⟩;have hs:ZcA .str (strv k) x.key=some (k==k'):=by rw[hk1];simp only[ZcA,strv,ZAq]
   simp only[List.map_cons,J8,hs];rw[show(k==k')=false by rw[beq_eq_false_iff_ne];exact Ne.symm hk2];exact h2 _
 obtain⟨h1,h2⟩:=hE en.toList hkeys;obtain⟨r',h3,h4⟩:=Kc (k:=strv k) hd 0 h1 (by rw[htk];exact h2 0);cases r' with
 | some p=>exact h4.elim
 | none=>
  refine⟨_,?_,rfl⟩;simp only[Instr.mapUpdate,Sem.run_bind,run_underlying ht,Result.andThen_ok,JB hb,hchk,JE hd h3,YD hb]
structure CpR (w:World) (b r gb' ob:Nat) (es:Array MapEntry) (clock:Nat) (seen:Array Nat) (c0:Nat) (en:Array MapEntry) (ck:Nat) (L:List (MapEntry × Nat)) (el:TypeId) (wr:World):Prop where
 it:wr.heap[r]?=some (.mapIter (some b) clock seen c0)
 c0:clock<=c0
 g:wr.heap[gb']?=some (.cells #[.map (some ob)] el (0,0))
 o:wr.heap[ob]?=some (.map en ck)
 st:Go.MapKept.Stamped en ck
 ent:en.toList.map (fun x=>(x.key,x.val))=L.map (fun p=>(p.1.key,Value.map (some p.2)))
 sn:L.map (·.1.born)=seen.toList
 mem:∀ p∈L,p.1∈es.toList/\∃ sb ses sclk,p.1.val=.map (some sb)/\w.heap[sb]?=some (.map ses sclk)/\wr.heap[p.2]?=some (.map ses sclk)
 nod:(r :: gb' :: ob :: L.map (·.2)).Nodup
 ge:∀ q∈r :: gb' :: ob :: L.map (·.2),w.heap.size<=q
 snod:seen.toList.Nodup
 bel:Below w.heap.size w wr
section
variable {w wr w1:World} {b r g o:Nat} {es:Array MapEntry} {clock:Nat} {seen:Array Nat} {c0:Nat} {en:Array MapEntry} {ck:Nat} {L:List (MapEntry × Nat)} {el:TypeId}
theorem CpR.lts (h:CpR w b r g o es clock seen c0 en ck L el wr):r < wr.heap.size/\g < wr.heap.size/\o < wr.heap.size:=⟨(Array.getElem?_eq_some_iff.1 h.it).1,(Array.getElem?_eq_some_iff.1 h.g).1,(Array.getElem?_eq_some_iff.1 h.o).1⟩
theorem CpR.keys (h:CpR w b r g o es clock seen c0 en ck L el wr) (hst:Go.MapKept.Stamped es clock) {e:MapEntry} (he1:e∈es.toList) (he2:e.born∉seen):∀ x∈en.toList,x.key≠e.key:=fun x hx e4=>by
 have h3:(x.key,x.val)∈L.map (fun p=>(p.1.key,Value.map (some p.2))):=by rw[<- h.ent];exact List.mem_map.2 ⟨x,hx,rfl⟩
 obtain⟨p,hp,h4⟩:=List.mem_map.1 h3;simp only[Prod.mk.injEq] at h4;obtain⟨hm,_⟩:=h.mem p hp;have h5:p.1=e:=entry_eq_of_key ((stamped_iff es clock).1 hst).2.2 hm he1 (h4.1.trans e4);have:p.1.born∈seen.toList:=by rw[<- h.sn];exact List.mem_map.2 ⟨p,hp,rfl⟩
 rw[h5] at this;exact he2 (by simpa using this)
theorem CpR.next (h:CpR w b r g o es clock seen c0 en ck L el wr) (hst:Go.MapKept.Stamped es clock) {e:MapEntry} {sb sclk:Nat} {ses:Array MapEntry} (he1:e∈es.toList) (he2:e.born∉seen) (hev:e.val=.map (some sb)) (hsb:w.heap[sb]?=some (.map ses sclk))
  (hit:w1.heap[r]?=some (.mapIter (some b) clock (seen.push e.born) clock)) (hgr:wr.grownBy w1 (some r)) (hsz:w1.heap.size=wr.heap.size) :
  CpR w b r g o es clock (seen.push e.born) clock (en.push { key:=e.key,val:=.map (some wr.heap.size),born:=ck }) (ck+1) (L++[(e,wr.heap.size)]) el
   (setB (w1.alloc (.map ses sclk)).drew o (.map (en.push { key:=e.key,val:=.map (some wr.heap.size),born:=ck }) (ck+1))):=by
 obtain⟨l1,l2,l3⟩:=h.lts;have hnod:=h.nod;simp only[List.nodup_cons,List.mem_cons,not_or] at hnod;obtain⟨⟨n1,n2,n3⟩,⟨n4,n5⟩,n6,n7⟩:=hnod;generalize hX:Obj.map (en.push { key:=e.key,val:=.map (some wr.heap.size),born:=ck }) (ck+1)=X;have hge:=h.ge;have hLlt:∀ p∈L,p.2 < wr.heap.size:=fun p hp=>by
  obtain⟨_,sb',ses',sclk',h1,h2,h3⟩:=h.mem p hp;exact(Array.getElem?_eq_some_iff.1 h3).1
 have keep:∀ c,c < wr.heap.size->c≠o->c≠r->(setB (w1.alloc (.map ses sclk)).drew o X).heap[c]?=wr.heap[c]?:=fun c hc h1 h2=>by
  rw[Jg h1];show(w1.alloc (.map ses sclk)).heap[c]?=_
  rw[Ks (by omega),hgr.block c hc (by simpa using h2)]
 have hk:=h.keys hst he1 he2;have hst2:=(stamped_iff en ck).1 h.st;refine⟨?_,Nat.le_refl _,by rw[keep g l2 n4 (Ne.symm n1)];exact h.g,?_,?_,?_,?_,?_,?_,?_,?_,?_⟩
 .rw[Jg n2];show(w1.alloc (.map ses sclk)).heap[r]?=_
  rw[Ks (by omega)];exact hit
 .rw[Zeb (by show o < (w1.alloc (.map ses sclk)).heap.size;simp;omega),hX]
 .refine(stamped_iff _ _).2 ⟨fun x hx=>?_,?_,?_⟩
  .rw[Array.toList_push,List.mem_append] at hx;rcases hx with hx|hx
   .exact Nat.lt_succ_of_lt (hst2.1 x hx)
   .have:x={ key:=e.key,val:=.map (some wr.heap.size),born:=ck }:=by simpa using hx
    rw[this];exact Nat.lt_succ_self _
  .rw[Array.toList_push,List.map_append,List.nodup_append];refine⟨hst2.2.1,by simp,fun a ha c hc=>?_⟩;have hc:c=ck:=by simpa using hc
   obtain⟨x,hx,rfl⟩:=List.mem_map.1 ha;have:=hst2.1 x hx;omega
  .rw[Array.toList_push,List.pairwise_append];refine⟨hst2.2.2,by simp,fun x hx y hy=>?_⟩;have:y={ key:=e.key,val:=.map (some wr.heap.size),born:=ck }:=by simpa using hy
   rw[this];exact hk x hx
 .rw[Array.toList_push,List.map_append,List.map_append,h.ent];rfl
 .rw[List.map_append,h.sn,Array.toList_push];rfl
 .intro p hp;rcases List.mem_append.1 hp with hp|hp
  .obtain⟨h1,sb',ses',sclk',h2,h4,h3⟩:=h.mem p hp;have hp2:p.2∈L.map (·.2):=List.mem_map.2 ⟨p,hp,rfl⟩;exact⟨h1,sb',ses',sclk',h2,h4,by rw[keep p.2 (hLlt p hp) (fun e1=>n6 (e1 ▸ hp2)) (fun e1=>n3 (e1 ▸ hp2))];exact h3⟩
  .have:p=(e,wr.heap.size):=by simpa using hp
   subst this;refine⟨he1,sb,ses,sclk,hev,hsb,?_⟩;rw[Jg (by show wr.heap.size≠o;omega)];show(w1.alloc (.map ses sclk)).heap[wr.heap.size]?=_
   rw[<- hsz];exact(MapKept.heap_alloc w1 _).1
 .have hnew:∀ q∈r :: g :: o :: L.map (·.2),q≠wr.heap.size:=fun q hq=>by
   simp only[List.mem_cons] at hq;rcases hq with rfl|rfl|rfl|hq
   .omega
   .omega
   .omega
   .obtain⟨p,hp,rfl⟩:=List.mem_map.1 hq;exact Nat.ne_of_lt (hLlt p hp)
  have:r :: g :: o :: (L++[(e,wr.heap.size)]).map (·.2)=(r :: g :: o :: L.map (·.2))++[wr.heap.size]:=by simp
  rw[this,List.nodup_append];refine⟨h.nod,by simp,fun a ha c hc=>?_⟩;have hc:c=wr.heap.size:=by simpa using hc
  rw[hc];exact hnew a ha
 .intro q hq;have:r :: g :: o :: (L++[(e,wr.heap.size)]).map (·.2)=(r :: g :: o :: L.map (·.2))++[wr.heap.size]:=by simp
  rw[this] at hq;rcases List.mem_append.1 hq with hq|hq
  .exact hge q hq
  .have:q=wr.heap.size:=by simpa using hq
   rw[this];exact h.bel.size
 .rw[Array.toList_push,List.nodup_append];refine⟨h.snod,by simp,fun a ha c hc=>?_⟩;have hc:c=e.born:=by simpa using hc
  rw[hc];rintro rfl;exact he2 (by simpa using ha)
 .refine⟨(show w1.os=_ from hgr.os.trans h.bel.os),(show w1.tape=_ from hgr.tape.trans h.bel.tape),(show w1.output=_ from hgr.output.trans h.bel.output),?_,fun i hi=>?_⟩
  .rw[ZA3];show _<=(w1.alloc (.map ses sclk)).heap.size
   have:=h.bel.size;simp;omega
  .have ho:=hge o (by simp);have hr:=hge r (by simp);rw[keep i (Nat.lt_of_lt_of_le hi h.bel.size) (by omega) (by omega)];exact h.bel.block i hi
theorem CpR.left (h:CpR w b r g o es clock seen c0 en ck L el wr) (hb:w.heap[b]?=some (.map es clock)):wr.heap[b]?=some (.map es clock)/\wr.rangeLeft b r=(leftOf es seen).size:=by
 have hbl:b < w.heap.size:=(Array.getElem?_eq_some_iff.1 hb).1;have h1:wr.heap[b]?=some (.map es clock):=(h.bel.block b hbl).trans hb;refine⟨h1,?_⟩;simp only[World.rangeLeft,h1,h.it]
theorem CpR.perm (h:CpR w b r g o es clock seen c0 en ck L el wr) (hst:Go.MapKept.Stamped es clock) (hall:∀ x∈es.toList,x.born∈seen):(L.map (·.1)).Perm es.toList:=by
 have hst2:=(stamped_iff es clock).1 hst;have n1:(L.map (·.1)).Nodup:=by
  have:((L.map (·.1)).map (·.born)).Nodup:=by rw[List.map_map];exact h.sn ▸ h.snod
  exact List.Pairwise.of_map _ (fun a b h e=>h (congrArg _ e)) this
 have n2:es.toList.Nodup:=List.Pairwise.of_map _ (fun a b h e=>h (congrArg _ e)) hst2.2.1;refine(List.perm_ext_iff_of_nodup n1 n2).2 fun x=>⟨fun hx=>?_,fun hx=>?_⟩
 .obtain⟨p,hp,rfl⟩:=List.mem_map.1 hx;exact(h.mem p hp).1
 .have h1:x.born∈L.map (·.1.born):=by rw[h.sn];simpa using hall x hx
  obtain⟨p,hp,h2⟩:=List.mem_map.1 h1;have:p.1=x:=born_inj hst2.2.1 (h.mem p hp).1 hx h2;exact List.mem_map.2 ⟨p,hp,this⟩
end
set_option maxRecDepth 100000 in
theorem ZEL (hCl:Zia Tryz.prog 146):Zyy Tryz.prog 97 where
 c:=⟨Tryz.f97,Tryz.func97,by kernel_rfl,by kernel_rfl⟩
 run:=fun w gb b es clock hgb hcell hb hst hks hvs=>by
  have hmm:=@run_makeMap Tryz.prog;have hbl:b < w.heap.size:=(Array.getElem?_eq_some_iff.1 hb).1
  go_enter Tryz.func97,Tryz.ntmps97
  go_wp2_with (first
   | (at_range;refine Zpq _ rfl _ 214 rfl _ _ Tryz.underlying214 b es clock rfl ?_ ?_)
   | go_in)
  .rw[Ks (by simp;omega),Ks hbl];exact hb
  .go_frame
   have e1:((w.alloc (.map #[] 0)).alloc (.cells #[.map (some w.heap.size)] 216)).heap.size=w.heap.size+2:=by simp
   have e2:(w.alloc (.map #[] 0)).heap.size=w.heap.size+1:=by simp
   rw[e1]
   try rw[e2]
   go_loopw [4,5] (fun _ _ wr=>∃ seen c0 en ck L,CpR w b (w.heap.size+2) (w.heap.size+1) w.heap.size es clock seen c0 en ck L 216 wr) (fun _ _ wr=>wr.rangeLeft b (w.heap.size+2))
   case atStart=>
    refine⟨#[],clock,#[],0,[],?_⟩;have hA:=fun(w:World) (o:Obj)=>(MapKept.heap_alloc w o).1;refine⟨?_,Nat.le_refl _,?_,?_,⟨by simp,by simp,by simp⟩,rfl,rfl,by simp,by simp,?_,by simp,?_⟩
    .rw[<- e1];exact hA _ _
    .rw[Ks (by rw[e1];omega),<- e2];exact hA _ _
    .rw[Ks (by rw[e1];omega),Ks (by rw[e2];omega)];exact hA _ _
    .intro q hq;simp only[List.map_nil,List.mem_cons,List.not_mem_nil,or_false] at hq;omega
    .exact(((Below.refl _ _).alloc (Nat.le_refl _) _).alloc (by rw[e2];omega) _).alloc (by rw[e1];omega) _
   case round=>
    obtain⟨seen,c0,en,ck,L,hR⟩:=hrel
    go_wp2_with (first
     | (at_next;refine Zr4 _ rfl _ rfl b (w.heap.size+2) clock c0 clock seen es rfl hR.it ?_ hst rfl hR.c0 ?_ ?_)
     | go_in)
    .exact(hR.left hb).1
    .intro hdone
     go_wp2
     go_ret
     have hp:=hR.perm hst (by simpa using hdone);have hnod:=hR.nod;have hge:=hR.ge;exact⟨_,_,_,_,_,_,rfl,hR.g,hR.o,hR.st,hR.ent,hp,fun p hp=>(by obtain⟨_,sb,ses,sclk,h1,h2,h3⟩:=hR.mem p hp;exact⟨sb,h1,h3.trans h2.symm⟩),(List.nodup_cons.1 hnod).2,fun q hq=>hge q (List.mem_cons_of_mem _ hq),hR.bel⟩
    .intro e w1 he1 he2 hit1 hlt hgr hsz hen
     go_upto_region 5 with fail
     have he1:e∈es.toList:=by simpa using he1
     obtain⟨sb,ses,sclk,hev,hsb⟩:=hvs e he1;obtain⟨k,hek⟩:=hks e he1;obtain⟨W2,hcg,hcg2,hsz1,hsb1,hmu,hW2⟩:∃ W2,w1.cell? ⟨w.heap.size+1,0,none⟩=some (.map (some w.heap.size))/\(w1.alloc (.map ses sclk)).cell? ⟨w.heap.size+1,0,none⟩=some (.map (some w.heap.size))/\w.heap.size+1 < wr.heap.size/\w1.heap[sb]?=some (.map ses sclk)/\
       (Instr.mapUpdate 214 (.map (some w.heap.size)) (strv k) (.map (some wr.heap.size))).run Tryz.prog (w1.alloc (.map ses sclk)).drew=.ok () W2/\W2=setB (w1.alloc (.map ses sclk)).drew w.heap.size (.map (en.push { key:=strv k,val:=.map (some wr.heap.size),born:=ck }) (ck+1)):=by
      have hw:w.heap.size < wr.heap.size:=(Array.getElem?_eq_some_iff.1 hR.o).1;have hg1:w1.heap[w.heap.size+1]?=some (.cells #[.map (some w.heap.size)] 216 (0,0)):=by
       rw[hgr.block _ (Array.getElem?_eq_some_iff.1 hR.g).1 (by simp)];exact hR.g
      have ho1:w1.heap[w.heap.size]?=some (.map en ck):=by
       rw[hgr.block _ hw (by simp)];exact hR.o
      have hcg:w1.cell? ⟨w.heap.size+1,0,none⟩=some (.map (some w.heap.size)):=by
       rw[Zhn hg1];rfl
      have hsbl:sb < w.heap.size:=(Array.getElem?_eq_some_iff.1 hsb).1;have hsb1:w1.heap[sb]?=some (.map ses sclk):=by
       rw[hgr.block _ (by omega) (by simp;omega),hR.bel.block sb hsbl];exact hsb
      have hoD:(w1.alloc (.map ses sclk)).drew.heap[w.heap.size]?=some (.map en ck):=by
       show(w1.alloc (.map ses sclk)).heap[w.heap.size]?=_
       rw[Ks (by omega)];exact ho1
      have hkn:∀ x∈en.toList,∃ k',x.key=strv k'/\k'≠k:=fun x hx=>by
       have h3:(x.key,x.val)∈L.map (fun p=>(p.1.key,Value.map (some p.2))):=by rw[<- hR.ent];exact List.mem_map.2 ⟨x,hx,rfl⟩
       obtain⟨p,hp,h4⟩:=List.mem_map.1 h3;simp only[Prod.mk.injEq] at h4;obtain⟨hm,_⟩:=hR.mem p hp;obtain⟨k',hk'⟩:=hks p.1 hm;refine⟨k',by rw[<- h4.1];exact hk',fun e4=>he2 ?_⟩;have h5:p.1=e:=entry_eq_of_key ((stamped_iff es clock).1 hst).2.2 hm he1 (by rw[hk',hek,e4]);have:p.1.born∈seen.toList:=by rw[<- hR.sn];exact List.mem_map.2 ⟨p,hp,rfl⟩
       rw[h5] at this;simpa using this
      obtain⟨W2,hmu,hW2⟩:=Zxo (P:=Tryz.prog) (t:=214) (k:=k) (v:=.map (some wr.heap.size)) Tryz.underlying214 (by kernel_rfl) hoD hkn;have hs1:w.heap.size+1 < wr.heap.size:=(Array.getElem?_eq_some_iff.1 hR.g).1;have hg2:(w1.alloc (.map ses sclk)).heap[w.heap.size+1]?=some (.cells #[.map (some w.heap.size)] 216 (0,0)):=by
       rw[Ks (by omega)];exact hg1
      exact⟨W2,hcg,by rw[Zhn hg2];rfl,hs1,hsb1,hmu,hW2⟩
     rw[hev,hek]
     go_region_with (first
      | (go_at_call 146;refine(hCl.some sb ses sclk _ ?_).mono ?_;exact hsb1;rintro e w' ⟨rfl,rfl⟩)
      | fail)
     .have hN:=hR.next hst he1 he2 hev hsb hit1 hgr hsz;rw[hek] at hN
      go_roundw
      case rel=>(repeat apply Exists.intro);exact⟨⟨_,_,_,_,_,hN⟩,rfl⟩
      case measure=>rw[(hN.left hb).2,(hR.left hb).2];exact hlt
     .have hN:=hR.next hst he1 he2 hev hsb hit1 hgr hsz;rw[hek] at hN
      go_roundw
      case rel=>(repeat apply Exists.intro);exact⟨⟨_,_,_,_,_,hN⟩,rfl⟩
      case measure=>rw[(hN.left hb).2,(hR.left hb).2];exact hlt
end
end Go.Proofs.YtgfbgfafajiehaaGreatDoor.A
namespace Go.Proofs
open Go.RowKit Go.Maps Go.Sort Go.Shelf
def Tryz.cloneA_ren:Go.Shelf.Ren:=⟨fun|5=>94|7=>144|n=>n,fun|23=>118|25=>9|3=>9|4=>4|20=>20|n=>n,fun|n=>n⟩
theorem Tryz.cloneA:Go.Proofs.SlLaysW.n5 Tryz.prog Tryz.cloneA_ren:={
 mixed:=by kernel_rfl
 f5:=⟨Tryz.f94.name,by decide,Tryz.func94.trans (congrArg some (by kernel_rfl))⟩
 f7:=Tryz.func144.trans (congrArg some (by kernel_rfl))
 t4:=Tryz.underlying4
 a4:=Tryz.isAgg4
 z4:=Tryz.sizeOf4
 v4:=Tryz.zeroValue4
 t20:=Tryz.underlying20
 a20:=Tryz.isAgg20
 z20:=Tryz.sizeOf20
 v20:=Tryz.zeroValue20
 t23:=Tryz.underlying118
 a23:=Tryz.isAgg118
 z23:=Tryz.sizeOf118
 v23:=Tryz.zeroValue118 }
def Tryz.cloneB_ren:Go.Shelf.Ren:=⟨fun|5=>95|7=>144|n=>n,fun|23=>160|25=>9|3=>163|4=>4|20=>20|n=>n,fun|n=>n⟩
theorem Tryz.cloneB:Go.Proofs.SlLaysW.n5 Tryz.prog Tryz.cloneB_ren:={
 mixed:=by kernel_rfl
 f5:=⟨Tryz.f95.name,by decide,Tryz.func95.trans (congrArg some (by kernel_rfl))⟩
 f7:=Tryz.func144.trans (congrArg some (by kernel_rfl))
 t4:=Tryz.underlying4
 a4:=Tryz.isAgg4
 z4:=Tryz.sizeOf4
 v4:=Tryz.zeroValue4
 t20:=Tryz.underlying20
 a20:=Tryz.isAgg20
 z20:=Tryz.sizeOf20
 v20:=Tryz.zeroValue20
 t23:=Tryz.underlying160
 a23:=Tryz.isAgg160
 z23:=Tryz.sizeOf160
 v23:=Tryz.zeroValue160 }
def Tryz.cloneC_ren:Go.Shelf.Ren:=⟨fun|5=>146|7=>144|n=>n,fun|23=>218|25=>9|3=>220|4=>4|20=>20|n=>n,fun|n=>n⟩
theorem Tryz.cloneC:Go.Proofs.SlLaysW.n5 Tryz.prog Tryz.cloneC_ren:={
 mixed:=by kernel_rfl
 f5:=⟨Tryz.f146.name,by decide,Tryz.func146.trans (congrArg some (by kernel_rfl))⟩
 f7:=Tryz.func144.trans (congrArg some (by kernel_rfl))
 t4:=Tryz.underlying4
 a4:=Tryz.isAgg4
 z4:=Tryz.sizeOf4
 v4:=Tryz.zeroValue4
 t20:=Tryz.underlying20
 a20:=Tryz.isAgg20
 z20:=Tryz.sizeOf20
 v20:=Tryz.zeroValue20
 t23:=Tryz.underlying218
 a23:=Tryz.isAgg218
 z23:=Tryz.sizeOf218
 v23:=Tryz.zeroValue218 }
def Tryz.keysA_ren:Go.Shelf.Ren:=⟨fun|7=>158|10=>208|n=>n,fun|23=>118|26=>9|3=>9|28=>230|0=>0|27=>229|33=>265|4=>4|n=>n,fun|n=>n⟩
theorem Tryz.keysA:Go.Proofs.SlLaysZ.n7 Tryz.prog Tryz.keysA_ren:={
 mixed:=by kernel_rfl
 f7:=⟨Tryz.f158.name,by decide,Tryz.func158.trans (congrArg some (by kernel_rfl))⟩
 f10:=⟨Tryz.f208.name,by decide,Tryz.func208.trans (congrArg some (by kernel_rfl))⟩
 t0:=Tryz.underlying0
 a0:=Tryz.isAgg0
 z0:=Tryz.sizeOf0
 v0:=Tryz.zeroValue0
 t4:=Tryz.underlying4
 a4:=Tryz.isAgg4
 z4:=Tryz.sizeOf4
 v4:=Tryz.zeroValue4
 t23:=Tryz.underlying118
 a23:=Tryz.isAgg118
 z23:=Tryz.sizeOf118
 v23:=Tryz.zeroValue118
 t26:=Tryz.underlying9
 a26:=Tryz.isAgg9
 z26:=Tryz.sizeOf9
 v26:=Tryz.zeroValue9
 t27:=Tryz.underlying229
 a27:=Tryz.isAgg229
 z27:=Tryz.sizeOf229
 v27:=Tryz.zeroValue229
 t28:=Tryz.underlying230
 a28:=Tryz.isAgg230
 z28:=Tryz.sizeOf230
 v28:=Tryz.zeroValue230
 t33:=Tryz.underlying265
 a33:=Tryz.isAgg265
 z33:=Tryz.sizeOf265
 v33:=Tryz.zeroValue265 }
def Tryz.keysB_ren:Go.Shelf.Ren:=⟨fun|7=>165|10=>214|n=>n,fun|23=>160|26=>9|3=>163|28=>230|0=>0|27=>229|33=>265|4=>4|n=>n,fun|n=>n⟩
theorem Tryz.keysB:Go.Proofs.SlLaysZ.n7 Tryz.prog Tryz.keysB_ren:={
 mixed:=by kernel_rfl
 f7:=⟨Tryz.f165.name,by decide,Tryz.func165.trans (congrArg some (by kernel_rfl))⟩
 f10:=⟨Tryz.f214.name,by decide,Tryz.func214.trans (congrArg some (by kernel_rfl))⟩
 t0:=Tryz.underlying0
 a0:=Tryz.isAgg0
 z0:=Tryz.sizeOf0
 v0:=Tryz.zeroValue0
 t4:=Tryz.underlying4
 a4:=Tryz.isAgg4
 z4:=Tryz.sizeOf4
 v4:=Tryz.zeroValue4
 t23:=Tryz.underlying160
 a23:=Tryz.isAgg160
 z23:=Tryz.sizeOf160
 v23:=Tryz.zeroValue160
 t26:=Tryz.underlying9
 a26:=Tryz.isAgg9
 z26:=Tryz.sizeOf9
 v26:=Tryz.zeroValue9
 t27:=Tryz.underlying229
 a27:=Tryz.isAgg229
 z27:=Tryz.sizeOf229
 v27:=Tryz.zeroValue229
 t28:=Tryz.underlying230
 a28:=Tryz.isAgg230
 z28:=Tryz.sizeOf230
 v28:=Tryz.zeroValue230
 t33:=Tryz.underlying265
 a33:=Tryz.isAgg265
 z33:=Tryz.sizeOf265
 v33:=Tryz.zeroValue265 }
def Tryz.keysC_ren:Go.Shelf.Ren:=⟨fun|7=>213|10=>249|n=>n,fun|23=>214|26=>9|3=>218|28=>230|0=>0|27=>229|33=>265|4=>4|n=>n,fun|n=>n⟩
theorem Tryz.keysC:Go.Proofs.SlLaysZ.n7 Tryz.prog Tryz.keysC_ren:={
 mixed:=by kernel_rfl
 f7:=⟨Tryz.f213.name,by decide,Tryz.func213.trans (congrArg some (by kernel_rfl))⟩
 f10:=⟨Tryz.f249.name,by decide,Tryz.func249.trans (congrArg some (by kernel_rfl))⟩
 t0:=Tryz.underlying0
 a0:=Tryz.isAgg0
 z0:=Tryz.sizeOf0
 v0:=Tryz.zeroValue0
 t4:=Tryz.underlying4
 a4:=Tryz.isAgg4
 z4:=Tryz.sizeOf4
 v4:=Tryz.zeroValue4
 t23:=Tryz.underlying214
 a23:=Tryz.isAgg214
 z23:=Tryz.sizeOf214
 v23:=Tryz.zeroValue214
 t26:=Tryz.underlying9
 a26:=Tryz.isAgg9
 z26:=Tryz.sizeOf9
 v26:=Tryz.zeroValue9
 t27:=Tryz.underlying229
 a27:=Tryz.isAgg229
 z27:=Tryz.sizeOf229
 v27:=Tryz.zeroValue229
 t28:=Tryz.underlying230
 a28:=Tryz.isAgg230
 z28:=Tryz.sizeOf230
 v28:=Tryz.zeroValue230
 t33:=Tryz.underlying265
 a33:=Tryz.isAgg265
 z33:=Tryz.sizeOf265
 v33:=Tryz.zeroValue265 }
def Tryz.keysD_ren:Go.Shelf.Ren:=⟨fun|7=>254|10=>273|n=>n,fun|23=>217|26=>9|3=>220|28=>230|0=>0|27=>229|33=>265|4=>4|n=>n,fun|n=>n⟩
theorem Tryz.keysD:Go.Proofs.SlLaysZ.n7 Tryz.prog Tryz.keysD_ren:={
 mixed:=by kernel_rfl
 f7:=⟨Tryz.f254.name,by decide,Tryz.func254.trans (congrArg some (by kernel_rfl))⟩
 f10:=⟨Tryz.f273.name,by decide,Tryz.func273.trans (congrArg some (by kernel_rfl))⟩
 t0:=Tryz.underlying0
 a0:=Tryz.isAgg0
 z0:=Tryz.sizeOf0
 v0:=Tryz.zeroValue0
 t4:=Tryz.underlying4
 a4:=Tryz.isAgg4
 z4:=Tryz.sizeOf4
 v4:=Tryz.zeroValue4
 t23:=Tryz.underlying217
 a23:=Tryz.isAgg217
 z23:=Tryz.sizeOf217
 v23:=Tryz.zeroValue217
 t26:=Tryz.underlying9
 a26:=Tryz.isAgg9
 z26:=Tryz.sizeOf9
 v26:=Tryz.zeroValue9
 t27:=Tryz.underlying229
 a27:=Tryz.isAgg229
 z27:=Tryz.sizeOf229
 v27:=Tryz.zeroValue229
 t28:=Tryz.underlying230
 a28:=Tryz.isAgg230
 z28:=Tryz.sizeOf230
 v28:=Tryz.zeroValue230
 t33:=Tryz.underlying265
 a33:=Tryz.isAgg265
 z33:=Tryz.sizeOf265
 v33:=Tryz.zeroValue265 }
def Tryz.collA_ren:Go.Shelf.Ren:=⟨fun|8=>206|11=>245|n=>n,fun|26=>9|28=>230|24=>37|0=>0|33=>265|4=>4|n=>n,fun|n=>n⟩
theorem Tryz.collA:Go.Proofs.SlLaysZ.n8 Tryz.prog Tryz.collA_ren:={
 mixed:=by kernel_rfl
 f8:=⟨Tryz.f206.name,by decide,Tryz.func206.trans (congrArg some (by kernel_rfl))⟩
 f11:=⟨Tryz.f245.name,by decide,Tryz.func245.trans (congrArg some (by kernel_rfl))⟩
 t0:=Tryz.underlying0
 a0:=Tryz.isAgg0
 z0:=Tryz.sizeOf0
 v0:=Tryz.zeroValue0
 t24:=Tryz.underlying37
 a24:=Tryz.isAgg37
 z24:=Tryz.sizeOf37
 v24:=Tryz.zeroValue37
 t26:=Tryz.underlying9
 a26:=Tryz.isAgg9
 z26:=Tryz.sizeOf9
 v26:=Tryz.zeroValue9
 t28:=Tryz.underlying230
 a28:=Tryz.isAgg230
 z28:=Tryz.sizeOf230
 v28:=Tryz.zeroValue230
 i26:=by kernel_rfl }
def Tryz.sortA_ren:Go.Shelf.Ren:=⟨fun|6=>207|15=>247|14=>246|28=>267|29=>268|20=>259|21=>260|22=>261|23=>262|24=>263|25=>264|26=>265|27=>266|46=>274|47=>275|48=>276|49=>277|50=>278|57=>286|n=>n,fun|22=>37|24=>9|25=>225|3=>3|39=>227|0=>0|53=>315|55=>27|4=>4|46=>309|45=>308|50=>197|5=>5|9=>9|66=>318|70=>322|76=>328|77=>329|n=>n,fun|n=>n⟩
theorem Tryz.sortA:Go.Proofs.SlLaysF.n6 Tryz.prog Tryz.sortA_ren:={
 mixed:=by kernel_rfl
 f6:=⟨Tryz.f207.name,by decide,Tryz.func207.trans (congrArg some (by kernel_rfl))⟩
 f14:=⟨Tryz.f246.name,by decide,Tryz.func246.trans (congrArg some (by kernel_rfl))⟩
 f15:=Tryz.func247.trans (congrArg some (by kernel_rfl))
 f20:=⟨Tryz.f259.name,by decide,Tryz.func259.trans (congrArg some (by kernel_rfl))⟩
 f21:=⟨Tryz.f260.name,by decide,Tryz.func260.trans (congrArg some (by kernel_rfl))⟩
 f22:=⟨Tryz.f261.name,by decide,Tryz.func261.trans (congrArg some (by kernel_rfl))⟩
 f23:=⟨Tryz.f262.name,by decide,Tryz.func262.trans (congrArg some (by kernel_rfl))⟩
 f24:=⟨Tryz.f263.name,by decide,Tryz.func263.trans (congrArg some (by kernel_rfl))⟩
 f25:=⟨Tryz.f264.name,by decide,Tryz.func264.trans (congrArg some (by kernel_rfl))⟩
 f26:=⟨Tryz.f265.name,by decide,Tryz.func265.trans (congrArg some (by kernel_rfl))⟩
 f27:=⟨Tryz.f266.name,by decide,Tryz.func266.trans (congrArg some (by kernel_rfl))⟩
 f28:=Tryz.func267.trans (congrArg some (by kernel_rfl))
 f29:=Tryz.func268.trans (congrArg some (by kernel_rfl))
 f46:=⟨Tryz.f274.name,by decide,Tryz.func274.trans (congrArg some (by kernel_rfl))⟩
 f47:=Tryz.func275.trans (congrArg some (by kernel_rfl))
 f48:=Tryz.func276.trans (congrArg some (by kernel_rfl))
 f49:=⟨Tryz.f277.name,by decide,Tryz.func277.trans (congrArg some (by kernel_rfl))⟩
 f50:=⟨Tryz.f278.name,by decide,Tryz.func278.trans (congrArg some (by kernel_rfl))⟩
 f57:=⟨Tryz.f286.name,by decide,Tryz.func286.trans (congrArg some (by kernel_rfl))⟩
 t0:=Tryz.underlying0
 a0:=Tryz.isAgg0
 z0:=Tryz.sizeOf0
 v0:=Tryz.zeroValue0
 t3:=Tryz.underlying3
 a3:=Tryz.isAgg3
 z3:=Tryz.sizeOf3
 v3:=Tryz.zeroValue3
 t4:=Tryz.underlying4
 a4:=Tryz.isAgg4
 z4:=Tryz.sizeOf4
 v4:=Tryz.zeroValue4
 t5:=Tryz.underlying5
 a5:=Tryz.isAgg5
 z5:=Tryz.sizeOf5
 v5:=Tryz.zeroValue5
 t9:=Tryz.underlying9
 a9:=Tryz.isAgg9
 z9:=Tryz.sizeOf9
 v9:=Tryz.zeroValue9
 t22:=Tryz.underlying37
 a22:=Tryz.isAgg37
 z22:=Tryz.sizeOf37
 v22:=Tryz.zeroValue37
 a24:=Tryz.isAgg9
 z24:=Tryz.sizeOf9
 t25:=Tryz.underlying225
 a25:=Tryz.isAgg225
 z25:=Tryz.sizeOf225
 v25:=Tryz.zeroValue225
 t39:=Tryz.underlying227
 a39:=Tryz.isAgg227
 z39:=Tryz.sizeOf227
 v39:=Tryz.zeroValue227
 t45:=Tryz.underlying308
 a45:=Tryz.isAgg308
 z45:=Tryz.sizeOf308
 v45:=Tryz.zeroValue308
 t46:=Tryz.underlying309
 a46:=Tryz.isAgg309
 z46:=Tryz.sizeOf309
 v46:=Tryz.zeroValue309
 t50:=Tryz.underlying197
 a50:=Tryz.isAgg197
 z50:=Tryz.sizeOf197
 v50:=Tryz.zeroValue197
 t53:=Tryz.underlying315
 a53:=Tryz.isAgg315
 z53:=Tryz.sizeOf315
 v53:=Tryz.zeroValue315
 t55:=Tryz.underlying27
 a55:=Tryz.isAgg27
 z55:=Tryz.sizeOf27
 v55:=Tryz.zeroValue27
 t66:=Tryz.underlying318
 a66:=Tryz.isAgg318
 z66:=Tryz.sizeOf318
 v66:=Tryz.zeroValue318
 t70:=Tryz.underlying322
 a70:=Tryz.isAgg322
 z70:=Tryz.sizeOf322
 v70:=Tryz.zeroValue322
 t76:=Tryz.underlying328
 a76:=Tryz.isAgg328
 z76:=Tryz.sizeOf328
 v76:=Tryz.zeroValue328
 t77:=Tryz.underlying329
 a77:=Tryz.isAgg329
 z77:=Tryz.sizeOf329
 v77:=Tryz.zeroValue329 }
end Go.Proofs
namespace Go.Proofs.YtgfbgfafajiehaaGreatDoor.A
open Go.Proofs Go.Proofs.YtgfbgfafajiehaaGreatDoor
section
open Go.RowKit Go.Maps Go.Sort Go.Shelf Go.Proofs
theorem clA:Zia Tryz.prog 94 where
 c:=⟨Tryz.f94,Tryz.func94,by kernel_rfl,by kernel_rfl⟩
 nil:=fun w=>AnyW.maps_Clone_nil Tryz.cloneA w
 some:=fun b es clock w hb=>AnyW.maps_Clone Tryz.cloneA b es clock w hb
theorem clB:Zia Tryz.prog 95 where
 c:=⟨Tryz.f95,Tryz.func95,by kernel_rfl,by kernel_rfl⟩
 nil:=fun w=>AnyW.maps_Clone_nil Tryz.cloneB w
 some:=fun b es clock w hb=>AnyW.maps_Clone Tryz.cloneB b es clock w hb
theorem clC:Zia Tryz.prog 146 where
 c:=⟨Tryz.f146,Tryz.func146,by kernel_rfl,by kernel_rfl⟩
 nil:=fun w=>AnyW.maps_Clone_nil Tryz.cloneC w
 some:=fun b es clock w hb=>AnyW.maps_Clone Tryz.cloneC b es clock w hb
def Zdl (x y:List UInt8):Int:=if x < y then -1 else if y < x then 1 else 0
theorem ZDQ (x:List UInt8) (w:World):Calls Tryz.prog 244 #[encStr x] w fun e w'=>e=.returned (.bool false)/\w'=w:=by
 go_enter Tryz.func244,Tryz.ntmps244
 go_wp2
 go_ret
 exact⟨by simp,rfl⟩
theorem ZmX (x y:List UInt8):x < y\/x=y\/y < x:=by
 by_cases h:x < y
 .exact .inl h
 .by_cases h2:y < x
  .exact .inr (.inr h2)
  .exact .inr (.inl (List.le_antisymm h2 h))
theorem ZA1 (x y:List UInt8) (w:World):Calls Tryz.prog 201 #[encStr x,encStr y] w fun e w'=>e=.returned (.int .i64 (Zdl x y))/\w'=w:=by
 have e244:∀ args w,(callFunc 244 args).run Tryz.prog w=.ok (.enter 244 args) w:=enters_of Tryz.func244 (by kernel_rfl) rfl;have hb:Op.bytesLess x y=decide (x < y):=bytesLess_eq x y;have ht:=ZmX x y;have hn:∀ a:List UInt8,¬ a < a:=fun a=>List.lt_irrefl a;have has:x < y->¬ y < x:=fun h=>List.lt_asymm h
 go_enter Tryz.func201,Tryz.ntmps201
 go_wp2_with (go_at_call 244;refine(ZDQ _ _).mono ?_;rintro e w' ⟨rfl,hw⟩;rw[hw])
 all_goals (go_ret;refine⟨?_,rfl⟩;unfold Zdl;rw[hb] at *;by_cases h1:x < y<;>by_cases h2:y < x<;>simp_all<;>exact absurd h2 (List.lt_irrefl _))
theorem Zur (x y:List UInt8) (w:World):Calls Tryz.prog 150 #[encStr x,encStr y] w fun e w'=>e=.returned (.int .i64 (Zdl x y))/\w'=w:=by
 have e201:∀ args w,(callFunc 201 args).run Tryz.prog w=.ok (.enter 201 args) w:=enters_of Tryz.func201 (by kernel_rfl) rfl
 go_enter Tryz.func150,Tryz.ntmps150
 go_wp2_with (go_at_call 201;refine(ZA1 _ _ _).mono ?_;rintro e w' ⟨rfl,hw⟩;rw[hw])
 go_ret
 exact⟨rfl,rfl⟩
theorem ZC3 (blk off size:Nat) (w:World):CmpLays1 Tryz.prog 150 #[] encStr Zdl blk off size w:=fun m os dk hd x y=>
 (Zur x y _).mono fun e w' ⟨he,hw⟩=>⟨he,0,#[],by rw[hw];simp[grow,World.drewN]⟩
theorem Ziz (x y:List UInt8):ltOf Zdl x y=decide (x < y):=by
 unfold ltOf Zdl;by_cases h1:x < y
 .simp[h1]
 .by_cases h2:y < x<;>simp[h1,h2]
theorem ZF3:SWO (ltOf Zdl) where
 irrefl x:=by rw[Ziz];exact decide_eq_false (List.lt_irrefl x)
 trans x y z h1 h2:=by rw[Ziz] at *;simp only[decide_eq_true_eq] at *;exact List.lt_trans h1 h2
 ntrans x y z h1 h2:=by
  rw[Ziz] at *;simp only[decide_eq_false_iff_not] at *;exact List.le_trans h2 h1
theorem ZzO {ss:List (List UInt8)} {d':Array (List UInt8)} (hp:PermIn 0 ss.toArray.size ss.toArray d') (hs:SortedIn (ltOf Zdl) 0 ss.toArray.size d'):d'=(ss.mergeSort fun x y=>decide (x<=y)).toArray:=by
 have hsz:d'.size=ss.length:=by simpa using hp.1
 have hperm:d'.toList.Perm ss:=by
  have h3:d'.toList.Perm (ss.take d'.size):=by simpa[<- hsz] using hp.2.2
  rwa [List.take_of_length_le (by omega)] at h3
 have hpw:d'.toList.Pairwise fun x y=>(decide (x<=y))=true:=by
  rw[List.pairwise_iff_getElem];intro i j hi hj hij;have hi':i < d'.size:=by simpa using hi
  have hj':j < d'.size:=by simpa using hj
  have:=hs i j (Nat.zero_le _) hij (by simpa[hsz] using hj');rw[Ziz,getElem!_pos d' j hj',getElem!_pos d' i hi'] at this;simp only[decide_eq_false_iff_not] at this;simp only[Array.getElem_toList,decide_eq_true_eq];exact this
 have h1:d'.toList.mergeSort (fun x y=>decide (x<=y))=d'.toList:=List.mergeSort_of_pairwise hpw;have h2:=mergeSort_of_perm hperm
 apply Array.ext'
 rw[<- h1];exact h2
theorem ZCs {g:FuncId} {args:List Value} {v:Value} {n:Nat} (hg:g < Kn) (hc:Zbc Tryz.prog g) (hx:∀ w:World,RVs (ι0 Tryz.prog.globals.size) args args) (hrun:∃ H',run Tryz.prog (fun _=>none) lvs n g args (List.replicate Tryz.prog.globals.size Ze.dead)=some (v,H')) (w:World) :
  Calls Tryz.prog g args.toArray w fun e w'=>∃ v',e=.returned v'/\Go.RowKit.Below w.heap.size w w':=by
 obtain⟨H',hrun⟩:=hrun;have hs:=ZbY (P:=Tryz.prog) (prim:=fun _=>none) (lvs:=lvs) (by kernel_rfl) (fun b g m h=>by cases h) n (b0 w) g args _ v H' hrun;rcases hs with⟨_,hC|⟨e,⟨fn',h1,_,h2,_⟩,_⟩⟩|⟨hno,_⟩
 .obtain⟨_,hC⟩:=hC;refine(hC (ι0 Tryz.prog.globals.size) w args ZF9 (hx w)).mono fun e w' ⟨ι1,v',_,he,_,hS⟩=>⟨v',he,?_⟩;exact⟨hS.rest.1,hS.rest.2.1,hS.rest.2.2,hS.size,hS.old⟩
 .obtain⟨fn,h3,_,h4⟩:=hc;rw[h3] at h1;cases h1;rw[h4] at h2;cases h2
 .exact absurd hg (Nat.not_lt_of_le hno)
noncomputable abbrev R0 (n:Nat):Zc:=run Tryz.prog (fun _=>none) lvs n
section
variable {H:Zd} {n:Nat} {f:Value}
theorem ZFl:R0 (n+1) Jd [.slice none 0 0,iv 0,iv 0,f] H=some (.tuple #[],H):=by
 rw[R0,ZcU rfl];unfold Qc;have w1:IntKind.i64.wrap (0+1)=1:=w64 (by omega) (by omega);rw[Za ZI,w1];refine(Q4 (j:=0) (vs:=[]) (H':=H) (Qq ?_)).trans ?_
 .simp[Qc.l1,↓Z7,Z5,↓QC,Qg,Qj,Qk,↓Zb,JS,Zg,Yq,Qp,Js,Qt,Jq,Jo,QN,Jz,QO,QT,QZ,Q0,QU,Zl,ZL,YY,YB,Jb,QL,JC,ZI,Q1,JU,JY,JO,ZE,Zn,Zt,Jj,Qm,Qo,JA,JG,Jy,JI,↓YV,JV,↓g_r,Y0,Bool.not_true,Bool.not_false,Bool.false_eq_true,Bool.true_eq_false,reduceIte,List.tail_cons,List.headD_cons,decide_true,decide_false,cond_true,cond_false,Nat.beq_refl,Wa,J1,Qv,ZV,ZM,Jf,YN,KS,Y5,KN,YO,YR,YP,ZP,List.replicate,Zp,Zq,QD,QY,QA,Zj,J4,Z9,ZF]
 .rw[ZP];rfl
theorem ZFu {l:Value}:R0 (n+2) QX [.slice none 0 0,iv 0,iv 0,l,f] H=some (.tuple #[],H):=by
 have e1:run Tryz.prog (fun _=>none) lvs (n+1) Jd [.slice none 0 0,iv 0,iv 0,f] H=_:=ZFl;rw[R0,ZeM rfl];unfold Jl;refine(KG (v:=.tuple #[]) (H':=H) (YA ?_)).trans rfl;have w1:IntKind.i64.wrap (0 - 0)=0:=w64 (by omega) (by omega);rw[KS];unfold Jl.l1;refine KG ?_;rw[Za Q1,w1,Za Jj,Zb,if_pos (by simp),Za e1];rfl
theorem ZD0 {s:ByteArray} {i:Nat} (hi:i < s.size) (q:IntKind) (H:Zd):∃ b:UInt8,ixs (.string s) (.int q i) H=some (.int .u8 b.toNat,H):=by
 refine⟨s[i],?_⟩;unfold ixs;simp only[Int.toNat_natCast];rw[if_pos (by omega),getElem?_pos s i hi]
set_option maxRecDepth 100000 in
theorem ZER:∃ v,R0 (n+2) ZdP [.int .u64 0] H=some (v,H):=by
 have e:∃ v,R0 (n+1) Zcz [.int .u64 0] H=some (v,H):=by
  rw[R0,ZnM rfl];unfold ZeY;have w1:IntKind.u8.wrap 0=((0:Nat):Int):=by rw[wu8];rfl
  generalize ht:(⟨#[0,1,2,2,3,3,3,3,4,4,4,4,4,4,4,4,5,5,5,5,5,5,5,5,5,5,5,5,5,5,5,5,6,6,6,6,6,6,6,6,6,6,6,6,6,6,6,6,6,6,6,6,6,6,6,6,6,6,6,6,6,6,6,6,7,7,7,7,7,7,7,7,7,7,7,7,7,7,7,7,7,7,7,7,7,7,7,7,7,7,7,7,7,7,7,7,7,7,7,7,7,7,7,7,7,7,7,7,7,7,7,7,7,7,7,7,7,7,7,7,7,7,7,7,7,7,7,7,8,8,8,8,8,8,8,8,8,8,8,8,8,8,8,8,8,8,8,8,8,8,8,8,8,8,8,8,8,8,8,8,8,8,8,8,8,8,8,8,8,8,8,8,8,8,8,8,8,8,8,8,8,8,8,8,8,8,8,8,8,8,8,8,8,8,8,8,8,8,8,8,8,8,8,8,8,8,8,8,8,8,8,8,8,8,8,8,8,8,8,8,8,8,8,8,8,8,8,8,8,8,8,8,8,8,8,8,8,8,8,8,8,8,8,8,8,8,8,8,8,8,8,8,8,8,8,8]⟩:ByteArray)=tab;have hs:tab.size=256:=by rw[<- ht];rfl
  obtain⟨b,hb⟩:=ZD0 (s:=tab) (i:=0) (by omega) .u8 H;refine⟨iv (IntKind.i64.wrap (0+IntKind.i64.wrap b.toNat)),?_⟩;rw[Za Qo];refine(ZJ (vs:=[.int .u64 0,iv 0]) (H':=H) (by rw[Zb,if_neg (by simp)];rfl)).trans ?_;rw[Qv,Za Qo];refine(ZJ (vs:=[.int .u64 0,iv 0]) (H':=H) (by rw[Zb,if_neg (by simp)];rfl)).trans ?_;rw[Qv,Za Qo];refine(ZJ (vs:=[.int .u64 0,iv 0]) (H':=H) (by rw[Zb,if_neg (by simp)];rfl)).trans ?_;rw[Qv,Za QU,w1,Za hb,Za QU,Za ZI];rfl
 obtain⟨v,e⟩:=e;refine⟨v,?_⟩;rw[R0,Zq4 rfl];unfold ZgH;rw[Zb,if_neg (by simp),Za e];rfl
theorem ZDk:R0 (n+3) Wn [.slice none 0 0,f] H=some (.tuple #[],H):=by
 obtain⟨v,e1⟩:=ZER (n:=n) (H:=H);have e2:R0 (n+2) QX [.slice none 0 0,iv 0,iv 0,v,f] H=some (.tuple #[],H):=ZFu;rw[R0,Zeu rfl];unfold Wo;have w1:IntKind.u64.wrap ((0:Nat):Int)=0:=by rw[ZBN];rfl
 rw[Za QZ,Za QU,w1,Za e1];refine(Za e2).trans rfl
end
theorem ZBz (w:World):Calls Tryz.prog 207 #[.slice none 0 0,.func (.func 150) #[] #[]] w fun e w'=>∃ v',e=.returned v'/\Go.RowKit.Below w.heap.size w w':=
 ZCs (args:=[.slice none 0 0,.func (.func 150) #[] #[]]) (n:=3) (by decide) ⟨Tryz.f207,Tryz.func207,by kernel_rfl,by kernel_rfl⟩ (fun w=>.cons (.sc rfl) (.cons (.fn (fun l h=>by cases h) rfl (fun i hi=>by cases hi) rfl (fun i hi=>by cases hi)) .nil)) ⟨_,ZDk (n:=0)⟩ w
theorem Zho {gk:FuncId} (hg:∀ args w,(callFunc gk args).run Tryz.prog w=.ok (.enter gk args) w)
  (hseq:∀ (w:World) (Bm b:Nat) (es:Array MapEntry) (clock:Nat) (ks:List (List UInt8)),Bm < w.heap.size->w.cell? ⟨Bm,0,none⟩=some (.map (some b))->w.heap[b]?=some (.map es clock)->es.toList.map (·.key)=ks.map strv->Go.MapKept.Stamped es clock->
   (∀ k∈ks,k.length<=1000000)->ks.length<=1000000->SeqGives Fence.wide 3 Tryz.prog gk #[.pointer (some ⟨Bm,0,none⟩)] encStr (fun ss=>ss.Perm ks) ks.length w):ZhB Tryz.prog 157 gk 150 where
 c:=⟨Tryz.f157,Tryz.func157,by kernel_rfl,by kernel_rfl⟩
 run:=fun w Bm b es clock ks hB hc hb hk hst hl hf=>by
  have e207:∀ args w,(callFunc 207 args).run Tryz.prog w=.ok (.enter 207 args) w:=enters_of Tryz.func207 (by kernel_rfl) rfl;have e150:∀ args w,(callFunc 150 args).run Tryz.prog w=.ok (.enter 150 args) w:=enters_of Tryz.func150 (by kernel_rfl) rfl;have hmax:ks.length<=maxLen:=Nat.le_trans hf (by decide);have cC:=AnyZ.collect_in Tryz.collA Fence.wide 5 trivial trivial rfl (by omega) gk #[.pointer (some ⟨Bm,0,none⟩)] trivial hg _ _ hmax (by omega) w (hseq w Bm b es clock ks hB hc hb hk hst hl hf);have cC:=(callsIn_wide (n:=5)).1 cC;change Calls Tryz.prog 206 _ _ _ at cC
  go_enter Tryz.func157,Tryz.ntmps157
  go_wp2_with (go_at_call 206;refine cC.mono ?_;rintro e W ⟨v,ss,rfl,hS,hrow,hnil,hbl⟩)
  have hlen:ss.length=ks.length:=hS.length_eq;rcases hrow.2 with⟨rfl,hz⟩|⟨gb,cap,cur,rfl,hbase,hgb,r1,r2,r3,r4⟩
  .have hss:ss=[]:=List.eq_nil_of_length_eq_zero hz
   go_wp2_with (go_at_call 207;refine(ZBz W).mono ?_;rintro e w' ⟨v',rfl,hb2⟩)
   go_ret
   have hks:ks=[]:=List.eq_nil_of_length_eq_zero (by rw[<- hlen,hss];rfl);subst hks;exact⟨_,0,rfl,⟨by simp[QK],.inl ⟨rfl,rfl⟩⟩,by simp,hbl.trans (hb2.mono (by have:=hbl.size;omega))⟩
  .have hH:Holds encStr W gb 0 ss.toArray:=holds_of_block hgb (by simpa using r4);have hgl:gb < W.heap.size:=(Array.getElem?_eq_some_iff.1 hgb).1;have cS:=Any.slices_SortFunc Tryz.sortA encStr (fun _=>rfl) Zdl ZF3 150 #[] gb 0 cap ss.toArray W e150 (ZC3 gb 0 _ W) hH hgl (by simp;omega);change Calls Tryz.prog 207 #[.slice (some ⟨gb,0,none⟩) ss.length cap,.func (.func 150) #[] #[]] W _ at cS
   go_wp2_with (go_at_call 207;refine cS.mono ?_;rintro e w' ⟨rfl,d',nn,os,hp,hs,rfl⟩)
   go_ret
   have hd:=ZzO hp hs;subst hd;have hks:QK ks=ss.mergeSort (fun x y=>decide (x<=y)):=(mergeSort_of_perm hS).symm;rw[<- hlen,hks];exact⟨_,_,rfl,ownsRow_sorted (by simp) hbase hgb r1 r2 r3,hnil.trans ⟨fun h=>List.eq_nil_of_length_eq_zero (by rw[<- hlen,h];rfl),fun h=>List.eq_nil_of_length_eq_zero (by rw[hlen,h];rfl)⟩,hbl.grown (grownBy_sorted _) hbl.size (fun j hj=>by cases hj;exact hbase)⟩
section
variable {H:Type}
def Zu3 (v:Value):Option (DataW H × List MemPlace):=some (.nil,[])
theorem own_of {P:Program} {k:TypeId} (hk:P.underlying k=some .string) {w:World} {b clock:Nat} {es:Array MapEntry} {ks:List (List UInt8)} (hb:w.heap[b]?=some (.map es clock)) (hks:es.toList.map (·.key)=ks.map strv) (hst:Go.MapKept.Stamped es clock)
  (hl:∀ k∈ks,k.length<=1000000) (hf:ks.length<=1000000):∃ D0:DataW H,w.ownsMap P k Zu3 b ks.length D0/\ks.Perm (strKeys D0)/\Maps.size D0=ks.length:=by
 have hsz:es.size=ks.length:=by
  have:=congrArg List.length hks;simpa using this
 have hrd:∀ (x:MapEntry) (s:List UInt8),x.key=strv s->s.length<=1000000->Go.WideElems.rd (H:=H) P k Zu3 x=some (.string s,.nil):=fun x s hs hlen=>by
  have h1:(⟨s.toArray⟩:ByteArray).size<=maxLen:=Nat.le_trans (by simpa[ByteArray.size] using hlen) (by decide);simp[Go.WideElems.rd,hs,keyOf,hk,mapKey,Zu3,h1,strv]
 have hmap:∀ (l:List MapEntry) (q:List (List UInt8)),l.map (·.key)=q.map strv->(∀ s∈q,s.length<=1000000)->l.map (Go.WideElems.rg (H:=H) P k Zu3)=q.map fun s=>(Lit.string s,DataW.nil):=by
  intro l
  induction l with
  | nil=>intro q h _;cases q with|nil=>rfl|cons a q=>simp at h
  | cons x l ih=>
   intro q h hq;cases q with
   | nil=>simp at h
   | cons a q=>
    simp only[List.map_cons,List.cons.injEq] at h;rw[List.map_cons,List.map_cons,ih q h.2 (fun s hs=>hq s (List.mem_cons_of_mem _ hs))]
    congr 1
    unfold Go.WideElems.rg;rw[hrd x a h.1 (hq a (by simp))];rfl
 refine⟨.map ((es.toList.map (Go.WideElems.rg P k Zu3)).foldr DataW.insert []),⟨es,clock,hb,⟨by rw[hsz];exact Nat.le_trans hf (by decide),hst,fun x hx=>?_⟩,by omega,rfl⟩,?_,?_⟩
 .have:x.key∈ks.map strv:=by rw[<- hks];exact List.mem_map.2 ⟨x,hx,rfl⟩
  obtain⟨s,h1,h2⟩:=List.mem_map.1 this;exact⟨_,hrd x s h2.symm (hl s h1)⟩
 .rw[hmap _ _ hks hl];have h1:=(Go.WideShapes.sorted_perm (H:=H) (ks.map fun s=>(Lit.string s,DataW.nil))).map fun p=>Go.strOf p.1;have h2:(ks.map fun s=>(Lit.string s,(DataW.nil:DataW H))).map (fun p=>Go.strOf p.1)=ks:=by
   rw[List.map_map];exact(List.map_congr_left fun a _=>rfl).trans (List.map_id ks)
  rw[h2] at h1;exact h1.symm
 .rw[hmap _ _ hks hl];have:=(Go.WideShapes.sorted_perm (H:=H) (ks.map fun s=>(Lit.string s,DataW.nil))).length_eq;rw[List.length_map] at this;exact this
end
theorem ZkA {g Bm n:Nat} {ks ks':List (List UInt8)} {w:World} (h:SeqGives Fence.wide 3 Tryz.prog g #[.pointer (some ⟨Bm,0,none⟩)] encStr (fun ss=>ss.Perm ks') n w) (hn:n=ks.length) (hp:ks.Perm ks'):SeqGives Fence.wide 3 Tryz.prog g #[.pointer (some ⟨Bm,0,none⟩)] encStr (fun ss=>ss.Perm ks) ks.length w:=by
 subst hn;intro l J W hW hJ hY h0;refine(h l J W hW hJ hY h0).mono fun e w' ⟨h1,xs,h2,h3⟩=>⟨h1,xs,h2.trans hp.symm,h3⟩
theorem keysA:ZhB Tryz.prog 157 208 150:=Zho (enters_of Tryz.func208 (by kernel_rfl) rfl) fun w Bm b es clock ks hB hc hb hk hst hl hf=>by
 obtain⟨D0,hown,hp,hs⟩:=own_of (H:=Unit) (P:=Tryz.prog) (k:=Tryz.keysA_ren.t 26) (by kernel_rfl) hb hk hst hl hf;exact ZkA (AnyZ.keys_gives (ρ:=Tryz.keysA_ren) { Tryz.keysA with } Fence.wide 3 trivial rfl (by omega) Bm b ks.length D0 w hB hc hown) hs hp
theorem keysB:ZhB Tryz.prog 157 214 150:=Zho (enters_of Tryz.func214 (by kernel_rfl) rfl) fun w Bm b es clock ks hB hc hb hk hst hl hf=>by
 obtain⟨D0,hown,hp,hs⟩:=own_of (H:=Unit) (P:=Tryz.prog) (k:=Tryz.keysB_ren.t 26) (by kernel_rfl) hb hk hst hl hf;exact ZkA (AnyZ.keys_gives (ρ:=Tryz.keysB_ren) { Tryz.keysB with } Fence.wide 3 trivial rfl (by omega) Bm b ks.length D0 w hB hc hown) hs hp
theorem keysC:ZhB Tryz.prog 157 249 150:=Zho (enters_of Tryz.func249 (by kernel_rfl) rfl) fun w Bm b es clock ks hB hc hb hk hst hl hf=>by
 obtain⟨D0,hown,hp,hs⟩:=own_of (H:=Unit) (P:=Tryz.prog) (k:=Tryz.keysC_ren.t 26) (by kernel_rfl) hb hk hst hl hf;exact ZkA (AnyZ.keys_gives (ρ:=Tryz.keysC_ren) { Tryz.keysC with } Fence.wide 3 trivial rfl (by omega) Bm b ks.length D0 w hB hc hown) hs hp
theorem keysD:ZhB Tryz.prog 157 273 150:=Zho (enters_of Tryz.func273 (by kernel_rfl) rfl) fun w Bm b es clock ks hB hc hb hk hst hl hf=>by
 obtain⟨D0,hown,hp,hs⟩:=own_of (H:=Unit) (P:=Tryz.prog) (k:=Tryz.keysD_ren.t 26) (by kernel_rfl) hb hk hst hl hf;exact ZkA (AnyZ.keys_gives (ρ:=Tryz.keysD_ren) { Tryz.keysD with } Fence.wide 3 trivial rfl (by omega) Bm b ks.length D0 w hB hc hown) hs hp
abbrev Zm2:Nat:=208
abbrev ZbH:List Nat:=[208,214,249,273]
noncomputable def np0:Nat->Option (List Value->M Value)
 | 94=>some Za1
 | 95=>some Za1
 | 146=>some Za1
 | 97=>some Zjx
 | 157=>some (Za7 ZbH Qa)
 | 287=>some ZkM
 | 285=>some Zkq
 | _=>none
theorem Zm8 (w0:ZY):∀ g m,np0 g=some m->Zaw Tryz.prog Tryz.prog.globals.size w0 g m:=by
 intro g m h;unfold np0 at h;split at h
 .cases h;exact Zjh clA
 .cases h;exact Zjh clB
 .cases h;exact Zjh clC
 .cases h;exact Zzf (ZEL clC)
 .cases h;exact ZxB (by simp) fun gk hg=>by
   simp only[List.mem_cons,List.not_mem_nil,or_false] at hg;rcases hg with rfl|rfl|rfl|rfl
   .exact keysA
   .exact keysB
   .exact keysC
   .exact keysD
 .cases h;exact(ZyY ⟨Tryz.f287,Tryz.func287,by kernel_rfl,by kernel_rfl,by kernel_rfl,by kernel_rfl⟩)
 .cases h;exact(ZyZ ⟨Tryz.f285,Tryz.func285,by kernel_rfl,by kernel_rfl,by kernel_rfl,by kernel_rfl⟩)
 .cases h
end
def Zrf (gks:List FuncId) (gc:FuncId) (args:List Value):M Value:=fun H=>
 match args with
 | [.func (.func gk) a b,.func (.func g2) a2 b2]=>match a.toList,b.toList,a2.toList,b2.toList with
  | [],[.pointer (some ⟨c,0,none⟩)],[],[]=>bif gks.any (Nat.beq gk) && Nat.beq g2 gc then(match H[c]? with
   | some (.cells [.map (some id)] _ false false)=>(match H[id]? with
    | some (.map [] _)=>some (.slice none 0 0,H)
    | _=>none)
   | _=>none) else none
  | _,_,_,_=>none
 | _=>none
theorem ZyR {gks:List FuncId} {gc:FuncId} {args:List Value}:Ref (Zrf gks gc args) (Za7 gks gc args):=by
 intro H x h;unfold Zrf at h;split at h
 .rename_i gk a b g2 a2 b2;split at h
  .rename_i c h1 h2 h3 h4;have e1:a=#[]:=by apply Array.ext';exact h1
   have e2:b=#[pt c]:=by apply Array.ext';exact h2
   have e3:a2=#[]:=by apply Array.ext';exact h3
   have e4:b2=#[]:=by apply Array.ext';exact h4
   subst e1;subst e2;subst e3;subst e4;cases hb:(gks.any (Nat.beq gk) && Nat.beq g2 gc) with
   | false=>rw[hb] at h;cases h
   | true=>
    rw[hb] at h;simp only[Bool.and_eq_true] at hb;obtain⟨hb1,hb2⟩:=hb;have:=Nat.eq_of_beq_eq_true hb2;subst this;obtain⟨u,hu,hbq⟩:=List.any_eq_true.1 hb1;have:=Nat.eq_of_beq_eq_true hbq;subst this;simp only[cond_true] at h;split at h
    .rename_i id es hc;split at h
     .rename_i clk hid;cases h;rw[ZpE (es:=[]) (ks:=[]) hu hc ⟨rfl,List.nodup_nil,by simp,by simp⟩ (.inl ⟨clk,hid,by simp,by simp⟩)];rfl
     .cases h
    .cases h
  .cases h
 .cases h
noncomputable def npC:Nat->Option (List Value->M Value):=fun g=>
 match np0 g with
 | none=>none
 | some m=>bif Nat.beq g ZO then some (Zrf ZbH Qa) else some fun _=>fail
def gl:List Ze:=[.cells (signsG.map fun s=>.string ⟨s.toArray⟩) 1 false true,.dead,.dead,.dead]
where signsG:List (List UInt8):=[[97,98],[97],[97,98],[97],[97],[97,98],[97],[97],[97,98],[97],[97],[97,98],[97,98],[97],[97],[],[110,114]]
def ans (x:Option (Value × Zd)):Nat:=match x with
 | some (.bool true,_)=>1
 | some (.bool false,_)=>2
 | some _=>3
 | none=>0
theorem ZCG {x:Option (Value × Zd)} (h:ans x=1):∃ H1,x=some (.bool true,H1):=by
 unfold ans at h;split at h
 .exact⟨_,rfl⟩
 all_goals simp at h
theorem ZAL:np0 ZO=some (Za7 ZbH Qa):=rfl
theorem ZFp:ZFo npC np0:=by
 intro g;cases h:np0 g with
 | none=>left;exact⟨by unfold npC;rw[h],rfl⟩
 | some m=>
  right
  cases e:Nat.beq g ZO with
  | true=>
   have:=Nat.eq_of_beq_eq_true e;subst this;refine⟨Zrf ZbH Qa,m,by unfold npC;rw[h];rfl,rfl,fun _=>?_⟩;have:Za7 ZbH Qa=m:=Option.some.inj (ZAL.symm.trans h);rw[<- this];exact ZyR
  | false=>exact⟨fun _=>fail,m,by unfold npC;rw[h];simp only[e,cond_false],rfl,fun _=>Ref.fail⟩
theorem gl_plain:Zju gl:=by
 intro g o h
 match g,h with
 | 0,h=>
  cases h;refine .inr ⟨_,_,_,rfl,fun v hv=>?_⟩;obtain⟨s,_,rfl⟩:=List.mem_map.1 hv;rfl
 | 1,h=>cases h;exact .inl rfl
 | 2,h=>cases h;exact .inl rfl
 | 3,h=>cases h;exact .inl rfl
 | g+4,h=>simp[gl] at h
theorem Zf1 {g:FuncId} (h:ans (Zne Tryz.prog npC lvs 1000 60 g [] gl)=1) (hgy:g < Kn) (hbody:∀ fn,Tryz.prog.funcs[g]?=some fn->fn.body.isNone=false) (w0:ZY):Zaw Tryz.prog Tryz.prog.globals.size w0 g (Zif gl (.bool true)):=by
 obtain⟨H1,h1⟩:=ZCG h;exact Zw1 (P:=Tryz.prog) (by kernel_rfl) Zm8 rfl gl_plain hgy hbody (v:=.bool true) rfl (n:=60) ⟨H1,Zie ZFp 1000 60 g [] gl _ h1⟩ w0
theorem ZC8 {H:Zd} (h:H.take gl.length=gl):Zif gl (.bool true) [] H=some (.bool true,H):=by
 unfold Zif;rw[if_pos ⟨rfl,h⟩]
def sgk (k:Nat):List UInt8:=gl.signsG.getD k []
def ZuQ (k:Nat) (a b:ByteArray) (nd rl:Int):Value:=
 .agg #[.int .u8 k,.string (if(sgk k).contains 97 then a else⟨#[]⟩),.string (if(sgk k).contains 98 then b else⟨#[]⟩),.int .u8 (if(sgk k).contains 110 then nd else 0),.int .u8 (if(sgk k).contains 114 then rl else 0)]
set_option maxRecDepth 1000000 in
theorem ZFd:∀ k,k < 17->∀ (a b:ByteArray) (nd rl:Int),(Zne Tryz.prog npC lvs 100 30 Zab [.agg #[.int .u8 (k:Nat),.string a,.string b,.int .u8 nd,.int .u8 rl]] gl).map Prod.fst=some (ZuQ k a b nd rl)
 | 0,_,a,b,nd,rl=>by kernel_rfl
 | 1,_,a,b,nd,rl=>by kernel_rfl
 | 2,_,a,b,nd,rl=>by kernel_rfl
 | 3,_,a,b,nd,rl=>by kernel_rfl
 | 4,_,a,b,nd,rl=>by kernel_rfl
 | 5,_,a,b,nd,rl=>by kernel_rfl
 | 6,_,a,b,nd,rl=>by kernel_rfl
 | 7,_,a,b,nd,rl=>by kernel_rfl
 | 8,_,a,b,nd,rl=>by kernel_rfl
 | 9,_,a,b,nd,rl=>by kernel_rfl
 | 10,_,a,b,nd,rl=>by kernel_rfl
 | 11,_,a,b,nd,rl=>by kernel_rfl
 | 12,_,a,b,nd,rl=>by kernel_rfl
 | 13,_,a,b,nd,rl=>by kernel_rfl
 | 14,_,a,b,nd,rl=>by kernel_rfl
 | 15,_,a,b,nd,rl=>by kernel_rfl
 | 16,_,a,b,nd,rl=>by kernel_rfl
 | k+17,h,_,_,_,_=>absurd h (by omega)
def Zre (args:List Value):Option Value:=
 match args with
 | [.agg cs]=>match cs.toList with
  | [.int .u8 k,.string a,.string b,.int .u8 nd,.int .u8 rl]=>if 0<=k/\k < 17 then some (ZuQ k.toNat a b nd rl) else none
  | _=>none
 | _=>none
theorem Zzi (w0:ZY):Zaw Tryz.prog Tryz.prog.globals.size w0 Zab (ZhD gl Zre):=by
 refine ZwB (P:=Tryz.prog) (prim:=np0) (lvs:=lvs) (by kernel_rfl) Zm8 rfl gl_plain (by decide) (fun fn hf=>by cases (Tryz.func41.symm.trans hf);rfl) (fun args v h=>?_) w0;unfold Zre at h;split at h
 .rename_i cs;split at h
  .rename_i k a b nd rl hcs;split at h
   .rename_i hk;cases h;have ec:cs=#[.int .u8 k,.string a,.string b,.int .u8 nd,.int .u8 rl]:=by apply Array.ext';exact hcs
    subst ec;obtain⟨m,rfl⟩:∃ m:Nat,k=(m:Int):=⟨k.toNat,(Int.toNat_of_nonneg hk.1).symm⟩;have hm:m < 17:=by have:=hk.2;omega
    refine⟨fun x hx=>?_,rfl,?_⟩
    .simp only[List.mem_singleton] at hx;subst hx;rfl
    .have hb:=ZFd m hm a b nd rl;obtain⟨r,hr,hv⟩:=Option.map_eq_some_iff.1 hb;refine⟨30,r.2,?_⟩;have:=Zie ZFp 100 30 Zab [.agg #[.int .u8 (m:Nat),.string a,.string b,.int .u8 nd,.int .u8 rl]] gl r hr;rw[Int.toNat_natCast,<- hv];exact this
   .cases h
  .cases h
 .cases h
set_option maxRecDepth 1000000 in
theorem ZDa:ans (Zne Tryz.prog npC lvs 1000 60 JN [] gl)=1:=by kernel_rfl
noncomputable def np:Nat->Option (List Value->M Value):=fun g=>
 bif Nat.beq g JN then some (Zif gl (.bool true)) else bif Nat.beq g Zab then some (ZhD gl Zre) else np0 g
theorem np_sound (w0:ZY) (g:FuncId) (m:List Value->M Value) (h:np g=some m):Zaw Tryz.prog Tryz.prog.globals.size w0 g m:=by
 unfold np at h;cases e:Nat.beq g JN with
 | true=>
  rw[e] at h;have:=Nat.eq_of_beq_eq_true e;subst this;cases h;exact Zf1 ZDa (by decide) (fun fn hf=>by cases (Tryz.func9.symm.trans hf);rfl) w0
 | false=>
  rw[e] at h;simp only[cond_false] at h;cases e2:Nat.beq g Zab with
  | true=>
   rw[e2] at h;have:=Nat.eq_of_beq_eq_true e2;subst this;cases h;exact Zzi w0
  | false=>rw[e2] at h;exact Zm8 w0 g m h
noncomputable abbrev R (n:Nat):Zc:=run Tryz.prog np lvs n
abbrev u8v (b:UInt8):Value:=.int .u8 b.toNat
def Zal (b:UInt8):Bool:=decide (97<=b.toNat) && decide (b.toNat<=122)
def ZcZ (b:UInt8):Bool:=decide (48<=b.toNat) && decide (b.toNat<=57)
def Zhp (b:UInt8):Bool:=Zal b || (ZcZ b || (decide (b.toNat=45) || decide (b.toNat=46)))
def ZsJ (b:UInt8):Bool:=ZcZ b || (decide (97<=b.toNat) && decide (b.toNat<=102))
def Zf7 (b:UInt8):Bool:=Zal b || ZcZ b
def Zw (s:List UInt8):Bool:=decide (1<=s.length) && decide (s.length<=12) && s.all Zhp && Zal (s.getD 0 0) && Zf7 (s.getD (s.length - 1) 0)
def Zff (s:List UInt8):Bool:=decide (s.length<=12) && s.all Zhp
def WD (s:List UInt8):Bool:=decide (1<=s.length) && decide (s.length<=12) && s.all ZsJ
section
variable {H:Zd} {n:Nat} {b:UInt8} {s:List UInt8}
theorem ZrK {i:Nat} {x:UInt8} (hi:s[i]?=some x) (q:IntKind) (H:Zd):ixs (strv s) (.int q i) H=some (u8v x,H):=by
 have hlt:i < s.length:=(List.getElem?_eq_some_iff.1 hi).1;have hx:s[i]=x:=(List.getElem?_eq_some_iff.1 hi).2;have hs:i < (⟨s.toArray⟩:ByteArray).size:=by simpa[ByteArray.size] using hlt
 unfold ixs strv;simp only[Int.toNat_natCast];rw[if_pos (by omega),getElem?_pos (⟨s.toArray⟩:ByteArray) i hs];have:(⟨s.toArray⟩:ByteArray)[i]=x:=by rw[<- hx];rfl
 rw[this]
theorem Zku:R (n+1) YU [u8v b] H=some (.bool (Zal b),H):=by
 rw[R,Zsq rfl];unfold Zal;by_cases h1:(97:Int)<=b.toNat
 .have h1':97<=b.toNat:=by omega
  by_cases h2:(b.toNat:Int)<=122
  .have h2':b.toNat<=122:=by omega
   simp[ZcL,↓Z7,Z5,↓QC,Qg,Qj,Qk,↓Zb,JS,Zg,Yq,Qp,Js,Qt,Jq,Jo,QN,Jz,QO,QT,QZ,Q0,QU,Zl,ZL,YY,YB,Jb,QL,JC,ZI,Q1,JU,JY,JO,ZE,Zn,Zt,Jj,Qm,Qo,JA,JG,Jy,JI,↓YV,JV,↓g_r,Y0,Bool.not_true,Bool.not_false,Bool.false_eq_true,Bool.true_eq_false,reduceIte,List.tail_cons,List.headD_cons,decide_true,decide_false,cond_true,cond_false,Nat.beq_refl,Wa,J1,Qv,ZV,ZM,Jf,YN,KS,Y5,KN,YO,YR,YP,ZP,List.replicate,Zp,Zq,QD,QY,QA,Zj,J4,Z9,ZF,h1,h2,h1',h2']
  .have h2':¬ b.toNat<=122:=by omega
   simp[ZcL,↓Z7,Z5,↓QC,Qg,Qj,Qk,↓Zb,JS,Zg,Yq,Qp,Js,Qt,Jq,Jo,QN,Jz,QO,QT,QZ,Q0,QU,Zl,ZL,YY,YB,Jb,QL,JC,ZI,Q1,JU,JY,JO,ZE,Zn,Zt,Jj,Qm,Qo,JA,JG,Jy,JI,↓YV,JV,↓g_r,Y0,Bool.not_true,Bool.not_false,Bool.false_eq_true,Bool.true_eq_false,reduceIte,List.tail_cons,List.headD_cons,decide_true,decide_false,cond_true,cond_false,Nat.beq_refl,Wa,J1,Qv,ZV,ZM,Jf,YN,KS,Y5,KN,YO,YR,YP,ZP,List.replicate,Zp,Zq,QD,QY,QA,Zj,J4,Z9,ZF,h1,h2,h1',h2']
 .have h1':¬ 97<=b.toNat:=by omega
  simp[ZcL,↓Z7,Z5,↓QC,Qg,Qj,Qk,↓Zb,JS,Zg,Yq,Qp,Js,Qt,Jq,Jo,QN,Jz,QO,QT,QZ,Q0,QU,Zl,ZL,YY,YB,Jb,QL,JC,ZI,Q1,JU,JY,JO,ZE,Zn,Zt,Jj,Qm,Qo,JA,JG,Jy,JI,↓YV,JV,↓g_r,Y0,Bool.not_true,Bool.not_false,Bool.false_eq_true,Bool.true_eq_false,reduceIte,List.tail_cons,List.headD_cons,decide_true,decide_false,cond_true,cond_false,Nat.beq_refl,Wa,J1,Qv,ZV,ZM,Jf,YN,KS,Y5,KN,YO,YR,YP,ZP,List.replicate,Zp,Zq,QD,QY,QA,Zj,J4,Z9,ZF,h1,h1']
theorem ZnI:R (n+1) Ko [u8v b] H=some (.bool (ZcZ b),H):=by
 rw[R,ZuJ rfl];unfold ZcZ;by_cases h1:(48:Int)<=b.toNat
 .have h1':48<=b.toNat:=by omega
  by_cases h2:(b.toNat:Int)<=57
  .have h2':b.toNat<=57:=by omega
   simp[ZdF,↓Z7,Z5,↓QC,Qg,Qj,Qk,↓Zb,JS,Zg,Yq,Qp,Js,Qt,Jq,Jo,QN,Jz,QO,QT,QZ,Q0,QU,Zl,ZL,YY,YB,Jb,QL,JC,ZI,Q1,JU,JY,JO,ZE,Zn,Zt,Jj,Qm,Qo,JA,JG,Jy,JI,↓YV,JV,↓g_r,Y0,Bool.not_true,Bool.not_false,Bool.false_eq_true,Bool.true_eq_false,reduceIte,List.tail_cons,List.headD_cons,decide_true,decide_false,cond_true,cond_false,Nat.beq_refl,Wa,J1,Qv,ZV,ZM,Jf,YN,KS,Y5,KN,YO,YR,YP,ZP,List.replicate,Zp,Zq,QD,QY,QA,Zj,J4,Z9,ZF,h1,h2,h1',h2']
  .have h2':¬ b.toNat<=57:=by omega
   simp[ZdF,↓Z7,Z5,↓QC,Qg,Qj,Qk,↓Zb,JS,Zg,Yq,Qp,Js,Qt,Jq,Jo,QN,Jz,QO,QT,QZ,Q0,QU,Zl,ZL,YY,YB,Jb,QL,JC,ZI,Q1,JU,JY,JO,ZE,Zn,Zt,Jj,Qm,Qo,JA,JG,Jy,JI,↓YV,JV,↓g_r,Y0,Bool.not_true,Bool.not_false,Bool.false_eq_true,Bool.true_eq_false,reduceIte,List.tail_cons,List.headD_cons,decide_true,decide_false,cond_true,cond_false,Nat.beq_refl,Wa,J1,Qv,ZV,ZM,Jf,YN,KS,Y5,KN,YO,YR,YP,ZP,List.replicate,Zp,Zq,QD,QY,QA,Zj,J4,Z9,ZF,h1,h2,h1',h2']
 .have h1':¬ 48<=b.toNat:=by omega
  simp[ZdF,↓Z7,Z5,↓QC,Qg,Qj,Qk,↓Zb,JS,Zg,Yq,Qp,Js,Qt,Jq,Jo,QN,Jz,QO,QT,QZ,Q0,QU,Zl,ZL,YY,YB,Jb,QL,JC,ZI,Q1,JU,JY,JO,ZE,Zn,Zt,Jj,Qm,Qo,JA,JG,Jy,JI,↓YV,JV,↓g_r,Y0,Bool.not_true,Bool.not_false,Bool.false_eq_true,Bool.true_eq_false,reduceIte,List.tail_cons,List.headD_cons,decide_true,decide_false,cond_true,cond_false,Nat.beq_refl,Wa,J1,Qv,ZV,ZM,Jf,YN,KS,Y5,KN,YO,YR,YP,ZP,List.replicate,Zp,Zq,QD,QY,QA,Zj,J4,Z9,ZF,h1,h1']
theorem ZoQ {a b:Nat}:((a:Int)==(b:Int))=decide (a=b):=by
 rw[Bool.eq_iff_iff,beq_iff_eq,decide_eq_true_eq];omega
theorem ZFr:R (n+2) Zc7 [u8v b] H=some (.bool (Zhp b),H):=by
 have e1:run Tryz.prog np lvs (n+1) YU [u8v b] H=some (.bool (Zal b),H):=Zku;have e2:run Tryz.prog np lvs (n+1) Ko [u8v b] H=some (.bool (ZcZ b),H):=ZnI;have q1:((b.toNat:Int)==45)=decide (b.toNat=45):=ZoQ (b:=45);have q2:((b.toNat:Int)==46)=decide (b.toNat=46):=ZoQ (b:=46);rw[R,Zvc rfl];unfold Zhp;generalize Zal b=p at e1 ⊢;generalize ZcZ b=q at e2 ⊢;cases p<;>cases q<;>cases h3:decide (b.toNat=45)<;>simp[Zkc,↓Z7,Z5,↓QC,Qg,Qj,Qk,↓Zb,JS,Zg,Yq,Qp,Js,Qt,Jq,Jo,QN,Jz,QO,QT,QZ,Q0,QU,Zl,ZL,YY,YB,Jb,QL,JC,ZI,Q1,JU,JY,JO,ZE,Zn,Zt,Jj,Qm,Qo,JA,JG,Jy,JI,↓YV,JV,↓g_r,Y0,Bool.not_true,Bool.not_false,Bool.false_eq_true,Bool.true_eq_false,reduceIte,List.tail_cons,List.headD_cons,decide_true,decide_false,cond_true,cond_false,Nat.beq_refl,Wa,J1,Qv,ZV,ZM,Jf,YN,KS,Y5,KN,YO,YR,YP,ZP,List.replicate,Zp,Zq,QD,QY,QA,Zj,J4,Z9,ZF,e1,e2,q1,q2,h3]<;>(cases h4:decide (b.toNat=46)<;>simp_all)
theorem ZFL:R (n+2) ZdD [u8v b] H=some (.bool (ZsJ b),H):=by
 have e2:run Tryz.prog np lvs (n+1) Ko [u8v b] H=some (.bool (ZcZ b),H):=ZnI;rw[R,Zt6 rfl];unfold ZsJ;generalize ZcZ b=q at e2 ⊢;cases q
 .by_cases h1:(97:Int)<=b.toNat
  .have h1':97<=b.toNat:=by omega
   by_cases h2:(b.toNat:Int)<=102
   .have h2':b.toNat<=102:=by omega
    simp[Zci,↓Z7,Z5,↓QC,Qg,Qj,Qk,↓Zb,JS,Zg,Yq,Qp,Js,Qt,Jq,Jo,QN,Jz,QO,QT,QZ,Q0,QU,Zl,ZL,YY,YB,Jb,QL,JC,ZI,Q1,JU,JY,JO,ZE,Zn,Zt,Jj,Qm,Qo,JA,JG,Jy,JI,↓YV,JV,↓g_r,Y0,Bool.not_true,Bool.not_false,Bool.false_eq_true,Bool.true_eq_false,reduceIte,List.tail_cons,List.headD_cons,decide_true,decide_false,cond_true,cond_false,Nat.beq_refl,Wa,J1,Qv,ZV,ZM,Jf,YN,KS,Y5,KN,YO,YR,YP,ZP,List.replicate,Zp,Zq,QD,QY,QA,Zj,J4,Z9,ZF,e2,h1,h2,h1',h2']
   .have h2':¬ b.toNat<=102:=by omega
    simp[Zci,↓Z7,Z5,↓QC,Qg,Qj,Qk,↓Zb,JS,Zg,Yq,Qp,Js,Qt,Jq,Jo,QN,Jz,QO,QT,QZ,Q0,QU,Zl,ZL,YY,YB,Jb,QL,JC,ZI,Q1,JU,JY,JO,ZE,Zn,Zt,Jj,Qm,Qo,JA,JG,Jy,JI,↓YV,JV,↓g_r,Y0,Bool.not_true,Bool.not_false,Bool.false_eq_true,Bool.true_eq_false,reduceIte,List.tail_cons,List.headD_cons,decide_true,decide_false,cond_true,cond_false,Nat.beq_refl,Wa,J1,Qv,ZV,ZM,Jf,YN,KS,Y5,KN,YO,YR,YP,ZP,List.replicate,Zp,Zq,QD,QY,QA,Zj,J4,Z9,ZF,e2,h1,h2,h1',h2']
  .have h1':¬ 97<=b.toNat:=by omega
   simp[Zci,↓Z7,Z5,↓QC,Qg,Qj,Qk,↓Zb,JS,Zg,Yq,Qp,Js,Qt,Jq,Jo,QN,Jz,QO,QT,QZ,Q0,QU,Zl,ZL,YY,YB,Jb,QL,JC,ZI,Q1,JU,JY,JO,ZE,Zn,Zt,Jj,Qm,Qo,JA,JG,Jy,JI,↓YV,JV,↓g_r,Y0,Bool.not_true,Bool.not_false,Bool.false_eq_true,Bool.true_eq_false,reduceIte,List.tail_cons,List.headD_cons,decide_true,decide_false,cond_true,cond_false,Nat.beq_refl,Wa,J1,Qv,ZV,ZM,Jf,YN,KS,Y5,KN,YO,YR,YP,ZP,List.replicate,Zp,Zq,QD,QY,QA,Zj,J4,Z9,ZF,e2,h1,h1']
 .simp[Zci,↓Z7,Z5,↓QC,Qg,Qj,Qk,↓Zb,JS,Zg,Yq,Qp,Js,Qt,Jq,Jo,QN,Jz,QO,QT,QZ,Q0,QU,Zl,ZL,YY,YB,Jb,QL,JC,ZI,Q1,JU,JY,JO,ZE,Zn,Zt,Jj,Qm,Qo,JA,JG,Jy,JI,↓YV,JV,↓g_r,Y0,Bool.not_true,Bool.not_false,Bool.false_eq_true,Bool.true_eq_false,reduceIte,List.tail_cons,List.headD_cons,decide_true,decide_false,cond_true,cond_false,Nat.beq_refl,Wa,J1,Qv,ZV,ZM,Jf,YN,KS,Y5,KN,YO,YR,YP,ZP,List.replicate,Zp,Zq,QD,QY,QA,Zj,J4,Z9,ZF,e2]
theorem ZAF {f:Value} {p:UInt8->Bool} (hf:∀ (b:UInt8) (H:Zd),Qn (R n) f [u8v b] H=some (.bool (p b),H)) (hs:s.length<=1000000000):∀ (t k:Nat),s.length - k=t->k<=s.length->
  Zi (c4 (Zah.l1 (R n))) [strv s,f,iv s.length,iv k] H=some (if(s.drop k).all p then .ext 0 [] else .ret (.bool false),H)
 | 0,k,ht,hk=>by
  have:k=s.length:=by omega
  subst this;rw[List.drop_length];refine Qq ?_;simp[Zah.l1,↓Z7,Z5,↓QC,Qg,Qj,Qk,↓Zb,JS,Zg,Yq,Qp,Js,Qt,Jq,Jo,QN,Jz,QO,QT,QZ,Q0,QU,Zl,ZL,YY,YB,Jb,QL,JC,ZI,Q1,JU,JY,JO,ZE,Zn,Zt,Jj,Qm,Qo,JA,JG,Jy,JI,↓YV,JV,↓g_r,Y0,Bool.not_true,Bool.not_false,Bool.false_eq_true,Bool.true_eq_false,reduceIte,List.tail_cons,List.headD_cons,decide_true,decide_false,cond_true,cond_false,Nat.beq_refl,Wa,J1,Qv,ZV,ZM,Jf,YN,KS,Y5,KN,YO,YR,YP,ZP,List.replicate,Zp,Zq,QD,QY,QA,Zj,J4,Z9,ZF]
 | t+1,k,ht,hk=>by
  have hkl:k < s.length:=by omega
  have hlt:(k:Int) < s.length:=by omega
  have hg:=List.getElem?_eq_getElem hkl;have hd:=List.drop_eq_getElem_cons hkl;generalize s[k]=b at hg hd;have x1:=ZrK hg .i64 H;have ih:=ZAF hf hs t (k+1) (by omega) (by omega);rw[hd,List.all_cons];cases hp:p b
  .refine YA ?_;have e:=hf b H;rw[hp] at e;rw[ZM];unfold Zah.l1;rw[Za Zt,Zb,if_pos (by simpa using hlt),Za x1,Za e,Za ZL,Zb,if_pos (by rfl)];rfl
  .rw[Bool.true_and];refine(ZU ?_).trans ih;have e:=hf b H;rw[hp] at e;rw[ZM];unfold Zah.l1;rw[Za Zt,Zb,if_pos (by simpa using hlt),Za x1,Za e,Za ZL,Zb,if_neg (by simp),Za ZI,JX (by omega)];rfl
theorem ZyO {f:Value} {p:UInt8->Bool} (hf:∀ (b:UInt8) (H:Zd),Qn (R n) f [u8v b] H=some (.bool (p b),H)) (hs:s.length<=1000000000):R (n+1) Kh [strv s,f] H=some (.bool (s.all p),H):=by
 have e:=ZAF (H:=H) hf hs s.length 0 (by omega) (by omega);rw[List.drop_zero] at e;have e:Zi (c4 (Zah.l1 (R n))) [strv s,f,iv s.length,.int .i64 0] H=_:=e;rw[R,Zxp rfl];unfold Zah;rw[Za Z9];cases h:s.all p
 .rw[h] at e;rw[KG e];rfl
 .rw[h] at e;rw[Q4 e,ZP];rfl
theorem ZvL {g:Nat} {args:List Value} (hy:Nat.blt g Kn=true:=by rfl):Qn (R n) (.func (.func g) #[] #[]) args=R n g args:=by
 have:Qn (R n) (.func (.func g) #[] #[]) args=R n g ([]++(args++[])):=by
  simp only[Qn,hy,cond_true]
 rw[this];simp
theorem ZtQ (hs:s.length<=1000000000):R (n+3) Kh [strv s,.func (.func Zc7) #[] #[]] H=some (.bool (s.all Zhp),H):=
 ZyO (fun b H=>by rw[ZvL];exact ZFr) hs
theorem ZCA (hs:s.length<=1000000000):R (n+3) Kh [strv s,.func (.func ZdD) #[] #[]] H=some (.bool (s.all ZsJ),H):=
 ZyO (fun b H=>by rw[ZvL];exact ZFL) hs
theorem Znt:bop .str .eql (strv s) (.string ⟨#[]⟩) H=some (.bool (decide (s.length=0)),H):=by
 have:=Zix (H:=H) (a:=s) (b:=[]);have h:(s==[])=decide (s.length=0):=by cases s<;>simp
 rw[h] at this;exact this
theorem ZtK:R (n+4) Zaz [strv s] H=some (.bool (Zw s),H):=by
 rw[R,Zsx rfl];unfold Zw;by_cases h0:s.length=0
 .have h1:¬ 1<=s.length:=by omega
  unfold ZcQ;rw[Za Znt,decide_eq_true h0];simp[↓Z7,Z5,↓QC,Qg,Qj,Qk,↓Zb,JS,Zg,Yq,Qp,Js,Qt,Jq,Jo,QN,Jz,QO,QT,QZ,Q0,QU,Zl,ZL,YY,YB,Jb,QL,JC,ZI,Q1,JU,JY,JO,ZE,Zn,Zt,Jj,Qm,Qo,JA,JG,Jy,JI,↓YV,JV,↓g_r,Y0,Bool.not_true,Bool.not_false,Bool.false_eq_true,Bool.true_eq_false,reduceIte,List.tail_cons,List.headD_cons,decide_true,decide_false,cond_true,cond_false,Nat.beq_refl,Wa,J1,Qv,ZV,ZM,Jf,YN,KS,Y5,KN,YO,YR,YP,ZP,List.replicate,Zp,Zq,QD,QY,QA,Zj,J4,Z9,ZF,h1]
 .have h1:1<=s.length:=by omega
  by_cases h12:s.length<=12
  .have e1:run Tryz.prog np lvs (n+3) Kh [strv s,.func (.func Zc7) #[] #[]] H=some (.bool (s.all Zhp),H):=ZtQ (by omega);have g0:s[0]?=some (s.getD 0 0):=by rw[List.getElem?_eq_getElem (by omega)];simp[List.getD_eq_getElem?_getD,List.getElem?_eq_getElem (show 0 < s.length by omega)]
   have gl:s[s.length - 1]?=some (s.getD (s.length - 1) 0):=by rw[List.getElem?_eq_getElem (by omega)];simp[List.getD_eq_getElem?_getD,List.getElem?_eq_getElem (show s.length - 1 < s.length by omega)]
   have x0:ixs (strv s) (.int .i64 0) H=some (u8v (s.getD 0 0),H):=ZrK g0 .i64 H;have xl:=ZrK gl .i64 H;have wl:=ZCX (k:=s.length) (by omega) (by omega);generalize s.getD 0 0=b0 at x0;generalize s.getD (s.length - 1) 0=bl at xl;have e2:run Tryz.prog np lvs (n+3) YU [u8v b0] H=some (.bool (Zal b0),H):=Zku;have e3:run Tryz.prog np lvs (n+3) YU [u8v bl] H=some (.bool (Zal bl),H):=Zku;have e4:run Tryz.prog np lvs (n+3) Ko [u8v bl] H=some (.bool (ZcZ bl),H):=ZnI;have q1:bop .int .gtr (iv s.length) (.int .i64 12) H=some (.bool false,H):=by rw[Qm,decide_eq_false (by omega)]
   unfold ZcQ;rw[Za Znt,decide_eq_false h0,decide_eq_true h1,decide_eq_true h12];rw[Z0,Zk,Za Z9,Zk,Za q1,Qe,ZV,Za Zl];simp only[cond_false];rw[Z0,Zk,Za x0,Zk,Za e2,Zk,Za ZL,Qe,ZM,Za Zl];simp only[cond_false];cases hb0:Zal b0
   .simp[↓Z7,Z5,↓QC,Qg,Qj,Qk,↓Zb,JS,Zg,Yq,Qp,Js,Qt,Jq,Jo,QN,Jz,QO,QT,QZ,Q0,QU,Zl,ZL,YY,YB,Jb,QL,JC,ZI,Q1,JU,JY,JO,ZE,Zn,Zt,Jj,Qm,Qo,JA,JG,Jy,JI,↓YV,JV,↓g_r,Y0,Bool.not_true,Bool.not_false,Bool.false_eq_true,Bool.true_eq_false,reduceIte,List.tail_cons,List.headD_cons,decide_true,decide_false,cond_true,cond_false,Nat.beq_refl,Wa,J1,Qv,ZV,ZM,Jf,YN,KS,Y5,KN,YO,YR,YP,ZP,List.replicate,Zp,Zq,QD,QY,QA,Zj,J4,Z9,ZF]
   .simp only[Bool.not_true];rw[Z0,Zk,Za e1,Zk,Za ZL,Qe,ZV,Za Zl];simp only[cond_false];cases hall:s.all Zhp
    .simp[↓Z7,Z5,↓QC,Qg,Qj,Qk,↓Zb,JS,Zg,Yq,Qp,Js,Qt,Jq,Jo,QN,Jz,QO,QT,QZ,Q0,QU,Zl,ZL,YY,YB,Jb,QL,JC,ZI,Q1,JU,JY,JO,ZE,Zn,Zt,Jj,Qm,Qo,JA,JG,Jy,JI,↓YV,JV,↓g_r,Y0,Bool.not_true,Bool.not_false,Bool.false_eq_true,Bool.true_eq_false,reduceIte,List.tail_cons,List.headD_cons,decide_true,decide_false,cond_true,cond_false,Nat.beq_refl,Wa,J1,Qv,ZV,ZM,Jf,YN,KS,Y5,KN,YO,YR,YP,ZP,List.replicate,Zp,Zq,QD,QY,QA,Zj,J4,Z9,ZF]
    .simp only[Bool.not_true];rw[Zb,if_neg (by simp),Za Z9,Za Q1,wl,Za xl,Za e3];unfold Zf7;cases hl:Zal bl
     .rw[Z0,Zk,Za e4,Qe,Qv,Za Zl];simp[ret]
     .simp[↓Z7,Z5,↓QC,Qg,Qj,Qk,↓Zb,JS,Zg,Yq,Qp,Js,Qt,Jq,Jo,QN,Jz,QO,QT,QZ,Q0,QU,Zl,ZL,YY,YB,Jb,QL,JC,ZI,Q1,JU,JY,JO,ZE,Zn,Zt,Jj,Qm,Qo,JA,JG,Jy,JI,↓YV,JV,↓g_r,Y0,Bool.not_true,Bool.not_false,Bool.false_eq_true,Bool.true_eq_false,reduceIte,List.tail_cons,List.headD_cons,decide_true,decide_false,cond_true,cond_false,Nat.beq_refl,Wa,J1,Qv,ZV,ZM,Jf,YN,KS,Y5,KN,YO,YR,YP,ZP,List.replicate,Zp,Zq,QD,QY,QA,Zj,J4,Z9,ZF]
  .have q1:bop .int .gtr (iv s.length) (.int .i64 12) H=some (.bool true,H):=by rw[Qm,decide_eq_true (by omega)]
   unfold ZcQ;rw[Za Znt,decide_eq_false h0];rw[Z0,Zk,Za Z9,Zk,Za q1,Qe,ZV,Za Zl];simp[↓Z7,Z5,↓QC,Qg,Qj,Qk,↓Zb,JS,Zg,Yq,Qp,Js,Qt,Jq,Jo,QN,Jz,QO,QT,QZ,Q0,QU,Zl,ZL,YY,YB,Jb,QL,JC,ZI,Q1,JU,JY,JO,ZE,Zn,Zt,Jj,Qm,Qo,JA,JG,Jy,JI,↓YV,JV,↓g_r,Y0,Bool.not_true,Bool.not_false,Bool.false_eq_true,Bool.true_eq_false,reduceIte,List.tail_cons,List.headD_cons,decide_true,decide_false,cond_true,cond_false,Nat.beq_refl,Wa,J1,Qv,ZV,ZM,Jf,YN,KS,Y5,KN,YO,YR,YP,ZP,List.replicate,Zp,Zq,QD,QY,QA,Zj,J4,Z9,ZF,h12]
def ZG (s:List UInt8):Int:=if Zw s then 0 else 10
def Ym (s:List UInt8):Int:=if Zff s then 0 else 10
def QG (s:List UInt8):Int:=if WD s then 0 else 4
theorem Zdf:R (n+5) QS [strv s] H=some (iv (ZG s),H):=by
 have e1:run Tryz.prog np lvs (n+4) Zaz [strv s] H=some (.bool (Zw s),H):=ZtK;rw[R,ZvK rfl];unfold ZG;generalize Zw s=q at e1 ⊢;cases q<;>simp[ZkH,↓Z7,Z5,↓QC,Qg,Qj,Qk,↓Zb,JS,Zg,Yq,Qp,Js,Qt,Jq,Jo,QN,Jz,QO,QT,QZ,Q0,QU,Zl,ZL,YY,YB,Jb,QL,JC,ZI,Q1,JU,JY,JO,ZE,Zn,Zt,Jj,Qm,Qo,JA,JG,Jy,JI,↓YV,JV,↓g_r,Y0,Bool.not_true,Bool.not_false,Bool.false_eq_true,Bool.true_eq_false,reduceIte,List.tail_cons,List.headD_cons,decide_true,decide_false,cond_true,cond_false,Nat.beq_refl,Wa,J1,Qv,ZV,ZM,Jf,YN,KS,Y5,KN,YO,YR,YP,ZP,List.replicate,Zp,Zq,QD,QY,QA,Zj,J4,Z9,ZF,e1]
theorem ZEY (hs:s.length<=1000000000):R (n+5) QS [strv s] H=some (iv (ZG s),H):=Zdf
theorem Zvt (hs:s.length<=1000000000):R (n+4) ZaA [strv s] H=some (iv (Ym s),H):=by
 have e1:run Tryz.prog np lvs (n+3) Kh [strv s,.func (.func Zc7) #[] #[]] H=some (.bool (s.all Zhp),H):=ZtQ hs;rw[R,Zsa rfl];unfold Ym Zff Zig;rw[Za Z9];by_cases h12:s.length<=12
 .have q1:bop .int .gtr (iv s.length) (.int .i64 12) H=some (.bool false,H):=by rw[Qm,decide_eq_false (by omega)]
  rw[Za q1,Z0,Zk,Za e1,Zk,Za ZL,Qe,ZV,Za Zl];cases s.all Zhp<;>simp[↓Z7,Z5,↓QC,Qg,Qj,Qk,↓Zb,JS,Zg,Yq,Qp,Js,Qt,Jq,Jo,QN,Jz,QO,QT,QZ,Q0,QU,Zl,ZL,YY,YB,Jb,QL,JC,ZI,Q1,JU,JY,JO,ZE,Zn,Zt,Jj,Qm,Qo,JA,JG,Jy,JI,↓YV,JV,↓g_r,Y0,Bool.not_true,Bool.not_false,Bool.false_eq_true,Bool.true_eq_false,reduceIte,List.tail_cons,List.headD_cons,decide_true,decide_false,cond_true,cond_false,Nat.beq_refl,Wa,J1,Qv,ZV,ZM,Jf,YN,KS,Y5,KN,YO,YR,YP,ZP,List.replicate,Zp,Zq,QD,QY,QA,Zj,J4,Z9,ZF,h12]
 .have q1:bop .int .gtr (iv s.length) (.int .i64 12) H=some (.bool true,H):=by rw[Qm,decide_eq_true (by omega)]
  rw[Za q1];simp[↓Z7,Z5,↓QC,Qg,Qj,Qk,↓Zb,JS,Zg,Yq,Qp,Js,Qt,Jq,Jo,QN,Jz,QO,QT,QZ,Q0,QU,Zl,ZL,YY,YB,Jb,QL,JC,ZI,Q1,JU,JY,JO,ZE,Zn,Zt,Jj,Qm,Qo,JA,JG,Jy,JI,↓YV,JV,↓g_r,Y0,Bool.not_true,Bool.not_false,Bool.false_eq_true,Bool.true_eq_false,reduceIte,List.tail_cons,List.headD_cons,decide_true,decide_false,cond_true,cond_false,Nat.beq_refl,Wa,J1,Qv,ZV,ZM,Jf,YN,KS,Y5,KN,YO,YR,YP,ZP,List.replicate,Zp,Zq,QD,QY,QA,Zj,J4,Z9,ZF,h12]
theorem Zs2:R (n+4) KZ [strv s] H=some (iv (QG s),H):=by
 have e1:s.length<=12->run Tryz.prog np lvs (n+3) Kh [strv s,.func (.func ZdD) #[] #[]] H=some (.bool (s.all ZsJ),H):=fun h12=>ZCA (by omega);rw[R,Zvm rfl];unfold QG WD ZkZ;rw[Za Znt];by_cases h0:s.length=0
 .have h1:¬ 1<=s.length:=by omega
  rw[decide_eq_true h0];simp[↓Z7,Z5,↓QC,Qg,Qj,Qk,↓Zb,JS,Zg,Yq,Qp,Js,Qt,Jq,Jo,QN,Jz,QO,QT,QZ,Q0,QU,Zl,ZL,YY,YB,Jb,QL,JC,ZI,Q1,JU,JY,JO,ZE,Zn,Zt,Jj,Qm,Qo,JA,JG,Jy,JI,↓YV,JV,↓g_r,Y0,Bool.not_true,Bool.not_false,Bool.false_eq_true,Bool.true_eq_false,reduceIte,List.tail_cons,List.headD_cons,decide_true,decide_false,cond_true,cond_false,Nat.beq_refl,Wa,J1,Qv,ZV,ZM,Jf,YN,KS,Y5,KN,YO,YR,YP,ZP,List.replicate,Zp,Zq,QD,QY,QA,Zj,J4,Z9,ZF,h1]
 .have h1:1<=s.length:=by omega
  rw[decide_eq_false h0,Z0,Zk,Za Z9];by_cases h12:s.length<=12
  .have q1:bop .int .gtr (iv s.length) (.int .i64 12) H=some (.bool false,H):=by rw[Qm,decide_eq_false (by omega)]
   rw[Zk,Za q1,Qe,ZV,Za Zl];simp only[cond_false];rw[Z0,Zk,Za (e1 h12),Zk,Za ZL,Qe,ZM,Za Zl];cases s.all ZsJ<;>simp[↓Z7,Z5,↓QC,Qg,Qj,Qk,↓Zb,JS,Zg,Yq,Qp,Js,Qt,Jq,Jo,QN,Jz,QO,QT,QZ,Q0,QU,Zl,ZL,YY,YB,Jb,QL,JC,ZI,Q1,JU,JY,JO,ZE,Zn,Zt,Jj,Qm,Qo,JA,JG,Jy,JI,↓YV,JV,↓g_r,Y0,Bool.not_true,Bool.not_false,Bool.false_eq_true,Bool.true_eq_false,reduceIte,List.tail_cons,List.headD_cons,decide_true,decide_false,cond_true,cond_false,Nat.beq_refl,Wa,J1,Qv,ZV,ZM,Jf,YN,KS,Y5,KN,YO,YR,YP,ZP,List.replicate,Zp,Zq,QD,QY,QA,Zj,J4,Z9,ZF,h12,h1]
  .have q1:bop .int .gtr (iv s.length) (.int .i64 12) H=some (.bool true,H):=by rw[Qm,decide_eq_true (by omega)]
   rw[Zk,Za q1,Qe,ZV,Za Zl];simp[↓Z7,Z5,↓QC,Qg,Qj,Qk,↓Zb,JS,Zg,Yq,Qp,Js,Qt,Jq,Jo,QN,Jz,QO,QT,QZ,Q0,QU,Zl,ZL,YY,YB,Jb,QL,JC,ZI,Q1,JU,JY,JO,ZE,Zn,Zt,Jj,Qm,Qo,JA,JG,Jy,JI,↓YV,JV,↓g_r,Y0,Bool.not_true,Bool.not_false,Bool.false_eq_true,Bool.true_eq_false,reduceIte,List.tail_cons,List.headD_cons,decide_true,decide_false,cond_true,cond_false,Nat.beq_refl,Wa,J1,Qv,ZV,ZM,Jf,YN,KS,Y5,KN,YO,YR,YP,ZP,List.replicate,Zp,Zq,QD,QY,QA,Zj,J4,Z9,ZF,h12]
theorem ZFv (hs:s.length<=1000000000):R (n+4) KZ [strv s] H=some (iv (QG s),H):=Zs2
theorem ZA0 {p:UInt8->Prop} (h:∀ n:Nat,n < 256->p (UInt8.ofNat n)) (b:UInt8):p b:=by
 have:=h b.toNat b.toNat_lt
 rwa [UInt8.ofNat_toNat] at this
end
abbrev Qw:=List (List UInt8 × List UInt8)
structure Dir (H:Zd) (d b:Nat) (m:Qw):Prop where
 c:H[d]?=some (.cells [.map (some b)] 1 false false)
 g:JL strv H b m
 len:∀ p∈m,p.1.length<=12
 few:m.length<=12
section
variable {H H':Zd} {n d b p q:Nat} {m:Qw} {k s:List UInt8}
theorem Zdd {v:Value} (h:oneCell v=true) (hc:v.cells=#[v]) (H:Zd):alc 1 v H=some (pt H.length,H++[.cells [v] 1 false false]):=by
 rw[QT];simp[hc,h]
theorem KM {v:Value} {e:Nat} {g ro:Bool} (h:H[p]?=some (.cells [v] e g ro)):ld1 (pt p) H=some (v,H):=Zv h rfl
theorem Zh7 {g:Nat} {bs args:List Value} (hy:Nat.blt g Kn=true:=by rfl):Qn (R n) (.func (.func g) #[] bs.toArray) args=R n g (args++bs):=by
 have:Qn (R n) (.func (.func g) #[] bs.toArray) args=R n g ([]++(args++bs.toArray.toList)):=by
  simp only[Qn,hy,cond_true]
 rw[this];simp
theorem Dir.lt (h:Dir H d b m):d < H.length/\b < H.length:=⟨Z6 h.c,h.g.lt⟩
theorem Dir.keep (h:Dir H d b m) (h1:H'[d]?=H[d]?) (h2:H'[b]?=H[b]?):Dir H' d b m:=⟨by rw[h1];exact h.c,h.g.keep h2,h.len,h.few⟩
theorem Dir.hle (h:Dir H d b m) (hl:HLe H H'):Dir H' d b m:=⟨hl _ _ h.c,h.g.hle hl,h.len,h.few⟩
theorem Dir.step {o1 o2:List Nat} (h:Dir H d b m) (hs:Zr o1 H o2 H') (h1:d∉o1) (h2:b∉o1):Dir H' d b m:=h.keep (hs.keep d h.lt.1 h1) (hs.keep b h.lt.2 h2)
theorem Dir.ne (h:Dir H d b m):d≠b:=fun e=>by
 subst e;obtain⟨es,_,h1⟩:=h.g.ex;rw[h.c] at h1;rcases h1 with⟨_,h1,_⟩|h1<;>cases h1
theorem ZCg:∃ H' d b,R (n+1) Zdg [] H=some (pt d,H')/\Dir H' d b []/\HLe H H'/\H.length<=d/\H.length<=b:=by
 obtain⟨H1,e1,g1,l1⟩:=ZuP (α:=List UInt8) (enc:=strv) H;have e2:bld (.agg #[.map none]) [(0,1,.map (some H.length))] H1=some (.agg #[.map (some H.length)],H1):=by simp[↓Z7,Z5,↓QC,Qg,Qj,Qk,↓Zb,JS,Zg,Yq,Qp,Js,Qt,Jq,Jo,QN,Jz,QO,QT,QZ,Q0,QU,Zl,ZL,YY,YB,Jb,QL,JC,ZI,Q1,JU,JY,JO,ZE,Zn,Zt,Jj,Qm,Qo,JA,JG,Jy,JI,↓YV,JV,↓g_r,Y0,Yw,WB,splice,Value.cells]
 have e3:alc 1 (.agg #[.map (some H.length)]) H1=some (pt H1.length,H1++[.cells [.map (some H.length)] 1 false false]):=by
  rw[QT];simp[Value.cells,oneCell]
 refine⟨H1++[.cells [.map (some H.length)] 1 false false],H1.length,H.length,?_,⟨Zo,g1.hle (.app _ _),by simp,by simp⟩,l1.trans (.app _ _),l1.len,Nat.le_refl _⟩;rw[R,Zwa rfl];unfold ZkP;rw[Za e1,Za e2,Za e3];rfl
def YX (k:List UInt8) (m:Qw):Int:=if(Zf k m).isSome then 0 else 8
def ZbK (k:List UInt8) (m:Qw):Int:=if(Zf k m).isSome then 9 else if 12<=m.length then 7 else 0
theorem Zs6:R (n+1) JQ [pt d,strv k] H=some (.func (.func Qh) #[] #[pt H.length,pt (H.length+1)],H++[.cells [pt d] 1 false false]++[.cells [strv k] 1 false false]):=by
 rw[R,Zon rfl];unfold Ze6;rw[Za (Zdd rfl rfl _),Za (Zdd rfl rfl _)];simp[ret]
theorem ZvE (h:Dir H d b m) (hp:H[p]?=some (.cells [pt d] 1 false false)) (hq:H[q]?=some (.cells [strv k] 1 false false)):R (n+1) Qh [pt p,pt q] H=some (iv (YX k m),H):=by
 have hl:=h.g.lkp (k:=k) (z:=.string ⟨#[]⟩) (ok:=true);rw[R,Znn rfl];unfold ZdR YX;rw[Za (KM hp),Za Zg,Za Zj,Za (KM h.c),Za (KM hq),Za hl];cases hg:Zf k m
 .simp[↓Z7,Z5,↓QC,Qg,Qj,Qk,↓Zb,JS,Zg,Yq,Qp,Js,Qt,Jq,Jo,QN,Jz,QO,QT,QZ,Q0,QU,Zl,ZL,YY,YB,Jb,QL,JC,ZI,Q1,JU,JY,JO,ZE,Zn,Zt,Jj,Qm,Qo,JA,JG,Jy,JI,↓YV,JV,↓g_r,Y0,Bool.not_true,Bool.not_false,Bool.false_eq_true,Bool.true_eq_false,reduceIte,List.tail_cons,List.headD_cons,decide_true,decide_false,cond_true,cond_false,Nat.beq_refl,Wa,J1,Qv,ZV,ZM,Jf,YN,KS,Y5,KN,YO,YR,YP,ZP,List.replicate,Zp,Zq,QD,QY,QA,Zj,J4,Z9,ZF,hg]
 .simp[↓Z7,Z5,↓QC,Qg,Qj,Qk,↓Zb,JS,Zg,Yq,Qp,Js,Qt,Jq,Jo,QN,Jz,QO,QT,QZ,Q0,QU,Zl,ZL,YY,YB,Jb,QL,JC,ZI,Q1,JU,JY,JO,ZE,Zn,Zt,Jj,Qm,Qo,JA,JG,Jy,JI,↓YV,JV,↓g_r,Y0,Bool.not_true,Bool.not_false,Bool.false_eq_true,Bool.true_eq_false,reduceIte,List.tail_cons,List.headD_cons,decide_true,decide_false,cond_true,cond_false,Nat.beq_refl,Wa,J1,Qv,ZV,ZM,Jf,YN,KS,Y5,KN,YO,YR,YP,ZP,List.replicate,Zp,Zq,QD,QY,QA,Zj,J4,Z9,ZF,hg]
theorem ZFa:R (n+1) ZbC [pt d,strv k] H=some (.func (.func Yh) #[] #[pt H.length,pt (H.length+1)],H++[.cells [pt d] 1 false false]++[.cells [strv k] 1 false false]):=by
 rw[R,Zqe rfl];unfold ZfJ;rw[Za (Zdd rfl rfl _),Za (Zdd rfl rfl _)];simp[ret]
theorem ZD5 (h:Dir H d b m) (hp:H[p]?=some (.cells [pt d] 1 false false)) (hq:H[q]?=some (.cells [strv k] 1 false false)):∃ H',R (n+2) Yh [pt p,pt q] H=some (iv (ZbK k m),H')/\HLe H H':=by
 have e1:run Tryz.prog np lvs (n+1) JQ [pt d,strv k] H=_:=Zs6;refine⟨_,?_,(HLe.app H [.cells [pt d] 1 false false]).trans (.app _ [.cells [strv k] 1 false false])⟩;generalize hH:H++[.cells [pt d] 1 false false]++[.cells [strv k] 1 false false]=X at e1 ⊢;have hx:HLe H X:=by rw[<- hH];exact(HLe.app H _).trans (.app _ _)
 have x1:X[H.length]?=some (.cells [pt d] 1 false false):=by rw[<- hH];simp[List.getElem?_append]
 have x2:X[H.length+1]?=some (.cells [strv k] 1 false false):=by rw[<- hH];simp[List.getElem?_append]
 have e2:Qn (run Tryz.prog np lvs (n+1)) (.func (.func Qh) #[] #[pt H.length,pt (H.length+1)]) [] X=some (iv (YX k m),X):=by
  have:=Zh7 (n:=n+1) (g:=Qh) (bs:=[pt H.length,pt (H.length+1)]) (args:=[]);rw[show(#[pt H.length,pt (H.length+1)]:Array Value)=[pt H.length,pt (H.length+1)].toArray from rfl];rw[this];exact ZvE (h.hle hx) x1 x2
 have hlen:=(h.hle hx).g.len;rw[R,Zn9 rfl];unfold Zfe ZbK;rw[Za (KM hp),Za (KM hq),Za e1,Za e2];unfold YX;cases hg:(Zf k m).isSome
 .have c1:ld1 (pt p) X=some (pt d,X):=KM (hx _ _ hp);have c2:ld1 (pt d) X=some (.map (some b),X):=KM (hx _ _ h.c);simp only[Bool.false_eq_true,if_false];rw[Za ZE,Zb,if_neg (by decide),Za c1,Za Zg,Za Zj,Za c2,Za hlen,Za Qo,Zb];by_cases h12:12<=m.length
  .have h12':(12:Int)<=m.length:=by omega
   simp[h12,h12',ret]
  .have h12':¬ (12:Int)<=m.length:=by omega
   simp[h12,h12',ret]
 .simp[↓Z7,Z5,↓QC,Qg,Qj,Qk,↓Zb,JS,Zg,Yq,Qp,Js,Qt,Jq,Jo,QN,Jz,QO,QT,QZ,Q0,QU,Zl,ZL,YY,YB,Jb,QL,JC,ZI,Q1,JU,JY,JO,ZE,Zn,Zt,Jj,Qm,Qo,JA,JG,Jy,JI,↓YV,JV,↓g_r,Y0,Bool.not_true,Bool.not_false,Bool.false_eq_true,Bool.true_eq_false,reduceIte,List.tail_cons,List.headD_cons,decide_true,decide_false,cond_true,cond_false,Nat.beq_refl,Wa,J1,Qv,ZV,ZM,Jf,YN,KS,Y5,KN,YO,YR,YP,ZP,List.replicate,Zp,Zq,QD,QY,QA,Zj,J4,Z9,ZF]
theorem ZCO:R (n+1) Zb4 [strv s] H=some (.func (.func JZ) #[] #[pt H.length],H++[.cells [strv s] 1 false false]):=by
 rw[R,Zu2 rfl];unfold Zj6;rw[Za (Zdd rfl rfl _)];rfl
theorem ZEK (hs:s.length<=1000000000) (hp:H[p]?=some (.cells [strv s] 1 false false)):R (n+5) JZ [pt p] H=some (iv (QG s),H):=by
 have e1:run Tryz.prog np lvs (n+4) KZ [strv s] H=some (iv (QG s),H):=ZFv hs;rw[R,Zuy rfl];unfold Zi4;rw[Za (KM hp),Za e1];rfl
def Wc (e:Int) (es:List Int):Int:=es.foldl (fun e a=>if e=0 then a else e) e
theorem Zps {sl:Value} {fs:List Value} {es:List Int} (hl:fs.length=es.length) (hfl:fs.length<=1000) (hs:Sl H sl fs)
  (hf:∀ (k:Nat) (f:Value) (e:Int),fs[k]?=some f->es[k]?=some e->∀ H1,HLe H H1->∃ H2,Qn (R n) f [] H1=some (iv e,H2)/\HLe H1 H2):∀ (t k:Nat) (e:Int) (H1:Zd),fs.length - k=t->k<=fs.length->HLe H H1->
  ∃ H2,Zi (c4 (Km.l1 (R n))) [iv e,sl,iv fs.length,iv k] H1=some (.ext 0 [iv (Wc e (es.drop k))],H2)/\HLe H1 H2
 | 0,k,e,H1,ht,hk,h1=>by
  have:k=fs.length:=by omega
  subst this;rw[List.drop_eq_nil_of_le (by omega)];refine⟨H1,Qq ?_,.refl _⟩;rw[ZM];unfold Km.l1;rw[Za Zt,Zb,if_neg (by simp)];rfl
 | t+1,k,e,H1,ht,hk,h1=>by
  have hkl:k < fs.length:=by omega
  have hlt:(k:Int) < fs.length:=by omega
  obtain⟨f,hfk⟩:∃ f,fs[k]?=some f:=⟨_,List.getElem?_eq_getElem hkl⟩;obtain⟨a,hak⟩:∃ a,es[k]?=some a:=⟨_,List.getElem?_eq_getElem (by omega)⟩;have hd:es.drop k=a :: es.drop (k+1):=by
   rw[List.drop_eq_getElem_cons (by omega)]
   congr 1
   have:=List.getElem?_eq_getElem (show k < es.length by omega);rw[hak] at this;exact(Option.some.inj this).symm
  have x1:=(hs.mono h1).ix hkl .i64 H1;have x2:=(hs.mono h1).ldx hfk;by_cases he:e=0
  .subst he;obtain⟨H2,e3,l3⟩:=hf k f a hfk hak H1 h1;obtain⟨H3,e4,l4⟩:=Zps hl hfl hs hf t (k+1) a H2 (by omega) (by omega) (h1.trans l3);refine⟨H3,(ZU ?_).trans e4 |>.trans (by rw[hd];rfl),l3.trans l4⟩;rw[ZM];unfold Km.l1;rw[Za Zt,Zb,if_pos (by simpa using hlt),Za x1,Za x2,Za ZE];refine(ZJ (vs:=[iv a,sl,iv fs.length,iv k]) (H':=H2) ?_).trans ?_
   .rw[Zb,if_pos (by simp),Za e3];rfl
   .rw[ZM,Za ZI,JX (by omega)];rfl
  .obtain⟨H3,e4,l4⟩:=Zps hl hfl hs hf t (k+1) e H1 (by omega) (by omega) h1;refine⟨H3,(ZU ?_).trans e4 |>.trans (by rw[hd];show _=some (Out.ext 0 [iv (Wc (if e=0 then a else e) _)],H3);rw[if_neg he]),l4⟩;rw[ZM];unfold Km.l1;rw[Za Zt,Zb,if_pos (by simpa using hlt),Za x1,Za x2,Za ZE];refine(ZJ (vs:=[iv e,sl,iv fs.length,iv k]) (H':=H1) ?_).trans ?_
   .rw[Zb,if_neg (by simpa using he)];rfl
   .rw[ZM,Za ZI,JX (by omega)];rfl
theorem Zsp {sl:Value} {fs:List Value} {es:List Int} (hk:k.length<=1000000000) (hl:fs.length=es.length) (hfl:fs.length<=1000) (hs:Sl H sl fs)
  (hf:∀ (k:Nat) (f:Value) (e:Int),fs[k]?=some f->es[k]?=some e->∀ H1,HLe H H1->∃ H2,Qn (R (n+5)) f [] H1=some (iv e,H2)/\HLe H1 H2) :
  ∃ H2,R (n+6) Kk [strv k,sl] H=some (iv (Wc (ZG k) es),H2)/\HLe H H2:=by
 have e1:run Tryz.prog np lvs (n+5) QS [strv k] H=some (iv (ZG k),H):=ZEY hk;obtain⟨H2,e2,l2⟩:=Zps hl hfl hs hf fs.length 0 (ZG k) H (by omega) (by omega) (.refl _);refine⟨H2,?_,l2⟩;have e2:Zi (c4 (Km.l1 (R (n+5)))) [iv (ZG k),sl,iv fs.length,.int .i64 0] H=_:=e2;rw[R,Zs4 rfl];unfold Km;rw[Za e1,Za hs.len,Q4 e2,ZP,List.drop_zero];rfl
end
section
variable {α:Type} {k k':List UInt8} {v:α} {m:List (List UInt8 × α)}
theorem ZfZ:∀ {m m':List (List UInt8 × α)},Zf k (m++m')=(Zf k m).or (Zf k m')
 | [],m'=>rfl
 | p :: m,m'=>by
  simp only[List.cons_append,Zf];split
  .rfl
  .exact ZfZ
theorem KR (h:k'≠k):Zf k' (Qs k v m)=Zf k' m:=by
 unfold Qs;split
 .have:∀ m:List (List UInt8 × α),Zf k' (m.map fun p=>if p.1=k then(k,v) else p)=Zf k' m:=by
   intro m
   induction m with
   | nil=>rfl
   | cons p m ih=>
    simp only[List.map_cons,Zf];by_cases hp:p.1=k
    .rw[if_pos hp,if_neg (Ne.symm h),if_neg (fun e=>h (e.symm.trans hp)),ih]
    .rw[if_neg hp,ih]
  exact this m
 .rw[ZfZ];have:Zf k' [(k,v)]=none:=by simp[Zf,Ne.symm h]
  rw[this];cases Zf k' m<;>rfl
theorem Zaf:Zf k (Qs k v m)=some v:=by
 unfold Qs;split
 .rename_i hs;have:∀ m:List (List UInt8 × α),(Zf k m).isSome=true->Zf k (m.map fun p=>if p.1=k then(k,v) else p)=some v:=by
   intro m
   induction m with
   | nil=>intro h;cases h
   | cons p m ih=>
    intro h;simp only[List.map_cons,Zf] at h ⊢;by_cases hp:p.1=k
    .simp[hp]
    .rw[if_neg hp] at h;rw[if_neg hp,if_neg hp];exact ih h
  exact this m hs
 .rename_i hs;rw[ZfZ];have:Zf k m=none:=by cases e:Zf k m<;>simp_all
  rw[this];simp[Zf]
theorem ZbZ:Zf k (Ys k m)=none:=by
 rw[Zec];intro p hp;simpa[Ys] using (List.mem_filter.1 hp).2
theorem Yd (h:k'≠k):Zf k' (Ys k m)=Zf k' m:=by
 unfold Ys
 induction m with
 | nil=>rfl
 | cons p m ih=>
  rw[List.filter_cons];by_cases hp:p.1=k
  .rw[if_neg (by simp[hp]),ih];simp only[Zf];rw[if_neg (fun e=>h (e.symm.trans hp))]
  .rw[if_pos (by simpa using hp)];simp only[Zf];rw[ih]
theorem Zqn (hn:(m.map (·.1)).Nodup) (h:(Zf k m).isSome=true):(Ys k m).length=m.length - 1:=by
 obtain⟨v,hv⟩:=Option.isSome_iff_exists.1 h;obtain⟨j,hj⟩:=ZCl hv;rw[<- ZeU hn hj,List.length_eraseIdx,if_pos (List.getElem?_eq_some_iff.1 hj).1]
end
section
variable {H H':Zd} {n d b p q:Nat} {m:Qw} {k s:List UInt8}
theorem Zyb (h:Dir H d b m) (hp:H[p]?=some (.cells [pt d] 1 false false)) (hq:H[q]?=some (.cells [strv k] 1 false false)):∃ H2,Qn (R (n+1)) (.func (.func Qh) #[] #[pt p,pt q]) [] H=some (iv (YX k m),H2)/\HLe H H2:=by
 rw[show(#[pt p,pt q]:Array Value)=[pt p,pt q].toArray from rfl,Zh7];exact⟨H,ZvE h hp hq,.refl _⟩
theorem ZEJ (h:Dir H d b m) (hp:H[p]?=some (.cells [pt d] 1 false false)) (hq:H[q]?=some (.cells [strv k] 1 false false)):∃ H2,Qn (R (n+2)) (.func (.func Yh) #[] #[pt p,pt q]) [] H=some (iv (ZbK k m),H2)/\HLe H H2:=by
 rw[show(#[pt p,pt q]:Array Value)=[pt p,pt q].toArray from rfl,Zh7];exact ZD5 h hp hq
theorem ZCN (hs:s.length<=1000000000) (hp:H[p]?=some (.cells [strv s] 1 false false)):∃ H2,Qn (R (n+5)) (.func (.func JZ) #[] #[pt p]) [] H=some (iv (QG s),H2)/\HLe H H2:=by
 rw[show(#[pt p]:Array Value)=[pt p].toArray from rfl,Zh7];exact⟨H,ZEK hs hp,.refl _⟩
def KE (k s:List UInt8) (m:Qw):Int:=Wc (ZG k) [QG s,ZbK k m]
def Q9 (k:List UInt8) (m:Qw):Int:=Wc (ZG k) [YX k m]
def ZbM (k s:List UInt8) (m:Qw):Int:=Wc (ZG k) [QG s,YX k m]
theorem ZCY {a c:Value} (ha:oneCell a=true) (hc:oneCell c=true) (a1:a.cells=#[a]) (c1:c.cells=#[c]) (H:Zd):bsl 1 2 .nilFunc [(0,1,a),(1,1,c)] H=some (.slice (some ⟨H.length,0,none⟩) 2 2,H++[.cells [a,c] 1 false false]):=by
 have t1:Yw a=false:=by cases a<;>simp_all [Yw,oneCell]
 have t2:Yw c=false:=by cases c<;>simp_all [Yw,oneCell]
 have hn:Value.nilFunc.cells=#[.nilFunc]:=rfl;simp[bsl,WB,reps,Zjf,a1,c1,t1,t2,splice,ha,hc,hn]
theorem ZFK {a:Value} (ha:oneCell a=true) (a1:a.cells=#[a]) (H:Zd):bsl 1 1 .nilFunc [(0,1,a)] H=some (.slice (some ⟨H.length,0,none⟩) 1 1,H++[.cells [a] 1 false false]):=Zqb rfl a1 ha
theorem ZrM {α β:Type} {P:α->β->Prop} {a a':α} {e e':β} (h1:P a e) (h2:P a' e'):∀ (k:Nat) (f:α) (x:β),[a,a'][k]?=some f->[e,e'][k]?=some x->P f x
 | 0,f,x,h,h'=>by simp at h h';rw[<- h,<- h'];exact h1
 | 1,f,x,h,h'=>by simp at h h';rw[<- h,<- h'];exact h2
 | k+2,f,x,h,h'=>by simp at h
theorem Zz4 {α β:Type} {P:α->β->Prop} {a:α} {e:β} (h1:P a e):∀ (k:Nat) (f:α) (x:β),[a][k]?=some f->[e][k]?=some x->P f x
 | 0,f,x,h,h'=>by simp at h h';rw[<- h,<- h'];exact h1
 | k+1,f,x,h,h'=>by simp at h
theorem Zrn {H:Zd} {a c:Ze}:(H++[a]++[c])[H.length]?=some a:=by simp[List.getElem?_append]
theorem ZqE {H:Zd} {a c:Ze}:(H++[a]++[c])[H.length+1]?=some c:=by simp[List.getElem?_append]
theorem ZD9 {v:List UInt8} (h1:∀ p∈m,p.1.length<=12) (hk:k.length<=12):∀ p∈Qs k v m,p.1.length<=12:=by
 intro p hp;unfold Qs at hp;split at hp
 .obtain⟨x,hx,rfl⟩:=List.mem_map.1 hp;split
  .exact hk
  .exact h1 x hx
 .rcases List.mem_append.1 hp with hp|hp
  .exact h1 p hp
  .simp at hp;rw[hp];exact hk
theorem ZcK {α:Type} {m:List (List UInt8 × α)} {v:α}:(Qs k v m).length=if(Zf k m).isSome then m.length else m.length+1:=by
 unfold Qs;split<;>simp
theorem ZcY (h:Zw k=true):k.length<=12:=by
 unfold Zw at h;simp only[Bool.and_eq_true,decide_eq_true_eq] at h;exact h.1.1.1.2
theorem ZpT:∀ {es:List Int} {e:Int},Wc e es=0↔e=0/\∀ a∈es,a=0
 | [],e=>by simp[Wc]
 | a :: es,e=>by
  have:Wc e (a :: es)=Wc (if e=0 then a else e) es:=rfl;rw[this,ZpT];by_cases he:e=0<;>simp[he]
theorem ZcE:ZG k=0↔Zw k=true:=by unfold ZG;split<;>simp_all
theorem ZBS:QG s=0↔WD s=true:=by unfold QG;split<;>simp_all
theorem Zy7:YX k m=0↔(Zf k m).isSome=true:=by unfold YX;split<;>simp_all
theorem ZAf:ZbK k m=0↔(Zf k m).isSome=false/\m.length < 12:=by
 unfold ZbK;split
 .simp_all
 .split
  .simp_all
  .simp_all
def ZfI (k s:List UInt8) (m:Qw):Qw:=if KE k s m=0 then Qs k s m else m
def Zfy (k:List UInt8) (m:Qw):Qw:=if Q9 k m=0 then Ys k m else m
def Zpk (k s:List UInt8) (m:Qw):Qw:=if ZbM k s m=0 then Qs k s m else m
theorem Dir.putc (h:Dir H d b m) (g:JL strv H' b (Qs k s m)) (hs:Zr [b] H [b] H') (hk:k.length<=12) (hf:(Qs k s m).length<=12):Dir H' d b (Qs k s m):=
 ⟨hs.get h.c (by simp[h.ne]),g,ZD9 h.len hk,hf⟩
theorem ZCv (h:Dir H d b m) (hk:k.length<=1000000000) (hs:s.length<=1000000000):∃ H',R (n+7) Zas [pt d,strv k,strv s] H=some (iv (KE k s m),H')/\Dir H' d b (ZfI k s m)/\Zr [b] H [b] H':=by
 have e1:run Tryz.prog np lvs (n+6) Zb4 [strv s] H=_:=ZCO;have a1:HLe H (H++[Ze.cells [strv s] 1 false false]):=.app _ _;have p1:(H++[Ze.cells [strv s] 1 false false])[H.length]?=some (.cells [strv s] 1 false false):=Zo;generalize hH1:H++[Ze.cells [strv s] 1 false false]=H1 at e1 a1 p1;generalize H.length=q0 at e1 p1;have e2:run Tryz.prog np lvs (n+6) ZbC [pt d,strv k] H1=_:=ZFa;have a2:HLe H1 (H1++[.cells [pt d] 1 false false]++[.cells [strv k] 1 false false]):=(HLe.app _ _).trans (.app _ _);have p2:(H1++[Ze.cells [pt d] 1 false false]++[.cells [strv k] 1 false false])[H1.length]?=some (.cells [pt d] 1 false false):=Zrn;have p3:(H1++[Ze.cells [pt d] 1 false false]++[.cells [strv k] 1 false false])[H1.length+1]?=some (.cells [strv k] 1 false false):=ZqE;generalize hH2:H1++[Ze.cells [pt d] 1 false false]++[.cells [strv k] 1 false false]=H2 at e2 a2 p2 p3;generalize H1.length=q1 at e2 p2 p3;have e3:=ZCY (a:=.func (.func JZ) #[] #[pt q0]) (c:=.func (.func Yh) #[] #[pt q1,pt (q1+1)]) rfl rfl rfl rfl H2;have a3:HLe H2 (H2++[Ze.cells [.func (.func JZ) #[] #[pt q0],.func (.func Yh) #[] #[pt q1,pt (q1+1)]] 1 false false]):=.app _ _;have s3:Sl (H2++[Ze.cells [.func (.func JZ) #[] #[pt q0],.func (.func Yh) #[] #[pt q1,pt (q1+1)]] 1 false false]) (.slice (some ⟨H2.length,0,none⟩) 2 2) [.func (.func JZ) #[] #[pt q0],.func (.func Yh) #[] #[pt q1,pt (q1+1)]]:=Sl.one (c:=2) Zo;generalize H2++[Ze.cells [.func (.func JZ) #[] #[pt q0],.func (.func Yh) #[] #[pt q1,pt (q1+1)]] 1 false false]=H3 at e3 a3 s3
 generalize(Value.slice (some ⟨H2.length,0,none⟩) 2 2)=sl at e3 s3;have l3:=(a1.trans a2).trans a3;obtain⟨H4,e4,a4⟩:=Zsp (n:=n) (es:=[QG s,ZbK k m]) hk rfl (Nat.le_of_lt_succ (by simp)) s3 (ZrM (P:=fun f e=>∀ H1,HLe H3 H1->∃ H2,Qn (R (n+5)) f [] H1=some (iv e,H2)/\HLe H1 H2)
  (fun X hx=>ZCN hs (hx _ _ (a3 _ _ (a2 _ _ p1)))) (fun X hx=>ZEJ (n:=n+3) (h.hle (l3.trans hx)) (hx _ _ (a3 _ _ p2)) (hx _ _ (a3 _ _ p3))))
 have e4:run Tryz.prog np lvs (n+6) Kk [strv k,sl] H3=some (iv (KE k s m),H4):=e4;have l4:=l3.trans a4;have h4:=h.hle l4;have hbody:∀ r,bind (bop .int .eql (iv (KE k s m)) (.int .i64 0)) (fun v=>jn (cnd v (bind (Zz (pt d)) fun v19x6=>bind (fa 0 v19x6) fun v20x7=>bind (ld1 v20x7) fun v21x8=>bind (mup .str v21x8 (strv k) (strv s)) fun _=>ret (.nrm [iv (KE k s m)])) (ret (.nrm [iv (KE k s m)]))) (c1 fun q9_0=>ret q9_0) noX ret) H4=r->
   R (n+7) Zas [pt d,strv k,strv s] H=r:=fun r hr=>by
  rw[R,ZmA rfl];unfold ZdY;rw[Za e1,Za e2,Za e3,Za e4];exact hr
 unfold ZfI;by_cases he:KE k s m=0
 .have hz:=ZpT.1 he;have hk12:=ZcY (ZcE.1 hz.1);have hr:=ZAf.1 (hz.2 (ZbK k m) (by simp));obtain⟨H5,e5,g5,s5,_⟩:=h4.g.mup (k:=k) (v:=s);rw[if_pos he];refine⟨H5,hbody _ ?_,h4.putc g5 s5 hk12 (by rw[ZcK,hr.1];simp;omega),(l4.step.more (by simp) (fun j hj=>.inl hj)).trans s5⟩;rw[Za ZE];refine(ZJ (vs:=[iv (KE k s m)]) (H':=H5) ?_).trans rfl;rw[Zb,if_pos (by simpa using he),Za Zg,Za Zj,Za (KM h4.c),Za e5];rfl
 .rw[if_neg he];refine⟨H4,hbody _ ?_,h4,l4.step.more (by simp) (fun j hj=>.inl hj)⟩;rw[Za ZE];refine(ZJ (vs:=[iv (KE k s m)]) (H':=H4) ?_).trans rfl;rw[Zb,if_neg (by simpa using he)];rfl
theorem Zay {g:Nat} {mm:List Value->M Value} {args:List Value} (hp:np g=some mm) (hy:Nat.blt g Kn=true:=by rfl):run Tryz.prog np lvs (n+1) g args=mm args:=by
 unfold run;simp only[hy,hp,cond_true]
theorem ZxP (h:Dir H d b m):∃ v q H',R (n+2) Za6 [pt d] H=some (v,H')/\Zu H' v ((QK (m.map (·.1))).map strv) q/\HLe H H'/\∀ j∈q,H.length<=j:=by
 have e1:run Tryz.prog np lvs (n+1) JH [.map (some b)] H=some (.func (.func Zm2) #[] #[pt H.length],H++[.cells [.map (some b)] 1 false false]):=by
  rw[Zch rfl];unfold YK;rw[Za (Zdd rfl rfl _)];rfl
 have l1:HLe H (H++[.cells [.map (some b)] 1 false false]):=.app _ _;obtain⟨v,q,H2,e2,r2,l2,o2⟩:=(h.g.hle l1).keys (gks:=ZbH) (gc:=Qa) (gk:=Zm2) (c:=H.length) (by decide) Zo (Nat.le_trans h.few (by decide)) (fun p hp=>Nat.le_trans (h.len p hp) (by decide));have e2':run Tryz.prog np lvs (n+1) ZO [.func (.func Zm2) #[] #[pt H.length],.func (.func Qa) #[] #[]] (H++[.cells [.map (some b)] 1 false false])=some (v,H2):=by
  rw[Zay (show np ZO=some (Za7 ZbH Qa) from rfl)];exact e2
 refine⟨v,q,H2,?_,r2,l1.trans l2,fun j hj=>Nat.le_trans l1.len (o2 j hj)⟩;rw[R,ZnV rfl];unfold Ze1;rw[Za Zg,Za Zj,Za (KM h.c),Za e1,Za e2'];rfl
end
def Zdw (pre s:List UInt8):Bool:=decide (pre.length<=s.length) && (s.take pre.length==pre)
section
variable {H H':Zd} {n:Nat} {s pre:List UInt8}
theorem ZuR {k:Nat} (hk:k<=s.length):sls (strv s) none (some (iv k)) H=some (strv (s.take k),H):=by
 have h1:(⟨s.toArray⟩:ByteArray).size=s.length:=by simp[ByteArray.size]
 have h2:(⟨s.toArray⟩:ByteArray).extract 0 k=⟨(s.take k).toArray⟩:=by
  apply ByteArray.ext
  rw[ByteArray.data_extract];simp
 have hb:bnd (some (iv k)) s.length=some k:=by simp[bnd]
 have hb0:bnd none 0=some 0:=rfl;unfold strv sls;simp only[h1,hb,hb0];rw[if_pos ⟨Nat.zero_le _,hk⟩,h2]
theorem Zvv (hs:s.length<=1000000000) (hp:pre.length<=1000000000):R (n+1) JR [strv s,strv pre] H=some (.bool (Zdw pre s),H):=by
 rw[R,Zd0 rfl];unfold KY Zdw;rw[Za Z9,Za Z9];by_cases h:pre.length<=s.length
 .have q1:bop .int .geq (iv s.length) (iv pre.length) H=some (.bool true,H):=by rw[Qo,decide_eq_true (by omega)]
  rw[Za q1,Z0,Zk,Za Z9,Zk,Za (ZuR h),Zk,Za Zix,Qe,YN,Za Zl,decide_eq_true h];rfl
 .have q1:bop .int .geq (iv s.length) (iv pre.length) H=some (.bool false,H):=by rw[Qo,decide_eq_false (by omega)]
  rw[Za q1];simp[↓Z7,Z5,↓QC,Qg,Qj,Qk,↓Zb,JS,Zg,Yq,Qp,Js,Qt,Jq,Jo,QN,Jz,QO,QT,QZ,Q0,QU,Zl,ZL,YY,YB,Jb,QL,JC,ZI,Q1,JU,JY,JO,ZE,Zn,Zt,Jj,Qm,Qo,JA,JG,Jy,JI,↓YV,JV,↓g_r,Y0,Bool.not_true,Bool.not_false,Bool.false_eq_true,Bool.true_eq_false,reduceIte,List.tail_cons,List.headD_cons,decide_true,decide_false,cond_true,cond_false,Nat.beq_refl,Wa,J1,Qv,ZV,ZM,Jf,YN,KS,Y5,KN,YO,YR,YP,ZP,List.replicate,Zp,Zq,QD,QY,QA,Zj,J4,Z9,ZF,h]
theorem ZoO (hs:s.length<=1000000000) (hp:pre.length<=1000000000):R (n+2) YZ [strv s,strv pre] H=some (.bool (Zdw pre s),H):=by
 have e1:run Tryz.prog np lvs (n+1) JR [strv s,strv pre] H=_:=Zvv hs hp;rw[R,Zko rfl];unfold ZcW;rw[Za e1];rfl
theorem ZDV {c:Nat} (hs:s.length<=1000000000) (hp:pre.length<=1000000000) (hc:H[c]?=some (.cells [strv pre] 1 false false)):R (n+3) Za2 [strv s,pt c] H=some (.bool (!Zdw pre s),H):=by
 have e1:run Tryz.prog np lvs (n+2) YZ [strv s,strv pre] H=_:=ZoO hs hp;rw[R,ZnY rfl];unfold ZeQ;rw[Za (KM hc),Za e1,Za ZL];rfl
section
variable {f v:Value} {p:List UInt8->Bool} {l:List (List UInt8)} {q:List Nat} {Q:Zd->Prop}
theorem WC {ss:List (List UInt8)} {i:Nat} {x:List UInt8} (h:ss[i]?=some x):(ss.map strv)[i]?=some (strv x):=by rw[List.getElem?_map,h];rfl
theorem ZAW (hr:Zu H v (l.map strv) q) (hl:l.length<=1000000) (hf:∀ s∈l,Qn (R n) f [strv s] H=some (.bool (p s),H)):∀ (t k:Nat),l.length - k=t->k<=l.length->
  Zi (c4 (ZD.l1 (R n))) [v,f,iv l.length,iv k] H=some (match (l.drop k).findIdx? p with|some i=>.ret (iv (k+i:Nat))|none=>.ext 0 [],H)
 | 0,k,ht,hk=>by
  have:k=l.length:=by omega
  subst this;rw[List.drop_length];refine Qq ?_;rw[ZM];unfold ZD.l1;rw[Za Zt,Zb,if_neg (by simp)];rfl
 | t+1,k,ht,hk=>by
  have hkl:k < l.length:=by omega
  have hlt:(k:Int) < l.length:=by omega
  have hg:=List.getElem?_eq_getElem hkl;have hm:l[k]∈l:=List.getElem_mem hkl;have hd:=List.drop_eq_getElem_cons hkl;generalize l[k]=x at hg hd hm;have x1:=hr.ix (i:=k) (by simpa using hkl) .i64 H;have x2:=hr.ldx (WC hg);have x3:=hf x hm;have ih:=ZAW hr hl hf t (k+1) (by omega) (by omega);rw[hd,List.findIdx?_cons];cases hp:p x
  .rw[hp] at x3;refine(ZU ?_).trans (ih.trans ?_)
   .rw[ZM];unfold ZD.l1;rw[Za Zt,Zb,if_pos (by simpa using hlt),Za x1,Za x2,Za x3,Zb,if_neg (by simp),Za ZI,JX (by omega)];rfl
   .cases (l.drop (k+1)).findIdx? p with
    | none=>rfl
    | some i=>simp only[Bool.false_eq_true,if_false,Option.map_some];rw[show k+1+i=k+(i+1) by omega]
  .rw[hp] at x3;refine YA ?_;rw[ZM];unfold ZD.l1;rw[Za Zt,Zb,if_pos (by simpa using hlt),Za x1,Za x2,Za x3,Zb,if_pos rfl];rfl
theorem ZD2 (hr:Zu H v (l.map strv) q) (hl:l.length<=1000000) (hf:∀ s∈l,Qn (R n) f [strv s] H=some (.bool (p s),H)) :
  R (n+1) QP [v,f] H=some (match l.findIdx? p with|some i=>iv i|none=>iv (-1),H):=by
 have e:=ZAW hr hl hf l.length 0 (by omega) (by omega);rw[List.drop_zero] at e;have e:Zi (c4 (ZD.l1 (R n))) [v,f,iv l.length,.int .i64 0] H=_:=e;have hlen:ZC v H=some (iv l.length,H):=by have:=hr.rd.len (H':=H);simpa using this
 rw[R,ZaQ rfl];unfold ZD;rw[Za hlen];cases h:l.findIdx? p with
 | none=>rw[h] at e;rw[Q4 e,ZP];rfl
 | some i=>
  rw[h] at e;rw[KG e];simp[ret]
theorem Zwx (hl:l.length<=1000000) (hQ:∀ X X',Q X->Zr q X q X'->Q X') (hf:∀ X,Q X->∀ s∈l,Qn (R n) f [strv s] X=some (.bool (p s),X)):∀ (t j i:Nat) (cs:List (List UInt8)) (X:Zd),l.length - j=t->j<=l.length->i<=j->cs.length=l.length->cs.drop j=l.drop j->Zu X v (cs.map strv) q->Q X->
  ∃ (X':Zd) (cs':List (List UInt8)),Zi (c4 (ZB.l1 (R n))) [v,f,iv i,iv j] X=some (.ext 0 [v,iv (i+((l.drop j).filter fun s=>!p s).length:Nat)],X')/\Zu X' v (cs'.map strv) q/\cs'.length=l.length/\
   cs'.take (i+((l.drop j).filter fun s=>!p s).length)=cs.take i++(l.drop j).filter (fun s=>!p s)/\Zr q X q X'
 | 0,j,i,cs,X,ht,hj,hi,hc,hd,hr,hq=>by
  have:j=l.length:=by omega
  subst this;rw[List.drop_length];have hlen:ZC v X=some (iv l.length,X):=by have:=hr.rd.len (H':=X);simpa[hc] using this
  refine⟨X,cs,Qq ?_,hr,hc,by simp,.refl _ _⟩;rw[ZM];unfold ZB.l1;rw[Za hlen,Za Zt,Zb,if_neg (by simp)];rfl
 | t+1,j,i,cs,X,ht,hj,hi,hc,hd,hr,hq=>by
  have hjl:j < l.length:=by omega
  have hlt:(j:Int) < l.length:=by omega
  have hg:=List.getElem?_eq_getElem hjl;have hm:l[j]∈l:=List.getElem_mem hjl;have hdl:=List.drop_eq_getElem_cons hjl;generalize l[j]=x at hg hdl hm;have hgc:cs[j]?=some x:=by
   have h1:(cs.drop j)[0]?=(l.drop j)[0]?:=by rw[hd]
   simpa[hg] using h1
  have hlen:ZC v X=some (iv l.length,X):=by have:=hr.rd.len (H':=X);simpa[hc] using this
  have x1:=hr.ix (i:=j) (by simpa[hc] using hjl) .i64 X;have x2:=hr.ldx (WC hgc);have x3:=hf X hq x hm;have hd1:cs.drop (j+1)=l.drop (j+1):=by
   rw[<- List.drop_drop,hd,List.drop_drop]
  rw[hdl,List.filter_cons];cases hp:p x
  .rw[hp] at x3;have x4:=hr.ix (i:=i) (by simp[hc];omega) .i64 X;obtain⟨X1,x5,r1,s1,_⟩:=hr.stx (i:=i) (u:=strv x) (by simp[hc];omega) rfl;have hset:(cs.map strv).set i (strv x)=(cs.set i x).map strv:=by rw[List.map_set]
   rw[hset] at r1;obtain⟨X',cs',e,r',hc',ht',s'⟩:=Zwx hl hQ hf t (j+1) (i+1) (cs.set i x) X1 (by omega) (by omega) (by omega) (by simpa using hc) (by rw[List.drop_set_of_lt (by omega)];exact hd1) r1 (hQ _ _ hq s1);have hn:i+1+((l.drop (j+1)).filter fun s=>!p s).length=i+(((l.drop (j+1)).filter fun s=>!p s).length+1):=by omega
   rw[hn] at e ht';simp only[Bool.not_false,if_true,List.length_cons];refine⟨X',cs',(ZU ?_).trans e,r',hc',?_,s1.trans s'⟩
   .rw[ZM];unfold ZB.l1;rw[Za hlen,Za Zt,Zb,if_pos (by simpa using hlt),Za x1,Za x2,Za x3,Za ZL];refine(ZJ (vs:=[v,f,iv ((i+1:Nat):Int),iv j]) (H':=X1) ?_).trans ?_
    .rw[Zb,if_pos (by rfl),Za x4,Za x5,Za ZI,JX (by omega)];rfl
    .rw[ZM,Za ZI,JX (by omega)];rfl
   .rw[ht'];have:(cs.set i x).take (i+1)=cs.take i++[x]:=by
     have hil:i < (cs.set i x).length:=by simp[hc];omega
     rw[List.take_succ_eq_append_getElem hil,List.take_set_of_le (Nat.le_refl _)];simp
    rw[this];simp
  .rw[hp] at x3;obtain⟨X',cs',e,r',hc',ht',s'⟩:=Zwx hl hQ hf t (j+1) i cs X (by omega) (by omega) (by omega) hc hd1 hr hq;simp only[Bool.not_true,Bool.false_eq_true,if_false];refine⟨X',cs',(ZU ?_).trans e,r',hc',ht',s'⟩;rw[ZM];unfold ZB.l1;rw[Za hlen,Za Zt,Zb,if_pos (by simpa using hlt),Za x1,Za x2,Za x3,Za ZL];refine(ZJ (vs:=[v,f,iv i,iv j]) (H':=X) ?_).trans ?_
   .rw[Zb,if_neg (by simp)];rfl
   .rw[ZM,Za ZI,JX (by omega)];rfl
theorem ZgI:∀ {l:List (List UInt8)},(match l.findIdx? p with|some i=>l.filter (fun s=>!p s)=l.take i++(l.drop (i+1)).filter (fun s=>!p s)/\i < l.length|none=>l.filter (fun s=>!p s)=l)
 | []=>by simp
 | x :: l=>by
  have ih:=ZgI (l:=l);rw[List.findIdx?_cons];cases hp:p x
  .simp only[Bool.false_eq_true,if_false];cases h:l.findIdx? p with
   | none=>rw[h] at ih;simp[hp];simpa using ih
   | some i=>rw[h] at ih;simp[hp,ih.1,ih.2]
  .simp[hp]
theorem ZEG (k:Nat):reps k (Value.string ⟨#[]⟩).cells.toList=List.replicate k (strv []):=by
 induction k with
 | zero=>rfl
 | succ k ih=>
  unfold reps at ih ⊢;rw[List.replicate_succ,List.flatten_cons,ih];rfl
theorem Zty {cs:List (List UInt8)} {i:Nat} (hr:Zu H v (cs.map strv) q) (hi:i < cs.length):∃ a H' v',slv 1 v (some (iv i)) none none H=some (a,H)/\clr (.string ⟨#[]⟩) 1 a H=some (.tuple #[],H')/\slv 1 v none (some (iv i)) none H'=some (v',H')/\Zu H' v' ((cs.take i).map strv) q/\Zr q H q H':=by
 rcases hr with⟨h1,_,_⟩|⟨sid,rest,g,rfl,rfl,hid⟩
 .simp at h1;simp[h1] at hi
 .rw[List.length_map] at *;have b1:bnd (some (iv i)) 0=some i:=by simp[bnd]
  have b1':bnd (some (iv i)) cs.length=some i:=by simp[bnd]
  have b2:∀ k,bnd none k=some k:=fun _=>rfl;have hsp:splice (cs.map strv++rest) (List.replicate (cs.length - i) (strv [])) i=(cs.take i).map strv++(List.replicate (cs.length - i) (strv [])++rest):=by
   unfold splice;rw[List.length_replicate,Nat.add_sub_cancel' (Nat.le_of_lt hi),List.take_append_of_le_length (by simp;omega),List.drop_append_of_le_length (by simp),List.drop_eq_nil_of_le (by simp),List.map_take];simp
  refine⟨.slice (some ⟨sid,0+i * 1,none⟩) (cs.length - i) (cs.length+rest.length - i),H.set sid (.cells ((cs.take i).map strv++(List.replicate (cs.length - i) (strv [])++rest)) 1 g false),.slice (some ⟨sid,0,none⟩) i (cs.length+rest.length),?_,?_,?_,?_,⟨by simp,fun j hj hn=>List.getElem?_set_ne (fun e=>hn (by simp[e])),fun j hj=>.inl hj⟩⟩
  .simp only[slv,hid,b1,b2];rw[if_pos ⟨trivial,by omega,by omega,Nat.le_refl _⟩,if_neg (by omega)]
  .simp only[clr];rw[if_neg (by omega)];simp only[hid];rw[if_pos ⟨trivial,by simp;omega⟩,ZEG];rw[Nat.zero_add,Nat.mul_one,hsp]
  .simp only[slv,ZW hid,b1',b2];rw[if_pos ⟨trivial,by omega,by omega,Nat.le_refl _⟩,if_neg (by omega)];simp
  .have hl:((cs.take i).map strv).length=i:=by simp;omega
   refine .inr ⟨sid,List.replicate (cs.length - i) (strv [])++rest,g,?_,rfl,ZW hid⟩;rw[hl];simp;omega
theorem ZlS (hr:Zu H v (l.map strv) q) (hl:l.length<=1000000) (hQ:∀ X X',Q X->Zr q X q X'->Q X') (hf:∀ X,Q X->∀ s∈l,Qn (R n) f [strv s] X=some (.bool (p s),X)) (hf1:∀ X,Q X->∀ s∈l,Qn (R (n+1)) f [strv s] X=some (.bool (p s),X)) (h0:Q H) :
  ∃ H' v',R (n+2) Z4 [v,f] H=some (v',H')/\Zu H' v' ((l.filter fun s=>!p s).map strv) q/\Zr q H q H':=by
 have e1:run Tryz.prog np lvs (n+1) QP [v,f] H=_:=ZD2 hr hl (hf H h0);have hfi:=ZgI (p:=p) (l:=l);have hrun:R (n+2) Z4 [v,f] H=ZB (R (n+1)) v f H:=by rw[R,ZaL rfl]
 rw[hrun];unfold ZB;cases h:l.findIdx? p with
 | none=>
  rw[h] at e1 hfi;refine⟨H,v,?_,by rw[hfi];exact hr,.refl _ _⟩;rw[Za e1,Za ZE,Zb,if_pos (by simp)];rfl
 | some i=>
  rw[h] at e1 hfi;simp only at e1 hfi;obtain⟨X',cs',e2,r2,hc2,ht2,s2⟩:=Zwx (n:=n+1) hl hQ hf1 (l.length - (i+1)) (i+1) i l H rfl (by omega) (by omega) rfl rfl hr h0;have hle:((l.drop (i+1)).filter fun s=>!p s).length<=l.length - (i+1):=by
   have:=List.length_filter_le (fun s=>!p s) (l.drop (i+1));simpa using this
  obtain⟨a,X2,v',a1,a2,a3,a4,a5⟩:=Zty r2 (i:=i+((l.drop (i+1)).filter fun s=>!p s).length) (by omega);refine⟨X2,v',?_,by rw[hfi.1,<- ht2];exact a4,s2.trans a5⟩;rw[Za e1,Za ZE,Zb,if_neg (by simp),Za ZI,JX (by omega),Q4 e2,ZP,Qv,Za a1,Za a2,Za a3];rfl
end
end
def usr (u:List UInt8 × List UInt8):List Value:=[strv u.1,strv u.2,strv [],.bool false,.slice none 0 0]
def KL (m:Qw):Qw:=(QK (m.map (·.1))).map fun k=>(k,(Zf k m).getD [])
section
variable {H H':Zd} {n d b:Nat} {m:Qw} {pre:List UInt8}
theorem ZvN {k:List UInt8} (hk:k∈QK (m.map (·.1))):k∈m.map (·.1):=(List.mem_mergeSort).1 hk
theorem ZCh (h:Dir H d b m) {k:List UInt8} (hk:k∈QK (m.map (·.1))):k.length<=12:=by
 obtain⟨p,hp,rfl⟩:=List.mem_map.1 (ZvN hk);exact h.len p hp
theorem Zvi (h:Dir H d b m):(QK (m.map (·.1))).length<=12:=by
 rw[ZiO,List.length_map];exact h.few
theorem ZAX (h:Dir H d b m) (hp:pre.length<=1000000000):∃ v q H',R (n+6) Zc8 [pt d,strv pre] H=some (.tuple #[v,iv (Ym pre)],H')/\Zu H' v ((if Zff pre then(QK (m.map (·.1))).filter (Zdw pre) else[]).map strv) q/\HLe H H'/\∀ j∈q,H.length<=j:=by
 have e0:=Zdd (v:=strv pre) rfl rfl H;have l0:HLe H (H++[Ze.cells [strv pre] 1 false false]):=.app _ _;have c0:(H++[Ze.cells [strv pre] 1 false false])[H.length]?=some (.cells [strv pre] 1 false false):=Zo;have g0:(H++[Ze.cells [strv pre] 1 false false]).length=H.length+1:=by simp
 generalize H++[Ze.cells [strv pre] 1 false false]=H1 at e0 l0 c0 g0;generalize hc:H.length=c at e0 c0 g0;have e1:run Tryz.prog np lvs (n+5) ZaA [strv pre] H1=some (iv (Ym pre),H1):=Zvt hp;by_cases hb:Zff pre=true
 .have he:Ym pre=0:=by unfold Ym;rw[if_pos hb]
  obtain⟨v,q,H2,e2,r2,l2,o2⟩:=ZxP (n:=n+3) (h.hle l0);have hQ:∀ X X',X[c]?=some (.cells [strv pre] 1 false false)->Zr q X q X'->X'[c]?=some (.cells [strv pre] 1 false false):=fun X X' hx hs=>hs.get hx fun hj=>by have:=o2 c hj;omega
  have hcall:∀ n X,X[c]?=some (.cells [strv pre] 1 false false)->∀ s∈QK (m.map (·.1)),Qn (R (n+3)) (.func (.func Za2) #[] #[pt c]) [strv s] X=some (.bool (!Zdw pre s),X):=fun n X hx s hs=>by
   rw[show(#[pt c]:Array Value)=[pt c].toArray from rfl,Zh7];exact ZDV (Nat.le_trans (ZCh h hs) (by decide)) hp hx
  have hfew:=Zvi h;obtain⟨H3,v',e3,r3,s3⟩:=ZlS (n:=n+3) (f:=.func (.func Za2) #[] #[pt c]) (p:=fun s=>!Zdw pre s) (Q:=fun X=>X[c]?=some (.cells [strv pre] 1 false false)) r2 (by omega) hQ (hcall n) (hcall (n+1)) (l2 _ _ c0);have hm:=(l0.trans l2).more s3 (fun j hj=>by have:=o2 j hj;omega);refine⟨v',q,H3,?_,by simpa[hb] using r3,hm.1,fun j hj=>by have:=hm.2 j hj;omega⟩;rw[R,Zh6 rfl];unfold Zc5;rw[Za e0,Za (KM c0),Za e1,Za Zn,he,Zb,if_neg (by simp)];refine(Za e2).trans ((Za e3).trans rfl)
 .have he:Ym pre=10:=by unfold Ym;rw[if_neg hb]
  refine⟨.slice none 0 0,[],H1,?_,by rw[if_neg hb];exact Zu.nil,l0,by simp⟩;rw[R,Zh6 rfl];unfold Zc5;rw[Za e0,Za (KM c0),Za e1,Za Zn,he,Zb,if_pos (by simp)];rfl
theorem Zyc {k s:List UInt8} {H:Zd}:bld (.agg #[.string ⟨#[]⟩,.string ⟨#[]⟩,.string ⟨#[]⟩,.bool false,.slice none 0 0]) [(0,1,strv k),(1,1,strv s)] H=some (.agg (usr (k,s)).toArray,H):=by
 simp[↓Z7,Z5,↓QC,Qg,Qj,Qk,↓Zb,JS,Zg,Yq,Qp,Js,Qt,Jq,Jo,QN,Jz,QO,QT,QZ,Q0,QU,Zl,ZL,YY,YB,Jb,QL,JC,ZI,Q1,JU,JY,JO,ZE,Zn,Zt,Jj,Qm,Qo,JA,JG,Jy,JI,↓YV,JV,↓g_r,Y0,Yw,WB,splice,Value.cells,strv,usr,oneCell]
theorem ZsF (u:List UInt8 × List UInt8):(usr u).length=5:=rfl
theorem ZDi (u:List UInt8 × List UInt8):(usr u).all oneCell=true:=rfl
theorem ZyA {v:Value} {q0:List Nat} {ks:List (List UInt8)} (h:Dir H d b m) (hr:Zu H v (ks.map strv) q0) (hk:ks.length<=1000) (hH0:∀ j∈q0,j < H.length):∀ (t k:Nat) (sl:Value) (q:List Nat) (X:Zd),ks.length - k=t->k<=ks.length->HLe H X->(∀ j∈q,H.length<=j)->Yj 5 X sl ((ks.take k).map fun k=>usr (k,(Zf k m).getD [])) q->
  ∃ X' sl' q',Zi (c5 (Kr.l1 (R n))) [pt d,sl,v,iv ks.length,iv k] X=some (.ext 0 [sl'],X')/\Yj 5 X' sl' (ks.map fun k=>usr (k,(Zf k m).getD [])) q'/\HLe H X'/\(∀ j∈q',H.length<=j)
 | 0,k,sl,q,X,ht,hkl,hl,hq,hn=>by
  have:k=ks.length:=by omega
  subst this;rw[List.take_length] at hn;refine⟨X,sl,q,Qq ?_,hn,hl,hq⟩;rw[Jf];unfold Kr.l1;rw[Za Zt,Zb,if_neg (by simp)];rfl
 | t+1,k,sl,q,X,ht,hkl,hl,hq,hn=>by
  have hlt:k < ks.length:=by omega
  have hlt':(k:Int) < ks.length:=by omega
  have hg:=List.getElem?_eq_getElem hlt;have htk:=List.take_succ_eq_append_getElem hlt;generalize ks[k]=x at hg htk;have hX:=h.hle hl;have hrx:Zu X v (ks.map strv) q0:=hr.keep fun j hj=>hl.step.keep j (hH0 j hj) (by simp);have x1:=hrx.ix (i:=k) (by simpa using hlt) .i64 X;have x2:=hrx.ldx (WC hg);have x3:=hX.g.lkp (k:=x) (z:=.string ⟨#[]⟩) (ok:=false);have x3:lkp .str (.string ⟨#[]⟩) false (.map (some b)) (strv x) X=some (strv ((Zf x m).getD []),X):=by
   rw[x3];cases Zf x m<;>rfl
  have x4:=ZCT (es:=5) (z:=.agg #[.string ⟨#[]⟩,.string ⟨#[]⟩,.string ⟨#[]⟩,.bool false,.slice none 0 0]) (H:=X) rfl (ZsF (x,(Zf x m).getD [])) (ZDi _);have l1:HLe X (X++[Ze.cells (usr (x,(Zf x m).getD [])) 5 false false]):=.app _ _;have s1:SlN 5 (X++[Ze.cells (usr (x,(Zf x m).getD [])) 5 false false]) (.slice (some ⟨X.length,0,none⟩) 1 1) [usr (x,(Zf x m).getD [])]:=SlN.whole (rows:=[usr (x,(Zf x m).getD [])]) (c:=1) (e:=5) (g:=false) (ro:=false) (by rw[Zo];simp) (by simp[ZsF]);generalize X++[Ze.cells (usr (x,(Zf x m).getD [])) 5 false false]=X1 at x4 l1 s1;have hn1:Yj 5 X1 sl _ q:=hn.keep fun j hj=>l1.step.keep j (hn.lt j hj) (by simp);obtain⟨sl',X2,q',x5,hn2,s2⟩:=hn1.push (b:=80) s1 (ZsF _) (by simp;omega) (by simp;omega);have hm:=(hl.trans l1).more s2 hq;rw[<- List.map_singleton (f:=fun k=>usr (k,(Zf k m).getD [])),<- List.map_append,<- htk] at hn2;obtain⟨X',sl2,q2,e,r⟩:=ZyA h hr hk hH0 t (k+1) sl' q' X2 (by omega) (by omega) hm.1 hm.2 hn2;refine⟨X',sl2,q2,(ZU ?_).trans e,r⟩;rw[Jf];unfold Kr.l1;rw[Za Zt,Zb,if_pos (by simpa using hlt'),Za x1,Za x2,Za Zg,Za Zj,Za (KM hX.c),Za x3,Za Zyc,Za x4,Za x5,Za ZI,JX (by omega)];rfl
theorem ZCJ (h:Dir H d b m):∃ v q H',R (n+3) ZaY [pt d] H=some (v,H')/\Yj 5 H' v ((KL m).map usr) q/\HLe H H'/\∀ j∈q,H.length<=j:=by
 obtain⟨v,q,H1,e1,r1,l1,o1⟩:=ZxP (n:=n) h;have hfew:=Zvi h;obtain⟨H2,sl,q2,e2,r2,l2,o2⟩:=ZyA (n:=n+2) (h.hle l1) r1 (by omega) (fun j hj=>r1.lt j hj) (QK (m.map (·.1))).length 0 (.slice none 0 0) [] H1 rfl (by omega) (.refl _) (by simp) Yj.nil;have e2:Zi (c5 (Kr.l1 (R (n+2)))) [pt d,.slice none 0 0,v,iv (QK (m.map (·.1))).length,.int .i64 0] H1=_:=e2;have hlen:ZC v H1=some (iv (QK (m.map (·.1))).length,H1):=by have:=r1.rd.len (H':=H1);simpa using this
 refine⟨sl,q2,H2,?_,by unfold KL;rw[List.map_map];exact r2,l1.trans l2,fun j hj=>Nat.le_trans l1.len (o2 j hj)⟩;rw[R,Zq5 rfl];unfold Kr;refine(Za e1).trans ?_;rw[Za hlen,Q4 e2,ZP];rfl
end
theorem Zyj (s:ByteArray):Value.string s=strv s.data.toList:=by simp[strv]
section
variable {H:Zd} {n:Nat}
end
abbrev Ent:=List UInt8 × List UInt8
def ZyE (l:Qw):Prop:=l.Pairwise fun a b=>a.1 < b.1
section
variable {m:Qw} {k s:List UInt8} {x:Ent}
theorem ZmT (hn:(m.map (·.1)).Nodup):x∈KL m↔Zf x.1 m=some x.2:=by
 unfold KL;rw[List.mem_map];constructor
 .rintro⟨k,hk,rfl⟩
  have hk:=ZvN hk;obtain⟨p,hp,rfl⟩:=List.mem_map.1 hk;have:Zf p.1 m=some p.2:=Zck hn hp;simp[this]
 .intro h;refine⟨x.1,List.mem_mergeSort.2 (List.mem_map.2 ⟨_,Kz h,rfl⟩),?_⟩;rw[h];rfl
theorem Zy5 (hn:(m.map (·.1)).Nodup):ZyE (KL m):=by
 have hk:(QK (m.map (·.1))).Pairwise (· < ·):=by
  have tr:∀ a b c:List UInt8,leB a b=true->leB b c=true->leB a c=true:=fun a b c h1 h2=>by simp only[leB,decide_eq_true_eq] at *;exact List.le_trans h1 h2
  have to:∀ a b:List UInt8,(leB a b || leB b a)=true:=fun a b=>by simp only[leB,Bool.or_eq_true,decide_eq_true_eq];exact List.le_total a b
  have h1:=List.pairwise_mergeSort tr to (m.map (·.1));have h2:(QK (m.map (·.1))).Pairwise (·≠·):=List.nodup_iff_pairwise_ne.1 ((List.mergeSort_perm _ _).nodup_iff.2 hn);refine(h1.and h2).imp fun {a b} h=>?_;have h3:a<=b:=by have:=h.1;simpa[leB] using this
  rcases ZmX a b with h4|h4|h4
  .exact h4
  .exact absurd h4 h.2
  .exact absurd h4 h3
 unfold ZyE KL;rw[List.pairwise_map];exact hk
theorem ZAn:(KL m).length=m.length:=by
 unfold KL;rw[List.length_map,ZiO,List.length_map]
end
def GV (H:Zd) (gv:Value) (gs:List (List UInt8)):Prop:=
 (gs=[]/\(gv=.slice none 0 0\/gv=.slice (some ⟨0,0,some 1⟩) 0 0))\/
 ∃ id rest,gv=.slice (some ⟨id,0,none⟩) gs.length (gs.length+rest.length)/\H[id]?=some (.cells (gs.map strv++rest) 1 false true)
section
variable {H H' X:Zd} {n p:Nat} {gv:Value} {gs:List (List UInt8)}
theorem GV.mono (h:GV H gv gs) (hl:HLe H H'):GV H' gv gs:=by
 rcases h with h|⟨id,rest,h1,h2⟩
 .exact .inl h
 .exact .inr ⟨id,rest,h1,hl _ _ h2⟩
theorem GV.sl (h:GV H gv gs):Sl H gv (gs.map strv):=by
 rcases h with⟨rfl,rfl|rfl⟩|⟨id,rest,rfl,h2⟩
 .exact Sl.nil
 .exact⟨_,_,rfl,(fun e=>by cases e),rfl⟩
 .refine⟨some ⟨id,0,none⟩,gs.length+rest.length,by rw[List.length_map],(fun e=>by cases e),?_⟩;simp only[QH,h2];rw[if_pos (by simp)];simp
theorem GV.len (h:GV H gv gs):ZC gv H'=some (iv gs.length,H'):=by
 have:=h.sl.len (H':=H')
 rwa [List.length_map] at this
theorem GV.one (h:GV H gv gs):oneCell gv=true:=by
 rcases h with⟨_,rfl|rfl⟩|⟨id,rest,rfl,_⟩<;>rfl
theorem GV.cut (h:GV H gv gs) {k:Nat} (hk:k<=gs.length):∃ sv,slv 1 gv none (some (iv k)) none H=some (sv,H)/\Sl H sv ((gs.take k).map strv):=by
 have b1:∀ d,bnd (some (iv k)) d=some k:=fun d=>by simp[bnd]
 have b2:∀ d,bnd none d=some d:=fun _=>rfl;rcases h with⟨rfl,h⟩|⟨id,rest,rfl,h2⟩
 .have hk0:k=0:=by simpa using hk
  subst hk0;rcases h with rfl|rfl
  .exact⟨_,rfl,Sl.nil⟩
  .exact⟨_,rfl,⟨_,_,rfl,(fun e=>by cases e),rfl⟩⟩
 .by_cases h0:gs.length+rest.length=0
  .have hk0:k=0:=by omega
   subst hk0;refine⟨.slice (some ⟨id,0,some (bif false then 1 else 0)⟩) 0 0,?_,⟨_,_,rfl,(fun e=>by cases e),rfl⟩⟩;simp only[slv,h2,b1,b2];rw[if_pos ⟨trivial,by omega,by omega,Nat.le_refl _⟩,if_pos (by omega)]
  .refine⟨.slice (some ⟨id,0,none⟩) k (gs.length+rest.length),?_,?_⟩
   .simp only[slv,h2,b1,b2];rw[if_pos ⟨trivial,by omega,by omega,Nat.le_refl _⟩,if_neg (by omega)];simp
   .have hl:((gs.take k).map strv).length=k:=by simp;omega
    refine⟨some ⟨id,0,none⟩,gs.length+rest.length,by rw[hl],(fun e=>by cases e),?_⟩;simp only[QH,h2];rw[if_pos (by simp;omega),List.drop_zero,Nat.mul_one,List.take_append_of_le_length (by simpa using hk),List.map_take]
structure ZA where
 nm:List UInt8
 hs:List UInt8
 ml:List UInt8
 ds:Bool
 gv:Value
 gs:List (List UInt8)
abbrev ZA.cells (u:ZA):List Value:=[strv u.nm,strv u.hs,strv u.ml,.bool u.ds,u.gv]
def ZA.ok (H:Zd) (u:ZA):Prop:=GV H u.gv u.gs
theorem ZA.all {u:ZA} (h:u.ok H):u.cells.all oneCell=true:=by
 have:=GV.one h;simp only[ZA.cells,List.all_cons,this];rfl
def Users (H:Zd) (sl:Value) (us:List ZA):Prop:=SlN 5 H sl (us.map ZA.cells)/\∀ u∈us,u.ok H
variable {sl:Value} {us:List ZA}
theorem Users.mono (h:Users H sl us) (hl:HLe H H'):Users H' sl us:=⟨h.1.mono hl,fun u hu=>(h.2 u hu).mono hl⟩
theorem Users.len (h:Users H sl us):ZC sl H'=some (iv us.length,H'):=by
 have:=h.1.len (H':=H')
 rwa [List.length_map] at this
theorem Users.fetch {β:Type} {k:Value->M β} (h:Users H sl us) {j:Nat} {u:ZA} (hj:us[j]?=some u) :
  bind (ixa 5 sl (iv j)) (fun p=>bind (ldA 5 p) fun v=>bind (alc 1 (.agg #[.string ⟨#[]⟩,.string ⟨#[]⟩,.string ⟨#[]⟩,.bool false,.slice none 0 0])) fun q=>bind (stA 5 q v) fun _=>k q) H=k (pt H.length) (H++[.cells u.cells 1 false false]):=by
 have hr:(us.map ZA.cells)[j]?=some u.cells:=by rw[List.getElem?_map,hj];rfl
 rw[h.1.fetch hr (by omega) .i64];exact ZbB (n:=5) (zs:=[.string ⟨#[]⟩,.string ⟨#[]⟩,.string ⟨#[]⟩,.bool false,.slice none 0 0]) (r:=u.cells) rfl rfl rfl (ZA.all (h.2 u (List.mem_of_getElem? hj)))
end
def ZFj (u:ZA):Bool:=(u.ml==[]) && (!u.ds && decide (u.gs.length=0))
def ZEC (u:ZA):Int:=if Zw u.nm then(if WD u.hs then(if ZFj u then 0 else 12) else 4) else 10
def Zv3:List ZA->Int
 | []=>0
 | u :: l=>if ZEC u=0 then Zv3 l else ZEC u
def ZuO (u:ZA):Ent:=(u.nm,u.hs)
def ZAB:Option (List UInt8)->List ZA->Bool
 | _,[]=>true
 | p,u :: l=>(match p with|none=>true|some p=>decide (p < u.nm)) && ZAB (some u.nm) l
section
variable {H0 H X:Zd} {n p:Nat} {u:ZA} {us:List ZA} {sl:Value}
theorem Zym {a c:Int} {v:Value} (hs:Sl X v [iv a,iv c]):R (n+1) Zbq [v] X=some (iv (if a=0 then c else a),X):=by
 have e1:ZC v X=some (iv 2,X):=hs.len;have x1:ixa 1 v (.int .i64 0) X=some (ixp v 0,X):=hs.ix (i:=0) (by simp) .i64 X;have x2:=hs.ldx (i:=0) (v:=iv a) rfl;have x3:ixa 1 v (.int .i64 1) X=some (ixp v 1,X):=hs.ix (i:=1) (by simp) .i64 X;have x4:=hs.ldx (i:=1) (v:=iv c) rfl;have w1:IntKind.i64.wrap (0+1)=1:=w64 (by omega) (by omega);have w2:IntKind.i64.wrap (1+1)=2:=w64 (by omega) (by omega);rw[R,Zuw rfl];unfold J2;rw[Za e1];by_cases ha:a=0
 .rw[if_pos ha];have s1:c3 (J2.l1 (run Tryz.prog np lvs n)) [v,iv 2,.int .i64 0] X=some (.nrm [v,iv 2,.int .i64 1],X):=by
   rw[ZV];unfold J2.l1;rw[Za Zt,Zb,if_pos (by decide),Za x1,Za x2,Za Zn,Zb,if_neg (by simp[ha]),Za ZI,w1];rfl
  by_cases hc:c=0
  .have s2:c3 (J2.l1 (run Tryz.prog np lvs n)) [v,iv 2,.int .i64 1] X=some (.nrm [v,iv 2,.int .i64 2],X):=by
    rw[ZV];unfold J2.l1;rw[Za Zt,Zb,if_pos (by decide),Za x3,Za x4,Za Zn,Zb,if_neg (by simp[hc]),Za ZI,w2];rfl
   have s3:c3 (J2.l1 (run Tryz.prog np lvs n)) [v,iv 2,.int .i64 2] X=some (.ext 0 [],X):=by
    rw[ZV];unfold J2.l1;rw[Za Zt,Zb,if_neg (by decide)];rfl
   rw[Q4 ((ZU s1).trans ((ZU s2).trans (Qq s3))),ZP,hc];rfl
  .have s2:c3 (J2.l1 (run Tryz.prog np lvs n)) [v,iv 2,.int .i64 1] X=some (.ret (iv c),X):=by
    rw[ZV];unfold J2.l1;rw[Za Zt,Zb,if_pos (by decide),Za x3,Za x4,Za Zn,Zb,if_pos (by simp[hc])];rfl
   rw[KG ((ZU s1).trans (YA s2))];rfl
 .rw[if_neg ha];have s1:c3 (J2.l1 (run Tryz.prog np lvs n)) [v,iv 2,.int .i64 0] X=some (.ret (iv a),X):=by
   rw[ZV];unfold J2.l1;rw[Za Zt,Zb,if_pos (by decide),Za x1,Za x2,Za Zn,Zb,if_pos (by simp[ha])];rfl
  rw[KG (YA s1)];rfl
theorem ZCS {a c:Int} (H:Zd):bsl 1 2 (.int .i64 0) [(0,1,iv a),(1,1,iv c)] H=some (.slice (some ⟨H.length,0,none⟩) 2 2,H++[.cells [iv a,iv c] 1 false false]):=rfl
theorem ZFz {a c:List UInt8} {H:Zd}:bop .str .lss (strv a) (strv c) H=some (.bool (decide (a < c)),H):=by
 rw[<- bytesLess_eq];show(sop .lss (⟨a.toArray⟩:ByteArray) (⟨c.toArray⟩:ByteArray)).map (·,H)=_
 unfold sop;rw[Zac,Zac];rfl
theorem ZFN {a c:List UInt8} {H:Zd}:bop .str .geq (strv a) (strv c) H=some (.bool (!decide (a < c)),H):=by
 rw[<- bytesLess_eq];show(sop .geq (⟨a.toArray⟩:ByteArray) (⟨c.toArray⟩:ByteArray)).map (·,H)=_
 unfold sop;rw[Zac,Zac];rfl
theorem ZFD {a c:List UInt8} {H:Zd}:bop .str .gtr (strv a) (strv c) H=some (.bool (decide (c < a)),H):=by
 have h:(!(Op.bytesLess a c || a==c))=decide (c < a):=by
  rw[bytesLess_eq,Bool.eq_iff_iff];simp only[Bool.not_eq_true',Bool.or_eq_false_iff,decide_eq_false_iff_not,beq_eq_false_iff_ne,decide_eq_true_eq];constructor
  .rintro⟨h1,h2⟩
   rcases ZmX a c with h4|h4|h4
   .exact absurd h4 h1
   .exact absurd h4 h2
   .exact h4
  .intro h;exact⟨List.lt_asymm h,by rintro rfl;exact List.lt_irrefl _ h⟩
 rw[<- h];show(sop .gtr (⟨a.toArray⟩:ByteArray) (⟨c.toArray⟩:ByteArray)).map (·,H)=_
 unfold sop;rw[Zac,Zac];rfl
theorem ZxS {a:List UInt8}:R (n+1) Kt [strv a] X=some (.bool false,X):=by
 rw[R,Zmi rfl];unfold Zd2;rw[Za ZiB];simp[ret]
theorem ZBe {a c:List UInt8}:R (n+3) Qa [strv a,strv c] X=some (iv (Zdl a c),X):=by
 have e0:run Tryz.prog np lvs (n+1) Kt [strv a] X=_:=ZxS;have e1:run Tryz.prog np lvs (n+1) Kt [strv c] X=_:=ZxS;have e2:run Tryz.prog np lvs (n+2) Za5 [strv a,strv c] X=some (iv (Zdl a c),X):=by
  rw[ZkQ rfl];unfold ZcM Zdl;rw[Za e0,Za e1,Zb,if_neg (by simp),Zb,if_neg (by simp),Za ZFz,Zb];by_cases h1:a < c
  .rw[if_pos (by simpa using h1),if_pos h1];rfl
  .rw[if_neg (by simpa using h1),Za ZFD,Zb,if_neg h1];by_cases h2:c < a
   .rw[if_pos (by simpa using h2),if_pos h2];rfl
   .rw[if_neg (by simpa using h2),if_neg h2];rfl
 rw[R,Zq6 rfl];unfold ZgG;rw[Za e2];rfl
theorem ZEl {a c:List UInt8}:decide (Zdl a c≥0)=!decide (a < c):=by
 unfold Zdl;by_cases h1:a < c
 .simp[h1]
 .by_cases h2:c < a<;>simp[h1,h2]
end
section
variable {H0 H X:Zd} {n p d b:Nat} {u:ZA} {us:List ZA} {sl dv:Value}
def upB (prev:Option (List UInt8)) (u:ZA):Bool:=match prev with|none=>true|some p=>decide (p < u.nm)
def Zzb (m:Qw) (p:Option (List UInt8)):Prop:=ZyE m/\∀ x∈m,∃ q,p=some q/\x.1<=q
theorem Zzb.put {m:Qw} {p:Option (List UInt8)} (h:Zzb m p) (hu:upB p u=true):Qs u.nm u.hs m=m++[ZuO u]/\Zzb (m++[ZuO u]) (some u.nm):=by
 have hlt:∀ x∈m,x.1 < u.nm:=fun x hx=>by
  obtain⟨q,rfl,h2⟩:=h.2 x hx;have h3:q < u.nm:=by simpa[upB] using hu
  exact List.lt_of_le_of_lt h2 h3
 have hn:Zf u.nm m=none:=Zec.2 fun x hx e=>by
  have:=hlt x hx;rw[e] at this;exact List.lt_irrefl _ this
 refine⟨by unfold Qs;rw[hn];rfl,List.pairwise_append.2 ⟨h.1,by simp,fun a ha c hc=>?_⟩,fun x hx=>⟨u.nm,rfl,?_⟩⟩
 .have:c=ZuO u:=by simpa using hc
  subst this;exact hlt a ha
 .rcases List.mem_append.1 hx with hx|hx
  .exact List.le_of_lt (hlt x hx)
  .have:x=ZuO u:=by simpa using hx
   subst this;exact List.le_refl _
def ofE (us:List ZA):Int:=if Zv3 us=0 then(if ZAB none us then(if 12 < us.length then 7 else 0) else 9) else Zv3 us
end
abbrev ZcJ:=List UInt8 × List UInt8 × List UInt8 × Bool × List (List UInt8)
def Zcv (u:ZA):ZcJ:=(u.nm,u.hs,u.ml,u.ds,u.gs)
section
variable {H0 H X:Zd} {n p p1 p2 d b:Nat} {u w:ZA} {us ws:List ZA} {a c:Value}
theorem ZFw {u:ZA} (h:oneCell u.gv=true):alc 1 (.agg u.cells.toArray) X=some (pt X.length,X++[.cells u.cells 1 false false]):=by
 rw[QT];exact if_pos (show u.cells.toArray.toList.all oneCell=true by simp only[ZA.cells,List.all_cons,h];rfl)
def YS (H:Zd) (sl:Value) (us:List ZA):Prop:=SlN 5 H sl (us.map ZA.cells)/\∀ u∈us,Sl H u.gv (u.gs.map strv)/\oneCell u.gv=true/\u.gs.length<=1000000
theorem YS.mono (h:YS H a us) (hl:HLe H X):YS X a us:=⟨h.1.mono hl,fun u hu=>⟨(h.2 u hu).1.mono hl,(h.2 u hu).2⟩⟩
theorem Users.s (h:Users H a us) (hb:∀ u∈us,u.gs.length<=1000000):YS H a us:=⟨h.1,fun u hu=>⟨GV.sl (h.2 u hu),GV.one (h.2 u hu),hb u hu⟩⟩
end
section
variable {H H':Zd} {n d b p q:Nat} {m:Qw} {k s:List UInt8}
theorem Zz5 (h:Dir H d b m) (hk:k.length<=1000000000) (hs:s.length<=1000000000):∃ H',R (n+7) WZ [pt d,strv k,strv s] H=some (iv (ZbM k s m),H')/\Dir H' d b (Zpk k s m)/\Zr [b] H [b] H':=by
 have e1:run Tryz.prog np lvs (n+6) Zb4 [strv s] H=_:=ZCO;have a1:HLe H (H++[Ze.cells [strv s] 1 false false]):=.app _ _;have p1:(H++[Ze.cells [strv s] 1 false false])[H.length]?=some (.cells [strv s] 1 false false):=Zo;generalize hH1:H++[Ze.cells [strv s] 1 false false]=H1 at e1 a1 p1;generalize H.length=q0 at e1 p1;have e2:run Tryz.prog np lvs (n+6) JQ [pt d,strv k] H1=_:=Zs6;have a2:HLe H1 (H1++[.cells [pt d] 1 false false]++[.cells [strv k] 1 false false]):=(HLe.app _ _).trans (.app _ _);have p2:(H1++[Ze.cells [pt d] 1 false false]++[.cells [strv k] 1 false false])[H1.length]?=some (.cells [pt d] 1 false false):=Zrn;have p3:(H1++[Ze.cells [pt d] 1 false false]++[.cells [strv k] 1 false false])[H1.length+1]?=some (.cells [strv k] 1 false false):=ZqE;generalize hH2:H1++[Ze.cells [pt d] 1 false false]++[.cells [strv k] 1 false false]=H2 at e2 a2 p2 p3;generalize H1.length=q1 at e2 p2 p3;have e3:=ZCY (a:=.func (.func JZ) #[] #[pt q0]) (c:=.func (.func Qh) #[] #[pt q1,pt (q1+1)]) rfl rfl rfl rfl H2;have a3:HLe H2 (H2++[Ze.cells [.func (.func JZ) #[] #[pt q0],.func (.func Qh) #[] #[pt q1,pt (q1+1)]] 1 false false]):=.app _ _;have s3:Sl (H2++[Ze.cells [.func (.func JZ) #[] #[pt q0],.func (.func Qh) #[] #[pt q1,pt (q1+1)]] 1 false false]) (.slice (some ⟨H2.length,0,none⟩) 2 2) [.func (.func JZ) #[] #[pt q0],.func (.func Qh) #[] #[pt q1,pt (q1+1)]]:=Sl.one (c:=2) Zo;generalize H2++[Ze.cells [.func (.func JZ) #[] #[pt q0],.func (.func Qh) #[] #[pt q1,pt (q1+1)]] 1 false false]=H3 at e3 a3 s3
 generalize(Value.slice (some ⟨H2.length,0,none⟩) 2 2)=sl at e3 s3;have l3:=(a1.trans a2).trans a3;obtain⟨H4,e4,a4⟩:=Zsp (n:=n) (es:=[QG s,YX k m]) hk rfl (Nat.le_of_lt_succ (by simp)) s3 (ZrM (P:=fun f e=>∀ H1,HLe H3 H1->∃ H2,Qn (R (n+5)) f [] H1=some (iv e,H2)/\HLe H1 H2)
  (fun X hx=>ZCN hs (hx _ _ (a3 _ _ (a2 _ _ p1)))) (fun X hx=>Zyb (n:=n+4) (h.hle (l3.trans hx)) (hx _ _ (a3 _ _ p2)) (hx _ _ (a3 _ _ p3))))
 have e4:run Tryz.prog np lvs (n+6) Kk [strv k,sl] H3=some (iv (ZbM k s m),H4):=e4;have l4:=l3.trans a4;have h4:=h.hle l4;have hbody:∀ r,bind (bop .int .eql (iv (ZbM k s m)) (.int .i64 0)) (fun v=>jn (cnd v (bind (Zz (pt d)) fun v19x6=>bind (fa 0 v19x6) fun v20x7=>bind (ld1 v20x7) fun v21x8=>bind (mup .str v21x8 (strv k) (strv s)) fun _=>ret (.nrm [iv (ZbM k s m)])) (ret (.nrm [iv (ZbM k s m)]))) (c1 fun q9_0=>ret q9_0) noX ret) H4=r->
   R (n+7) WZ [pt d,strv k,strv s] H=r:=fun r hr=>by
  rw[R,Zlh rfl];unfold Zdp;rw[Za e1,Za e2,Za e3,Za e4];exact hr
 unfold Zpk;by_cases he:ZbM k s m=0
 .have hz:=ZpT.1 he;have hk12:=ZcY (ZcE.1 hz.1);have hr:=Zy7.1 (hz.2 (YX k m) (by simp));obtain⟨H5,e5,g5,s5,_⟩:=h4.g.mup (k:=k) (v:=s);rw[if_pos he];refine⟨H5,hbody _ ?_,h4.putc g5 s5 hk12 (by rw[ZcK,hr];simpa using h.few),(l4.step.more (by simp) (fun j hj=>.inl hj)).trans s5⟩;rw[Za ZE];refine(ZJ (vs:=[iv (ZbM k s m)]) (H':=H5) ?_).trans rfl;rw[Zb,if_pos (by simpa using he),Za Zg,Za Zj,Za (KM h4.c),Za e5];rfl
 .rw[if_neg he];refine⟨H4,hbody _ ?_,h4,l4.step.more (by simp) (fun j hj=>.inl hj)⟩;rw[Za ZE];refine(ZJ (vs:=[iv (ZbM k s m)]) (H':=H4) ?_).trans rfl;rw[Zb,if_neg (by simpa using he)];rfl
theorem ZEV (h:Dir H d b m) (hk:k.length<=1000000000):∃ f H1 sl H2 H3,run Tryz.prog np lvs (n+6) JQ [pt d,strv k] H=some (f,H1)/\bsl 1 1 .nilFunc [(0,1,f)] H1=some (sl,H2)/\run Tryz.prog np lvs (n+6) Kk [strv k,sl] H2=some (iv (Q9 k m),H3)/\HLe H H3:=by
 have e2:run Tryz.prog np lvs (n+6) JQ [pt d,strv k] H=_:=Zs6;have a2:HLe H (H++[.cells [pt d] 1 false false]++[.cells [strv k] 1 false false]):=(HLe.app _ _).trans (.app _ _);have p2:(H++[Ze.cells [pt d] 1 false false]++[.cells [strv k] 1 false false])[H.length]?=some (.cells [pt d] 1 false false):=Zrn;have p3:(H++[Ze.cells [pt d] 1 false false]++[.cells [strv k] 1 false false])[H.length+1]?=some (.cells [strv k] 1 false false):=ZqE;generalize hH2:H++[Ze.cells [pt d] 1 false false]++[.cells [strv k] 1 false false]=H2 at e2 a2 p2 p3;generalize H.length=q1 at e2 p2 p3;have e3:=ZFK (a:=.func (.func Qh) #[] #[pt q1,pt (q1+1)]) rfl rfl H2;have a3:HLe H2 (H2++[Ze.cells [.func (.func Qh) #[] #[pt q1,pt (q1+1)]] 1 false false]):=.app _ _;have s3:Sl (H2++[Ze.cells [.func (.func Qh) #[] #[pt q1,pt (q1+1)]] 1 false false]) (.slice (some ⟨H2.length,0,none⟩) 1 1) [.func (.func Qh) #[] #[pt q1,pt (q1+1)]]:=Sl.one (c:=1) Zo;generalize H2++[Ze.cells [.func (.func Qh) #[] #[pt q1,pt (q1+1)]] 1 false false]=H3 at e3 a3 s3;generalize(Value.slice (some ⟨H2.length,0,none⟩) 1 1)=sl at e3 s3;have l3:=a2.trans a3;obtain⟨H4,e4,a4⟩:=Zsp (n:=n) (es:=[YX k m]) hk rfl (Nat.le_of_lt_succ (by simp)) s3 (Zz4 (P:=fun f e=>∀ H1,HLe H3 H1->∃ H2,Qn (R (n+5)) f [] H1=some (iv e,H2)/\HLe H1 H2)
  (fun X hx=>Zyb (n:=n+4) (h.hle (l3.trans hx)) (hx _ _ (a3 _ _ p2)) (hx _ _ (a3 _ _ p3))))
 exact⟨_,_,_,_,_,e2,e3,e4,l3.trans a4⟩
theorem ZD3 (h1:∀ p∈m,p.1.length<=12):∀ p∈Ys k m,p.1.length<=12:=fun p hp=>h1 p (List.mem_filter.1 hp).1
theorem ZCf (h:Dir H d b m) (hk:k.length<=1000000000):∃ H',R (n+7) Zau [pt d,strv k] H=some (iv (Q9 k m),H')/\Dir H' d b (Zfy k m)/\Zr [b] H [b] H':=by
 obtain⟨f,H1,sl,H2,H4,e2,e3,e4,l4⟩:=ZEV (n:=n) h hk;have h4:=h.hle l4;have hbody:∀ r,bind (bop .int .eql (iv (Q9 k m)) (.int .i64 0)) (fun v=>jn (cnd v (bind (Zz (pt d)) fun v19x6=>bind (fa 0 v19x6) fun v20x7=>bind (ld1 v20x7) fun v21x8=>bind (mde .str v21x8 (strv k)) fun _=>ret (.nrm [iv (Q9 k m)])) (ret (.nrm [iv (Q9 k m)]))) (c1 fun q9_0=>ret q9_0) noX ret) H4=r->
   R (n+7) Zau [pt d,strv k] H=r:=fun r hr=>by
  rw[R,Zmg rfl];unfold ZdW;rw[Za e2,Za e3,Za e4];exact hr
 unfold Zfy;by_cases he:Q9 k m=0
 .obtain⟨H5,e5,g5,s5,_⟩:=h4.g.mde (k:=k);rw[if_pos he];refine⟨H5,hbody _ ?_,⟨s5.get h4.c (by simp[h.ne]),g5,ZD3 h.len,Nat.le_trans (List.length_filter_le _ _) h.few⟩,(l4.step.more (by simp) (fun j hj=>.inl hj)).trans s5⟩;rw[Za ZE];refine(ZJ (vs:=[iv (Q9 k m)]) (H':=H5) ?_).trans rfl;rw[Zb,if_pos (by simpa using he),Za Zg,Za Zj,Za (KM h4.c),Za e5];rfl
 .rw[if_neg he];refine⟨H4,hbody _ ?_,h4,l4.step.more (by simp) (fun j hj=>.inl hj)⟩;rw[Za ZE];refine(ZJ (vs:=[iv (Q9 k m)]) (H':=H4) ?_).trans rfl;rw[Zb,if_neg (by simpa using he)];rfl
theorem ZCj (h:Dir H d b m) (hk:k.length<=1000000000):∃ H',R (n+7) ZaM [pt d,strv k] H=some (.tuple #[strv (if Q9 k m=0 then(Zf k m).getD [] else[]),iv (Q9 k m)],H')/\HLe H H':=by
 obtain⟨f,H1,sl,H2,H4,e2,e3,e4,l4⟩:=ZEV (n:=n) h hk;have h4:=h.hle l4;refine⟨H4,?_,l4⟩;rw[R,ZlO rfl];unfold ZdT;rw[Za e2,Za e3,Za e4,Za Zn];by_cases he:Q9 k m=0
 .have hl:=h4.g.lkp (k:=k) (z:=.string ⟨#[]⟩) (ok:=false);rw[Zb,if_neg (by simpa using he),Za Zg,Za Zj,Za (KM h4.c),Za hl,if_pos he,he];cases Zf k m<;>rfl
 .rw[Zb,if_pos (by simpa using he),if_neg he];rfl
theorem ZEN (h:Dir H d b m):∃ H' d' b',R (n+2) Zaj [pt d] H=some (pt d',H')/\Dir H' d' b' m/\HLe H H'/\H.length<=d'/\H.length<=b':=by
 obtain⟨H1,e1,g1,l1⟩:=h.g.clone;have e1':run Tryz.prog np lvs (n+1) ZQ [.map (some b)] H=some (.map (some H.length),H1):=by
  rw[Zay (show np ZQ=some Za1 from rfl)];exact e1
 have e2:bld (.agg #[.map none]) [(0,1,.map (some H.length))] H1=some (.agg #[.map (some H.length)],H1):=by simp[↓Z7,Z5,↓QC,Qg,Qj,Qk,↓Zb,JS,Zg,Yq,Qp,Js,Qt,Jq,Jo,QN,Jz,QO,QT,QZ,Q0,QU,Zl,ZL,YY,YB,Jb,QL,JC,ZI,Q1,JU,JY,JO,ZE,Zn,Zt,Jj,Qm,Qo,JA,JG,Jy,JI,↓YV,JV,↓g_r,Y0,Yw,WB,splice,Value.cells]
 have e3:alc 1 (.agg #[.map (some H.length)]) H1=some (pt H1.length,H1++[.cells [.map (some H.length)] 1 false false]):=by
  rw[QT];simp[Value.cells,oneCell]
 refine⟨H1++[.cells [.map (some H.length)] 1 false false],H1.length,H.length,?_,⟨Zo,g1.hle (.app _ _),h.len,h.few⟩,l1.trans (.app _ _),l1.len,Nat.le_refl _⟩;rw[R,ZpM rfl];unfold Zfs;rw[Za Zg,Za Zj,Za (KM h.c),Za e1',Za e2,Za e3];rfl
end
structure Zqj where
 kd:Nat
 nm:List UInt8
 hs:List UInt8
abbrev Zqj.cells (a:Zqj):List Value:=[.int .u8 a.kd,strv a.nm,strv a.hs]
def Zkh (H:Zd) (sl:Value) (ac:List Zqj):Prop:=SlN 3 H sl (ac.map Zqj.cells)/\∀ a∈ac,a.kd<=255
section
variable {H H':Zd} {sl:Value} {ac:List Zqj} {n:Nat}
theorem Zkh.len (h:Zkh H sl ac):ZC sl H'=some (iv ac.length,H'):=by
 have:=h.1.len (H':=H')
 rwa [List.length_map] at this
theorem Zkh.mono (h:Zkh H sl ac) (hl:HLe H H'):Zkh H' sl ac:=⟨h.1.mono hl,h.2⟩
theorem Zkh.fetch {β:Type} {k:Value->M β} (h:Zkh H sl ac) {j:Nat} {a:Zqj} (hj:ac[j]?=some a) :
  bind (ixa 3 sl (iv j)) (fun p=>bind (ldA 3 p) fun v=>bind (alc 1 (.agg #[.int .u8 0,.string ⟨#[]⟩,.string ⟨#[]⟩])) fun q=>bind (stA 3 q v) fun _=>k q) H=k (pt H.length) (H++[.cells a.cells 1 false false]):=by
 have hr:(ac.map Zqj.cells)[j]?=some a.cells:=by rw[List.getElem?_map,hj];rfl
 rw[h.1.fetch hr (by omega) .i64];exact ZbB (n:=3) (zs:=[.int .u8 0,.string ⟨#[]⟩,.string ⟨#[]⟩]) (r:=a.cells) rfl rfl rfl rfl
end
end Go.Proofs.YtgfbgfafajiehaaGreatDoor.A

