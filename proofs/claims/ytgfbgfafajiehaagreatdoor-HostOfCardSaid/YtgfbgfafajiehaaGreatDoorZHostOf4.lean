/- What the law HostOf needs (part 4). -/
import Derived.Test.YtgfbgfafajiehaaGreatDoorZHostOf3
import Derived.LaidLaws
import Derived.ChangeArms
import Derived.Maps.Own
import Derived.Sort.KeysCollected
import Derived.Lib.Bytealg
import Derived.Test.YtgfbgfafajiehaaGreatDoorProg
import Derived.WalkKit
import Derived.Maps.RangeWalk
import Derived.Deep.RegionWith
import Derived.Deep.Cut
import Derived.Laws.Cover1
import Derived.Sort.Walk0
import Derived.Sort.OwnSorted
import Derived.Shelf.SlGeneric
import Derived.Shelf.SlIter.Collect
import Derived.Shelf.SlSortCmp.Whole1
import Derived.Shelf.SlMaps.Clone
import Derived.Ground.GgzProg
import Derived.Ground.SlsfProg
import Derived.Ground.SlmcProg
import Derived.KernelRfl
set_option linter.unusedVariables false
set_option linter.unusedSimpArgs false
namespace Go.Proofs.YtgfbgfafajiehaaGreatDoor.A
open Go.Proofs Go.Proofs.YtgfbgfafajiehaaGreatDoor
def Ref {β:Type} (m m':M β):Prop:=∀ H x,m H=some x->m' H=some x
theorem Ref.rfl {β:Type} {m:M β}:Ref m m:=fun _ _ h=>h
theorem Ref.fail {β:Type} {m:M β}:Ref fail m:=fun _ _ h=>by cases h
theorem Ref.bind {α β:Type} {m m':M α} {k k':α->M β} (h:Ref m m') (hk:∀ v,Ref (k v) (k' v)):Ref (A.bind m k) (A.bind m' k'):=by
 intro H x e;obtain⟨v,H1,h1,h2⟩:=bind_some e;unfold A.bind;rw[h _ _ h1];exact hk v _ _ h2
theorem Ref.appM {β:Type} {m m':OpR} {k k':Value->M β} (h:(∃ v,m=.val v/\m'=.val v)\/∃ a b,m=.cmp a/\m'=.cmp b/\Ref a b) (hk:∀ v,Ref (k v) (k' v)):Ref (A.appM m k) (A.appM m' k'):=by
 rcases h with⟨v,rfl,rfl⟩|⟨a,b,rfl,rfl,h⟩
 .exact hk v
 .exact h.bind hk
theorem Ref.cnd {β:Type} {g:Value} {a a' b b':M β} (ha:Ref a a') (hb:Ref b b'):Ref (A.cnd g a b) (A.cnd g a' b'):=by
 unfold A.cnd;split
 .cases ‹Bool›
  .exact hb
  .exact ha
 .exact .rfl
theorem Ref.cond {β:Type} {g:Bool} {a a' b b':M β} (ha:Ref a a') (hb:Ref b b'):Ref (bif g then a else b) (bif g then a' else b'):=by
 cases g
 .exact hb
 .exact ha
theorem Ref.jn {β:Type} {m m':M Out} {kn kn':List Value->M β} {kx kx':Nat->List Value->M β} {kr kr':Value->M β} (h:Ref m m') (hn:∀ vs,Ref (kn vs) (kn' vs)) (hx:∀ j vs,Ref (kx j vs) (kx' j vs)) (hr:∀ v,Ref (kr v) (kr' v)):Ref (A.jn m kn kx kr) (A.jn m' kn' kx' kr'):=by
 refine h.bind fun o=>?_;cases o with
 | nrm vs=>exact hn vs
 | ext j vs=>exact hx j vs
 | ret v=>exact hr v
theorem Ref.gate {g:Value} {w:Bool} {n:Nat} {m m':M (List Value)} (h:Ref m m'):Ref (A.gate g w n m) (A.gate g w n m'):=by
 unfold A.gate;split
 .exact h.cond .rfl
 .exact .rfl
 .exact .rfl
theorem Ref.gateV {g:Value} {w:Bool} {m m':M Value} (h:Ref m m'):Ref (A.gateV g w m) (A.gateV g w m'):=by
 unfold A.gateV;split
 .exact h.cond .rfl
 .exact .rfl
 .exact .rfl
theorem Ref.iter {b b':List Value->M Out} (h:∀ vs,Ref (b vs) (b' vs)) (K:Nat) (vs:List Value):Ref (Zad b K vs) (Zj b' vs):=by
 have hi:∀ (K:Nat) vs,Ref (Zad b K vs) (Zad b' K vs):=by
  intro K
  induction K with
  | zero=>exact fun _=>.rfl
  | succ K ih=>
   intro vs H x e;simp only[Zad] at e ⊢;cases e1:b vs H with
   | none=>rw[e1] at e;cases e
   | some p=>
    rw[e1] at e;rw[h vs _ _ e1];obtain⟨o,H1⟩:=p;cases o with
    | nrm vs'=>exact ih vs' _ _ e
    | ext j vs'=>exact e
    | ret v=>exact e
 exact fun H x e=>Zks.2 ⟨K,hi K vs _ _ e⟩
def Zyx (f:Value->Value->Bool):List Value->List Value->Bool
 | [],[]=>true
 | a :: zs,b :: bs=>f a b && Zyx f zs bs
 | _,_=>false
theorem ZvU {f:Value->Value->Bool} (hf:∀ a b,f a b=true->a=b):∀ {zs bs:List Value},Zyx f zs bs=true->zs=bs
 | [],[],_=>rfl
 | a :: zs,b :: bs,h=>by
  simp only[Zyx,Bool.and_eq_true] at h;rw[hf _ _ h.1,ZvU hf h.2]
 | [],_ :: _,h=>by cases h
 | _ :: _,[],h=>by cases h
def ZIX (f:Value->Value->Bool) (x y:Value):Bool:=
 match x,y with
 | .agg a,.agg b=>Zyx f a.toList b.toList
 | .tuple a,.tuple b=>Zyx f a.toList b.toList
 | .iface t a,.iface u b=>Nat.beq t u && f a b
 | .int k a,.int l b=>decide (k=l) && decide (a=b)
 | .bool a,.bool b=>a==b
 | .string a,.string b=>decide (a=b)
 | .pointer a,.pointer b=>decide (a=b)
 | .slice a l c,.slice b m d=>decide (a=b) && (Nat.beq l m && Nat.beq c d)
 | .map a,.map b=>decide (a=b)
 | .nilFunc,.nilFunc=>true
 | .nilIface,.nilIface=>true
 | _,_=>false
def eqW:Nat->Value->Value->Bool
 | 0=>fun _ _=>false
 | n+1=>ZIX (eqW n)
theorem Ztz:∀ (n:Nat) (a b:Value),eqW n a b=true->a=b
 | 0,_,_,h=>by simp[eqW] at h
 | n+1,a,b,h=>by
  simp only[eqW] at h;unfold ZIX at h;split at h
  .rw[Array.ext' (ZvU (Ztz n) h)]
  .rw[Array.ext' (ZvU (Ztz n) h)]
  .simp only[Bool.and_eq_true] at h;rw[Nat.eq_of_beq_eq_true h.1,Ztz n _ _ h.2]
  .simp only[Bool.and_eq_true,decide_eq_true_eq] at h;rw[h.1,h.2]
  .rw[beq_iff_eq.1 h]
  .rw[of_decide_eq_true h]
  .rw[of_decide_eq_true h]
  .simp only[Bool.and_eq_true,decide_eq_true_eq] at h;rw[h.1,Nat.eq_of_beq_eq_true h.2.1,Nat.eq_of_beq_eq_true h.2.2]
  .rw[of_decide_eq_true h]
  .rfl
  .rfl
  .cases h
def ZCF {β:Type} (u v:Value) (m:M β):M β:=bif eqW 9 u v then m else fail
theorem ZEi {β:Type} {u v:Value} {m m':M β} (h:Ref m m'):Ref (ZCF u v m) (same u v m'):=by
 intro H x e;unfold ZCF at e;cases hq:eqW 9 u v with
 | false=>rw[hq] at e;cases e
 | true=>
  rw[hq] at e;unfold same;rw[if_pos (Ztz 9 _ _ hq)];exact h _ _ e
def ZyD {β:Type}:List (Nat × M Value × Value)->M β->M β
 | [],m=>m
 | q :: qs,m=>bind q.2.1 fun u=>ZCF u q.2.2 (ZyD qs m)
def Zoz:List (Nat × M Value × Value)->List (Nat × M Value × Value)->Prop
 | [],[]=>True
 | a :: zs,b :: bs=>a.1=b.1/\Ref a.2.1 b.2.1/\a.2.2=b.2.2/\Zoz zs bs
 | _,_=>False
theorem Ztm {β:Type} {m m':M β} (h:Ref m m'):∀ {qs qs':List (Nat × M Value × Value)},Zoz qs qs'->Ref (ZyD qs m) (Zte qs' m')
 | [],[],_=>h
 | a :: zs,b :: bs,hq=>by
  refine hq.2.1.bind fun u=>?_;rw[hq.2.2.1];exact ZEi (Ztm h hq.2.2.2)
 | [],_ :: _,hq=>hq.elim
 | _ :: _,[],hq=>hq.elim
theorem Zoz.filter (p:Nat->Bool):∀ {qs qs':List (Nat × M Value × Value)},Zoz qs qs'->Zoz (qs.filter fun q=>p q.1) (qs'.filter fun q=>p q.1)
 | [],[],_=>trivial
 | a :: zs,b :: bs,hq=>by
  obtain⟨h1,h2,h3,h4⟩:=hq;simp only[List.filter_cons,h1];cases p b.1
  .exact Zoz.filter p h4
  .exact⟨h1,h2,h3,Zoz.filter p h4⟩
 | [],_ :: _,hq=>hq.elim
 | _ :: _,[],hq=>hq.elim
section
variable (P:Program) (Γ Γ':Zc)
def Zue (m m':OpR):Prop:=(∃ v,m=.val v/\m'=.val v)\/∃ a b,m=.cmp a/\m'=.cmp b/\Ref a b
theorem Zue.rfl {m:OpR}:Zue m m:=by
 cases m with
 | val v=>exact .inl ⟨v,Eq.refl _,Eq.refl _⟩
 | cmp a=>exact .inr ⟨a,a,Eq.refl _,Eq.refl _,.rfl⟩
variable {P Γ Γ'}
theorem ZDo (h:∀ g zs,Ref (Γ g zs) (Γ' g zs)) (f:Value) (zs:List Value):Ref (Qt Γ f zs) (Qt Γ' f zs):=by
 unfold Qt;split
 .exact(h _ _).cond .rfl
 .exact h _ _
 .exact .rfl
theorem ZEA (h:∀ g zs,Ref (Γ g zs) (Γ' g zs)) (v:Value) (nm:String) (zs:List Value):Ref (Zcg P Γ v nm zs) (Zcg P Γ' v nm zs):=by
 unfold Zcg;split
 .split
  .exact h _ _
  .exact .rfl
 .exact .rfl
theorem ZpY (h:∀ g zs,Ref (Γ g zs) (Γ' g zs)) (ev:Operand->Value) (o:Op):Zue (opM P Γ ev o) (opM P Γ' ev o):=by
 cases o with
 | call c=>
  simp only[opM];unfold ZeT;split
  .exact .inr ⟨_,_,Eq.refl _,Eq.refl _,ZDo h _ _⟩
  .exact .inr ⟨_,_,Eq.refl _,Eq.refl _,ZEA h _ _ _⟩
  all_goals exact .rfl
 | _=>exact .rfl
theorem ZA8 (h:∀ g zs,Ref (Γ g zs) (Γ' g zs)) (all:List Oper) (f:Nat->Value) (o:Oper):Zue (opG P Γ all f o) (opG P Γ' all f o):=by
 unfold opG;split
 .exact ZpY h _ _
 .split
  .refine .inr ⟨_,_,Eq.refl _,Eq.refl _,.gateV ?_⟩;rcases ZpY (P:=P) h (evF f) o.op with⟨v,h1,h2⟩|⟨a,b,h1,h2,h3⟩
   .rw[h1,h2];exact .rfl
   .rw[h1,h2];exact h3
  .exact .rfl
theorem ZHp {m m':OpR} (h:Zue m m'):Ref (toM m) (toM m'):=by
 rcases h with⟨v,h1,h2⟩|⟨a,b,h1,h2,h3⟩
 .rw[h1,h2];exact .rfl
 .rw[h1,h2];exact h3
theorem Zwd {β:Type} (h:∀ g zs,Ref (Γ g zs) (Γ' g zs)) {k k':ZS->M β} (hk:∀ r,Ref (k r) (k' r)):∀ (os:List Oper) (r:ZS),Ref (Zp0 P Γ os r k) (Zp0 P Γ' os r k')
 | [],r=>hk r
 | o :: os,r=>Ref.appM (ZpY h _ _) fun v=>Zwd h hk os _
theorem Zov {β:Type} (h:∀ g zs,Ref (Γ g zs) (Γ' g zs)) (all:List Oper) {k k':ZS->M β} (hk:∀ r,Ref (k r) (k' r)):∀ (n:Nat) (os:List Oper) (r:ZS),Ref (Zhh P Γ all n os r k) (Zhh P Γ' all n os r k')
 | 0,_,_=>.rfl
 | _+1,[],r=>hk r
 | n+1,o :: os,r=>by
  simp only[Zhh];split
  .exact Ref.appM (ZpY h _ _) fun v=>Zov h all hk n os _
  .split
   .exact .rfl
   .exact Ref.bind (.gate (Zwd h (fun r=>.rfl) _ _)) fun vs=>Zov h all hk n _ _
variable (P Γ) in
def Zzl {β:Type} (an:List (List Nat)) (all:List Oper):List (Nat × Oper)->Zd9->ZS->(ZS->M β)->M β
 | [],_,r,k=>k r
 | p :: l,rs,r,k=>
  appM (opG P Γ all (Qv r) p.2) fun v=>
   match cls P p.2.op with
   | 0=>Zzl an all l rs (ZcN r p.2.dst v) k
   | 1=>Zzl an all l ((p.1,toM (opG P Γ all (Qv r) p.2),v) :: rs) (ZcN r p.2.dst v) k
   | _=>ZyD (rs.filter fun q=>!(memN (an.getD p.1 []) q.1)) (Zzl an all l rs (ZcN r p.2.dst v) k)
theorem Zmz {β:Type} (h:∀ g zs,Ref (Γ g zs) (Γ' g zs)) (an:List (List Nat)) (all:List Oper) {k k':ZS->M β} (hk:∀ r,Ref (k r) (k' r)) :
  ∀ (l:List (Nat × Oper)) {rs rs':Zd9} (r:ZS),Zoz rs rs'->Ref (Zzl P Γ an all l rs r k) (exD P Γ' an all l rs' r k')
 | [],_,_,r,_=>hk r
 | p :: l,rs,rs',r,hq=>by
  refine Ref.appM (ZA8 h _ _ _) fun v=>?_;generalize cls P p.2.op=c
  match c with
  | 0=>exact Zmz h an all hk l _ hq
  | 1=>exact Zmz h an all hk l _ ⟨Eq.refl _,ZHp (ZA8 h _ _ _),Eq.refl _,hq⟩
  | c+2=>exact Ztm (Zmz h an all hk l _ hq) (hq.filter fun i=>!(memN (an.getD p.1 []) i))
variable (P Γ) in
def ZyK {β:Type} (ops:List Oper) (draw:Bool) (r:ZS) (k:ZS->M β):M β:=
 bif draw then
  let cl:=ops.map fun o=>cls P o.op
  let an:=ZuN ops
  let ord:=Zln cl an ops.length ops.length []
  bif ZoD ops cl an ord then Zzl P Γ an ops (ZbW ops ord) [] r k else fail
 else Zhh P Γ ops (ops.length+1) ops r k
theorem ZCv {β:Type} (h:∀ g zs,Ref (Γ g zs) (Γ' g zs)) (ops:List Oper) (draw:Bool) {k k':ZS->M β} (hk:∀ r,Ref (k r) (k' r)) (r:ZS):Ref (ZyK P Γ ops draw r k) (ZuG P Γ' ops draw r k'):=by
 unfold ZyK ZuG;refine Ref.cond ?_ (Zov h _ hk _ _ _);exact Ref.cond (Zmz h _ _ hk _ _ trivial) .rfl
theorem Zm1 {β:Type} {k k':List Value->M β} (r:ZS):∀ (l:List ResultVar),(∀ vs,Ref (k vs) (k' vs))->Ref (ZjP P r l k) (ZjP P r l k')
 | [],hk=>hk []
 | .tmp t :: l,hk=>Zm1 r l fun vs=>hk _
 | .cell a t :: l,hk=>by
  simp only[ZjP];split
  .exact Ref.bind .rfl fun v=>Zm1 r l fun vs=>hk _
  .exact Ref.bind .rfl fun v=>Zm1 r l fun vs=>hk _
  .exact .rfl
theorem ZxP {β:Type} {fn:Func} {r:ZS} {kr kr':Value->M β} (hk:∀ v,Ref (kr v) (kr' v)):Ref (Zk4 P fn r kr) (Zk4 P fn r kr'):=by
 refine Zm1 r _ fun vs=>?_;split
 .exact hk _
 .exact hk _
theorem Zj9 {β:Type} {c:Code} {kx kx':Nat->ZS->M β} (hk:∀ j r,Ref (kx j r) (kx' j r)):∀ (X:List (Nat × List Nat)) (j:Nat) (vs:List Value),Ref (Zff c X kx j vs) (Zff c X kx' j vs)
 | [],_,_=>.rfl
 | p :: X,j,vs=>by
  simp only[Zff];cases Wu.xto p.1 c with
  | false=>exact Zj9 hk X j vs
  | true=>exact Ref.cond (hk _ _) (Zj9 hk X j vs)
theorem ZrP {β:Type} {c:Code} {kx kx':Nat->ZS->M β} (hk:∀ j r,Ref (kx j r) (kx' j r)):∀ (X:List (Nat × List Nat)) (j:Nat) (r:ZS),Ref (ZmL c X kx j r) (ZmL c X kx' j r)
 | [],_,_=>.rfl
 | p :: X,j,r=>by
  simp only[ZmL];cases Wu.xto p.1 c with
  | false=>exact ZrP hk X j r
  | true=>exact Ref.cond (hk _ _) (ZrP hk X j r)
theorem Zyu {β:Type} {L:Nat} {k k':Option Code->M β} (hk:∀ c,Ref (k c) (k' c)):Ref (Zhc L k) (Zhc L k'):=by
 intro H x e;unfold Zhc at e ⊢;split at e
 .split at e
  .cases e
  .exact hk _ _ _ e
 .cases e
theorem ZC1 {β:Type} (h:∀ g zs,Ref (Γ g zs) (Γ' g zs)) {ok:FuncId->Bool} {v:Value} {fn:Func} {lv:List (Nat × List Nat)} {p:Nat} {xs:List Nat} {cd:Array Tmp × Code × Code} {regs:ZS} {k k':Option Code->M β} (hk:∀ c,Ref (k c) (k' c)) :
  Ref (Zf6 ok Γ v fn lv p xs cd regs k) (Zf6 ok Γ' v fn lv p xs cd regs k'):=by
 unfold Zf6;split
 .refine Ref.cond ?_ .rfl;intro H x e;simp only at e ⊢;split at e
  .rename_i u H1 e1;rw[h _ _ _ _ e1];exact Zyu hk _ _ e
  .cases e
 .exact .rfl
theorem ZF1 {β:Type} {L:Nat} {m m':M β} (h:Ref m m'):Ref (Zss L m) (Zss L m'):=by
 intro H x e;unfold Zss at e ⊢;split at e
 .exact h _ _ e
 .cases e
variable (P Γ) in
def Ec (K:Nat) (rnd:Bool) (fn:Func) (lv:List (Nat × List Nat)):Code->∀ {β:Type},Nat->List (Nat × List Nat)->ZS->(ZS->M β)->(Nat->ZS->M β)->(Value->M β)->M β
 | .skip,_,_,_,r,kn,_,_=>kn r
 | .region _ ops draw,_,_,_,r,kn,_,_=>
  bif ZkK P fn.ntmps ops.toList && Zg5 ops.toList then ZyK P Γ ops.toList draw r kn else fail
 | .seq a b,_,p,X,r,kn,kx,kr=>Ec K rnd fn lv a (2 * p) X r (fun r'=>Ec K rnd fn lv b (2 * p+1) X r' kn kx kr) kx kr
 | .cond c t e,_,p,X,r,kn,kx,kr=>
  bif !Zaa P c then fail else bif Wu t && Wu e then
   jn (cnd (ev r c) (Ec K rnd fn lv t (2 * p) X r (fun r'=>ret (.nrm (proj (lkX lv p) r'))) (fun j r'=>ret (.ext j (proj (lkX X j) r'))) (fun v=>ret (.ret v)))
     (Ec K rnd fn lv e (2 * p+1) X r (fun r'=>ret (.nrm (proj (lkX lv p) r'))) (fun j r'=>ret (.ext j (proj (lkX X j) r'))) (fun v=>ret (.ret v))))
    (fun vs=>kn (mk (lkX lv p) vs)) (Zff (.cond c t e) X kx) kr
  else cnd (ev r c) (Ec K rnd fn lv t (2 * p) X r kn kx kr) (Ec K rnd fn lv e (2 * p+1) X r kn kx kr)
 | .block id c,_,p,X,r,kn,kx,kr=>
  bif Nat.ble (ZfR id c+(bif Wu c then 1 else 0)) 1 then
   Ec K rnd fn lv c (2 * p) ((id,lkX lv p) :: X) r kn (fun j r'=>bif Nat.beq j id then kn r' else kx j r') kr
  else
   jn (Ec K rnd fn lv c (2 * p) ((id,lkX lv p) :: X) r (fun r'=>ret (.nrm (proj (lkX lv p) r'))) (fun j r'=>bif Nat.beq j id then ret (.nrm (proj (lkX lv p) r')) else ret (.ext j (proj (lkX X j) r'))) (fun v=>ret (.ret v)))
    (fun vs=>kn (mk (lkX lv p) vs)) (Zff (.block id c) X kx) kr
 | .loop c,_,p,X,r,_,kx,kr=>
  jn (Zad (fun vs=>Ec K rnd fn lv c (2 * p) X (mk (lkX lv p) vs) (fun r'=>ret (.nrm (proj (lkX lv p) r'))) (fun j r'=>ret (.ext j (proj (lkX X j) r'))) (fun v=>ret (.ret v))) K (proj (lkX lv p) r))
   (fun _=>fail) (Zff (.loop c) X kx) kr
 | .exit id,_,_,_,r,_,kx,_=>kx id r
 | .rangeFunc g ps asg bd,_,p,X,r,kn,kx,kr=>
  bif rnd || !Zaa P g then fail else
   Zf6 (ZtQ P) Γ (ev r g) fn lv p (X.map fun q=>q.1) (ps,asg,bd) (mk (lkX lv p) (proj (lkX lv p) r)) fun pd=>match pd with
    | none=>kn r
    | some (.exit j)=>ZmL bd X kx j r
    | some .ret=>Zk4 P fn r kr
    | _=>fail
 | .ret,_,_,_,r,_,_,kr=>bif rnd then kr undef else Zk4 P fn r kr
 | _,_,_,_,_,_,_,_=>fail
theorem Zy8 (h:∀ g zs,Ref (Γ g zs) (Γ' g zs)) (K:Nat) (rnd:Bool) (fn:Func) (lv:List (Nat × List Nat)):∀ (c:Code) {β:Type} (p:Nat) (X:List (Nat × List Nat)) (r:ZS) {kn kn':ZS->M β} {kx kx':Nat->ZS->M β} {kr kr':Value->M β},
  (∀ r,Ref (kn r) (kn' r))->(∀ j r,Ref (kx j r) (kx' j r))->(∀ v,Ref (kr v) (kr' v))->Ref (Ec P Γ K rnd fn lv c p X r kn kx kr) (E P Γ' rnd fn lv c p X r kn' kx' kr'):=by
 intro c
 induction c with
 | skip=>intro β p X r kn kn' kx kx' kr kr' hn hx hr;exact hn r
 | region id ops draw=>
  intro β p X r kn kn' kx kx' kr kr' hn hx hr;simp only[Ec,E];exact Ref.cond (ZCv h _ _ hn _) .rfl
 | seq a b iha ihb=>
  intro β p X r kn kn' kx kx' kr kr' hn hx hr;simp only[Ec,E];exact iha _ _ _ (fun r'=>ihb _ _ _ hn hx hr) hx hr
 | cond c t e iht ihe=>
  intro β p X r kn kn' kx kx' kr kr' hn hx hr;simp only[Ec,E];refine Ref.cond .rfl (Ref.cond (Ref.jn (Ref.cnd ?_ ?_) (fun vs=>hn _) (Zj9 hx X) hr) (Ref.cnd (iht _ _ _ hn hx hr) (ihe _ _ _ hn hx hr)))
  .exact iht _ _ _ (fun _=>.rfl) (fun _ _=>.rfl) (fun _=>.rfl)
  .exact ihe _ _ _ (fun _=>.rfl) (fun _ _=>.rfl) (fun _=>.rfl)
 | block id c ih=>
  intro β p X r kn kn' kx kx' kr kr' hn hx hr;simp only[Ec,E];refine Ref.cond (ih _ _ _ hn (fun j r'=>Ref.cond (hn _) (hx _ _)) hr) (Ref.jn (ih _ _ _ (fun _=>.rfl) (fun _ _=>.rfl) (fun _=>.rfl)) (fun vs=>hn _) (Zj9 hx X) hr)
 | loop c ih=>
  intro β p X r kn kn' kx kx' kr kr' hn hx hr;simp only[Ec,E];exact Ref.jn (Ref.iter (fun vs=>ih _ _ _ (fun _=>.rfl) (fun _ _=>.rfl) (fun _=>.rfl)) _ _) (fun _=>.rfl) (Zj9 hx X) hr
 | exit id=>intro β p X r kn kn' kx kx' kr kr' hn hx hr;exact hx id r
 | rangeFunc g ps asg bd iha ihb=>
  intro β p X r kn kn' kx kx' kr kr' hn hx hr;simp only[Ec,E];refine Ref.cond .rfl (ZC1 h fun pd=>?_);cases pd with
  | none=>exact hn r
  | some c=>cases c with
   | exit j=>exact ZrP hx X _ _
   | ret=>exact ZxP hr
   | _=>exact .rfl
 | ret=>
  intro β p X r kn kn' kx kx' kr kr' hn hx hr;simp only[Ec,E];exact Ref.cond (hr _) (ZxP hr)
 | _=>intro β p X r kn kn' kx kx' kr kr' hn hx hr;simp only[Ec];exact .fail
end
def ZpD (P:Program) (prim:FuncId->Option (List Value->M Value)) (lvs:FuncId->List (Nat × List Nat)) (K:Nat):Nat->Zc
 | 0=>fun _ _=>fail
 | n+1=>fun g args=>bif Nat.blt g KV then
   (match prim g with
   | some m=>m args
   | none=>match P.funcs[g]? with
    | some fn=>bif Zd0 fn then(match fn.body with
     | some c=>bif Nat.ble args.length fn.ntmps then Ec P (ZpD P prim lvs K n) K false fn (lvs g) c 1 [] (ZeR 0 args) (fun r=>Zk4 P fn r ret) (fun _ _=>fail) ret else fail
     | none=>fail) else fail
    | none=>fail)
  else fun H=>match H[g - KV]? with
   | some (.loop fn lv p xs cd regs .ready _)=>
    (bif Nat.beq args.length cd.1.size && cd.1.toList.all (fun t=>Nat.blt t fn.ntmps) then
     Ec P (ZpD P prim lvs K n) K true fn lv cd.2.1 (2 * p) (xs.map fun i=>(i,[])) (ZC2 cd.1.toList args regs)
      (fun r=>Zss (g - KV) (Ec P (ZpD P prim lvs K n) K true fn lv cd.2.2 (2 * p+1) (xs.map fun i=>(i,[])) r (fun _=>Zgu (g - KV) none) (fun j _=>Zgu (g - KV) (some (.exit j))) (fun _=>Zgu (g - KV) (some .ret))))
      (fun _ _=>fail) (fun _=>fail)
    else fail) H
   | _=>none
def ZI7 (p p':FuncId->Option (List Value->M Value)):Prop:=∀ g,(p g=none/\p' g=none)\/∃ a b,p g=some a/\p' g=some b/\∀ zs,Ref (a zs) (b zs)
theorem Zj4 {P:Program} {prim prim':FuncId->Option (List Value->M Value)} (hp:ZI7 prim prim') {lvs:FuncId->List (Nat × List Nat)} (K:Nat):∀ (n:Nat) (g:FuncId) (zs:List Value),Ref (ZpD P prim lvs K n g zs) (run P prim' lvs n g zs)
 | 0,_,_=>.fail
 | n+1,g,zs=>by
  simp only[ZpD,run];refine Ref.cond ?_ ?_
  .rcases hp g with⟨h1,h2⟩|⟨a,b,h1,h2,h3⟩
   .rw[h1,h2];cases P.funcs[g]? with
    | none=>exact .rfl
    | some fn=>
     refine Ref.cond ?_ .rfl;unfold Zr;cases fn.body with
     | some c=>exact Ref.cond (Zy8 (Zj4 hp K n) _ _ _ _ _ _ _ _ (fun _=>.rfl) (fun _ _=>.rfl) (fun _=>.rfl)) .rfl
     | none=>exact .rfl
   .rw[h1,h2];exact h3 zs
  .intro H x e;unfold ZtZ;simp only at e ⊢;split at e
   .rename_i h1;rw[h1];refine Ref.cond ?_ .rfl _ _ e;exact Zy8 (Zj4 hp K n) _ _ _ _ _ _ _ _ (fun r=>ZF1 (Zy8 (Zj4 hp K n) _ _ _ _ _ _ _ _ (fun _=>.rfl) (fun _ _=>.rfl) (fun _=>.rfl))) (fun _ _=>.rfl) (fun _=>.rfl)
   .cases e
def Zlp (gl:List Zf):Prop:=∀ (g:Nat) o,gl[g]?=some o->o=.dead\/∃ cs es gr,o=.cells cs es gr true/\∀ v∈cs,Qp v=true
theorem RVs.plain {ι ι':Nat->Option Loc}:∀ {cs cs':List Value},(∀ v∈cs,Qp v=true)->RVs ι cs cs'->RVs ι' cs cs'
 | [],cs',_,h=>by have:=h.nil_inv;subst this;exact .nil
 | v :: cs,cs',hs,h=>by
  obtain⟨p,r,rfl,hp,hr⟩:=h.cons_inv;rw[hp.scalar_inv (hs v (by simp))];exact .cons (.sc (hs v (by simp))) (RVs.plain (fun u hu=>hs u (by simp[hu])) hr)
theorem Zwn {G:Nat} {w0:Qc} {ι:Nat->Option Loc} {H:Zd} {w:World} (hS:Sim G w0 ι H w) {gl:List Zf} (hg:gl.length=G) (hp:Zlp gl) (hH:H.take G=gl):Sim G (b0 w) (fun g=>if g < G then ι g else none) gl w:=by
 have hget:∀ (i:Nat) o,gl[i]?=some o->H[i]?=some o/\i < G:=by
  intro i o h;have hi:i < G:=by rw[<- hg];exact(List.getElem?_eq_some_iff.1 h).1
  rw[<- hH,List.getElem?_take,if_pos hi] at h;exact⟨h,hi⟩
 refine⟨fun i o h=>?_,fun i j o1 o2 l1 l2 h1 _ w1=>?_,Nat.le_refl _,fun _ _=>rfl,fun i l h=>?_,fun g hgG=>?_,⟨rfl,rfl,rfl⟩,fun b hb=>(by cases hb),fun j cs es nx l hj _=>?_⟩
 .obtain⟨h1,hi⟩:=hget i o h;rcases hp i o h with rfl|⟨cs,es,gr,rfl,hs⟩
  .trivial
  .have hO:=hS.obj i _ h1;have hb:=hO.old (w0:=w0) (by simp) (by simp[Zf.wr]) rfl;obtain⟨l,c,el,fr,k1,k2,k3,k4,k5,k6,k7,k8,k9,k10⟩:=hO;have hlt:l.blk < w.heap.size:=by
    rcases Nat.lt_or_ge l.blk w.heap.size with h|h
    .exact h
    .rw[Array.getElem?_eq_none h] at k4;cases k4
   exact⟨l,c,el,fr,by simp[hi,k1],k2,k3,k4,k5,k6,k7.plain hs,(fun h=>nomatch h),(fun _=>hlt),k10⟩
 .rcases hp i o1 h1 with rfl|⟨cs,es,gr,rfl,_⟩<;>simp[Zf.wr] at w1
 .split at h
  .rw[hg];assumption
  .cases h
 .obtain⟨l,h1,h2⟩:=hS.glob g hgG;exact⟨l,by simp[hgG,h1],h2⟩
 .rcases hp j _ hj with h|⟨_,_,_,h,_⟩<;>cases h
theorem Sim.grow {G:Nat} {w0:Qc} {ι ι1:Nat->Option Loc} {H H1:Zd} {w w':World} (hS:Sim G w0 ι H w) (h:Sim G (b0 w) ι1 H1 w'):Sim G w0 ι H w':=by
 have hk:∀ b,b < w.heap.size->w'.heap[b]?=w.heap[b]?:=h.old;have hlt:∀ {b:Nat} {o:Obj},w.heap[b]?=some o->b < w.heap.size:=fun {b o} e=>by
  rcases Nat.lt_or_ge b w.heap.size with h|h
  .exact h
  .rw[Array.getElem?_eq_none h] at e;cases e
 refine⟨fun id o ho=>?_,hS.inj,Nat.le_trans hS.size h.size,fun b hb=>?_,hS.dom,hS.glob,?_,fun b hb=>?_,fun j cs es nx l hj hl=>?_⟩
 .refine(hS.obj id o ho).blk fun l hl hne=>?_;obtain⟨l',h1,h2⟩:=(hS.obj id o ho).loc hne;rw[hl] at h1;cases h1;exact hk _ h2
 .rw[hk b (Nat.lt_of_lt_of_le hb hS.size)];exact hS.old b hb
 .obtain⟨a1,a2,a3⟩:=h.rest;obtain⟨b1,b2,b3⟩:=hS.rest;exact⟨a1.trans b1,a2.trans b2,a3.trans b3⟩
 .obtain⟨a1,a2,a3⟩:=hS.prot b hb;exact⟨by rw[hk b (hlt a1)];exact a1,a2,a3⟩
 .exact(hS.views j cs es nx l hj hl).to (.refl ι) fun h1 ⟨c,el,fr,hc⟩=>⟨fun c el fr hc'=>⟨fr,by rw[hk _ (hlt hc)];exact hc'⟩,h1⟩
open Classical in
noncomputable def Zj5 (gl:List Zf) (v:Value) (args:List Value):M Value:=fun H=>
 if args=[]/\H.take gl.length=gl then some (v,H) else none
theorem Zz5 {P:Program} (hm:P.follows .mixedOrders=true) {prim:FuncId->Option (List Value->M Value)} {lvs:FuncId->List (Nat × List Nat)} (hprim:∀ (b:Qc) g m,prim g=some m->Zbn P P.globals.size b g m)
  {gl:List Zf} (hgl:gl.length=P.globals.size) (hpl:Zlp gl) {g:FuncId} (hgy:g < KV) (hbody:∀ fn,P.funcs[g]?=some fn->fn.body.isNone=false) {v:Value} (hv:Qp v=true) {n:Nat} (hrun:∃ H1,run P prim lvs n g [] gl=some (v,H1)) (w0:Qc):Zbn P P.globals.size w0 g (Zj5 gl v):=by
 intro args H v' H1 h;unfold Zj5 at h;split at h
 .rename_i hc;obtain⟨rfl,hH⟩:=hc;cases h;obtain⟨H2,hrun⟩:=hrun
  left
  have hcal:Zb8 P g:=by
   rcases ZcU hm hprim n (b0 default) g _ _ _ _ hrun with⟨_,⟨hc,_⟩|⟨e,⟨fn,h1,_,h2,_⟩,_⟩⟩|⟨hno,_⟩
   .exact hc
   .rw[hbody fn h1] at h2;cases h2
   .exact absurd hgy (Nat.not_lt_of_le hno)
  refine⟨hcal,fun ι w args' hS hrv=>?_⟩;have:=hrv.nil_inv;subst this;rcases ZcU hm hprim n (b0 w) g _ _ _ _ hrun with⟨_,⟨_,hc⟩|⟨e,⟨fn,h1,_,h2,_⟩,_⟩⟩|⟨hno,_⟩
  .refine(hc _ w [] (Zwn hS hgl hpl (by rw[<- hgl];exact hH)) .nil).mono fun e w' ⟨ι1,u,hle,he,hu,hs⟩=>?_;have:=hu.scalar_inv hv;subst this;exact⟨ι,_,.refl ι,he,.sc hv,hS.grow hs⟩
  .rw[hbody fn h1] at h2;cases h2
  .exact absurd hgy (Nat.not_lt_of_le hno)
 .cases h
theorem Zs8 {P:Program} {w:World} {n:String} {d:DataW Unit}:∀ {l:List (String × DataW Unit)} {ps:List MemPlace},DataW.LaidVars P w l ps->(n,d)∈l->
  ∃ g t cs fuel p,P.globalNamed n=some g/\(P.globals[g]?).map (·.type)=some t/\w.var? P n=some cs/\DataW.trod (fun _=>()) P w 0 (fun _=>true) false fuel t cs.toList=some (d,p)
 | [],_,_,hm=>by cases hm
 | (n',d') :: r,ps,h,hm=>by
  obtain⟨g,t,cs,fuel,p,q,h1,h2,h3,h4,h5,_⟩:=h;rcases List.mem_cons.1 hm with e|e
  .cases e;exact⟨g,t,cs,fuel,p,h1,h2,h3,h4⟩
  .exact Zs8 h5 e
theorem ZxN {α β:Type} {f:α->Option β}:∀ {l:List α} {r:List β},l.mapM f=some r->r.length=l.length/\∀ (i:Nat) (a:α),l[i]?=some a->∃ b,r[i]?=some b/\f a=some b
 | [],r,h=>by cases h;exact⟨rfl,fun i a ha=>by simp at ha⟩
 | x :: l,r,h=>by
  simp only[List.mapM_cons,Option.bind_eq_bind,Option.bind_eq_some_iff,Option.pure_def,Option.some.injEq] at h;obtain⟨b,hb,r',hr',rfl⟩:=h;obtain⟨h1,h2⟩:=ZxN hr';refine⟨by simp[h1],fun i a ha=>?_⟩;cases i with
  | zero=>
   simp only[List.getElem?_cons_zero,Option.some.injEq] at ha;subst ha;exact⟨b,rfl,hb⟩
  | succ i=>exact h2 i a (by simpa using ha)
theorem strs_laid {P:Program} {w:World} {laid:List (String × DataW Unit)} (h:laidMet P laid w) {n:String} {l:List (List UInt8)} (hm:(n,DataW.agg (l.map fun s=>.lit (.string s)))∈laid) {g:Nat} {t e:TypeId} {k:Nat} (hg:P.globalNamed n=some g)
  (hy:(P.globals[g]?).map (·.type)=some t) (ht:P.underlying t=some (.array k e)) (he:P.underlying e=some .string) (hce:P.cellsOf e=1) (hct:P.cellsOf t=k) :
  ∃ c ty fr,w.heap[g]?=some (.cells c ty fr)/\c.toList=l.map fun s=>Value.string ⟨s.toArray⟩:=by
 obtain⟨ps,hv,_⟩:=h;obtain⟨g',t',cs,fuel,p,h1,h2,h3,h4⟩:=Zs8 hv hm;rw[hg] at h1;cases h1;rw[hy] at h2;cases h2;have hcs:cs.toList=l.map fun s=>Value.string ⟨s.toArray⟩:=by
  cases fuel with
  | zero=>simp[DataW.trod] at h4
  | succ fuel=>
   simp only[DataW.trod,ht,hce,hct,Nat.mul_one] at h4;split at h4
   .rename_i hl;obtain⟨xs,hm,hx⟩:=Option.map_eq_some_iff.1 h4;have hxs:xs.map (·.1)=l.map fun s=>(DataW.lit (.string s):DataW Unit):=by
     have:=congrArg Prod.fst hx;simpa using this
    obtain⟨hxl,hall⟩:=ZxN hm;have hxl:xs.length=k:=by simpa using hxl
    have hll:l.length=k:=by
     have:=congrArg List.length hxs;simp at this;omega
    apply List.ext_getElem?
    intro i;by_cases hi:i < k
    .obtain⟨b,hb1,hb2⟩:=hall i i (by simp[hi]);obtain⟨s,e1,e2,_⟩:=DataW.trod_string he hb2;have e3:cs.toList[i]?=some (.string s):=by
      have:=congrArg (·[0]?) e1;simpa[List.getElem?_take,List.getElem?_drop] using this
     have e4:(xs.map (·.1))[i]?=some (DataW.lit (.string s.data.toList):DataW Unit):=by rw[List.getElem?_map,hb1,e2];rfl
     rw[hxs,List.getElem?_map] at e4;obtain⟨s',e5,e6⟩:=Option.map_eq_some_iff.1 e4;cases e6;rw[e3,List.getElem?_map,e5];rfl
    .rw[List.getElem?_eq_none (by omega),List.getElem?_eq_none (by simp;omega)]
   .cases h4
 unfold World.var? at h3;rw[hg] at h3;simp only[Option.bind_some] at h3;split at h3
 .rename_i c ty fr hh;cases h3;exact⟨_,_,_,hh,hcs⟩
 .cases h3
def ιg (gl:List Zf):Nat->Option Loc:=fun g=>match gl[g]? with
 | some (.cells cs es gr _)=>some ⟨g,0,cs.length,es,gr⟩
 | some _=>some ⟨g,0,0,1,false⟩
 | none=>none
def GlMet (gl:List Zf) (W:World):Prop:=∀ (g:Nat) cs es gr,gl[g]?=some (.cells cs es gr true)->∃ c ty fr,W.heap[g]?=some (.cells c ty fr)/\c.toList=cs
theorem ZlZ {ι:Nat->Option Loc}:∀ {cs:List Value},(∀ v∈cs,Qp v=true)->RVs ι cs cs
 | [],_=>.nil
 | v :: cs,h=>.cons (.sc (h v (by simp))) (ZlZ fun u hu=>h u (by simp[hu]))
theorem ZIL {W:World} {G:Nat} {gl:List Zf} (hgl:gl.length=G) (hpl:Zlp gl) (hm:GlMet gl W):Sim G (b0 W) (ιg gl) gl W:=by
 refine⟨fun i o h=>?_,fun i j o1 o2 l1 l2 h1 _ w1=>?_,Nat.le_refl _,fun _ _=>rfl,fun i l h=>?_,fun g hg=>?_,⟨rfl,rfl,rfl⟩,fun b hb=>(by cases hb),fun j cs es nx l hj _=>?_⟩
 .rcases hpl i o h with rfl|⟨cs,es,gr,rfl,hs⟩
  .trivial
  .obtain⟨c,ty,fr,h1,h2⟩:=hm i cs es gr h;have hlt:i < W.heap.size:=by
    rcases Nat.lt_or_ge i W.heap.size with h|h
    .exact h
    .rw[Array.getElem?_eq_none h] at h1;cases h1
   have hsz:cs.length=c.size:=by rw[<- h2];simp
   refine⟨⟨i,0,cs.length,es,gr⟩,c,ty,fr,by simp[ιg,h],rfl,rfl,h1,by simp,by simp[hsz],?_,(fun h=>nomatch h),(fun _=>hlt),fun v hv=>ZmA (hs v hv)⟩;simp only[List.drop_zero];rw[h2,List.take_length];exact ZlZ hs
 .rcases hpl i o1 h1 with rfl|⟨cs,es,gr,rfl,_⟩<;>simp[Zf.wr] at w1
 .unfold ιg at h;cases hq:gl[i]? with
  | none=>rw[hq] at h;cases h
  | some o=>exact(List.getElem?_eq_some_iff.1 hq).1
 .have hlt:g < gl.length:=hgl ▸ hg;unfold ιg;rw[List.getElem?_eq_getElem hlt];cases gl[g]<;>exact⟨_,rfl,rfl,rfl⟩
 .rcases hpl j _ hj with h|⟨_,_,_,h,_⟩<;>cases h
theorem law_callsG {P:Program} {H0:Type} {enc:TypeId × Value->H0} {W:World} (hm:P.follows .mixedOrders=true) (hlo:laidOutB P=true) {prim:FuncId->Option (List Value->M Value)} {lvs:FuncId->List (Nat × List Nat)} {tys:List Ty} {g:FuncId} {fn:Func} {s:ChangeSpec} {args:Array Value} {ds gs:List (DataW H0)} {before:List MemPlace} {base:Nat} {tb:TypeId} {apart fresh handsOn:Bool}
  (hprim:∀ (b:Qc) g m,prim g=some m->Zbn P P.globals.size b g m) {gl:List Zf} (hgl:gl.length=P.globals.size) (hpl:Zlp gl) (hmet:GlMet gl W)
  (hlaw:∀ (xs:Ins tys) (H:Zd) (vs:List Value),ZxC tys xs->H.take gl.length=gl->ZkS tys xs H vs->∃ n H',run P prim lvs n g vs H=some (.bool true,H'))
  (hfn:P.funcs[g]?=some fn) (hbody:fn.body.isNone=false) (hgy:g < KV) (hf:Zdj P tys fn.params.toList=true) (hres:fn.resultTypes=#[tb]) (htb:P.underlying tb=some .bool)
  (hvars:s.vars=[]) (hs:∀ ds:List (DataW H0),ds.length=tys.length->s.fn H0 ds={ results:=[.lit (.bool true)],args:=ds })
  (hval:∀ (j:Nat) t v,fn.params[j]?=some t->args[j]?=some v->Value.okWide P W .any base t v)
  (hW:DataW.Whole enc P fn.params.toList s.vars apart W args.toList ds gs before) :
  Calls P g args W fun e W'=>∃ v,e=.returned v/\s.post enc P fn apart fresh handsOn false W args v W':=by
 have hlt:=hW.lt;obtain⟨p,q,hA,hV,rfl,hfz,hnd⟩:=id hW;rw[hvars] at hV;obtain⟨rfl,rfl⟩:=Go.ChangeShapes.trodVars_none hV;obtain⟨xs,ι,H,vs,hwf,hle,hS,hHl,hrv,hrd,hlen⟩:=ZBl (G:=P.globals.size) tys hf hA (fun j t v ht hv=>hval j t v (by simpa using ht) (by simpa using hv)) (ZIL hgl hpl hmet);have htk:H.take gl.length=gl:=by
  apply List.ext_getElem?
  intro i;rw[List.getElem?_take];split
  .rename_i hi;rw[List.getElem?_eq_getElem hi];exact hHl i _ (List.getElem?_eq_getElem hi)
  .rename_i hi;rw[List.getElem?_eq_none (by omega)]
 obtain⟨n,H',hrun⟩:=hlaw xs H vs hwf htk hrd;have hcc:Zs5 P P.globals.size (b0 W) g (.bool true) vs H H':=by
  rcases ZcU hm hprim n (b0 W) g vs H _ H' hrun with⟨_,hc|⟨e,⟨fn',h1,_,h2,_⟩,_⟩⟩|⟨hno,_⟩
  .exact hc
  .rw[hfn] at h1;cases h1;rw[hbody] at h2;cases h2
  .exact absurd hgy (Nat.not_lt_of_le hno)
 obtain⟨_,hc⟩:=hcc;refine(hc ι W args.toList hS hrv).mono fun e W' ⟨ι1,v',hle1,he,hv',hS'⟩=>?_;have:=hv'.bool_inv;subst this;refine⟨_,he,?_⟩;have hb:Go.RowKit.Below W.heap.size W W':=⟨hS'.rest.1,hS'.rest.2.1,hS'.rest.2.2,hS'.size,hS'.old⟩;have hsp:=hs (ds++[]) (by simpa using hlen);refine⟨ds,[],p++[],[],p++[],[],hW,?_,?_,?_,hb.frame _,fun h=>by cases h⟩
 .rw[hsp,hres];exact Go.ChangeShapes.trodAll_mk1 (Go.RowKit.shut_bool htb true)
 .rw[hsp,List.append_nil,List.append_nil];exact Znj (ts:=[]) hlo hb tys hf hA (fun x hx=>hlt x (by simpa using hx))
 .rw[hsp,hvars];rfl
def Zlq:Value->Bool
 | .agg cs=>cs.toList.all Qp
 | v=>Qp v
theorem RVs.same {ι:Nat->Option Loc}:∀ {cs cs':List Value},(∀ v∈cs,Qp v=true)->RVs ι cs cs'->cs'=cs
 | [],cs',_,h=>h.nil_inv
 | v :: cs,cs',hs,h=>by
  obtain⟨p,r,rfl,hp,hr⟩:=h.cons_inv;rw[hp.scalar_inv (hs v (by simp)),RVs.same (fun u hu=>hs u (by simp[hu])) hr]
theorem RV.plain_inv {ι:Nat->Option Loc} {v v':Value} (h:Zlq v=true) (hr:RV ι v v'):v'=v:=by
 cases v with
 | agg cs=>
  obtain⟨a',rfl,ha⟩:=hr.agg_inv;have:=RVs.same (List.all_eq_true.1 h) ha;rw[Array.ext' this]
 | _=>exact hr.scalar_inv h
theorem RV.plain_mk {ι:Nat->Option Loc} {v:Value} (h:Zlq v=true):RV ι v v:=by
 cases v with
 | agg cs=>
  have h1:=ZlZ (ι:=ι) (List.all_eq_true.1 h);exact .agg rfl fun i hi=>by
   have:=h1.2 i (by simpa using hi);simpa using this
 | _=>exact .sc h
theorem RVs.plain_args {ι:Nat->Option Loc}:∀ {vs vs':List Value},(∀ v∈vs,Zlq v=true)->RVs ι vs vs'->vs'=vs
 | [],vs',_,h=>h.nil_inv
 | v :: vs,vs',hs,h=>by
  obtain⟨p,r,rfl,hp,hr⟩:=h.cons_inv;rw[hp.plain_inv (hs v (by simp)),RVs.plain_args (fun u hu=>hs u (by simp[hu])) hr]
theorem RVs.plain_self {ι:Nat->Option Loc}:∀ {vs:List Value},(∀ v∈vs,Zlq v=true)->RVs ι vs vs
 | [],_=>.nil
 | v :: vs,h=>.cons (.plain_mk (h v (by simp))) (RVs.plain_self fun u hu=>h u (by simp[hu]))
open Classical in
noncomputable def Zjn (gl:List Zf) (f:List Value->Option Value) (args:List Value):M Value:=fun H=>
 match f args with
 | some v=>if H.take gl.length=gl then some (v,H) else none
 | none=>none
theorem ZzF {P:Program} (hm:P.follows .mixedOrders=true) {prim:FuncId->Option (List Value->M Value)} {lvs:FuncId->List (Nat × List Nat)} (hprim:∀ (b:Qc) g m,prim g=some m->Zbn P P.globals.size b g m)
  {gl:List Zf} (hgl:gl.length=P.globals.size) (hpl:Zlp gl) {g:FuncId} (hgy:g < KV) (hbody:∀ fn,P.funcs[g]?=some fn->fn.body.isNone=false) {f:List Value->Option Value}
  (hf:∀ args v,f args=some v->(∀ a∈args,Zlq a=true)/\Zlq v=true/\∃ n H1,run P prim lvs n g args gl=some (v,H1)) (w0:Qc):Zbn P P.globals.size w0 g (Zjn gl f):=by
 intro args H v' H1 h;unfold Zjn at h;split at h
 .rename_i v hv;split at h
  .rename_i hH;cases h;obtain⟨ha,hpv,n,H2,hrun⟩:=hf args v' hv
   left
   have hcal:Zb8 P g:=by
    rcases ZcU hm hprim n (b0 default) g _ _ _ _ hrun with⟨_,⟨hc,_⟩|⟨e,⟨fn,h1,_,h2,_⟩,_⟩⟩|⟨hno,_⟩
    .exact hc
    .rw[hbody fn h1] at h2;cases h2
    .exact absurd hgy (Nat.not_lt_of_le hno)
   refine⟨hcal,fun ι w args' hS hrv=>?_⟩;rw[RVs.plain_args ha hrv];rcases ZcU hm hprim n (b0 w) g _ _ _ _ hrun with⟨_,⟨_,hc⟩|⟨e,⟨fn,h1,_,h2,_⟩,_⟩⟩|⟨hno,_⟩
   .refine(hc _ w args (Zwn hS hgl hpl (by rw[<- hgl];exact hH)) (RVs.plain_self ha)).mono fun e w' ⟨ι1,u,hle,he,hu,hs⟩=>?_;have:=hu.plain_inv hpv;subst this;exact⟨ι,_,.refl ι,he,.plain_mk hpv,hS.grow hs⟩
   .rw[hbody fn h1] at h2;cases h2
   .exact absurd hgy (Nat.not_lt_of_le hno)
  .cases h
 .cases h
theorem ZFV {gl:List Zf} {f:List Value->Option Value} {args:List Value} {v:Value} {H:Zd} (hf:f args=some v) (h:H.take gl.length=gl):Zjn gl f args H=some (v,H):=by
 unfold Zjn;rw[hf];simp only;rw[if_pos h]
section
open Go.Sort
section
variable {P:Program} {w0:Qc} {ι:Nat->Option Loc} {H H1:Zd} {w w':World} {v:Value} {G:Nat}
def ZbU (args:List Value):M Value:=fun H=>
 match args with
 | [.map none]=>some (.map none,H)
 | [.map (some id)]=>match H[id]? with
  | some (.map es clk)=>some (.map (some H.length),H++[.map es clk])
  | some (.mapU es)=>some (.map (some H.length),H++[.mapU es])
  | _=>none
 | _=>none
structure ZjZ (P:Program) (g:FuncId):Prop where
 c:Zb8 P g
 nil:∀ w,Calls P g #[.map none] w fun e w'=>e=.returned (.map none)/\w'=w
 some:∀ b es clock w,w.heap[b]?=some (.map es clock)->Calls P g #[.map (some b)] w fun e w'=>e=.returned (.map (some w.heap.size))/\w'=w.alloc (.map es clock)
theorem Zk8 {g:FuncId} (hC:ZjZ P g):Zbn P G w0 g ZbU:=by
 intro args H v H1 h;refine .inl ⟨hC.c,fun ι w args' hS hr=>?_⟩;unfold ZbU at h;split at h
 .cases h;obtain⟨x,r,rfl,hx,hr2⟩:=hr.cons_inv;rw[hr2.nil_inv,hx.scalar_inv rfl];refine(hC.nil w).mono fun e w' ⟨he,hw⟩=>⟨ι,_,.refl ι,he,.sc rfl,by rw[hw];exact hS⟩
 .obtain⟨x,r,rfl,hx,hr2⟩:=hr.cons_inv;obtain⟨l,hl,rfl⟩:=hx.map_inv;rw[hr2.nil_inv];split at h
  .rename_i id _ es clk hid;cases h;obtain⟨en,hb,hge,hE⟩:=hS.mapR hid hl;refine(hC.some l.blk en clk w hb).mono fun e w' ⟨he,hw⟩=>?_;have hnew:=hS.new (x:=.map es clk) (l:=⟨w.heap.size,0,0,0,false⟩) (.map en clk) rfl ⟨_,en,Qm _ _ _,Zd4 w _,hS.size,hE.mono (Ym hS _)⟩;exact⟨_,_,Ym hS _,he,.mp (Qm _ _ _),by rw[hw];exact hnew⟩
  .rename_i id _ es hid;cases h;obtain⟨en,clk,es2,hb,hge,hE,hp⟩:=hS.mapUR hid hl;refine(hC.some l.blk en clk w hb).mono fun e w' ⟨he,hw⟩=>?_;have hnew:=hS.new (x:=.mapU es) (l:=⟨w.heap.size,0,0,0,false⟩) (.map en clk) rfl ⟨_,en,clk,es2,Qm _ _ _,Zd4 w _,hS.size,hE.mono (Ym hS _),hp⟩;exact⟨_,_,Ym hS _,he,.mp (Qm _ _ _),by rw[hw];exact hnew⟩
  .cases h
 .cases h
abbrev ZN (ks:List (List UInt8)):List (List UInt8):=ks.mergeSort leB
structure ZhW (es:List (Value × Value × Nat)) (ks:List (List UInt8)):Prop where
 keys:es.map (·.1)=ks.map strv
 nod:ks.Nodup
 few:ks.length<=1000000
 len:∀ k∈ks,k.length<=1000000
theorem Zr6 {a b:List UInt8} (h:strv a=strv b):a=b:=by simpa[strv] using h
theorem ZzJ {a b:List (List UInt8)} (h:a.map strv=b.map strv):a=b:=by
 have:Function.Injective strv:=fun _ _ h=>Zr6 h;exact(List.map_inj_right (fun _ _ h=>Zr6 h)).1 h
def Zlx (ks:List (List UInt8)) (H:Zd):Option (Value × Zd):=
 if ks=[] then some (.slice none 0 0,H)
 else some (.slice (some ⟨H.length,0,none⟩) ks.length ks.length,H++[.cells ((ZN ks).map strv) 1 true false])
open Classical in
noncomputable def Zb2 (gks:List FuncId) (gc:FuncId) (args:List Value):M Value:=fun H=>
 if h:∃ gk c id es ks,gk∈gks/\args=[.func (.func gk) #[] #[pt c],.func (.func gc) #[] #[]]/\(∃ e,H[c]?=some (.cells [.map (some id)] e false false))/\ZhW es ks/\((∃ clk,H[id]?=some (.map es clk)/\Zdd es clk)\/H[id]?=some (.mapU es)) then
  Zlx (Classical.choose (Classical.choose_spec (Classical.choose_spec (Classical.choose_spec (Classical.choose_spec h))))) H
 else none
theorem Zr8 {gks:List FuncId} {gc gk:FuncId} {c id e:Nat} {es:List (Value × Value × Nat)} {ks:List (List UInt8)} (hg:gk∈gks) (hc:H[c]?=some (.cells [.map (some id)] e false false)) (hk:ZhW es ks)
  (hm:(∃ clk,H[id]?=some (.map es clk)/\Zdd es clk)\/H[id]?=some (.mapU es)):Zb2 gks gc [.func (.func gk) #[] #[pt c],.func (.func gc) #[] #[]] H=Zlx ks H:=by
 have hex:∃ gk' c' id' es' ks',gk'∈gks/\[Value.func (.func gk) #[] #[pt c],.func (.func gc) #[] #[]]=[.func (.func gk') #[] #[pt c'],.func (.func gc) #[] #[]]/\(∃ e,H[c']?=some (.cells [.map (some id')] e false false))/\ZhW es' ks'/\((∃ clk,H[id']?=some (.map es' clk)/\Zdd es' clk)\/H[id']?=some (.mapU es')):=
  ⟨gk,c,id,es,ks,hg,rfl,⟨e,hc⟩,hk,hm⟩
 unfold Zb2;rw[dif_pos hex]
 congr 1
 obtain⟨_,h2,⟨e',h3⟩,h4,h5⟩:=Classical.choose_spec (Classical.choose_spec (Classical.choose_spec (Classical.choose_spec (Classical.choose_spec hex))));generalize Classical.choose (Classical.choose_spec (Classical.choose_spec (Classical.choose_spec (Classical.choose_spec hex))))=ks' at h4 ⊢;generalize Classical.choose (Classical.choose_spec (Classical.choose_spec (Classical.choose_spec hex)))=es' at h4 h5;generalize Classical.choose (Classical.choose_spec (Classical.choose_spec hex))=id' at h3 h5;generalize Classical.choose (Classical.choose_spec hex)=c' at h2 h3;have ec:c=c':=by simp at h2;exact h2.2
 subst ec;rw[hc] at h3;have ei:id=id':=by simp at h3;exact h3.1
 subst ei;have ees:es'=es:=by
  rcases hm with⟨clk,h6,_⟩|h6<;>rcases h5 with⟨clk',h7,_⟩|h7<;>rw[h6] at h7<;>cases h7<;>rfl
 subst ees;exact ZzJ (h4.keys.symm.trans hk.keys)
theorem ZDB {gks:List FuncId} {gc:FuncId} {args:List Value} (h:Zb2 gks gc args H=some (v,H1)) :
  ∃ gk c id e es ks,gk∈gks/\args=[.func (.func gk) #[] #[pt c],.func (.func gc) #[] #[]]/\H[c]?=some (.cells [.map (some id)] e false false)/\ZhW es ks/\((∃ clk,H[id]?=some (.map es clk)/\Zdd es clk)\/H[id]?=some (.mapU es))/\Zlx ks H=some (v,H1):=by
 have h0:=h;unfold Zb2 at h;split at h
 .rename_i hex;obtain⟨gk,c,id,es,ks,h1,rfl,⟨e,h3⟩,h4,h5⟩:=hex;rw[Zr8 h1 h3 h4 h5] at h0;exact⟨gk,c,id,e,es,ks,h1,rfl,h3,h4,h5,h0⟩
 .cases h
structure Zjl (P:Program) (g gk gc:FuncId):Prop where
 c:Zb8 P g
 run:∀ (w:World) (Bm b:Nat) (es:Array MapEntry) (clock:Nat) (ks:List (List UInt8)),Bm < w.heap.size->w.cell? ⟨Bm,0,none⟩=some (.map (some b))->w.heap[b]?=some (.map es clock)->es.toList.map (·.key)=ks.map strv->Go.MapKept.Stamped es clock->
  (∀ k∈ks,k.length<=1000000)->ks.length<=1000000->
  Calls P g #[.func (.func gk) #[] #[.pointer (some ⟨Bm,0,none⟩)],.func (.func gc) #[] #[]] w fun e w'=>∃ (v:Value) (t:TypeId),e=.returned v/\w'.ownsRow w.heap.size t 1 v ks.length ((ZN ks).map strv)/\(v=.slice none 0 0↔ks=[])/\Go.RowKit.Below w.heap.size w w'
theorem Sim.below (h:Sim G w0 ι H w) (hb:Go.RowKit.Below w.heap.size w w'):Sim G w0 ι H w':=by
 refine⟨fun i x hx=>(h.obj i x hx).blk fun l hl hd=>?_,h.inj,Nat.le_trans h.size hb.size,fun b hlt=>by rw[hb.block b (Nat.lt_of_lt_of_le hlt h.size)];exact h.old b hlt,h.dom,h.glob,?_,fun b hbp=>?_,fun j cs es nx l hj hl=>(h.views j cs es nx l hj hl).to (.refl ι) fun h1 ⟨c0,el0,fr0,hc0⟩=>⟨fun c el fr hc=>⟨fr,by rw[hb.block _ (Array.getElem?_eq_some_iff.1 hc0).1];exact hc⟩,h1⟩⟩
 .obtain⟨l',hl',hlt⟩:=(h.obj i x hx).loc hd;rw[hl] at hl';cases hl';exact hb.block _ hlt
 .rw[hb.os,hb.tape,hb.output];exact h.rest
 .obtain⟨p1,p2,p3⟩:=h.prot b hbp;have hlt:b < w.heap.size:=by
   rcases Nat.lt_or_ge b w.heap.size with h1|h1
   .exact h1
   .rw[Array.getElem?_eq_none h1] at p1;cases p1
  exact⟨by rw[hb.block b hlt];exact p1,p2,p3⟩
theorem JN.keys {ι:Nat->Option Loc}:∀ {es:List (Value × Value × Nat)} {en:List MapEntry},JN ι es en->en.map (·.key)=es.map (·.1)/\en.map (·.born)=es.map (·.2.2)
 | [],[],_=>⟨rfl,rfl⟩
 | e :: es,n :: ns,h=>by
  obtain⟨h1,h2⟩:=JN.keys h.2;exact⟨by rw[List.map_cons,List.map_cons,h1,h.1.2.1],by rw[List.map_cons,List.map_cons,h2,h.1.2.2.2]⟩
 | [],_ :: _,h=>h.elim
 | _ :: _,[],h=>h.elim
theorem ZCC {a b:List (List UInt8)} (h:a.Perm b):ZN a=ZN b:=mergeSort_of_perm h
theorem ZkG (ks:List (List UInt8)):(ZN ks).length=ks.length:=List.length_mergeSort ks
theorem Zl6 {ks:List (List UInt8)} (h:ks.Nodup):(ks.map strv).Nodup:=by
 rw[List.nodup_iff_pairwise_ne] at h ⊢;rw[List.pairwise_map];exact h.imp fun h e=>h (Zr6 e)
theorem ZAL {gks:List FuncId} {g gc:FuncId} (hgks:gks≠[]) (hC:∀ gk∈gks,Zjl P g gk gc):Zbn P G w0 g (Zb2 gks gc):=by
 intro args H v H1 h;have hcall:Zb8 P g:=by
  cases gks with
  | nil=>exact absurd rfl hgks
  | cons a l=>exact(hC a (by simp)).c
 refine .inl ⟨hcall,fun ι w args' hS hr=>?_⟩;obtain⟨gk,c,id,e,es,ks,hg,rfl,hc,hk,hm,ho⟩:=ZDB h;obtain⟨x,r,rfl,hx,hr2⟩:=hr.cons_inv;obtain⟨y,r,rfl,hy,hr3⟩:=hr2.cons_inv;rw[hr3.nil_inv];obtain⟨a1,b1,rfl,ha1,hb1⟩:=hx.fn_inv;obtain⟨a2,b2,rfl,ha2,hb2⟩:=hy.fn_inv;have ea1:a1=#[]:=by have:=ha1.nil_inv;simpa using this
 have ea2:a2=#[]:=by have:=ha2.nil_inv;simpa using this
 have eb2:b2=#[]:=by have:=hb2.nil_inv;simpa using this
 obtain⟨p',q',eb1,hp',hq'⟩:=hb1.cons_inv;have:=hq'.nil_inv;subst this;obtain⟨lc,hlc,rfl⟩:=hp'.ptr_inv;have eb1:b1=#[.pointer (some ⟨lc.blk,lc.base+0,none⟩)]:=by
  apply Array.ext'
  simpa using eb1
 subst ea1;subst ea2;subst eb2;subst eb1;obtain⟨cc,el,fr,_,hgrow,hbc,hb5,hb6,hrc,hro,_⟩:=hS.cellsR hc hlc;have hbase:lc.base=0:=(hro rfl).2.2 hgrow;have hbl:lc.blk < w.heap.size:=by
  rcases Nat.lt_or_ge lc.blk w.heap.size with h1|h1
  .exact h1
  .rw[Array.getElem?_eq_none h1] at hbc;cases hbc
 obtain⟨u,hu1,hu2⟩:=hrc.at (o:=0) (by simp);obtain⟨lm,hlm,hu3⟩:=RV.map_inv (id:=id) hu2;subst hu3;have hcell:w.cell? ⟨lc.blk,0,none⟩=some (.map (some lm.blk)):=by
  rw[Zi4 hbc];simpa[hbase] using hu1
 obtain⟨en,clock,ks',hmb,hkeys,hst,hperm⟩:∃ (en:Array MapEntry) (clock:Nat) (ks':List (List UInt8)),w.heap[lm.blk]?=some (.map en clock)/\en.toList.map (·.key)=ks'.map strv/\Go.MapKept.Stamped en clock/\ks'.Perm ks:=by
  rcases hm with⟨clk,hid,hst⟩|hid
  .obtain⟨en,hb,_,hE⟩:=hS.mapR hid hlm;obtain⟨k1,k2⟩:=JN.keys hE;refine⟨en,clk,ks,hb,k1.trans hk.keys,⟨fun x hx=>?_,by rw[k2];exact hst.nod,by rw[k1,hk.keys];exact Zl6 hk.nod⟩,.refl _⟩;have:x.born∈en.toList.map (·.born):=List.mem_map.2 ⟨x,hx,rfl⟩;rw[k2] at this;obtain⟨e',h1,h2⟩:=List.mem_map.1 this;rw[<- h2];exact hst.lt e' h1
  .obtain⟨en,clk,es2,hb,_,hE,hp⟩:=hS.mapUR hid hlm;obtain⟨k1,k2⟩:=JN.keys hE;have hpk:(es2.map (·.1)).Perm (es.map (·.1)):=by
    have:=hp.perm.map (·.1)
    rwa [Zf1,Zf1] at this
   obtain⟨ks2,hks2⟩:∃ ks2:List (List UInt8),es2.map (·.1)=ks2.map strv:=by
    refine⟨es2.map fun e=>match e.1 with|.string s=>s.data.toList|_=>[],?_⟩;rw[List.map_map];refine List.map_congr_left fun e he=>?_;obtain⟨s,hs⟩:=hp.strs e he;simp[hs,strv]
   rw[hks2,hk.keys] at hpk;have hpk2:ks2.Perm ks:=by
    have h3:=hpk.map fun v:Value=>match v with|.string s=>s.data.toList|_=>([]:List UInt8)
    simpa[List.map_map,Function.comp_def,strv] using h3
   refine⟨en,clk,ks2,hb,k1.trans hks2,⟨fun x hx=>?_,by rw[k2];exact hp.st.nod,by rw[k1];exact hp.nod2⟩,hpk2⟩;have:x.born∈en.toList.map (·.born):=List.mem_map.2 ⟨x,hx,rfl⟩;rw[k2] at this;obtain⟨e',h1,h2⟩:=List.mem_map.1 this;rw[<- h2];exact hp.st.lt e' h1
 have hfew:=hk.few;have hcon:=(hC gk hg).run w lc.blk lm.blk en clock ks' hbl hcell hmb hkeys hst (fun k hm=>hk.len k (hperm.mem_iff.1 hm)) (by rw[hperm.length_eq];exact hfew);rw[ZCC hperm,hperm.length_eq] at hcon;simp only[Nat.add_zero,hbase];refine hcon.mono fun ee w' ⟨v',t,he,hrow,hnil,hb⟩=>?_;have hnil2:v'=.slice none 0 0↔ks=[]:=by
  rw[hnil];constructor
  .rintro rfl;exact List.eq_nil_of_length_eq_zero (by rw[<- hperm.length_eq];rfl)
  .rintro rfl;exact List.eq_nil_of_length_eq_zero (by rw[hperm.length_eq];rfl)
 have hS':=hS.below hb;unfold Zlx at ho;by_cases h0:ks=[]
 .rw[if_pos h0] at ho;cases ho;exact⟨ι,_,.refl ι,he,by rw[hnil2.2 h0];exact .sc rfl,hS'⟩
 .rw[if_neg h0] at ho;cases ho;rcases hrow.2 with⟨hv,_⟩|⟨gb,cap,cur,rfl,hge,hgb,r1,r2,r3,r4⟩
  .exact absurd (hnil2.1 hv) h0
  have hlen:((ZN ks).map strv).length=ks.length:=by rw[List.length_map,ZkG]
  rw[Nat.mul_one] at r3 r4;have hadd:=hS'.add (o:=.cells ((ZN ks).map strv) 1 true false) (l:=⟨gb,0,cap,1,true⟩) ⟨⟨gb,0,cap,1,true⟩,cur,t,(0,0),Qm _ _ _,rfl,rfl,hgb,by show 0+_<=cap;omega,by show cap<=cur.size;omega,by
   show RVs _ _ ((cur.toList.drop 0).take _)
   rw[List.drop_zero,hlen,r4];refine⟨rfl,fun i hi=>?_⟩;rw[List.getD_eq_getElem?_getD,List.getElem?_eq_getElem hi];simp only[List.getElem_map,Option.getD_some];exact .sc rfl,fun _=>⟨Nat.le_trans hS.size hge,.inl rfl,fun h=>by cases h⟩,by simp,fun x hx=>by
   obtain⟨k,_,rfl⟩:=List.mem_map.1 hx;rfl⟩ (fun i oi li hi hw hl=>by
   have:=((hS.obj i oi hi).newer hw li hl).2;show li.blk≠gb
   omega) (fun b hbp=>by
   have p1:=(hS.prot b hbp).1;show gb≠b
   rintro rfl
   rw[Array.getElem?_eq_none hge] at p1;cases p1) (fun _ j cs es nx lj hj hlj hbe=>by
   rcases hS.views j cs es nx lj hj hlj with⟨l',k1,k2⟩|⟨⟨c,el,fr,k1,_⟩,_⟩
   .exact⟨l',k1,k2⟩
   .have:=(Array.getElem?_eq_some_iff.1 k1).1;have hbe:lj.blk=gb:=hbe;omega)
  refine⟨_,_,Ym hS' _,he,?_,hadd⟩;have:=RV.slc (ι:=KX ι H.length ⟨gb,0,cap,1,true⟩) (id:=H.length) (o:=0) (n:=ks.length) (c:=ks.length) (c':=cap) (Qm _ _ _) (Nat.le_refl _) r1 (fun h=>by cases h) (by simp);simpa using this
end
end
section
variable {α:Type}
def Ze (k:List UInt8):List (List UInt8 × α)->Option α
 | []=>none
 | p :: m=>if p.1=k then some p.2 else Ze k m
def Yx (k:List UInt8) (m:List (List UInt8 × α)):List (List UInt8 × α):=m.filter fun p=>decide (p.1≠k)
def Qw (k:List UInt8) (v:α) (m:List (List UInt8 × α)):List (List UInt8 × α):=
 if(Ze k m).isSome then m.map fun p=>if p.1=k then(k,v) else p else m++[(k,v)]
variable {k:List UInt8} {v:α} {m:List (List UInt8 × α)}
theorem Zfs:∀ {m:List (List UInt8 × α)},Ze k m=none↔∀ p∈m,p.1≠k
 | []=>by simp[Ze]
 | p :: m=>by
  simp only[Ze];split
  .rename_i h;simp[h]
  .rename_i h;rw[Zfs];simp[h]
theorem Ku:∀ {m:List (List UInt8 × α)} {v:α},Ze k m=some v->(k,v)∈m
 | [],v,h=>by cases h
 | p :: m,v,h=>by
  simp only[Ze] at h;split at h
  .rename_i hp;cases h;subst hp;simp
  .exact List.mem_cons_of_mem _ (Ku h)
theorem Zck:∀ {m:List (List UInt8 × α)} {v:α},(m.map (·.1)).Nodup->(k,v)∈m->Ze k m=some v
 | [],v,_,h=>by cases h
 | p :: m,v,hn,h=>by
  simp only[List.map_cons,List.nodup_cons,List.mem_map,not_exists,not_and] at hn;simp only[Ze];rcases List.mem_cons.1 h with h|h
  .subst h;rw[if_pos rfl]
  .rw[if_neg fun e=>hn.1 _ h e.symm];exact Zck hn.2 h
theorem ZFO:∀ {m:List (List UInt8 × α)} {v:α},Ze k m=some v->∃ j:Nat,m[j]?=some (k,v)
 | m,v,h=>List.getElem?_of_mem (Ku h)
theorem ZmE:∀ {m:List (List UInt8 × α)} {j:Nat} {v0:α},(m.map (·.1)).Nodup->m[j]?=some (k,v0)->m.set j (k,v)=m.map fun p=>if p.1=k then(k,v) else p
 | [],j,v0,_,h=>by simp at h
 | p :: m,0,v0,hn,h=>by
  have:p=(k,v0):=by simpa using h
  subst this;simp only[List.map_cons,List.nodup_cons,List.mem_map,not_exists,not_and] at hn;simp only[List.set_cons_zero,List.map_cons,if_true]
  congr 1
  conv=>lhs;rw[<- List.map_id m]
  refine List.map_congr_left fun q hq=>?_;rw[if_neg (hn.1 q hq)];rfl
 | p :: m,j+1,v0,hn,h=>by
  have h':m[j]?=some (k,v0):=by simpa using h
  simp only[List.map_cons,List.nodup_cons,List.mem_map,not_exists,not_and] at hn;have hp:¬ p.1=k:=fun e=>hn.1 (k,v0) (List.mem_of_getElem? h') e.symm;simp only[List.set_cons_succ,List.map_cons,if_neg hp];rw[ZmE hn.2 h']
theorem Zgf:∀ {m:List (List UInt8 × α)} {j:Nat} {v0:α},(m.map (·.1)).Nodup->m[j]?=some (k,v0)->m.eraseIdx j=Yx k m
 | [],j,v0,_,h=>by simp at h
 | p :: m,0,v0,hn,h=>by
  have:p=(k,v0):=by simpa using h
  subst this;simp only[List.map_cons,List.nodup_cons,List.mem_map,not_exists,not_and] at hn;unfold Yx;rw[List.eraseIdx_cons_zero,List.filter_cons,if_neg (by simp)];symm
  rw[List.filter_eq_self];exact fun q hq=>decide_eq_true (hn.1 q hq)
 | p :: m,j+1,v0,hn,h=>by
  have h':m[j]?=some (k,v0):=by simpa using h
  simp only[List.map_cons,List.nodup_cons,List.mem_map,not_exists,not_and] at hn;have hp:¬ p.1=k:=fun e=>hn.1 (k,v0) (List.mem_of_getElem? h') e.symm;have ih:=Zgf hn.2 h';unfold Yx at ih ⊢;rw[List.eraseIdx_cons_succ,List.filter_cons,if_pos (by simpa using hp),ih]
theorem Zv7 (h:Ze k m=none):Yx k m=m:=by
 unfold Yx;rw[List.filter_eq_self];exact fun p hp=>decide_eq_true (Zfs.1 h p hp)
theorem ZsX (h:(m.map (·.1)).Nodup):((Qw k v m).map (·.1)).Nodup:=by
 unfold Qw;split
 .rw[List.map_map];have:((fun p:List UInt8 × α=>p.1) ∘ fun p=>if p.1=k then(k,v) else p)=fun p=>p.1:=by
   funext p
   simp only[Function.comp];split
   .rename_i h;exact h.symm
   .rfl
  rw[this];exact h
 .rename_i hs;have hn:Ze k m=none:=by cases e:Ze k m<;>simp_all
  rw[List.map_append,List.nodup_append];refine⟨h,by simp,fun a ha b hb=>?_⟩;have hb:b=k:=by simpa using hb
  obtain⟨p,hp,rfl⟩:=List.mem_map.1 ha;rw[hb];exact Zfs.1 hn p hp
theorem Ztn (h:(m.map (·.1)).Nodup):((Yx k m).map (·.1)).Nodup:=(List.filter_sublist.map _).nodup h
end
theorem ZDN {a b:List UInt8}:((⟨a.toArray⟩:ByteArray)==⟨b.toArray⟩)=(a==b):=by
 rw[ZpZ];simp
theorem Zje {α:Type} {enc:α->Value} {k:List UInt8}:∀ {es:List (Value × Value × Nat)} {m:List (List UInt8 × α)} (i:Nat),es.map kv=m.map (fun p=>(strv p.1,enc p.2))->
  (Ze k m=none/\Ys .str (strv k) es i=some none)\/∃ j v,m[j]?=some (k,v)/\Ze k m=some v/\Ys .str (strv k) es i=some (some (i+j,enc v))
 | [],[],i,_=>.inl ⟨rfl,rfl⟩
 | e :: es,p :: m,i,h=>by
  simp only[List.map_cons,List.cons.injEq,kv,Prod.mk.injEq] at h;obtain⟨⟨h1,h2⟩,h3⟩:=h;have hs:Zdw .str (strv k) e.1=some (k==p.1):=by rw[h1];simp only[Zdw,strv,ZDN]
  simp only[Ys,hs,Ze];by_cases hk:p.1=k
  .rw[show(k==p.1)=true by rw[hk];simp,if_pos hk];exact .inr ⟨0,p.2,by rw[<- hk];rfl,rfl,by rw[h2];rfl⟩
  .rw[show(k==p.1)=false by rw[beq_eq_false_iff_ne];exact Ne.symm hk,if_neg hk];rcases Zje (i+1) h3 with⟨h4,h5⟩|⟨j,v,h4,h5,h6⟩
   .exact .inl ⟨h4,h5⟩
   .exact .inr ⟨j+1,v,by simpa using h4,h5,by simp only;rw[h6];congr 3;omega⟩
 | [],_ :: _,_,h=>by cases h
 | _ :: _,[],_,h=>by cases h
theorem Zl8 {u:Value}:∀ {es:List (Value × Value × Nat)} {j:Nat} {p:Value × Value},(es.map kv)[j]?=some p->(Kd es j u).map kv=(es.map kv).set j (p.1,u)
 | [],j,p,h=>by simp at h
 | e :: es,0,p,h=>by
  have:kv e=p:=by simpa using h
  subst this;simp[Kd,kv]
 | e :: es,j+1,p,h=>by
  have:=Zl8 (u:=u) (es:=es) (j:=j) (p:=p) (by simpa using h);simp only[Kd] at this;simp only[Kd,List.modify_succ_cons,List.map_cons,List.set_cons_succ,this]
section
variable {α:Type} {enc:α->Value} {H H':Zd} {id:Nat} {m:List (List UInt8 × α)} {k:List UInt8} {v:α}
structure JL (enc:α->Value) (H:Zd) (id:Nat) (m:List (List UInt8 × α)):Prop where
 ex:∃ es,es.map kv=m.map (fun p=>(strv p.1,enc p.2))/\((∃ clk,H[id]?=some (.map es clk)/\Zdd es clk)\/H[id]?=some (.mapU es))
 nod:(m.map (·.1)).Nodup
theorem JL.lt (h:JL enc H id m):id < H.length:=by
 obtain⟨es,_,h1|h1⟩:=h.ex
 .obtain⟨clk,h1,_⟩:=h1;exact ZX h1
 .exact ZX h1
theorem JL.keep (h:JL enc H id m) (hk:H'[id]?=H[id]?):JL enc H' id m:=by
 obtain⟨es,h1,h2⟩:=h.ex;exact⟨⟨es,h1,by rw[hk];exact h2⟩,h.nod⟩
theorem JL.hle (h:JL enc H id m) (hl:HLe H H'):JL enc H' id m:=h.keep (hl.step.keep id h.lt (by simp))
theorem JL.step {o1 o2:List Nat} (h:JL enc H id m) (hs:Zo o1 H o2 H') (hn:id∉o1):JL enc H' id m:=h.keep (hs.keep id h.lt hn)
theorem Zbe:okK .str (strv k)=true:=rfl
theorem JL.len (h:JL enc H id m):lenM (.map (some id)) H=some (iv m.length,H):=by
 obtain⟨es,h1,h2⟩:=h.ex;have hl:es.length=m.length:=by have:=congrArg List.length h1;simpa using this
 unfold lenM;rcases h2 with⟨clk,h2,_⟩|h2<;>simp only[h2,hl]
theorem JL.lkp (h:JL enc H id m) {z:Value} {ok:Bool}:A.lkp .str z ok (.map (some id)) (strv k) H=
  some (match Ze k m with
   | some v=>bif ok then .tuple #[enc v,.bool true] else enc v
   | none=>bif ok then .tuple #[z,.bool false] else z,H):=by
 obtain⟨es,h1,h2⟩:=h.ex;unfold A.lkp;rcases Zje (k:=k) 0 h1 with⟨h3,h4⟩|⟨j,v,h3,h4,h5⟩
 .rcases h2 with⟨clk,h2,_⟩|h2<;>simp only[h2,Zbe,cond_true,h3,h4]
 .rcases h2 with⟨clk,h2,_⟩|h2<;>simp only[h2,Zbe,cond_true,h4,h5]
theorem JL.mup (h:JL enc H id m):∃ H',A.mup .str (.map (some id)) (strv k) (enc v) H=some (undef,H')/\JL enc H' id (Qw k v m)/\Zo [id] H [id] H'/\H'.length=H.length:=by
 obtain⟨es,h1,h2⟩:=h.ex;have hst:∀ o,Zo [id] H [id] (H.set id o):=fun o=>⟨by simp,fun j hj hn=>List.getElem?_set_ne (fun e=>hn (by simp[e])),fun j hj=>.inl hj⟩;have hnod:=ZsX (k:=k) (v:=v) h.nod;have hget:∀ {j:Nat} {v0:α},m[j]?=some (k,v0)->(es.map kv)[j]?=some (strv k,enc v0):=fun hj=>by rw[h1,List.getElem?_map,hj];rfl
 rcases Zje (k:=k) 0 h1 with⟨h3,h4⟩|⟨j,v0,h3,h4,h5⟩
 .have ha:Qw k v m=m++[(k,v)]:=by unfold Qw;rw[h3];rfl
  rw[ha] at hnod ⊢;have hm:∀ b,(es++[(strv k,enc v,b)]).map kv=(m++[(k,v)]).map fun p=>(strv p.1,enc p.2):=fun b=>by rw[List.map_append,List.map_append,h1];rfl
  rcases h2 with⟨clk,h2,hs⟩|h2
  .refine⟨H.set id (.map (es++[(strv k,enc v,clk)]) (clk+1)),?_,⟨⟨_,hm clk,.inl ⟨clk+1,ZW h2,⟨fun e he=>?_,?_⟩⟩⟩,hnod⟩,hst _,by simp⟩
   .unfold A.mup;simp only[h2,Zbe,cond_true,h4]
   .rcases List.mem_append.1 he with he|he
    .have:=hs.lt e he;omega
    .have:e=(strv k,enc v,clk):=by simpa using he
     rw[this];exact Nat.lt_succ_self _
   .rw[List.map_append,List.nodup_append];refine⟨hs.nod,by simp,fun a ha b hb=>?_⟩;have hb:b=clk:=by simpa using hb
    obtain⟨e,he,rfl⟩:=List.mem_map.1 ha;have:=hs.lt e he;omega
  .refine⟨H.set id (.mapU (es++[(strv k,enc v,0)])),?_,⟨⟨_,hm 0,.inr (ZW h2)⟩,hnod⟩,hst _,by simp⟩;unfold A.mup;simp only[h2,Zbe,cond_true,h4];rfl
 .have ha:Qw k v m=m.set j (k,v):=by unfold Qw;rw[h4];exact(ZmE h.nod h3).symm
  rw[ha] at hnod ⊢;rw[Nat.zero_add] at h5;have hm:(Kd es j (enc v)).map kv=(m.set j (k,v)).map fun p=>(strv p.1,enc p.2):=by
   rw[Zl8 (hget h3),h1,List.map_set]
  rcases h2 with⟨clk,h2,hs⟩|h2
  .refine⟨H.set id (.map (Kd es j (enc v)) clk),?_,⟨⟨_,hm,.inl ⟨clk,ZW h2,Zp5 hs⟩⟩,hnod⟩,hst _,by simp⟩;unfold A.mup;simp only[h2,Zbe,cond_true,h5]
  .refine⟨H.set id (.mapU (Kd es j (enc v))),?_,⟨⟨_,hm,.inr (ZW h2)⟩,hnod⟩,hst _,by simp⟩;unfold A.mup;simp only[h2,Zbe,cond_true,h5]
theorem JL.mde (h:JL enc H id m):∃ H',A.mde .str (.map (some id)) (strv k) H=some (.tuple #[],H')/\JL enc H' id (Yx k m)/\Zo [id] H [id] H'/\H'.length=H.length:=by
 obtain⟨es,h1,h2⟩:=h.ex;have hst:∀ o,Zo [id] H [id] (H.set id o):=fun o=>⟨by simp,fun j hj hn=>List.getElem?_set_ne (fun e=>hn (by simp[e])),fun j hj=>.inl hj⟩;have hnod:=Ztn (k:=k) h.nod;rcases Zje (k:=k) 0 h1 with⟨h3,h4⟩|⟨j,v0,h3,h4,h5⟩
 .refine⟨H,?_,by rw[Zv7 h3];exact h,.refl _ _,rfl⟩;unfold A.mde;rcases h2 with⟨clk,h2,hs⟩|h2<;>simp only[h2,Zbe,cond_true,h4]
 .have ha:Yx k m=m.eraseIdx j:=(Zgf h.nod h3).symm;rw[ha] at hnod ⊢;rw[Nat.zero_add] at h5;have hm:(es.eraseIdx j).map kv=(m.eraseIdx j).map fun p=>(strv p.1,enc p.2):=by
   have hg:∀ {β γ:Type} (f:β->γ) (l:List β) (j:Nat),(l.eraseIdx j).map f=(l.map f).eraseIdx j:=fun f l j=>by
    rw[List.eraseIdx_eq_take_drop_succ,List.eraseIdx_eq_take_drop_succ,List.map_append,List.map_take,List.map_drop]
   rw[hg,hg,h1]
  rcases h2 with⟨clk,h2,hs⟩|h2
  .refine⟨H.set id (.map (es.eraseIdx j) clk),?_,⟨⟨_,hm,.inl ⟨clk,ZW h2,⟨fun e he=>hs.lt e ((List.eraseIdx_sublist es j).subset he),((List.eraseIdx_sublist es j).map _).nodup hs.nod⟩⟩⟩,hnod⟩,hst _,by simp⟩;unfold A.mde;simp only[h2,Zbe,cond_true,h5]
  .refine⟨H.set id (.mapU (es.eraseIdx j)),?_,⟨⟨_,hm,.inr (ZW h2)⟩,hnod⟩,hst _,by simp⟩;unfold A.mde;simp only[h2,Zbe,cond_true,h5]
theorem JL.clone (h:JL enc H id m):∃ H',ZbU [.map (some id)] H=some (.map (some H.length),H')/\JL enc H' H.length m/\HLe H H':=by
 obtain⟨es,h1,h2⟩:=h.ex;rcases h2 with⟨clk,h2,hs⟩|h2
 .exact⟨_,by unfold ZbU;simp only[h2],⟨⟨es,h1,.inl ⟨clk,Zn,hs⟩⟩,h.nod⟩,.app _ _⟩
 .exact⟨_,by unfold ZbU;simp only[h2],⟨⟨es,h1,.inr Zn⟩,h.nod⟩,.app _ _⟩
theorem Zxy (H:Zd):∃ H',mkm H=some (.map (some H.length),H')/\JL enc H' H.length []/\HLe H H':=
 ⟨_,rfl,⟨⟨[],rfl,.inl ⟨0,Zn,⟨by simp,by simp⟩⟩⟩,by simp⟩,.app _ _⟩
theorem JL.keys (h:JL enc H id m) {gks:List FuncId} {gc gk:FuncId} {c e:Nat} (hg:gk∈gks) (hc:H[c]?=some (.cells [.map (some id)] e false false)) (hf:m.length<=1000000) (hl:∀ p∈m,p.1.length<=1000000) :
  ∃ v q H',Zb2 gks gc [.func (.func gk) #[] #[pt c],.func (.func gc) #[] #[]] H=some (v,H')/\Zt H' v ((ZN (m.map (·.1))).map strv) q/\HLe H H'/\∀ j∈q,H.length<=j:=by
 obtain⟨es,h1,h2⟩:=h.ex;have hk:ZhW es (m.map (·.1)):=⟨by
  have:=congrArg (List.map (·.1)) h1;rw[Zf1] at this;rw[this];simp[Function.comp_def],h.nod,by simpa using hf,fun k hk=>by
  obtain⟨p,hp,rfl⟩:=List.mem_map.1 hk;exact hl p hp⟩
 rw[Zr8 hg hc hk h2];unfold Zlx;by_cases h0:m.map (·.1)=[]
 .rw[if_pos h0,h0];have hz:ZN ([]:List (List UInt8))=[]:=List.mergeSort_nil;rw[hz];exact⟨_,[],_,rfl,Zt.nil,.refl _,by simp⟩
 .rw[if_neg h0];refine⟨_,[H.length],_,rfl,.inr ⟨H.length,[],true,?_,rfl,by simp⟩,.app _ _,by simp⟩;simp[ZkG]
end
def ZmQ (args:List Value):M Value:=fun H=>
 match args with
 | [.string s,.int .u8 c]=>some (iv (Go.Lib.indexByte s.data.toList c.toNat.toUInt8),H)
 | _=>none
def Zmo (args:List Value):M Value:=fun H=>
 match args with
 | [.string s,.int .u8 c]=>some (iv (Go.Lib.countByte s.data.toList c.toNat.toUInt8),H)
 | _=>none
section
variable {P:Program} {G:Nat} {w0:Qc}
theorem ZCe {g:FuncId} (he:Zu5 P g Extern.BytealgIndexByte.indexByte):Zbn P G w0 g ZmQ:=by
 intro args H v H1 h;refine .inr ⟨_,he,fun ι w args' hS hr=>?_⟩;unfold ZmQ at h;split at h
 .rename_i s c;cases h;obtain⟨p',r',rfl,hp',hr'⟩:=hr.cons_inv;obtain⟨y',r2,rfl,hy',hr2⟩:=hr'.cons_inv;have:=hr2.nil_inv;subst this;have:=hy'.int_inv;subst this;have:=hp'.scalar_inv rfl;subst this;exact⟨ι,_,w,.refl ι,hS,.sc rfl,Go.Lib.run_indexByteString s c w⟩
 .cases h
theorem ZCf {g:FuncId} (he:Zu5 P g Extern.BytealgCount.count):Zbn P G w0 g Zmo:=by
 intro args H v H1 h;refine .inr ⟨_,he,fun ι w args' hS hr=>?_⟩;unfold Zmo at h;split at h
 .rename_i s c;cases h;obtain⟨p',r',rfl,hp',hr'⟩:=hr.cons_inv;obtain⟨y',r2,rfl,hy',hr2⟩:=hr'.cons_inv;have:=hr2.nil_inv;subst this;have:=hy'.int_inv;subst this;have:=hp'.scalar_inv rfl;subst this;exact⟨ι,_,w,.refl ι,hS,.sc rfl,Go.Lib.run_countString s c w⟩
 .cases h
end
theorem ZBL (b:UInt8):(b.toNat:Int).toNat.toUInt8=b:=by
 rw[Int.toNat_natCast];simp
theorem ZIx {s:List UInt8} {b:UInt8} {H:Zd}:ZmQ [strv s,.int .u8 b.toNat] H=some (iv (Go.Lib.indexByte s b),H):=by
 unfold ZmQ strv;simp only[ZBL]
theorem ZI1 {s:List UInt8} {b:UInt8} {H:Zd}:Zmo [strv s,.int .u8 b.toNat] H=some (iv (s.count b),H):=by
 unfold Zmo strv Go.Lib.countByte;simp only[ZBL]
theorem Zg6 {b:UInt8}:∀ {s:List UInt8},Go.Lib.indexByte s b=if b∈s then(((s.takeWhile (· !=b)).length:Nat):Int) else -1
 | []=>rfl
 | c :: s=>by
  have ih:=Zg6 (b:=b) (s:=s);unfold Go.Lib.indexByte;by_cases hc:c=b
  .subst hc;simp
  .have h1:(c==b)=false:=beq_eq_false_iff_ne.2 hc;have h2:(c !=b)=true:=by simp[hc]
   rw[h1,List.takeWhile_cons,h2,ih];by_cases hm:b∈s
   .have:¬ ((((s.takeWhile (· !=b)).length:Nat):Int)==-1)=true:=by simp
    simp[hm,this]
   .have hm2:¬ b∈c :: s:=by simp[hm,Ne.symm hc]
    simp[hm,Ne.symm hc]
theorem Zwh {α β:Type} {f:α->β} {m m':List β} (h:m.Perm m'):∀ {l:List α},l.map f=m->∃ l':List α,l'.Perm l/\l'.map f=m':=by
 induction h with
 | nil=>intro l h;exact⟨l,.refl _,h⟩
 | cons x _ ih=>
  intro l h;cases l with
  | nil=>cases h
  | cons a l=>
   simp only[List.map_cons,List.cons.injEq] at h;obtain⟨l',h1,h2⟩:=ih h.2;exact⟨a :: l',h1.cons a,by simp[h.1,h2]⟩
 | swap x y l=>
  intro q h
  match q,h with
  | a :: b :: q,h=>
   simp only[List.map_cons,List.cons.injEq] at h;exact⟨b :: a :: q,.swap a b q,by simp[h.1,h.2.1,h.2.2]⟩
 | trans _ _ ih1 ih2=>
  intro l h;obtain⟨l1,h1,h2⟩:=ih1 h;obtain⟨l2,h3,h4⟩:=ih2 h2;exact⟨l2,h3.trans h1,h4⟩
def ZjS:Zf->Bool
 | .map _ _=>true
 | .mapU _=>true
 | _=>false
def Zgh (H:Zd):List (Value × Value × Nat)->Option (List Zf)
 | []=>some []
 | e :: es=>match e.2.1,Zgh H es with
  | .map (some s),some l=>match H[s]? with
   | some x=>if ZjS x then some (x :: l) else none
   | none=>none
  | _,_=>none
def Zc1 (base:Nat):List (Value × Value × Nat)->List (Value × Value × Nat)
 | []=>[]
 | e :: es=>(e.1,.map (some base),0) :: Zc1 (base+1) es
open Classical in
noncomputable def ZpF (H:Zd) (o:Nat):Option (List (Value × Value × Nat)):=
 match H[o]? with
 | some (.map es clk)=>if Zdd es clk then some es else none
 | some (.mapU es)=>some es
 | _=>none
open Classical in
noncomputable def Zlt (args:List Value):M Value:=fun H=>
 match args with
 | [.pointer (some ⟨g,0,none⟩)]=>match H[g]? with
  | some (.cells [.map (some o)] _ false false)=>match ZpF H o with
   | some es=>match Zgh H es with
    | some l=>if ∃ ks,ZhW es ks then some (pt (H.length+l.length+1),H++l++[.mapU (Zc1 H.length es)]++[.cells [.map (some (H.length+l.length))] 1 false false]) else none
    | none=>none
   | none=>none
  | _=>none
 | _=>none
section
variable {P:Program} {w0:Qc} {ι:Nat->Option Loc} {H H1:Zd} {w w':World} {v:Value} {G:Nat}
theorem ZDa {args:List Value} (h:Zlt args H=some (v,H1)):∃ g o e es ks l,args=[pt g]/\H[g]?=some (.cells [.map (some o)] e false false)/\ZpF H o=some es/\ZhW es ks/\Zgh H es=some l/\v=pt (H.length+l.length+1)/\H1=H++l++[.mapU (Zc1 H.length es)]++[.cells [.map (some (H.length+l.length))] 1 false false]:=by
 unfold Zlt at h;split at h
 .rename_i g;split at h
  .rename_i o e hg;split at h
   .rename_i es hes;split at h
    .rename_i l hl;split at h
     .rename_i hk;obtain⟨ks,hk⟩:=hk;cases h;exact⟨g,o,e,es,ks,l,rfl,hg,hes,hk,hl,rfl,rfl⟩
     .cases h
    .cases h
   .cases h
  .cases h
 .cases h
structure ZBN (P:Program) (g:FuncId):Prop where
 c:Zb8 P g
 run:∀ (w:World) (gb b:Nat) (es:Array MapEntry) (clock:Nat),gb < w.heap.size->w.cell? ⟨gb,0,none⟩=some (.map (some b))->w.heap[b]?=some (.map es clock)->Go.MapKept.Stamped es clock->
  (∀ x∈es.toList,∃ k:List UInt8,x.key=strv k)->(∀ x∈es.toList,∃ sb ses sclk,x.val=.map (some sb)/\w.heap[sb]?=some (.map ses sclk))->
  Calls P g #[.pointer (some ⟨gb,0,none⟩)] w fun e w'=>∃ (gb' ob:Nat) (el:TypeId) (en:Array MapEntry) (ck:Nat) (L:List (MapEntry × Nat)),e=.returned (.pointer (some ⟨gb',0,none⟩))/\
   w'.heap[gb']?=some (.cells #[.map (some ob)] el (0,0))/\w'.heap[ob]?=some (.map en ck)/\Go.MapKept.Stamped en ck/\
   en.toList.map (fun x=>(x.key,x.val))=L.map (fun p=>(p.1.key,Value.map (some p.2)))/\(L.map (·.1)).Perm es.toList/\
   (∀ p∈L,∃ sb,p.1.val=.map (some sb)/\w'.heap[p.2]?=w.heap[sb]?)/\(gb' :: ob :: L.map (·.2)).Nodup/\(∀ q∈gb' :: ob :: L.map (·.2),w.heap.size<=q)/\Go.RowKit.Below w.heap.size w w'
def ZfW (ι:Nat->Option Loc) (H:Zd) (b:Nat):Prop:=(∀ i oi li,H[i]?=some oi->oi.wr=true->ι i=some li->li.blk≠b)/\
 ∀ j cs es nx lj,H[j]?=some (.view cs es nx)->ι j=some lj->lj.blk=b->∃ l',ι nx=some l'/\l'.blk=lj.blk/\l'.base=lj.base
theorem ZfW.add {o:Zf} {l:Loc} {b:Nat} (h:ZfW ι H b) (hS:Sim G w0 ι H w) (hb:l.blk≠b) (hov:o.isV=false:=by rfl):ZfW (KX ι H.length l) (H++[o]) b:=by
 refine⟨?_,fun j cs es nx lj hj hlj hbe=>?_⟩
 rotate_left
 .rcases Nat.lt_trichotomy j H.length with hlt|rfl|hgt
  .rw[List.getElem?_append_left hlt] at hj;have:KX ι H.length l j=ι j:=by unfold KX;simp[Nat.ne_of_lt hlt]
   rw[this] at hlj;obtain⟨l',k1,k2⟩:=h.2 j cs es nx lj hj hlj hbe;exact⟨l',Ym hS _ _ _ k1,k2⟩
  .rw[Zn] at hj;rw[Option.some.inj hj] at hov;cases hov
  .rw[List.getElem?_eq_none (by simp;omega)] at hj;cases hj
 intro i oi li hi hw hl;rcases Nat.lt_trichotomy i H.length with hlt|rfl|hgt
 .rw[List.getElem?_append_left hlt] at hi;have:KX ι H.length l i=ι i:=by unfold KX;simp[Nat.ne_of_lt hlt]
  rw[this] at hl;exact h.1 i oi li hi hw hl
 .have:KX ι H.length l H.length=some l:=Qm _ _ _;rw[this] at hl;cases hl;exact hb
 .rw[List.getElem?_eq_none (by simp;omega)] at hi;cases hi
abbrev Zjw (b:Nat):Loc:=⟨b,0,0,0,false⟩
def Zla (ι:Nat->Option Loc):Value->Value
 | .map (some s)=>.map ((ι s).map (·.blk))
 | v=>v
theorem ZDz {H:Zd} {w':World} (hS:Sim G w0 ι H w):∀ (es:List (Value × Value × Nat)) (L:List (MapEntry × Nat)) (l:List Zf) (ι0:Nat->Option Loc) (H0:Zd),Sim G w0 ι0 H0 w'->Le ι ι0->Zgh H es=some l->
  L.map (fun p=>(p.1.key,p.1.val))=es.map (fun e=>(e.1,Zla ι e.2.1))->(∀ p∈L,∃ sb,p.1.val=.map (some sb)/\w'.heap[p.2]?=w.heap[sb]?)->(L.map (·.2)).Nodup->(∀ p∈L,ZfW ι0 H0 p.2/\w0.heap.size<=p.2/\∀ b∈w0.prot,p.2≠b)->
  ∃ ι1,Le ι0 ι1/\Sim G w0 ι1 (H0++l) w'/\l.length=es.length/\(∀ i p,L[i]?=some p->ι1 (H0.length+i)=some (Zjw p.2))/\(∀ b,ZfW ι0 H0 b->b∉L.map (·.2)->ZfW ι1 (H0++l) b)
 | [],L,l,ι0,H0,h0,hle,hl,hm,_,_,_=>by
  cases hl;have:L=[]:=by simpa using hm
  subst this;exact⟨ι0,.refl _,by rw[List.append_nil];exact h0,rfl,fun i p h=>by simp at h,fun b h _=>by rw[List.append_nil];exact h⟩
 | e :: es,L,l,ι0,H0,h0,hle,hl,hm,hc,hn,hf=>by
  cases L with
  | nil=>simp at hm
  | cons p L=>
   simp only[List.map_cons,List.cons.injEq,Prod.mk.injEq] at hm;unfold Zgh at hl;split at hl
   .rename_i _ _ s l' he hl';split at hl
    .rename_i x hx;split at hl
     .rename_i hmp;cases hl;obtain⟨sb,hsb,hcp⟩:=hc p (by simp);obtain⟨hfp,hgp,hpp⟩:=hf p (by simp);rw[he] at hm;have hv:=hm.1.2;rw[hsb] at hv;have hsl:∃ ls,ι s=some ls/\ls.blk=sb:=by
       simp only[Zla] at hv;cases hs:ι s with
       | none=>rw[hs] at hv;simp at hv
       | some ls=>rw[hs] at hv;exact⟨ls,rfl,by simpa using hv.symm⟩
      obtain⟨ls,hls,rfl⟩:=hsl;have hR:ZdM w0 (KX ι0 H0.length (Zjw p.2)) H0.length x w':=by
       have hle2:Le ι (KX ι0 H0.length (Zjw p.2)):=hle.trans (Ym h0 _);cases x with
       | map es' clk=>
        obtain⟨en,hb,hge,hE⟩:=hS.mapR hx hls;exact⟨_,en,Qm _ _ _,hcp.trans hb,hgp,hE.mono hle2⟩
       | mapU es'=>
        obtain⟨en,clk,es2,hb,hge,hE,hp⟩:=hS.mapUR hx hls;exact⟨_,en,clk,es2,Qm _ _ _,hcp.trans hb,hgp,hE.mono hle2,hp⟩
       | _=>simp[ZjS] at hmp
      have hov:x.isV=false:=by cases x<;>first|rfl|simp[ZjS] at hmp
      have h1:=h0.add hR hfp.1 hpp (fun _=>hfp.2) hov;simp only[List.map_cons,List.nodup_cons] at hn;obtain⟨ι1,a1,a2,a3,a4,a5⟩:=ZDz hS es L l' _ _ h1 (hle.trans (Ym h0 _)) hl' hm.2 (fun q hq=>hc q (by simp[hq])) hn.2 (fun q hq=>by
       obtain⟨b1,b2⟩:=hf q (by simp[hq]);exact⟨b1.add h0 (fun e=>hn.1 (List.mem_map.2 ⟨q,hq,e.symm⟩)) hov,b2⟩)
      refine⟨ι1,(Ym h0 _).trans a1,by rw[List.append_assoc,List.singleton_append] at a2;exact a2,by simp[a3],fun i q hi=>?_,fun b hb hnb=>?_⟩
      .cases i with
       | zero=>
        have:p=q:=by simpa using hi
        subst this;exact a1 _ _ (Qm _ _ _)
       | succ i=>
        have:=a4 i q (by simpa using hi)
        rwa [List.length_append,List.length_singleton,Nat.add_assoc,Nat.add_comm 1 i] at this
      .simp only[List.map_cons,List.mem_cons,not_or] at hnb;have:=a5 b (hb.add h0 (Ne.symm hnb.1) hov) hnb.2
       rwa [List.append_assoc,List.singleton_append] at this
     .cases hl
    .cases hl
   .cases hl
theorem ZfW.sim (h:Sim G w0 ι H w) {b:Nat} (hb:w.heap.size<=b):ZfW ι H b:=⟨fun i oi li hi hw hl=>by
 have:=((h.obj i oi hi).newer hw li hl).2;omega,fun j cs es nx lj hj hlj hbe=>by
 rcases h.views j cs es nx lj hj hlj with⟨l',k1,k2⟩|⟨⟨c,el,fr,k1,_⟩,_⟩
 .exact⟨l',k1,k2⟩
 .have:=(Array.getElem?_eq_some_iff.1 k1).1;omega⟩
theorem Zvm (h:Sim G w0 ι H w) {b:Nat} (hb:w.heap.size<=b):∀ c∈w0.prot,b≠c:=fun c hc e=>by
 have p1:=(h.prot c hc).1;subst e;rw[Array.getElem?_eq_none hb] at p1;cases p1
def ZxX (B:List ((MapEntry × Nat) × Nat)) (en:List MapEntry):List (Value × Value × Nat):=List.zipWith (fun b x=>(b.1.1.key,Value.map (some b.2),x.born)) B en
theorem Zyq:∀ (B:List ((MapEntry × Nat) × Nat)) (en:List MapEntry),en.map (fun x=>(x.key,x.val))=B.map (fun b=>(b.1.1.key,Value.map (some b.1.2)))->(∀ b∈B,Qp b.1.1.key=true/\ι b.2=some (Zjw b.1.2))->
  JN ι (ZxX B en) en/\(ZxX B en).map kv=B.map (fun b=>(b.1.1.key,Value.map (some b.2)))/\(ZxX B en).map (·.2.2)=en.map (·.born)
 | [],[],_,_=>⟨trivial,rfl,rfl⟩
 | [],_ :: _,h,_=>by simp at h
 | _ :: _,[],h,_=>by simp at h
 | b :: B,x :: en,h,hb=>by
  simp only[List.map_cons,List.cons.injEq,Prod.mk.injEq] at h;obtain⟨h1,h2,h3⟩:=Zyq B en h.2 (fun c hc=>hb c (by simp[hc]));obtain⟨g1,g2⟩:=hb b (by simp);have hm:RV ι (.map (some b.2)) (.map (some b.1.2)):=.mp (l:=Zjw b.1.2) g2;refine⟨⟨⟨g1,h.1.1,by rw[h.1.2];exact hm,rfl⟩,h1⟩,?_,?_⟩
  .simp only[List.map_cons];rw[<- h2];rfl
  .simp only[List.map_cons];rw[<- h3];rfl
theorem ZAZ:∀ (es:List (Value × Value × Nat)) (L:List (MapEntry × Nat)) (base:Nat),L.map (fun p=>p.1.key)=es.map (·.1)->
  (Zc1 base es).map kv=(L.zipIdx base).map (fun b=>(b.1.1.key,Value.map (some b.2)))/\(Zc1 base es).map (·.1)=es.map (·.1)
 | [],L,base,h=>by
  have:L=[]:=by simpa using h
  subst this;exact⟨rfl,rfl⟩
 | e :: es,[],base,h=>by simp at h
 | e :: es,p :: L,base,h=>by
  simp only[List.map_cons,List.cons.injEq] at h;obtain⟨h1,h2⟩:=ZAZ es L (base+1) h.2;refine⟨?_,?_⟩
  .simp only[Zc1,List.map_cons,List.zipIdx_cons];rw[h1,<- h.1];rfl
  .simp only[Zc1,List.map_cons];rw[h2]
theorem Ztl:∀ {es:List (Value × Value × Nat)} {l:List Zf},Zgh H es=some l->∀ e∈es,∃ s x,e.2.1=.map (some s)/\H[s]?=some x/\ZjS x=true
 | [],l,h,e,he=>by cases he
 | e0 :: es,l,h,e,he=>by
  unfold Zgh at h;split at h
  .rename_i _ _ s l' hv hl';split at h
   .rename_i x hx;split at h
    .rename_i hm;rcases List.mem_cons.1 he with rfl|he
     .exact⟨s,x,hv,hx,hm⟩
     .exact Ztl hl' e he
    .cases h
   .cases h
  .cases h
theorem Zwk (hle:∀ e:Value × Value × Nat,∀ n,RV ι e.2.1 n->(∃ s,e.2.1=.map (some s))->n=Zla ι e.2.1):∀ (es:List (Value × Value × Nat)) (en:List MapEntry),JN ι es en->(∀ e∈es,∃ s,e.2.1=.map (some s))->en.map (fun x=>(x.key,x.val))=es.map (fun e=>(e.1,Zla ι e.2.1))
 | [],[],_,_=>rfl
 | [],_ :: _,h,_=>h.elim
 | _ :: _,[],h,_=>h.elim
 | e :: es,n :: ns,h,hs=>by
  simp only[List.map_cons];rw[Zwk hle es ns h.2 (fun e he=>hs e (by simp[he])),h.1.2.1,hle e _ h.1.2.2.1 (hs e (by simp))]
theorem ZGZ {e:Value × Value × Nat} {n:Value} (h:RV ι e.2.1 n) (hs:∃ s,e.2.1=.map (some s)):n=Zla ι e.2.1:=by
 obtain⟨s,hs⟩:=hs;rw[hs] at h ⊢;obtain⟨l,hl,rfl⟩:=h.map_inv;simp[Zla,hl]
theorem ZCy {g:FuncId} (hC:ZBN P g):Zbn P G w0 g Zlt:=by
 intro args H v H1 h;refine .inl ⟨hC.c,fun ι w args' hS hr=>?_⟩;obtain⟨gi,o,e1,es,ks,l,rfl,hg,hes,hk,hl,rfl,rfl⟩:=ZDa h;obtain⟨x,r,rfl,hx,hr2⟩:=hr.cons_inv;rw[hr2.nil_inv];obtain⟨lc,hlc,rfl⟩:=hx.ptr_inv;obtain⟨cc,el,fr,_,hgrow,hbc,hb5,hb6,hrc,hro,_⟩:=hS.cellsR hg hlc;have hbase:lc.base=0:=(hro rfl).2.2 hgrow;have hbl:lc.blk < w.heap.size:=by
  rcases Nat.lt_or_ge lc.blk w.heap.size with h1|h1
  .exact h1
  .rw[Array.getElem?_eq_none h1] at hbc;cases hbc
 obtain⟨u,hu1,hu2⟩:=hrc.at (o:=0) (by simp);obtain⟨lm,hlm,hu3⟩:=RV.map_inv (id:=o) hu2;subst hu3;have hcell:w.cell? ⟨lc.blk,0,none⟩=some (.map (some lm.blk)):=by
  rw[Zi4 hbc];simpa[hbase] using hu1
 have hsets:=Ztl hl;have hismap:∀ e∈es,∃ s,e.2.1=.map (some s):=fun e he=>by obtain⟨s,_,h1,_⟩:=hsets e he;exact⟨s,h1⟩
 obtain⟨en,clock,es2,hmb,hE,hperm,hst⟩:∃ (en:Array MapEntry) (clock:Nat) (es2:List (Value × Value × Nat)),w.heap[lm.blk]?=some (.map en clock)/\Zdk ι es2 en/\(es2.map kv).Perm (es.map kv)/\Zdd es2 clock:=by
  unfold ZpF at hes;split at hes
  .rename_i es0 clk hid;split at hes
   .rename_i hst;cases hes;obtain⟨en,hb,_,hE⟩:=hS.mapR hid hlm;exact⟨en,_,_,hb,hE,.refl _,hst⟩
   .cases hes
  .rename_i es0 hid;cases hes;obtain⟨en,clk,es2,hb,_,hE,hp⟩:=hS.mapUR hid hlm;exact⟨en,clk,es2,hb,hE,hp.perm,hp.st⟩
  .cases hes
 have hmem2:∀ e∈es2,∃ f∈es,f.1=e.1/\f.2.1=e.2.1:=fun e he=>by
  have:kv e∈es.map kv:=hperm.mem_iff.1 (List.mem_map.2 ⟨e,he,rfl⟩);obtain⟨f,hf,h1⟩:=List.mem_map.1 this;unfold kv at h1;simp only[Prod.mk.injEq] at h1;exact⟨f,hf,h1.1,h1.2⟩
 have hismap2:∀ e∈es2,∃ s,e.2.1=.map (some s):=fun e he=>by
  obtain⟨f,hf,_,h2⟩:=hmem2 e he;rw[<- h2];exact hismap f hf
 obtain⟨k1,k2⟩:=JN.keys hE;have hkv:=Zwk (fun e n h hs=>ZGZ h hs) es2 en.toList hE hismap2;have hkeyp:(es2.map (·.1)).Perm (ks.map strv):=by
  have h3:=hperm.map (·.1);rw[Zf1,Zf1] at h3;rw[<- hk.keys];exact h3
 have hstr:∀ x∈en.toList,∃ k:List UInt8,x.key=strv k:=fun x hx=>by
  have h3:x.key∈es2.map (·.1):=by rw[<- k1];exact List.mem_map.2 ⟨x,hx,rfl⟩
  obtain⟨k,_,h4⟩:=List.mem_map.1 (hkeyp.mem_iff.1 h3);exact⟨k,h4.symm⟩
 have hsets2:∀ x∈en.toList,∃ sb ses sclk,x.val=.map (some sb)/\w.heap[sb]?=some (.map ses sclk):=fun x hx=>by
  have h3:(x.key,x.val)∈es2.map (fun e=>(e.1,Zla ι e.2.1)):=by rw[<- hkv];exact List.mem_map.2 ⟨x,hx,rfl⟩
  obtain⟨e,he,h4⟩:=List.mem_map.1 h3;obtain⟨f,hf,_,hf2⟩:=hmem2 e he;obtain⟨s,y,hy1,hy2,hy3⟩:=hsets f hf;simp only[Prod.mk.injEq] at h4;rw[<- hf2,hy1] at h4;have hd:y≠.dead:=by rintro rfl;simp[ZjS] at hy3
  obtain⟨ls,hls,_⟩:=(hS.obj s y hy2).loc hd;have h5:x.val=.map (some ls.blk):=by rw[<- h4.2];simp[Zla,hls]
  cases y with
  | map es' clk=>
   obtain⟨en',hb,_,_⟩:=hS.mapR hy2 hls;exact⟨_,_,_,h5,hb⟩
  | mapU es'=>
   obtain⟨en',clk,_,hb,_,_⟩:=hS.mapUR hy2 hls;exact⟨_,_,_,h5,hb⟩
  | _=>simp[ZjS] at hy3
 have hstamp:Go.MapKept.Stamped en clock:=by
  refine⟨fun x hx=>?_,by rw[k2];exact hst.nod,by rw[k1];exact hkeyp.nodup_iff.2 (Zl6 hk.nod)⟩;have h3:x.born∈en.toList.map (·.born):=List.mem_map.2 ⟨x,hx,rfl⟩;rw[k2] at h3;obtain⟨e',h1,h2⟩:=List.mem_map.1 h3;rw[<- h2];exact hst.lt e' h1
 simp only[Nat.add_zero,hbase];refine(hC.run w lc.blk lm.blk en clock hbl hcell hmb hstamp hstr hsets2).mono fun ee w' ⟨gb',ob,el',en',ck,L,he,hgb,hob,hst',hen',hL,hcp,hnd,hge,hb⟩=>?_;have hS':=hS.below hb;have hLkv:(L.map fun p=>(p.1.key,p.1.val)).Perm (es.map fun e=>(e.1,Zla ι e.2.1)):=by
  have h3:=hL.map (fun x:MapEntry=>(x.key,x.val));rw[List.map_map,hkv] at h3;have h4:=hperm.map (fun q:Value × Value=>(q.1,Zla ι q.2));rw[List.map_map,List.map_map] at h4;exact h3.trans h4
 obtain⟨L',hL',hLm⟩:=Zwh hLkv rfl;simp only[List.nodup_cons,List.mem_cons,not_or] at hnd;obtain⟨⟨n1,n2⟩,n3,n4⟩:=hnd;have hnod':(L'.map (·.2)).Nodup:=(hL'.map _).nodup_iff.2 n4;have hgeL:∀ p∈L',w.heap.size<=p.2:=fun p hp=>hge _ (by simp only[List.mem_cons,List.mem_map];exact .inr (.inr ⟨p,hL'.mem_iff.1 hp,rfl⟩));obtain⟨ι1,a1,a2,a3,a4,a5⟩:=ZDz hS es L' l ι H hS' (.refl _) hl hLm (fun p hp=>hcp p (hL'.mem_iff.1 hp)) hnod' (fun p hp=>⟨ZfW.sim hS (hgeL p hp),Nat.le_trans hS.size (hgeL p hp),Zvm hS (hgeL p hp)⟩);have hobge:=hge ob (by simp);have hgbge:=hge gb' (by simp);have hobF:ZfW ι1 (H++l) ob:=a5 ob (ZfW.sim hS hobge) fun hm=>n3 ((hL'.map (·.2)).mem_iff.1 hm);have hgbF:ZfW ι1 (H++l) gb':=a5 gb' (ZfW.sim hS hgbge) fun hm=>n2 ((hL'.map (·.2)).mem_iff.1 hm);obtain⟨B,hB,hBm⟩:=Zwh (f:=Prod.fst) (l:=L'.zipIdx H.length) (m':=L) (by rw[List.zipIdx_map_fst];exact hL') rfl;have hBi:∀ b∈B,Qp b.1.1.key=true/\ι1 b.2=some (Zjw b.1.2):=fun b hb=>by
  have hb':=hB.mem_iff.1 hb;obtain⟨i,hi⟩:=List.getElem?_of_mem hb';rw[List.getElem?_zipIdx] at hi;cases hq:L'[i]? with
  | none=>rw[hq] at hi;cases hi
  | some q=>
   rw[hq] at hi;have hi:(q,H.length+i)=b:=by simpa using hi
   subst hi;refine⟨?_,a4 i q hq⟩;have hqL:q.1∈L.map (·.1):=List.mem_map.2 ⟨q,hL'.mem_iff.1 (List.mem_of_getElem? hq),rfl⟩;obtain⟨k,hk⟩:=hstr q.1 (hL.mem_iff.1 hqL);show Qp q.1.key=true
   rw[hk];rfl
 have hen2:en'.toList.map (fun x=>(x.key,x.val))=B.map (fun b=>(b.1.1.key,Value.map (some b.1.2))):=by
  rw[hen',<- hBm,List.map_map];rfl
 obtain⟨z1,z2,z3⟩:=Zyq B en'.toList hen2 hBi;have hkeysL:L'.map (fun p=>p.1.key)=es.map (·.1):=by
  have:=congrArg (List.map Prod.fst) hLm;simpa[List.map_map,Function.comp_def] using this
 obtain⟨y1,y2⟩:=ZAZ es L' H.length hkeysL;have hle1:Le ι ι1:=a1;have hlen:(H++l).length=H.length+l.length:=List.length_append;have hPU:ZaT (ZxX B en'.toList) ck (Zc1 H.length es):=by
  refine⟨?_,⟨fun e he=>?_,?_⟩,⟨fun e he=>?_,?_⟩⟩
  .rw[z2,y1];exact hB.map _
  .have:e.1∈(Zc1 H.length es).map (·.1):=List.mem_map.2 ⟨e,he,rfl⟩;rw[y2,hk.keys] at this;obtain⟨k,_,h4⟩:=List.mem_map.1 this;exact⟨_,h4.symm⟩
  .rw[y2,hk.keys];exact Zl6 hk.nod
  .have:e.2.2∈(ZxX B en'.toList).map (·.2.2):=List.mem_map.2 ⟨e,he,rfl⟩;rw[z3] at this;obtain⟨x,hx,h4⟩:=List.mem_map.1 this;rw[<- h4];exact hst'.1 x hx
  .rw[z3];exact hst'.2.1
 have hO:=a2.add (o:=.mapU (Zc1 H.length es)) (l:=Zjw ob) ⟨Zjw ob,en',ck,_,Qm _ _ _,hob,Nat.le_trans hS.size hobge,z1.mono (Ym a2 _),hPU⟩ hobF.1 (Zvm hS hobge) (fun _=>hobF.2);have hgbF2:ZfW (KX ι1 (H++l).length (Zjw ob)) (H++l++[.mapU (Zc1 H.length es)]) gb':=hgbF.add a2 (Ne.symm n1);have hN:=hO.add (o:=.cells [.map (some (H.length+l.length))] 1 false false) (l:=⟨gb',0,1,1,false⟩) (by
  refine⟨⟨gb',0,1,1,false⟩,_,_,_,Qm _ _ _,rfl,rfl,hgb,by simp,by simp,?_,fun _=>⟨Nat.le_trans hS.size hgbge,.inl rfl,fun _=>rfl⟩,by simp,by simp[oneCell]⟩;refine⟨rfl,fun i hi=>?_⟩;have:i=0:=by simpa using hi
  subst this;refine .mp (l:=Zjw ob) (Ym hO _ _ _ ?_);rw[<- hlen];exact Qm _ _ _) hgbF2.1 (Zvm hS hgbge) (fun _=>hgbF2.2)
 refine⟨_,_,(hle1.trans (Ym a2 _)).trans (Ym hO _),he,?_,hN⟩;have hp:=RV.ptr (ι:=KX (KX ι1 (H++l).length (Zjw ob)) (H++l++[Zf.mapU (Zc1 H.length es)]).length ⟨gb',0,1,1,false⟩) (o:=0) (Qm _ _ _);have hlen2:(H++l++[Zf.mapU (Zc1 H.length es)]).length=H.length+l.length+1:=by rw[List.length_append,List.length_append,List.length_singleton]
 rw[hlen2] at hp ⊢;exact hp
end
section
open Go.RowKit Go.Maps Go.ChangeMaps Go.MapKept
section
variable {P:Program} (w:World) {ops:Array Oper} {rest:List Oper} {o:Oper} {a:Act} {Q:Exit->Act->World->Prop}
theorem ZrU (hg:o.guard=none) (m:Operand) (t:TypeId) (hop:o.op=Op.range t m) (k e:TypeId) (ht:P.underlying t=some (.map k e)) (b:Nat) (es:Array MapEntry) (clock:Nat)
  (hm:a.eval m=.map (some b)) (hb:w.heap[b]?=some (.map es clock))
  (hK:wpList P ops Q rest (a.put o.dst (.pointer (some ⟨w.heap.size,0,none⟩))) (w.alloc (.mapIter (some b) clock #[] clock))) :
  wpList P ops Q (o :: rest) a w:=by
 refine wpList_plain hg fun K' hK'=>?_;have hrun:=run_range_map (P:=P) w t k e b es clock ht hb;unfold Oper.wp;simp[execOp,hop,hm,hrun,Result.andThen]
 exact hK' _ _ hK
theorem ZuJ (hg:o.guard=none) (it:Operand) (hop:o.op=Op.next it false) (b r since c0 clock:Nat) (seen:Array Nat) (es:Array MapEntry)
  (hit:a.eval it=.pointer (some ⟨r,0,none⟩)) (hr:w.heap[r]?=some (.mapIter (some b) since seen c0)) (hb:w.heap[b]?=some (.map es clock)) (hst:Go.MapKept.Stamped es clock) (hsince:since=clock) (hsc:since<=c0)
  (hDone:(∀ x∈es.toList,x.born∈seen)->wpList P ops Q rest (a.put o.dst (.tuple #[.bool false])) w)
  (hMore:∀ (e:MapEntry) (w':World),e∈es.toList->e.born∉seen->w'.heap[r]?=some (.mapIter (some b) since (seen.push e.born) clock)->(leftOf es (seen.push e.born)).size < (leftOf es seen).size->
   w.grownBy w' (some r)->w'.heap.size=w.heap.size->(Instr.entry (.pointer (some ⟨r,0,none⟩))).run P w'=.ok (.tuple #[e.key,e.val]) w'->wpList P ops Q rest (a.put o.dst (.tuple #[.bool true,e.key,e.val])) w') :
  wpList P ops Q (o :: rest) a w:=by
 refine wpList_plain hg fun K' hK'=>?_;unfold Oper.wp;have hold:∀ x∈es.toList,x.born < since:=by rw[hsince];exact hst.1
 rcases run_next_at (P:=P) w o.type r b since c0 seen es clock hr hb hold hsc with⟨h0,hrun⟩|⟨e,he,w1,hal,hrun⟩
 .simp[execOp,hop,hit,hrun,Result.andThen]
  refine hK' _ _ (hDone fun x hx=>?_);have:=all_seen es seen h0 x hx;simpa using this
 .obtain⟨hem,hes⟩:=mem_left he;have hr1:w1.heap[r]?=some (.mapIter (some b) since seen c0):=by rcases hal with rfl|rfl<;>exact hr
  have hb1:w1.heap[b]?=some (.map es clock):=by rcases hal with rfl|rfl<;>exact hb
  have hset:=heap_set (o':=.mapIter (some b) since (seen.push e.born) clock) hr1;have hne:r≠b:=by
   intro e1;rw[e1,hb] at hr;cases hr
  have hb':(setBlock w1 r (.mapIter (some b) since (seen.push e.born) clock)).heap[b]?=some (.map es clock):=(hset.2 b (fun e1=>hne e1.symm)).trans hb1;simp[execOp,hop,hit,hrun,Result.andThen]
  refine hK' _ _ (hMore e _ hem (by simpa using hes) hset.1 (left_shrinks es seen e he) ?_ ?_ (run_entry_at _ r b since seen es clock e hset.1 hb' hem ((stamped_iff es clock).1 hst).2.1))
  .rcases hal with rfl|rfl<;>exact⟨rfl,rfl,rfl,by simp[setBlock],fun i _ hi=>hset.2 i (fun e1=>hi (by rw[e1]))⟩
  .rcases hal with rfl|rfl<;>simp[setBlock]
end
theorem K3 {w:World} {o:Obj} {b:Nat} (h:b < w.heap.size):(w.alloc o).heap[b]?=w.heap[b]?:=(MapKept.heap_alloc w o).2 b h
theorem ZAv {P:Program} {t kt e:TypeId} {k:List UInt8} {en:Array MapEntry} {ck ob:Nat} {W:World} (ht:P.underlying t=some (.map kt e)) (htk:tkT P kt=.str) (hb:W.heap[ob]?=some (.map en ck)) (hkeys:∀ x∈en.toList,∃ k',x.key=strv k'/\k'≠k) (v:Value) :
  ∃ W2,(Instr.mapUpdate t (.map (some ob)) (strv k) v).run P W=.ok () W2/\W2=setB W ob (.map (en.push { key:=strv k,val:=v,born:=ck }) (ck+1)):=by
 have hok:okK (tkT P kt) (strv k)=true:=by rw[htk];rfl
 obtain⟨d,hd,hsk,hchk⟩:=Zcn hok;have hE:∀ l:List MapEntry,(∀ x∈l,∃ k',x.key=strv k'/\k'≠k)->JN (fun _=>none) (l.map fun x=>(x.key,Value.tuple #[],x.born)) l/\∀ i,Ys .str (strv k) (l.map fun x=>(x.key,Value.tuple #[],x.born)) i=some none:=by
  intro l
  induction l with
  | nil=>intro _;exact⟨trivial,fun _=>rfl⟩
  | cons x l ih=>
   intro h;obtain⟨k',hk1,hk2⟩:=h x (by simp);obtain⟨h1,h2⟩:=ih fun y hy=>h y (by simp[hy]);refine⟨⟨⟨by show Qp x.key=true;rw[hk1];rfl,rfl,.un,rfl⟩,h1⟩,fun i=>?_⟩;have hs:Zdw .str (strv k) x.key=some (k==k'):=by rw[hk1];simp only[Zdw,strv,ZDN]
   simp only[List.map_cons,Ys,hs];rw[show(k==k')=false by rw[beq_eq_false_iff_ne];exact Ne.symm hk2];exact h2 _
 obtain⟨h1,h2⟩:=hE en.toList hkeys;obtain⟨r',h3,h4⟩:=KJ (k:=strv k) hd 0 h1 (by rw[htk];exact h2 0);cases r' with
 | some p=>exact h4.elim
 | none=>
  refine⟨_,?_,rfl⟩;simp only[Instr.mapUpdate,Sem.run_bind,run_underlying ht,Result.andThen_ok,JT hb,hchk,JW hd h3,Y7 hb]
structure CpR (w:World) (b r gb' ob:Nat) (es:Array MapEntry) (clock:Nat) (seen:Array Nat) (c0:Nat) (en:Array MapEntry) (ck:Nat) (L:List (MapEntry × Nat)) (el:TypeId) (wr:World):Prop where
 it:wr.heap[r]?=some (.mapIter (some b) clock seen c0)
 c0:clock<=c0
 g:wr.heap[gb']?=some (.cells #[.map (some ob)] el (0,0))
 o:wr.heap[ob]?=some (.map en ck)
 st:Go.MapKept.Stamped en ck
 ent:en.toList.map (fun x=>(x.key,x.val))=L.map (fun p=>(p.1.key,Value.map (some p.2)))
 sn:L.map (·.1.born)=seen.toList
 mem:∀ p∈L,p.1∈es.toList/\∃ sb ses sclk,p.1.val=.map (some sb)/\w.heap[sb]?=some (.map ses sclk)/\wr.heap[p.2]?=some (.map ses sclk)
 nod:(r :: gb' :: ob :: L.map (·.2)).Nodup
 ge:∀ q∈r :: gb' :: ob :: L.map (·.2),w.heap.size<=q
 snod:seen.toList.Nodup
 bel:Below w.heap.size w wr
section
variable {w wr w1:World} {b r g o:Nat} {es:Array MapEntry} {clock:Nat} {seen:Array Nat} {c0:Nat} {en:Array MapEntry} {ck:Nat} {L:List (MapEntry × Nat)} {el:TypeId}
theorem CpR.lts (h:CpR w b r g o es clock seen c0 en ck L el wr):r < wr.heap.size/\g < wr.heap.size/\o < wr.heap.size:=⟨(Array.getElem?_eq_some_iff.1 h.it).1,(Array.getElem?_eq_some_iff.1 h.g).1,(Array.getElem?_eq_some_iff.1 h.o).1⟩
theorem CpR.keys (h:CpR w b r g o es clock seen c0 en ck L el wr) (hst:Go.MapKept.Stamped es clock) {e:MapEntry} (he1:e∈es.toList) (he2:e.born∉seen):∀ x∈en.toList,x.key≠e.key:=fun x hx e4=>by
 have h3:(x.key,x.val)∈L.map (fun p=>(p.1.key,Value.map (some p.2))):=by rw[<- h.ent];exact List.mem_map.2 ⟨x,hx,rfl⟩
 obtain⟨p,hp,h4⟩:=List.mem_map.1 h3;simp only[Prod.mk.injEq] at h4;obtain⟨hm,_⟩:=h.mem p hp;have h5:p.1=e:=entry_eq_of_key ((stamped_iff es clock).1 hst).2.2 hm he1 (h4.1.trans e4);have:p.1.born∈seen.toList:=by rw[<- h.sn];exact List.mem_map.2 ⟨p,hp,rfl⟩
 rw[h5] at this;exact he2 (by simpa using this)
theorem CpR.next (h:CpR w b r g o es clock seen c0 en ck L el wr) (hst:Go.MapKept.Stamped es clock) {e:MapEntry} {sb sclk:Nat} {ses:Array MapEntry} (he1:e∈es.toList) (he2:e.born∉seen) (hev:e.val=.map (some sb)) (hsb:w.heap[sb]?=some (.map ses sclk))
  (hit:w1.heap[r]?=some (.mapIter (some b) clock (seen.push e.born) clock)) (hgr:wr.grownBy w1 (some r)) (hsz:w1.heap.size=wr.heap.size) :
  CpR w b r g o es clock (seen.push e.born) clock (en.push { key:=e.key,val:=.map (some wr.heap.size),born:=ck }) (ck+1) (L++[(e,wr.heap.size)]) el
   (setB (w1.alloc (.map ses sclk)).drew o (.map (en.push { key:=e.key,val:=.map (some wr.heap.size),born:=ck }) (ck+1))):=by
 obtain⟨l1,l2,l3⟩:=h.lts;have hnod:=h.nod;simp only[List.nodup_cons,List.mem_cons,not_or] at hnod;obtain⟨⟨n1,n2,n3⟩,⟨n4,n5⟩,n6,n7⟩:=hnod;generalize hX:Obj.map (en.push { key:=e.key,val:=.map (some wr.heap.size),born:=ck }) (ck+1)=X;have hge:=h.ge;have hLlt:∀ p∈L,p.2 < wr.heap.size:=fun p hp=>by
  obtain⟨_,sb',ses',sclk',h1,h2,h3⟩:=h.mem p hp;exact(Array.getElem?_eq_some_iff.1 h3).1
 have keep:∀ c,c < wr.heap.size->c≠o->c≠r->(setB (w1.alloc (.map ses sclk)).drew o X).heap[c]?=wr.heap[c]?:=fun c hc h1 h2=>by
  rw[Jy h1];show(w1.alloc (.map ses sclk)).heap[c]?=_
  rw[K3 (by omega),hgr.block c hc (by simpa using h2)]
 have hk:=h.keys hst he1 he2;have hst2:=(stamped_iff en ck).1 h.st;refine⟨?_,Nat.le_refl _,by rw[keep g l2 n4 (Ne.symm n1)];exact h.g,?_,?_,?_,?_,?_,?_,?_,?_,?_⟩
 .rw[Jy n2];show(w1.alloc (.map ses sclk)).heap[r]?=_
  rw[K3 (by omega)];exact hit
 .rw[Zfr (by show o < (w1.alloc (.map ses sclk)).heap.size;simp;omega),hX]
 .refine(stamped_iff _ _).2 ⟨fun x hx=>?_,?_,?_⟩
  .rw[Array.toList_push,List.mem_append] at hx;rcases hx with hx|hx
   .exact Nat.lt_succ_of_lt (hst2.1 x hx)
   .have:x={ key:=e.key,val:=.map (some wr.heap.size),born:=ck }:=by simpa using hx
    rw[this];exact Nat.lt_succ_self _
  .rw[Array.toList_push,List.map_append,List.nodup_append];refine⟨hst2.2.1,by simp,fun a ha c hc=>?_⟩;have hc:c=ck:=by simpa using hc
   obtain⟨x,hx,rfl⟩:=List.mem_map.1 ha;have:=hst2.1 x hx;omega
  .rw[Array.toList_push,List.pairwise_append];refine⟨hst2.2.2,by simp,fun x hx y hy=>?_⟩;have:y={ key:=e.key,val:=.map (some wr.heap.size),born:=ck }:=by simpa using hy
   rw[this];exact hk x hx
 .rw[Array.toList_push,List.map_append,List.map_append,h.ent];rfl
 .rw[List.map_append,h.sn,Array.toList_push];rfl
 .intro p hp;rcases List.mem_append.1 hp with hp|hp
  .obtain⟨h1,sb',ses',sclk',h2,h4,h3⟩:=h.mem p hp;have hp2:p.2∈L.map (·.2):=List.mem_map.2 ⟨p,hp,rfl⟩;exact⟨h1,sb',ses',sclk',h2,h4,by rw[keep p.2 (hLlt p hp) (fun e1=>n6 (e1 ▸ hp2)) (fun e1=>n3 (e1 ▸ hp2))];exact h3⟩
  .have:p=(e,wr.heap.size):=by simpa using hp
   subst this;refine⟨he1,sb,ses,sclk,hev,hsb,?_⟩;rw[Jy (by show wr.heap.size≠o;omega)];show(w1.alloc (.map ses sclk)).heap[wr.heap.size]?=_
   rw[<- hsz];exact(MapKept.heap_alloc w1 _).1
 .have hnew:∀ q∈r :: g :: o :: L.map (·.2),q≠wr.heap.size:=fun q hq=>by
   simp only[List.mem_cons] at hq;rcases hq with rfl|rfl|rfl|hq
   .omega
   .omega
   .omega
   .obtain⟨p,hp,rfl⟩:=List.mem_map.1 hq;exact Nat.ne_of_lt (hLlt p hp)
  have:r :: g :: o :: (L++[(e,wr.heap.size)]).map (·.2)=(r :: g :: o :: L.map (·.2))++[wr.heap.size]:=by simp
  rw[this,List.nodup_append];refine⟨h.nod,by simp,fun a ha c hc=>?_⟩;have hc:c=wr.heap.size:=by simpa using hc
  rw[hc];exact hnew a ha
 .intro q hq;have:r :: g :: o :: (L++[(e,wr.heap.size)]).map (·.2)=(r :: g :: o :: L.map (·.2))++[wr.heap.size]:=by simp
  rw[this] at hq;rcases List.mem_append.1 hq with hq|hq
  .exact hge q hq
  .have:q=wr.heap.size:=by simpa using hq
   rw[this];exact h.bel.size
 .rw[Array.toList_push,List.nodup_append];refine⟨h.snod,by simp,fun a ha c hc=>?_⟩;have hc:c=e.born:=by simpa using hc
  rw[hc];rintro rfl;exact he2 (by simpa using ha)
 .refine⟨(show w1.os=_ from hgr.os.trans h.bel.os),(show w1.tape=_ from hgr.tape.trans h.bel.tape),(show w1.output=_ from hgr.output.trans h.bel.output),?_,fun i hi=>?_⟩
  .rw[ZEu];show _<=(w1.alloc (.map ses sclk)).heap.size
   have:=h.bel.size;simp;omega
  .have ho:=hge o (by simp);have hr:=hge r (by simp);rw[keep i (Nat.lt_of_lt_of_le hi h.bel.size) (by omega) (by omega)];exact h.bel.block i hi
theorem CpR.left (h:CpR w b r g o es clock seen c0 en ck L el wr) (hb:w.heap[b]?=some (.map es clock)):wr.heap[b]?=some (.map es clock)/\wr.rangeLeft b r=(leftOf es seen).size:=by
 have hbl:b < w.heap.size:=(Array.getElem?_eq_some_iff.1 hb).1;have h1:wr.heap[b]?=some (.map es clock):=(h.bel.block b hbl).trans hb;refine⟨h1,?_⟩;simp only[World.rangeLeft,h1,h.it]
theorem CpR.perm (h:CpR w b r g o es clock seen c0 en ck L el wr) (hst:Go.MapKept.Stamped es clock) (hall:∀ x∈es.toList,x.born∈seen):(L.map (·.1)).Perm es.toList:=by
 have hst2:=(stamped_iff es clock).1 hst;have n1:(L.map (·.1)).Nodup:=by
  have:((L.map (·.1)).map (·.born)).Nodup:=by rw[List.map_map];exact h.sn ▸ h.snod
  exact List.Pairwise.of_map _ (fun a b h e=>h (congrArg _ e)) this
 have n2:es.toList.Nodup:=List.Pairwise.of_map _ (fun a b h e=>h (congrArg _ e)) hst2.2.1;refine(List.perm_ext_iff_of_nodup n1 n2).2 fun x=>⟨fun hx=>?_,fun hx=>?_⟩
 .obtain⟨p,hp,rfl⟩:=List.mem_map.1 hx;exact(h.mem p hp).1
 .have h1:x.born∈L.map (·.1.born):=by rw[h.sn];simpa using hall x hx
  obtain⟨p,hp,h2⟩:=List.mem_map.1 h1;have:p.1=x:=born_inj hst2.2.1 (h.mem p hp).1 hx h2;exact List.mem_map.2 ⟨p,hp,this⟩
end
set_option maxRecDepth 100000 in
theorem ZIu (hCl:ZjZ Tryz.prog 146):ZBN Tryz.prog 97 where
 c:=⟨Tryz.f97,Tryz.func97,by kernel_rfl,by kernel_rfl⟩
 run:=fun w gb b es clock hgb hcell hb hst hks hvs=>by
  have hmm:=@run_makeMap Tryz.prog;have hbl:b < w.heap.size:=(Array.getElem?_eq_some_iff.1 hb).1
  go_enter Tryz.func97,Tryz.ntmps97
  go_wp2_with (first
   | (at_range;refine ZrU _ rfl _ 214 rfl _ _ Tryz.underlying214 b es clock rfl ?_ ?_)
   | go_in)
  .rw[K3 (by simp;omega),K3 hbl];exact hb
  .go_frame
   have e1:((w.alloc (.map #[] 0)).alloc (.cells #[.map (some w.heap.size)] 216)).heap.size=w.heap.size+2:=by simp
   have e2:(w.alloc (.map #[] 0)).heap.size=w.heap.size+1:=by simp
   rw[e1]
   try rw[e2]
   go_loopw [4,5] (fun _ _ wr=>∃ seen c0 en ck L,CpR w b (w.heap.size+2) (w.heap.size+1) w.heap.size es clock seen c0 en ck L 216 wr) (fun _ _ wr=>wr.rangeLeft b (w.heap.size+2))
   case atStart=>
    refine⟨#[],clock,#[],0,[],?_⟩;have hA:=fun(w:World) (o:Obj)=>(MapKept.heap_alloc w o).1;refine⟨?_,Nat.le_refl _,?_,?_,⟨by simp,by simp,by simp⟩,rfl,rfl,by simp,by simp,?_,by simp,?_⟩
    .rw[<- e1];exact hA _ _
    .rw[K3 (by rw[e1];omega),<- e2];exact hA _ _
    .rw[K3 (by rw[e1];omega),K3 (by rw[e2];omega)];exact hA _ _
    .intro q hq;simp only[List.map_nil,List.mem_cons,List.not_mem_nil,or_false] at hq;omega
    .exact(((Below.refl _ _).alloc (Nat.le_refl _) _).alloc (by rw[e2];omega) _).alloc (by rw[e1];omega) _
   case round=>
    obtain⟨seen,c0,en,ck,L,hR⟩:=hrel
    go_wp2_with (first
     | (at_next;refine ZuJ _ rfl _ rfl b (w.heap.size+2) clock c0 clock seen es rfl hR.it ?_ hst rfl hR.c0 ?_ ?_)
     | go_in)
    .exact(hR.left hb).1
    .intro hdone
     go_wp2
     go_ret
     have hp:=hR.perm hst (by simpa using hdone);have hnod:=hR.nod;have hge:=hR.ge;exact⟨_,_,_,_,_,_,rfl,hR.g,hR.o,hR.st,hR.ent,hp,fun p hp=>(by obtain⟨_,sb,ses,sclk,h1,h2,h3⟩:=hR.mem p hp;exact⟨sb,h1,h3.trans h2.symm⟩),(List.nodup_cons.1 hnod).2,fun q hq=>hge q (List.mem_cons_of_mem _ hq),hR.bel⟩
    .intro e w1 he1 he2 hit1 hlt hgr hsz hen
     go_upto_region 5 with fail
     have he1:e∈es.toList:=by simpa using he1
     obtain⟨sb,ses,sclk,hev,hsb⟩:=hvs e he1;obtain⟨k,hek⟩:=hks e he1;obtain⟨W2,hcg,hcg2,hsz1,hsb1,hmu,hW2⟩:∃ W2,w1.cell? ⟨w.heap.size+1,0,none⟩=some (.map (some w.heap.size))/\(w1.alloc (.map ses sclk)).cell? ⟨w.heap.size+1,0,none⟩=some (.map (some w.heap.size))/\w.heap.size+1 < wr.heap.size/\w1.heap[sb]?=some (.map ses sclk)/\
       (Instr.mapUpdate 214 (.map (some w.heap.size)) (strv k) (.map (some wr.heap.size))).run Tryz.prog (w1.alloc (.map ses sclk)).drew=.ok () W2/\W2=setB (w1.alloc (.map ses sclk)).drew w.heap.size (.map (en.push { key:=strv k,val:=.map (some wr.heap.size),born:=ck }) (ck+1)):=by
      have hw:w.heap.size < wr.heap.size:=(Array.getElem?_eq_some_iff.1 hR.o).1;have hg1:w1.heap[w.heap.size+1]?=some (.cells #[.map (some w.heap.size)] 216 (0,0)):=by
       rw[hgr.block _ (Array.getElem?_eq_some_iff.1 hR.g).1 (by simp)];exact hR.g
      have ho1:w1.heap[w.heap.size]?=some (.map en ck):=by
       rw[hgr.block _ hw (by simp)];exact hR.o
      have hcg:w1.cell? ⟨w.heap.size+1,0,none⟩=some (.map (some w.heap.size)):=by
       rw[Zi4 hg1];rfl
      have hsbl:sb < w.heap.size:=(Array.getElem?_eq_some_iff.1 hsb).1;have hsb1:w1.heap[sb]?=some (.map ses sclk):=by
       rw[hgr.block _ (by omega) (by simp;omega),hR.bel.block sb hsbl];exact hsb
      have hoD:(w1.alloc (.map ses sclk)).drew.heap[w.heap.size]?=some (.map en ck):=by
       show(w1.alloc (.map ses sclk)).heap[w.heap.size]?=_
       rw[K3 (by omega)];exact ho1
      have hkn:∀ x∈en.toList,∃ k',x.key=strv k'/\k'≠k:=fun x hx=>by
       have h3:(x.key,x.val)∈L.map (fun p=>(p.1.key,Value.map (some p.2))):=by rw[<- hR.ent];exact List.mem_map.2 ⟨x,hx,rfl⟩
       obtain⟨p,hp,h4⟩:=List.mem_map.1 h3;simp only[Prod.mk.injEq] at h4;obtain⟨hm,_⟩:=hR.mem p hp;obtain⟨k',hk'⟩:=hks p.1 hm;refine⟨k',by rw[<- h4.1];exact hk',fun e4=>he2 ?_⟩;have h5:p.1=e:=entry_eq_of_key ((stamped_iff es clock).1 hst).2.2 hm he1 (by rw[hk',hek,e4]);have:p.1.born∈seen.toList:=by rw[<- hR.sn];exact List.mem_map.2 ⟨p,hp,rfl⟩
       rw[h5] at this;simpa using this
      obtain⟨W2,hmu,hW2⟩:=ZAv (P:=Tryz.prog) (t:=214) (k:=k) (v:=.map (some wr.heap.size)) Tryz.underlying214 (by kernel_rfl) hoD hkn;have hs1:w.heap.size+1 < wr.heap.size:=(Array.getElem?_eq_some_iff.1 hR.g).1;have hg2:(w1.alloc (.map ses sclk)).heap[w.heap.size+1]?=some (.cells #[.map (some w.heap.size)] 216 (0,0)):=by
       rw[K3 (by omega)];exact hg1
      exact⟨W2,hcg,by rw[Zi4 hg2];rfl,hs1,hsb1,hmu,hW2⟩
     rw[hev,hek]
     go_region_with (first
      | (go_at_call 146;refine(hCl.some sb ses sclk _ ?_).mono ?_;exact hsb1;rintro e w' ⟨rfl,rfl⟩)
      | fail)
     .have hN:=hR.next hst he1 he2 hev hsb hit1 hgr hsz;rw[hek] at hN
      go_roundw
      case rel=>(repeat apply Exists.intro);exact⟨⟨_,_,_,_,_,hN⟩,rfl⟩
      case measure=>rw[(hN.left hb).2,(hR.left hb).2];exact hlt
     .have hN:=hR.next hst he1 he2 hev hsb hit1 hgr hsz;rw[hek] at hN
      go_roundw
      case rel=>(repeat apply Exists.intro);exact⟨⟨_,_,_,_,_,hN⟩,rfl⟩
      case measure=>rw[(hN.left hb).2,(hR.left hb).2];exact hlt
end
end Go.Proofs.YtgfbgfafajiehaaGreatDoor.A
namespace Go.Proofs
open Go.RowKit Go.Maps Go.Sort Go.Shelf
def Tryz.cloneA_ren:Go.Shelf.Ren:=⟨fun|5=>94|7=>144|n=>n,fun|23=>118|25=>9|3=>9|4=>4|20=>20|n=>n,fun|n=>n⟩
theorem Tryz.cloneA:Go.Proofs.SlLaysW.n5 Tryz.prog Tryz.cloneA_ren:={
 mixed:=by kernel_rfl
 f5:=⟨Tryz.f94.name,by decide,Tryz.func94.trans (congrArg some (by kernel_rfl))⟩
 f7:=Tryz.func144.trans (congrArg some (by kernel_rfl))
 t4:=Tryz.underlying4
 a4:=Tryz.isAgg4
 z4:=Tryz.sizeOf4
 v4:=Tryz.zeroValue4
 t20:=Tryz.underlying20
 a20:=Tryz.isAgg20
 z20:=Tryz.sizeOf20
 v20:=Tryz.zeroValue20
 t23:=Tryz.underlying118
 a23:=Tryz.isAgg118
 z23:=Tryz.sizeOf118
 v23:=Tryz.zeroValue118 }
def Tryz.cloneB_ren:Go.Shelf.Ren:=⟨fun|5=>95|7=>144|n=>n,fun|23=>160|25=>9|3=>163|4=>4|20=>20|n=>n,fun|n=>n⟩
theorem Tryz.cloneB:Go.Proofs.SlLaysW.n5 Tryz.prog Tryz.cloneB_ren:={
 mixed:=by kernel_rfl
 f5:=⟨Tryz.f95.name,by decide,Tryz.func95.trans (congrArg some (by kernel_rfl))⟩
 f7:=Tryz.func144.trans (congrArg some (by kernel_rfl))
 t4:=Tryz.underlying4
 a4:=Tryz.isAgg4
 z4:=Tryz.sizeOf4
 v4:=Tryz.zeroValue4
 t20:=Tryz.underlying20
 a20:=Tryz.isAgg20
 z20:=Tryz.sizeOf20
 v20:=Tryz.zeroValue20
 t23:=Tryz.underlying160
 a23:=Tryz.isAgg160
 z23:=Tryz.sizeOf160
 v23:=Tryz.zeroValue160 }
def Tryz.cloneC_ren:Go.Shelf.Ren:=⟨fun|5=>146|7=>144|n=>n,fun|23=>218|25=>9|3=>220|4=>4|20=>20|n=>n,fun|n=>n⟩
theorem Tryz.cloneC:Go.Proofs.SlLaysW.n5 Tryz.prog Tryz.cloneC_ren:={
 mixed:=by kernel_rfl
 f5:=⟨Tryz.f146.name,by decide,Tryz.func146.trans (congrArg some (by kernel_rfl))⟩
 f7:=Tryz.func144.trans (congrArg some (by kernel_rfl))
 t4:=Tryz.underlying4
 a4:=Tryz.isAgg4
 z4:=Tryz.sizeOf4
 v4:=Tryz.zeroValue4
 t20:=Tryz.underlying20
 a20:=Tryz.isAgg20
 z20:=Tryz.sizeOf20
 v20:=Tryz.zeroValue20
 t23:=Tryz.underlying218
 a23:=Tryz.isAgg218
 z23:=Tryz.sizeOf218
 v23:=Tryz.zeroValue218 }
def Tryz.keysA_ren:Go.Shelf.Ren:=⟨fun|7=>158|10=>208|n=>n,fun|23=>118|26=>9|3=>9|28=>230|0=>0|27=>229|33=>265|4=>4|n=>n,fun|n=>n⟩
theorem Tryz.keysA:Go.Proofs.SlLaysZ.n7 Tryz.prog Tryz.keysA_ren:={
 mixed:=by kernel_rfl
 f7:=⟨Tryz.f158.name,by decide,Tryz.func158.trans (congrArg some (by kernel_rfl))⟩
 f10:=⟨Tryz.f208.name,by decide,Tryz.func208.trans (congrArg some (by kernel_rfl))⟩
 t0:=Tryz.underlying0
 a0:=Tryz.isAgg0
 z0:=Tryz.sizeOf0
 v0:=Tryz.zeroValue0
 t4:=Tryz.underlying4
 a4:=Tryz.isAgg4
 z4:=Tryz.sizeOf4
 v4:=Tryz.zeroValue4
 t23:=Tryz.underlying118
 a23:=Tryz.isAgg118
 z23:=Tryz.sizeOf118
 v23:=Tryz.zeroValue118
 t26:=Tryz.underlying9
 a26:=Tryz.isAgg9
 z26:=Tryz.sizeOf9
 v26:=Tryz.zeroValue9
 t27:=Tryz.underlying229
 a27:=Tryz.isAgg229
 z27:=Tryz.sizeOf229
 v27:=Tryz.zeroValue229
 t28:=Tryz.underlying230
 a28:=Tryz.isAgg230
 z28:=Tryz.sizeOf230
 v28:=Tryz.zeroValue230
 t33:=Tryz.underlying265
 a33:=Tryz.isAgg265
 z33:=Tryz.sizeOf265
 v33:=Tryz.zeroValue265 }
def Tryz.keysB_ren:Go.Shelf.Ren:=⟨fun|7=>165|10=>214|n=>n,fun|23=>160|26=>9|3=>163|28=>230|0=>0|27=>229|33=>265|4=>4|n=>n,fun|n=>n⟩
theorem Tryz.keysB:Go.Proofs.SlLaysZ.n7 Tryz.prog Tryz.keysB_ren:={
 mixed:=by kernel_rfl
 f7:=⟨Tryz.f165.name,by decide,Tryz.func165.trans (congrArg some (by kernel_rfl))⟩
 f10:=⟨Tryz.f214.name,by decide,Tryz.func214.trans (congrArg some (by kernel_rfl))⟩
 t0:=Tryz.underlying0
 a0:=Tryz.isAgg0
 z0:=Tryz.sizeOf0
 v0:=Tryz.zeroValue0
 t4:=Tryz.underlying4
 a4:=Tryz.isAgg4
 z4:=Tryz.sizeOf4
 v4:=Tryz.zeroValue4
 t23:=Tryz.underlying160
 a23:=Tryz.isAgg160
 z23:=Tryz.sizeOf160
 v23:=Tryz.zeroValue160
 t26:=Tryz.underlying9
 a26:=Tryz.isAgg9
 z26:=Tryz.sizeOf9
 v26:=Tryz.zeroValue9
 t27:=Tryz.underlying229
 a27:=Tryz.isAgg229
 z27:=Tryz.sizeOf229
 v27:=Tryz.zeroValue229
 t28:=Tryz.underlying230
 a28:=Tryz.isAgg230
 z28:=Tryz.sizeOf230
 v28:=Tryz.zeroValue230
 t33:=Tryz.underlying265
 a33:=Tryz.isAgg265
 z33:=Tryz.sizeOf265
 v33:=Tryz.zeroValue265 }
def Tryz.keysC_ren:Go.Shelf.Ren:=⟨fun|7=>213|10=>249|n=>n,fun|23=>214|26=>9|3=>218|28=>230|0=>0|27=>229|33=>265|4=>4|n=>n,fun|n=>n⟩
theorem Tryz.keysC:Go.Proofs.SlLaysZ.n7 Tryz.prog Tryz.keysC_ren:={
 mixed:=by kernel_rfl
 f7:=⟨Tryz.f213.name,by decide,Tryz.func213.trans (congrArg some (by kernel_rfl))⟩
 f10:=⟨Tryz.f249.name,by decide,Tryz.func249.trans (congrArg some (by kernel_rfl))⟩
 t0:=Tryz.underlying0
 a0:=Tryz.isAgg0
 z0:=Tryz.sizeOf0
 v0:=Tryz.zeroValue0
 t4:=Tryz.underlying4
 a4:=Tryz.isAgg4
 z4:=Tryz.sizeOf4
 v4:=Tryz.zeroValue4
 t23:=Tryz.underlying214
 a23:=Tryz.isAgg214
 z23:=Tryz.sizeOf214
 v23:=Tryz.zeroValue214
 t26:=Tryz.underlying9
 a26:=Tryz.isAgg9
 z26:=Tryz.sizeOf9
 v26:=Tryz.zeroValue9
 t27:=Tryz.underlying229
 a27:=Tryz.isAgg229
 z27:=Tryz.sizeOf229
 v27:=Tryz.zeroValue229
 t28:=Tryz.underlying230
 a28:=Tryz.isAgg230
 z28:=Tryz.sizeOf230
 v28:=Tryz.zeroValue230
 t33:=Tryz.underlying265
 a33:=Tryz.isAgg265
 z33:=Tryz.sizeOf265
 v33:=Tryz.zeroValue265 }
def Tryz.keysD_ren:Go.Shelf.Ren:=⟨fun|7=>254|10=>273|n=>n,fun|23=>217|26=>9|3=>220|28=>230|0=>0|27=>229|33=>265|4=>4|n=>n,fun|n=>n⟩
theorem Tryz.keysD:Go.Proofs.SlLaysZ.n7 Tryz.prog Tryz.keysD_ren:={
 mixed:=by kernel_rfl
 f7:=⟨Tryz.f254.name,by decide,Tryz.func254.trans (congrArg some (by kernel_rfl))⟩
 f10:=⟨Tryz.f273.name,by decide,Tryz.func273.trans (congrArg some (by kernel_rfl))⟩
 t0:=Tryz.underlying0
 a0:=Tryz.isAgg0
 z0:=Tryz.sizeOf0
 v0:=Tryz.zeroValue0
 t4:=Tryz.underlying4
 a4:=Tryz.isAgg4
 z4:=Tryz.sizeOf4
 v4:=Tryz.zeroValue4
 t23:=Tryz.underlying217
 a23:=Tryz.isAgg217
 z23:=Tryz.sizeOf217
 v23:=Tryz.zeroValue217
 t26:=Tryz.underlying9
 a26:=Tryz.isAgg9
 z26:=Tryz.sizeOf9
 v26:=Tryz.zeroValue9
 t27:=Tryz.underlying229
 a27:=Tryz.isAgg229
 z27:=Tryz.sizeOf229
 v27:=Tryz.zeroValue229
 t28:=Tryz.underlying230
 a28:=Tryz.isAgg230
 z28:=Tryz.sizeOf230
 v28:=Tryz.zeroValue230
 t33:=Tryz.underlying265
 a33:=Tryz.isAgg265
 z33:=Tryz.sizeOf265
 v33:=Tryz.zeroValue265 }
def Tryz.collA_ren:Go.Shelf.Ren:=⟨fun|8=>206|11=>245|n=>n,fun|26=>9|28=>230|24=>37|0=>0|33=>265|4=>4|n=>n,fun|n=>n⟩
theorem Tryz.collA:Go.Proofs.SlLaysZ.n8 Tryz.prog Tryz.collA_ren:={
 mixed:=by kernel_rfl
 f8:=⟨Tryz.f206.name,by decide,Tryz.func206.trans (congrArg some (by kernel_rfl))⟩
 f11:=⟨Tryz.f245.name,by decide,Tryz.func245.trans (congrArg some (by kernel_rfl))⟩
 t0:=Tryz.underlying0
 a0:=Tryz.isAgg0
 z0:=Tryz.sizeOf0
 v0:=Tryz.zeroValue0
 t24:=Tryz.underlying37
 a24:=Tryz.isAgg37
 z24:=Tryz.sizeOf37
 v24:=Tryz.zeroValue37
 t26:=Tryz.underlying9
 a26:=Tryz.isAgg9
 z26:=Tryz.sizeOf9
 v26:=Tryz.zeroValue9
 t28:=Tryz.underlying230
 a28:=Tryz.isAgg230
 z28:=Tryz.sizeOf230
 v28:=Tryz.zeroValue230
 i26:=by kernel_rfl }
def Tryz.sortA_ren:Go.Shelf.Ren:=⟨fun|6=>207|15=>247|14=>246|28=>267|29=>268|20=>259|21=>260|22=>261|23=>262|24=>263|25=>264|26=>265|27=>266|46=>274|47=>275|48=>276|49=>277|50=>278|57=>286|n=>n,fun|22=>37|24=>9|25=>225|3=>3|39=>227|0=>0|53=>315|55=>27|4=>4|46=>309|45=>308|50=>197|5=>5|9=>9|66=>318|70=>322|76=>328|77=>329|n=>n,fun|n=>n⟩
theorem Tryz.sortA:Go.Proofs.SlLaysF.n6 Tryz.prog Tryz.sortA_ren:={
 mixed:=by kernel_rfl
 f6:=⟨Tryz.f207.name,by decide,Tryz.func207.trans (congrArg some (by kernel_rfl))⟩
 f14:=⟨Tryz.f246.name,by decide,Tryz.func246.trans (congrArg some (by kernel_rfl))⟩
 f15:=Tryz.func247.trans (congrArg some (by kernel_rfl))
 f20:=⟨Tryz.f259.name,by decide,Tryz.func259.trans (congrArg some (by kernel_rfl))⟩
 f21:=⟨Tryz.f260.name,by decide,Tryz.func260.trans (congrArg some (by kernel_rfl))⟩
 f22:=⟨Tryz.f261.name,by decide,Tryz.func261.trans (congrArg some (by kernel_rfl))⟩
 f23:=⟨Tryz.f262.name,by decide,Tryz.func262.trans (congrArg some (by kernel_rfl))⟩
 f24:=⟨Tryz.f263.name,by decide,Tryz.func263.trans (congrArg some (by kernel_rfl))⟩
 f25:=⟨Tryz.f264.name,by decide,Tryz.func264.trans (congrArg some (by kernel_rfl))⟩
 f26:=⟨Tryz.f265.name,by decide,Tryz.func265.trans (congrArg some (by kernel_rfl))⟩
 f27:=⟨Tryz.f266.name,by decide,Tryz.func266.trans (congrArg some (by kernel_rfl))⟩
 f28:=Tryz.func267.trans (congrArg some (by kernel_rfl))
 f29:=Tryz.func268.trans (congrArg some (by kernel_rfl))
 f46:=⟨Tryz.f274.name,by decide,Tryz.func274.trans (congrArg some (by kernel_rfl))⟩
 f47:=Tryz.func275.trans (congrArg some (by kernel_rfl))
 f48:=Tryz.func276.trans (congrArg some (by kernel_rfl))
 f49:=⟨Tryz.f277.name,by decide,Tryz.func277.trans (congrArg some (by kernel_rfl))⟩
 f50:=⟨Tryz.f278.name,by decide,Tryz.func278.trans (congrArg some (by kernel_rfl))⟩
 f57:=⟨Tryz.f286.name,by decide,Tryz.func286.trans (congrArg some (by kernel_rfl))⟩
 t0:=Tryz.underlying0
 a0:=Tryz.isAgg0
 z0:=Tryz.sizeOf0
 v0:=Tryz.zeroValue0
 t3:=Tryz.underlying3
 a3:=Tryz.isAgg3
 z3:=Tryz.sizeOf3
 v3:=Tryz.zeroValue3
 t4:=Tryz.underlying4
 a4:=Tryz.isAgg4
 z4:=Tryz.sizeOf4
 v4:=Tryz.zeroValue4
 t5:=Tryz.underlying5
 a5:=Tryz.isAgg5
 z5:=Tryz.sizeOf5
 v5:=Tryz.zeroValue5
 t9:=Tryz.underlying9
 a9:=Tryz.isAgg9
 z9:=Tryz.sizeOf9
 v9:=Tryz.zeroValue9
 t22:=Tryz.underlying37
 a22:=Tryz.isAgg37
 z22:=Tryz.sizeOf37
 v22:=Tryz.zeroValue37
 a24:=Tryz.isAgg9
 z24:=Tryz.sizeOf9
 t25:=Tryz.underlying225
 a25:=Tryz.isAgg225
 z25:=Tryz.sizeOf225
 v25:=Tryz.zeroValue225
 t39:=Tryz.underlying227
 a39:=Tryz.isAgg227
 z39:=Tryz.sizeOf227
 v39:=Tryz.zeroValue227
 t45:=Tryz.underlying308
 a45:=Tryz.isAgg308
 z45:=Tryz.sizeOf308
 v45:=Tryz.zeroValue308
 t46:=Tryz.underlying309
 a46:=Tryz.isAgg309
 z46:=Tryz.sizeOf309
 v46:=Tryz.zeroValue309
 t50:=Tryz.underlying197
 a50:=Tryz.isAgg197
 z50:=Tryz.sizeOf197
 v50:=Tryz.zeroValue197
 t53:=Tryz.underlying315
 a53:=Tryz.isAgg315
 z53:=Tryz.sizeOf315
 v53:=Tryz.zeroValue315
 t55:=Tryz.underlying27
 a55:=Tryz.isAgg27
 z55:=Tryz.sizeOf27
 v55:=Tryz.zeroValue27
 t66:=Tryz.underlying318
 a66:=Tryz.isAgg318
 z66:=Tryz.sizeOf318
 v66:=Tryz.zeroValue318
 t70:=Tryz.underlying322
 a70:=Tryz.isAgg322
 z70:=Tryz.sizeOf322
 v70:=Tryz.zeroValue322
 t76:=Tryz.underlying328
 a76:=Tryz.isAgg328
 z76:=Tryz.sizeOf328
 v76:=Tryz.zeroValue328
 t77:=Tryz.underlying329
 a77:=Tryz.isAgg329
 z77:=Tryz.sizeOf329
 v77:=Tryz.zeroValue329 }
end Go.Proofs
namespace Go.Proofs.YtgfbgfafajiehaaGreatDoor.A
open Go.Proofs Go.Proofs.YtgfbgfafajiehaaGreatDoor
section
open Go.RowKit Go.Maps Go.Sort Go.Shelf Go.Proofs
theorem clA:ZjZ Tryz.prog 94 where
 c:=⟨Tryz.f94,Tryz.func94,by kernel_rfl,by kernel_rfl⟩
 nil:=fun w=>AnyW.maps_Clone_nil Tryz.cloneA w
 some:=fun b es clock w hb=>AnyW.maps_Clone Tryz.cloneA b es clock w hb
theorem clB:ZjZ Tryz.prog 95 where
 c:=⟨Tryz.f95,Tryz.func95,by kernel_rfl,by kernel_rfl⟩
 nil:=fun w=>AnyW.maps_Clone_nil Tryz.cloneB w
 some:=fun b es clock w hb=>AnyW.maps_Clone Tryz.cloneB b es clock w hb
theorem clC:ZjZ Tryz.prog 146 where
 c:=⟨Tryz.f146,Tryz.func146,by kernel_rfl,by kernel_rfl⟩
 nil:=fun w=>AnyW.maps_Clone_nil Tryz.cloneC w
 some:=fun b es clock w hb=>AnyW.maps_Clone Tryz.cloneC b es clock w hb
def Zeo (x y:List UInt8):Int:=if x < y then -1 else if y < x then 1 else 0
theorem ZHx (x:List UInt8) (w:World):Calls Tryz.prog 244 #[encStr x] w fun e w'=>e=.returned (.bool false)/\w'=w:=by
 go_enter Tryz.func244,Tryz.ntmps244
 go_wp2
 go_ret
 exact⟨by simp,rfl⟩
theorem Zpj (x y:List UInt8):x < y\/x=y\/y < x:=by
 by_cases h:x < y
 .exact .inl h
 .by_cases h2:y < x
  .exact .inr (.inr h2)
  .exact .inr (.inl (List.le_antisymm h2 h))
theorem ZEt (x y:List UInt8) (w:World):Calls Tryz.prog 201 #[encStr x,encStr y] w fun e w'=>e=.returned (.int .i64 (Zeo x y))/\w'=w:=by
 have e244:∀ args w,(callFunc 244 args).run Tryz.prog w=.ok (.enter 244 args) w:=enters_of Tryz.func244 (by kernel_rfl) rfl;have hb:Op.bytesLess x y=decide (x < y):=bytesLess_eq x y;have ht:=Zpj x y;have hn:∀ a:List UInt8,¬ a < a:=fun a=>List.lt_irrefl a;have has:x < y->¬ y < x:=fun h=>List.lt_asymm h
 go_enter Tryz.func201,Tryz.ntmps201
 go_wp2_with (go_at_call 244;refine(ZHx _ _).mono ?_;rintro e w' ⟨rfl,hw⟩;rw[hw])
 all_goals (go_ret;refine⟨?_,rfl⟩;unfold Zeo;rw[hb] at *;by_cases h1:x < y<;>by_cases h2:y < x<;>simp_all<;>exact absurd h2 (List.lt_irrefl _))
theorem Zxd (x y:List UInt8) (w:World):Calls Tryz.prog 150 #[encStr x,encStr y] w fun e w'=>e=.returned (.int .i64 (Zeo x y))/\w'=w:=by
 have e201:∀ args w,(callFunc 201 args).run Tryz.prog w=.ok (.enter 201 args) w:=enters_of Tryz.func201 (by kernel_rfl) rfl
 go_enter Tryz.func150,Tryz.ntmps150
 go_wp2_with (go_at_call 201;refine(ZEt _ _ _).mono ?_;rintro e w' ⟨rfl,hw⟩;rw[hw])
 go_ret
 exact⟨rfl,rfl⟩
theorem ZGD (blk off size:Nat) (w:World):CmpLays1 Tryz.prog 150 #[] encStr Zeo blk off size w:=fun m os dk hd x y=>
 (Zxd x y _).mono fun e w' ⟨he,hw⟩=>⟨he,0,#[],by rw[hw];simp[grow,World.drewN]⟩
theorem Zkp (x y:List UInt8):ltOf Zeo x y=decide (x < y):=by
 unfold ltOf Zeo;by_cases h1:x < y
 .simp[h1]
 .by_cases h2:y < x<;>simp[h1,h2]
theorem ZJV:SWO (ltOf Zeo) where
 irrefl x:=by rw[Zkp];exact decide_eq_false (List.lt_irrefl x)
 trans x y z h1 h2:=by rw[Zkp] at *;simp only[decide_eq_true_eq] at *;exact List.lt_trans h1 h2
 ntrans x y z h1 h2:=by
  rw[Zkp] at *;simp only[decide_eq_false_iff_not] at *;exact List.le_trans h2 h1
theorem ZDb {ss:List (List UInt8)} {d':Array (List UInt8)} (hp:PermIn 0 ss.toArray.size ss.toArray d') (hs:SortedIn (ltOf Zeo) 0 ss.toArray.size d'):d'=(ss.mergeSort fun x y=>decide (x<=y)).toArray:=by
 have hsz:d'.size=ss.length:=by simpa using hp.1
 have hperm:d'.toList.Perm ss:=by
  have h3:d'.toList.Perm (ss.take d'.size):=by simpa[<- hsz] using hp.2.2
  rwa [List.take_of_length_le (by omega)] at h3
 have hpw:d'.toList.Pairwise fun x y=>(decide (x<=y))=true:=by
  rw[List.pairwise_iff_getElem];intro i j hi hj hij;have hi':i < d'.size:=by simpa using hi
  have hj':j < d'.size:=by simpa using hj
  have:=hs i j (Nat.zero_le _) hij (by simpa[hsz] using hj');rw[Zkp,getElem!_pos d' j hj',getElem!_pos d' i hi'] at this;simp only[decide_eq_false_iff_not] at this;simp only[Array.getElem_toList,decide_eq_true_eq];exact this
 have h1:d'.toList.mergeSort (fun x y=>decide (x<=y))=d'.toList:=List.mergeSort_of_pairwise hpw;have h2:=mergeSort_of_perm hperm
 apply Array.ext'
 rw[<- h1];exact h2
theorem ZFX {g:FuncId} {args:List Value} {v:Value} {n:Nat} (hg:g < KV) (hc:Zb8 Tryz.prog g) (hx:∀ w:World,RVs (ι0 Tryz.prog.globals.size) args args) (hrun:∃ H',run Tryz.prog (fun _=>none) lvs n g args (List.replicate Tryz.prog.globals.size Zf.dead)=some (v,H')) (w:World) :
  Calls Tryz.prog g args.toArray w fun e w'=>∃ v',e=.returned v'/\Go.RowKit.Below w.heap.size w w':=by
 obtain⟨H',hrun⟩:=hrun;have hs:=ZcU (P:=Tryz.prog) (prim:=fun _=>none) (lvs:=lvs) (by kernel_rfl) (fun b g m h=>by cases h) n (b0 w) g args _ v H' hrun;rcases hs with⟨_,hC|⟨e,⟨fn',h1,_,h2,_⟩,_⟩⟩|⟨hno,_⟩
 .obtain⟨_,hC⟩:=hC;refine(hC (ι0 Tryz.prog.globals.size) w args ZJ1 (hx w)).mono fun e w' ⟨ι1,v',_,he,_,hS⟩=>⟨v',he,?_⟩;exact⟨hS.rest.1,hS.rest.2.1,hS.rest.2.2,hS.size,hS.old⟩
 .obtain⟨fn,h3,_,h4⟩:=hc;rw[h3] at h1;cases h1;rw[h4] at h2;cases h2
 .exact absurd hg (Nat.not_lt_of_le hno)
noncomputable abbrev R0 (n:Nat):Zc:=run Tryz.prog (fun _=>none) lvs n
section
variable {H:Zd} {n:Nat} {f:Value}
theorem ZI5:R0 (n+1) Jw [.slice none 0 0,iv 0,iv 0,f] H=some (.tuple #[],H):=by
 rw[R0,ZdV rfl];unfold Qh;have w1:IntKind.i64.wrap (0+1)=1:=w64 (by omega) (by omega);rw[Za ZG,w1];refine(Qk (j:=0) (vs:=[]) (H':=H) (ZZ ?_)).trans ?_
 .simp[Qh.l1,↓Qe,Qd,↓QF,Qn,Qq,Qr,↓Zb,Yc,Zg,YA,Qs,JK,QB,JJ,Jx,QV,JR,QW,QU,Q8,Q9,Qx,Zk,ZP,Kf,YO,Ju,QS,JU,ZG,QZ,JZ,Yg,J8,ZA,Zl,Zs,JB,Z0,Qu,JS,JX,Jc,J0,↓Kq,Ye,↓g_r,Kz,Bool.not_true,Bool.not_false,Bool.false_eq_true,Bool.true_eq_false,reduceIte,List.tail_cons,List.headD_cons,decide_true,decide_false,cond_true,cond_false,Nat.beq_refl,WM,Yi,ZT,ZY,ZL,QJ,YL,Wt,K7,WO,Kk,Kn,Kl,ZI,List.replicate,Zp,Zq,QG,Q7,QE,Zi,Yl,Qg,ZM]
 .rw[ZI];rfl
theorem ZJd {l:Value}:R0 (n+2) Q5 [.slice none 0 0,iv 0,iv 0,l,f] H=some (.tuple #[],H):=by
 have e1:run Tryz.prog (fun _=>none) lvs (n+1) Jw [.slice none 0 0,iv 0,iv 0,f] H=_:=ZI5;rw[R0,Zf5 rfl];unfold JF;refine(KG (v:=.tuple #[]) (H':=H) (Yu ?_)).trans rfl;have w1:IntKind.i64.wrap (0 - 0)=0:=w64 (by omega) (by omega);rw[Wt];unfold JF.l1;refine KG ?_;rw[Za QZ,w1,Za JB,Zb,if_pos (by simp),Za e1];rfl
theorem ZHF {s:ByteArray} {i:Nat} (hi:i < s.size) (q:IntKind) (H:Zd):∃ b:UInt8,ixs (.string s) (.int q i) H=some (.int .u8 b.toNat,H):=by
 refine⟨s[i],?_⟩;unfold ixs;simp only[Int.toNat_natCast];rw[if_pos (by omega),getElem?_pos s i hi]
set_option maxRecDepth 100000 in
theorem ZIA:∃ v,R0 (n+2) ZeZ [.int .u64 0] H=some (v,H):=by
 have e:∃ v,R0 (n+1) Zdv [.int .u64 0] H=some (v,H):=by
  rw[R0,Zqd rfl];unfold Zgj;have w1:IntKind.u8.wrap 0=((0:Nat):Int):=by rw[wu8];rfl
  generalize ht:(⟨#[0,1,2,2,3,3,3,3,4,4,4,4,4,4,4,4,5,5,5,5,5,5,5,5,5,5,5,5,5,5,5,5,6,6,6,6,6,6,6,6,6,6,6,6,6,6,6,6,6,6,6,6,6,6,6,6,6,6,6,6,6,6,6,6,7,7,7,7,7,7,7,7,7,7,7,7,7,7,7,7,7,7,7,7,7,7,7,7,7,7,7,7,7,7,7,7,7,7,7,7,7,7,7,7,7,7,7,7,7,7,7,7,7,7,7,7,7,7,7,7,7,7,7,7,7,7,7,7,8,8,8,8,8,8,8,8,8,8,8,8,8,8,8,8,8,8,8,8,8,8,8,8,8,8,8,8,8,8,8,8,8,8,8,8,8,8,8,8,8,8,8,8,8,8,8,8,8,8,8,8,8,8,8,8,8,8,8,8,8,8,8,8,8,8,8,8,8,8,8,8,8,8,8,8,8,8,8,8,8,8,8,8,8,8,8,8,8,8,8,8,8,8,8,8,8,8,8,8,8,8,8,8,8,8,8,8,8,8,8,8,8,8,8,8,8,8,8,8,8,8,8,8,8,8,8,8]⟩:ByteArray)=tab;have hs:tab.size=256:=by rw[<- ht];rfl
  obtain⟨b,hb⟩:=ZHF (s:=tab) (i:=0) (by omega) .u8 H;refine⟨iv (IntKind.i64.wrap (0+IntKind.i64.wrap b.toNat)),?_⟩;rw[Za Qu];refine(ZC (vs:=[.int .u64 0,iv 0]) (H':=H) (by rw[Zb,if_neg (by simp)];rfl)).trans ?_;rw[ZT,Za Qu];refine(ZC (vs:=[.int .u64 0,iv 0]) (H':=H) (by rw[Zb,if_neg (by simp)];rfl)).trans ?_;rw[ZT,Za Qu];refine(ZC (vs:=[.int .u64 0,iv 0]) (H':=H) (by rw[Zb,if_neg (by simp)];rfl)).trans ?_;rw[ZT,Za Qx,w1,Za hb,Za Qx,Za ZG];rfl
 obtain⟨v,e⟩:=e;refine⟨v,?_⟩;rw[R0,ZtB rfl];unfold Zie;rw[Zb,if_neg (by simp),Za e];rfl
theorem ZGW:R0 (n+3) W4 [.slice none 0 0,f] H=some (.tuple #[],H):=by
 obtain⟨v,e1⟩:=ZIA (n:=n) (H:=H);have e2:R0 (n+2) Q5 [.slice none 0 0,iv 0,iv 0,v,f] H=some (.tuple #[],H):=ZJd;rw[R0,ZfO rfl];unfold W5;have w1:IntKind.u64.wrap ((0:Nat):Int)=0:=by rw[ZuZ];rfl
 rw[Za Q8,Za Qx,w1,Za e1];refine(Za e2).trans rfl
end
theorem ZE2 (w:World):Calls Tryz.prog 207 #[.slice none 0 0,.func (.func 150) #[] #[]] w fun e w'=>∃ v',e=.returned v'/\Go.RowKit.Below w.heap.size w w':=
 ZFX (args:=[.slice none 0 0,.func (.func 150) #[] #[]]) (n:=3) (by decide) ⟨Tryz.f207,Tryz.func207,by kernel_rfl,by kernel_rfl⟩ (fun w=>.cons (.sc rfl) (.cons (.fn (fun l h=>by cases h) rfl (fun i hi=>by cases hi) rfl (fun i hi=>by cases hi)) .nil)) ⟨_,ZGW (n:=0)⟩ w
theorem Zi5 {gk:FuncId} (hg:∀ args w,(callFunc gk args).run Tryz.prog w=.ok (.enter gk args) w)
  (hseq:∀ (w:World) (Bm b:Nat) (es:Array MapEntry) (clock:Nat) (ks:List (List UInt8)),Bm < w.heap.size->w.cell? ⟨Bm,0,none⟩=some (.map (some b))->w.heap[b]?=some (.map es clock)->es.toList.map (·.key)=ks.map strv->Go.MapKept.Stamped es clock->
   (∀ k∈ks,k.length<=1000000)->ks.length<=1000000->SeqGives Fence.wide 3 Tryz.prog gk #[.pointer (some ⟨Bm,0,none⟩)] encStr (fun ss=>ss.Perm ks) ks.length w):Zjl Tryz.prog 157 gk 150 where
 c:=⟨Tryz.f157,Tryz.func157,by kernel_rfl,by kernel_rfl⟩
 run:=fun w Bm b es clock ks hB hc hb hk hst hl hf=>by
  have e207:∀ args w,(callFunc 207 args).run Tryz.prog w=.ok (.enter 207 args) w:=enters_of Tryz.func207 (by kernel_rfl) rfl;have e150:∀ args w,(callFunc 150 args).run Tryz.prog w=.ok (.enter 150 args) w:=enters_of Tryz.func150 (by kernel_rfl) rfl;have hmax:ks.length<=maxLen:=Nat.le_trans hf (by decide);have cC:=AnyZ.collect_in Tryz.collA Fence.wide 5 trivial trivial rfl (by omega) gk #[.pointer (some ⟨Bm,0,none⟩)] trivial hg _ _ hmax (by omega) w (hseq w Bm b es clock ks hB hc hb hk hst hl hf);have cC:=(callsIn_wide (n:=5)).1 cC;change Calls Tryz.prog 206 _ _ _ at cC
  go_enter Tryz.func157,Tryz.ntmps157
  go_wp2_with (go_at_call 206;refine cC.mono ?_;rintro e W ⟨v,ss,rfl,hS,hrow,hnil,hbl⟩)
  have hlen:ss.length=ks.length:=hS.length_eq;rcases hrow.2 with⟨rfl,hz⟩|⟨gb,cap,cur,rfl,hbase,hgb,r1,r2,r3,r4⟩
  .have hss:ss=[]:=List.eq_nil_of_length_eq_zero hz
   go_wp2_with (go_at_call 207;refine(ZE2 W).mono ?_;rintro e w' ⟨v',rfl,hb2⟩)
   go_ret
   have hks:ks=[]:=List.eq_nil_of_length_eq_zero (by rw[<- hlen,hss];rfl);subst hks;exact⟨_,0,rfl,⟨by simp[ZN],.inl ⟨rfl,rfl⟩⟩,by simp,hbl.trans (hb2.mono (by have:=hbl.size;omega))⟩
  .have hH:Holds encStr W gb 0 ss.toArray:=holds_of_block hgb (by simpa using r4);have hgl:gb < W.heap.size:=(Array.getElem?_eq_some_iff.1 hgb).1;have cS:=Any.slices_SortFunc Tryz.sortA encStr (fun _=>rfl) Zeo ZJV 150 #[] gb 0 cap ss.toArray W e150 (ZGD gb 0 _ W) hH hgl (by simp;omega);change Calls Tryz.prog 207 #[.slice (some ⟨gb,0,none⟩) ss.length cap,.func (.func 150) #[] #[]] W _ at cS
   go_wp2_with (go_at_call 207;refine cS.mono ?_;rintro e w' ⟨rfl,d',nn,os,hp,hs,rfl⟩)
   go_ret
   have hd:=ZDb hp hs;subst hd;have hks:ZN ks=ss.mergeSort (fun x y=>decide (x<=y)):=(mergeSort_of_perm hS).symm;rw[<- hlen,hks];exact⟨_,_,rfl,ownsRow_sorted (by simp) hbase hgb r1 r2 r3,hnil.trans ⟨fun h=>List.eq_nil_of_length_eq_zero (by rw[<- hlen,h];rfl),fun h=>List.eq_nil_of_length_eq_zero (by rw[hlen,h];rfl)⟩,hbl.grown (grownBy_sorted _) hbl.size (fun j hj=>by cases hj;exact hbase)⟩
section
variable {H:Type}
def ZxR (v:Value):Option (DataW H × List MemPlace):=some (.nil,[])
theorem own_of {P:Program} {k:TypeId} (hk:P.underlying k=some .string) {w:World} {b clock:Nat} {es:Array MapEntry} {ks:List (List UInt8)} (hb:w.heap[b]?=some (.map es clock)) (hks:es.toList.map (·.key)=ks.map strv) (hst:Go.MapKept.Stamped es clock)
  (hl:∀ k∈ks,k.length<=1000000) (hf:ks.length<=1000000):∃ D0:DataW H,w.ownsMap P k ZxR b ks.length D0/\ks.Perm (strKeys D0)/\Maps.size D0=ks.length:=by
 have hsz:es.size=ks.length:=by
  have:=congrArg List.length hks;simpa using this
 have hrd:∀ (x:MapEntry) (s:List UInt8),x.key=strv s->s.length<=1000000->Go.WideElems.rd (H:=H) P k ZxR x=some (.string s,.nil):=fun x s hs hlen=>by
  have h1:(⟨s.toArray⟩:ByteArray).size<=maxLen:=Nat.le_trans (by simpa[ByteArray.size] using hlen) (by decide);simp[Go.WideElems.rd,hs,keyOf,hk,mapKey,ZxR,h1,strv]
 have hmap:∀ (l:List MapEntry) (q:List (List UInt8)),l.map (·.key)=q.map strv->(∀ s∈q,s.length<=1000000)->l.map (Go.WideElems.rg (H:=H) P k ZxR)=q.map fun s=>(Lit.string s,DataW.nil):=by
  intro l
  induction l with
  | nil=>intro q h _;cases q with|nil=>rfl|cons a q=>simp at h
  | cons x l ih=>
   intro q h hq;cases q with
   | nil=>simp at h
   | cons a q=>
    simp only[List.map_cons,List.cons.injEq] at h;rw[List.map_cons,List.map_cons,ih q h.2 (fun s hs=>hq s (List.mem_cons_of_mem _ hs))]
    congr 1
    unfold Go.WideElems.rg;rw[hrd x a h.1 (hq a (by simp))];rfl
 refine⟨.map ((es.toList.map (Go.WideElems.rg P k ZxR)).foldr DataW.insert []),⟨es,clock,hb,⟨by rw[hsz];exact Nat.le_trans hf (by decide),hst,fun x hx=>?_⟩,by omega,rfl⟩,?_,?_⟩
 .have:x.key∈ks.map strv:=by rw[<- hks];exact List.mem_map.2 ⟨x,hx,rfl⟩
  obtain⟨s,h1,h2⟩:=List.mem_map.1 this;exact⟨_,hrd x s h2.symm (hl s h1)⟩
 .rw[hmap _ _ hks hl];have h1:=(Go.WideShapes.sorted_perm (H:=H) (ks.map fun s=>(Lit.string s,DataW.nil))).map fun p=>Go.strOf p.1;have h2:(ks.map fun s=>(Lit.string s,(DataW.nil:DataW H))).map (fun p=>Go.strOf p.1)=ks:=by
   rw[List.map_map];exact(List.map_congr_left fun a _=>rfl).trans (List.map_id ks)
  rw[h2] at h1;exact h1.symm
 .rw[hmap _ _ hks hl];have:=(Go.WideShapes.sorted_perm (H:=H) (ks.map fun s=>(Lit.string s,DataW.nil))).length_eq;rw[List.length_map] at this;exact this
end
theorem ZmC {g Bm n:Nat} {ks ks':List (List UInt8)} {w:World} (h:SeqGives Fence.wide 3 Tryz.prog g #[.pointer (some ⟨Bm,0,none⟩)] encStr (fun ss=>ss.Perm ks') n w) (hn:n=ks.length) (hp:ks.Perm ks'):SeqGives Fence.wide 3 Tryz.prog g #[.pointer (some ⟨Bm,0,none⟩)] encStr (fun ss=>ss.Perm ks) ks.length w:=by
 subst hn;intro l J W hW hJ hY h0;refine(h l J W hW hJ hY h0).mono fun e w' ⟨h1,xs,h2,h3⟩=>⟨h1,xs,h2.trans hp.symm,h3⟩
theorem keysA:Zjl Tryz.prog 157 208 150:=Zi5 (enters_of Tryz.func208 (by kernel_rfl) rfl) fun w Bm b es clock ks hB hc hb hk hst hl hf=>by
 obtain⟨D0,hown,hp,hs⟩:=own_of (H:=Unit) (P:=Tryz.prog) (k:=Tryz.keysA_ren.t 26) (by kernel_rfl) hb hk hst hl hf;exact ZmC (AnyZ.keys_gives (ρ:=Tryz.keysA_ren) { Tryz.keysA with } Fence.wide 3 trivial rfl (by omega) Bm b ks.length D0 w hB hc hown) hs hp
theorem keysB:Zjl Tryz.prog 157 214 150:=Zi5 (enters_of Tryz.func214 (by kernel_rfl) rfl) fun w Bm b es clock ks hB hc hb hk hst hl hf=>by
 obtain⟨D0,hown,hp,hs⟩:=own_of (H:=Unit) (P:=Tryz.prog) (k:=Tryz.keysB_ren.t 26) (by kernel_rfl) hb hk hst hl hf;exact ZmC (AnyZ.keys_gives (ρ:=Tryz.keysB_ren) { Tryz.keysB with } Fence.wide 3 trivial rfl (by omega) Bm b ks.length D0 w hB hc hown) hs hp
theorem keysC:Zjl Tryz.prog 157 249 150:=Zi5 (enters_of Tryz.func249 (by kernel_rfl) rfl) fun w Bm b es clock ks hB hc hb hk hst hl hf=>by
 obtain⟨D0,hown,hp,hs⟩:=own_of (H:=Unit) (P:=Tryz.prog) (k:=Tryz.keysC_ren.t 26) (by kernel_rfl) hb hk hst hl hf;exact ZmC (AnyZ.keys_gives (ρ:=Tryz.keysC_ren) { Tryz.keysC with } Fence.wide 3 trivial rfl (by omega) Bm b ks.length D0 w hB hc hown) hs hp
theorem keysD:Zjl Tryz.prog 157 273 150:=Zi5 (enters_of Tryz.func273 (by kernel_rfl) rfl) fun w Bm b es clock ks hB hc hb hk hst hl hf=>by
 obtain⟨D0,hown,hp,hs⟩:=own_of (H:=Unit) (P:=Tryz.prog) (k:=Tryz.keysD_ren.t 26) (by kernel_rfl) hb hk hst hl hf;exact ZmC (AnyZ.keys_gives (ρ:=Tryz.keysD_ren) { Tryz.keysD with } Fence.wide 3 trivial rfl (by omega) Bm b ks.length D0 w hB hc hown) hs hp
abbrev Zpp:Nat:=208
abbrev ZcF:List Nat:=[208,214,249,273]
noncomputable def np0:Nat->Option (List Value->M Value)
 | 94=>some ZbU
 | 95=>some ZbU
 | 146=>some ZbU
 | 97=>some Zlt
 | 157=>some (Zb2 ZcF Z6)
 | 287=>some ZmQ
 | 285=>some Zmo
 | _=>none
theorem Zpy (w0:Qc):∀ g m,np0 g=some m->Zbn Tryz.prog Tryz.prog.globals.size w0 g m:=by
 intro g m h;unfold np0 at h;split at h
 .cases h;exact Zk8 clA
 .cases h;exact Zk8 clB
 .cases h;exact Zk8 clC
 .cases h;exact ZCy (ZIu clC)
 .cases h;exact ZAL (by simp) fun gk hg=>by
   simp only[List.mem_cons,List.not_mem_nil,or_false] at hg;rcases hg with rfl|rfl|rfl|rfl
   .exact keysA
   .exact keysB
   .exact keysC
   .exact keysD
 .cases h;exact(ZCe ⟨Tryz.f287,Tryz.func287,by kernel_rfl,by kernel_rfl,by kernel_rfl,by kernel_rfl⟩)
 .cases h;exact(ZCf ⟨Tryz.f285,Tryz.func285,by kernel_rfl,by kernel_rfl,by kernel_rfl,by kernel_rfl⟩)
 .cases h
end
def ZtO (gks:List FuncId) (gc:FuncId) (args:List Value):M Value:=fun H=>
 match args with
 | [.func (.func gk) a b,.func (.func g2) a2 b2]=>match a.toList,b.toList,a2.toList,b2.toList with
  | [],[.pointer (some ⟨c,0,none⟩)],[],[]=>bif gks.any (Nat.beq gk) && Nat.beq g2 gc then(match H[c]? with
   | some (.cells [.map (some id)] _ false false)=>(match H[id]? with
    | some (.map [] _)=>some (.slice none 0 0,H)
    | _=>none)
   | _=>none) else none
  | _,_,_,_=>none
 | _=>none
theorem ZB7 {gks:List FuncId} {gc:FuncId} {args:List Value}:Ref (ZtO gks gc args) (Zb2 gks gc args):=by
 intro H x h;unfold ZtO at h;split at h
 .rename_i gk a b g2 a2 b2;split at h
  .rename_i c h1 h2 h3 h4;have e1:a=#[]:=by apply Array.ext';exact h1
   have e2:b=#[pt c]:=by apply Array.ext';exact h2
   have e3:a2=#[]:=by apply Array.ext';exact h3
   have e4:b2=#[]:=by apply Array.ext';exact h4
   subst e1;subst e2;subst e3;subst e4;cases hb:(gks.any (Nat.beq gk) && Nat.beq g2 gc) with
   | false=>rw[hb] at h;cases h
   | true=>
    rw[hb] at h;simp only[Bool.and_eq_true] at hb;obtain⟨hb1,hb2⟩:=hb;have:=Nat.eq_of_beq_eq_true hb2;subst this;obtain⟨u,hu,hbq⟩:=List.any_eq_true.1 hb1;have:=Nat.eq_of_beq_eq_true hbq;subst this;simp only[cond_true] at h;split at h
    .rename_i id es hc;split at h
     .rename_i clk hid;cases h;rw[Zr8 (es:=[]) (ks:=[]) hu hc ⟨rfl,List.nodup_nil,by simp,by simp⟩ (.inl ⟨clk,hid,by simp,by simp⟩)];rfl
     .cases h
    .cases h
  .cases h
 .cases h
noncomputable def npC:Nat->Option (List Value->M Value):=fun g=>
 match np0 g with
 | none=>none
 | some m=>bif Nat.beq g ZR then some (ZtO ZcF Z6) else some fun _=>fail
def gl:List Zf:=[.cells (signsG.map fun s=>.string ⟨s.toArray⟩) 1 false true,.dead,.dead,.dead]
where signsG:List (List UInt8):=[[97,98],[97],[97,98],[97],[97],[97,98],[97],[97],[97,98],[97],[97],[97,98],[97,98],[97],[97],[],[110,114]]
def ans (x:Option (Value × Zd)):Nat:=match x with
 | some (.bool true,_)=>1
 | some (.bool false,_)=>2
 | some _=>3
 | none=>0
theorem ZGg {x:Option (Value × Zd)} (h:ans x=1):∃ H1,x=some (.bool true,H1):=by
 unfold ans at h;split at h
 .exact⟨_,rfl⟩
 all_goals simp at h
theorem ZEb:np0 ZR=some (Zb2 ZcF Z6):=rfl
theorem ZI8:ZI7 npC np0:=by
 intro g;cases h:np0 g with
 | none=>left;exact⟨by unfold npC;rw[h],rfl⟩
 | some m=>
  right
  cases e:Nat.beq g ZR with
  | true=>
   have:=Nat.eq_of_beq_eq_true e;subst this;refine⟨ZtO ZcF Z6,m,by unfold npC;rw[h];rfl,rfl,fun _=>?_⟩;have:Zb2 ZcF Z6=m:=Option.some.inj (ZEb.symm.trans h);rw[<- this];exact ZB7
  | false=>exact⟨fun _=>fail,m,by unfold npC;rw[h];simp only[e,cond_false],rfl,fun _=>Ref.fail⟩
theorem gl_plain:Zlp gl:=by
 intro g o h
 match g,h with
 | 0,h=>
  cases h;refine .inr ⟨_,_,_,rfl,fun v hv=>?_⟩;obtain⟨s,_,rfl⟩:=List.mem_map.1 hv;rfl
 | 1,h=>cases h;exact .inl rfl
 | 2,h=>cases h;exact .inl rfl
 | 3,h=>cases h;exact .inl rfl
 | g+4,h=>simp[gl] at h
theorem Zhu {g:FuncId} (h:ans (ZpD Tryz.prog npC lvs 1000 60 g [] gl)=1) (hgy:g < KV) (hbody:∀ fn,Tryz.prog.funcs[g]?=some fn->fn.body.isNone=false) (w0:Qc):Zbn Tryz.prog Tryz.prog.globals.size w0 g (Zj5 gl (.bool true)):=by
 obtain⟨H1,h1⟩:=ZGg h;exact Zz5 (P:=Tryz.prog) (by kernel_rfl) Zpy rfl gl_plain hgy hbody (v:=.bool true) rfl (n:=60) ⟨H1,Zj4 ZI8 1000 60 g [] gl _ h1⟩ w0
theorem ZGJ {H:Zd} (h:H.take gl.length=gl):Zj5 gl (.bool true) [] H=some (.bool true,H):=by
 unfold Zj5;rw[if_pos ⟨rfl,h⟩]
def sgk (k:Nat):List UInt8:=gl.signsG.getD k []
def Zxz (k:Nat) (a b:ByteArray) (nd rl:Int):Value:=
 .agg #[.int .u8 k,.string (if(sgk k).contains 97 then a else⟨#[]⟩),.string (if(sgk k).contains 98 then b else⟨#[]⟩),.int .u8 (if(sgk k).contains 110 then nd else 0),.int .u8 (if(sgk k).contains 114 then rl else 0)]
set_option maxRecDepth 1000000 in
theorem ZIZ:∀ k,k < 17->∀ (a b:ByteArray) (nd rl:Int),(ZpD Tryz.prog npC lvs 100 30 Za0 [.agg #[.int .u8 (k:Nat),.string a,.string b,.int .u8 nd,.int .u8 rl]] gl).map Prod.fst=some (Zxz k a b nd rl)
 | 0,_,a,b,nd,rl=>by kernel_rfl
 | 1,_,a,b,nd,rl=>by kernel_rfl
 | 2,_,a,b,nd,rl=>by kernel_rfl
 | 3,_,a,b,nd,rl=>by kernel_rfl
 | 4,_,a,b,nd,rl=>by kernel_rfl
 | 5,_,a,b,nd,rl=>by kernel_rfl
 | 6,_,a,b,nd,rl=>by kernel_rfl
 | 7,_,a,b,nd,rl=>by kernel_rfl
 | 8,_,a,b,nd,rl=>by kernel_rfl
 | 9,_,a,b,nd,rl=>by kernel_rfl
 | 10,_,a,b,nd,rl=>by kernel_rfl
 | 11,_,a,b,nd,rl=>by kernel_rfl
 | 12,_,a,b,nd,rl=>by kernel_rfl
 | 13,_,a,b,nd,rl=>by kernel_rfl
 | 14,_,a,b,nd,rl=>by kernel_rfl
 | 15,_,a,b,nd,rl=>by kernel_rfl
 | 16,_,a,b,nd,rl=>by kernel_rfl
 | k+17,h,_,_,_,_=>absurd h (by omega)
def ZtN (args:List Value):Option Value:=
 match args with
 | [.agg cs]=>match cs.toList with
  | [.int .u8 k,.string a,.string b,.int .u8 nd,.int .u8 rl]=>if 0<=k/\k < 17 then some (Zxz k.toNat a b nd rl) else none
  | _=>none
 | _=>none
theorem ZCB (w0:Qc):Zbn Tryz.prog Tryz.prog.globals.size w0 Za0 (Zjn gl ZtN):=by
 refine ZzF (P:=Tryz.prog) (prim:=np0) (lvs:=lvs) (by kernel_rfl) Zpy rfl gl_plain (by decide) (fun fn hf=>by cases (Tryz.func41.symm.trans hf);rfl) (fun args v h=>?_) w0;unfold ZtN at h;split at h
 .rename_i cs;split at h
  .rename_i k a b nd rl hcs;split at h
   .rename_i hk;cases h;have ec:cs=#[.int .u8 k,.string a,.string b,.int .u8 nd,.int .u8 rl]:=by apply Array.ext';exact hcs
    subst ec;obtain⟨m,rfl⟩:∃ m:Nat,k=(m:Int):=⟨k.toNat,(Int.toNat_of_nonneg hk.1).symm⟩;have hm:m < 17:=by have:=hk.2;omega
    refine⟨fun x hx=>?_,rfl,?_⟩
    .simp only[List.mem_singleton] at hx;subst hx;rfl
    .have hb:=ZIZ m hm a b nd rl;obtain⟨r,hr,hv⟩:=Option.map_eq_some_iff.1 hb;refine⟨30,r.2,?_⟩;have:=Zj4 ZI8 100 30 Za0 [.agg #[.int .u8 (m:Nat),.string a,.string b,.int .u8 nd,.int .u8 rl]] gl r hr;rw[Int.toNat_natCast,<- hv];exact this
   .cases h
  .cases h
 .cases h
set_option maxRecDepth 1000000 in
theorem ZGL:ans (ZpD Tryz.prog npC lvs 1000 60 Yv [] gl)=1:=by kernel_rfl
noncomputable def np:Nat->Option (List Value->M Value):=fun g=>
 bif Nat.beq g Yv then some (Zj5 gl (.bool true)) else bif Nat.beq g Za0 then some (Zjn gl ZtN) else np0 g
theorem np_sound (w0:Qc) (g:FuncId) (m:List Value->M Value) (h:np g=some m):Zbn Tryz.prog Tryz.prog.globals.size w0 g m:=by
 unfold np at h;cases e:Nat.beq g Yv with
 | true=>
  rw[e] at h;have:=Nat.eq_of_beq_eq_true e;subst this;cases h;exact Zhu ZGL (by decide) (fun fn hf=>by cases (Tryz.func9.symm.trans hf);rfl) w0
 | false=>
  rw[e] at h;simp only[cond_false] at h;cases e2:Nat.beq g Za0 with
  | true=>
   rw[e2] at h;have:=Nat.eq_of_beq_eq_true e2;subst this;cases h;exact ZCB w0
  | false=>rw[e2] at h;exact Zpy w0 g m h
noncomputable abbrev R (n:Nat):Zc:=run Tryz.prog np lvs n
abbrev u8v (b:UInt8):Value:=.int .u8 b.toNat
def Za9 (b:UInt8):Bool:=decide (97<=b.toNat) && decide (b.toNat<=122)
def ZdZ (b:UInt8):Bool:=decide (48<=b.toNat) && decide (b.toNat<=57)
def Zi6 (b:UInt8):Bool:=Za9 b || (ZdZ b || (decide (b.toNat=45) || decide (b.toNat=46)))
def Zvi (b:UInt8):Bool:=ZdZ b || (decide (97<=b.toNat) && decide (b.toNat<=102))
def Zhz (b:UInt8):Bool:=Za9 b || ZdZ b
def Zw (s:List UInt8):Bool:=decide (1<=s.length) && decide (s.length<=12) && s.all Zi6 && Za9 (s.getD 0 0) && Zhz (s.getD (s.length - 1) 0)
def Zja (s:List UInt8):Bool:=decide (s.length<=12) && s.all Zi6
def K9 (s:List UInt8):Bool:=decide (1<=s.length) && decide (s.length<=12) && s.all Zvi
section
variable {H:Zd} {n:Nat} {b:UInt8} {s:List UInt8}
theorem Zum {i:Nat} {x:UInt8} (hi:s[i]?=some x) (q:IntKind) (H:Zd):ixs (strv s) (.int q i) H=some (u8v x,H):=by
 have hlt:i < s.length:=(List.getElem?_eq_some_iff.1 hi).1;have hx:s[i]=x:=(List.getElem?_eq_some_iff.1 hi).2;have hs:i < (⟨s.toArray⟩:ByteArray).size:=by simpa[ByteArray.size] using hlt
 unfold ixs strv;simp only[Int.toNat_natCast];rw[if_pos (by omega),getElem?_pos (⟨s.toArray⟩:ByteArray) i hs];have:(⟨s.toArray⟩:ByteArray)[i]=x:=by rw[<- hx];rfl
 rw[this]
theorem Zmt:R (n+1) Ko [u8v b] H=some (.bool (Za9 b),H):=by
 rw[R,Zu1 rfl];unfold Za9;by_cases h1:(97:Int)<=b.toNat
 .have h1':97<=b.toNat:=by omega
  by_cases h2:(b.toNat:Int)<=122
  .have h2':b.toNat<=122:=by omega
   simp[ZdG,↓Qe,Qd,↓QF,Qn,Qq,Qr,↓Zb,Yc,Zg,YA,Qs,JK,QB,JJ,Jx,QV,JR,QW,QU,Q8,Q9,Qx,Zk,ZP,Kf,YO,Ju,QS,JU,ZG,QZ,JZ,Yg,J8,ZA,Zl,Zs,JB,Z0,Qu,JS,JX,Jc,J0,↓Kq,Ye,↓g_r,Kz,Bool.not_true,Bool.not_false,Bool.false_eq_true,Bool.true_eq_false,reduceIte,List.tail_cons,List.headD_cons,decide_true,decide_false,cond_true,cond_false,Nat.beq_refl,WM,Yi,ZT,ZY,ZL,QJ,YL,Wt,K7,WO,Kk,Kn,Kl,ZI,List.replicate,Zp,Zq,QG,Q7,QE,Zi,Yl,Qg,ZM,h1,h2,h1',h2']
  .have h2':¬ b.toNat<=122:=by omega
   simp[ZdG,↓Qe,Qd,↓QF,Qn,Qq,Qr,↓Zb,Yc,Zg,YA,Qs,JK,QB,JJ,Jx,QV,JR,QW,QU,Q8,Q9,Qx,Zk,ZP,Kf,YO,Ju,QS,JU,ZG,QZ,JZ,Yg,J8,ZA,Zl,Zs,JB,Z0,Qu,JS,JX,Jc,J0,↓Kq,Ye,↓g_r,Kz,Bool.not_true,Bool.not_false,Bool.false_eq_true,Bool.true_eq_false,reduceIte,List.tail_cons,List.headD_cons,decide_true,decide_false,cond_true,cond_false,Nat.beq_refl,WM,Yi,ZT,ZY,ZL,QJ,YL,Wt,K7,WO,Kk,Kn,Kl,ZI,List.replicate,Zp,Zq,QG,Q7,QE,Zi,Yl,Qg,ZM,h1,h2,h1',h2']
 .have h1':¬ 97<=b.toNat:=by omega
  simp[ZdG,↓Qe,Qd,↓QF,Qn,Qq,Qr,↓Zb,Yc,Zg,YA,Qs,JK,QB,JJ,Jx,QV,JR,QW,QU,Q8,Q9,Qx,Zk,ZP,Kf,YO,Ju,QS,JU,ZG,QZ,JZ,Yg,J8,ZA,Zl,Zs,JB,Z0,Qu,JS,JX,Jc,J0,↓Kq,Ye,↓g_r,Kz,Bool.not_true,Bool.not_false,Bool.false_eq_true,Bool.true_eq_false,reduceIte,List.tail_cons,List.headD_cons,decide_true,decide_false,cond_true,cond_false,Nat.beq_refl,WM,Yi,ZT,ZY,ZL,QJ,YL,Wt,K7,WO,Kk,Kn,Kl,ZI,List.replicate,Zp,Zq,QG,Q7,QE,Zi,Yl,Qg,ZM,h1,h1']
theorem Zp7:R (n+1) KW [u8v b] H=some (.bool (ZdZ b),H):=by
 rw[R,Zxs rfl];unfold ZdZ;by_cases h1:(48:Int)<=b.toNat
 .have h1':48<=b.toNat:=by omega
  by_cases h2:(b.toNat:Int)<=57
  .have h2':b.toNat<=57:=by omega
   simp[ZeL,↓Qe,Qd,↓QF,Qn,Qq,Qr,↓Zb,Yc,Zg,YA,Qs,JK,QB,JJ,Jx,QV,JR,QW,QU,Q8,Q9,Qx,Zk,ZP,Kf,YO,Ju,QS,JU,ZG,QZ,JZ,Yg,J8,ZA,Zl,Zs,JB,Z0,Qu,JS,JX,Jc,J0,↓Kq,Ye,↓g_r,Kz,Bool.not_true,Bool.not_false,Bool.false_eq_true,Bool.true_eq_false,reduceIte,List.tail_cons,List.headD_cons,decide_true,decide_false,cond_true,cond_false,Nat.beq_refl,WM,Yi,ZT,ZY,ZL,QJ,YL,Wt,K7,WO,Kk,Kn,Kl,ZI,List.replicate,Zp,Zq,QG,Q7,QE,Zi,Yl,Qg,ZM,h1,h2,h1',h2']
  .have h2':¬ b.toNat<=57:=by omega
   simp[ZeL,↓Qe,Qd,↓QF,Qn,Qq,Qr,↓Zb,Yc,Zg,YA,Qs,JK,QB,JJ,Jx,QV,JR,QW,QU,Q8,Q9,Qx,Zk,ZP,Kf,YO,Ju,QS,JU,ZG,QZ,JZ,Yg,J8,ZA,Zl,Zs,JB,Z0,Qu,JS,JX,Jc,J0,↓Kq,Ye,↓g_r,Kz,Bool.not_true,Bool.not_false,Bool.false_eq_true,Bool.true_eq_false,reduceIte,List.tail_cons,List.headD_cons,decide_true,decide_false,cond_true,cond_false,Nat.beq_refl,WM,Yi,ZT,ZY,ZL,QJ,YL,Wt,K7,WO,Kk,Kn,Kl,ZI,List.replicate,Zp,Zq,QG,Q7,QE,Zi,Yl,Qg,ZM,h1,h2,h1',h2']
 .have h1':¬ 48<=b.toNat:=by omega
  simp[ZeL,↓Qe,Qd,↓QF,Qn,Qq,Qr,↓Zb,Yc,Zg,YA,Qs,JK,QB,JJ,Jx,QV,JR,QW,QU,Q8,Q9,Qx,Zk,ZP,Kf,YO,Ju,QS,JU,ZG,QZ,JZ,Yg,J8,ZA,Zl,Zs,JB,Z0,Qu,JS,JX,Jc,J0,↓Kq,Ye,↓g_r,Kz,Bool.not_true,Bool.not_false,Bool.false_eq_true,Bool.true_eq_false,reduceIte,List.tail_cons,List.headD_cons,decide_true,decide_false,cond_true,cond_false,Nat.beq_refl,WM,Yi,ZT,ZY,ZL,QJ,YL,Wt,K7,WO,Kk,Kn,Kl,ZI,List.replicate,Zp,Zq,QG,Q7,QE,Zi,Yl,Qg,ZM,h1,h1']
theorem Zrg {a b:Nat}:((a:Int)==(b:Int))=decide (a=b):=by
 rw[Bool.eq_iff_iff,beq_iff_eq,decide_eq_true_eq];omega
theorem ZI9:R (n+2) Zea [u8v b] H=some (.bool (Zi6 b),H):=by
 have e1:run Tryz.prog np lvs (n+1) Ko [u8v b] H=some (.bool (Za9 b),H):=Zmt;have e2:run Tryz.prog np lvs (n+1) KW [u8v b] H=some (.bool (ZdZ b),H):=Zp7;have q1:((b.toNat:Int)==45)=decide (b.toNat=45):=Zrg (b:=45);have q2:((b.toNat:Int)==46)=decide (b.toNat=46):=Zrg (b:=46);rw[R,Zx1 rfl];unfold Zi6;generalize Za9 b=p at e1 ⊢;generalize ZdZ b=q at e2 ⊢;cases p<;>cases q<;>cases h3:decide (b.toNat=45)<;>simp[Zl9,↓Qe,Qd,↓QF,Qn,Qq,Qr,↓Zb,Yc,Zg,YA,Qs,JK,QB,JJ,Jx,QV,JR,QW,QU,Q8,Q9,Qx,Zk,ZP,Kf,YO,Ju,QS,JU,ZG,QZ,JZ,Yg,J8,ZA,Zl,Zs,JB,Z0,Qu,JS,JX,Jc,J0,↓Kq,Ye,↓g_r,Kz,Bool.not_true,Bool.not_false,Bool.false_eq_true,Bool.true_eq_false,reduceIte,List.tail_cons,List.headD_cons,decide_true,decide_false,cond_true,cond_false,Nat.beq_refl,WM,Yi,ZT,ZY,ZL,QJ,YL,Wt,K7,WO,Kk,Kn,Kl,ZI,List.replicate,Zp,Zq,QG,Q7,QE,Zi,Yl,Qg,ZM,e1,e2,q1,q2,h3]<;>(cases h4:decide (b.toNat=46)<;>simp_all)
theorem ZJC:R (n+2) ZeJ [u8v b] H=some (.bool (Zvi b),H):=by
 have e2:run Tryz.prog np lvs (n+1) KW [u8v b] H=some (.bool (ZdZ b),H):=Zp7;rw[R,ZwR rfl];unfold Zvi;generalize ZdZ b=q at e2 ⊢;cases q
 .by_cases h1:(97:Int)<=b.toNat
  .have h1':97<=b.toNat:=by omega
   by_cases h2:(b.toNat:Int)<=102
   .have h2':b.toNat<=102:=by omega
    simp[Zdf,↓Qe,Qd,↓QF,Qn,Qq,Qr,↓Zb,Yc,Zg,YA,Qs,JK,QB,JJ,Jx,QV,JR,QW,QU,Q8,Q9,Qx,Zk,ZP,Kf,YO,Ju,QS,JU,ZG,QZ,JZ,Yg,J8,ZA,Zl,Zs,JB,Z0,Qu,JS,JX,Jc,J0,↓Kq,Ye,↓g_r,Kz,Bool.not_true,Bool.not_false,Bool.false_eq_true,Bool.true_eq_false,reduceIte,List.tail_cons,List.headD_cons,decide_true,decide_false,cond_true,cond_false,Nat.beq_refl,WM,Yi,ZT,ZY,ZL,QJ,YL,Wt,K7,WO,Kk,Kn,Kl,ZI,List.replicate,Zp,Zq,QG,Q7,QE,Zi,Yl,Qg,ZM,e2,h1,h2,h1',h2']
   .have h2':¬ b.toNat<=102:=by omega
    simp[Zdf,↓Qe,Qd,↓QF,Qn,Qq,Qr,↓Zb,Yc,Zg,YA,Qs,JK,QB,JJ,Jx,QV,JR,QW,QU,Q8,Q9,Qx,Zk,ZP,Kf,YO,Ju,QS,JU,ZG,QZ,JZ,Yg,J8,ZA,Zl,Zs,JB,Z0,Qu,JS,JX,Jc,J0,↓Kq,Ye,↓g_r,Kz,Bool.not_true,Bool.not_false,Bool.false_eq_true,Bool.true_eq_false,reduceIte,List.tail_cons,List.headD_cons,decide_true,decide_false,cond_true,cond_false,Nat.beq_refl,WM,Yi,ZT,ZY,ZL,QJ,YL,Wt,K7,WO,Kk,Kn,Kl,ZI,List.replicate,Zp,Zq,QG,Q7,QE,Zi,Yl,Qg,ZM,e2,h1,h2,h1',h2']
  .have h1':¬ 97<=b.toNat:=by omega
   simp[Zdf,↓Qe,Qd,↓QF,Qn,Qq,Qr,↓Zb,Yc,Zg,YA,Qs,JK,QB,JJ,Jx,QV,JR,QW,QU,Q8,Q9,Qx,Zk,ZP,Kf,YO,Ju,QS,JU,ZG,QZ,JZ,Yg,J8,ZA,Zl,Zs,JB,Z0,Qu,JS,JX,Jc,J0,↓Kq,Ye,↓g_r,Kz,Bool.not_true,Bool.not_false,Bool.false_eq_true,Bool.true_eq_false,reduceIte,List.tail_cons,List.headD_cons,decide_true,decide_false,cond_true,cond_false,Nat.beq_refl,WM,Yi,ZT,ZY,ZL,QJ,YL,Wt,K7,WO,Kk,Kn,Kl,ZI,List.replicate,Zp,Zq,QG,Q7,QE,Zi,Yl,Qg,ZM,e2,h1,h1']
 .simp[Zdf,↓Qe,Qd,↓QF,Qn,Qq,Qr,↓Zb,Yc,Zg,YA,Qs,JK,QB,JJ,Jx,QV,JR,QW,QU,Q8,Q9,Qx,Zk,ZP,Kf,YO,Ju,QS,JU,ZG,QZ,JZ,Yg,J8,ZA,Zl,Zs,JB,Z0,Qu,JS,JX,Jc,J0,↓Kq,Ye,↓g_r,Kz,Bool.not_true,Bool.not_false,Bool.false_eq_true,Bool.true_eq_false,reduceIte,List.tail_cons,List.headD_cons,decide_true,decide_false,cond_true,cond_false,Nat.beq_refl,WM,Yi,ZT,ZY,ZL,QJ,YL,Wt,K7,WO,Kk,Kn,Kl,ZI,List.replicate,Zp,Zq,QG,Q7,QE,Zi,Yl,Qg,ZM,e2]
theorem ZD4 {f:Value} {p:UInt8->Bool} (hf:∀ (b:UInt8) (H:Zd),Qt (R n) f [u8v b] H=some (.bool (p b),H)) (hs:s.length<=1000000000):∀ (t k:Nat),s.length - k=t->k<=s.length->
  Zj (c4 (Za5.l1 (R n))) [strv s,f,iv s.length,iv k] H=some (if(s.drop k).all p then .ext 0 [] else .ret (.bool false),H)
 | 0,k,ht,hk=>by
  have:k=s.length:=by omega
  subst this;rw[List.drop_length];refine ZZ ?_;simp[Za5.l1,↓Qe,Qd,↓QF,Qn,Qq,Qr,↓Zb,Yc,Zg,YA,Qs,JK,QB,JJ,Jx,QV,JR,QW,QU,Q8,Q9,Qx,Zk,ZP,Kf,YO,Ju,QS,JU,ZG,QZ,JZ,Yg,J8,ZA,Zl,Zs,JB,Z0,Qu,JS,JX,Jc,J0,↓Kq,Ye,↓g_r,Kz,Bool.not_true,Bool.not_false,Bool.false_eq_true,Bool.true_eq_false,reduceIte,List.tail_cons,List.headD_cons,decide_true,decide_false,cond_true,cond_false,Nat.beq_refl,WM,Yi,ZT,ZY,ZL,QJ,YL,Wt,K7,WO,Kk,Kn,Kl,ZI,List.replicate,Zp,Zq,QG,Q7,QE,Zi,Yl,Qg,ZM]
 | t+1,k,ht,hk=>by
  have hkl:k < s.length:=by omega
  have hlt:(k:Int) < s.length:=by omega
  have hg:=List.getElem?_eq_getElem hkl;have hd:=List.drop_eq_getElem_cons hkl;generalize s[k]=b at hg hd;have x1:=Zum hg .i64 H;have ih:=ZD4 hf hs t (k+1) (by omega) (by omega);rw[hd,List.all_cons];cases hp:p b
  .refine Yu ?_;have e:=hf b H;rw[hp] at e;rw[ZL];unfold Za5.l1;rw[Za Zs,Zb,if_pos (by simpa using hlt),Za x1,Za e,Za ZP,Zb,if_pos (by rfl)];rfl
  .rw[Bool.true_and];refine(ZJ ?_).trans ih;have e:=hf b H;rw[hp] at e;rw[ZL];unfold Za5.l1;rw[Za Zs,Zb,if_pos (by simpa using hlt),Za x1,Za e,Za ZP,Zb,if_neg (by simp),Za ZG,Je (by omega)];rfl
theorem ZB4 {f:Value} {p:UInt8->Bool} (hf:∀ (b:UInt8) (H:Zd),Qt (R n) f [u8v b] H=some (.bool (p b),H)) (hs:s.length<=1000000000):R (n+1) KN [strv s,f] H=some (.bool (s.all p),H):=by
 have e:=ZD4 (H:=H) hf hs s.length 0 (by omega) (by omega);rw[List.drop_zero] at e;have e:Zj (c4 (Za5.l1 (R n))) [strv s,f,iv s.length,.int .i64 0] H=_:=e;rw[R,ZAw rfl];unfold Za5;rw[Za Qg];cases h:s.all p
 .rw[h] at e;rw[KG e];rfl
 .rw[h] at e;rw[Qk e,ZI];rfl
theorem ZyG {g:Nat} {args:List Value} (hy:Nat.blt g KV=true:=by rfl):Qt (R n) (.func (.func g) #[] #[]) args=R n g args:=by
 have:Qt (R n) (.func (.func g) #[] #[]) args=R n g ([]++(args++[])):=by
  simp only[Qt,hy,cond_true]
 rw[this];simp
theorem Zww (hs:s.length<=1000000000):R (n+3) KN [strv s,.func (.func Zea) #[] #[]] H=some (.bool (s.all Zi6),H):=
 ZB4 (fun b H=>by rw[ZyG];exact ZI9) hs
theorem ZF8 (hs:s.length<=1000000000):R (n+3) KN [strv s,.func (.func ZeJ) #[] #[]] H=some (.bool (s.all Zvi),H):=
 ZB4 (fun b H=>by rw[ZyG];exact ZJC) hs
theorem ZpT:bop .str .eql (strv s) (.string ⟨#[]⟩) H=some (.bool (decide (s.length=0)),H):=by
 have:=Zkm (H:=H) (a:=s) (b:=[]);have h:(s==[])=decide (s.length=0):=by cases s<;>simp
 rw[h] at this;exact this
theorem Zwq:R (n+4) Zbr [strv s] H=some (.bool (Zw s),H):=by
 rw[R,Zu9 rfl];unfold Zw;by_cases h0:s.length=0
 .have h1:¬ 1<=s.length:=by omega
  unfold ZdQ;rw[Za ZpT,decide_eq_true h0];simp[↓Qe,Qd,↓QF,Qn,Qq,Qr,↓Zb,Yc,Zg,YA,Qs,JK,QB,JJ,Jx,QV,JR,QW,QU,Q8,Q9,Qx,Zk,ZP,Kf,YO,Ju,QS,JU,ZG,QZ,JZ,Yg,J8,ZA,Zl,Zs,JB,Z0,Qu,JS,JX,Jc,J0,↓Kq,Ye,↓g_r,Kz,Bool.not_true,Bool.not_false,Bool.false_eq_true,Bool.true_eq_false,reduceIte,List.tail_cons,List.headD_cons,decide_true,decide_false,cond_true,cond_false,Nat.beq_refl,WM,Yi,ZT,ZY,ZL,QJ,YL,Wt,K7,WO,Kk,Kn,Kl,ZI,List.replicate,Zp,Zq,QG,Q7,QE,Zi,Yl,Qg,ZM,h1]
 .have h1:1<=s.length:=by omega
  by_cases h12:s.length<=12
  .have e1:run Tryz.prog np lvs (n+3) KN [strv s,.func (.func Zea) #[] #[]] H=some (.bool (s.all Zi6),H):=Zww (by omega);have g0:s[0]?=some (s.getD 0 0):=by rw[List.getElem?_eq_getElem (by omega)];simp[List.getD_eq_getElem?_getD,List.getElem?_eq_getElem (show 0 < s.length by omega)]
   have gl:s[s.length - 1]?=some (s.getD (s.length - 1) 0):=by rw[List.getElem?_eq_getElem (by omega)];simp[List.getD_eq_getElem?_getD,List.getElem?_eq_getElem (show s.length - 1 < s.length by omega)]
   have x0:ixs (strv s) (.int .i64 0) H=some (u8v (s.getD 0 0),H):=Zum g0 .i64 H;have xl:=Zum gl .i64 H;have wl:=ZCW (k:=s.length) (by omega) (by omega);generalize s.getD 0 0=b0 at x0;generalize s.getD (s.length - 1) 0=bl at xl;have e2:run Tryz.prog np lvs (n+3) Ko [u8v b0] H=some (.bool (Za9 b0),H):=Zmt;have e3:run Tryz.prog np lvs (n+3) Ko [u8v bl] H=some (.bool (Za9 bl),H):=Zmt;have e4:run Tryz.prog np lvs (n+3) KW [u8v bl] H=some (.bool (ZdZ bl),H):=Zp7;have q1:bop .int .gtr (iv s.length) (.int .i64 12) H=some (.bool false,H):=by rw[Z0,decide_eq_false (by omega)]
   unfold ZdQ;rw[Za ZpT,decide_eq_false h0,decide_eq_true h1,decide_eq_true h12];rw[Z4,Zm,Za Qg,Zm,Za q1,Z5,ZY,Za Zk];simp only[cond_false];rw[Z4,Zm,Za x0,Zm,Za e2,Zm,Za ZP,Z5,ZL,Za Zk];simp only[cond_false];cases hb0:Za9 b0
   .simp[↓Qe,Qd,↓QF,Qn,Qq,Qr,↓Zb,Yc,Zg,YA,Qs,JK,QB,JJ,Jx,QV,JR,QW,QU,Q8,Q9,Qx,Zk,ZP,Kf,YO,Ju,QS,JU,ZG,QZ,JZ,Yg,J8,ZA,Zl,Zs,JB,Z0,Qu,JS,JX,Jc,J0,↓Kq,Ye,↓g_r,Kz,Bool.not_true,Bool.not_false,Bool.false_eq_true,Bool.true_eq_false,reduceIte,List.tail_cons,List.headD_cons,decide_true,decide_false,cond_true,cond_false,Nat.beq_refl,WM,Yi,ZT,ZY,ZL,QJ,YL,Wt,K7,WO,Kk,Kn,Kl,ZI,List.replicate,Zp,Zq,QG,Q7,QE,Zi,Yl,Qg,ZM]
   .simp only[Bool.not_true];rw[Z4,Zm,Za e1,Zm,Za ZP,Z5,ZY,Za Zk];simp only[cond_false];cases hall:s.all Zi6
    .simp[↓Qe,Qd,↓QF,Qn,Qq,Qr,↓Zb,Yc,Zg,YA,Qs,JK,QB,JJ,Jx,QV,JR,QW,QU,Q8,Q9,Qx,Zk,ZP,Kf,YO,Ju,QS,JU,ZG,QZ,JZ,Yg,J8,ZA,Zl,Zs,JB,Z0,Qu,JS,JX,Jc,J0,↓Kq,Ye,↓g_r,Kz,Bool.not_true,Bool.not_false,Bool.false_eq_true,Bool.true_eq_false,reduceIte,List.tail_cons,List.headD_cons,decide_true,decide_false,cond_true,cond_false,Nat.beq_refl,WM,Yi,ZT,ZY,ZL,QJ,YL,Wt,K7,WO,Kk,Kn,Kl,ZI,List.replicate,Zp,Zq,QG,Q7,QE,Zi,Yl,Qg,ZM]
    .simp only[Bool.not_true];rw[Zb,if_neg (by simp),Za Qg,Za QZ,wl,Za xl,Za e3];unfold Zhz;cases hl:Za9 bl
     .rw[Z4,Zm,Za e4,Z5,ZT,Za Zk];simp[ret]
     .simp[↓Qe,Qd,↓QF,Qn,Qq,Qr,↓Zb,Yc,Zg,YA,Qs,JK,QB,JJ,Jx,QV,JR,QW,QU,Q8,Q9,Qx,Zk,ZP,Kf,YO,Ju,QS,JU,ZG,QZ,JZ,Yg,J8,ZA,Zl,Zs,JB,Z0,Qu,JS,JX,Jc,J0,↓Kq,Ye,↓g_r,Kz,Bool.not_true,Bool.not_false,Bool.false_eq_true,Bool.true_eq_false,reduceIte,List.tail_cons,List.headD_cons,decide_true,decide_false,cond_true,cond_false,Nat.beq_refl,WM,Yi,ZT,ZY,ZL,QJ,YL,Wt,K7,WO,Kk,Kn,Kl,ZI,List.replicate,Zp,Zq,QG,Q7,QE,Zi,Yl,Qg,ZM]
  .have q1:bop .int .gtr (iv s.length) (.int .i64 12) H=some (.bool true,H):=by rw[Z0,decide_eq_true (by omega)]
   unfold ZdQ;rw[Za ZpT,decide_eq_false h0];rw[Z4,Zm,Za Qg,Zm,Za q1,Z5,ZY,Za Zk];simp[↓Qe,Qd,↓QF,Qn,Qq,Qr,↓Zb,Yc,Zg,YA,Qs,JK,QB,JJ,Jx,QV,JR,QW,QU,Q8,Q9,Qx,Zk,ZP,Kf,YO,Ju,QS,JU,ZG,QZ,JZ,Yg,J8,ZA,Zl,Zs,JB,Z0,Qu,JS,JX,Jc,J0,↓Kq,Ye,↓g_r,Kz,Bool.not_true,Bool.not_false,Bool.false_eq_true,Bool.true_eq_false,reduceIte,List.tail_cons,List.headD_cons,decide_true,decide_false,cond_true,cond_false,Nat.beq_refl,WM,Yi,ZT,ZY,ZL,QJ,YL,Wt,K7,WO,Kk,Kn,Kl,ZI,List.replicate,Zp,Zq,QG,Q7,QE,Zi,Yl,Qg,ZM,h12]
def ZE (s:List UInt8):Int:=if Zw s then 0 else 10
def YS (s:List UInt8):Int:=if Zja s then 0 else 10
def Qj (s:List UInt8):Int:=if K9 s then 0 else 4
theorem Zdi:R (n+5) QR [strv s] H=some (iv (ZE s),H):=by
 have e1:run Tryz.prog np lvs (n+4) Zbr [strv s] H=some (.bool (Zw s),H):=Zwq;rw[R,ZyF rfl];unfold ZE;generalize Zw s=q at e1 ⊢;cases q<;>simp[ZmK,↓Qe,Qd,↓QF,Qn,Qq,Qr,↓Zb,Yc,Zg,YA,Qs,JK,QB,JJ,Jx,QV,JR,QW,QU,Q8,Q9,Qx,Zk,ZP,Kf,YO,Ju,QS,JU,ZG,QZ,JZ,Yg,J8,ZA,Zl,Zs,JB,Z0,Qu,JS,JX,Jc,J0,↓Kq,Ye,↓g_r,Kz,Bool.not_true,Bool.not_false,Bool.false_eq_true,Bool.true_eq_false,reduceIte,List.tail_cons,List.headD_cons,decide_true,decide_false,cond_true,cond_false,Nat.beq_refl,WM,Yi,ZT,ZY,ZL,QJ,YL,Wt,K7,WO,Kk,Kn,Kl,ZI,List.replicate,Zp,Zq,QG,Q7,QE,Zi,Yl,Qg,ZM,e1]
theorem ZIK (hs:s.length<=1000000000):R (n+5) QR [strv s] H=some (iv (ZE s),H):=Zdi
theorem Zyl (hs:s.length<=1000000000):R (n+4) Zbs [strv s] H=some (iv (YS s),H):=by
 have e1:run Tryz.prog np lvs (n+3) KN [strv s,.func (.func Zea) #[] #[]] H=some (.bool (s.all Zi6),H):=Zww hs;rw[R,ZuO rfl];unfold YS Zja Zj6;rw[Za Qg];by_cases h12:s.length<=12
 .have q1:bop .int .gtr (iv s.length) (.int .i64 12) H=some (.bool false,H):=by rw[Z0,decide_eq_false (by omega)]
  rw[Za q1,Z4,Zm,Za e1,Zm,Za ZP,Z5,ZY,Za Zk];cases s.all Zi6<;>simp[↓Qe,Qd,↓QF,Qn,Qq,Qr,↓Zb,Yc,Zg,YA,Qs,JK,QB,JJ,Jx,QV,JR,QW,QU,Q8,Q9,Qx,Zk,ZP,Kf,YO,Ju,QS,JU,ZG,QZ,JZ,Yg,J8,ZA,Zl,Zs,JB,Z0,Qu,JS,JX,Jc,J0,↓Kq,Ye,↓g_r,Kz,Bool.not_true,Bool.not_false,Bool.false_eq_true,Bool.true_eq_false,reduceIte,List.tail_cons,List.headD_cons,decide_true,decide_false,cond_true,cond_false,Nat.beq_refl,WM,Yi,ZT,ZY,ZL,QJ,YL,Wt,K7,WO,Kk,Kn,Kl,ZI,List.replicate,Zp,Zq,QG,Q7,QE,Zi,Yl,Qg,ZM,h12]
 .have q1:bop .int .gtr (iv s.length) (.int .i64 12) H=some (.bool true,H):=by rw[Z0,decide_eq_true (by omega)]
  rw[Za q1];simp[↓Qe,Qd,↓QF,Qn,Qq,Qr,↓Zb,Yc,Zg,YA,Qs,JK,QB,JJ,Jx,QV,JR,QW,QU,Q8,Q9,Qx,Zk,ZP,Kf,YO,Ju,QS,JU,ZG,QZ,JZ,Yg,J8,ZA,Zl,Zs,JB,Z0,Qu,JS,JX,Jc,J0,↓Kq,Ye,↓g_r,Kz,Bool.not_true,Bool.not_false,Bool.false_eq_true,Bool.true_eq_false,reduceIte,List.tail_cons,List.headD_cons,decide_true,decide_false,cond_true,cond_false,Nat.beq_refl,WM,Yi,ZT,ZY,ZL,QJ,YL,Wt,K7,WO,Kk,Kn,Kl,ZI,List.replicate,Zp,Zq,QG,Q7,QE,Zi,Yl,Qg,ZM,h12]
theorem Zp9:R (n+4) K1 [strv s] H=some (iv (Qj s),H):=by
 have e1:s.length<=12->run Tryz.prog np lvs (n+3) KN [strv s,.func (.func ZeJ) #[] #[]] H=some (.bool (s.all Zvi),H):=fun h12=>ZF8 (by omega);rw[R,Zyb rfl];unfold Qj K9 Zm2;rw[Za ZpT];by_cases h0:s.length=0
 .have h1:¬ 1<=s.length:=by omega
  rw[decide_eq_true h0];simp[↓Qe,Qd,↓QF,Qn,Qq,Qr,↓Zb,Yc,Zg,YA,Qs,JK,QB,JJ,Jx,QV,JR,QW,QU,Q8,Q9,Qx,Zk,ZP,Kf,YO,Ju,QS,JU,ZG,QZ,JZ,Yg,J8,ZA,Zl,Zs,JB,Z0,Qu,JS,JX,Jc,J0,↓Kq,Ye,↓g_r,Kz,Bool.not_true,Bool.not_false,Bool.false_eq_true,Bool.true_eq_false,reduceIte,List.tail_cons,List.headD_cons,decide_true,decide_false,cond_true,cond_false,Nat.beq_refl,WM,Yi,ZT,ZY,ZL,QJ,YL,Wt,K7,WO,Kk,Kn,Kl,ZI,List.replicate,Zp,Zq,QG,Q7,QE,Zi,Yl,Qg,ZM,h1]
 .have h1:1<=s.length:=by omega
  rw[decide_eq_false h0,Z4,Zm,Za Qg];by_cases h12:s.length<=12
  .have q1:bop .int .gtr (iv s.length) (.int .i64 12) H=some (.bool false,H):=by rw[Z0,decide_eq_false (by omega)]
   rw[Zm,Za q1,Z5,ZY,Za Zk];simp only[cond_false];rw[Z4,Zm,Za (e1 h12),Zm,Za ZP,Z5,ZL,Za Zk];cases s.all Zvi<;>simp[↓Qe,Qd,↓QF,Qn,Qq,Qr,↓Zb,Yc,Zg,YA,Qs,JK,QB,JJ,Jx,QV,JR,QW,QU,Q8,Q9,Qx,Zk,ZP,Kf,YO,Ju,QS,JU,ZG,QZ,JZ,Yg,J8,ZA,Zl,Zs,JB,Z0,Qu,JS,JX,Jc,J0,↓Kq,Ye,↓g_r,Kz,Bool.not_true,Bool.not_false,Bool.false_eq_true,Bool.true_eq_false,reduceIte,List.tail_cons,List.headD_cons,decide_true,decide_false,cond_true,cond_false,Nat.beq_refl,WM,Yi,ZT,ZY,ZL,QJ,YL,Wt,K7,WO,Kk,Kn,Kl,ZI,List.replicate,Zp,Zq,QG,Q7,QE,Zi,Yl,Qg,ZM,h12,h1]
  .have q1:bop .int .gtr (iv s.length) (.int .i64 12) H=some (.bool true,H):=by rw[Z0,decide_eq_true (by omega)]
   rw[Zm,Za q1,Z5,ZY,Za Zk];simp[↓Qe,Qd,↓QF,Qn,Qq,Qr,↓Zb,Yc,Zg,YA,Qs,JK,QB,JJ,Jx,QV,JR,QW,QU,Q8,Q9,Qx,Zk,ZP,Kf,YO,Ju,QS,JU,ZG,QZ,JZ,Yg,J8,ZA,Zl,Zs,JB,Z0,Qu,JS,JX,Jc,J0,↓Kq,Ye,↓g_r,Kz,Bool.not_true,Bool.not_false,Bool.false_eq_true,Bool.true_eq_false,reduceIte,List.tail_cons,List.headD_cons,decide_true,decide_false,cond_true,cond_false,Nat.beq_refl,WM,Yi,ZT,ZY,ZL,QJ,YL,Wt,K7,WO,Kk,Kn,Kl,ZI,List.replicate,Zp,Zq,QG,Q7,QE,Zi,Yl,Qg,ZM,h12]
theorem ZJg (hs:s.length<=1000000000):R (n+4) K1 [strv s] H=some (iv (Qj s),H):=Zp9
theorem ZEs {p:UInt8->Prop} (h:∀ n:Nat,n < 256->p (UInt8.ofNat n)) (b:UInt8):p b:=by
 have:=h b.toNat b.toNat_lt
 rwa [UInt8.ofNat_toNat] at this
end
abbrev QH:=List (List UInt8 × List UInt8)
structure Dir (H:Zd) (d b:Nat) (m:QH):Prop where
 c:H[d]?=some (.cells [.map (some b)] 1 false false)
 g:JL strv H b m
 len:∀ p∈m,p.1.length<=12
 few:m.length<=12
section
variable {H H':Zd} {n d b p q:Nat} {m:QH} {k s:List UInt8}
theorem Zeg {v:Value} (h:oneCell v=true) (hc:v.cells=#[v]) (H:Zd):alc 1 v H=some (pt H.length,H++[.cells [v] 1 false false]):=by
 rw[QU];simp[hc,h]
theorem KQ {v:Value} {e:Nat} {g ro:Bool} (h:H[p]?=some (.cells [v] e g ro)):ld1 (pt p) H=some (v,H):=Zy h rfl
theorem ZjU {g:Nat} {bs args:List Value} (hy:Nat.blt g KV=true:=by rfl):Qt (R n) (.func (.func g) #[] bs.toArray) args=R n g (args++bs):=by
 have:Qt (R n) (.func (.func g) #[] bs.toArray) args=R n g ([]++(args++bs.toArray.toList)):=by
  simp only[Qt,hy,cond_true]
 rw[this];simp
theorem Dir.lt (h:Dir H d b m):d < H.length/\b < H.length:=⟨ZX h.c,h.g.lt⟩
theorem Dir.keep (h:Dir H d b m) (h1:H'[d]?=H[d]?) (h2:H'[b]?=H[b]?):Dir H' d b m:=⟨by rw[h1];exact h.c,h.g.keep h2,h.len,h.few⟩
theorem Dir.hle (h:Dir H d b m) (hl:HLe H H'):Dir H' d b m:=⟨hl _ _ h.c,h.g.hle hl,h.len,h.few⟩
theorem Dir.step {o1 o2:List Nat} (h:Dir H d b m) (hs:Zo o1 H o2 H') (h1:d∉o1) (h2:b∉o1):Dir H' d b m:=h.keep (hs.keep d h.lt.1 h1) (hs.keep b h.lt.2 h2)
theorem Dir.ne (h:Dir H d b m):d≠b:=fun e=>by
 subst e;obtain⟨es,_,h1⟩:=h.g.ex;rw[h.c] at h1;rcases h1 with⟨_,h1,_⟩|h1<;>cases h1
theorem Zzi:∃ H' d b,R (n+1) Zc4 [] H=some (pt d,H')/\Dir H' d b []/\HLe H H'/\H.length<=d/\H.length<=b:=by
 obtain⟨H1,e1,g1,l1⟩:=Zxy (α:=List UInt8) (enc:=strv) H;have e2:bld (.agg #[.map none]) [(0,1,.map (some H.length))] H1=some (.agg #[.map (some H.length)],H1):=by simp[↓Qe,Qd,↓QF,Qn,Qq,Qr,↓Zb,Yc,Zg,YA,Qs,JK,QB,JJ,Jx,QV,JR,QW,QU,Q8,Q9,Qx,Zk,ZP,Kf,YO,Ju,QS,JU,ZG,QZ,JZ,Yg,J8,ZA,Zl,Zs,JB,Z0,Qu,JS,JX,Jc,J0,↓Kq,Ye,↓g_r,Kz,YR,Zaj,splice,Value.cells]
 have e3:alc 1 (.agg #[.map (some H.length)]) H1=some (pt H1.length,H1++[.cells [.map (some H.length)] 1 false false]):=by
  rw[QU];simp[Value.cells,oneCell]
 refine⟨H1++[.cells [.map (some H.length)] 1 false false],H1.length,H.length,?_,⟨Zn,g1.hle (.app _ _),by simp,by simp⟩,l1.trans (.app _ _),l1.len,Nat.le_refl _⟩;rw[R,Zy9 rfl];unfold ZmS;rw[Za e1,Za e2,Za e3];rfl
def YZ (k:List UInt8) (m:QH):Int:=if(Ze k m).isSome then 0 else 8
def ZbT (k:List UInt8) (m:QH):Int:=if(Ze k m).isSome then 9 else if 12<=m.length then 7 else 0
theorem ZvI:R (n+1) Ya [pt d,strv k] H=some (.func (.func Qo) #[] #[pt H.length,pt (H.length+1)],H++[.cells [pt d] 1 false false]++[.cells [strv k] 1 false false]):=by
 rw[R,ZqN rfl];unfold Zgt;rw[Za (Zeg rfl rfl _),Za (Zeg rfl rfl _)];simp[ret]
theorem Zyy (h:Dir H d b m) (hp:H[p]?=some (.cells [pt d] 1 false false)) (hq:H[q]?=some (.cells [strv k] 1 false false)):R (n+1) Qo [pt p,pt q] H=some (iv (YZ k m),H):=by
 have hl:=h.g.lkp (k:=k) (z:=.string ⟨#[]⟩) (ok:=true);rw[R,ZpL rfl];unfold Ze0 YZ;rw[Za (KQ hp),Za Zg,Za Zi,Za (KQ h.c),Za (KQ hq),Za hl];cases hg:Ze k m
 .simp[↓Qe,Qd,↓QF,Qn,Qq,Qr,↓Zb,Yc,Zg,YA,Qs,JK,QB,JJ,Jx,QV,JR,QW,QU,Q8,Q9,Qx,Zk,ZP,Kf,YO,Ju,QS,JU,ZG,QZ,JZ,Yg,J8,ZA,Zl,Zs,JB,Z0,Qu,JS,JX,Jc,J0,↓Kq,Ye,↓g_r,Kz,Bool.not_true,Bool.not_false,Bool.false_eq_true,Bool.true_eq_false,reduceIte,List.tail_cons,List.headD_cons,decide_true,decide_false,cond_true,cond_false,Nat.beq_refl,WM,Yi,ZT,ZY,ZL,QJ,YL,Wt,K7,WO,Kk,Kn,Kl,ZI,List.replicate,Zp,Zq,QG,Q7,QE,Zi,Yl,Qg,ZM,hg]
 .simp[↓Qe,Qd,↓QF,Qn,Qq,Qr,↓Zb,Yc,Zg,YA,Qs,JK,QB,JJ,Jx,QV,JR,QW,QU,Q8,Q9,Qx,Zk,ZP,Kf,YO,Ju,QS,JU,ZG,QZ,JZ,Yg,J8,ZA,Zl,Zs,JB,Z0,Qu,JS,JX,Jc,J0,↓Kq,Ye,↓g_r,Kz,Bool.not_true,Bool.not_false,Bool.false_eq_true,Bool.true_eq_false,reduceIte,List.tail_cons,List.headD_cons,decide_true,decide_false,cond_true,cond_false,Nat.beq_refl,WM,Yi,ZT,ZY,ZL,QJ,YL,Wt,K7,WO,Kk,Kn,Kl,ZI,List.replicate,Zp,Zq,QG,Q7,QE,Zi,Yl,Qg,ZM,hg]
theorem ZIW:R (n+1) Zcy [pt d,strv k] H=some (.func (.func Yy) #[] #[pt H.length,pt (H.length+1)],H++[.cells [pt d] 1 false false]++[.cells [strv k] 1 false false]):=by
 rw[R,ZsK rfl];unfold Zg8;rw[Za (Zeg rfl rfl _),Za (Zeg rfl rfl _)];simp[ret]
theorem ZHM (h:Dir H d b m) (hp:H[p]?=some (.cells [pt d] 1 false false)) (hq:H[q]?=some (.cells [strv k] 1 false false)):∃ H',R (n+2) Yy [pt p,pt q] H=some (iv (ZbT k m),H')/\HLe H H':=by
 have e1:run Tryz.prog np lvs (n+1) Ya [pt d,strv k] H=_:=ZvI;refine⟨_,?_,(HLe.app H [.cells [pt d] 1 false false]).trans (.app _ [.cells [strv k] 1 false false])⟩;generalize hH:H++[.cells [pt d] 1 false false]++[.cells [strv k] 1 false false]=X at e1 ⊢;have hx:HLe H X:=by rw[<- hH];exact(HLe.app H _).trans (.app _ _)
 have x1:X[H.length]?=some (.cells [pt d] 1 false false):=by rw[<- hH];simp[List.getElem?_append]
 have x2:X[H.length+1]?=some (.cells [strv k] 1 false false):=by rw[<- hH];simp[List.getElem?_append]
 have e2:Qt (run Tryz.prog np lvs (n+1)) (.func (.func Qo) #[] #[pt H.length,pt (H.length+1)]) [] X=some (iv (YZ k m),X):=by
  have:=ZjU (n:=n+1) (g:=Qo) (bs:=[pt H.length,pt (H.length+1)]) (args:=[]);rw[show(#[pt H.length,pt (H.length+1)]:Array Value)=[pt H.length,pt (H.length+1)].toArray from rfl];rw[this];exact Zyy (h.hle hx) x1 x2
 have hlen:=(h.hle hx).g.len;rw[R,Zqx rfl];unfold ZgC ZbT;rw[Za (KQ hp),Za (KQ hq),Za e1,Za e2];unfold YZ;cases hg:(Ze k m).isSome
 .have c1:ld1 (pt p) X=some (pt d,X):=KQ (hx _ _ hp);have c2:ld1 (pt d) X=some (.map (some b),X):=KQ (hx _ _ h.c);simp only[Bool.false_eq_true,if_false];rw[Za ZA,Zb,if_neg (by decide),Za c1,Za Zg,Za Zi,Za c2,Za hlen,Za Qu,Zb];by_cases h12:12<=m.length
  .have h12':(12:Int)<=m.length:=by omega
   simp[h12,h12',ret]
  .have h12':¬ (12:Int)<=m.length:=by omega
   simp[h12,h12',ret]
 .simp[↓Qe,Qd,↓QF,Qn,Qq,Qr,↓Zb,Yc,Zg,YA,Qs,JK,QB,JJ,Jx,QV,JR,QW,QU,Q8,Q9,Qx,Zk,ZP,Kf,YO,Ju,QS,JU,ZG,QZ,JZ,Yg,J8,ZA,Zl,Zs,JB,Z0,Qu,JS,JX,Jc,J0,↓Kq,Ye,↓g_r,Kz,Bool.not_true,Bool.not_false,Bool.false_eq_true,Bool.true_eq_false,reduceIte,List.tail_cons,List.headD_cons,decide_true,decide_false,cond_true,cond_false,Nat.beq_refl,WM,Yi,ZT,ZY,ZL,QJ,YL,Wt,K7,WO,Kk,Kn,Kl,ZI,List.replicate,Zp,Zq,QG,Q7,QE,Zi,Yl,Qg,ZM]
theorem ZGo:R (n+1) ZcZ [strv s] H=some (.func (.func Yh) #[] #[pt H.length],H++[.cells [strv s] 1 false false]):=by
 rw[R,ZxQ rfl];unfold Zl3;rw[Za (Zeg rfl rfl _)];rfl
theorem ZIr (hs:s.length<=1000000000) (hp:H[p]?=some (.cells [strv s] 1 false false)):R (n+5) Yh [pt p] H=some (iv (Qj s),H):=by
 have e1:run Tryz.prog np lvs (n+4) K1 [strv s] H=some (iv (Qj s),H):=ZJg hs;rw[R,Zxi rfl];unfold ZkZ;rw[Za (KQ hp),Za e1];rfl
def WR (e:Int) (es:List Int):Int:=es.foldl (fun e a=>if e=0 then a else e) e
theorem ZrW {sl:Value} {fs:List Value} {es:List Int} (hl:fs.length=es.length) (hfl:fs.length<=1000) (hs:Sl H sl fs)
  (hf:∀ (k:Nat) (f:Value) (e:Int),fs[k]?=some f->es[k]?=some e->∀ H1,HLe H H1->∃ H2,Qt (R n) f [] H1=some (iv e,H2)/\HLe H1 H2):∀ (t k:Nat) (e:Int) (H1:Zd),fs.length - k=t->k<=fs.length->HLe H H1->
  ∃ H2,Zj (c4 (KU.l1 (R n))) [iv e,sl,iv fs.length,iv k] H1=some (.ext 0 [iv (WR e (es.drop k))],H2)/\HLe H1 H2
 | 0,k,e,H1,ht,hk,h1=>by
  have:k=fs.length:=by omega
  subst this;rw[List.drop_eq_nil_of_le (by omega)];refine⟨H1,ZZ ?_,.refl _⟩;rw[ZL];unfold KU.l1;rw[Za Zs,Zb,if_neg (by simp)];rfl
 | t+1,k,e,H1,ht,hk,h1=>by
  have hkl:k < fs.length:=by omega
  have hlt:(k:Int) < fs.length:=by omega
  obtain⟨f,hfk⟩:∃ f,fs[k]?=some f:=⟨_,List.getElem?_eq_getElem hkl⟩;obtain⟨a,hak⟩:∃ a,es[k]?=some a:=⟨_,List.getElem?_eq_getElem (by omega)⟩;have hd:es.drop k=a :: es.drop (k+1):=by
   rw[List.drop_eq_getElem_cons (by omega)]
   congr 1
   have:=List.getElem?_eq_getElem (show k < es.length by omega);rw[hak] at this;exact(Option.some.inj this).symm
  have x1:=(hs.mono h1).ix hkl .i64 H1;have x2:=(hs.mono h1).ldx hfk;by_cases he:e=0
  .subst he;obtain⟨H2,e3,l3⟩:=hf k f a hfk hak H1 h1;obtain⟨H3,e4,l4⟩:=ZrW hl hfl hs hf t (k+1) a H2 (by omega) (by omega) (h1.trans l3);refine⟨H3,(ZJ ?_).trans e4 |>.trans (by rw[hd];rfl),l3.trans l4⟩;rw[ZL];unfold KU.l1;rw[Za Zs,Zb,if_pos (by simpa using hlt),Za x1,Za x2,Za ZA];refine(ZC (vs:=[iv a,sl,iv fs.length,iv k]) (H':=H2) ?_).trans ?_
   .rw[Zb,if_pos (by simp),Za e3];rfl
   .rw[ZL,Za ZG,Je (by omega)];rfl
  .obtain⟨H3,e4,l4⟩:=ZrW hl hfl hs hf t (k+1) e H1 (by omega) (by omega) h1;refine⟨H3,(ZJ ?_).trans e4 |>.trans (by rw[hd];show _=some (Out.ext 0 [iv (WR (if e=0 then a else e) _)],H3);rw[if_neg he]),l4⟩;rw[ZL];unfold KU.l1;rw[Za Zs,Zb,if_pos (by simpa using hlt),Za x1,Za x2,Za ZA];refine(ZC (vs:=[iv e,sl,iv fs.length,iv k]) (H':=H1) ?_).trans ?_
   .rw[Zb,if_neg (by simpa using he)];rfl
   .rw[ZL,Za ZG,Je (by omega)];rfl
theorem Zu0 {sl:Value} {fs:List Value} {es:List Int} (hk:k.length<=1000000000) (hl:fs.length=es.length) (hfl:fs.length<=1000) (hs:Sl H sl fs)
  (hf:∀ (k:Nat) (f:Value) (e:Int),fs[k]?=some f->es[k]?=some e->∀ H1,HLe H H1->∃ H2,Qt (R (n+5)) f [] H1=some (iv e,H2)/\HLe H1 H2) :
  ∃ H2,R (n+6) KR [strv k,sl] H=some (iv (WR (ZE k) es),H2)/\HLe H H2:=by
 have e1:run Tryz.prog np lvs (n+5) QR [strv k] H=some (iv (ZE k),H):=ZIK hk;obtain⟨H2,e2,l2⟩:=ZrW hl hfl hs hf fs.length 0 (ZE k) H (by omega) (by omega) (.refl _);refine⟨H2,?_,l2⟩;have e2:Zj (c4 (KU.l1 (R (n+5)))) [iv (ZE k),sl,iv fs.length,.int .i64 0] H=_:=e2;rw[R,ZvG rfl];unfold KU;rw[Za e1,Za hs.len,Qk e2,ZI,List.drop_zero];rfl
end
section
variable {α:Type} {k k':List UInt8} {v:α} {m:List (List UInt8 × α)}
theorem Zhr:∀ {m m':List (List UInt8 × α)},Ze k (m++m')=(Ze k m).or (Ze k m')
 | [],m'=>rfl
 | p :: m,m'=>by
  simp only[List.cons_append,Ze];split
  .rfl
  .exact Zhr
theorem Kt (h:k'≠k):Ze k' (Qw k v m)=Ze k' m:=by
 unfold Qw;split
 .have:∀ m:List (List UInt8 × α),Ze k' (m.map fun p=>if p.1=k then(k,v) else p)=Ze k' m:=by
   intro m
   induction m with
   | nil=>rfl
   | cons p m ih=>
    simp only[List.map_cons,Ze];by_cases hp:p.1=k
    .rw[if_pos hp,if_neg (Ne.symm h),if_neg (fun e=>h (e.symm.trans hp)),ih]
    .rw[if_neg hp,ih]
  exact this m
 .rw[Zhr];have:Ze k' [(k,v)]=none:=by simp[Ze,Ne.symm h]
  rw[this];cases Ze k' m<;>rfl
theorem WL:Ze k (Qw k v m)=some v:=by
 unfold Qw;split
 .rename_i hs;have:∀ m:List (List UInt8 × α),(Ze k m).isSome=true->Ze k (m.map fun p=>if p.1=k then(k,v) else p)=some v:=by
   intro m
   induction m with
   | nil=>intro h;cases h
   | cons p m ih=>
    intro h;simp only[List.map_cons,Ze] at h ⊢;by_cases hp:p.1=k
    .simp[hp]
    .rw[if_neg hp] at h;rw[if_neg hp,if_neg hp];exact ih h
  exact this m hs
 .rename_i hs;rw[Zhr];have:Ze k m=none:=by cases e:Ze k m<;>simp_all
  rw[this];simp[Ze]
theorem Za6:Ze k (Yx k m)=none:=by
 rw[Zfs];intro p hp;simpa[Yx] using (List.mem_filter.1 hp).2
theorem JM (h:k'≠k):Ze k' (Yx k m)=Ze k' m:=by
 unfold Yx
 induction m with
 | nil=>rfl
 | cons p m ih=>
  rw[List.filter_cons];by_cases hp:p.1=k
  .rw[if_neg (by simp[hp]),ih];simp only[Ze];rw[if_neg (fun e=>h (e.symm.trans hp))]
  .rw[if_pos (by simpa using hp)];simp only[Ze];rw[ih]
theorem ZsR (hn:(m.map (·.1)).Nodup) (h:(Ze k m).isSome=true):(Yx k m).length=m.length - 1:=by
 obtain⟨v,hv⟩:=Option.isSome_iff_exists.1 h;obtain⟨j,hj⟩:=ZFO hv;rw[<- Zgf hn hj,List.length_eraseIdx,if_pos (List.getElem?_eq_some_iff.1 hj).1]
end
section
variable {H H':Zd} {n d b p q:Nat} {m:QH} {k s:List UInt8}
theorem ZBq (h:Dir H d b m) (hp:H[p]?=some (.cells [pt d] 1 false false)) (hq:H[q]?=some (.cells [strv k] 1 false false)):∃ H2,Qt (R (n+1)) (.func (.func Qo) #[] #[pt p,pt q]) [] H=some (iv (YZ k m),H2)/\HLe H H2:=by
 rw[show(#[pt p,pt q]:Array Value)=[pt p,pt q].toArray from rfl,ZjU];exact⟨H,Zyy h hp hq,.refl _⟩
theorem ZIq (h:Dir H d b m) (hp:H[p]?=some (.cells [pt d] 1 false false)) (hq:H[q]?=some (.cells [strv k] 1 false false)):∃ H2,Qt (R (n+2)) (.func (.func Yy) #[] #[pt p,pt q]) [] H=some (iv (ZbT k m),H2)/\HLe H H2:=by
 rw[show(#[pt p,pt q]:Array Value)=[pt p,pt q].toArray from rfl,ZjU];exact ZHM h hp hq
theorem ZGn (hs:s.length<=1000000000) (hp:H[p]?=some (.cells [strv s] 1 false false)):∃ H2,Qt (R (n+5)) (.func (.func Yh) #[] #[pt p]) [] H=some (iv (Qj s),H2)/\HLe H H2:=by
 rw[show(#[pt p]:Array Value)=[pt p].toArray from rfl,ZjU];exact⟨H,ZIr hs hp,.refl _⟩
def YV (k s:List UInt8) (m:QH):Int:=WR (ZE k) [Qj s,ZbT k m]
def Jj (k:List UInt8) (m:QH):Int:=WR (ZE k) [YZ k m]
def ZaN (k s:List UInt8) (m:QH):Int:=WR (ZE k) [Qj s,YZ k m]
theorem ZGA {a c:Value} (ha:oneCell a=true) (hc:oneCell c=true) (a1:a.cells=#[a]) (c1:c.cells=#[c]) (H:Zd):bsl 1 2 .nilFunc [(0,1,a),(1,1,c)] H=some (.slice (some ⟨H.length,0,none⟩) 2 2,H++[.cells [a,c] 1 false false]):=by
 have t1:YR a=false:=by cases a<;>simp_all [YR,oneCell]
 have t2:YR c=false:=by cases c<;>simp_all [YR,oneCell]
 have hn:Value.nilFunc.cells=#[.nilFunc]:=rfl;simp[bsl,Zaj,reps,Zk6,a1,c1,t1,t2,splice,ha,hc,hn]
theorem ZJA {a:Value} (ha:oneCell a=true) (a1:a.cells=#[a]) (H:Zd):bsl 1 1 .nilFunc [(0,1,a)] H=some (.slice (some ⟨H.length,0,none⟩) 1 1,H++[.cells [a] 1 false false]):=Zpt rfl a1 ha
theorem Zuo {α β:Type} {P:α->β->Prop} {a a':α} {e e':β} (h1:P a e) (h2:P a' e'):∀ (k:Nat) (f:α) (x:β),[a,a'][k]?=some f->[e,e'][k]?=some x->P f x
 | 0,f,x,h,h'=>by simp at h h';rw[<- h,<- h'];exact h1
 | 1,f,x,h,h'=>by simp at h h';rw[<- h,<- h'];exact h2
 | k+2,f,x,h,h'=>by simp at h
theorem ZDp {α β:Type} {P:α->β->Prop} {a:α} {e:β} (h1:P a e):∀ (k:Nat) (f:α) (x:β),[a][k]?=some f->[e][k]?=some x->P f x
 | 0,f,x,h,h'=>by simp at h h';rw[<- h,<- h'];exact h1
 | k+1,f,x,h,h'=>by simp at h
theorem Zt0 {H:Zd} {a c:Zf}:(H++[a]++[c])[H.length]?=some a:=by simp[List.getElem?_append]
theorem Ztb {H:Zd} {a c:Zf}:(H++[a]++[c])[H.length+1]?=some c:=by simp[List.getElem?_append]
theorem ZHQ {v:List UInt8} (h1:∀ p∈m,p.1.length<=12) (hk:k.length<=12):∀ p∈Qw k v m,p.1.length<=12:=by
 intro p hp;unfold Qw at hp;split at hp
 .obtain⟨x,hx,rfl⟩:=List.mem_map.1 hp;split
  .exact hk
  .exact h1 x hx
 .rcases List.mem_append.1 hp with hp|hp
  .exact h1 p hp
  .simp at hp;rw[hp];exact hk
theorem ZdF {α:Type} {m:List (List UInt8 × α)} {v:α}:(Qw k v m).length=if(Ze k m).isSome then m.length else m.length+1:=by
 unfold Qw;split<;>simp
theorem Ky (h:Zw k=true):k.length<=12:=by
 unfold Zw at h;simp only[Bool.and_eq_true,decide_eq_true_eq] at h;exact h.1.1.1.2
theorem Zsp:∀ {es:List Int} {e:Int},WR e es=0↔e=0/\∀ a∈es,a=0
 | [],e=>by simp[WR]
 | a :: es,e=>by
  have:WR e (a :: es)=WR (if e=0 then a else e) es:=rfl;rw[this,Zsp];by_cases he:e=0<;>simp[he]
theorem ZcQ:ZE k=0↔Zw k=true:=by unfold ZE;split<;>simp_all
theorem ZyI:Qj s=0↔K9 s=true:=by unfold Qj;split<;>simp_all
theorem ZCp:YZ k m=0↔(Ze k m).isSome=true:=by unfold YZ;split<;>simp_all
theorem ZDD:ZbT k m=0↔(Ze k m).isSome=false/\m.length < 12:=by
 unfold ZbT;split
 .simp_all
 .split
  .simp_all
  .simp_all
def Zfy (k s:List UInt8) (m:QH):QH:=if YV k s m=0 then Qw k s m else m
def Zft (k:List UInt8) (m:QH):QH:=if Jj k m=0 then Yx k m else m
def ZnX (k s:List UInt8) (m:QH):QH:=if ZaN k s m=0 then Qw k s m else m
theorem Dir.putc (h:Dir H d b m) (g:JL strv H' b (Qw k s m)) (hs:Zo [b] H [b] H') (hk:k.length<=12) (hf:(Qw k s m).length<=12):Dir H' d b (Qw k s m):=
 ⟨hs.get h.c (by simp[h.ne]),g,ZHQ h.len hk,hf⟩
theorem ZFZ (h:Dir H d b m) (hk:k.length<=1000000000) (hs:s.length<=1000000000):∃ H',R (n+7) Zbh [pt d,strv k,strv s] H=some (iv (YV k s m),H')/\Dir H' d b (Zfy k s m)/\Zo [b] H [b] H':=by
 have e1:run Tryz.prog np lvs (n+6) ZcZ [strv s] H=_:=ZGo;have a1:HLe H (H++[Zf.cells [strv s] 1 false false]):=.app _ _;have p1:(H++[Zf.cells [strv s] 1 false false])[H.length]?=some (.cells [strv s] 1 false false):=Zn;generalize hH1:H++[Zf.cells [strv s] 1 false false]=H1 at e1 a1 p1;generalize H.length=q0 at e1 p1;have e2:run Tryz.prog np lvs (n+6) Zcy [pt d,strv k] H1=_:=ZIW;have a2:HLe H1 (H1++[.cells [pt d] 1 false false]++[.cells [strv k] 1 false false]):=(HLe.app _ _).trans (.app _ _);have p2:(H1++[Zf.cells [pt d] 1 false false]++[.cells [strv k] 1 false false])[H1.length]?=some (.cells [pt d] 1 false false):=Zt0;have p3:(H1++[Zf.cells [pt d] 1 false false]++[.cells [strv k] 1 false false])[H1.length+1]?=some (.cells [strv k] 1 false false):=Ztb;generalize hH2:H1++[Zf.cells [pt d] 1 false false]++[.cells [strv k] 1 false false]=H2 at e2 a2 p2 p3;generalize H1.length=q1 at e2 p2 p3;have e3:=ZGA (a:=.func (.func Yh) #[] #[pt q0]) (c:=.func (.func Yy) #[] #[pt q1,pt (q1+1)]) rfl rfl rfl rfl H2;have a3:HLe H2 (H2++[Zf.cells [.func (.func Yh) #[] #[pt q0],.func (.func Yy) #[] #[pt q1,pt (q1+1)]] 1 false false]):=.app _ _;have s3:Sl (H2++[Zf.cells [.func (.func Yh) #[] #[pt q0],.func (.func Yy) #[] #[pt q1,pt (q1+1)]] 1 false false]) (.slice (some ⟨H2.length,0,none⟩) 2 2) [.func (.func Yh) #[] #[pt q0],.func (.func Yy) #[] #[pt q1,pt (q1+1)]]:=Sl.one (c:=2) Zn;generalize H2++[Zf.cells [.func (.func Yh) #[] #[pt q0],.func (.func Yy) #[] #[pt q1,pt (q1+1)]] 1 false false]=H3 at e3 a3 s3
 generalize(Value.slice (some ⟨H2.length,0,none⟩) 2 2)=sl at e3 s3;have l3:=(a1.trans a2).trans a3;obtain⟨H4,e4,a4⟩:=Zu0 (n:=n) (es:=[Qj s,ZbT k m]) hk rfl (Nat.le_of_lt_succ (by simp)) s3 (Zuo (P:=fun f e=>∀ H1,HLe H3 H1->∃ H2,Qt (R (n+5)) f [] H1=some (iv e,H2)/\HLe H1 H2)
  (fun X hx=>ZGn hs (hx _ _ (a3 _ _ (a2 _ _ p1)))) (fun X hx=>ZIq (n:=n+3) (h.hle (l3.trans hx)) (hx _ _ (a3 _ _ p2)) (hx _ _ (a3 _ _ p3))))
 have e4:run Tryz.prog np lvs (n+6) KR [strv k,sl] H3=some (iv (YV k s m),H4):=e4;have l4:=l3.trans a4;have h4:=h.hle l4;have hbody:∀ r,bind (bop .int .eql (iv (YV k s m)) (.int .i64 0)) (fun v=>jn (cnd v (bind (Zx (pt d)) fun v19x6=>bind (fa 0 v19x6) fun v20x7=>bind (ld1 v20x7) fun v21x8=>bind (mup .str v21x8 (strv k) (strv s)) fun _=>ret (.nrm [iv (YV k s m)])) (ret (.nrm [iv (YV k s m)]))) (c1 fun q9_0=>ret q9_0) noX ret) H4=r->
   R (n+7) Zbh [pt d,strv k,strv s] H=r:=fun r hr=>by
  rw[R,ZoV rfl];unfold Ze9;rw[Za e1,Za e2,Za e3,Za e4];exact hr
 unfold Zfy;by_cases he:YV k s m=0
 .have hz:=Zsp.1 he;have hk12:=Ky (ZcQ.1 hz.1);have hr:=ZDD.1 (hz.2 (ZbT k m) (by simp));obtain⟨H5,e5,g5,s5,_⟩:=h4.g.mup (k:=k) (v:=s);rw[if_pos he];refine⟨H5,hbody _ ?_,h4.putc g5 s5 hk12 (by rw[ZdF,hr.1];simp;omega),(l4.step.more (by simp) (fun j hj=>.inl hj)).trans s5⟩;rw[Za ZA];refine(ZC (vs:=[iv (YV k s m)]) (H':=H5) ?_).trans rfl;rw[Zb,if_pos (by simpa using he),Za Zg,Za Zi,Za (KQ h4.c),Za e5];rfl
 .rw[if_neg he];refine⟨H4,hbody _ ?_,h4,l4.step.more (by simp) (fun j hj=>.inl hj)⟩;rw[Za ZA];refine(ZC (vs:=[iv (YV k s m)]) (H':=H4) ?_).trans rfl;rw[Zb,if_neg (by simpa using he)];rfl
theorem ZJM (h:Dir H d b m):R (n+1) Zc6 [pt d] H=some (iv m.length,H):=by
 rw[R,Zs6 rfl];unfold Zij;rw[Za Zg,Za Zi,Za (KQ h.c),Za h.g.len];rfl
theorem Zbp {g:Nat} {mm:List Value->M Value} {args:List Value} (hp:np g=some mm) (hy:Nat.blt g KV=true:=by rfl):run Tryz.prog np lvs (n+1) g args=mm args:=by
 unfold run;simp only[hy,hp,cond_true]
theorem ZAY (h:Dir H d b m):∃ v q H',R (n+2) Zb1 [pt d] H=some (v,H')/\Zt H' v ((ZN (m.map (·.1))).map strv) q/\HLe H H'/\∀ j∈q,H.length<=j:=by
 have e1:run Tryz.prog np lvs (n+1) JY [.map (some b)] H=some (.func (.func Zpp) #[] #[pt H.length],H++[.cells [.map (some b)] 1 false false]):=by
  rw[Zde rfl];unfold Ke;rw[Za (Zeg rfl rfl _)];rfl
 have l1:HLe H (H++[.cells [.map (some b)] 1 false false]):=.app _ _;obtain⟨v,q,H2,e2,r2,l2,o2⟩:=(h.g.hle l1).keys (gks:=ZcF) (gc:=Z6) (gk:=Zpp) (c:=H.length) (by decide) Zn (Nat.le_trans h.few (by decide)) (fun p hp=>Nat.le_trans (h.len p hp) (by decide));have e2':run Tryz.prog np lvs (n+1) ZR [.func (.func Zpp) #[] #[pt H.length],.func (.func Z6) #[] #[]] (H++[.cells [.map (some b)] 1 false false])=some (v,H2):=by
  rw[Zbp (show np ZR=some (Zb2 ZcF Z6) from rfl)];exact e2
 refine⟨v,q,H2,?_,r2,l1.trans l2,fun j hj=>Nat.le_trans l1.len (o2 j hj)⟩;rw[R,Zqi rfl];unfold Zgm;rw[Za Zg,Za Zi,Za (KQ h.c),Za e1,Za e2'];rfl
end
def Zgl (pre s:List UInt8):Bool:=decide (pre.length<=s.length) && (s.take pre.length==pre)
section
variable {H H':Zd} {n:Nat} {s pre:List UInt8}
theorem ZxA {k:Nat} (hk:k<=s.length):sls (strv s) none (some (iv k)) H=some (strv (s.take k),H):=by
 have h1:(⟨s.toArray⟩:ByteArray).size=s.length:=by simp[ByteArray.size]
 have h2:(⟨s.toArray⟩:ByteArray).extract 0 k=⟨(s.take k).toArray⟩:=by
  apply ByteArray.ext
  rw[ByteArray.data_extract];simp
 have hb:bnd (some (iv k)) s.length=some k:=by simp[bnd]
 have hb0:bnd none 0=some 0:=rfl;unfold strv sls;simp only[h1,hb,hb0];rw[if_pos ⟨Nat.zero_le _,hk⟩,h2]
theorem Zyn (hs:s.length<=1000000000) (hp:pre.length<=1000000000):R (n+1) Yb [strv s,strv pre] H=some (.bool (Zgl pre s),H):=by
 rw[R,Zfb rfl];unfold Wz Zgl;rw[Za Qg,Za Qg];by_cases h:pre.length<=s.length
 .have q1:bop .int .geq (iv s.length) (iv pre.length) H=some (.bool true,H):=by rw[Qu,decide_eq_true (by omega)]
  rw[Za q1,Z4,Zm,Za Qg,Zm,Za (ZxA h),Zm,Za Zkm,Z5,YL,Za Zk,decide_eq_true h];rfl
 .have q1:bop .int .geq (iv s.length) (iv pre.length) H=some (.bool false,H):=by rw[Qu,decide_eq_false (by omega)]
  rw[Za q1];simp[↓Qe,Qd,↓QF,Qn,Qq,Qr,↓Zb,Yc,Zg,YA,Qs,JK,QB,JJ,Jx,QV,JR,QW,QU,Q8,Q9,Qx,Zk,ZP,Kf,YO,Ju,QS,JU,ZG,QZ,JZ,Yg,J8,ZA,Zl,Zs,JB,Z0,Qu,JS,JX,Jc,J0,↓Kq,Ye,↓g_r,Kz,Bool.not_true,Bool.not_false,Bool.false_eq_true,Bool.true_eq_false,reduceIte,List.tail_cons,List.headD_cons,decide_true,decide_false,cond_true,cond_false,Nat.beq_refl,WM,Yi,ZT,ZY,ZL,QJ,YL,Wt,K7,WO,Kk,Kn,Kl,ZI,List.replicate,Zp,Zq,QG,Q7,QE,Zi,Yl,Qg,ZM,h]
theorem Zre (hs:s.length<=1000000000) (hp:pre.length<=1000000000):R (n+2) Kx [strv s,strv pre] H=some (.bool (Zgl pre s),H):=by
 have e1:run Tryz.prog np lvs (n+1) Yb [strv s,strv pre] H=_:=Zyn hs hp;rw[R,Zmn rfl];unfold ZdX;rw[Za e1];rfl
theorem ZHB {c:Nat} (hs:s.length<=1000000000) (hp:pre.length<=1000000000) (hc:H[c]?=some (.cells [strv pre] 1 false false)):R (n+3) ZbX [strv s,pt c] H=some (.bool (!Zgl pre s),H):=by
 have e1:run Tryz.prog np lvs (n+2) Kx [strv s,strv pre] H=_:=Zre hs hp;rw[R,Zql rfl];unfold Zgb;rw[Za (KQ hc),Za e1,Za ZP];rfl
section
variable {f v:Value} {p:List UInt8->Bool} {l:List (List UInt8)} {q:List Nat} {Q:Zd->Prop}
theorem Wr {ss:List (List UInt8)} {i:Nat} {x:List UInt8} (h:ss[i]?=some x):(ss.map strv)[i]?=some (strv x):=by rw[List.getElem?_map,h];rfl
theorem ZEo (hr:Zt H v (l.map strv) q) (hl:l.length<=1000000) (hf:∀ s∈l,Qt (R n) f [strv s] H=some (.bool (p s),H)):∀ (t k:Nat),l.length - k=t->k<=l.length->
  Zj (c4 (ZF.l1 (R n))) [v,f,iv l.length,iv k] H=some (match (l.drop k).findIdx? p with|some i=>.ret (iv (k+i:Nat))|none=>.ext 0 [],H)
 | 0,k,ht,hk=>by
  have:k=l.length:=by omega
  subst this;rw[List.drop_length];refine ZZ ?_;rw[ZL];unfold ZF.l1;rw[Za Zs,Zb,if_neg (by simp)];rfl
 | t+1,k,ht,hk=>by
  have hkl:k < l.length:=by omega
  have hlt:(k:Int) < l.length:=by omega
  have hg:=List.getElem?_eq_getElem hkl;have hm:l[k]∈l:=List.getElem_mem hkl;have hd:=List.drop_eq_getElem_cons hkl;generalize l[k]=x at hg hd hm;have x1:=hr.ix (i:=k) (by simpa using hkl) .i64 H;have x2:=hr.ldx (Wr hg);have x3:=hf x hm;have ih:=ZEo hr hl hf t (k+1) (by omega) (by omega);rw[hd,List.findIdx?_cons];cases hp:p x
  .rw[hp] at x3;refine(ZJ ?_).trans (ih.trans ?_)
   .rw[ZL];unfold ZF.l1;rw[Za Zs,Zb,if_pos (by simpa using hlt),Za x1,Za x2,Za x3,Zb,if_neg (by simp),Za ZG,Je (by omega)];rfl
   .cases (l.drop (k+1)).findIdx? p with
    | none=>rfl
    | some i=>simp only[Bool.false_eq_true,if_false,Option.map_some];rw[show k+1+i=k+(i+1) by omega]
  .rw[hp] at x3;refine Yu ?_;rw[ZL];unfold ZF.l1;rw[Za Zs,Zb,if_pos (by simpa using hlt),Za x1,Za x2,Za x3,Zb,if_pos rfl];rfl
theorem ZHJ (hr:Zt H v (l.map strv) q) (hl:l.length<=1000000) (hf:∀ s∈l,Qt (R n) f [strv s] H=some (.bool (p s),H)) :
  R (n+1) QX [v,f] H=some (match l.findIdx? p with|some i=>iv i|none=>iv (-1),H):=by
 have e:=ZEo hr hl hf l.length 0 (by omega) (by omega);rw[List.drop_zero] at e;have e:Zj (c4 (ZF.l1 (R n))) [v,f,iv l.length,.int .i64 0] H=_:=e;have hlen:ZB v H=some (iv l.length,H):=by have:=hr.rd.len (H':=H);simpa using this
 rw[R,ZbJ rfl];unfold ZF;rw[Za hlen];cases h:l.findIdx? p with
 | none=>rw[h] at e;rw[Qk e,ZI];rfl
 | some i=>
  rw[h] at e;rw[KG e];simp[ret]
theorem ZzA (hl:l.length<=1000000) (hQ:∀ X X',Q X->Zo q X q X'->Q X') (hf:∀ X,Q X->∀ s∈l,Qt (R n) f [strv s] X=some (.bool (p s),X)):∀ (t j i:Nat) (cs:List (List UInt8)) (X:Zd),l.length - j=t->j<=l.length->i<=j->cs.length=l.length->cs.drop j=l.drop j->Zt X v (cs.map strv) q->Q X->
  ∃ (X':Zd) (cs':List (List UInt8)),Zj (c4 (ZD.l1 (R n))) [v,f,iv i,iv j] X=some (.ext 0 [v,iv (i+((l.drop j).filter fun s=>!p s).length:Nat)],X')/\Zt X' v (cs'.map strv) q/\cs'.length=l.length/\
   cs'.take (i+((l.drop j).filter fun s=>!p s).length)=cs.take i++(l.drop j).filter (fun s=>!p s)/\Zo q X q X'
 | 0,j,i,cs,X,ht,hj,hi,hc,hd,hr,hq=>by
  have:j=l.length:=by omega
  subst this;rw[List.drop_length];have hlen:ZB v X=some (iv l.length,X):=by have:=hr.rd.len (H':=X);simpa[hc] using this
  refine⟨X,cs,ZZ ?_,hr,hc,by simp,.refl _ _⟩;rw[ZL];unfold ZD.l1;rw[Za hlen,Za Zs,Zb,if_neg (by simp)];rfl
 | t+1,j,i,cs,X,ht,hj,hi,hc,hd,hr,hq=>by
  have hjl:j < l.length:=by omega
  have hlt:(j:Int) < l.length:=by omega
  have hg:=List.getElem?_eq_getElem hjl;have hm:l[j]∈l:=List.getElem_mem hjl;have hdl:=List.drop_eq_getElem_cons hjl;generalize l[j]=x at hg hdl hm;have hgc:cs[j]?=some x:=by
   have h1:(cs.drop j)[0]?=(l.drop j)[0]?:=by rw[hd]
   simpa[hg] using h1
  have hlen:ZB v X=some (iv l.length,X):=by have:=hr.rd.len (H':=X);simpa[hc] using this
  have x1:=hr.ix (i:=j) (by simpa[hc] using hjl) .i64 X;have x2:=hr.ldx (Wr hgc);have x3:=hf X hq x hm;have hd1:cs.drop (j+1)=l.drop (j+1):=by
   rw[<- List.drop_drop,hd,List.drop_drop]
  rw[hdl,List.filter_cons];cases hp:p x
  .rw[hp] at x3;have x4:=hr.ix (i:=i) (by simp[hc];omega) .i64 X;obtain⟨X1,x5,r1,s1,_⟩:=hr.stx (i:=i) (u:=strv x) (by simp[hc];omega) rfl;have hset:(cs.map strv).set i (strv x)=(cs.set i x).map strv:=by rw[List.map_set]
   rw[hset] at r1;obtain⟨X',cs',e,r',hc',ht',s'⟩:=ZzA hl hQ hf t (j+1) (i+1) (cs.set i x) X1 (by omega) (by omega) (by omega) (by simpa using hc) (by rw[List.drop_set_of_lt (by omega)];exact hd1) r1 (hQ _ _ hq s1);have hn:i+1+((l.drop (j+1)).filter fun s=>!p s).length=i+(((l.drop (j+1)).filter fun s=>!p s).length+1):=by omega
   rw[hn] at e ht';simp only[Bool.not_false,if_true,List.length_cons];refine⟨X',cs',(ZJ ?_).trans e,r',hc',?_,s1.trans s'⟩
   .rw[ZL];unfold ZD.l1;rw[Za hlen,Za Zs,Zb,if_pos (by simpa using hlt),Za x1,Za x2,Za x3,Za ZP];refine(ZC (vs:=[v,f,iv ((i+1:Nat):Int),iv j]) (H':=X1) ?_).trans ?_
    .rw[Zb,if_pos (by rfl),Za x4,Za x5,Za ZG,Je (by omega)];rfl
    .rw[ZL,Za ZG,Je (by omega)];rfl
   .rw[ht'];have:(cs.set i x).take (i+1)=cs.take i++[x]:=by
     have hil:i < (cs.set i x).length:=by simp[hc];omega
     rw[List.take_succ_eq_append_getElem hil,List.take_set_of_le (Nat.le_refl _)];simp
    rw[this];simp
  .rw[hp] at x3;obtain⟨X',cs',e,r',hc',ht',s'⟩:=ZzA hl hQ hf t (j+1) i cs X (by omega) (by omega) (by omega) hc hd1 hr hq;simp only[Bool.not_true,Bool.false_eq_true,if_false];refine⟨X',cs',(ZJ ?_).trans e,r',hc',ht',s'⟩;rw[ZL];unfold ZD.l1;rw[Za hlen,Za Zs,Zb,if_pos (by simpa using hlt),Za x1,Za x2,Za x3,Za ZP];refine(ZC (vs:=[v,f,iv i,iv j]) (H':=X) ?_).trans ?_
   .rw[Zb,if_neg (by simp)];rfl
   .rw[ZL,Za ZG,Je (by omega)];rfl
theorem Zif:∀ {l:List (List UInt8)},(match l.findIdx? p with|some i=>l.filter (fun s=>!p s)=l.take i++(l.drop (i+1)).filter (fun s=>!p s)/\i < l.length|none=>l.filter (fun s=>!p s)=l)
 | []=>by simp
 | x :: l=>by
  have ih:=Zif (l:=l);rw[List.findIdx?_cons];cases hp:p x
  .simp only[Bool.false_eq_true,if_false];cases h:l.findIdx? p with
   | none=>rw[h] at ih;simp[hp];simpa using ih
   | some i=>rw[h] at ih;simp[hp,ih.1,ih.2]
  .simp[hp]
theorem ZIn (k:Nat):reps k (Value.string ⟨#[]⟩).cells.toList=List.replicate k (strv []):=by
 induction k with
 | zero=>rfl
 | succ k ih=>
  unfold reps at ih ⊢;rw[List.replicate_succ,List.flatten_cons,ih];rfl
theorem Zwc {cs:List (List UInt8)} {i:Nat} (hr:Zt H v (cs.map strv) q) (hi:i < cs.length):∃ a H' v',slv 1 v (some (iv i)) none none H=some (a,H)/\clr (.string ⟨#[]⟩) 1 a H=some (.tuple #[],H')/\slv 1 v none (some (iv i)) none H'=some (v',H')/\Zt H' v' ((cs.take i).map strv) q/\Zo q H q H':=by
 rcases hr with⟨h1,_,_⟩|⟨sid,rest,g,rfl,rfl,hid⟩
 .simp at h1;simp[h1] at hi
 .rw[List.length_map] at *;have b1:bnd (some (iv i)) 0=some i:=by simp[bnd]
  have b1':bnd (some (iv i)) cs.length=some i:=by simp[bnd]
  have b2:∀ k,bnd none k=some k:=fun _=>rfl;have hsp:splice (cs.map strv++rest) (List.replicate (cs.length - i) (strv [])) i=(cs.take i).map strv++(List.replicate (cs.length - i) (strv [])++rest):=by
   unfold splice;rw[List.length_replicate,Nat.add_sub_cancel' (Nat.le_of_lt hi),List.take_append_of_le_length (by simp;omega),List.drop_append_of_le_length (by simp),List.drop_eq_nil_of_le (by simp),List.map_take];simp
  refine⟨.slice (some ⟨sid,0+i * 1,none⟩) (cs.length - i) (cs.length+rest.length - i),H.set sid (.cells ((cs.take i).map strv++(List.replicate (cs.length - i) (strv [])++rest)) 1 g false),.slice (some ⟨sid,0,none⟩) i (cs.length+rest.length),?_,?_,?_,?_,⟨by simp,fun j hj hn=>List.getElem?_set_ne (fun e=>hn (by simp[e])),fun j hj=>.inl hj⟩⟩
  .simp only[slv,hid,b1,b2];rw[if_pos ⟨trivial,by omega,by omega,Nat.le_refl _⟩,if_neg (by omega)]
  .simp only[clr];rw[if_neg (by omega)];simp only[hid];rw[if_pos ⟨trivial,by simp;omega⟩,ZIn];rw[Nat.zero_add,Nat.mul_one,hsp]
  .simp only[slv,ZW hid,b1',b2];rw[if_pos ⟨trivial,by omega,by omega,Nat.le_refl _⟩,if_neg (by omega)];simp
  .have hl:((cs.take i).map strv).length=i:=by simp;omega
   refine .inr ⟨sid,List.replicate (cs.length - i) (strv [])++rest,g,?_,rfl,ZW hid⟩;rw[hl];simp;omega
theorem Zn7 (hr:Zt H v (l.map strv) q) (hl:l.length<=1000000) (hQ:∀ X X',Q X->Zo q X q X'->Q X') (hf:∀ X,Q X->∀ s∈l,Qt (R n) f [strv s] X=some (.bool (p s),X)) (hf1:∀ X,Q X->∀ s∈l,Qt (R (n+1)) f [strv s] X=some (.bool (p s),X)) (h0:Q H) :
  ∃ H' v',R (n+2) Qa [v,f] H=some (v',H')/\Zt H' v' ((l.filter fun s=>!p s).map strv) q/\Zo q H q H':=by
 have e1:run Tryz.prog np lvs (n+1) QX [v,f] H=_:=ZHJ hr hl (hf H h0);have hfi:=Zif (p:=p) (l:=l);have hrun:R (n+2) Qa [v,f] H=ZD (R (n+1)) v f H:=by rw[R,ZbE rfl]
 rw[hrun];unfold ZD;cases h:l.findIdx? p with
 | none=>
  rw[h] at e1 hfi;refine⟨H,v,?_,by rw[hfi];exact hr,.refl _ _⟩;rw[Za e1,Za ZA,Zb,if_pos (by simp)];rfl
 | some i=>
  rw[h] at e1 hfi;simp only at e1 hfi;obtain⟨X',cs',e2,r2,hc2,ht2,s2⟩:=ZzA (n:=n+1) hl hQ hf1 (l.length - (i+1)) (i+1) i l H rfl (by omega) (by omega) rfl rfl hr h0;have hle:((l.drop (i+1)).filter fun s=>!p s).length<=l.length - (i+1):=by
   have:=List.length_filter_le (fun s=>!p s) (l.drop (i+1));simpa using this
  obtain⟨a,X2,v',a1,a2,a3,a4,a5⟩:=Zwc r2 (i:=i+((l.drop (i+1)).filter fun s=>!p s).length) (by omega);refine⟨X2,v',?_,by rw[hfi.1,<- ht2];exact a4,s2.trans a5⟩;rw[Za e1,Za ZA,Zb,if_neg (by simp),Za ZG,Je (by omega),Qk e2,ZI,ZT,Za a1,Za a2,Za a3];rfl
end
end
def usr (u:List UInt8 × List UInt8):List Value:=[strv u.1,strv u.2,strv [],.bool false,.slice none 0 0]
def Q3 (m:QH):QH:=(ZN (m.map (·.1))).map fun k=>(k,(Ze k m).getD [])
section
variable {H H':Zd} {n d b:Nat} {m:QH} {pre:List UInt8}
theorem ZyJ {k:List UInt8} (hk:k∈ZN (m.map (·.1))):k∈m.map (·.1):=(List.mem_mergeSort).1 hk
theorem ZFJ (h:Dir H d b m) {k:List UInt8} (hk:k∈ZN (m.map (·.1))):k.length<=12:=by
 obtain⟨p,hp,rfl⟩:=List.mem_map.1 (ZyJ hk);exact h.len p hp
theorem Zx8 (h:Dir H d b m):(ZN (m.map (·.1))).length<=12:=by
 rw[ZkG,List.length_map];exact h.few
theorem ZEp (h:Dir H d b m) (hp:pre.length<=1000000000):∃ v q H',R (n+6) Zeb [pt d,strv pre] H=some (.tuple #[v,iv (YS pre)],H')/\Zt H' v ((if Zja pre then(ZN (m.map (·.1))).filter (Zgl pre) else[]).map strv) q/\HLe H H'/\∀ j∈q,H.length<=j:=by
 have e0:=Zeg (v:=strv pre) rfl rfl H;have l0:HLe H (H++[Zf.cells [strv pre] 1 false false]):=.app _ _;have c0:(H++[Zf.cells [strv pre] 1 false false])[H.length]?=some (.cells [strv pre] 1 false false):=Zn;have g0:(H++[Zf.cells [strv pre] 1 false false]).length=H.length+1:=by simp
 generalize H++[Zf.cells [strv pre] 1 false false]=H1 at e0 l0 c0 g0;generalize hc:H.length=c at e0 c0 g0;have e1:run Tryz.prog np lvs (n+5) Zbs [strv pre] H1=some (iv (YS pre),H1):=Zyl hp;by_cases hb:Zja pre=true
 .have he:YS pre=0:=by unfold YS;rw[if_pos hb]
  obtain⟨v,q,H2,e2,r2,l2,o2⟩:=ZAY (n:=n+3) (h.hle l0);have hQ:∀ X X',X[c]?=some (.cells [strv pre] 1 false false)->Zo q X q X'->X'[c]?=some (.cells [strv pre] 1 false false):=fun X X' hx hs=>hs.get hx fun hj=>by have:=o2 c hj;omega
  have hcall:∀ n X,X[c]?=some (.cells [strv pre] 1 false false)->∀ s∈ZN (m.map (·.1)),Qt (R (n+3)) (.func (.func ZbX) #[] #[pt c]) [strv s] X=some (.bool (!Zgl pre s),X):=fun n X hx s hs=>by
   rw[show(#[pt c]:Array Value)=[pt c].toArray from rfl,ZjU];exact ZHB (Nat.le_trans (ZFJ h hs) (by decide)) hp hx
  have hfew:=Zx8 h;obtain⟨H3,v',e3,r3,s3⟩:=Zn7 (n:=n+3) (f:=.func (.func ZbX) #[] #[pt c]) (p:=fun s=>!Zgl pre s) (Q:=fun X=>X[c]?=some (.cells [strv pre] 1 false false)) r2 (by omega) hQ (hcall n) (hcall (n+1)) (l2 _ _ c0);have hm:=(l0.trans l2).more s3 (fun j hj=>by have:=o2 j hj;omega);refine⟨v',q,H3,?_,by simpa[hb] using r3,hm.1,fun j hj=>by have:=hm.2 j hj;omega⟩;rw[R,ZjT rfl];unfold Zd8;rw[Za e0,Za (KQ c0),Za e1,Za Zl,he,Zb,if_neg (by simp)];refine(Za e2).trans ((Za e3).trans rfl)
 .have he:YS pre=10:=by unfold YS;rw[if_neg hb]
  refine⟨.slice none 0 0,[],H1,?_,by rw[if_neg hb];exact Zt.nil,l0,by simp⟩;rw[R,ZjT rfl];unfold Zd8;rw[Za e0,Za (KQ c0),Za e1,Za Zl,he,Zb,if_pos (by simp)];rfl
theorem Zp1 {k s:List UInt8} {H:Zd}:bld (.agg #[.string ⟨#[]⟩,.string ⟨#[]⟩,.string ⟨#[]⟩,.bool false,.slice none 0 0]) [(0,1,strv k),(1,1,strv s)] H=some (.agg (usr (k,s)).toArray,H):=by
 simp[↓Qe,Qd,↓QF,Qn,Qq,Qr,↓Zb,Yc,Zg,YA,Qs,JK,QB,JJ,Jx,QV,JR,QW,QU,Q8,Q9,Qx,Zk,ZP,Kf,YO,Ju,QS,JU,ZG,QZ,JZ,Yg,J8,ZA,Zl,Zs,JB,Z0,Qu,JS,JX,Jc,J0,↓Kq,Ye,↓g_r,Kz,YR,Zaj,splice,Value.cells,strv,usr,oneCell]
theorem Zjh (u:List UInt8 × List UInt8):(usr u).length=5:=rfl
theorem ZBc (u:List UInt8 × List UInt8):(usr u).all oneCell=true:=rfl
theorem ZBQ {v:Value} {q0:List Nat} {ks:List (List UInt8)} (h:Dir H d b m) (hr:Zt H v (ks.map strv) q0) (hk:ks.length<=1000) (hH0:∀ j∈q0,j < H.length):∀ (t k:Nat) (sl:Value) (q:List Nat) (X:Zd),ks.length - k=t->k<=ks.length->HLe H X->(∀ j∈q,H.length<=j)->JQ 5 X sl ((ks.take k).map fun k=>usr (k,(Ze k m).getD [])) q->
  ∃ X' sl' q',Zj (c5 (K2.l1 (R n))) [pt d,sl,v,iv ks.length,iv k] X=some (.ext 0 [sl'],X')/\JQ 5 X' sl' (ks.map fun k=>usr (k,(Ze k m).getD [])) q'/\HLe H X'/\(∀ j∈q',H.length<=j)
 | 0,k,sl,q,X,ht,hkl,hl,hq,hn=>by
  have:k=ks.length:=by omega
  subst this;rw[List.take_length] at hn;refine⟨X,sl,q,ZZ ?_,hn,hl,hq⟩;rw[QJ];unfold K2.l1;rw[Za Zs,Zb,if_neg (by simp)];rfl
 | t+1,k,sl,q,X,ht,hkl,hl,hq,hn=>by
  have hlt:k < ks.length:=by omega
  have hlt':(k:Int) < ks.length:=by omega
  have hg:=List.getElem?_eq_getElem hlt;have htk:=List.take_succ_eq_append_getElem hlt;generalize ks[k]=x at hg htk;have hX:=h.hle hl;have hrx:Zt X v (ks.map strv) q0:=hr.keep fun j hj=>hl.step.keep j (hH0 j hj) (by simp);have x1:=hrx.ix (i:=k) (by simpa using hlt) .i64 X;have x2:=hrx.ldx (Wr hg);have x3:=hX.g.lkp (k:=x) (z:=.string ⟨#[]⟩) (ok:=false);have x3:lkp .str (.string ⟨#[]⟩) false (.map (some b)) (strv x) X=some (strv ((Ze x m).getD []),X):=by
   rw[x3];cases Ze x m<;>rfl
  have x4:=ZxB (es:=5) (z:=.agg #[.string ⟨#[]⟩,.string ⟨#[]⟩,.string ⟨#[]⟩,.bool false,.slice none 0 0]) (H:=X) rfl (Zjh (x,(Ze x m).getD [])) (ZBc _);have l1:HLe X (X++[Zf.cells (usr (x,(Ze x m).getD [])) 5 false false]):=.app _ _;have s1:SlN 5 (X++[Zf.cells (usr (x,(Ze x m).getD [])) 5 false false]) (.slice (some ⟨X.length,0,none⟩) 1 1) [usr (x,(Ze x m).getD [])]:=SlN.whole (rows:=[usr (x,(Ze x m).getD [])]) (c:=1) (e:=5) (g:=false) (ro:=false) (by rw[Zn];simp) (by simp[Zjh]);generalize X++[Zf.cells (usr (x,(Ze x m).getD [])) 5 false false]=X1 at x4 l1 s1;have hn1:JQ 5 X1 sl _ q:=hn.keep fun j hj=>l1.step.keep j (hn.lt j hj) (by simp);obtain⟨sl',X2,q',x5,hn2,s2⟩:=hn1.push (b:=80) s1 (Zjh _) (by simp;omega) (by simp;omega);have hm:=(hl.trans l1).more s2 hq;rw[<- List.map_singleton (f:=fun k=>usr (k,(Ze k m).getD [])),<- List.map_append,<- htk] at hn2;obtain⟨X',sl2,q2,e,r⟩:=ZBQ h hr hk hH0 t (k+1) sl' q' X2 (by omega) (by omega) hm.1 hm.2 hn2;refine⟨X',sl2,q2,(ZJ ?_).trans e,r⟩;rw[QJ];unfold K2.l1;rw[Za Zs,Zb,if_pos (by simpa using hlt'),Za x1,Za x2,Za Zg,Za Zi,Za (KQ hX.c),Za x3,Za Zp1,Za x4,Za x5,Za ZG,Je (by omega)];rfl
theorem ZzW (h:Dir H d b m):∃ v q H',R (n+3) ZaA [pt d] H=some (v,H')/\JQ 5 H' v ((Q3 m).map usr) q/\HLe H H'/\∀ j∈q,H.length<=j:=by
 obtain⟨v,q,H1,e1,r1,l1,o1⟩:=ZAY (n:=n) h;have hfew:=Zx8 h;obtain⟨H2,sl,q2,e2,r2,l2,o2⟩:=ZBQ (n:=n+2) (h.hle l1) r1 (by omega) (fun j hj=>r1.lt j hj) (ZN (m.map (·.1))).length 0 (.slice none 0 0) [] H1 rfl (by omega) (.refl _) (by simp) JQ.nil;have e2:Zj (c5 (K2.l1 (R (n+2)))) [pt d,.slice none 0 0,v,iv (ZN (m.map (·.1))).length,.int .i64 0] H1=_:=e2;have hlen:ZB v H1=some (iv (ZN (m.map (·.1))).length,H1):=by have:=r1.rd.len (H':=H1);simpa using this
 refine⟨sl,q2,H2,?_,by unfold Q3;rw[List.map_map];exact r2,l1.trans l2,fun j hj=>Nat.le_trans l1.len (o2 j hj)⟩;rw[R,ZtC rfl];unfold K2;refine(Za e1).trans ?_;rw[Za hlen,Qk e2,ZI];rfl
end
theorem ZBz (s:ByteArray):Value.string s=strv s.data.toList:=by simp[strv]
section
variable {H:Zd} {n:Nat}
end
abbrev Ent:=List UInt8 × List UInt8
def ZrL (l:QH):Prop:=l.Pairwise fun a b=>a.1 < b.1
section
variable {m:QH} {k s:List UInt8} {x:Ent}
theorem Zpg (hn:(m.map (·.1)).Nodup):x∈Q3 m↔Ze x.1 m=some x.2:=by
 unfold Q3;rw[List.mem_map];constructor
 .rintro⟨k,hk,rfl⟩
  have hk:=ZyJ hk;obtain⟨p,hp,rfl⟩:=List.mem_map.1 hk;have:Ze p.1 m=some p.2:=Zck hn hp;simp[this]
 .intro h;refine⟨x.1,List.mem_mergeSort.2 (List.mem_map.2 ⟨_,Ku h,rfl⟩),?_⟩;rw[h];rfl
theorem ZCm (hn:(m.map (·.1)).Nodup):ZrL (Q3 m):=by
 have hk:(ZN (m.map (·.1))).Pairwise (· < ·):=by
  have tr:∀ a b c:List UInt8,leB a b=true->leB b c=true->leB a c=true:=fun a b c h1 h2=>by simp only[leB,decide_eq_true_eq] at *;exact List.le_trans h1 h2
  have to:∀ a b:List UInt8,(leB a b || leB b a)=true:=fun a b=>by simp only[leB,Bool.or_eq_true,decide_eq_true_eq];exact List.le_total a b
  have h1:=List.pairwise_mergeSort tr to (m.map (·.1));have h2:(ZN (m.map (·.1))).Pairwise (·≠·):=List.nodup_iff_pairwise_ne.1 ((List.mergeSort_perm _ _).nodup_iff.2 hn);refine(h1.and h2).imp fun {a b} h=>?_;have h3:a<=b:=by have:=h.1;simpa[leB] using this
  rcases Zpj a b with h4|h4|h4
  .exact h4
  .exact absurd h4 h.2
  .exact absurd h4 h3
 unfold ZrL Q3;rw[List.pairwise_map];exact hk
theorem Zwe:(Q3 m).length=m.length:=by
 unfold Q3;rw[List.length_map,ZkG,List.length_map]
end
def GV (H:Zd) (gv:Value) (gs:List (List UInt8)):Prop:=
 (gs=[]/\(gv=.slice none 0 0\/gv=.slice (some ⟨0,0,some 1⟩) 0 0))\/
 ∃ id rest,gv=.slice (some ⟨id,0,none⟩) gs.length (gs.length+rest.length)/\H[id]?=some (.cells (gs.map strv++rest) 1 false true)
section
variable {H H' X:Zd} {n p:Nat} {gv:Value} {gs:List (List UInt8)}
theorem GV.mono (h:GV H gv gs) (hl:HLe H H'):GV H' gv gs:=by
 rcases h with h|⟨id,rest,h1,h2⟩
 .exact .inl h
 .exact .inr ⟨id,rest,h1,hl _ _ h2⟩
theorem GV.sl (h:GV H gv gs):Sl H gv (gs.map strv):=by
 rcases h with⟨rfl,rfl|rfl⟩|⟨id,rest,rfl,h2⟩
 .exact Sl.nil
 .exact⟨_,_,rfl,(fun e=>by cases e),rfl⟩
 .refine⟨some ⟨id,0,none⟩,gs.length+rest.length,by rw[List.length_map],(fun e=>by cases e),?_⟩;simp only[QL,h2];rw[if_pos (by simp)];simp
theorem GV.len (h:GV H gv gs):ZB gv H'=some (iv gs.length,H'):=by
 have:=h.sl.len (H':=H')
 rwa [List.length_map] at this
theorem GV.one (h:GV H gv gs):oneCell gv=true:=by
 rcases h with⟨_,rfl|rfl⟩|⟨id,rest,rfl,_⟩<;>rfl
structure Zv where
 nm:List UInt8
 hs:List UInt8
 ml:List UInt8
 ds:Bool
 gv:Value
 gs:List (List UInt8)
abbrev Zv.cells (u:Zv):List Value:=[strv u.nm,strv u.hs,strv u.ml,.bool u.ds,u.gv]
def Zv.ok (H:Zd) (u:Zv):Prop:=GV H u.gv u.gs
theorem Zv.all {u:Zv} (h:u.ok H):u.cells.all oneCell=true:=by
 have:=GV.one h;simp only[Zv.cells,List.all_cons,this];rfl
def Users (H:Zd) (sl:Value) (us:List Zv):Prop:=SlN 5 H sl (us.map Zv.cells)/\∀ u∈us,u.ok H
variable {sl:Value} {us:List Zv}
theorem Users.mono (h:Users H sl us) (hl:HLe H H'):Users H' sl us:=⟨h.1.mono hl,fun u hu=>(h.2 u hu).mono hl⟩
theorem Users.len (h:Users H sl us):ZB sl H'=some (iv us.length,H'):=by
 have:=h.1.len (H':=H')
 rwa [List.length_map] at this
theorem Users.fetch {β:Type} {k:Value->M β} (h:Users H sl us) {j:Nat} {u:Zv} (hj:us[j]?=some u) :
  bind (ixa 5 sl (iv j)) (fun p=>bind (ldA 5 p) fun v=>bind (alc 1 (.agg #[.string ⟨#[]⟩,.string ⟨#[]⟩,.string ⟨#[]⟩,.bool false,.slice none 0 0])) fun q=>bind (stA 5 q v) fun _=>k q) H=k (pt H.length) (H++[.cells u.cells 1 false false]):=by
 have hr:(us.map Zv.cells)[j]?=some u.cells:=by rw[List.getElem?_map,hj];rfl
 rw[h.1.fetch hr (by omega) .i64];exact ZaX (n:=5) (zs:=[.string ⟨#[]⟩,.string ⟨#[]⟩,.string ⟨#[]⟩,.bool false,.slice none 0 0]) (r:=u.cells) rfl rfl rfl (Zv.all (h.2 u (List.mem_of_getElem? hj)))
theorem ZGw {u:Zv} (h:u.ok X):alc 1 (.agg u.cells.toArray) X=some (pt X.length,X++[.cells u.cells 1 false false]):=by
 rw[QU];exact if_pos (show u.cells.toArray.toList.all oneCell=true by simpa using Zv.all h)
end
def Zpm (u:Zv):Bool:=(u.ml==[]) && (!u.ds && decide (u.gs.length=0))
def ZgY (u:Zv):Int:=if Zw u.nm then(if K9 u.hs then(if Zpm u then 0 else 12) else 4) else 10
def Zb5:List Zv->Int
 | []=>0
 | u :: l=>if ZgY u=0 then Zb5 l else ZgY u
def ZiV (u:Zv):Ent:=(u.nm,u.hs)
def ZeN:Option (List UInt8)->List Zv->Bool
 | _,[]=>true
 | p,u :: l=>(match p with|none=>true|some p=>decide (p < u.nm)) && ZeN (some u.nm) l
def Zho (us:List Zv) (k:Nat):Option (List UInt8):=if k=0 then none else(us[k - 1]?).map (·.nm)
section
variable {H0 H X:Zd} {n p:Nat} {u:Zv} {us:List Zv} {sl:Value}
theorem ZDQ {β:Type} {K:Value->M β} (hc:X[p]?=some (.cells u.cells 1 false false)) (hg:GV X u.gv u.gs) :
  bind (bop .str .neq (strv u.ml) (.string ⟨#[]⟩)) (fun v35=>bind (gate v35 false 2 (bind (fa 3 (pt p)) fun a=>bind (ld1 a) fun b=>ret [a,b])) (c2 fun _ q=>bind (pick v35 (Value.bool true) q) fun v39=>bind (gate v39 false 4 (bind (fa 4 (pt p)) fun a=>bind (ld1 a) fun b=>bind (ZB b) fun c=>bind (bop .int .gtr c (Value.int .i64 0)) fun d=>ret [a,b,c,d])) (c4 fun _ _ _ q=>bind (pick v39 (Value.bool true) q) K))) X=K (.bool (!Zpm u)) X:=by
 have a0:∀ f x,u.cells[f]?=some x->ld1 (pa p f) X=some (x,X):=fun f x h=>Zy hc h;have q1:bop .str .neq (strv u.ml) (.string ⟨#[]⟩) X=some (.bool (!(u.ml==[])),X):=Zhl (b:=[]);have hl:decide ((u.gs.length:Int) > 0)=!decide (u.gs.length=0):=by by_cases h:u.gs.length=0<;>simp[h]<;>omega
 unfold Zpm;rw[Za q1];cases u.ml==[]
 .simp only[Bool.not_false];rw[Za (g_r.trans (if_neg (by simp)))];simp only[List.replicate];rw[ZT,Za Zk];simp only[cond_true];rw[Za (g_r.trans (if_neg (by simp)))];simp only[List.replicate];rw[ZL,Za Zk];rfl
 .simp only[Bool.not_true];rw[Z4,Zm,Za Zi,Zm,Za (a0 3 _ rfl),Z5,ZT,Za Zk];simp only[cond_false];cases u.ds
  .rw[Z4,Zm,Za Zi,Zm,Za (a0 4 _ rfl),Zm,Za hg.len,Zm,Za Z0,Z5,ZL,Za Zk,hl];simp
  .rw[Za (g_r.trans (if_neg (by simp)))];simp only[List.replicate];rw[ZL,Za Zk];rfl
theorem Zvz {a c:Int} {v:Value} (hs:Sl X v [iv a,iv c]):R (n+1) Za4 [v] X=some (iv (if a=0 then c else a),X):=by
 have e1:ZB v X=some (iv 2,X):=hs.len;have x1:ixa 1 v (.int .i64 0) X=some (ixp v 0,X):=hs.ix (i:=0) (by simp) .i64 X;have x2:=hs.ldx (i:=0) (v:=iv a) rfl;have x3:ixa 1 v (.int .i64 1) X=some (ixp v 1,X):=hs.ix (i:=1) (by simp) .i64 X;have x4:=hs.ldx (i:=1) (v:=iv c) rfl;have w1:IntKind.i64.wrap (0+1)=1:=w64 (by omega) (by omega);have w2:IntKind.i64.wrap (1+1)=2:=w64 (by omega) (by omega);rw[R,Zxg rfl];unfold Yk;rw[Za e1];by_cases ha:a=0
 .rw[if_pos ha];have s1:c3 (Yk.l1 (run Tryz.prog np lvs n)) [v,iv 2,.int .i64 0] X=some (.nrm [v,iv 2,.int .i64 1],X):=by
   rw[ZY];unfold Yk.l1;rw[Za Zs,Zb,if_pos (by decide),Za x1,Za x2,Za Zl,Zb,if_neg (by simp[ha]),Za ZG,w1];rfl
  by_cases hc:c=0
  .have s2:c3 (Yk.l1 (run Tryz.prog np lvs n)) [v,iv 2,.int .i64 1] X=some (.nrm [v,iv 2,.int .i64 2],X):=by
    rw[ZY];unfold Yk.l1;rw[Za Zs,Zb,if_pos (by decide),Za x3,Za x4,Za Zl,Zb,if_neg (by simp[hc]),Za ZG,w2];rfl
   have s3:c3 (Yk.l1 (run Tryz.prog np lvs n)) [v,iv 2,.int .i64 2] X=some (.ext 0 [],X):=by
    rw[ZY];unfold Yk.l1;rw[Za Zs,Zb,if_neg (by decide)];rfl
   rw[Qk ((ZJ s1).trans ((ZJ s2).trans (ZZ s3))),ZI,hc];rfl
  .have s2:c3 (Yk.l1 (run Tryz.prog np lvs n)) [v,iv 2,.int .i64 1] X=some (.ret (iv c),X):=by
    rw[ZY];unfold Yk.l1;rw[Za Zs,Zb,if_pos (by decide),Za x3,Za x4,Za Zl,Zb,if_pos (by simp[hc])];rfl
   rw[KG ((ZJ s1).trans (Yu s2))];rfl
 .rw[if_neg ha];have s1:c3 (Yk.l1 (run Tryz.prog np lvs n)) [v,iv 2,.int .i64 0] X=some (.ret (iv a),X):=by
   rw[ZY];unfold Yk.l1;rw[Za Zs,Zb,if_pos (by decide),Za x1,Za x2,Za Zl,Zb,if_pos (by simp[ha])];rfl
  rw[KG (Yu s1)];rfl
theorem ZCb {a c:Int} (H:Zd):bsl 1 2 (.int .i64 0) [(0,1,iv a),(1,1,iv c)] H=some (.slice (some ⟨H.length,0,none⟩) 2 2,H++[.cells [iv a,iv c] 1 false false]):=rfl
theorem Zlc (h:u.ok X):∃ X',R (n+6) Yz [iv 1,.agg u.cells.toArray] X=some (iv (ZgY u),X')/\HLe X X':=by
 have e1:=ZGw h;have k1:HLe X (X++[.cells u.cells 1 false false]):=.app _ _;have c1:(X++[Zf.cells u.cells 1 false false])[X.length]?=some (.cells u.cells 1 false false):=Zn;generalize X++[Zf.cells u.cells 1 false false]=X1 at e1 k1 c1;generalize X.length=p at e1 c1;have a0:∀ f x,u.cells[f]?=some x->ld1 (pa p f) X1=some (x,X1):=fun f x h=>Zy c1 h;have e2:run Tryz.prog np lvs (n+5) QR [strv u.nm] X1=some (iv (ZE u.nm),X1):=Zdi;have e3:run Tryz.prog np lvs (n+5) K1 [strv u.hs] X1=some (iv (Qj u.hs),X1):=Zp9 (n:=n+1);have e4:=ZCb (a:=ZE u.nm) (c:=Qj u.hs) X1;have k2:HLe X1 (X1++[.cells [iv (ZE u.nm),iv (Qj u.hs)] 1 false false]):=.app _ _;have s4:Sl (X1++[.cells [iv (ZE u.nm),iv (Qj u.hs)] 1 false false]) (.slice (some ⟨X1.length,0,none⟩) 2 2) [iv (ZE u.nm),iv (Qj u.hs)]:=Sl.one (c:=2) Zn;generalize X1++[Zf.cells [iv (ZE u.nm),iv (Qj u.hs)] 1 false false]=X2 at e4 k2 s4;generalize(Value.slice (some ⟨X1.length,0,none⟩) 2 2)=sv at e4 s4;have e5:run Tryz.prog np lvs (n+5) Za4 [sv] X2=_:=Zvz s4;have c2:=k2 _ _ c1;have hg:GV X2 u.gv u.gs:=GV.mono (GV.mono h k1) k2;have b0:∀ f x,u.cells[f]?=some x->ld1 (pa p f) X2=some (x,X2):=fun f x h=>Zy c2 h;have q1:bop .int .neq (iv 1) (.int .i64 1) X1=some (.bool false,X1):=by rw[Zl];rfl
 have q2:bop .int .eql (iv 1) (.int .i64 2) X2=some (.bool false,X2):=by rw[ZA];rfl
 refine⟨X2,?_,k1.trans k2⟩;rw[R,Znb rfl];unfold Zco;rw[Za e1,Za q1,Za (g_r.trans (if_neg (by simp)))];simp only[List.replicate];rw[ZT,Za Zk];simp only[cond_false];rw[Zb,if_neg (by simp),Za Zi,Za (a0 0 _ rfl),Za Zi,Za (a0 1 _ rfl),Za e2,Za (a0 1 _ rfl),Ql,Za e3,Za e4,Za e5,Za Zl];unfold ZgY;cases hn:Zw u.nm
 .have:ZE u.nm=10:=by unfold ZE;rw[hn];rfl
  rw[this];simp[Zb,ret]
 .have h0:ZE u.nm=0:=ZcQ.2 hn;rw[h0];cases hs:K9 u.hs
  .have:Qj u.hs=4:=by unfold Qj;rw[hs];rfl
   rw[this];simp[Zb,ret]
  .have h1:Qj u.hs=0:=ZyI.2 hs;rw[h1];simp only[if_true];rw[Zb,if_neg (by simp),Za q2,Zb,if_neg (by simp),Za Zi,Za (b0 2 _ rfl)];refine(ZDQ c2 hg).trans ?_;cases Zpm u
   .simp[Zb,ret]
   .simp[Zb,ret]
theorem ZJn {a c:List UInt8} {H:Zd}:bop .str .lss (strv a) (strv c) H=some (.bool (decide (a < c)),H):=by
 rw[<- bytesLess_eq];show(sop .lss (⟨a.toArray⟩:ByteArray) (⟨c.toArray⟩:ByteArray)).map (·,H)=_
 unfold sop;rw[Za1,Za1];rfl
theorem ZJE {a c:List UInt8} {H:Zd}:bop .str .geq (strv a) (strv c) H=some (.bool (!decide (a < c)),H):=by
 rw[<- bytesLess_eq];show(sop .geq (⟨a.toArray⟩:ByteArray) (⟨c.toArray⟩:ByteArray)).map (·,H)=_
 unfold sop;rw[Za1,Za1];rfl
theorem ZJs {a c:List UInt8} {H:Zd}:bop .str .gtr (strv a) (strv c) H=some (.bool (decide (c < a)),H):=by
 have h:(!(Op.bytesLess a c || a==c))=decide (c < a):=by
  rw[bytesLess_eq,Bool.eq_iff_iff];simp only[Bool.not_eq_true',Bool.or_eq_false_iff,decide_eq_false_iff_not,beq_eq_false_iff_ne,decide_eq_true_eq];constructor
  .rintro⟨h1,h2⟩
   rcases Zpj a c with h4|h4|h4
   .exact absurd h4 h1
   .exact absurd h4 h2
   .exact h4
  .intro h;exact⟨List.lt_asymm h,by rintro rfl;exact List.lt_irrefl _ h⟩
 rw[<- h];show(sop .gtr (⟨a.toArray⟩:ByteArray) (⟨c.toArray⟩:ByteArray)).map (·,H)=_
 unfold sop;rw[Za1,Za1];rfl
theorem ZA1 {a:List UInt8}:R (n+1) K4 [strv a] X=some (.bool false,X):=by
 rw[R,Zoy rfl];unfold Zfd;rw[Za Zhl];simp[ret]
theorem ZwI {a c:List UInt8}:R (n+3) Z6 [strv a,strv c] X=some (iv (Zeo a c),X):=by
 have e0:run Tryz.prog np lvs (n+1) K4 [strv a] X=_:=ZA1;have e1:run Tryz.prog np lvs (n+1) K4 [strv c] X=_:=ZA1;have e2:run Tryz.prog np lvs (n+2) Zb0 [strv a,strv c] X=some (iv (Zeo a c),X):=by
  rw[ZmV rfl];unfold ZdH Zeo;rw[Za e0,Za e1,Zb,if_neg (by simp),Zb,if_neg (by simp),Za ZJn,Zb];by_cases h1:a < c
  .rw[if_pos (by simpa using h1),if_pos h1];rfl
  .rw[if_neg (by simpa using h1),Za ZJs,Zb,if_neg h1];by_cases h2:c < a
   .rw[if_pos (by simpa using h2),if_pos h2];rfl
   .rw[if_neg (by simpa using h2),if_neg h2];rfl
 rw[R,ZtD rfl];unfold Zid;rw[Za e2];rfl
theorem ZBO {a c:List UInt8}:decide (Zeo a c≥0)=!decide (a < c):=by
 unfold Zeo;by_cases h1:a < c
 .simp[h1]
 .by_cases h2:c < a<;>simp[h1,h2]
end
section
variable {H0 H X:Zd} {n p d b:Nat} {u:Zv} {us:List Zv} {sl dv:Value}
theorem ZEC (hn:us.length<=1000) (hA:Users H0 sl us):∀ (t k:Nat) (X:Zd),us.length - k=t->k<=us.length->HLe H0 X->
  ∃ X',Zj (c5 (JE.l1 (R (n+6)))) [sl,dv,sl,iv us.length,iv k] X=some (if Zb5 (us.drop k)=0 then .ext 0 [sl,dv] else .ret (.tuple #[.pointer none,iv (Zb5 (us.drop k))]),X')/\HLe H0 X'
 | 0,k,X,ht,hk,hle=>by
  have:k=us.length:=by omega
  subst this;rw[List.drop_length];refine⟨X,ZZ ?_,hle⟩;rw[QJ];unfold JE.l1;rw[Za Zs,Zb,if_neg (by simp)];rfl
 | t+1,k,X,ht,hk,hle=>by
  have hkl:k < us.length:=by omega
  have hlt:(k:Int) < us.length:=by omega
  have hg:=List.getElem?_eq_getElem hkl;have hd:=List.drop_eq_getElem_cons hkl;generalize us[k]=u at hg hd;have hf:=fun {K:Value->M Out}=>(hA.mono hle).fetch (k:=K) hg;have hok:=(hA.mono hle).2 u (List.mem_of_getElem? hg);have g1:(X++[Zf.cells u.cells 1 false false])[X.length]?=some (.cells u.cells 1 false false):=Zn;have k1:HLe X (X++[Zf.cells u.cells 1 false false]):=.app _ _;generalize X++[Zf.cells u.cells 1 false false]=X1 at g1 k1 hf;have e1:ldA 5 (pt X.length) X1=some (.agg u.cells.toArray,X1):=Z8 (n:=5) g1 rfl;obtain⟨X2,e2,k2⟩:=Zlc (n:=n) (u:=u) (X:=X1) (GV.mono hok k1);have hb:c5 (JE.l1 (R (n+6))) [sl,dv,sl,iv us.length,iv k] X=some (if ZgY u=0 then .nrm [sl,dv,sl,iv us.length,iv ((k+1:Nat):Int)] else .ret (.tuple #[.pointer none,iv (ZgY u)]),X2):=by
   rw[QJ];unfold JE.l1;have e2:R (n+6) Yz [.int .i64 1,.agg u.cells.toArray] X1=_:=e2;rw[Za Zs,Zb,if_pos (by simpa using hlt),hf,Za e1,Za e2,Za Zl,Zb];by_cases h:ZgY u=0
   .rw[if_neg (by simp[h]),if_pos h,Za ZG,Je (by omega)];rfl
   .rw[if_pos (by simp[h]),if_neg h];rfl
  rw[hd];unfold Zb5;by_cases h:ZgY u=0
  .rw[if_pos h] at hb;simp only[if_pos h];obtain⟨X3,e3,k3⟩:=ZEC hn hA t (k+1) X2 (by omega) (by omega) (hle.trans (k1.trans k2));exact⟨X3,(ZJ hb).trans e3,k3⟩
  .rw[if_neg h] at hb;simp only[if_neg h];exact⟨X2,Yu hb,hle.trans (k1.trans k2)⟩
theorem Users.nmAt (hA:Users X sl us) {i:Nat} (hi:us[i]?=some u):∃ id o,ixa 5 sl (iv i) X=some (pa id o,X)/\ld1 (pa id (o+0)) X=some (strv u.nm,X):=by
 obtain⟨id,o,cs,e,g,ro,e1,e2,e3,e4,_⟩:=hA.1.at (i:=i) (r:=u.cells) (by rw[List.getElem?_map,hi];rfl) (by omega) .i64;refine⟨id,o,e1 X,?_⟩;rw[Qs,e2,Jx];have:cs[o+0]?=some (strv u.nm):=by
  have h0:((cs.drop o).take 5)[0]?=some (strv u.nm):=by rw[e3];rfl
  rw[List.getElem?_take,if_pos (by omega),List.getElem?_drop] at h0;exact h0
 rw[this];rfl
def upB (prev:Option (List UInt8)) (u:Zv):Bool:=match prev with|none=>true|some p=>decide (p < u.nm)
theorem Zlb {p:Option (List UInt8)} {l:List Zv}:ZeN p (u :: l)=(upB p u && ZeN (some u.nm) l):=rfl
theorem ZtX {k:Nat} (hk:us[k]?=some u):Zho us (k+1)=some u.nm:=by
 unfold Zho;rw[if_neg (by omega),Nat.add_sub_cancel,hk];rfl
theorem ZCj:Zho us 0=none:=rfl
def ZxG (m:QH) (p:Option (List UInt8)):Prop:=ZrL m/\∀ x∈m,∃ q,p=some q/\x.1<=q
theorem ZxG.put {m:QH} {p:Option (List UInt8)} (h:ZxG m p) (hu:upB p u=true):Qw u.nm u.hs m=m++[ZiV u]/\ZxG (m++[ZiV u]) (some u.nm):=by
 have hlt:∀ x∈m,x.1 < u.nm:=fun x hx=>by
  obtain⟨q,rfl,h2⟩:=h.2 x hx;have h3:q < u.nm:=by simpa[upB] using hu
  exact List.lt_of_le_of_lt h2 h3
 have hn:Ze u.nm m=none:=Zfs.2 fun x hx e=>by
  have:=hlt x hx;rw[e] at this;exact List.lt_irrefl _ this
 refine⟨by unfold Qw;rw[hn];rfl,List.pairwise_append.2 ⟨h.1,by simp,fun a ha c hc=>?_⟩,fun x hx=>⟨u.nm,rfl,?_⟩⟩
 .have:c=ZiV u:=by simpa using hc
  subst this;exact hlt a ha
 .rcases List.mem_append.1 hx with hx|hx
  .exact List.le_of_lt (hlt x hx)
  .have:x=ZiV u:=by simpa using hx
   subst this;exact List.le_refl _
theorem ZDc (hn:us.length<=1000) (hA:Users H0 sl us) (hb:H0.length<=b):∀ (t k:Nat) (m:QH) (X:Zd),us.length - k=t->k<=us.length->HLe H0 X->X[d]?=some (.cells [.map (some b)] 1 false false)->JL strv X b m->ZxG m (Zho us k)->d≠b->
  ∃ X',Zj (c5 (JE.l2 (R (n+6)))) [sl,pt d,sl,iv us.length,iv k] X=some (if ZeN (Zho us k) (us.drop k) then .ext 2 [sl,pt d] else .ret (.tuple #[.pointer none,iv 9]),X')/\HLe H0 X'/\
   (ZeN (Zho us k) (us.drop k)=true->X'[d]?=some (.cells [.map (some b)] 1 false false)/\JL strv X' b (m++(us.drop k).map ZiV)/\ZrL (m++(us.drop k).map ZiV))
 | 0,k,m,X,ht,hk,hle,hc,hm,hL,hdb=>by
  have:k=us.length:=by omega
  subst this;rw[List.drop_length];refine⟨X,ZZ ?_,hle,fun _=>⟨hc,by simpa using hm,by simpa using hL.1⟩⟩;rw[QJ];unfold JE.l2;rw[Za Zs,Zb,if_neg (by simp)];rfl
 | t+1,k,m,X,ht,hk,hle,hc,hm,hL,hdb=>by
  have hkl:k < us.length:=by omega
  have hlt:(k:Int) < us.length:=by omega
  have hg:=List.getElem?_eq_getElem hkl;have hd:=List.drop_eq_getElem_cons hkl;generalize us[k]=u at hg hd;have hf:=fun {K:Value->M Out}=>(hA.mono hle).fetch (k:=K) hg;have g1:(X++[Zf.cells u.cells 1 false false])[X.length]?=some (.cells u.cells 1 false false):=Zn;have k1:HLe X (X++[Zf.cells u.cells 1 false false]):=.app _ _;generalize X++[Zf.cells u.cells 1 false false]=X1 at g1 k1 hf;generalize X.length=p at g1 hf;have a0:∀ f x,u.cells[f]?=some x->ld1 (pa p f) X1=some (x,X1):=fun f x h=>Zy g1 h;have hA1:=(hA.mono hle).mono k1;have hcmp:∀ K:Value->M Out,
    bind (bop .int .gtr (iv k) (Value.int .i64 0)) (fun v31x18=>bind (gateV v31x18 true (ret sl)) fun v33x19=>bind (gateV v31x18 true (ret (iv k))) fun v34x20=>bind (gateV v31x18 true (bop .int .sub v34x20 (Value.int .i64 1))) fun v35x21=>bind (gateV v31x18 true (ixa 5 v33x19 v35x21)) fun v36x22=>bind (gateV v31x18 true (fa 0 v36x22)) fun v37x23=>bind (gateV v31x18 true (ld1 v37x23)) fun v38x24=>bind (gateV v31x18 true (fa 0 (pt p))) fun v39x25=>bind (gateV v31x18 true (ld1 v39x25)) fun v40x26=>bind (gateV v31x18 true (R (n+6) Z6 [v38x24,v40x26])) fun v41x27=>bind (gateV v31x18 true (bop .int .geq v41x27 (Value.int .i64 0))) fun v42x28=>bind (pick v31x18 v42x28 (Value.bool false)) K) X1=K (.bool (!upB (Zho us k) u)) X1:=fun K=>by
   by_cases h0:k=0
   .subst h0;have q1:bop .int .gtr (iv (0:Nat)) (Value.int .i64 0) X1=some (.bool false,X1):=by rw[Z0];rfl
    rw[Za q1]
    iterate 10 rw[ZFk (by rfl)]
    rw[Za Zk];rfl
   .have q1:bop .int .gtr (iv k) (Value.int .i64 0) X1=some (.bool true,X1):=by rw[Z0,decide_eq_true (by omega)]
    obtain⟨v,hv⟩:∃ v,us[k - 1]?=some v:=⟨_,List.getElem?_eq_getElem (by omega)⟩;obtain⟨id,o,x1,x2⟩:=hA1.nmAt hv;have e3:R (n+6) Z6 [strv v.nm,strv u.nm] X1=_:=ZwI (n:=n+3);have hp:upB (Zho us k) u=decide (v.nm < u.nm):=by unfold Zho upB;rw[if_neg h0,hv];rfl
    rw[Za q1,ZQ,Z5,ZQ,Z5,ZQ,Za QZ,ZCW (by omega) (by omega),ZQ,Za x1,ZQ,Za YA,ZQ,Za x2,ZQ,Za Zi,ZQ,Za (a0 0 _ rfl),ZQ,Za e3,ZQ,Za Qu,ZBO,Za Zk,hp];rfl
  rw[hd,Zlb];cases hup:upB (Zho us k) u
  .rw[hup] at hcmp;refine⟨X1,Yu ?_,hle.trans k1,fun h=>by cases h⟩;rw[QJ];unfold JE.l2;rw[Za Zs,Zb,if_pos (by simpa using hlt),hf];refine(hcmp _).trans ?_;rw[Zb,if_pos (by rfl)];rfl
  .rw[hup] at hcmp;obtain⟨hput,hL2⟩:=hL.put hup;have hm1:=hm.hle k1;obtain⟨X2,e2,m2,s2,_⟩:=hm1.mup (k:=u.nm) (v:=u.hs);rw[hput] at m2;have hc2:=s2.get (k1 _ _ hc) (by simp[hdb]);have hle2:=(hle.trans k1).more s2 (by simpa using hb);obtain⟨X3,e3,k3,h3⟩:=ZDc hn hA hb t (k+1) _ X2 (by omega) (by omega) hle2.1 hc2 m2 (by rw[ZtX hg];exact hL2) hdb;rw[ZtX hg] at e3 h3;refine⟨X3,(ZJ ?_).trans e3,k3,fun h=>by simpa using h3 (by simpa using h)⟩;rw[QJ];unfold JE.l2;rw[Za Zs,Zb,if_pos (by simpa using hlt),hf];refine(hcmp _).trans ?_;rw[Zb,if_neg (by simp),Za Zg,Za Zi,Za (KQ (k1 _ _ hc)),Za Zi,Za (a0 0 _ rfl),Za Zi,Za (a0 1 _ rfl),Za e2,Za ZG,Je (by omega)];rfl
def ofE (us:List Zv):Int:=if Zb5 us=0 then(if ZeN none us then(if 12 < us.length then 7 else 0) else 9) else Zb5 us
theorem ZsH:∀ {us:List Zv},Zb5 us=0->∀ u∈us,ZgY u=0
 | [],_,u,hu=>by cases hu
 | v :: l,h,u,hu=>by
  unfold Zb5 at h;by_cases h1:ZgY v=0
  .rw[if_pos h1] at h;rcases List.mem_cons.1 hu with rfl|hu
   .exact h1
   .exact ZsH h u hu
  .rw[if_neg h1] at h;exact absurd h h1
theorem ZJB (hn:us.length<=1000) (hA:Users X sl us):∃ X' dv,R (n+7) ZfA [sl] X=some (.tuple #[dv,iv (ofE us)],X')/\HLe X X'/\
  (ofE us≠0->dv=.pointer none)/\(ofE us=0->∃ d b,dv=pt d/\Dir X' d b (us.map ZiV)/\ZrL (us.map ZiV)/\X.length<=d/\X.length<=b):=by
 obtain⟨X0,d,b,e0,D0,k0,o1,o2⟩:=Zzi (n:=n+5) (H:=X);have e0:R (n+6) Zc4 [] X=_:=e0;have hA0:=hA.mono k0;obtain⟨X1,e1,k1⟩:=ZEC (n:=n) (dv:=pt d) hn hA0 us.length 0 X0 (by omega) (by omega) (.refl _);rw[List.drop_zero] at e1;have e1:Zj (c5 (JE.l1 (R (n+6)))) [sl,pt d,sl,iv us.length,.int .i64 0] X0=_:=e1;have f1:∀ r X',JE (R (n+6)) sl X=some (r,X')->R (n+7) ZfA [sl] X=some (r,X'):=fun r X' hr=>by rw[R,ZAa rfl];exact hr
 have D1:=D0.hle k1;unfold ofE;by_cases h1:Zb5 us=0
 .rw[if_pos h1] at e1;rw[if_pos h1];obtain⟨X2,e2,k2,h2⟩:=ZDc (n:=n) hn hA o2 us.length 0 [] X1 (by omega) (by omega) (k0.trans k1) D1.c D1.g ⟨List.Pairwise.nil,by simp⟩ D1.ne;rw[List.drop_zero,ZCj] at e2 h2;have e2:Zj (c5 (JE.l2 (R (n+6)))) [sl,pt d,sl,iv us.length,.int .i64 0] X1=_:=e2;cases hr:ZeN none us
  .rw[hr] at e2;refine⟨X2,.pointer none,f1 _ _ ?_,k2,fun _=>rfl,fun h=>by simp at h⟩;unfold JE;rw[Za e0,Za hA.len,Qk e1,ZI,ZT,Za hA.len,KG e2];rfl
  .rw[hr] at e2;obtain⟨hc,hm,hR⟩:=h2 hr;rw[List.nil_append] at hm hR;by_cases h3:12 < us.length
   .refine⟨X2,.pointer none,f1 _ _ ?_,k2,fun _=>rfl,fun h=>by simp[h3] at h⟩;unfold JE;rw[Za e0,Za hA.len,Qk e1,ZI,ZT,Za hA.len,Qk e2,ZI,ZT,Za hA.len,Za Z0,Zb,if_pos (by simp;omega),if_pos rfl,if_pos h3];rfl
   .refine⟨X2,pt d,f1 _ _ ?_,k2,fun h=>by simp[h3] at h,fun _=>⟨d,b,rfl,⟨hc,hm,fun p hp=>?_,by simpa using h3⟩,hR,o1,o2⟩⟩
    .unfold JE;rw[Za e0,Za hA.len,Qk e1,ZI,ZT,Za hA.len,Qk e2,ZI,ZT,Za hA.len,Za Z0,Zb,if_neg (by simp;omega),if_pos rfl,if_neg h3];rfl
    .obtain⟨u,hu,rfl⟩:=List.mem_map.1 hp;have he:=ZsH h1 u hu;unfold ZgY at he;refine Ky ?_;cases hn:Zw u.nm
     .rw[hn] at he;simp at he
     .exact hn
 .rw[if_neg h1] at e1;rw[if_neg h1];refine⟨X1,.pointer none,f1 _ _ ?_,k0.trans k1,fun _=>rfl,fun h=>absurd h h1⟩;unfold JE;rw[Za e0,Za hA.len,KG e1];rfl
end
abbrev KA:=List UInt8 × List UInt8 × List UInt8 × Bool × List (List UInt8)
def QT (u:Zv):KA:=(u.nm,u.hs,u.ml,u.ds,u.gs)
section
variable {H0 H X:Zd} {n p p1 p2 d b:Nat} {u w:Zv} {us ws:List Zv} {a c:Value}
theorem ZJh {u:Zv} (h:oneCell u.gv=true):alc 1 (.agg u.cells.toArray) X=some (pt X.length,X++[.cells u.cells 1 false false]):=by
 rw[QU];exact if_pos (show u.cells.toArray.toList.all oneCell=true by simp only[Zv.cells,List.all_cons,h];rfl)
def KF (H:Zd) (sl:Value) (us:List Zv):Prop:=SlN 5 H sl (us.map Zv.cells)/\∀ u∈us,Sl H u.gv (u.gs.map strv)/\oneCell u.gv=true/\u.gs.length<=1000000
theorem KF.mono (h:KF H a us) (hl:HLe H X):KF X a us:=⟨h.1.mono hl,fun u hu=>⟨(h.2 u hu).1.mono hl,(h.2 u hu).2⟩⟩
theorem Users.s (h:Users H a us) (hb:∀ u∈us,u.gs.length<=1000000):KF H a us:=⟨h.1,fun u hu=>⟨GV.sl (h.2 u hu),GV.one (h.2 u hu),hb u hu⟩⟩
end
section
variable {H H':Zd} {n d b p q:Nat} {m:QH} {k s:List UInt8}
theorem ZDq (h:Dir H d b m) (hk:k.length<=1000000000) (hs:s.length<=1000000000):∃ H',R (n+7) ZaQ [pt d,strv k,strv s] H=some (iv (ZaN k s m),H')/\Dir H' d b (ZnX k s m)/\Zo [b] H [b] H':=by
 have e1:run Tryz.prog np lvs (n+6) ZcZ [strv s] H=_:=ZGo;have a1:HLe H (H++[Zf.cells [strv s] 1 false false]):=.app _ _;have p1:(H++[Zf.cells [strv s] 1 false false])[H.length]?=some (.cells [strv s] 1 false false):=Zn;generalize hH1:H++[Zf.cells [strv s] 1 false false]=H1 at e1 a1 p1;generalize H.length=q0 at e1 p1;have e2:run Tryz.prog np lvs (n+6) Ya [pt d,strv k] H1=_:=ZvI;have a2:HLe H1 (H1++[.cells [pt d] 1 false false]++[.cells [strv k] 1 false false]):=(HLe.app _ _).trans (.app _ _);have p2:(H1++[Zf.cells [pt d] 1 false false]++[.cells [strv k] 1 false false])[H1.length]?=some (.cells [pt d] 1 false false):=Zt0;have p3:(H1++[Zf.cells [pt d] 1 false false]++[.cells [strv k] 1 false false])[H1.length+1]?=some (.cells [strv k] 1 false false):=Ztb;generalize hH2:H1++[Zf.cells [pt d] 1 false false]++[.cells [strv k] 1 false false]=H2 at e2 a2 p2 p3;generalize H1.length=q1 at e2 p2 p3;have e3:=ZGA (a:=.func (.func Yh) #[] #[pt q0]) (c:=.func (.func Qo) #[] #[pt q1,pt (q1+1)]) rfl rfl rfl rfl H2;have a3:HLe H2 (H2++[Zf.cells [.func (.func Yh) #[] #[pt q0],.func (.func Qo) #[] #[pt q1,pt (q1+1)]] 1 false false]):=.app _ _;have s3:Sl (H2++[Zf.cells [.func (.func Yh) #[] #[pt q0],.func (.func Qo) #[] #[pt q1,pt (q1+1)]] 1 false false]) (.slice (some ⟨H2.length,0,none⟩) 2 2) [.func (.func Yh) #[] #[pt q0],.func (.func Qo) #[] #[pt q1,pt (q1+1)]]:=Sl.one (c:=2) Zn;generalize H2++[Zf.cells [.func (.func Yh) #[] #[pt q0],.func (.func Qo) #[] #[pt q1,pt (q1+1)]] 1 false false]=H3 at e3 a3 s3
 generalize(Value.slice (some ⟨H2.length,0,none⟩) 2 2)=sl at e3 s3;have l3:=(a1.trans a2).trans a3;obtain⟨H4,e4,a4⟩:=Zu0 (n:=n) (es:=[Qj s,YZ k m]) hk rfl (Nat.le_of_lt_succ (by simp)) s3 (Zuo (P:=fun f e=>∀ H1,HLe H3 H1->∃ H2,Qt (R (n+5)) f [] H1=some (iv e,H2)/\HLe H1 H2)
  (fun X hx=>ZGn hs (hx _ _ (a3 _ _ (a2 _ _ p1)))) (fun X hx=>ZBq (n:=n+4) (h.hle (l3.trans hx)) (hx _ _ (a3 _ _ p2)) (hx _ _ (a3 _ _ p3))))
 have e4:run Tryz.prog np lvs (n+6) KR [strv k,sl] H3=some (iv (ZaN k s m),H4):=e4;have l4:=l3.trans a4;have h4:=h.hle l4;have hbody:∀ r,bind (bop .int .eql (iv (ZaN k s m)) (.int .i64 0)) (fun v=>jn (cnd v (bind (Zx (pt d)) fun v19x6=>bind (fa 0 v19x6) fun v20x7=>bind (ld1 v20x7) fun v21x8=>bind (mup .str v21x8 (strv k) (strv s)) fun _=>ret (.nrm [iv (ZaN k s m)])) (ret (.nrm [iv (ZaN k s m)]))) (c1 fun q9_0=>ret q9_0) noX ret) H4=r->
   R (n+7) ZaQ [pt d,strv k,strv s] H=r:=fun r hr=>by
  rw[R,Znm rfl];unfold Zet;rw[Za e1,Za e2,Za e3,Za e4];exact hr
 unfold ZnX;by_cases he:ZaN k s m=0
 .have hz:=Zsp.1 he;have hk12:=Ky (ZcQ.1 hz.1);have hr:=ZCp.1 (hz.2 (YZ k m) (by simp));obtain⟨H5,e5,g5,s5,_⟩:=h4.g.mup (k:=k) (v:=s);rw[if_pos he];refine⟨H5,hbody _ ?_,h4.putc g5 s5 hk12 (by rw[ZdF,hr];simpa using h.few),(l4.step.more (by simp) (fun j hj=>.inl hj)).trans s5⟩;rw[Za ZA];refine(ZC (vs:=[iv (ZaN k s m)]) (H':=H5) ?_).trans rfl;rw[Zb,if_pos (by simpa using he),Za Zg,Za Zi,Za (KQ h4.c),Za e5];rfl
 .rw[if_neg he];refine⟨H4,hbody _ ?_,h4,l4.step.more (by simp) (fun j hj=>.inl hj)⟩;rw[Za ZA];refine(ZC (vs:=[iv (ZaN k s m)]) (H':=H4) ?_).trans rfl;rw[Zb,if_neg (by simpa using he)];rfl
theorem ZIG (h:Dir H d b m) (hk:k.length<=1000000000):∃ f H1 sl H2 H3,run Tryz.prog np lvs (n+6) Ya [pt d,strv k] H=some (f,H1)/\bsl 1 1 .nilFunc [(0,1,f)] H1=some (sl,H2)/\run Tryz.prog np lvs (n+6) KR [strv k,sl] H2=some (iv (Jj k m),H3)/\HLe H H3:=by
 have e2:run Tryz.prog np lvs (n+6) Ya [pt d,strv k] H=_:=ZvI;have a2:HLe H (H++[.cells [pt d] 1 false false]++[.cells [strv k] 1 false false]):=(HLe.app _ _).trans (.app _ _);have p2:(H++[Zf.cells [pt d] 1 false false]++[.cells [strv k] 1 false false])[H.length]?=some (.cells [pt d] 1 false false):=Zt0;have p3:(H++[Zf.cells [pt d] 1 false false]++[.cells [strv k] 1 false false])[H.length+1]?=some (.cells [strv k] 1 false false):=Ztb;generalize hH2:H++[Zf.cells [pt d] 1 false false]++[.cells [strv k] 1 false false]=H2 at e2 a2 p2 p3;generalize H.length=q1 at e2 p2 p3;have e3:=ZJA (a:=.func (.func Qo) #[] #[pt q1,pt (q1+1)]) rfl rfl H2;have a3:HLe H2 (H2++[Zf.cells [.func (.func Qo) #[] #[pt q1,pt (q1+1)]] 1 false false]):=.app _ _;have s3:Sl (H2++[Zf.cells [.func (.func Qo) #[] #[pt q1,pt (q1+1)]] 1 false false]) (.slice (some ⟨H2.length,0,none⟩) 1 1) [.func (.func Qo) #[] #[pt q1,pt (q1+1)]]:=Sl.one (c:=1) Zn;generalize H2++[Zf.cells [.func (.func Qo) #[] #[pt q1,pt (q1+1)]] 1 false false]=H3 at e3 a3 s3;generalize(Value.slice (some ⟨H2.length,0,none⟩) 1 1)=sl at e3 s3;have l3:=a2.trans a3;obtain⟨H4,e4,a4⟩:=Zu0 (n:=n) (es:=[YZ k m]) hk rfl (Nat.le_of_lt_succ (by simp)) s3 (ZDp (P:=fun f e=>∀ H1,HLe H3 H1->∃ H2,Qt (R (n+5)) f [] H1=some (iv e,H2)/\HLe H1 H2)
  (fun X hx=>ZBq (n:=n+4) (h.hle (l3.trans hx)) (hx _ _ (a3 _ _ p2)) (hx _ _ (a3 _ _ p3))))
 exact⟨_,_,_,_,_,e2,e3,e4,l3.trans a4⟩
theorem ZHK (h1:∀ p∈m,p.1.length<=12):∀ p∈Yx k m,p.1.length<=12:=fun p hp=>h1 p (List.mem_filter.1 hp).1
theorem ZFG (h:Dir H d b m) (hk:k.length<=1000000000):∃ H',R (n+7) Zbl [pt d,strv k] H=some (iv (Jj k m),H')/\Dir H' d b (Zft k m)/\Zo [b] H [b] H':=by
 obtain⟨f,H1,sl,H2,H4,e2,e3,e4,l4⟩:=ZIG (n:=n) h hk;have h4:=h.hle l4;have hbody:∀ r,bind (bop .int .eql (iv (Jj k m)) (.int .i64 0)) (fun v=>jn (cnd v (bind (Zx (pt d)) fun v19x6=>bind (fa 0 v19x6) fun v20x7=>bind (ld1 v20x7) fun v21x8=>bind (mde .str v21x8 (strv k)) fun _=>ret (.nrm [iv (Jj k m)])) (ret (.nrm [iv (Jj k m)]))) (c1 fun q9_0=>ret q9_0) noX ret) H4=r->
   R (n+7) Zbl [pt d,strv k] H=r:=fun r hr=>by
  rw[R,Zox rfl];unfold Ze7;rw[Za e2,Za e3,Za e4];exact hr
 unfold Zft;by_cases he:Jj k m=0
 .obtain⟨H5,e5,g5,s5,_⟩:=h4.g.mde (k:=k);rw[if_pos he];refine⟨H5,hbody _ ?_,⟨s5.get h4.c (by simp[h.ne]),g5,ZHK h.len,Nat.le_trans (List.length_filter_le _ _) h.few⟩,(l4.step.more (by simp) (fun j hj=>.inl hj)).trans s5⟩;rw[Za ZA];refine(ZC (vs:=[iv (Jj k m)]) (H':=H5) ?_).trans rfl;rw[Zb,if_pos (by simpa using he),Za Zg,Za Zi,Za (KQ h4.c),Za e5];rfl
 .rw[if_neg he];refine⟨H4,hbody _ ?_,h4,l4.step.more (by simp) (fun j hj=>.inl hj)⟩;rw[Za ZA];refine(ZC (vs:=[iv (Jj k m)]) (H':=H4) ?_).trans rfl;rw[Zb,if_neg (by simpa using he)];rfl
theorem ZFN (h:Dir H d b m) (hk:k.length<=1000000000):∃ H',R (n+7) ZbF [pt d,strv k] H=some (.tuple #[strv (if Jj k m=0 then(Ze k m).getD [] else[]),iv (Jj k m)],H')/\HLe H H':=by
 obtain⟨f,H1,sl,H2,H4,e2,e3,e4,l4⟩:=ZIG (n:=n) h hk;have h4:=h.hle l4;refine⟨H4,?_,l4⟩;rw[R,Zn0 rfl];unfold Ze3;rw[Za e2,Za e3,Za e4,Za Zl];by_cases he:Jj k m=0
 .have hl:=h4.g.lkp (k:=k) (z:=.string ⟨#[]⟩) (ok:=false);rw[Zb,if_neg (by simpa using he),Za Zg,Za Zi,Za (KQ h4.c),Za hl,if_pos he,he];cases Ze k m<;>rfl
 .rw[Zb,if_pos (by simpa using he),if_neg he];rfl
theorem ZIw (h:Dir H d b m):∃ H' d' b',R (n+2) Za7 [pt d] H=some (pt d',H')/\Dir H' d' b' m/\HLe H H'/\H.length<=d'/\H.length<=b':=by
 obtain⟨H1,e1,g1,l1⟩:=h.g.clone;have e1':run Tryz.prog np lvs (n+1) ZU [.map (some b)] H=some (.map (some H.length),H1):=by
  rw[Zbp (show np ZU=some ZbU from rfl)];exact e1
 have e2:bld (.agg #[.map none]) [(0,1,.map (some H.length))] H1=some (.agg #[.map (some H.length)],H1):=by simp[↓Qe,Qd,↓QF,Qn,Qq,Qr,↓Zb,Yc,Zg,YA,Qs,JK,QB,JJ,Jx,QV,JR,QW,QU,Q8,Q9,Qx,Zk,ZP,Kf,YO,Ju,QS,JU,ZG,QZ,JZ,Yg,J8,ZA,Zl,Zs,JB,Z0,Qu,JS,JX,Jc,J0,↓Kq,Ye,↓g_r,Kz,YR,Zaj,splice,Value.cells]
 have e3:alc 1 (.agg #[.map (some H.length)]) H1=some (pt H1.length,H1++[.cells [.map (some H.length)] 1 false false]):=by
  rw[QU];simp[Value.cells,oneCell]
 refine⟨H1++[.cells [.map (some H.length)] 1 false false],H1.length,H.length,?_,⟨Zn,g1.hle (.app _ _),h.len,h.few⟩,l1.trans (.app _ _),l1.len,Nat.le_refl _⟩;rw[R,Zsh rfl];unfold ZgT;rw[Za Zg,Za Zi,Za (KQ h.c),Za e1',Za e2,Za e3];rfl
end
structure ZsO where
 kd:Nat
 nm:List UInt8
 hs:List UInt8
abbrev ZsO.cells (a:ZsO):List Value:=[.int .u8 a.kd,strv a.nm,strv a.hs]
def Zmg (H:Zd) (sl:Value) (ac:List ZsO):Prop:=SlN 3 H sl (ac.map ZsO.cells)/\∀ a∈ac,a.kd<=255
section
variable {H H':Zd} {sl:Value} {ac:List ZsO} {n:Nat}
theorem Zmg.len (h:Zmg H sl ac):ZB sl H'=some (iv ac.length,H'):=by
 have:=h.1.len (H':=H')
 rwa [List.length_map] at this
theorem Zmg.mono (h:Zmg H sl ac) (hl:HLe H H'):Zmg H' sl ac:=⟨h.1.mono hl,h.2⟩
theorem Zmg.fetch {β:Type} {k:Value->M β} (h:Zmg H sl ac) {j:Nat} {a:ZsO} (hj:ac[j]?=some a) :
  bind (ixa 3 sl (iv j)) (fun p=>bind (ldA 3 p) fun v=>bind (alc 1 (.agg #[.int .u8 0,.string ⟨#[]⟩,.string ⟨#[]⟩])) fun q=>bind (stA 3 q v) fun _=>k q) H=k (pt H.length) (H++[.cells a.cells 1 false false]):=by
 have hr:(ac.map ZsO.cells)[j]?=some a.cells:=by rw[List.getElem?_map,hj];rfl
 rw[h.1.fetch hr (by omega) .i64];exact ZaX (n:=3) (zs:=[.int .u8 0,.string ⟨#[]⟩,.string ⟨#[]⟩]) (r:=a.cells) rfl rfl rfl rfl
end
end Go.Proofs.YtgfbgfafajiehaaGreatDoor.A

