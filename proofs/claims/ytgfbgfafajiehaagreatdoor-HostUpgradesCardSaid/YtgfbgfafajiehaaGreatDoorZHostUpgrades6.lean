/- What the law HostUpgrades needs (part 6). -/
import Derived.Test.YtgfbgfafajiehaaGreatDoorZHostUpgrades5
import Derived.Test.YtgfbgfafajiehaaGreatDoorProg
import Derived.KernelRfl
set_option linter.unusedVariables false
set_option linter.unusedSimpArgs false
namespace Go.Proofs.YtgfbgfafajiehaaGreatDoor.A
open Go.Proofs Go.Proofs.YtgfbgfafajiehaaGreatDoor
section
set_option maxRecDepth 100000
def uOf (k:ZcJ):ZA:=⟨k.1,k.2.1,k.2.2.1,k.2.2.2.1,.slice none 0 0,k.2.2.2.2⟩
section
variable {s:RSt} {k:ZcJ} {ks:List ZcJ} {l K:List Tx} {r t:List UInt8} {us:List ZA}
theorem ZCD (k:ZcJ):Zcv (uOf k)=k:=rfl
theorem ZDc (ks:List ZcJ):(ks.map uOf).map Zcv=ks:=by
 rw[List.map_map];exact(List.map_congr_left fun a _=>ZCD a).trans (List.map_id ks)
end
end
section
set_option maxRecDepth 100000
section
variable {H X X':Zd} {n p d c:Nat} {r:NR} {s:NSt} {sl x v gv sv:Value} {own q:List Nat} {bs:List UInt8} {l:List Tx} {u:ZA} {us:List ZA}
theorem ZvP:∀ {l:List Tx},l.Pairwise (· < ·)->KW l=true
 | [],_=>rfl
 | [a],_=>rfl
 | a :: b :: l,h=>by
  rw[ZiQ,Bool.and_eq_true,decide_eq_true_eq];have h1:=List.pairwise_cons.1 h;exact⟨h1.1 b (by simp),ZvP h1.2⟩
theorem Zyk {gs:List Tx}:∀ {us prev:List ZA},(∀ (i:Nat) (u:ZA),us[i]?=some u->Zrr gs (prev++us.take i) u=0)->Ze5 gs prev us=0
 | [],prev,_=>by unfold Ze5;rfl
 | u :: us,prev,h=>by
  have h0:=h 0 u rfl;rw[List.take_zero,List.append_nil] at h0;unfold Ze5;rw[if_pos h0];refine Zyk fun i w hi=>?_;have h1:=h (i+1) w (by simpa using hi);rw[List.take_succ_cons] at h1
  rwa [List.append_assoc]
theorem ROK.allK (hn:(W3 s).Nodup):ROK s ((A.allK s).map uOf):=⟨by
 have h:=ZtV hn;unfold Zf5;rw[List.pairwise_map];exact h,fun key=>by rw[ZDc];exact ZkS hn⟩
end
end
section
variable {X X' Y:Zd} {n:Nat} {o:OpT}
def GlX (X:Zd):Prop:=X[0]?=some (.cells (ZaW.map strv) 1 false true)
theorem GlX.le (h:GlX X) (hl:HLe X X'):GlX X':=hl _ _ h
def GlH (X:Zd):Prop:=X.take gl.length=gl
theorem GlH.at (h:GlH X) {i:Nat} (hi:i < 4):X[i]?=gl[i]?:=by
 have:(X.take gl.length)[i]?=gl[i]?:=by rw[h]
 rwa [List.getElem?_take,if_pos (show i < gl.length from hi)] at this
theorem GlH.x (h:GlH X):GlX X:=h.at (by omega)
theorem GlH.of (h:∀ i,i < 4->X[i]?=gl[i]?):GlH X:=by
 apply List.ext_getElem?
 intro i;rw[List.getElem?_take];split
 .exact h i ‹_›
 .rw[List.getElem?_eq_none (Nat.le_of_not_lt ‹_›)]
theorem ZA5 {i:Nat} (hi:i < 4):∃ o,gl[i]?=some o:=⟨gl[i]'hi,List.getElem?_eq_getElem hi⟩
theorem GlH.le (h:GlH X) (hl:HLe X X'):GlH X':=.of fun i hi=>by
 obtain⟨o,ho⟩:=ZA5 hi;rw[ho];exact hl _ _ ((h.at hi).trans ho)
theorem GlH.step {o1 o2:List Nat} (h:GlH X) (hs:Zr o1 X o2 X') (hn:∀ j∈o1,4<=j):GlH X':=.of fun i hi=>by
 obtain⟨o,ho⟩:=ZA5 hi;rw[ho];exact hs.get ((h.at hi).trans ho) fun hm=>by have:=hn i hm;omega
theorem Zjp (o:OpT) (X:Zd):alc 1 (.agg o.cells.toArray) X=some (pt X.length,X++[.cells o.cells 1 false false]):=rfl
theorem Zek {p f:Nat} {x:Value} (h:X[p]?=some (.cells o.cells 1 false false)) (hf:o.cells[f]?=some x):ld1 (pa p f) X=some (x,X):=Zv h hf
theorem Zz2 {c:UInt8} (hc:c=97\/c=98\/c=110\/c=114):∃ X',R (n+1) ZfU [.agg o.cells.toArray,.int .u8 c.toNat] X=some (.bool (ZjT o c),X')/\HLe X X':=by
 have e1:=Zjp o X;have k1:HLe X (X++[.cells o.cells 1 false false]):=.app _ _;have c1:(X++[Ze.cells o.cells 1 false false])[X.length]?=some (.cells o.cells 1 false false):=Zo;generalize X++[Ze.cells o.cells 1 false false]=X1 at e1 k1 c1;generalize X.length=p at e1 c1;have l3:ld1 (pa p 3) X1=some (.int .u8 o.nd,X1):=Zv c1 rfl;have l4:ld1 (pa p 4) X1=some (.int .u8 o.rl,X1):=Zv c1 rfl;refine⟨X1,?_,k1⟩;rw[R,ZuB rfl];unfold Zjg;rw[Za e1,Za ZE];rcases hc with rfl|rfl|rfl|rfl
 .rw[Zb,if_neg (by decide),Za ZE,Zb,if_neg (by decide)];rfl
 .rw[Zb,if_neg (by decide),Za ZE,Zb,if_neg (by decide)];rfl
 .rw[Zb,if_pos (by decide),Za Zj,Za l3,Za Zt];have:decide ((o.nd:Int) < 7)=decide (o.nd < 7):=by rw[decide_eq_decide];omega
  rw[this];rfl
 .rw[Zb,if_neg (by decide),Za ZE,Zb,if_pos (by decide),Za Zj,Za l4,Za Qo];have h1:decide ((o.rl:Int)≥1)=decide (1<=o.rl):=by rw[decide_eq_decide];omega
  have h2:decide ((o.rl:Int)<=3)=decide (o.rl<=3):=by rw[decide_eq_decide];omega
  rw[h1];have hr:ZjT o 114=(decide (1<=o.rl) && decide (o.rl<=3)):=rfl;rw[hr];cases decide (1<=o.rl)
  .rw[Za (show gate (.bool false) true 3 _ X1=some ([ZZ,ZZ,ZZ],X1) from rfl),ZV,Za Zl];rfl
  .rw[Z0,Zk,Za Zj,Zk,Za l4,Zk,Za Jj,Qe,ZV,Za Zl,h2];rfl
theorem ZFc {q:Nat} {s:Tx} {i:Nat} {c:UInt8} (h:X[q]?=some (.siter ⟨s.toArray⟩ i)) (hc:s[i]?=some c) (ha:c.toNat < 128) :
  Zh9 (pt q) X=some (.tuple #[.bool true,iv i,.int .i32 c.toNat],X.set q (.siter ⟨s.toArray⟩ (i+1))):=by
 have hi:i < s.length:=(List.getElem?_eq_some_iff.1 hc).1;have hd:Utf8.decode ⟨s.toArray⟩ i=(c.toNat,1):=by
  have hg:(ByteArray.mk s.toArray).get! i=c:=by
   have h1:s.toArray[i]?=some c:=by simpa using hc
   simp[ByteArray.get!,h1,hc]
  unfold Utf8.decode;simp only[Nat.add_zero,hg];exact if_pos ha
 have hlt:i < (ByteArray.mk s.toArray).size:=by show i < s.toArray.size;simpa using hi
 have e:Zh9 (pt q) X=(match X[q]? with
  | some (.siter s pos)=>
   if pos < s.size then some (.tuple #[.bool true,.int .i64 pos,.int .i32 ((Utf8.decode s pos).1:Nat)],X.set q (.siter s (pos+(Utf8.decode s pos).2)))
   else some (.tuple #[.bool false],X)
  | _=>none):=rfl
 rw[e,h];simp only[hd,hlt,if_true]
theorem ZDN {q:Nat} {s:Tx} {i:Nat} (h:X[q]?=some (.siter ⟨s.toArray⟩ i)) (hi:s.length<=i):Zh9 (pt q) X=some (.tuple #[.bool false],X):=by
 unfold Zh9;simp only;rw[h];simp only;rw[if_neg (by simpa[ByteArray.size] using hi)]
def Zke (c:UInt8):Prop:=c=97\/c=98\/c=110\/c=114
instance (c:UInt8):Decidable (Zke c):=by unfold Zke;infer_instance
theorem ZAO (o:OpT):∀ c∈sgn o,Zke c:=by
 have:∀ k,∀ c∈ZaW.getD k [],Zke c:=by
  intro k
  match k with
  | 0=>decide
  | 1=>decide
  | 2=>decide
  | 3=>decide
  | 4=>decide
  | 5=>decide
  | 6=>decide
  | 7=>decide
  | 8=>decide
  | 9=>decide
  | 10=>decide
  | 11=>decide
  | 12=>decide
  | 13=>decide
  | 14=>decide
  | 15=>decide
  | 16=>decide
  | k+17=>intro c hc;simp[ZaW] at hc
 exact this _
theorem Zx0 (o:OpT):(sgn o).length<=2:=by
 have:∀ k,(ZaW.getD k []).length<=2:=by
  intro k
  match k with
  | 0=>decide
  | 1=>decide
  | 2=>decide
  | 3=>decide
  | 4=>decide
  | 5=>decide
  | 6=>decide
  | 7=>decide
  | 8=>decide
  | 9=>decide
  | 10=>decide
  | 11=>decide
  | 12=>decide
  | 13=>decide
  | 14=>decide
  | 15=>decide
  | 16=>decide
  | k+17=>simp[ZaW]
 exact this _
theorem Zke.lt {c:UInt8} (h:Zke c):c.toNat < 128:=by
 rcases h with rfl|rfl|rfl|rfl<;>decide
theorem ZBG (h:GlH X) (hk:o.kd < 17):R (n+1) Zab [.agg o.cells.toArray] X=some (.agg (Zb2 o).cells.toArray,X):=by
 have hf:Zre [.agg o.cells.toArray]=some (.agg (Zb2 o).cells.toArray):=by
  show(if 0<=(o.kd:Int)/\(o.kd:Int) < 17 then some (ZuQ (o.kd:Int).toNat ⟨o.a.toArray⟩ ⟨o.b.toArray⟩ o.nd o.rl) else none)=_
  rw[if_pos ⟨by omega,by omega⟩];have e1:sgk ((o.kd:Int).toNat)=sgn o:=rfl;unfold ZuQ;rw[e1];unfold Zb2 OpT.cells
  congr 2
  simp only[List.contains_iff_mem,Int.toNat_natCast];by_cases h1:(97:UInt8)∈sgn o<;>by_cases h2:(98:UInt8)∈sgn o<;>by_cases h3:(110:UInt8)∈sgn o<;>by_cases h4:(114:UInt8)∈sgn o<;>simp[h1,h2,h3,h4]<;>first|exact⟨rfl,rfl⟩|rfl
 have:R (n+1) Zab [.agg o.cells.toArray]=ZhD gl Zre [.agg o.cells.toArray]:=rfl;rw[this];exact ZCq hf h
structure Zic (X0 Y:Zd) (o:OpT) (p1 p2 q:Nat) (s:Tx) (i:Nat) (bs:List UInt8) (own:List Nat):Prop where
 le:HLe X0 Y
 c1:Y[p1]?=some (.cells o.cells 1 false false)
 w:Wtr Y p2 bs own
 it:Y[q]?=some (.siter ⟨s.toArray⟩ i)
 n2:∀ j∈p2 :: own,X0.length<=j
 nq:X0.length<=q
 d1:p1∉p2 :: own
 dq:q∉p2 :: own
 d1q:p1≠q
variable {X0:Zd} {p1 p2 q:Nat} {s:Tx} {i:Nat} {bs:List UInt8} {own:List Nat}
theorem Zic.turn (h:Zic X0 Y o p1 p2 q s i bs own):Zic X0 (Y.set q (.siter ⟨s.toArray⟩ (i+1))) o p1 p2 q s (i+1) bs own:=by
 have hlt:q < Y.length:=Z6 h.it;exact⟨h.le.put h.nq,by rw[List.getElem?_set_ne (Ne.symm h.d1q)];exact h.c1,h.w.keep fun j hj=>List.getElem?_set_ne (fun e=>h.dq (by rw[e];exact hj)),by rw[List.getElem?_set_self hlt],h.n2,h.nq,h.d1,h.dq,h.d1q⟩
theorem Zic.more {Y':Zd} {bs':List UInt8} {own':List Nat} (h:Zic X0 Y o p1 p2 q s i bs own) (hw:Wtr Y' p2 bs' own') (hs:Zr (p2 :: own) Y (p2 :: own') Y'):Zic X0 Y' o p1 p2 q s i bs' own':=by
 obtain⟨m1,m2⟩:=h.le.more hs h.n2;have hn:∀ a,a < Y.length->a∉p2 :: own->a∉p2 :: own':=fun a ha hna hm=>by
  rcases hs.own a hm with h1|h1
  .exact hna h1
  .omega
 exact⟨m1,hs.get h.c1 h.d1,hw,hs.get h.it h.dq,m2,h.nq,hn _ (Z6 h.c1) h.d1,hn _ (Z6 h.it) h.dq,h.d1q⟩
theorem ZzB {c:UInt8} (h:Zic X0 Y o p1 p2 q s i bs own) (hc:s[i]?=some c) (hs:Zke c) (ha:o.a.length<=65535) (hb:o.b.length<=65535) (hok:ZgF o) (hbs:bs.length<=1000000) :
  ∃ Y' own',Wu.l1 (R (n+3)) (pt p1) (pt p2) (pt q) Y=some (.nrm [pt p1,pt p2,pt q],Y')/\Zic X0 Y' o p1 p2 q s (i+1) (bs++Zpv o c) own':=by
 have e1:=ZFc h.it hc hs.lt;have h1:=h.turn;generalize Y.set q (.siter ⟨s.toArray⟩ (i+1))=Y1 at e1 h1;have hl:∀ f x,o.cells[f]?=some x->ld1 (pa p1 f) Y1=some (x,Y1):=fun f x hx=>Zv h1.c1 hx;unfold Wu.l1;rcases hs with rfl|rfl|rfl|rfl
 .obtain⟨Y2,own',e2,w2,s2⟩:=ZxO (n:=n) ha (by omega) h1.w;refine⟨Y2,own',?_,h1.more w2 s2⟩;rw[Za e1,Za QD,Zb,if_pos rfl,Za QA,Za (show bop .int .eql (.int .i32 ((97:UInt8).toNat:Nat)) (.int .i32 97) Y1=some (.bool true,Y1) from rfl)];rw[ZJ (vs:=[pt p1,pt p2,pt q]) (H':=Y2) (by rw[Zb,if_pos rfl,Za Zj,Za (hl 1 _ rfl),Za e2];rfl),ZV];rfl
 .obtain⟨Y2,own',e2,w2,s2⟩:=ZxO (n:=n) hb (by omega) h1.w;refine⟨Y2,own',?_,h1.more w2 s2⟩;rw[Za e1,Za QD,Zb,if_pos rfl,Za QA,Za (show bop .int .eql (.int .i32 ((98:UInt8).toNat:Nat)) (.int .i32 97) Y1=some (.bool false,Y1) from rfl)];rw[ZJ (vs:=[pt p1,pt p2,pt q]) (H':=Y2) (by
   rw[Zb,if_neg (by simp),Za (show bop .int .eql (.int .i32 ((98:UInt8).toNat:Nat)) (.int .i32 98) Y1=some (.bool true,Y1) from rfl)];rw[ZJ (vs:=[pt p1,pt p2,pt q]) (H':=Y2) (by rw[Zb,if_pos rfl,Za Zj,Za (hl 2 _ rfl),Za e2];rfl),ZV];rfl),ZV]
  rfl
 .obtain⟨Y2,own',e2,w2,s2⟩:=Zr9 (n:=n+1) (x:=o.nd) (by have:=hok.nd;omega) (by omega) h1.w;refine⟨Y2,own',?_,h1.more w2 s2⟩;rw[Za e1,Za QD,Zb,if_pos rfl,Za QA,Za (show bop .int .eql (.int .i32 ((110:UInt8).toNat:Nat)) (.int .i32 97) Y1=some (.bool false,Y1) from rfl)];rw[ZJ (vs:=[pt p1,pt p2,pt q]) (H':=Y2) (by
   rw[Zb,if_neg (by simp),Za (show bop .int .eql (.int .i32 ((110:UInt8).toNat:Nat)) (.int .i32 98) Y1=some (.bool false,Y1) from rfl)];rw[ZJ (vs:=[pt p1,pt p2,pt q]) (H':=Y2) (by
    rw[Zb,if_neg (by simp),Za (show bop .int .eql (.int .i32 ((110:UInt8).toNat:Nat)) (.int .i32 110) Y1=some (.bool true,Y1) from rfl)];rw[ZJ (vs:=[pt p1,pt p2,pt q]) (H':=Y2) (by rw[Zb,if_pos rfl,Za Zj,Za (hl 3 _ rfl),Za e2];rfl),ZV];rfl),ZV]
   rfl),ZV]
  rfl
 .obtain⟨Y2,own',e2,w2,s2⟩:=Zr9 (n:=n+1) (x:=o.rl) (by have:=hok.rl;omega) (by omega) h1.w;refine⟨Y2,own',?_,h1.more w2 s2⟩;rw[Za e1,Za QD,Zb,if_pos rfl,Za QA,Za (show bop .int .eql (.int .i32 ((114:UInt8).toNat:Nat)) (.int .i32 97) Y1=some (.bool false,Y1) from rfl)];rw[ZJ (vs:=[pt p1,pt p2,pt q]) (H':=Y2) (by
   rw[Zb,if_neg (by simp),Za (show bop .int .eql (.int .i32 ((114:UInt8).toNat:Nat)) (.int .i32 98) Y1=some (.bool false,Y1) from rfl)];rw[ZJ (vs:=[pt p1,pt p2,pt q]) (H':=Y2) (by
    rw[Zb,if_neg (by simp),Za (show bop .int .eql (.int .i32 ((114:UInt8).toNat:Nat)) (.int .i32 110) Y1=some (.bool false,Y1) from rfl)];rw[ZJ (vs:=[pt p1,pt p2,pt q]) (H':=Y2) (by
     rw[Zb,if_neg (by simp),Za (show bop .int .eql (.int .i32 ((114:UInt8).toNat:Nat)) (.int .i32 114) Y1=some (.bool true,Y1) from rfl)];rw[ZJ (vs:=[pt p1,pt p2,pt q]) (H':=Y2) (by rw[Zb,if_pos rfl,Za Zj,Za (hl 4 _ rfl),Za e2];rfl),ZV];rfl),ZV]
    rfl),ZV]
   rfl),ZV]
  rfl
theorem ZvV (ha:o.a.length<=65535) (hb:o.b.length<=65535) (c:UInt8):(Zpv o c).length<=65537:=by
 unfold Zpv;split
 .unfold txt;rw[List.length_append,ZdJ];omega
 .split
  .unfold txt;rw[List.length_append,ZdJ];omega
  .split
   .rw[ZdJ];omega
   .split
    .rw[ZdJ];omega
    .simp
theorem Zwl (ha:o.a.length<=65535) (hb:o.b.length<=65535) (hok:ZgF o) (hsg:∀ c∈s,Zke c):∀ (t i:Nat) (bs:List UInt8) (own:List Nat) (Y:Zd),s.length - i=t->i<=s.length->bs.length+65537 * t<=1000000->Zic X0 Y o p1 p2 q s i bs own->
  ∃ Y' own',Zi (c3 (Wu.l1 (R (n+3)))) [pt p1,pt p2,pt q] Y=some (.ext 0 [pt p2],Y')/\Zic X0 Y' o p1 p2 q s s.length (bs++((s.drop i).map (Zpv o)).flatten) own'
 | 0,i,bs,own,Y,ht,hi,hbs,h=>by
  have hi:i=s.length:=by omega
  subst hi;refine⟨Y,own,Qq ?_,by rw[List.drop_length];simpa using h⟩;rw[ZV];unfold Wu.l1;rw[Za (ZDN h.it (Nat.le_refl _)),Za ZEv,Zb,if_neg (by simp)];rfl
 | t+1,i,bs,own,Y,ht,hi,hbs,h=>by
  have hlt:i < s.length:=by omega
  have hg:=List.getElem?_eq_getElem hlt;have hd:=List.drop_eq_getElem_cons hlt;have hm:=hsg _ (List.getElem_mem hlt);generalize s[i]=c at hg hd hm;obtain⟨Y1,own1,e1,h1⟩:=ZzB (n:=n) h hg hm ha hb hok (by omega);obtain⟨Y2,own2,e2,h2⟩:=Zwl ha hb hok hsg t (i+1) _ own1 Y1 (by omega) (by omega) (by have:=ZvV (o:=o) ha hb c;rw[List.length_append];omega) h1;refine⟨Y2,own2,(ZU (by rw[ZV];exact e1)).trans e2,?_⟩;rw[hd,List.map_cons,List.flatten_cons,<- List.append_assoc];exact h2
theorem ZAN (hG:GlX X) (hk:o.kd < 17) (hok:ZgF o) (ha:o.a.length<=65535) (hb:o.b.length<=65535) :
  ∃ v q X',R (n+4) ZfY [.agg o.cells.toArray] X=some (v,X')/\Zu X' v (u8s (ZdB o)) q/\HLe X X':=by
 have e1:=Zjp o X;have k1:HLe X (X++[Ze.cells o.cells 1 false false]):=.app _ _;have c1:(X++[Ze.cells o.cells 1 false false])[X.length]?=some (.cells o.cells 1 false false):=Zo;have n1:X.length<=X.length:=Nat.le_refl _;generalize X++[Ze.cells o.cells 1 false false]=X1 at e1 k1 c1;generalize hp1:X.length=p1 at e1 c1 n1;obtain⟨z1,z2,w0⟩:=ZEf (H:=X1);have k2:HLe X1 (X1++[Ze.cells [.slice none 0 0] 1 false false]):=.app _ _;generalize X1++[Ze.cells [.slice none 0 0] 1 false false]=X2 at z2 w0 k2;generalize hp2:X1.length=p2 at z2 w0;have hlt1:p1 < X1.length:=Z6 c1;have c2:=k2 _ _ c1;obtain⟨X3,own,e3,w3,s3⟩:=Zr9 (n:=n+1) (x:=o.kd) (by omega) (by simp) w0;have hn2:∀ j∈[p2],X.length<=j:=fun j hj=>by have:j=p2:=(by simpa using hj);omega
 obtain⟨m3,o3⟩:=(k1.trans k2).more s3 hn2;have hd1:p1∉([p2]:List Nat):=by simp;omega
 have c3:=s3.get c2 hd1;have hlt2:p1 < X2.length:=Z6 c2;have hd3:p1∉p2 :: own:=fun hm=>by
  rcases s3.own p1 hm with h1|h1
  .exact hd1 h1
  .omega
 have hl2:ld1 (pa p1 0) X2=some (.int .u8 o.kd,X2):=Zv c2 rfl;have hl3:ld1 (pa p1 0) X3=some (.int .u8 o.kd,X3):=Zv c3 rfl;have hsig:ld1 (.pointer (some ⟨0,o.kd,none⟩)) X3=some (strv (sgn o),X3):=by
  have h0:=hG.le m3;have h1:(ZaW.map strv)[o.kd]?=some (strv (sgn o)):=by
   rw[List.getElem?_map];have:ZaW[o.kd]?=some (sgn o):=by
    unfold sgn;rw[List.getD_eq_getElem?_getD,List.getElem?_eq_getElem (by simpa[ZaW] using hk)];rfl
   rw[this];rfl
  exact Zv (id:=0) h0 h1
 have hix:WN 17 1 (.pointer (some ⟨0,0,none⟩)) (.int .u8 o.kd) X3=some (.pointer (some ⟨0,o.kd,none⟩),X3):=by
  rw[QL,if_pos ⟨by omega,by omega⟩];simp
 have er:Zmn (strv (sgn o)) X3=some (pt X3.length,X3++[.siter ⟨(sgn o).toArray⟩ 0]):=rfl;have k4:HLe X3 (X3++[Ze.siter ⟨(sgn o).toArray⟩ 0]):=.app _ _;have c4:(X3++[Ze.siter ⟨(sgn o).toArray⟩ 0])[X3.length]?=some (.siter ⟨(sgn o).toArray⟩ 0):=Zo;have w4:=w3.hle k4;have hq:∀ j∈p2 :: own,j < X3.length:=w3.lt;generalize X3++[Ze.siter ⟨(sgn o).toArray⟩ 0]=X4 at er k4 c4 w4;have hlen3:=m3.len;generalize hqq:X3.length=q at er c4 hq hlen3;have h4:Zic X X4 o p1 p2 q (sgn o) 0 ([]++le o.kd 1) own:=
  ⟨m3.trans k4,k4 _ _ c3,w4,c4,o3,by omega,hd3,fun hm=>by have:=hq q hm;omega,fun e=>by have:=Z6 c3;omega⟩
 have hsl:=Zx0 o;obtain⟨X5,own5,e5,h5⟩:=Zwl (n:=n) ha hb hok (ZAO o) (sgn o).length 0 _ own X4 (by omega) (by omega) (by simp[ZdJ];omega) h4;rw[List.drop_zero] at h5;have hwl:([]++le o.kd 1++((sgn o).map (Zpv o)).flatten).length<=1000000000:=by
  have hf:∀ l:Tx,((l.map (Zpv o)).flatten).length<=l.length * 65537:=by
   intro l
   induction l with
   | nil=>simp
   | cons c l ih=>
    have:=ZvV (o:=o) ha hb c;simp only[List.map_cons,List.flatten_cons,List.length_append,List.length_cons];omega
  have:=hf (sgn o);rw[List.length_append,List.nil_append,ZdJ];omega
 obtain⟨v,qv,X6,e6,r6,l6,_⟩:=ZBu (n:=n+1) hwl h5.w;refine⟨v,qv,X6,?_,by simpa[ZdB] using r6,h5.le.trans l6⟩;have e3:R (n+3) Jc [pt p2,.int .u8 o.kd] X2=_:=e3;have e6:R (n+3) YT [pt p2] X5=_:=e6;rw[R,Zum rfl];unfold Wu;rw[Za e1,Za z1,Za z2,Za Zj,Za hl2,Za e3,Za Zj,Za hl3,Za hix,Za hsig,Za er,Q4 e5,ZP,J1,Za e6];rfl
theorem ZEW (a b:Tx):((⟨a.toArray⟩:ByteArray)==⟨b.toArray⟩)=decide (a=b):=by
 rw[ZnA];by_cases h:a=b
 .subst h;simp
 .rw[decide_eq_false h];simp[h]
theorem ZDM (a b:Nat):(((a:Nat):Int)==(b:Nat))=decide (a=b):=by
 by_cases h:a=b
 .subst h;simp
 .rw[decide_eq_false h];exact beq_false_of_ne fun e=>h (Int.ofNat.inj e)
theorem ZsP {ks:List FK} {q:IntKind} {a b:Nat} {xs ys:List Value}:eqF (.int :: ks) (.int q a :: xs) (.int q b :: ys)=if a=b then eqF ks xs ys else some false:=by
 show(if q=q then(bif ((a:Int)==b) then eqF ks xs ys else some false) else none)=_
 rw[if_pos rfl,ZDM];by_cases h:a=b
 .rw[decide_eq_true h,if_pos h];rfl
 .rw[decide_eq_false h,if_neg h];rfl
theorem ZxM {ks:List FK} {a b:Tx} {xs ys:List Value}:eqF (.str :: ks) (strv a :: xs) (strv b :: ys)=if a=b then eqF ks xs ys else some false:=by
 show(bif ((⟨a.toArray⟩:ByteArray)==⟨b.toArray⟩) then eqF ks xs ys else some false)=_
 rw[ZEW];by_cases h:a=b
 .rw[decide_eq_true h,if_pos h];rfl
 .rw[decide_eq_false h,if_neg h];rfl
theorem Zs7 (o o':OpT):eqF [.int,.str,.str,.int,.int] o.cells o'.cells=some (decide (o=o')):=by
 obtain⟨k,a,b,d,r⟩:=o;obtain⟨k',a',b',d',r'⟩:=o';unfold OpT.cells;rw[ZsP,ZxM,ZxM,ZsP,ZsP];simp only[OpT.mk.injEq];by_cases h1:k=k'<;>by_cases h2:a=a'<;>by_cases h3:b=b'<;>by_cases h4:d=d'<;>by_cases h5:r=r'<;>simp[h1,h2,h3,h4,h5,eqF]
theorem Zyq (hsg:∀ c∈s,Zke c) (hn:s.length<=1000):∀ (t i:Nat) (Y:Zd) (sl:Value),s.length - i=t->i<=s.length->Y[p1]?=some (.cells o.cells 1 false false)->Sl Y sl (u8s s)->
  ∃ Y',Zi (c4 (Zag.l1 (R (n+1)))) [pt p1,sl,iv s.length,iv i] Y=some (if(s.drop i).all (ZjT o) then .ext 0 [pt p1] else .ret (iv 4),Y')/\HLe Y Y'
 | 0,i,Y,sl,ht,hi,h1,hs=>by
  have hi:i=s.length:=by omega
  subst hi;refine⟨Y,?_,.refl _⟩;rw[List.drop_length];refine Qq ?_;rw[ZM];unfold Zag.l1;rw[Za Zt,Zb,if_neg (by simp)];rfl
 | t+1,i,Y,sl,ht,hi,h1,hs=>by
  have hlt:i < s.length:=by omega
  have hlt':(i:Int) < s.length:=by omega
  have hg:=List.getElem?_eq_getElem hlt;have hd:=List.drop_eq_getElem_cons hlt;have hm:=hsg _ (List.getElem_mem hlt);generalize s[i]=c at hg hd hm;have x1:=hs.ix (i:=i) (by rw[Kp];exact hlt) .i64 Y;have x2:ld1 (ixp sl i) Y=some (.int .u8 c.toNat,Y):=hs.ldx (by unfold u8s;rw[List.getElem?_map,hg];rfl);obtain⟨Y1,e1,k1⟩:=Zz2 (n:=n) (o:=o) (X:=Y) hm;rw[hd,List.all_cons];cases hr:ZjT o c
  .refine⟨Y1,?_,k1⟩;rw[hr] at e1;refine YA ?_;rw[ZM];unfold Zag.l1;rw[Za Zt,Zb,if_pos (by simpa using hlt'),Za x1,Za x2,Za (Qd (n:=5) h1 rfl),Za e1,Za ZL,Zb,if_pos (by rfl)];rfl
  .rw[hr] at e1;obtain⟨Y2,e2,k2⟩:=Zyq hsg hn t (i+1) Y1 sl (by omega) (by omega) (k1 _ _ h1) (hs.mono k1);refine⟨Y2,?_,k1.trans k2⟩;rw[Bool.true_and];refine(ZU ?_).trans e2;rw[ZM];unfold Zag.l1;rw[Za Zt,Zb,if_pos (by simpa using hlt'),Za x1,Za x2,Za (Qd (n:=5) h1 rfl),Za e1,Za ZL,Zb,if_neg (by simp),Za ZI,JX (by omega)];rfl
theorem gvF {m:M Value} {k:Value->M Value} {H:Zd}:bind (gateV (.bool true) false m) k H=k ZZ H:=rfl
theorem ZtN (hG:GlH X) (hok:ZgF o) (ha:o.a.length<=65535) (hb:o.b.length<=65535):∃ X',R (n+5) ZbV [.agg o.cells.toArray] X=some (iv (checkO o),X')/\HLe X X':=by
 have e1:=Zjp o X;have k1:HLe X (X++[Ze.cells o.cells 1 false false]):=.app _ _;have c1:(X++[Ze.cells o.cells 1 false false])[X.length]?=some (.cells o.cells 1 false false):=Zo;generalize X++[Ze.cells o.cells 1 false false]=X1 at e1 k1 c1;generalize X.length=p1 at e1 c1;have hl:∀ f x,o.cells[f]?=some x->ld1 (pa p1 f) X1=some (x,X1):=fun f x hx=>Zv c1 hx;have hA:ldA 5 (pt p1) X1=some (.agg o.cells.toArray,X1):=Qd (n:=5) c1 rfl;have hcv:cvi .i64 (.int .u8 o.kd) X1=some (iv o.kd,X1):=by rw[QU,w64 (by omega) (by have:=hok.kd;omega)]
 have hge:bop .int .geq (iv o.kd) (.int .i64 17) X1=some (.bool (decide (17<=o.kd)),X1):=by rw[Qo];congr 3;rw[decide_eq_decide];omega
 rw[R,Zw9 rfl];unfold Zag;rw[Za e1,Za Zj,Za (hl 0 _ rfl),Za hcv,Za hge];by_cases hk:17<=o.kd
 .rw[decide_eq_true hk];refine⟨X1,?_,k1⟩;have hck:checkO o=4:=by unfold checkO;rw[if_pos (.inl hk)]
  rw[hck];rw[gvF,gvF,gvF,gvF,Qx,gvF,Za Zl];rfl
 rw[decide_eq_false hk];have hk:o.kd < 17:=by omega
 have hG1:=hG.le k1;have eb:R (n+4) Zab [.agg o.cells.toArray] X1=some (.agg (Zb2 o).cells.toArray,X1):=ZBG (n:=n+3) hG1 hk;have hne:bop (.flat [.int,.str,.str,.int,.int]) .neq (.agg o.cells.toArray) (.agg (Zb2 o).cells.toArray) X1=some (.bool (!decide (o=Zb2 o)),X1):=by
  have:eqv (.flat [.int,.str,.str,.int,.int]) (.agg o.cells.toArray) (.agg (Zb2 o).cells.toArray)=some (decide (o=Zb2 o)):=Zs7 o (Zb2 o);unfold bop;simp only[this];rfl
 have gt:∀ {m:M Value} {k:Value->M Value},bind (gateV (.bool false) false m) k X1=bind m k X1:=fun {m k}=>rfl;rw[gt,Za hA,gt,Za hA,gt,Za eb,gt,Za hA,Qx,gt,Za hne,Za Zl];simp only[cond_false];by_cases hbr:o=Zb2 o
 .rw[decide_eq_true hbr,Zb,if_neg (by simp)];have hsig:ld1 (.pointer (some ⟨0,o.kd,none⟩)) X1=some (strv (sgn o),X1):=by
   have h1:(ZaW.map strv)[o.kd]?=some (strv (sgn o)):=by
    rw[List.getElem?_map];have:ZaW[o.kd]?=some (sgn o):=by
     unfold sgn;rw[List.getD_eq_getElem?_getD,List.getElem?_eq_getElem (by simpa[ZaW] using hk)];rfl
    rw[this];rfl
   exact Zv (id:=0) hG1.x h1
  have hix:WN 17 1 (.pointer (some ⟨0,0,none⟩)) (.int .u8 o.kd) X1=some (.pointer (some ⟨0,o.kd,none⟩),X1):=by
   rw[QL,if_pos ⟨by omega,by omega⟩];simp
  have es:s2b (strv (sgn o)) X1=some (.slice (some ⟨X1.length,0,none⟩) (sgn o).length (sgn o).length,X1++[.cells (u8s (sgn o)) 1 true false]):=by
   unfold s2b Zjf;simp only[strv];rfl
  have k2:HLe X1 (X1++[Ze.cells (u8s (sgn o)) 1 true false]):=.app _ _;have s2:Sl (X1++[Ze.cells (u8s (sgn o)) 1 true false]) (.slice (some ⟨X1.length,0,none⟩) (u8s (sgn o)).length (sgn o).length) (u8s (sgn o)):=Sl.one (es:=1) (g:=true) (ro:=false) Zo;rw[Kp] at s2;generalize X1++[Ze.cells (u8s (sgn o)) 1 true false]=X2 at es k2 s2;generalize X1.length=q at es s2;have hln:ZC (.slice (some ⟨q,0,none⟩) (sgn o).length (sgn o).length) X2=some (iv (sgn o).length,X2):=rfl;obtain⟨X3,e3,k3⟩:=Zyq (n:=n+3) (o:=o) (p1:=p1) (ZAO o) (by have:=Zx0 o;omega) (sgn o).length 0 X2 _ (by omega) (by omega) (k2 _ _ c1) s2;rw[List.drop_zero] at e3;have e3:Zi (c4 (Zag.l1 (run Tryz.prog np lvs (n+4)))) [pt p1,.slice (some ⟨q,0,none⟩) (sgn o).length (sgn o).length,.int .i64 (sgn o).length,.int .i64 0] X2=_:=e3;rw[Za Zj,Za (hl 0 _ rfl),Za hix,Za hsig,Za es,Za hln];have c3:=k3 _ _ (k2 _ _ c1);have hl3:∀ f x,o.cells[f]?=some x->ld1 (pa p1 f) X3=some (x,X3):=fun f x hx=>Zv c3 hx;cases hall:(sgn o).all (ZjT o) with
  | false=>
   rw[hall,if_neg (by simp)] at e3;refine⟨X3,?_,(k1.trans k2).trans k3⟩;have hck:checkO o=4:=by unfold checkO;rw[if_neg (fun h=>h.elim (fun h=>by omega) (fun h=>h hbr)),hall,if_neg (by simp)]
   rw[hck,KG e3];rfl
  | true=>
   rw[hall,if_pos rfl] at e3;have hcl:checkO o=if 64 < o.a.length+o.b.length\/64 < (ZdB o).length then 3 else 0:=by unfold checkO;rw[if_neg (fun h=>h.elim (fun h=>by omega) (fun h=>h hbr)),hall,if_pos rfl]
   rw[hcl,Q4 e3,ZP,J1,Za Zj,Za (hl3 1 _ rfl),Za Z9,Za Zj,Za (hl3 2 _ rfl),Za Z9,Za ZI,w64 (by omega) (by omega)];have hgt:bop .int .gtr (.int .i64 ((o.a.length:Int)+o.b.length)) (.int .i64 64) X3=some (.bool (decide (64 < o.a.length+o.b.length)),X3):=by rw[Qm];congr 3;rw[decide_eq_decide];omega
   rw[Za hgt];by_cases hab:64 < o.a.length+o.b.length
   .refine⟨X3,?_,(k1.trans k2).trans k3⟩;rw[decide_eq_true hab,if_pos (.inl hab),Za (show gate (.bool true) false 4 _ X3=some ([ZZ,ZZ,ZZ,ZZ],X3) from rfl),ZM,Za Zl];rfl
   .obtain⟨v,qv,X4,e4,r4,l4⟩:=ZAN (n:=n) (X:=X3) ((hG1.le (k2.trans k3)).x) hk hok ha hb;have hlv:ZC v X4=some (iv (ZdB o).length,X4):=by have:=r4.rd.len (H':=X4);rwa [Kp] at this
    have hg4:bop .int .gtr (iv (ZdB o).length) (.int .i64 64) X4=some (.bool (decide (64 < (ZdB o).length)),X4):=by
     generalize(ZdB o).length=w;have hq:decide ((w:Int) > 64)=decide (64 < w):=by rw[decide_eq_decide];omega
     rw[Qm,hq]
    refine⟨X4,?_,((k1.trans k2).trans k3).trans l4⟩;rw[decide_eq_false hab,Z0,Zk,Za (Qd (n:=5) c3 rfl),Zk,Za e4,Zk,Za hlv,Zk,Za hg4,Qe,ZM,Za Zl];simp only[cond_false];by_cases hw:64 < (ZdB o).length
    .rw[decide_eq_true hw,if_pos (.inr hw)];rfl
    .rw[decide_eq_false hw,if_neg (fun h=>h.elim hab hw)];rfl
 .refine⟨X1,?_,k1⟩;have hck:checkO o=4:=by unfold checkO;rw[if_pos (.inr hbr)]
  rw[hck,decide_eq_false hbr,Zb,if_pos (by simp)];rfl
end
section
variable {X X' Y:Zd} {n:Nat}
def Q7 (r:Ql) (lv:Value):List Value:=[.int .u64 r.num,iv r.e,lv]
def QR (rows:List Ql) (lvs:List Value):List Value:=((rows.zip lvs).map fun p=>Q7 p.1 p.2).flatten
structure ZyN (X:Zd) (lv:Value) (l:List Tx) (fr:List Nat):Prop where
 sl:Sl X lv (l.map strv)
 one:oneCell lv=true
 fr:∀ id,own1 lv=some id->id∈fr
 few:l.length<=1000
structure Tab (X:Zd) (t:Nat) (rows:List Ql) (lvs:List Value) (fr:List Nat):Prop where
 cell:X[t]?=some (.cells (QR rows lvs) 1 false false)
 n8:rows.length=8
 l8:lvs.length=8
 sep:∀ (i:Nat) lv,lvs[i]?=some lv->own1 lv≠some t
 t:t∈fr
 lt:∀ j∈fr,j < X.length
 txt:∀ (i:Nat) r lv,rows[i]?=some r->lvs[i]?=some lv->ZyN X lv r.l fr
 err:∀ r∈rows,r.e≠0->r.l=[]
theorem ZyN.keep {lv:Value} {l:List Tx} {fr:List Nat} (h:ZyN X lv l fr) (hk:∀ j∈fr,X'[j]?=X[j]?):ZyN X' lv l fr:=
 ⟨h.sl.keep fun id hi=>hk id (h.fr id hi),h.one,h.fr,h.few⟩
theorem Tab.keep {t:Nat} {rows:List Ql} {lvs:List Value} {fr:List Nat} (h:Tab X t rows lvs fr) (hk:∀ j∈fr,X'[j]?=X[j]?) (hl:X.length<=X'.length):Tab X' t rows lvs fr:=
 ⟨by rw[hk t h.t];exact h.cell,h.n8,h.l8,h.sep,h.t,fun j hj=>Nat.lt_of_lt_of_le (h.lt j hj) hl,fun i r lv h1 h2=>(h.txt i r lv h1 h2).keep hk,h.err⟩
theorem Zx1 {α β:Type} {l:List α} {m:List β} {i:Nat} {a:α} {b:β} (h1:l[i]?=some a) (h2:m[i]?=some b):(l.zip m)[i]?=some (a,b):=by
 rw[List.getElem?_zip_eq_some];exact⟨h1,h2⟩
theorem Zp8 {rows:List Ql} {lvs:List Value}:∀ r∈(rows.zip lvs).map (fun p=>Q7 p.1 p.2),r.length=3:=by
 intro r hr;obtain⟨p,_,rfl⟩:=List.mem_map.1 hr;rfl
theorem ZgJ {rows:List Ql} {lvs:List Value} {i:Nat} {r:Ql} {lv:Value} (hr:rows[i]?=some r) (hl:lvs[i]?=some lv):((QR rows lvs).drop (i * 3)).take 3=Q7 r lv:=by
 have h1:((rows.zip lvs).map (fun p=>Q7 p.1 p.2))[i]?=some (Q7 r lv):=by rw[List.getElem?_map,Zx1 hr hl];rfl
 have:=ZjA (rest:=[]) Zp8 h1
 rwa [List.append_nil] at this
theorem ZfW {rows:List Ql} {lvs:List Value} {i:Nat} {r:Ql} {lv:Value} (hr:rows[i]?=some r) (hl:lvs[i]?=some lv) {f:Nat} {v:Value} (hv:(Q7 r lv)[f]?=some v):(QR rows lvs)[i * 3+f]?=some v:=by
 rw[<- ZgJ hr hl,List.getElem?_take] at hv;split at hv
 .rwa [List.getElem?_drop] at hv
 .cases hv
theorem Zfb {rows:List Ql} {lvs:List Value} (h1:rows.length=8) (h2:lvs.length=8):(QR rows lvs).length=24:=by
 have:=Zbn (es:=3) (rows:=(rows.zip lvs).map fun p=>Q7 p.1 p.2) Zp8;unfold QR;rw[this];simp[h1,h2]
theorem Tab.row {t:Nat} {rows:List Ql} {lvs:List Value} {fr:List Nat} (h:Tab X t rows lvs fr) {c:Nat} (hc:c < 8):∃ r lv,rows[c]?=some r/\lvs[c]?=some lv:=
 ⟨rows[c]'(by rw[h.n8];exact hc),lvs[c]'(by rw[h.l8];exact hc),List.getElem?_eq_getElem _,List.getElem?_eq_getElem _⟩
theorem Tab.ix {c t:Nat} (hc:c < 8):WN 8 3 (pa t 0) (.int .u8 c) X=some (pa t (c * 3),X):=by
 rw[QL,if_pos ⟨by omega,by omega⟩];simp
theorem Zvd {a:Nat}:R (n+1) Ky [.int .u64 a] X=some (.bool false,X):=by
 rw[R,ZlV rfl];unfold Zd9;rw[Za Zn];simp[ret]
theorem ZFf {a b:Nat}:R (n+2) WA [.int .u64 a,.int .u64 b] X=some (iv (if a < b then -1 else if b < a then 1 else 0),X):=by
 rw[R,ZkN rfl];unfold ZcG;have e1:R (n+1) Ky [.int .u64 a] X=_:=Zvd;have e2:R (n+1) Ky [.int .u64 b] X=_:=Zvd;have q1:bop .int .lss (.int .u64 a) (.int .u64 b) X=some (.bool (decide (a < b)),X):=by
  have hq:decide ((a:Int) < b)=decide (a < b):=by rw[decide_eq_decide];omega
  rw[Zt,hq]
 have q2:bop .int .gtr (.int .u64 a) (.int .u64 b) X=some (.bool (decide (b < a)),X):=by
  have hq:decide ((a:Int) > b)=decide (b < a):=by rw[decide_eq_decide];omega
  rw[Qm,hq]
 rw[Za e1,Za e2,Zb,if_neg (by simp),Zb,if_neg (by simp),Za q1];by_cases h1:a < b
 .rw[decide_eq_true h1,Zb,if_pos rfl,if_pos h1];rfl
 .rw[decide_eq_false h1,Zb,if_neg (by simp),if_neg h1,Za q2];by_cases h2:b < a
  .rw[decide_eq_true h2,Zb,if_pos rfl,if_pos h2];rfl
  .rw[decide_eq_false h2,Zb,if_neg (by simp),if_neg h2];rfl
theorem ZsY {rows:List Ql} {c m:Nat} (h:8<=c\/m=0\/1099511627776 < m):judgeS rows c m=0:=by unfold judgeS;rw[if_pos h]
theorem ZsN {t c m:Nat} {rows:List Ql} {lvs:List Value} {fr:List Nat} (h:Tab X t rows lvs fr):R (n+3) J9 [pt t,.int .u8 c,.int .u64 m] X=some (iv (judgeS rows c m),X):=by
 rw[R,Zlt rfl];unfold Zdu;have q1:bop .int .geq (.int .u8 c) (.int .u8 8) X=some (.bool (decide (8<=c)),X):=by rw[Qo];congr 3;rw[decide_eq_decide];omega
 have q2:bop .int .eql (.int .u64 m) (.int .u64 0) X=some (.bool (decide (m=0)),X):=by
  rw[ZE];congr 3;by_cases h:m=0
  .subst h;rfl
  .rw[decide_eq_false h];simpa using h
 have q3:bop .int .gtr (.int .u64 m) (.int .u64 1099511627776) X=some (.bool (decide (1099511627776 < m)),X):=by rw[Qm];congr 3;rw[decide_eq_decide];omega
 rw[Za q1];by_cases h1:8<=c
 .rw[decide_eq_true h1,ZsY (.inl h1),Za (show gate (.bool true) false 2 _ X=some ([ZZ,ZZ],X) from rfl),Qv,Za Zl];simp only[cond_true];rw[Za (show gate (.bool true) false 2 _ X=some ([ZZ,ZZ],X) from rfl),Qv,Za Zl];rfl
 rw[decide_eq_false h1,Z0,Zk,Za q2,Qe,Qv,Za Zl];simp only[cond_false];by_cases h2:m=0
 .rw[decide_eq_true h2,ZsY (.inr (.inl h2)),Za (show gate (.bool true) false 2 _ X=some ([ZZ,ZZ],X) from rfl),Qv,Za Zl];rfl
 rw[decide_eq_false h2,Z0,Zk,Za q3,Qe,Qv,Za Zl];simp only[cond_false];by_cases h3:1099511627776 < m
 .rw[decide_eq_true h3,ZsY (.inr (.inr h3)),Zb,if_pos rfl];rfl
 have hc:c < 8:=by omega
 obtain⟨r,lv,hr,hl⟩:=h.row hc;have hj:judgeS rows c m=if m < r.num then 1 else if m=r.num then 2 else 3:=by
  unfold judgeS;rw[if_neg (by omega),hr]
 have e1:ld1 (pa t (c * 3)) X=some (.int .u64 r.num,X):=Zv h.cell (by have:=ZfW hr hl (f:=0) (v:=.int .u64 r.num) rfl;simpa using this);have e2:R (n+2) WA [.int .u64 m,.int .u64 r.num] X=_:=ZFf (n:=n);rw[decide_eq_false h3,Zb,if_neg (by simp),Za Zg,Za Zj,Za (Tab.ix hc),Za (show fa 0 (pa t (c * 3)) X=some (pa t (c * 3),X) from by rw[Yq,Nat.add_zero]),Za e1,Za e2,Za ZI,hj];by_cases h4:m < r.num
 .rw[if_pos h4,if_pos h4];rfl
 .rw[if_neg h4,if_neg h4];by_cases h5:r.num < m
  .rw[if_pos h5,if_neg (by omega)];rfl
  .rw[if_neg h5,if_pos (by omega)];rfl
def lastS (rows:List Ql) (c:Nat):Nat:=match rows[c]? with
 | some r=>r.num
 | none=>0
theorem ZFq {t c:Nat} {rows:List Ql} {lvs:List Value} {fr:List Nat} (h:Tab X t rows lvs fr):R (n+1) J0 [pt t,.int .u8 c] X=some (.int .u64 (lastS rows c),X):=by
 rw[R,ZmV rfl];unfold Zea;have q1:bop .int .geq (.int .u8 c) (.int .u8 8) X=some (.bool (decide (8<=c)),X):=by rw[Qo];congr 3;rw[decide_eq_decide];omega
 rw[Za q1];by_cases h1:8<=c
 .rw[decide_eq_true h1,Zb,if_pos rfl];unfold lastS;rw[List.getElem?_eq_none (by rw[h.n8];exact h1)];rfl
 .have hc:c < 8:=by omega
  obtain⟨r,lv,hr,hl⟩:=h.row hc;have e1:ld1 (pa t (c * 3)) X=some (.int .u64 r.num,X):=Zv h.cell (by have:=ZfW hr hl (f:=0) (v:=.int .u64 r.num) rfl;simpa using this);rw[decide_eq_false h1,Zb,if_neg (by simp),Za Zg,Za Zj,Za (Tab.ix hc),Za (show fa 0 (pa t (c * 3)) X=some (pa t (c * 3),X) from by rw[Yq,Nat.add_zero]),Za e1];unfold lastS;rw[hr];rfl
theorem ZB6 {lv:Value} {l:List Tx} (h:Sl X lv (l.map strv)) (hl:l.length<=100000):∃ v q X',R (n+1) YF [lv] X=some (v,X')/\Zu X' v (l.map strv) q/\HLe X X'/\∀ j∈q,X.length<=j:=by
 have hlm:(l.map strv).length=l.length:=List.length_map _;rw[R,Zgx rfl];unfold W9;rcases h.isnil (H':=X) with⟨rfl,h0,e⟩|e
 .refine⟨.slice none 0 0,[],X,?_,by rw[h0];exact Zu.nil,.refl _,by simp⟩;rw[Za e];rfl
 .have hb2:Sl (X++[.cells [] 1 false false]) lv (l.map strv):=h.mono (.app _ _);obtain⟨sl',X',own',e2,hr,hle,ho⟩:=ZwK (b:=16) hb2 (by rw[hlm];omega) (by rw[hlm];omega) (s:=.slice (some ⟨X.length,0,none⟩) 0 0) (.inr ⟨X.length,false,rfl,Zo,rfl⟩);refine⟨sl',own',X',?_,hr,(HLe.app _ _).trans hle,fun j hj=>?_⟩
  .rw[Za e,Zb,if_neg (by simp),Za ZBH,Za e2];rfl
  .rcases ho j hj with h|⟨_,h⟩
   .simp at h;omega
   .cases h;exact Nat.le_refl _
def KK (e:Int) (l:List Tx):List Tx:=if e=0 then l else[]
theorem Zp2 {e:Int} {lv:Value} {l:List Tx} (h:Sl X lv (l.map strv)) (hl:l.length<=1000) (h1:oneCell lv=true):∃ v q X',R (n+2) WF [.agg #[iv e,lv]] X=some (.agg #[iv e,v],X')/\Zu X' v ((KK e l).map strv) q/\HLe X X'/\∀ j∈q,X.length<=j:=by
 have a1:alc 1 (.agg #[iv e,lv]) X=some (pt X.length,X++[.cells [iv e,lv] 1 false false]):=by
  unfold alc ZsV;rw[if_pos (by simp[Value.cells,oneCell,h1]<;>exact h1)];rfl
 have k1:HLe X (X++[Ze.cells [iv e,lv] 1 false false]):=.app _ _;have c1:(X++[Ze.cells [iv e,lv] 1 false false])[X.length]?=some (.cells [iv e,lv] 1 false false):=Zo;have n1:X.length<=X.length:=Nat.le_refl _;generalize X++[Ze.cells [iv e,lv] 1 false false]=X1 at a1 k1 c1;generalize hp1:X.length=p1 at a1 c1 n1;have a2:alc 1 (.agg #[.int .i64 0,.slice none 0 0]) X1=some (pt X1.length,X1++[.cells [.int .i64 0,.slice none 0 0] 1 false false]):=rfl;have k2:HLe X1 (X1++[Ze.cells [.int .i64 0,.slice none 0 0] 1 false false]):=.app _ _;have c2:(X1++[Ze.cells [.int .i64 0,.slice none 0 0] 1 false false])[X1.length]?=some (.cells [.int .i64 0,.slice none 0 0] 1 false false):=Zo;have hlt:=Z6 c1;have d1:=k2 _ _ c1;generalize X1++[Ze.cells [.int .i64 0,.slice none 0 0] 1 false false]=X2 at a2 k2 c2 d1;generalize hp2:X1.length=p2 at a2 c2;have hne:p2≠p1:=by omega
 have k12:=k1.trans k2;rw[R,Zsh rfl];unfold ZhT;rw[Za a1,Za a2,Za Zj,Za (Zv d1 rfl),Za Zn];by_cases he:e=0
 .subst he;obtain⟨v,q,X3,e3,r3,l3,o3⟩:=ZB6 (n:=n) (h.mono k12) (by omega);have e3:R (n+1) YF [lv] X2=_:=e3;have f1:=l3 _ _ d1;have f2:=l3 _ _ c2;have s4:st1 (pa p1 1) v X3=some (undef,X3.set p1 (.cells [iv 0,v] 1 false false)):=Zew (o:=1) f1 (by simp) r3.one.1;have g1:(X3.set p1 (.cells [iv 0,v] 1 false false))[p1]?=some (.cells [iv 0,v] 1 false false):=ZW f1;have g2:(X3.set p1 (.cells [iv 0,v] 1 false false))[p2]?=some (.cells [.int .i64 0,.slice none 0 0] 1 false false):=by rw[List.getElem?_set_ne (Ne.symm hne)];exact f2
  have k4:HLe X (X3.set p1 (.cells [iv 0,v] 1 false false)):=(k12.trans l3).put (by omega);have r4:Zu (X3.set p1 (.cells [iv 0,v] 1 false false)) v (l.map strv) q:=r3.keep fun j hj=>List.getElem?_set_ne (fun e=>by have:=o3 j hj;have:=k2.len;have:=Z6 d1;omega);generalize X3.set p1 (.cells [iv 0,v] 1 false false)=X4 at s4 g1 g2 k4 r4;have s5:stA 2 (pt p2) (.agg #[iv 0,v]) X4=some (undef,X4.set p2 (.cells [iv 0,v] 1 false false)):=WX (vs:=[iv 0,v]) g2 rfl rfl (by rw[List.all_cons,List.all_cons,r4.one.1];rfl);have g3:(X4.set p2 (.cells [iv 0,v] 1 false false))[p2]?=some (.cells [iv 0,v] 1 false false):=ZW g2;have hp2l:p2 < X2.length:=Z6 c2;refine⟨v,q,X4.set p2 (.cells [iv 0,v] 1 false false),?_,?_,k4.put (by omega),fun j hj=>by have:=o3 j hj;have:=k12.len;omega⟩
  .rw[Zb,if_neg (by simp),Za Zj,Za (Zv d1 rfl),Za e3,Za Zj,Za s4,Za (Qd (n:=2) g1 rfl),Za s5,Za (Qd (n:=2) g3 rfl)];rfl
  .rw[show KK 0 l=l from rfl];exact r4.keep fun j hj=>List.getElem?_set_ne (fun e=>by have:=o3 j hj;omega)
 .have hb:bld (.agg #[.int .i64 0,.slice none 0 0]) [(0,1,iv e)] X2=some (.agg #[iv e,.slice none 0 0],X2):=rfl;have s5:stA 2 (pt p2) (.agg #[iv e,.slice none 0 0]) X2=some (undef,X2.set p2 (.cells [iv e,.slice none 0 0] 1 false false)):=WX (vs:=[iv e,.slice none 0 0]) c2 rfl rfl rfl;have g3:(X2.set p2 (.cells [iv e,.slice none 0 0] 1 false false))[p2]?=some (.cells [iv e,.slice none 0 0] 1 false false):=ZW c2;refine⟨.slice none 0 0,[],X2.set p2 (.cells [iv e,.slice none 0 0] 1 false false),?_,?_,k12.put (by omega),by simp⟩
  .rw[Zb,if_pos (by simpa using he),Za Zj,Za (Zv d1 rfl),Za hb,Za s5,Za (Qd (n:=2) g3 rfl)];rfl
  .rw[show KK e l=[] from if_neg he];exact Zu.nil
end
section
variable {X X' Y:Zd} {n:Nat}
def ZaV:List Ql:=List.replicate 8 ⟨0,0,[]⟩
theorem ZrO:R (n+1) Zca [] X=some (pt X.length,X++[.cells (QR ZaV (List.replicate 8 (.slice none 0 0))) 1 false false]):=by
 rw[R,ZvS rfl];rfl
theorem Zx7 {fr:List Nat} (h:X.length∈fr) (hl:∀ j∈fr,j < X.length+1):Tab (X++[.cells (QR ZaV (List.replicate 8 (.slice none 0 0))) 1 false false]) X.length ZaV (List.replicate 8 (.slice none 0 0)) fr:=by
 refine⟨Zo,rfl,rfl,fun i lv h2=>?_,h,by simpa using hl,fun i r lv h1 h2=>?_,fun r hr h=>?_⟩
 .rw[List.eq_of_mem_replicate (List.mem_of_getElem? h2)];intro e;cases e
 .have e1:=List.mem_of_getElem? h1;have e2:=List.mem_of_getElem? h2;rw[List.eq_of_mem_replicate e1,List.eq_of_mem_replicate e2];exact⟨Sl.nil,rfl,(fun id hi=>by cases hi),by simp⟩
 .rw[List.eq_of_mem_replicate hr]
theorem ZnF {id o k es:Nat} {cs:List Value} {g ro:Bool} (h:X[id]?=some (.cells cs es g ro)) (hk:o+k<=cs.length):ldA k (pa id o) X=some (.agg ((cs.drop o).take k).toArray,X):=by
 unfold ldA;simp only;rw[h];simp only;rw[if_pos hk]
theorem Zso {id o k es:Nat} {cs vs:List Value} {g:Bool} (h:X[id]?=some (.cells cs es g false)) (hk:o+k<=cs.length) (hv:vs.length=k) (h1:vs.all oneCell=true):stA k (pa id o) (.agg vs.toArray) X=some (undef,X.set id (.cells (splice cs vs o) es g false)):=by
 unfold stA;simp only;rw[h];simp only;rw[if_pos ⟨hk,by simpa using hv,by simpa using h1⟩]
theorem ZoG {es:Nat} {row:List Value} (hrow:row.length=es):∀ {rows:List (List Value)} {i:Nat},(∀ r∈rows,r.length=es)->i < rows.length->splice rows.flatten row (i * es)=(rows.set i row).flatten
 | [],i,_,h=>by simp at h
 | r :: rows,0,hr,h=>by
  have:r.length=es:=hr r (by simp);unfold splice;simp[this,hrow]
 | r :: rows,i+1,hr,h=>by
  have h1:r.length=es:=hr r (by simp);have h2:=ZoG hrow (fun x hx=>hr x (by simp[hx])) (rows:=rows) (i:=i) (by simpa using h);have:=ZrF (pre:=r) (m:=rows.flatten) (new:=row) (o:=i * es);rw[List.flatten_cons,show(i+1) * es=r.length+i * es by rw[h1,Nat.add_mul];omega,this,h2];rfl
theorem ZxX {rows:List Ql} {lvs:List Value} {c:Nat} {r:Ql} {lv:Value} (h1:rows.length=8) (h2:lvs.length=8) (hc:c < 8):splice (QR rows lvs) (Q7 r lv) (c * 3)=QR (rows.set c r) (lvs.set c lv):=by
 unfold QR;rw[ZoG (es:=3) (row:=Q7 r lv) rfl Zp8 (by simp[h1,h2,hc])]
 congr 1
 rw[<- List.map_set (f:=fun p:Ql × Value=>Q7 p.1 p.2) (a:=(r,lv))]
 congr 1
 apply List.ext_getElem?
 intro i;rw[List.getElem?_set];by_cases e:c=i
 .subst e;have a1:(rows.set c r)[c]?=some r:=List.getElem?_set_self (by omega);have a2:(lvs.set c lv)[c]?=some lv:=List.getElem?_set_self (by omega);rw[if_pos rfl,Zx1 a1 a2,if_pos (by simp[h1,h2,hc])]
 .rw[if_neg e]
  apply Option.ext
  intro p;rw[List.getElem?_zip_eq_some,List.getElem?_zip_eq_some,List.getElem?_set_ne e,List.getElem?_set_ne e]
theorem ZD1 {t c:Nat} {rows:List Ql} {lvs:List Value} {fr:List Nat} {r:Ql} (h:Tab X t rows lvs fr) (hc:c < 8) (hr:rows[c]?=some r):∃ v q X',R (n+3) K2 [pt t,.int .u8 c] X=some (.agg #[iv r.e,v],X')/\Zu X' v (r.l.map strv) q/\HLe X X'/\∀ j∈q,X.length<=j:=by
 obtain⟨r',lv,hr',hl⟩:=h.row hc;rw[hr] at hr';cases hr';have ht:=h.txt c r lv hr hl;have hkeep:KK r.e r.l=r.l:=by
  unfold KK;split
  .rfl
  .rename_i he;exact(h.err r (List.mem_of_getElem? hr) (fun e0=>he (by rw[e0];rfl))).symm
 have a2:alc 1 (.agg #[.int .i64 0,.slice none 0 0]) X=some (pt X.length,X++[.cells [.int .i64 0,.slice none 0 0] 1 false false]):=rfl;have k2:HLe X (X++[Ze.cells [.int .i64 0,.slice none 0 0] 1 false false]):=.app _ _;have c2:(X++[Ze.cells [.int .i64 0,.slice none 0 0] 1 false false])[X.length]?=some (.cells [.int .i64 0,.slice none 0 0] 1 false false):=Zo;have n1:X.length<=X.length:=Nat.le_refl _;generalize X++[Ze.cells [.int .i64 0,.slice none 0 0] 1 false false]=X2 at a2 k2 c2;generalize hp2:X.length=p2 at a2 c2 n1;have hcell:=k2 _ _ h.cell;have hlen:=Zfb h.n8 h.l8;have hd:((QR rows lvs).drop (c * 3+1)).take 2=[iv r.e,lv]:=by
  have:=congrArg (List.drop 1) (ZgJ hr hl);rw[List.drop_take,List.drop_drop] at this;simpa[Q7] using this
 have q1:bop .int .geq (.int .u8 c) (.int .u8 8) X2=some (.bool false,X2):=by rw[Qo,decide_eq_false (by omega)]
 have e3:ldA 2 (pa t (c * 3+1)) X2=some (.agg #[iv r.e,lv],X2):=by rw[ZnF hcell (by rw[hlen];omega),hd]
 obtain⟨v,q,X3,e4,r4,l4,o4⟩:=Zp2 (n:=n) (e:=r.e) (ht.sl.mono k2) ht.few ht.one;rw[hkeep] at r4;have f2:=l4 _ _ c2;have s5:stA 2 (pt p2) (.agg #[iv r.e,v]) X3=some (undef,X3.set p2 (.cells [iv r.e,v] 1 false false)):=WX (vs:=[iv r.e,v]) f2 rfl rfl (by rw[List.all_cons,List.all_cons,r4.one.1];rfl);have g3:(X3.set p2 (.cells [iv r.e,v] 1 false false))[p2]?=some (.cells [iv r.e,v] 1 false false):=ZW f2;have hp2l:p2 < X2.length:=Z6 c2;refine⟨v,q,X3.set p2 (.cells [iv r.e,v] 1 false false),?_,r4.keep fun j hj=>List.getElem?_set_ne (fun e=>by have:=o4 j hj;omega),(k2.trans l4).put (by omega),fun j hj=>by have:=o4 j hj;have:=k2.len;omega⟩;have e4:R (n+2) WF [.agg #[iv r.e,lv]] X2=_:=e4;rw[R,ZlJ rfl];unfold Zdz;rw[Za a2,Za q1,Zb,if_neg (by simp),Za Zg,Za Zj,Za (Tab.ix hc),Za (show fa 1 (pa t (c * 3)) X2=some (pa t (c * 3+1),X2) from by rw[Yq]),Za e3,Za e4,Za s5,Za (Qd (n:=2) g3 rfl)];rfl
def ZpQ (rows:List Ql) (c m:Nat):Nat:=match judgeS rows c m with
 | 0=>1
 | 3=>0
 | _=>12
def Zj2 (rows:List Ql) (c m e:Nat) (l:List Tx):List Ql:=if judgeS rows c m=3 then rows.set c ⟨m,e,KK e l⟩ else rows
theorem ZCr {rows:List Ql} {c m:Nat} (h:judgeS rows c m=3):c < 8:=by
 unfold judgeS at h;split at h
 .cases h
 .omega
theorem Zwc (rows:List Ql) (c m:Nat):judgeS rows c m<=3:=by
 unfold judgeS;split
 .omega
 .split
  .split
   .omega
   .split<;>omega
  .omega
theorem ZB1 {e:Int} {l:List Tx}:(KK e l).length<=l.length:=by
 unfold KK;split
 .exact Nat.le_refl _
 .exact Nat.zero_le _
theorem Tab.put {t c m e:Nat} {rows:List Ql} {lvs:List Value} {fr q:List Nat} {l:List Tx} {v:Value} (h:Tab X t rows lvs fr) (hc:c < 8) (hr:Zu X v ((KK e l).map strv) q) (hl:l.length<=1000) (ht:t∉q) (hX:X'[t]?=some (.cells (QR (rows.set c ⟨m,e,KK e l⟩) (lvs.set c v)) 1 false false)) (hn:X.length<=X'.length) (hk:∀ j,j≠t->X'[j]?=X[j]?):Tab X' t (rows.set c ⟨m,e,KK e l⟩) (lvs.set c v) (fr++q):=by
 have hr':Zu X' v ((KK e l).map strv) q:=hr.keep fun j hj=>hk j (fun e=>ht (e ▸ hj));refine⟨hX,by simpa using h.n8,by simpa using h.l8,fun i lv h2=>?_,by simp[h.t],fun j hj=>?_,fun i r lv h1 h2=>?_,fun r hr1 he=>?_⟩
 .by_cases e1:c=i
  .subst e1;rw[List.getElem?_set_self (by rw[h.l8];exact hc)] at h2;cases h2;exact fun hi=>ht (hr'.own_of hi)
  .rw[List.getElem?_set_ne e1] at h2;exact h.sep i lv h2
 .rcases List.mem_append.1 hj with h1|h1
  .exact Nat.lt_of_lt_of_le (h.lt j h1) hn
  .exact hr'.lt j h1
 .by_cases e1:c=i
  .subst e1;rw[List.getElem?_set_self (by rw[h.n8];exact hc)] at h1;rw[List.getElem?_set_self (by rw[h.l8];exact hc)] at h2;cases h1;cases h2;exact⟨hr'.rd,hr'.one.1,(fun id hi=>List.mem_append_right _ (hr'.own_of hi)),Nat.le_trans ZB1 hl⟩
  .rw[List.getElem?_set_ne e1] at h1 h2;have:=h.txt i r lv h1 h2;exact⟨this.sl.keep fun id hi=>hk id (fun e=>h.sep i lv h2 (e ▸ hi)),this.one,(fun id hi=>List.mem_append_left _ (this.fr id hi)),this.few⟩
 .rcases List.mem_or_eq_of_mem_set hr1 with h1|h1
  .exact h.err r h1 he
  .subst h1;show KK _ _=_
   exact if_neg (fun h0=>he (by exact_mod_cast h0))
theorem ZFJ {t c m e:Nat} {rows:List Ql} {lvs:List Value} {fr:List Nat} {l:List Tx} {lv:Value} (h:Tab X t rows lvs fr) (hs:Sl X lv (l.map strv)) (hl:l.length<=1000) (h1:oneCell lv=true) :
  ∃ X' lvs' q,R (n+4) Za8 [pt t,.int .u8 c,.int .u64 m,.agg #[iv e,lv]] X=some (iv (ZpQ rows c m),X')/\Tab X' t (Zj2 rows c m e l) lvs' (fr++q)/\X.length<=X'.length/\(∀ j,j < X.length->j≠t->X'[j]?=X[j]?)/\∀ j∈q,X.length<=j:=by
 have a1:alc 1 (.agg #[iv e,lv]) X=some (pt X.length,X++[.cells [iv e,lv] 1 false false]):=by
  unfold alc ZsV;rw[if_pos (by simp[Value.cells,oneCell,h1]<;>exact h1)];rfl
 have k1:HLe X (X++[Ze.cells [iv e,lv] 1 false false]):=.app _ _;have c1:(X++[Ze.cells [iv e,lv] 1 false false])[X.length]?=some (.cells [iv e,lv] 1 false false):=Zo;have t1:Tab (X++[Ze.cells [iv e,lv] 1 false false]) t rows lvs fr:=h.keep (fun j hj=>List.getElem?_append_left (h.lt j hj)) (by simp);generalize X++[Ze.cells [iv e,lv] 1 false false]=X1 at a1 k1 c1 t1;obtain⟨p1,hp1⟩:∃ p,p=X.length:=⟨_,rfl⟩;rw[<- hp1] at a1 c1;have htl:t < X.length:=h.lt t h.t;have old1:∀ j,j < X.length->X1[j]?=X[j]?:=fun j hj=>by rw[List.getElem?_eq_getElem hj];exact k1 _ _ (List.getElem?_eq_getElem hj)
 have ej:R (n+3) J9 [pt t,.int .u8 c,.int .u64 m] X1=some (iv (judgeS rows c m),X1):=ZsN t1;rw[R,Zow rfl];unfold Zfa;rw[Za a1,Za ej,Za ZE];by_cases j0:judgeS rows c m=0
 .refine⟨X1,lvs,[],?_,?_,k1.len,fun j hj _=>old1 j hj,by simp⟩
  .rw[j0,show ZpQ rows c m=1 by unfold ZpQ;rw[j0];rfl];rfl
  .rw[show Zj2 rows c m e l=rows by unfold Zj2;rw[if_neg (by omega)],List.append_nil];exact t1
 have q1:((judgeS rows c m:Int)==0)=false:=by simpa using j0
 rw[q1,Zb,if_neg (by simp),Za ZE];by_cases j3:judgeS rows c m=3
 .have hc:=ZCr j3;obtain⟨v,q,X2,e2,r2,l2,o2⟩:=Zp2 (n:=n+1) (e:=(e:Int)) (hs.mono k1) hl h1;have e2:R (n+3) WF [.agg #[iv e,lv]] X1=_:=e2;have c2:=l2 _ _ t1.cell;have t2:Tab X2 t rows lvs fr:=t1.keep (fun j hj=>by rw[List.getElem?_eq_getElem (t1.lt j hj)];exact l2 _ _ (List.getElem?_eq_getElem (t1.lt j hj))) l2.len;have old2:∀ j,j < X.length->X2[j]?=X[j]?:=fun j hj=>by
   have hj1:j < X1.length:=Nat.lt_of_lt_of_le hj k1.len;have e3:=l2 _ _ (List.getElem?_eq_getElem hj1);rw[<- List.getElem?_eq_getElem hj1] at e3;rw[e3];exact old1 j hj
  have hb:bld (.agg #[.int .u64 0,.int .i64 0,.slice none 0 0]) [(0,1,.int .u64 m),(1,2,.agg #[iv e,v])] X2=some (.agg #[.int .u64 m,iv e,v],X2):=by
   rw[JC];rfl
  have hlen:=Zfb h.n8 h.l8;have s3:stA 3 (pa t (c * 3)) (.agg #[.int .u64 m,iv e,v]) X2=some (undef,X2.set t (.cells (QR (rows.set c ⟨m,e,KK e l⟩) (lvs.set c v)) 1 false false)):=by
   have:=Zso (vs:=Q7 ⟨m,e,KK e l⟩ v) (o:=c * 3) (k:=3) c2 (by rw[hlen];omega) rfl (by unfold Q7;rw[List.all_cons,List.all_cons,List.all_cons,r2.one.1];rfl);rw[ZxX h.n8 h.l8 hc] at this;exact this
  refine⟨X2.set t (.cells (QR (rows.set c ⟨m,e,KK e l⟩) (lvs.set c v)) 1 false false),lvs.set c v,q,?_,?_,?_,fun j hj hne=>?_,fun j hj=>Nat.le_trans k1.len (o2 j hj)⟩
  .rw[j3,show ZpQ rows c m=0 by unfold ZpQ;rw[j3];rfl];rw[Zb,if_pos (show(((3:Nat):Int)==3)=true from rfl),Za (Qd (n:=2) c1 rfl),Za Zg,Za Zj,Za e2,Za hb,Za (Tab.ix hc),Za s3];rfl
  .rw[show Zj2 rows c m e l=rows.set c ⟨m,e,KK e l⟩ by unfold Zj2;rw[if_pos j3]];exact t2.put hc r2 hl (fun hq=>by have:=o2 t hq;have:=k1.len;omega) (ZW c2) (by simp) (fun j hj=>List.getElem?_set_ne (fun e=>hj e.symm))
  .simp only[List.length_set];exact Nat.le_trans k1.len l2.len
  .rw[List.getElem?_set_ne (fun e=>hne e.symm)];exact old2 j hj
 .refine⟨X1,lvs,[],?_,?_,k1.len,fun j hj _=>old1 j hj,by simp⟩
  .have q3:((judgeS rows c m:Int)==3)=false:=by
    rw[beq_eq_false_iff_ne];omega
   have hp:ZpQ rows c m=12:=by
    unfold ZpQ;have:=Zwc rows c m;generalize judgeS rows c m=k at *
    match k with
    | 0=>exact absurd rfl j0
    | 1=>rfl
    | 2=>rfl
    | 3=>exact absurd rfl j3
    | k+4=>omega
   rw[q3,hp,Zb,if_neg (by simp)];rfl
  .rw[show Zj2 rows c m e l=rows by unfold Zj2;rw[if_neg j3],List.append_nil];exact t1
end
section
variable {X X' Y:Zd} {n:Nat}
def rlv (k:Nat):Value:=.int .u8 k
structure Brd (X:Zd) (b:Nat) (l:List Nat) (q:List Nat):Prop where
 at_:∃ sl,X[b]?=some (.cells [sl] 1 false false)/\Zu X sl (l.map rlv) q
 out:b∉q
 few:l.length<=7
 rel:∀ r∈l,r<=3
 one:l≠[]
theorem Brd.keep {b:Nat} {l q:List Nat} (h:Brd X b l q) (hk:∀ j,j=b\/j∈q->X'[j]?=X[j]?):Brd X' b l q:=by
 obtain⟨sl,h1,h2⟩:=h.at_;exact⟨⟨sl,by rw[hk b (.inl rfl)];exact h1,h2.keep fun j hj=>hk j (.inr hj)⟩,h.out,h.few,h.rel,h.one⟩
theorem Brd.lt {b:Nat} {l q:List Nat} (h:Brd X b l q):∀ j,j=b\/j∈q->j < X.length:=by
 obtain⟨sl,h1,h2⟩:=h.at_
 rintro j (rfl|hj)
 .exact Z6 h1
 .exact h2.lt j hj
theorem Brd.hle {b:Nat} {l q:List Nat} (h:Brd X b l q) (hk:HLe X X'):Brd X' b l q:=
 h.keep fun j hj=>by have:=h.lt j hj;rw[List.getElem?_eq_getElem this];exact hk _ _ (List.getElem?_eq_getElem this)
theorem ZBa:R (n+1) ZdH [.int .i64 3] X=some (pt (X++[Ze.cells [.int .u8 0,.int .u8 0,.int .u8 0] 1 false false]).length,X++[Ze.cells [.int .u8 0,.int .u8 0,.int .u8 0] 1 false false]++[.cells [.slice (some ⟨X.length,0,none⟩) 3 3] 1 false false]):=by
 rw[R,Zut rfl];rfl
theorem ZEs:Brd (X++[Ze.cells [.int .u8 0,.int .u8 0,.int .u8 0] 1 false false]++[.cells [.slice (some ⟨X.length,0,none⟩) 3 3] 1 false false]) (X++[Ze.cells [.int .u8 0,.int .u8 0,.int .u8 0] 1 false false]).length [0,0,0] [X.length]:=by
 refine⟨⟨_,Zo,.inr ⟨X.length,[],false,rfl,rfl,?_⟩⟩,by simp,by simp,by simp,by simp⟩;rw[List.getElem?_append_left (by simp)];exact Zo
def Zf3 (l:List Nat) (a r:Nat):Nat:=if l.length<=a\/r < 1\/3 < r then 1 else 0
def Zj8 (l:List Nat) (a r:Nat):List Nat:=if l.length<=a\/r < 1\/3 < r then l else l.set a r
theorem ZEF {b a r:Nat} {l q:List Nat} (h:Brd X b l q) (ha:a < 256):∃ X',R (n+1) WS [pt b,.int .u8 a,.int .u8 r] X=some (iv (Zf3 l a r),X')/\Brd X' b (Zj8 l a r) q/\Zr q X q X'/\X'.length=X.length:=by
 obtain⟨sl,h1,h2⟩:=h.at_;have hl:ZC sl X=some (iv l.length,X):=by have:=h2.rd.len (H':=X);simpa using this
 have q1:bop .int .geq (iv a) (iv l.length) X=some (.bool (decide (l.length<=a)),X):=by
  rw[Qo];have hq:decide ((l.length:Int)<=(a:Int))=decide (l.length<=a):=by rw[decide_eq_decide];omega
  rw[hq]
 have q2:bop .int .lss (.int .u8 r) (.int .u8 1) X=some (.bool (decide (r < 1)),X):=by
  rw[Zt];have hq:decide ((r:Int) < 1)=decide (r < 1):=by rw[decide_eq_decide];omega
  rw[hq]
 have q3:bop .int .gtr (.int .u8 r) (.int .u8 3) X=some (.bool (decide (3 < r)),X):=by
  rw[Qm];have hq:decide ((3:Int) < r)=decide (3 < r):=by rw[decide_eq_decide];omega
  rw[hq]
 have q0:cvi .i64 (.int .u8 (a:Int)) X=some (iv a,X):=by
  rw[QU,w64 (by omega) (by omega)]
 rw[R,Zlf rfl];unfold Zdn;rw[Za q0,Za Zg,Za Zj,Za (Zv h1 rfl),Za hl,Za q1];by_cases c1:l.length<=a
 .refine⟨X,?_,by rw[show Zj8 l a r=l from if_pos (.inl c1)];exact h,.refl _ _,rfl⟩;rw[show Zf3 l a r=1 from if_pos (.inl c1),decide_eq_true c1,Za (show gate (.bool true) false 2 _ X=some ([ZZ,ZZ],X) from rfl),Qv,Za Zl];simp only[cond_true];rw[Za (show gate (.bool true) false 2 _ X=some ([ZZ,ZZ],X) from rfl),Qv,Za Zl];rfl
 rw[decide_eq_false c1,Z0,Zk,Za q2,Qe,Qv,Za Zl];simp only[cond_false];by_cases c2:r < 1
 .refine⟨X,?_,by rw[show Zj8 l a r=l from if_pos (.inr (.inl c2))];exact h,.refl _ _,rfl⟩;rw[show Zf3 l a r=1 from if_pos (.inr (.inl c2)),decide_eq_true c2,Za (show gate (.bool true) false 2 _ X=some ([ZZ,ZZ],X) from rfl),Qv,Za Zl];rfl
 rw[decide_eq_false c2,Z0,Zk,Za q3,Qe,Qv,Za Zl];simp only[cond_false];by_cases c3:3 < r
 .refine⟨X,?_,by rw[show Zj8 l a r=l from if_pos (.inr (.inr c3))];exact h,.refl _ _,rfl⟩;rw[show Zf3 l a r=1 from if_pos (.inr (.inr c3)),decide_eq_true c3,Zb,if_pos rfl];rfl
 have hn:¬ (l.length<=a\/r < 1\/3 < r):=by omega
 obtain⟨X',s1,s2,s3,s4⟩:=h2.stx (i:=a) (u:=.int .u8 r) (by simp;omega) rfl;have hb:b∉q:=h.out;refine⟨X',?_,?_,s3,s4⟩
 .rw[show Zf3 l a r=0 from if_neg hn,decide_eq_false c3,Zb,if_neg (by simp),Za Zg,Za Zj,Za (Zv h1 rfl),Za (h2.ix (i:=a) (by simp;omega) .u8 X),Za s1];rfl
 .rw[show Zj8 l a r=l.set a r from if_neg hn];refine⟨⟨sl,by rw[s3.keep b (Z6 h1) hb];exact h1,?_⟩,hb,by simpa using h.few,(fun x hx=>?_),(fun e=>h.one (List.eq_nil_of_length_eq_zero (by rw[<- List.length_set (i:=a) (a:=r),e];rfl)))⟩
  .rw[List.map_set];exact s2
  .rcases List.mem_or_eq_of_mem_set hx with h|h'
   .exact Brd.rel ‹_› x h
   .omega
theorem ZFF {r:Nat} (h:r<=3):R (n+1) ZdG [.int .u8 r,.int .u8 2] X=some (.bool (decide (2<=r)),X):=by
 rw[R,Zue rfl]
 match r,h with
 | 0,_=>rfl
 | 1,_=>rfl
 | 2,_=>rfl
 | 3,_=>rfl
theorem Zs0 {sl:Value} {l q:List Nat} {H0:Zd} (hr:∀ r∈l,r<=3) (hf:l.length<=7):∀ (t k:Nat) (v:Value) (ws:List Value) (own:List Nat) (X:Zd),l.length - k=t->k<=l.length->Zu X sl (l.map rlv) q->(∀ j∈q,j < H0.length)->HLe H0 X->Zu X v ws own->(∀ j∈own,H0.length<=j)->ws.length<=k->
  ∃ v' ws' own' X',Zi (c5 (Q2.l1 (R (n+1)))) [.int .u8 2,v,sl,iv l.length,iv k] X=some (.ext 0 [v'],X')/\Zu X' v' ws' own'/\HLe H0 X'/\ws'.length=ws.length+((l.drop k).filter fun r=>!decide (2<=r)).length
 | 0,k,v,ws,own,X,ht,hk,h,hq,hl,h2,ho,hw=>by
  have:k=l.length:=by omega
  subst this;rw[List.drop_length];refine⟨v,ws,own,X,Qq ?_,h2,hl,rfl⟩;rw[Jf];unfold Q2.l1;rw[Za Zt,Zb,if_neg (by simp)];rfl
 | t+1,k,v,ws,own,X,ht,hk,h,hq,hl,h2,ho,hw=>by
  have hkl:k < l.length:=by omega
  have hlt:(k:Int) < l.length:=by omega
  have hg:=List.getElem?_eq_getElem hkl;have hm:l[k]∈l:=List.getElem_mem hkl;have hd:=List.drop_eq_getElem_cons hkl;generalize l[k]=x at hg hd hm;have x1:=h.ix (i:=k) (by simpa using hkl) .i64 X;have x2:=h.ldx (i:=k) (v:=.int .u8 x) (by rw[List.getElem?_map,hg];rfl);have x3:R (n+1) ZdG [.int .u8 x,.int .u8 2] X=_:=ZFF (hr x hm);rw[hd,List.filter_cons];by_cases c:2<=x
  .rw[decide_eq_true c] at x3;obtain⟨v',ws',own',X',e,r1,r2,r3⟩:=Zs0 hr hf t (k+1) v ws own X (by omega) (by omega) h hq hl h2 ho (by omega);refine⟨v',ws',own',X',(ZU ?_).trans e,r1,r2,?_⟩
   .rw[Jf];unfold Q2.l1;rw[Za Zt,Zb,if_pos (by simpa using hlt),Za x1,Za x2,Za x3,Za ZL];refine(ZJ (vs:=[.int .u8 2,v,sl,iv l.length,iv k]) (H':=X) rfl).trans ?_;rw[Jf,Za ZI,JX (by omega)];rfl
   .rw[r3,decide_eq_true c];simp
  .rw[decide_eq_false c] at x3;have hv:cvi .u8 (iv k) X=some (.int .u8 (k:Int),X):=by
    rw[QU];have:IntKind.u8.wrap (k:Int)=k:=by
     have:k < 8:=by omega
     match k,this with
     | 0,_=>rfl
     | 1,_=>rfl
     | 2,_=>rfl
     | 3,_=>rfl
     | 4,_=>rfl
     | 5,_=>rfl
     | 6,_=>rfl
     | 7,_=>rfl
    rw[this]
   have x4:bsl 1 1 (.int .u8 0) [(0,1,.int .u8 (k:Int))] X=some (.slice (some ⟨X.length,0,none⟩) 1 1,X++[.cells [.int .u8 (k:Int)] 1 false false]):=Zqb rfl rfl rfl;have k1:HLe X (X++[Ze.cells [.int .u8 (k:Int)] 1 false false]):=.app _ _;have d1:Zu (X++[Ze.cells [.int .u8 (k:Int)] 1 false false]) (.slice (some ⟨X.length,0,none⟩) 1 1) [.int .u8 (k:Int)] [X.length]:=.inr ⟨X.length,[],false,rfl,rfl,Zo⟩;obtain⟨v2,X2,own2,e2,p2,s2,o2⟩:=(h2.hle k1).push (b:=1) d1.rd (by omega) (by omega);have hl1:=hl.trans k1;have k2:HLe H0 X2:=fun i o hi=>by
    have hi1:=Z6 hi;have:=hl1.len;rw[o2 i (by omega) (fun j hj=>by have:=ho j hj;omega)];exact hl1 i o hi
   have h3:Zu X2 sl (l.map rlv) q:=(h.hle k1).keep fun j hj=>by
    have:=hq j hj;have:=hl1.len;exact o2 j (by omega) (fun i hi=>by have:=ho i hi;omega)
   obtain⟨v',ws',own',X',e,r1,r2,r3⟩:=Zs0 hr hf t (k+1) v2 (ws++[.int .u8 (k:Int)]) own2 X2 (by omega) (by omega) h3 hq k2 p2 (fun j hj=>by
    rcases s2.own j hj with h|h
    .exact ho j h
    .have:=hl1.len;omega) (by simp;omega)
   refine⟨v',ws',own',X',(ZU ?_).trans e,r1,r2,?_⟩
   .rw[Jf];unfold Q2.l1;rw[Za Zt,Zb,if_pos (by simpa using hlt),Za x1,Za x2,Za x3,Za ZL];refine(ZJ (vs:=[.int .u8 2,v2,sl,iv l.length,iv k]) (H':=X2) ?_).trans ?_
    .rw[Zb,if_pos (show(!false)=true from rfl),Za hv,Za x4,Za e2];rfl
    rw[Jf,Za ZI,JX (by omega)];rfl
   .rw[r3,decide_eq_false c];simp
    omega
theorem Zqk {b:Nat} {l q:List Nat} (h:Brd X b l q):∃ X',R (n+3) YW [pt b,.int .u8 2] X=some (.bool (l.all fun r=>decide (2<=r)),X')/\HLe X X':=by
 obtain⟨sl,h1,h2⟩:=h.at_;have hl:ZC sl X=some (iv l.length,X):=by have:=h2.rd.len (H':=X);simpa using this
 obtain⟨v,ws,own,X',e,r1,r2,r3⟩:=Zs0 (n:=n) (q:=q) (H0:=X) h.rel h.few l.length 0 (.slice none 0 0) [] [] X (by omega) (by omega) h2 h2.lt (.refl _) Zu.nil (by simp) (by simp);rw[List.drop_zero] at r3;have e:Zi (c5 (Q2.l1 (R (n+1)))) [.int .u8 2,.slice none 0 0,sl,iv l.length,.int .i64 0] X=_:=e;have e1:R (n+2) W6 [pt b,.int .u8 2] X=some (v,X'):=by
  rw[R,Zja rfl];unfold Q2;rw[Za Zg,Za Zj,Za (Zv h1 rfl),Za hl,Q4 e,ZP];rfl
 refine⟨X',?_,r2⟩;rw[R,Znb rfl];unfold Zd8;rw[Za e1,Za (r1.rd.len (H':=X')),Za ZE];have:((ws.length:Int)==0)=l.all fun r=>decide (2<=r):=by
  rw[r3,Bool.eq_iff_iff,beq_iff_eq,List.all_eq_true];simp only[List.length_nil,Nat.zero_add];constructor
  .intro h0 x hx;have h1:(l.filter fun r=>!decide (2<=r))=[]:=List.length_eq_zero_iff.1 (by omega);have:=List.filter_eq_nil_iff.1 h1 x hx;simpa using this
  .intro ha;have:(l.filter fun r=>!decide (2<=r))=[]:=List.filter_eq_nil_iff.2 fun x hx=>by simpa using ha x hx
   rw[this];rfl
 rw[this];rfl
end
section
set_option maxRecDepth 100000
section
variable {H X X':Zd} {n p:Nat} {s:RSt} {sl v:Value} {q:List Nat} {l:List Tx}
end
end
section
set_option maxRecDepth 100000
theorem Zi6.step {X0 X X':Zd} {sl:Value} {us:List ZA} {q o1 o2:List Nat} (h:Zi6 X0 X sl us q) (hs:Zr o1 X o2 X') (hd:∀ j,X0.length<=j->j∉o1):Zi6 X0 X' sl us q:=
 ⟨h.r.step hs fun j hj=>hd j (h.o j hj),h.o,fun w hw=>by
  obtain⟨qu,h1,h2,h3⟩:=h.u w hw;exact⟨qu,h1.step hs fun j hj=>hd j (h2 j hj).1,h2,h3⟩,h.un⟩
section
variable {H X X' X0:Zd} {n p:Nat} {s:RSt} {sl v vg bv:Value} {q qg:List Nat} {l gl:List Tx} {bs:List UInt8}
end
end
section
set_option maxRecDepth 100000
section
variable {H X X' H0:Zd} {n p:Nat} {sl v gv uv:Value} {l N:List Tx} {us:List ZA} {u:ZA} {b:Bool}
end
end
section
set_option maxRecDepth 100000
section
variable {H0 H X:Zd} {n p d b M L:Nat} {a c v:Value} {bs:List UInt8} {s:RSt}
end
end
section
set_option maxRecDepth 100000
abbrev uZ:ZA:=⟨[],[],[],false,.slice none 0 0,[]⟩
structure B5 (H X:Zd) (P1 P2 P3 P4 P5:Nat) (s:RSt) (u:ZA):Prop where
 b1:X[P1]?=some (.cells (RR s) 1 false false)
 b2:X[P2]?=some (.cells (RR (0,[])) 1 false false)
 b3:X[P3]?=some (.cells uZ.cells 1 false false)
 b4:X[P4]?=some (.cells uZ.cells 1 false false)
 b5:X[P5]?=some (.cells u.cells 1 false false)
 le:HLe H X
 o:H.length<=P1/\P1 < P2/\P2 < P3/\P3 < P4/\P4 < P5
section
variable {H0 H X X':Zd} {n p d b M L P1 P2 P3 P4 P5 i:Nat} {a c v:Value} {bs:List UInt8} {s s':RSt} {u u':ZA}
theorem B5.hle (h:B5 H X P1 P2 P3 P4 P5 s u) (hl:HLe X X'):B5 H X' P1 P2 P3 P4 P5 s u:=⟨hl _ _ h.b1,hl _ _ h.b2,hl _ _ h.b3,hl _ _ h.b4,hl _ _ h.b5,h.le.trans hl,h.o⟩
theorem B5.putU (h:B5 H X P1 P2 P3 P4 P5 s u) (hi:i < 5) (hv:oneCell v=true) (hu:u.cells.set i v=u'.cells):∃ X',st1 (pa P5 i) v X=some (undef,X')/\B5 H X' P1 P2 P3 P4 P5 s u'/\X.length=X'.length/\∀ j,P5 < j->X'[j]?=X[j]?:=by
 have ho:=h.o;have w:=Zew (o:=i) h.b5 (by simpa using hi) hv;rw[hu] at w;refine⟨_,w,⟨(List.getElem?_set_ne (by omega)).trans h.b1,(List.getElem?_set_ne (by omega)).trans h.b2,(List.getElem?_set_ne (by omega)).trans h.b3,(List.getElem?_set_ne (by omega)).trans h.b4,ZW h.b5,h.le.put (by omega),ho⟩,by simp,fun j hj=>List.getElem?_set_ne (by omega)⟩
theorem B5.d1 (h:B5 H X P1 P2 P3 P4 P5 s u):ldA 2 (pt P1) X=some (.agg (RR s).toArray,X):=Qd (n:=2) h.b1 rfl
theorem B5.d5 (h:B5 H X P1 P2 P3 P4 P5 s u):ldA 5 (pt P5) X=some (.agg u.cells.toArray,X):=Qd (n:=5) h.b5 rfl
theorem Zzs (hv:oneCell u.gv=true):u.cells.all oneCell=true:=by simp only[ZA.cells,List.all_cons,hv];rfl
theorem B5.fin (h:B5 H X P1 P2 P3 P4 P5 s u) {Q:Nat} (hQ:Q=P4\/Q=P5) (bQ:X[Q]?=some (.cells u'.cells 1 false false)) (hv:oneCell u'.gv=true):∃ X',(bind (ldA 2 (pt P1)) fun y54=>bind (ldA 5 (pt Q)) fun y55=>bind (stA 2 (pt P2) y54) fun _=>bind (ldA 5 (pt Q)) fun u_56=>same u_56 y55 <| bind (stA 5 (pt P3) y55) fun _=>bind (ldA 2 (pt P2)) fun y57=>bind (ldA 5 (pt P3)) fun y58=>ret (Value.tuple #[y57,y58])) X=some (.tuple #[.agg (RR s).toArray,.agg u'.cells.toArray],X')/\HLe H X'/\∀ j,P5 < j->X'[j]?=X[j]?:=by
 have ho:=h.o;have we:=WX (vs:=RR s) (n:=2) h.b2 rfl rfl (ZEw _);have x1:ldA 5 (pt Q) X=some (.agg u'.cells.toArray,X):=Qd (n:=5) bQ rfl;have x2:ldA 5 (pt Q) (X.set P2 (.cells (RR s) 1 false false))=some (.agg u'.cells.toArray,_):=Qd (n:=5) ((List.getElem?_set_ne (by omega)).trans bQ) rfl;have c3:(X.set P2 (.cells (RR s) 1 false false))[P3]?=some (.cells uZ.cells 1 false false):=(List.getElem?_set_ne (by omega)).trans h.b3;have x3:=WX (vs:=u'.cells) (n:=5) c3 rfl rfl (Zzs hv);have x4:ldA 2 (pt P2) ((X.set P2 (.cells (RR s) 1 false false)).set P3 (.cells u'.cells 1 false false))=some (.agg (RR s).toArray,_):=Qd (n:=2) ((List.getElem?_set_ne (by omega)).trans (ZW h.b2)) rfl;have x5:ldA 5 (pt P3) ((X.set P2 (.cells (RR s) 1 false false)).set P3 (.cells u'.cells 1 false false))=some (.agg u'.cells.toArray,_):=Qd (n:=5) (ZW c3) rfl;refine⟨(X.set P2 (.cells (RR s) 1 false false)).set P3 (.cells u'.cells 1 false false),?_,(h.le.put (by omega)).put (by omega),fun j hj=>(List.getElem?_set_ne (by omega)).trans (List.getElem?_set_ne (by omega))⟩;rw[Za h.d1,Za x1,Za we,Za x2,Qx,Za x3,Za x4,Za x5];rfl
end
end
section
set_option maxRecDepth 100000
theorem Yj.headF {es:Nat} {X:Zd} {w:Value} {rows:List (List Value)} {q:List Nat} (h:Yj es X w rows q) (he:0 < es) {i:Nat} (hi:i<=rows.length):∃ v,(∀ X',HLe X X'->slv es w none (some (iv i)) none X'=some (v,X'))/\SlN es X v (rows.take i):=by
 rcases h with⟨rfl,rfl,rfl⟩|⟨sid,rest,r,g,rfl,rfl,hid,hr,hx⟩
 .have:i=0:=by simpa using hi
  subst this;exact⟨.slice none 0 0,fun _ _=>rfl,SlN.nil⟩
 .have hb:bnd (some (iv i)) rows.length=some i:=by simp[bnd]
  have hb0:∀ d,bnd none d=some d:=fun _=>rfl;have hl:(rows.take i).length=i:=by rw[List.length_take];omega
  have hxt:∀ y∈rows.take i,y.length=es:=fun y hy=>hx y (List.mem_of_mem_take hy);by_cases h0:rows.length+r=0
  .have hi0:i=0:=by omega
   subst hi0;refine⟨.slice (some ⟨sid,0,some (bif g then 1 else 0)⟩) 0 0,fun X' hl'=>?_,⟨_,_,rfl,(fun e=>by cases e),rfl,by simp⟩⟩;simp only[slv,hl' _ _ hid,hb,hb0];rw[if_pos ⟨trivial,by omega,by omega,by omega⟩,if_pos h0]
  .refine⟨.slice (some ⟨sid,0+0 * es,none⟩) (i - 0) (rows.length+r - 0),fun X' hl'=>?_,?_⟩
   .simp only[slv,hl' _ _ hid,hb,hb0];rw[if_pos ⟨trivial,by omega,by omega,by omega⟩,if_neg h0]
   .rw[Nat.zero_mul,Nat.add_zero,Nat.sub_zero,Nat.sub_zero];refine⟨some ⟨sid,0,none⟩,rows.length+r,by rw[hl],(fun e=>by cases e),?_,hxt⟩;unfold QH;simp only[hid];have hfl:=Zbn hx;have hft:=Zbn hxt;rw[hl] at hft;have hle:i * es<=rows.length * es:=Nat.mul_le_mul_right _ hi;rw[if_pos (by rw[List.length_append,hfl];omega),List.drop_zero];have hs:rows.flatten=(rows.take i).flatten++(rows.drop i).flatten:=by rw[<- List.flatten_append,List.take_append_drop]
    rw[hs,List.append_assoc,<- hft,List.take_left]
theorem Zi6.cut {X0 X:Zd} {sl:Value} {us:List ZA} {q:List Nat} (h:Zi6 X0 X sl us q):ZF7 X sl us:=fun k hk=>by
 obtain⟨v,h1,h2⟩:=h.r.headF (by omega) (i:=k) (by rw[List.length_map];exact hk);exact⟨v,h1,by rw[List.map_take];exact h2⟩
section
variable {H0 H X X' X0:Zd} {n p d b P1 P2 P3:Nat} {v sl gv:Value} {bs:List UInt8} {s:RSt} {q:List Nat} {us:List ZA}
end
end
section
set_option maxRecDepth 100000
structure Ans (X:Zd) (wv:Value) (r:Nat × (List Tx × List ZcJ)):Prop where
 one:∃ uv gv,wv=.agg #[uv,gv]/\oneCell uv=true/\oneCell gv=true
 ok:r.1=0->∃ uv gv us,wv=.agg #[uv,gv]/\YS X uv us/\us.map Zcv=r.2.2/\Sl X gv (r.2.1.map strv)
theorem Ans.no {X:Zd} {r:Nat × (List Tx × List ZcJ)} (h:r.1≠0):Ans X (.agg #[.slice none 0 0,.slice none 0 0]) r:=⟨⟨_,_,rfl,rfl,rfl⟩,fun h0=>absurd h0 h⟩
section
variable {H0 H X X' X0:Zd} {n p d b p2 p4 p5:Nat} {v sl gv:Value} {bs:List UInt8} {s:RSt} {q:List Nat} {us:List ZA}
end
end
section
variable {X X' H H0:Zd} {n d c w:Nat} {r:NR} {uv gv sl:Value} {s:NSt} {u:Zd5} {ac:List Zd5}
end
section
set_option maxRecDepth 100000
section
variable {X X' H H0:Zd} {n d c w:Nat} {r:NR} {uv gv sl:Value} {s:NSt} {u:Zd5} {ac:List Zd5}
end
end
section
set_option maxRecDepth 100000
section
variable {X X' H H0:Zd} {n d:Nat} {a:Value} {bs:List UInt8}
end
end
def kOf (e:Ent):ZcJ:=(e.1,e.2,[],false,[])
section
variable {X X' H H0:Zd} {n d b:Nat} {v sl gv:Value} {m:List Ent} {e:Ent} {q:List Nat}
theorem Zze (h:ZcX e=0):ZaP (Zfu e)=0:=by
 have h1:Zw e.1=true/\WD e.2=true:=by
  unfold ZcX at h;cases h2:Zw e.1 with
  | false=>rw[h2] at h;simp at h
  | true=>
   cases h3:WD e.2 with
   | false=>rw[h2,h3] at h;simp at h
   | true=>exact⟨rfl,rfl⟩
 unfold ZaP Zfu;rw[h1.1,h1.2];rfl
theorem Zo4:∀ {us:List ZA},(∀ u∈us,ZaP u=0)->Wr us=0
 | [],_=>rfl
 | u :: us,h=>by
  unfold Wr;rw[h u (by simp),if_pos rfl];exact Zo4 fun w hw=>h w (by simp[hw])
theorem ZFB (hE:∀ e∈m,ZcX e=0) (hR:KW (m.map (·.1))=true) (hn:m.length<=12):Zr1 (m.map Zfu) []=0:=by
 have h1:Wr (m.map Zfu)=0:=Zo4 fun u hu=>by
  obtain⟨e,he,rfl⟩:=List.mem_map.1 hu;exact Zze (hE e he)
 have h2:(m.map Zfu).map (·.nm)=m.map (·.1):=by rw[List.map_map];rfl
 have h3:ZsI (m.map Zfu)=0:=by
  unfold ZsI;rw[if_pos h1,h2,hR,List.length_map,if_pos rfl,if_neg (show ¬ 12 < m.length by omega)]
 have h4:Zjd (m.map Zfu) []=0:=by
  unfold Zjd;rw[if_pos h3];rfl
 unfold Zr1;rw[if_pos h4];refine Zyk fun i u hu=>?_;obtain⟨e,_,rfl⟩:=List.mem_map.1 (List.mem_of_getElem? hu);unfold Zrr;rw[if_pos (by rfl),if_neg (fun h=>h.1 rfl)]
theorem ZBU:∃ X',R (n+1) ZkE [.agg (usr e).toArray] X=some (.agg (usr e).toArray,X')/\HLe X X':=by
 have z1:alc 1 (.agg (usr e).toArray) X=some (pt X.length,X++[.cells (usr e) 1 false false]):=bx (vs:=usr e) rfl;have k1:HLe X (X++[Ze.cells (usr e) 1 false false]):=.app _ _;have g1:(X++[Ze.cells (usr e) 1 false false])[X.length]?=some (.cells (usr e) 1 false false):=Zo;generalize X++[Ze.cells (usr e) 1 false false]=X1 at z1 k1 g1;have z2:alc 1 zU X1=some (pt X1.length,X1++[.cells (usr ([],[])) 1 false false]):=bx (vs:=usr ([],[])) rfl;have k2:HLe X1 (X1++[Ze.cells (usr ([],[])) 1 false false]):=.app _ _;have g2:(X1++[Ze.cells (usr ([],[])) 1 false false])[X1.length]?=some (.cells (usr ([],[])) 1 false false):=Zo;have g1':=k2 _ _ g1;have hl:=k1.len;generalize X1++[Ze.cells (usr ([],[])) 1 false false]=X2 at z2 k2 g2 g1';have a0:ld1 (pa X.length 0) X2=some (strv e.1,X2):=Zv g1' rfl;have a1:ld1 (pa X.length 1) X2=some (strv e.2,X2):=Zv g1' rfl;have zb:=Zyc (k:=e.1) (s:=e.2) (H:=X2);refine⟨X2.set X1.length (.cells (usr e) 1 false false),?_,(k1.trans k2).put hl⟩;rw[R,Zy8 rfl];unfold ZpR;rw[Za z1,Za z2,Za Zj,Za a0,Za Zj,Za a1,Za zb];exact ZC9 (vs:=usr e) g2 rfl rfl rfl
theorem ZFS {rows:List (List Value)} {r:List Value} (hr:Yj 5 X sl rows q) (hn:rows.length<=1000) (h5:r.length=5) (h1:r.all oneCell=true):∃ w X1 sl' X2 q',bsl 5 1 zU [(0,5,.agg r.toArray)] X=some (w,X1)/\app 5 80 sl w X1=some (sl',X2)/\Yj 5 X2 sl' (rows++[r]) q'/\Zr q X q' X2:=by
 have x4:=ZCT (es:=5) (z:=zU) (H:=X) rfl h5 h1;have l1:HLe X (X++[Ze.cells r 5 false false]):=.app _ _;have s1:SlN 5 (X++[Ze.cells r 5 false false]) (.slice (some ⟨X.length,0,none⟩) 1 1) [r]:=SlN.whole (rows:=[r]) (c:=1) (e:=5) (g:=false) (ro:=false) (by rw[Zo];simp) (by simpa using h5);generalize X++[Ze.cells r 5 false false]=X1 at x4 l1 s1;obtain⟨sl',X2,q',x5,hn2,s2⟩:=(hr.step l1.step (by simp)).push (b:=80) s1 h5 (by omega) (by omega);exact⟨_,X1,sl',X2,q',x4,x5,hn2,l1.stepq.trans s2⟩
theorem ZCM (hn:m.length<=100) (hs:SlN 5 H0 v (m.map usr)):∀ (t j:Nat) (sl:Value) (q:List Nat) (X:Zd),m.length - j=t->j<=m.length->HLe H0 X->(∀ i∈q,H0.length<=i)->Yj 5 X sl ((m.take j).map usr) q->
  ∃ X' sl' q',Zi (c4 (Wz.l1 (R (n+1)))) [sl,v,iv m.length,iv j] X=some (.ext 0 [sl'],X')/\Yj 5 X' sl' (m.map usr) q'/\HLe H0 X'/\∀ i∈q',H0.length<=i
 | 0,j,sl,q,X,ht,hj,hle,hq,hr=>by
  have hj:j=m.length:=by omega
  subst hj;rw[List.take_length] at hr;refine⟨X,sl,q,Qq ?_,hr,hle,hq⟩;rw[ZM];unfold Wz.l1;rw[Za Zt,Zb,if_neg (by simp)];rfl
 | t+1,j,sl,q,X,ht,hj,hle,hq,hr=>by
  have hkl:j < m.length:=by omega
  have hlt:(j:Int) < m.length:=by omega
  have hg:=List.getElem?_eq_getElem hkl;have htk:m.take (j+1)=m.take j++[m[j]]:=by rw[List.take_add_one,hg];rfl
  generalize m[j]=e at hg htk;have hf:=fun {K:Value->A.M Out}=>(hs.mono hle).fetch (k:=K) (r:=usr e) (i:=j) (by rw[List.getElem?_map,hg];rfl) (by omega) .i64;have z4:∀ K:Value->A.M Out,bind (alc 1 zU) (fun q=>bind (stA 5 q (.agg (usr e).toArray)) fun _=>K q) X=K (pt X.length) (X++[.cells (usr e) 1 false false]):=fun K=>ZbB (n:=5) (zs:=usr ([],[])) (r:=usr e) rfl rfl rfl rfl;have k1:HLe X (X++[Ze.cells (usr e) 1 false false]):=.app _ _;have g1:(X++[Ze.cells (usr e) 1 false false])[X.length]?=some (.cells (usr e) 1 false false):=Zo;generalize X++[Ze.cells (usr e) 1 false false]=X1 at z4 k1 g1;have d1:ldA 5 (pt X.length) X1=some (.agg (usr e).toArray,X1):=Qd (n:=5) g1 rfl;obtain⟨X2,e2,k2⟩:=ZBU (n:=n) (e:=e) (X:=X1);have hr2:=hr.step (k1.trans k2).step (by simp);obtain⟨w,X3,sl',X4,q',e3,e4,r4,s4⟩:=ZFS (r:=usr e) hr2 (by rw[List.length_map,List.length_take];omega) rfl rfl;have hm:=(hle.trans (k1.trans k2)).more s4 hq;rw[<- List.map_singleton (f:=usr),<- List.map_append,<- htk] at r4;obtain⟨X5,sl5,q5,e5,r5,k5,o5⟩:=ZCM hn hs t (j+1) sl' q' X4 (by omega) (by omega) hm.1 hm.2 r4;refine⟨X5,sl5,q5,(ZU ?_).trans e5,r5,k5,o5⟩;rw[ZM];unfold Wz.l1;rw[Za Zt,Zb,if_pos (by simpa using hlt),hf,z4,Za d1,Za e2,Za e3,Za e4,Za ZI,JX (by omega)];rfl
theorem ZDu {m:Qw} (h:Dir X d b m) (hE:∀ e∈KL m,ZcX e=0) (hR:KW ((KL m).map (·.1))=true) (hn:(KL m).length<=12):∃ X' d' r s c,R (n+13) ZfT [pt d] X=some (pt d',X')/\HLe X X'/\OfS X X' d' r s c [] ((KL m).map Zfu):=by
 obtain⟨v,q,X1,e1,r1,k1,o1⟩:=ZCJ (n:=n+9) h;have e1:R (n+12) ZaY [pt d] X=_:=e1;have hl:ZC v X1=some (iv (KL m).length,X1):=by have:=r1.rd.len (H':=X1);rwa [List.length_map] at this
 obtain⟨X2,sl,q2,e2,r2,k2,o2⟩:=ZCM (n:=n+11) (H0:=X1) (by omega) r1.rd (KL m).length 0 (.slice none 0 0) [] X1 (by omega) (by omega) (.refl _) (by simp) Yj.nil;have e2:Zi (c4 (Wz.l1 (R (n+12)))) [.slice none 0 0,v,iv (KL m).length,.int .i64 0] X1=_:=e2;obtain⟨X3,k3,h3⟩:=ZAu (n:=n) (us:=(KL m).map Zfu) (gs:=[]) (by rw[List.length_map];omega) (by simp) r2.us (Zu.nil (H:=X2)).rd;rw[if_pos (ZFB hE hR hn)] at h3;obtain⟨d',r,s,c,e3,hS⟩:=h3;have hle:=(k1.trans k2).trans k3;refine⟨X3,d',r,s,c,?_,hle,⟨hle,hS.nd,fun i hi=>Nat.le_trans (k1.trans k2).len (hS.own i hi),hS.K,hS.ok⟩⟩;rw[R,Zuq rfl];unfold Wz;have q0:bop .ptr .eql (pt d) (.pointer none) X=some (.bool false,X):=Jy;rw[Za q0,Zb,if_neg (by simp),Za e1,Za hl,Q4 e2,ZP,J1,Za e3,Za Zp,Za Zq];rfl
end
section
variable {X X' H H0:Zd} {n d b:Nat} {v sl gv bv:Value} {m:List Ent} {e:Ent} {q:List Nat} {bs:List UInt8}
theorem ZzL (hR:ZyE m):KW (m.map (·.1))=true:=ZvP (List.pairwise_map.2 hR)
end
section
variable {X X' Y:Zd} {n:Nat}
def DX (X:Zd) (D:Z8) (ov nv:Value) (M C:List Nat) (c:Nat):Prop:=match D with
 | .old m=>∃ d b,ov=pt d/\nv=.pointer none/\Dir X d b m/\(∀ p∈m,ZcX p=0)/\M=[b]/\C=[d]
 | .now s=>∃ d r,ov=.pointer none/\nv=pt d/\ND X d r s c/\M=r.own/\C=[d,r.x,r.g]
theorem DX.lt {D:Z8} {ov nv:Value} {M C:List Nat} {c:Nat} (h:DX X D ov nv M C c):∀ j,j∈M\/j∈C->j < X.length:=by
 cases D with
 | old m=>
  obtain⟨d,b,rfl,rfl,h1,h2,rfl,rfl⟩:=h
  rintro j (hj|hj)<;>cases List.mem_singleton.1 hj
  .exact h1.lt.2
  .exact h1.lt.1
 | now s=>
  obtain⟨d,r,rfl,rfl,h1,rfl,rfl⟩:=h
  rintro j (hj|hj)
  .exact(h1.isMap hj).1
  .simp only[List.mem_cons,List.not_mem_nil,or_false] at hj;rcases hj with rfl|rfl|rfl
   .exact Z6 h1.cell
   .exact Z6 h1.ix.c
   .exact h1.gr.glt
theorem DX.isMap {D:Z8} {ov nv:Value} {M C:List Nat} {c:Nat} (h:DX X D ov nv M C c) {j:Nat} (hj:j∈M):∀ cs es g ro,X[j]?≠some (.cells cs es g ro):=by
 cases D with
 | old m=>
  obtain⟨d,b,rfl,rfl,h1,h2,rfl,rfl⟩:=h;cases List.mem_singleton.1 hj;exact h1.g.isMap.2
 | now s=>
  obtain⟨d,r,rfl,rfl,h1,rfl,rfl⟩:=h;exact(h1.isMap hj).2
theorem DX.step {D:Z8} {ov nv:Value} {M C o1 o2:List Nat} {c:Nat} (h:DX X D ov nv M C c) (hs:Zr o1 X o2 X') (hm:∀ j∈M,j∉o1) (hc:∀ j∈C,j∉o1):DX X' D ov nv M C c:=by
 cases D with
 | old m=>
  obtain⟨d,b,rfl,rfl,h1,h2,rfl,rfl⟩:=h;exact⟨d,b,rfl,rfl,h1.step hs (hc d (by simp)) (hm b (by simp)),h2,rfl,rfl⟩
 | now s=>
  obtain⟨d,r,rfl,rfl,h1,rfl,rfl⟩:=h;exact⟨d,r,rfl,rfl,h1.step hs (hc d (by simp)) (hc r.x (by simp)) (hc r.g (by simp)) hm,rfl,rfl⟩
theorem DX.hle {D:Z8} {ov nv:Value} {M C:List Nat} {c:Nat} (h:DX X D ov nv M C c) (hl:HLe X X'):DX X' D ov nv M C c:=h.step hl.step (by simp) (by simp)
def crE (k s:Tx):Z8->Int
 | .old m=>KE k s m
 | .now t=>Y6 k s t.A
def crD (k s:Tx):Z8->Z8
 | .old m=>.old (ZfI k s m)
 | .now t=>.now (Zcn k s t)
def deE (k:Tx):Z8->Int
 | .old m=>Q9 k m
 | .now t=>ZH k t.A
def deD (k:Tx):Z8->Z8
 | .old m=>.old (Zfy k m)
 | .now t=>.now (Zcm k t)
def seE (k s:Tx):Z8->Int
 | .old m=>ZbM k s m
 | .now t=>Yo k s t.A
def seD (k s:Tx):Z8->Z8
 | .old m=>.old (Zpk k s m)
 | .now t=>.now (Zbp k s t)
def Zv1:Z8->List Tx
 | .old m=>m.map (·.1)
 | .now s=>W3 s
def ZsG:Z8->Value->Value->Value
 | .old _,ov,_=>.iface 77 ov
 | .now _,_,nv=>.iface 79 nv
section
variable {m:Qw} {k h:Tx}
theorem ZtW {α:Type} {m:List (Tx × α)} {k:Tx} {v:α} {p:Tx × α} (h:p∈Qs k v m):p=(k,v)\/p∈m:=by
 unfold Qs at h;split at h
 .obtain⟨q,hq,rfl⟩:=List.mem_map.1 h;by_cases e:q.1=k
  .rw[if_pos e];exact .inl rfl
  .rw[if_neg e];exact .inr hq
 .rcases List.mem_append.1 h with h|h
  .exact .inr h
  .exact .inl (by simpa using h)
theorem ZE2 (h0:KE k h m=0):Zw k=true/\WD h=true:=by
 unfold KE ZG QG Wc at h0;cases hk:Zw k
 .rw[hk] at h0;simp at h0
 .cases hh:WD h
  .rw[hk,hh] at h0;simp at h0
  .exact⟨rfl,rfl⟩
theorem ZEB (h0:ZbM k h m=0):Zw k=true/\WD h=true:=by
 unfold ZbM ZG QG Wc at h0;cases hk:Zw k
 .rw[hk] at h0;simp at h0
 .cases hh:WD h
  .rw[hk,hh] at h0;simp at h0
  .exact⟨rfl,rfl⟩
theorem ZEc (g:∀ p∈m,ZcX p=0):∀ p∈ZfI k h m,ZcX p=0:=by
 unfold ZfI;split
 .rename_i h0;intro p hp;rcases ZtW hp with rfl|hp
  .exact Zwg.2 (ZE2 h0)
  .exact g p hp
 .exact g
theorem ZEn (g:∀ p∈m,ZcX p=0):∀ p∈Zfy k m,ZcX p=0:=by
 unfold Zfy;split
 .intro p hp;exact g p (List.mem_filter.1 hp).1
 .exact g
theorem ZDD (g:∀ p∈m,ZcX p=0):∀ p∈Zpk k h m,ZcX p=0:=by
 unfold Zpk;split
 .rename_i h0;intro p hp;rcases ZtW hp with rfl|hp
  .exact Zwg.2 (ZEB h0)
  .exact g p hp
 .exact g
theorem ZFT {d b:Nat} (D:Dir X d b m) (hE:∀ p∈m,ZcX p=0):(∀ e∈KL m,ZcX e=0)/\KW ((KL m).map (·.1))=true/\(KL m).length<=12:=
 ⟨fun e he=>hE e (Kz ((ZmT D.g.nod).1 he)),ZzL (Zy5 D.g.nod),by rw[ZAn];exact D.few⟩
end
theorem Zej {P:Program} {Γ:Zc} {t:TypeId} {x:Value} {nm:String} {g:FuncId} {vs:List Value} (h:ZeJ P t nm=some g):Zbl P Γ (.iface t x) nm vs=Γ g (x :: vs):=by
 unfold Zbl;simp only[h]
theorem ZF0 : ZeJ Tryz.prog 77 "Create" = some Zas := by kernel_rfl
theorem ZGd : ZeJ Tryz.prog 77 "Delete" = some Zau := by kernel_rfl
theorem ZGa : ZeJ Tryz.prog 77 "SetHash" = some WZ := by kernel_rfl
theorem ZF6 : ZeJ Tryz.prog 77 "List" = some Zc8 := by kernel_rfl
theorem ZGb : ZeJ Tryz.prog 79 "Create" = some ZaG := by kernel_rfl
theorem ZF1 : ZeJ Tryz.prog 79 "Delete" = some Zat := by kernel_rfl
theorem ZGc : ZeJ Tryz.prog 79 "SetHash" = some WV := by kernel_rfl
theorem ZF8 : ZeJ Tryz.prog 79 "List" = some Zdk := by kernel_rfl
section
variable {D:Z8} {ov nv:Value} {M C:List Nat} {c:Nat} {k s pre:Tx}
theorem ZA4 (h : DX X D ov nv M C c) (hk : k.length ≤ 1000000000) (hs : s.length ≤ 1000000000) : ∃ X', Zbl Tryz.prog (R (n + 10)) (ZsG D ov nv) "Create" [strv k, strv s] X = some (iv (crE k s D), X') ∧ DX X' (crD k s D) ov nv M C c ∧ Zr M X M X' := by
 cases D with
 | old m=>
  obtain⟨d,b,rfl,rfl,h1,h2,rfl,rfl⟩:=h;obtain⟨X',e,D',st⟩:=ZCv (n:=n+3) h1 hk hs;exact⟨X',(congrFun (Zej ZF0) X).trans e,⟨d,b,rfl,rfl,D',ZEc h2,rfl,rfl⟩,st⟩
 | now t=>
  obtain⟨d,r,rfl,rfl,h1,rfl,rfl⟩:=h;obtain⟨X',e,D',st⟩:=ZAY (n:=n) (k:=k) (h:=s) h1;exact⟨X',(congrFun (Zej ZGb) X).trans e,⟨d,r,rfl,rfl,D',rfl,rfl⟩,st⟩
theorem ZBk (h : DX X D ov nv M C c) (hk : k.length ≤ 1000000000) : ∃ X', Zbl Tryz.prog (R (n + 10)) (ZsG D ov nv) "Delete" [strv k] X = some (iv (deE k D), X') ∧ DX X' (deD k D) ov nv M C c ∧ Zr M X M X' := by
 cases D with
 | old m=>
  obtain⟨d,b,rfl,rfl,h1,h2,rfl,rfl⟩:=h;obtain⟨X',e,D',st⟩:=ZCf (n:=n+3) h1 hk;exact⟨X',(congrFun (Zej ZGd) X).trans e,⟨d,b,rfl,rfl,D',ZEn h2,rfl,rfl⟩,st⟩
 | now t=>
  obtain⟨d,r,rfl,rfl,h1,rfl,rfl⟩:=h;obtain⟨X',e,D',st⟩:=ZAH (n:=n) (k:=k) h1;exact⟨X',(congrFun (Zej ZF1) X).trans e,⟨d,r,rfl,rfl,D',rfl,rfl⟩,st⟩
theorem ZzH (h : DX X D ov nv M C c) (hk : k.length ≤ 1000000000) (hs : s.length ≤ 1000000000) : ∃ X', Zbl Tryz.prog (R (n + 10)) (ZsG D ov nv) "SetHash" [strv k, strv s] X = some (iv (seE k s D), X') ∧ DX X' (seD k s D) ov nv M C c ∧ Zr M X M X' := by
 cases D with
 | old m=>
  obtain⟨d,b,rfl,rfl,h1,h2,rfl,rfl⟩:=h;obtain⟨X',e,D',st⟩:=Zz5 (n:=n+3) h1 hk hs;exact⟨X',(congrFun (Zej ZGa) X).trans e,⟨d,b,rfl,rfl,D',ZDD h2,rfl,rfl⟩,st⟩
 | now t=>
  obtain⟨d,r,rfl,rfl,h1,rfl,rfl⟩:=h;obtain⟨X',e,D',st⟩:=Zy4 (n:=n) (k:=k) (h:=s) h1;exact⟨X',(congrFun (Zej ZGc) X).trans e,⟨d,r,rfl,rfl,D',rfl,rfl⟩,st⟩
theorem ZDh (h : DX X D ov nv M C c) (hp : pre.length ≤ 1000000000) : ∃ v q X', Zbl Tryz.prog (R (n + 10)) (ZsG D ov nv) "List" [strv pre] X = some (.tuple #[v, iv (Ym pre)], X') ∧ Zu X' v ((if Zff pre then (QK (Zv1 D)).filter (Zdw pre) else []).map strv) q ∧ HLe X X' ∧ (if Zff pre then (QK (Zv1 D)).filter (Zdw pre) else []).length ≤ 1000 ∧ ∀ j ∈ q, X.length ≤ j := by
 cases D with
 | old m=>
  obtain⟨d,b,rfl,rfl,h1,h2,rfl,rfl⟩:=h;obtain⟨v,q,X',e,r1,l1,o1⟩:=ZAX (n:=n+4) h1 hp;refine⟨v,q,X',(congrFun (Zej ZF6) X).trans e,r1,l1,?_,o1⟩;split
  .refine Nat.le_trans (List.length_filter_le _ _) ?_;rw[Zef];have:=h1.few;show(m.map (·.1)).length<=1000
   rw[List.length_map];omega
  .simp
 | now t=>
  obtain⟨d,r,rfl,rfl,h1,rfl,rfl⟩:=h;obtain⟨v,q,X',e,r1,l1,o1⟩:=ZCn (n:=n+4) h1 hp;refine⟨v,q,X',(congrFun (Zej ZF8) X).trans e,r1,l1,?_,o1⟩;split
  .refine Nat.le_trans (List.length_filter_le _ _) ?_;rw[Zef];have:=h1.inv.few;show(W3 t).length<=1000
   have h3:(W3 t).length=t.A.length:=by simp
   omega
  .simp
end
end
section
variable {X X' Y:Zd} {n:Nat}
structure HP where
 h:Nat
 t:Nat
 b:Nat
 fr:List Nat
 q:List Nat
 M:List Nat
 C:List Nat
 c:Nat
 lvs:List Value
 ov:Value
 nv:Value
def HP.own (p:HP):List Nat:=p.M++(p.h :: p.t :: p.q)
structure HO (X:Zd) (p:HP) (D:Z8) (T:List Ql) (B:List Nat):Prop where
 cell:X[p.h]?=some (.cells [p.ov,p.nv,pt p.t,pt p.b] 1 false false)
 dir:DX X D p.ov p.nv p.M p.C p.c
 tab:Tab X p.t T p.lvs p.fr
 brd:Brd X p.b B p.q
 hfr:p.h∉p.fr
 hq:p.h∉p.q
 hC:p.h∉p.C
 bh:p.b≠p.h
 bt:p.b≠p.t
 tq:p.t∉p.q
 tC:p.t∉p.C
 fq:∀ j∈p.fr,j∉p.q
 Cq:∀ j∈p.C,j∉p.q
 Mo:∀ j∈p.M,j≠p.h/\j≠p.b/\j∉p.q/\j∉p.fr
variable {p:HP} {D D':Z8} {T:List Ql} {B:List Nat}
theorem HO.lt (h:HO X p D T B):∀ j∈p.own,j < X.length:=by
 intro j hj;unfold HP.own at hj;rcases List.mem_append.1 hj with hj|hj
 .exact h.dir.lt j (.inl hj)
 .rcases List.mem_cons.1 hj with rfl|hj
  .exact Z6 h.cell
  .rcases List.mem_cons.1 hj with rfl|hj
   .exact h.tab.lt _ h.tab.t
   .exact h.brd.lt j (.inr hj)
theorem Tab.hle {t:Nat} {rows:List Ql} {lvs:List Value} {fr:List Nat} (h:Tab X t rows lvs fr) (hk:HLe X X'):Tab X' t rows lvs fr:=
 h.keep (fun j hj=>by have:=h.lt j hj;rw[List.getElem?_eq_getElem this];exact hk _ _ (List.getElem?_eq_getElem this)) hk.len
theorem HO.hle (h:HO X p D T B) (hl:HLe X X'):HO X' p D T B:=
 ⟨hl _ _ h.cell,h.dir.hle hl,h.tab.hle hl,h.brd.hle hl,h.hfr,h.hq,h.hC,h.bh,h.bt,h.tq,h.tC,h.fq,h.Cq,h.Mo⟩
theorem HO.step {o1 o2:List Nat} (h:HO X p D T B) (hs:Zr o1 X o2 X') (h1:∀ j∈p.own,j∉o1) (h2:∀ j∈p.C,j∉o1) (h3:p.b∉o1) (h4:∀ j∈p.fr,j∉o1):HO X' p D T B:=
 ⟨hs.get h.cell (h1 p.h (by simp[HP.own])),h.dir.step hs (fun j hj=>h1 j (by simp[HP.own,hj])) h2,h.tab.keep (fun j hj=>hs.keep j (h.tab.lt j hj) (h4 j hj)) hs.len,h.brd.keep (fun j hj=>hs.keep j (h.brd.lt j hj) (by rcases hj with rfl|hj;exact h3;exact h1 j (by simp[HP.own,hj]))),h.hfr,h.hq,h.hC,h.bh,h.bt,h.tq,h.tC,h.fq,h.Cq,h.Mo⟩
theorem HO.act {M':List Nat} {c':Nat} (h:HO X p D T B) (hs:Zr p.M X M' X') (hd:DX X' D' p.ov p.nv M' p.C c'):HO X' { p with M:=M',c:=c' } D' T B/\Zr p.own X ({ p with M:=M',c:=c' }:HP).own X':=by
 have hM:=h.Mo;have hb:=h.brd.lt;have ht:=h.tab.lt;have hh:=Z6 h.cell;refine⟨⟨hs.get h.cell fun hj=>(hM _ hj).1 rfl,hd,h.tab.keep (fun j hj=>hs.keep j (ht j hj) fun hm=>(hM j hm).2.2.2 hj) hs.len,h.brd.keep (fun j hj=>hs.keep j (hb j hj) fun hm=>by
  rcases hj with rfl|hj
  .exact(hM _ hm).2.1 rfl
  .exact(hM j hm).2.2.1 hj),h.hfr,h.hq,h.hC,h.bh,h.bt,h.tq,h.tC,h.fq,h.Cq,fun j hj=>?_⟩,⟨hs.len,fun j hj hn=>hs.keep j hj fun hm=>hn (by simp[HP.own,hm]),fun j hj=>?_⟩⟩
 .rcases hs.own j hj with hj|hj
  .exact hM j hj
  .refine⟨fun e=>?_,fun e=>?_,fun e=>?_,fun e=>?_⟩
   .subst e;exact absurd hh (Nat.not_lt.2 hj)
   .subst e;exact absurd (hb _ (.inl rfl)) (Nat.not_lt.2 hj)
   .exact absurd (hb _ (.inr e)) (Nat.not_lt.2 hj)
   .exact absurd (ht _ e) (Nat.not_lt.2 hj)
 .simp only[HP.own] at hj ⊢;rcases List.mem_append.1 hj with hj|hj
  .rcases hs.own j hj with hj|hj
   .exact .inl (List.mem_append_left _ hj)
   .exact .inr hj
  .exact .inl (List.mem_append_right _ hj)
def verS:Z8->Nat
 | .old _=>1
 | .now _=>2
theorem DX.nv (h:DX X D p.ov p.nv p.M p.C p.c) (H:Zd):bop .ptr .eql p.nv (.pointer none) H=some (.bool (decide (verS D=1)),H):=by
 cases D with
 | old m=>
  obtain⟨d,b,h1,h2,_⟩:=h;rw[h2];rfl
 | now s=>
  obtain⟨d,r,h1,h2,_⟩:=h;rw[h2];rfl
theorem ZqR (h:HO X p D T B):R (n+1) Qf [pt p.h] X=some (iv (verS D),X):=by
 rw[R,Zlz rfl];unfold Zdr;rw[Za Zg,Za (show fa 1 (pa p.h 0) X=some (pa p.h 1,X) from rfl),Za (Zv h.cell rfl),Za (h.dir.nv X)];cases D<;>rfl
theorem ZDJ (h:HO X p D T B):R (n+1) Ki [pt p.h] X=some (ZsG D p.ov p.nv,X):=by
 rw[R,Zol rfl];unfold ZeR;have e0:ld1 (pa p.h 0) X=some (p.ov,X):=Zv h.cell rfl;have e1:ld1 (pa p.h 1) X=some (p.nv,X):=Zv h.cell rfl;rw[Za Zg,Za (show fa 1 (pa p.h 0) X=some (pa p.h 1,X) from rfl),Za e1,Za (h.dir.nv X)];cases D with
 | old m=>
  rw[show decide (verS (.old m)=1)=true from rfl,Zb,if_pos rfl,Za Zg,Za Zj,Za e0];rfl
 | now s=>
  rw[show decide (verS (.now s)=1)=false from rfl,Zb,if_neg (by simp),Za Zg,Za (show fa 1 (pa p.h 0) X=some (pa p.h 1,X) from rfl),Za e1];rfl
end
section
variable {X X' Y:Zd} {n:Nat} {p:HP} {D D':Z8} {T:List Ql} {B:List Nat} {k:Tx}
theorem ZEy:∃ p X',R (n+2) ZbX [.int .i64 3] X=some (pt p.h,X')/\HO X' p (.old []) ZaV [0,0,0]/\HLe X X'/\(∀ j∈p.own,X.length<=j)/\p.c=0:=by
 have e1:R (n+1) ZdH [.int .i64 3] X=_:=ZBa;have b1:=ZEs (X:=X);have k1:HLe X (X++[Ze.cells [.int .u8 0,.int .u8 0,.int .u8 0] 1 false false]++[Ze.cells [.slice (some ⟨X.length,0,none⟩) 3 3] 1 false false]):=(HLe.app _ _).trans (.app _ _);have hb:(X++[Ze.cells [.int .u8 0,.int .u8 0,.int .u8 0] 1 false false]).length=X.length+1:=by simp
 have hl1:(X++[Ze.cells [.int .u8 0,.int .u8 0,.int .u8 0] 1 false false]++[Ze.cells [.slice (some ⟨X.length,0,none⟩) 3 3] 1 false false]).length=X.length+2:=by simp
 rw[hb] at e1 b1;generalize X++[Ze.cells [.int .u8 0,.int .u8 0,.int .u8 0] 1 false false]++[Ze.cells [.slice (some ⟨X.length,0,none⟩) 3 3] 1 false false]=X1 at e1 b1 k1 hl1;obtain⟨X2,d,m,e2,D2,k2,hd,hm⟩:=ZCg (n:=n) (H:=X1);have e2:R (n+1) Zdg [] X1=_:=e2;have e3:R (n+1) Zca [] X2=_:=ZrO;have t3:=Zx7 (X:=X2) (fr:=[X2.length]) (by simp) (by simp);have k3:HLe X2 (X2++[.cells (QR ZaV (List.replicate 8 (.slice none 0 0))) 1 false false]):=.app _ _;have hl3:(X2++[Ze.cells (QR ZaV (List.replicate 8 (.slice none 0 0))) 1 false false]).length=X2.length+1:=by simp
 generalize X2++[Ze.cells (QR ZaV (List.replicate 8 (.slice none 0 0))) 1 false false]=X3 at e3 t3 k3 hl3;have e4:alc 1 (.agg #[pt d,.pointer none,pt X2.length,pt (X.length+1)]) X3=some (pt X3.length,X3++[.cells [pt d,.pointer none,pt X2.length,pt (X.length+1)] 1 false false]):=Zhr (vs:=[pt d,.pointer none,pt X2.length,pt (X.length+1)]) rfl;have k4:HLe X3 (X3++[.cells [pt d,.pointer none,pt X2.length,pt (X.length+1)] 1 false false]):=.app _ _;have c4:(X3++[Ze.cells [pt d,.pointer none,pt X2.length,pt (X.length+1)] 1 false false])[X3.length]?=some (.cells [pt d,.pointer none,pt X2.length,pt (X.length+1)] 1 false false):=Zo;generalize X3++[Ze.cells [pt d,.pointer none,pt X2.length,pt (X.length+1)] 1 false false]=X4 at e4 k4 c4;have l2:=k2.len;have dl:=D2.lt;refine⟨⟨X3.length,X2.length,X.length+1,[X2.length],[X.length],[m],[d],0,List.replicate 8 (.slice none 0 0),pt d,.pointer none⟩,X4,?_,⟨c4,⟨d,m,rfl,rfl,(D2.hle k3).hle k4,by simp,rfl,rfl⟩,t3.hle k4,((b1.hle k2).hle k3).hle k4,?_,?_,?_,?_,?_,?_,?_,?_,?_,?_⟩,((k1.trans k2).trans k3).trans k4,?_,rfl⟩
 .rw[R,ZwX rfl];unfold Zmf;rw[Za e1,Za (show bop .ptr .eql (pt (X.length+1)) (.pointer none) X1=some (.bool false,X1) from Jy),Zb,if_neg (by simp),Za e2,Za e3,Za (show bld (.agg #[.pointer none,.pointer none,.pointer none,.pointer none]) [(0,1,pt d),(2,1,pt X2.length),(3,1,pt (X.length+1))] X3=some (.agg #[pt d,.pointer none,pt X2.length,pt (X.length+1)],X3) from rfl),Za e4];rfl
 .simp;omega
 .simp;omega
 .simp;omega
 .show X.length+1≠X3.length
  omega
 .show X.length+1≠X2.length
  omega
 .simp;omega
 .simp;omega
 .simp;omega
 .simp;omega
 .simp;omega
 .simp[HP.own];omega
end
section
variable {X X' Y:Zd} {n:Nat} {p:HP} {D D':Z8} {T:List Ql} {B:List Nat} {k:Tx}
theorem DX.first {ov nv:Value} {M C:List Nat} {c:Nat} (h:DX X D ov nv M C c):∀ j∈C,∃ i cs es g ro,X[j]?=some (.cells (.map i :: cs) es g ro):=by
 cases D with
 | old m=>
  obtain⟨d,b,rfl,rfl,h1,h2,rfl,rfl⟩:=h;intro j hj;cases List.mem_singleton.1 hj;exact⟨_,_,_,_,_,h1.c⟩
 | now s=>
  obtain⟨d,r,rfl,rfl,h1,rfl,rfl⟩:=h;intro j hj;simp only[List.mem_cons,List.not_mem_nil,or_false] at hj;rcases hj with rfl|rfl|rfl
  .exact⟨_,_,_,_,_,h1.cell⟩
  .exact⟨_,_,_,_,_,h1.ix.c⟩
  .exact⟨_,_,_,_,_,h1.gr.cell⟩
theorem HO.ovp (h:DX X D p.ov p.nv p.M p.C p.c):∃ q,p.ov=.pointer q:=by
 cases D with
 | old m=>obtain⟨d,b,h1,_⟩:=h;exact⟨_,h1⟩
 | now s=>obtain⟨d,r,h1,_⟩:=h;exact⟨_,h1⟩
theorem HO.apart (h:HO X p D T B) {j:Nat} {i:Option Nat} {cs:List Value} {es:Nat} {g ro:Bool} (hj:X[j]?=some (.cells (.map i :: cs) es g ro)):j≠p.h/\j≠p.t/\j∉p.q:=by
 refine⟨fun e=>?_,fun e=>?_,fun e=>?_⟩
 .subst e;rw[h.cell] at hj;obtain⟨q,hq⟩:=HO.ovp h.dir;rw[hq] at hj;cases hj
 .subst e;obtain⟨r,lv,hr,hl⟩:=h.tab.row (c:=0) (by omega);have h1:=ZfW hr hl (f:=0) (v:=.int .u64 r.num) rfl;have h2:=h.tab.cell;rw[hj] at h2;simp only[Option.some.injEq,Ze.cells.injEq] at h2;rw[<- h2.1] at h1;simp at h1
 .obtain⟨sl,h1,h2⟩:=h.brd.at_;rcases h2 with⟨h3,h4,_⟩|⟨sid,rest,g',_,h4,h5⟩
  .rw[h4] at e;cases e
  .rw[h4] at e;cases List.mem_singleton.1 e;rw[hj] at h5;cases hB:B with
   | nil=>exact h.brd.one hB
   | cons a l=>
    rw[hB] at h5;simp[rlv] at h5
end
section
variable {X X' Y:Zd} {n:Nat} {p p':HP} {D D':Z8} {T:List Ql} {B:List Nat} {k:Tx} {o:OpT}
structure Yu (X X':Zd) (p p':HP) (D D':Z8) (T:List Ql) (B:List Nat) (e:Int):Prop where
 ho:HO X' p' D' T B
 st:Zr p.own X p'.own X'
 h:p'.h=p.h
 t:p'.t=p.t
 fr:p'.fr=p.fr
 no:e≠0->D'=D
 nn:0<=e
 c:p'.c<=p.c+1
theorem Yu.refl (h:HO X p D T B) {e:Int} (he:0<=e):Yu X X p p D D T B e:=⟨h,.refl _ _,rfl,rfl,rfl,fun _=>rfl,he,by omega⟩
theorem Yu.of {e:Int} (h:HO X p D T B) (hl:HLe X X') (he:0<=e):Yu X X' p p D D T B e:=⟨h.hle hl,hl.step.more (by simp) (fun j hj=>.inl hj),rfl,rfl,rfl,fun _=>rfl,he,by omega⟩
theorem Yu.pre {e:Int} (hl:HLe Y X) (h:Yu X X' p p' D D' T B e):Yu Y X' p p' D D' T B e:=
 ⟨h.ho,⟨Nat.le_trans hl.len h.st.len,fun j hj hn=>by rw[h.st.keep j (Nat.lt_of_lt_of_le hj hl.len) hn,List.getElem?_eq_getElem hj];exact hl _ _ (List.getElem?_eq_getElem hj),fun j hj=>by
  rcases h.st.own j hj with h1|h1
  .exact .inl h1
  .exact .inr (Nat.le_trans hl.len h1)⟩,h.h,h.t,h.fr,h.no,h.nn,h.c⟩
theorem Yu.act {e:Int} {M':List Nat} {c':Nat} (h:HO X p D T B) (hs:Zr p.M X M' X') (hd:DX X' D' p.ov p.nv M' p.C c') (hn:e≠0->D'=D) (he:0<=e) (hc:c'<=p.c+1):Yu X X' p { p with M:=M',c:=c' } D D' T B e:=
 ⟨(h.act hs hd).1,(h.act hs hd).2,rfl,rfl,rfl,hn,he,hc⟩
theorem ZFI {s:Tx} (h:crE k s D≠0):crD k s D=D:=by
 cases D with
 | old m=>show Z8.old (ZfI k s m)=_;unfold ZfI;rw[if_neg (show ¬ KE k s m=0 from h)]
 | now t=>show Z8.now (Zcn k s t)=_;unfold Zcn;rw[if_neg (show ¬ Y6 k s t.A=0 from h)]
theorem ZFV (h:deE k D≠0):deD k D=D:=by
 cases D with
 | old m=>show Z8.old (Zfy k m)=_;unfold Zfy;rw[if_neg (show ¬ Q9 k m=0 from h)]
 | now t=>show Z8.now (Zcm k t)=_;unfold Zcm;rw[if_neg (show ¬ ZH k t.A=0 from h)]
theorem ZFG {s:Tx} (h:seE k s D≠0):seD k s D=D:=by
 cases D with
 | old m=>show Z8.old (Zpk k s m)=_;unfold Zpk;rw[if_neg (show ¬ ZbM k s m=0 from h)]
 | now t=>show Z8.now (Zbp k s t)=_;unfold Zbp;rw[if_neg (show ¬ Yo k s t.A=0 from h)]
theorem ZmD {e:Int} {l:List Int} (h:0<=e/\e≠6) (hl:∀ x∈l,0<=x/\x≠6):0<=Wc e l/\Wc e l≠6:=by
 induction l generalizing e with
 | nil=>exact h
 | cons a l ih=>
  have:Wc e (a :: l)=Wc (if e=0 then a else e) l:=rfl;rw[this];refine ih ?_ fun x hx=>hl x (by simp[hx]);split
  .exact hl a (by simp)
  .exact h
theorem Zsk:0<=ZG k/\ZG k≠6:=by unfold ZG;split<;>omega
theorem ZBf:0<=QG k/\QG k≠6:=by unfold QG;split<;>omega
theorem ZDT {m:Qw}:0<=ZbK k m/\ZbK k m≠6:=by unfold ZbK;split<;>(try split)<;>omega
theorem ZvC {m:Qw}:0<=YX k m/\YX k m≠6:=by unfold YX;split<;>omega
theorem ZCV {s:Tx}:0<=crE k s D/\crE k s D≠6:=by
 cases D with
 | old m=>
  refine ZmD Zsk fun x hx=>?_;simp only[List.mem_cons,List.not_mem_nil,or_false] at hx;rcases hx with rfl|rfl
  .exact ZBf
  .exact ZDT
 | now t=>
  show 0<=Y6 k s t.A/\Y6 k s t.A≠6
  unfold Y6
  repeat' split
  all_goals omega
theorem ZCW:0<=deE k D/\deE k D≠6:=by
 cases D with
 | old m=>
  refine ZmD Zsk fun x hx=>?_;simp only[List.mem_cons,List.not_mem_nil,or_false] at hx;rcases hx with rfl;exact ZvC
 | now t=>
  show 0<=ZH k t.A/\ZH k t.A≠6
  unfold ZH
  repeat' split
  all_goals omega
theorem ZCQ {s:Tx}:0<=seE k s D/\seE k s D≠6:=by
 cases D with
 | old m=>
  refine ZmD Zsk fun x hx=>?_;simp only[List.mem_cons,List.not_mem_nil,or_false] at hx;rcases hx with rfl|rfl
  .exact ZBf
  .exact ZvC
 | now t=>
  show 0<=Yo k s t.A/\Yo k s t.A≠6
  unfold Yo
  repeat' split
  all_goals omega
theorem Zyv:0<=Ym k/\Ym k≠6:=by
 unfold Ym
 repeat' split
 all_goals omega
theorem lvN {b:Bool} {A E:M Out} {v e:Value} (hb:b=false) (h:E X=some (.nrm [v,e],X')):jn (cnd (.bool b) A E) (c2 fun x y=>ret (.nrm [x,y])) noX ZF X=some (.nrm [v,e],X'):=by
 subst hb;exact(ZJ (vs:=[v,e]) (H':=X') h).trans rfl
theorem lvY {b:Bool} {A E:M Out} {v e:Value} (hb:b=true) (h:A X=some (.nrm [v,e],X')):jn (cnd (.bool b) A E) (c2 fun x y=>ret (.nrm [x,y])) noX ZF X=some (.nrm [v,e],X'):=by
 subst hb;exact(ZJ (vs:=[v,e]) (H':=X') h).trans rfl
theorem lvR {b:Bool} {A E:M Out} {w:Value} (hb:b=false) (h:E X=some (.ret w,X')):jn (cnd (.bool b) A E) (c2 fun x y=>ret (.nrm [x,y])) noX ZF X=some (.ret w,X'):=by
 subst hb;exact(KG (v:=w) (H':=X') h).trans rfl
end
section
variable {X X' Y:Zd} {n:Nat} {p p':HP} {D D':Z8} {T:List Ql} {B:List Nat} {k m g t:Tx} {o:OpT} {s:NSt} {b:Bool}
theorem Zyz {A:AMp}:0<=ZH k A/\ZH k A≠6:=by
 unfold ZH
 repeat' split
 all_goals omega
theorem ZDR {OW:Qw}:0<=KF k m OW/\KF k m OW≠6:=by
 unfold KF
 repeat' split
 all_goals omega
theorem ZqX:0<=Ye k m s/\Ye k m s≠6:=by
 unfold Ye
 repeat' split
 all_goals first|exact ZDR|omega
theorem Zhs:0<=Yc k b s.A/\Yc k b s.A≠6:=by
 unfold Yc
 repeat' split
 all_goals first|exact Zyz|omega
theorem ZtU:0<=Y4 k t s.A/\Y4 k t s.A≠6:=by
 unfold Y4
 repeat' split
 all_goals omega
theorem Zye:0<=Yg g s.K/\Yg g s.K≠6:=by
 unfold Yg
 repeat' split
 all_goals omega
theorem ZnD:0<=Jn g s.K/\Jn g s.K≠6:=by
 unfold Jn
 repeat' split
 all_goals omega
theorem Ztt:0<=Yf g k s.A/\Yf g k s.A≠6:=by
 unfold Yf
 repeat' split
 all_goals first|exact Zyz|omega
theorem ZwH {ms K:List Tx}:0<=Je g ms K/\Je g ms K≠6:=by
 unfold Je
 repeat' split
 all_goals omega
theorem Zyo:0<=Zbk g k s/\Zbk g k s≠6:=by
 unfold Zbk;split
 .unfold Za0
  repeat' split
  all_goals first|exact ZwH|omega
 .exact Ztt
theorem ZvY:0<=Zak g k s/\Zak g k s≠6:=by
 unfold Zak;split
 .unfold Zc2
  repeat' split
  all_goals first|exact ZwH|omega
 .exact Ztt
theorem Zve {OW:Qw}:0<=Zb9 m OW/\Zb9 m OW≠6:=by
 unfold Zb9
 repeat' split
 all_goals omega
theorem ZyL (h:Ye k m s≠0):Kw k m s=s:=if_neg h
theorem ZrR (h:Yc k b s.A≠0):Kd k b s=s:=if_neg h
theorem ZAV (h:Y4 k t s.A≠0):ZbS k t s=s:=if_neg h
theorem ZDr (h:Yg g s.K≠0):ZkL g s=s:=by
 unfold ZkL Zi1;rw[if_neg h]
theorem ZDX (h:Jn g s.K≠0):Zkd g s=s:=by
 unfold Zkd Zqu;rw[if_neg h,if_neg h]
theorem ZDp (h:Zbk g k s≠0):ZeE g k s=s:=if_neg h
theorem ZB4 (h:Zak g k s≠0):ZcT g k s=s:=if_neg h
theorem ND.still {d c c':Nat} {r r':NR} {s s':NSt} (h:ND X d r s c) (h':ND X' d r' s' c') (hs:Zr r.own X r'.own X'):r'.x=r.x/\r'.g=r.g:=by
 have h1:=hs.get h.cell fun hj=>(h.isMap hj).2 _ _ _ _ h.cell;rw[h'.cell] at h1;simp only[Option.some.injEq,Ze.cells.injEq,List.cons.injEq,Value.pointer.injEq] at h1;have h2:=h1.1.2.1;have h3:=h1.1.2.2.1;simp at h2 h3
 exact⟨h2,h3⟩
end
section
variable {X X' Y:Zd} {n:Nat} {p p':HP} {D D':Z8} {T:List Ql} {B:List Nat} {k m g t:Tx} {o:OpT} {s:NSt} {b:Bool}
theorem HO.box {j:Nat} {i:Int} {v w1 w2:Value} (h:HO X p D T B) (hj:X[j]?=some (.cells [.int .i64 i,v] 1 false false)) (ho:j∉p.own) (hf:j∉p.fr):HO (X.set j (.cells [w1,w2] 1 false false)) p D T B:=by
 have hs:Zr [j] X [j] (X.set j (.cells [w1,w2] 1 false false)):=⟨by simp,fun a ha hn=>List.getElem?_set_ne (fun e=>hn (by simp[e])),fun a ha=>.inl ha⟩;refine h.step hs (fun a ha e=>?_) (fun a ha e=>?_) (fun e=>?_) (fun a ha e=>?_)
 .rw[List.mem_singleton.1 e] at ha;exact ho ha
 .rw[List.mem_singleton.1 e] at ha;obtain⟨_,_,_,_,_,hc⟩:=h.dir.first _ ha;rw[hj] at hc;cases hc
 .have e:=List.mem_singleton.1 e;obtain⟨sl,h1,_⟩:=h.brd.at_;rw[e,hj] at h1;cases h1
 .rw[List.mem_singleton.1 e] at ha;exact hf ha
theorem ZhN {j:Nat} {i:Int} {v w:Value} {e:Int} (hj:X[j]?=some (.cells [.int .i64 i,v] 1 false false)) (hw:oneCell w=true):stA 2 (pt j) (.agg #[iv e,w]) X=some (undef,X.set j (.cells [iv e,w] 1 false false)):=
 WX (vs:=[iv e,w]) hj rfl rfl (by rw[List.all_cons,List.all_cons,hw];rfl)
theorem Zii {j:Nat} {i:Int} {v w:Value} {e:Int} (hj:X[j]?=some (.cells [.int .i64 i,v] 1 false false)):ldA 2 (pt j) (X.set j (.cells [iv e,w] 1 false false))=some (.agg #[iv e,w],X.set j (.cells [iv e,w] 1 false false)):=
 Qd (n:=2) (ZW hj) rfl
theorem ZCw (h:checkO o=0):o.kd < 17:=by
 unfold checkO at h;split at h
 .cases h
 .omega
end
section
variable {X X' Y:Zd} {n:Nat} {p p':HP} {D D':Z8} {T:List Ql} {B:List Nat} {k m g t:Tx} {o:OpT} {s:NSt} {b:Bool} {r:YM}
theorem HO.put {T':List Ql} {lvs':List Value} {q2:List Nat} (h:HO X p D T B) (ht:Tab X' p.t T' lvs' (p.fr++q2)) (hl:X.length<=X'.length) (hk:∀ j,j < X.length->j≠p.t->X'[j]?=X[j]?) (hq:∀ j∈q2,X.length<=j):HO X' { p with fr:=p.fr++q2,lvs:=lvs' } D T' B/\Zr p.own X ({ p with fr:=p.fr++q2,lvs:=lvs' }:HP).own X':=by
 have hs:Zr [p.t] X [p.t] X':=⟨hl,fun j hj hn=>hk j hj (fun e=>hn (by simp[e])),fun j hj=>.inl hj⟩;have hh:=Z6 h.cell;have htf:=h.tab.t;have hht:p.h≠p.t:=fun e=>h.hfr (e ▸ htf);have hMt:∀ j∈p.M,j≠p.t:=fun j hj e=>(h.Mo j hj).2.2.2 (e ▸ htf);refine⟨⟨hs.get h.cell (by simp[hht]),h.dir.step hs (fun j hj=>by simp[hMt j hj]) (fun j hj=>by simp;exact fun e=>h.tC (e ▸ hj)),ht,h.brd.keep (fun j hj=>hk j (h.brd.lt j hj) (by
  rcases hj with rfl|hj
  .exact h.bt
  .exact fun e=>h.tq (e ▸ hj))),?_,h.hq,h.hC,h.bh,h.bt,h.tq,h.tC,?_,h.Cq,?_⟩,⟨hl,fun j hj hn=>hk j hj (fun e=>hn (by simp[HP.own,e])),fun j hj=>.inl hj⟩⟩
 .intro hm;rcases List.mem_append.1 hm with h1|h1
  .exact h.hfr h1
  .exact absurd hh (Nat.not_lt.2 (hq p.h h1))
 .intro j hj hm;rcases List.mem_append.1 hj with h1|h1
  .exact h.fq j h1 hm
  .have:=hq j h1;have:=h.brd.lt j (.inr hm);omega
 .intro j hj;obtain⟨m1,m2,m3,m4⟩:=h.Mo j hj;refine⟨m1,m2,m3,fun hm=>?_⟩;rcases List.mem_append.1 hm with h1|h1
  .exact m4 h1
  .have:=hq j h1;have:=h.dir.lt j (.inl hj);omega
theorem ZnJ (r:YM) (X:Zd):alc 1 (.agg r.cells.toArray) X=some (pt X.length,X++[.cells r.cells 1 false false]):=rfl
theorem ZjG {j:Nat} (h:X[j]?=some (.cells r.cells 1 false false)):ldA 5 (pa j 2) X=some (.agg r.o.cells.toArray,X):=ZnF (o:=2) (k:=5) h (by simp[YM.cells,OpT.cells])
theorem HO.note {B':List Nat} (h:HO X p D T B) (hs:Zr p.q X p.q X') (hb:Brd X' p.b B' p.q):HO X' p D T B'/\Zr p.own X p.own X':=
 ⟨⟨hs.get h.cell h.hq,h.dir.step hs (fun j hj=>(h.Mo j hj).2.2.1) h.Cq,h.tab.keep (fun j hj=>hs.keep j (h.tab.lt j hj) (h.fq j hj)) hs.len,hb,h.hfr,h.hq,h.hC,h.bh,h.bt,h.tq,h.tC,h.fq,h.Cq,h.Mo⟩,hs.more (fun j hj=>by simp[HP.own,hj]) (fun j hj=>.inl hj)⟩
end
section
variable {X X' Y:Zd} {n:Nat} {p p':HP} {D D':Z8} {T:List Ql} {B:List Nat} {o:OpT} {s:NSt} {r:YM}
end
section
variable {X X' Y:Zd} {n:Nat} {p p':HP} {D D':Z8} {T:List Ql} {B:List Nat} {o:OpT} {s:NSt} {r:YM}
def ZBj (n:Nat) (D:Z8) (T:List Ql) (B:List Nat) (o:OpT) (P:Int->List Tx->Z8->Prop):Prop:=
 ∀ (X:Zd) (p:HP),GlH X->HO X p D T B->p.c<=1000->∃ (v:Value) (l:List Tx) (q:List Nat) (e:Int) (p':HP) (D':Z8) (X':Zd),
  R n ZbO [pt p.h,.agg o.cells.toArray] X=some (.agg #[iv e,v],X')/\Zu X' v (l.map strv) q/\(∀ j∈q,X.length<=j)/\l.length<=1000/\Yu X X' p p' D D' T B e/\(e≠0->l=[])/\P e l D'
def ZgC (T:List Ql) (c m:Nat):Nat × List Tx:=match judgeS T c m with
 | 0=>(1,[])
 | 1=>(12,[])
 | _=>match T[c]? with
  | some r=>(r.e,r.l)
  | none=>(0,[])
def ZFx (P:Int->List Tx->Z8->Prop) (D:Z8) (T:List Ql) (r:YM) (e:Int) (l:List Tx) (dn:Bool) (D':Z8) (T':List Ql):Prop:=
 (judgeS T r.cl r.num≠3/\dn=false/\D'=D/\T'=T/\e=(ZgC T r.cl r.num).1/\l=(ZgC T r.cl r.num).2)\/
 (judgeS T r.cl r.num=3/\dn=true/\P e l D'/\∃ en:Nat,e=en/\T'=T.set r.cl ⟨r.num,en,l⟩)
theorem ZzK {P:Int->List Tx->Z8->Prop} (hG:GlH X) (h:HO X p D T B) (hc:p.c<=1000) (hok:ZiT r) (hs:r.cl≠255) (hP:ZBj (n+18) D T B r.o P):∃ (v:Value) (l:List Tx) (e:Int) (dn:Bool) (p':HP) (D':Z8) (T':List Ql) (X':Zd),
  R (n+19) ZR [pt p.h,.agg r.cells.toArray] X=some (.tuple #[.agg #[iv e,v],.bool dn],X')/\Sl X' v (l.map strv)/\oneCell v=true/\l.length<=1000/\(∀ id,own1 v=some id->X.length<=id)/\HO X' p' D' T' B/\Zr p.own X p'.own X'/\p'.h=p.h/\p'.c<=p.c+1/\(e≠0->l=[])/\(judgeS T r.cl r.num≠3->HLe X X'/\p'=p)/\(∀ j∈p'.fr,j∈p.fr\/X.length<=j)/\ZFx P D T r e l dn D' T':=by
 have a1:=ZnJ r X;have k1:HLe X (X++[Ze.cells r.cells 1 false false]):=.app _ _;have c1:(X++[Ze.cells r.cells 1 false false])[X.length]?=some (.cells r.cells 1 false false):=Zo;generalize X++[Ze.cells r.cells 1 false false]=X1 at a1 k1 c1;have a2:alc 1 (.agg #[.int .i64 0,.slice none 0 0]) X1=some (pt X1.length,X1++[.cells [.int .i64 0,.slice none 0 0] 1 false false]):=rfl;have k2:HLe X1 (X1++[Ze.cells [.int .i64 0,.slice none 0 0] 1 false false]):=.app _ _;have c2:(X1++[Ze.cells [.int .i64 0,.slice none 0 0] 1 false false])[X1.length]?=some (.cells [.int .i64 0,.slice none 0 0] 1 false false):=Zo;have d2:=k2 _ _ c1;generalize X1++[Ze.cells [.int .i64 0,.slice none 0 0] 1 false false]=X2 at a2 k2 c2 d2;have k12:=k1.trans k2;have H2:=h.hle k12;have G2:=hG.le k12;have n1:=k1.len;have n2:=k2.len;have hp1:X.length < X1.length:=Z6 c1;have hp2:X1.length < X2.length:=Z6 c2;have own2:X1.length∉p.own:=fun hh=>by have:=h.lt _ hh;omega
 have own1:X.length∉p.own:=fun hh=>by have:=h.lt _ hh;omega
 have fr2:X1.length∉p.fr:=fun hh=>by have:=h.tab.lt _ hh;omega
 have f0:∀ v X',Kg (R (n+18)) (pt p.h) (.agg r.cells.toArray) X=some (v,X')->R (n+19) ZR [pt p.h,.agg r.cells.toArray] X=some (v,X'):=fun v X' hr=>by rw[R,ZgY rfl];exact hr
 have b0:ld1 (pa X.length 0) X2=some (.int .u8 r.cl,X2):=Zv d2 rfl;have b1:ld1 (pa X.length 1) X2=some (.int .u64 r.num,X2):=Zv d2 rfl;have bt:ld1 (pa p.h 2) X2=some (pt p.t,X2):=Zv H2.cell rfl;have g1:∀ Z:Zd,fa 1 (pt X.length) Z=some (pa X.length 1,Z):=fun Z=>rfl;have g2:∀ Z:Zd,fa 2 (pt X.length) Z=some (pa X.length 2,Z):=fun Z=>rfl;have y2:∀ Z:Zd,fa 2 (pa p.h 0) Z=some (pa p.h 2,Z):=fun Z=>rfl;have q0:bop .int .eql (.int .u8 r.cl) (.int .u8 255) X2=some (.bool false,X2):=by
  rw[ZE];have hq:((r.cl:Int)==255)=false:=by rw[beq_eq_false_iff_ne];omega
  rw[hq]
 have Ze7:∀ {Z:Zd} {p':HP} {D':Z8} {T':List Ql} {e:Int} {w:Value} {l:List Tx} {q:List Nat} {dn:Bool},HO Z p' D' T' B->Zr p.own X2 p'.own Z->X1.length∉p'.fr->Zu Z w (l.map strv) q->(∀ j∈q,X2.length<=j)->Z[X1.length]?=some (.cells [.int .i64 0,.slice none 0 0] 1 false false)->
   ∃ Z',bind (stA 2 (pt X1.length) (.agg #[iv e,w])) (fun _=>bind (ldA 2 (pt X1.length)) fun vrx=>ret (Value.tuple #[vrx,.bool dn])) Z=some (.tuple #[.agg #[iv e,w],.bool dn],Z')/\Sl Z' w (l.map strv)/\oneCell w=true/\(∀ id,Go.Proofs.YtgfbgfafajiehaaGreatDoor.A.own1 w=some id->X.length<=id)/\HO Z' p' D' T' B/\Zr p.own X p'.own Z'/\(HLe X Z->HLe X Z'):=fun {Z p' D' T' e w l q dn} hO hs hf hr hq hz=>by
  have ho:X1.length∉p'.own:=fun hh=>by
   rcases hs.own _ hh with h1|h1
   .exact own2 h1
   .omega
  have hr2:Zu (Z.set X1.length (.cells [iv e,w] 1 false false)) w (l.map strv) q:=hr.keep fun j hj=>List.getElem?_set_ne (fun e0=>by have:=hq j hj;omega);refine⟨Z.set X1.length (.cells [iv e,w] 1 false false),?_,hr2.rd,hr.one.1,fun id hi=>by have:=hq _ (hr.own_of hi);omega,hO.box hz ho hf,⟨by simpa using Nat.le_trans k12.len hs.len,fun j hj hn=>?_,fun j hj=>?_⟩,fun hl=>hl.put (by omega)⟩
  .rw[Za (ZhN hz hr.one.1),Za (Zii hz)];rfl
  .rw[List.getElem?_set_ne (by omega),hs.keep j (Nat.lt_of_lt_of_le hj k12.len) hn,List.getElem?_eq_getElem hj];exact k12 _ _ (List.getElem?_eq_getElem hj)
  .rcases hs.own j hj with h1|h1
   .exact .inl h1
   .exact .inr (Nat.le_trans k12.len h1)
 have nil:∀ {Z:Zd},Zu Z (.slice none 0 0) (([]:List Tx).map strv) []:=Zu.nil;have ej:R (n+18) J9 [pt p.t,.int .u8 r.cl,.int .u64 r.num] X2=some (iv (judgeS T r.cl r.num),X2):=ZsN H2.tab;have qj:∀ j:Nat,bop .int .eql (iv (judgeS T r.cl r.num)) (iv j) X2=some (.bool (decide (judgeS T r.cl r.num=j)),X2):=fun j=>by
  rw[ZE];have hq:((judgeS T r.cl r.num:Int)==(j:Int))=decide (judgeS T r.cl r.num=j):=by
   by_cases hz:judgeS T r.cl r.num=j
   .rw[hz];simp
   .rw[decide_eq_false hz,beq_eq_false_iff_ne];omega
  rw[hq]
 have qj0:bop .int .eql (iv (judgeS T r.cl r.num)) (.int .i64 0) X2=_:=qj 0;have qj1:bop .int .eql (iv (judgeS T r.cl r.num)) (.int .i64 1) X2=_:=qj 1;have qj2:bop .int .eql (iv (judgeS T r.cl r.num)) (.int .i64 2) X2=_:=qj 2;by_cases j0:judgeS T r.cl r.num=0
 .obtain⟨Z',z1,z2,z3,zf,z4,z5,z6⟩:=Ze7 (e:=1) (dn:=false) H2 (.refl _ _) fr2 nil (by simp) c2;have ha:ZgC T r.cl r.num=(1,[]):=by unfold ZgC;rw[j0];rfl
  refine⟨.slice none 0 0,[],1,false,p,D,T,Z',f0 _ _ ?_,z2,z3,by simp,zf,z4,z5,rfl,by omega,fun _=>rfl,fun _=>⟨z6 k12,rfl⟩,fun j hj=>.inl hj,.inl ⟨by omega,rfl,rfl,rfl,by rw[ha];rfl,by rw[ha]⟩⟩;unfold Kg;rw[Za a1,Za a2,Za Zj,Za b0,Za q0,Zb,if_neg (by simp),Za Zg,Za (y2 X2),Za bt,Za Zj,Za b0,Za (g1 X2),Za b1,Za ej,Za qj0,decide_eq_true j0,Zb,if_pos rfl,Za (show bld (.agg #[.int .i64 0,.slice none 0 0]) [(0,1,(Value.int .i64 1))] X2=some (.agg #[iv 1,.slice none 0 0],X2) from rfl)];exact z1
 by_cases j1:judgeS T r.cl r.num=1
 .obtain⟨Z',z1,z2,z3,zf,z4,z5,z6⟩:=Ze7 (e:=12) (dn:=false) H2 (.refl _ _) fr2 nil (by simp) c2;have ha:ZgC T r.cl r.num=(12,[]):=by unfold ZgC;rw[j1];rfl
  refine⟨.slice none 0 0,[],12,false,p,D,T,Z',f0 _ _ ?_,z2,z3,by simp,zf,z4,z5,rfl,by omega,fun _=>rfl,fun _=>⟨z6 k12,rfl⟩,fun j hj=>.inl hj,.inl ⟨by omega,rfl,rfl,rfl,by rw[ha];rfl,by rw[ha]⟩⟩;unfold Kg;rw[Za a1,Za a2,Za Zj,Za b0,Za q0,Zb,if_neg (by simp),Za Zg,Za (y2 X2),Za bt,Za Zj,Za b0,Za (g1 X2),Za b1,Za ej,Za qj0,decide_eq_false j0,Zb,if_neg (by simp),Za qj1,decide_eq_true j1,Zb,if_pos rfl,Za (show bld (.agg #[.int .i64 0,.slice none 0 0]) [(0,1,(Value.int .i64 12))] X2=some (.agg #[iv 12,.slice none 0 0],X2) from rfl)];exact z1
 by_cases j2:judgeS T r.cl r.num=2
 .have hcl:r.cl < 8:=by
   unfold judgeS at j2;split at j2
   .cases j2
   .omega
  obtain⟨row,lv,hr,hlv⟩:=H2.tab.row hcl;obtain⟨v,q,X3,e3,r3,k3,o3⟩:=ZD1 (n:=n+15) H2.tab hcl hr;have e3:R (n+18) K2 [pt p.t,.int .u8 r.cl] X2=_:=e3;have few:=(H2.tab.txt _ _ _ hr hlv).few;have ha:ZgC T r.cl r.num=(row.e,row.l):=by unfold ZgC;rw[j2,hr];rfl
  obtain⟨Z',z1,z2,z3,zf,z4,z5,z6⟩:=Ze7 (e:=(row.e:Int)) (dn:=false) (H2.hle k3) (k3.step.more (by simp) (fun j hj=>.inl hj)) fr2 r3 o3 (k3 _ _ c2);refine⟨v,row.l,row.e,false,p,D,T,Z',f0 _ _ ?_,z2,z3,few,zf,z4,z5,rfl,by omega,fun he=>H2.tab.err row (List.mem_of_getElem? hr) (fun h0=>he (by rw[h0];rfl)),fun _=>⟨z6 (k12.trans k3),rfl⟩,fun j hj=>.inl hj,.inl ⟨by omega,rfl,rfl,rfl,by rw[ha],by rw[ha]⟩⟩;unfold Kg;rw[Za a1,Za a2,Za Zj,Za b0,Za q0,Zb,if_neg (by simp),Za Zg,Za (y2 X2),Za bt,Za Zj,Za b0,Za (g1 X2),Za b1,Za ej,Za qj0,decide_eq_false j0,Zb,if_neg (by simp),Za qj1,decide_eq_false j1,Zb,if_neg (by simp),Za qj2,decide_eq_true j2,Zb,if_pos rfl,Za Zg,Za (y2 X2),Za bt,Za Zj,Za b0,Za e3];exact z1
 .have j3:judgeS T r.cl r.num=3:=by have:=Zwc T r.cl r.num;omega
  obtain⟨v,l,q,e,p1,D1,X3,e3,r3,o3,n3,A,eL,hPe⟩:=hP X2 p G2 H2 hc;have d3:=A.st.get d2 own1;have c3:=A.st.get c2 own2;have z6:∀ K:Value->M Value,bind (alc 1 (.agg #[.int .i64 0,.slice none 0 0])) (fun q=>bind (stA 2 q (.agg #[iv e,v])) fun _=>K q) X3=K (pt X3.length) (X3++[.cells [iv e,v] 1 false false]):=fun K=>ZbB (n:=2) (zs:=[.int .i64 0,.slice none 0 0]) (r:=[iv e,v]) rfl rfl rfl (by rw[List.all_cons,List.all_cons,r3.one.1];rfl);have k4:HLe X3 (X3++[Ze.cells [iv e,v] 1 false false]):=.app _ _;have c6:(X3++[Ze.cells [iv e,v] 1 false false])[X3.length]?=some (.cells [iv e,v] 1 false false):=Zo;generalize X3++[Ze.cells [iv e,v] 1 false false]=X4 at z6 k4 c6;have H4:=A.ho.hle k4;have r4:=r3.hle k4;have hT:=A.t;have hH:=A.h;have htl:p.t < X.length:=h.tab.lt _ h.tab.t;have n4:=k4.len;have n23:=A.st.len;obtain⟨en,rfl⟩:∃ en:Nat,e=en:=⟨e.toNat,by have:=A.nn;omega⟩;obtain⟨X5,lvs',q2,e5,t5,l5,m5,o5⟩:=ZFJ (n:=n+14) (c:=r.cl) (m:=r.num) (e:=en) H4.tab r4.rd n3 r4.one.1;have e5:R (n+18) Za8 [pt p1.t,.int .u8 r.cl,.int .u64 r.num,.agg #[iv en,v]] X4=_:=e5;have hput:Zj2 T r.cl r.num en l=T.set r.cl ⟨r.num,en,l⟩:=by
   unfold Zj2;rw[if_pos j3];have:KK en l=l:=by
    unfold KK;split
    .rfl
    .rename_i hne;exact(eL hne).symm
   rw[this]
  rw[hput] at t5;obtain⟨H5,s5⟩:=H4.put t5 l5 m5 o5;have r5:Zu X5 v (l.map strv) q:=r4.keep fun j hj=>m5 j (r4.lt j hj) (by have:=o3 j hj;omega);have c6':X5[X3.length]?=some (.cells [iv en,v] 1 false false):=by
   rw[m5 _ (Z6 c6) (by omega)];exact c6
  have c5:X5[X1.length]?=some (.cells [.int .i64 0,.slice none 0 0] 1 false false):=by
   have:=k4 _ _ c3;rw[m5 _ (Z6 this) (by omega)];exact this
  have s24:Zr p.own X2 p1.own X4:=A.st.trans (k4.step.more (by simp) (fun j hj=>.inl hj));obtain⟨Z',z1,z2,z3,zf,z4,z5,_⟩:=Ze7 (e:=(en:Int)) (dn:=true) H5 (s24.trans s5) (fun hh=>by
   rcases List.mem_append.1 hh with h1|h1
   .rw[A.fr] at h1;exact fr2 h1
   .have:=o5 _ h1;omega) r5 o3 c5
  refine⟨v,l,en,true,_,D1,_,Z',f0 _ _ ?_,z2,z3,n3,zf,z4,z5,hH,A.c,eL,fun hj=>absurd j3 hj,fun j hj=>by
   rcases List.mem_append.1 hj with h1|h1
   .rw[A.fr] at h1;exact .inl h1
   .have:=o5 _ h1;exact .inr (by omega),.inr ⟨j3,rfl,hPe,en,rfl,rfl⟩⟩
  unfold Kg;rw[Za a1,Za a2,Za Zj,Za b0,Za q0,Zb,if_neg (by simp),Za Zg,Za (y2 X2),Za bt,Za Zj,Za b0,Za (g1 X2),Za b1,Za ej,Za qj0,decide_eq_false j0,Zb,if_neg (by simp),Za qj1,decide_eq_false j1,Zb,if_neg (by simp),Za qj2,decide_eq_false j2,Zb,if_neg (by simp),Za (g2 X2),Za (ZjG d2),Za e3,z6,Za Zg,Za (y2 X4),Za (show ld1 (pa p.h 2) X4=some (pt p1.t,X4) from by rw[<- hH];exact Zv H4.cell rfl),Za Zj,Za (show ld1 (pa X.length 0) X4=some (.int .u8 r.cl,X4) from Zv (k4 _ _ d3) rfl),Za (g1 X4),Za (show ld1 (pa X.length 1) X4=some (.int .u64 r.num,X4) from Zv (k4 _ _ d3) rfl),Za (Qd (n:=2) c6 rfl),Za e5,Za (Qd (n:=2) c6' rfl)];exact z1
end
section
set_option maxRecDepth 100000
section
variable {α:Type} {x y:List (Tx × α)} {v:α} {j k o p:Tx} {OW OF OW' OF':Qw} {s t:NSt} {K K':List Tx} {m:Tx} {u:Zd5}
theorem Zsn:k∈x.map (·.1)↔(Zf k x).isSome=true:=by
 constructor
 .intro h;cases hk:Zf k x with
  | none=>
   rw[Zec] at hk;obtain⟨q,hq,rfl⟩:=List.mem_map.1 h;exact absurd rfl (hk q hq)
  | some v=>rfl
 .intro h;obtain⟨v,hv⟩:=Option.isSome_iff_exists.1 h;exact List.mem_map.2 ⟨(k,v),Kz hv,rfl⟩
theorem ZzM (h:K.Nodup) (h':K'.Nodup) (hk:∀ g,g∈K↔g∈K'):QK K=QK K':=
 Zsj (Zgs h) (Zgs h') fun x=>by rw[Zad,Zad];exact hk x
end
end
section
variable {X X' Y:Zd} {n:Nat} {p p':HP} {D D' D1 D1':Z8} {T:List Ql} {B:List Nat} {o:OpT} {s t:NSt} {r:YM} {m m':Qw} {k h g pre:Tx} {e e1:Int} {l l1:List Tx}
def ZGf:Z8->Prop
 | .old m=>(m.map (·.1)).Nodup
 | .now s=>Zh1 s
def Zj4 (k:Tx):Z8->Int
 | .old m=>Q9 k m
 | .now s=>ZH k s.A
def uL (u:ZcJ):List Tx:=u.2.1 :: u.2.2.1 :: (if u.2.2.2.1 then[49] else[48]) :: u.2.2.2.2
def Zhq (k:Tx):Z8->List Tx
 | .old m=>[if Q9 k m=0 then(Zf k m).getD [] else[]]
 | .now s=>uL (W7 s k ((Zf k s.A).getD ([],false)))
def ZkY (pre:Tx) (D:Z8):List Tx:=if Zff pre then(QK (Zv1 D)).filter (Zdw pre) else[]
def UpD (D:Z8) (B:List Nat) (e:Int) (D':Z8):Prop:=match D with
 | .now s=>e=14/\D'=.now s
 | .old m=>if(B.all fun r=>decide (2<=r))=true then e=0/\∃ s,D'=.now s/\Zh1 s/\A.allK s=(KL m).map kOf/\s.K=[] else e=13/\D'=.old m
def Zh4 (D:Z8) (B:List Nat) (o:OpT) (e:Int) (l:List Tx) (D':Z8):Prop:=match o.kd with
 | 0=>e=crE o.a o.b D/\l=[]/\D'=crD o.a o.b D
 | 1=>e=deE o.a D/\l=[]/\D'=deD o.a D
 | 2=>e=seE o.a o.b D/\l=[]/\D'=seD o.a o.b D
 | 3=>e=Zj4 o.a D/\(e=0->l=Zhq o.a D)/\D'=D
 | 4=>e=Ym o.a/\l=ZkY o.a D/\D'=D
 | 15=>l=[]/\UpD D B e D'
 | 16=>e=1/\l=[]/\D'=D
 | _=>False
def Ze0 (s:NSt) (o:OpT) (e:Int) (l:List Tx) (D':Z8):Prop:=match o.kd with
 | 5=>e=Ye o.a o.b s/\l=[]/\D'=.now (Kw o.a o.b s)
 | 6=>e=Yc o.a true s.A/\l=[]/\D'=.now (Kd o.a true s)
 | 7=>e=Yc o.a false s.A/\l=[]/\D'=.now (Kd o.a false s)
 | 8=>e=Y4 o.a o.b s.A/\l=[]/\D'=.now (ZbS o.a o.b s)
 | 9=>e=Yg o.a s.K/\l=[]/\D'=.now (ZkL o.a s)
 | 10=>e=Jn o.a s.K/\l=[]/\D'=.now (Zkd o.a s)
 | 11=>e=Zbk o.a o.b s/\l=[]/\D'=.now (ZeE o.a o.b s)
 | 12=>e=Zak o.a o.b s/\l=[]/\D'=.now (ZcT o.a o.b s)
 | 13=>e=Zb9 o.a s.OW/\l=[Zhf o.a s.OW]/\D'=.now s
 | 14=>e=Jn o.a s.K/\Is l (fun m=>Jn o.a s.K=0/\s.mem o.a m=true)/\D'=.now s
 | _=>False
def Znw (D:Z8) (B:List Nat) (o:OpT) (e:Int) (l:List Tx) (D':Z8):Prop:=
 (checkO o≠0/\e=checkO o/\l=[]/\D'=D)\/
 (checkO o=0/\∃ l0,l=(if e=0 then l0 else[])/\
  (Zh4 D B o e l0 D'\/(5<=o.kd/\o.kd<=14/\match D with
   | .old m=>e=6/\D'=.old m
   | .now s=>Ze0 s o e l0 D')))
end
section
variable {X X' Y:Zd} {n:Nat} {p p':HP} {D D':Z8} {T:List Ql} {B:List Nat} {k m g t:Tx} {o:OpT} {s:NSt} {b:Bool} {r:YM}
theorem Zy2 (h:HO X p D T B) (hk:k.length<=1000000000):∃ (v:Value) (l:List Tx) (q:List Nat) (e:Int) (X':Zd),R (n+8) ZaK [pt p.h,strv k] X=some (.tuple #[v,iv e],X')/\Zu X' v (l.map strv) q/\HLe X X'/\l.length<=10/\(∀ j∈q,X.length<=j)/\(e≠6/\0<=e)/\e=Zj4 k D/\(e=0->l=Zhq k D):=by
 have e0:ld1 (pa p.h 0) X=some (p.ov,X):=Zv h.cell rfl;have e1:ld1 (pa p.h 1) X=some (p.nv,X):=Zv h.cell rfl;have hnv:=h.dir.nv X;have hd:=h.dir;cases D with
 | old m=>
  obtain⟨d,b,h1,h2,h3,h4,_,_⟩:=hd;obtain⟨X1,a2,k2⟩:=ZCj (n:=n) (k:=k) h3 hk;have a2:R (n+7) ZaM [pt d,strv k] X=_:=a2;refine⟨.slice (some ⟨X1.length,0,none⟩) 1 1,[if Q9 k m=0 then(Zf k m).getD [] else[]],[X1.length],Q9 k m,X1++[Ze.cells [strv (if Q9 k m=0 then(Zf k m).getD [] else[])] 1 false false],?_,.inr ⟨X1.length,[],false,rfl,rfl,Zo⟩,k2.trans (.app _ _),by simp,by simpa using k2.len,?_,rfl,fun _=>rfl⟩
  .rw[R,Zga rfl];unfold Zb1;rw[Za Zg,Za (show fa 1 (pa p.h 0) X=some (pa p.h 1,X) from rfl),Za e1,Za hnv,show decide (verS (.old m)=1)=true from rfl,Zb,if_pos rfl,Za Zg,Za Zj,Za e0,h1,Za a2,Za Zp,Za Zq,Za (Zqb rfl rfl rfl)];rfl
  .unfold Q9 ZG YX Wc;cases Zw k<;>cases (Zf k m).isSome<;>simp[Wc]
 | now s=>
  obtain⟨d,r,h1,h2,h3,_,_⟩:=hd;obtain⟨u,q,X1,a2,r2,o2,k2,l2,hky⟩:=ZAy (n:=n) (k:=k) h3;have a2:R (n+7) KB [pt d,strv k] X=_:=a2;have hu:u.cells.all oneCell=true:=by
   simp only[ZA.cells,List.all_cons,r2.one.1];rfl
  have z3:∀ K:Value->A.M Value,bind (alc 1 (.agg #[.string ⟨#[]⟩,.string ⟨#[]⟩,.string ⟨#[]⟩,.bool false,.slice none 0 0])) (fun q=>bind (stA 5 q (.agg u.cells.toArray)) fun _=>K q) X1=K (pt X1.length) (X1++[.cells u.cells 1 false false]):=fun K=>ZbB (n:=5) (zs:=[.string ⟨#[]⟩,.string ⟨#[]⟩,.string ⟨#[]⟩,.bool false,.slice none 0 0]) (r:=u.cells) rfl rfl rfl hu;have k3:HLe X1 (X1++[Ze.cells u.cells 1 false false]):=.app _ _;have c3:(X1++[Ze.cells u.cells 1 false false])[X1.length]?=some (.cells u.cells 1 false false):=Zo;generalize X1++[Ze.cells u.cells 1 false false]=X2 at z3 k3 c3;have f1:ld1 (pa X1.length 1) X2=some (strv u.hs,X2):=Zv c3 rfl;have f2:ld1 (pa X1.length 2) X2=some (strv u.ml,X2):=Zv c3 rfl;have f3:ld1 (pa X1.length 3) X2=some (.bool u.ds,X2):=Zv c3 rfl;have off:∃ o:Tx,o=(if u.ds then[49] else[48])/\cnd (.bool u.ds) (ret (Out.nrm [pt X1.length,iv (ZH k s.A),(Value.string ⟨#[49]⟩)])) (ret (Out.nrm [pt X1.length,iv (ZH k s.A),(Value.string ⟨#[48]⟩)])) X2=some (.nrm [pt X1.length,iv (ZH k s.A),strv o],X2):=by
   cases u.ds
   .exact⟨[48],rfl,rfl⟩
   .exact⟨[49],rfl,rfl⟩
  obtain⟨o,ho,e5⟩:=off;have e6:bsl 1 3 (.string ⟨#[]⟩) [(0,1,strv u.hs),(1,1,strv u.ml),(2,1,strv o)] X2=some (.slice (some ⟨X2.length,0,none⟩) 3 3,X2++[.cells [strv u.hs,strv u.ml,strv o] 1 false false]):=rfl;have k6:HLe X2 (X2++[Ze.cells [strv u.hs,strv u.ml,strv o] 1 false false]):=.app _ _;have r6:Zu (X2++[Ze.cells [strv u.hs,strv u.ml,strv o] 1 false false]) (.slice (some ⟨X2.length,0,none⟩) 3 3) [strv u.hs,strv u.ml,strv o] [X2.length]:=.inr ⟨X2.length,[],false,rfl,rfl,Zo⟩;generalize X2++[Ze.cells [strv u.hs,strv u.ml,strv o] 1 false false]=X3 at e6 k6 r6;have f4:ld1 (pa X1.length 4) X3=some (u.gv,X3):=Zv (k6 _ _ c3) rfl;have r7:=(r2.hle (k3.trans k6)).rd;obtain⟨v,X4,q4,e7,r8,s8⟩:=r6.addN (b:=16) r7.fc r7.flen (by simp;omega) (by simp;omega);have kk:=k2.trans k3;have m8:=(kk.trans k6).more s8 (by simpa using kk.len);refine⟨v,u.hs :: u.ml :: o :: u.gs,q4,ZH k s.A,X4,?_,r8,m8.1,by simp;omega,m8.2,?_,rfl,fun hz=>?_⟩
  .rw[R,Zga rfl];unfold Zb1;rw[Za Zg,Za (show fa 1 (pa p.h 0) X=some (pa p.h 1,X) from rfl),Za e1,Za hnv,show decide (verS (.now s)=1)=false from rfl,Zb,if_neg (by simp),Za Zg,Za (show fa 1 (pa p.h 0) X=some (pa p.h 1,X) from rfl),Za e1,h2,Za a2,Za Zp,Za Zq,z3,Za (show fa 3 (pt X1.length) X2=some (pa X1.length 3,X2) from rfl),Za f3,ZJ e5,ZV,Za (show fa 1 (pt X1.length) X2=some (pa X1.length 1,X2) from rfl),Za f1,Za (show fa 2 (pt X1.length) X2=some (pa X1.length 2,X2) from rfl),Za f2,Za e6,Za (show fa 4 (pt X1.length) X3=some (pa X1.length 4,X3) from rfl),Za f4,Za e7];rfl
  .unfold ZH;cases Zw k<;>cases (Zf k s.A).isSome<;>simp
  .rw[hz,if_pos rfl] at hky;unfold Zhq;simp only;rw[<- hky,ho];rfl
theorem ZxF (h:HO X p D T B):∃ (e:Int) (p':HP) (D':Z8) (X':Zd),R (n+14) W0 [pt p.h] X=some (iv e,X')/\HO X' p' D' T B/\Zr p.own X p'.own X'/\p'.h=p.h/\p'.t=p.t/\p'.fr=p.fr/\(e≠0->D'=D)/\(0<=e/\e≠6/\p'.c<=p.c)/\UpD D B e D':=by
 have e0:ld1 (pa p.h 0) X=some (p.ov,X):=Zv h.cell rfl;have e1:ld1 (pa p.h 1) X=some (p.nv,X):=Zv h.cell rfl;have e3:ld1 (pa p.h 3) X=some (pt p.b,X):=Zv h.cell rfl;have g1:∀ H:Zd,fa 1 (pa p.h 0) H=some (pa p.h 1,H):=fun H=>rfl;have g3:∀ H:Zd,fa 3 (pa p.h 0) H=some (pa p.h 3,H):=fun H=>rfl;have hd:=h.dir;have f0:∀ r X',K7 (R (n+13)) (pt p.h) X=some (r,X')->R (n+14) W0 [pt p.h] X=some (r,X'):=fun r X' hr=>by rw[R,ZlC rfl];exact hr
 cases D with
 | now s=>
  obtain⟨d,r,h1,h2,h3,_,_⟩:=hd;refine⟨14,p,.now s,X,f0 _ _ ?_,h,.refl _ _,rfl,rfl,rfl,fun _=>rfl,⟨by omega,by omega,Nat.le_refl _⟩,rfl,rfl⟩;unfold K7;rw[Za Zg,Za (g1 X),Za e1,h2,Za (show bop .ptr .neq (pt d) (.pointer none) X=some (.bool true,X) from JI),Zb,if_pos rfl];rfl
 | old m=>
  obtain⟨d,b,h1,h2,h3,h4,_,_⟩:=hd;obtain⟨X1,a1,k1⟩:=Zqk (n:=n+10) h.brd;have a1:R (n+13) YW [pt p.b,.int .u8 2] X=_:=a1;have q0:bop .ptr .neq (.pointer none) (.pointer none) X=some (.bool false,X):=rfl;cases hB:B.all fun r=>decide (2<=r) with
  | false=>
   rw[hB] at a1;refine⟨13,p,.old m,X1,f0 _ _ ?_,h.hle k1,k1.step.more (by simp) (fun j hj=>.inl hj),rfl,rfl,rfl,fun _=>rfl,⟨by omega,by omega,Nat.le_refl _⟩,by show if(B.all fun r=>decide (2<=r))=true then _ else _;rw[if_neg (by rw[hB];simp)];exact⟨rfl,rfl⟩⟩;unfold K7;rw[Za Zg,Za (g1 X),Za e1,h2,Za q0,Zb,if_neg (by simp),Za Zg,Za (g3 X),Za e3,Za a1,Za ZL,Zb,if_pos (show(!false)=true from rfl)];rfl
  | true=>
   rw[hB] at a1;have H1:=h.hle k1;obtain⟨u1,u2,u3⟩:=ZFT h3 h4;obtain⟨X2,d',r,s,c,a2,k2,hS⟩:=ZDu (n:=n) (h3.hle k1) u1 u2 u3;have H2:=H1.hle k2;have hK:r.G=[]:=by
    have:=hS.nd.ks;rw[hS.K] at this;exact List.map_eq_nil_iff.1 this
   have hN:ND X2 d' r s 0:=by
    have hg:=hS.nd.gr;have hg0:Grp X2 r.g r.o2 r.G s.mem 0:=⟨hg.cell,hg.mo,(fun x hx=>by rw[hK] at hx;cases hx),hg.out,hg.nod,hg.ok,hg.few⟩;exact⟨⟨hS.nd.cell,hS.nd.m,hS.nd.ix,hg0,hS.nd.ks,hS.nd.dis⟩,hS.nd.inv⟩
   have hO:=hS.own;have hUp:UpD (.old m) B 0 (.now s):=by
    show if(B.all fun r=>decide (2<=r))=true then _ else _
    rw[if_pos hB];refine⟨rfl,s,rfl,hS.nd.pinv,?_,hS.K⟩;have h2:=hS.ok.all hS.nd.pinv.n;rw[<- h2,List.map_map];rfl
   have hl1:=k1.len;have b1:st1 (pa p.h 1) (pt d') X2=some (undef,X2.set p.h (.cells [p.ov,pt d',pt p.t,pt p.b] 1 false false)):=Zew (o:=1) H2.cell (by simp) rfl;have c3:(X2.set p.h (.cells [p.ov,pt d',pt p.t,pt p.b] 1 false false))[p.h]?=some (.cells [p.ov,pt d',pt p.t,pt p.b] 1 false false):=ZW H2.cell;have s3:Zr [p.h] X2 [p.h] (X2.set p.h (.cells [p.ov,pt d',pt p.t,pt p.b] 1 false false)):=⟨by simp,fun j hj hn=>List.getElem?_set_ne (fun e=>hn (by simp[e])),fun j hj=>.inl hj⟩;generalize X2.set p.h (.cells [p.ov,pt d',pt p.t,pt p.b] 1 false false)=X3 at b1 c3 s3;have b2:st1 (pa p.h 0) (.pointer none) X3=some (undef,X3.set p.h (.cells [.pointer none,pt d',pt p.t,pt p.b] 1 false false)):=Zew (o:=0) c3 (by simp) rfl;have c4:(X3.set p.h (.cells [.pointer none,pt d',pt p.t,pt p.b] 1 false false))[p.h]?=some (.cells [.pointer none,pt d',pt p.t,pt p.b] 1 false false):=ZW c3;have s4:Zr [p.h] X3 [p.h] (X3.set p.h (.cells [.pointer none,pt d',pt p.t,pt p.b] 1 false false)):=⟨by simp,fun j hj hn=>List.getElem?_set_ne (fun e=>hn (by simp[e])),fun j hj=>.inl hj⟩;generalize X3.set p.h (.cells [.pointer none,pt d',pt p.t,pt p.b] 1 false false)=X4 at b2 c4 s4;have st:=s3.trans s4;have dx2:DX X2 (.now s) (.pointer none) (pt d') r.own [d',r.x,r.g] 0:=⟨d',r,rfl,rfl,hN,rfl,rfl⟩;have hap:∀ j∈[d',r.x,r.g],j≠p.h/\j≠p.t/\j∉p.q:=fun j hj=>by
    obtain⟨i,cs,es,g,ro,hc⟩:=dx2.first j hj;exact H2.apart hc
   have hM:∀ j∈r.own,j≠p.h/\j≠p.b/\j∉p.q/\j∉p.fr:=fun j hj=>by
    have h0:=hO j hj;have hh:=Z6 H1.cell;refine⟨fun e=>?_,fun e=>?_,fun e=>?_,fun e=>?_⟩
    .omega
    .have:=H1.brd.lt p.b (.inl rfl);omega
    .have:=H1.brd.lt j (.inr e);omega
    .have:=H1.tab.lt j e;omega
   refine⟨0,{ p with M:=r.own,C:=[d',r.x,r.g],c:=0,ov:=.pointer none,nv:=pt d' },.now s,X4,f0 _ _ ?_,⟨c4,dx2.step st (fun j hj=>by simp[(hM j hj).1]) (fun j hj=>by simp[(hap j hj).1]),H2.tab.keep (fun j hj=>st.keep j (H2.tab.lt j hj) (by simp;exact fun e=>h.hfr (e ▸ hj))) st.len,H2.brd.keep (fun j hj=>st.keep j (H2.brd.lt j hj) (by
    simp
    rcases hj with rfl|hj
    .exact h.bh
    .exact fun e=>h.hq (e ▸ hj))),h.hfr,h.hq,fun hh=>(hap _ hh).1 rfl,h.bh,h.bt,h.tq,fun hh=>(hap _ hh).2.1 rfl,h.fq,fun j hj=>(hap j hj).2.2,hM⟩,?_,rfl,rfl,rfl,fun e=>absurd rfl e,⟨by omega,by omega,Nat.zero_le _⟩,hUp⟩
   .unfold K7;rw[Za Zg,Za (g1 X),Za e1,h2,Za q0,Zb,if_neg (by simp),Za Zg,Za (g3 X),Za e3,Za a1,Za ZL,Zb,if_neg (by simp),Za Zg,Za Zj,Za (show ld1 (pa p.h 0) X1=some (p.ov,X1) from Zv H1.cell rfl),h1,Za a2,Za Zg,Za (g1 X2),Za b1,Za Zg,Za Zj,Za b2];rfl
   .have k12:=k1.trans k2;refine⟨Nat.le_trans k12.len st.len,fun j hj hn=>?_,fun j hj=>?_⟩
    .rw[st.keep j (Nat.lt_of_lt_of_le hj k12.len) (by simp;exact fun e=>hn (by simp[HP.own,e]))];rw[List.getElem?_eq_getElem hj];exact k12 _ _ (List.getElem?_eq_getElem hj)
    .simp only[HP.own] at hj ⊢;rcases List.mem_append.1 hj with hj|hj
     .exact .inr (Nat.le_trans hl1 (hO j hj))
     .exact .inl (List.mem_append_right _ hj)
theorem ZyW (h:HO X p D T B) (ha:o.a.length<=65535) (hb:o.b.length<=65535) (hok:ZgF o):∃ (v:Value) (l:List Tx) (q:List Nat) (e:Int) (p':HP) (D':Z8) (X':Zd),
  R (n+15) Wl [pt p.h,.agg o.cells.toArray] X=some (.tuple #[v,iv e,.bool (o.kd<=4 || o.kd==15 || o.kd==16)],X')/\Zu X' v (l.map strv) q/\(∀ j∈q,X.length<=j)/\l.length<=1000/\Yu X X' p p' D D' T B e/\e≠6/\(5<=o.kd/\o.kd<=14->D'=D/\p'=p)/\((decide (o.kd<=4) || o.kd==15 || o.kd==16)=true->Zh4 D B o e l D'):=by
 have a1:=Zjp o X;have k1:HLe X (X++[Ze.cells o.cells 1 false false]):=.app _ _;have c1:(X++[Ze.cells o.cells 1 false false])[X.length]?=some (.cells o.cells 1 false false):=Zo;generalize X++[Ze.cells o.cells 1 false false]=X1 at a1 k1 c1;have H1:=h.hle k1;have l1:=k1.len;have b0:ld1 (pa X.length 0) X1=some (.int .u8 o.kd,X1):=Zek c1 rfl;have b1:ld1 (pa X.length 1) X1=some (strv o.a,X1):=Zek c1 rfl;have b2:ld1 (pa X.length 2) X1=some (strv o.b,X1):=Zek c1 rfl;have g1:fa 1 (pt X.length) X1=some (pa X.length 1,X1):=rfl;have g2:fa 2 (pt X.length) X1=some (pa X.length 2,X1):=rfl;have hI:R (n+14) Ki [pt p.h] X1=some (ZsG D p.ov p.nv,X1):=ZDJ H1;have qq:∀ j:Int,bop .int .eql (.int .u8 o.kd) (.int .u8 j) X1=some (.bool (decide ((o.kd:Int)=j)),X1):=fun j=>by rw[ZE];rfl
 have sm:∀ (v:Value) (K:M Out),same v v K X1=K X1:=fun v K=>by unfold same;simp
 have f0:∀ r X',Jx (R (n+14)) (pt p.h) (.agg o.cells.toArray) X=some (r,X')->R (n+15) Wl [pt p.h,.agg o.cells.toArray] X=some (r,X'):=fun r X' hr=>by rw[R,Zl9 rfl];exact hr
 have nil:∀ {Z:Zd},Zu Z (.slice none 0 0) (([]:List Tx).map strv) []:=Zu.nil;by_cases h0:o.kd=0
 .rw[show(decide (o.kd<=4) || o.kd==15 || o.kd==16)=true from by rw[h0];rfl];rw[h0] at qq;obtain⟨X2,e2,d2,s2⟩:=ZA4 (n:=n+4) (k:=o.a) (s:=o.b) H1.dir (by omega) (by omega);refine⟨.slice none 0 0,[],[],crE o.a o.b D,_,crD o.a o.b D,X2,f0 _ _ ?_,nil,by simp,by simp,(Yu.act H1 s2 d2 ZFI ZCV.1 (by omega)).pre k1,ZCV.2,by omega,fun _=>by unfold Zh4;rw[h0];exact⟨rfl,rfl,rfl⟩⟩;unfold Jx;rw[Za a1,Za Zj,Za b0,h0,Za (qq 0)];refine(ZJ (vs:=[.slice none 0 0,iv (crE o.a o.b D)]) (H':=X2) ?_).trans rfl;rw[Zb,if_pos (by decide),Za g1,Za b1,Za g2,Za b2,Za hI,Za b2,sm,Za b1,sm,Za e2];rfl
 by_cases h1:o.kd=1
 .rw[show(decide (o.kd<=4) || o.kd==15 || o.kd==16)=true from by rw[h1];rfl];rw[h1] at qq;obtain⟨X2,e2,d2,s2⟩:=ZBk (n:=n+4) (k:=o.a) H1.dir (by omega);refine⟨.slice none 0 0,[],[],deE o.a D,_,deD o.a D,X2,f0 _ _ ?_,nil,by simp,by simp,(Yu.act H1 s2 d2 ZFV ZCW.1 (by omega)).pre k1,ZCW.2,by omega,fun _=>by unfold Zh4;rw[h1];exact⟨rfl,rfl,rfl⟩⟩;unfold Jx;rw[Za a1,Za Zj,Za b0,h1,Za (qq 0)];refine(ZJ (vs:=[.slice none 0 0,iv (deE o.a D)]) (H':=X2) ?_).trans rfl;rw[Zb,if_neg (by decide),Za (qq 1)];refine lvY (by decide) ?_;rw[Za g1,Za b1,Za hI,Za b1,sm,Za e2];rfl
 by_cases h2:o.kd=2
 .rw[show(decide (o.kd<=4) || o.kd==15 || o.kd==16)=true from by rw[h2];rfl];rw[h2] at qq;obtain⟨X2,e2,d2,s2⟩:=ZzH (n:=n+4) (k:=o.a) (s:=o.b) H1.dir (by omega) (by omega);refine⟨.slice none 0 0,[],[],seE o.a o.b D,_,seD o.a o.b D,X2,f0 _ _ ?_,nil,by simp,by simp,(Yu.act H1 s2 d2 ZFG ZCQ.1 (by omega)).pre k1,ZCQ.2,by omega,fun _=>by unfold Zh4;rw[h2];exact⟨rfl,rfl,rfl⟩⟩;unfold Jx;rw[Za a1,Za Zj,Za b0,h2,Za (qq 0)];refine(ZJ (vs:=[.slice none 0 0,iv (seE o.a o.b D)]) (H':=X2) ?_).trans rfl;rw[Zb,if_neg (by decide),Za (qq 1)];refine lvN (by decide) ?_;rw[Za (qq 2)];refine lvY (by decide) ?_;rw[Za g1,Za b1,Za g2,Za b2,Za hI,Za b2,sm,Za b1,sm,Za e2];rfl
 by_cases h3:o.kd=3
 .rw[show(decide (o.kd<=4) || o.kd==15 || o.kd==16)=true from by rw[h3];rfl];rw[h3] at qq;obtain⟨v,l,q,e,X2,e2,r2,k2,n2,o2,⟨ne,nn⟩,le,ll⟩:=Zy2 (n:=n+6) (k:=o.a) H1 (by omega);have e2:R (n+14) ZaK [pt p.h,strv o.a] X1=_:=e2;refine⟨v,l,q,e,p,D,X2,f0 _ _ ?_,r2,fun j hj=>Nat.le_trans l1 (o2 j hj),by omega,(Yu.of H1 k2 nn).pre k1,ne,by omega,fun _=>by unfold Zh4;rw[h3];exact⟨le,ll,rfl⟩⟩;unfold Jx;rw[Za a1,Za Zj,Za b0,h3,Za (qq 0)];refine(ZJ (vs:=[v,iv e]) (H':=X2) ?_).trans rfl;rw[Zb,if_neg (by decide),Za (qq 1)];refine lvN (by decide) ?_;rw[Za (qq 2)];refine lvN (by decide) ?_;rw[Za (qq 3)];refine lvY (by decide) ?_;rw[Za g1,Za b1,Za e2,Za Zp,Za Zq];rfl
 by_cases h4:o.kd=4
 .rw[show(decide (o.kd<=4) || o.kd==15 || o.kd==16)=true from by rw[h4];rfl];rw[h4] at qq;obtain⟨v,q,X2,e2,r2,k2,n2,o2⟩:=ZDh (n:=n+4) (pre:=o.a) H1.dir (by omega);refine⟨v,_,q,Ym o.a,p,D,X2,f0 _ _ ?_,r2,fun j hj=>Nat.le_trans l1 (o2 j hj),n2,(Yu.of H1 k2 Zyv.1).pre k1,Zyv.2,by omega,fun _=>by unfold Zh4;rw[h4];exact⟨rfl,rfl,rfl⟩⟩;unfold Jx;rw[Za a1,Za Zj,Za b0,h4,Za (qq 0)];refine(ZJ (vs:=[v,iv (Ym o.a)]) (H':=X2) ?_).trans rfl;rw[Zb,if_neg (by decide),Za (qq 1)];refine lvN (by decide) ?_;rw[Za (qq 2)];refine lvN (by decide) ?_;rw[Za (qq 3)];refine lvN (by decide) ?_;rw[Za (qq 4)];refine lvY (by decide) ?_;rw[Za g1,Za b1,Za hI,Za b1,sm,Za e2,Za Zp,Za Zq];rfl
 by_cases h5:o.kd=15
 .rw[show(decide (o.kd<=4) || o.kd==15 || o.kd==16)=true from by rw[h5];rfl];rw[h5] at qq;obtain⟨e,p',D',X2,e2,ho,st,i1,i2,i3,no,⟨nn,n6,ic⟩,hU⟩:=ZxF (n:=n) H1;refine⟨.slice none 0 0,[],[],e,p',D',X2,f0 _ _ ?_,nil,by simp,by simp,Yu.pre k1 ⟨ho,st,i1,i2,i3,no,nn,by omega⟩,n6,by omega,fun _=>by unfold Zh4;rw[h5];exact⟨rfl,hU⟩⟩;unfold Jx;rw[Za a1,Za Zj,Za b0,h5,Za (qq 0)];refine(ZJ (vs:=[.slice none 0 0,iv e]) (H':=X2) ?_).trans rfl;rw[Zb,if_neg (by decide),Za (qq 1)];refine lvN (by decide) ?_;rw[Za (qq 2)];refine lvN (by decide) ?_;rw[Za (qq 3)];refine lvN (by decide) ?_;rw[Za (qq 4)];refine lvN (by decide) ?_;rw[Za (qq 15)];refine lvY (by decide) ?_;rw[Za e2];rfl
 by_cases h6:o.kd=16
 .rw[show(decide (o.kd<=4) || o.kd==15 || o.kd==16)=true from by rw[h6];rfl];rw[h6] at qq;refine⟨.slice none 0 0,[],[],1,p,D,X1,f0 _ _ ?_,nil,by simp,by simp,Yu.of h k1 (by omega),by omega,by omega,fun _=>by unfold Zh4;rw[h6];exact⟨rfl,rfl,rfl⟩⟩;unfold Jx;rw[Za a1,Za Zj,Za b0,h6,Za (qq 0)];refine(ZJ (vs:=[.slice none 0 0,iv 1]) (H':=X1) ?_).trans rfl;rw[Zb,if_neg (by decide),Za (qq 1)];refine lvN (by decide) ?_;rw[Za (qq 2)];refine lvN (by decide) ?_;rw[Za (qq 3)];refine lvN (by decide) ?_;rw[Za (qq 4)];refine lvN (by decide) ?_;rw[Za (qq 15)];refine lvN (by decide) ?_;rw[Za (qq 16),Zb,if_pos (by decide)];rfl
 .have hn:∀ j:Nat,o.kd≠j->decide ((o.kd:Int)=(j:Int))=false:=fun j hj=>decide_eq_false (by omega);have hz:(decide (o.kd<=4) || o.kd==15 || o.kd==16)=false:=by simp;omega
  refine⟨.slice none 0 0,[],[],0,p,D,X1,f0 _ _ ?_,nil,by simp,by simp,Yu.of h k1 (by omega),by omega,fun _=>⟨rfl,rfl⟩,fun hy=>by rw[hz] at hy;cases hy⟩;rw[hz];unfold Jx;rw[Za a1,Za Zj,Za b0,Za (qq 0)];refine(KG (v:=.tuple #[.slice none 0 0,iv 0,.bool false]) (H':=X1) ?_).trans rfl;rw[Zb,if_neg (by have:=h0;simp;omega),Za (qq 1)];refine lvR (hn 1 h1) ?_;rw[Za (qq 2)];refine lvR (hn 2 h2) ?_;rw[Za (qq 3)];refine lvR (hn 3 h3) ?_;rw[Za (qq 4)];refine lvR (hn 4 h4) ?_;rw[Za (qq 15)];refine lvR (hn 15 h5) ?_;rw[Za (qq 16),Zb,if_neg (by have:=h6;simp;omega)];rfl
theorem Zzd (h:HO X p (.now s) T B) (hc:p.c<=1000) (h5:5<=o.kd) (h14:o.kd<=14):∃ (v:Value) (l:List Tx) (q:List Nat) (e:Int) (p':HP) (D':Z8) (X':Zd),
  R (n+15) Ws [pt p.h,.agg o.cells.toArray] X=some (.tuple #[v,iv e],X')/\Zu X' v (l.map strv) q/\(∀ j∈q,X.length<=j)/\l.length<=1000/\Yu X X' p p' (.now s) D' T B e/\e≠6/\Ze0 s o e l D':=by
 have a1:=Zjp o X;have k1:HLe X (X++[Ze.cells o.cells 1 false false]):=.app _ _;have c1:(X++[Ze.cells o.cells 1 false false])[X.length]?=some (.cells o.cells 1 false false):=Zo;generalize X++[Ze.cells o.cells 1 false false]=X1 at a1 k1 c1;have H1:=h.hle k1;have l1:=k1.len;have b0:ld1 (pa X.length 0) X1=some (.int .u8 o.kd,X1):=Zek c1 rfl;have b1:ld1 (pa X.length 1) X1=some (strv o.a,X1):=Zek c1 rfl;have b2:ld1 (pa X.length 2) X1=some (strv o.b,X1):=Zek c1 rfl;have g1:fa 1 (pt X.length) X1=some (pa X.length 1,X1):=rfl;have g2:fa 2 (pt X.length) X1=some (pa X.length 2,X1):=rfl;have y1:fa 1 (pa p.h 0) X1=some (pa p.h 1,X1):=rfl;have qq:∀ j:Int,bop .int .eql (.int .u8 o.kd) (.int .u8 j) X1=some (.bool (decide ((o.kd:Int)=j)),X1):=fun j=>by rw[ZE];rfl
 have f0:∀ r X',QW (R (n+14)) (pt p.h) (.agg o.cells.toArray) X=some (r,X')->R (n+15) Ws [pt p.h,.agg o.cells.toArray] X=some (r,X'):=fun r X' hr=>by rw[R,Znk rfl];exact hr
 have nil:∀ {Z:Zd},Zu Z (.slice none 0 0) (([]:List Tx).map strv) []:=Zu.nil;obtain⟨d,r,z1,z2,h3,zM,zC⟩:=H1.dir;have y2:ld1 (pa p.h 1) X1=some (pt d,X1):=by rw[<- z2];exact Zv H1.cell rfl
 by_cases hk:o.kd=5
 .rw[hk] at qq;obtain⟨X2,e2,d2,s2⟩:=Zzh (n:=n+4) (k:=o.a) (m:=o.b) h3;have dx:DX X2 (.now (Kw o.a o.b s)) p.ov p.nv r.own p.C p.c:=⟨d,r,z1,z2,d2,rfl,zC⟩;have e2:R (n+14) K3 [pt d,strv o.a,strv o.b] X1=_:=e2;refine⟨.slice none 0 0,[],[],Ye o.a o.b s,_,.now (Kw o.a o.b s),X2,f0 _ _ ?_,nil,by simp,by simp,(Yu.act H1 (by rw[zM];exact s2) dx (fun hne=>by rw[ZyL hne]) ZqX.1 (by omega)).pre k1,ZqX.2,by unfold Ze0;rw[hk];exact⟨rfl,rfl,rfl⟩⟩;unfold QW;rw[Za a1,Za Zj,Za b0,hk,Za (qq 5)];refine(ZJ (vs:=[.slice none 0 0,iv (Ye o.a o.b s)]) (H':=X2) ?_).trans rfl;rw[Zb,if_pos (by decide),Za Zg,Za y1,Za y2,Za g1,Za b1,Za g2,Za b2,Za e2];rfl
 by_cases hk:o.kd=6
 .rw[hk] at qq;obtain⟨X2,e2,d2,s2⟩:=ZqZ (n:=n+4) (k:=o.a) (b:=true) h3;have dx:DX X2 (.now (Kd o.a true s)) p.ov p.nv r.own p.C p.c:=⟨d,r,z1,z2,d2,rfl,zC⟩;have e2:R (n+14) Yz [pt d,strv o.a,.bool true] X1=_:=e2;refine⟨.slice none 0 0,[],[],Yc o.a true s.A,_,.now (Kd o.a true s),X2,f0 _ _ ?_,nil,by simp,by simp,(Yu.act H1 (by rw[zM];exact s2) dx (fun hne=>by rw[ZrR hne]) Zhs.1 (by omega)).pre k1,Zhs.2,by unfold Ze0;rw[hk];exact⟨rfl,rfl,rfl⟩⟩;unfold QW;rw[Za a1,Za Zj,Za b0,hk,Za (qq 5)];refine(ZJ (vs:=[.slice none 0 0,iv (Yc o.a true s.A)]) (H':=X2) ?_).trans rfl;rw[Zb,if_neg (by decide),Za (qq 6)];refine lvY (by decide) ?_;rw[Za Zg,Za y1,Za y2,Za g1,Za b1,Za e2];rfl
 by_cases hk:o.kd=7
 .rw[hk] at qq;obtain⟨X2,e2,d2,s2⟩:=ZqZ (n:=n+4) (k:=o.a) (b:=false) h3;have dx:DX X2 (.now (Kd o.a false s)) p.ov p.nv r.own p.C p.c:=⟨d,r,z1,z2,d2,rfl,zC⟩;have e2:R (n+14) Yz [pt d,strv o.a,.bool false] X1=_:=e2;refine⟨.slice none 0 0,[],[],Yc o.a false s.A,_,.now (Kd o.a false s),X2,f0 _ _ ?_,nil,by simp,by simp,(Yu.act H1 (by rw[zM];exact s2) dx (fun hne=>by rw[ZrR hne]) Zhs.1 (by omega)).pre k1,Zhs.2,by unfold Ze0;rw[hk];exact⟨rfl,rfl,rfl⟩⟩;unfold QW;rw[Za a1,Za Zj,Za b0,hk,Za (qq 5)];refine(ZJ (vs:=[.slice none 0 0,iv (Yc o.a false s.A)]) (H':=X2) ?_).trans rfl;rw[Zb,if_neg (by decide),Za (qq 6)];refine lvN (by decide) ?_;rw[Za (qq 7)];refine lvY (by decide) ?_;rw[Za Zg,Za y1,Za y2,Za g1,Za b1,Za e2];rfl
 by_cases hk:o.kd=8
 .rw[hk] at qq;obtain⟨X2,e2,d2,s2⟩:=Zz0 (n:=n+4) (o:=o.a) (t:=o.b) h3;have dx:DX X2 (.now (ZbS o.a o.b s)) p.ov p.nv r.own p.C p.c:=⟨d,r,z1,z2,d2,rfl,zC⟩;have e2:R (n+14) Wp [pt d,strv o.a,strv o.b] X1=_:=e2;refine⟨.slice none 0 0,[],[],Y4 o.a o.b s.A,_,.now (ZbS o.a o.b s),X2,f0 _ _ ?_,nil,by simp,by simp,(Yu.act H1 (by rw[zM];exact s2) dx (fun hne=>by rw[ZAV hne]) ZtU.1 (by omega)).pre k1,ZtU.2,by unfold Ze0;rw[hk];exact⟨rfl,rfl,rfl⟩⟩;unfold QW;rw[Za a1,Za Zj,Za b0,hk,Za (qq 5)];refine(ZJ (vs:=[.slice none 0 0,iv (Y4 o.a o.b s.A)]) (H':=X2) ?_).trans rfl;rw[Zb,if_neg (by decide),Za (qq 6)];refine lvN (by decide) ?_;rw[Za (qq 7)];refine lvN (by decide) ?_;rw[Za (qq 8)];refine lvY (by decide) ?_;rw[Za Zg,Za y1,Za y2,Za g1,Za b1,Za g2,Za b2,Za e2];rfl
 by_cases hk:o.kd=9
 .rw[hk] at qq;obtain⟨X2,r2,e2,d2,s2⟩:=ZDs (n:=n+4) (g:=o.a) h3;obtain⟨x1,x2⟩:=h3.still d2 s2;have dx:DX X2 (.now (ZkL o.a s)) p.ov p.nv r2.own p.C p.c:=⟨d,r2,z1,z2,d2,rfl,by rw[zC,x1,x2]⟩;have e2:R (n+14) We [pt d,strv o.a] X1=_:=e2;refine⟨.slice none 0 0,[],[],Yg o.a s.K,_,.now (ZkL o.a s),X2,f0 _ _ ?_,nil,by simp,by simp,(Yu.act H1 (by rw[zM];exact s2) dx (fun hne=>by rw[ZDr hne]) Zye.1 (by omega)).pre k1,Zye.2,by unfold Ze0;rw[hk];exact⟨rfl,rfl,rfl⟩⟩;unfold QW;rw[Za a1,Za Zj,Za b0,hk,Za (qq 5)];refine(ZJ (vs:=[.slice none 0 0,iv (Yg o.a s.K)]) (H':=X2) ?_).trans rfl;rw[Zb,if_neg (by decide),Za (qq 6)];refine lvN (by decide) ?_;rw[Za (qq 7)];refine lvN (by decide) ?_;rw[Za (qq 8)];refine lvN (by decide) ?_;rw[Za (qq 9)];refine lvY (by decide) ?_;rw[Za Zg,Za y1,Za y2,Za g1,Za b1,Za e2];rfl
 by_cases hk:o.kd=10
 .rw[hk] at qq;obtain⟨X2,r2,e2,d2,s2⟩:=ZEb (n:=n+4) (g:=o.a) h3;obtain⟨x1,x2⟩:=h3.still d2 s2;have dx:DX X2 (.now (Zkd o.a s)) p.ov p.nv r2.own p.C p.c:=⟨d,r2,z1,z2,d2,rfl,by rw[zC,x1,x2]⟩;have e2:R (n+14) Wi [pt d,strv o.a] X1=_:=e2;refine⟨.slice none 0 0,[],[],Jn o.a s.K,_,.now (Zkd o.a s),X2,f0 _ _ ?_,nil,by simp,by simp,(Yu.act H1 (by rw[zM];exact s2) dx (fun hne=>by rw[ZDX hne]) ZnD.1 (by omega)).pre k1,ZnD.2,by unfold Ze0;rw[hk];exact⟨rfl,rfl,rfl⟩⟩;unfold QW;rw[Za a1,Za Zj,Za b0,hk,Za (qq 5)];refine(ZJ (vs:=[.slice none 0 0,iv (Jn o.a s.K)]) (H':=X2) ?_).trans rfl;rw[Zb,if_neg (by decide),Za (qq 6)];refine lvN (by decide) ?_;rw[Za (qq 7)];refine lvN (by decide) ?_;rw[Za (qq 8)];refine lvN (by decide) ?_;rw[Za (qq 9)];refine lvN (by decide) ?_;rw[Za (qq 10)];refine lvY (by decide) ?_;rw[Za Zg,Za y1,Za y2,Za g1,Za b1,Za e2];rfl
 by_cases hk:o.kd=11
 .rw[hk] at qq;obtain⟨X2,e2,d2,s2⟩:=ZEh (n:=n+3) (g:=o.a) (k:=o.b) h3;have dx:DX X2 (.now (ZeE o.a o.b s)) p.ov p.nv r.own p.C (p.c+1):=⟨d,r,z1,z2,d2,rfl,zC⟩;have e2:R (n+14) Zan [pt d,strv o.a,strv o.b] X1=_:=e2;refine⟨.slice none 0 0,[],[],Zbk o.a o.b s,_,.now (ZeE o.a o.b s),X2,f0 _ _ ?_,nil,by simp,by simp,(Yu.act H1 (by rw[zM];exact s2) dx (fun hne=>by rw[ZDp hne]) Zyo.1 (by omega)).pre k1,Zyo.2,by unfold Ze0;rw[hk];exact⟨rfl,rfl,rfl⟩⟩;unfold QW;rw[Za a1,Za Zj,Za b0,hk,Za (qq 5)];refine(ZJ (vs:=[.slice none 0 0,iv (Zbk o.a o.b s)]) (H':=X2) ?_).trans rfl;rw[Zb,if_neg (by decide),Za (qq 6)];refine lvN (by decide) ?_;rw[Za (qq 7)];refine lvN (by decide) ?_;rw[Za (qq 8)];refine lvN (by decide) ?_;rw[Za (qq 9)];refine lvN (by decide) ?_;rw[Za (qq 10)];refine lvN (by decide) ?_;rw[Za (qq 11)];refine lvY (by decide) ?_;rw[Za Zg,Za y1,Za y2,Za g1,Za b1,Za g2,Za b2,Za e2];rfl
 by_cases hk:o.kd=12
 .rw[hk] at qq;obtain⟨X2,e2,d2,s2⟩:=ZCp (n:=n+3) (g:=o.a) (k:=o.b) h3;have dx:DX X2 (.now (ZcT o.a o.b s)) p.ov p.nv r.own p.C (p.c+1):=⟨d,r,z1,z2,d2,rfl,zC⟩;have e2:R (n+14) WH [pt d,strv o.a,strv o.b] X1=_:=e2;refine⟨.slice none 0 0,[],[],Zak o.a o.b s,_,.now (ZcT o.a o.b s),X2,f0 _ _ ?_,nil,by simp,by simp,(Yu.act H1 (by rw[zM];exact s2) dx (fun hne=>by rw[ZB4 hne]) ZvY.1 (by omega)).pre k1,ZvY.2,by unfold Ze0;rw[hk];exact⟨rfl,rfl,rfl⟩⟩;unfold QW;rw[Za a1,Za Zj,Za b0,hk,Za (qq 5)];refine(ZJ (vs:=[.slice none 0 0,iv (Zak o.a o.b s)]) (H':=X2) ?_).trans rfl;rw[Zb,if_neg (by decide),Za (qq 6)];refine lvN (by decide) ?_;rw[Za (qq 7)];refine lvN (by decide) ?_;rw[Za (qq 8)];refine lvN (by decide) ?_;rw[Za (qq 9)];refine lvN (by decide) ?_;rw[Za (qq 10)];refine lvN (by decide) ?_;rw[Za (qq 11)];refine lvN (by decide) ?_;rw[Za (qq 12)];refine lvY (by decide) ?_;rw[Za Zg,Za y1,Za y2,Za g1,Za b1,Za g2,Za b2,Za e2];rfl
 by_cases hk:o.kd=13
 .rw[hk] at qq;obtain⟨X2,e2,k2⟩:=ZxH (n:=n+4) (m:=o.a) h3;have e2:R (n+14) ZbN [pt d,strv o.a] X1=_:=e2;have e3:bsl 1 1 (.string ⟨#[]⟩) [(0,1,strv (Zhf o.a s.OW))] X2=some (.slice (some ⟨X2.length,0,none⟩) 1 1,X2++[.cells [strv (Zhf o.a s.OW)] 1 false false]):=Zqb rfl rfl rfl;refine⟨.slice (some ⟨X2.length,0,none⟩) 1 1,[Zhf o.a s.OW],[X2.length],Zb9 o.a s.OW,p,.now s,X2++[.cells [strv (Zhf o.a s.OW)] 1 false false],f0 _ _ ?_,.inr ⟨X2.length,[],false,rfl,rfl,Zo⟩,by have:=k2.len;simp;omega,by simp,(Yu.of H1 (k2.trans (.app _ _)) Zve.1).pre k1,Zve.2,by unfold Ze0;rw[hk];exact⟨rfl,rfl,rfl⟩⟩;unfold QW;rw[Za a1,Za Zj,Za b0,hk,Za (qq 5)];refine(ZJ (vs:=[.slice (some ⟨X2.length,0,none⟩) 1 1,iv (Zb9 o.a s.OW)]) (H':=(X2++[.cells [strv (Zhf o.a s.OW)] 1 false false])) ?_).trans rfl;rw[Zb,if_neg (by decide),Za (qq 6)];refine lvN (by decide) ?_;rw[Za (qq 7)];refine lvN (by decide) ?_;rw[Za (qq 8)];refine lvN (by decide) ?_;rw[Za (qq 9)];refine lvN (by decide) ?_;rw[Za (qq 10)];refine lvN (by decide) ?_;rw[Za (qq 11)];refine lvN (by decide) ?_;rw[Za (qq 12)];refine lvN (by decide) ?_;rw[Za (qq 13)];refine lvY (by decide) ?_;rw[Za Zg,Za y1,Za y2,Za g1,Za b1,Za e2,Za Zp,Za Zq,Za e3];rfl
 .have hk:o.kd=14:=by omega
  rw[hk] at qq;obtain⟨v,q,l,X2,e2,r2,i2,n2,k2,o2⟩:=Zw4 (n:=n+5) (g:=o.a) h3 (by omega);have e2:R (n+14) WO [pt d,strv o.a] X1=_:=e2;refine⟨v,l,q,Jn o.a s.K,p,.now s,X2,f0 _ _ ?_,r2,fun j hj=>Nat.le_trans l1 (o2 j hj),by omega,(Yu.of H1 k2 ZnD.1).pre k1,ZnD.2,by unfold Ze0;rw[hk];exact⟨rfl,i2,rfl⟩⟩;unfold QW;rw[Za a1,Za Zj,Za b0,hk,Za (qq 5)];refine(ZJ (vs:=[v,iv (Jn o.a s.K)]) (H':=X2) ?_).trans rfl;rw[Zb,if_neg (by decide),Za (qq 6)];refine lvN (by decide) ?_;rw[Za (qq 7)];refine lvN (by decide) ?_;rw[Za (qq 8)];refine lvN (by decide) ?_;rw[Za (qq 9)];refine lvN (by decide) ?_;rw[Za (qq 10)];refine lvN (by decide) ?_;rw[Za (qq 11)];refine lvN (by decide) ?_;rw[Za (qq 12)];refine lvN (by decide) ?_;rw[Za (qq 13)];refine lvN (by decide) ?_;rw[Za (qq 14)];refine lvY (by decide) ?_;rw[Za Zg,Za y1,Za y2,Za g1,Za b1,Za e2,Za Zp,Za Zq];rfl
end
section
variable {X X' Y:Zd} {n:Nat} {p p':HP} {D D':Z8} {T:List Ql} {B:List Nat} {k m g t:Tx} {o:OpT} {s:NSt} {b:Bool} {r:YM}
theorem ZEP (hG:GlH X) (h:HO X p D T B) (hc:p.c<=1000) (hok:ZgF o) (ha:o.a.length<=65535) (hb:o.b.length<=65535):∃ (v:Value) (l:List Tx) (q:List Nat) (e:Int) (p':HP) (D':Z8) (X':Zd),
  R (n+17) ZbO [pt p.h,.agg o.cells.toArray] X=some (.agg #[iv e,v],X')/\Zu X' v (l.map strv) q/\(∀ j∈q,X.length<=j)/\l.length<=1000/\Yu X X' p p' D D' T B e/\(e≠0->l=[])/\Znw D B o e l D':=by
 have a1:=Zjp o X;have k1:HLe X (X++[Ze.cells o.cells 1 false false]):=.app _ _;have c1:(X++[Ze.cells o.cells 1 false false])[X.length]?=some (.cells o.cells 1 false false):=Zo;generalize X++[Ze.cells o.cells 1 false false]=X1 at a1 k1 c1;have a2:alc 1 (.agg #[.int .i64 0,.slice none 0 0]) X1=some (pt X1.length,X1++[.cells [.int .i64 0,.slice none 0 0] 1 false false]):=rfl;have k2:HLe X1 (X1++[Ze.cells [.int .i64 0,.slice none 0 0] 1 false false]):=.app _ _;have c2:(X1++[Ze.cells [.int .i64 0,.slice none 0 0] 1 false false])[X1.length]?=some (.cells [.int .i64 0,.slice none 0 0] 1 false false):=Zo;have d2:=k2 _ _ c1;generalize X1++[Ze.cells [.int .i64 0,.slice none 0 0] 1 false false]=X2 at a2 k2 c2 d2;have k12:=k1.trans k2;obtain⟨X3,a3,k3⟩:=ZtN (n:=n+11) (o:=o) (hG.le k12) hok ha hb;have a3:R (n+16) ZbV [.agg o.cells.toArray] X2=_:=a3;have k13:=k12.trans k3;have c3:=k3 _ _ c2;have d3:=k3 _ _ d2;have H3:=h.hle k13;have n1:=k1.len;have n3:=(k2.trans k3).len;have hp2:X1.length < X3.length:=Z6 c3;have hp1:X.length < X1.length:=Z6 c1;have own2:X1.length∉p.own:=fun hh=>by have:=h.lt _ hh;omega
 have own1:X.length∉p.own:=fun hh=>by have:=h.lt _ hh;omega
 have fr2:X1.length∉p.fr:=fun hh=>by have:=h.tab.lt _ hh;omega
 have f0:∀ r X',ZaE (R (n+16)) (pt p.h) (.agg o.cells.toArray) X=some (r,X')->R (n+17) ZbO [pt p.h,.agg o.cells.toArray] X=some (r,X'):=fun r X' hr=>by rw[R,Zsc rfl];exact hr
 have nil:∀ {Z:Zd},Zu Z (.slice none 0 0) (([]:List Tx).map strv) []:=Zu.nil;have q3:bop .int .neq (iv (checkO o)) (.int .i64 0) X3=some (.bool (decide (checkO o≠0)),X3):=by
  rw[Zn];have hq:((checkO o:Int) !=0)=decide (checkO o≠0):=by
   by_cases hz:checkO o=0
   .rw[hz];rfl
   .have h1:((checkO o:Int)==0)=false:=by rw[beq_eq_false_iff_ne];omega
    show(!((checkO o:Int)==0))=_
    rw[h1,decide_eq_true hz];rfl
  rw[hq]
 have l2:ldA 5 (pt X.length) X2=some (.agg o.cells.toArray,X2):=Qd (n:=5) d2 rfl;have l3:ldA 5 (pt X.length) X3=some (.agg o.cells.toArray,X3):=Qd (n:=5) d3 rfl;have fin:∀ {Z:Zd} {p':HP} {D':Z8} {e:Int} {w:Value} {i:Int} {v:Value},Yu X3 Z p p' D D' T B e->Z[X1.length]?=some (.cells [.int .i64 i,v] 1 false false)->Yu X (Z.set X1.length (.cells [iv e,w] 1 false false)) p p' D D' T B e:=fun {Z p' D' e w i v} hA hz=>by
  have ho:X1.length∉p'.own:=fun hh=>by
   rcases hA.st.own _ hh with h1|h1
   .exact own2 h1
   .omega
  have hf:X1.length∉p'.fr:=by rw[hA.fr];exact fr2
  have hB:=Yu.pre k13 hA;exact⟨hA.ho.box hz ho hf,⟨by simpa using hB.st.len,fun j hj hn=>by rw[List.getElem?_set_ne (by omega)];exact hB.st.keep j hj hn,hB.st.own⟩,hA.h,hA.t,hA.fr,hA.no,hA.nn,hA.c⟩
 by_cases hk:checkO o=0
 .have q3':decide (checkO o≠0)=false:=by simp[hk]
  obtain⟨v,l,q,e,p',D',X4,a4,r4,o4,n4,A4,e6,sm,hE⟩:=ZyW (n:=n+1) (o:=o) H3 ha hb hok;have a4:R (n+16) Wl [pt p.h,.agg o.cells.toArray] X3=_:=a4;have c4:=A4.st.get c3 own2;have d4:=A4.st.get d3 own1;have hkd:=ZCw hk;have last:∀ {Z:Zd} {p':HP} {D':Z8} {e:Int} {w:Value} {l:List Tx} {q:List Nat},Yu X3 Z p p' D D' T B e->Zu Z w (l.map strv) q->(∀ j∈q,X3.length<=j)->l.length<=1000->Z[X1.length]?=some (.cells [.int .i64 0,.slice none 0 0] 1 false false)->∃ (v:Value) (l':List Tx) (q':List Nat) (Z':Zd),
    bind (bop .int .neq (iv e) (Value.int .i64 0)) (fun v42x28=>cnd v42x28
     (bind (bld (.agg #[.int .i64 0,.slice none 0 0]) [(0,1,iv e)]) fun v44x29=>bind (stA 2 (pt X1.length) v44x29) fun _=>bind (ldA 2 (pt X1.length)) fun vrx30=>ret vrx30)
     (bind (bld (.agg #[.int .i64 0,.slice none 0 0]) [(1,1,w)]) fun v46x31=>bind (stA 2 (pt X1.length) v46x31) fun _=>bind (ldA 2 (pt X1.length)) fun vrx32=>ret vrx32)) Z=some (.agg #[iv e,v],Z')/\Zu Z' v (l'.map strv) q'/\(∀ j∈q',X.length<=j)/\l'.length<=1000/\Yu X Z' p p' D D' T B e/\l'=(if e=0 then l else[]):=fun {Z p' D' e w l q} hA hr hq hl hz=>by
   by_cases he:e=0
   .subst he;obtain⟨sa,sn,sc,rfl⟩:=hr.isS;refine⟨.slice sa sn sc,l,q,Z.set X1.length (.cells [iv 0,.slice sa sn sc] 1 false false),?_,hr.keep (fun j hj=>List.getElem?_set_ne (fun e=>by have:=hq j hj;omega)),fun j hj=>by have:=hq j hj;omega,hl,fin hA hz,(if_pos rfl).symm⟩;rw[Za Zn,Zb,if_neg (by simp),Za (show bld (.agg #[.int .i64 0,.slice none 0 0]) [(1,1,.slice sa sn sc)] Z=some (.agg #[iv 0,.slice sa sn sc],Z) from rfl),Za (ZhN hz rfl),Za (Zii hz)];rfl
   .refine⟨.slice none 0 0,[],[],Z.set X1.length (.cells [iv e,.slice none 0 0] 1 false false),?_,nil,by simp,by simp,fin hA hz,(if_neg he).symm⟩;rw[Za Zn,Zb,if_pos (by simpa using he),Za (show bld (.agg #[.int .i64 0,.slice none 0 0]) [(0,1,iv e)] Z=some (.agg #[iv e,.slice none 0 0],Z) from rfl),Za (ZhN hz rfl),Za (Zii hz)];rfl
  have e1:∀ Z:Zd,fa 1 (pa p.h 0) Z=some (pa p.h 1,Z):=fun Z=>rfl;cases hi:(decide (o.kd<=4) || o.kd==15 || o.kd==16) with
  | true=>
   rw[hi] at a4;have hE:=hE hi;obtain⟨w,l',q',Z',b1,b2,b3,b4,b5,b6⟩:=last A4 r4 o4 n4 c4;refine⟨w,l',q',e,p',D',Z',f0 _ _ ?_,b2,b3,b4,b5,fun he=>by rw[b6,if_neg he],.inr ⟨hk,l,b6,.inl hE⟩⟩;unfold ZaE;rw[Za a1,Za a2,Za l2,Za a3,Za q3,q3',Zb,if_neg (by simp),Za l3,Za a4,Za QD,Za QY,Za QA,Za ZL,Za (show gate (.bool (!true)) true 5 _ X4=some ([ZZ,ZZ,ZZ,ZZ,ZZ],X4) from rfl),Jf,Za Zl];refine(ZJ (vs:=[pt X1.length,v,iv e]) (H':=X4) ?_).trans b1;rw[show cond (!true) ZZ (Value.bool false)=.bool false from rfl,Zb,if_neg (by simp),Za ZL];rfl
  | false=>
   rw[hi] at a4;have hmid:5<=o.kd/\o.kd<=14:=by simp at hi;omega
   obtain⟨rfl,rfl⟩:=sm hmid;have y1:ld1 (pa p'.h 1) X4=some (p'.nv,X4):=Zv A4.ho.cell rfl;have yv:=A4.ho.dir.nv X4;cases D' with
   | old m=>
    have A6:Yu X3 X4 p' p' (.old m) (.old m) T B 6:=⟨A4.ho,A4.st,rfl,rfl,rfl,fun _=>rfl,by omega,by omega⟩;obtain⟨w,l',q',Z',b1,b2,b3,b4,b5,b6⟩:=last A6 r4 o4 n4 c4;refine⟨w,l',q',6,p',.old m,Z',f0 _ _ ?_,b2,b3,b4,b5,fun he=>by rw[b6,if_neg he],.inr ⟨hk,l,b6,.inr ⟨hmid.1,hmid.2,rfl,rfl⟩⟩⟩;unfold ZaE;rw[Za a1,Za a2,Za l2,Za a3,Za q3,q3',Zb,if_neg (by simp),Za l3,Za a4,Za QD,Za QY,Za QA,Za ZL,show(!false)=true from rfl,Z0,Zk,Za Zg,Zk,Za (e1 X4),Zk,Za y1,Zk,Za yv,Qe,Jf,Za Zl];refine(ZJ (vs:=[pt X1.length,v,iv 6]) (H':=X4) ?_).trans b1;rfl
   | now s=>
    obtain⟨v5,l5,q5,ee,p5,D5,X5,a5,r5,o5,n5,A5,ne5,hS5⟩:=Zzd (n:=n+1) (o:=o) A4.ho (by have:=A4.c;omega) hmid.1 hmid.2;have a5:R (n+16) Ws [pt p'.h,.agg o.cells.toArray] X4=_:=a5;have l4:ldA 5 (pt X.length) X4=some (.agg o.cells.toArray,X4):=Qd (n:=5) d4 rfl;have c5:=A5.st.get c4 own2;have hst:Zr p'.own X3 p5.own X5:=A4.st.trans A5.st;have A6:Yu X3 X5 p' p5 (.now s) D5 T B ee:=⟨A5.ho,hst,A5.h,A5.t,A5.fr,A5.no,A5.nn,A5.c⟩;obtain⟨w,l',q',Z',b1,b2,b3,b4,b5,b6⟩:=last A6 r5 (fun j hj=>Nat.le_trans A4.st.len (o5 j hj)) n5 c5;refine⟨w,l',q',ee,p5,D5,Z',f0 _ _ ?_,b2,b3,b4,b5,fun he=>by rw[b6,if_neg he],.inr ⟨hk,l5,b6,.inr ⟨hmid.1,hmid.2,hS5⟩⟩⟩;unfold ZaE;rw[Za a1,Za a2,Za l2,Za a3,Za q3,q3',Zb,if_neg (by simp),Za l3,Za a4,Za QD,Za QY,Za QA,Za ZL,show(!false)=true from rfl,Z0,Zk,Za Zg,Zk,Za (e1 X4),Zk,Za y1,Zk,Za yv,Qe,Jf,Za Zl];refine(ZJ (vs:=[pt X1.length,v5,iv ee]) (H':=X5) ?_).trans b1;rw[show cond true (Value.bool (decide (verS (.now s)=1))) (Value.bool false)=.bool false from rfl,Zb,if_neg (by simp),Za ZL];refine(ZJ (vs:=[pt X1.length,v5,iv ee]) (H':=X5) ?_).trans rfl;rw[Zb,if_pos (show(!false)=true from rfl),Za l4,Za a5,Za Zp,Za Zq];rfl
 .have q3':decide (checkO o≠0)=true:=by simp[hk]
  refine⟨.slice none 0 0,[],[],checkO o,p,D,X3.set X1.length (.cells [iv (checkO o),.slice none 0 0] 1 false false),f0 _ _ ?_,nil,by simp,by simp,fin (Yu.refl H3 (by omega)) c3,fun _=>rfl,.inl ⟨hk,rfl,rfl,rfl⟩⟩;unfold ZaE;rw[Za a1,Za a2,Za l2,Za a3,Za q3,q3',Zb,if_pos rfl,Za (show bld (.agg #[.int .i64 0,.slice none 0 0]) [(0,1,iv (checkO o))] X3=some (.agg #[iv (checkO o),.slice none 0 0],X3) from rfl),Za (ZhN c3 rfl),Za (Zii c3)];rfl
theorem ZED (ha:o.a.length<=65535) (hb:o.b.length<=65535) (hok:ZgF o):ZBj (n+18) D T B o (Znw D B o):=fun X p hG h hc=>by
 obtain⟨v,l,q,e,p',D',X',e1,h1,h2,h3,h4,h5,h6⟩:=ZEP (n:=n+1) (o:=o) hG h hc hok ha hb;exact⟨v,l,q,e,p',D',X',e1,h1,h2,h3,h4,h5,h6⟩
def ZfV (B:List Nat) (r:YM):Nat × Bool × List Nat:=if r.num≠0\/r.o.kd≠16\/checkO r.o≠0 then(1,false,B) else(Zf3 B r.o.nd r.o.rl,true,Zj8 B r.o.nd r.o.rl)
theorem ZCF (hG:GlH X) (h:HO X p D T B) (hok:ZiT r) (ha:r.o.a.length<=65535) (hb:r.o.b.length<=65535):∃ (e:Nat) (dn:Bool) (B':List Nat) (X':Zd),
  R (n+18) Zam [pt p.h,.agg r.cells.toArray] X=some (.tuple #[.agg #[iv e,.slice none 0 0],.bool dn],X')/\HO X' p D T B'/\Zr p.own X p.own X'/\(e,dn,B')=ZfV B r:=by
 have a1:=ZnJ r X;have k1:HLe X (X++[Ze.cells r.cells 1 false false]):=.app _ _;have c1:(X++[Ze.cells r.cells 1 false false])[X.length]?=some (.cells r.cells 1 false false):=Zo;generalize X++[Ze.cells r.cells 1 false false]=X1 at a1 k1 c1;have a2:alc 1 (.agg #[.int .i64 0,.slice none 0 0]) X1=some (pt X1.length,X1++[.cells [.int .i64 0,.slice none 0 0] 1 false false]):=rfl;have k2:HLe X1 (X1++[Ze.cells [.int .i64 0,.slice none 0 0] 1 false false]):=.app _ _;have c2:(X1++[Ze.cells [.int .i64 0,.slice none 0 0] 1 false false])[X1.length]?=some (.cells [.int .i64 0,.slice none 0 0] 1 false false):=Zo;have d2:=k2 _ _ c1;generalize X1++[Ze.cells [.int .i64 0,.slice none 0 0] 1 false false]=X2 at a2 k2 c2 d2;have k12:=k1.trans k2;have H2:=h.hle k12;have n1:=k1.len;have hp1:X.length < X1.length:=Z6 c1;obtain⟨X3,a3,k3⟩:=ZtN (n:=n+12) (o:=r.o) (hG.le k12) hok.o ha hb;have a3:R (n+17) ZbV [.agg r.o.cells.toArray] X2=_:=a3;have H3:=H2.hle k3;have c3:=k3 _ _ c2;have d3:=k3 _ _ d2;have own2:X1.length∉p.own:=fun hh=>by have:=h.lt _ hh;omega
 have fr2:X1.length∉p.fr:=fun hh=>by have:=h.tab.lt _ hh;omega
 have f0:∀ v X',Wj (R (n+17)) (pt p.h) (.agg r.cells.toArray) X=some (v,X')->R (n+18) Zam [pt p.h,.agg r.cells.toArray] X=some (v,X'):=fun v X' hr=>by rw[R,Zqg rfl];exact hr
 have b1:ld1 (pa X.length 1) X2=some (.int .u64 r.num,X2):=Zv d2 rfl;have b2:ld1 (pa X.length 2) X2=some (.int .u8 r.o.kd,X2):=Zv d2 rfl;have q1:bop .int .neq (.int .u64 r.num) (.int .u64 0) X2=some (.bool (decide (r.num≠0)),X2):=by
  rw[Zn];have hq:((r.num:Int) !=0)=decide (r.num≠0):=by
   by_cases hz:r.num=0
   .rw[hz];rfl
   .have h1:((r.num:Int)==0)=false:=by rw[beq_eq_false_iff_ne];omega
    show(!((r.num:Int)==0))=_
    rw[h1,decide_eq_true hz];rfl
  rw[hq]
 have q2:bop .int .neq (.int .u8 r.o.kd) (.int .u8 16) X2=some (.bool (decide (r.o.kd≠16)),X2):=by
  rw[Zn];have hq:((r.o.kd:Int) !=16)=decide (r.o.kd≠16):=by
   by_cases hz:r.o.kd=16
   .rw[hz];rfl
   .have h1:((r.o.kd:Int)==16)=false:=by rw[beq_eq_false_iff_ne];omega
    show(!((r.o.kd:Int)==16))=_
    rw[h1,decide_eq_true hz];rfl
  rw[hq]
 have q3:bop .int .neq (iv (checkO r.o)) (.int .i64 0) X3=some (.bool (decide (checkO r.o≠0)),X3):=by
  rw[Zn];have hq:((checkO r.o:Int) !=0)=decide (checkO r.o≠0):=by
   by_cases hz:checkO r.o=0
   .rw[hz];rfl
   .have h1:((checkO r.o:Int)==0)=false:=by rw[beq_eq_false_iff_ne];omega
    show(!((checkO r.o:Int)==0))=_
    rw[h1,decide_eq_true hz];rfl
  rw[hq]
 have no:∀ {Z:Zd},HLe X2 Z->(∃ Z',bind (bld (.agg #[.int .i64 0,.slice none 0 0]) [(0,1,(Value.int .i64 1))]) (fun v21x18=>bind (stA 2 (pt X1.length) v21x18) fun _=>bind (ldA 2 (pt X1.length)) fun vrx19=>ret (Value.tuple #[vrx19,(Value.bool false)])) Z=some (.tuple #[.agg #[iv 1,.slice none 0 0],.bool false],Z')/\HO Z' p D T B/\Zr p.own X p.own Z'):=fun {Z} hz=>by
  have cz:=hz _ _ c2;refine⟨Z.set X1.length (.cells [iv 1,.slice none 0 0] 1 false false),?_,(H2.hle hz).box cz own2 fr2,?_⟩
  .rw[Za (show bld (.agg #[.int .i64 0,.slice none 0 0]) [(0,1,(Value.int .i64 1))] Z=some (.agg #[iv 1,.slice none 0 0],Z) from rfl),Za (ZhN cz rfl),Za (Zii cz)];rfl
  .have kz:=k12.trans hz;exact⟨by simpa using kz.len,fun j hj hn=>by rw[List.getElem?_set_ne (by omega),List.getElem?_eq_getElem hj];exact kz _ _ (List.getElem?_eq_getElem hj),fun j hj=>.inl hj⟩
 have g1:fa 1 (pt X.length) X2=some (pa X.length 1,X2):=rfl;have g2:∀ Z:Zd,fa 2 (pt X.length) Z=some (pa X.length 2,Z):=fun Z=>rfl;by_cases c_1:r.num≠0
 .obtain⟨Z',e1,e2,e3⟩:=no (.refl X2);refine⟨1,false,B,Z',f0 _ _ ?_,e2,e3,(if_pos (by omega)).symm⟩;unfold Wj;rw[Za a1,Za a2,Za g1,Za b1,Za q1,decide_eq_true c_1,Za (show gate (.bool true) false 4 _ X2=some ([ZZ,ZZ,ZZ,ZZ],X2) from rfl),ZM,Za Zl];simp only[cond_true];rw[Za (show gate (.bool true) false 4 _ X2=some ([ZZ,ZZ,ZZ,ZZ],X2) from rfl),ZM,Za Zl];simp only[cond_true];rw[Zb,if_pos rfl];exact e1
 by_cases c_2:r.o.kd≠16
 .obtain⟨Z',e1,e2,e3⟩:=no (.refl X2);refine⟨1,false,B,Z',f0 _ _ ?_,e2,e3,(if_pos (by omega)).symm⟩;unfold Wj;rw[Za a1,Za a2,Za g1,Za b1,Za q1,decide_eq_false c_1,Z0,Zk,Za (g2 X2),Zk,Za (show fa 0 (pa X.length 2) X2=some (pa X.length 2,X2) from rfl),Zk,Za b2,Zk,Za q2,Qe,ZM,Za Zl];simp only[cond_false];rw[decide_eq_true c_2,Za (show gate (.bool true) false 4 _ X2=some ([ZZ,ZZ,ZZ,ZZ],X2) from rfl),ZM,Za Zl];simp only[cond_true];rw[Zb,if_pos rfl];exact e1
 by_cases c_3:checkO r.o≠0
 .obtain⟨Z',e1,e2,e3⟩:=no k3;refine⟨1,false,B,Z',f0 _ _ ?_,e2,e3,(if_pos (by omega)).symm⟩;unfold Wj;rw[Za a1,Za a2,Za g1,Za b1,Za q1,decide_eq_false c_1,Z0,Zk,Za (g2 X2),Zk,Za (show fa 0 (pa X.length 2) X2=some (pa X.length 2,X2) from rfl),Zk,Za b2,Zk,Za q2,Qe,ZM,Za Zl];simp only[cond_false];rw[decide_eq_false c_2,Z0,Zk,Za (g2 X2),Zk,Za (ZjG d2),Zk,Za a3,Zk,Za q3,Qe,ZM,Za Zl];simp only[cond_false];rw[decide_eq_true c_3,Zb,if_pos rfl];exact e1
 .have hx3:ld1 (pa p.h 3) X3=some (pt p.b,X3):=Zv H3.cell rfl;have b3:ld1 (pa X.length 5) X3=some (.int .u8 r.o.nd,X3):=Zv d3 rfl;have b4:ld1 (pa X.length 6) X3=some (.int .u8 r.o.rl,X3):=Zv d3 rfl;have hnd:=hok.o.nd;obtain⟨X4,a4,B4,s4,l4⟩:=ZEF (n:=n+16) (a:=r.o.nd) (r:=r.o.rl) H3.brd (by omega);have a4:R (n+17) WS [pt p.b,.int .u8 r.o.nd,.int .u8 r.o.rl] X3=_:=a4;obtain⟨H4,t4⟩:=H3.note s4 B4;have c4:=t4.get c3 own2;refine⟨Zf3 B r.o.nd r.o.rl,true,Zj8 B r.o.nd r.o.rl,X4.set X1.length (.cells [iv (Zf3 B r.o.nd r.o.rl),.slice none 0 0] 1 false false),f0 _ _ ?_,H4.box c4 own2 fr2,?_,(if_neg (by omega)).symm⟩
  .unfold Wj;rw[Za a1,Za a2,Za g1,Za b1,Za q1,decide_eq_false c_1,Z0,Zk,Za (g2 X2),Zk,Za (show fa 0 (pa X.length 2) X2=some (pa X.length 2,X2) from rfl),Zk,Za b2,Zk,Za q2,Qe,ZM,Za Zl];simp only[cond_false];rw[decide_eq_false c_2,Z0,Zk,Za (g2 X2),Zk,Za (ZjG d2),Zk,Za a3,Zk,Za q3,Qe,ZM,Za Zl];simp only[cond_false];rw[decide_eq_false c_3,Zb,if_neg (by simp),Za Zg,Za (show fa 3 (pa p.h 0) X3=some (pa p.h 3,X3) from rfl),Za hx3,Za (g2 X3),Za (show fa 3 (pa X.length 2) X3=some (pa X.length 5,X3) from rfl),Za b3,Za (g2 X3),Za (show fa 4 (pa X.length 2) X3=some (pa X.length 6,X3) from rfl),Za b4,Za a4,Za (show bld (.agg #[.int .i64 0,.slice none 0 0]) [(0,1,iv (Zf3 B r.o.nd r.o.rl))] X4=some (.agg #[iv (Zf3 B r.o.nd r.o.rl),.slice none 0 0],X4) from rfl),Za (ZhN c4 rfl),Za (Zii c4)];rfl
  .have kz:=k12.trans k3;exact⟨by simpa using Nat.le_trans kz.len t4.len,fun j hj hn=>by rw[List.getElem?_set_ne (by omega),t4.keep j (Nat.lt_of_lt_of_le hj kz.len) hn,List.getElem?_eq_getElem hj];exact kz _ _ (List.getElem?_eq_getElem hj),fun j hj=>.inl hj⟩
end
section
variable {X X' Y H0:Zd} {n:Nat} {p p':HP} {D D':Z8} {T:List Ql} {B:List Nat} {o:OpT} {s:NSt} {r:YM}
theorem Zwt {a c:Value} {l:List Tx} (hu:l.length<=1000) (ha:Sl X a (l.map strv)) (hc:Sl X c (l.map strv)):∀ (t j:Nat),l.length - j=t->j<=l.length->
  Zi (c4 (QE.l1 (R n))) [a,c,iv l.length,iv j] X=some (.ext 0 [],X)
 | 0,j,ht,hj=>by
  have:j=l.length:=by omega
  subst this;refine Qq ?_;rw[ZM];unfold QE.l1;rw[Za Zt,Zb,if_neg (by simp)];rfl
 | t+1,j,ht,hj=>by
  have hjl:j < l.length:=by omega
  have hlt:(j:Int) < l.length:=by omega
  have hg:=List.getElem?_eq_getElem hjl;generalize l[j]=x at hg;have x1:=ha.ix (i:=j) (by simpa using hjl) .i64 X;have x2:=ha.ldx (i:=j) (v:=strv x) (by rw[List.getElem?_map,hg];rfl);have x3:=hc.ix (i:=j) (by simpa using hjl) .i64 X;have x4:=hc.ldx (i:=j) (v:=strv x) (by rw[List.getElem?_map,hg];rfl);have q0:bop .str .neq (strv x) (strv x) X=some (.bool false,X):=by rw[ZiB];simp
  refine(ZU ?_).trans (Zwt hu ha hc t (j+1) (by omega) (by omega));rw[ZM];unfold QE.l1;rw[Za Zt,Zb,if_pos (by simpa using hlt),Za x1,Za x2,Za x3,Za x4,Za q0,Zb,if_neg (by simp),Za ZI,JX (by omega)];rfl
theorem ZDz {a c:Value} {l:List Tx} (hu:l.length<=1000) (ha:Sl X a (l.map strv)) (hc:Sl X c (l.map strv)):R (n+1) YH [a,c] X=some (.bool true,X):=by
 have e:=Zwt (n:=n) hu ha hc l.length 0 (by omega) (by omega);have e:Zi (c4 (QE.l1 (R n))) [a,c,iv l.length,.int .i64 0] X=_:=e;have h1:=ha.len (H':=X);have h2:=hc.len (H':=X);rw[List.length_map] at h1 h2;rw[R,Zgz rfl];unfold QE;rw[Za h1,Za h2,Za Zn,Zb,if_neg (by simp),Za h1,Q4 e,ZP];rfl
theorem ZBP {e:Int} {a c:Value} {l:List Tx} (hu:l.length<=1000) (ha:Sl X a (l.map strv)) (hc:Sl X c (l.map strv)) (h1:oneCell a=true) (h2:oneCell c=true):∃ X',R (n+2) Zbr [.agg #[iv e,a],.agg #[iv e,c]] X=some (.bool true,X')/\HLe X X':=by
 have a1:alc 1 (.agg #[iv e,a]) X=some (pt X.length,X++[.cells [iv e,a] 1 false false]):=by
  unfold alc ZsV;rw[if_pos (by simp[Value.cells,oneCell,h1]<;>exact h1)];rfl
 have k1:HLe X (X++[Ze.cells [iv e,a] 1 false false]):=.app _ _;have c1:(X++[Ze.cells [iv e,a] 1 false false])[X.length]?=some (.cells [iv e,a] 1 false false):=Zo;generalize X++[Ze.cells [iv e,a] 1 false false]=X1 at a1 k1 c1;have a2:alc 1 (.agg #[iv e,c]) X1=some (pt X1.length,X1++[.cells [iv e,c] 1 false false]):=by
  unfold alc ZsV;rw[if_pos (by simp[Value.cells,oneCell,h2]<;>exact h2)];rfl
 have k2:HLe X1 (X1++[Ze.cells [iv e,c] 1 false false]):=.app _ _;have c2:(X1++[Ze.cells [iv e,c] 1 false false])[X1.length]?=some (.cells [iv e,c] 1 false false):=Zo;have d1:=k2 _ _ c1;generalize X1++[Ze.cells [iv e,c] 1 false false]=X2 at a2 k2 c2 d1;have k12:=k1.trans k2;have e3:R (n+1) YH [a,c] X2=_:=ZDz (n:=n) hu (ha.mono k12) (hc.mono k12);refine⟨X2,?_,k12⟩;rw[R,Zzl rfl];unfold Zqi;have b1:ld1 (pa X.length 0) X2=some (iv e,X2):=Zv (o:=0) d1 rfl;have b2:ld1 (pa X1.length 0) X2=some (iv e,X2):=Zv (o:=0) c2 rfl;have q1:bop .int .eql (iv e) (iv e) X2=some (.bool true,X2):=by rw[ZE];simp
 have q2:bop .int .neq (iv e) (.int .i64 0) X2=some (.bool (e !=0),X2):=by rw[Zn]
 rw[Za a1,Za a2,Za Zj,Za b1,Za Zj,Za b2,Za q1,Z0,Zk,Za Zj,Zk,Za b1,Zk,Za q2,Qe,ZM];cases he:e !=0 with
 | true=>
  rw[Za (show gate (.bool true) false 5 _ X2=some ([ZZ,ZZ,ZZ,ZZ,ZZ],X2) from rfl),Jf,Z0,Zk,Za Zl,Qe,J1,Za Zl];rfl
 | false=>
  rw[Z0,Zk,Za (show fa 1 (pt X.length) X2=some (pa X.length 1,X2) from rfl),Zk,Za (Zv (o:=1) d1 rfl),Zk,Za (show fa 1 (pt X1.length) X2=some (pa X1.length 1,X2) from rfl),Zk,Za (Zv (o:=1) c2 rfl),Zk,Za e3,Qe,Jf,Z0,Zk,Za Zl,Qe,J1,Za Zl];rfl
theorem ZwT {rows:List Ql} {i:Nat} {r:Ql} (h8:rows.length=8) (hi:i < 8) (hr:rows[i]?=some r):(rows.take i++ZaV.drop i).set i r=rows.take (i+1)++ZaV.drop (i+1):=by
 have hl:(rows.take i).length=i:=by rw[List.length_take];omega
 have ht:ZaV.length=8:=rfl;rw[List.set_append_right _ _ (by omega),hl,Nat.sub_self,List.drop_eq_getElem_cons (l:=ZaV) (i:=i) (by omega),List.set_cons_zero,List.take_add_one,hr,List.append_assoc];rfl
theorem Tab.ixI {c t:Nat} (hc:c < 8):WN 8 3 (pa t 0) (iv c) X=some (pa t (c * 3),X):=by
 rw[QL,if_pos ⟨by omega,by omega⟩];simp
theorem ZvT {rows:List Ql} {lvs:List Value} {fr:List Nat} {t u:Nat} (h:Tab H0 t rows lvs fr) (hu:H0.length<=u):∀ (k i:Nat) (X:Zd) (lvs':List Value) (fr':List Nat),8 - i=k->i<=8->HLe H0 X->Tab X u (rows.take i++ZaV.drop i) lvs' fr'->(∀ j∈fr',H0.length<=j)->
  ∃ X' lvs'' fr'',Zi (c3 (Yr.l1 (R (n+2)))) [pt u,.agg (QR rows lvs).toArray,iv i] X=some (.ext 0 [pt u],X')/\Tab X' u rows lvs'' fr''/\HLe H0 X'/\∀ j∈fr'',H0.length<=j
 | 0,i,X,lvs',fr',ht,hi,hle,h2,hf=>by
  have:i=8:=by omega
  subst this;refine⟨X,lvs',fr',Qq ?_,?_,hle,hf⟩
  .rw[ZV];unfold Yr.l1;rw[Za Zt,Zb,if_neg (by decide)];rfl
  .have:rows.take 8++ZaV.drop 8=rows:=by rw[List.take_of_length_le (by rw[h.n8];omega)];simp[ZaV]
   rwa [this] at h2
 | k+1,i,X,lvs',fr',ht,hi,hle,h2,hf=>by
  have hi8:i < 8:=by omega
  have hlt:(i:Int) < 8:=by omega
  obtain⟨row,lv,hr,hl⟩:=h.row hi8;have hx:=h.txt i row lv hr hl;have q0:ixv true 8 3 (.agg (QR rows lvs).toArray) (iv i) X=some (.agg (Q7 row lv).toArray,X):=by
   unfold ixv;simp only;rw[if_pos ⟨by omega,hlt⟩];unfold prt;simp only[cond_true];have:=ZgJ hr hl;rw[show((i:Int).toNat)=i by omega,List.extract_toArray];rw[List.extract_eq_take_drop];rw[show i * 3+3 - i * 3=3 by omega,this]
  have z1:∀ K:Value->M Out,bind (alc 1 (.agg #[.int .u64 0,.int .i64 0,.slice none 0 0])) (fun q=>bind (stA 3 q (.agg (Q7 row lv).toArray)) fun _=>K q) X=K (pt X.length) (X++[.cells (Q7 row lv) 1 false false]):=fun K=>ZbB (n:=3) (zs:=[.int .u64 0,.int .i64 0,.slice none 0 0]) (r:=Q7 row lv) rfl rfl rfl (by unfold Q7;rw[List.all_cons,List.all_cons,List.all_cons,hx.one];rfl);have k1:HLe X (X++[Ze.cells (Q7 row lv) 1 false false]):=.app _ _;have c1:(X++[Ze.cells (Q7 row lv) 1 false false])[X.length]?=some (.cells (Q7 row lv) 1 false false):=Zo;generalize X++[Ze.cells (Q7 row lv) 1 false false]=X1 at z1 k1 c1;have h3:=hle.trans k1;obtain⟨v,q,X2,e2,r2,k2,o2⟩:=Zp2 (n:=n) (e:=row.e) (hx.sl.mono h3) hx.few hx.one;have n1:=k1.len;have n0:=h3.len;have hle2:=h3.trans k2;have h4:=(h2.hle k1).hle k2;have c2:=k2 _ _ c1;have l1:ld1 (pa X.length 0) X1=some (.int .u64 row.num,X1):=Zv (o:=0) c1 rfl;have l2:ld1 (pa X.length 0) X2=some (.int .u64 row.num,X2):=Zv (o:=0) c2 rfl;have hb:bld (.agg #[.int .u64 0,.int .i64 0,.slice none 0 0]) [(0,1,.int .u64 row.num),(1,2,.agg #[iv row.e,v])] X2=some (.agg #[.int .u64 row.num,iv row.e,v],X2):=by
   rw[JC];rfl
  have hlen:=Zfb h4.n8 h4.l8;have hkeep:KK row.e row.l=row.l:=by
   unfold KK;split
   .rfl
   .rename_i hne;exact(h.err row (List.mem_of_getElem? hr) (fun h0=>hne (by rw[h0];rfl))).symm
  have s3:stA 3 (pa u (i * 3)) (.agg #[.int .u64 row.num,iv row.e,v]) X2=some (undef,X2.set u (.cells (QR ((rows.take i++ZaV.drop i).set i ⟨row.num,row.e,KK row.e row.l⟩) (lvs'.set i v)) 1 false false)):=by
   have:=Zso (vs:=Q7 ⟨row.num,row.e,KK row.e row.l⟩ v) (o:=i * 3) (k:=3) h4.cell (by rw[hlen];omega) rfl (by unfold Q7;rw[List.all_cons,List.all_cons,List.all_cons,r2.one.1];rfl);rw[ZxX h4.n8 h4.l8 hi8] at this;exact this
  have hul:u < X.length:=h2.lt _ h2.t;have uq:u∉q:=fun hh=>by have:=o2 _ hh;omega
  have h5:=h4.put (m:=row.num) (e:=row.e) hi8 r2 hx.few uq (ZW h4.cell) (by simp) (fun j hj=>List.getElem?_set_ne (fun e=>hj e.symm));rw[hkeep,ZwT h.n8 hi8 hr] at h5;have k5:HLe H0 (X2.set u (.cells (QR ((rows.take i++ZaV.drop i).set i ⟨row.num,row.e,KK row.e row.l⟩) (lvs'.set i v)) 1 false false)):=hle2.put hu;rw[hkeep,ZwT h.n8 hi8 hr] at s3 k5;generalize X2.set u (.cells (QR (rows.take (i+1)++ZaV.drop (i+1)) (lvs'.set i v)) 1 false false)=X3 at s3 h5 k5;obtain⟨X4,lvs4,fr4,e4,h6,k6,o6⟩:=ZvT h hu k (i+1) X3 _ _ (by omega) (by omega) k5 h5 (fun j hj=>by
   rcases List.mem_append.1 hj with h1|h1
   .exact hf j h1
   .have:=o2 _ h1;omega)
  refine⟨X4,lvs4,fr4,(ZU ?_).trans e4,h6,k6,o6⟩;rw[ZV];unfold Yr.l1;rw[Za Zt,Zb,if_pos (by simpa using hlt),Za q0,z1,Za Zj,Za l1,Za (show fa 1 (pt X.length) X1=some (pa X.length 1,X1) from rfl),Za (show ldA 2 (pa X.length 1) X1=some (.agg #[iv row.e,lv],X1) from ZnF (o:=1) (k:=2) c1 (by simp[Q7])),Za Zg,Za Zj,Za e2,Za l2,Qx,Za hb,Za (Tab.ixI hi8),Za s3,Za ZI,JX (by omega)];rfl
theorem ZoC {rows:List Ql} {lvs:List Value} {fr:List Nat} {t:Nat} (h:Tab X t rows lvs fr):∃ X' lvs' fr',R (n+3) Wm [pt t] X=some (pt X.length,X')/\Tab X' X.length rows lvs' fr'/\HLe X X'/\∀ j∈fr',X.length<=j:=by
 have e1:R (n+2) Zca [] X=_:=ZrO (n:=n+1);have t1:Tab (X++[.cells (QR ZaV (List.replicate 8 (.slice none 0 0))) 1 false false]) X.length ZaV (List.replicate 8 (.slice none 0 0)) [X.length]:=Zx7 (by simp) (by simp);have k1:HLe X (X++[.cells (QR ZaV (List.replicate 8 (.slice none 0 0))) 1 false false]):=.app _ _;generalize X++[.cells (QR ZaV (List.replicate 8 (.slice none 0 0))) 1 false false]=X1 at e1 t1 k1;obtain⟨X2,lvs2,fr2,e2,h2,k2,o2⟩:=ZvT (n:=n) h (Nat.le_refl _) 8 0 X1 _ _ rfl (by omega) k1 t1 (by simp);have e2:Zi (c3 (Yr.l1 (R (n+2)))) [pt X.length,.agg (QR rows lvs).toArray,.int .i64 0] X1=_:=e2;have hl:ldA 24 (pa t 0) X1=some (.agg (QR rows lvs).toArray,X1):=by
  have hn:=Zfb h.n8 h.l8;rw[ZnF (k1 _ _ h.cell) (by omega),List.drop_zero,List.take_of_length_le (by omega)]
 refine⟨X2,lvs2,fr2,?_,h2,k2,o2⟩;rw[R,Zml rfl];unfold Yr;rw[Za e1,Za Zg,Za Zj,Za hl,Q4 e2,ZP,J1];rfl
theorem ZBv (h:HO X p D T B):∃ X' t lvs' fr',R (n+4) Jr [pt p.h] X=some (pt t,X')/\Tab X' t T lvs' fr'/\HLe X X'/\∀ j∈fr',X.length<=j:=by
 obtain⟨X',lvs',fr',e1,h1,k1,o1⟩:=ZoC (n:=n) h.tab;refine⟨X',X.length,lvs',fr',?_,h1,k1,o1⟩;rw[R,Zop rfl];unfold ZeK;rw[Za Zg,Za (show fa 2 (pa p.h 0) X=some (pa p.h 2,X) from rfl),Za (Zv h.cell rfl),Za e1];rfl
end
section
variable {X X' Y:Zd} {n:Nat} {p p' q q':HP} {D D' D1 D1' E:Z8} {T T' T1 U:List Ql} {B B' B1 V:List Nat} {o:OpT} {s t:NSt} {r:YM} {m m':Qw} {e e1:Int} {l l1:List Tx} {dn dn1:Bool}
def ZkV (D:Z8) (T:List Ql) (B:List Nat) (r:YM) (e:Int) (l:List Tx) (dn:Bool) (D':Z8) (T':List Ql) (B':List Nat):Prop:=
 (r.cl=255/\e=((ZfV B r).1:Nat)/\dn=(ZfV B r).2.1/\B'=(ZfV B r).2.2/\l=[]/\D'=D/\T'=T)\/
 (r.cl≠255/\B'=B/\ZFx (Znw D B r.o) D T r e l dn D' T')
theorem ZBd (hG:GlH X) (h:HO X p D T B) (hok:ZiT r) (hs:r.cl=255) (ha:r.o.a.length<=65535) (hb:r.o.b.length<=65535):∃ (X':Zd),
  R (n+19) ZR [pt p.h,.agg r.cells.toArray] X=some (.tuple #[.agg #[iv ((ZfV B r).1:Nat),.slice none 0 0],.bool (ZfV B r).2.1],X')/\HO X' p D T (ZfV B r).2.2/\Zr p.own X p.own X':=by
 have a1:=ZnJ r X;have k1:HLe X (X++[Ze.cells r.cells 1 false false]):=.app _ _;have c1:(X++[Ze.cells r.cells 1 false false])[X.length]?=some (.cells r.cells 1 false false):=Zo;generalize X++[Ze.cells r.cells 1 false false]=X1 at a1 k1 c1;have a2:alc 1 (.agg #[.int .i64 0,.slice none 0 0]) X1=some (pt X1.length,X1++[.cells [.int .i64 0,.slice none 0 0] 1 false false]):=rfl;have k2:HLe X1 (X1++[Ze.cells [.int .i64 0,.slice none 0 0] 1 false false]):=.app _ _;have c2:(X1++[Ze.cells [.int .i64 0,.slice none 0 0] 1 false false])[X1.length]?=some (.cells [.int .i64 0,.slice none 0 0] 1 false false):=Zo;have d2:=k2 _ _ c1;generalize X1++[Ze.cells [.int .i64 0,.slice none 0 0] 1 false false]=X2 at a2 k2 c2 d2;have k12:=k1.trans k2;have H2:=h.hle k12;have G2:=hG.le k12;have n1:=k1.len;have hp1:X.length < X1.length:=Z6 c1;have own2:X1.length∉p.own:=fun hh=>by have:=h.lt _ hh;omega
 have fr2:X1.length∉p.fr:=fun hh=>by have:=h.tab.lt _ hh;omega
 have b0:ld1 (pa X.length 0) X2=some (.int .u8 r.cl,X2):=Zv d2 rfl;have q0:bop .int .eql (.int .u8 r.cl) (.int .u8 255) X2=some (.bool true,X2):=by
  rw[ZE,hs];rfl
 obtain⟨e,dn,B',X3,e3,H3,s3,hn⟩:=ZCF (n:=n) (r:=r) G2 H2 hok ha hb;have e3:R (n+18) Zam [pt p.h,.agg r.cells.toArray] X2=_:=e3;have c3:=s3.get c2 own2;rw[<- hn];refine⟨X3.set X1.length (.cells [iv e,.slice none 0 0] 1 false false),?_,H3.box c3 own2 fr2,⟨by simpa using Nat.le_trans k12.len s3.len,fun j hj hn=>?_,fun j hj=>.inl hj⟩⟩
 .rw[R,ZgY rfl];unfold Kg;rw[Za a1,Za a2,Za Zj,Za b0,Za q0,Zb,if_pos rfl,Za (show ldA 7 (pt X.length) X2=some (.agg r.cells.toArray,X2) from Qd (n:=7) d2 rfl),Za e3,Za Zp,Za Zq,Za (ZhN c3 rfl),Za (Zii c3)];rfl
 .rw[List.getElem?_set_ne (by omega),s3.keep j (Nat.lt_of_lt_of_le hj k12.len) hn,List.getElem?_eq_getElem hj];exact k12 _ _ (List.getElem?_eq_getElem hj)
theorem ZtJ (hG:GlH X) (h:HO X p D T B) (hc:p.c<=1000) (hok:ZiT r) (ha:r.o.a.length<=65535) (hb:r.o.b.length<=65535):∃ (v:Value) (l:List Tx) (e:Int) (dn:Bool) (p':HP) (D':Z8) (T':List Ql) (B':List Nat) (X':Zd),
  R (n+19) ZR [pt p.h,.agg r.cells.toArray] X=some (.tuple #[.agg #[iv e,v],.bool dn],X')/\Sl X' v (l.map strv)/\oneCell v=true/\l.length<=1000/\(∀ id,own1 v=some id->X.length<=id)/\HO X' p' D' T' B'/\Zr p.own X p'.own X'/\p'.h=p.h/\p'.c<=p.c+1/\(∀ j∈p'.fr,j∈p.fr\/X.length<=j)/\ZkV D T B r e l dn D' T' B':=by
 by_cases hs:r.cl=255
 .obtain⟨X',e1,H1,s1⟩:=ZBd (n:=n) hG h hok hs ha hb;exact⟨.slice none 0 0,[],((ZfV B r).1:Nat),(ZfV B r).2.1,p,D,T,(ZfV B r).2.2,X',e1,Sl.nil,rfl,by simp,(fun id hi=>by cases hi),H1,s1,rfl,by omega,fun j hj=>.inl hj,.inl ⟨hs,rfl,rfl,rfl,rfl,rfl,rfl⟩⟩
 .obtain⟨v,l,e,dn,p',D',T',X',e1,h1,h2,h3,h4,h5,h6,h7,h8,h9,_,h10,h11⟩:=ZzK (n:=n) hG h hc hok hs (ZED (n:=n) (D:=D) (T:=T) (B:=B) ha hb hok.o);exact⟨v,l,e,dn,p',D',T',B,X',e1,h1,h2,h3,h4,h5,h6,h7,h8,h10,.inr ⟨hs,rfl,h11⟩⟩
theorem Tab.first {t:Nat} {rows:List Ql} {lvs:List Value} {fr:List Nat} (h:Tab X t rows lvs fr):∃ (z:Int) (vs:List Value),X[t]?=some (.cells (.int .u64 z :: vs) 1 false false):=by
 obtain⟨r,lv,hr,hl⟩:=h.row (c:=0) (by omega);have h1:=ZfW hr hl (f:=0) (v:=.int .u64 r.num) rfl;have h2:=h.cell
 match hc:QR rows lvs with
 | []=>rw[hc] at h1;simp at h1
 | v :: vs=>
  rw[hc] at h1 h2;simp only[Nat.zero_mul,Nat.add_zero,List.getElem?_cons_zero,Option.some.injEq] at h1;subst h1;exact⟨_,_,h2⟩
theorem Brd.first {b:Nat} {l q:List Nat} (h:Brd X b l q):∀ j∈q,∃ (z:Int) (vs:List Value) (g:Bool),X[j]?=some (.cells (.int .u8 z :: vs) 1 g false):=by
 intro j hj;obtain⟨sl,_,h2⟩:=h.at_;rcases h2 with⟨_,h4,_⟩|⟨sid,rest,g',_,h4,h5⟩
 .rw[h4] at hj;cases hj
 .rw[h4] at hj;cases List.mem_singleton.1 hj;cases hB:l with
  | nil=>exact absurd hB h.one
  | cons a l=>
   rw[hB] at h5;exact⟨_,_,_,h5⟩
theorem Brd.bx {b:Nat} {l q:List Nat} (h:Brd X b l q):∃ a k c,X[b]?=some (.cells [.slice a k c] 1 false false):=by
 obtain⟨sl,h1,h2⟩:=h.at_;obtain⟨a,k,c,rfl⟩:=h2.isS;exact⟨_,_,_,h1⟩
theorem HO.none (h:HO X p D T B) {j:Nat} {v:Value} {vs:List Value} {es:Nat} {g ro:Bool} (hj:X[j]?=some (.cells (v :: vs) es g ro)) (hv:(∃ i,v=.map i)\/(∃ a k c,v=.slice a k c)):j∉p.own:=by
 intro hm;unfold HP.own at hm;rcases List.mem_append.1 hm with hm|hm
 .exact h.dir.isMap hm _ _ _ _ hj
 rcases List.mem_cons.1 hm with rfl|hm
 .obtain⟨w,hw⟩:=HO.ovp h.dir;have:=h.cell;rw[hj,hw] at this;simp only[Option.some.injEq,Ze.cells.injEq,List.cons.injEq] at this;rcases hv with⟨i,rfl⟩|⟨a,k,c,rfl⟩
  .exact absurd this.1.1 (by simp)
  .exact absurd this.1.1 (by simp)
 rcases List.mem_cons.1 hm with rfl|hm
 .obtain⟨z,ws,hw⟩:=h.tab.first;rw[hj] at hw;simp only[Option.some.injEq,Ze.cells.injEq,List.cons.injEq] at hw;rcases hv with⟨i,rfl⟩|⟨a,k,c,rfl⟩
  .exact absurd hw.1.1 (by simp)
  .exact absurd hw.1.1 (by simp)
 .obtain⟨z,ws,g',hw⟩:=h.brd.first _ hm;rw[hj] at hw;simp only[Option.some.injEq,Ze.cells.injEq,List.cons.injEq] at hw;rcases hv with⟨i,rfl⟩|⟨a,k,c,rfl⟩
  .exact absurd hw.1.1 (by simp)
  .exact absurd hw.1.1 (by simp)
structure Far (p q:HP):Prop where
 own:∀ j∈p.own,j∉q.own
 f1:∀ j∈p.fr,j∉q.own
 f2:∀ j∈q.fr,j∉p.own
theorem Far.symm (h:Far p q):Far q p:=⟨fun j hj hk=>h.own j hk hj,h.f2,h.f1⟩
theorem HO.other (h:HO X p D T B) (hq:HO X q E U V) (hf:Far p q) (hs:Zr p.own X p'.own X') (hfr:∀ j∈p'.fr,j∈p.fr\/X.length<=j):HO X' q E U V/\Far p' q:=by
 refine⟨hq.step hs (fun j hj hk=>hf.own j hk hj) (fun j hj=>?_) ?_ hf.f2,⟨fun j hj hk=>?_,fun j hj hk=>?_,fun j hj hk=>?_⟩⟩
 .obtain⟨i,cs,es,g,ro,hc⟩:=hq.dir.first _ hj;exact h.none hc (.inl ⟨_,rfl⟩)
 .obtain⟨a,k,c,hc⟩:=hq.brd.bx;exact h.none hc (.inr ⟨_,_,_,rfl⟩)
 .rcases hs.own j hj with h1|h1
  .exact hf.own j h1 hk
  .have:=hq.lt j hk;omega
 .rcases hfr j hj with h1|h1
  .exact hf.f1 j h1 hk
  .have:=hq.lt j hk;omega
 .rcases hs.own j hk with h1|h1
  .exact hf.f2 j hj h1
  .have:=hq.tab.lt j hj;omega
theorem Far.new (h:HO X p D T B) (ho:∀ j∈q.own,X.length<=j) (hf:∀ j∈q.fr,X.length<=j):Far p q:=
 ⟨fun j hj hk=>by have:=h.lt j hj;have:=ho j hk;omega,fun j hj hk=>by have:=h.tab.lt j hj;have:=ho j hk;omega,fun j hj hk=>by have:=h.lt j hk;have:=hf j hj;omega⟩
theorem HO.mk' {p:HP} (cell:X[p.h]?=some (.cells [p.ov,p.nv,pt p.t,pt p.b] 1 false false)) (dir:DX X D p.ov p.nv p.M p.C p.c) (tab:Tab X p.t T p.lvs p.fr) (brd:Brd X p.b B p.q) (hfr:p.h∉p.fr) (fq:∀ j∈p.fr,j∉p.q) (mf:∀ j∈p.M,j∉p.fr):HO X p D T B:=by
 obtain⟨ow,how⟩:=HO.ovp dir;obtain⟨z,ws,ht⟩:=tab.first;obtain⟨a,k,c,hb⟩:=brd.bx;have hq:∀ j∈p.q,j≠p.h:=fun j hj e=>by
  obtain⟨z,vs,g,h1⟩:=brd.first j hj;rw[e,cell,how] at h1;simp at h1
 have ht':∀ j∈p.q,j≠p.t:=fun j hj e=>by
  obtain⟨z,vs,g,h1⟩:=brd.first j hj;rw[e,ht] at h1;simp at h1
 have hC:∀ j∈p.C,j≠p.h/\j≠p.t/\j∉p.q:=fun j hj=>by
  obtain⟨i,cs,es,g,ro,hc⟩:=dir.first _ hj;refine⟨fun e=>?_,fun e=>?_,fun e=>?_⟩
  .rw[e,cell,how] at hc;simp at hc
  .rw[e,ht] at hc;simp at hc
  .obtain⟨z,vs,g,h1⟩:=brd.first j e;rw[hc] at h1;simp at h1
 refine⟨cell,dir,tab,brd,hfr,fun h=>hq _ h rfl,fun h=>(hC _ h).1 rfl,fun e=>?_,fun e=>?_,fun h=>ht' _ h rfl,fun h=>(hC _ h).2.1 rfl,fq,fun j hj=>(hC j hj).2.2,fun j hj=>⟨fun e=>?_,fun e=>?_,fun e=>?_,mf j hj⟩⟩
 .rw[e,cell,how] at hb;simp at hb
 .rw[e,ht] at hb;simp at hb
 .exact dir.isMap hj _ _ _ _ (e ▸ cell)
 .exact dir.isMap hj _ _ _ _ (e ▸ hb)
 .obtain⟨z,vs,g,h1⟩:=brd.first j e;exact dir.isMap hj _ _ _ _ h1
theorem ZBC {lv:Value} {w:List Nat} (h:Sl X lv (w.map rlv)) (hl:w.length<=100000):∃ v q X',R (n+1) Jk [lv] X=some (v,X')/\Zu X' v (w.map rlv) q/\HLe X X'/\∀ j∈q,X.length<=j:=by
 have hlm:(w.map rlv).length=w.length:=List.length_map _;rw[R,Zde rfl];unfold Kl;rcases h.isnil (H':=X) with⟨rfl,h0,e⟩|e
 .refine⟨.slice none 0 0,[],X,?_,by rw[h0];exact Zu.nil,.refl _,by simp⟩;rw[Za e];rfl
 .have hb2:Sl (X++[.cells [] 1 false false]) lv (w.map rlv):=h.mono (.app _ _);obtain⟨sl',X',own',e2,hr,hle,ho⟩:=ZwK (b:=1) hb2 (by rw[hlm];omega) (by rw[hlm];omega) (s:=.slice (some ⟨X.length,0,none⟩) 0 0) (.inr ⟨X.length,false,rfl,Zo,rfl⟩);refine⟨sl',own',X',?_,hr,(HLe.app _ _).trans hle,fun j hj=>?_⟩
  .rw[Za e,Zb,if_neg (by simp),Za ZBH,Za e2];rfl
  .rcases ho j hj with h|⟨_,h⟩
   .simp at h;omega
   .cases h;exact Nat.le_refl _
theorem Zyr {b:Nat} {q:List Nat} (h:Brd X b B q):∃ X' b' q',R (n+2) K9 [pt b] X=some (pt b',X')/\Brd X' b' B q'/\HLe X X'/\X.length<=b'/\∀ j∈q',X.length<=j:=by
 obtain⟨sl,h1,h2⟩:=h.at_;obtain⟨v,q1,X1,e1,r1,k1,o1⟩:=ZBC (n:=n) h2.rd (by have:=h.few;omega);have e1:R (n+1) Jk [sl] X=_:=e1;obtain⟨a,k,c,rfl⟩:=r1.isS;have e2:bld (.agg #[.slice none 0 0]) [(0,1,.slice a k c)] X1=some (.agg #[.slice a k c],X1):=rfl;have e3:alc 1 (.agg #[.slice a k c]) X1=some (pt X1.length,X1++[.cells [.slice a k c] 1 false false]):=rfl;have hq:X1.length∉q1:=fun hh=>by have:=r1.lt _ hh;omega
 refine⟨X1++[.cells [.slice a k c] 1 false false],X1.length,q1,?_,⟨⟨_,Zo,r1.hle (.app _ _)⟩,hq,h.few,h.rel,h.one⟩,k1.trans (.app _ _),k1.len,o1⟩;rw[R,ZlA rfl];unfold Zdo;rw[Za Zg,Za Zj,Za (Zv h1 rfl),Za e1,Za e2,Za e3];rfl
theorem ZBK (h:HO X p D T B):∃ X' b' q',R (n+3) KU [pt p.h] X=some (pt b',X')/\Brd X' b' B q'/\HLe X X'/\X.length<=b'/\∀ j∈q',X.length<=j:=by
 obtain⟨X',b',q',e1,h1,k1,o1⟩:=Zyr (n:=n) h.brd;refine⟨X',b',q',?_,h1,k1,o1⟩;rw[R,Zoz rfl];unfold ZeB;rw[Za Zg,Za (show fa 3 (pa p.h 0) X=some (pa p.h 3,X) from rfl),Za (Zv h.cell rfl),Za e1];rfl
theorem Zyl (h:HO X p D T B):∃ X' p',R (n+5) QB [pt p.h] X=some (pt p'.h,X')/\HO X' p' D T B/\HLe X X'/\(∀ j∈p'.own,X.length<=j)/\(∀ j∈p'.fr,X.length<=j)/\p'.c=p.c:=by
 obtain⟨X1,lvs1,fr1,e1,t1,k1,o1⟩:=ZoC (n:=n+1) h.tab;have e1:R (n+4) Wm [pt p.t] X=_:=e1;have H1:=h.hle k1;obtain⟨X2,b2,q2,e2,h2,k2,ob,oq⟩:=Zyr (n:=n+2) H1.brd;have e2:R (n+4) K9 [pt p.b] X1=_:=e2;have H2:=H1.hle k2;have t2:=t1.hle k2;have n1:=k1.len;have n2:=k2.len;have e3:bld (.agg #[.pointer none,.pointer none,.pointer none,.pointer none]) [(2,1,pt X.length),(3,1,pt b2)] X2=some (.agg #[.pointer none,.pointer none,pt X.length,pt b2],X2):=rfl;have e4:alc 1 (.agg #[.pointer none,.pointer none,pt X.length,pt b2]) X2=some (pt X2.length,X2++[.cells [.pointer none,.pointer none,pt X.length,pt b2] 1 false false]):=rfl;have k3:HLe X2 (X2++[Ze.cells [.pointer none,.pointer none,pt X.length,pt b2] 1 false false]):=.app _ _;have c3:(X2++[Ze.cells [.pointer none,.pointer none,pt X.length,pt b2] 1 false false])[X2.length]?=some (.cells [.pointer none,.pointer none,pt X.length,pt b2] 1 false false):=Zo;have n3:X2.length < (X2++[Ze.cells [.pointer none,.pointer none,pt X.length,pt b2] 1 false false]).length:=by simp
 generalize X2++[Ze.cells [.pointer none,.pointer none,pt X.length,pt b2] 1 false false]=X3 at e4 k3 c3 n3;have H3:=H2.hle k3;have t3:=t2.hle k3;have b3:=h2.hle k3;have hb2:=h2.lt;have ht2:=t1.lt;have l2:ld1 (pa p.h 2) X=some (pt p.t,X):=Zv h.cell rfl;have l3:∀ Z,HLe X Z->ld1 (pa p.h 3) Z=some (pt p.b,Z):=fun Z hz=>Zv (hz _ _ h.cell) rfl;have l1:ld1 (pa p.h 1) X3=some (p.nv,X3):=Zv H3.cell rfl;have l0:ld1 (pa p.h 0) X3=some (p.ov,X3):=Zv H3.cell rfl;have g3:∀ Z:Zd,fa 3 (pa p.h 0) Z=some (pa p.h 3,Z):=fun Z=>rfl;have g2:∀ Z:Zd,fa 2 (pa p.h 0) Z=some (pa p.h 2,Z):=fun Z=>rfl;have g1:∀ Z:Zd,fa 1 (pa p.h 0) Z=some (pa p.h 1,Z):=fun Z=>rfl;have pre:∀ (r:Value) (X':Zd),jn (cnd (.bool (decide (verS D=1)))
 (bind (Zz (pt p.h)) fun v23x16=>
 bind (fa 0 v23x16) fun v24x17=>
 bind (ld1 v24x17) fun v25x18=>
 bind (R (n+4) Zaj [v25x18]) fun v26x19=>
 bind (Zz (pt X2.length)) fun v27x20=>
 bind (fa 0 v27x20) fun v28x21=>
 bind (st1 v28x21 v26x19) fun _=>
 ret (Out.nrm [pt X2.length]))
 (bind (Zz (pt p.h)) fun v31x22=>
 bind (fa 1 v31x22) fun v32x23=>
 bind (ld1 v32x23) fun v33x24=>
 bind (R (n+4) Zap [v33x24]) fun v34x25=>
 bind (Zz (pt X2.length)) fun v35x26=>
 bind (fa 1 v35x26) fun v36x27=>
 bind (st1 v36x27 v34x25) fun _=>
 ret (Out.nrm [pt X2.length]))) (c1 fun q28_0=>
 ret q28_0) noX ret X3=some (r,X')->R (n+5) QB [pt p.h] X=some (r,X'):=fun r X' hr=>by
  rw[R,Zp6 rfl];unfold ZfC;rw[Za Zg,Za (g2 X),Za l2,Za Zg,Za (g3 X),Za (l3 X (.refl _)),Za e1,Za (l3 X1 k1),Qx,Za e2,Za e3,Za e4,Za Zg,Za (g1 X3),Za l1,Za (H3.dir.nv X3)];exact hr
 have hd:=H3.dir;cases D with
 | old m=>
  obtain⟨d,b,w1,w2,w3,w4,_,_⟩:=hd;obtain⟨X4,d',b',e5,h5,k5,o5,o6⟩:=ZEN (n:=n+2) w3;have e5:R (n+4) Zaj [pt d] X3=_:=e5;have c4:=k5 _ _ c3;have s4:st1 (pa X2.length 0) (pt d') X4=some (undef,X4.set X2.length (.cells [pt d',.pointer none,pt X.length,pt b2] 1 false false)):=Zew (o:=0) c4 (by simp) rfl;have hs:Zr [X2.length] X4 [X2.length] (X4.set X2.length (.cells [pt d',.pointer none,pt X.length,pt b2] 1 false false)):=⟨by simp,fun j hj hn=>List.getElem?_set_ne (fun e=>hn (by simp[e])),fun j hj=>.inl hj⟩;have dx:DX X4 (.old m) (pt d') (.pointer none) [b'] [d'] p.c:=⟨d',b',rfl,rfl,h5,w4,rfl,rfl⟩;have t4:=t3.hle k5;have b4:=b3.hle k5;refine⟨X4.set X2.length (.cells [pt d',.pointer none,pt X.length,pt b2] 1 false false),⟨X2.length,X.length,b2,fr1,q2,[b'],[d'],p.c,lvs1,pt d',.pointer none⟩,pre _ _ ?_,HO.mk' (ZW c4) ?_ ?_ ?_ ?_ ?_ ?_,(((k1.trans k2).trans k3).trans k5).put (by omega),fun j hj=>?_,o1,rfl⟩
  .refine(ZJ (vs:=[pt X2.length]) (H':=X4.set X2.length (.cells [pt d',.pointer none,pt X.length,pt b2] 1 false false)) ?_).trans rfl;rw[show decide (verS (.old m)=1)=true from rfl,Zb,if_pos rfl,Za Zg,Za Zj,Za l0,w1,Za e5,Za Zg,Za Zj,Za s4];rfl
  .exact dx.step hs (fun j hj e=>by simp at hj e;omega) (fun j hj e=>by simp at hj e;omega)
  .exact t4.keep (fun j hj=>hs.keep j (t4.lt j hj) (by simp;intro e;have:=ht2 j hj;omega)) hs.len
  .exact b4.keep (fun j hj=>hs.keep j (b4.lt j hj) (by simp;intro e;have:=hb2 j hj;omega))
  .intro hh;have:=ht2 _ hh;simp only at this;omega
  .intro j hj hq;have:=ht2 _ hj;have:=oq _ hq;omega
  .intro j hj hf;have:=ht2 _ hf;simp at hj;omega
  .simp[HP.own] at hj
   rcases hj with rfl|rfl|rfl|hj
   .omega
   .omega
   .omega
   .have:=oq _ hj;omega
 | now s=>
  obtain⟨d,r0,w1,w2,w3,_,_⟩:=hd;obtain⟨X4,d',r',e5,h5,k5,o5,o6⟩:=ZDS (n:=n) w3;have e5:R (n+4) Zap [pt d] X3=_:=e5;have c4:=k5 _ _ c3;have s4:st1 (pa X2.length 1) (pt d') X4=some (undef,X4.set X2.length (.cells [.pointer none,pt d',pt X.length,pt b2] 1 false false)):=Zew (o:=1) c4 (by simp) rfl;have hs:Zr [X2.length] X4 [X2.length] (X4.set X2.length (.cells [.pointer none,pt d',pt X.length,pt b2] 1 false false)):=⟨by simp,fun j hj hn=>List.getElem?_set_ne (fun e=>hn (by simp[e])),fun j hj=>.inl hj⟩;have dx:DX X4 (.now s) (.pointer none) (pt d') r'.own [d',r'.x,r'.g] p.c:=⟨d',r',rfl,rfl,h5,rfl,rfl⟩;have t4:=t3.hle k5;have b4:=b3.hle k5;refine⟨X4.set X2.length (.cells [.pointer none,pt d',pt X.length,pt b2] 1 false false),⟨X2.length,X.length,b2,fr1,q2,r'.own,[d',r'.x,r'.g],p.c,lvs1,.pointer none,pt d'⟩,pre _ _ ?_,HO.mk' (ZW c4) ?_ ?_ ?_ ?_ ?_ ?_,(((k1.trans k2).trans k3).trans k5).put (by omega),fun j hj=>?_,o1,rfl⟩
  .refine(ZJ (vs:=[pt X2.length]) (H':=X4.set X2.length (.cells [.pointer none,pt d',pt X.length,pt b2] 1 false false)) ?_).trans rfl;rw[show decide (verS (.now s)=1)=false from rfl,Zb,if_neg (by simp),Za Zg,Za (g1 X3),Za l1,w2,Za e5,Za Zg,Za (show fa 1 (pa X2.length 0) X4=some (pa X2.length 1,X4) from rfl),Za s4];rfl
  .refine dx.step hs (fun j hj e=>by simp at e;have:=o6 j hj;omega) (fun j hj e=>?_);obtain⟨i,cs,es,g,ro,hc⟩:=dx.first _ hj;rw[List.mem_singleton.1 e,c4] at hc;simp at hc
  .exact t4.keep (fun j hj=>hs.keep j (t4.lt j hj) (by simp;intro e;have:=ht2 j hj;omega)) hs.len
  .exact b4.keep (fun j hj=>hs.keep j (b4.lt j hj) (by simp;intro e;have:=hb2 j hj;omega))
  .intro hh;have:=ht2 _ hh;simp only at this;omega
  .intro j hj hq;have:=ht2 _ hj;have:=oq _ hq;omega
  .intro j hj hf;have:=ht2 _ hf;have:=o6 j hj;omega
  .simp[HP.own] at hj
   rcases hj with hj|rfl|rfl|hj
   .have:=o6 _ hj;omega
   .omega
   .omega
   .have:=oq _ hj;omega
end
section
variable {X X' Y:Zd} {n:Nat} {p p' q q':HP} {D D' D1:Z8} {T T' T1:List Ql} {B B' B1:List Nat} {o:OpT} {s t:NSt} {r:YM} {m:Qw} {e e1:Int} {l l1:List Tx} {dn:Bool} {k h:Tx}
def upO:OpT:=⟨15,[],[],0,0⟩
theorem ZCu (h:checkO o=0) (hk:o.kd=15):o=upO:=by
 unfold checkO at h;split at h
 .cases h
 .rename_i h1;have hb:o=Zb2 o:=Classical.byContradiction fun hn=>h1 (.inr hn);have:Zb2 o=upO:=by
   unfold Zb2 sgn;rw[hk];rfl
  exact hb.trans this
theorem ZzW:checkO upO=0:=by decide
theorem ZBE:checkO ⟨4,[],[],0,0⟩=0:=by decide
theorem ZBY {a:Tx} (h:a.length<=12):checkO ⟨3,a,[],0,0⟩=0:=by
 have hb:Zb2 ⟨3,a,[],0,0⟩=⟨3,a,[],0,0⟩:=rfl;unfold checkO;rw[if_neg (by
  rintro(h1|h1)
  .have h1:17<=3:=h1;omega
  .exact h1 hb.symm),if_pos (by rfl),if_neg]
 have hw:(ZdB ⟨3,a,[],0,0⟩).length=a.length+3:=by
  show(le 3 1++(txt a++[])).length=_
  rw[List.length_append,List.length_append,ZdJ,ZC2];simp
  omega
 rw[hw];simp
 omega
def UpP (D:Z8) (T:List Ql) (B:List Nat) (r:YM):Prop:=verS D=1/\r.cl≠255/\judgeS T r.cl r.num=3/\r.o=upO/\(B.all fun r=>decide (2<=r))=true
open Classical in
theorem ZFh (h:HO X p D T B):∃ X',R (n+4) Yk [pt p.h,.agg r.cells.toArray] X=some (.bool (decide (UpP D T B r)),X')/\HLe X X':=by
 have a1:=ZnJ r X;have k1:HLe X (X++[Ze.cells r.cells 1 false false]):=.app _ _;have c1:(X++[Ze.cells r.cells 1 false false])[X.length]?=some (.cells r.cells 1 false false):=Zo;generalize X++[Ze.cells r.cells 1 false false]=X1 at a1 k1 c1;have H1:=h.hle k1;obtain⟨X2,e2,k2⟩:=Zqk (n:=n) H1.brd;have q3:bop .int .neq (.int .u8 r.cl) (.int .u8 255) X1=some (.bool (decide (r.cl≠255)),X1):=by
  rw[Zn];have hq:((r.cl:Int) !=255)=decide (r.cl≠255):=by
   rw[Bool.eq_iff_iff,bne_iff_ne,decide_eq_true_iff];omega
  rw[hq]
 have ej:R (n+3) J9 [pt p.t,.int .u8 r.cl,.int .u64 r.num] X1=some (iv (judgeS T r.cl r.num),X1):=ZsN H1.tab;have qj:bop .int .eql (iv (judgeS T r.cl r.num)) (.int .i64 3) X1=some (.bool (decide (judgeS T r.cl r.num=3)),X1):=by
  rw[ZE];have hq:((judgeS T r.cl r.num:Int)==3)=decide (judgeS T r.cl r.num=3):=by
   rw[Bool.eq_iff_iff,beq_iff_eq,decide_eq_true_iff];omega
  rw[hq]
 have ho:bop (.flat [.int,.str,.str,.int,.int]) .eql (.agg r.o.cells.toArray) (.agg upO.cells.toArray) X1=some (.bool (decide (r.o=upO)),X1):=by
  have:eqv (.flat [.int,.str,.str,.int,.int]) (.agg r.o.cells.toArray) (.agg upO.cells.toArray)=some (decide (r.o=upO)):=Zs7 r.o upO;unfold bop;simp only[this];rfl
 have l0:ld1 (pa X.length 0) X1=some (.int .u8 r.cl,X1):=Zv (o:=0) c1 rfl;have l1:ld1 (pa X.length 1) X1=some (.int .u64 r.num,X1):=Zv (o:=1) c1 rfl;have l2:ld1 (pa p.h 2) X1=some (pt p.t,X1):=Zv (o:=2) H1.cell rfl;have l3:ld1 (pa p.h 3) X1=some (pt p.b,X1):=Zv (o:=3) H1.cell rfl;have hb:bld (.agg #[.int .u8 0,.string ⟨#[]⟩,.string ⟨#[]⟩,.int .u8 0,.int .u8 0]) [(0,1,(Value.int .u8 15))] X1=some (.agg upO.cells.toArray,X1):=rfl;have f0:∀ v X',Yl (R (n+3)) (pt p.h) (.agg r.cells.toArray) X=some (v,X')->R (n+4) Yk [pt p.h,.agg r.cells.toArray] X=some (v,X'):=fun v X' hr=>by rw[R,Zkp rfl];exact hr
 by_cases hv:verS D=1
 .by_cases hs:r.cl≠255
  .by_cases hj:judgeS T r.cl r.num=3
   .by_cases hu:r.o=upO
    .refine⟨X2,f0 _ _ ?_,k1.trans k2⟩;unfold Yl;rw[Za a1,Za Zg,Za (show fa 1 (pa p.h 0) X1=some (pa p.h 1,X1) from rfl),Za (Zv H1.cell rfl),Za (H1.dir.nv X1),decide_eq_true hv];rw[Zx,Za Zj,Zx,Za l0,Zx,Za q3,decide_eq_true hs,Za Zl];rw[show cond true (Value.bool true) (Value.bool false)=.bool true from rfl];rw[Zx,Qe,Zx,Za Zg,Zx,Za (show fa 2 (pa p.h 0) X1=some (pa p.h 2,X1) from rfl),Zx,Za l2,Zx,Za Zj,Zx,Za l0,Zx,Za (show fa 1 (pt X.length) X1=some (pa X.length 1,X1) from rfl),Zx,Za l1,Zx,Za ej,Zx,Za qj,decide_eq_true hj,Za Zl];rw[show cond true (Value.bool true) (Value.bool false)=.bool true from rfl];rw[Zx,Za (show fa 2 (pt X.length) X1=some (pa X.length 2,X1) from rfl),Zx,Za (ZjG c1),Zx,Za hb,Zx,Za ho,decide_eq_true hu,Za Zl];rw[show cond true (Value.bool true) (Value.bool false)=.bool true from rfl];rw[Zx,Qe,Zx,Za Zg,Zx,Za (show fa 3 (pa p.h 0) X1=some (pa p.h 3,X1) from rfl),Zx,Za l3,Zx,Za e2,Za Zl];have:decide (UpP D T B r)=B.all fun r=>decide (2<=r):=by
      rw[Bool.eq_iff_iff,decide_eq_true_iff];exact⟨fun h=>h.2.2.2.2,fun h=>⟨hv,hs,hj,hu,h⟩⟩
     rw[this];rfl
    .refine⟨X1,f0 _ _ ?_,k1⟩;unfold Yl;rw[Za a1,Za Zg,Za (show fa 1 (pa p.h 0) X1=some (pa p.h 1,X1) from rfl),Za (Zv H1.cell rfl),Za (H1.dir.nv X1),decide_eq_true hv];rw[Zx,Za Zj,Zx,Za l0,Zx,Za q3,decide_eq_true hs,Za Zl];rw[show cond true (Value.bool true) (Value.bool false)=.bool true from rfl];rw[Zx,Qe,Zx,Za Zg,Zx,Za (show fa 2 (pa p.h 0) X1=some (pa p.h 2,X1) from rfl),Zx,Za l2,Zx,Za Zj,Zx,Za l0,Zx,Za (show fa 1 (pt X.length) X1=some (pa X.length 1,X1) from rfl),Zx,Za l1,Zx,Za ej,Zx,Za qj,decide_eq_true hj,Za Zl];rw[show cond true (Value.bool true) (Value.bool false)=.bool true from rfl];rw[Zx,Za (show fa 2 (pt X.length) X1=some (pa X.length 2,X1) from rfl),Zx,Za (ZjG c1),Zx,Za hb,Zx,Za ho,decide_eq_false hu,Za Zl,decide_eq_false (show ¬ UpP D T B r from fun h=>hu h.2.2.2.1)];rfl
   .refine⟨X1,f0 _ _ ?_,k1⟩;unfold Yl;rw[Za a1,Za Zg,Za (show fa 1 (pa p.h 0) X1=some (pa p.h 1,X1) from rfl),Za (Zv H1.cell rfl),Za (H1.dir.nv X1),decide_eq_true hv];rw[Zx,Za Zj,Zx,Za l0,Zx,Za q3,decide_eq_true hs,Za Zl];rw[show cond true (Value.bool true) (Value.bool false)=.bool true from rfl];rw[Zx,Qe,Zx,Za Zg,Zx,Za (show fa 2 (pa p.h 0) X1=some (pa p.h 2,X1) from rfl),Zx,Za l2,Zx,Za Zj,Zx,Za l0,Zx,Za (show fa 1 (pt X.length) X1=some (pa X.length 1,X1) from rfl),Zx,Za l1,Zx,Za ej,Zx,Za qj,decide_eq_false hj,Za Zl,decide_eq_false (show ¬ UpP D T B r from fun h=>hj h.2.2.1)];rfl
  .refine⟨X1,f0 _ _ ?_,k1⟩;unfold Yl;rw[Za a1,Za Zg,Za (show fa 1 (pa p.h 0) X1=some (pa p.h 1,X1) from rfl),Za (Zv H1.cell rfl),Za (H1.dir.nv X1),decide_eq_true hv];rw[Zx,Za Zj,Zx,Za l0,Zx,Za q3,decide_eq_false hs,Za Zl,decide_eq_false (show ¬ UpP D T B r from fun h=>hs h.2.1)];rfl
 .refine⟨X1,f0 _ _ ?_,k1⟩;unfold Yl;rw[Za a1,Za Zg,Za (show fa 1 (pa p.h 0) X1=some (pa p.h 1,X1) from rfl),Za (Zv H1.cell rfl),Za (H1.dir.nv X1),decide_eq_false hv,decide_eq_false (show ¬ UpP D T B r from fun h=>hv h.1)];rfl
theorem ZB3 (h:Zh4 D B o e l D') (hk:o.kd≠15):verS D'=verS D:=by
 unfold Zh4 at h;split at h
 .obtain⟨_,_,rfl⟩:=h;cases D<;>rfl
 .obtain⟨_,_,rfl⟩:=h;cases D<;>rfl
 .obtain⟨_,_,rfl⟩:=h;cases D<;>rfl
 .obtain⟨_,_,rfl⟩:=h;rfl
 .obtain⟨_,_,rfl⟩:=h;rfl
 .exact absurd ‹o.kd=15› hk
 .obtain⟨_,_,rfl⟩:=h;rfl
 .exact h.elim
theorem ZCd (h:Ze0 s o e l D'):verS D'=2:=by
 unfold Ze0 at h;split at h
 all_goals first|exact h.elim|(obtain⟨_,_,rfl⟩:=h;rfl)
theorem ZAG (h:Znw D B o e l D') (hu:o≠upO):verS D'=verS D:=by
 rcases h with⟨_,_,_,rfl⟩|⟨hc,l0,_,h|⟨_,_,h⟩⟩
 .rfl
 .exact ZB3 h fun hk=>hu (ZCu hc hk)
 .cases D with
  | old m=>obtain⟨_,rfl⟩:=h;rfl
  | now s=>exact ZCd h
theorem Zqf (h:Znw D B upO e l D'):l=[]/\UpD D B e D':=by
 rcases h with⟨hc,_⟩|⟨_,l0,hl,h|⟨_,h14,_⟩⟩
 .exact absurd ZzW hc
 .have h:l0=[]/\UpD D B e D':=h;refine⟨?_,h.2⟩;rw[hl,h.1];split<;>rfl
 .exact absurd h14 (by decide)
theorem ZCe (h:ZkV D T B r e l dn D' T' B'):(verS D=1/\verS D'=2↔UpP D T B r)/\verS D<=verS D':=by
 have v2:∀ D:Z8,verS D=1\/verS D=2:=fun D=>by cases D<;>simp[verS]
 rcases h with⟨hs,_,_,_,_,rfl,_⟩|⟨hs,_,h⟩
 .exact⟨⟨fun h=>by omega,fun h=>absurd hs h.2.1⟩,Nat.le_refl _⟩
 rcases h with⟨hj,_,rfl,_⟩|⟨hj,_,h,_⟩
 .exact⟨⟨fun h=>by omega,fun h=>absurd h.2.2.1 hj⟩,Nat.le_refl _⟩
 by_cases hu:r.o=upO
 .rw[hu] at h;obtain⟨_,h⟩:=Zqf h;cases D with
  | now s=>
   obtain⟨_,rfl⟩:=h;exact⟨⟨(fun h=>by have:=h.1;cases this),(fun h=>by have:=h.1;cases this)⟩,Nat.le_refl _⟩
  | old m=>
   have h:if(B.all fun r=>decide (2<=r))=true then e=0/\∃ s,D'=.now s/\Zh1 s/\A.allK s=(KL m).map kOf/\s.K=[] else e=13/\D'=.old m:=h;split at h
   .rename_i hB;obtain⟨_,s,rfl,_⟩:=h;exact⟨⟨fun _=>⟨rfl,hs,hj,hu,hB⟩,fun _=>⟨rfl,rfl⟩⟩,by show 1<=2;omega⟩
   .rename_i hB;obtain⟨_,rfl⟩:=h;exact⟨⟨(fun h=>by have:=h.2;cases this),fun h=>absurd h.2.2.2.2 hB⟩,Nat.le_refl _⟩
 .have:=ZAG h hu;exact⟨⟨fun h=>by omega,fun h=>absurd h.2.2.2.1 hu⟩,by omega⟩
theorem ZAr (h:ZkV D T B r e l dn D' T' B') (hd:dn=true) (hs:r.cl≠255) (hu:r.o=upO):e=(if verS D=2 then 14 else if(B.all fun r=>decide (2<=r))=true then 0 else 13):=by
 rcases h with⟨hx,_⟩|⟨_,_,h⟩
 .exact absurd hx hs
 rcases h with⟨_,hn,_⟩|⟨_,_,h,_⟩
 .rw[hd] at hn;cases hn
 rw[hu] at h;obtain⟨_,h⟩:=Zqf h;cases D with
 | now s=>
  obtain⟨rfl,_⟩:=h;rfl
 | old m=>
  rw[if_neg (show ¬ verS (.old m)=2 from fun h=>by have h:1=2:=h;cases h)];have h:if(B.all fun r=>decide (2<=r))=true then e=0/\∃ s,D'=.now s/\Zh1 s/\A.allK s=(KL m).map kOf/\s.K=[] else e=13/\D'=.old m:=h;split at h
  .rename_i hB;rw[if_pos hB];exact h.1
  .rename_i hB;rw[if_neg hB];exact h.1
structure UpS (m:Qw) (s:NSt):Prop where
 all:A.allK s=(KL m).map kOf
 K:s.K=[]
 inv:Zh1 s
 nod:(m.map (·.1)).Nodup
 ok:∀ p∈m,ZcX p=0
theorem UpS.of (h:ZkV (.old m) T B r e l dn D' T' B') (hu:UpP (.old m) T B r) (hn:(m.map (·.1)).Nodup) (hE:∀ p∈m,ZcX p=0):∃ s,D'=.now s/\UpS m s/\e=0/\dn=true:=by
 rcases h with⟨hx,_⟩|⟨_,_,h⟩
 .exact absurd hx hu.2.1
 rcases h with⟨hj,_⟩|⟨_,hd,h,_⟩
 .exact absurd hu.2.2.1 hj
 rw[hu.2.2.2.1] at h;obtain⟨_,h⟩:=Zqf h;have h:if(B.all fun r=>decide (2<=r))=true then e=0/\∃ s,D'=.now s/\Zh1 s/\A.allK s=(KL m).map kOf/\s.K=[] else e=13/\D'=.old m:=h;rw[if_pos hu.2.2.2.2] at h;obtain⟨h0,s,h1,h2,h3,h4⟩:=h;exact⟨s,h1,⟨h3,h4,h2,hn,hE⟩,h0,hd⟩
theorem UpS.user (h:UpS m s) {v:Tx} (hk:Zf k m=some v):J7 s k=some (k,v,[],false,[]):=by
 have h1:(k,v,([]:Tx),false,([]:List Tx))∈A.allK s:=by
  rw[h.all];exact List.mem_map.2 ⟨(k,v),(ZmT h.nod).2 hk,rfl⟩
 exact(ZkS h.inv.n).1 h1
theorem UpS.key (h:UpS m s) (k:Tx):(Zf k m).isSome=(Zf k s.A).isSome:=by
 cases hk:Zf k m with
 | some v=>
  have:=h.user hk;unfold J7 at this;cases ha:Zf k s.A with
  | none=>rw[ha] at this;cases this
  | some p=>rfl
 | none=>
  cases ha:Zf k s.A with
  | none=>rfl
  | some p=>
   exfalso
   have h1:J7 s k=some (W7 s k p):=by unfold J7;rw[ha];rfl
   have h2:W7 s k p∈A.allK s:=(ZkS h.inv.n).2 h1;rw[h.all] at h2;obtain⟨x,hx,he⟩:=List.mem_map.1 h2;have h3:x.1=k:=congrArg (·.1) he;have h4:=(ZmT h.nod).1 hx;rw[h3,hk] at h4;cases h4
theorem UpS.list (h:UpS m s) (pre:Tx):ZkY pre (.old m)=ZkY pre (.now s):=by
 have:QK (m.map (·.1))=QK (W3 s):=ZzM h.nod h.inv.n fun g=>by unfold W3;rw[Zsn,Zsn,h.key]
 unfold ZkY;show(if Zff pre then(QK (m.map (·.1))).filter (Zdw pre) else[])=if Zff pre then(QK (W3 s)).filter (Zdw pre) else[]
 rw[this]
theorem UpS.look (h:UpS m s) (hk:k∈m.map (·.1)):∃ v:Tx,Zj4 k (.old m)=0/\Zhq k (.old m)=[v]/\Zj4 k (.now s)=0/\Zhq k (.now s)=[v,[],[48]]/\k.length<=12:=by
 obtain⟨v,hv⟩:=Option.isSome_iff_exists.1 (Zsn.1 hk);have hE:=Zwg.1 (h.ok _ (Kz hv));have hu:=h.user hv;have hnb:Zw k=true:=hE.1;have ha:∃ p,Zf k s.A=some p:=Option.isSome_iff_exists.1 (by rw[<- h.key,hv];rfl);obtain⟨p,ha⟩:=ha;have hd:Q9 k m=0:=by
  unfold Q9 ZG YX;rw[hnb,hv];rfl
 refine⟨v,hd,?_,?_,?_,?_⟩
 .unfold Zhq;simp only;rw[if_pos hd,hv];rfl
 .unfold Zj4 ZH;simp only;rw[hnb,ha];rfl
 .unfold Zhq;simp only;unfold J7 at hu;rw[ha] at hu;have hu:W7 s k p=(k,v,[],false,[]):=by simpa using hu
  rw[ha];show uL (W7 s k p)=_
  rw[hu];rfl
 .unfold Zw at hnb;simp at hnb
  omega
end
section
variable {X X' Y H0:Zd} {n:Nat} {p p':HP} {D D':Z8} {T:List Ql} {B:List Nat} {r:YM} {rs:List YM} {sl:Value}
theorem Zx5 {c m:Nat} (h8:T.length=8):judgeS T c m=3↔c < 8/\lastS T c < m/\m<=1099511627776:=by
 unfold judgeS lastS;by_cases hc:c < 8
 .have hg:=List.getElem?_eq_getElem (l:=T) (i:=c) (by omega);rw[hg];simp only;split
  .rename_i h1;constructor
   .intro h;cases h
   .intro h;omega
  .split
   .constructor
    .intro h;cases h
    .intro h;omega
   .split
    .constructor
     .intro h;cases h
     .intro h;omega
    .constructor
     .intro h;omega
     .intro h;rfl
 .rw[if_pos (by omega)];constructor
  .intro h;cases h
  .intro h;omega
theorem HO.boxI {j:Nat} {q:IntKind} {i:Int} {vs:List Value} {es:Nat} {g ro:Bool} {x:Ze} (h:HO X p D T B) (hj:X[j]?=some (.cells (.int q i :: vs) es g ro)) (ho:j∉p.own) (hf:j∉p.fr):HO (X.set j x) p D T B:=by
 have hs:Zr [j] X [j] (X.set j x):=⟨by simp,fun a ha hn=>List.getElem?_set_ne (fun e=>hn (by simp[e])),fun a ha=>.inl ha⟩;refine h.step hs (fun a ha e=>?_) (fun a ha e=>?_) (fun e=>?_) (fun a ha e=>?_)
 .rw[List.mem_singleton.1 e] at ha;exact ho ha
 .rw[List.mem_singleton.1 e] at ha;obtain⟨_,_,_,_,_,hc⟩:=h.dir.first _ ha;rw[hj] at hc;cases hc
 .have e:=List.mem_singleton.1 e;obtain⟨sl,h1,h2⟩:=h.brd.at_;rw[e,hj] at h1;obtain⟨sa,sn,sc,hS⟩:=h2.isS;rw[hS] at h1;cases h1
 .rw[List.mem_singleton.1 e] at ha;exact hf ha
end
section
set_option maxRecDepth 100000
noncomputable section
def ZT.l2 (Γ:Zc) (s3 s9 s13 s33 s34 s35 s136 s137 s138:Value):M Out:=
 bind (bop .int .lss s138 s137) fun y103=>
 cnd y103
 (bind (ixa 1 s136 s138) fun y104=>
 bind (ld1 y104) fun y105=>
 bind (bld (.agg #[.int .u8 0,.string ⟨#[]⟩,.string ⟨#[]⟩,.int .u8 0,.int .u8 0]) [(0,1,(Value.int .u8 3)),(1,1,y105)]) fun y106=>
 bind (fa 2 s13) fun y107=>
 bind (stA 5 y107 y106) fun _=>
 bind (ldA 7 s13) fun y108=>
 bind (Γ QB [s9]) fun y109=>
 bind (ldA 7 s13) fun u_110=>same u_110 y108 <|
 bind (Γ ZR [y109,y108]) fun y111=>
 bind (Zm y111 0) fun y112=>
 bind (Zm y111 1) fun y113=>
 bind (alc 1 (.agg #[.int .i64 0,.slice none 0 0])) fun y114=>
 bind (ldA 7 s13) fun u_115=>same u_115 y108 <|
 bind (stA 2 y114 y112) fun _=>
 bind (ldA 7 s13) fun y116=>
 bind (Γ QB [s3]) fun y117=>
 bind (ldA 7 s13) fun u_118=>same u_118 y116 <|
 bind (Γ ZR [y117,y116]) fun y119=>
 bind (Zm y119 0) fun y120=>
 bind (Zm y119 1) fun y121=>
 bind (alc 1 (.agg #[.int .i64 0,.slice none 0 0])) fun y122=>
 bind (ldA 7 s13) fun u_123=>same u_123 y116 <|
 bind (stA 2 y122 y120) fun _=>
 bind (fa 1 y114) fun y124=>
 bind (ld1 y124) fun y125=>
 bind (ZC y125) fun y126=>
 bind (bop .int .neq y126 (Value.int .i64 1)) fun y127=>
 bind (gateV y127 false (fa 1 y122)) fun y128=>
 bind (gateV y127 false (ld1 y128)) fun y129=>
 bind (gateV y127 false (ZC y129)) fun y130=>
 bind (gateV y127 false (bop .int .neq y130 (Value.int .i64 3))) fun y131=>
 bind (pick y127 (Value.bool true) y131) fun y132=>
 bind (gateV y132 false (fa 1 y114)) fun y133=>
 bind (gateV y132 false (ld1 y133)) fun y134=>
 bind (gateV y132 false (ixa 1 y134 (Value.int .i64 0))) fun y135=>
 bind (gateV y132 false (ld1 y135)) fun y136=>
 bind (gateV y132 false (fa 1 y122)) fun y137=>
 bind (gateV y132 false (ld1 y137)) fun y138=>
 bind (gateV y132 false (ixa 1 y138 (Value.int .i64 0))) fun y139=>
 bind (gateV y132 false (ld1 y139)) fun y140=>
 bind (gateV y132 false (bop .str .neq y136 y140)) fun y141=>
 bind (pick y132 (Value.bool true) y141) fun y142=>
 bind (gateV y142 false (fa 1 y122)) fun y143=>
 bind (gateV y142 false (ld1 y143)) fun y144=>
 bind (gateV y142 false (ixa 1 y144 (Value.int .i64 1))) fun y145=>
 bind (gateV y142 false (ld1 y145)) fun y146=>
 bind (gateV y142 false (bop .str .neq y146 (Value.string ⟨#[]⟩))) fun y147=>
 bind (pick y142 (Value.bool true) y147) fun y148=>
 bind (gateV y148 false (fa 1 y122)) fun y149=>
 bind (gateV y148 false (ld1 y149)) fun y150=>
 bind (gateV y148 false (ixa 1 y150 (Value.int .i64 2))) fun y151=>
 bind (gateV y148 false (ld1 y151)) fun y152=>
 bind (gateV y148 false (bop .str .neq y152 (Value.string ⟨#[48]⟩))) fun y153=>
 bind (pick y148 (Value.bool true) y153) fun y154=>
 cnd y154
 (ret (.ret (Value.bool false)))
 (bind (bop .int .add s138 (Value.int .i64 1)) fun y155=>
 ret (.nrm [s3,s9,s13,s33,s34,s35,s136,s137,y155])))
 (ret (.ext 3 [s3,s33,s34,s35]))
def ZT.l1 (Γ:Zc) (s3 s33 s34 s35:Value):M Out:=
 bind (bop .int .lss s35 s34) fun y10=>
 cnd y10
 (jn (bind (ixa 7 s33 s35) fun y11=>
 bind (ldA 7 y11) fun y12=>
 bind (alc 1 (.agg #[.int .u8 0,.int .u64 0,.int .u8 0,.string ⟨#[]⟩,.string ⟨#[]⟩,.int .u8 0,.int .u8 0])) fun y13=>
 bind (stA 7 y13 y12) fun _=>
 bind (ldA 7 y13) fun y14=>
 bind (Γ Yk [s3,y14]) fun y15=>
 bind (Γ Qf [s3]) fun y16=>
 bind (Γ KU [s3]) fun y17=>
 bind (Γ YW [y17,(Value.int .u8 2)]) fun y18=>
 bind (Γ QB [s3]) fun y19=>
 bind (ldA 7 y13) fun y20=>
 bind (Γ ZR [s3,y20]) fun y21=>
 bind (Zm y21 0) fun y22=>
 bind (Zm y21 1) fun y23=>
 bind (alc 1 (.agg #[.int .i64 0,.slice none 0 0])) fun y24=>
 bind (stA 2 y24 y22) fun _=>
 bind (bop .int .eql y16 (Value.int .i64 1)) fun y25=>
 bind (gate y25 true 3 (bind (Γ Qf [s3]) fun y26=>
 bind (bop .int .eql y26 (Value.int .i64 2)) fun y27=>
 ret [s3,y26,y27])) (c3 fun _ _ q28_2=>
 bind (pick y25 q28_2 (Value.bool false)) fun y29=>
 bind (bop .bool .neq y15 y29) fun y30=>
 bind (gate y30 false 4 (bind (Γ Qf [s3]) fun y31=>
 bind (bop .int .lss y31 y16) fun y32=>
 ret [s3,y31,y16,y32])) (c4 fun _ _ _ q33_3=>
 bind (pick y30 (Value.bool true) q33_3) fun y34=>
 bind (gate y34 false 2 (ret [y15,y15])) (c2 fun _ q35_1=>
 bind (gate q35_1 true 3 (bind (uop .not y18) fun y36=>
 ret [y18,y36,y36])) (c3 fun _ _ q37_2=>
 bind (gate q37_2 false 2 (bind (uop .not y23) fun y38=>
 ret [y23,y38])) (c2 fun _ q39_1=>
 bind (gate q35_1 true 2 (bind (pick q37_2 (Value.bool true) q39_1) fun y40=>
 ret [y40,y40])) (c2 fun _ q41_1=>
 bind (gate q41_1 false 3 (bind (fa 0 y24) fun y42=>
 bind (ld1 y42) fun y43=>
 bind (bop .int .neq y43 (Value.int .i64 0)) fun y44=>
 ret [y42,y43,y44])) (c3 fun _ _ q45_2=>
 bind (gate q35_1 true 1 (bind (pick q41_1 (Value.bool true) q45_2) fun y46=>
 ret [y46])) (c1 fun q47_0=>
 bind (gate y34 false 1 (bind (pick q35_1 q47_0 (Value.bool false)) fun y48=>
 ret [y48])) (c1 fun q49_0=>
 bind (pick y34 (Value.bool true) q49_0) fun y50=>
 cnd y50
 (ret (.ret (Value.bool false)))
 (bind (gate y23 true 3 (bind (fa 0 y13) fun y51=>
 bind (ld1 y51) fun y52=>
 bind (bop .int .neq y52 (Value.int .u8 255)) fun y53=>
 ret [y51,y52,y53])) (c3 fun _ _ q54_2=>
 bind (pick y23 q54_2 (Value.bool false)) fun y55=>
 bind (gate y55 true 4 (bind (fa 2 y13) fun y56=>
 bind (ldA 5 y56) fun y57=>
 bind (bld (.agg #[.int .u8 0,.string ⟨#[]⟩,.string ⟨#[]⟩,.int .u8 0,.int .u8 0]) [(0,1,(Value.int .u8 15))]) fun y58=>
 bind (bop (.flat [.int,.str,.str,.int,.int]) .eql y57 y58) fun y59=>
 ret [y56,y57,y58,y59])) (c4 fun _ _ _ q60_3=>
 bind (pick y55 q60_3 (Value.bool false)) fun y61=>
 jn (cnd y61
 (bind (bop .int .eql y16 (Value.int .i64 2)) fun y62=>
 jn (cnd y62
 (ret (.nrm [s3,y15,y19,y24,(Value.int .i64 14),s33,s34,s35]))
 (jn (cnd y18
 (ret (.nrm [s3,y15,y19,y24,(Value.int .i64 0),s33,s34,s35]))
 (ret (.nrm [s3,y15,y19,y24,(Value.int .i64 13),s33,s34,s35]))) (c8 fun q63_0 q63_1 q63_2 q63_3 q63_4 q63_5 q63_6 q63_7=>
 ret (.nrm [q63_0,q63_1,q63_2,q63_3,q63_4,q63_5,q63_6,q63_7])) noX ZF)) (c8 fun q65_0 q65_1 q65_2 q65_3 q65_4 q65_5 q65_6 q65_7=>
 bind (fa 0 q65_3) fun y66=>
 bind (ld1 y66) fun y67=>
 bind (bop .int .neq y67 q65_4) fun y68=>
 cnd y68
 (ret (.ret (Value.bool false)))
 (ret (.nrm [q65_0,q65_1,q65_2,q65_5,q65_6,q65_7]))) noX ZF)
 (ret (.nrm [s3,y15,y19,s33,s34,s35]))) (c6 fun q70_0 q70_1 q70_2 q70_3 q70_4 q70_5=>
 bind (uop .not q70_1) fun y71=>
 bind (gate y71 false 4 (bind (Γ Jr [q70_0]) fun y72=>
 bind (Γ J0 [y72,(Value.int .u8 7)]) fun y73=>
 bind (bop .int .eql y73 (Value.int .u64 1099511627776)) fun y74=>
 ret [q70_0,y72,y73,y74])) (c4 fun _ _ _ q75_3=>
 bind (pick y71 (Value.bool true) q75_3) fun y76=>
 cnd y76
 (ret (.nrm [q70_0,q70_3,q70_4,q70_5]))
 (bind (bld (.agg #[.int .u8 0,.string ⟨#[]⟩,.string ⟨#[]⟩,.int .u8 0,.int .u8 0]) [(0,1,(Value.int .u8 4))]) fun y77=>
 bind (bld (.agg #[.int .u8 0,.int .u64 0,.int .u8 0,.string ⟨#[]⟩,.string ⟨#[]⟩,.int .u8 0,.int .u8 0]) [(0,1,(Value.int .u8 7)),(1,1,(Value.int .u64 1099511627776)),(2,5,y77)]) fun y78=>
 bind (alc 1 (.agg #[.int .u8 0,.int .u64 0,.int .u8 0,.string ⟨#[]⟩,.string ⟨#[]⟩,.int .u8 0,.int .u8 0])) fun y79=>
 bind (stA 7 y79 y78) fun _=>
 bind (ldA 7 y79) fun y80=>
 bind (Γ QB [q70_2]) fun y81=>
 bind (ldA 7 y79) fun u_82=>same u_82 y80 <|
 bind (Γ ZR [y81,y80]) fun y83=>
 bind (Zm y83 0) fun y84=>
 bind (Zm y83 1) fun y85=>
 bind (alc 1 (.agg #[.int .i64 0,.slice none 0 0])) fun y86=>
 bind (ldA 7 y79) fun u_87=>same u_87 y80 <|
 bind (stA 2 y86 y84) fun _=>
 bind (ldA 7 y79) fun y88=>
 bind (Γ QB [q70_0]) fun y89=>
 bind (ldA 7 y79) fun u_90=>same u_90 y88 <|
 bind (Γ ZR [y89,y88]) fun y91=>
 bind (Zm y91 0) fun y92=>
 bind (Zm y91 1) fun y93=>
 bind (alc 1 (.agg #[.int .i64 0,.slice none 0 0])) fun y94=>
 bind (ldA 7 y79) fun u_95=>same u_95 y88 <|
 bind (stA 2 y94 y92) fun _=>
 bind (ldA 2 y86) fun y96=>
 bind (ldA 2 y94) fun y97=>
 bind (Γ Zbr [y96,y97]) fun y98=>
 bind (uop .not y98) fun y99=>
 cnd y99
 (ret (.ret (Value.bool false)))
 (bind (fa 1 y86) fun y100=>
 bind (ld1 y100) fun y101=>
 bind (ZC y101) fun y102=>
 jn (Zi (c9 (ZT.l2 Γ)) [q70_0,q70_2,y79,q70_3,q70_4,q70_5,y101,y102,(Value.int .i64 0)]) noN (xk 3 (c4 fun q157_0 q157_1 q157_2 q157_3=>
 ret (.nrm [q157_0,q157_1,q157_2,q157_3])) noX) ZF)))) noX ZF))))))))))))) (c4 fun q160_0 q160_1 q160_2 q160_3=>
 bind (bop .int .add q160_3 (Value.int .i64 1)) fun y161=>
 ret (.nrm [q160_0,q160_1,q160_2,y161])) noX ZF)
 (ret (.ext 0 []))
def ZT (Γ:Zc) (x0:Value):M Value:=
 bind (Γ JN []) fun y1=>
 bind (uop .not y1) fun y2=>
 bind (gate y2 false 3 (bind (Γ W8 [x0]) fun y3=>
 bind (uop .not y3) fun y4=>
 ret [x0,y3,y4])) (c3 fun _ _ q5_2=>
 bind (pick y2 (Value.bool true) q5_2) fun y6=>
 cnd y6
 (bind (Γ JN []) fun y7=>
 ret y7)
 (bind (Γ ZbX [(Value.int .i64 3)]) fun y8=>
 bind (ZC x0) fun y9=>
 jn (Zi (c4 (ZT.l1 Γ)) [y8,x0,y9,(Value.int .i64 0)]) noN (xk 0 (c0 (ret (Value.bool true))) noX) ret))
theorem ZjC:RA1 ZaO ZT:=ra1 Tryz.func7 (by kernel_rfl) fun _ _=>by kernel_rfl
end
end
section
variable {X X' Y H0:Zd} {n:Nat} {p p' q q':HP} {D D' D1:Z8} {T T' T0:List Ql} {B B' B0:List Nat} {o:OpT} {s:NSt} {r:YM} {m:Qw} {e:Int} {l:List Tx} {dn:Bool} {k:Tx}
def qR (o:OpT):YM:=⟨7,1099511627776,o⟩
theorem ZFU (ho:ZgF o):ZiT (qR o):=⟨by simp[qR],by simp[qR],ho⟩
theorem ZxZ (h8:T.length=8) (hl:lastS T 7 < 1099511627776):judgeS T 7 1099511627776=3:=(Zx5 h8).2 ⟨by omega,hl,Nat.le_refl _⟩
theorem Zyg (h:ZkV D T B (qR o) e l dn D' T' B') (hj:judgeS T 7 1099511627776=3):Znw D B o e l D':=by
 rcases h with⟨hx,_⟩|⟨_,_,h⟩
 .cases hx
 rcases h with⟨hn,_⟩|⟨_,_,h,_⟩
 .exact absurd hj hn
 .exact h
theorem Ztr (h:ZkV D T B (qR ⟨3,k,[],0,0⟩) e l dn D' T' B') (hj:judgeS T 7 1099511627776=3) (hk:k.length<=12) (he:Zj4 k D=0):e=0/\l=Zhq k D:=by
 rcases Zyg h hj with⟨hc,_⟩|⟨_,l0,hl,h|⟨h5,_⟩⟩
 .exact absurd (ZBY hk) hc
 .obtain⟨h1,h2,_⟩:=(show e=Zj4 k D/\(e=0->l0=Zhq k D)/\D'=D from h);have h0:e=0:=h1.trans he;exact⟨h0,by rw[hl,if_pos h0];exact h2 h0⟩
 .have h5:5<=3:=h5;omega
theorem ZtR (h:ZkV D T B (qR ⟨4,[],[],0,0⟩) e l dn D' T' B') (hj:judgeS T 7 1099511627776=3):e=0/\l=ZkY [] D:=by
 rcases Zyg h hj with⟨hc,_⟩|⟨_,l0,hl,h|⟨h5,_⟩⟩
 .exact absurd ZBE hc
 .obtain⟨h1,h2,_⟩:=(show e=Ym []/\l0=ZkY [] D/\D'=D from h);have h0:e=0:=h1;exact⟨h0,by rw[hl,if_pos h0];exact h2⟩
 .exact absurd h5 (by decide)
theorem Zkm {z:Nat} (hG:GlH X) (h:HO X p D T B) (hc:p.c<=1000) (ho:ZgF o) (ha:o.a.length<=65535) (hb:o.b.length<=65535) (hz:X[z]?=some (.cells (qR o).cells 1 false false)) :
  ∃ (v:Value) (l:List Tx) (e:Int) (dn:Bool) (c D' T' B':_) (Xc X':Zd),R (n+19) QB [pt p.h] X=some (pt c,Xc)/\HLe X Xc/\R (n+19) ZR [pt c,.agg (qR o).cells.toArray] Xc=some (.tuple #[.agg #[iv e,v],.bool dn],X')/\Sl X' v (l.map strv)/\oneCell v=true/\l.length<=1000/\(∀ id,own1 v=some id->X.length<=id)/\ZkV D T B (qR o) e l dn D' T' B'/\
   HLe X X'/\Xc[z]?=some (.cells (qR o).cells 1 false false):=by
 obtain⟨Xc,c,e1,h1,k1,o1,f1,c1⟩:=Zyl (n:=n+14) h;have e1:R (n+19) QB [pt p.h] X=_:=e1;obtain⟨v,l,e,dn,p',D',T',B',X',e2,s2,o2,m2,fr2,H2,st,_,_,_,out⟩:=ZtJ (n:=n) (r:=qR o) (hG.le k1) h1 (by omega) (ZFU ho) ha hb;refine⟨v,l,e,dn,c.h,D',T',B',Xc,X',e1,k1,e2,s2,o2,m2,fun id hi=>Nat.le_trans k1.len (fr2 id hi),out,fun i x hi=>?_,k1 _ _ hz⟩;rw[st.keep i (Nat.lt_of_lt_of_le (Z6 hi) k1.len) (fun hh=>by have:=o1 _ hh;have:=Z6 hi;omega)];exact k1 _ _ hi
theorem Zyi {z:Nat} {lv x33 x34 x35:Value} (hG:GlH H0) (hz0:H0.length<=z) (hU:UpS m s) (hj:judgeS T 7 1099511627776=3) (hj0:judgeS T0 7 1099511627776=3) (hl:∀ k∈l,k∈m.map (·.1)) (hn:l.length<=1000) (hc:p.c<=1000) (hcq:q.c<=1000):∀ (t i:Nat) (o:OpT) (X:Zd),l.length - i=t->i<=l.length->HLe H0 X->HO X p (.now s) T B->HO X q (.old m) T0 B0->z∉p.own->z∉p.fr->z∉q.own->z∉q.fr->
  X[z]?=some (.cells (qR o).cells 1 false false)->Sl X lv (l.map strv)->(∀ id,own1 lv=some id->id≠z)->
  ∃ X',Zi (c9 (ZT.l2 (R (n+19)))) [pt p.h,pt q.h,pt z,x33,x34,x35,lv,iv l.length,iv i] X=some (.ext 3 [pt p.h,x33,x34,x35],X')/\HLe H0 X'/\HO X' p (.now s) T B
 | 0,i,o,X,ht,hi,hle,h,hq,z1,z2,z3,z4,hz,hs,hne=>by
  have:i=l.length:=by omega
  subst this;refine⟨X,Qq ?_,hle,h⟩;rw[KN];unfold ZT.l2;rw[Za Zt,Zb,if_neg (by simp)];rfl
 | t+1,i,o,X,ht,hi,hle,h,hq,z1,z2,z3,z4,hz,hs,hne=>by
  have hil:i < l.length:=by omega
  have hlt:(i:Int) < l.length:=by omega
  have hg:=List.getElem?_eq_getElem hil;have hm:l[i]∈l:=List.getElem_mem hil;generalize l[i]=k at hg hm;obtain⟨v,u1,u2,u3,u4,u5⟩:=hU.look (hl k hm);have y1:=hs.ix (i:=i) (by simpa using hil) .i64 X;have y2:=hs.ldx (i:=i) (v:=strv k) (by rw[List.getElem?_map,hg];rfl);have hob:ZgF ⟨3,k,[],0,0⟩:=⟨by simp,by simp,by simp⟩;have y3:bld (.agg #[.int .u8 0,.string ⟨#[]⟩,.string ⟨#[]⟩,.int .u8 0,.int .u8 0]) [(0,1,(Value.int .u8 3)),(1,1,strv k)] X=some (.agg (OpT.cells ⟨3,k,[],0,0⟩).toArray,X):=rfl;have y4:stA 5 (pa z 2) (.agg (OpT.cells ⟨3,k,[],0,0⟩).toArray) X=some (undef,X.set z (.cells (qR ⟨3,k,[],0,0⟩).cells 1 false false)):=by
   have:=Zso (vs:=OpT.cells ⟨3,k,[],0,0⟩) (o:=2) (k:=5) hz (by simp[qR,YM.cells,OpT.cells]) rfl rfl;exact this
  have hz1:(X.set z (.cells (qR ⟨3,k,[],0,0⟩).cells 1 false false))[z]?=some (.cells (qR ⟨3,k,[],0,0⟩).cells 1 false false):=ZW hz;have h1:HO (X.set z (.cells (qR ⟨3,k,[],0,0⟩).cells 1 false false)) p (.now s) T B:=h.boxI hz z1 z2;have q1:HO (X.set z (.cells (qR ⟨3,k,[],0,0⟩).cells 1 false false)) q (.old m) T0 B0:=hq.boxI hz z3 z4;have s1:Sl (X.set z (.cells (qR ⟨3,k,[],0,0⟩).cells 1 false false)) lv (l.map strv):=hs.keep fun id hid=>List.getElem?_set_ne (fun e=>hne id hid e.symm);have hle1:HLe H0 (X.set z (.cells (qR ⟨3,k,[],0,0⟩).cells 1 false false)):=hle.put hz0;generalize X.set z (.cells (qR ⟨3,k,[],0,0⟩).cells 1 false false)=X1 at y4 hz1 h1 q1 s1 hle1;obtain⟨v2,l2,e2,dn2,c2,D2,T2,B2,Xc,X2,f2,kc,a2,w2,ow2,m2,_,out2,k2,zc⟩:=Zkm (n:=n) (hG.le hle1) q1 hcq hob (show k.length<=65535 by omega) (by simp) hz1;obtain⟨rfl,hl2⟩:=Ztr out2 hj0 u5 u1;rw[u2] at hl2;have b2:alc 1 (.agg #[.int .i64 0,.slice none 0 0]) X2=some (pt X2.length,X2++[.cells [.int .i64 0,.slice none 0 0] 1 false false]):=rfl;have d2:(X2++[Ze.cells [.int .i64 0,.slice none 0 0] 1 false false])[X2.length]?=some (.cells [.int .i64 0,.slice none 0 0] 1 false false):=Zo;have z2':(X2++[Ze.cells [.int .i64 0,.slice none 0 0] 1 false false])[z]?=some (.cells (qR ⟨3,k,[],0,0⟩).cells 1 false false):=HLe.app X2 _ _ _ (k2 _ _ hz1);have st2:stA 2 (pt X2.length) (.agg #[iv 0,v2]) (X2++[.cells [.int .i64 0,.slice none 0 0] 1 false false])=some (undef,(X2++[Ze.cells [.int .i64 0,.slice none 0 0] 1 false false]).set X2.length (.cells [iv 0,v2] 1 false false)):=WX (vs:=[iv 0,v2]) d2 rfl rfl (by rw[List.all_cons,List.all_cons,ow2];rfl)
  have k3:HLe X2 ((X2++[Ze.cells [.int .i64 0,.slice none 0 0] 1 false false]).set X2.length (.cells [iv 0,v2] 1 false false)):=(HLe.app X2 _).put (Nat.le_refl _);have d3:((X2++[Ze.cells [.int .i64 0,.slice none 0 0] 1 false false]).set X2.length (.cells [iv 0,v2] 1 false false))[X2.length]?=some (.cells [iv 0,v2] 1 false false):=ZW d2;generalize(X2++[Ze.cells [.int .i64 0,.slice none 0 0] 1 false false]).set X2.length (.cells [iv 0,v2] 1 false false)=X3 at st2 k3 d3;have k13:=k2.trans k3;have hz3:=k13 _ _ hz1;obtain⟨v4,l4,e4,dn4,c4,D4,T4,B4,Xd,X4,f4,kd,a4,w4,ow4,m4,_,out4,k4,zd⟩:=Zkm (n:=n) (hG.le (hle1.trans k13)) (h1.hle k13) hc hob (show k.length<=65535 by omega) (by simp) hz3;obtain⟨rfl,hl4⟩:=Ztr out4 hj u5 u3;rw[u4] at hl4;have b4:alc 1 (.agg #[.int .i64 0,.slice none 0 0]) X4=some (pt X4.length,X4++[.cells [.int .i64 0,.slice none 0 0] 1 false false]):=rfl;have d4:(X4++[Ze.cells [.int .i64 0,.slice none 0 0] 1 false false])[X4.length]?=some (.cells [.int .i64 0,.slice none 0 0] 1 false false):=Zo;have z4':(X4++[Ze.cells [.int .i64 0,.slice none 0 0] 1 false false])[z]?=some (.cells (qR ⟨3,k,[],0,0⟩).cells 1 false false):=HLe.app X4 _ _ _ (k4 _ _ hz3);have st4:stA 2 (pt X4.length) (.agg #[iv 0,v4]) (X4++[.cells [.int .i64 0,.slice none 0 0] 1 false false])=some (undef,(X4++[Ze.cells [.int .i64 0,.slice none 0 0] 1 false false]).set X4.length (.cells [iv 0,v4] 1 false false)):=WX (vs:=[iv 0,v4]) d4 rfl rfl (by rw[List.all_cons,List.all_cons,ow4];rfl);have k5:HLe X4 ((X4++[Ze.cells [.int .i64 0,.slice none 0 0] 1 false false]).set X4.length (.cells [iv 0,v4] 1 false false)):=(HLe.app X4 _).put (Nat.le_refl _)
  have d5:((X4++[Ze.cells [.int .i64 0,.slice none 0 0] 1 false false]).set X4.length (.cells [iv 0,v4] 1 false false))[X4.length]?=some (.cells [iv 0,v4] 1 false false):=ZW d4;generalize(X4++[Ze.cells [.int .i64 0,.slice none 0 0] 1 false false]).set X4.length (.cells [iv 0,v4] 1 false false)=X5 at st4 k5 d5;have k35:=k4.trans k5;have d3':=k35 _ _ d3;have w2':=(w2.mono k3).mono k35;have w4':=w4.mono k5;rw[hl2] at w2';rw[hl4] at w4';have k15:=k13.trans k35;obtain⟨X6,e6,i6,j6⟩:=Zyi hG hz0 hU hj hj0 hl hn hc hcq t (i+1) ⟨3,k,[],0,0⟩ X5 (by omega) (by omega) (hle1.trans k15) (h1.hle k15) (q1.hle k15) z1 z2 z3 z4 (k15 _ _ hz1) (s1.mono k15) hne;refine⟨X6,(ZU ?_).trans e6,i6,j6⟩;have n2:ZC v2 X5=some (iv 1,X5):=w2'.len (H':=X5);have n4:ZC v4 X5=some (iv 3,X5):=w4'.len (H':=X5);have p2:ixa 1 v2 (Value.int .i64 0) X5=_:=w2'.ix (i:=0) (by simp) .i64 X5;have r2:=w2'.ldx (i:=0) (v:=strv v) rfl;have p40:ixa 1 v4 (Value.int .i64 0) X5=_:=w4'.ix (i:=0) (by simp) .i64 X5;have r40:=w4'.ldx (i:=0) (v:=strv v) rfl;have p41:ixa 1 v4 (Value.int .i64 1) X5=_:=w4'.ix (i:=1) (by simp) .i64 X5;have r41:=w4'.ldx (i:=1) (v:=strv []) rfl;have p42:ixa 1 v4 (Value.int .i64 2) X5=_:=w4'.ix (i:=2) (by simp) .i64 X5;have r42:=w4'.ldx (i:=2) (v:=strv [48]) rfl;have ns:∀ {x:Tx},bop .str .neq (strv x) (strv x) X5=some (.bool false,X5):=fun {x}=>by rw[ZiB];simp
  have ns1:bop .str .neq (strv []) (Value.string ⟨#[]⟩) X5=some (.bool false,X5):=ns (x:=[]);have ns2:bop .str .neq (strv [48]) (Value.string ⟨#[48]⟩) X5=some (.bool false,X5):=ns (x:=[48]);have g1:∀ {j:Nat},fa 1 (pt j) X5=some (pa j 1,X5):=fun {j}=>rfl;have cf:cond false (Value.bool true) (Value.bool false)=.bool false:=rfl;rw[KN];unfold ZT.l2;rw[Za Zt,Zb,if_pos (by simpa using hlt),Za y1,Za y2,Za y3,Za (show fa 2 (pt z) X=some (pa z 2,X) from rfl),Za y4,Za (Qd (n:=7) hz1 rfl),Za f2,Za (Qd (n:=7) zc rfl),Qx,Za a2,Za Zp,Za Zq,Za b2,Za (Qd (n:=7) z2' rfl),Qx,Za st2];rw[Za (Qd (n:=7) hz3 rfl),Za f4,Za (Qd (n:=7) zd rfl),Qx,Za a4,Za Zp,Za Zq,Za b4,Za (Qd (n:=7) z4' rfl),Qx,Za st4];rw[Za g1,Za (Zv (o:=1) d3' rfl),Za n2,Za (show bop .int .neq (iv 1) (.int .i64 1) X5=some (.bool false,X5) from rfl)];rw[Zx,Za g1,Zx,Za (Zv (o:=1) d5 rfl),Zx,Za n4,Zx,Za (show bop .int .neq (iv 3) (.int .i64 3) X5=some (.bool false,X5) from rfl),Za Zl,cf];rw[Zx,Za g1,Zx,Za (Zv (o:=1) d3' rfl),Zx,Za p2,Zx,Za r2,Zx,Za g1,Zx,Za (Zv (o:=1) d5 rfl),Zx,Za p40,Zx,Za r40,Zx,Za ns,Za Zl,cf];rw[Zx,Za g1,Zx,Za (Zv (o:=1) d5 rfl),Zx,Za p41,Zx,Za r41,Zx,Za ns1,Za Zl,cf];rw[Zx,Za g1,Zx,Za (Zv (o:=1) d5 rfl),Zx,Za p42,Zx,Za r42,Zx,Za ns2,Za Zl,cf,Zb,if_neg (by simp),Za ZI,JX (by omega)];rfl
end
section
variable {X X' Y H0:Zd} {n:Nat} {p p':HP} {D D':Z8} {T:List Ql} {B:List Nat} {r:YM} {rs:List YM} {sl:Value}
def ZfA (H:Zd) (sl:Value) (rs:List YM):Prop:=SlN 7 H sl (rs.map YM.cells)/\∀ r∈rs,ZiT r
theorem ZfA.len (h:ZfA X sl rs):ZC sl X'=some (iv rs.length,X'):=by
 have:=h.1.len (H':=X')
 rwa [List.length_map] at this
theorem ZfA.mono (h:ZfA X sl rs) (hl:HLe X X'):ZfA X' sl rs:=⟨h.1.mono hl,h.2⟩
theorem ZfA.fetch {β:Type} {k:Value->M β} (h:ZfA X sl rs) {j:Nat} (hj:rs[j]?=some r) :
  bind (ixa 7 sl (iv j)) (fun p=>bind (ldA 7 p) fun v=>bind (alc 1 (.agg #[.int .u8 0,.int .u64 0,.int .u8 0,.string ⟨#[]⟩,.string ⟨#[]⟩,.int .u8 0,.int .u8 0])) fun q=>bind (stA 7 q v) fun _=>k q) X=k (pt X.length) (X++[.cells r.cells 1 false false]):=by
 have hr:(rs.map YM.cells)[j]?=some r.cells:=by rw[List.getElem?_map,hj];rfl
 rw[h.1.fetch hr (by omega) .i64];exact ZbB (n:=7) (zs:=[.int .u8 0,.int .u64 0,.int .u8 0,.string ⟨#[]⟩,.string ⟨#[]⟩,.int .u8 0,.int .u8 0]) (r:=r.cells) rfl rfl rfl rfl
def Zi5 (r:YM):Bool:=decide (r.o.a.length<=100) && decide (r.o.b.length<=100)
end
section
variable {X X' Y H H0:Zd} {n:Nat} {rs:List YM} {sl:Value}
theorem Zyt (h:ZfA H0 sl rs) (hn:rs.length<=9223372036854775807):∀ (t j:Nat) {X:Zd},rs.length - j=t->j<=rs.length->HLe H0 X->
  ∃ X',Zi (c4 (Wx.l1 (R n))) [sl,sl,iv rs.length,iv j] X=some (if(rs.drop j).all Zi5 then .ext 0 [sl] else .ret (.bool false),X')/\HLe H0 X'
 | 0,j,X,ht,hj,hle=>by
  have:j=rs.length:=by omega
  subst this;rw[List.drop_length];refine⟨X,Qq ?_,hle⟩;rw[ZM];unfold Wx.l1;rw[Za Zt,Zb,if_neg (by simp)];rfl
 | t+1,j,X,ht,hj,hle=>by
  have hjn:j < rs.length:=by omega
  have hlt:(j:Int) < rs.length:=by omega
  have hja:=List.getElem?_eq_getElem hjn;have hd:=List.drop_eq_getElem_cons hjn;generalize rs[j]=a at hja hd;have g1:(X++[Ze.cells a.cells 1 false false])[X.length]?=some (.cells a.cells 1 false false):=Zo;have l1:ld1 (pa X.length 3) (X++[.cells a.cells 1 false false])=some (strv a.o.a,X++[.cells a.cells 1 false false]):=Zv g1 rfl;have l2:ld1 (pa X.length 4) (X++[.cells a.cells 1 false false])=some (strv a.o.b,X++[.cells a.cells 1 false false]):=Zv g1 rfl;have hf:=fun {K:Value->M Out}=>(h.mono hle).fetch (k:=K) hja;have k1:=hle.trans (HLe.app X [.cells a.cells 1 false false]);generalize X++[Ze.cells a.cells 1 false false]=X1 at g1 l1 l2 k1 hf;obtain⟨X2,e2,k2⟩:=Zyt h hn t (j+1) (by omega) (by omega) k1;have y2:fa 2 (pt X.length) X1=some (pa X.length 2,X1):=rfl;have y3:fa 1 (pa X.length 2) X1=some (pa X.length 3,X1):=rfl;have y4:fa 2 (pa X.length 2) X1=some (pa X.length 4,X1):=rfl;rw[hd,List.all_cons];have hb:Wx.l1 (R n) sl sl (iv rs.length) (iv j) X=some (if Zi5 a then .nrm [sl,sl,iv rs.length,iv ((j+1:Nat):Int)] else .ret (.bool false),X1):=by
   unfold Wx.l1;rw[Za Zt,Zb,if_pos (by simpa using hlt),hf,Za y2,Za y3,Za l1,Za Z9,Za Qm];unfold Zi5;by_cases h1:a.o.a.length<=100
   .have h1':¬ ((a.o.a.length:Int) > 100):=by omega
    rw[decide_eq_false h1',Z0,Zk,Za y2,Zk,Za y4,Zk,Za l2,Zk,Za Z9,Zk,Za Qm,Qe,Jf,Za Zl,decide_eq_true h1];simp only[cond_false];by_cases h2:a.o.b.length<=100
    .have h2':¬ ((a.o.b.length:Int) > 100):=by omega
     rw[decide_eq_false h2',Zb,if_neg (by simp),Za ZI,JX (by omega),decide_eq_true h2];rfl
    .have h2':((a.o.b.length:Int) > 100):=by omega
     rw[decide_eq_true h2',Zb,if_pos rfl,decide_eq_false h2];rfl
   .have h1':((a.o.a.length:Int) > 100):=by omega
    rw[decide_eq_true h1',Za (g_r.trans (if_neg (by simp)))];simp only[List.replicate];rw[Jf,Za Zl];simp only[cond_true];rw[Zb,if_pos rfl,decide_eq_false h1];rfl
  cases hfa:Zi5 a
  .rw[hfa] at hb;exact⟨X1,YA hb,k1⟩
  .rw[hfa] at hb;exact⟨X2,(ZU hb).trans e2,k2⟩
theorem ZE7 (h:ZfA H sl rs) (hn:rs.length<=9223372036854775807):∃ H',R (n+1) W8 [sl] H=some (.bool (rs.all Zi5 && decide (rs.length<=60)),H')/\HLe H H':=by
 obtain⟨H',e,k⟩:=Zyt (n:=n) h hn rs.length 0 (by omega) (by omega) (.refl _);rw[List.drop_zero] at e;have e:Zi (c4 (Wx.l1 (R n))) [sl,sl,iv rs.length,.int .i64 0] H=_:=e;refine⟨H',?_,k⟩;rw[R,Zvj rfl];unfold Wx;rw[Za h.len];cases hf:rs.all Zi5
 .rw[hf] at e;rw[KG e];rfl
 .rw[hf] at e;rw[Q4 e,ZP,J1,Za h.len,Za Jj];simp[ret,decide_eq_decide]
  omega
theorem ZAa (h:GlH H):R (n+1) JN [] H=some (.bool true,H):=by
 have:R (n+1) JN []=Zif gl (.bool true) []:=rfl;rw[this,ZC8 h]
abbrev opT:Ty:=.struct (.pair (.int .u8) (.pair .str (.pair .str (.pair (.int .u8) (.pair (.int .u8) .unit)))))
abbrev reqT:Ty:=.struct (.pair (.int .u8) (.pair (.int .u64) (.pair opT .unit)))
theorem ZjD {q:IntKind} {z:Int} (hz:0<=z):Value.int q z=Value.int q (z.toNat:Nat):=by rw[Int.toNat_of_nonneg hz]
theorem ZFt {x:reqT.den} {H:Zd} {cs:List Value} (hw:reqT.wf x) (h:Rd reqT x H cs):∃ r:YM,cs=r.cells/\ZiT r:=by
 obtain⟨cl,num,⟨kd,a,b,nd,rl,u1⟩,u2⟩:=x;obtain⟨h1,h2,⟨h3,h4,h5,h6,h7,h8⟩,h9⟩:=h;obtain⟨w1,w2,⟨w3,w4,w5,w6,w7,_⟩,_⟩:=hw;have h1:cs.take 1=[.int .u8 cl]:=h1;have h2:(cs.drop 1).take 1=[.int .u64 num]:=h2;have h3:(((cs.drop 1).drop 1).take 5).take 1=[.int .u8 kd]:=h3;have h4:((((cs.drop 1).drop 1).take 5).drop 1).take 1=[.string a]:=h4;have h5:(((((cs.drop 1).drop 1).take 5).drop 1).drop 1).take 1=[.string b]:=h5;have h6:((((((cs.drop 1).drop 1).take 5).drop 1).drop 1).drop 1).take 1=[.int .u8 nd]:=h6;have h7:(((((((cs.drop 1).drop 1).take 5).drop 1).drop 1).drop 1).drop 1).take 1=[.int .u8 rl]:=h7;have h9:((cs.drop 1).drop 1).drop 5=[]:=h9
 match cs,h1,h2,h3,h4,h5,h6,h7,h9 with
 | [c1,c2,c3,c4,c5,c6,c7],h1,h2,h3,h4,h5,h6,h7,_=>
  have w1:=ZuT w1;have w3:=ZuT w3;have w6:=ZuT w6;have w7:=ZuT w7;have w2:=ZE4 w2;have e1:c1=.int .u8 cl:=by simpa using h1
  have e2:c2=.int .u64 num:=by simpa using h2
  have e3:c3=.int .u8 kd:=by simpa using h3
  have e4:c4=.string a:=by simpa using h4
  have e5:c5=.string b:=by simpa using h5
  have e6:c6=.int .u8 nd:=by simpa using h6
  have e7:c7=.int .u8 rl:=by simpa using h7
  refine⟨⟨Int.toNat cl,Int.toNat num,⟨Int.toNat kd,(ByteArray.data a).toList,(ByteArray.data b).toList,Int.toNat nd,Int.toNat rl⟩⟩,?_,?_⟩
  .rw[e1,e2,e3,e4,e5,e6,e7,ZjD w1.1,ZjD w2.1,ZjD w3.1,ZjD w6.1,ZjD w7.1,Zyj a,Zyj b];rfl
  .have k8:∀ z:Int,0<=z/\z<=255->z.toNat<=255:=fun z hz=>by omega
   have k64:∀ z:Int,0<=z/\z<=18446744073709551615->z.toNat < 18446744073709551616:=fun z hz=>by omega
   exact⟨k8 cl w1,k64 num w2,⟨k8 kd w3,k8 nd w6,k8 rl w7⟩⟩
theorem ZDU {x:(Ty.slc reqT).den} {H:Zd} {v:Value} (hwf:(Ty.slc reqT).wf x) (h:Rd (.slc reqT) x H [v]):∃ rs,ZfA H v rs/\rs.length<=9223372036854775807:=by
 obtain⟨rows,h1,h2,h3,h4⟩:=ZDZ hwf h;obtain⟨rs,h5,h6⟩:=ZrU (f:=YM.cells) (Q:=fun _ a=>ZiT a) (rows:=rows) fun r hr=>by
  obtain⟨y,hy,hr⟩:=h2 r hr;exact ZFt hy hr
 subst h5;exact⟨rs,⟨h1,h6⟩,by simpa using h3⟩
end
section
variable {X X' Y H H0:Zd} {n:Nat} {p p' q q':HP} {D D' D1:Z8} {T T' T0:List Ql} {B B' B0:List Nat} {o:OpT} {s:NSt} {r:YM} {rs:List YM} {m:Qw} {e:Int} {l:List Tx} {dn:Bool} {k:Tx} {sl:Value}
theorem ZBp {y3 y4 y5:Value} (hG:GlH H0) (hle:HLe H0 X) (h:HO X p (.now s) T B) (hq:HO X q (.old m) T0 B0) (hU:UpS m s) (hj:judgeS T 7 1099511627776=3) (hj0:judgeS T0 7 1099511627776=3) (hc:p.c<=1000) (hcq:q.c<=1000) :
  ∃ X',(bind (bld (.agg #[.int .u8 0,.string ⟨#[]⟩,.string ⟨#[]⟩,.int .u8 0,.int .u8 0]) [(0,1,(Value.int .u8 4))]) fun v115x77=>
 bind (bld (.agg #[.int .u8 0,.int .u64 0,.int .u8 0,.string ⟨#[]⟩,.string ⟨#[]⟩,.int .u8 0,.int .u8 0]) [(0,1,(Value.int .u8 7)),(1,1,(Value.int .u64 1099511627776)),(2,5,v115x77)]) fun v116x78=>
 bind (alc 1 (.agg #[.int .u8 0,.int .u64 0,.int .u8 0,.string ⟨#[]⟩,.string ⟨#[]⟩,.int .u8 0,.int .u8 0])) fun v13x79=>
 bind (stA 7 v13x79 v116x78) fun _=>
 bind (ldA 7 v13x79) fun v120x80=>
 bind ((R (n+19)) QB [(pt q.h)]) fun v119x81=>
 bind (ldA 7 v13x79) fun u_82=>same u_82 v120x80 <|
 bind ((R (n+19)) ZR [v119x81,v120x80]) fun v121x83=>
 bind (Zm v121x83 0) fun v122x84=>
 bind (Zm v121x83 1) fun v123x85=>
 bind (alc 1 (.agg #[.int .i64 0,.slice none 0 0])) fun v14x86=>
 bind (ldA 7 v13x79) fun u_87=>same u_87 v120x80 <|
 bind (stA 2 v14x86 v122x84) fun _=>
 bind (ldA 7 v13x79) fun v127x88=>
 bind ((R (n+19)) QB [(pt p.h)]) fun v126x89=>
 bind (ldA 7 v13x79) fun u_90=>same u_90 v127x88 <|
 bind ((R (n+19)) ZR [v126x89,v127x88]) fun v128x91=>
 bind (Zm v128x91 0) fun v129x92=>
 bind (Zm v128x91 1) fun v130x93=>
 bind (alc 1 (.agg #[.int .i64 0,.slice none 0 0])) fun v16x94=>
 bind (ldA 7 v13x79) fun u_95=>same u_95 v127x88 <|
 bind (stA 2 v16x94 v129x92) fun _=>
 bind (ldA 2 v14x86) fun v131x96=>
 bind (ldA 2 v16x94) fun v132x97=>
 bind ((R (n+19)) Zbr [v131x96,v132x97]) fun v133x98=>
 bind (uop .not v133x98) fun v134x99=>
 cnd v134x99
 (ret (Out.ret (Value.bool false)))
 (bind (fa 1 v14x86) fun v135x100=>
 bind (ld1 v135x100) fun v136x101=>
 bind (ZC v136x101) fun v137x102=>
 jn (Zi (c9 (ZT.l2 (R (n+19)))) [(pt p.h),(pt q.h),v13x79,y3,y4,y5,v136x101,v137x102,(Value.int .i64 0)]) noN (xk 3 (c4 fun q157_0 q157_1 q157_2 q157_3=>
 ret (Out.nrm [q157_0,q157_1,q157_2,q157_3])) noX) ZF)) X=some (.nrm [pt p.h,y3,y4,y5],X')/\HLe H0 X'/\HO X' p (.now s) T B:=by
 have e1:bld (.agg #[.int .u8 0,.string ⟨#[]⟩,.string ⟨#[]⟩,.int .u8 0,.int .u8 0]) [(0,1,(Value.int .u8 4))] X=some (.agg (OpT.cells ⟨4,[],[],0,0⟩).toArray,X):=rfl;have e2:bld (.agg #[.int .u8 0,.int .u64 0,.int .u8 0,.string ⟨#[]⟩,.string ⟨#[]⟩,.int .u8 0,.int .u8 0]) [(0,1,(Value.int .u8 7)),(1,1,(Value.int .u64 1099511627776)),(2,5,.agg (OpT.cells ⟨4,[],[],0,0⟩).toArray)] X=some (.agg (qR ⟨4,[],[],0,0⟩).cells.toArray,X):=rfl;have z0:∀ K:Value->M Out,bind (alc 1 (.agg #[.int .u8 0,.int .u64 0,.int .u8 0,.string ⟨#[]⟩,.string ⟨#[]⟩,.int .u8 0,.int .u8 0])) (fun q=>bind (stA 7 q (.agg (qR ⟨4,[],[],0,0⟩).cells.toArray)) fun _=>K q) X=K (pt X.length) (X++[.cells (qR ⟨4,[],[],0,0⟩).cells 1 false false]):=fun K=>ZbB (n:=7) (zs:=[.int .u8 0,.int .u64 0,.int .u8 0,.string ⟨#[]⟩,.string ⟨#[]⟩,.int .u8 0,.int .u8 0]) (r:=(qR ⟨4,[],[],0,0⟩).cells) rfl rfl rfl rfl;have k1:HLe X (X++[Ze.cells (qR ⟨4,[],[],0,0⟩).cells 1 false false]):=.app _ _;have hz1:(X++[Ze.cells (qR ⟨4,[],[],0,0⟩).cells 1 false false])[X.length]?=some (.cells (qR ⟨4,[],[],0,0⟩).cells 1 false false):=Zo;have hX0:=hle.len;have zp1:X.length∉p.own:=fun hx=>by have:=h.lt _ hx;omega
 have zp2:X.length∉p.fr:=fun hx=>by have:=h.tab.lt _ hx;omega
 have zq1:X.length∉q.own:=fun hx=>by have:=hq.lt _ hx;omega
 have zq2:X.length∉q.fr:=fun hx=>by have:=hq.tab.lt _ hx;omega
 generalize hz:X.length=z at z0 hz1 zp1 zp2 zq1 zq2 hX0;generalize X++[Ze.cells (qR ⟨4,[],[],0,0⟩).cells 1 false false]=X1 at z0 k1 hz1;have hle1:=hle.trans k1;have h1:=h.hle k1;have q1:=hq.hle k1;have zl1:=Z6 hz1;have hob:ZgF ⟨4,[],[],0,0⟩:=⟨by simp,by simp,by simp⟩;obtain⟨v2,l2,e2',dn2,c2,D2,T2,B2,Xc,X2,f2,kc,a2,w2,ow2,m2,id2,out2,k2,zc⟩:=Zkm (n:=n) (hG.le hle1) q1 hcq hob (by simp) (by simp) hz1;obtain⟨rfl,hl2⟩:=ZtR out2 hj0;have b2:alc 1 (.agg #[.int .i64 0,.slice none 0 0]) X2=some (pt X2.length,X2++[.cells [.int .i64 0,.slice none 0 0] 1 false false]):=rfl;have d2:(X2++[Ze.cells [.int .i64 0,.slice none 0 0] 1 false false])[X2.length]?=some (.cells [.int .i64 0,.slice none 0 0] 1 false false):=Zo;have z2':(X2++[Ze.cells [.int .i64 0,.slice none 0 0] 1 false false])[z]?=some (.cells (qR ⟨4,[],[],0,0⟩).cells 1 false false):=HLe.app X2 _ _ _ (k2 _ _ hz1);have st2:stA 2 (pt X2.length) (.agg #[iv 0,v2]) (X2++[.cells [.int .i64 0,.slice none 0 0] 1 false false])=some (undef,(X2++[Ze.cells [.int .i64 0,.slice none 0 0] 1 false false]).set X2.length (.cells [iv 0,v2] 1 false false)):=WX (vs:=[iv 0,v2]) d2 rfl rfl (by rw[List.all_cons,List.all_cons,ow2];rfl);have k3:HLe X2 ((X2++[Ze.cells [.int .i64 0,.slice none 0 0] 1 false false]).set X2.length (.cells [iv 0,v2] 1 false false)):=(HLe.app X2 _).put (Nat.le_refl _);have d3:((X2++[Ze.cells [.int .i64 0,.slice none 0 0] 1 false false]).set X2.length (.cells [iv 0,v2] 1 false false))[X2.length]?=some (.cells [iv 0,v2] 1 false false):=ZW d2
 generalize(X2++[Ze.cells [.int .i64 0,.slice none 0 0] 1 false false]).set X2.length (.cells [iv 0,v2] 1 false false)=X3 at st2 k3 d3;have k13:=k2.trans k3;have hz3:=k13 _ _ hz1;obtain⟨v4,l4,e4,dn4,c4',D4,T4,B4,Xd,X4,f4,kd,a4,w4,ow4,m4,_,out4,k4,zd⟩:=Zkm (n:=n) (hG.le (hle1.trans k13)) (h1.hle k13) hc hob (by simp) (by simp) hz3;obtain⟨rfl,hl4⟩:=ZtR out4 hj;have b4:alc 1 (.agg #[.int .i64 0,.slice none 0 0]) X4=some (pt X4.length,X4++[.cells [.int .i64 0,.slice none 0 0] 1 false false]):=rfl;have d4:(X4++[Ze.cells [.int .i64 0,.slice none 0 0] 1 false false])[X4.length]?=some (.cells [.int .i64 0,.slice none 0 0] 1 false false):=Zo;have z4':(X4++[Ze.cells [.int .i64 0,.slice none 0 0] 1 false false])[z]?=some (.cells (qR ⟨4,[],[],0,0⟩).cells 1 false false):=HLe.app X4 _ _ _ (k4 _ _ hz3);have st4:stA 2 (pt X4.length) (.agg #[iv 0,v4]) (X4++[.cells [.int .i64 0,.slice none 0 0] 1 false false])=some (undef,(X4++[Ze.cells [.int .i64 0,.slice none 0 0] 1 false false]).set X4.length (.cells [iv 0,v4] 1 false false)):=WX (vs:=[iv 0,v4]) d4 rfl rfl (by rw[List.all_cons,List.all_cons,ow4];rfl);have k5:HLe X4 ((X4++[Ze.cells [.int .i64 0,.slice none 0 0] 1 false false]).set X4.length (.cells [iv 0,v4] 1 false false)):=(HLe.app X4 _).put (Nat.le_refl _);have d5:((X4++[Ze.cells [.int .i64 0,.slice none 0 0] 1 false false]).set X4.length (.cells [iv 0,v4] 1 false false))[X4.length]?=some (.cells [iv 0,v4] 1 false false):=ZW d4;generalize(X4++[Ze.cells [.int .i64 0,.slice none 0 0] 1 false false]).set X4.length (.cells [iv 0,v4] 1 false false)=X5 at st4 k5 d5
 have k35:=k4.trans k5;have k15:=k13.trans k35;have d3':=k35 _ _ d3;have hll:l4=l2:=by rw[hl2,hl4,hU.list []]
 rw[hll] at w4;obtain⟨X6,f6,k6⟩:=ZBP (n:=n+17) (e:=0) m2 ((w2.mono k3).mono k35) (w4.mono k5) ow2 ow4;have f6:R (n+19) Zbr [.agg #[iv 0,v2],.agg #[iv 0,v4]] X5=_:=f6;have k16:=k15.trans k6;have w2':=((w2.mono k3).mono k35).mono k6;have hmem:∀ k∈l2,k∈m.map (·.1):=fun k hk=>by
  rw[hl2] at hk;unfold ZkY at hk;split at hk
  .exact Zad.1 (List.mem_filter.1 hk).1
  .cases hk
 obtain⟨X7,f7,i7,j7⟩:=Zyi (n:=n) (z:=z) (lv:=v2) (x33:=y3) (x34:=y4) (x35:=y5) hG hX0 hU hj hj0 hmem m2 hc hcq l2.length 0 ⟨4,[],[],0,0⟩ X6 (by omega) (by omega) (hle1.trans k16) (h1.hle k16) (q1.hle k16) zp1 zp2 zq1 zq2 (k16 _ _ hz1) w2' (fun id hid=>by have:=id2 id hid;omega);have f7:Zi (c9 (ZT.l2 (R (n+19)))) [pt p.h,pt q.h,pt z,y3,y4,y5,v2,iv l2.length,.int .i64 0] X6=_:=f7;have hln:ZC v2 X6=some (iv l2.length,X6):=by have:=w2'.len (H':=X6);rwa [List.length_map] at this
 refine⟨X7,?_,i7,j7⟩;rw[Za e1,Za e2,z0,Za (Qd (n:=7) hz1 rfl),Za f2,Za (Qd (n:=7) zc rfl),Qx,Za a2,Za Zp,Za Zq,Za b2,Za (Qd (n:=7) z2' rfl),Qx,Za st2];rw[Za (Qd (n:=7) hz3 rfl),Za f4,Za (Qd (n:=7) zd rfl),Qx,Za a4,Za Zp,Za Zq,Za b4,Za (Qd (n:=7) z4' rfl),Qx,Za st4];rw[Za (Qd (n:=2) d3' rfl),Za (Qd (n:=2) d5 rfl),Za f6,Za ZL,Zb,if_neg (by simp),Za (show fa 1 (pt X2.length) X6=some (pa X2.length 1,X6) from rfl),Za (Zv (o:=1) (k6 _ _ d3') rfl),Za hln,Q4 f7,ZP,ZM];rfl
theorem cK {b:Bool}:bop .bool .neq (.bool b) (.bool b) X=some (.bool false,X):=by rw[JG];simp
theorem ZBM {up all:Bool} {a b:Nat} {v:Value} {y3 y4 y5:Value} {K:M Out} (h:HO X p D1 T B) (h1:up=true↔verS D=1/\verS D1=2) (h2:verS D<=verS D1) (h3:up=true->all=true/\dn=true/\e=0) (hb:X[b]?=some (.cells [iv e,v] 1 false false)) :
  (bind (bop .int .eql (iv (verS D)) (Value.int .i64 1)) fun v57x25=>
 bind (gate v57x25 true 3 (bind ((R (n+19)) Qf [pt p.h]) fun v60x26=>
 bind (bop .int .eql v60x26 (Value.int .i64 2)) fun v61x27=>
 ret [pt p.h,v60x26,v61x27])) (c3 fun _ _ q28_2=>
 bind (pick v57x25 q28_2 (Value.bool false)) fun v62x29=>
 bind (bop .bool .neq (Value.bool up) v62x29) fun v63x30=>
 bind (gate v63x30 false 4 (bind ((R (n+19)) Qf [pt p.h]) fun v66x31=>
 bind (bop .int .lss v66x31 (iv (verS D))) fun v68x32=>
 ret [pt p.h,v66x31,(iv (verS D)),v68x32])) (c4 fun _ _ _ q33_3=>
 bind (pick v63x30 (Value.bool true) q33_3) fun v69x34=>
 bind (gate v69x34 false 2 (ret [(Value.bool up),(Value.bool up)])) (c2 fun _ q35_1=>
 bind (gate q35_1 true 3 (bind (uop .not (Value.bool all)) fun v74x36=>
 ret [(Value.bool all),v74x36,v74x36])) (c3 fun _ _ q37_2=>
 bind (gate q37_2 false 2 (bind (uop .not (Value.bool dn)) fun v77x38=>
 ret [(Value.bool dn),v77x38])) (c2 fun _ q39_1=>
 bind (gate q35_1 true 2 (bind (pick q37_2 (Value.bool true) q39_1) fun v78x40=>
 ret [v78x40,v78x40])) (c2 fun _ q41_1=>
 bind (gate q41_1 false 3 (bind (fa 0 (pt b)) fun v80x42=>
 bind (ld1 v80x42) fun v81x43=>
 bind (bop .int .neq v81x43 (Value.int .i64 0)) fun v82x44=>
 ret [v80x42,v81x43,v82x44])) (c3 fun _ _ q45_2=>
 bind (gate q35_1 true 1 (bind (pick q41_1 (Value.bool true) q45_2) fun v83x46=>
 ret [v83x46])) (c1 fun q47_0=>
 bind (gate v69x34 false 1 (bind (pick q35_1 q47_0 (Value.bool false)) fun v84x48=>
 ret [v84x48])) (c1 fun q49_0=>
 bind (pick v69x34 (Value.bool true) q49_0) fun v85x50=>
 cnd v85x50
 (ret (Out.ret (Value.bool false)))
 K)))))))))) X=K X:=by
 have v2:∀ D:Z8,verS D=1\/verS D=2:=fun D=>by cases D<;>simp[verS]
 have eV:R (n+19) Qf [pt p.h] X=some (iv (verS D1),X):=ZqR (n:=n+18) h;have q1:∀ {x y:Nat},bop .int .eql (iv x) (.int .i64 y) X=some (.bool (decide (x=y)),X):=fun {x y}=>by
  rw[ZE];have hq:((x:Int)==(y:Int))=decide (x=y):=by
   rw[Bool.eq_iff_iff,beq_iff_eq,decide_eq_true_iff];omega
  rw[hq]
 have q11:bop .int .eql (iv (verS D)) (.int .i64 1) X=_:=q1 (y:=1);have q12:bop .int .eql (iv (verS D1)) (.int .i64 2) X=_:=q1 (y:=2);have q3:bop .int .lss (iv (verS D1)) (iv (verS D)) X=some (.bool false,X):=by rw[Zt,decide_eq_false (by omega)]
 have cf:cond false (Value.bool true) (Value.bool false)=.bool false:=rfl;have head:∀ {Kx:Value->M Out},bind (bop .int .eql (iv (verS D)) (Value.int .i64 1)) (fun v57x25=>
 bind (gate v57x25 true 3 (bind (R (n+19) Qf [pt p.h]) fun v60x26=>
 bind (bop .int .eql v60x26 (Value.int .i64 2)) fun v61x27=>
 ret [pt p.h,v60x26,v61x27])) (c3 fun _ _ q28_2=>
 bind (pick v57x25 q28_2 (Value.bool false)) fun v62x29=>
 bind (bop .bool .neq (Value.bool up) v62x29) Kx)) X=Kx (.bool false) X:=fun {Kx}=>by
  rw[Za q11];rcases v2 D with hd|hd
  .rw[decide_eq_true hd,Z0,Zk,Za eV,Zk,Za q12,Qe,ZV,Za Zl];have:up=decide (verS D1=2):=by
    rw[Bool.eq_iff_iff,decide_eq_true_iff,h1];exact⟨fun h=>h.2,fun h=>⟨hd,h⟩⟩
   rw[<- this];rw[show cond true (Value.bool up) (Value.bool false)=.bool up from rfl,Za cK]
  .have hu:up=false:=by
    cases hx:up with
    | false=>rfl
    | true=>have:=h1.1 hx;omega
   rw[decide_eq_false (by omega),Za (show gate (.bool false) true 3 _ X=some ([ZZ,ZZ,ZZ],X) from rfl),ZV,Za Zl,hu];rw[show cond false ZZ (Value.bool false)=.bool false from rfl,Za cK]
 refine head.trans ?_;rw[Z0,Zk,Za eV,Zk,Za q3,Qe,ZM,Za Zl,cf,Z0,Qe,Qv];cases hu:up with
 | true=>
  obtain⟨rfl,rfl,rfl⟩:=h3 hu;rw[Z0,Zk,Za ZL,Qe,ZV,show(!true)=false from rfl,Z0,Zk,Za ZL,Qe,Qv,show(!true)=false from rfl,Z0,Zk,Za Zl,Qe,Qv,cf,Z0,Zk,Za Zj,Zk,Za (Zv (o:=0) hb rfl),Zk,Za (show bop .int .neq (iv 0) (.int .i64 0) X=some (.bool false,X) from rfl),Qe,ZV,Z0,Zk,Za Zl,Qe,J1,cf,Z0,Zk,Za Zl,Qe,J1,Za Zl];rfl
 | false=>
  rw[Za (show gate (.bool false) true 3 _ X=some ([ZZ,ZZ,ZZ],X) from rfl),ZV,ZA2];simp only[List.replicate];rw[Qv,Za (show gate (.bool false) true 2 _ X=some ([ZZ,ZZ],X) from rfl),Qv,ZA2];simp only[List.replicate];rw[ZV,Za (show gate (.bool false) true 1 _ X=some ([ZZ],X) from rfl),J1,Z0,Zk,Za Zl,Qe,J1,Za Zl];rfl
theorem ZCc {up all:Bool} {a b:Nat} {v:Value} {y3 y4 y5:Value} {K:List Value->M Out} (ha:X[a]?=some (.cells r.cells 1 false false)) (hb:X[b]?=some (.cells [iv e,v] 1 false false)) (hw:dn=true->r.cl≠255->r.o=upO->e=(if verS D=2 then 14 else if all=true then 0 else 13)) :
  (bind (gate (Value.bool dn) true 3 (bind (fa 0 (pt a)) fun v88x51=>
 bind (ld1 v88x51) fun v89x52=>
 bind (bop .int .neq v89x52 (Value.int .u8 255)) fun v90x53=>
 ret [v88x51,v89x52,v90x53])) (c3 fun _ _ q54_2=>
 bind (pick (Value.bool dn) q54_2 (Value.bool false)) fun v91x55=>
 bind (gate v91x55 true 4 (bind (fa 2 (pt a)) fun v93x56=>
 bind (ldA 5 v93x56) fun v94x57=>
 bind (bld (.agg #[.int .u8 0,.string ⟨#[]⟩,.string ⟨#[]⟩,.int .u8 0,.int .u8 0]) [(0,1,(Value.int .u8 15))]) fun v95x58=>
 bind (bop (.flat [.int,.str,.str,.int,.int]) .eql v94x57 v95x58) fun v96x59=>
 ret [v93x56,v94x57,v95x58,v96x59])) (c4 fun _ _ _ q60_3=>
 bind (pick v91x55 q60_3 (Value.bool false)) fun v97x61=>
 jn (cnd v97x61
 (bind (bop .int .eql (iv (verS D)) (Value.int .i64 2)) fun v100x62=>
 jn (cnd v100x62
 (ret (Out.nrm [pt p.h,(Value.bool up),(pt q.h),(pt b),(Value.int .i64 14),y3,y4,y5]))
 (jn (cnd (Value.bool all)
 (ret (Out.nrm [pt p.h,(Value.bool up),(pt q.h),(pt b),(Value.int .i64 0),y3,y4,y5]))
 (ret (Out.nrm [pt p.h,(Value.bool up),(pt q.h),(pt b),(Value.int .i64 13),y3,y4,y5]))) (c8 fun q63_0 q63_1 q63_2 q63_3 q63_4 q63_5 q63_6 q63_7=>
 ret (Out.nrm [q63_0,q63_1,q63_2,q63_3,q63_4,q63_5,q63_6,q63_7])) noX ZF)) (c8 fun q65_0 q65_1 q65_2 q65_3 q65_4 q65_5 q65_6 q65_7=>
 bind (fa 0 q65_3) fun v103x66=>
 bind (ld1 v103x66) fun v104x67=>
 bind (bop .int .neq v104x67 q65_4) fun v106x68=>
 cnd v106x68
 (ret (Out.ret (Value.bool false)))
 (ret (Out.nrm [q65_0,q65_1,q65_2,q65_5,q65_6,q65_7]))) noX ZF)
 (ret (Out.nrm [pt p.h,(Value.bool up),(pt q.h),y3,y4,y5]))) K noX ZF))) X=K [pt p.h,.bool up,pt q.h,y3,y4,y5] X:=by
 have v2:verS D=1\/verS D=2:=by cases D<;>simp[verS]
 have q3:bop .int .neq (.int .u8 r.cl) (.int .u8 255) X=some (.bool (decide (r.cl≠255)),X):=by
  rw[Zn];have hq:((r.cl:Int) !=255)=decide (r.cl≠255):=by
   rw[Bool.eq_iff_iff,bne_iff_ne,decide_eq_true_iff];omega
  rw[hq]
 have ho:bop (.flat [.int,.str,.str,.int,.int]) .eql (.agg r.o.cells.toArray) (.agg upO.cells.toArray) X=some (.bool (decide (r.o=upO)),X):=by
  have:eqv (.flat [.int,.str,.str,.int,.int]) (.agg r.o.cells.toArray) (.agg upO.cells.toArray)=some (decide (r.o=upO)):=Zs7 r.o upO;unfold bop;simp only[this];rfl
 have hbl:bld (.agg #[.int .u8 0,.string ⟨#[]⟩,.string ⟨#[]⟩,.int .u8 0,.int .u8 0]) [(0,1,(Value.int .u8 15))] X=some (.agg upO.cells.toArray,X):=rfl;have q1:bop .int .eql (iv (verS D)) (.int .i64 2) X=some (.bool (decide (verS D=2)),X):=by
  rw[ZE];have hq:((verS D:Int)==2)=decide (verS D=2):=by
   rw[Bool.eq_iff_iff,beq_iff_eq,decide_eq_true_iff];omega
  rw[hq]
 have ne:∀ {x:Int},bop .int .neq (iv x) (iv x) X=some (.bool false,X):=fun {x}=>by rw[Zn];simp
 have tl:∀ {w:Int},e=w->bind (fa 0 (pt b)) (fun v103x66=>bind (ld1 v103x66) fun v104x67=>bind (bop .int .neq v104x67 (iv w)) fun v106x68=>cnd v106x68 (ret (Out.ret (Value.bool false))) (ret (Out.nrm [pt p.h,.bool up,pt q.h,y3,y4,y5]))) X=some (.nrm [pt p.h,.bool up,pt q.h,y3,y4,y5],X):=fun {w} hx=>by
  subst hx;rw[Za Zj,Za (Zv (o:=0) hb rfl),Za ne];rfl
 cases hdn:dn with
 | false=>
  rw[Za (show gate (.bool false) true 3 _ X=some ([ZZ,ZZ,ZZ],X) from rfl),ZV,Za Zl];rw[show cond false ZZ (Value.bool false)=.bool false from rfl,Za (show gate (.bool false) true 4 _ X=some ([ZZ,ZZ,ZZ,ZZ],X) from rfl),ZM,Za Zl];exact ZJ (vs:=[pt p.h,.bool up,pt q.h,y3,y4,y5]) (H':=X) rfl
 | true=>
  rw[Z0,Zk,Za Zj,Zk,Za (Zv (o:=0) ha rfl),Zk,Za q3,Qe,ZV,Za Zl];by_cases hs:r.cl≠255
  .rw[decide_eq_true hs,show cond true (Value.bool true) (Value.bool false)=.bool true from rfl,Z0,Zk,Za (show fa 2 (pt a) X=some (pa a 2,X) from rfl),Zk,Za (ZjG ha),Zk,Za hbl,Zk,Za ho,Qe,ZM,Za Zl];by_cases hu:r.o=upO
   .have hw:=hw hdn hs hu;rw[decide_eq_true hu,show cond true (Value.bool true) (Value.bool false)=.bool true from rfl];refine ZJ (vs:=[pt p.h,.bool up,pt q.h,y3,y4,y5]) (H':=X) ?_;rw[Zb,if_pos rfl,Za q1];by_cases hv:verS D=2
    .rw[if_pos hv] at hw;rw[decide_eq_true hv];refine(ZJ (vs:=[pt p.h,.bool up,pt q.h,pt b,.int .i64 14,y3,y4,y5]) (H':=X) ?_).trans ?_
     .rfl
     .rw[Y5];exact tl hw
    .rw[if_neg hv] at hw;rw[decide_eq_false hv];cases hal:all with
     | true=>
      rw[hal,if_pos rfl] at hw;refine(ZJ (vs:=[pt p.h,.bool up,pt q.h,pt b,.int .i64 0,y3,y4,y5]) (H':=X) ?_).trans ?_
      .rw[Zb,if_neg (by simp)];exact(ZJ (vs:=[pt p.h,.bool up,pt q.h,pt b,.int .i64 0,y3,y4,y5]) (H':=X) rfl).trans rfl
      .rw[Y5];exact tl hw
     | false=>
      rw[hal,if_neg (by simp)] at hw;refine(ZJ (vs:=[pt p.h,.bool up,pt q.h,pt b,.int .i64 13,y3,y4,y5]) (H':=X) ?_).trans ?_
      .rw[Zb,if_neg (by simp)];exact(ZJ (vs:=[pt p.h,.bool up,pt q.h,pt b,.int .i64 13,y3,y4,y5]) (H':=X) rfl).trans rfl
      .rw[Y5];exact tl hw
   .rw[decide_eq_false hu,show cond true (Value.bool false) (Value.bool false)=.bool false from rfl];exact ZJ (vs:=[pt p.h,.bool up,pt q.h,y3,y4,y5]) (H':=X) rfl
  .rw[decide_eq_false hs,show cond true (Value.bool false) (Value.bool false)=.bool false from rfl,Za (show gate (.bool false) true 4 _ X=some ([ZZ,ZZ,ZZ,ZZ],X) from rfl),ZM,Za Zl];exact ZJ (vs:=[pt p.h,.bool up,pt q.h,y3,y4,y5]) (H':=X) rfl
theorem ZCL {up:Bool} {y3 y4 y5:Value} (h:HO X p D T B):∃ X',HLe X X'/\∀ K:M Out,(bind (uop .not (Value.bool up)) fun v108x71=>
 bind (gate v108x71 false 4 (bind ((R (n+19)) Jr [(pt p.h)]) fun v111x72=>
 bind ((R (n+19)) J0 [v111x72,(Value.int .u8 7)]) fun v112x73=>
 bind (bop .int .eql v112x73 (Value.int .u64 1099511627776)) fun v113x74=>
 ret [(pt p.h),v111x72,v112x73,v113x74])) (c4 fun _ _ _ q75_3=>
 bind (pick v108x71 (Value.bool true) q75_3) fun v114x76=>
 cnd v114x76
 (ret (Out.nrm [(pt p.h),y3,y4,y5]))
 K)) X=if up=true/\lastS T 7≠1099511627776 then K X' else some (.nrm [pt p.h,y3,y4,y5],X'):=by
 cases hu:up with
 | false=>
  refine⟨X,.refl _,fun K=>?_⟩;rw[Za ZL,show(!false)=true from rfl,Za (show gate (.bool true) false 4 _ X=some ([ZZ,ZZ,ZZ,ZZ],X) from rfl),ZM,Za Zl,if_neg (by simp)];rfl
 | true=>
  obtain⟨X2,t2,lvs2,fr2,e2,T2,k2,_⟩:=ZBv (n:=n+15) h;have e2:R (n+19) Jr [pt p.h] X=_:=e2;have e3:R (n+19) J0 [pt t2,.int .u8 7] X2=_:=ZFq (n:=n+18) (c:=7) T2;refine⟨X2,k2,fun K=>?_⟩;have q1:bop .int .eql (.int .u64 (lastS T 7)) (.int .u64 1099511627776) X2=some (.bool (decide (lastS T 7=1099511627776)),X2):=by
   rw[ZE];have hq:((lastS T 7:Int)==1099511627776)=decide (lastS T 7=1099511627776):=by
    rw[Bool.eq_iff_iff,beq_iff_eq,decide_eq_true_iff];omega
   rw[hq]
  rw[Za ZL,show(!true)=false from rfl,Z0,Zk,Za e2,Zk,Za e3,Zk,Za q1,Qe,ZM,Za Zl];by_cases hl:lastS T 7=1099511627776
  .rw[decide_eq_true hl,if_neg (fun h=>h.2 hl)];rfl
  .rw[decide_eq_false hl,if_pos ⟨rfl,hl⟩];rfl
end
section
variable {X X' Y H H0:Zd} {n:Nat} {p p' q q':HP} {D D' D1:Z8} {T T' T0:List Ql} {B B' B0:List Nat} {o:OpT} {s:NSt} {r:YM} {rs:List YM} {m:Qw} {e:Int} {l:List Tx} {dn:Bool} {k:Tx} {sl:Value}
theorem ZDY {c:Nat} (hN:∀ row∈T,row.num<=1099511627776):lastS T c<=1099511627776:=by
 unfold lastS;cases h:T[c]? with
 | none=>exact Nat.zero_le _
 | some r=>exact hN r (List.mem_of_getElem? h)
theorem ZE1 (h8:T.length=8) (h:ZkV D T B r e l dn D' T' B') (hN:∀ row∈T,row.num<=1099511627776):(∀ row∈T',row.num<=1099511627776)/\∀ c,lastS T c<=lastS T' c:=by
 rcases h with⟨_,_,_,_,_,_,rfl⟩|⟨_,_,h⟩
 .exact⟨hN,fun _=>Nat.le_refl _⟩
 rcases h with⟨_,_,_,rfl,_⟩|⟨hj,_,_,en,_,rfl⟩
 .exact⟨hN,fun _=>Nat.le_refl _⟩
 obtain⟨j1,j2,j3⟩:=(Zx5 h8).1 hj;refine⟨fun row hr=>?_,fun c=>?_⟩
 .rcases List.mem_or_eq_of_mem_set hr with h|h
  .exact hN row h
  .rw[h];exact j3
 .by_cases hc:r.cl=c
  .subst hc;have:lastS (T.set r.cl ⟨r.num,en,l⟩) r.cl=r.num:=by
    unfold lastS;rw[List.getElem?_set_self (by omega)]
   omega
  .have:lastS (T.set r.cl ⟨r.num,en,l⟩) c=lastS T c:=by
    unfold lastS;rw[List.getElem?_set_ne hc]
   omega
open Classical in
theorem ZDg (h:HO X p D T B):∃ (up:Bool) (X':Zd),(up=true↔UpP D T B r)/\R (n+4) Yk [pt p.h,.agg r.cells.toArray] X=some (.bool up,X')/\HLe X X':=by
 obtain⟨X',e,k⟩:=ZFh (n:=n) (r:=r) h;exact⟨_,X',decide_eq_true_iff,e,k⟩
theorem ZzZ {i:Nat} (hG:GlH H0) (hR:ZfA H0 sl rs) (hF:rs.all Zi5=true) (hn:rs.length<=60) (hi:i < rs.length) (hle:HLe H0 X) (h:HO X p D T B) (ho:∀ j∈p.own,H0.length<=j) (hc:p.c<=999) (hN:∀ row∈T,row.num<=1099511627776) :
  ∃ X' p' D' T' B',ZT.l1 (R (n+19)) (pt p.h) sl (iv rs.length) (iv i) X=some (.nrm [pt p.h,sl,iv rs.length,iv ((i+1:Nat):Int)],X')/\HO X' p' D' T' B'/\p'.h=p.h/\HLe H0 X'/\(∀ j∈p'.own,H0.length<=j)/\p'.c<=p.c+1/\∀ row∈T',row.num<=1099511627776:=by
 have hlt:(i:Int) < rs.length:=by omega
 have hja:=List.getElem?_eq_getElem hi;have hm:rs[i]∈rs:=List.getElem_mem hi;generalize rs[i]=r at hja hm;have hok:=hR.2 r hm;have hfew:r.o.a.length<=100/\r.o.b.length<=100:=by simpa[Zi5] using List.all_eq_true.1 hF r hm
 have hft:=fun {K:Value->M Out}=>(hR.mono hle).fetch (k:=K) hja;have hX0:=hle.len;have k1:HLe X (X++[Ze.cells r.cells 1 false false]):=.app _ _;have c1:(X++[Ze.cells r.cells 1 false false])[X.length]?=some (.cells r.cells 1 false false):=Zo;generalize X++[Ze.cells r.cells 1 false false]=X1 at hft k1 c1;obtain⟨a,ha⟩:∃ a,a=X.length:=⟨_,rfl⟩;rw[<- ha] at hft c1;have aop:a∉p.own:=fun hx=>by have:=h.lt _ hx;omega
 have h1:=h.hle k1;obtain⟨up,X2,hup,e2,k2⟩:=ZDg (n:=n+15) (r:=r) h1;have e2:R (n+19) Yk [pt p.h,.agg r.cells.toArray] X1=_:=e2;have h2:=h1.hle k2;have e2v:R (n+19) Qf [pt p.h] X2=_:=ZqR (n:=n+18) h2;obtain⟨X3,b3,q3,e3,y3,k3,_,_⟩:=ZBK (n:=n+16) h2;have e3:R (n+19) KU [pt p.h] X2=_:=e3;obtain⟨X4,e4,k4⟩:=Zqk (n:=n+16) y3;have e4:R (n+19) YW [pt b3,.int .u8 2] X3=_:=e4;have h4:=(h2.hle k3).hle k4;obtain⟨X5,q,e5,hq,k5,oq,fq,cq⟩:=Zyl (n:=n+14) h4;have e5:R (n+19) QB [pt p.h] X4=_:=e5;have k15:=((k2.trans k3).trans k4).trans k5;have h5:=h4.hle k5;have hfar:=Far.new h4 oq fq;have hle5:=(hle.trans k1).trans k15;obtain⟨v,l,e,dn,p6,D6,T6,B6,X6,e6,s6,o6,m6,fr6,h6,st6,hh6,hc6,ff6,out⟩:=ZtJ (n:=n) (r:=r) (hG.le hle5) h5 (by omega) hok (by omega) (by omega);obtain⟨hq6,_⟩:=h5.other hq hfar st6 ff6;have c6:=st6.get (k15 _ _ c1) aop;have hm6:=hle5.more st6 ho;have z7:∀ K:Value->M Out,bind (alc 1 (.agg #[.int .i64 0,.slice none 0 0])) (fun q=>bind (stA 2 q (.agg #[iv e,v])) fun _=>K q) X6=K (pt X6.length) (X6++[.cells [iv e,v] 1 false false]):=fun K=>ZbB (n:=2) (zs:=[.int .i64 0,.slice none 0 0]) (r:=[iv e,v]) rfl rfl rfl (by rw[List.all_cons,List.all_cons,o6];rfl);have k7:HLe X6 (X6++[Ze.cells [iv e,v] 1 false false]):=.app _ _;have d7:(X6++[Ze.cells [iv e,v] 1 false false])[X6.length]?=some (.cells [iv e,v] 1 false false):=Zo;generalize X6++[Ze.cells [iv e,v] 1 false false]=X7 at z7 k7 d7;have c7:=k7 _ _ c6;have h7:=h6.hle k7;have hq7:=hq6.hle k7;have hle7:=hm6.1.trans k7
 obtain⟨hver,hmono⟩:=ZCe out;obtain⟨hN6,hlast⟩:=ZE1 h.tab.n8 out hN;have tup:up=true->(B.all fun r=>decide (2<=r))=true/\dn=true/\e=0:=fun hu=>by
  have hU:=hup.1 hu;refine⟨hU.2.2.2.2,?_⟩;cases D with
  | now s=>have:=hU.1;cases this
  | old m=>
   obtain⟨d0,b0,w1,w2,w3,w4,_⟩:=h.dir;obtain⟨s,_,_,t1,t2⟩:=UpS.of out hU w3.g.nod w4;exact⟨t2,t1⟩
 have f8:=fun {K:M Out}=>ZBM (n:=n) (up:=up) (all:=B.all fun r=>decide (2<=r)) (a:=a) (y3:=sl) (y4:=iv rs.length) (y5:=iv i) (K:=K) h7 (hup.trans hver.symm) hmono tup d7;have f9:=fun {K:List Value->M Out}=>ZCc (p:=p) (q:=q) (D:=D) (dn:=dn) (up:=up) (all:=B.all fun r=>decide (2<=r)) (y3:=sl) (y4:=iv rs.length) (y5:=iv i) (K:=K) c7 d7 (fun hd hs hu=>ZAr out hd hs hu);obtain⟨X8,k8,f10⟩:=ZCL (n:=n) (up:=up) (y3:=sl) (y4:=iv rs.length) (y5:=iv i) h7;have fin:∃ X9,HLe H0 X9/\HO X9 p6 D6 T6 B6/\(up=true/\lastS T6 7≠1099511627776->(bind (bld (.agg #[.int .u8 0,.string ⟨#[]⟩,.string ⟨#[]⟩,.int .u8 0,.int .u8 0]) [(0,1,(Value.int .u8 4))]) fun v115x77=>
 bind (bld (.agg #[.int .u8 0,.int .u64 0,.int .u8 0,.string ⟨#[]⟩,.string ⟨#[]⟩,.int .u8 0,.int .u8 0]) [(0,1,(Value.int .u8 7)),(1,1,(Value.int .u64 1099511627776)),(2,5,v115x77)]) fun v116x78=>
 bind (alc 1 (.agg #[.int .u8 0,.int .u64 0,.int .u8 0,.string ⟨#[]⟩,.string ⟨#[]⟩,.int .u8 0,.int .u8 0])) fun v13x79=>
 bind (stA 7 v13x79 v116x78) fun _=>
 bind (ldA 7 v13x79) fun v120x80=>
 bind ((R (n+19)) QB [(pt q.h)]) fun v119x81=>
 bind (ldA 7 v13x79) fun u_82=>same u_82 v120x80 <|
 bind ((R (n+19)) ZR [v119x81,v120x80]) fun v121x83=>
 bind (Zm v121x83 0) fun v122x84=>
 bind (Zm v121x83 1) fun v123x85=>
 bind (alc 1 (.agg #[.int .i64 0,.slice none 0 0])) fun v14x86=>
 bind (ldA 7 v13x79) fun u_87=>same u_87 v120x80 <|
 bind (stA 2 v14x86 v122x84) fun _=>
 bind (ldA 7 v13x79) fun v127x88=>
 bind ((R (n+19)) QB [(pt p6.h)]) fun v126x89=>
 bind (ldA 7 v13x79) fun u_90=>same u_90 v127x88 <|
 bind ((R (n+19)) ZR [v126x89,v127x88]) fun v128x91=>
 bind (Zm v128x91 0) fun v129x92=>
 bind (Zm v128x91 1) fun v130x93=>
 bind (alc 1 (.agg #[.int .i64 0,.slice none 0 0])) fun v16x94=>
 bind (ldA 7 v13x79) fun u_95=>same u_95 v127x88 <|
 bind (stA 2 v16x94 v129x92) fun _=>
 bind (ldA 2 v14x86) fun v131x96=>
 bind (ldA 2 v16x94) fun v132x97=>
 bind ((R (n+19)) Zbr [v131x96,v132x97]) fun v133x98=>
 bind (uop .not v133x98) fun v134x99=>
 cnd v134x99
 (ret (Out.ret (Value.bool false)))
 (bind (fa 1 v14x86) fun v135x100=>
 bind (ld1 v135x100) fun v136x101=>
 bind (ZC v136x101) fun v137x102=>
 jn (Zi (c9 (ZT.l2 (R (n+19)))) [(pt p6.h),(pt q.h),v13x79,sl,(iv rs.length),(iv i),v136x101,v137x102,(Value.int .i64 0)]) noN (xk 3 (c4 fun q157_0 q157_1 q157_2 q157_3=>
 ret (Out.nrm [q157_0,q157_1,q157_2,q157_3])) noX) ZF)) X8=some (.nrm [pt p6.h,sl,iv rs.length,iv i],X9))/\(¬ (up=true/\lastS T6 7≠1099511627776)->X9=X8):=by
  by_cases hx:up=true/\lastS T6 7≠1099511627776
  .have hU:=hup.1 hx.1;cases D with
   | now s=>have:=hU.1;cases this
   | old m=>
    obtain⟨d0,b0,w1,w2,w3,w4,_⟩:=h.dir;obtain⟨s,hs,us,_,_⟩:=UpS.of out hU w3.g.nod w4;subst hs;have h8':=h6.tab.n8;have hl6:=ZDY (c:=7) hN6;have hl:=hlast 7;have hl0:lastS T 7 < 1099511627776:=by omega
    have hq8:=hq7.hle k8;obtain⟨X9,e9,i9,j9⟩:=ZBp (n:=n) (y3:=sl) (y4:=iv rs.length) (y5:=iv i) hG (hle7.trans k8) (h7.hle k8) hq8 us (ZxZ h8' (by omega)) (ZxZ h.tab.n8 hl0) (by omega) (by omega);exact⟨X9,i9,j9,fun _=>e9,fun hn=>absurd hx hn⟩
  .exact⟨X8,hle7.trans k8,h7.hle k8,fun h=>absurd h hx,fun _=>rfl⟩
 obtain⟨X9,hle9,h9,g9,g9'⟩:=fin;refine⟨X9,p6,D6,T6,B6,?_,h9,hh6,hle9,hm6.2,hc6,hN6⟩;have f8:=fun {K:M Out}=>by have:=@f8 K;rwa [hh6] at this
 have f10:=fun {K:M Out}=>by have:=f10 K;rwa [hh6] at this
 rw[hh6] at g9;unfold ZT.l1;rw[Za Zt,Zb,if_pos (by simpa using hlt)];refine(ZJ (vs:=[pt p.h,sl,iv rs.length,iv i]) (H':=X9) ?_).trans ?_
 .rw[hft,Za (Qd (n:=7) c1 rfl),Za e2,Za e2v,Za e3,Za e4,Za e5,Za (Qd (n:=7) (k15 _ _ c1) rfl),Za e6,Za Zp,Za Zq,z7];refine f8.trans ?_;refine f9.trans ?_;rw[YN];refine f10.trans ?_;by_cases hx:up=true/\lastS T6 7≠1099511627776
  .rw[if_pos hx];exact g9 hx
  .rw[if_neg hx,g9' hx]
 .rw[ZM,Za ZI,JX (by omega)];rfl
theorem Zz1 (hG:GlH H0) (hR:ZfA H0 sl rs) (hF:rs.all Zi5=true) (hn:rs.length<=60):∀ (t i:Nat) (p:HP) (D:Z8) (T:List Ql) (B:List Nat) (X:Zd),rs.length - i=t->i<=rs.length->HLe H0 X->HO X p D T B->(∀ j∈p.own,H0.length<=j)->p.c+t<=999->(∀ row∈T,row.num<=1099511627776)->
  ∃ X',Zi (c4 (ZT.l1 (R (n+19)))) [pt p.h,sl,iv rs.length,iv i] X=some (.ext 0 [],X')
 | 0,i,p,D,T,B,X,ht,hi,hle,h,ho,hc,hN=>by
  have:i=rs.length:=by omega
  subst this;refine⟨X,Qq ?_⟩;rw[ZM];unfold ZT.l1;rw[Za Zt,Zb,if_neg (by simp)];rfl
 | t+1,i,p,D,T,B,X,ht,hi,hle,h,ho,hc,hN=>by
  obtain⟨X1,p1,D1,T1,B1,e1,i1,i2,i3,i4,i5,i6⟩:=ZzZ (n:=n) (i:=i) hG hR hF hn (by omega) hle h ho (by omega) hN;obtain⟨X2,e2⟩:=Zz1 hG hR hF hn t (i+1) p1 D1 T1 B1 X1 (by omega) (by omega) i3 i1 i4 (by omega) i6;rw[i2] at e2;exact⟨X2,(ZU e1).trans e2⟩
theorem ZCk (hG:GlH H) (h:ZfA H sl rs) (hn:rs.length<=9223372036854775807):∃ H',R (n+20) ZaO [sl] H=some (.bool true,H'):=by
 obtain⟨H1,e1,k1⟩:=ZE7 (n:=n+18) h hn;have e1:R (n+19) W8 [sl] H=_:=e1;have e0:∀ Z,GlH Z->R (n+19) JN [] Z=some (.bool true,Z):=fun Z hZ=>ZAa (n:=n+18) hZ;rw[R,ZjC rfl];unfold ZT;rw[Za (e0 H hG),Za ZL,Bool.not_true,Z0,Zk,Za e1,Zk,Za ZL,Qe,ZV,Za Zl];simp only[cond_false];cases hf:rs.all Zi5 && decide (rs.length<=60) with
 | false=>
  rw[Zb,if_pos (show(!false)=true from rfl),Za (e0 H1 (hG.le k1))];exact⟨H1,rfl⟩
 | true=>
  rw[Bool.and_eq_true,decide_eq_true_iff] at hf;obtain⟨p,H2,e2,ho,k2,o2,c2⟩:=ZEy (n:=n+17) (X:=H1);have e2:R (n+19) ZbX [.int .i64 3] H1=_:=e2;obtain⟨H3,e3⟩:=Zz1 (n:=n) hG h hf.1 hf.2 rs.length 0 p (.old []) ZaV [0,0,0] H2 (by omega) (by omega) (k1.trans k2) ho (fun j hj=>Nat.le_trans k1.len (o2 j hj)) (by omega) (fun row hr=>by rw[List.eq_of_mem_replicate hr];exact Nat.zero_le _);have e3:Zi (c4 (ZT.l1 (R (n+19)))) [pt p.h,sl,iv rs.length,.int .i64 0] H2=_:=e3;rw[Zb,if_neg (by simp),Za e2,Za h.len,Q4 e3,ZP];exact⟨H3,rfl⟩
theorem law_HostUpgrades:∀ (xs:Ins [.slc reqT]) (H:Zd) (vs:List Value),ZuS [.slc reqT] xs->H.take gl.length=gl->ZiZ [.slc reqT] xs H vs->∃ n H',R n ZaO vs H=some (.bool true,H'):=by
 intro xs H vs hwf hg hrd;obtain⟨l,_⟩:=xs;obtain⟨hl,_⟩:=hwf;obtain⟨c1,_,rfl,hc1,h1,rfl⟩:=hrd;obtain⟨a,rfl⟩:∃ a,c1=[a]:=by
  match c1,hc1 with
  | [a],_=>exact⟨a,rfl⟩
 obtain⟨rs,hA,hn⟩:=ZDU hl h1;obtain⟨H',e⟩:=ZCk (n:=0) hg hA hn;exact⟨20,H',e⟩
end
end Go.Proofs.YtgfbgfafajiehaaGreatDoor.A

