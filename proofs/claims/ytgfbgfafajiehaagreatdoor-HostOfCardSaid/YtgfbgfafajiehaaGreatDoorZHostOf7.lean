/- What the law HostOf needs (part 7). -/
import Derived.Test.YtgfbgfafajiehaaGreatDoorZHostOf6
set_option linter.unusedVariables false
set_option linter.unusedSimpArgs false
namespace Go.Proofs.YtgfbgfafajiehaaGreatDoor.A
open Go.Proofs Go.Proofs.YtgfbgfafajiehaaGreatDoor
section
variable {X X' Y:Zd} {n:Nat} {p p':HP} {D D':Qf} {T:List Qy} {B:List Nat} {k m g t:Tx} {o:OpT} {s:NSt} {b:Bool} {r:W7}
theorem ZIy (hG:GlH X) (h:HO X p D T B) (hc:p.c<=1000) (hok:Zn3 o) (ha:o.a.length<=65535) (hb:o.b.length<=65535):∃ (v:Value) (l:List Tx) (q:List Nat) (e:Int) (p':HP) (D':Qf) (X':Zd),
  R (n+17) ZcL [pt p.h,.agg o.cells.toArray] X=some (.agg #[iv e,v],X')/\Zt X' v (l.map strv) q/\(∀ j∈q,X.length<=j)/\l.length<=1000/\YN X X' p p' D D' T B e/\(e≠0->l=[])/\Zs1 D B o e l D':=by
 have a1:=Zlj o X;have k1:HLe X (X++[Zf.cells o.cells 1 false false]):=.app _ _;have c1:(X++[Zf.cells o.cells 1 false false])[X.length]?=some (.cells o.cells 1 false false):=Zn;generalize X++[Zf.cells o.cells 1 false false]=X1 at a1 k1 c1;have a2:alc 1 (.agg #[.int .i64 0,.slice none 0 0]) X1=some (pt X1.length,X1++[.cells [.int .i64 0,.slice none 0 0] 1 false false]):=rfl;have k2:HLe X1 (X1++[Zf.cells [.int .i64 0,.slice none 0 0] 1 false false]):=.app _ _;have c2:(X1++[Zf.cells [.int .i64 0,.slice none 0 0] 1 false false])[X1.length]?=some (.cells [.int .i64 0,.slice none 0 0] 1 false false):=Zn;have d2:=k2 _ _ c1;generalize X1++[Zf.cells [.int .i64 0,.slice none 0 0] 1 false false]=X2 at a2 k2 c2 d2;have k12:=k1.trans k2;obtain⟨X3,a3,k3⟩:=Zwt (n:=n+11) (o:=o) (hG.le k12) hok ha hb;have a3:R (n+16) ZcT [.agg o.cells.toArray] X2=_:=a3;have k13:=k12.trans k3;have c3:=k3 _ _ c2;have d3:=k3 _ _ d2;have H3:=h.hle k13;have n1:=k1.len;have n3:=(k2.trans k3).len;have hp2:X1.length < X3.length:=ZX c3;have hp1:X.length < X1.length:=ZX c1;have own2:X1.length∉p.own:=fun hh=>by have:=h.lt _ hh;omega
 have own1:X.length∉p.own:=fun hh=>by have:=h.lt _ hh;omega
 have fr2:X1.length∉p.fr:=fun hh=>by have:=h.tab.lt _ hh;omega
 have f0:∀ r X',Zbw (R (n+16)) (pt p.h) (.agg o.cells.toArray) X=some (r,X')->R (n+17) ZcL [pt p.h,.agg o.cells.toArray] X=some (r,X'):=fun r X' hr=>by rw[R,ZuQ rfl];exact hr
 have nil:∀ {Z:Zd},Zt Z (.slice none 0 0) (([]:List Tx).map strv) []:=Zt.nil;have q3:bop .int .neq (iv (checkO o)) (.int .i64 0) X3=some (.bool (decide (checkO o≠0)),X3):=by
  rw[Zl];have hq:((checkO o:Int) !=0)=decide (checkO o≠0):=by
   by_cases hz:checkO o=0
   .rw[hz];rfl
   .have h1:((checkO o:Int)==0)=false:=by rw[beq_eq_false_iff_ne];omega
    show(!((checkO o:Int)==0))=_
    rw[h1,decide_eq_true hz];rfl
  rw[hq]
 have l2:ldA 5 (pt X.length) X2=some (.agg o.cells.toArray,X2):=Z8 (n:=5) d2 rfl;have l3:ldA 5 (pt X.length) X3=some (.agg o.cells.toArray,X3):=Z8 (n:=5) d3 rfl;have fin:∀ {Z:Zd} {p':HP} {D':Qf} {e:Int} {w:Value} {i:Int} {v:Value},YN X3 Z p p' D D' T B e->Z[X1.length]?=some (.cells [.int .i64 i,v] 1 false false)->YN X (Z.set X1.length (.cells [iv e,w] 1 false false)) p p' D D' T B e:=fun {Z p' D' e w i v} hA hz=>by
  have ho:X1.length∉p'.own:=fun hh=>by
   rcases hA.st.own _ hh with h1|h1
   .exact own2 h1
   .omega
  have hf:X1.length∉p'.fr:=by rw[hA.fr];exact fr2
  have hB:=YN.pre k13 hA;exact⟨hA.ho.box hz ho hf,⟨by simpa using hB.st.len,fun j hj hn=>by rw[List.getElem?_set_ne (by omega)];exact hB.st.keep j hj hn,hB.st.own⟩,hA.h,hA.t,hA.fr,hA.no,hA.nn,hA.c⟩
 by_cases hk:checkO o=0
 .have q3':decide (checkO o≠0)=false:=by simp[hk]
  obtain⟨v,l,q,e,p',D',X4,a4,r4,o4,n4,A4,e6,sm,hE⟩:=ZCc (n:=n+1) (o:=o) H3 ha hb hok;have a4:R (n+16) W3 [pt p.h,.agg o.cells.toArray] X3=_:=a4;have c4:=A4.st.get c3 own2;have d4:=A4.st.get d3 own1;have hkd:=ZF0 hk;have last:∀ {Z:Zd} {p':HP} {D':Qf} {e:Int} {w:Value} {l:List Tx} {q:List Nat},YN X3 Z p p' D D' T B e->Zt Z w (l.map strv) q->(∀ j∈q,X3.length<=j)->l.length<=1000->Z[X1.length]?=some (.cells [.int .i64 0,.slice none 0 0] 1 false false)->∃ (v:Value) (l':List Tx) (q':List Nat) (Z':Zd),
    bind (bop .int .neq (iv e) (Value.int .i64 0)) (fun v42x28=>cnd v42x28
     (bind (bld (.agg #[.int .i64 0,.slice none 0 0]) [(0,1,iv e)]) fun v44x29=>bind (stA 2 (pt X1.length) v44x29) fun _=>bind (ldA 2 (pt X1.length)) fun vrx30=>ret vrx30)
     (bind (bld (.agg #[.int .i64 0,.slice none 0 0]) [(1,1,w)]) fun v46x31=>bind (stA 2 (pt X1.length) v46x31) fun _=>bind (ldA 2 (pt X1.length)) fun vrx32=>ret vrx32)) Z=some (.agg #[iv e,v],Z')/\Zt Z' v (l'.map strv) q'/\(∀ j∈q',X.length<=j)/\l'.length<=1000/\YN X Z' p p' D D' T B e/\l'=(if e=0 then l else[]):=fun {Z p' D' e w l q} hA hr hq hl hz=>by
   by_cases he:e=0
   .subst he;obtain⟨sa,sn,sc,rfl⟩:=hr.isS;refine⟨.slice sa sn sc,l,q,Z.set X1.length (.cells [iv 0,.slice sa sn sc] 1 false false),?_,hr.keep (fun j hj=>List.getElem?_set_ne (fun e=>by have:=hq j hj;omega)),fun j hj=>by have:=hq j hj;omega,hl,fin hA hz,(if_pos rfl).symm⟩;rw[Za Zl,Zb,if_neg (by simp),Za (show bld (.agg #[.int .i64 0,.slice none 0 0]) [(1,1,.slice sa sn sc)] Z=some (.agg #[iv 0,.slice sa sn sc],Z) from rfl),Za (ZjB hz rfl),Za (Zj8 hz)];rfl
   .refine⟨.slice none 0 0,[],[],Z.set X1.length (.cells [iv e,.slice none 0 0] 1 false false),?_,nil,by simp,by simp,fin hA hz,(if_neg he).symm⟩;rw[Za Zl,Zb,if_pos (by simpa using he),Za (show bld (.agg #[.int .i64 0,.slice none 0 0]) [(0,1,iv e)] Z=some (.agg #[iv e,.slice none 0 0],Z) from rfl),Za (ZjB hz rfl),Za (Zj8 hz)];rfl
  have e1:∀ Z:Zd,fa 1 (pa p.h 0) Z=some (pa p.h 1,Z):=fun Z=>rfl;cases hi:(decide (o.kd<=4) || o.kd==15 || o.kd==16) with
  | true=>
   rw[hi] at a4;have hE:=hE hi;obtain⟨w,l',q',Z',b1,b2,b3,b4,b5,b6⟩:=last A4 r4 o4 n4 c4;refine⟨w,l',q',e,p',D',Z',f0 _ _ ?_,b2,b3,b4,b5,fun he=>by rw[b6,if_neg he],.inr ⟨hk,l,b6,.inl hE⟩⟩;unfold Zbw;rw[Za a1,Za a2,Za l2,Za a3,Za q3,q3',Zb,if_neg (by simp),Za l3,Za a4,Za QG,Za Q7,Za QE,Za ZP,Za (show gate (.bool (!true)) true 5 _ X4=some ([QC,QC,QC,QC,QC],X4) from rfl),QJ,Za Zk];refine(ZC (vs:=[pt X1.length,v,iv e]) (H':=X4) ?_).trans b1;rw[show cond (!true) QC (Value.bool false)=.bool false from rfl,Zb,if_neg (by simp),Za ZP];rfl
  | false=>
   rw[hi] at a4;have hmid:5<=o.kd/\o.kd<=14:=by simp at hi;omega
   obtain⟨rfl,rfl⟩:=sm hmid;have y1:ld1 (pa p'.h 1) X4=some (p'.nv,X4):=Zy A4.ho.cell rfl;have yv:=A4.ho.dir.nv X4;cases D' with
   | old m=>
    have A6:YN X3 X4 p' p' (.old m) (.old m) T B 6:=⟨A4.ho,A4.st,rfl,rfl,rfl,fun _=>rfl,by omega,by omega⟩;obtain⟨w,l',q',Z',b1,b2,b3,b4,b5,b6⟩:=last A6 r4 o4 n4 c4;refine⟨w,l',q',6,p',.old m,Z',f0 _ _ ?_,b2,b3,b4,b5,fun he=>by rw[b6,if_neg he],.inr ⟨hk,l,b6,.inr ⟨hmid.1,hmid.2,rfl,rfl⟩⟩⟩;unfold Zbw;rw[Za a1,Za a2,Za l2,Za a3,Za q3,q3',Zb,if_neg (by simp),Za l3,Za a4,Za QG,Za Q7,Za QE,Za ZP,show(!false)=true from rfl,Z4,Zm,Za Zg,Zm,Za (e1 X4),Zm,Za y1,Zm,Za yv,Z5,QJ,Za Zk];refine(ZC (vs:=[pt X1.length,v,iv 6]) (H':=X4) ?_).trans b1;rfl
   | now s=>
    obtain⟨v5,l5,q5,ee,p5,D5,X5,a5,r5,o5,n5,A5,ne5,hS5⟩:=ZCw (n:=n+1) (o:=o) A4.ho (by have:=A4.c;omega) hmid.1 hmid.2;have a5:R (n+16) W9 [pt p'.h,.agg o.cells.toArray] X4=_:=a5;have l4:ldA 5 (pt X.length) X4=some (.agg o.cells.toArray,X4):=Z8 (n:=5) d4 rfl;have c5:=A5.st.get c4 own2;have hst:Zo p'.own X3 p5.own X5:=A4.st.trans A5.st;have A6:YN X3 X5 p' p5 (.now s) D5 T B ee:=⟨A5.ho,hst,A5.h,A5.t,A5.fr,A5.no,A5.nn,A5.c⟩;obtain⟨w,l',q',Z',b1,b2,b3,b4,b5,b6⟩:=last A6 r5 (fun j hj=>Nat.le_trans A4.st.len (o5 j hj)) n5 c5;refine⟨w,l',q',ee,p5,D5,Z',f0 _ _ ?_,b2,b3,b4,b5,fun he=>by rw[b6,if_neg he],.inr ⟨hk,l5,b6,.inr ⟨hmid.1,hmid.2,hS5⟩⟩⟩;unfold Zbw;rw[Za a1,Za a2,Za l2,Za a3,Za q3,q3',Zb,if_neg (by simp),Za l3,Za a4,Za QG,Za Q7,Za QE,Za ZP,show(!false)=true from rfl,Z4,Zm,Za Zg,Zm,Za (e1 X4),Zm,Za y1,Zm,Za yv,Z5,QJ,Za Zk];refine(ZC (vs:=[pt X1.length,v5,iv ee]) (H':=X5) ?_).trans b1;rw[show cond true (Value.bool (decide (verS (.now s)=1))) (Value.bool false)=.bool false from rfl,Zb,if_neg (by simp),Za ZP];refine(ZC (vs:=[pt X1.length,v5,iv ee]) (H':=X5) ?_).trans rfl;rw[Zb,if_pos (show(!false)=true from rfl),Za l4,Za a5,Za Zp,Za Zq];rfl
 .have q3':decide (checkO o≠0)=true:=by simp[hk]
  refine⟨.slice none 0 0,[],[],checkO o,p,D,X3.set X1.length (.cells [iv (checkO o),.slice none 0 0] 1 false false),f0 _ _ ?_,nil,by simp,by simp,fin (YN.refl H3 (by omega)) c3,fun _=>rfl,.inl ⟨hk,rfl,rfl,rfl⟩⟩;unfold Zbw;rw[Za a1,Za a2,Za l2,Za a3,Za q3,q3',Zb,if_pos rfl,Za (show bld (.agg #[.int .i64 0,.slice none 0 0]) [(0,1,iv (checkO o))] X3=some (.agg #[iv (checkO o),.slice none 0 0],X3) from rfl),Za (ZjB c3 rfl),Za (Zj8 c3)];rfl
theorem ZIk (ha:o.a.length<=65535) (hb:o.b.length<=65535) (hok:Zn3 o):ZEO (n+18) D T B o (Zs1 D B o):=fun X p hG h hc=>by
 obtain⟨v,l,q,e,p',D',X',e1,h1,h2,h3,h4,h5,h6⟩:=ZIy (n:=n+1) (o:=o) hG h hc hok ha hb;exact⟨v,l,q,e,p',D',X',e1,h1,h2,h3,h4,h5,h6⟩
def Zhm (B:List Nat) (r:W7):Nat × Bool × List Nat:=if r.num≠0\/r.o.kd≠16\/checkO r.o≠0 then(1,false,B) else(Zhw B r.o.nd r.o.rl,true,Zl5 B r.o.nd r.o.rl)
theorem ZGf (hG:GlH X) (h:HO X p D T B) (hok:ZmN r) (ha:r.o.a.length<=65535) (hb:r.o.b.length<=65535):∃ (e:Nat) (dn:Bool) (B':List Nat) (X':Zd),
  R (n+18) Zba [pt p.h,.agg r.cells.toArray] X=some (.tuple #[.agg #[iv e,.slice none 0 0],.bool dn],X')/\HO X' p D T B'/\Zo p.own X p.own X'/\(e,dn,B')=Zhm B r:=by
 have a1:=Zvs r X;have k1:HLe X (X++[Zf.cells r.cells 1 false false]):=.app _ _;have c1:(X++[Zf.cells r.cells 1 false false])[X.length]?=some (.cells r.cells 1 false false):=Zn;generalize X++[Zf.cells r.cells 1 false false]=X1 at a1 k1 c1;have a2:alc 1 (.agg #[.int .i64 0,.slice none 0 0]) X1=some (pt X1.length,X1++[.cells [.int .i64 0,.slice none 0 0] 1 false false]):=rfl;have k2:HLe X1 (X1++[Zf.cells [.int .i64 0,.slice none 0 0] 1 false false]):=.app _ _;have c2:(X1++[Zf.cells [.int .i64 0,.slice none 0 0] 1 false false])[X1.length]?=some (.cells [.int .i64 0,.slice none 0 0] 1 false false):=Zn;have d2:=k2 _ _ c1;generalize X1++[Zf.cells [.int .i64 0,.slice none 0 0] 1 false false]=X2 at a2 k2 c2 d2;have k12:=k1.trans k2;have H2:=h.hle k12;have n1:=k1.len;have hp1:X.length < X1.length:=ZX c1;obtain⟨X3,a3,k3⟩:=Zwt (n:=n+12) (o:=r.o) (hG.le k12) hok.o ha hb;have a3:R (n+17) ZcT [.agg r.o.cells.toArray] X2=_:=a3;have H3:=H2.hle k3;have c3:=k3 _ _ c2;have d3:=k3 _ _ d2;have own2:X1.length∉p.own:=fun hh=>by have:=h.lt _ hh;omega
 have fr2:X1.length∉p.fr:=fun hh=>by have:=h.tab.lt _ hh;omega
 have f0:∀ v X',W0 (R (n+17)) (pt p.h) (.agg r.cells.toArray) X=some (v,X')->R (n+18) Zba [pt p.h,.agg r.cells.toArray] X=some (v,X'):=fun v X' hr=>by rw[R,ZsL rfl];exact hr
 have b1:ld1 (pa X.length 1) X2=some (.int .u64 r.num,X2):=Zy d2 rfl;have b2:ld1 (pa X.length 2) X2=some (.int .u8 r.o.kd,X2):=Zy d2 rfl;have q1:bop .int .neq (.int .u64 r.num) (.int .u64 0) X2=some (.bool (decide (r.num≠0)),X2):=by
  rw[Zl];have hq:((r.num:Int) !=0)=decide (r.num≠0):=by
   by_cases hz:r.num=0
   .rw[hz];rfl
   .have h1:((r.num:Int)==0)=false:=by rw[beq_eq_false_iff_ne];omega
    show(!((r.num:Int)==0))=_
    rw[h1,decide_eq_true hz];rfl
  rw[hq]
 have q2:bop .int .neq (.int .u8 r.o.kd) (.int .u8 16) X2=some (.bool (decide (r.o.kd≠16)),X2):=by
  rw[Zl];have hq:((r.o.kd:Int) !=16)=decide (r.o.kd≠16):=by
   by_cases hz:r.o.kd=16
   .rw[hz];rfl
   .have h1:((r.o.kd:Int)==16)=false:=by rw[beq_eq_false_iff_ne];omega
    show(!((r.o.kd:Int)==16))=_
    rw[h1,decide_eq_true hz];rfl
  rw[hq]
 have q3:bop .int .neq (iv (checkO r.o)) (.int .i64 0) X3=some (.bool (decide (checkO r.o≠0)),X3):=by
  rw[Zl];have hq:((checkO r.o:Int) !=0)=decide (checkO r.o≠0):=by
   by_cases hz:checkO r.o=0
   .rw[hz];rfl
   .have h1:((checkO r.o:Int)==0)=false:=by rw[beq_eq_false_iff_ne];omega
    show(!((checkO r.o:Int)==0))=_
    rw[h1,decide_eq_true hz];rfl
  rw[hq]
 have no:∀ {Z:Zd},HLe X2 Z->(∃ Z',bind (bld (.agg #[.int .i64 0,.slice none 0 0]) [(0,1,(Value.int .i64 1))]) (fun v21x18=>bind (stA 2 (pt X1.length) v21x18) fun _=>bind (ldA 2 (pt X1.length)) fun vrx19=>ret (Value.tuple #[vrx19,(Value.bool false)])) Z=some (.tuple #[.agg #[iv 1,.slice none 0 0],.bool false],Z')/\HO Z' p D T B/\Zo p.own X p.own Z'):=fun {Z} hz=>by
  have cz:=hz _ _ c2;refine⟨Z.set X1.length (.cells [iv 1,.slice none 0 0] 1 false false),?_,(H2.hle hz).box cz own2 fr2,?_⟩
  .rw[Za (show bld (.agg #[.int .i64 0,.slice none 0 0]) [(0,1,(Value.int .i64 1))] Z=some (.agg #[iv 1,.slice none 0 0],Z) from rfl),Za (ZjB cz rfl),Za (Zj8 cz)];rfl
  .have kz:=k12.trans hz;exact⟨by simpa using kz.len,fun j hj hn=>by rw[List.getElem?_set_ne (by omega),List.getElem?_eq_getElem hj];exact kz _ _ (List.getElem?_eq_getElem hj),fun j hj=>.inl hj⟩
 have g1:fa 1 (pt X.length) X2=some (pa X.length 1,X2):=rfl;have g2:∀ Z:Zd,fa 2 (pt X.length) Z=some (pa X.length 2,Z):=fun Z=>rfl;by_cases c_1:r.num≠0
 .obtain⟨Z',e1,e2,e3⟩:=no (.refl X2);refine⟨1,false,B,Z',f0 _ _ ?_,e2,e3,(if_pos (by omega)).symm⟩;unfold W0;rw[Za a1,Za a2,Za g1,Za b1,Za q1,decide_eq_true c_1,Za (show gate (.bool true) false 4 _ X2=some ([QC,QC,QC,QC],X2) from rfl),ZL,Za Zk];simp only[cond_true];rw[Za (show gate (.bool true) false 4 _ X2=some ([QC,QC,QC,QC],X2) from rfl),ZL,Za Zk];simp only[cond_true];rw[Zb,if_pos rfl];exact e1
 by_cases c_2:r.o.kd≠16
 .obtain⟨Z',e1,e2,e3⟩:=no (.refl X2);refine⟨1,false,B,Z',f0 _ _ ?_,e2,e3,(if_pos (by omega)).symm⟩;unfold W0;rw[Za a1,Za a2,Za g1,Za b1,Za q1,decide_eq_false c_1,Z4,Zm,Za (g2 X2),Zm,Za (show fa 0 (pa X.length 2) X2=some (pa X.length 2,X2) from rfl),Zm,Za b2,Zm,Za q2,Z5,ZL,Za Zk];simp only[cond_false];rw[decide_eq_true c_2,Za (show gate (.bool true) false 4 _ X2=some ([QC,QC,QC,QC],X2) from rfl),ZL,Za Zk];simp only[cond_true];rw[Zb,if_pos rfl];exact e1
 by_cases c_3:checkO r.o≠0
 .obtain⟨Z',e1,e2,e3⟩:=no k3;refine⟨1,false,B,Z',f0 _ _ ?_,e2,e3,(if_pos (by omega)).symm⟩;unfold W0;rw[Za a1,Za a2,Za g1,Za b1,Za q1,decide_eq_false c_1,Z4,Zm,Za (g2 X2),Zm,Za (show fa 0 (pa X.length 2) X2=some (pa X.length 2,X2) from rfl),Zm,Za b2,Zm,Za q2,Z5,ZL,Za Zk];simp only[cond_false];rw[decide_eq_false c_2,Z4,Zm,Za (g2 X2),Zm,Za (Zzc d2),Zm,Za a3,Zm,Za q3,Z5,ZL,Za Zk];simp only[cond_false];rw[decide_eq_true c_3,Zb,if_pos rfl];exact e1
 .have hx3:ld1 (pa p.h 3) X3=some (pt p.b,X3):=Zy H3.cell rfl;have b3:ld1 (pa X.length 5) X3=some (.int .u8 r.o.nd,X3):=Zy d3 rfl;have b4:ld1 (pa X.length 6) X3=some (.int .u8 r.o.rl,X3):=Zy d3 rfl;have hnd:=hok.o.nd;obtain⟨X4,a4,B4,s4,l4⟩:=ZIm (n:=n+16) (a:=r.o.nd) (r:=r.o.rl) H3.brd (by omega);have a4:R (n+17) ZaI [pt p.b,.int .u8 r.o.nd,.int .u8 r.o.rl] X3=_:=a4;obtain⟨H4,t4⟩:=H3.note s4 B4;have c4:=t4.get c3 own2;refine⟨Zhw B r.o.nd r.o.rl,true,Zl5 B r.o.nd r.o.rl,X4.set X1.length (.cells [iv (Zhw B r.o.nd r.o.rl),.slice none 0 0] 1 false false),f0 _ _ ?_,H4.box c4 own2 fr2,?_,(if_neg (by omega)).symm⟩
  .unfold W0;rw[Za a1,Za a2,Za g1,Za b1,Za q1,decide_eq_false c_1,Z4,Zm,Za (g2 X2),Zm,Za (show fa 0 (pa X.length 2) X2=some (pa X.length 2,X2) from rfl),Zm,Za b2,Zm,Za q2,Z5,ZL,Za Zk];simp only[cond_false];rw[decide_eq_false c_2,Z4,Zm,Za (g2 X2),Zm,Za (Zzc d2),Zm,Za a3,Zm,Za q3,Z5,ZL,Za Zk];simp only[cond_false];rw[decide_eq_false c_3,Zb,if_neg (by simp),Za Zg,Za (show fa 3 (pa p.h 0) X3=some (pa p.h 3,X3) from rfl),Za hx3,Za (g2 X3),Za (show fa 3 (pa X.length 2) X3=some (pa X.length 5,X3) from rfl),Za b3,Za (g2 X3),Za (show fa 4 (pa X.length 2) X3=some (pa X.length 6,X3) from rfl),Za b4,Za a4,Za (show bld (.agg #[.int .i64 0,.slice none 0 0]) [(0,1,iv (Zhw B r.o.nd r.o.rl))] X4=some (.agg #[iv (Zhw B r.o.nd r.o.rl),.slice none 0 0],X4) from rfl),Za (ZjB c4 rfl),Za (Zj8 c4)];rfl
  .have kz:=k12.trans k3;exact⟨by simpa using Nat.le_trans kz.len t4.len,fun j hj hn=>by rw[List.getElem?_set_ne (by omega),t4.keep j (Nat.lt_of_lt_of_le hj kz.len) hn,List.getElem?_eq_getElem hj];exact kz _ _ (List.getElem?_eq_getElem hj),fun j hj=>.inl hj⟩
end
section
variable {X X' Y H0:Zd} {n:Nat} {p p':HP} {D D':Qf} {T:List Qy} {B:List Nat} {o:OpT} {s:NSt} {r:W7}
theorem Zzw {a c:Value} {l:List Tx} (hu:l.length<=1000) (ha:Sl X a (l.map strv)) (hc:Sl X c (l.map strv)):∀ (t j:Nat),l.length - j=t->j<=l.length->
  Zj (c4 (QI.l1 (R n))) [a,c,iv l.length,iv j] X=some (.ext 0 [],X)
 | 0,j,ht,hj=>by
  have:j=l.length:=by omega
  subst this;refine ZZ ?_;rw[ZL];unfold QI.l1;rw[Za Zs,Zb,if_neg (by simp)];rfl
 | t+1,j,ht,hj=>by
  have hjl:j < l.length:=by omega
  have hlt:(j:Int) < l.length:=by omega
  have hg:=List.getElem?_eq_getElem hjl;generalize l[j]=x at hg;have x1:=ha.ix (i:=j) (by simpa using hjl) .i64 X;have x2:=ha.ldx (i:=j) (v:=strv x) (by rw[List.getElem?_map,hg];rfl);have x3:=hc.ix (i:=j) (by simpa using hjl) .i64 X;have x4:=hc.ldx (i:=j) (v:=strv x) (by rw[List.getElem?_map,hg];rfl);have q0:bop .str .neq (strv x) (strv x) X=some (.bool false,X):=by rw[Zhl];simp
  refine(ZJ ?_).trans (Zzw hu ha hc t (j+1) (by omega) (by omega));rw[ZL];unfold QI.l1;rw[Za Zs,Zb,if_pos (by simpa using hlt),Za x1,Za x2,Za x3,Za x4,Za q0,Zb,if_neg (by simp),Za ZG,Je (by omega)];rfl
theorem ZHe {a c:Value} {l:List Tx} (hu:l.length<=1000) (ha:Sl X a (l.map strv)) (hc:Sl X c (l.map strv)):R (n+1) Kb [a,c] X=some (.bool true,X):=by
 have e:=Zzw (n:=n) hu ha hc l.length 0 (by omega) (by omega);have e:Zj (c4 (QI.l1 (R n))) [a,c,iv l.length,.int .i64 0] X=_:=e;have h1:=ha.len (H':=X);have h2:=hc.len (H':=X);rw[List.length_map] at h1 h2;rw[R,Zh6 rfl];unfold QI;rw[Za h1,Za h2,Za Zl,Zb,if_neg (by simp),Za h1,Qk e,ZI];rfl
theorem ZyC {e:Int} {a c:Value} {l:List Tx} (hu:l.length<=1000) (ha:Sl X a (l.map strv)) (hc:Sl X c (l.map strv)) (h1:oneCell a=true) (h2:oneCell c=true):∃ X',R (n+2) ZdN [.agg #[iv e,a],.agg #[iv e,c]] X=some (.bool true,X')/\HLe X X':=by
 have a1:alc 1 (.agg #[iv e,a]) X=some (pt X.length,X++[.cells [iv e,a] 1 false false]):=by
  unfold alc Zvq;rw[if_pos (by simp[Value.cells,oneCell,h1]<;>exact h1)];rfl
 have k1:HLe X (X++[Zf.cells [iv e,a] 1 false false]):=.app _ _;have c1:(X++[Zf.cells [iv e,a] 1 false false])[X.length]?=some (.cells [iv e,a] 1 false false):=Zn;generalize X++[Zf.cells [iv e,a] 1 false false]=X1 at a1 k1 c1;have a2:alc 1 (.agg #[iv e,c]) X1=some (pt X1.length,X1++[.cells [iv e,c] 1 false false]):=by
  unfold alc Zvq;rw[if_pos (by simp[Value.cells,oneCell,h2]<;>exact h2)];rfl
 have k2:HLe X1 (X1++[Zf.cells [iv e,c] 1 false false]):=.app _ _;have c2:(X1++[Zf.cells [iv e,c] 1 false false])[X1.length]?=some (.cells [iv e,c] 1 false false):=Zn;have d1:=k2 _ _ c1;generalize X1++[Zf.cells [iv e,c] 1 false false]=X2 at a2 k2 c2 d1;have k12:=k1.trans k2;have e3:R (n+1) Kb [a,c] X2=_:=ZHe (n:=n) hu (ha.mono k12) (hc.mono k12);refine⟨X2,?_,k12⟩;rw[R,ZCE rfl];unfold ZsN;have b1:ld1 (pa X.length 0) X2=some (iv e,X2):=Zy (o:=0) d1 rfl;have b2:ld1 (pa X1.length 0) X2=some (iv e,X2):=Zy (o:=0) c2 rfl;have q1:bop .int .eql (iv e) (iv e) X2=some (.bool true,X2):=by rw[ZA];simp
 have q2:bop .int .neq (iv e) (.int .i64 0) X2=some (.bool (e !=0),X2):=by rw[Zl]
 rw[Za a1,Za a2,Za Zi,Za b1,Za Zi,Za b2,Za q1,Z4,Zm,Za Zi,Zm,Za b1,Zm,Za q2,Z5,ZL];cases he:e !=0 with
 | true=>
  rw[Za (show gate (.bool true) false 5 _ X2=some ([QC,QC,QC,QC,QC],X2) from rfl),QJ,Z4,Zm,Za Zk,Z5,Yi,Za Zk];rfl
 | false=>
  rw[Z4,Zm,Za (show fa 1 (pt X.length) X2=some (pa X.length 1,X2) from rfl),Zm,Za (Zy (o:=1) d1 rfl),Zm,Za (show fa 1 (pt X1.length) X2=some (pa X1.length 1,X2) from rfl),Zm,Za (Zy (o:=1) c2 rfl),Zm,Za e3,Z5,QJ,Z4,Zm,Za Zk,Z5,Yi,Za Zk];rfl
theorem ZzX {rows:List Qy} {i:Nat} {r:Qy} (h8:rows.length=8) (hi:i < 8) (hr:rows[i]?=some r):(rows.take i++ZbN.drop i).set i r=rows.take (i+1)++ZbN.drop (i+1):=by
 have hl:(rows.take i).length=i:=by rw[List.length_take];omega
 have ht:ZbN.length=8:=rfl;rw[List.set_append_right _ _ (by omega),hl,Nat.sub_self,List.drop_eq_getElem_cons (l:=ZbN) (i:=i) (by omega),List.set_cons_zero,List.take_add_one,hr,List.append_assoc];rfl
theorem Tab.ixI {c t:Nat} (hc:c < 8):ZaD 8 3 (pa t 0) (iv c) X=some (pa t (c * 3),X):=by
 rw[QS,if_pos ⟨by omega,by omega⟩];simp
theorem ZyS {rows:List Qy} {lvs:List Value} {fr:List Nat} {t u:Nat} (h:Tab H0 t rows lvs fr) (hu:H0.length<=u):∀ (k i:Nat) (X:Zd) (lvs':List Value) (fr':List Nat),8 - i=k->i<=8->HLe H0 X->Tab X u (rows.take i++ZbN.drop i) lvs' fr'->(∀ j∈fr',H0.length<=j)->
  ∃ X' lvs'' fr'',Zj (c3 (YI.l1 (R (n+2)))) [pt u,.agg (QY rows lvs).toArray,iv i] X=some (.ext 0 [pt u],X')/\Tab X' u rows lvs'' fr''/\HLe H0 X'/\∀ j∈fr'',H0.length<=j
 | 0,i,X,lvs',fr',ht,hi,hle,h2,hf=>by
  have:i=8:=by omega
  subst this;refine⟨X,lvs',fr',ZZ ?_,?_,hle,hf⟩
  .rw[ZY];unfold YI.l1;rw[Za Zs,Zb,if_neg (by decide)];rfl
  .have:rows.take 8++ZbN.drop 8=rows:=by rw[List.take_of_length_le (by rw[h.n8];omega)];simp[ZbN]
   rwa [this] at h2
 | k+1,i,X,lvs',fr',ht,hi,hle,h2,hf=>by
  have hi8:i < 8:=by omega
  have hlt:(i:Int) < 8:=by omega
  obtain⟨row,lv,hr,hl⟩:=h.row hi8;have hx:=h.txt i row lv hr hl;have q0:ixv true 8 3 (.agg (QY rows lvs).toArray) (iv i) X=some (.agg (Jr row lv).toArray,X):=by
   unfold ixv;simp only;rw[if_pos ⟨by omega,hlt⟩];unfold prt;simp only[cond_true];have:=Zig hr hl;rw[show((i:Int).toNat)=i by omega,List.extract_toArray];rw[List.extract_eq_take_drop];rw[show i * 3+3 - i * 3=3 by omega,this]
  have z1:∀ K:Value->M Out,bind (alc 1 (.agg #[.int .u64 0,.int .i64 0,.slice none 0 0])) (fun q=>bind (stA 3 q (.agg (Jr row lv).toArray)) fun _=>K q) X=K (pt X.length) (X++[.cells (Jr row lv) 1 false false]):=fun K=>ZaX (n:=3) (zs:=[.int .u64 0,.int .i64 0,.slice none 0 0]) (r:=Jr row lv) rfl rfl rfl (by unfold Jr;rw[List.all_cons,List.all_cons,List.all_cons,hx.one];rfl);have k1:HLe X (X++[Zf.cells (Jr row lv) 1 false false]):=.app _ _;have c1:(X++[Zf.cells (Jr row lv) 1 false false])[X.length]?=some (.cells (Jr row lv) 1 false false):=Zn;generalize X++[Zf.cells (Jr row lv) 1 false false]=X1 at z1 k1 c1;have h3:=hle.trans k1;obtain⟨v,q,X2,e2,r2,k2,o2⟩:=Zsy (n:=n) (e:=row.e) (hx.sl.mono h3) hx.few hx.one;have n1:=k1.len;have n0:=h3.len;have hle2:=h3.trans k2;have h4:=(h2.hle k1).hle k2;have c2:=k2 _ _ c1;have l1:ld1 (pa X.length 0) X1=some (.int .u64 row.num,X1):=Zy (o:=0) c1 rfl;have l2:ld1 (pa X.length 0) X2=some (.int .u64 row.num,X2):=Zy (o:=0) c2 rfl;have hb:bld (.agg #[.int .u64 0,.int .i64 0,.slice none 0 0]) [(0,1,.int .u64 row.num),(1,2,.agg #[iv row.e,v])] X2=some (.agg #[.int .u64 row.num,iv row.e,v],X2):=by
   rw[JU];rfl
  have hlen:=ZgA h4.n8 h4.l8;have hkeep:Wk row.e row.l=row.l:=by
   unfold Wk;split
   .rfl
   .rename_i hne;exact(h.err row (List.mem_of_getElem? hr) (fun h0=>hne (by rw[h0];rfl))).symm
  have s3:stA 3 (pa u (i * 3)) (.agg #[.int .u64 row.num,iv row.e,v]) X2=some (undef,X2.set u (.cells (QY ((rows.take i++ZbN.drop i).set i ⟨row.num,row.e,Wk row.e row.l⟩) (lvs'.set i v)) 1 false false)):=by
   have:=ZBd (vs:=Jr ⟨row.num,row.e,Wk row.e row.l⟩ v) (o:=i * 3) (k:=3) h4.cell (by rw[hlen];omega) rfl (by unfold Jr;rw[List.all_cons,List.all_cons,List.all_cons,r2.one.1];rfl);rw[ZA7 h4.n8 h4.l8 hi8] at this;exact this
  have hul:u < X.length:=h2.lt _ h2.t;have uq:u∉q:=fun hh=>by have:=o2 _ hh;omega
  have h5:=h4.put (m:=row.num) (e:=row.e) hi8 r2 hx.few uq (ZW h4.cell) (by simp) (fun j hj=>List.getElem?_set_ne (fun e=>hj e.symm));rw[hkeep,ZzX h.n8 hi8 hr] at h5;have k5:HLe H0 (X2.set u (.cells (QY ((rows.take i++ZbN.drop i).set i ⟨row.num,row.e,Wk row.e row.l⟩) (lvs'.set i v)) 1 false false)):=hle2.put hu;rw[hkeep,ZzX h.n8 hi8 hr] at s3 k5;generalize X2.set u (.cells (QY (rows.take (i+1)++ZbN.drop (i+1)) (lvs'.set i v)) 1 false false)=X3 at s3 h5 k5;obtain⟨X4,lvs4,fr4,e4,h6,k6,o6⟩:=ZyS h hu k (i+1) X3 _ _ (by omega) (by omega) k5 h5 (fun j hj=>by
   rcases List.mem_append.1 hj with h1|h1
   .exact hf j h1
   .have:=o2 _ h1;omega)
  refine⟨X4,lvs4,fr4,(ZJ ?_).trans e4,h6,k6,o6⟩;rw[ZY];unfold YI.l1;rw[Za Zs,Zb,if_pos (by simpa using hlt),Za q0,z1,Za Zi,Za l1,Za (show fa 1 (pt X.length) X1=some (pa X.length 1,X1) from rfl),Za (show ldA 2 (pa X.length 1) X1=some (.agg #[iv row.e,lv],X1) from Zp3 (o:=1) (k:=2) c1 (by simp[Jr])),Za Zg,Za Zi,Za e2,Za l2,Ql,Za hb,Za (Tab.ixI hi8),Za s3,Za ZG,Je (by omega)];rfl
theorem ZkV {rows:List Qy} {lvs:List Value} {fr:List Nat} {t:Nat} (h:Tab X t rows lvs fr):∃ X' lvs' fr',R (n+3) Kv [pt t] X=some (pt X.length,X')/\Tab X' X.length rows lvs' fr'/\HLe X X'/\∀ j∈fr',X.length<=j:=by
 have e1:R (n+2) Zc3 [] X=_:=Zur (n:=n+1);have t1:Tab (X++[.cells (QY ZbN (List.replicate 8 (.slice none 0 0))) 1 false false]) X.length ZbN (List.replicate 8 (.slice none 0 0)) [X.length]:=ZBk (by simp) (by simp);have k1:HLe X (X++[.cells (QY ZbN (List.replicate 8 (.slice none 0 0))) 1 false false]):=.app _ _;generalize X++[.cells (QY ZbN (List.replicate 8 (.slice none 0 0))) 1 false false]=X1 at e1 t1 k1;obtain⟨X2,lvs2,fr2,e2,h2,k2,o2⟩:=ZyS (n:=n) h (Nat.le_refl _) 8 0 X1 _ _ rfl (by omega) k1 t1 (by simp);have e2:Zj (c3 (YI.l1 (R (n+2)))) [pt X.length,.agg (QY rows lvs).toArray,.int .i64 0] X1=_:=e2;have hl:ldA 24 (pa t 0) X1=some (.agg (QY rows lvs).toArray,X1):=by
  have hn:=ZgA h.n8 h.l8;rw[Zp3 (k1 _ _ h.cell) (by omega),List.drop_zero,List.take_of_length_le (by omega)]
 refine⟨X2,lvs2,fr2,?_,h2,k2,o2⟩;rw[R,ZoB rfl];unfold YI;rw[Za e1,Za Zg,Za Zi,Za hl,Qk e2,ZI,Yi];rfl
theorem Zjq (h:HO X p D T B):∃ X' t lvs' fr',R (n+4) Q2 [pt p.h] X=some (pt t,X')/\Tab X' t T lvs' fr'/\HLe X X'/\∀ j∈fr',X.length<=j:=by
 obtain⟨X',lvs',fr',e1,h1,k1,o1⟩:=ZkV (n:=n) h.tab;refine⟨X',X.length,lvs',fr',?_,h1,k1,o1⟩;rw[R,ZqP rfl];unfold Zf4;rw[Za Zg,Za (show fa 2 (pa p.h 0) X=some (pa p.h 2,X) from rfl),Za (Zy h.cell rfl),Za e1];rfl
end
section
variable {X X' Y:Zd} {n:Nat} {p p' q q':HP} {D D' D1 D1' E:Qf} {T T' T1 U:List Qy} {B B' B1 V:List Nat} {o:OpT} {s t:NSt} {r:W7} {m m':QH} {e e1:Int} {l l1:List Tx} {dn dn1:Bool}
def ZF2 (D:Qf) (T:List Qy) (B:List Nat) (r:W7) (e:Int) (l:List Tx) (dn:Bool) (D':Qf) (T':List Qy) (B':List Nat):Prop:=
 (r.cl=255/\e=((Zhm B r).1:Nat)/\dn=(Zhm B r).2.1/\B'=(Zhm B r).2.2/\l=[]/\D'=D/\T'=T)\/
 (r.cl≠255/\B'=B/\ZJl (Zs1 D B r.o) D T r e l dn D' T')
theorem ZEI (hG:GlH X) (h:HO X p D T B) (hok:ZmN r) (hs:r.cl=255) (ha:r.o.a.length<=65535) (hb:r.o.b.length<=65535):∃ (X':Zd),
  R (n+19) Q1 [pt p.h,.agg r.cells.toArray] X=some (.tuple #[.agg #[iv ((Zhm B r).1:Nat),.slice none 0 0],.bool (Zhm B r).2.1],X')/\HO X' p D T (Zhm B r).2.2/\Zo p.own X p.own X':=by
 have a1:=Zvs r X;have k1:HLe X (X++[Zf.cells r.cells 1 false false]):=.app _ _;have c1:(X++[Zf.cells r.cells 1 false false])[X.length]?=some (.cells r.cells 1 false false):=Zn;generalize X++[Zf.cells r.cells 1 false false]=X1 at a1 k1 c1;have a2:alc 1 (.agg #[.int .i64 0,.slice none 0 0]) X1=some (pt X1.length,X1++[.cells [.int .i64 0,.slice none 0 0] 1 false false]):=rfl;have k2:HLe X1 (X1++[Zf.cells [.int .i64 0,.slice none 0 0] 1 false false]):=.app _ _;have c2:(X1++[Zf.cells [.int .i64 0,.slice none 0 0] 1 false false])[X1.length]?=some (.cells [.int .i64 0,.slice none 0 0] 1 false false):=Zn;have d2:=k2 _ _ c1;generalize X1++[Zf.cells [.int .i64 0,.slice none 0 0] 1 false false]=X2 at a2 k2 c2 d2;have k12:=k1.trans k2;have H2:=h.hle k12;have G2:=hG.le k12;have n1:=k1.len;have hp1:X.length < X1.length:=ZX c1;have own2:X1.length∉p.own:=fun hh=>by have:=h.lt _ hh;omega
 have fr2:X1.length∉p.fr:=fun hh=>by have:=h.tab.lt _ hh;omega
 have b0:ld1 (pa X.length 0) X2=some (.int .u8 r.cl,X2):=Zy d2 rfl;have q0:bop .int .eql (.int .u8 r.cl) (.int .u8 255) X2=some (.bool true,X2):=by
  rw[ZA,hs];rfl
 obtain⟨e,dn,B',X3,e3,H3,s3,hn⟩:=ZGf (n:=n) (r:=r) G2 H2 hok ha hb;have e3:R (n+18) Zba [pt p.h,.agg r.cells.toArray] X2=_:=e3;have c3:=s3.get c2 own2;rw[<- hn];refine⟨X3.set X1.length (.cells [iv e,.slice none 0 0] 1 false false),?_,H3.box c3 own2 fr2,⟨by simpa using Nat.le_trans k12.len s3.len,fun j hj hn=>?_,fun j hj=>.inl hj⟩⟩
 .rw[R,ZiB rfl];unfold KM;rw[Za a1,Za a2,Za Zi,Za b0,Za q0,Zb,if_pos rfl,Za (show ldA 7 (pt X.length) X2=some (.agg r.cells.toArray,X2) from Z8 (n:=7) d2 rfl),Za e3,Za Zp,Za Zq,Za (ZjB c3 rfl),Za (Zj8 c3)];rfl
 .rw[List.getElem?_set_ne (by omega),s3.keep j (Nat.lt_of_lt_of_le hj k12.len) hn,List.getElem?_eq_getElem hj];exact k12 _ _ (List.getElem?_eq_getElem hj)
theorem ZkH (hG:GlH X) (h:HO X p D T B) (hc:p.c<=1000) (hok:ZmN r) (ha:r.o.a.length<=65535) (hb:r.o.b.length<=65535):∃ (v:Value) (l:List Tx) (e:Int) (dn:Bool) (p':HP) (D':Qf) (T':List Qy) (B':List Nat) (X':Zd),
  R (n+19) Q1 [pt p.h,.agg r.cells.toArray] X=some (.tuple #[.agg #[iv e,v],.bool dn],X')/\Sl X' v (l.map strv)/\oneCell v=true/\l.length<=1000/\(∀ id,own1 v=some id->X.length<=id)/\HO X' p' D' T' B'/\Zo p.own X p'.own X'/\p'.h=p.h/\p'.c<=p.c+1/\(∀ j∈p'.fr,j∈p.fr\/X.length<=j)/\ZF2 D T B r e l dn D' T' B':=by
 by_cases hs:r.cl=255
 .obtain⟨X',e1,H1,s1⟩:=ZEI (n:=n) hG h hok hs ha hb;exact⟨.slice none 0 0,[],((Zhm B r).1:Nat),(Zhm B r).2.1,p,D,T,(Zhm B r).2.2,X',e1,Sl.nil,rfl,by simp,(fun id hi=>by cases hi),H1,s1,rfl,by omega,fun j hj=>.inl hj,.inl ⟨hs,rfl,rfl,rfl,rfl,rfl,rfl⟩⟩
 .obtain⟨v,l,e,dn,p',D',T',X',e1,h1,h2,h3,h4,h5,h6,h7,h8,h9,_,h10,h11⟩:=ZC7 (n:=n) hG h hc hok hs (ZIk (n:=n) (D:=D) (T:=T) (B:=B) ha hb hok.o);exact⟨v,l,e,dn,p',D',T',B,X',e1,h1,h2,h3,h4,h5,h6,h7,h8,h10,.inr ⟨hs,rfl,h11⟩⟩
theorem ZGz (hS:WP D D1) (hI:Zcl D) (hI1:Zcl D1) (h:ZF2 D T B r e l dn D' T' B') (h1:ZF2 D1 T B r e1 l1 dn1 D1' T1 B1):e=e1/\l=l1/\dn=dn1/\WP D' D1'/\T'=T1/\B'=B1:=by
 rcases h with⟨_,rfl,rfl,rfl,rfl,rfl,rfl⟩|⟨hn,rfl,h⟩
 .rcases h1 with⟨_,rfl,rfl,rfl,rfl,rfl,rfl⟩|⟨hn,_⟩
  .exact⟨rfl,rfl,rfl,hS,rfl,rfl⟩
  .exact absurd ‹r.cl=255› hn
 rcases h1 with⟨hs,_⟩|⟨_,rfl,h1⟩
 .exact absurd hs hn
 rcases h with⟨_,rfl,rfl,rfl,rfl,rfl⟩|⟨j3,rfl,h,en,rfl,rfl⟩
 .rcases h1 with⟨_,rfl,rfl,rfl,rfl,rfl⟩|⟨j3,_⟩
  .exact⟨rfl,rfl,rfl,hS,rfl,rfl⟩
  .exact absurd j3 ‹_›
 .rcases h1 with⟨nj,_⟩|⟨_,rfl,h1,en1,rfl,rfl⟩
  .exact absurd j3 nj
  .obtain⟨a,b,c⟩:=ZJf hS hI hI1 h h1;have:en=en1:=by omega
   subst this;exact⟨rfl,b,rfl,c,by rw[b],rfl⟩
theorem Tab.first {t:Nat} {rows:List Qy} {lvs:List Value} {fr:List Nat} (h:Tab X t rows lvs fr):∃ (z:Int) (vs:List Value),X[t]?=some (.cells (.int .u64 z :: vs) 1 false false):=by
 obtain⟨r,lv,hr,hl⟩:=h.row (c:=0) (by omega);have h1:=Zhn hr hl (f:=0) (v:=.int .u64 r.num) rfl;have h2:=h.cell
 match hc:QY rows lvs with
 | []=>rw[hc] at h1;simp at h1
 | v :: vs=>
  rw[hc] at h1 h2;simp only[Nat.zero_mul,Nat.add_zero,List.getElem?_cons_zero,Option.some.injEq] at h1;subst h1;exact⟨_,_,h2⟩
theorem Brd.first {b:Nat} {l q:List Nat} (h:Brd X b l q):∀ j∈q,∃ (z:Int) (vs:List Value) (g:Bool),X[j]?=some (.cells (.int .u8 z :: vs) 1 g false):=by
 intro j hj;obtain⟨sl,_,h2⟩:=h.at_;rcases h2 with⟨_,h4,_⟩|⟨sid,rest,g',_,h4,h5⟩
 .rw[h4] at hj;cases hj
 .rw[h4] at hj;cases List.mem_singleton.1 hj;cases hB:l with
  | nil=>exact absurd hB h.one
  | cons a l=>
   rw[hB] at h5;exact⟨_,_,_,h5⟩
theorem Brd.bx {b:Nat} {l q:List Nat} (h:Brd X b l q):∃ a k c,X[b]?=some (.cells [.slice a k c] 1 false false):=by
 obtain⟨sl,h1,h2⟩:=h.at_;obtain⟨a,k,c,rfl⟩:=h2.isS;exact⟨_,_,_,h1⟩
theorem HO.none (h:HO X p D T B) {j:Nat} {v:Value} {vs:List Value} {es:Nat} {g ro:Bool} (hj:X[j]?=some (.cells (v :: vs) es g ro)) (hv:(∃ i,v=.map i)\/(∃ a k c,v=.slice a k c)):j∉p.own:=by
 intro hm;unfold HP.own at hm;rcases List.mem_append.1 hm with hm|hm
 .exact h.dir.isMap hm _ _ _ _ hj
 rcases List.mem_cons.1 hm with rfl|hm
 .obtain⟨w,hw⟩:=HO.ovp h.dir;have:=h.cell;rw[hj,hw] at this;simp only[Option.some.injEq,Zf.cells.injEq,List.cons.injEq] at this;rcases hv with⟨i,rfl⟩|⟨a,k,c,rfl⟩
  .exact absurd this.1.1 (by simp)
  .exact absurd this.1.1 (by simp)
 rcases List.mem_cons.1 hm with rfl|hm
 .obtain⟨z,ws,hw⟩:=h.tab.first;rw[hj] at hw;simp only[Option.some.injEq,Zf.cells.injEq,List.cons.injEq] at hw;rcases hv with⟨i,rfl⟩|⟨a,k,c,rfl⟩
  .exact absurd hw.1.1 (by simp)
  .exact absurd hw.1.1 (by simp)
 .obtain⟨z,ws,g',hw⟩:=h.brd.first _ hm;rw[hj] at hw;simp only[Option.some.injEq,Zf.cells.injEq,List.cons.injEq] at hw;rcases hv with⟨i,rfl⟩|⟨a,k,c,rfl⟩
  .exact absurd hw.1.1 (by simp)
  .exact absurd hw.1.1 (by simp)
structure Far (p q:HP):Prop where
 own:∀ j∈p.own,j∉q.own
 f1:∀ j∈p.fr,j∉q.own
 f2:∀ j∈q.fr,j∉p.own
theorem Far.symm (h:Far p q):Far q p:=⟨fun j hj hk=>h.own j hk hj,h.f2,h.f1⟩
theorem HO.other (h:HO X p D T B) (hq:HO X q E U V) (hf:Far p q) (hs:Zo p.own X p'.own X') (hfr:∀ j∈p'.fr,j∈p.fr\/X.length<=j):HO X' q E U V/\Far p' q:=by
 refine⟨hq.step hs (fun j hj hk=>hf.own j hk hj) (fun j hj=>?_) ?_ hf.f2,⟨fun j hj hk=>?_,fun j hj hk=>?_,fun j hj hk=>?_⟩⟩
 .obtain⟨i,cs,es,g,ro,hc⟩:=hq.dir.first _ hj;exact h.none hc (.inl ⟨_,rfl⟩)
 .obtain⟨a,k,c,hc⟩:=hq.brd.bx;exact h.none hc (.inr ⟨_,_,_,rfl⟩)
 .rcases hs.own j hj with h1|h1
  .exact hf.own j h1 hk
  .have:=hq.lt j hk;omega
 .rcases hfr j hj with h1|h1
  .exact hf.f1 j h1 hk
  .have:=hq.lt j hk;omega
 .rcases hs.own j hk with h1|h1
  .exact hf.f2 j hj h1
  .have:=hq.tab.lt j hj;omega
theorem Far.new (h:HO X p D T B) (ho:∀ j∈q.own,X.length<=j) (hf:∀ j∈q.fr,X.length<=j):Far p q:=
 ⟨fun j hj hk=>by have:=h.lt j hj;have:=ho j hk;omega,fun j hj hk=>by have:=h.tab.lt j hj;have:=ho j hk;omega,fun j hj hk=>by have:=h.lt j hk;have:=hf j hj;omega⟩
theorem Sl.keepS {v:Value} {vs:List Value} {o o':List Nat} (h:Sl X v vs) (hs:Zo o X o' X') (hd:∀ id,own1 v=some id->id∉o):Sl X' v vs:=by
 obtain⟨a,c,rfl,h0,hh⟩:=h;refine⟨a,c,rfl,h0,?_⟩;unfold QL at hh ⊢;split at hh
 .exact hh
 .rename_i id oo n x e;cases e;have hlt:id < X.length:=by
   by_cases hl:id < X.length
   .exact hl
   .rw[List.getElem?_eq_none (by omega)] at hh;cases hh
  rw[hs.keep id hlt (hd id rfl)];exact hh
 all_goals exact hh
theorem HO.mk' {p:HP} (cell:X[p.h]?=some (.cells [p.ov,p.nv,pt p.t,pt p.b] 1 false false)) (dir:DX X D p.ov p.nv p.M p.C p.c) (tab:Tab X p.t T p.lvs p.fr) (brd:Brd X p.b B p.q) (hfr:p.h∉p.fr) (fq:∀ j∈p.fr,j∉p.q) (mf:∀ j∈p.M,j∉p.fr):HO X p D T B:=by
 obtain⟨ow,how⟩:=HO.ovp dir;obtain⟨z,ws,ht⟩:=tab.first;obtain⟨a,k,c,hb⟩:=brd.bx;have hq:∀ j∈p.q,j≠p.h:=fun j hj e=>by
  obtain⟨z,vs,g,h1⟩:=brd.first j hj;rw[e,cell,how] at h1;simp at h1
 have ht':∀ j∈p.q,j≠p.t:=fun j hj e=>by
  obtain⟨z,vs,g,h1⟩:=brd.first j hj;rw[e,ht] at h1;simp at h1
 have hC:∀ j∈p.C,j≠p.h/\j≠p.t/\j∉p.q:=fun j hj=>by
  obtain⟨i,cs,es,g,ro,hc⟩:=dir.first _ hj;refine⟨fun e=>?_,fun e=>?_,fun e=>?_⟩
  .rw[e,cell,how] at hc;simp at hc
  .rw[e,ht] at hc;simp at hc
  .obtain⟨z,vs,g,h1⟩:=brd.first j e;rw[hc] at h1;simp at h1
 refine⟨cell,dir,tab,brd,hfr,fun h=>hq _ h rfl,fun h=>(hC _ h).1 rfl,fun e=>?_,fun e=>?_,fun h=>ht' _ h rfl,fun h=>(hC _ h).2.1 rfl,fq,fun j hj=>(hC j hj).2.2,fun j hj=>⟨fun e=>?_,fun e=>?_,fun e=>?_,mf j hj⟩⟩
 .rw[e,cell,how] at hb;simp at hb
 .rw[e,ht] at hb;simp at hb
 .exact dir.isMap hj _ _ _ _ (e ▸ cell)
 .exact dir.isMap hj _ _ _ _ (e ▸ hb)
 .obtain⟨z,vs,g,h1⟩:=brd.first j e;exact dir.isMap hj _ _ _ _ h1
theorem ZE5 {lv:Value} {w:List Nat} (h:Sl X lv (w.map rlv)) (hl:w.length<=100000):∃ v q X',R (n+1) JC [lv] X=some (v,X')/\Zt X' v (w.map rlv) q/\HLe X X'/\∀ j∈q,X.length<=j:=by
 have hlm:(w.map rlv).length=w.length:=List.length_map _;rw[R,Zei rfl];unfold KT;rcases h.isnil (H':=X) with⟨rfl,h0,e⟩|e
 .refine⟨.slice none 0 0,[],X,?_,by rw[h0];exact Zt.nil,.refl _,by simp⟩;rw[Za e];rfl
 .have hb2:Sl (X++[.cells [] 1 false false]) lv (w.map rlv):=h.mono (.app _ _);obtain⟨sl',X',own',e2,hr,hle,ho⟩:=ZzO (b:=1) hb2 (by rw[hlm];omega) (by rw[hlm];omega) (s:=.slice (some ⟨X.length,0,none⟩) 0 0) (.inr ⟨X.length,false,rfl,Zn,rfl⟩);refine⟨sl',own',X',?_,hr,(HLe.app _ _).trans hle,fun j hj=>?_⟩
  .rw[Za e,Zb,if_neg (by simp),Za ZFa,Za e2];rfl
  .rcases ho j hj with h|⟨_,h⟩
   .simp at h;omega
   .cases h;exact Nat.le_refl _
theorem ZvC {b:Nat} {q:List Nat} (h:Brd X b B q):∃ X' b' q',R (n+2) YX [pt b] X=some (pt b',X')/\Brd X' b' B q'/\HLe X X'/\X.length<=b'/\∀ j∈q',X.length<=j:=by
 obtain⟨sl,h1,h2⟩:=h.at_;obtain⟨v,q1,X1,e1,r1,k1,o1⟩:=ZE5 (n:=n) h2.rd (by have:=h.few;omega);have e1:R (n+1) JC [sl] X=_:=e1;obtain⟨a,k,c,rfl⟩:=r1.isS;have e2:bld (.agg #[.slice none 0 0]) [(0,1,.slice a k c)] X1=some (.agg #[.slice a k c],X1):=rfl;have e3:alc 1 (.agg #[.slice a k c]) X1=some (pt X1.length,X1++[.cells [.slice a k c] 1 false false]):=rfl;have hq:X1.length∉q1:=fun hh=>by have:=r1.lt _ hh;omega
 refine⟨X1++[.cells [.slice a k c] 1 false false],X1.length,q1,?_,⟨⟨_,Zn,r1.hle (.app _ _)⟩,hq,h.few,h.rel,h.one⟩,k1.trans (.app _ _),k1.len,o1⟩;rw[R,ZnK rfl];unfold Zes;rw[Za Zg,Za Zi,Za (Zy h1 rfl),Za e1,Za e2,Za e3];rfl
theorem Zyr (h:HO X p D T B):∃ X' b' q',R (n+3) Wv [pt p.h] X=some (pt b',X')/\Brd X' b' B q'/\HLe X X'/\X.length<=b'/\∀ j∈q',X.length<=j:=by
 obtain⟨X',b',q',e1,h1,k1,o1⟩:=ZvC (n:=n) h.brd;refine⟨X',b',q',?_,h1,k1,o1⟩;rw[R,ZqZ rfl];unfold ZfX;rw[Za Zg,Za (show fa 3 (pa p.h 0) X=some (pa p.h 3,X) from rfl),Za (Zy h.cell rfl),Za e1];rfl
theorem ZHH (h:HO X p D T B):∃ X' p',R (n+5) Za8 [pt p.h] X=some (pt p'.h,X')/\HO X' p' D T B/\HLe X X'/\(∀ j∈p'.own,X.length<=j)/\(∀ j∈p'.fr,X.length<=j)/\p'.c=p.c:=by
 obtain⟨X1,lvs1,fr1,e1,t1,k1,o1⟩:=ZkV (n:=n+1) h.tab;have e1:R (n+4) Kv [pt p.t] X=_:=e1;have H1:=h.hle k1;obtain⟨X2,b2,q2,e2,h2,k2,ob,oq⟩:=ZvC (n:=n+2) H1.brd;have e2:R (n+4) YX [pt p.b] X1=_:=e2;have H2:=H1.hle k2;have t2:=t1.hle k2;have n1:=k1.len;have n2:=k2.len;have e3:bld (.agg #[.pointer none,.pointer none,.pointer none,.pointer none]) [(2,1,pt X.length),(3,1,pt b2)] X2=some (.agg #[.pointer none,.pointer none,pt X.length,pt b2],X2):=rfl;have e4:alc 1 (.agg #[.pointer none,.pointer none,pt X.length,pt b2]) X2=some (pt X2.length,X2++[.cells [.pointer none,.pointer none,pt X.length,pt b2] 1 false false]):=rfl;have k3:HLe X2 (X2++[Zf.cells [.pointer none,.pointer none,pt X.length,pt b2] 1 false false]):=.app _ _;have c3:(X2++[Zf.cells [.pointer none,.pointer none,pt X.length,pt b2] 1 false false])[X2.length]?=some (.cells [.pointer none,.pointer none,pt X.length,pt b2] 1 false false):=Zn;have n3:X2.length < (X2++[Zf.cells [.pointer none,.pointer none,pt X.length,pt b2] 1 false false]).length:=by simp
 generalize X2++[Zf.cells [.pointer none,.pointer none,pt X.length,pt b2] 1 false false]=X3 at e4 k3 c3 n3;have H3:=H2.hle k3;have t3:=t2.hle k3;have b3:=h2.hle k3;have hb2:=h2.lt;have ht2:=t1.lt;have l2:ld1 (pa p.h 2) X=some (pt p.t,X):=Zy h.cell rfl;have l3:∀ Z,HLe X Z->ld1 (pa p.h 3) Z=some (pt p.b,Z):=fun Z hz=>Zy (hz _ _ h.cell) rfl;have l1:ld1 (pa p.h 1) X3=some (p.nv,X3):=Zy H3.cell rfl;have l0:ld1 (pa p.h 0) X3=some (p.ov,X3):=Zy H3.cell rfl;have g3:∀ Z:Zd,fa 3 (pa p.h 0) Z=some (pa p.h 3,Z):=fun Z=>rfl;have g2:∀ Z:Zd,fa 2 (pa p.h 0) Z=some (pa p.h 2,Z):=fun Z=>rfl;have g1:∀ Z:Zd,fa 1 (pa p.h 0) Z=some (pa p.h 1,Z):=fun Z=>rfl;have pre:∀ (r:Value) (X':Zd),jn (cnd (.bool (decide (verS D=1)))
 (bind (Zx (pt p.h)) fun v23x16=>
 bind (fa 0 v23x16) fun v24x17=>
 bind (ld1 v24x17) fun v25x18=>
 bind (R (n+4) Za7 [v25x18]) fun v26x19=>
 bind (Zx (pt X2.length)) fun v27x20=>
 bind (fa 0 v27x20) fun v28x21=>
 bind (st1 v28x21 v26x19) fun _=>
 ret (Out.nrm [pt X2.length]))
 (bind (Zx (pt p.h)) fun v31x22=>
 bind (fa 1 v31x22) fun v32x23=>
 bind (ld1 v32x23) fun v33x24=>
 bind (R (n+4) Zbd [v33x24]) fun v34x25=>
 bind (Zx (pt X2.length)) fun v35x26=>
 bind (fa 1 v35x26) fun v36x27=>
 bind (st1 v36x27 v34x25) fun _=>
 ret (Out.nrm [pt X2.length]))) (c1 fun q28_0=>
 ret q28_0) noX ret X3=some (r,X')->R (n+5) Za8 [pt p.h] X=some (r,X'):=fun r X' hr=>by
  rw[R,ZsD rfl];unfold Zg2;rw[Za Zg,Za (g2 X),Za l2,Za Zg,Za (g3 X),Za (l3 X (.refl _)),Za e1,Za (l3 X1 k1),Ql,Za e2,Za e3,Za e4,Za Zg,Za (g1 X3),Za l1,Za (H3.dir.nv X3)];exact hr
 have hd:=H3.dir;cases D with
 | old m=>
  obtain⟨d,b,w1,w2,w3,w4,_,_⟩:=hd;obtain⟨X4,d',b',e5,h5,k5,o5,o6⟩:=ZIw (n:=n+2) w3;have e5:R (n+4) Za7 [pt d] X3=_:=e5;have c4:=k5 _ _ c3;have s4:st1 (pa X2.length 0) (pt d') X4=some (undef,X4.set X2.length (.cells [pt d',.pointer none,pt X.length,pt b2] 1 false false)):=Wq (o:=0) c4 (by simp) rfl;have hs:Zo [X2.length] X4 [X2.length] (X4.set X2.length (.cells [pt d',.pointer none,pt X.length,pt b2] 1 false false)):=⟨by simp,fun j hj hn=>List.getElem?_set_ne (fun e=>hn (by simp[e])),fun j hj=>.inl hj⟩;have dx:DX X4 (.old m) (pt d') (.pointer none) [b'] [d'] p.c:=⟨d',b',rfl,rfl,h5,w4,rfl,rfl⟩;have t4:=t3.hle k5;have b4:=b3.hle k5;refine⟨X4.set X2.length (.cells [pt d',.pointer none,pt X.length,pt b2] 1 false false),⟨X2.length,X.length,b2,fr1,q2,[b'],[d'],p.c,lvs1,pt d',.pointer none⟩,pre _ _ ?_,HO.mk' (ZW c4) ?_ ?_ ?_ ?_ ?_ ?_,(((k1.trans k2).trans k3).trans k5).put (by omega),fun j hj=>?_,o1,rfl⟩
  .refine(ZC (vs:=[pt X2.length]) (H':=X4.set X2.length (.cells [pt d',.pointer none,pt X.length,pt b2] 1 false false)) ?_).trans rfl;rw[show decide (verS (.old m)=1)=true from rfl,Zb,if_pos rfl,Za Zg,Za Zi,Za l0,w1,Za e5,Za Zg,Za Zi,Za s4];rfl
  .exact dx.step hs (fun j hj e=>by simp at hj e;omega) (fun j hj e=>by simp at hj e;omega)
  .exact t4.keep (fun j hj=>hs.keep j (t4.lt j hj) (by simp;intro e;have:=ht2 j hj;omega)) hs.len
  .exact b4.keep (fun j hj=>hs.keep j (b4.lt j hj) (by simp;intro e;have:=hb2 j hj;omega))
  .intro hh;have:=ht2 _ hh;simp only at this;omega
  .intro j hj hq;have:=ht2 _ hj;have:=oq _ hq;omega
  .intro j hj hf;have:=ht2 _ hf;simp at hj;omega
  .simp[HP.own] at hj
   rcases hj with rfl|rfl|rfl|hj
   .omega
   .omega
   .omega
   .have:=oq _ hj;omega
 | now s=>
  obtain⟨d,r0,w1,w2,w3,_,_⟩:=hd;obtain⟨X4,d',r',e5,h5,k5,o5,o6⟩:=ZHz (n:=n) w3;have e5:R (n+4) Zbd [pt d] X3=_:=e5;have c4:=k5 _ _ c3;have s4:st1 (pa X2.length 1) (pt d') X4=some (undef,X4.set X2.length (.cells [.pointer none,pt d',pt X.length,pt b2] 1 false false)):=Wq (o:=1) c4 (by simp) rfl;have hs:Zo [X2.length] X4 [X2.length] (X4.set X2.length (.cells [.pointer none,pt d',pt X.length,pt b2] 1 false false)):=⟨by simp,fun j hj hn=>List.getElem?_set_ne (fun e=>hn (by simp[e])),fun j hj=>.inl hj⟩;have dx:DX X4 (.now s) (.pointer none) (pt d') r'.own [d',r'.x,r'.g] p.c:=⟨d',r',rfl,rfl,h5,rfl,rfl⟩;have t4:=t3.hle k5;have b4:=b3.hle k5;refine⟨X4.set X2.length (.cells [.pointer none,pt d',pt X.length,pt b2] 1 false false),⟨X2.length,X.length,b2,fr1,q2,r'.own,[d',r'.x,r'.g],p.c,lvs1,.pointer none,pt d'⟩,pre _ _ ?_,HO.mk' (ZW c4) ?_ ?_ ?_ ?_ ?_ ?_,(((k1.trans k2).trans k3).trans k5).put (by omega),fun j hj=>?_,o1,rfl⟩
  .refine(ZC (vs:=[pt X2.length]) (H':=X4.set X2.length (.cells [.pointer none,pt d',pt X.length,pt b2] 1 false false)) ?_).trans rfl;rw[show decide (verS (.now s)=1)=false from rfl,Zb,if_neg (by simp),Za Zg,Za (g1 X3),Za l1,w2,Za e5,Za Zg,Za (show fa 1 (pa X2.length 0) X4=some (pa X2.length 1,X4) from rfl),Za s4];rfl
  .refine dx.step hs (fun j hj e=>by simp at e;have:=o6 j hj;omega) (fun j hj e=>?_);obtain⟨i,cs,es,g,ro,hc⟩:=dx.first _ hj;rw[List.mem_singleton.1 e,c4] at hc;simp at hc
  .exact t4.keep (fun j hj=>hs.keep j (t4.lt j hj) (by simp;intro e;have:=ht2 j hj;omega)) hs.len
  .exact b4.keep (fun j hj=>hs.keep j (b4.lt j hj) (by simp;intro e;have:=hb2 j hj;omega))
  .intro hh;have:=ht2 _ hh;simp only at this;omega
  .intro j hj hq;have:=ht2 _ hj;have:=oq _ hq;omega
  .intro j hj hf;have:=ht2 _ hf;have:=o6 j hj;omega
  .simp[HP.own] at hj
   rcases hj with hj|rfl|rfl|hj
   .have:=o6 _ hj;omega
   .omega
   .omega
   .have:=oq _ hj;omega
end
section
variable {H X:Zd} {n:Nat} {bs:List UInt8}
theorem Zrz {sv:Value} (hs:Sl H sv (u8s bs)) (hb:bs.length<=100000000):∃ dv H',R (n+8) ZaW [sv] H=some (.tuple #[dv,iv (Zgy bs).1],H')/\HLe H H'/\
  ((Zgy bs).1≠0->dv=.pointer none)/\((Zgy bs).1=0->∃ d b,dv=pt d/\Dir H' d b (Zgy bs).2/\ZrL (Zgy bs).2/\ofN (Zgy bs).2=0/\H.length<=d/\H.length<=b):=by
 obtain⟨p,X0,e0,r0,k0,o0⟩:=Zs4 (n:=n+5) hs (by omega);have e0:R (n+7) ZdR [sv] H=_:=e0;obtain⟨X1,e1,r1,s1⟩:=ZxU (n:=n+3) r0;have e1:R (n+7) Yr [pt p] X0=_:=e1;have e2:=Zkv (n:=n+6) r1;have e2:R (n+7) Z7 [pt p] X1=_:=e2;have hop:∀ j∈[p],H.length<=j:=fun j hj=>by have:j=p:=(by simpa using hj);omega
 have m1:=k0.more s1 hop;have f1:∀ v H',Wx (R (n+7)) sv H=some (v,H')->R (n+8) ZaW [sv] H=some (v,H'):=fun v H' hr=>by rw[R,ZzD rfl];exact hr
 unfold Zgy;generalize Jl 1 (0,bs)=B at r1 e1 e2;obtain⟨bv,bst⟩:=B;have e1:R (n+7) Yr [pt p] X0=some (.int .u8 bv,X1):=e1;have e2:R (n+7) Z7 [pt p] X1=some (iv bst.1,X1):=e2;simp only[];have q1:bop .int .eql (iv bst.1) (.int .i64 0) X1=some (.bool (bst.1==0),X1):=by rw[ZA,ZlG]
 have hgate:∀ K:Value->M Value,bind (gate (Value.bool (bst.1==0)) true 2 (bind (bop .int .neq (.int .u8 bv) (Value.int .u8 1)) fun v20=>ret [.int .u8 bv,v20])) (c2 fun _ q6=>bind (pick (Value.bool (bst.1==0)) q6 (Value.bool false)) K) X1=K (.bool (decide (bst.1=0/\bv≠1))) X1:=fun K=>by
  by_cases h0:bst.1=0
  .have q2:bop .int .neq (.int .u8 bv) (Value.int .u8 1) X1=some (.bool (decide (bv≠1)),X1):=by
    rw[Zl,show((bv:Int) !=1)=decide (bv≠1) from by rw[Bool.eq_iff_iff,decide_eq_true_eq,bne_iff_ne];omega]
   rw[show(bst.1==0)=true from by simp[h0],Z4,Zm,Za q2,Z5,ZT,Za Zk];simp[h0]
  .rw[show(bst.1==0)=false from by simp[h0],Za (g_r.trans (if_neg (by simp)))];simp only[List.replicate];rw[ZT,Za Zk];simp[h0]
 by_cases hv:bst.1=0/\bv≠1
 .rw[if_pos hv];refine⟨.pointer none,X1,f1 _ _ ?_,m1.1,fun _=>rfl,fun h=>by cases h⟩;unfold Wx;rw[Za e0,Za e1,Za e2,Za q1];refine(hgate _).trans ?_;rw[decide_eq_true hv,Zb,if_pos rfl];rfl
 rw[if_neg hv];obtain⟨X2,e3,r2,s2⟩:=ZCH (n:=n+3) r1;have e3:R (n+7) YM [pt p] X1=_:=e3;have m2:=m1.1.more s2 m1.2;have hcl:=Zjf (k:=2) (s:=bst);generalize Jl 2 bst=C at r2 e3 hcl;obtain⟨cv,cst⟩:=C;have e3:R (n+7) YM [pt p] X1=some (.int .u16 cv,X2):=e3;have hcl:cv < 65536:=hcl;have r2:Rdr X2 p cst:=r2;simp only[];have c3:cvi .i64 (.int .u16 cv) X2=some (iv cv,X2):=by rw[Qx,w64 (by omega) (by omega)]
 have q3:bop .int .gtr (iv cv) (.int .i64 12) X2=some (.bool (decide (cv > 12)),X2):=by
  rw[Z0,show decide ((cv:Int) > 12)=decide (cv > 12) from by rw[decide_eq_decide];omega]
 have hN:∃ X3 N st,(cnd (Value.bool (decide (cv > 12))) (bind (R (n+7) ZO [pt p,(Value.int .i64 7)]) fun v28=>ret (Out.nrm [pt p,(Value.int .i64 0)])) (ret (Out.nrm [pt p,iv cv]))) X2=some (Out.nrm [pt p,iv (N:Nat)],X3)/\N<=12/\Rdr X3 p st/\Zo [p] X2 [p] X3/\(if cv > 12 then(([]:List Ent),WB 7 cst) else Zdx cv cst)=Zdx N st:=by
  by_cases h12:cv > 12
  .obtain⟨X3,e4,r3,s3⟩:=Zjp (n:=n+6) (e:=7) (by omega) r2;have e4:R (n+7) ZO [pt p,.int .i64 7] X2=_:=e4;refine⟨X3,0,_,?_,by omega,r3,s3,if_pos h12⟩;rw[decide_eq_true h12,Zb,if_pos rfl,Za e4];rfl
  .refine⟨X2,cv,cst,?_,by omega,r2,.refl _ _,if_neg h12⟩;rw[decide_eq_false h12,Zb,if_neg (by simp)];rfl
 obtain⟨X3,N,st,e4,hN,r3,s3,hq⟩:=hN;rw[hq];have m3:=m2.1.more s3 m2.2;obtain⟨X4,lv,ql,e5,hr4,r4,hql,s4⟩:=ZBm (n:=n) (N:=N) (by omega) N 0 [] st (.slice none 0 0) [] X3 (by omega) (by omega) (Nat.zero_le _) JQ.nil (by simp) r3;have e5:Zj (c4 (Wx.l1 (R (n+7)))) [pt p,.slice none 0 0,iv N,.int .i64 0] X3=_:=e5;rw[List.nil_append] at hr4;have m4:=m3.1.more s4 m3.2;have hll:(Zdx N st).1.length=N:=by
  have:∀ (k:Nat) (s:RSt),(Zdx k s).1.length=k:=by
   intro k
   induction k with
   | zero=>intro s;rfl
   | succ k ih=>intro s;unfold Zdx;rw[List.length_cons,ih]
  exact this _ _
 generalize Zdx N st=G at hr4 r4 hll;obtain⟨gl,gs⟩:=G;have hr4:JQ 5 X4 lv (gl.map usr) ql:=hr4;have r4:Rdr X4 p gs:=r4;have hll:gl.length=N:=hll;simp only[];have e6:=Zkv (n:=n+6) r4;have e6:R (n+7) Z7 [pt p] X4=some (iv gs.1,X4):=e6;have q4:bop .int .neq (iv gs.1) (.int .i64 0) X4=some (.bool (gs.1 !=0),X4):=by rw[Zl,ZjV]
 have hrun:∀ v H',(bind (R (n+7) Z7 [pt p]) fun v39x20=>
 bind (bop .int .neq v39x20 (Value.int .i64 0)) fun v41x21=>
 cnd v41x21
 (ret (Value.tuple #[(Value.pointer none),v39x20]))
 (bind (R (n+7) ZfA [lv]) fun v45x22=>
 bind (Zu v45x22 0) fun v46x23=>
 bind (Zu v45x22 1) fun v47x24=>
 bind (bop .int .eql v47x24 (Value.int .i64 0)) fun v49x25=>
 jn (cnd v49x25
 (bind (R (n+7) YJ [pt p]) fun v51x26=>
 ret (.nrm [v46x23,v51x26]))
 (ret (.nrm [v46x23,v47x24]))) (c2 fun q27_0 q27_1=>
 bind (bop .int .neq q27_1 (Value.int .i64 0)) fun v53x28=>
 cnd v53x28
 (ret (Value.tuple #[(Value.pointer none),q27_1]))
 (ret (Value.tuple #[q27_0,(Value.int .i64 0)]))) noX ret)) X4=some (v,H')->R (n+8) ZaW [sv] H=some (v,H'):=fun v H' hr=>by
  refine f1 _ _ ?_;unfold Wx;rw[Za e0,Za e1,Za e2,Za q1];refine(hgate _).trans ?_;rw[decide_eq_false hv,Zb,if_neg (by simp),Za e3,Za c3,Za q3];refine(ZC e4).trans ?_;rw[ZT,Qk e5,ZI,ZT];exact hr
 by_cases hg0:gs.1=0
 .rw[if_neg (by simp[hg0])];obtain⟨X5,dv,e7,k5,hz,hok⟩:=ZJB (n:=n) (by rw[List.length_map];omega) hr4.users;rw[ZGv] at e7 hz hok;have q5:bop .int .eql (iv (ofN gl)) (.int .i64 0) X5=some (.bool (ofN gl==0),X5):=by rw[ZA,ZlG]
  have r5:=r4.hle k5;by_cases ho:ofN gl=0
  .obtain⟨d,b,rfl,D5,hR,od,ob⟩:=hok (by rw[ho];rfl);rw[ZwQ] at D5 hR;have e8:=ZGs (n:=n+6) r5;have e8:R (n+7) YJ [pt p] X5=_:=e8;rw[if_pos ho];by_cases he:Zdt gs=0
   .rw[if_neg (by simp[he])];have q6:bop .int .neq (iv (Zdt gs)) (.int .i64 0) X5=some (.bool false,X5):=by rw[Zl,he];rfl
    refine⟨pt d,X5,hrun _ _ ?_,m4.1.trans k5,fun h=>absurd rfl h,fun _=>⟨d,b,rfl,D5,hR,ho,Nat.le_trans m4.1.len od,Nat.le_trans m4.1.len ob⟩⟩;rw[Za e6,Za q4,Zb,if_neg (by simp[hg0]),Za e7,Za Zp,Za Zq,Za q5];refine(ZC (vs:=[pt d,iv (Zdt gs)]) (H':=X5) ?_).trans ?_
    .rw[Zb,if_pos (by simp[ho]),Za e8];rfl
    .rw[ZT,Za q6,Zb,if_neg (by simp)];rfl
   .rw[if_pos he];have q6:bop .int .neq (iv (Zdt gs)) (.int .i64 0) X5=some (.bool true,X5):=by rw[Zl];simp[he]
    refine⟨.pointer none,X5,hrun _ _ ?_,m4.1.trans k5,fun _=>rfl,fun h=>absurd h he⟩;rw[Za e6,Za q4,Zb,if_neg (by simp[hg0]),Za e7,Za Zp,Za Zq,Za q5];refine(ZC (vs:=[pt d,iv (Zdt gs)]) (H':=X5) ?_).trans ?_
    .rw[Zb,if_pos (by simp[ho]),Za e8];rfl
    .rw[ZT,Za q6,Zb,if_pos (by simp)];rfl
  .rw[if_neg ho,if_pos ho];have hdv:=hz (by simpa using ho);subst hdv;have q6:bop .int .neq (iv (ofN gl)) (.int .i64 0) X5=some (.bool true,X5):=by rw[Zl];simp[ho]
   refine⟨.pointer none,X5,hrun _ _ ?_,m4.1.trans k5,fun _=>rfl,fun h=>absurd h ho⟩;rw[Za e6,Za q4,Zb,if_neg (by simp[hg0]),Za e7,Za Zp,Za Zq,Za q5];refine(ZC (vs:=[.pointer none,iv (ofN gl)]) (H':=X5) ?_).trans ?_
   .rw[Zb,if_neg (by simp[ho])];rfl
   .rw[ZT,Za q6,Zb,if_pos (by simp)];rfl
 .rw[if_pos hg0];refine⟨.pointer none,X4,hrun _ _ ?_,m4.1,fun _=>rfl,fun h=>absurd h hg0⟩;rw[Za e6,Za q4,Zb,if_pos (by simp[hg0])];rfl
end
section
variable {X X' Y:Zd} {n:Nat} {p p' q q':HP} {D D' D1 D1' E:Qf} {T T' T1 U:List Qy} {B B' B1 V:List Nat} {s:NSt} {m:QH} {v:Value} {t b:Nat} {lvs:List Value} {fr qb:List Nat}
theorem ND.cap {d:Nat} {r:NR} {c:Nat} (h:ND X d r s c):ND X d r s 12:=by
 refine⟨⟨h.cell,h.m,h.ix,⟨h.gr.cell,h.gr.mo,fun x hx=>?_,h.gr.out,h.gr.nod,h.gr.ok,h.gr.few⟩,h.ks,h.dis⟩,h.inv⟩;obtain⟨S,a1,a2,_,a4⟩:=h.gr.ms x hx;refine⟨S,a1,a2,?_,a4⟩;have h1:ZN (S.map (·.1))=(ZN (s.A.map (·.1))).filter fun k=>decide (k∈S.map (·.1)):=by
  refine ZpW (ZcV a1.nod) ((ZcV h.m.nod).filter _) fun k=>?_;rw[Kp,List.mem_filter,Kp,decide_eq_true_iff];constructor
  .intro hk;refine⟨?_,hk⟩;rw[Zfu];exact h.inv.memA x.1 k (by rw[<- a2];exact Zfu.1 hk)
  .intro hk;exact hk.2
 have h2:=congrArg List.length h1;have h3:=List.length_filter_le (fun k=>decide (k∈S.map (·.1))) (ZN (s.A.map (·.1)));rw[<- h2,YC,YC,List.length_map,List.length_map] at h3;have:=h.inv.few;omega
structure Pre (X X3:Zd) (T:List Qy) (B:List Nat) (t' b' h':Nat) (lvs':List Value) (fr' q':List Nat):Prop where
 le:HLe X X3
 tab:Tab X3 t' T lvs' fr'
 brd:Brd X3 b' B q'
 cell:X3[h']?=some (.cells [.pointer none,.pointer none,pt t',pt b'] 1 false false)
 xt:X.length<=t'
 xf:∀ j∈fr',X.length<=j/\j < h'
 xb:X.length<=b'/\b' < h'
 xq:∀ j∈q',X.length<=j/\j < h'
 th:t' < h'
 fq:∀ j∈fr',j∉q'
theorem Zko (ht:Tab X t T lvs fr) (hb:Brd X b B qb) {z:Int} (h1:1<=z) (h2:z<=2):∃ (X3:Zd) (t' b' h':Nat) (lvs':List Value) (fr' q':List Nat),Pre X X3 T B t' b' h' lvs' fr' q'/\
  ∀ (r:Value) (X':Zd),jn (cnd (.bool (z==1))
 (bind (R (n+13) ZaW [v]) fun v37x16=>
 bind (Zu v37x16 0) fun v38x17=>
 bind (Zu v37x16 1) fun v39x18=>
 bind (Zx (pt h')) fun v40x19=>
 bind (fa 0 v40x19) fun v41x20=>
 bind (st1 v41x20 v38x17) fun _=>
 ret (Out.nrm [pt h',v39x18]))
 (bind (R (n+13) Zci [v]) fun v45x21=>
 bind (Zu v45x21 0) fun v46x22=>
 bind (Zu v45x21 1) fun v47x23=>
 bind (Zx (pt h')) fun v48x24=>
 bind (fa 1 v48x24) fun v49x25=>
 bind (st1 v49x25 v46x22) fun _=>
 ret (Out.nrm [pt h',v47x23]))) (c2 fun q26_0 q26_1=>
 bind (bop .int .neq q26_1 (Value.int .i64 0)) fun v51x27=>
 cnd v51x27
 (ret (Value.tuple #[(Value.pointer none),q26_1]))
 (ret (Value.tuple #[q26_0,(Value.int .i64 0)]))) noX ret X3=some (r,X')->R (n+14) Zaw [iv z,v,pt t,pt b] X=some (r,X'):=by
 obtain⟨X1,lvs1,fr1,e1,t1,k1,o1⟩:=ZkV (n:=n+10) ht;have e1:R (n+13) Kv [pt t] X=_:=e1;obtain⟨X2,b2,q2,e2,b2',k2,ob,oq⟩:=ZvC (n:=n+11) (hb.hle k1);have e2:R (n+13) YX [pt b] X1=_:=e2;have n1:=k1.len;have n2:=k2.len;have ht2:=t1.lt;have hb2:=b2'.lt;have e3:bld (.agg #[.pointer none,.pointer none,.pointer none,.pointer none]) [(2,1,pt X.length),(3,1,pt b2)] X2=some (.agg #[.pointer none,.pointer none,pt X.length,pt b2],X2):=rfl;have e4:alc 1 (.agg #[.pointer none,.pointer none,pt X.length,pt b2]) X2=some (pt X2.length,X2++[.cells [.pointer none,.pointer none,pt X.length,pt b2] 1 false false]):=rfl;refine⟨X2++[.cells [.pointer none,.pointer none,pt X.length,pt b2] 1 false false],X.length,b2,X2.length,lvs1,fr1,q2,⟨(k1.trans k2).trans (.app _ _),(t1.hle k2).hle (.app _ _),b2'.hle (.app _ _),Zn,Nat.le_refl _,fun j hj=>⟨o1 j hj,by have:=ht2 j hj;omega⟩,⟨by omega,hb2 _ (.inl rfl)⟩,fun j hj=>⟨by have:=oq j hj;omega,hb2 _ (.inr hj)⟩,by have:=ht2 _ t1.t;omega,fun j hj hq=>by have:=ht2 j hj;have:=oq j hq;omega⟩,fun r X' hr=>?_⟩;rw[R,Ztg rfl];unfold ZlX;have y1:bop .ptr .eql (pt t) (.pointer none) X=some (.bool false,X):=Jc;have y2:bop .ptr .eql (pt b) (.pointer none) X=some (.bool false,X):=Jc;have y3:bop .int .lss (iv z) (.int .i64 1) X=some (.bool false,X):=by rw[Zs,decide_eq_false (by omega)]
 have y4:bop .int .gtr (iv z) (.int .i64 2) X=some (.bool false,X):=by rw[Z0,decide_eq_false (by omega)]
 rw[Za y1,Z4,Zm,Za y2,Z5,ZT,Za Zk];rw[show cond false (Value.bool true) (Value.bool false)=.bool false from rfl,Z4,Zm,Za y3,Z5,ZT,Za Zk];rw[show cond false (Value.bool true) (Value.bool false)=.bool false from rfl,Z4,Zm,Za y4,Z5,ZT,Za Zk];rw[show cond false (Value.bool true) (Value.bool false)=.bool false from rfl,Zb,if_neg (by simp),Za e1,Za e2,Za e3,Za e4,Za ZA];exact hr
theorem ZBo {l:List Ent} (h:∀ e∈l,Y5 e=0) (hn:l.length<=12):(Zii l).length<=100000000:=by
 have:∀ (l:List Ent),(∀ e∈l,Y5 e=0)->(ZbH l).length<=l.length * 28:=by
  intro l
  induction l with
  | nil=>intro _;exact Nat.zero_le _
  | cons a l ih=>
   intro hh;have h1:=ZrY (hh a (by simp));have h2:=ih fun e he=>hh e (by simp[he]);unfold ZbH at h2 ⊢;rw[List.map_cons,List.flatten_cons,List.length_append,List.length_cons];omega
 have:=this l h;unfold Zii;rw[List.length_append,List.length_append,KS,KS];omega
theorem Zrl:∀ {l:List Ent},(∀ e∈l,Y5 e=0)->Zb5 (l.map WN)=0
 | [],_=>rfl
 | e :: l,h=>by
  rw[List.map_cons];unfold Zb5;rw[ZhJ,h e (by simp),if_pos (show((0:Nat):Int)=0 from rfl)];exact Zrl fun x hx=>h x (by simp[hx])
theorem ZJi {l:List Ent} (h:∀ e∈l,Y5 e=0) (hr:Kh (l.map (·.1))=true) (hn:l.length<=12):ofN l=0:=by
 unfold ofN ofE;rw[if_pos (Zrl h),ZAB,List.map_map,show l.map ((fun u:Zv=>u.nm) ∘ WN)=l.map (·.1) from rfl,hr,if_pos rfl,List.length_map,if_neg (by omega)];rfl
theorem ZDO (hn:(m.map (·.1)).Nodup) (k:Tx):Ze k m=Ze k (Q3 m):=by
 have hk:(Q3 m).map (·.1)=ZN (m.map (·.1)):=by
  unfold Q3;rw[List.map_map];exact(List.map_congr_left fun a _=>rfl).trans (List.map_id _)
 have hn2:((Q3 m).map (·.1)).Nodup:=by
  rw[hk];exact(List.mergeSort_perm _ _).nodup_iff.2 hn
 cases h1:Ze k m with
 | some v=>
  have:(k,v)∈Q3 m:=(Zpg hn).2 h1;exact(Zck hn2 this).symm
 | none=>
  cases h2:Ze k (Q3 m) with
  | none=>rfl
  | some v=>
   have:=(Zpg hn).1 (Ku h2);rw[h1] at this;cases this
theorem ZFr (h:HO X p D T B) (hs:Sl X v (u8s (ZdT D))) (ht:Tab X t T lvs fr) (hb:Brd X b B qb):∃ X' p' D',R (n+14) Zaw [iv (verS D),v,pt t,pt b] X=some (.tuple #[pt p'.h,iv 0],X')/\HO X' p' D' T B/\WP D D'/\HLe X X'/\(∀ j∈p'.own,X.length<=j)/\(∀ j∈p'.fr,X.length<=j)/\p'.c<=12:=by
 have hd:=h.dir;have hI:=h.dir.invD;cases D with
 | old m=>
  obtain⟨d,b0,w1,w2,w3,w4,_,_⟩:=hd;obtain⟨u1,u2,u3⟩:=ZxI w3 w4;obtain⟨X3,t',b',h',lvs',fr',q',P,pre⟩:=Zko (n:=n) (v:=v) ht hb (z:=1) (by omega) (by omega);have hN:=ZJi u1 u2 u3;have hs3:Sl X3 v (u8s (Zii (Q3 m))):=hs.mono P.le;obtain⟨dv,X4,e4,k4,_,hok⟩:=Zrz (n:=n+5) hs3 (ZBo u1 u3);have e4:R (n+13) ZaW [v] X3=_:=e4;rw[ZC8 hN] at e4 hok;obtain⟨d',b1,rfl,D4,_,_,o1,o2⟩:=hok rfl;have hh:=ZX P.cell;have hl:=P.le.len;have c4:=k4 _ _ P.cell;have s4:st1 (pa h' 0) (pt d') X4=some (undef,X4.set h' (.cells [pt d',.pointer none,pt t',pt b'] 1 false false)):=Wq (o:=0) c4 (by simp) rfl;have hst:Zo [h'] X4 [h'] (X4.set h' (.cells [pt d',.pointer none,pt t',pt b'] 1 false false)):=⟨by simp,fun j hj hn=>List.getElem?_set_ne (fun e=>hn (by simp[e])),fun j hj=>.inl hj⟩;have dx:DX X4 (.old (Q3 m)) (pt d') (.pointer none) [b1] [d'] 12:=⟨d',b1,rfl,rfl,D4,u1,rfl,rfl⟩;have t4:=P.tab.hle k4;have b4:=P.brd.hle k4;have xt:=P.xt;have th:=P.th;refine⟨X4.set h' (.cells [pt d',.pointer none,pt t',pt b'] 1 false false),⟨h',t',b',fr',q',[b1],[d'],12,lvs',pt d',.pointer none⟩,.old (Q3 m),pre _ _ ?_,HO.mk' (ZW c4) ?_ ?_ ?_ ?_ P.fq ?_,fun k=>ZDO hI k,(P.le.trans k4).put (by omega),fun j hj=>?_,fun j hj=>(P.xf j hj).1,by simp⟩
  .refine(ZC (vs:=[pt h',iv 0]) (H':=X4.set h' (.cells [pt d',.pointer none,pt t',pt b'] 1 false false)) ?_).trans rfl;rw[Zb,if_pos (show((1:Int)==1)=true from rfl),Za e4,Za Zp,Za Zq,Za Zg,Za Zi,Za s4];rfl
  .exact dx.step hst (fun j hj e=>by simp at hj e;omega) (fun j hj e=>by simp at hj e;omega)
  .exact t4.keep (fun j hj=>hst.keep j (t4.lt j hj) (by simp;intro e;have:=(P.xf j hj).2;omega)) hst.len
  .exact b4.keep (fun j hj=>hst.keep j (b4.lt j hj) (by
    simp
    intro e;rcases hj with hj|hj
    .have:=P.xb;omega
    .have:=P.xq j hj;omega))
  .intro hf;have:=(P.xf _ hf).2;simp only at this;omega
  .intro j hj hf;have:=(P.xf _ hf).2;simp at hj;omega
  .simp[HP.own] at hj
   rcases hj with rfl|rfl|rfl|hj
   .omega
   .omega
   .omega
   .exact(P.xq _ hj).1
 | now s=>
  obtain⟨d,r0,w1,w2,w3,_,_⟩:=hd;obtain⟨X3,t',b',h',lvs',fr',q',P,pre⟩:=Zko (n:=n) (v:=v) ht hb (z:=2) (by omega) (by omega);have hK:=ZxY w3;obtain⟨g1',g2',g3',g4',_,_⟩:=ZxD hK;have hel:=Zsm (fun k hk=>ZtV (g1' k hk)) g2' g3' g4';have hs3:Sl X3 v (u8s (ZfQ (ZN s.K) (A.allK s))):=hs.mono P.le;obtain⟨dv,X4,e4,k4,_,hok⟩:=Zq4 (n:=n) hs3 (by omega);rw[ZDr hK] at e4 hok;obtain⟨d',r',s',c',us,rfl,S4,k3⟩:=hok rfl;have k3:us.map QT=A.allK s:=k3;have hK3:s'.K=ZN s.K:=S4.K;have hall:A.allK s=A.allK s':=by rw[<- k3];exact S4.ok.all S4.nd.pinv.n
  have hE:Y6 s s':=ZDt w3.pinv S4.nd.pinv hall fun g=>by rw[hK3,Kp]
  have hh:=ZX P.cell;have hl:=P.le.len;have c4:=k4 _ _ P.cell;have s4:st1 (pa h' 1) (pt d') X4=some (undef,X4.set h' (.cells [.pointer none,pt d',pt t',pt b'] 1 false false)):=Wq (o:=1) c4 (by simp) rfl;have hst:Zo [h'] X4 [h'] (X4.set h' (.cells [.pointer none,pt d',pt t',pt b'] 1 false false)):=⟨by simp,fun j hj hn=>List.getElem?_set_ne (fun e=>hn (by simp[e])),fun j hj=>.inl hj⟩;have dx:DX X4 (.now s') (.pointer none) (pt d') r'.own [d',r'.x,r'.g] 12:=⟨d',r',rfl,rfl,S4.nd.cap,rfl,rfl⟩;have hO:=S4.own;have t4:=P.tab.hle k4;have b4:=P.brd.hle k4;have xt:=P.xt;have th:=P.th;refine⟨X4.set h' (.cells [.pointer none,pt d',pt t',pt b'] 1 false false),⟨h',t',b',fr',q',r'.own,[d',r'.x,r'.g],12,lvs',.pointer none,pt d'⟩,.now s',pre _ _ ?_,HO.mk' (ZW c4) ?_ ?_ ?_ ?_ P.fq ?_,hE,(P.le.trans k4).put (by omega),fun j hj=>?_,fun j hj=>(P.xf j hj).1,by simp⟩
  .refine(ZC (vs:=[pt h',iv 0]) (H':=X4.set h' (.cells [.pointer none,pt d',pt t',pt b'] 1 false false)) ?_).trans rfl;rw[Zb,if_neg (by decide),Za e4,Za Zp,Za Zq,Za Zg,Za (show fa 1 (pa h' 0) X4=some (pa h' 1,X4) from rfl),Za s4];rfl
  .refine dx.step hst (fun j hj e=>by simp at e;have:=hO j hj;omega) (fun j hj e=>?_);obtain⟨i,cs,es,g,ro,hc⟩:=dx.first _ hj;rw[List.mem_singleton.1 e,c4] at hc;simp at hc
  .exact t4.keep (fun j hj=>hst.keep j (t4.lt j hj) (by simp;intro e;have:=(P.xf j hj).2;omega)) hst.len
  .exact b4.keep (fun j hj=>hst.keep j (b4.lt j hj) (by
    simp
    intro e;rcases hj with hj|hj
    .have:=P.xb;omega
    .have:=P.xq j hj;omega))
  .intro hf;have:=(P.xf _ hf).2;simp only at this;omega
  .intro j hj hf;have:=(P.xf _ hf).2;have:=hO j hj;omega
  .simp[HP.own] at hj
   rcases hj with hj|rfl|rfl|hj
   .have:=hO _ hj;omega
   .omega
   .omega
   .exact(P.xq _ hj).1
theorem ZGY {l:List Tx} {ks:List KA}:Zgy (ZfQ l ks)=(6,[]):=by
 have e1:Jl 1 (0,ZfQ l ks)=(2,(0,Zg4 l++(le ks.length 2++Zap ks))):=by
  unfold ZfQ;exact Zbj (by decide)
 unfold Zgy;rw[e1];simp
theorem ZHc {l:List Ent}:Zht (Zii l)=(6,[],[]):=by
 have e1:Jl 1 (0,Zii l)=(1,(0,le l.length 2++ZbH l)):=by
  unfold Zii;exact Zbj (by decide)
 unfold Zht;rw[e1];simp
theorem ZGa (h:HO X p D T B) (hs:Sl X v (u8s (ZdT D))) (ht:Tab X t T lvs fr) (hb:Brd X b B qb):∃ X',R (n+14) Zaw [iv (3 - verS D),v,pt t,pt b] X=some (.tuple #[.pointer none,iv 6],X')/\HLe X X':=by
 have hd:=h.dir;cases D with
 | old m=>
  obtain⟨d,b0,w1,w2,w3,w4,_,_⟩:=hd;obtain⟨u1,u2,u3⟩:=ZxI w3 w4;obtain⟨X3,t',b',h',lvs',fr',q',P,pre⟩:=Zko (n:=n) (v:=v) ht hb (z:=2) (by omega) (by omega);have hs3:Sl X3 v (u8s (Zii (Q3 m))):=hs.mono P.le;obtain⟨dv,X4,e4,k4,hno,_⟩:=Zq4 (n:=n) hs3 (ZBo u1 u3);rw[ZHc] at e4 hno;have hno:=hno (by decide);subst hno;have hl:=P.le.len;have hh:=P.th;have xt:=P.xt;have c4:=k4 _ _ P.cell;have s4:st1 (pa h' 1) (.pointer none) X4=some (undef,X4.set h' (.cells [.pointer none,.pointer none,pt t',pt b'] 1 false false)):=Wq (o:=1) c4 (by simp) rfl;refine⟨X4.set h' (.cells [.pointer none,.pointer none,pt t',pt b'] 1 false false),pre _ _ ?_,(P.le.trans k4).put (by omega)⟩;refine(ZC (vs:=[pt h',iv 6]) (H':=X4.set h' (.cells [.pointer none,.pointer none,pt t',pt b'] 1 false false)) ?_).trans rfl;rw[Zb,if_neg (by decide),Za e4,Za Zp,Za Zq,Za Zg,Za (show fa 1 (pa h' 0) X4=some (pa h' 1,X4) from rfl),Za s4];rfl
 | now s=>
  obtain⟨d,r0,w1,w2,w3,_,_⟩:=hd;obtain⟨X3,t',b',h',lvs',fr',q',P,pre⟩:=Zko (n:=n) (v:=v) ht hb (z:=1) (by omega) (by omega);have hK:=ZxY w3;obtain⟨g1',g2',g3',g4',_,_⟩:=ZxD hK;have hel:=Zsm (fun k hk=>ZtV (g1' k hk)) g2' g3' g4';have hs3:Sl X3 v (u8s (ZfQ (ZN s.K) (A.allK s))):=hs.mono P.le;obtain⟨dv,X4,e4,k4,hno,_⟩:=Zrz (n:=n+5) hs3 (by omega);have e4:R (n+13) ZaW [v] X3=_:=e4;rw[ZGY] at e4 hno;have hno:=hno (by decide);subst hno;have hl:=P.le.len;have hh:=P.th;have xt:=P.xt;have c4:=k4 _ _ P.cell;have s4:st1 (pa h' 0) (.pointer none) X4=some (undef,X4.set h' (.cells [.pointer none,.pointer none,pt t',pt b'] 1 false false)):=Wq (o:=0) c4 (by simp) rfl;refine⟨X4.set h' (.cells [.pointer none,.pointer none,pt t',pt b'] 1 false false),pre _ _ ?_,(P.le.trans k4).put (by omega)⟩;refine(ZC (vs:=[pt h',iv 6]) (H':=X4.set h' (.cells [.pointer none,.pointer none,pt t',pt b'] 1 false false)) ?_).trans rfl;rw[Zb,if_pos (show((1:Int)==1)=true from rfl),Za e4,Za Zp,Za Zq,Za Zg,Za Zi,Za s4];rfl
theorem ZEw {z:Value}:R (n+1) Zaw [z,v,pt t,.pointer none] X=some (.tuple #[.pointer none,iv 1],X):=by
 rw[R,Ztg rfl];unfold ZlX;have y1:bop .ptr .eql (pt t) (.pointer none) X=some (.bool false,X):=Jc;have y2:bop .ptr .eql (.pointer none) (.pointer none) X=some (.bool true,X):=rfl;rw[Za y1,Z4,Zm,Za y2,Z5,ZT,Za Zk];rw[show cond false (Value.bool true) (Value.bool true)=.bool true from rfl,Za (show gate (.bool true) false 2 _ X=some ([QC,QC],X) from rfl),ZT,Za Zk];rw[show cond true (Value.bool true) QC=.bool true from rfl,Za (show gate (.bool true) false 2 _ X=some ([QC,QC],X) from rfl),ZT,Za Zk];rfl
end
section
variable {X X' Y H0:Zd} {n:Nat} {p p':HP} {D D':Qf} {T:List Qy} {B:List Nat} {r:W7} {rs:List W7} {sl:Value}
def Ze4 (H:Zd) (sl:Value) (rs:List W7):Prop:=SlN 7 H sl (rs.map W7.cells)/\∀ r∈rs,ZmN r
theorem Ze4.len (h:Ze4 X sl rs):ZB sl X'=some (iv rs.length,X'):=by
 have:=h.1.len (H':=X')
 rwa [List.length_map] at this
theorem Ze4.mono (h:Ze4 X sl rs) (hl:HLe X X'):Ze4 X' sl rs:=⟨h.1.mono hl,h.2⟩
theorem Ze4.fetch {β:Type} {k:Value->M β} (h:Ze4 X sl rs) {j:Nat} (hj:rs[j]?=some r) :
  bind (ixa 7 sl (iv j)) (fun p=>bind (ldA 7 p) fun v=>bind (alc 1 (.agg #[.int .u8 0,.int .u64 0,.int .u8 0,.string ⟨#[]⟩,.string ⟨#[]⟩,.int .u8 0,.int .u8 0])) fun q=>bind (stA 7 q v) fun _=>k q) X=k (pt X.length) (X++[.cells r.cells 1 false false]):=by
 have hr:(rs.map W7.cells)[j]?=some r.cells:=by rw[List.getElem?_map,hj];rfl
 rw[h.1.fetch hr (by omega) .i64];exact ZaX (n:=7) (zs:=[.int .u8 0,.int .u64 0,.int .u8 0,.string ⟨#[]⟩,.string ⟨#[]⟩,.int .u8 0,.int .u8 0]) (r:=r.cells) rfl rfl rfl rfl
def ZgZ (r:W7):Bool:=decide (r.o.a.length<=100) && decide (r.o.b.length<=100)
end
section
variable {X X' Y H H0:Zd} {n:Nat} {rs:List W7} {sl:Value}
theorem ZBH (h:Ze4 H0 sl rs) (hn:rs.length<=9223372036854775807):∀ (t j:Nat) {X:Zd},rs.length - j=t->j<=rs.length->HLe H0 X->
  ∃ X',Zj (c4 (Zae.l1 (R n))) [sl,sl,iv rs.length,iv j] X=some (if(rs.drop j).all ZgZ then .ext 0 [sl] else .ret (.bool false),X')/\HLe H0 X'
 | 0,j,X,ht,hj,hle=>by
  have:j=rs.length:=by omega
  subst this;rw[List.drop_length];refine⟨X,ZZ ?_,hle⟩;rw[ZL];unfold Zae.l1;rw[Za Zs,Zb,if_neg (by simp)];rfl
 | t+1,j,X,ht,hj,hle=>by
  have hjn:j < rs.length:=by omega
  have hlt:(j:Int) < rs.length:=by omega
  have hja:=List.getElem?_eq_getElem hjn;have hd:=List.drop_eq_getElem_cons hjn;generalize rs[j]=a at hja hd;have g1:(X++[Zf.cells a.cells 1 false false])[X.length]?=some (.cells a.cells 1 false false):=Zn;have l1:ld1 (pa X.length 3) (X++[.cells a.cells 1 false false])=some (strv a.o.a,X++[.cells a.cells 1 false false]):=Zy g1 rfl;have l2:ld1 (pa X.length 4) (X++[.cells a.cells 1 false false])=some (strv a.o.b,X++[.cells a.cells 1 false false]):=Zy g1 rfl;have hf:=fun {K:Value->M Out}=>(h.mono hle).fetch (k:=K) hja;have k1:=hle.trans (HLe.app X [.cells a.cells 1 false false]);generalize X++[Zf.cells a.cells 1 false false]=X1 at g1 l1 l2 k1 hf;obtain⟨X2,e2,k2⟩:=ZBH h hn t (j+1) (by omega) (by omega) k1;have y2:fa 2 (pt X.length) X1=some (pa X.length 2,X1):=rfl;have y3:fa 1 (pa X.length 2) X1=some (pa X.length 3,X1):=rfl;have y4:fa 2 (pa X.length 2) X1=some (pa X.length 4,X1):=rfl;rw[hd,List.all_cons];have hb:Zae.l1 (R n) sl sl (iv rs.length) (iv j) X=some (if ZgZ a then .nrm [sl,sl,iv rs.length,iv ((j+1:Nat):Int)] else .ret (.bool false),X1):=by
   unfold Zae.l1;rw[Za Zs,Zb,if_pos (by simpa using hlt),hf,Za y2,Za y3,Za l1,Za Qg,Za Z0];unfold ZgZ;by_cases h1:a.o.a.length<=100
   .have h1':¬ ((a.o.a.length:Int) > 100):=by omega
    rw[decide_eq_false h1',Z4,Zm,Za y2,Zm,Za y4,Zm,Za l2,Zm,Za Qg,Zm,Za Z0,Z5,QJ,Za Zk,decide_eq_true h1];simp only[cond_false];by_cases h2:a.o.b.length<=100
    .have h2':¬ ((a.o.b.length:Int) > 100):=by omega
     rw[decide_eq_false h2',Zb,if_neg (by simp),Za ZG,Je (by omega),decide_eq_true h2];rfl
    .have h2':((a.o.b.length:Int) > 100):=by omega
     rw[decide_eq_true h2',Zb,if_pos rfl,decide_eq_false h2];rfl
   .have h1':((a.o.a.length:Int) > 100):=by omega
    rw[decide_eq_true h1',Za (g_r.trans (if_neg (by simp)))];simp only[List.replicate];rw[QJ,Za Zk];simp only[cond_true];rw[Zb,if_pos rfl,decide_eq_false h1];rfl
  cases hfa:ZgZ a
  .rw[hfa] at hb;exact⟨X1,Yu hb,k1⟩
  .rw[hfa] at hb;exact⟨X2,(ZJ hb).trans e2,k2⟩
theorem ZD9 (h:Ze4 H sl rs) (hn:rs.length<=9223372036854775807):∃ H',R (n+1) ZaV [sl] H=some (.bool (rs.all ZgZ && decide (rs.length<=60)),H')/\HLe H H':=by
 obtain⟨H',e,k⟩:=ZBH (n:=n) h hn rs.length 0 (by omega) (by omega) (.refl _);rw[List.drop_zero] at e;have e:Zj (c4 (Zae.l1 (R n))) [sl,sl,iv rs.length,.int .i64 0] H=_:=e;refine⟨H',?_,k⟩;rw[R,Zx9 rfl];unfold Zae;rw[Za h.len];cases hf:rs.all ZgZ
 .rw[hf] at e;rw[KG e];rfl
 .rw[hf] at e;rw[Qk e,ZI,Yi,Za h.len,Za JB];simp[ret,decide_eq_decide]
  omega
theorem ZDx (h:GlH H):R (n+1) Yv [] H=some (.bool true,H):=by
 have:R (n+1) Yv []=Zj5 gl (.bool true) []:=rfl;rw[this,ZGJ h]
abbrev opT:Ty:=.struct (.pair (.int .u8) (.pair .str (.pair .str (.pair (.int .u8) (.pair (.int .u8) .unit)))))
abbrev reqT:Ty:=.struct (.pair (.int .u8) (.pair (.int .u64) (.pair opT .unit)))
theorem Zly {q:IntKind} {z:Int} (hz:0<=z):Value.int q z=Value.int q (z.toNat:Nat):=by rw[Int.toNat_of_nonneg hz]
theorem ZJb {x:reqT.den} {H:Zd} {cs:List Value} (hw:reqT.wf x) (h:Rd reqT x H cs):∃ r:W7,cs=r.cells/\ZmN r:=by
 obtain⟨cl,num,⟨kd,a,b,nd,rl,u1⟩,u2⟩:=x;obtain⟨h1,h2,⟨h3,h4,h5,h6,h7,h8⟩,h9⟩:=h;obtain⟨w1,w2,⟨w3,w4,w5,w6,w7,_⟩,_⟩:=hw;have h1:cs.take 1=[.int .u8 cl]:=h1;have h2:(cs.drop 1).take 1=[.int .u64 num]:=h2;have h3:(((cs.drop 1).drop 1).take 5).take 1=[.int .u8 kd]:=h3;have h4:((((cs.drop 1).drop 1).take 5).drop 1).take 1=[.string a]:=h4;have h5:(((((cs.drop 1).drop 1).take 5).drop 1).drop 1).take 1=[.string b]:=h5;have h6:((((((cs.drop 1).drop 1).take 5).drop 1).drop 1).drop 1).take 1=[.int .u8 nd]:=h6;have h7:(((((((cs.drop 1).drop 1).take 5).drop 1).drop 1).drop 1).drop 1).take 1=[.int .u8 rl]:=h7;have h9:((cs.drop 1).drop 1).drop 5=[]:=h9
 match cs,h1,h2,h3,h4,h5,h6,h7,h9 with
 | [c1,c2,c3,c4,c5,c6,c7],h1,h2,h3,h4,h5,h6,h7,_=>
  have w1:=ZxE w1;have w3:=ZxE w3;have w6:=ZxE w6;have w7:=ZxE w7;have w2:=ZIR w2;have e1:c1=.int .u8 cl:=by simpa using h1
  have e2:c2=.int .u64 num:=by simpa using h2
  have e3:c3=.int .u8 kd:=by simpa using h3
  have e4:c4=.string a:=by simpa using h4
  have e5:c5=.string b:=by simpa using h5
  have e6:c6=.int .u8 nd:=by simpa using h6
  have e7:c7=.int .u8 rl:=by simpa using h7
  refine⟨⟨Int.toNat cl,Int.toNat num,⟨Int.toNat kd,(ByteArray.data a).toList,(ByteArray.data b).toList,Int.toNat nd,Int.toNat rl⟩⟩,?_,?_⟩
  .rw[e1,e2,e3,e4,e5,e6,e7,Zly w1.1,Zly w2.1,Zly w3.1,Zly w6.1,Zly w7.1,ZBz a,ZBz b];rfl
  .have k8:∀ z:Int,0<=z/\z<=255->z.toNat<=255:=fun z hz=>by omega
   have k64:∀ z:Int,0<=z/\z<=18446744073709551615->z.toNat < 18446744073709551616:=fun z hz=>by omega
   exact⟨k8 cl w1,k64 num w2,⟨k8 kd w3,k8 nd w6,k8 rl w7⟩⟩
theorem ZBw {x:(Ty.slc reqT).den} {H:Zd} {v:Value} (hwf:(Ty.slc reqT).wf x) (h:Rd (.slc reqT) x H [v]):∃ rs,Ze4 H v rs/\rs.length<=9223372036854775807:=by
 obtain⟨rows,h1,h2,h3,h4⟩:=ZHE hwf h;obtain⟨rs,h5,h6⟩:=Zuy (f:=W7.cells) (Q:=fun _ a=>ZmN a) (rows:=rows) fun r hr=>by
  obtain⟨y,hy,hr⟩:=h2 r hr;exact ZJb hy hr
 subst h5;exact⟨rs,⟨h1,h6⟩,by simpa using h3⟩
end
section
variable {X X' Y H H0:Zd} {n:Nat} {p p' g:HP} {D D' E:Qf} {T:List Qy} {B:List Nat} {r:W7} {rs ws:List W7} {sl sw x1 x2:Value}
theorem ZBE (hG:GlH H0) (hR:Ze4 H0 sl rs) (hF:rs.all ZgZ=true) (hn:rs.length<=60):∀ (t i:Nat) (p:HP) (D:Qf) (T:List Qy) (B:List Nat) (X:Zd),rs.length - i=t->i<=rs.length->HLe H0 X->HO X p D T B->(∀ j∈p.own,H0.length<=j)->p.c+t<=1000->
  ∃ X' p' D' T' B',Zj (c6 (Jb.l1 (R (n+19)))) [x1,x2,pt p.h,sl,iv rs.length,iv i] X=some (.ext 0 [x1,x2,pt p.h],X')/\HO X' p' D' T' B'/\p'.h=p.h/\HLe H0 X'/\(∀ j∈p'.own,H0.length<=j)/\p'.c<=p.c+t
 | 0,i,p,D,T,B,X,ht,hi,hle,h,ho,hc=>by
  have:i=rs.length:=by omega
  subst this;refine⟨X,p,D,T,B,ZZ ?_,h,rfl,hle,ho,by omega⟩;rw[YL];unfold Jb.l1;rw[Za Zs,Zb,if_neg (by simp)];rfl
 | t+1,i,p,D,T,B,X,ht,hi,hle,h,ho,hc=>by
  have hil:i < rs.length:=by omega
  have hlt:(i:Int) < rs.length:=by omega
  have hja:=List.getElem?_eq_getElem hil;have hm:rs[i]∈rs:=List.getElem_mem hil;generalize rs[i]=r at hja hm;have hok:=hR.2 r hm;have hfew:r.o.a.length<=100/\r.o.b.length<=100:=by simpa[ZgZ] using List.all_eq_true.1 hF r hm
  have hf:=fun {K:Value->M Out}=>(hR.mono hle).fetch (k:=K) hja;have k1:HLe X (X++[Zf.cells r.cells 1 false false]):=.app _ _;have c1:(X++[Zf.cells r.cells 1 false false])[X.length]?=some (.cells r.cells 1 false false):=Zn;generalize X++[Zf.cells r.cells 1 false false]=X1 at hf k1 c1;obtain⟨v,l,e,dn,p',D',T',B',X3,e4,_,_,_,_,H3,st,hh,hc',_,_⟩:=ZkH (n:=n) (r:=r) (hG.le (hle.trans k1)) (h.hle k1) (by omega) hok (by omega) (by omega);have m3:=(hle.trans k1).more st ho;obtain⟨X',p2,D2,T2,B2,e7,i1,i2,i3,i4,i5⟩:=ZBE hG hR hF hn t (i+1) p' D' T' B' X3 (by omega) (by omega) m3.1 H3 m3.2 (by omega);rw[hh] at e7 i2;refine⟨X',p2,D2,T2,B2,(ZJ ?_).trans e7,i1,i2,i3,i4,by omega⟩;rw[YL];unfold Jb.l1;rw[Za Zs,Zb,if_pos (by simpa using hlt),hf,Za (Z8 (n:=7) c1 rfl),Za e4,Za ZG,Je (by omega)];rfl
theorem bnn {a:Bool}:bop .bool .neq (.bool a) (.bool a) X=some (.bool false,X):=by rw[JX];simp
theorem ZCo {i:Nat} (hG:GlH H0) (hR:Ze4 H0 sl rs) (hF:rs.all ZgZ=true) (hn:rs.length<=60) (hi:i < rs.length) (hle:HLe H0 X) (h:HO X p D T B) (hg:HO X g E T B) (hf:Far p g) (hS:WP D E) (ho:∀ j∈p.own,H0.length<=j) (hog:∀ j∈g.own,H0.length<=j) (hc:p.c<=999) (hcg:g.c<=999) :
  ∃ X' p' g' D' E' T' B',Jb.l2 (R (n+19)) (pt p.h) (pt g.h) sl (iv rs.length) (iv i) X=some (.nrm [pt p.h,pt g.h,sl,iv rs.length,iv ((i+1:Nat):Int)],X')/\HO X' p' D' T' B'/\HO X' g' E' T' B'/\Far p' g'/\WP D' E'/\p'.h=p.h/\g'.h=g.h/\HLe H0 X'/\(∀ j∈p'.own,H0.length<=j)/\(∀ j∈g'.own,H0.length<=j)/\p'.c<=p.c+1/\g'.c<=g.c+1:=by
 have hlt:(i:Int) < rs.length:=by omega
 have hja:=List.getElem?_eq_getElem hi;have hm:rs[i]∈rs:=List.getElem_mem hi;generalize rs[i]=r at hja hm;have hok:=hR.2 r hm;have hfew:r.o.a.length<=100/\r.o.b.length<=100:=by simpa[ZgZ] using List.all_eq_true.1 hF r hm
 have hft:=fun {K:Value->M Out}=>(hR.mono hle).fetch (k:=K) hja;have hX0:=hle.len;have k1:HLe X (X++[Zf.cells r.cells 1 false false]):=.app _ _;have c1:(X++[Zf.cells r.cells 1 false false])[X.length]?=some (.cells r.cells 1 false false):=Zn;generalize X++[Zf.cells r.cells 1 false false]=X1 at hft k1 c1;obtain⟨a,ha⟩:∃ a,a=X.length:=⟨_,rfl⟩;rw[<- ha] at hft c1;have ax1:a < X1.length:=ZX c1;have aop:a∉p.own:=fun hx=>by have:=h.lt _ hx;omega
 have aog:a∉g.own:=fun hx=>by have:=hg.lt _ hx;omega
 obtain⟨X2,pc,e2,hpc,k2,ow2,fr2,cc⟩:=ZHH (n:=n+14) (h.hle k1);have e2:R (n+19) Za8 [pt p.h] X1=_:=e2;have n1:=k1.len;have n2:=k2.len;have h2:=(h.hle k1).hle k2;have g2:=(hg.hle k1).hle k2;have f2c:=Far.new (h.hle k1) ow2 fr2;have f2g:=Far.new (hg.hle k1) ow2 fr2;have c2:=k2 _ _ c1;have aoc:a∉pc.own:=fun hx=>by have:=ow2 _ hx;omega
 have hle2:=(hle.trans k1).trans k2;have ltp2:=h2.lt;have ltg2:=g2.lt;have ltc2:=hpc.lt;obtain⟨v1,l1,ee,dn,p3,D3,T3,B3,X3,e3,s3,o3,m3,fr3,h3,st3,hh3,hc3,ff3,out3⟩:=ZkH (n:=n) (r:=r) (hG.le hle2) h2 (by omega) hok (by omega) (by omega);obtain⟨g3,f3⟩:=h2.other g2 hf st3 ff3;obtain⟨pc3,f3c⟩:=h2.other hpc f2c st3 ff3;have c3:=st3.get c2 aop;have hm3:=hle2.more st3 ho;have n3:=st3.len;have z4:∀ K:Value->M Out,bind (alc 1 (.agg #[.int .i64 0,.slice none 0 0])) (fun q=>bind (stA 2 q (.agg #[iv ee,v1])) fun _=>K q) X3=K (pt X3.length) (X3++[.cells [iv ee,v1] 1 false false]):=fun K=>ZaX (n:=2) (zs:=[.int .i64 0,.slice none 0 0]) (r:=[iv ee,v1]) rfl rfl rfl (by rw[List.all_cons,List.all_cons,o3];rfl);have k4:HLe X3 (X3++[Zf.cells [iv ee,v1] 1 false false]):=.app _ _;have b4:(X3++[Zf.cells [iv ee,v1] 1 false false])[X3.length]?=some (.cells [iv ee,v1] 1 false false):=Zn;generalize X3++[Zf.cells [iv ee,v1] 1 false false]=X4 at z4 k4 b4;have c4':=k4 _ _ c3;have n4:=k4.len;obtain⟨v2,l2,ee2,dn2,g5,E5,T5,B5,X5,e5,s5,o5,m5,fr5,g5',st5,hh5,hc5,ff5,out5⟩:=ZkH (n:=n) (r:=r) (hG.le (hm3.1.trans k4)) (g3.hle k4) (by omega) hok (by omega) (by omega);obtain⟨rfl,rfl,rfl,S5,rfl,rfl⟩:=ZGz hS h.dir.invD hg.dir.invD out3 out5;obtain⟨p5,f5⟩:=(g3.hle k4).other (h3.hle k4) f3.symm st5 ff5;obtain⟨pc5,f5c⟩:=(g3.hle k4).other (pc3.hle k4) f2g st5 ff5;have c5':=st5.get c4' aog;have b5:=st5.get b4 (fun hx=>by have:=ltg2 _ hx;omega);have s15:=(s3.mono k4).keepS st5 (fun id hi hx=>by have:=ltg2 _ hx;have:=fr3 id hi;omega)
 have hm5:=(hm3.1.trans k4).more st5 hog;have n5:=st5.len;have z6:∀ K:Value->M Out,bind (alc 1 (.agg #[.int .i64 0,.slice none 0 0])) (fun q=>bind (stA 2 q (.agg #[iv ee,v2])) fun _=>K q) X5=K (pt X5.length) (X5++[.cells [iv ee,v2] 1 false false]):=fun K=>ZaX (n:=2) (zs:=[.int .i64 0,.slice none 0 0]) (r:=[iv ee,v2]) rfl rfl rfl (by rw[List.all_cons,List.all_cons,o5];rfl);have k6:HLe X5 (X5++[Zf.cells [iv ee,v2] 1 false false]):=.app _ _;have d6:(X5++[Zf.cells [iv ee,v2] 1 false false])[X5.length]?=some (.cells [iv ee,v2] 1 false false):=Zn;generalize X5++[Zf.cells [iv ee,v2] 1 false false]=X6 at z6 k6 d6;obtain⟨X7,e7,k7⟩:=ZyC (n:=n+17) (e:=ee) m3 (s15.mono k6) (s5.mono k6) o3 o5;have e7:R (n+19) ZdN [.agg #[iv ee,v1],.agg #[iv ee,v2]] X6=_:=e7;have k57:=k6.trans k7;have vp:R (n+19) Jv [pt p3.h] X7=_:=Zmj (n:=n+18) (p5.hle k57);have vg:R (n+19) Jv [pt g5.h] X7=_:=Zmj (n:=n+18) (g5'.hle k57);obtain⟨w8,X8,e8,t8,k8⟩:=ZjJ (n:=n+6) (p5.hle k57);have e8:R (n+19) Qb [pt p3.h] X7=_:=e8;have k58:=k57.trans k8;obtain⟨w9,X9,e9,t9,k9⟩:=ZjJ (n:=n+6) (g5'.hle k58);have e9:R (n+19) Qb [pt g5.h] X8=_:=e9;have k59:=k58.trans k9;have hby:=Zws S5 p5.dir.invD g5'.dir.invD;have c9:=k59 _ _ c5';obtain⟨X10,t10,lv10,fq10,e10,y10,k10,_⟩:=Zjq (n:=n+15) (p5.hle k59);have e10:R (n+19) Q2 [pt p3.h] X9=_:=e10;have k510:=k59.trans k10;have z10:R (n+19) YE [pt t10,.int .u8 r.cl] X10=_:=ZEB (n:=n+18) y10;obtain⟨X11,t11,lv11,fq11,e11,y11,k11,_⟩:=Zjq (n:=n+15) (g5'.hle k510);have e11:R (n+19) Q2 [pt g5.h] X10=_:=e11
 have k511:=k510.trans k11;have z11:R (n+19) YE [pt t11,.int .u8 r.cl] X11=_:=ZEB (n:=n+18) y11;have cl:∀ {Z:Zd},HLe X9 Z->ld1 (pa a 0) Z=some (.int .u8 r.cl,Z):=fun {Z} hz=>Zy (o:=0) (hz _ _ c9) rfl;have c11:=k511 _ _ c5';obtain⟨v3,l3,ee3,dn3,q12,D12,T12,B12,X12,e12,s12,o12,m12,fr12,q12',st12,hh12,hc12,ff12,out12⟩:=ZkH (n:=n) (r:=r) (hG.le (hm5.1.trans k511)) (pc5.hle k511) (by omega) hok (by omega) (by omega);obtain⟨rfl,rfl,rfl,S12,_,_⟩:=ZGz (WP.refl D) h.dir.invD h.dir.invD out12 out3;obtain⟨p12,_⟩:=(pc5.hle k511).other (p5.hle k511) f3c.symm st12 ff12;obtain⟨g12,_⟩:=(pc5.hle k511).other (g5'.hle k511) f5c.symm st12 ff12;have b12:=st12.get (k511 _ _ b5) (fun hx=>by have:=ltc2 _ hx;omega);have s112:=(s15.mono k511).keepS st12 (fun id hi hx=>by have:=ltc2 _ hx;have:=fr3 id hi;omega);have hm12:=(hm5.1.trans k511).more st12 (fun j hj=>by have:=ow2 j hj;omega);have z13:∀ K:Value->M Out,bind (alc 1 (.agg #[.int .i64 0,.slice none 0 0])) (fun q=>bind (stA 2 q (.agg #[iv ee3,v3])) fun _=>K q) X12=K (pt X12.length) (X12++[.cells [iv ee3,v3] 1 false false]):=fun K=>ZaX (n:=2) (zs:=[.int .i64 0,.slice none 0 0]) (r:=[iv ee3,v3]) rfl rfl rfl (by rw[List.all_cons,List.all_cons,o12];rfl);have k13:HLe X12 (X12++[Zf.cells [iv ee3,v3] 1 false false]):=.app _ _;have d13:(X12++[Zf.cells [iv ee3,v3] 1 false false])[X12.length]?=some (.cells [iv ee3,v3] 1 false false):=Zn;generalize X12++[Zf.cells [iv ee3,v3] 1 false false]=X13 at z13 k13 d13;obtain⟨X14,e14,k14⟩:=ZyC (n:=n+17) (e:=ee3) m12 (s12.mono k13) (s112.mono k13) o12 o3
 have e14:R (n+19) ZdN [.agg #[iv ee3,v3],.agg #[iv ee3,v1]] X13=_:=e14;have k1214:=k13.trans k14;obtain⟨w15,X15,e15,t15,k15⟩:=ZjJ (n:=n+6) (q12'.hle k1214);have e15:R (n+19) Qb [pt q12.h] X14=_:=e15;have k1215:=k1214.trans k15;obtain⟨w16,X16,e16,t16,k16⟩:=ZjJ (n:=n+6) (p12.hle k1215);have e16:R (n+19) Qb [pt p3.h] X15=_:=e16;have k1216:=k1215.trans k16;have hby2:=Zws S12 q12'.dir.invD p12.dir.invD;refine⟨X16,p3,g5,D3,E5,_,_,?_,p12.hle k1216,g12.hle k1216,f5.symm,S5,hh3,hh5,hm12.1.trans k1216,hm3.2,hm5.2,hc3,hc5⟩;unfold Jb.l2;rw[hh3] at vp e8 e10 e16;rw[hh5] at vg e9 e11;rw[hh12] at e15;have same8:bop .str .neq (strv (ZdT D3)) (strv (ZdT E5)) X9=some (.bool false,X9):=by rw[hby,Zhl];simp
 have same16:bop .str .neq (strv (ZdT D12)) (strv (ZdT D3)) X16=some (.bool false,X16):=by rw[hby2,Zhl];simp
 have nv:bop .int .neq (iv (verS D3)) (iv (verS E5)) X7=some (.bool false,X7):=by rw[S5.ver,Zl];simp
 have nl:∀ {x:Nat},bop .int .neq (.int .u64 x) (.int .u64 x) X11=some (.bool false,X11):=fun {x}=>by rw[Zl];simp
 rw[Za Zs,Zb,if_pos (by simpa using hlt),hft,Za e2,Za (Z8 (n:=7) c2 rfl),Za e3,Za Zp,Za Zq,z4,Za (Z8 (n:=7) c4' rfl),Za e5,Za Zp,Za Zq,z6,Za bnn];rw[ZQ,Za (Z8 (n:=2) (k6 _ _ b5) rfl),ZQ,Za (Z8 (n:=2) d6 rfl),ZQ,Za e7,ZQ,Za ZP,Za Zk];rw[show cond false (Value.bool true) (Value.bool (!true))=.bool false from rfl];rw[ZQ,Z5,ZQ,Z5,ZQ,Za vp,ZQ,Za vg,ZQ,Za nv,Za Zk];rw[show cond false (Value.bool true) (Value.bool false)=.bool false from rfl];rw[ZQ,Z5,ZQ,Z5,ZQ,Za e8,ZQ,Za (Zku t8),ZQ,Za e9,ZQ,Za (Zku (t8.mono k9)),Ql,ZQ,Za (Zku t9),ZQ,Za same8,Za Zk];rw[show cond false (Value.bool true) (Value.bool false)=.bool false from rfl];rw[ZQ,Z5,ZQ,Za Zi,ZQ,Za (cl (.refl _)),ZQ,Z5,ZQ,Za Zi,ZQ,Za (cl (.refl _)),ZQ,Za e10,ZQ,Za (cl k10),Ql,ZQ,Za (cl k10),Ql,ZQ,Za z10,ZQ,Za (cl k10),Ql,ZQ,Za e11,ZQ,Za (cl (k10.trans k11)),Ql,ZQ,Za z11,ZQ,Za nl,Za Zk];rw[show cond false (Value.bool true) (Value.bool false)=.bool false from rfl,Zb,if_neg (by simp)];rw[Za (Z8 (n:=7) c11 rfl),Za e12,Za Zp,Za Zq,z13,Za bnn];rw[ZQ,Za (Z8 (n:=2) d13 rfl),ZQ,Za (Z8 (n:=2) (k13 _ _ b12) rfl),ZQ,Za e14,ZQ,Za ZP,Za Zk];rw[show cond false (Value.bool true) (Value.bool (!true))=.bool false from rfl];rw[ZQ,Z5,ZQ,Z5,ZQ,Za e15,ZQ,Za (Zku t15),ZQ,Za e16,ZQ,Za (Zku (t15.mono k16)),Ql,ZQ,Za (Zku t16),ZQ,Za same16,Za Zk];rw[show cond false (Value.bool true) (Value.bool false)=.bool false from rfl,Zb,if_neg (by simp),Za ZG,Je (by omega)];rfl
theorem ZBM (hG:GlH H0) (hR:Ze4 H0 sl rs) (hF:rs.all ZgZ=true) (hn:rs.length<=60):∀ (t i:Nat) (p g:HP) (D E:Qf) (T:List Qy) (B:List Nat) (X:Zd),rs.length - i=t->i<=rs.length->HLe H0 X->HO X p D T B->HO X g E T B->Far p g->WP D E->(∀ j∈p.own,H0.length<=j)->(∀ j∈g.own,H0.length<=j)->p.c+t<=999->g.c+t<=999->
  ∃ X',Zj (c5 (Jb.l2 (R (n+19)))) [pt p.h,pt g.h,sl,iv rs.length,iv i] X=some (.ext 2 [],X')
 | 0,i,p,g,D,E,T,B,X,ht,hi,hle,h,hg,hf,hS,ho,hog,hc,hcg=>by
  have:i=rs.length:=by omega
  subst this;refine⟨X,ZZ ?_⟩;rw[QJ];unfold Jb.l2;rw[Za Zs,Zb,if_neg (by simp)];rfl
 | t+1,i,p,g,D,E,T,B,X,ht,hi,hle,h,hg,hf,hS,ho,hog,hc,hcg=>by
  obtain⟨X1,p1,g1,D1,E1,T1,B1,e1,i1,i2,i3,i4,i5,i6,i7,i8,i9,i10,i11⟩:=ZCo (n:=n) (i:=i) hG hR hF hn (by omega) hle h hg hf hS ho hog (by omega) (by omega);obtain⟨X2,e2⟩:=ZBM hG hR hF hn t (i+1) p1 g1 D1 E1 T1 B1 X1 (by omega) (by omega) i7 i1 i2 i3 i4 i8 i9 (by omega) (by omega);rw[i5,i6] at e2;exact⟨X2,(ZJ e1).trans e2⟩
theorem ZGl (hG:GlH H) (h:Ze4 H sl rs) (hn:rs.length<=9223372036854775807) (hw:Ze4 H sw ws) (hnw:ws.length<=9223372036854775807) {z:Value}:∃ H',R (n+20) ZeX [sl,sw,z] H=some (.bool true,H'):=by
 obtain⟨H1,e1,k1⟩:=ZD9 (n:=n+18) h hn;have e1:R (n+19) ZaV [sl] H=_:=e1;have e0:∀ Z,GlH Z->R (n+19) Yv [] Z=some (.bool true,Z):=fun Z hZ=>ZDx (n:=n+18) hZ;have f0:∀ {Z:Zd},GlH Z->∃ H',bind (R (n+19) Yv []) (fun v=>ret v) Z=some (.bool true,H'):=fun {Z} hZ=>⟨Z,by rw[Za (e0 Z hZ)];rfl⟩;rw[R,ZtT rfl];unfold Jb;rw[Za (e0 H hG),Za ZP,Bool.not_true,Z4,Zm,Za e1,Zm,Za ZP,Z5,ZY,Za Zk];simp only[cond_false];cases hf:rs.all ZgZ && decide (rs.length<=60) with
 | false=>
  rw[show(!false)=true from rfl,Za (show gate (.bool true) false 3 _ H1=some ([QC,QC,QC],H1) from rfl),ZY,Za Zk];rw[show cond true (Value.bool true) QC=.bool true from rfl,Zb,if_pos rfl];exact f0 (hG.le k1)
 | true=>
  rw[Bool.and_eq_true,decide_eq_true_iff] at hf;obtain⟨H2,e2,k2⟩:=ZD9 (n:=n+18) (hw.mono k1) hnw;have e2:R (n+19) ZaV [sw] H1=_:=e2;have k12:=k1.trans k2;rw[show(!true)=false from rfl,Z4,Zm,Za e2,Zm,Za ZP,Z5,ZY,Za Zk];simp only[cond_false];cases hf2:ws.all ZgZ && decide (ws.length<=60) with
  | false=>
   rw[Zb,if_pos (show(!false)=true from rfl)];exact f0 (hG.le k12)
  | true=>
   rw[Bool.and_eq_true,decide_eq_true_iff] at hf2;obtain⟨p0,H3,e3,h3,k3,o3,c3⟩:=ZIe (n:=n+17) (X:=H2);have e3:R (n+19) ZdK [.int .i64 3] H2=_:=e3;obtain⟨X,p,D,T,B,e4,hp,hh,hle,ho,hc⟩:=ZBE (n:=n) (x1:=sw) (x2:=z) hG h hf.1 hf.2 rs.length 0 p0 (.old []) ZbN [0,0,0] H3 (by omega) (by omega) (k12.trans k3) h3 (fun j hj=>Nat.le_trans k12.len (o3 j hj)) (by omega);have e4:Zj (c6 (Jb.l1 (R (n+19)))) [sw,z,pt p0.h,sl,iv rs.length,.int .i64 0] H3=_:=e4;rw[<- hh] at e4 e3;rw[Zb,if_neg (by simp),Za e3,Za h.len,Qk e4,ZI,ZY];have e5:∀ {Z:Zd},HLe X Z->R (n+19) Jv [pt p.h] Z=some (iv (verS D),Z):=fun {Z} hz=>Zmj (n:=n+18) (hp.hle hz);obtain⟨v6,X6,e6,s6,k6⟩:=ZjJ (n:=n+6) hp;have e6:R (n+19) Qb [pt p.h] X=_:=e6;obtain⟨X7,t7,lv7,fr7,e7,y7,k7,_⟩:=Zjq (n:=n+15) (hp.hle k6);have e7:R (n+19) Q2 [pt p.h] X6=_:=e7;have kx7:=k6.trans k7;obtain⟨X8,b8,q8,e8,y8,k8,_,_⟩:=Zyr (n:=n+16) (hp.hle kx7);have e8:R (n+19) Wv [pt p.h] X7=_:=e8;have kx8:=kx7.trans k8;obtain⟨X9,g,E,e9,hg,hS,k9,og,fg,cg⟩:=ZFr (n:=n+5) (hp.hle kx8) (s6.mono (k7.trans k8)) (y7.hle k8) y8;have e9:R (n+19) Zaw [iv (verS D),v6,pt t7,pt b8] X8=_:=e9;have kx9:=kx8.trans k9;have hfar:=Far.new (hp.hle kx8) og fg;obtain⟨va,Xa,ea,sa,ka⟩:=ZjJ (n:=n+6) (hp.hle kx9);have ea:R (n+19) Qb [pt p.h] X9=_:=ea;have kxa:=kx9.trans ka;obtain⟨Xb,tb,lvb,frb,eb,yb,kb,_⟩:=Zjq (n:=n+15) (hp.hle kxa);have eb:R (n+19) Q2 [pt p.h] Xa=_:=eb;have kxb:=kxa.trans kb;obtain⟨Xc,bc,qc,ec,yc,kc,_,_⟩:=Zyr (n:=n+16) (hp.hle kxb);have ec:R (n+19) Wv [pt p.h] Xb=_:=ec
   have kxc:=kxb.trans kc;obtain⟨Xd,ed,kd⟩:=ZGa (n:=n+5) (hp.hle kxc) (sa.mono (kb.trans kc)) (yb.hle kc) yc;have ed:R (n+19) Zaw [iv (3 - verS D),va,pt tb,pt bc] Xc=_:=ed;have kxd:=kxc.trans kd;obtain⟨ve,Xe,ee,se,ke⟩:=ZjJ (n:=n+6) (hp.hle kxd);have ee:R (n+19) Qb [pt p.h] Xd=_:=ee;have kxe:=kxd.trans ke;obtain⟨Xf,tf,lvf,frf,ef,yf,kf,_⟩:=Zjq (n:=n+15) (hp.hle kxe);have ef:R (n+19) Q2 [pt p.h] Xe=_:=ef;have kxf:=kxe.trans kf;have eh:R (n+19) Zaw [z,ve,pt tf,.pointer none] Xf=_:=ZEw (n:=n+18);have k9f:HLe X9 Xf:=((((ka.trans kb).trans kc).trans kd).trans ke).trans kf;obtain⟨Xg,eg⟩:=ZBM (n:=n) hG hw hf2.1 hf2.2 ws.length 0 p g D E T B Xf (by omega) (by omega) (hle.trans kxf) (hp.hle kxf) (hg.hle k9f) hfar hS ho (fun j hj=>Nat.le_trans (hle.trans kx8).len (og j hj)) (by omega) (by omega);have eg:Zj (c5 (Jb.l2 (R (n+19)))) [pt p.h,pt g.h,sw,iv ws.length,.int .i64 0] Xf=_:=eg;have hver:verS D<=2:=by cases D<;>simp[verS]
   have qs:bop .int .sub (.int .i64 3) (iv (verS D)) X9=some (iv (3 - (verS D:Int)),X9):=by rw[QZ,w64 (by omega) (by omega)]
   refine⟨Xg,?_⟩;rw[Za (e5 (.refl _)),Za e6,Za e7,Za e8,Za e9,Za Zp,Za Zq];rw[Za (show bop .int .neq (iv 0) (.int .i64 0) X9=some (.bool false,X9) from rfl),Z4,Zm,Za (show bop .ptr .eql (pt g.h) (.pointer none) X9=some (.bool false,X9) from Jc),Z5,ZT,Za Zk];rw[show cond false (Value.bool true) (Value.bool false)=.bool false from rfl,Zb,if_neg (by simp)];rw[Za (e5 kx9),Za qs,Za ea,Za eb,Za ec,Za ed,Za Zp,Za Zq,Za ee,Za ef,Za eh,Za Zp,Za Zq];rw[Za (show bop .int .neq (iv 6) (.int .i64 6) Xf=some (.bool false,Xf) from rfl),Z4,Zm,Za (show bop .int .neq (iv 1) (.int .i64 1) Xf=some (.bool false,Xf) from rfl),Z5,ZT,Za Zk];rw[show cond false (Value.bool true) (Value.bool false)=.bool false from rfl,Zb,if_neg (by simp),Za hw.len,Qk eg,ZI];rfl
theorem law_HostOf:∀ (xs:Ins [.slc reqT,.slc reqT,.int .i64]) (H:Zd) (vs:List Value),ZxC [.slc reqT,.slc reqT,.int .i64] xs->H.take gl.length=gl->ZkS [.slc reqT,.slc reqT,.int .i64] xs H vs->∃ n H',R n ZeX vs H=some (.bool true,H'):=by
 intro xs H vs hwf hg hrd;obtain⟨l,y,z,_⟩:=xs;obtain⟨hl,hy,_,_⟩:=hwf;obtain⟨c1,_,rfl,hc1,h1,c2,_,rfl,hc2,h2,c3,_,rfl,hc3,h3,rfl⟩:=hrd;obtain⟨a,rfl⟩:∃ a,c1=[a]:=by
  match c1,hc1 with
  | [a],_=>exact⟨a,rfl⟩
 obtain⟨b,rfl⟩:∃ b,c2=[b]:=by
  match c2,hc2 with
  | [b],_=>exact⟨b,rfl⟩
 obtain⟨c,rfl⟩:∃ c,c3=[c]:=by
  match c3,hc3 with
  | [c],_=>exact⟨c,rfl⟩
 obtain⟨rs,hA,hn⟩:=ZBw hl h1;obtain⟨ws,hB,hw⟩:=ZBw hy h2;obtain⟨H',e⟩:=ZGl (n:=0) hg hA hn hB hw (z:=c);exact⟨20,H',e⟩
end
end Go.Proofs.YtgfbgfafajiehaaGreatDoor.A

