/- What the law FolioMost needs (part 5). -/
import Derived.Test.YtedkoimihknggaaGreatDoorZFolioMost4
namespace Go.Proofs.YtedkoimihknggaaGreatDoor.A
set_option linter.unusedVariables false
set_option maxRecDepth 100000
set_option linter.unusedSimpArgs false
open Go.Proofs Go.Proofs.YtedkoimihknggaaGreatDoor
section
variable {H X X' : Zb} {n p d c : Nat} {r : NR} {s : NSt} {sl x v gv sv : Value} {own q : List Nat} {bs : List UInt8} {l : List Tx} {u : Zh} {us : List Zh}
theorem ZeE : ∀ {l : List Tx},l.Pairwise (· < ·)→Yb l=true
 | [],_=>rfl
 | [a],_=>rfl
 | a :: b :: l,h=>by
  rw [ZdF,Bool.and_eq_true,decide_eq_true_eq]
  have h1:=List.pairwise_cons.1 h
  exact ⟨h1.1 b (by simp),ZeE h1.2⟩
theorem ND0.kname (hd : ND0 X d r s c) {k : Tx} (hk : k∈s.K) : Zw k=true:=by
 rw [← hd.ks] at hk
 obtain ⟨p,hp,rfl⟩:=List.mem_map.1 hk
 exact hd.gr.ok p hp
theorem Zf0 (hO : ROK s us) (hP : Zix s) (hN : ∀ k∈s.K,Zw k=true) (hu : u∈us) : QO u=0∧(∀ g∈u.gs,g∈s.K)∧u.ml=(Zg u.nm s.OF).getD []:=by
 have hat:=hO.at hu
 unfold Jn at hat
 cases ha : Zg u.nm s.A with
 | none=>rw [ha] at hat;cases hat
 | some p=>
  rw [ha] at hat
  have hk : KU s u.nm p=QS u:=Option.some.inj hat
  have h1 : p.1=u.hs:=congrArg (·.2.1) hk
  have h2 : (Zg u.nm s.OF).getD []=u.ml:=congrArg (·.2.2.1) hk
  have h3 : ofL u.nm s.K s.mem=u.gs:=congrArg (·.2.2.2.2) hk
  have hnm:=hP.i.nm _ (WZ ha)
  have hin : ∀ g∈u.gs,g∈s.K:=fun g hg=>by
   rw [← h3] at hg
   exact (((Znm hP.k.nod).mem g).1 hg).1
  refine ⟨?_,hin,h2.symm⟩
  unfold QO Zcl
  rw [show Zw u.nm=true from hnm.1,← h1,show Za2 p.1=true from hnm.2]
  have hm : Zaa u.ml=true:=by
   unfold Zaa
   rw [← h2]
   cases ho : Zg u.nm s.OF with
   | none=>rfl
   | some m=>
    obtain ⟨g1,g2⟩:=hP.i.good _ m ho
    show (m==[] || (Wj m && QA m==m))=true
    rw [g1,g2]
    simp
  have hl : u.gs.length≤6:=by
   rw [← h3]
   exact Nat.le_trans Zj3 hP.k.few
  have hall : u.gs.all Zw=true:=List.all_eq_true.2 fun g hg=>hN g (hin g hg)
  have hr : Yb u.gs=true:=by
   rw [← h3]
   exact ZeE (Znm hP.k.nod).asc
  rw [hm,hall,hr]
  simp only [if_true]
  rw [if_neg (by omega)]
theorem Zoh {gs : List Tx} : ∀ {us prev : List Zh},(∀ (i : Nat) (u : Zh),us[i]?=some u→ZbT gs (prev++us.take i) u=0)→Kl gs prev us=0
 | [],prev,_=>by unfold Kl;rfl
 | u :: us,prev,h=>by
  have h0:=h 0 u rfl
  rw [List.take_zero,List.append_nil] at h0
  unfold Kl
  rw [if_pos h0]
  refine Zoh fun i w hi=>?_
  have h1:=h (i+1) w (by simpa using hi)
  rw [List.take_succ_cons] at h1
  rwa [List.append_assoc]
theorem Ztq (hO : ROK s us) (hP : Zix s) (hN : ∀ k∈s.K,Zw k=true) : KC us (Z0 s.K)=0:=by
 have hlen:=hO.len hP.n
 have hfew:=hP.i.few
 have h1 : Jx us=0:=by
  have hall : ∀ u∈us,QO u=0:=fun u hu=>(Zf0 hO hP hN hu).1
  clear hO hlen
  induction us with
  | nil=>rfl
  | cons u us ih=>
   unfold Jx
   rw [if_pos (hall u (by simp))]
   exact ih fun w hw=>hall w (by simp [hw])
 have h2 : Yb (us.map (·.nm))=true:=by
  refine ZeE ?_
  rw [List.pairwise_map]
  exact hO.rise
 have h3 : (Z0 s.K).all Zw=true:=List.all_eq_true.2 fun g hg=>hN g (Wg.1 hg)
 have h4 : Yb (Z0 s.K)=true:=ZeE (Zdu hP.k.nod)
 have h5 : (Z0 s.K).length≤6:=by rw [WK];exact hP.k.few
 have hc : W9 us (Z0 s.K)=0:=by
  unfold W9 Zis
  have x1 : ¬ 12 < us.length:=by omega
  have x2 : ¬ 6 < (Z0 s.K).length:=by omega
  rw [h1,h2,h3,h4]
  simp [x1,x2,hP.k.few]
 unfold KC
 rw [if_pos hc]
 refine Zoh fun i u hi=>?_
 rw [List.nil_append]
 have hum:=List.mem_of_getElem? hi
 obtain ⟨_,hg,hm⟩:=Zf0 hO hP hN hum
 unfold ZbT
 have hall : (u.gs.all fun g=>decide (g∈Z0 s.K))=true:=List.all_eq_true.2 fun g hgm=>by
  rw [decide_eq_true_eq]
  exact Wg.2 (hg g hgm)
 rw [hall,if_pos rfl,if_neg]
 rintro ⟨hne,hany⟩
 obtain ⟨w,hw,hwe⟩:=List.any_eq_true.1 hany
 have hwm:=List.mem_of_mem_take hw
 obtain ⟨_,_,hm2⟩:=Zf0 hO hP hN hwm
 have hwe : u.ml=w.ml:=by simpa using hwe
 have h6 : ∀ v : Zh,v.ml=(Zg v.nm s.OF).getD []→v.ml≠[]→Zg v.ml s.OW=some v.nm:=fun v hv hvne=>by
  cases ho : Zg v.nm s.OF with
  | none=>rw [ho] at hv;exact absurd hv hvne
  | some m=>
   rw [ho] at hv
   have hv : v.ml=m:=hv
   rw [hv]
   exact (hP.x.inv _ _).1 ho
 have h7:=h6 u hm hne
 have h8:=h6 w hm2 (by rw [← hwe];exact hne)
 rw [← hwe,h7] at h8
 have h9 : u.nm=w.nm:=Option.some.inj h8
 have hri:=hO.rise
 unfold Zbh at hri
 rw [← List.take_append_drop i us,List.pairwise_append] at hri
 have hud : u∈us.drop i:=by
  have hil:=(List.getElem?_eq_some_iff.1 hi).1
  rw [List.drop_eq_getElem_cons hil]
  have:=List.getElem?_eq_getElem hil
  rw [hi] at this
  rw [← Option.some.inj this]
  simp
 have:=hri.2.2 w hw u hud
 rw [h9] at this
 exact absurd this (List.lt_irrefl _)
theorem ROK.allK (hn : (Wn s).Nodup) : ROK s ((A.allK s).map uOf):=⟨by
 have h:=Zlo hn
 unfold Zbh
 rw [List.pairwise_map]
 exact h,fun key=>by rw [Zkw];exact Zmf hn⟩
theorem ZsW (hd : ND X d r s c) : ofK (A.allK s) (Z0 s.K)=0:=by
 have:=Ztq (ROK.allK hd.pinv.n) hd.pinv fun k hk=>hd.toND0.kname hk
 rw [ZsI,Zkw] at this
 omega
theorem Zrw {b : Bool} (hb : bs.length≤100000000000) (h : Wtr H p bs own) : ∃ H' own',R (n+3) YC [pt p,.bool b] H=some (pt p,H')∧Wtr H' p (bs++Zgk b) own'∧Zq (p :: own) H (p :: own') H':=by
 obtain ⟨H',own',e,w,s⟩:=Zop (n:=n) (x:=if b then 1 else 0) (by cases b <;> decide) hb h
 refine ⟨H',own',?_,w,s⟩
 rw [R,Zey rfl]
 unfold WJ
 cases b
 ·have e : R (n+2) Qv [pt p,.int .u8 0] H=_:=e
  rw [Zd,if_neg (by simp),Za e]
  rfl
 ·have e : R (n+2) Qv [pt p,.int .u8 1] H=_:=e
  rw [Zd,if_pos rfl,Za e]
  rfl
theorem Zn.whole {vs : List Value} (h : Zn X v vs q) : ∃ sv,slv 1 v none (some (iv vs.length)) none X=some (sv,X)∧Sl X sv vs∧∀ j,A.own1 sv=some j→j∈q:=by
 have b1 : ∀ d,bnd (some (iv vs.length)) d=some vs.length:=fun d=>by simp [bnd]
 have b2 : ∀ d,bnd none d=some d:=fun _=>rfl
 rcases h with ⟨rfl,rfl,rfl⟩ | ⟨sid,rest,g,rfl,rfl,hid⟩
 ·exact ⟨.slice none 0 0,rfl,Sl.nil,fun j hj=>by cases hj⟩
 ·by_cases h0 : vs.length+rest.length=0
  ·have hv : vs=[]:=List.eq_nil_of_length_eq_zero (by omega)
   subst hv
   refine ⟨.slice (some ⟨sid,0,some (bif g then 1 else 0)⟩) 0 0,?_,⟨_,_,rfl,(fun e=>by cases e),rfl⟩,fun j hj=>by cases hj⟩
   simp only [slv,hid,b1,b2]
   rw [if_pos ⟨trivial,by omega,by omega,Nat.le_refl _⟩,if_pos (by omega)]
  ·refine ⟨.slice (some ⟨sid,0,none⟩) vs.length (vs.length+rest.length),?_,⟨some ⟨sid,0,none⟩,_,rfl,(fun e=>by cases e),?_⟩,fun j hj=>by cases hj;simp⟩
   ·simp only [slv,hid,b1,b2]
    rw [if_pos ⟨trivial,by omega,by omega,Nat.le_refl _⟩,if_neg (by omega)]
    simp
   ·simp only [ZT,hid]
    rw [if_pos (by simp)]
    simp
theorem ZoE (hl : ∀ x∈l,x.length≤1000) (hn : l.length≤1000) : ∀ (t j : Nat) (bs : List UInt8) (own : List Nat) (X : Zb),l.length - j=t→j≤l.length→Sl X sv (l.map strv)→(∀ i,own1 sv=some i→i∉p :: own∧i < X.length)→bs.length+t * 1002≤100000000→Wtr X p bs own→
  ∃ X' own',Zf (c4 (Jv.l1 (R (n+3)))) [pt p,sv,iv l.length,iv j] X=some (.ext 0 [pt p],X')∧Wtr X' p (bs++((l.drop j).map txt).flatten) own'∧Zq (p :: own) X (p :: own') X'
 | 0,j,bs,own,X,ht,hj,hs,hd,hb,h=>by
  rw [List.drop_eq_nil_of_le (by omega)]
  refine ⟨X,own,Qb ?_,by simpa using h,.refl _ _⟩
  rw [ZW,show j=l.length by omega]
  unfold Jv.l1
  rw [Za Zm,Zd,if_neg (by simp)]
  rfl
 | t+1,j,bs,own,X,ht,hj,hs,hd,hb,h=>by
  have hkl : j < l.length:=by omega
  have hlt : (j : Int) < l.length:=by omega
  have hg:=List.getElem?_eq_getElem hkl
  have hdr:=List.drop_eq_getElem_cons hkl
  generalize l[j]=y at hg hdr
  have hy:=hl y (List.mem_of_getElem? hg)
  have x1:=hs.ix (i:=j) (by simpa using hkl) .i64 X
  have x2:=hs.ldx (YE hg)
  obtain ⟨X1,own1',e1,w1,s1⟩:=ZgT (n:=n) (s:=y) (by omega) (by omega) h
  have hs1 : Sl X1 sv (l.map strv):=hs.keep fun i hi=>s1.keep i (hd i hi).2 (hd i hi).1
  have hd1 : ∀ i,A.own1 sv=some i→i∉p :: own1'∧i < X1.length:=fun i hi=>⟨fun hm=>by
   rcases s1.own i hm with h1 | h1
   ·exact (hd i hi).1 h1
   ·have:=(hd i hi).2;omega,Nat.lt_of_lt_of_le (hd i hi).2 s1.len⟩
  obtain ⟨X2,own2,e2,w2,s2⟩:=ZoE hl hn t (j+1) (bs++txt y) own1' X1 (by omega) (by omega) hs1 hd1 (by rw [List.length_append,ZaL];omega) w1
  refine ⟨X2,own2,(ZO ?_).trans e2,?_,s1.trans s2⟩
  ·rw [ZW]
   unfold Jv.l1
   rw [Za Zm,Zd,if_pos (by simpa using hlt),Za x1,Za x2,Za e1,Za ZD,J5 (by omega)]
   rfl
  ·rw [hdr,List.map_cons,List.flatten_cons,← List.append_assoc]
   exact w2
theorem Zqp (hl : ∀ x∈l,x.length≤1000) (hn : l.length≤1000) (hr : Zn H gv (l.map strv) q) (hd : ∀ j∈q,j∉p :: own) (hb : bs.length≤10000000) (h : Wtr H p bs own) : ∃ H' own',R (n+4) J3 [pt p,gv] H=some (pt p,H')∧Wtr H' p (bs++Zh1 l) own'∧Zq (p :: own) H (p :: own') H':=by
 have hlen : Zk gv H=some (iv l.length,H):=by have:=hr.rd.len (H':=H);simpa using this
 have hm : mxi false (iv l.length) (.int .i64 65535) H=some (iv l.length,H):=by
  rw [Ym,if_neg (by omega)]
 obtain ⟨sv,e1,s1,o1⟩:=hr.whole
 rw [List.length_map] at e1
 have hsl : ∀ Y,Zk sv Y=some (iv l.length,Y):=fun Y=>by have:=s1.len (H':=Y);simpa using this
 have c1 : cvi .u16 (iv l.length) H=some (.int .u16 l.length,H):=by rw [QF,ZrG,Int.emod_eq_of_lt (by omega) (by omega)]
 obtain ⟨X1,own1',e2,w2,st2⟩:=ZmM (n:=n+1) (x:=l.length) (by omega) (by omega) h
 have e2 : R (n+3) Q7 [pt p,.int .u16 l.length] H=_:=e2
 have hs1 : Sl X1 sv (l.map strv):=s1.keep fun i hi=>st2.keep i (hr.lt i (o1 i hi)) (hd i (o1 i hi))
 have hd1 : ∀ i,A.own1 sv=some i→i∉p :: own1'∧i < X1.length:=fun i hi=>⟨fun hm=>by
  rcases st2.own i hm with h1 | h1
  ·exact hd i (o1 i hi) h1
  ·have:=hr.lt i (o1 i hi);omega,Nat.lt_of_lt_of_le (hr.lt i (o1 i hi)) st2.len⟩
 obtain ⟨X2,own2,e3,w3,st3⟩:=ZoE (n:=n) (p:=p) hl hn l.length 0 (bs++le l.length 2) own1' X1 (by omega) (by omega) hs1 hd1 (by rw [List.length_append,Wp];omega) w2
 rw [show iv ((0 : Nat) : Int)=.int .i64 0 from rfl] at e3
 rw [List.drop_zero,List.append_assoc] at w3
 refine ⟨X2,own2,?_,w3,st2.trans st3⟩
 rw [R,Zf8 rfl]
 unfold Jv
 rw [Za hlen,Za hm,Za e1,Za (hsl _),Za c1,Za e2,Za (hsl _),Q0 e3,ZG]
 rfl
theorem Ztn {u : Zh} : Zkr (QS u)=txt u.nm++(txt u.hs++(txt u.ml++(Zgk u.ds++Zh1 u.gs))):=rfl
theorem W3 {o1 o2 : List Nat} (hs : Zq o1 X o2 X') {q : List Nat} (hl : ∀ j∈q,j < X.length) (hd : ∀ j∈q,j∉o1) : ∀ j∈q,j∉o2:=fun j hj hm=>by
 rcases hs.own j hm with h1 | h1
 ·exact hd j hj h1
 ·have:=hl j hj;omega
theorem Zsb (he : QO u=0) (hr : Zn H u.gv (u.gs.map strv) q) (hd : ∀ j∈q,j∉p :: own) (hb : bs.length≤1000000) (h : Wtr H p bs own) : ∃ H' own',R (n+11) ZbZ [pt p,iv 2,.agg u.cells.toArray] H=some (.bool true,H')∧Wtr H' p (bs++Zkr (QS u)) own'∧Zq (p :: own) H (p :: own') H':=by
 obtain ⟨b1,b2,b3,b4,b5,b6⟩:=ZcQ he
 have hnl:=WM b1
 have hhl:=Zol b2
 have hml:=Zom b3
 have hgl : ∀ x∈u.gs,x.length≤1000:=fun x hx=>by have:=WM (List.all_eq_true.1 b5 x hx);omega
 have ok0 : UOK H u:=⟨hr.rd,hr.one.1,by omega⟩
 have e1:=ok0.cells1
 have k1 : HLe H (H++[.cells u.cells 1 false false]):=.app _ _
 have c1 : (H++[Zi.cells u.cells 1 false false])[H.length]?=some (.cells u.cells 1 false false):=ZM
 have hne : H.length∉p :: own:=fun hm=>Nat.lt_irrefl _ (h.lt _ hm)
 have hq1:=hr.lt
 generalize H++[Zi.cells u.cells 1 false false]=X1 at e1 k1 c1
 have d1 : ldA 5 (pt H.length) X1=some (.agg u.cells.toArray,X1):=Zat (n:=5) c1 rfl
 obtain ⟨X2,e2,k2⟩:=ZfC (n:=n) (ok0.hle k1)
 rw [he] at e2
 have c2:=k2 _ _ c1
 have k12:=k1.trans k2
 have q1 : bop .int .neq (iv 0) (.int .i64 0) X2=some (.bool false,X2):=by rw [Zr];rfl
 have w2:=h.hle k12
 have hr2:=hr.step k12.step (by simp)
 generalize H.length=w at e1 c1 hne d1 c2
 obtain ⟨X3,q3,e3,w3,s3⟩:=ZgT (n:=n+7) (s:=u.nm) (by omega) (by omega) w2
 have e3 : R (n+10) Qw [pt p,strv u.nm] X2=_:=e3
 have c3:=s3.get c2 hne
 have hwl:=Je c2
 have n3 : w∉p :: q3:=fun hm=>by
  rcases s3.own w hm with h1 | h1
  ·exact hne h1
  ·omega
 have l3 : (txt u.nm).length≤14:=by rw [ZaL];omega
 have l4 : (txt u.hs).length≤14:=by rw [ZaL];omega
 have l5 : (txt u.ml).length≤22:=by rw [ZaL];omega
 obtain ⟨X4,q4,e4,w4,s4⟩:=ZgT (n:=n+7) (s:=u.hs) (by omega) (by rw [List.length_append];omega) w3
 have e4 : R (n+10) Qw [pt p,strv u.hs] X3=_:=e4
 have c4:=s4.get c3 n3
 have hwl3:=Je c3
 have n4 : w∉p :: q4:=fun hm=>by
  rcases s4.own w hm with h1 | h1
  ·exact n3 h1
  ·omega
 obtain ⟨X5,q5,e5,w5,s5⟩:=ZgT (n:=n+7) (s:=u.ml) (by omega) (by rw [List.length_append,List.length_append];omega) w4
 have e5 : R (n+10) Qw [pt p,strv u.ml] X4=_:=e5
 have c5:=s5.get c4 n4
 have hwl4:=Je c4
 have n5 : w∉p :: q5:=fun hm=>by
  rcases s5.own w hm with h1 | h1
  ·exact n4 h1
  ·omega
 obtain ⟨X6,q6,e6,w6,s6⟩:=Zrw (n:=n+7) (b:=u.ds) (by rw [List.length_append,List.length_append,List.length_append];omega) w5
 have e6 : R (n+10) YC [pt p,.bool u.ds] X5=_:=e6
 have c6:=s6.get c5 n5
 have a2:=hr2.lt
 have r3:=hr2.step s3 hd
 have f3:=W3 s3 a2 hd
 have r4:=r3.step s4 f3
 have f4:=W3 s4 r3.lt f3
 have r5:=r4.step s5 f4
 have f5:=W3 s5 r4.lt f4
 have r6:=r5.step s6 f5
 have f6:=W3 s6 r5.lt f5
 obtain ⟨X7,q7,e7,w7,s7⟩:=Zqp (n:=n+6) hgl (by omega) r6 f6 (by rw [List.length_append,List.length_append,List.length_append,List.length_append,ZjU];omega) w6
 have e7 : R (n+10) J3 [pt p,u.gv] X6=_:=e7
 have q2 : bop .int .eql (iv 2) (.int .i64 2) X4=some (.bool true,X4):=by rw [Qi];rfl
 have a : ∀ {Y : Zb},Y[w]?=some (.cells u.cells 1 false false)→∀ f x,u.cells[f]?=some x→ld1 (pa w f) Y=some (x,Y):=fun hY f x h=>Yg hY h
 refine ⟨X7,q7,?_,by rw [Ztn];simpa [List.append_assoc] using w7,(k12.stepq).trans ((((s3.trans s4).trans s5).trans s6).trans s7)⟩
 rw [R,Zn4 rfl]
 unfold Zgo
 rw [Za e1,Za d1,Za e2,Za q1,Zd,if_neg (by simp),Za Zz,Za (a c2 0 _ rfl),Za Zz,Za (a c2 1 _ rfl),Za e3,Za (a c3 1 _ rfl),Q2,Za e4,Za q2]
 refine (Wq (vs:=[]) (H':=X7) ?_).trans ?_
 ·rw [Zd,if_pos rfl,Za Zz,Za (a c4 2 _ rfl),Za Zz,Za (a c4 3 _ rfl),Za Zz,Za (a c4 4 _ rfl),Za e5,Za (a c5 4 _ rfl),Q2,Za (a c5 3 _ rfl),Q2,Za e6,Za (a c6 4 _ rfl),Q2,Za e7]
  rfl
 ·rfl
theorem Zog (hn : us.length≤100) (hE : ∀ u∈us,QO u=0) : ∀ (t k : Nat) (bs : List UInt8) (own : List Nat) (X : Zb),us.length - k=t→k≤us.length→JG 5 X v (us.map Zh.cells) q→(∀ j∈q,j∉p :: own)→(∀ u∈us,∃ qu,Zn X u.gv (u.gs.map strv) qu∧∀ j∈qu,j∉p :: own)→bs.length+t * 137≤100000→Wtr X p bs own→
  ∃ X' own',Zf (c4 (YD.l1 (R (n+11)))) [pt p,v,iv us.length,iv k] X=some (.ext 0 [pt p],X')∧Wtr X' p (bs++Zca ((us.drop k).map QS)) own'∧Zq (p :: own) X (p :: own') X'
 | 0,k,bs,own,X,ht,hk,hr,hd,hu,hb,h=>by
  rw [List.drop_eq_nil_of_le (by omega)]
  refine ⟨X,own,Qb ?_,by simpa [Zca] using h,.refl _ _⟩
  rw [ZW,show k=us.length by omega]
  unfold YD.l1
  rw [Za Zm,Zd,if_neg (by simp)]
  rfl
 | t+1,k,bs,own,X,ht,hk,hr,hd,hu,hb,h=>by
  have hkl : k < us.length:=by omega
  have hlt : (k : Int) < us.length:=by omega
  have hg:=List.getElem?_eq_getElem hkl
  have hdr:=List.drop_eq_getElem_cons hkl
  generalize us[k]=u at hg hdr
  have hum:=List.mem_of_getElem? hg
  have he:=hE u hum
  obtain ⟨qu,u1,u2⟩:=hu u hum
  have hf:=fun {K : Value→M Out}=>Zki (k:=K) hr.rd u1.one.1 hg
  have k1 : HLe X (X++[Zi.cells u.cells 1 false false]):=.app _ _
  have c1 : (X++[Zi.cells u.cells 1 false false])[X.length]?=some (.cells u.cells 1 false false):=ZM
  generalize X++[Zi.cells u.cells 1 false false]=X1 at k1 c1 hf
  have d1 : ldA 5 (pt X.length) X1=some (.agg u.cells.toArray,X1):=Zat (n:=5) c1 rfl
  obtain ⟨X2,own2,e2,w2,s2⟩:=Zsb (n:=n) he (u1.step k1.step (by simp)) u2 (by omega) (h.hle k1)
  have hgk : Zi0 (QS u):=ZrO (by rw [← Int.toNat_natCast (Zii (QS u)),← Zou,he];rfl)
  have hel:=Znc hgk
  have s12:=(k1.stepq (q:=p :: own)).trans s2
  have hu2 : ∀ u∈us,∃ qu,Zn X2 u.gv (u.gs.map strv) qu∧∀ j∈qu,j∉p :: own2:=fun w hw=>by
   obtain ⟨qw,w1,w2⟩:=hu w hw
   exact ⟨qw,w1.step s12 w2,W3 s12 w1.lt w2⟩
  obtain ⟨X3,own3,e3,w3,s3⟩:=Zog hn hE t (k+1) (bs++Zkr (QS u)) own2 X2 (by omega) (by omega) (hr.step s12 hd) (W3 s12 hr.lt hd) hu2 (by rw [List.length_append];omega) w2
  refine ⟨X3,own3,(ZO ?_).trans e3,?_,s12.trans s3⟩
  ·rw [ZW]
   unfold YD.l1
   rw [Za Zm,Zd,if_pos (by simpa using hlt),hf,Za d1,Za e2,Za ZD,J5 (by omega)]
   rfl
  ·rw [hdr]
   unfold Zca at w3 ⊢
   rw [List.map_cons,List.map_cons,List.flatten_cons,← List.append_assoc]
   exact w3
theorem ZgC (hd : ND X d r s c) : ∃ v q H',R (n+12) Qp [pt d] X=some (v,H')∧Zn H' v (u8s (Zea (Z0 s.K) (A.allK s))) q∧HLe X H'∧∀ j∈q,X.length≤j:=by
 have hgood:=ZsW hd
 obtain ⟨g1,g2,g3,g4,_,_⟩:=Zty hgood
 have q0 : bop .ptr .eql (pt d) (.pointer none) X=some (.bool false,X):=JL
 obtain ⟨z1,z2,w0⟩:=ZsM (H:=X)
 have k0 : HLe X (X++[Zi.cells [.slice none 0 0] 1 false false]):=.app _ _
 generalize X++[Zi.cells [.slice none 0 0] 1 false false]=X0 at z2 w0 k0
 generalize hpp : X.length=p at z2 w0
 have hp : ∀ j∈[p],X.length≤j:=fun j hj=>by have : j=p:=(by simpa using hj);omega
 obtain ⟨X1,q1,e1,w1,s1⟩:=Zop (n:=n+9) (x:=2) (by omega) (by simp) w0
 have e1 : R (n+11) Qv [pt p,.int .u8 2] X0=_:=e1
 have m1:=k0.more s1 hp
 rw [List.nil_append] at w1
 obtain ⟨vg,qg,X2,e2,r2,l2,o2⟩:=ZpK (n:=n+7) (hd.hle m1.1)
 have e2 : R (n+11) Kc [pt d] X1=_:=e2
 have w2:=w1.hle l2
 have m12:=m1.1.trans l2
 have dg : ∀ j∈qg,j∉p :: q1:=fun j hj hm=>by have:=o2 j hj;have:=w1.lt j hm;omega
 obtain ⟨X3,q3,e3,w3,s3⟩:=Zqp (n:=n+7) (l:=Z0 s.K) (fun x hx=>by have:=g4 x hx;omega) (by omega) r2 dg (by rw [Wp];omega) w2
 have e3 : R (n+11) J3 [pt p,vg] X2=_:=e3
 have m3:=m12.more s3 m1.2
 have e4 : R (n+11) Wr [pt d] X3=some (iv s.A.length,X3):=Zs4 (n:=n+10) (hd.hle m3.1)
 have hfew:=hd.inv.few
 have c4 : cvi .u16 (iv s.A.length) X3=some (.int .u16 s.A.length,X3):=by rw [QF,ZrG,Int.emod_eq_of_lt (by omega) (by omega)]
 have hlr:=ZhZ (b:=12) g4
 have hlr2 : (Z0 s.K).length * (12+2)≤6 * (12+2):=Nat.mul_le_mul_right _ g3
 obtain ⟨X4,q4,e5,w4,s4⟩:=ZmM (n:=n+9) (x:=s.A.length) (by omega) (by rw [List.length_append,Wp];omega) w3
 have e5 : R (n+11) Q7 [pt p,.int .u16 s.A.length] X3=_:=e5
 have m4:=m3.1.more s4 m3.2
 obtain ⟨va,qa,us,X5,e6,o6,u6,l6⟩:=Ztk (n:=n+3) (hd.hle m4.1)
 have e6 : R (n+11) Wu [pt d] X4=_:=e6
 have w5:=w4.hle l6
 have hlen : us.length=s.A.length:=by
  have h1:=congrArg List.length u6
  unfold A.allK at h1
  rw [List.length_map,List.length_map,WK] at h1
  simpa using h1
 have hla : Zk va X5=some (iv us.length,X5):=by have:=o6.r.rd.len (H':=X5);rwa [List.length_map] at this
 have hE : ∀ u∈us,QO u=0:=fun u hu=>by
  have:=g1 (QS u) (by rw [← u6];exact List.mem_map.2 ⟨u,hu,rfl⟩)
  rw [Zou,this];rfl
 have da : ∀ j,X4.length≤j→j∉p :: q4:=fun j hj hm=>by have:=w4.lt j hm;omega
 obtain ⟨X6,q6,e7,w6,s6⟩:=Zog (n:=n) (p:=p) (us:=us) (by omega) hE us.length 0 _ q4 X5 (by omega) (by omega) o6.r (fun j hj=>da j (o6.o j hj)) (fun u hu=>by
  obtain ⟨qu,a1,a2,_⟩:=o6.u u hu
  exact ⟨qu,a1,fun j hj=>da j (a2 j hj).1⟩) (by rw [List.length_append,List.length_append,Wp,Wp];omega) w5
 rw [show iv ((0 : Nat) : Int)=.int .i64 0 from rfl] at e7
 rw [List.drop_zero,u6] at w6
 have m6:=(m4.1.trans l6).more s6 m4.2
 have heq : le 2 1++Zh1 (Z0 s.K)++le s.A.length 2++Zca (A.allK s)=Zea (Z0 s.K) (A.allK s):=by
  unfold Zea
  have : (A.allK s).length=s.A.length:=by rw [← u6,List.length_map,hlen]
  rw [this]
  simp [List.append_assoc]
 rw [heq] at w6
 have hel:=ZqX (fun k hk=>ZrO (g1 k hk)) g2 g3 g4
 obtain ⟨v,qv,X7,e8,r7,l7,o7⟩:=Zrx (n:=n+9) (by omega) w6
 have e8 : R (n+11) J8 [pt p] X6=_:=e8
 refine ⟨v,qv,X7,?_,r7,m6.1.trans l7,fun j hj=>by have h1:=o7 j hj;have h2:=m6.1.len;omega⟩
 rw [R,Zkm rfl]
 unfold YD
 rw [Za q0,Zd,if_neg (by simp),Za z1,Za z2,Za e1,Za e2,Za e3,Za e4,Za c4,Za e5,Za e6,Za hla,Q0 e7,ZG,Yw,Za e8]
 rfl
end
end Go.Proofs.YtedkoimihknggaaGreatDoor.A

namespace Go.Proofs.YtedkoimihknggaaGreatDoor.A
set_option linter.unusedVariables false
set_option maxRecDepth 100000
set_option linter.unusedSimpArgs false
open Go.Proofs Go.Proofs.YtedkoimihknggaaGreatDoor
section
variable {H X X' : Zb} {n p : Nat} {s : RSt} {sl v : Value} {q : List Nat} {l : List Tx}
end
end Go.Proofs.YtedkoimihknggaaGreatDoor.A

namespace Go.Proofs.YtedkoimihknggaaGreatDoor.A
set_option linter.unusedVariables false
set_option maxRecDepth 100000
set_option linter.unusedSimpArgs false
open Go.Proofs Go.Proofs.YtedkoimihknggaaGreatDoor
theorem WS.step {X0 X X' : Zb} {sl : Value} {us : List Zh} {q o1 o2 : List Nat} (h : WS X0 X sl us q) (hs : Zq o1 X o2 X') (hd : ∀ j,X0.length≤j→j∉o1) : WS X0 X' sl us q:=
 ⟨h.r.step hs fun j hj=>hd j (h.o j hj),h.o,fun w hw=>by
  obtain ⟨qu,h1,h2,h3⟩:=h.u w hw
  exact ⟨qu,h1.step hs fun j hj=>hd j (h2 j hj).1,h2,h3⟩,h.un⟩
section
variable {H X X' X0 : Zb} {n p : Nat} {s : RSt} {sl v vg bv : Value} {q qg : List Nat} {l gl : List Tx} {bs : List UInt8}
end
end Go.Proofs.YtedkoimihknggaaGreatDoor.A

namespace Go.Proofs.YtedkoimihknggaaGreatDoor.A
set_option linter.unusedVariables false
set_option maxRecDepth 100000
set_option linter.unusedSimpArgs false
open Go.Proofs Go.Proofs.YtedkoimihknggaaGreatDoor
section
variable {H X X' H0 : Zb} {n p : Nat} {sl v gv uv : Value} {l N : List Tx} {us : List Zh} {u : Zh} {b : Bool}
end
end Go.Proofs.YtedkoimihknggaaGreatDoor.A

namespace Go.Proofs.YtedkoimihknggaaGreatDoor.A
set_option linter.unusedVariables false
set_option linter.unusedSimpArgs false
open Go.Proofs Go.Proofs.YtedkoimihknggaaGreatDoor
section
variable {X X' H H0 : Zb} {n d c w : Nat} {r : NR} {uv gv sl : Value} {s : NSt} {u : Za7} {ac : List Za7}
end
end Go.Proofs.YtedkoimihknggaaGreatDoor.A

namespace Go.Proofs.YtedkoimihknggaaGreatDoor.A
set_option linter.unusedVariables false
set_option maxRecDepth 100000
set_option linter.unusedSimpArgs false
open Go.Proofs Go.Proofs.YtedkoimihknggaaGreatDoor
section
variable {X X' H H0 : Zb} {n d c w : Nat} {r : NR} {uv gv sl : Value} {s : NSt} {u : Za7} {ac : List Za7}
theorem Zp5 : ∃ H',R (n+13) KY [] H=some (.bool true,H')∧HLe H H':=by
 obtain ⟨X1,d,r,e1,D1,l1,o1,o2⟩:=ZpB (n:=n+10) (X:=H)
 have e1 : R (n+12) YW [] H=_:=e1
 obtain ⟨v,q,X2,e2,r2,l2,_⟩:=ZgC (n:=n) D1
 have hbs : Zea (Z0 (⟨[],[],[],[],fun _ _=>false⟩ : NSt).K) (allK ⟨[],[],[],[],fun _ _=>false⟩)=[2,0,0,0,0]:=by
  have a1 : Z0 ([] : List Tx)=[]:=List.eq_nil_of_length_eq_zero (by rw [WK];rfl)
  have a2 : allK (⟨[],[],[],[],fun _ _=>false⟩ : NSt)=[]:=by
   unfold allK
   have a3 : Z0 (Wn (⟨[],[],[],[],fun _ _=>false⟩ : NSt))=[]:=List.eq_nil_of_length_eq_zero (by rw [WK];rfl)
   rw [a3];rfl
  show Zea (Z0 []) (allK _)=_
  rw [a1,a2];decide
 rw [hbs] at r2
 have q2 : bop .str .eql (strv [2,0,0,0,0]) (.string ⟨#[2,0,0,0,0]⟩) X2=some (.bool true,X2):=Zee (b:=[2,0,0,0,0])
 refine ⟨X2,?_,l1.trans l2⟩
 rw [R,Zkp rfl]
 unfold Zda
 rw [Za e1,Za e2,Za (ZoQ r2.rd),Za q2]
 rfl
theorem ZnR : R (n+1) Zak [] X=some (iv 1733,X):=by
 rw [R,Zlz rfl]
 unfold ZdI
 rfl
end
end Go.Proofs.YtedkoimihknggaaGreatDoor.A

namespace Go.Proofs.YtedkoimihknggaaGreatDoor.A
set_option linter.unusedVariables false
set_option maxRecDepth 100000
set_option linter.unusedSimpArgs false
open Go.Proofs Go.Proofs.YtedkoimihknggaaGreatDoor
def lng (c : UInt8) (s : Tx) : Tx:=s++List.replicate (12 - s.length) c
def m6 : List Tx:=[[97,49],[98,49],[99,49],[100,49],[101,49],[102,49]]
def m12 : List Tx:=[[97],[98],[99],[100],[101],[102],[103],[104],[105],[106],[107],[108]]
def hsM : Tx:=[48,49,50,51,52,53,54,55,56,57,97,98]
def gsM (c : UInt8) : List Tx:=m6.map (lng c)
def mlM (c : UInt8) (s : Tx) : Tx:=lng c s++[64,98,99,100,46,101,102]++[c]
def usM (c : UInt8) (gv : Value) (s : Tx) : Zh:=⟨lng c s,hsM,mlM c s,true,gv,gsM c⟩
def ksM (c : UInt8) : List KJ:=m12.map fun s=>(lng c s,hsM,mlM c s,true,gsM c)
theorem Zrb : ((List.range 26).all fun i=>decide (ofK (ksM (UInt8.ofNat (97+i))) (gsM (UInt8.ofNat (97+i)))=0) && decide ((Zea (gsM (UInt8.ofNat (97+i))) (ksM (UInt8.ofNat (97+i)))).length=1733))=true:=by decide+kernel
theorem Zr8 {i : Nat} (h : i < 26) : ofK (ksM (UInt8.ofNat (97+i))) (gsM (UInt8.ofNat (97+i)))=0∧(Zea (gsM (UInt8.ofNat (97+i))) (ksM (UInt8.ofNat (97+i)))).length=1733:=by
 have:=List.all_eq_true.1 Zrb i (List.mem_range.2 h)
 rw [Bool.and_eq_true,decide_eq_true_iff,decide_eq_true_iff] at this
 exact this
section
variable {X X' X0 H H0 : Zb} {n p d b i : Nat} {v sl gv : Value} {s : Tx} {c : UInt8} {q : List Nat}
theorem ZoD (hb : X[b]?=some (.cells [strv [c]] 1 false false)) : ∀ (t : Nat) (s : Tx),12 - s.length=t→
  Zf (c3 (Jj.l1 (R n))) [strv s,iv 12,pt b] X=some (.ext 0 [strv (s++List.replicate t c)],X)
 | 0,s,ht=>by
  refine Qb ?_
  rw [Z3]
  unfold Jj.l1
  have q1 : bop .int .lss (iv s.length) (iv 12) X=some (.bool false,X):=by rw [Zm,decide_eq_false (by omega)]
  rw [Za ZU,Za q1,Zd,if_neg (by simp)]
  simp [ret]
 | t+1,s,ht=>by
  have e:=ZoD hb t (s++[c]) (by rw [List.length_append,List.length_singleton];omega)
  rw [List.append_assoc] at e
  have d1 : ld1 (pt b) X=some (strv [c],X):=Yg hb rfl
  have q1 : bop .int .lss (iv s.length) (iv 12) X=some (.bool true,X):=by rw [Zm,decide_eq_true (by omega)]
  refine (ZO ?_).trans e
  rw [Z3]
  unfold Jj.l1
  rw [Za ZU,Za q1,Zd,if_pos rfl,Za d1,Za (Jf (by simp;omega))]
  rfl
theorem Zqu (hb : X[b]?=some (.cells [strv [c]] 1 false false)) : Qg (R (n+1)) (.func (.func 11) #[] #[pt b]) [strv s,.int .i64 12] X=some (strv (lng c s),X):=by
 rw [show (#[pt b] : Array Value)=[pt b].toArray from rfl,ZpS]
 show R (n+1) Zaf [strv s,iv 12,pt b] X=_
 rw [R,Zfp rfl]
 unfold Jj
 rw [Q0 (ZoD (n:=n) hb _ s rfl),ZG,Yw]
 rfl
theorem ZrP {ls : List Tx} (hn : ls.length≤100) (hb : H0[b]?=some (.cells [strv [c]] 1 false false)) (hs : Sl H0 v (ls.map strv)) : ∀ (t j : Nat) (sl : Value) (q : List Nat) (X : Zb),ls.length - j=t→j≤ls.length→HLe H0 X→(∀ i∈q,H0.length≤i)→Zn X sl (((ls.take j).map (lng c)).map strv) q→
  ∃ X' sl' q',Zf (c6 (ZP.l1 (R (n+1)))) [pt b,.func (.func 11) #[] #[pt b],sl,v,iv ls.length,iv j] X=some (.ext 0 [pt b,.func (.func 11) #[] #[pt b],sl'],X')∧Zn X' sl' ((ls.map (lng c)).map strv) q'∧HLe H0 X'
 | 0,j,sl,q,X,ht,hj,hle,hq,hr=>by
  have hj : j=ls.length:=by omega
  subst hj
  rw [List.take_length] at hr
  refine ⟨X,sl,q,Qb ?_,hr,hle⟩
  rw [YH]
  unfold ZP.l1
  rw [Za Zm,Zd,if_neg (by simp)]
  rfl
 | t+1,j,sl,q,X,ht,hj,hle,hq,hr=>by
  have hkl : j < ls.length:=by omega
  have hlt : (j : Int) < ls.length:=by omega
  have hg:=List.getElem?_eq_getElem hkl
  have htk : ls.take (j+1)=ls.take j++[ls[j]]:=by rw [List.take_add_one,hg];rfl
  generalize ls[j]=y at hg htk
  have hs1:=hs.mono hle
  have x1:=hs1.ix (i:=j) (by simpa using hkl) .i64 X
  have x2:=hs1.ldx (YE hg)
  have e3:=Zqu (n:=n) (s:=y) (hle _ _ hb)
  obtain ⟨w,X1,sl',X2,q',e4,e5,r2,l2,o2,_⟩:=ZtE (H0:=H0) (u:=lng c y) hr (by rw [List.length_map,List.length_take];omega) hq hle
  rw [← List.map_singleton (f:=lng c),← List.map_append,← htk] at r2
  obtain ⟨X',sl3,q3,e6,r6,l6⟩:=ZrP hn hb hs t (j+1) sl' q' X2 (by omega) (by omega) l2 o2 r2
  refine ⟨X',sl3,q3,(ZO ?_).trans e6,r6,l6⟩
  rw [YH]
  unfold ZP.l1
  rw [Za Zm,Zd,if_pos (by simpa using hlt),Za x1,Za x2,Za e3,Za e4,Za e5,Za ZD,J5 (by omega)]
  rfl
theorem ZrQ {ls : List Tx} (hn : ls.length≤100) (h12 : ∀ s∈ls,s.length≤12) (hb : H0[b]?=some (.cells [strv [c]] 1 false false)) (hs : Sl H0 v (ls.map strv)) (ho : oneCell gv=true) (hc : ∃ a n c,gv=.slice a n c) : ∀ (t j : Nat) (sl : Value) (q : List Nat) (X : Zb),ls.length - j=t→j≤ls.length→HLe H0 X→(∀ i∈q,H0.length≤i)→JG 5 X sl (((ls.take j).map (usM c gv)).map Zh.cells) q→
  ∃ X' sl' q',Zf (c7 (ZP.l2 (R (n+1)))) [pt b,.func (.func 11) #[] #[pt b],gv,sl,v,iv ls.length,iv j] X=some (.ext 2 [gv,sl'],X')∧JG 5 X' sl' ((ls.map (usM c gv)).map Zh.cells) q'∧HLe H0 X'
 | 0,j,sl,q,X,ht,hj,hle,hq,hr=>by
  have hj : j=ls.length:=by omega
  subst hj
  rw [List.take_length] at hr
  refine ⟨X,sl,q,Qb ?_,hr,hle⟩
  rw [YO]
  unfold ZP.l2
  rw [Za Zm,Zd,if_neg (by simp)]
  rfl
 | t+1,j,sl,q,X,ht,hj,hle,hq,hr=>by
  have hkl : j < ls.length:=by omega
  have hlt : (j : Int) < ls.length:=by omega
  have hg:=List.getElem?_eq_getElem hkl
  have htk : ls.take (j+1)=ls.take j++[ls[j]]:=by rw [List.take_add_one,hg];rfl
  generalize ls[j]=y at hg htk
  have hy:=h12 y (List.mem_of_getElem? hg)
  have hly : (lng c y).length=12:=by unfold lng;rw [List.length_append,List.length_replicate];omega
  have hs1:=hs.mono hle
  have x1:=hs1.ix (i:=j) (by simpa using hkl) .i64 X
  have x2:=hs1.ldx (YE hg)
  have d1 : ld1 (pt b) X=some (strv [c],X):=Yg (hle _ _ hb) rfl
  have e3:=Zqu (n:=n) (s:=y) (hle _ _ hb)
  have a1 : bop .str .add (strv (lng c y)) (.string ⟨#[64,98,99,100,46,101,102]⟩) X=some (strv (lng c y++[64,98,99,100,46,101,102]),X):=Jf (b:=[64,98,99,100,46,101,102]) (by rw [hly];simp)
  have a2 : bop .str .add (strv (lng c y++[64,98,99,100,46,101,102])) (strv [c]) X=some (strv (mlM c y),X):=Jf (by rw [List.length_append,hly];simp)
  have z1 : bld (.agg #[.string ⟨#[]⟩,.string ⟨#[]⟩,.string ⟨#[]⟩,.bool false,.slice none 0 0]) [(0,1,strv (lng c y)),(1,1,(Value.string ⟨#[48,49,50,51,52,53,54,55,56,57,97,98]⟩)),(2,1,strv (mlM c y)),(3,1,(Value.bool true)),(4,1,gv)] X=some (.agg (Zh.cells (usM c gv y)).toArray,X):=by
   obtain ⟨a,n,c,rfl⟩:=hc
   simp [bld,K5,Value.cells,Yz,splice,strv,Zh.cells,usM,hsM]
  have hone : (Zh.cells (usM c gv y)).all oneCell=true:=by simp only [Zh.cells,usM,List.all_cons,ho];rfl
  have x4:=ZrJ (es:=5) (z:=.agg #[.string ⟨#[]⟩,.string ⟨#[]⟩,.string ⟨#[]⟩,.bool false,.slice none 0 0]) (H:=X) rfl (show (Zh.cells (usM c gv y)).length=5 from rfl) hone
  have l1 : HLe X (X++[Zi.cells (Zh.cells (usM c gv y)) 5 false false]):=.app _ _
  have s1 : SlN 5 (X++[Zi.cells (Zh.cells (usM c gv y)) 5 false false]) (.slice (some ⟨X.length,0,none⟩) 1 1) [Zh.cells (usM c gv y)]:=SlN.whole (rows:=[Zh.cells (usM c gv y)]) (c:=1) (e:=5) (g:=false) (ro:=false) (by rw [ZM];simp) (by simp)
  generalize X++[Zi.cells (Zh.cells (usM c gv y)) 5 false false]=X1 at x4 l1 s1
  obtain ⟨sl',X2,q',x5,hn2,s2⟩:=(hr.step l1.step (by simp)).push (b:=80) s1 rfl (by simp;omega) (by simp;omega)
  have hm:=(hle.trans l1).more s2 hq
  rw [← List.map_singleton (f:=Zh.cells),← List.map_append,← List.map_singleton (f:=usM c gv),← List.map_append,← htk] at hn2
  obtain ⟨X',sl3,q3,e6,r6,l6⟩:=ZrQ hn h12 hb hs ho hc t (j+1) sl' q' X2 (by omega) (by omega) hm.1 hm.2 hn2
  refine ⟨X',sl3,q3,(ZO ?_).trans e6,r6,l6⟩
  rw [YO]
  unfold ZP.l2
  rw [Za Zm,Zd,if_pos (by simpa using hlt),Za x1,Za x2,Za d1,Za e3,Za d1,Q2,Za e3,Za d1,Q2,Za a1,Za a2,Za z1,Za x4,Za x5,Za ZD,J5 (by omega)]
  rfl
theorem b6 : bsl 1 6 (.string ⟨#[]⟩) [(0,1,(Value.string ⟨#[97,49]⟩)),(1,1,(Value.string ⟨#[98,49]⟩)),(2,1,(Value.string ⟨#[99,49]⟩)),(3,1,(Value.string ⟨#[100,49]⟩)),(4,1,(Value.string ⟨#[101,49]⟩)),(5,1,(Value.string ⟨#[102,49]⟩))] X=some (.slice (some ⟨X.length,0,none⟩) 6 6,X++[.cells (m6.map strv) 1 false false]):=rfl
theorem b12 : bsl 1 12 (.string ⟨#[]⟩) [(0,1,(Value.string ⟨#[97]⟩)),(1,1,(Value.string ⟨#[98]⟩)),(2,1,(Value.string ⟨#[99]⟩)),(3,1,(Value.string ⟨#[100]⟩)),(4,1,(Value.string ⟨#[101]⟩)),(5,1,(Value.string ⟨#[102]⟩)),(6,1,(Value.string ⟨#[103]⟩)),(7,1,(Value.string ⟨#[104]⟩)),(8,1,(Value.string ⟨#[105]⟩)),(9,1,(Value.string ⟨#[106]⟩)),(10,1,(Value.string ⟨#[107]⟩)),(11,1,(Value.string ⟨#[108]⟩))] X=some (.slice (some ⟨X.length,0,none⟩) 12 12,X++[.cells (m12.map strv) 1 false false]):=rfl
theorem ZtD : Sl (X++[.cells [u8v c] 1 false false]) (.slice (some ⟨X.length,0,none⟩) 1 1) (u8s [c]):=Zn.rd (own:=[X.length]) (.inr ⟨X.length,[],false,rfl,rfl,by rw [ZM];rfl⟩)
theorem Zp4 {vs : List Value} {k : Nat} (h : vs.length=k) : Sl (X++[.cells vs 1 false false]) (.slice (some ⟨X.length,0,none⟩) k k) vs:=by
 subst h
 exact Zn.rd (own:=[X.length]) (.inr ⟨X.length,[],false,rfl,rfl,by rw [ZM];simp⟩)
theorem Zn.isS1 {vs : List Value} (h : Zn X v vs q) : ∃ a n c,v=.slice a n c:=by
 obtain ⟨a,c,rfl,_⟩:=h.rd
 exact ⟨_,_,_,rfl⟩
set_option maxRecDepth 10000 in
theorem ZpE {m : Nat} (hm : m≤255) : ∃ H',R (n+14) Wo [.int .u8 m] H=some (.bool true,H'):=by
 obtain ⟨H1,e1,l1⟩:=Zp5 (n:=n) (H:=H)
 have hi : m % 26 < 26:=Nat.mod_lt _ (by omega)
 obtain ⟨g1,g2⟩:=Zr8 hi
 have q1 : bop .int .rem (.int .u8 m) (.int .u8 26) H1=some (.int .u8 ((m % 26 : Nat) : Int),H1):=by
  rw [JH,if_neg (by omega)]
  rfl
 have hct : (UInt8.ofNat (97+m % 26)).toNat=97+m % 26:=by
  simp
  omega
 have q2 : bop .int .add (.int .u8 97) (.int .u8 ((m % 26 : Nat) : Int)) H1=some (u8v (UInt8.ofNat (97+m % 26)),H1):=by
  rw [ZD]
  unfold u8v
  rw [hct]
  congr 3
  have : ∀ k : Nat,k < 26→IntKind.u8.wrap (97+(k : Int))=((97+k : Nat) : Int):=by decide
  exact this _ hi
 generalize UInt8.ofNat (97+m % 26)=c at g1 g2 q2
 have x1 : bsl 1 1 (.int .u8 0) [(0,1,u8v c)] H1=some (.slice (some ⟨H1.length,0,none⟩) 1 1,H1++[.cells [u8v c] 1 false false]):=Zpu rfl rfl rfl
 have s1 : Sl (H1++[.cells [u8v c] 1 false false]) (.slice (some ⟨H1.length,0,none⟩) 1 1) (u8s [c]):=ZtD
 have k2 : HLe H1 (H1++[Zi.cells [u8v c] 1 false false]):=.app _ _
 generalize H1++[Zi.cells [u8v c] 1 false false]=H2 at x1 s1 k2
 have x2:=ZoQ s1
 have z3 : alc 1 (.string ⟨#[]⟩) H2=some (pt H2.length,H2++[.cells [.string ⟨#[]⟩] 1 false false]):=ZgN (vs:=[.string ⟨#[]⟩]) rfl
 have c3 : (H2++[Zi.cells [.string ⟨#[]⟩] 1 false false])[H2.length]?=some (.cells [.string ⟨#[]⟩] 1 false false):=ZM
 have k3 : HLe H2 (H2++[Zi.cells [.string ⟨#[]⟩] 1 false false]):=.app _ _
 generalize H2++[Zi.cells [.string ⟨#[]⟩] 1 false false]=H3 at z3 c3 k3
 have w3 : st1 (pt H2.length) (strv [c]) H3=some (undef,H3.set H2.length (.cells [strv [c]] 1 false false)):=ZpZ (o:=0) c3 (by simp) rfl
 have hb:=Qu (b:=Zi.cells [strv [c]] 1 false false) c3
 have k4 : HLe H2 (H3.set H2.length (.cells [strv [c]] 1 false false)):=k3.putB (Nat.le_refl _)
 generalize H3.set H2.length (.cells [strv [c]] 1 false false)=H4 at w3 hb k4
 generalize H2.length=b at z3 c3 w3 hb
 have x5:=b6 (X:=H4)
 have k5 : HLe H4 (H4++[.cells (m6.map strv) 1 false false]):=.app _ _
 have s5 : Sl (H4++[.cells (m6.map strv) 1 false false]) (.slice (some ⟨H4.length,0,none⟩) 6 6) (m6.map strv):=Zp4 rfl
 generalize H4++[Zi.cells (m6.map strv) 1 false false]=H5 at x5 k5 s5
 have y5 : Zk (.slice (some ⟨H4.length,0,none⟩) 6 6) H5=some (iv m6.length,H5):=rfl
 generalize (Value.slice (some ⟨H4.length,0,none⟩) 6 6)=v5 at x5 s5 y5
 obtain ⟨H6,gv,q6,e6,r6,k6⟩:=ZrP (n:=n+12) (c:=c) (by decide) (k5 _ _ hb) s5 m6.length 0 (.slice none 0 0) [] H5 (by omega) (by omega) (.refl _) (by simp) Zn.nil
 have hb6:=k6 _ _ (k5 _ _ hb)
 have x7:=b12 (X:=H6)
 have k7 : HLe H6 (H6++[.cells (m12.map strv) 1 false false]):=.app _ _
 have s7 : Sl (H6++[.cells (m12.map strv) 1 false false]) (.slice (some ⟨H6.length,0,none⟩) 12 12) (m12.map strv):=Zp4 rfl
 generalize H6++[Zi.cells (m12.map strv) 1 false false]=H7 at x7 k7 s7
 have y7 : Zk (.slice (some ⟨H6.length,0,none⟩) 12 12) H7=some (iv m12.length,H7):=rfl
 generalize (Value.slice (some ⟨H6.length,0,none⟩) 12 12)=v7 at x7 s7 y7
 obtain ⟨H8,uv,q8,e8,r8,k8⟩:=ZrQ (n:=n+12) (c:=c) (gv:=gv) (by decide) (by decide) (k7 _ _ hb6) s7 r6.one.1 r6.isS1 m12.length 0 (.slice none 0 0) [] H7 (by omega) (by omega) (.refl _) (by simp) JG.nil
 have s8 : Sl H8 gv ((gsM c).map strv):=(r6.rd.mono k7).mono k8
 have A8 : J7 H8 uv (m12.map (usM c gv)):=⟨r8.rd,fun u hu=>by
  obtain ⟨t,_,rfl⟩:=List.mem_map.1 hu
  exact ⟨s8,r6.one.1,by show (m6.map (lng c)).length≤1000000;rw [List.length_map];decide⟩⟩
 have hK : (m12.map (usM c gv)).map QS=ksM c:=rfl
 have hE : KC (m12.map (usM c gv)) (gsM c)=0:=by
  have h1 : ofK (ksM c) (gsM c)=(KC (m12.map (usM c gv)) (gsM c)).toNat:=by
   unfold ksM ofK
   rw [List.map_map]
   exact congrArg Int.toNat (Zmp rfl)
  have:=Zia (us:=m12.map (usM c gv)) (l:=gsM c)
  omega
 obtain ⟨H9,k9,h9⟩:=ZpM (n:=n+1) (by rw [List.length_map];decide) (by unfold gsM;rw [List.length_map];decide) A8 s8
 rw [if_pos hE] at h9
 obtain ⟨d,r,s,c2,e9,hS⟩:=h9
 have e9 : R (n+13) Kz [uv,gv] H8=_:=e9
 obtain ⟨w,qw,H10,e10,r10,k10,_⟩:=ZgC (n:=n+1) hS.nd
 have e10 : R (n+13) Qp [pt d] H9=_:=e10
 have hP:=hS.nd.pinv
 have hu : ksM c=allK s:=by rw [← hK];exact hS.ok.all hP.n
 have hk : Z0 s.K=gsM c:=by
  rw [hS.K]
  have hr : Yb (gsM c)=true:=by
   unfold KC at hE
   by_cases hc : W9 (m12.map (usM c gv)) (gsM c)=0
   ·exact (Zm2 hc).2.2.2.2.1
   ·rw [if_neg hc] at hE;exact absurd hE hc
  have ha:=ZbD hr
  exact ZkJ (Zdu (ha.imp fun h e=>by subst e;exact List.lt_irrefl _ h)) ha fun x=>Wg
 rw [hk,← hu] at r10
 have e11 : Zk w H10=some (iv 1733,H10):=by
  have:=r10.rd.len (H':=H10)
  rwa [Yy,g2] at this
 have e12 : R (n+13) Zak [] H10=some (iv 1733,H10):=ZnR (n:=n+12)
 refine ⟨H10,?_⟩
 rw [R,Zf2 rfl]
 unfold ZP
 have e6 : Zf (c6 (ZP.l1 (R (n+13)))) [pt b,.func (.func 11) #[] #[pt b],.slice none 0 0,v5,iv m6.length,.int .i64 0] H5=_:=e6
 have e8 : Zf (c7 (ZP.l2 (R (n+13)))) [pt b,.func (.func 11) #[] #[pt b],gv,.slice none 0 0,v7,iv m12.length,.int .i64 0] H7=_:=e8
 have q10 : bop .int .eql (iv 0) (.int .i64 0) H9=some (.bool true,H9):=by rw [Qi];rfl
 have q11 : bop .ptr .neq (pt d) (.pointer none) H9=some (.bool true,H9):=JI
 have q12 : bop .int .eql (iv 1733) (iv 1733) H10=some (.bool true,H10):=by rw [Qi];rfl
 rw [Za e1,Za Qa,Zd,if_neg (by simp),Za q1,Za q2,Za x1,Za x2,Za z3,Za w3,Za x5,Za y5,Q0 e6,ZG,Z3,Za x7,Za y7,Q0 e8,ZG,QU,Za e9,Za Zu,Za Zv,Za q10]
 rw [Yf,ZX,Za q11,YI,QU,Za ZC]
 simp only [cond_true]
 rw [Yf,ZX,Za e10,ZX,Za e11,ZX,Za e12,ZX,Za q12,YI,JP,Za ZC]
 rfl
theorem law_FolioMost : ∀ (xs : Ins [.int .u8]) (H : Zb) (vs : List Value),Zl1 [.int .u8] xs→Zdw [.int .u8] xs H vs→∃ n H',R n Wo vs H=some (.bool true,H'):=by
 intro xs H vs hwf hrd
 obtain ⟨M,_⟩:=xs
 obtain ⟨hM,_⟩:=hwf
 obtain ⟨c2,_,rfl,hc2,h2,rfl⟩:=hrd
 have hM:=ZtQ hM
 have h2 : c2=[.int .u8 M]:=h2
 subst h2
 have hM0 : (0 : Int)≤M:=hM.1
 obtain ⟨m,hm⟩ : ∃ m : Nat,M=(m : Int):=⟨Int.toNat M,(Int.toNat_of_nonneg hM0).symm⟩
 subst hm
 have hm : m≤255:=by have:=hM.2;exact Int.ofNat_le.1 this
 obtain ⟨H',e⟩:=ZpE (n:=0) (H:=H) hm
 exact ⟨14,H',e⟩
end
end Go.Proofs.YtedkoimihknggaaGreatDoor.A

