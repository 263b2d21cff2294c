/- What the law MigrateDown needs (part 7). -/
import Derived.Test.YtedkoimihknggaaGreatDoorZMigrateDown6
namespace Go.Proofs.YtedkoimihknggaaGreatDoor.A
set_option linter.unusedVariables false
set_option maxRecDepth 100000
set_option linter.unusedSimpArgs false
open Go.Proofs Go.Proofs.YtedkoimihknggaaGreatDoor
def Zk0 (b : Bool) : List UInt8:=le (if b then 1 else 0) 1
def Zn7 (l : List Tx) : List UInt8:=le l.length 2++(l.map txt).flatten
def ZqC (k : Zaj) : List UInt8:=txt k.1++(txt k.2.1++(txt k.2.2.1++(Zk0 k.2.2.2.1++Zn7 k.2.2.2.2)))
def ZfQ (l : List Zaj) : List UInt8:=(l.map ZqC).flatten
def Zhs (K : List Tx) (ks : List Zaj) : List UInt8:=le 2 1++(Zn7 K++(le ks.length 2++ZfQ ks))
def uOf (k : Zaj) : Zj:=⟨k.1,k.2.1,k.2.2.1,k.2.2.2.1,.slice none 0 0,k.2.2.2.2⟩
def Zjq (k : Zaj) : Nat:=(JO (uOf k)).toNat
def ofK (ks : List Zaj) (gs : List Tx) : Nat:=(ZbM (ks.map uOf) gs).toNat
section
variable {s : RSt} {k : Zaj} {ks : List Zaj} {l K : List Tx} {r t : List UInt8} {us : List Zj}
theorem ZAh (k : Zaj) : ZQ (uOf k)=k:=rfl
theorem Zms (ks : List Zaj) : (ks.map uOf).map ZQ=ks:=by
 rw [List.map_map]
 exact (List.map_congr_left fun a _=>ZAh a).trans (List.map_id ks)
theorem ZoI {u : Zj} : 0≤JO u∧JO u≤12:=by
 unfold JO Zgj
 repeat' split
 all_goals exact ⟨by decide,by decide⟩
theorem Zyi {u w : Zj} (h : ZQ u=ZQ w) : JO u=JO w:=by
 have h1 : u.nm=w.nm:=congrArg (·.1) h
 have h2 : u.hs=w.hs:=congrArg (·.2.1) h
 have h3 : u.ml=w.ml:=congrArg (·.2.2.1) h
 have h4 : u.gs=w.gs:=congrArg (·.2.2.2.2) h
 unfold JO
 rw [h1,h2,h3,h4]
theorem Zq5 {u : Zj} : JO u=Zjq (ZQ u):=by
 unfold Zjq
 rw [Int.toNat_of_nonneg ZoI.1]
 exact Zyi rfl
theorem Zo8 : ∀ {us : List Zj},0≤Yu us
 | []=>Int.le_refl _
 | u :: us=>by
  unfold Yu
  split
  ·exact Zo8
  ·exact ZoI.1
theorem Zzy {gs : List Tx} {p : List Zj} {u : Zj} : 0≤ZeR gs p u:=by
 unfold ZeR
 repeat' split
 all_goals decide
theorem ZtY {gs : List Tx} : ∀ {us p : List Zj},0≤Za1 gs p us
 | [],p=>by unfold Za1;exact Int.le_refl _
 | u :: us,p=>by
  unfold Za1
  split
  ·exact ZtY
  ·exact Zzy
theorem ZBw : 0≤Zdj us l:=by
 unfold Zdj Zjg
 have:=Zo8 (us:=us)
 repeat' split
 all_goals first | exact this | decide
theorem Zs4 : 0≤ZbM us l:=by
 unfold ZbM
 split
 ·exact ZtY
 ·exact ZBw
theorem ZBc : ZbM us l=ofK (us.map ZQ) l:=by
 unfold ofK
 rw [Int.toNat_of_nonneg Zs4]
 exact Zzb (Zms _).symm
theorem Zwx {m : Tx} (h : ZdB m=true) : m.length≤20:=by
 rcases Zmn h with h | ⟨h,_⟩
 ·rw [h];decide
 ·unfold QH at h
  rw [Bool.and_eq_true,decide_eq_true_eq] at h
  exact h.1
structure Zo3 (k : Zaj) : Prop where
 n : k.1.length≤12
 h : k.2.1.length≤12
 m : k.2.2.1.length≤20
 g : k.2.2.2.2.length≤6
 gs : ∀ x∈k.2.2.2.2,x.length≤12
theorem ZAl (h : Zjq k=0) : Zo3 k:=by
 have h0 : JO (uOf k)=0:=by
  have:=ZoI (u:=uOf k)
  unfold Zjq at h
  omega
 obtain ⟨h1,h2,h3,h4,h5,_⟩:=Zev h0
 exact ⟨ZaU h1,Zwb h2,Zwx h3,h4,fun x hx=>ZaU (List.all_eq_true.1 h5 x hx)⟩
theorem ZAs (h : ofK ks l=0) : (∀ k∈ks,Zjq k=0)∧ks.length≤12∧l.length≤6∧(∀ x∈l,x.length≤12)∧Kh l=true∧l.all Zp=true:=by
 have h0 : ZbM (ks.map uOf) l=0:=by
  have:=Zs4 (us:=ks.map uOf) (l:=l)
  unfold ofK at h
  omega
 have hc : Zdj (ks.map uOf) l=0:=by
  unfold ZbM at h0
  by_cases hc : Zdj (ks.map uOf) l=0
  ·exact hc
  ·rw [if_neg hc] at h0;exact h0
 obtain ⟨h1,_,h3,h4,h5,h6⟩:=ZyZ hc
 rw [List.length_map] at h3
 refine ⟨fun k hk=>?_,h3,h6,fun x hx=>ZaU (List.all_eq_true.1 h4 x hx),h5,h4⟩
 have:=ZkM h1 (uOf k) (List.mem_map.2 ⟨k,hk,rfl⟩)
 unfold Zjq
 rw [this];rfl
theorem Zmb {b : Nat} : ∀ {l : List Tx},(∀ x∈l,x.length≤b)→((l.map txt).flatten).length≤l.length * (b+2)
 | [],_=>by simp
 | x :: l,h=>by
  have h1:=h x (by simp)
  have h2:=Zmb (b:=b) (l:=l) fun y hy=>h y (by simp [hy])
  rw [List.map_cons,List.flatten_cons,List.length_append,Zet,List.length_cons,Nat.add_mul]
  omega
theorem Zoq {b : Nat} (h : ∀ x∈l,x.length≤b) : (Zn7 l).length≤2+l.length * (b+2):=by
 unfold Zn7
 rw [List.length_append,Zct]
 have:=Zmb h
 omega
theorem Zpq (b : Bool) : (Zk0 b).length=1:=by unfold Zk0;rw [Zct]
theorem ZuB (h : Zo3 k) : (ZqC k).length≤137:=by
 unfold ZqC
 rw [List.length_append,List.length_append,List.length_append,List.length_append,Zet,Zet,Zet,Zpq]
 have h1:=Zoq h.gs
 have h2:=h.g
 have:=h.n
 have:=h.h
 have:=h.m
 have h3 : k.2.2.2.2.length * (12+2)≤6 * (12+2):=Nat.mul_le_mul_right _ h2
 omega
theorem ZpK : ∀ {ks : List Zaj},(∀ k∈ks,Zo3 k)→(ZfQ ks).length≤ks.length * 137
 | [],_=>by simp [ZfQ]
 | k :: ks,h=>by
  have h1:=ZuB (h k (by simp))
  have h2:=ZpK (ks:=ks) fun y hy=>h y (by simp [hy])
  unfold ZfQ at h2 ⊢
  rw [List.map_cons,List.flatten_cons,List.length_append,List.length_cons,Nat.add_mul]
  omega
theorem Zzt (h : ∀ k∈ks,Zo3 k) (hn : ks.length≤12) (hl : l.length≤6) (hx : ∀ x∈l,x.length≤12) : (Zhs l ks).length≤1733:=by
 unfold Zhs
 rw [List.length_append,List.length_append,List.length_append,Zct,Zct]
 have h1:=Zoq hx
 have h2:=ZpK h
 have h3 : l.length * (12+2)≤6 * (12+2):=Nat.mul_le_mul_right _ hl
 have h4 : ks.length * 137≤12 * 137:=Nat.mul_le_mul_right _ hn
 omega
end
end Go.Proofs.YtedkoimihknggaaGreatDoor.A

namespace Go.Proofs.YtedkoimihknggaaGreatDoor.A
set_option linter.unusedVariables false
set_option maxRecDepth 100000
set_option linter.unusedSimpArgs false
open Go.Proofs Go.Proofs.YtedkoimihknggaaGreatDoor
section
variable {H X X' : Zd} {n p d c : Nat} {r : NR} {s : NSt} {sl x v gv sv : Value} {own q : List Nat} {bs : List UInt8} {l : List Tx} {u : Zj} {us : List Zj}
theorem ZfA : ∀ {l : List Tx},l.Pairwise (· < ·)→Kh l=true
 | [],_=>rfl
 | [a],_=>rfl
 | a :: b :: l,h=>by
  rw [Zgd,Bool.and_eq_true,decide_eq_true_eq]
  have h1:=List.pairwise_cons.1 h
  exact ⟨h1.1 b (by simp),ZfA h1.2⟩
theorem ND0.kname (hd : ND0 X d r s c) {k : Tx} (hk : k∈s.K) : Zp k=true:=by
 rw [← hd.ks] at hk
 obtain ⟨p,hp,rfl⟩:=List.mem_map.1 hk
 exact hd.gr.ok p hp
theorem ZhY (hO : ROK s us) (hP : WQ s) (hN : ∀ k∈s.K,Zp k=true) (hu : u∈us) : JO u=0∧(∀ g∈u.gs,g∈s.K)∧u.ml=(Zf u.nm s.OF).getD []:=by
 have hat:=hO.at hu
 unfold ZN at hat
 cases ha : Zf u.nm s.A with
 | none=>rw [ha] at hat;cases hat
 | some p=>
  rw [ha] at hat
  have hk : Qi s u.nm p=ZQ u:=Option.some.inj hat
  have h1 : p.1=u.hs:=congrArg (·.2.1) hk
  have h2 : (Zf u.nm s.OF).getD []=u.ml:=congrArg (·.2.2.1) hk
  have h3 : ofL u.nm s.K s.mem=u.gs:=congrArg (·.2.2.2.2) hk
  have hnm:=hP.i.nm _ (K6 ha)
  have hin : ∀ g∈u.gs,g∈s.K:=fun g hg=>by
   rw [← h3] at hg
   exact (((Zcu hP.k.nod).mem g).1 hg).1
  refine ⟨?_,hin,h2.symm⟩
  unfold JO Zgj
  rw [show Zp u.nm=true from hnm.1,← h1,show YR p.1=true from hnm.2]
  have hm : ZdB u.ml=true:=by
   unfold ZdB
   rw [← h2]
   cases ho : Zf u.nm s.OF with
   | none=>rfl
   | some m=>
    obtain ⟨g1,g2⟩:=hP.i.good _ m ho
    show (m==[] || (QH m && Qd m==m))=true
    rw [g1,g2]
    simp
  have hl : u.gs.length≤6:=by
   rw [← h3]
   exact Nat.le_trans ZfB hP.k.few
  have hall : u.gs.all Zp=true:=List.all_eq_true.2 fun g hg=>hN g (hin g hg)
  have hr : Kh u.gs=true:=by
   rw [← h3]
   exact ZfA (Zcu hP.k.nod).asc
  rw [hm,hall,hr]
  simp only [if_true]
  rw [if_neg (by omega)]
theorem ZqS {gs : List Tx} : ∀ {us prev : List Zj},(∀ (i : Nat) (u : Zj),us[i]?=some u→ZeR gs (prev++us.take i) u=0)→Za1 gs prev us=0
 | [],prev,_=>by unfold Za1;rfl
 | u :: us,prev,h=>by
  have h0:=h 0 u rfl
  rw [List.take_zero,List.append_nil] at h0
  unfold Za1
  rw [if_pos h0]
  refine ZqS fun i w hi=>?_
  have h1:=h (i+1) w (by simpa using hi)
  rw [List.take_succ_cons] at h1
  rwa [List.append_assoc]
theorem ZB8 (hO : ROK s us) (hP : WQ s) (hN : ∀ k∈s.K,Zp k=true) : ZbM us (Qx s.K)=0:=by
 have hlen:=hO.len hP.n
 have hfew:=hP.i.few
 have h1 : Yu us=0:=by
  have hall : ∀ u∈us,JO u=0:=fun u hu=>(ZhY hO hP hN hu).1
  clear hO hlen
  induction us with
  | nil=>rfl
  | cons u us ih=>
   unfold Yu
   rw [if_pos (hall u (by simp))]
   exact ih fun w hw=>hall w (by simp [hw])
 have h2 : Kh (us.map (·.nm))=true:=by
  refine ZfA ?_
  rw [List.pairwise_map]
  exact hO.rise
 have h3 : (Qx s.K).all Zp=true:=List.all_eq_true.2 fun g hg=>hN g (Zbq.1 hg)
 have h4 : Kh (Qx s.K)=true:=ZfA (Zh1 hP.k.nod)
 have h5 : (Qx s.K).length≤6:=by rw [Zat];exact hP.k.few
 have hc : Zdj us (Qx s.K)=0:=by
  unfold Zdj Zjg
  have x1 : ¬ 12 < us.length:=by omega
  have x2 : ¬ 6 < (Qx s.K).length:=by omega
  rw [h1,h2,h3,h4]
  simp [x1,x2,hP.k.few]
 unfold ZbM
 rw [if_pos hc]
 refine ZqS fun i u hi=>?_
 rw [List.nil_append]
 have hum:=List.mem_of_getElem? hi
 obtain ⟨_,hg,hm⟩:=ZhY hO hP hN hum
 unfold ZeR
 have hall : (u.gs.all fun g=>decide (g∈Qx s.K))=true:=List.all_eq_true.2 fun g hgm=>by
  rw [decide_eq_true_eq]
  exact Zbq.2 (hg g hgm)
 rw [hall,if_pos rfl,if_neg]
 rintro ⟨hne,hany⟩
 obtain ⟨w,hw,hwe⟩:=List.any_eq_true.1 hany
 have hwm:=List.mem_of_mem_take hw
 obtain ⟨_,_,hm2⟩:=ZhY hO hP hN hwm
 have hwe : u.ml=w.ml:=by simpa using hwe
 have h6 : ∀ v : Zj,v.ml=(Zf v.nm s.OF).getD []→v.ml≠[]→Zf v.ml s.OW=some v.nm:=fun v hv hvne=>by
  cases ho : Zf v.nm s.OF with
  | none=>rw [ho] at hv;exact absurd hv hvne
  | some m=>
   rw [ho] at hv
   have hv : v.ml=m:=hv
   rw [hv]
   exact (hP.x.inv _ _).1 ho
 have h7:=h6 u hm hne
 have h8:=h6 w hm2 (by rw [← hwe];exact hne)
 rw [← hwe,h7] at h8
 have h9 : u.nm=w.nm:=Option.some.inj h8
 have hri:=hO.rise
 unfold ZdX at hri
 rw [← List.take_append_drop i us,List.pairwise_append] at hri
 have hud : u∈us.drop i:=by
  have hil:=(List.getElem?_eq_some_iff.1 hi).1
  rw [List.drop_eq_getElem_cons hil]
  have:=List.getElem?_eq_getElem hil
  rw [hi] at this
  rw [← Option.some.inj this]
  simp
 have:=hri.2.2 w hw u hud
 rw [h9] at this
 exact absurd this (List.lt_irrefl _)
theorem ROK.allK (hn : (ZcO s).Nodup) : ROK s ((A.allK s).map uOf):=⟨by
 have h:=Zr0 hn
 unfold ZdX
 rw [List.pairwise_map]
 exact h,fun key=>by rw [Zms];exact Zs1 hn⟩
theorem Zyl (hd : ND X d r s c) : ofK (A.allK s) (Qx s.K)=0:=by
 have:=ZB8 (ROK.allK hd.pinv.n) hd.pinv fun k hk=>hd.toND0.kname hk
 rw [ZBc,Zms] at this
 omega
theorem Zz3 {b : Bool} (hb : bs.length≤100000000000) (h : Wtr H p bs own) : ∃ H' own',R (n+3) WR [pt p,.bool b] H=some (pt p,H')∧Wtr H' p (bs++Zk0 b) own'∧ZC (p :: own) H (p :: own') H':=by
 obtain ⟨H',own',e,w,s⟩:=Zwi (n:=n) (x:=if b then 1 else 0) (by cases b <;> decide) hb h
 refine ⟨H',own',?_,w,s⟩
 rw [R,Zjt rfl]
 unfold Zdg
 cases b
 ·have e : R (n+2) JS [pt p,.int .u8 0] H=_:=e
  rw [Zb,if_neg (by simp),Za e]
  rfl
 ·have e : R (n+2) JS [pt p,.int .u8 1] H=_:=e
  rw [Zb,if_pos rfl,Za e]
  rfl
theorem ZA.whole {vs : List Value} (h : ZA X v vs q) : ∃ sv,slv 1 v none (some (iv vs.length)) none X=some (sv,X)∧Sl X sv vs∧∀ j,A.own1 sv=some j→j∈q:=by
 have b1 : ∀ d,bnd (some (iv vs.length)) d=some vs.length:=fun d=>by simp [bnd]
 have b2 : ∀ d,bnd none d=some d:=fun _=>rfl
 rcases h with ⟨rfl,rfl,rfl⟩ | ⟨sid,rest,g,rfl,rfl,hid⟩
 ·exact ⟨.slice none 0 0,rfl,Sl.nil,fun j hj=>by cases hj⟩
 ·by_cases h0 : vs.length+rest.length=0
  ·have hv : vs=[]:=List.eq_nil_of_length_eq_zero (by omega)
   subst hv
   refine ⟨.slice (some ⟨sid,0,some (bif g then 1 else 0)⟩) 0 0,?_,⟨_,_,rfl,(fun e=>by cases e),rfl⟩,fun j hj=>by cases hj⟩
   simp only [slv,hid,b1,b2]
   rw [if_pos ⟨trivial,by omega,by omega,Nat.le_refl _⟩,if_pos (by omega)]
  ·refine ⟨.slice (some ⟨sid,0,none⟩) vs.length (vs.length+rest.length),?_,⟨some ⟨sid,0,none⟩,_,rfl,(fun e=>by cases e),?_⟩,fun j hj=>by cases hj;simp⟩
   ·simp only [slv,hid,b1,b2]
    rw [if_pos ⟨trivial,by omega,by omega,Nat.le_refl _⟩,if_neg (by omega)]
    simp
   ·simp only [QK,hid]
    rw [if_pos (by simp)]
    simp
theorem Zv6 (hl : ∀ x∈l,x.length≤1000) (hn : l.length≤1000) : ∀ (t j : Nat) (bs : List UInt8) (own : List Nat) (X : Zd),l.length - j=t→j≤l.length→Sl X sv (l.map strv)→(∀ i,own1 sv=some i→i∉p :: own∧i < X.length)→bs.length+t * 1002≤100000000→Wtr X p bs own→
  ∃ X' own',Zi (c4 (Ka.l1 (R (n+3)))) [pt p,sv,iv l.length,iv j] X=some (.ext 0 [pt p],X')∧Wtr X' p (bs++((l.drop j).map txt).flatten) own'∧ZC (p :: own) X (p :: own') X'
 | 0,j,bs,own,X,ht,hj,hs,hd,hb,h=>by
  rw [List.drop_eq_nil_of_le (by omega)]
  refine ⟨X,own,ZK ?_,by simpa using h,.refl _ _⟩
  rw [ZI,show j=l.length by omega]
  unfold Ka.l1
  rw [Za Zm,Zb,if_neg (by simp)]
  rfl
 | t+1,j,bs,own,X,ht,hj,hs,hd,hb,h=>by
  have hkl : j < l.length:=by omega
  have hlt : (j : Int) < l.length:=by omega
  have hg:=List.getElem?_eq_getElem hkl
  have hdr:=List.drop_eq_getElem_cons hkl
  generalize l[j]=y at hg hdr
  have hy:=hl y (List.mem_of_getElem? hg)
  have x1:=hs.ix (i:=j) (by simpa using hkl) .i64 X
  have x2:=hs.ldx (Yt hg)
  obtain ⟨X1,own1',e1,w1,s1⟩:=Zmo (n:=n) (s:=y) (by omega) (by omega) h
  have hs1 : Sl X1 sv (l.map strv):=hs.keep fun i hi=>s1.keep i (hd i hi).2 (hd i hi).1
  have hd1 : ∀ i,A.own1 sv=some i→i∉p :: own1'∧i < X1.length:=fun i hi=>⟨fun hm=>by
   rcases s1.own i hm with h1 | h1
   ·exact (hd i hi).1 h1
   ·have:=(hd i hi).2;omega,Nat.lt_of_lt_of_le (hd i hi).2 s1.len⟩
  obtain ⟨X2,own2,e2,w2,s2⟩:=Zv6 hl hn t (j+1) (bs++txt y) own1' X1 (by omega) (by omega) hs1 hd1 (by rw [List.length_append,Zet];omega) w1
  refine ⟨X2,own2,(Zy ?_).trans e2,?_,s1.trans s2⟩
  ·rw [ZI]
   unfold Ka.l1
   rw [Za Zm,Zb,if_pos (by simpa using hlt),Za x1,Za x2,Za e1,Za ZB,Qg (by omega)]
   rfl
  ·rw [hdr,List.map_cons,List.flatten_cons,← List.append_assoc]
   exact w2
theorem Zx8 (hl : ∀ x∈l,x.length≤1000) (hn : l.length≤1000) (hr : ZA H gv (l.map strv) q) (hd : ∀ j∈q,j∉p :: own) (hb : bs.length≤10000000) (h : Wtr H p bs own) : ∃ H' own',R (n+4) KF [pt p,gv] H=some (pt p,H')∧Wtr H' p (bs++Zn7 l) own'∧ZC (p :: own) H (p :: own') H':=by
 have hlen : Zx gv H=some (iv l.length,H):=by have:=hr.rd.len (H':=H);simpa using this
 have hm : mxi false (iv l.length) (.int .i64 65535) H=some (iv l.length,H):=by
  rw [Yz,if_neg (by omega)]
 obtain ⟨sv,e1,s1,o1⟩:=hr.whole
 rw [List.length_map] at e1
 have hsl : ∀ Y,Zx sv Y=some (iv l.length,Y):=fun Y=>by have:=s1.len (H':=Y);simpa using this
 have c1 : cvi .u16 (iv l.length) H=some (.int .u16 l.length,H):=by rw [QG,ZwE,Int.emod_eq_of_lt (by omega) (by omega)]
 obtain ⟨X1,own1',e2,w2,st2⟩:=ZtW (n:=n+1) (x:=l.length) (by omega) (by omega) h
 have e2 : R (n+3) Yw [pt p,.int .u16 l.length] H=_:=e2
 have hs1 : Sl X1 sv (l.map strv):=s1.keep fun i hi=>st2.keep i (hr.lt i (o1 i hi)) (hd i (o1 i hi))
 have hd1 : ∀ i,A.own1 sv=some i→i∉p :: own1'∧i < X1.length:=fun i hi=>⟨fun hm=>by
  rcases st2.own i hm with h1 | h1
  ·exact hd i (o1 i hi) h1
  ·have:=hr.lt i (o1 i hi);omega,Nat.lt_of_lt_of_le (hr.lt i (o1 i hi)) st2.len⟩
 obtain ⟨X2,own2,e3,w3,st3⟩:=Zv6 (n:=n) (p:=p) hl hn l.length 0 (bs++le l.length 2) own1' X1 (by omega) (by omega) hs1 hd1 (by rw [List.length_append,Zct];omega) w2
 rw [show iv ((0 : Nat) : Int)=.int .i64 0 from rfl] at e3
 rw [List.drop_zero,List.append_assoc] at w3
 refine ⟨X2,own2,?_,w3,st2.trans st3⟩
 rw [R,ZkV rfl]
 unfold Ka
 rw [Za hlen,Za hm,Za e1,Za (hsl _),Za c1,Za e2,Za (hsl _),ZT e3,ZE]
 rfl
theorem ZBQ {u : Zj} : ZqC (ZQ u)=txt u.nm++(txt u.hs++(txt u.ml++(Zk0 u.ds++Zn7 u.gs))):=rfl
theorem Zdx {o1 o2 : List Nat} (hs : ZC o1 X o2 X') {q : List Nat} (hl : ∀ j∈q,j < X.length) (hd : ∀ j∈q,j∉o1) : ∀ j∈q,j∉o2:=fun j hj hm=>by
 rcases hs.own j hm with h1 | h1
 ·exact hd j hj h1
 ·have:=hl j hj;omega
theorem ZAN (he : JO u=0) (hr : ZA H u.gv (u.gs.map strv) q) (hd : ∀ j∈q,j∉p :: own) (hb : bs.length≤1000000) (h : Wtr H p bs own) : ∃ H' own',R (n+11) Zge [pt p,iv 2,.agg u.cells.toArray] H=some (.bool true,H')∧Wtr H' p (bs++ZqC (ZQ u)) own'∧ZC (p :: own) H (p :: own') H':=by
 obtain ⟨b1,b2,b3,b4,b5,b6⟩:=Zev he
 have hnl:=ZaU b1
 have hhl:=Zwb b2
 have hml:=Zwx b3
 have hgl : ∀ x∈u.gs,x.length≤1000:=fun x hx=>by have:=ZaU (List.all_eq_true.1 b5 x hx);omega
 have ok0 : UOK H u:=⟨hr.rd,hr.one.1,by omega⟩
 have e1:=ok0.cells1
 have k1 : HLe H (H++[.cells u.cells 1 false false]):=.app _ _
 have c1 : (H++[Ze.cells u.cells 1 false false])[H.length]?=some (.cells u.cells 1 false false):=Zw
 have hne : H.length∉p :: own:=fun hm=>Nat.lt_irrefl _ (h.lt _ hm)
 have hq1:=hr.lt
 generalize H++[Ze.cells u.cells 1 false false]=X1 at e1 k1 c1
 have d1 : ldA 5 (pt H.length) X1=some (.agg u.cells.toArray,X1):=ZR (n:=5) c1 rfl
 obtain ⟨X2,e2,k2⟩:=ZkY (n:=n) (ok0.hle k1)
 rw [he] at e2
 have c2:=k2 _ _ c1
 have k12:=k1.trans k2
 have q1 : bop .int .neq (iv 0) (.int .i64 0) X2=some (.bool false,X2):=by rw [Zq];rfl
 have w2:=h.hle k12
 have hr2:=hr.step k12.step (by simp)
 generalize H.length=w at e1 c1 hne d1 c2
 obtain ⟨X3,q3,e3,w3,s3⟩:=Zmo (n:=n+7) (s:=u.nm) (by omega) (by omega) w2
 have e3 : R (n+10) JT [pt p,strv u.nm] X2=_:=e3
 have c3:=s3.get c2 hne
 have hwl:=QD c2
 have n3 : w∉p :: q3:=fun hm=>by
  rcases s3.own w hm with h1 | h1
  ·exact hne h1
  ·omega
 have l3 : (txt u.nm).length≤14:=by rw [Zet];omega
 have l4 : (txt u.hs).length≤14:=by rw [Zet];omega
 have l5 : (txt u.ml).length≤22:=by rw [Zet];omega
 obtain ⟨X4,q4,e4,w4,s4⟩:=Zmo (n:=n+7) (s:=u.hs) (by omega) (by rw [List.length_append];omega) w3
 have e4 : R (n+10) JT [pt p,strv u.hs] X3=_:=e4
 have c4:=s4.get c3 n3
 have hwl3:=QD c3
 have n4 : w∉p :: q4:=fun hm=>by
  rcases s4.own w hm with h1 | h1
  ·exact n3 h1
  ·omega
 obtain ⟨X5,q5,e5,w5,s5⟩:=Zmo (n:=n+7) (s:=u.ml) (by omega) (by rw [List.length_append,List.length_append];omega) w4
 have e5 : R (n+10) JT [pt p,strv u.ml] X4=_:=e5
 have c5:=s5.get c4 n4
 have hwl4:=QD c4
 have n5 : w∉p :: q5:=fun hm=>by
  rcases s5.own w hm with h1 | h1
  ·exact n4 h1
  ·omega
 obtain ⟨X6,q6,e6,w6,s6⟩:=Zz3 (n:=n+7) (b:=u.ds) (by rw [List.length_append,List.length_append,List.length_append];omega) w5
 have e6 : R (n+10) WR [pt p,.bool u.ds] X5=_:=e6
 have c6:=s6.get c5 n5
 have a2:=hr2.lt
 have r3:=hr2.step s3 hd
 have f3:=Zdx s3 a2 hd
 have r4:=r3.step s4 f3
 have f4:=Zdx s4 r3.lt f3
 have r5:=r4.step s5 f4
 have f5:=Zdx s5 r4.lt f4
 have r6:=r5.step s6 f5
 have f6:=Zdx s6 r5.lt f5
 obtain ⟨X7,q7,e7,w7,s7⟩:=Zx8 (n:=n+6) hgl (by omega) r6 f6 (by rw [List.length_append,List.length_append,List.length_append,List.length_append,Zpq];omega) w6
 have e7 : R (n+10) KF [pt p,u.gv] X6=_:=e7
 have q2 : bop .int .eql (iv 2) (.int .i64 2) X4=some (.bool true,X4):=by rw [ZD];rfl
 have a : ∀ {Y : Zd},Y[w]?=some (.cells u.cells 1 false false)→∀ f x,u.cells[f]?=some x→ld1 (pa w f) Y=some (x,Y):=fun hY f x h=>Zv hY h
 refine ⟨X7,q7,?_,by rw [ZBQ];simpa [List.append_assoc] using w7,(k12.stepq).trans ((((s3.trans s4).trans s5).trans s6).trans s7)⟩
 rw [R,Zva rfl]
 unfold Zml
 rw [Za e1,Za d1,Za e2,Za q1,Zb,if_neg (by simp),Za Zh,Za (a c2 0 _ rfl),Za Zh,Za (a c2 1 _ rfl),Za e3,Za (a c3 1 _ rfl),QY,Za e4,Za q2]
 refine (ZZ (vs:=[]) (H':=X7) ?_).trans ?_
 ·rw [Zb,if_pos rfl,Za Zh,Za (a c4 2 _ rfl),Za Zh,Za (a c4 3 _ rfl),Za Zh,Za (a c4 4 _ rfl),Za e5,Za (a c5 4 _ rfl),QY,Za (a c5 3 _ rfl),QY,Za e6,Za (a c6 4 _ rfl),QY,Za e7]
  rfl
 ·rfl
theorem Zwg (hn : us.length≤100) (hE : ∀ u∈us,JO u=0) : ∀ (t k : Nat) (bs : List UInt8) (own : List Nat) (X : Zd),us.length - k=t→k≤us.length→Qu 5 X v (us.map Zj.cells) q→(∀ j∈q,j∉p :: own)→(∀ u∈us,∃ qu,ZA X u.gv (u.gs.map strv) qu∧∀ j∈qu,j∉p :: own)→bs.length+t * 137≤100000→Wtr X p bs own→
  ∃ X' own',Zi (c4 (WW.l1 (R (n+11)))) [pt p,v,iv us.length,iv k] X=some (.ext 0 [pt p],X')∧Wtr X' p (bs++ZfQ ((us.drop k).map ZQ)) own'∧ZC (p :: own) X (p :: own') X'
 | 0,k,bs,own,X,ht,hk,hr,hd,hu,hb,h=>by
  rw [List.drop_eq_nil_of_le (by omega)]
  refine ⟨X,own,ZK ?_,by simpa [ZfQ] using h,.refl _ _⟩
  rw [ZI,show k=us.length by omega]
  unfold WW.l1
  rw [Za Zm,Zb,if_neg (by simp)]
  rfl
 | t+1,k,bs,own,X,ht,hk,hr,hd,hu,hb,h=>by
  have hkl : k < us.length:=by omega
  have hlt : (k : Int) < us.length:=by omega
  have hg:=List.getElem?_eq_getElem hkl
  have hdr:=List.drop_eq_getElem_cons hkl
  generalize us[k]=u at hg hdr
  have hum:=List.mem_of_getElem? hg
  have he:=hE u hum
  obtain ⟨qu,u1,u2⟩:=hu u hum
  have hf:=fun {K : Value→M Out}=>Zeq (k:=K) hr.rd u1.one.1 hg
  have k1 : HLe X (X++[Ze.cells u.cells 1 false false]):=.app _ _
  have c1 : (X++[Ze.cells u.cells 1 false false])[X.length]?=some (.cells u.cells 1 false false):=Zw
  generalize X++[Ze.cells u.cells 1 false false]=X1 at k1 c1 hf
  have d1 : ldA 5 (pt X.length) X1=some (.agg u.cells.toArray,X1):=ZR (n:=5) c1 rfl
  obtain ⟨X2,own2,e2,w2,s2⟩:=ZAN (n:=n) he (u1.step k1.step (by simp)) u2 (by omega) (h.hle k1)
  have hgk : Zo3 (ZQ u):=ZAl (by rw [← Int.toNat_natCast (Zjq (ZQ u)),← Zq5,he];rfl)
  have hel:=ZuB hgk
  have s12:=(k1.stepq (q:=p :: own)).trans s2
  have hu2 : ∀ u∈us,∃ qu,ZA X2 u.gv (u.gs.map strv) qu∧∀ j∈qu,j∉p :: own2:=fun w hw=>by
   obtain ⟨qw,w1,w2⟩:=hu w hw
   exact ⟨qw,w1.step s12 w2,Zdx s12 w1.lt w2⟩
  obtain ⟨X3,own3,e3,w3,s3⟩:=Zwg hn hE t (k+1) (bs++ZqC (ZQ u)) own2 X2 (by omega) (by omega) (hr.step s12 hd) (Zdx s12 hr.lt hd) hu2 (by rw [List.length_append];omega) w2
  refine ⟨X3,own3,(Zy ?_).trans e3,?_,s12.trans s3⟩
  ·rw [ZI]
   unfold WW.l1
   rw [Za Zm,Zb,if_pos (by simpa using hlt),hf,Za d1,Za e2,Za ZB,Qg (by omega)]
   rfl
  ·rw [hdr]
   unfold ZfQ at w3 ⊢
   rw [List.map_cons,List.map_cons,List.flatten_cons,← List.append_assoc]
   exact w3
theorem Zhj (hd : ND X d r s c) : ∃ v q H',R (n+12) QQ [pt d] X=some (v,H')∧ZA H' v (u8s (Zhs (Qx s.K) (A.allK s))) q∧HLe X H'∧∀ j∈q,X.length≤j:=by
 have hgood:=Zyl hd
 obtain ⟨g1,g2,g3,g4,_,_⟩:=ZAs hgood
 have q0 : bop .ptr .eql (pt d) (.pointer none) X=some (.bool false,X):=Ju
 obtain ⟨z1,z2,w0⟩:=ZAT (H:=X)
 have k0 : HLe X (X++[Ze.cells [.slice none 0 0] 1 false false]):=.app _ _
 generalize X++[Ze.cells [.slice none 0 0] 1 false false]=X0 at z2 w0 k0
 generalize hpp : X.length=p at z2 w0
 have hp : ∀ j∈[p],X.length≤j:=fun j hj=>by have : j=p:=(by simpa using hj);omega
 obtain ⟨X1,q1,e1,w1,s1⟩:=Zwi (n:=n+9) (x:=2) (by omega) (by simp) w0
 have e1 : R (n+11) JS [pt p,.int .u8 2] X0=_:=e1
 have m1:=k0.more s1 hp
 rw [List.nil_append] at w1
 obtain ⟨vg,qg,X2,e2,r2,l2,o2⟩:=ZrR (n:=n+7) (hd.hle m1.1)
 have e2 : R (n+11) KO [pt d] X1=_:=e2
 have w2:=w1.hle l2
 have m12:=m1.1.trans l2
 have dg : ∀ j∈qg,j∉p :: q1:=fun j hj hm=>by have:=o2 j hj;have:=w1.lt j hm;omega
 obtain ⟨X3,q3,e3,w3,s3⟩:=Zx8 (n:=n+7) (l:=Qx s.K) (fun x hx=>by have:=g4 x hx;omega) (by omega) r2 dg (by rw [Zct];omega) w2
 have e3 : R (n+11) KF [pt p,vg] X2=_:=e3
 have m3:=m12.more s3 m1.2
 have e4 : R (n+11) Zcy [pt d] X3=some (iv s.A.length,X3):=ZB1 (n:=n+10) (hd.hle m3.1)
 have hfew:=hd.inv.few
 have c4 : cvi .u16 (iv s.A.length) X3=some (.int .u16 s.A.length,X3):=by rw [QG,ZwE,Int.emod_eq_of_lt (by omega) (by omega)]
 have hlr:=Zoq (b:=12) g4
 have hlr2 : (Qx s.K).length * (12+2)≤6 * (12+2):=Nat.mul_le_mul_right _ g3
 obtain ⟨X4,q4,e5,w4,s4⟩:=ZtW (n:=n+9) (x:=s.A.length) (by omega) (by rw [List.length_append,Zct];omega) w3
 have e5 : R (n+11) Yw [pt p,.int .u16 s.A.length] X3=_:=e5
 have m4:=m3.1.more s4 m3.2
 obtain ⟨va,qa,us,X5,e6,o6,u6,l6⟩:=Zys (n:=n+3) (hd.hle m4.1)
 have e6 : R (n+11) Wp [pt d] X4=_:=e6
 have w5:=w4.hle l6
 have hlen : us.length=s.A.length:=by
  have h1:=congrArg List.length u6
  unfold A.allK at h1
  rw [List.length_map,List.length_map,Zat] at h1
  simpa using h1
 have hla : Zx va X5=some (iv us.length,X5):=by have:=o6.r.rd.len (H':=X5);rwa [List.length_map] at this
 have hE : ∀ u∈us,JO u=0:=fun u hu=>by
  have:=g1 (ZQ u) (by rw [← u6];exact List.mem_map.2 ⟨u,hu,rfl⟩)
  rw [Zq5,this];rfl
 have da : ∀ j,X4.length≤j→j∉p :: q4:=fun j hj hm=>by have:=w4.lt j hm;omega
 obtain ⟨X6,q6,e7,w6,s6⟩:=Zwg (n:=n) (p:=p) (us:=us) (by omega) hE us.length 0 _ q4 X5 (by omega) (by omega) o6.r (fun j hj=>da j (o6.o j hj)) (fun u hu=>by
  obtain ⟨qu,a1,a2,_⟩:=o6.u u hu
  exact ⟨qu,a1,fun j hj=>da j (a2 j hj).1⟩) (by rw [List.length_append,List.length_append,Zct,Zct];omega) w5
 rw [show iv ((0 : Nat) : Int)=.int .i64 0 from rfl] at e7
 rw [List.drop_zero,u6] at w6
 have m6:=(m4.1.trans l6).more s6 m4.2
 have heq : le 2 1++Zn7 (Qx s.K)++le s.A.length 2++ZfQ (A.allK s)=Zhs (Qx s.K) (A.allK s):=by
  unfold Zhs
  have : (A.allK s).length=s.A.length:=by rw [← u6,List.length_map,hlen]
  rw [this]
  simp [List.append_assoc]
 rw [heq] at w6
 have hel:=Zzt (fun k hk=>ZAl (g1 k hk)) g2 g3 g4
 obtain ⟨v,qv,X7,e8,r7,l7,o7⟩:=ZzS (n:=n+9) (by omega) w6
 have e8 : R (n+11) KS [pt p] X6=_:=e8
 refine ⟨v,qv,X7,?_,r7,m6.1.trans l7,fun j hj=>by have h1:=o7 j hj;have h2:=m6.1.len;omega⟩
 rw [R,ZqH rfl]
 unfold WW
 rw [Za q0,Zb,if_neg (by simp),Za z1,Za z2,Za e1,Za e2,Za e3,Za e4,Za c4,Za e5,Za e6,Za hla,ZT e7,ZE,YC,Za e8]
 rfl
end
end Go.Proofs.YtedkoimihknggaaGreatDoor.A

namespace Go.Proofs.YtedkoimihknggaaGreatDoor.A
set_option linter.unusedVariables false
set_option maxRecDepth 100000
set_option linter.unusedSimpArgs false
open Go.Proofs Go.Proofs.YtedkoimihknggaaGreatDoor
section
variable {H X X' : Zd} {n p : Nat} {s : RSt} {sl v : Value} {q : List Nat} {l : List Tx}
end
end Go.Proofs.YtedkoimihknggaaGreatDoor.A

namespace Go.Proofs.YtedkoimihknggaaGreatDoor.A
set_option linter.unusedVariables false
set_option maxRecDepth 100000
set_option linter.unusedSimpArgs false
open Go.Proofs Go.Proofs.YtedkoimihknggaaGreatDoor
theorem Zck.step {X0 X X' : Zd} {sl : Value} {us : List Zj} {q o1 o2 : List Nat} (h : Zck X0 X sl us q) (hs : ZC o1 X o2 X') (hd : ∀ j,X0.length≤j→j∉o1) : Zck X0 X' sl us q:=
 ⟨h.r.step hs fun j hj=>hd j (h.o j hj),h.o,fun w hw=>by
  obtain ⟨qu,h1,h2,h3⟩:=h.u w hw
  exact ⟨qu,h1.step hs fun j hj=>hd j (h2 j hj).1,h2,h3⟩,h.un⟩
section
variable {H X X' X0 : Zd} {n p : Nat} {s : RSt} {sl v vg bv : Value} {q qg : List Nat} {l gl : List Tx} {bs : List UInt8}
end
end Go.Proofs.YtedkoimihknggaaGreatDoor.A

namespace Go.Proofs.YtedkoimihknggaaGreatDoor.A
set_option linter.unusedVariables false
set_option maxRecDepth 100000
set_option linter.unusedSimpArgs false
open Go.Proofs Go.Proofs.YtedkoimihknggaaGreatDoor
section
variable {H X X' H0 : Zd} {n p : Nat} {sl v gv uv : Value} {l N : List Tx} {us : List Zj} {u : Zj} {b : Bool}
end
end Go.Proofs.YtedkoimihknggaaGreatDoor.A

namespace Go.Proofs.YtedkoimihknggaaGreatDoor.A
set_option linter.unusedVariables false
set_option maxRecDepth 100000
set_option linter.unusedSimpArgs false
open Go.Proofs Go.Proofs.YtedkoimihknggaaGreatDoor
section
variable {H0 H X : Zd} {n p d b M L : Nat} {a c v : Value} {bs : List UInt8} {s : RSt}
end
end Go.Proofs.YtedkoimihknggaaGreatDoor.A

namespace Go.Proofs.YtedkoimihknggaaGreatDoor.A
set_option linter.unusedVariables false
set_option maxRecDepth 100000
set_option linter.unusedSimpArgs false
open Go.Proofs Go.Proofs.YtedkoimihknggaaGreatDoor
abbrev uZ : Zj:=⟨[],[],[],false,.slice none 0 0,[]⟩
structure B5 (H X : Zd) (P1 P2 P3 P4 P5 : Nat) (s : RSt) (u : Zj) : Prop where
 b1 : X[P1]?=some (.cells (RR s) 1 false false)
 b2 : X[P2]?=some (.cells (RR (0,[])) 1 false false)
 b3 : X[P3]?=some (.cells uZ.cells 1 false false)
 b4 : X[P4]?=some (.cells uZ.cells 1 false false)
 b5 : X[P5]?=some (.cells u.cells 1 false false)
 le : HLe H X
 o : H.length≤P1∧P1 < P2∧P2 < P3∧P3 < P4∧P4 < P5
section
variable {H0 H X X' : Zd} {n p d b M L P1 P2 P3 P4 P5 i : Nat} {a c v : Value} {bs : List UInt8} {s s' : RSt} {u u' : Zj}
theorem B5.hle (h : B5 H X P1 P2 P3 P4 P5 s u) (hl : HLe X X') : B5 H X' P1 P2 P3 P4 P5 s u:=⟨hl _ _ h.b1,hl _ _ h.b2,hl _ _ h.b3,hl _ _ h.b4,hl _ _ h.b5,h.le.trans hl,h.o⟩
theorem B5.putU (h : B5 H X P1 P2 P3 P4 P5 s u) (hi : i < 5) (hv : oneCell v=true) (hu : u.cells.set i v=u'.cells) : ∃ X',st1 (pa P5 i) v X=some (undef,X')∧B5 H X' P1 P2 P3 P4 P5 s u'∧X.length=X'.length∧∀ j,P5 < j→X'[j]?=X[j]?:=by
 have ho:=h.o
 have w:=K7 (o:=i) h.b5 (by simpa using hi) hv
 rw [hu] at w
 refine ⟨_,w,⟨(List.getElem?_set_ne (by omega)).trans h.b1,(List.getElem?_set_ne (by omega)).trans h.b2,(List.getElem?_set_ne (by omega)).trans h.b3,(List.getElem?_set_ne (by omega)).trans h.b4,ZM h.b5,h.le.put (by omega),ho⟩,by simp,fun j hj=>List.getElem?_set_ne (by omega)⟩
theorem B5.d1 (h : B5 H X P1 P2 P3 P4 P5 s u) : ldA 2 (pt P1) X=some (.agg (RR s).toArray,X):=ZR (n:=2) h.b1 rfl
theorem B5.d5 (h : B5 H X P1 P2 P3 P4 P5 s u) : ldA 5 (pt P5) X=some (.agg u.cells.toArray,X):=ZR (n:=5) h.b5 rfl
theorem Zjj (hv : oneCell u.gv=true) : u.cells.all oneCell=true:=by simp only [Zj.cells,List.all_cons,hv];rfl
theorem B5.fin (h : B5 H X P1 P2 P3 P4 P5 s u) {Q : Nat} (hQ : Q=P4∨Q=P5) (bQ : X[Q]?=some (.cells u'.cells 1 false false)) (hv : oneCell u'.gv=true) : ∃ X',(bind (ldA 2 (pt P1)) fun y54=>bind (ldA 5 (pt Q)) fun y55=>bind (stA 2 (pt P2) y54) fun _=>bind (ldA 5 (pt Q)) fun u_56=>same u_56 y55 <| bind (stA 5 (pt P3) y55) fun _=>bind (ldA 2 (pt P2)) fun y57=>bind (ldA 5 (pt P3)) fun y58=>ret (Value.tuple #[y57,y58])) X=some (.tuple #[.agg (RR s).toArray,.agg u'.cells.toArray],X')∧HLe H X'∧∀ j,P5 < j→X'[j]?=X[j]?:=by
 have ho:=h.o
 have we:=Kv (vs:=RR s) (n:=2) h.b2 rfl rfl (ZCk _)
 have x1 : ldA 5 (pt Q) X=some (.agg u'.cells.toArray,X):=ZR (n:=5) bQ rfl
 have x2 : ldA 5 (pt Q) (X.set P2 (.cells (RR s) 1 false false))=some (.agg u'.cells.toArray,_):=ZR (n:=5) ((List.getElem?_set_ne (by omega)).trans bQ) rfl
 have c3 : (X.set P2 (.cells (RR s) 1 false false))[P3]?=some (.cells uZ.cells 1 false false):=(List.getElem?_set_ne (by omega)).trans h.b3
 have x3:=Kv (vs:=u'.cells) (n:=5) c3 rfl rfl (Zjj hv)
 have x4 : ldA 2 (pt P2) ((X.set P2 (.cells (RR s) 1 false false)).set P3 (.cells u'.cells 1 false false))=some (.agg (RR s).toArray,_):=ZR (n:=2) ((List.getElem?_set_ne (by omega)).trans (ZM h.b2)) rfl
 have x5 : ldA 5 (pt P3) ((X.set P2 (.cells (RR s) 1 false false)).set P3 (.cells u'.cells 1 false false))=some (.agg u'.cells.toArray,_):=ZR (n:=5) (ZM c3) rfl
 refine ⟨(X.set P2 (.cells (RR s) 1 false false)).set P3 (.cells u'.cells 1 false false),?_,(h.le.put (by omega)).put (by omega),fun j hj=>(List.getElem?_set_ne (by omega)).trans (List.getElem?_set_ne (by omega))⟩
 rw [Za h.d1,Za x1,Za we,Za x2,QY,Za x3,Za x4,Za x5]
 rfl
end
end Go.Proofs.YtedkoimihknggaaGreatDoor.A

namespace Go.Proofs.YtedkoimihknggaaGreatDoor.A
set_option linter.unusedVariables false
set_option maxRecDepth 100000
set_option linter.unusedSimpArgs false
open Go.Proofs Go.Proofs.YtedkoimihknggaaGreatDoor
section
variable {H0 H X X' X0 : Zd} {n p d b P1 P2 P3 : Nat} {v sl gv : Value} {bs : List UInt8} {s : RSt} {q : List Nat} {us : List Zj}
end
end Go.Proofs.YtedkoimihknggaaGreatDoor.A

namespace Go.Proofs.YtedkoimihknggaaGreatDoor.A
set_option linter.unusedVariables false
set_option maxRecDepth 100000
set_option linter.unusedSimpArgs false
open Go.Proofs Go.Proofs.YtedkoimihknggaaGreatDoor
structure Ans (X : Zd) (wv : Value) (r : Nat × (List Tx × List Zaj)) : Prop where
 one : ∃ uv gv,wv=.agg #[uv,gv]∧oneCell uv=true∧oneCell gv=true
 ok : r.1=0→∃ uv gv us,wv=.agg #[uv,gv]∧Qh X uv us∧us.map ZQ=r.2.2∧Sl X gv (r.2.1.map strv)
theorem Ans.no {X : Zd} {r : Nat × (List Tx × List Zaj)} (h : r.1≠0) : Ans X (.agg #[.slice none 0 0,.slice none 0 0]) r:=⟨⟨_,_,rfl,rfl,rfl⟩,fun h0=>absurd h0 h⟩
section
variable {H0 H X X' X0 : Zd} {n p d b p2 p4 p5 : Nat} {v sl gv : Value} {bs : List UInt8} {s : RSt} {q : List Nat} {us : List Zj}
end
end Go.Proofs.YtedkoimihknggaaGreatDoor.A

namespace Go.Proofs.YtedkoimihknggaaGreatDoor.A
set_option linter.unusedVariables false
set_option linter.unusedSimpArgs false
open Go.Proofs Go.Proofs.YtedkoimihknggaaGreatDoor
section
variable {X X' H H0 : Zd} {n d c w : Nat} {r : NR} {uv gv sl : Value} {s : NSt} {u : Zam} {ac : List Zam}
theorem ZCv (K : Value→Value→A.M Value) : ∃ X' d r w,bind (R (n+12) Zal []) (fun v=>bind (alc 1 zD) fun b=>K v b) X=K (pt d) (pt w) X'∧NL X X' d r ⟨[],[],[],[],fun _ _=>false⟩ (.slice none 0 0) (.slice none 0 0) w 0∧X.length≤w:=by
 obtain ⟨X1,d,r,e1,D1,l1,o1,o2⟩:=ZxZ (n:=n+10) (X:=X)
 have e1 : R (n+12) Zal [] X=_:=e1
 have z3 : alc 1 zD X1=some (pt X1.length,X1++[.cells [.slice none 0 0,.slice none 0 0] 1 false false]):=Wd (vs:=[.slice none 0 0,.slice none 0 0]) rfl
 have k3 : HLe X1 (X1++[Ze.cells [.slice none 0 0,.slice none 0 0] 1 false false]):=.app _ _
 have c3 : (X1++[Ze.cells [.slice none 0 0,.slice none 0 0] 1 false false])[X1.length]?=some (.cells [.slice none 0 0,.slice none 0 0] 1 false false):=Zw
 refine ⟨_,d,r,X1.length,?_,⟨l1.trans k3,D1.hle k3,⟨⟨[],⟨SlN.nil,by simp⟩,⟨List.Pairwise.nil,fun key=>?_⟩⟩,⟨[],[],ZA.nil,⟨List.Pairwise.nil,by simp⟩⟩⟩,o2,c3⟩,l1.len⟩
 ·rw [Za e1,Za z3]
 ·unfold ZN
  simp [Zf]
end
end Go.Proofs.YtedkoimihknggaaGreatDoor.A

namespace Go.Proofs.YtedkoimihknggaaGreatDoor.A
set_option linter.unusedVariables false
set_option maxRecDepth 100000
set_option linter.unusedSimpArgs false
open Go.Proofs Go.Proofs.YtedkoimihknggaaGreatDoor
section
variable {X X' H H0 : Zd} {n d c w : Nat} {r : NR} {uv gv sl : Value} {s : NSt} {u : Zam} {ac : List Zam}
end
end Go.Proofs.YtedkoimihknggaaGreatDoor.A

namespace Go.Proofs.YtedkoimihknggaaGreatDoor.A
set_option linter.unusedVariables false
set_option maxRecDepth 100000
set_option linter.unusedSimpArgs false
open Go.Proofs Go.Proofs.YtedkoimihknggaaGreatDoor
section
variable {X X' H H0 : Zd} {n d : Nat} {a : Value} {bs : List UInt8}
end
end Go.Proofs.YtedkoimihknggaaGreatDoor.A

namespace Go.Proofs.YtedkoimihknggaaGreatDoor.A
set_option linter.unusedVariables false
set_option linter.unusedSimpArgs false
open Go.Proofs Go.Proofs.YtedkoimihknggaaGreatDoor
def kOf (e : Ent) : Zaj:=(e.1,e.2,[],false,[])
section
variable {X X' H H0 : Zd} {n d b : Nat} {v sl gv : Value} {m : List Ent} {e : Ent} {q : List Nat}
theorem Zw0 (h : ZcL e=0) : JO (WC e)=0:=by
 have h1 : Zp e.1=true∧YR e.2=true:=by
  unfold ZcL at h
  cases h2 : Zp e.1 with
  | false=>rw [h2] at h;simp at h
  | true=>
   cases h3 : YR e.2 with
   | false=>rw [h2,h3] at h;simp at h
   | true=>exact ⟨rfl,rfl⟩
 unfold JO WC
 rw [h1.1,h1.2]
 rfl
theorem Znx : ∀ {us : List Zj},(∀ u∈us,JO u=0)→Yu us=0
 | [],_=>rfl
 | u :: us,h=>by
  unfold Yu
  rw [h u (by simp),if_pos rfl]
  exact Znx fun w hw=>h w (by simp [hw])
theorem ZC4 (hE : ∀ e∈m,ZcL e=0) (hR : Kh (m.map (·.1))=true) (hn : m.length≤12) : ZbM (m.map WC) []=0:=by
 have h1 : Yu (m.map WC)=0:=Znx fun u hu=>by
  obtain ⟨e,he,rfl⟩:=List.mem_map.1 hu
  exact Zw0 (hE e he)
 have h2 : (m.map WC).map (·.nm)=m.map (·.1):=by rw [List.map_map];rfl
 have h3 : Zjg (m.map WC)=0:=by
  unfold Zjg
  rw [if_pos h1,h2,hR,List.length_map,if_pos rfl,if_neg (show ¬ 12 < m.length by omega)]
 have h4 : Zdj (m.map WC) []=0:=by
  unfold Zdj
  rw [if_pos h3]
  rfl
 unfold ZbM
 rw [if_pos h4]
 refine ZqS fun i u hu=>?_
 obtain ⟨e,_,rfl⟩:=List.mem_map.1 (List.mem_of_getElem? hu)
 unfold ZeR
 rw [if_pos (by rfl),if_neg (fun h=>h.1 rfl)]
theorem Zzh : ∃ X',R (n+1) ZjA [.agg (usr e).toArray] X=some (.agg (usr e).toArray,X')∧HLe X X':=by
 have z1 : alc 1 (.agg (usr e).toArray) X=some (pt X.length,X++[.cells (usr e) 1 false false]):=bx (vs:=usr e) rfl
 have k1 : HLe X (X++[Ze.cells (usr e) 1 false false]):=.app _ _
 have g1 : (X++[Ze.cells (usr e) 1 false false])[X.length]?=some (.cells (usr e) 1 false false):=Zw
 generalize X++[Ze.cells (usr e) 1 false false]=X1 at z1 k1 g1
 have z2 : alc 1 zU X1=some (pt X1.length,X1++[.cells (usr ([],[])) 1 false false]):=bx (vs:=usr ([],[])) rfl
 have k2 : HLe X1 (X1++[Ze.cells (usr ([],[])) 1 false false]):=.app _ _
 have g2 : (X1++[Ze.cells (usr ([],[])) 1 false false])[X1.length]?=some (.cells (usr ([],[])) 1 false false):=Zw
 have g1':=k2 _ _ g1
 have hl:=k1.len
 generalize X1++[Ze.cells (usr ([],[])) 1 false false]=X2 at z2 k2 g2 g1'
 have a0 : ld1 (pa X.length 0) X2=some (strv e.1,X2):=Zv g1' rfl
 have a1 : ld1 (pa X.length 1) X2=some (strv e.2,X2):=Zv g1' rfl
 have zb:=Zmy (k:=e.1) (s:=e.2) (H:=X2)
 refine ⟨X2.set X1.length (.cells (usr e) 1 false false),?_,(k1.trans k2).put hl⟩
 rw [R,Zxj rfl]
 unfold ZnY
 rw [Za z1,Za z2,Za Zh,Za a0,Za Zh,Za a1,Za zb]
 exact ZAy (vs:=usr e) g2 rfl rfl rfl
theorem ZCF {rows : List (List Value)} {r : List Value} (hr : Qu 5 X sl rows q) (hn : rows.length≤1000) (h5 : r.length=5) (h1 : r.all oneCell=true) : ∃ w X1 sl' X2 q',bsl 5 1 zU [(0,5,.agg r.toArray)] X=some (w,X1)∧app 5 80 sl w X1=some (sl',X2)∧Qu 5 X2 sl' (rows++[r]) q'∧ZC q X q' X2:=by
 have x4:=ZmB (es:=5) (z:=zU) (H:=X) rfl h5 h1
 have l1 : HLe X (X++[Ze.cells r 5 false false]):=.app _ _
 have s1 : SlN 5 (X++[Ze.cells r 5 false false]) (.slice (some ⟨X.length,0,none⟩) 1 1) [r]:=SlN.whole (rows:=[r]) (c:=1) (e:=5) (g:=false) (ro:=false) (by rw [Zw];simp) (by simpa using h5)
 generalize X++[Ze.cells r 5 false false]=X1 at x4 l1 s1
 obtain ⟨sl',X2,q',x5,hn2,s2⟩:=(hr.step l1.step (by simp)).push (b:=80) s1 h5 (by omega) (by omega)
 exact ⟨_,X1,sl',X2,q',x4,x5,hn2,l1.stepq.trans s2⟩
theorem ZAj (hn : m.length≤100) (hs : SlN 5 H0 v (m.map usr)) : ∀ (t j : Nat) (sl : Value) (q : List Nat) (X : Zd),m.length - j=t→j≤m.length→HLe H0 X→(∀ i∈q,H0.length≤i)→Qu 5 X sl ((m.take j).map usr) q→
  ∃ X' sl' q',Zi (c4 (WN.l1 (R (n+1)))) [sl,v,iv m.length,iv j] X=some (.ext 0 [sl'],X')∧Qu 5 X' sl' (m.map usr) q'∧HLe H0 X'∧∀ i∈q',H0.length≤i
 | 0,j,sl,q,X,ht,hj,hle,hq,hr=>by
  have hj : j=m.length:=by omega
  subst hj
  rw [List.take_length] at hr
  refine ⟨X,sl,q,ZK ?_,hr,hle,hq⟩
  rw [ZI]
  unfold WN.l1
  rw [Za Zm,Zb,if_neg (by simp)]
  rfl
 | t+1,j,sl,q,X,ht,hj,hle,hq,hr=>by
  have hkl : j < m.length:=by omega
  have hlt : (j : Int) < m.length:=by omega
  have hg:=List.getElem?_eq_getElem hkl
  have htk : m.take (j+1)=m.take j++[m[j]]:=by rw [List.take_add_one,hg];rfl
  generalize m[j]=e at hg htk
  have hf:=fun {K : Value→A.M Out}=>(hs.mono hle).fetch (k:=K) (r:=usr e) (i:=j) (by rw [List.getElem?_map,hg];rfl) (by omega) .i64
  have z4 : ∀ K : Value→A.M Out,bind (alc 1 zU) (fun q=>bind (stA 5 q (.agg (usr e).toArray)) fun _=>K q) X=K (pt X.length) (X++[.cells (usr e) 1 false false]):=fun K=>WZ (n:=5) (zs:=usr ([],[])) (r:=usr e) rfl rfl rfl rfl
  have k1 : HLe X (X++[Ze.cells (usr e) 1 false false]):=.app _ _
  have g1 : (X++[Ze.cells (usr e) 1 false false])[X.length]?=some (.cells (usr e) 1 false false):=Zw
  generalize X++[Ze.cells (usr e) 1 false false]=X1 at z4 k1 g1
  have d1 : ldA 5 (pt X.length) X1=some (.agg (usr e).toArray,X1):=ZR (n:=5) g1 rfl
  obtain ⟨X2,e2,k2⟩:=Zzh (n:=n) (e:=e) (X:=X1)
  have hr2:=hr.step (k1.trans k2).step (by simp)
  obtain ⟨w,X3,sl',X4,q',e3,e4,r4,s4⟩:=ZCF (r:=usr e) hr2 (by rw [List.length_map,List.length_take];omega) rfl rfl
  have hm:=(hle.trans (k1.trans k2)).more s4 hq
  rw [← List.map_singleton (f:=usr),← List.map_append,← htk] at r4
  obtain ⟨X5,sl5,q5,e5,r5,k5,o5⟩:=ZAj hn hs t (j+1) sl' q' X4 (by omega) (by omega) hm.1 hm.2 r4
  refine ⟨X5,sl5,q5,(Zy ?_).trans e5,r5,k5,o5⟩
  rw [ZI]
  unfold WN.l1
  rw [Za Zm,Zb,if_pos (by simpa using hlt),hf,z4,Za d1,Za e2,Za e3,Za e4,Za ZB,Qg (by omega)]
  rfl
theorem Zwv {m : J4} (h : Dir X d b m) (hE : ∀ e∈Zci m,ZcL e=0) (hR : Kh ((Zci m).map (·.1))=true) (hn : (Zci m).length≤12) : ∃ X' d' r s c,R (n+13) K0 [pt d] X=some (pt d',X')∧HLe X X'∧OfS X X' d' r s c [] ((Zci m).map WC):=by
 obtain ⟨v,q,X1,e1,r1,k1,o1⟩:=Ztd (n:=n+9) h
 have e1 : R (n+12) KB [pt d] X=_:=e1
 have hl : Zx v X1=some (iv (Zci m).length,X1):=by have:=r1.rd.len (H':=X1);rwa [List.length_map] at this
 obtain ⟨X2,sl,q2,e2,r2,k2,o2⟩:=ZAj (n:=n+11) (H0:=X1) (by omega) r1.rd (Zci m).length 0 (.slice none 0 0) [] X1 (by omega) (by omega) (.refl _) (by simp) Qu.nil
 have e2 : Zi (c4 (WN.l1 (R (n+12)))) [.slice none 0 0,v,iv (Zci m).length,.int .i64 0] X1=_:=e2
 obtain ⟨X3,k3,h3⟩:=Zyx (n:=n) (us:=(Zci m).map WC) (gs:=[]) (by rw [List.length_map];omega) (by simp) r2.us (ZA.nil (H:=X2)).rd
 rw [if_pos (ZC4 hE hR hn)] at h3
 obtain ⟨d',r,s,c,e3,hS⟩:=h3
 have hle:=(k1.trans k2).trans k3
 refine ⟨X3,d',r,s,c,?_,hle,⟨hle,hS.nd,fun i hi=>Nat.le_trans (k1.trans k2).len (hS.own i hi),hS.K,hS.ok⟩⟩
 rw [R,Zr5 rfl]
 unfold WN
 have q0 : bop .ptr .eql (pt d) (.pointer none) X=some (.bool false,X):=Ju
 rw [Za q0,Zb,if_neg (by simp),Za e1,Za hl,ZT e2,ZE,YC,Za e3,Za Zr,Za Zs]
 rfl
theorem Zt7 {r : NR} {s : NSt} {c d' : Nat} (hS : OfS X X' d' r s c [] (m.map WC)) : Zhs (Qx s.K) (A.allK s)=Zhs [] (m.map kOf):=by
 have h1 : Qx s.K=[]:=by rw [hS.K];exact List.eq_nil_of_length_eq_zero (by rw [Zat];rfl)
 have h2:=hS.ok.all hS.nd.pinv.n
 rw [h1,← h2,List.map_map]
 rfl
end
end Go.Proofs.YtedkoimihknggaaGreatDoor.A

namespace Go.Proofs.YtedkoimihknggaaGreatDoor.A
set_option linter.unusedVariables false
set_option linter.unusedSimpArgs false
open Go.Proofs Go.Proofs.YtedkoimihknggaaGreatDoor
section
variable {X X' H H0 : Zd} {n d b : Nat} {v sl gv bv : Value} {m : List Ent} {e : Ent} {q : List Nat} {bs : List UInt8}
theorem ZrI (hR : ZeO m) : Kh (m.map (·.1))=true:=ZfA (List.pairwise_map.2 hR)
theorem Zu4 (hs : Sl X bv (u8s bs)) (hb : bs.length≤100000000) (h2 : schemaS bs≠2) (h0 : (Zdn bs).1=0) : ∃ v X',R (n+14) Zdw [bv] X=some (.tuple #[v,iv 0],X')∧HLe X X'∧Sl X' v (u8s (Zhs [] ((Zdn bs).2.map kOf))):=by
 have e0 : R (n+13) Zc7 [bv] X=some (iv (schemaS bs),X):=Zz2 (n:=n+12) hs hb
 have q0 : bop .int .eql (iv (schemaS bs)) (.int .i64 2) X=some (.bool (decide (schemaS bs=2)),X):=by
  rw [ZD,show ((schemaS bs : Int)==2)=decide (schemaS bs=2) from by rw [Bool.eq_iff_iff,decide_eq_true_eq,beq_iff_eq];omega]
 rw [decide_eq_false h2] at q0
 obtain ⟨dv,X1,e1,k1,hz,hok⟩:=Zw4 (n:=n+5) hs hb
 have e1 : R (n+13) Zcg [bv] X=_:=e1
 have q1 : bop .int .neq (iv (Zdn bs).1) (.int .i64 0) X1=some (.bool ((Zdn bs).1 !=0),X1):=by rw [Zq,ZtM]
 obtain ⟨d,b,rfl,D,R1,hof⟩:=hok h0
 have hss:=ZrP D.g.nod R1
 obtain ⟨g1,g2⟩:=ZCP hof
 obtain ⟨X2,d',r,s,c,e2,k2,hS⟩:=Zwv (n:=n) D (by rw [hss];exact g1) (by rw [hss];exact ZrI R1) (by rw [hss];exact g2)
 rw [hss] at hS
 obtain ⟨w,q,X3,e3,r3,k3,_⟩:=Zhj (n:=n+1) hS.nd
 have e3 : R (n+13) QQ [pt d'] X2=_:=e3
 rw [Zt7 hS] at r3
 refine ⟨w,X3,?_,(k1.trans k2).trans k3,r3.rd⟩
 rw [R,ZoG rfl]
 unfold Zfw
 rw [Za e0,Za q0,Zb,if_neg (by simp),Za e1,Za Zr,Za Zs,Za q1,Zb,if_neg (by simp [h0]),Za e2,Za e3]
 rfl
end
end Go.Proofs.YtedkoimihknggaaGreatDoor.A

namespace Go.Proofs.YtedkoimihknggaaGreatDoor.A
set_option linter.unusedVariables false
set_option linter.unusedSimpArgs false
open Go.Proofs Go.Proofs.YtedkoimihknggaaGreatDoor
def GS (H : Zd) (gv : Value) (gs : List Tx) : Prop:=Sl H gv (gs.map strv)∧oneCell gv=true
def ZbU (H : Zd) (sl : Value) (us : List Zj) : Prop:=SlN 5 H sl (us.map Zj.cells)∧∀ u∈us,GS H u.gv u.gs
section
variable {H H' X : Zd} {gv sl : Value} {gs : List Tx} {us : List Zj}
theorem GS.mono (h : GS H gv gs) (hl : HLe H H') : GS H' gv gs:=⟨h.1.mono hl,h.2⟩
theorem GS.len (h : GS H gv gs) : Zx gv H'=some (iv gs.length,H'):=by have:=h.1.len (H':=H');rwa [List.length_map] at this
theorem GS.one (h : GS H gv gs) : oneCell gv=true:=h.2
theorem ZbU.mono (h : ZbU H sl us) (hl : HLe H H') : ZbU H' sl us:=⟨h.1.mono hl,fun u hu=>(h.2 u hu).mono hl⟩
theorem ZbU.len (h : ZbU H sl us) : Zx sl H'=some (iv us.length,H'):=by have:=h.1.len (H':=H');rwa [List.length_map] at this
theorem ZbU.fetch {β : Type} {k : Value→M β} (h : ZbU H sl us) {j : Nat} {u : Zj} (hj : us[j]?=some u) :
  bind (ixa 5 sl (iv j)) (fun p=>bind (ldA 5 p) fun v=>bind (alc 1 (.agg #[.string ⟨#[]⟩,.string ⟨#[]⟩,.string ⟨#[]⟩,.bool false,.slice none 0 0])) fun q=>bind (stA 5 q v) fun _=>k q) H=k (pt H.length) (H++[.cells u.cells 1 false false]):=by
 have hr : (us.map Zj.cells)[j]?=some u.cells:=by rw [List.getElem?_map,hj];rfl
 rw [h.1.fetch hr (by omega) .i64]
 exact WZ (n:=5) (zs:=[.string ⟨#[]⟩,.string ⟨#[]⟩,.string ⟨#[]⟩,.bool false,.slice none 0 0]) (r:=u.cells) rfl rfl rfl (Zjj (h.2 u (List.mem_of_getElem? hj)).2)
end
section
variable {H0 H X : Zd} {n p d b : Nat} {u : Zj} {us : List Zj} {sl dv : Value}
theorem ZwW {β : Type} {K : Value→M β} (hc : X[p]?=some (.cells u.cells 1 false false)) (hg : GS X u.gv u.gs) :
  bind (bop .str .neq (strv u.ml) (.string ⟨#[]⟩)) (fun v35=>bind (ZG v35 false 2 (bind (fa 3 (pt p)) fun a=>bind (ld1 a) fun b=>ret [a,b])) (c2 fun _ q=>bind (pick v35 (Value.bool true) q) fun v39=>bind (ZG v39 false 4 (bind (fa 4 (pt p)) fun a=>bind (ld1 a) fun b=>bind (Zx b) fun c=>bind (bop .int .gtr c (Value.int .i64 0)) fun d=>ret [a,b,c,d])) (c4 fun _ _ _ q=>bind (pick v39 (Value.bool true) q) K))) X=K (.bool (!ZdL u)) X:=by
 have a0 : ∀ f x,u.cells[f]?=some x→ld1 (pa p f) X=some (x,X):=fun f x h=>Zv hc h
 have q1 : bop .str .neq (strv u.ml) (.string ⟨#[]⟩) X=some (.bool (!(u.ml==[])),X):=Wt (b:=[])
 have hl : decide ((u.gs.length : Int) > 0)=!decide (u.gs.length=0):=by by_cases h : u.gs.length=0 <;> simp [h] <;> omega
 unfold ZdL
 rw [Za q1]
 cases u.ml==[]
 ·simp only [Bool.not_false]
  rw [Za (g_r.trans (if_neg (by simp)))]
  simp only [List.replicate]
  rw [ZX,Za Zl]
  simp only [cond_true]
  rw [Za (g_r.trans (if_neg (by simp)))]
  simp only [List.replicate]
  rw [ZI,Za Zl]
  rfl
 ·simp only [Bool.not_true]
  rw [ZU,Zk,Za Zh,Zk,Za (a0 3 _ rfl),ZV,ZX,Za Zl]
  simp only [cond_false]
  cases u.ds
  ·rw [ZU,Zk,Za Zh,Zk,Za (a0 4 _ rfl),Zk,Za hg.len,Zk,Za Z0,ZV,ZI,Za Zl,hl]
   simp
  ·rw [Za (g_r.trans (if_neg (by simp)))]
   simp only [List.replicate]
   rw [ZI,Za Zl]
   rfl
theorem ZuE (h : GS X u.gv u.gs) : ∃ X',R (n+6) Yq [iv 1,.agg u.cells.toArray] X=some (iv (Za5 u),X')∧HLe X X':=by
 have e1:=ZlS (X:=X) h.2
 have k1 : HLe X (X++[.cells u.cells 1 false false]):=.app _ _
 have c1 : (X++[Ze.cells u.cells 1 false false])[X.length]?=some (.cells u.cells 1 false false):=Zw
 generalize X++[Ze.cells u.cells 1 false false]=X1 at e1 k1 c1
 generalize X.length=p at e1 c1
 have a0 : ∀ f x,u.cells[f]?=some x→ld1 (pa p f) X1=some (x,X1):=fun f x h=>Zv c1 h
 have e2 : run Tryz.prog np lvs (n+5) QZ [strv u.nm] X1=some (iv (ZJ u.nm),X1):=ZcB
 have e3 : run Tryz.prog np lvs (n+5) WH [strv u.hs] X1=some (iv (Qt u.hs),X1):=Zmz (n:=n+1)
 have e4:=ZsR (a:=ZJ u.nm) (c:=Qt u.hs) X1
 have k2 : HLe X1 (X1++[.cells [iv (ZJ u.nm),iv (Qt u.hs)] 1 false false]):=.app _ _
 have s4 : Sl (X1++[.cells [iv (ZJ u.nm),iv (Qt u.hs)] 1 false false]) (.slice (some ⟨X1.length,0,none⟩) 2 2) [iv (ZJ u.nm),iv (Qt u.hs)]:=Sl.one (c:=2) Zw
 generalize X1++[Ze.cells [iv (ZJ u.nm),iv (Qt u.hs)] 1 false false]=X2 at e4 k2 s4
 generalize (Value.slice (some ⟨X1.length,0,none⟩) 2 2)=sv at e4 s4
 have e5 : run Tryz.prog np lvs (n+5) WK [sv] X2=_:=Zmr s4
 have c2:=k2 _ _ c1
 have hg : GS X2 u.gv u.gs:=GS.mono (GS.mono h k1) k2
 have b0 : ∀ f x,u.cells[f]?=some x→ld1 (pa p f) X2=some (x,X2):=fun f x h=>Zv c2 h
 have q1 : bop .int .neq (iv 1) (.int .i64 1) X1=some (.bool false,X1):=by rw [Zq];rfl
 have q2 : bop .int .eql (iv 1) (.int .i64 2) X2=some (.bool false,X2):=by rw [ZD];rfl
 refine ⟨X2,?_,k1.trans k2⟩
 rw [R,Zgn rfl]
 unfold Zax
 rw [Za e1,Za q1,Za (g_r.trans (if_neg (by simp)))]
 simp only [List.replicate]
 rw [ZX,Za Zl]
 simp only [cond_false]
 rw [Zb,if_neg (by simp),Za Zh,Za (a0 0 _ rfl),Za Zh,Za (a0 1 _ rfl),Za e2,Za (a0 1 _ rfl),QY,Za e3,Za e4,Za e5,Za Zq]
 unfold Za5
 cases hn : Zp u.nm
 ·have : ZJ u.nm=10:=by unfold ZJ;rw [hn];rfl
  rw [this]
  simp [Zb,ret]
 ·have h0 : ZJ u.nm=0:=Zdd.2 hn
  rw [h0]
  cases hs : YR u.hs
  ·have : Qt u.hs=4:=by unfold Qt;rw [hs];rfl
   rw [this]
   simp [Zb,ret]
  ·have h1 : Qt u.hs=0:=Zof.2 hs
   rw [h1]
   simp only [if_true]
   rw [Zb,if_neg (by simp),Za q2,Zb,if_neg (by simp),Za Zh,Za (b0 2 _ rfl)]
   refine (ZwW c2 hg).trans ?_
   cases ZdL u
   ·simp [Zb,ret]
   ·simp [Zb,ret]
theorem Zv7 (hn : us.length≤1000) (hA : ZbU H0 sl us) : ∀ (t k : Nat) (X : Zd),us.length - k=t→k≤us.length→HLe H0 X→
  ∃ X',Zi (c5 (Z6.l1 (R (n+6)))) [sl,dv,sl,iv us.length,iv k] X=some (if Wv (us.drop k)=0 then .ext 0 [sl,dv] else .ret (.tuple #[.pointer none,iv (Wv (us.drop k))]),X')∧HLe H0 X'
 | 0,k,X,ht,hk,hle=>by
  have : k=us.length:=by omega
  subst this
  rw [List.drop_length]
  refine ⟨X,ZK ?_,hle⟩
  rw [Qc]
  unfold Z6.l1
  rw [Za Zm,Zb,if_neg (by simp)]
  rfl
 | t+1,k,X,ht,hk,hle=>by
  have hkl : k < us.length:=by omega
  have hlt : (k : Int) < us.length:=by omega
  have hg:=List.getElem?_eq_getElem hkl
  have hd:=List.drop_eq_getElem_cons hkl
  generalize us[k]=u at hg hd
  have hf:=fun {K : Value→M Out}=>(hA.mono hle).fetch (k:=K) hg
  have hok:=(hA.mono hle).2 u (List.mem_of_getElem? hg)
  have g1 : (X++[Ze.cells u.cells 1 false false])[X.length]?=some (.cells u.cells 1 false false):=Zw
  have k1 : HLe X (X++[Ze.cells u.cells 1 false false]):=.app _ _
  generalize X++[Ze.cells u.cells 1 false false]=X1 at g1 k1 hf
  have e1 : ldA 5 (pt X.length) X1=some (.agg u.cells.toArray,X1):=ZR (n:=5) g1 rfl
  obtain ⟨X2,e2,k2⟩:=ZuE (n:=n) (u:=u) (X:=X1) (hok.mono k1)
  have hb : c5 (Z6.l1 (R (n+6))) [sl,dv,sl,iv us.length,iv k] X=some (if Za5 u=0 then .nrm [sl,dv,sl,iv us.length,iv ((k+1 : Nat) : Int)] else .ret (.tuple #[.pointer none,iv (Za5 u)]),X2):=by
   rw [Qc]
   unfold Z6.l1
   have e2 : R (n+6) Yq [.int .i64 1,.agg u.cells.toArray] X1=_:=e2
   rw [Za Zm,Zb,if_pos (by simpa using hlt),hf,Za e1,Za e2,Za Zq,Zb]
   by_cases h : Za5 u=0
   ·rw [if_neg (by simp [h]),if_pos h,Za ZB,Qg (by omega)];rfl
   ·rw [if_pos (by simp [h]),if_neg h];rfl
  rw [hd]
  unfold Wv
  by_cases h : Za5 u=0
  ·rw [if_pos h] at hb
   simp only [if_pos h]
   obtain ⟨X3,e3,k3⟩:=Zv7 hn hA t (k+1) X2 (by omega) (by omega) (hle.trans (k1.trans k2))
   exact ⟨X3,(Zy hb).trans e3,k3⟩
  ·rw [if_neg h] at hb
   simp only [if_neg h]
   exact ⟨X2,QE hb,hle.trans (k1.trans k2)⟩
theorem ZbU.nmAt (hA : ZbU X sl us) {i : Nat} (hi : us[i]?=some u) : ∃ id o,ixa 5 sl (iv i) X=some (pa id o,X)∧ld1 (pa id (o+0)) X=some (strv u.nm,X):=by
 obtain ⟨id,o,cs,e,g,ro,e1,e2,e3,e4,_⟩:=hA.1.at (i:=i) (r:=u.cells) (by rw [List.getElem?_map,hi];rfl) (by omega) .i64
 refine ⟨id,o,e1 X,?_⟩
 rw [Qq,e2,Jn]
 have : cs[o+0]?=some (strv u.nm):=by
  have h0 : ((cs.drop o).take 5)[0]?=some (strv u.nm):=by rw [e3];rfl
  rw [List.getElem?_take,if_pos (by omega),List.getElem?_drop] at h0
  exact h0
 rw [this];rfl
theorem Zv4 (hn : us.length≤1000) (hA : ZbU H0 sl us) (hb : H0.length≤b) : ∀ (t k : Nat) (m : J4) (X : Zd),us.length - k=t→k≤us.length→HLe H0 X→X[d]?=some (.cells [.map (some b)] 1 false false)→JH strv X b m→Zo7 m (Zbn us k)→d≠b→
  ∃ X',Zi (c5 (Z6.l2 (R (n+6)))) [sl,pt d,sl,iv us.length,iv k] X=some (if Zbo (Zbn us k) (us.drop k) then .ext 2 [sl,pt d] else .ret (.tuple #[.pointer none,iv 9]),X')∧HLe H0 X'∧
   (Zbo (Zbn us k) (us.drop k)=true→X'[d]?=some (.cells [.map (some b)] 1 false false)∧JH strv X' b (m++(us.drop k).map ZcN)∧ZeO (m++(us.drop k).map ZcN))
 | 0,k,m,X,ht,hk,hle,hc,hm,hL,hdb=>by
  have : k=us.length:=by omega
  subst this
  rw [List.drop_length]
  refine ⟨X,ZK ?_,hle,fun _=>⟨hc,by simpa using hm,by simpa using hL.1⟩⟩
  rw [Qc]
  unfold Z6.l2
  rw [Za Zm,Zb,if_neg (by simp)]
  rfl
 | t+1,k,m,X,ht,hk,hle,hc,hm,hL,hdb=>by
  have hkl : k < us.length:=by omega
  have hlt : (k : Int) < us.length:=by omega
  have hg:=List.getElem?_eq_getElem hkl
  have hd:=List.drop_eq_getElem_cons hkl
  generalize us[k]=u at hg hd
  have hf:=fun {K : Value→M Out}=>(hA.mono hle).fetch (k:=K) hg
  have g1 : (X++[Ze.cells u.cells 1 false false])[X.length]?=some (.cells u.cells 1 false false):=Zw
  have k1 : HLe X (X++[Ze.cells u.cells 1 false false]):=.app _ _
  generalize X++[Ze.cells u.cells 1 false false]=X1 at g1 k1 hf
  generalize X.length=p at g1 hf
  have a0 : ∀ f x,u.cells[f]?=some x→ld1 (pa p f) X1=some (x,X1):=fun f x h=>Zv g1 h
  have hA1:=(hA.mono hle).mono k1
  have hcmp : ∀ K : Value→M Out,
    bind (bop .int .gtr (iv k) (Value.int .i64 0)) (fun v31x18=>bind (Zg v31x18 true (ret sl)) fun v33x19=>bind (Zg v31x18 true (ret (iv k))) fun v34x20=>bind (Zg v31x18 true (bop .int .sub v34x20 (Value.int .i64 1))) fun v35x21=>bind (Zg v31x18 true (ixa 5 v33x19 v35x21)) fun v36x22=>bind (Zg v31x18 true (fa 0 v36x22)) fun v37x23=>bind (Zg v31x18 true (ld1 v37x23)) fun v38x24=>bind (Zg v31x18 true (fa 0 (pt p))) fun v39x25=>bind (Zg v31x18 true (ld1 v39x25)) fun v40x26=>bind (Zg v31x18 true (R (n+6) Qv [v38x24,v40x26])) fun v41x27=>bind (Zg v31x18 true (bop .int .geq v41x27 (Value.int .i64 0))) fun v42x28=>bind (pick v31x18 v42x28 (Value.bool false)) K) X1=K (.bool (!upB (Zbn us k) u)) X1:=fun K=>by
   by_cases h0 : k=0
   ·subst h0
    have q1 : bop .int .gtr (iv (0 : Nat)) (Value.int .i64 0) X1=some (.bool false,X1):=by rw [Z0];rfl
    rw [Za q1]
    iterate 10 rw [ZuD (by rfl)]
    rw [Za Zl]
    rfl
   ·have q1 : bop .int .gtr (iv k) (Value.int .i64 0) X1=some (.bool true,X1):=by rw [Z0,decide_eq_true (by omega)]
    obtain ⟨v,hv⟩ : ∃ v,us[k - 1]?=some v:=⟨_,List.getElem?_eq_getElem (by omega)⟩
    obtain ⟨id,o,x1,x2⟩:=hA1.nmAt hv
    have e3 : R (n+6) Qv [strv v.nm,strv u.nm] X1=_:=Zlw (n:=n+3)
    have hp : upB (Zbn us k) u=decide (v.nm < u.nm):=by unfold Zbn upB;rw [if_neg h0,hv];rfl
    rw [Za q1,Qr,ZV,Qr,ZV,Qr,Za QU,Zqa (by omega) (by omega),Qr,Za x1,Qr,Za Ys,Qr,Za x2,Qr,Za Zh,Qr,Za (a0 0 _ rfl),Qr,Za e3,Qr,Za Qj,ZqU,Za Zl,hp]
    rfl
  rw [hd,ZfO]
  cases hup : upB (Zbn us k) u
  ·rw [hup] at hcmp
   refine ⟨X1,QE ?_,hle.trans k1,fun h=>by cases h⟩
   rw [Qc]
   unfold Z6.l2
   rw [Za Zm,Zb,if_pos (by simpa using hlt),hf]
   refine (hcmp _).trans ?_
   rw [Zb,if_pos (by rfl)]
   rfl
  ·rw [hup] at hcmp
   obtain ⟨hput,hL2⟩:=hL.put hup
   have hm1:=hm.hle k1
   obtain ⟨X2,e2,m2,s2,_⟩:=hm1.mup (k:=u.nm) (v:=u.hs)
   rw [hput] at m2
   have hc2:=s2.get (k1 _ _ hc) (by simp [hdb])
   have hle2:=(hle.trans k1).more s2 (by simpa using hb)
   obtain ⟨X3,e3,k3,h3⟩:=Zv4 hn hA hb t (k+1) _ X2 (by omega) (by omega) hle2.1 hc2 m2 (by rw [ZgX hg];exact hL2) hdb
   rw [ZgX hg] at e3 h3
   refine ⟨X3,(Zy ?_).trans e3,k3,fun h=>by simpa using h3 (by simpa using h)⟩
   rw [Qc]
   unfold Z6.l2
   rw [Za Zm,Zb,if_pos (by simpa using hlt),hf]
   refine (hcmp _).trans ?_
   rw [Zb,if_neg (by simp),Za Zt,Za Zh,Za (Zft (k1 _ _ hc)),Za Zh,Za (a0 0 _ rfl),Za Zh,Za (a0 1 _ rfl),Za e2,Za ZB,Qg (by omega)]
   rfl
theorem ZCZ (hn : us.length≤1000) (hA : ZbU X sl us) : ∃ X' dv,R (n+7) WT [sl] X=some (.tuple #[dv,iv (ofE us)],X')∧HLe X X'∧
  (ofE us≠0→dv=.pointer none)∧(ofE us=0→∃ d b,dv=pt d∧Dir X' d b (us.map ZcN)∧ZeO (us.map ZcN)∧X.length≤d∧X.length≤b):=by
 obtain ⟨X0,d,b,e0,D0,k0,o1,o2⟩:=Zue (n:=n+5) (H:=X)
 have e0 : R (n+6) Zcd [] X=_:=e0
 have hA0:=hA.mono k0
 obtain ⟨X1,e1,k1⟩:=Zv7 (n:=n) (dv:=pt d) hn hA0 us.length 0 X0 (by omega) (by omega) (.refl _)
 rw [List.drop_zero] at e1
 have e1 : Zi (c5 (Z6.l1 (R (n+6)))) [sl,pt d,sl,iv us.length,.int .i64 0] X0=_:=e1
 have f1 : ∀ r X',Z6 (R (n+6)) sl X=some (r,X')→R (n+7) WT [sl] X=some (r,X'):=fun r X' hr=>by rw [R,Znz rfl];exact hr
 have D1:=D0.hle k1
 unfold ofE
 by_cases h1 : Wv us=0
 ·rw [if_pos h1] at e1
  rw [if_pos h1]
  obtain ⟨X2,e2,k2,h2⟩:=Zv4 (n:=n) hn hA o2 us.length 0 [] X1 (by omega) (by omega) (k0.trans k1) D1.c D1.g ⟨List.Pairwise.nil,by simp⟩ D1.ne
  rw [List.drop_zero,ZpQ] at e2 h2
  have e2 : Zi (c5 (Z6.l2 (R (n+6)))) [sl,pt d,sl,iv us.length,.int .i64 0] X1=_:=e2
  cases hr : Zbo none us
  ·rw [hr] at e2
   refine ⟨X2,.pointer none,f1 _ _ ?_,k2,fun _=>rfl,fun h=>by simp at h⟩
   unfold Z6
   rw [Za e0,Za hA.len,ZT e1,ZE,ZX,Za hA.len,JJ e2]
   rfl
  ·rw [hr] at e2
   obtain ⟨hc,hm,hR⟩:=h2 hr
   rw [List.nil_append] at hm hR
   by_cases h3 : 12 < us.length
   ·refine ⟨X2,.pointer none,f1 _ _ ?_,k2,fun _=>rfl,fun h=>by simp [h3] at h⟩
    unfold Z6
    rw [Za e0,Za hA.len,ZT e1,ZE,ZX,Za hA.len,ZT e2,ZE,ZX,Za hA.len,Za Z0,Zb,if_pos (by simp;omega),if_pos rfl,if_pos h3]
    rfl
   ·refine ⟨X2,pt d,f1 _ _ ?_,k2,fun h=>by simp [h3] at h,fun _=>⟨d,b,rfl,⟨hc,hm,fun p hp=>?_,by simpa using h3⟩,hR,o1,o2⟩⟩
    ·unfold Z6
     rw [Za e0,Za hA.len,ZT e1,ZE,ZX,Za hA.len,ZT e2,ZE,ZX,Za hA.len,Za Z0,Zb,if_neg (by simp;omega),if_pos rfl,if_neg h3]
     rfl
    ·obtain ⟨u,hu,rfl⟩:=List.mem_map.1 hp
     have he:=Zjs h1 u hu
     unfold Za5 at he
     refine ZaU ?_
     cases hn : Zp u.nm
     ·rw [hn] at he;simp at he
     ·exact hn
 ·rw [if_neg h1] at e1
  rw [if_neg h1]
  refine ⟨X1,.pointer none,f1 _ _ ?_,k0.trans k1,fun _=>rfl,fun h=>absurd h h1⟩
  unfold Z6
  rw [Za e0,Za hA.len,JJ e1]
  rfl
end
end Go.Proofs.YtedkoimihknggaaGreatDoor.A

namespace Go.Proofs.YtedkoimihknggaaGreatDoor.A
set_option linter.unusedVariables false
set_option maxRecDepth 100000
set_option linter.unusedSimpArgs false
open Go.Proofs Go.Proofs.YtedkoimihknggaaGreatDoor
section
variable {α : Type} {x y : List (Tx × α)} {v : α} {j k o p : Tx} {OW OF OW' OF' : J4} {s t : NSt} {K K' : List Tx} {m : Tx} {u : Zam}
end
end Go.Proofs.YtedkoimihknggaaGreatDoor.A

namespace Go.Proofs.YtedkoimihknggaaGreatDoor.A
set_option linter.unusedVariables false
set_option maxRecDepth 100000
set_option linter.unusedSimpArgs false
open Go.Proofs Go.Proofs.YtedkoimihknggaaGreatDoor
section
variable {X X' H H0 : Zd} {n d c b6 b11 da dc ca cc : Nat} {r ra rc : NR} {a v uv gv uv' gv' sl : Value} {s t : NSt} {l l' N : List Tx} {us : List Zj} {ac : List Zam} {u : Zam}
theorem ND.apart {o2 : List Nat} (h : ND X da ra s ca) (hc : ND X dc rc t cc) (hs : ZC ra.own X o2 X') (hd : ∀ i∈ra.own,i∉rc.own) : ND X' dc rc t cc:=
 hc.step hs (fun e=>(h.isMap e).2 _ _ _ _ hc.cell) (fun e=>(h.isMap e).2 _ _ _ _ hc.ix.c) (fun e=>(h.isMap e).2 _ _ _ _ hc.gr.cell) (fun j hj e=>hd j e hj)
structure Two (H X : Zd) (da : Nat) (ra : NR) (s : NSt) (ca : Nat) (uv gv : Value) (b6 : Nat) (dc : Nat) (rc : NR) (t : NSt) (cc : Nat) (uv' gv' : Value) (b11 : Nat) : Prop where
 le : HLe H X
 na : ND X da ra s ca
 ra' : RD X uv gv s
 oa : ∀ i∈ra.own,H.length≤i
 ba : X[b6]?=some (.cells [uv,gv] 1 false false)
 nc : ND X dc rc t cc
 rc' : RD X uv' gv' t
 oc : ∀ i∈rc.own,H.length≤i
 bc : X[b11]?=some (.cells [uv',gv'] 1 false false)
 dis : ∀ i∈ra.own,i∉rc.own
 h6 : H.length≤b6
 h11 : H.length≤b11
 ne : b6≠b11
theorem Two.hle (h : Two H X da ra s ca uv gv b6 dc rc t cc uv' gv' b11) (hl : HLe X X') : Two H X' da ra s ca uv gv b6 dc rc t cc uv' gv' b11:=
 ⟨h.le.trans hl,h.na.hle hl,h.ra'.hle hl,h.oa,hl _ _ h.ba,h.nc.hle hl,h.rc'.hle hl,h.oc,hl _ _ h.bc,h.dis,h.h6,h.h11,h.ne⟩
theorem Two.swap (h : Two H X da ra s ca uv gv b6 dc rc t cc uv' gv' b11) : Two H X dc rc t cc uv' gv' b11 da ra s ca uv gv b6:=
 ⟨h.le,h.nc,h.rc',h.oc,h.bc,h.na,h.ra',h.oa,h.ba,fun i hi hj=>h.dis i hj hi,h.h11,h.h6,fun e=>h.ne e.symm⟩
theorem Two.act {q : Nat} (h : Two H X da ra s ca uv gv b6 dc rc t cc uv' gv' b11) (hq : X[q]?=some (.cells u.cells 1 false false)) (hq6 : q≠b6) : ∃ X' r' uv1 gv1,(∀ {β : Type} (K : Value→A.M β),bind (ldA 2 (pt b6)) (fun v25=>bind (ldA 4 (pt q)) fun v26=>bind (R (n+12) JP [pt da,v25,v26]) fun v27=>bind (Zo v27 0) fun v28=>bind (Zo v27 1) fun v29=>bind (stA 2 (pt b6) v28) fun _=>K v29) X=K (.bool true) X')∧Two H X' da r' (YK u s) (ca+1) uv1 gv1 b6 dc rc t cc uv' gv' b11∧X'[q]?=some (.cells u.cells 1 false false):=by
 have d1 : ldA 2 (pt b6) X=some (.agg #[uv,gv],X):=ZR h.ba rfl
 have d2 : ldA 4 (pt q) X=some (.agg u.cells.toArray,X):=ZR hq rfl
 obtain ⟨X2,r',uv1,gv1,e2,hF⟩:=ZAu (n:=n) (u:=u) h.na h.ra'
 have hc:=h.na.toND0.cle hF.st
 have hw2:=hc _ _ _ _ _ h.ba
 have hb2:=hc _ _ _ _ _ h.bc
 have hq2:=hc _ _ _ _ _ hq
 obtain ⟨hm1,hm2⟩:=h.le.more hF.st h.oa
 obtain ⟨iu,ig⟩:=h.ra'.isSl
 have hal : ([uv1,gv1].all oneCell)=true:=by simp only [List.all_cons,hF.rd.oneU,hF.rd.oneG];rfl
 have w1 : stA 2 (pt b6) (.agg #[uv1,gv1]) X2=some (undef,X2.set b6 (.cells [uv1,gv1] 1 false false)):=Kv (vs:=[uv1,gv1]) hw2 rfl rfl hal
 have hnc:=h.na.apart h.nc hF.st h.dis
 have hne:=h.ne
 refine ⟨X2.set b6 (.cells [uv1,gv1] 1 false false),r',uv1,gv1,fun {β} K=>?_,⟨hm1.setN h.h6,hF.nd.setBox hw2 iu ig,hF.rd.setB hw2 iu ig,hm2,ZM hw2,hnc.setBox hw2 iu ig,(h.rc'.cle hc).setB hw2 iu ig,h.oc,(List.getElem?_set_ne (by omega)).trans hb2,fun i hi hj=>?_,h.h6,h.h11,h.ne⟩,(List.getElem?_set_ne (by omega)).trans hq2⟩
 ·rw [Za d1,Za d2,Za e2,Za Zr,Za Zs,Za w1]
 ·rcases hF.st.own i hi with h1 | h1
  ·exact h.dis i h1 hj
  ·have:=(h.nc.isMap hj).1
   omega
end
end Go.Proofs.YtedkoimihknggaaGreatDoor.A

namespace Go.Proofs.YtedkoimihknggaaGreatDoor.A
set_option linter.unusedVariables false
set_option linter.unusedSimpArgs false
open Go.Proofs Go.Proofs.YtedkoimihknggaaGreatDoor
def okD (u : Zj) : Bool:=(u.ml==[]) && !u.ds
def Zcq (s : NSt) : Bool:=decide (s.K=[]) && ((A.allK s).all fun k=>(k.2.2.1==[]) && !k.2.2.2.1)
section
variable {X X' H H0 : Zd} {n d c : Nat} {r : NR} {v sl : Value} {s : NSt} {us : List Zj} {u : Zj} {q : List Nat}
theorem ZxC (hg : ∀ u∈us,Zp u.nm=true∧YR u.hs=true∧u.gs=[]) : Wv us=if us.all okD then 0 else 12:=by
 induction us with
 | nil=>rfl
 | cons u l ih=>
  obtain ⟨h1,h2,h3⟩:=hg u (by simp)
  have hp : ZdL u=okD u:=by
   unfold ZdL okD
   rw [h3]
   simp
  have he : Za5 u=if okD u then 0 else 12:=by
   unfold Za5
   rw [h1,h2,hp]
   rfl
  unfold Wv
  rw [he,ih fun w hw=>hg w (by simp [hw]),List.all_cons]
  cases okD u
  ·rfl
  ·cases l.all okD <;> rfl
theorem Zyb (hd : ND X d r s c) : ∃ dv X',R (n+13) Kd [pt d] X=some (.tuple #[dv,iv (if Zcq s then 0 else 12)],X')∧HLe X X'∧(Zcq s=false→dv=.pointer none)∧
  (Zcq s=true→∃ e b m,dv=pt e∧Dir X' e b m∧ZeO m∧m.map kOf=A.allK s):=by
 obtain ⟨v1,q1,X1,e1,r1,k1,o1⟩:=ZrR (n:=n+8) hd
 have e1 : R (n+12) KO [pt d] X=_:=e1
 have hl1 : Zx v1 X1=some (iv s.K.length,X1):=by
  have:=r1.rd.len (H':=X1)
  rwa [List.length_map,Zat] at this
 have q0 : bop .ptr .eql (pt d) (.pointer none) X=some (.bool false,X):=Ju
 have q2 : bop .int .gtr (iv s.K.length) (.int .i64 0) X1=some (.bool (decide (0 < s.K.length)),X1):=by
  rw [Z0,show (decide ((s.K.length : Int) > 0))=decide (0 < s.K.length) from decide_eq_decide.2 (by omega)]
 have pre : ∀ r H',(cnd (.bool (decide (0 < s.K.length))) (ret (Value.tuple #[(Value.pointer none),(Value.int .i64 12)]))
   (bind (R (n+12) Wp [pt d]) fun v16x7=>
   bind (R (n+12) WT [v16x7]) fun v17x8=>
   bind (Zo v17x8 0) fun v18x9=>
   bind (Zo v17x8 1) fun v19x10=>
   bind (bop .int .neq v19x10 (Value.int .i64 0)) fun v21x11=>
   cnd v21x11
   (ret (Value.tuple #[(Value.pointer none),(Value.int .i64 12)]))
   (ret (Value.tuple #[v18x9,(Value.int .i64 0)])))) X1=some (r,H')→R (n+13) Kd [pt d] X=some (r,H'):=fun r H' hr=>by
  rw [R,ZhT rfl]
  unfold Zd0
  rw [Za q0,ZU,Zk,Za e1,Zk,Za hl1,Zk,Za q2,ZV,ZI,Za Zl]
  exact hr
 by_cases hK : s.K=[]
 rotate_left
 ·have hpos : 0 < s.K.length:=List.length_pos_iff.2 hK
  have hp : Zcq s=false:=by unfold Zcq;rw [decide_eq_false hK];rfl
  rw [hp]
  refine ⟨.pointer none,X1,pre _ _ ?_,k1,fun _=>rfl,fun h=>by cases h⟩
  rw [decide_eq_true hpos,Zb,if_pos rfl]
  rfl
 have hpos : ¬ 0 < s.K.length:=by rw [hK];simp
 obtain ⟨v2,q,us,X2,e2,O2,k2,l2⟩:=Zys (n:=n+4) (hd.hle k1)
 have e2 : R (n+12) Wp [pt d] X1=_:=e2
 have hP:=hd.pinv
 have hO : ROK s us:=(ROK.allK hP.n).keys ((Zms _).trans k2.symm)
 have hgood : ∀ u∈us,Zp u.nm=true∧YR u.hs=true∧u.gs=[]:=fun u hu=>by
  obtain ⟨g1,g2,_⟩:=ZhY hO hP (fun k hk=>hd.toND0.kname hk) hu
  obtain ⟨h1,h2,_⟩:=Zev g1
  refine ⟨h1,h2,List.eq_nil_iff_forall_not_mem.2 fun g hg=>?_⟩
  have:=g2 g hg
  rw [hK] at this
  cases this
 have hU : ZbU X2 v2 us:=⟨O2.us.1,fun u hu=>by
  obtain ⟨qu,h1,_⟩:=O2.u u hu
  exact ⟨h1.rd,h1.one.1⟩⟩
 have hlus : us.length≤12:=by
  have h1:=congrArg List.length k2
  unfold A.allK at h1
  rw [List.length_map,List.length_map,Zat] at h1
  have:=hP.i.few
  simp at h1
  omega
 have hris : Zbo none us=true:=by
  rw [ZvK]
  exact ZfA (List.pairwise_map.2 hO.rise)
 have hofE : ofE us=if us.all okD then 0 else 12:=by
  unfold ofE
  rw [ZxC hgood,hris]
  cases us.all okD
  ·rfl
  ·simp only [if_true]
   rw [if_neg (by omega)]
 have hall : Zcq s=us.all okD:=by
  unfold Zcq
  rw [decide_eq_true hK,← k2,List.all_map]
  rfl
 obtain ⟨X3,dv,e3,k3,hz,hok⟩:=ZCZ (n:=n+5) (by omega) hU
 have e3 : R (n+12) WT [v2] X2=_:=e3
 rw [hofE] at e3 hz hok
 rw [hall]
 have k13:=(k1.trans l2).trans k3
 cases hA : us.all okD
 ·rw [hA] at e3 hz hok
  have hdv : dv=.pointer none:=hz (by decide)
  subst hdv
  have q3 : bop .int .neq (iv 12) (.int .i64 0) X3=some (.bool true,X3):=by rw [Zq];rfl
  refine ⟨.pointer none,X3,pre _ _ ?_,k13,fun _=>rfl,fun h=>by cases h⟩
  rw [decide_eq_false hpos,Zb,if_neg (by simp),Za e2,Za e3,Za Zr,Za Zs]
  refine (Za q3).trans ?_
  rw [Zb,if_pos rfl]
  rfl
 ·rw [hA] at e3 hz hok
  obtain ⟨e,b,rfl,D3,R3,_⟩:=hok (by rfl)
  have q3 : bop .int .neq (iv 0) (.int .i64 0) X3=some (.bool false,X3):=by rw [Zq];rfl
  refine ⟨pt e,X3,pre _ _ ?_,k13,(fun h=>by cases h),fun _=>⟨e,b,us.map ZcN,rfl,D3,R3,?_⟩⟩
  ·rw [decide_eq_false hpos,Zb,if_neg (by simp),Za e2,Za e3,Za Zr,Za Zs]
   refine (Za q3).trans ?_
   rw [Zb,if_neg (by simp)]
   rfl
  ·rw [← k2,List.map_map]
   refine List.map_congr_left fun u hu=>?_
   have h1:=List.all_eq_true.1 hA u hu
   have h2:=(hgood u hu).2.2
   unfold okD at h1
   simp only [Bool.and_eq_true,beq_iff_eq,Bool.not_eq_true'] at h1
   show (u.nm,u.hs,([] : Tx),false,([] : List Tx))=(u.nm,u.hs,u.ml,u.ds,u.gs)
   rw [h1.1,h1.2,h2]
end
end Go.Proofs.YtedkoimihknggaaGreatDoor.A

namespace Go.Proofs.YtedkoimihknggaaGreatDoor.A
set_option linter.unusedVariables false
set_option linter.unusedSimpArgs false
open Go.Proofs Go.Proofs.YtedkoimihknggaaGreatDoor
section
variable {X X' H H0 : Zd} {n : Nat} {a : Value} {bs : List UInt8}
theorem ZBN {vs : List Value} {k : Nat} (h : vs.length=k) : Sl (X++[.cells vs 1 false false]) (.slice (some ⟨X.length,0,none⟩) k k) vs:=by
 subst h
 exact ZA.rd (own:=[X.length]) (.inr ⟨X.length,[],false,rfl,rfl,by rw [Zw];simp⟩)
theorem ZrY : ∃ H',R (n+15) ZaR [] H=some (.bool true,H')∧HLe H H':=by
 have z1 : bsl 1 3 (.int .u8 0) [(0,1,(Value.int .u8 1)),(1,1,(Value.int .u8 0)),(2,1,(Value.int .u8 0))] H=some (.slice (some ⟨H.length,0,none⟩) 3 3,H++[.cells (u8s [1,0,0]) 1 false false]):=rfl
 have k1 : HLe H (H++[Ze.cells (u8s [1,0,0]) 1 false false]):=.app _ _
 have s1 : Sl (H++[Ze.cells (u8s [1,0,0]) 1 false false]) (.slice (some ⟨H.length,0,none⟩) 3 3) (u8s [1,0,0]):=ZBN rfl
 generalize H++[Ze.cells (u8s [1,0,0]) 1 false false]=X1 at z1 k1 s1
 have hm : Zdn [1,0,0]=(0,[]):=by decide
 obtain ⟨v,X2,e2,k2,s2⟩:=Zu4 (n:=n) s1 (by simp) (by decide) (by rw [hm])
 have he : Zhs [] ((Zdn [1,0,0]).2.map kOf)=[2,0,0,0,0]:=by decide
 rw [he] at s2
 have q1 : bop .int .eql (iv 0) (.int .i64 0) X2=some (.bool true,X2):=by rw [ZD];rfl
 have q2 : bop .str .eql (strv [2,0,0,0,0]) (.string ⟨#[2,0,0,0,0]⟩) X2=some (.bool true,X2):=Zdp (b:=[2,0,0,0,0])
 refine ⟨X2,?_,k1.trans k2⟩
 rw [R,Zrf rfl]
 unfold Zhb
 rw [Za z1,Za e2,Za Zr,Za Zs,Za q1,ZU,Zk,Za (Zmt s2),Zk,Za q2,ZV,Z3,Za Zl]
 rfl
end
end Go.Proofs.YtedkoimihknggaaGreatDoor.A

namespace Go.Proofs.YtedkoimihknggaaGreatDoor.A
set_option linter.unusedVariables false
set_option linter.unusedSimpArgs false
open Go.Proofs Go.Proofs.YtedkoimihknggaaGreatDoor
section
variable {X X' H H0 : Zd} {n d c w : Nat} {r : NR} {uv gv sl : Value} {s : NSt} {u : Zam} {ac : List Zam} {us : List Zj}
theorem ZAk (hA : Zdt H sl ac) (hn : ac.length≤9223372036854775807) (hw0 : H.length≤w) : ∀ (t j : Nat) (r : NR) (s : NSt) (uv gv : Value) (X : Zd),ac.length - j=t→j≤ac.length→NL H X d r s uv gv w j→
  ∃ X' r' s' uv' gv',Zi (c5 (ZY.l1 (R (n+12)))) [pt d,pt w,sl,iv ac.length,iv j] X=some (.ext 0 [pt d,pt w],X')∧NL H X' d r' s' uv' gv' w ac.length
 | 0,j,r,s,uv,gv,X,ht,hj,h=>by
  have hj : j=ac.length:=by omega
  subst hj
  refine ⟨X,r,s,uv,gv,ZK ?_,h⟩
  rw [Qc]
  unfold ZY.l1
  rw [Za Zm,Zb,if_neg (by simp)]
  rfl
 | t+1,j,r,s,uv,gv,X,ht,hj,h=>by
  have hkl : j < ac.length:=by omega
  have hlt : (j : Int) < ac.length:=by omega
  have hja:=List.getElem?_eq_getElem hkl
  generalize ac[j]=u at hja
  obtain ⟨X2,r2,uv2,gv2,z,h2⟩:=ZCu (n:=n) hA hw0 hja h
  obtain ⟨X4,r4,s4,uv4,gv4,e4,h4⟩:=ZAk hA hn hw0 t (j+1) r2 (YK u s) uv2 gv2 X2 (by omega) (by omega) h2
  refine ⟨X4,r4,s4,uv4,gv4,(Zy ?_).trans e4,h4⟩
  rw [Qc]
  unfold ZY.l1
  rw [Za Zm,Zb,if_pos (by simpa using hlt)]
  refine (z _).trans ?_
  rw [Za ZB,Qg (by omega)]
  rfl
theorem Zt2 {z1 z2 : Value} (hn : us.length≤1000) (hA : Qh H0 uv us) : ∀ (t j : Nat) (p : Bool) (X : Zd),us.length - j=t→j≤us.length→HLe H0 X→
  ∃ X',Zi (c6 (ZY.l2 (R n))) [z1,z2,.bool p,uv,iv us.length,iv j] X=some (.ext 2 [z1,z2,.bool (p && (us.drop j).all okD)],X')∧HLe H0 X'
 | 0,j,p,X,ht,hj,hle=>by
  have hj : j=us.length:=by omega
  subst hj
  rw [List.drop_length]
  refine ⟨X,ZK ?_,hle⟩
  rw [Jy]
  unfold ZY.l2
  rw [Za Zm,Zb,if_neg (by simp)]
  simp [ret]
 | t+1,j,p,X,ht,hj,hle=>by
  have hkl : j < us.length:=by omega
  have hlt : (j : Int) < us.length:=by omega
  have hg:=List.getElem?_eq_getElem hkl
  have hd:=List.drop_eq_getElem_cons hkl
  generalize us[j]=v at hg hd
  have hA1:=hA.mono hle
  have hv:=hA1.2 v (List.mem_of_getElem? hg)
  have hf:=fun {K : Value→A.M Out}=>hA1.1.fetch (k:=K) (r:=v.cells) (i:=j) (by rw [List.getElem?_map,hg];rfl) (by omega) .i64
  have z4 : ∀ K : Value→A.M Out,bind (alc 1 zU) (fun q=>bind (stA 5 q (.agg v.cells.toArray)) fun _=>K q) X=K (pt X.length) (X++[.cells v.cells 1 false false]):=fun K=>WZ (n:=5) (zs:=usr ([],[])) (r:=v.cells) rfl rfl rfl (Zjj hv.2.1)
  have k1 : HLe X (X++[Ze.cells v.cells 1 false false]):=.app _ _
  have g1 : (X++[Ze.cells v.cells 1 false false])[X.length]?=some (.cells v.cells 1 false false):=Zw
  generalize X++[Ze.cells v.cells 1 false false]=X1 at z4 k1 g1
  generalize X.length=b at z4 g1
  have a2 : ld1 (pa b 2) X1=some (strv v.ml,X1):=Zv g1 rfl
  have a3 : ld1 (pa b 3) X1=some (.bool v.ds,X1):=Zv g1 rfl
  have q1 : bop .str .eql (strv v.ml) (.string ⟨#[]⟩) X1=some (.bool (v.ml==[]),X1):=Zdp (b:=[])
  have G1 : ∀ K : Value→A.M Out,bind (ZG (.bool p) true 3 (bind (fa 2 (pt b)) fun v50x34=>bind (ld1 v50x34) fun v51x35=>bind (bop .str .eql v51x35 (Value.string ⟨#[]⟩)) fun v52x36=>ret [v50x34,v51x35,v52x36])) (c3 fun _ _ q37_2=>bind (pick (.bool p) q37_2 (Value.bool false)) K) X1=K (.bool (p && (v.ml==[]))) X1:=fun K=>by
   cases p
   ·rw [Za (g_r.trans (if_neg (by simp)))]
    simp only [List.replicate]
    rw [Z3,Za Zl]
    rfl
   ·rw [ZU,Zk,Za Zh,Zk,Za a2,Zk,Za q1,ZV,Z3,Za Zl]
    rfl
  have G2 : ∀ (p : Bool) (K : Value→A.M Out),bind (ZG (.bool p) true 3 (bind (fa 3 (pt b)) fun v55x39=>bind (ld1 v55x39) fun v56x40=>bind (uop .not v56x40) fun v57x41=>ret [v55x39,v56x40,v57x41])) (c3 fun _ _ q42_2=>bind (pick (.bool p) q42_2 (Value.bool false)) K) X1=K (.bool (p && !v.ds)) X1:=fun p K=>by
   cases p
   ·rw [Za (g_r.trans (if_neg (by simp)))]
    simp only [List.replicate]
    rw [Z3,Za Zl]
    rfl
   ·rw [ZU,Zk,Za Zh,Zk,Za a3,Zk,Za ZH,ZV,Z3,Za Zl]
    rfl
  obtain ⟨X2,e2,k2⟩:=Zt2 (z1:=z1) (z2:=z2) hn hA t (j+1) ((p && (v.ml==[])) && !v.ds) X1 (by omega) (by omega) (hle.trans k1)
  refine ⟨X2,(Zy ?_).trans (e2.trans ?_),k2⟩
  ·rw [Jy]
   unfold ZY.l2
   rw [Za Zm,Zb,if_pos (by simpa using hlt),hf,z4]
   refine (G1 _).trans ?_
   refine (G2 _ _).trans ?_
   rw [Za ZB,Qg (by omega)]
   rfl
  ·rw [hd,List.all_cons]
   unfold okD
   simp only [Bool.and_assoc]
theorem ZAO {e : Ent} (h : Zjq (kOf e)=0) : ZcL e=0:=by
 have h1 : JO (WC e)=0:=by rw [Zq5];show ((Zjq (kOf e) : Nat) : Int)=0;rw [h];rfl
 obtain ⟨h2,h3,_⟩:=Zev h1
 unfold ZcL
 rw [show Zp e.1=true from h2,show YR e.2=true from h3]
 rfl
noncomputable def ZCf (Γ : Zc) (q46_0 q46_1 v63x48 : Value) : A.M Value:=
 bind (Γ Kd [(Value.pointer none)]) fun v90x69=>
 bind (Zo v90x69 0) fun v91x70=>
 bind (Zo v90x69 1) fun v92x71=>
 bind (bop .int .eql v92x71 (Value.int .i64 12)) fun v94x72=>
 bind (Zg v94x72 true (ret v91x70)) fun v96x73=>
 bind (Zg v94x72 true (bop .ptr .eql v96x73 (Value.pointer none))) fun v97x74=>
 bind (pick v94x72 v97x74 (Value.bool false)) fun v98x75=>
 bind (Zg v98x75 true (ret v63x48)) fun v100x76=>
 bind (Zg v98x75 true (fa 0 q46_1)) fun v102x77=>
 bind (Zg v98x75 true (ld1 v102x77)) fun v103x78=>
 bind (Zg v98x75 true (Γ KB [v100x76])) fun v101x79=>
 bind (Zg v98x75 true (ld1 v102x77)) fun u_80=>same u_80 v103x78 <|
 bind (Zg v98x75 true (Γ KK [v101x79,v103x78])) fun v104x81=>
 bind (pick v98x75 v104x81 (Value.bool false)) fun v105x82=>
 ret v105x82
noncomputable def t13 (Γ : Zc) (q46_0 q46_1 q46_2 : Value) : A.M Value:=
 bind (Γ Kd [q46_0]) fun v62x47=>
 bind (Zo v62x47 0) fun v63x48=>
 bind (Zo v62x47 1) fun v64x49=>
 bind (uop .not q46_2) fun v66x50=>
 cnd v66x50
 (bind (bop .int .eql v64x49 (Value.int .i64 12)) fun v68x51=>
 bind (ZG v68x51 true 2 (bind (bop .ptr .eql v63x48 (Value.pointer none)) fun v71x52=>
 ret [v63x48,v71x52])) (c2 fun _ q53_1=>
 bind (pick v68x51 q53_1 (Value.bool false)) fun v72x54=>
 ret v72x54))
 (bind (bop .int .neq v64x49 (Value.int .i64 0)) fun v74x55=>
 bind (Zg v74x55 false (ret v63x48)) fun v76x56=>
 bind (Zg v74x55 false (bop .ptr .eql v76x56 (Value.pointer none))) fun v77x57=>
 bind (pick v74x55 (Value.bool true) v77x57) fun v78x58=>
 bind (Zg v78x58 false (ret v63x48)) fun v80x59=>
 bind (Zg v78x58 false (ret q46_0)) fun v84x60=>
 bind (Zg v78x58 false (Γ K0 [v80x59])) fun v81x61=>
 bind (Zg v78x58 false (Γ QQ [v81x61])) fun v82x62=>
 bind (Zg v78x58 false (b2s v82x62)) fun v83x63=>
 bind (Zg v78x58 false (Γ QQ [v84x60])) fun v85x64=>
 bind (Zg v78x58 false (b2s v82x62)) fun u_65=>same u_65 v83x63 <|
 bind (Zg v78x58 false (b2s v85x64)) fun v86x66=>
 bind (Zg v78x58 false (bop .str .neq v83x63 v86x66)) fun v87x67=>
 bind (pick v78x58 (Value.bool true) v87x67) fun v88x68=>
 cnd v88x68
 (ret (Value.bool false))
 (ZCf Γ q46_0 q46_1 v63x48))
theorem ZCQ (hd : ND X d r s c) (hU : Qh X uv us) (hus : us.map ZQ=A.allK s) (hb : X[w]?=some (.cells [uv,gv] 1 false false)) : ∃ X',t13 (R (n+15)) (pt d) (pt w) (.bool (Zcq s)) X=some (.bool true,X'):=by
 obtain ⟨dv,X1,e1,k1,hz,hok⟩:=Zyb (n:=n+2) hd
 have e1 : R (n+15) Kd [pt d] X=_:=e1
 unfold t13
 cases hp : Zcq s
 ·rw [hp] at e1 hz hok
  have hdv:=hz rfl
  subst hdv
  have q1 : bop .int .eql (iv 12) (.int .i64 12) X1=some (.bool true,X1):=by rw [ZD];rfl
  refine ⟨X1,?_⟩
  rw [Za e1,Za Zr,Za Zs,Za ZH,Zb,if_pos (by simp)]
  refine (Za q1).trans ?_
  rw [ZU,Zk,Za Zur,ZV,ZX,Za Zl]
  rfl
 ·rw [hp] at e1 hz hok
  obtain ⟨e,b,m,rfl,D1,R1,hm⟩:=hok rfl
  have hK : s.K=[]:=by
   unfold Zcq at hp
   rw [Bool.and_eq_true] at hp
   exact of_decide_eq_true hp.1
  have hof:=Zyl hd
  obtain ⟨g1,g2,_⟩:=ZAs hof
  have hss:=ZrP D1.g.nod R1
  have hmE : ∀ x∈m,ZcL x=0:=fun x hx=>ZAO (g1 _ (by rw [← hm];exact List.mem_map.2 ⟨x,hx,rfl⟩))
  have hml : m.length≤12:=by have:=congrArg List.length hm;rw [List.length_map] at this;omega
  obtain ⟨X2,d',r',s',c',e2,k2,hS⟩:=Zwv (n:=n+2) D1 (by rw [hss];exact hmE) (by rw [hss];exact ZrI R1) (by rw [hss];exact hml)
  have e2 : R (n+15) K0 [pt e] X1=_:=e2
  rw [hss] at hS
  obtain ⟨w3,q3,X3,e3,r3,k3,_⟩:=Zhj (n:=n+3) hS.nd
  have e3 : R (n+15) QQ [pt d'] X2=_:=e3
  rw [Zt7 hS] at r3
  have k13:=(k1.trans k2).trans k3
  obtain ⟨w4,q4,X4,e4,r4,k4,_⟩:=Zhj (n:=n+3) (hd.hle k13)
  have e4 : R (n+15) QQ [pt d] X3=_:=e4
  rw [show Qx s.K=[] from by rw [hK];exact List.eq_nil_of_length_eq_zero (by rw [Zat];rfl),← hm] at r4
  have y3:=Zmt r3.rd
  have y3':=Zmt (r3.rd.mono k4)
  have y4:=Zmt r4.rd
  have q5 : bop .str .neq (strv (Zhs [] (m.map kOf))) (strv (Zhs [] (m.map kOf))) X4=some (.bool false,X4):=by rw [Wt];simp
  have q6 : bop .int .neq (iv 0) (.int .i64 0) X1=some (.bool false,X1):=by rw [Zq];rfl
  have q7 : bop .ptr .eql (pt e) (.pointer none) X1=some (.bool false,X1):=Ju
  have e5 : R (n+15) Kd [.pointer none] X4=some (.tuple #[.pointer none,iv 12],X4):=by
   rw [R,ZhT rfl]
   unfold Zd0
   rw [Za Zur,ZBe rfl]
   simp only [List.replicate]
   rw [ZI,Za Zl]
   rfl
  have q8 : bop .int .eql (iv 12) (.int .i64 12) X4=some (.bool true,X4):=by rw [ZD];rfl
  have k14:=k13.trans k4
  have a0 : ∀ Y,HLe X4 Y→ld1 (pa w 0) Y=some (uv,Y):=fun Y hl=>Zv (hl _ _ (k14 _ _ hb)) rfl
  obtain ⟨v6,q6',X6,e6,r6,k6,_⟩:=Ztd (n:=n+12) (((D1.hle k2).hle k3).hle k4)
  have e6 : R (n+15) KB [pt e] X4=_:=e6
  rw [hss] at r6
  have hlus : us.length≤12:=by have:=congrArg List.length hus;rw [List.length_map] at this;omega
  obtain ⟨X7,e7,k7⟩:=Zx4 (n:=n+13) (by rw [List.length_map];omega) (by omega) r6.us (hU.mono (k14.trans k6))
  have hdec : decide ((m.map WC).map ZQ=us.map ZQ)=true:=by
   rw [hus,← hm,List.map_map]
   exact decide_eq_true rfl
  rw [hdec] at e7
  have e7 : R (n+15) KK [v6,uv] X6=_:=e7
  refine ⟨X7,?_⟩
  rw [Za e1,Za Zr,Za Zs,Za ZH,Zb,if_neg (by simp)]
  refine (Za q6).trans ?_
  rw [Qr,ZV,Qr,Za q7,Za Zl]
  simp only [cond_false]
  rw [Qr,ZV,Qr,ZV,Qr,Za e2,Qr,Za e3,Qr,Za y3,Qr,Za e4,Qr,Za y3',QY,Qr,Za y4,Qr,Za q5,Za Zl]
  simp only [cond_false]
  rw [Zb,if_neg (by simp)]
  unfold ZCf
  rw [Za e5,Za Zr,Za Zs,Za q8,Qr,ZV,Qr,Za Zur,Za Zl]
  simp only [cond_true]
  rw [Qr,ZV,Qr,Za Zh,Qr,Za (a0 _ (.refl _)),Qr,Za e6,Qr,Za (a0 _ k6),QY,Qr,Za e7,Za Zl]
  rfl
theorem ZyH (hA : Zdt H sl ac) (hn : ac.length≤9223372036854775807) : ∃ H',R (n+16) WU [sl] H=some (.bool true,H'):=by
 have f1 : ∀ r X',ZY (R (n+15)) sl H=some (r,X')→R (n+16) WU [sl] H=some (r,X'):=fun r X' hr=>by rw [R,ZjC rfl];exact hr
 obtain ⟨H1,e1,l1⟩:=ZrY (n:=n) (H:=H)
 obtain ⟨H2,e2,l2⟩:=ZB9 (n:=n+14) (hA.mono l1) hn
 have e2 : R (n+15) Zbt [sl] H1=_:=e2
 generalize (ac.all Zot && decide (ac.length≤60))=fw at e2
 have step : ∀ {k : Value→A.M Value},bind (uop .not (.bool true)) (fun v17x2=>
   bind (ZG v17x2 false 3 (bind (R (n+15) Zbt [sl]) fun v20x3=>bind (uop .not v20x3) fun v21x4=>ret [sl,v20x3,v21x4])) (c3 fun _ _ q5_2=>
   bind (pick v17x2 (Value.bool true) q5_2) k)) H1=k (.bool (!fw)) H2:=fun {k}=>by
  rw [Za ZH]
  simp only [Bool.not_true]
  rw [ZU,Zk,Za e2,Zk,Za ZH,ZV,Z3,Za Zl]
  rfl
 cases fw
 ·obtain ⟨H3,e3,_⟩:=ZrY (n:=n) (H:=H2)
  refine ⟨H3,f1 _ _ ?_⟩
  unfold ZY
  rw [Za e1]
  refine step.trans ?_
  rw [Zb,if_pos (by rfl),Za e3]
  rfl
 ·have hA2:=hA.mono (l1.trans l2)
  obtain ⟨X3,d,r,w,z,hL,hw⟩:=ZCv (n:=n+3) (X:=H2) (fun v22x8 v4x9=>
   bind (Zx sl) fun v24x10=>
   jn (Zi (c5 (ZY.l1 (R (n+15)))) [v22x8,v4x9,sl,v24x10,(Value.int .i64 0)]) noN (xk 0 (c2 fun q22_0 q22_1=>
   bind (fa 1 q22_1) fun v37x23=>
   bind (ld1 v37x23) fun v38x24=>
   bind (Zx v38x24) fun v39x25=>
   bind (bop .int .eql v39x25 (Value.int .i64 0)) fun v40x26=>
   bind (fa 0 q22_1) fun v41x27=>
   bind (ld1 v41x27) fun v42x28=>
   bind (Zx v42x28) fun v43x29=>
   jn (Zi (c6 (ZY.l2 (R (n+15)))) [q22_0,q22_1,v40x26,v42x28,v43x29,(Value.int .i64 0)]) noN (xk 2 (c3 (t13 (R (n+15)))) noX) ret) noX) ret)
  obtain ⟨X4,r4,s4,uv,gv,e4,h4⟩:=ZAk (n:=n+3) hA2 hn hw ac.length 0 r _ _ _ X3 (by omega) (by omega) hL
  have e4 : Zi (c5 (ZY.l1 (R (n+15)))) [pt d,pt w,sl,iv ac.length,.int .i64 0] X3=_:=e4
  obtain ⟨us,U4,O4⟩:=h4.rd.ex
  obtain ⟨qn,N,hN,iN⟩:=h4.rd.n
  have hP:=h4.nd.pinv
  have hNk : N=Qx s4.K:=iN.uniq ⟨Zh1 hP.k.nod,fun x=>Zbq⟩ fun _=>Iff.rfl
  have hus : us.map ZQ=A.allK s4:=O4.all hP.n
  have hlus : us.length≤1000:=by
   have:=O4.len hP.n
   have:=hP.i.few
   omega
  have a1 : ld1 (pa w 1) X4=some (gv,X4):=Zv h4.w rfl
  have a0 : ld1 (pa w 0) X4=some (uv,X4):=Zv h4.w rfl
  have hlg : Zx gv X4=some (iv s4.K.length,X4):=by
   have:=hN.rd.len (H':=X4)
   rwa [List.length_map,hNk,Zat] at this
  have hlu : Zx uv X4=some (iv us.length,X4):=by have:=U4.1.len (H':=X4);rwa [List.length_map] at this
  have q1 : bop .int .eql (iv s4.K.length) (.int .i64 0) X4=some (.bool (decide (s4.K=[])),X4):=by
   rw [ZD,show ((s4.K.length : Int)==0)=decide (s4.K=[]) from by rw [Bool.eq_iff_iff,decide_eq_true_eq,beq_iff_eq,← List.length_eq_zero_iff];omega]
  obtain ⟨X5,e5,k5⟩:=Zt2 (n:=n+15) (z1:=pt d) (z2:=pt w) hlus U4 us.length 0 (decide (s4.K=[])) X4 (by omega) (by omega) (.refl _)
  rw [List.drop_zero] at e5
  have hpl : (decide (s4.K=[]) && us.all okD)=Zcq s4:=by
   unfold Zcq
   rw [← hus,List.all_map]
   rfl
  rw [hpl] at e5
  have e5 : Zi (c6 (ZY.l2 (R (n+15)))) [pt d,pt w,.bool (decide (s4.K=[])),uv,iv us.length,.int .i64 0] X4=_:=e5
  obtain ⟨X6,e6⟩:=ZCQ (n:=n) (h4.nd.hle k5) (U4.mono k5) hus (k5 _ _ h4.w)
  refine ⟨X6,f1 _ _ ?_⟩
  unfold ZY
  rw [Za e1]
  refine step.trans ?_
  rw [Zb,if_neg (by simp)]
  refine z.trans ?_
  rw [Za hA2.len,ZT e4,ZE,ZX,Za Zh,Za a1,Za hlg,Za q1,Za Zh,Za a0,Za hlu,ZT e5,ZE,Z3]
  exact e6
theorem law_MigrateDown : ∀ (xs : Ins [.slc nActT]) (H : Zd) (vs : List Value),ZsS [.slc nActT] xs→ZsT [.slc nActT] xs H vs→∃ n H',R n WU vs H=some (.bool true,H'):=by
 intro xs H vs hwf hrd
 obtain ⟨l,_⟩:=xs
 obtain ⟨hl,_⟩:=hwf
 obtain ⟨c1,_,rfl,hc1,h1,rfl⟩:=hrd
 obtain ⟨a,rfl⟩ : ∃ a,c1=[a]:=by
  match c1,hc1 with
  | [a],_=>exact ⟨a,rfl⟩
 obtain ⟨ac,hA,hn⟩:=ZzE hl h1
 obtain ⟨H',e⟩:=ZyH (n:=0) hA hn
 exact ⟨16,H',e⟩
end
end Go.Proofs.YtedkoimihknggaaGreatDoor.A

