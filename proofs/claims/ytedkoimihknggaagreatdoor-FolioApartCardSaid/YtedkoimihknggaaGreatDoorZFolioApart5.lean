/- What the law FolioApart needs (part 5). -/
import Derived.Test.YtedkoimihknggaaGreatDoorZFolioApart4
namespace Go.Proofs.YtedkoimihknggaaGreatDoor.A
set_option linter.unusedVariables false
set_option linter.unusedSimpArgs false
open Go.Proofs Go.Proofs.YtedkoimihknggaaGreatDoor
abbrev Acc:=Tx × Bool
def ZaS (p : Acc) : Value:=.agg #[strv p.1,.bool p.2]
abbrev AMp:=List (Tx × Acc)
structure NSt where
 A : AMp
 OW : YU
 OF : YU
 K : List Tx
 mem : Mem
structure JK (s : NSt) : Prop where
 nm : ∀ p∈s.A,Zo p.1=true∧WB p.2.1=true
 few : s.A.length≤12
 ofA : ∀ n,(Ze n s.OF).isSome=true→(Ze n s.A).isSome=true
 memA : ∀ k n,s.mem k n=true→(Ze n s.A).isSome=true
 good : ∀ n m,Ze n s.OF=some m→QB m=true∧Z7 m=m
structure NR where
 b : Nat
 x : Nat
 o : Nat
 a : Nat
 g : Nat
 o2 : Nat
 G : Zc4
def NR.own (r : NR) : List Nat:=r.b :: r.o :: r.a :: Q5 r.o2 r.G
structure ND0 (X : Zd) (d : Nat) (r : NR) (s : NSt) (c : Nat) : Prop where
 cell : X[d]?=some (.cells [.map (some r.b),pt r.x,pt r.g] 1 false false)
 m : J8 ZaS X r.b s.A
 ix : Idx X r.x r.o r.a s.OW s.OF
 gr : Grp X r.g r.o2 r.G s.mem c
 ks : ZO r.G=s.K
 dis : r.b≠r.o∧r.b≠r.a∧r.b∉Q5 r.o2 r.G∧r.o∉Q5 r.o2 r.G∧r.a∉Q5 r.o2 r.G
structure ND (X : Zd) (d : Nat) (r : NR) (s : NSt) (c : Nat) : Prop extends ND0 X d r s c where
 inv : JK s
def Qe (s : NSt) (n : Tx) (p : Acc) : Kp:=(n,p.1,(Ze n s.OF).getD [],p.2,ofL n s.K s.mem)
def ZK (s : NSt) (n : Tx) : Option Kp:=(Ze n s.A).map (Qe s n)
def Zr (n : Tx) (A : AMp) : Int:=if Zo n then (if (Ze n A).isSome then 0 else 8) else 10
theorem Zim {n : Tx} {A : AMp} (h : Zr n A=0) : Zo n=true∧∃ p,Ze n A=some p:=by
 unfold Zr at h
 cases hn : Zo n
 ·rw [hn] at h;simp at h
 ·rw [hn] at h
  cases ha : Ze n A with
  | none=>rw [ha] at h;simp at h
  | some p=>exact ⟨rfl,p,rfl⟩
section
variable {X X' : Zd} {n d c : Nat} {r : NR} {s : NSt} {k : Tx}
theorem J8.isMap {α : Type} {enc : α→Value} {id : Nat} {mm : List (Tx × α)} (hm : J8 enc X id mm) : id < X.length∧∀ cs es gr ro,X[id]?≠some (.cells cs es gr ro):=⟨hm.lt,fun cs es gr ro e=>by
 obtain ⟨es',_,h1 | h1⟩:=hm.ex
 ·obtain ⟨clk,h1,_⟩:=h1;rw [e] at h1;cases h1
 ·rw [e] at h1;cases h1⟩
theorem ND0.isMap (h : ND0 X d r s c) {j : Nat} (hj : j∈r.own) : j < X.length∧∀ cs es gr ro,X[j]?≠some (.cells cs es gr ro):=by
 unfold NR.own at hj
 rcases List.mem_cons.1 hj with rfl | hj
 ·exact h.m.isMap
 ·rcases List.mem_cons.1 hj with rfl | hj
  ·exact h.ix.ow.g.isMap
  ·rcases List.mem_cons.1 hj with rfl | hj
   ·exact h.ix.of.g.isMap
   ·exact h.gr.isMap hj
theorem ND0.dnot (h : ND0 X d r s c) : d∉r.own:=fun hj=>(h.isMap hj).2 _ _ _ _ h.cell
theorem ND0.xnot (h : ND0 X d r s c) : r.x∉r.own:=fun hj=>(h.isMap hj).2 _ _ _ _ h.ix.c
theorem ND0.gnot (h : ND0 X d r s c) : r.g∉r.own:=fun hj=>(h.isMap hj).2 _ _ _ _ h.gr.cell
theorem ND0.dlt (h : ND0 X d r s c) : d < X.length:=Ql h.cell
theorem ND0.step {o1 o2 : List Nat} (h : ND0 X d r s c) (hs : Zx o1 X o2 X') (hd : d∉o1) (hx : r.x∉o1) (hg : r.g∉o1) (ho : ∀ j∈r.own,j∉o1) : ND0 X' d r s c:=
 ⟨hs.get h.cell hd,h.m.step hs (ho _ (by simp [NR.own])),h.ix.step hs hx (ho _ (by simp [NR.own])) (ho _ (by simp [NR.own])),h.gr.step hs hg (fun j hj=>ho j (by
  unfold NR.own
  exact List.mem_cons_of_mem _ (List.mem_cons_of_mem _ (List.mem_cons_of_mem _ hj)))),h.ks,h.dis⟩
theorem ND0.hle (h : ND0 X d r s c) (hl : HLe X X') : ND0 X' d r s c:=h.step hl.step (by simp) (by simp) (by simp) (by simp)
theorem ND0.l0 (h : ND0 X d r s c) : ld1 (pa d 0) X=some (.map (some r.b),X):=Zv h.cell rfl
theorem ND0.l1 (h : ND0 X d r s c) : ld1 (pa d 1) X=some (pt r.x,X):=Zv h.cell rfl
theorem ND0.l2 (h : ND0 X d r s c) : ld1 (pa d 2) X=some (pt r.g,X):=Zv h.cell rfl
theorem ND.step {o1 o2 : List Nat} (h : ND X d r s c) (hs : Zx o1 X o2 X') (hd : d∉o1) (hx : r.x∉o1) (hg : r.g∉o1) (ho : ∀ j∈r.own,j∉o1) : ND X' d r s c:=⟨h.toND0.step hs hd hx hg ho,h.inv⟩
theorem ND.hle (h : ND X d r s c) (hl : HLe X X') : ND X' d r s c:=⟨h.toND0.hle hl,h.inv⟩
def CLe (X X' : Zd) : Prop:=∀ (i : Nat) (cs : List Value) (es : Nat) (g ro : Bool),X[i]?=some (Zf.cells cs es g ro)→X'[i]?=some (Zf.cells cs es g ro)
theorem CLe.trans {Y : Zd} (h : CLe X X') (h' : CLe X' Y) : CLe X Y:=fun i cs es g ro hi=>h' i _ _ _ _ (h i _ _ _ _ hi)
theorem Zx.cle {o1 o2 : List Nat} (hs : Zx o1 X o2 X') (hm : ∀ j∈o1,∀ cs es g ro,X[j]?≠some (Zf.cells cs es g ro)) : CLe X X':=fun i cs es g ro hi=>hs.get hi fun hj=>hm i hj _ _ _ _ hi
theorem ND0.cle {o2 : List Nat} (h : ND0 X d r s c) (hs : Zx r.own X o2 X') : CLe X X':=hs.cle fun j hj=>(h.isMap hj).2
theorem Sl.cle {sl : Value} {vs : List Value} (h : Sl X sl vs) (hc : CLe X X') : Sl X' sl vs:=by
 obtain ⟨a,c,rfl,h0,h⟩:=h
 refine ⟨a,c,rfl,h0,?_⟩
 unfold QD at h ⊢
 split at h
 ·exact h
 ·rename_i id o n x _
  split at h
  ·rename_i cs es g ro hid
   simp only [hc _ _ _ _ _ hid];exact h
  ·cases h
 ·exact h
 ·rename_i e;cases e
 ·cases h
theorem SlN.cle {es : Nat} {sl : Value} {rows : List (List Value)} (h : SlN es X sl rows) (hc : CLe X X') : SlN es X' sl rows:=by
 obtain ⟨a,c,rfl,h0,h,h2⟩:=h
 refine ⟨a,c,rfl,h0,?_,h2⟩
 unfold QD at h ⊢
 split at h
 ·exact h
 ·rename_i id o n x _
  split at h
  ·rename_i cs es' g ro hid
   simp only [hc _ _ _ _ _ hid];exact h
  ·cases h
 ·exact h
 ·rename_i e;cases e
 ·cases h
theorem Qg.cle {sl : Value} {us : List Zj} (h : Qg X sl us) (hc : CLe X X') : Qg X' sl us:=⟨h.1.cle hc,fun u hu=>⟨(h.2 u hu).1.cle hc,(h.2 u hu).2⟩⟩
theorem ZCE {k : Tx} {t : Bool} {H : Zd} : bld (.agg #[.string ⟨#[]⟩,.bool false]) [(0,1,strv k),(1,1,.bool t)] H=some (ZaS (k,t),H):=by
 simp [bld,W9,Value.cells,Ks,strv,splice,ZaS]
theorem ZAW (X : Zd) : JK ⟨[],[],[],[],fun _ _=>false⟩:=⟨by simp,by simp,by simp [Ze],by simp,by simp [Ze]⟩
theorem Zs3 : ∃ X' d r,R (n+2) Wj [] X=some (pt d,X')∧ND X' d r ⟨[],[],[],[],fun _ _=>false⟩ 0∧HLe X X'∧X.length≤d∧∀ j∈r.own,X.length≤j:=by
 obtain ⟨X1,e1,m1,k1⟩:=ZwC (α:=Acc) (enc:=ZaS) X
 have hl1 : X.length < X1.length:=m1.lt
 obtain ⟨X2,x,o,a,e2,i2,k2,o21,o22,o23⟩:=ZBD (n:=n) (X:=X1)
 obtain ⟨X3,g,o2,e3,g3,k3,o31,o32⟩:=ZBx (n:=n) (X:=X2)
 have hi:=i2.lt
 have e4 : bld (.agg #[.map none,.pointer none,.pointer none]) [(0,1,.map (some X.length)),(1,1,pt x),(2,1,pt g)] X3=some (.agg #[.map (some X.length),pt x,pt g],X3):=by
  simp [bld,W9,Value.cells,Ks,splice]
 have e5 : alc 1 (.agg #[.map (some X.length),pt x,pt g]) X3=some (pt X3.length,X3++[.cells [.map (some X.length),pt x,pt g] 1 false false]):=K4 (vs:=[.map (some X.length),pt x,pt g]) rfl
 have k4 : HLe X3 (X3++[Zf.cells [.map (some X.length),pt x,pt g] 1 false false]):=.app _ _
 refine ⟨_,X3.length,⟨X.length,x,o,a,g,o2,[]⟩,?_,⟨⟨ZC,((m1.hle k2).hle k3).hle k4,(i2.hle k3).hle k4,g3.hle k4,rfl,⟨by simp only;omega,by simp only;omega,?_,?_,?_⟩⟩,ZAW X⟩,((k1.trans k2).trans k3).trans k4,?_,?_⟩
 ·rw [R,ZuB rfl]
  unfold Zjd
  rw [Za e1,Za e2,Za e3,Za e4,Za e5]
  rfl
 ·simp only [Q5,List.map_nil,List.mem_singleton]
  have:=k2.len;omega
 ·simp only [Q5,List.map_nil,List.mem_singleton]
  omega
 ·simp only [Q5,List.map_nil,List.mem_singleton]
  omega
 ·have:=k1.len;have:=k2.len;have:=k3.len;omega
 ·intro j hj
  have:=k1.len;have:=k2.len
  simp only [NR.own,Q5,List.map_nil,List.mem_cons,List.not_mem_nil,or_false] at hj
  omega
theorem Zv5 (h : ND X d r s c) : ∃ X',R (n+6) QY [pt d,strv k] X=some (.tuple #[ZaS (if Zo k then (Ze k s.A).getD ([],false) else ([],false)),iv (Zr k s.A)],X')∧HLe X X':=by
 have one : ∀ p : Acc,([strv p.1,.bool p.2] : List Value).all oneCell=true:=fun _=>rfl
 have z1 : alc 1 (.agg #[.string ⟨#[]⟩,.bool false]) X=some (pt X.length,X++[.cells [strv [],.bool false] 1 false false]):=K4 (vs:=[strv [],.bool false]) rfl
 have k1 : HLe X (X++[Zf.cells [strv [],.bool false] 1 false false]):=.app _ _
 have c1 : (X++[Zf.cells [strv [],.bool false] 1 false false])[X.length]?=some (.cells [strv [],.bool false] 1 false false):=ZC
 have ll1 : X.length < (X++[Zf.cells [strv [],.bool false] 1 false false]).length:=by simp
 generalize X++[Zf.cells [strv [],.bool false] 1 false false]=X1 at z1 k1 c1 ll1
 have h1:=h.hle k1
 have e1 : R (n+5) Q9 [strv k] X1=_:=Zej
 have f1 : ∀ v X',ZaI (R (n+5)) (pt d) (strv k) X=some (v,X')→R (n+6) QY [pt d,strv k] X=some (v,X'):=fun v X' hr=>by rw [R,Zoh rfl];exact hr
 have fin : ∀ (p : Acc) (Y : Zd) (K : Value→M Value),Y[X.length]?=some (.cells [strv [],.bool false] 1 false false)→bind (stA 2 (pt X.length) (ZaS p)) (fun _=>bind (ldA 2 (pt X.length)) K) Y=K (ZaS p) (Y.set X.length (.cells [strv p.1,.bool p.2] 1 false false)):=fun p Y K hY=>by
  have w:=KW (vs:=[strv p.1,.bool p.2]) (n:=2) hY rfl rfl rfl
  have w : stA 2 (pt X.length) (ZaS p) Y=_:=w
  have l : ldA 2 (pt X.length) (Y.set X.length (.cells [strv p.1,.bool p.2] 1 false false))=some (ZaS p,_):=ZQ (n:=2) (ZM hY) rfl
  rw [Za w,Za l]
 have put : ∀ {Y : Zd} {o : Zf},HLe X Y→HLe X (Y.set X.length o):=fun hl i v hi=>by
  have:=Ql hi
  rw [List.getElem?_set_ne (by omega)]
  exact hl i v hi
 cases hnm : Zo k
 ·have he : Zr k s.A=10:=by unfold Zr;rw [hnm];rfl
  have q1 : bop .int .neq (iv (ZV k)) (.int .i64 0) X1=some (.bool true,X1):=by rw [Zq];unfold ZV;rw [hnm];rfl
  have zb : bld (.agg #[.string ⟨#[]⟩,.bool false]) [] X1=some (ZaS ([],false),X1):=rfl
  rw [he]
  refine ⟨X1.set X.length (.cells [strv [],.bool false] 1 false false),f1 _ _ ?_,put k1⟩
  unfold ZaI
  rw [Za z1,Za e1,Za q1,Zb,if_pos rfl,Za zb]
  refine (fin _ _ _ c1).trans ?_
  rw [show ZV k=10 by unfold ZV;rw [hnm];rfl]
  rfl
 ·have q1 : bop .int .neq (iv (ZV k)) (.int .i64 0) X1=some (.bool false,X1):=by rw [Zq];unfold ZV;rw [hnm];rfl
  have e2 : lkp .str (.agg #[.string ⟨#[]⟩,.bool false]) true (.map (some r.b)) (strv k) X1=some (.tuple #[ZaS ((Ze k s.A).getD ([],false)),.bool (Ze k s.A).isSome],X1):=by
   rw [h1.m.lkp]
   cases Ze k s.A <;> rfl
  generalize hv : (Ze k s.A).getD ([],false)=p at e2
  have z2 : ∀ K : Value→M Value,bind (alc 1 (.agg #[.string ⟨#[]⟩,.bool false])) (fun q=>bind (stA 2 q (ZaS p)) fun _=>K q) X1=K (pt X1.length) (X1++[.cells [strv p.1,.bool p.2] 1 false false]):=fun K=>Zao (n:=2) (zs:=[strv [],.bool false]) (r:=[strv p.1,.bool p.2]) rfl rfl rfl rfl
  have k2 : HLe X1 (X1++[Zf.cells [strv p.1,.bool p.2] 1 false false]):=.app _ _
  have c2 : (X1++[Zf.cells [strv p.1,.bool p.2] 1 false false])[X1.length]?=some (.cells [strv p.1,.bool p.2] 1 false false):=ZC
  have c12:=k2 _ _ c1
  generalize X1++[Zf.cells [strv p.1,.bool p.2] 1 false false]=X2 at z2 k2 c2 c12
  have d2 : ldA 2 (pt X1.length) X2=some (ZaS p,X2):=ZQ (n:=2) c2 rfl
  have zb : bld (.agg #[.string ⟨#[]⟩,.bool false]) [] X2=some (ZaS ([],false),X2):=rfl
  cases hs : (Ze k s.A).isSome
  ·have he : Zr k s.A=8:=by unfold Zr;rw [hnm,hs];rfl
   have hp : p=([],false):=by
    rw [← hv]
    cases ha : Ze k s.A with
    | none=>rfl
    | some v=>rw [ha] at hs;cases hs
   rw [hs] at e2
   rw [he]
   refine ⟨X2.set X.length (.cells [strv [],.bool false] 1 false false),f1 _ _ ?_,put (k1.trans k2)⟩
   unfold ZaI
   rw [Za z1,Za e1,Za q1,Zb,if_neg (by simp),Za Zu,Za Zg,Za h1.l0,Za e2,Za Zt,Za Zs,z2,Za ZF,Zb,if_pos (by rfl),Za zb]
   refine (fin _ _ _ c12).trans ?_
   rw [hp]
   rfl
  ·have he : Zr k s.A=0:=by unfold Zr;rw [hnm,hs];rfl
   rw [hs] at e2
   rw [he]
   refine ⟨X2.set X.length (.cells [strv p.1,.bool p.2] 1 false false),f1 _ _ ?_,put (k1.trans k2)⟩
   unfold ZaI
   rw [Za z1,Za e1,Za q1,Zb,if_neg (by simp),Za Zu,Za Zg,Za h1.l0,Za e2,Za Zt,Za Zs,z2,Za ZF,Zb,if_neg (by simp),Za d2]
   exact fin _ _ _ c12
theorem ZxP (h : ND X d r s c) : ∃ u q X',R (n+7) WE [pt d,strv k] X=some (.tuple #[.agg u.cells.toArray,iv (Zr k s.A)],X')∧Zw X' u.gv (u.gs.map strv) q∧(∀ j∈q,X.length≤j)∧HLe X X'∧u.gs.length≤6∧
  ZI u=if Zr k s.A=0 then Qe s k ((Ze k s.A).getD ([],false)) else ([],[],[],false,[]):=by
 have z1 : alc 1 (.agg #[.string ⟨#[]⟩,.string ⟨#[]⟩,.string ⟨#[]⟩,.bool false,.slice none 0 0]) X=some (pt X.length,X++[.cells (usr ([],[])) 1 false false]):=K4 (vs:=usr ([],[])) rfl
 have k1 : HLe X (X++[Zf.cells (usr ([],[])) 1 false false]):=.app _ _
 have c1 : (X++[Zf.cells (usr ([],[])) 1 false false])[X.length]?=some (.cells (usr ([],[])) 1 false false):=ZC
 generalize X++[Zf.cells (usr ([],[])) 1 false false]=X1 at z1 k1 c1
 obtain ⟨X2,e2,k2⟩:=Zv5 (n:=n) (k:=k) (h.hle k1)
 have f1 : ∀ v X',ZaW (R (n+6)) (pt d) (strv k) X=some (v,X')→R (n+7) WE [pt d,strv k] X=some (v,X'):=fun v X' hr=>by rw [R,Zk8 rfl];exact hr
 generalize hp : (if Zo k then (Ze k s.A).getD ([],false) else ([],false))=p at e2
 have z2 : ∀ K : Value→M Value,bind (alc 1 (.agg #[.string ⟨#[]⟩,.bool false])) (fun q=>bind (stA 2 q (ZaS p)) fun _=>K q) X2=K (pt X2.length) (X2++[.cells [strv p.1,.bool p.2] 1 false false]):=fun K=>Zao (n:=2) (zs:=[strv [],.bool false]) (r:=[strv p.1,.bool p.2]) rfl rfl rfl rfl
 have k3 : HLe X2 (X2++[Zf.cells [strv p.1,.bool p.2] 1 false false]):=.app _ _
 have c3 : (X2++[Zf.cells [strv p.1,.bool p.2] 1 false false])[X2.length]?=some (.cells [strv p.1,.bool p.2] 1 false false):=ZC
 have hlx : X.length < X2.length:=by have:=Ql c1;have:=k2.len;omega
 generalize X2++[Zf.cells [strv p.1,.bool p.2] 1 false false]=X3 at z2 k3 c3
 have c13:=k3 _ _ (k2 _ _ c1)
 have k13:=(k1.trans k2).trans k3
 have put : ∀ {Y : Zd} {o : Zf},HLe X Y→HLe X (Y.set X.length o):=fun hl i v hi=>by
  have:=Ql hi
  rw [List.getElem?_set_ne (by omega)]
  exact hl i v hi
 by_cases he : Zr k s.A=0
 ·obtain ⟨hnm,q0,hq0⟩:=Zim he
  have hpq : p=q0:=by rw [← hp,hnm,hq0];rfl
  subst hpq
  have q1 : bop .int .neq (iv (Zr k s.A)) (.int .i64 0) X3=some (.bool false,X3):=by rw [Zq,he];rfl
  have h3:=h.hle k13
  have e4 : R (n+6) Zct [pt r.x,strv k] X3=_:=ZCk (n:=n+5) h3.ix
  have a0 : ∀ Y,HLe X3 Y→ld1 (pa X2.length 0) Y=some (strv p.1,Y):=fun Y hl=>Zv (hl _ _ c3) rfl
  have a1 : ∀ Y,HLe X3 Y→ld1 (pa X2.length 1) Y=some (.bool p.2,Y):=fun Y hl=>Zv (hl _ _ c3) rfl
  obtain ⟨gv,q,X4,e5,r5,k5,o5⟩:=Zsq (n:=n+2) (m:=k) h3.gr
  have e5 : R (n+6) J4 [pt r.g,strv k] X3=_:=e5
  rw [h.ks] at r5
  have hfew : (ofL k s.K s.mem).length≤6:=by
   have h1:=Zfu (m:=k) (K:=s.K) (mem:=s.mem)
   have h2:=h.gr.few
   have h3 : s.K.length=r.G.length:=by rw [← h.ks];simp
   omega
  have hone:=r5.one
  have zb : bld (.agg #[.string ⟨#[]⟩,.string ⟨#[]⟩,.string ⟨#[]⟩,.bool false,.slice none 0 0]) [(0,1,strv k),(1,1,strv p.1),(2,1,strv ((Ze k s.OF).getD [])),(3,1,.bool p.2),(4,1,gv)] X4=some (.agg (Zj.cells ⟨k,p.1,(Ze k s.OF).getD [],p.2,gv,ofL k s.K s.mem⟩).toArray,X4):=by
   obtain ⟨ga,gn,gc,hgv⟩ : ∃ a n c,gv=.slice a n c:=by
    rcases r5 with ⟨_,_,h⟩ | ⟨_,_,_,h,_,_⟩
    ·exact ⟨_,_,_,h⟩
    ·exact ⟨_,_,_,h⟩
   rw [hgv]
   simp [bld,W9,Value.cells,Ks,strv,splice,Zj.cells]
  have c14:=k5 _ _ c13
  have w4:=KW (vs:=Zj.cells ⟨k,p.1,(Ze k s.OF).getD [],p.2,gv,ofL k s.K s.mem⟩) (n:=5) c14 rfl rfl (by simp only [Zj.cells,List.all_cons,hone.1];rfl)
  have d4 : ldA 5 (pt X.length) (X4.set X.length (.cells (Zj.cells ⟨k,p.1,(Ze k s.OF).getD [],p.2,gv,ofL k s.K s.mem⟩) 1 false false))=some (.agg (Zj.cells ⟨k,p.1,(Ze k s.OF).getD [],p.2,gv,ofL k s.K s.mem⟩).toArray,_):=ZQ (n:=5) (ZM c14) rfl
  refine ⟨⟨k,p.1,(Ze k s.OF).getD [],p.2,gv,ofL k s.K s.mem⟩,q,X4.set X.length (.cells (Zj.cells ⟨k,p.1,(Ze k s.OF).getD [],p.2,gv,ofL k s.K s.mem⟩) 1 false false),f1 _ _ ?_,r5.keep fun j hj=>List.getElem?_set_ne (fun e=>?_),fun j hj=>Nat.le_trans k13.len (o5 j hj),put (k13.trans k5),hfew,?_⟩
  ·unfold ZaW
   rw [Za z1,Za e2,Za Zt,Za Zs,z2,Za q1,Zb,if_neg (by simp),Za Zu,Za Zg,Za h3.l1,Za e4,Za Zt,Za Zs,Za Zg,Za (a0 _ (.refl _)),Za Zg,Za (a1 _ (.refl _)),Za Zu,Za Zg,Za h3.l2,Za e5,Za (a1 _ k5),ZZ,Za (a0 _ k5),ZZ,Za zb,Za w4,Za d4,he]
   rfl
  ·have:=o5 j hj
   have:=Ql c13
   omega
  ·rw [if_pos he,hq0]
   rfl
 ·have q1 : bop .int .neq (iv (Zr k s.A)) (.int .i64 0) X3=some (.bool true,X3):=by rw [Zq];simp [he]
  have zb : bld (.agg #[.string ⟨#[]⟩,.string ⟨#[]⟩,.string ⟨#[]⟩,.bool false,.slice none 0 0]) [] X3=some (.agg (usr ([],[])).toArray,X3):=rfl
  have w3:=KW (vs:=usr ([],[])) (n:=5) c13 rfl rfl rfl
  have d3 : ldA 5 (pt X.length) (X3.set X.length (.cells (usr ([],[])) 1 false false))=some (.agg (usr ([],[])).toArray,_):=ZQ (n:=5) (ZM c13) rfl
  refine ⟨⟨[],[],[],false,.slice none 0 0,[]⟩,[],X3.set X.length (.cells (usr ([],[])) 1 false false),f1 _ _ ?_,Zw.nil,by simp,put k13,Nat.zero_le _,by rw [if_neg he];rfl⟩
  unfold ZaW
  rw [Za z1,Za e2,Za Zt,Za Zs,z2,Za q1,Zb,if_pos rfl,Za zb,Za w3,Za d3]
  rfl
theorem ZxA (h : ND X d r s c) : R (n+1) W6 [pt d] X=some (iv s.A.length,X):=by
 rw [R,Zoz rfl]
 unfold Zgi
 rw [Za Zu,Za Zg,Za h.l0,Za h.m.len]
 rfl
theorem Zry (h : ND X d r s c) : ∃ v q X',R (n+4) KI [pt d] X=some (v,X')∧Zw X' v ((Z4 s.K).map strv) q∧HLe X X'∧∀ j∈q,X.length≤j:=by
 obtain ⟨v,q,X',e,r1,l,o⟩:=Zys (n:=n) h.gr
 have e : R (n+3) KS [pt r.g] X=_:=e
 rw [h.ks] at r1
 refine ⟨v,q,X',?_,r1,l,o⟩
 rw [R,Zl6 rfl]
 unfold Zeb
 rw [Za Zu,Za Zg,Za h.l2,Za e]
 rfl
abbrev ZbM (s : NSt) : List Tx:=s.A.map (·.1)
theorem ZzH (h : ND X d r s c) : ∃ v q X',R (n+2) Zbj [pt d] X=some (v,X')∧Zw X' v ((Z4 (ZbM s)).map strv) q∧HLe X X'∧∀ j∈q,X.length≤j:=by
 have e1 : run Tryz.prog np lvs (n+1) QI [.map (some r.b)] X=some (.func (.func Js) #[] #[pt X.length],X++[.cells [.map (some r.b)] 1 false false]):=by
  rw [Zae rfl]
  unfold Jx
  rw [Za (Zsw rfl rfl _)]
  rfl
 have l1 : HLe X (X++[.cells [.map (some r.b)] 1 false false]):=.app _ _
 obtain ⟨v,q,H2,e2,r2,l2,o2⟩:=(h.m.hle l1).keys (gks:=ZlS) (gc:=JW) (gk:=Js) (c:=X.length) (by decide) ZC (Nat.le_trans h.inv.few (by decide)) (fun p hp=>Nat.le_trans (Zch (h.inv.nm p hp).1) (by decide))
 have e2' : run Tryz.prog np lvs (n+1) Yr [.func (.func Js) #[] #[pt X.length],.func (.func JW) #[] #[]] (X++[.cells [.map (some r.b)] 1 false false])=some (v,H2):=by
  rw [Zdc (show np Yr=some (ZeU ZlS JW) from rfl)]
  exact e2
 refine ⟨v,q,H2,?_,r2,l1.trans l2,fun j hj=>Nat.le_trans l1.len (o2 j hj)⟩
 rw [R,ZmA rfl]
 unfold Ze0
 rw [Za Zu,Za Zg,Za h.l0,Za e1,Za e2']
 rfl
theorem Zw.own_of {v : Value} {vs : List Value} {q : List Nat} (h : Zw X v vs q) {i : Nat} (hi : A.own1 v=some i) : i∈q:=by
 rcases h with ⟨_,rfl,rfl⟩ | ⟨sid,rest,g,rfl,rfl,_⟩
 ·cases hi
 ·cases hi;simp
structure Zbw (X0 X : Zd) (sl : Value) (us : List Zj) (q : List Nat) : Prop where
 r : QZ 5 X sl (us.map Zj.cells) q
 o : ∀ j∈q,X0.length≤j
 u : ∀ w∈us,∃ qu,Zw X w.gv (w.gs.map strv) qu∧(∀ j∈qu,X0.length≤j∧j∉q)∧w.gs.length≤100000
 un : ∀ a∈us,∀ b∈us,∀ i,own1 a.gv=some i→own1 b.gv=some i→a=b
theorem Zbw.us {X0 X : Zd} {sl : Value} {us : List Zj} {q : List Nat} (h : Zbw X0 X sl us q) : Qg X sl us:=⟨h.r.rd,fun w hw=>by
 obtain ⟨qu,h1,_,h2⟩:=h.u w hw
 exact ⟨h1.rd,h1.one.1,by omega⟩⟩
theorem Zbw.hle {X0 X Y : Zd} {sl : Value} {us : List Zj} {q : List Nat} (h : Zbw X0 X sl us q) (hl : HLe X Y) : Zbw X0 Y sl us q:=
 ⟨h.r.step hl.step (by simp),h.o,fun w hw=>by
  obtain ⟨qu,h1,h2,h3⟩:=h.u w hw
  exact ⟨qu,h1.step hl.step (by simp),h2,h3⟩,h.un⟩
theorem Zbw.push0 {X0 : Zd} {sl : Value} {us : List Zj} {q qu : List Nat} {w : Zj} (h : Zbw X0 X sl us q) (hl : us.length≤1000) (hr : Zw X w.gv (w.gs.map strv) qu) (hq : ∀ j∈qu,X0.length≤j∧j∉q) (h6 : w.gs.length≤100000) (hfr : ∀ a∈us,∀ i,own1 a.gv=some i→i∉qu) (hX : X0.length≤X.length) :
  ∃ x X1 sl' X2 q',bsl 5 1 (.agg #[.string ⟨#[]⟩,.string ⟨#[]⟩,.string ⟨#[]⟩,.bool false,.slice none 0 0]) [(0,5,.agg w.cells.toArray)] X=some (x,X1)∧app 5 80 sl x X1=some (sl',X2)∧Zbw X0 X2 sl' (us++[w]) q'∧Zx q X q' X2:=by
 have hone : w.cells.all oneCell=true:=by simp only [Zj.cells,List.all_cons,hr.one.1];rfl
 have x4:=Zws (es:=5) (z:=.agg #[.string ⟨#[]⟩,.string ⟨#[]⟩,.string ⟨#[]⟩,.bool false,.slice none 0 0]) (H:=X) rfl (show w.cells.length=5 from rfl) hone
 have l1 : HLe X (X++[Zf.cells w.cells 5 false false]):=.app _ _
 have s1 : SlN 5 (X++[Zf.cells w.cells 5 false false]) (.slice (some ⟨X.length,0,none⟩) 1 1) [w.cells]:=SlN.whole (rows:=[w.cells]) (c:=1) (e:=5) (g:=false) (ro:=false) (by rw [ZC];simp) (by simp)
 generalize X++[Zf.cells w.cells 5 false false]=X1 at x4 l1 s1
 have h1:=h.hle l1
 obtain ⟨sl',X2,q',x5,hn2,s2⟩:=h1.r.push (b:=80) s1 rfl (by simp;omega) (by simp;omega)
 have hX1:=l1.len
 have hm2 : ∀ j∈q',X0.length≤j:=fun j hj=>by
  rcases s2.own j hj with h2 | h2
  ·exact h.o j h2
  ·omega
 rw [← List.map_singleton (f:=Zj.cells),← List.map_append] at hn2
 have hnew : ∀ (v : Zj) (qv : List Nat),Zw X1 v.gv (v.gs.map strv) qv→(∀ j∈qv,X0.length≤j∧j∉q)→Zw X2 v.gv (v.gs.map strv) qv∧∀ j∈qv,X0.length≤j∧j∉q':=fun v qv hv hj=>⟨hv.step s2 (fun j hm=>(hj j hm).2),fun j hm=>⟨(hj j hm).1,fun hq=>by
  rcases s2.own j hq with h2 | h2
  ·exact (hj j hm).2 h2
  ·have:=hv.lt j hm;omega⟩⟩
 refine ⟨_,X1,sl',X2,q',x4,x5,⟨hn2,hm2,fun v hv=>?_,fun a ha b hb i hai hbi=>?_⟩,l1.stepq.trans s2⟩
 ·rcases List.mem_append.1 hv with hv | hv
  ·obtain ⟨qv,a1,a2,a3⟩:=h1.u v hv
   obtain ⟨b1,b2⟩:=hnew v qv a1 a2
   exact ⟨qv,b1,b2,a3⟩
  ·have hv : v=w:=by simpa using hv
   subst hv
   obtain ⟨b1,b2⟩:=hnew v qu (hr.step l1.step (by simp)) hq
   exact ⟨qu,b1,b2,h6⟩
 ·rcases List.mem_append.1 ha with ha | ha <;> rcases List.mem_append.1 hb with hb | hb
  ·exact h.un a ha b hb i hai hbi
  ·have hb : b=w:=by simpa using hb
   rw [hb] at hbi
   exact absurd (hr.own_of hbi) (hfr a ha i hai)
  ·have ha : a=w:=by simpa using ha
   rw [ha] at hai
   exact absurd (hr.own_of hai) (hfr b hb i hbi)
  ·have ha : a=w:=by simpa using ha
   have hb : b=w:=by simpa using hb
   rw [ha,hb]
theorem Zbw.push {X0 : Zd} {sl : Value} {us : List Zj} {q qu : List Nat} {w : Zj} (h : Zbw X0 X sl us q) (hl : us.length≤1000) (hr : Zw X w.gv (w.gs.map strv) qu) (hq : ∀ j∈qu,X0.length≤j∧j∉q) (h6 : w.gs.length≤100000) (hfr : ∀ a∈us,∀ i,own1 a.gv=some i→i∉qu) (hle : HLe X0 X) :
  ∃ x X1 sl' X2 q',bsl 5 1 (.agg #[.string ⟨#[]⟩,.string ⟨#[]⟩,.string ⟨#[]⟩,.bool false,.slice none 0 0]) [(0,5,.agg w.cells.toArray)] X=some (x,X1)∧app 5 80 sl x X1=some (sl',X2)∧Zbw X0 X2 sl' (us++[w]) q'∧HLe X0 X2:=by
 obtain ⟨x,X1,sl',X2,q',a,b,c,e⟩:=h.push0 hl hr hq h6 hfr hle.len
 exact ⟨x,X1,sl',X2,q',a,b,c,(hle.more e h.o).1⟩
theorem Zv1 {v : Value} {q0 : List Nat} {ks : List Tx} {X0 : Zd} (h : ND X0 d r s c) (hr : Zw X0 v (ks.map strv) q0) (hk : ks.length≤100) (hK : ∀ k∈ks,Zr k s.A=0) : ∀ (t j : Nat) (sl : Value) (q : List Nat) (us : List Zj) (X : Zd),ks.length - j=t→j≤ks.length→us.length≤j→HLe X0 X→Zbw X0 X sl us q→
  ∃ X' sl' q' us',Zi (c5 (KF.l1 (R (n+7)))) [pt d,sl,v,iv ks.length,iv j] X=some (.ext 0 [sl'],X')∧Zbw X0 X' sl' (us++us') q'∧us'.map ZI=(ks.drop j).map (fun k=>Qe s k ((Ze k s.A).getD ([],false)))∧HLe X0 X'
 | 0,j,sl,q,us,X,ht,hj,hu,hl,ho=>by
  have : j=ks.length:=by omega
  subst this
  rw [List.drop_length]
  refine ⟨X,sl,q,[],ZN ?_,by rw [List.append_nil];exact ho,rfl,hl⟩
  rw [Qs]
  unfold KF.l1
  rw [Za Zk,Zb,if_neg (by simp)]
  rfl
 | t+1,j,sl,q,us,X,ht,hj,hu,hl,ho=>by
  have hjl : j < ks.length:=by omega
  have hlt : (j : Int) < ks.length:=by omega
  have hg:=List.getElem?_eq_getElem hjl
  have hd:=List.drop_eq_getElem_cons hjl
  generalize ks[j]=k at hg hd
  have hrx:=hr.step hl.step (by simp)
  have x1:=hrx.ix (i:=j) (by simpa using hjl) .i64 X
  have x2:=hrx.ldx (Yt hg)
  have he:=hK k (List.mem_of_getElem? hg)
  obtain ⟨w,qw,X1,e1,r1,o1,l1,h6,hkey⟩:=ZxP (n:=n) (k:=k) (h.hle hl)
  rw [if_pos he] at hkey
  rw [he] at e1
  have ho1:=ho.hle l1
  have hone : w.cells.all oneCell=true:=by simp only [Zj.cells,List.all_cons,r1.one.1];rfl
  have z2 : ∀ K : Value→M Out,bind (alc 1 (.agg #[.string ⟨#[]⟩,.string ⟨#[]⟩,.string ⟨#[]⟩,.bool false,.slice none 0 0])) (fun p=>bind (stA 5 p (.agg w.cells.toArray)) fun _=>K p) X1=K (pt X1.length) (X1++[.cells w.cells 1 false false]):=fun K=>Zao (n:=5) (zs:=[.string ⟨#[]⟩,.string ⟨#[]⟩,.string ⟨#[]⟩,.bool false,.slice none 0 0]) (r:=w.cells) rfl rfl rfl hone
  have k2 : HLe X1 (X1++[Zf.cells w.cells 1 false false]):=.app _ _
  have c2 : (X1++[Zf.cells w.cells 1 false false])[X1.length]?=some (.cells w.cells 1 false false):=ZC
  generalize X1++[Zf.cells w.cells 1 false false]=X2 at z2 k2 c2
  have d2 : ldA 5 (pt X1.length) X2=some (.agg w.cells.toArray,X2):=ZQ (n:=5) c2 rfl
  have hq : ∀ i∈qw,X0.length≤i∧i∉q:=fun i hi=>by
   have h1:=o1 i hi
   have h2:=hl.len
   exact ⟨by omega,fun hm=>by have:=ho.r.lt i hm;omega⟩
  obtain ⟨y,X3,sl',X4,q',a1,a2,ho4,l4⟩:=(ho1.hle k2).push (by omega) (r1.step k2.step (by simp)) hq (by omega) (fun a ha i hi hm=>by obtain ⟨qa,b1,_,_⟩:=ho.u a ha;have h1:=b1.lt i (b1.own_of hi);have h2:=o1 i hm;omega) ((hl.trans l1).trans k2)
  obtain ⟨X5,sl5,q5,us5,e5,o5,u5,l5⟩:=Zv1 h hr hk hK t (j+1) sl' q' (us++[w]) X4 (by omega) (by omega) (by rw [List.length_append,List.length_singleton];omega) l4 ho4
  refine ⟨X5,sl5,q5,w :: us5,(ZA ?_).trans e5,by rw [List.append_assoc] at o5;exact o5,?_,l5⟩
  ·rw [Qs]
   unfold KF.l1
   rw [Za Zk,Zb,if_pos (by simpa using hlt),Za x1,Za x2,Za e1,Za Zt,Za Zs,z2,Za d2,Za a1,Za a2,Za ZB,Qi (by omega)]
   rfl
  ·rw [hd,List.map_cons,List.map_cons,u5,hkey]
def allK (s : NSt) : List Kp:=(Z4 (ZbM s)).map fun k=>Qe s k ((Ze k s.A).getD ([],false))
theorem Zzk (h : ∀ p∈s.A,Zo p.1=true) {k : Tx} (hk : k∈ZbM s) : Zr k s.A=0:=by
 obtain ⟨p,hp,rfl⟩:=List.mem_map.1 hk
 unfold Zr
 rw [h p hp,Zjf,decide_eq_true (List.mem_map.2 ⟨p,hp,rfl⟩)]
 rfl
theorem ZxY (h : ND X d r s c) : ∃ v q us X',R (n+8) Zbc [pt d] X=some (v,X')∧Zbw X X' v us q∧us.map ZI=allK s∧HLe X X':=by
 obtain ⟨v,q,X1,e1,r1,l1,o1⟩:=ZzH (n:=n+5) h
 have e1 : R (n+7) Zbj [pt d] X=_:=e1
 have hfew : (Z4 (ZbM s)).length≤12:=by
  rw [KY]
  have:=h.inv.few
  simpa using this
 obtain ⟨X2,sl,q2,us,e2,o2,u2,l2⟩:=Zv1 (n:=n) (h.hle l1) r1 (by omega) (fun k hk=>Zzk (fun p hp=>(h.inv.nm p hp).1) (KX.1 hk)) (Z4 (ZbM s)).length 0 (.slice none 0 0) [] [] X1 (by omega) (by omega) (Nat.le_refl _) (.refl _) ⟨QZ.nil,by simp,by simp,by simp⟩
 have e2 : Zi (c5 (KF.l1 (R (n+7)))) [pt d,.slice none 0 0,v,iv (Z4 (ZbM s)).length,.int .i64 0] X1=_:=e2
 rw [List.nil_append] at o2
 rw [List.drop_zero] at u2
 have hlen : Zy v X1=some (iv (Z4 (ZbM s)).length,X1):=by have:=r1.rd.len (H':=X1);simpa using this
 have hx:=l1.len
 refine ⟨sl,q2,us,X2,?_,⟨o2.r,fun j hj=>Nat.le_trans hx (o2.o j hj),fun w hw=>?_,o2.un⟩,u2,l1.trans l2⟩
 ·rw [R,Zpj rfl]
  unfold KF
  rw [Za e1,Za hlen,Z5 e2,ZG]
  rfl
 ·obtain ⟨qu,a1,a2,a3⟩:=o2.u w hw
  exact ⟨qu,a1,fun j hj=>⟨Nat.le_trans hx (a2 j hj).1,(a2 j hj).2⟩,a3⟩
end
end Go.Proofs.YtedkoimihknggaaGreatDoor.A
namespace Go.Proofs.YtedkoimihknggaaGreatDoor.A
set_option linter.unusedVariables false
set_option linter.unusedSimpArgs false
open Go.Proofs Go.Proofs.YtedkoimihknggaaGreatDoor
def ZY (k : Tx) (A : AMp) : Acc:=(Ze k A).getD ([],false)
def QK (k h : Tx) (A : AMp) : Int:=if Zo k then (if WB h then (if (Ze k A).isSome then 9 else if 12≤A.length then 7 else 0) else 4) else 10
def Ky (k h : Tx) (s : NSt) : NSt:=if QK k h s.A=0 then { s with A:=Qr k (h,false) s.A } else s
def YW (k : Tx) (s : NSt) : NSt:=if Zr k s.A=0 then { s with A:=JY k s.A,OW:=W3 k s.OW s.OF,OF:=Ku k s.OF,mem:=Zcu k s.mem } else s
def Qt (k h : Tx) (A : AMp) : Int:=if Zo k then (if WB h then (if (Ze k A).isSome then (if (ZY k A).2 then 12 else 0) else 8) else 4) else 10
def YB (k h : Tx) (s : NSt) : NSt:=if Qt k h s.A=0 then { s with A:=Qr k (h,(ZY k s.A).2) s.A } else s
def QE (k m : Tx) (s : NSt) : Int:=if Zo k then (if m≠[]∧QB m=false then 11 else if (Ze k s.A).isSome then Yp k m s.OW else 8) else 10
def QW (k m : Tx) (s : NSt) : NSt:=if QE k m s=0 then { s with OW:=Zig k m s.OW s.OF,OF:=ZbW k m s.OW s.OF } else s
def Jt (k : Tx) (b : Bool) (A : AMp) : Int:=if Zr k A=0 then (if (ZY k A).2=b then 12 else 0) else Zr k A
def J9 (k : Tx) (b : Bool) (s : NSt) : NSt:=if Jt k b s.A=0 then { s with A:=Qr k ((ZY k s.A).1,b) s.A } else s
def Jp (o t : Tx) (A : AMp) : Int:=if Zo o && Zo t then (if (Ze o A).isSome then (if (Ze t A).isSome then 9 else 0) else 8) else 10
def KZ (o t : Tx) (s : NSt) : NSt:=if Jp o t s.A=0 then { s with A:=Qr t (ZY o s.A) (JY o s.A),OW:=Zop o t s.OW s.OF,OF:=Zfn o t s.OF,mem:=WT o t s.mem } else s
def ZhH (g : Tx) (s : NSt) : NSt:={ s with K:=Zcf g s.K }
def Ze5 (g : Tx) (s : NSt) : NSt:={ s with K:=ZbL g s.K,mem:=if QP g s.K=0 then ZaD g s.mem else s.mem }
def JJ (g k : Tx) (A : AMp) : Int:=if Zo g then Zr k A else 10
def Kl (g k : Tx) (s : NSt) : Int:=if JJ g k s.A=0 then W0 g k s.K s.mem else JJ g k s.A
def Zaq (g k : Tx) (s : NSt) : NSt:=if Kl g k s=0 then { s with mem:=ZaU g k s.mem } else s
def YG (g k : Tx) (s : NSt) : Int:=if JJ g k s.A=0 then Zbz g k s.K s.mem else JJ g k s.A
def Wc (g k : Tx) (s : NSt) : NSt:=if YG g k s=0 then { s with mem:=Zb1 g k s.mem } else s
theorem Zbo {α : Type} {k j : Tx} {v : α} {m : List (Tx × α)} (h : (Ze j m).isSome=true∨j=k) : (Ze j (Qr k v m)).isSome=true:=by
 by_cases e : j=k
 ·rw [e,Kb];rfl
 ·rw [JZ e];exact h.resolve_right e
theorem JK.putA {s : NSt} (h : JK s) {k : Tx} {v : Acc} (hk : Zo k=true) (hv : WB v.1=true) (hl : (Ze k s.A).isSome=true∨s.A.length < 12) : JK { s with A:=Qr k v s.A } where
 nm p hp:=by
  rcases ZiP hp with rfl | hp
  ·exact ⟨hk,hv⟩
  ·exact h.nm p hp
 few:=by
  show (Qr k v s.A).length≤12
  rw [Zfx]
  have:=h.few
  split
  ·exact this
  ·rename_i hn
   rcases hl with h1 | h1
   ·exact absurd h1 hn
   ·omega
 ofA n hn:=Zbo (.inl (h.ofA n hn))
 memA g n hn:=Zbo (.inl (h.memA g n hn))
 good:=h.good
theorem ZhV {k h : Tx} {A : AMp} (he : QK k h A=0) : Zo k=true∧WB h=true∧Ze k A=none∧A.length < 12:=by
 unfold QK at he
 cases h1 : Zo k <;> cases h2 : WB h <;> rw [h1,h2] at he <;> try simp at he
 by_cases h3 : (Ze k A).isSome=true
 ·rw [if_pos h3] at he;simp at he
 ·rw [if_neg h3] at he
  by_cases h4 : 12≤A.length
  ·rw [if_pos h4] at he;simp at he
  ·exact ⟨rfl,rfl,by simpa using h3,by omega⟩
theorem JK.create {s : NSt} (h : JK s) (k x : Tx) : JK (Ky k x s):=by
 unfold Ky
 split
 ·rename_i he
  obtain ⟨h1,h2,h3,h4⟩:=ZhV he
  exact h.putA h1 h2 (.inr h4)
 ·exact h
theorem JK.delete {s : NSt} (h : JK s) (k : Tx) : JK (YW k s):=by
 unfold YW
 split
 ·exact {
   nm:=fun p hp=>h.nm p (List.mem_filter.1 hp).1
   few:=Nat.le_trans (List.length_filter_le _ _) h.few
   ofA:=fun n hn=>by
    have hne : n≠k:=fun e=>by rw [e,Zdm] at hn;cases hn
    show (Ze n (JY k s.A)).isSome=true
    rw [Q6 hne]
    rw [ZdX hne] at hn
    exact h.ofA n hn
   memA:=fun g n hn=>by
    have hn : (s.mem g n && !(n==k))=true:=hn
    simp only [Bool.and_eq_true,Bool.not_eq_true',beq_eq_false_iff_ne] at hn
    show (Ze n (JY k s.A)).isSome=true
    rw [Q6 hn.2]
    exact h.memA g n hn.1
   good:=fun n m hn=>by
    have hne : n≠k:=fun e=>by
     have hn : Ze n (Ku k s.OF)=some m:=hn
     rw [e,Zdm] at hn;cases hn
    have hn : Ze n (Ku k s.OF)=some m:=hn
    rw [ZdX hne] at hn
    exact h.good n m hn }
 ·exact h
theorem Zc3 {k : Tx} {A : AMp} (h : (Ze k A).isSome=true) : Ze k A=some (ZY k A):=by
 unfold ZY
 cases ha : Ze k A with
 | none=>rw [ha] at h;cases h
 | some p=>rfl
theorem Zje {k h : Tx} {A : AMp} (he : Qt k h A=0) : Zo k=true∧WB h=true∧(Ze k A).isSome=true∧(ZY k A).2=false:=by
 unfold Qt at he
 cases h1 : Zo k <;> cases h2 : WB h <;> rw [h1,h2] at he <;> try simp at he
 cases h3 : (Ze k A).isSome <;> cases h4 : (ZY k A).2 <;> rw [h3,h4] at he <;> simp at he
 exact ⟨rfl,rfl,rfl,rfl⟩
theorem JK.setHash {s : NSt} (h : JK s) (k x : Tx) : JK (YB k x s):=by
 unfold YB
 split
 ·rename_i he
  obtain ⟨h1,h2,h3,h4⟩:=Zje he
  exact h.putA h1 h2 (.inl h3)
 ·exact h
theorem Zwh {k : Tx} {b : Bool} {A : AMp} (he : Jt k b A=0) : Zr k A=0∧(ZY k A).2≠b:=by
 unfold Jt at he
 by_cases h1 : Zr k A=0
 ·rw [if_pos h1] at he
  refine ⟨h1,fun e=>?_⟩
  rw [if_pos e] at he;simp at he
 ·rw [if_neg h1] at he;exact absurd he h1
theorem JK.disable {s : NSt} (h : JK s) (k : Tx) (b : Bool) : JK (J9 k b s):=by
 unfold J9
 split
 ·rename_i he
  obtain ⟨h1,_⟩:=Zwh he
  obtain ⟨h2,p,h3⟩:=Zim h1
  have h4 : (Ze k s.A).isSome=true:=by rw [h3];rfl
  refine h.putA h2 ?_ (.inl h4)
  have:=h.nm _ (Wk (Zc3 h4))
  exact this.2
 ·exact h
theorem Zpz {k m : Tx} {s : NSt} (he : QE k m s=0) : Zo k=true∧(m=[]∨QB m=true)∧(Ze k s.A).isSome=true∧Yp k m s.OW=0:=by
 unfold QE at he
 cases h1 : Zo k
 ·rw [h1] at he;simp at he
 ·rw [h1] at he
  simp only [if_true] at he
  by_cases h2 : m≠[]∧QB m=false
  ·rw [if_pos h2] at he;simp at he
  ·rw [if_neg h2] at he
   cases h3 : (Ze k s.A).isSome
   ·rw [h3] at he;simp at he
   ·rw [h3] at he
    simp only [if_true] at he
    refine ⟨rfl,?_,rfl,he⟩
    by_cases h4 : m=[]
    ·exact .inl h4
    ·refine .inr ?_
     cases h5 : QB m
     ·exact absurd ⟨h4,h5⟩ h2
     ·rfl
theorem Zel {k m : Tx} {OW OF : YU} (he : Yp k m OW=0) (n : Tx) : Ze n (ZbW k m OW OF)=if n=k then (if m=[] then none else some (Z7 m)) else Ze n OF:=by
 unfold ZbW
 rw [if_pos he]
 by_cases hm : m=[]
 ·rw [if_pos hm,if_pos hm]
  by_cases hn : n=k
  ·rw [if_pos hn,hn,Zdm]
  ·rw [if_neg hn,ZdX hn]
 ·rw [if_neg hm,if_neg hm]
  by_cases hn : n=k
  ·rw [if_pos hn,hn,Kb]
  ·rw [if_neg hn,JZ hn,ZdX hn]
theorem Znr {m : Tx} : Z7 (Z7 m)=Z7 m:=by
 unfold Z7
 rw [List.map_map]
 refine List.map_congr_left fun b _=>?_
 exact (Zg7 (p:=fun b=>KE (KE b)=KE b) (by decide+kernel)) b
theorem ZuT {m : Tx} (h : QB m=true) : QB (Z7 m)=true:=by
 unfold QB at h ⊢
 rw [Znr,show (Z7 m).length=m.length from by simp [Z7]]
 exact h
theorem JK.setMail {s : NSt} (h : JK s) (k m : Tx) : JK (QW k m s):=by
 unfold QW
 split
 ·rename_i he
  obtain ⟨h1,h2,h3,h4⟩:=Zpz he
  exact {
   nm:=h.nm
   few:=h.few
   ofA:=fun n hn=>by
    have hn : (Ze n (ZbW k m s.OW s.OF)).isSome=true:=hn
    rw [Zel h4] at hn
    by_cases e : n=k
    ·rw [e];exact h3
    ·rw [if_neg e] at hn;exact h.ofA n hn
   memA:=h.memA
   good:=fun n v hn=>by
    have hn : Ze n (ZbW k m s.OW s.OF)=some v:=hn
    rw [Zel h4] at hn
    by_cases e : n=k
    ·rw [if_pos e] at hn
     by_cases hm : m=[]
     ·rw [if_pos hm] at hn;cases hn
     ·rw [if_neg hm] at hn
      have hv : Z7 m=v:=Option.some.inj hn
      rw [← hv]
      exact ⟨ZuT (h2.resolve_left hm),Znr⟩
    ·rw [if_neg e] at hn;exact h.good n v hn }
 ·exact h
theorem ZhR {o t : Tx} {A : AMp} (he : Jp o t A=0) : Zo o=true∧Zo t=true∧(Ze o A).isSome=true∧Ze t A=none∧o≠t:=by
 unfold Jp at he
 cases h1 : Zo o <;> cases h2 : Zo t <;> rw [h1,h2] at he <;> try simp at he
 cases h3 : (Ze o A).isSome <;> cases h4 : (Ze t A).isSome <;> rw [h3,h4] at he <;> simp at he
 have h4 : Ze t A=none:=by simpa using h4
 refine ⟨rfl,rfl,rfl,h4,fun e=>?_⟩
 rw [e,h4] at h3;cases h3
theorem JK.ofN {s : NSt} (h : JK s) {t : Tx} (ht : Ze t s.A=none) : Ze t s.OF=none:=by
 cases ho : Ze t s.OF with
 | none=>rfl
 | some v=>
  have:=h.ofA t (by rw [ho];rfl)
  rw [ht] at this;cases this
theorem JK.memN {s : NSt} (h : JK s) {t : Tx} (ht : Ze t s.A=none) (g : Tx) : s.mem g t=false:=by
 cases ho : s.mem g t with
 | false=>rfl
 | true=>
  have:=h.memA g t ho
  rw [ht] at this;cases this
theorem Zmf {o t : Tx} {OF : YU} (ht : Zo t=true) (hn : Ze t OF=none) (hot : o≠t) (n : Tx) : Ze n (Zfn o t OF)=if n=t then Ze o OF else if n=o then none else Ze n OF:=by
 unfold Zfn Zdn
 rw [ht,hn]
 cases ho : Ze o OF with
 | none=>
  simp only [if_true]
  rw [if_neg (by decide)]
  by_cases h1 : n=t
  ·rw [if_pos h1,h1,hn]
  ·rw [if_neg h1]
   by_cases h2 : n=o
   ·rw [if_pos h2,h2,ho]
   ·rw [if_neg h2]
 | some m=>
  simp only [Option.isSome_none,Bool.false_and,if_true,Option.getD_some]
  rw [if_pos (by simp)]
  by_cases h1 : n=t
  ·rw [if_pos h1,h1,Kb]
  ·rw [if_neg h1,JZ h1]
   by_cases h2 : n=o
   ·rw [if_pos h2,h2,Zdm]
   ·rw [if_neg h2,ZdX h2]
theorem JK.rename {s : NSt} (h : JK s) (o t : Tx) : JK (KZ o t s):=by
 unfold KZ
 split
 ·rename_i he
  obtain ⟨h1,h2,h3,h4,h5⟩:=ZhR he
  have hof:=h.ofN h4
  exact {
   nm:=fun p hp=>by
    rcases ZiP hp with rfl | hp
    ·exact ⟨h2,(h.nm _ (Wk (Zc3 h3))).2⟩
    ·exact h.nm p (List.mem_filter.1 hp).1
   few:=by
    show (Qr t (ZY o s.A) (JY o s.A)).length≤12
    rw [Zfx]
    have hf:=h.few
    have hlt : (JY o s.A).length < s.A.length:=by
     unfold JY
     rw [List.length_filter_lt_length_iff_exists]
     exact ⟨_,Wk (Zc3 h3),by simp⟩
    split <;> omega
   ofA:=fun n hn=>by
    have hn : (Ze n (Zfn o t s.OF)).isSome=true:=hn
    rw [Zmf h2 hof h5] at hn
    show (Ze n (Qr t (ZY o s.A) (JY o s.A))).isSome=true
    by_cases e1 : n=t
    ·exact Zbo (.inr e1)
    ·rw [if_neg e1] at hn
     by_cases e2 : n=o
     ·rw [if_pos e2] at hn;cases hn
     ·rw [if_neg e2] at hn
      exact Zbo (.inl (by rw [Q6 e2];exact h.ofA n hn))
   memA:=fun g n hn=>by
    have hn : WT o t s.mem g n=true:=hn
    show (Ze n (Qr t (ZY o s.A) (JY o s.A))).isSome=true
    by_cases e1 : n=t
    ·exact Zbo (.inr e1)
    ·have hm : s.mem g n=true∧n≠o:=by
      unfold WT at hn
      cases hg : s.mem g o
      ·rw [hg] at hn
       simp only [Bool.false_eq_true,if_false] at hn
       exact ⟨hn,fun e=>by rw [e,hg] at hn;cases hn⟩
      ·rw [hg] at hn
       simp only [if_true,Bool.or_eq_true,beq_iff_eq,Bool.and_eq_true,Bool.not_eq_true',beq_eq_false_iff_ne] at hn
       rcases hn with hn | hn
       ·exact absurd hn e1
       ·exact hn
     exact Zbo (.inl (by rw [Q6 hm.2];exact h.memA g n hm.1))
   good:=fun n v hn=>by
    have hn : Ze n (Zfn o t s.OF)=some v:=hn
    rw [Zmf h2 hof h5] at hn
    by_cases e1 : n=t
    ·rw [if_pos e1] at hn;exact h.good o v hn
    ·rw [if_neg e1] at hn
     by_cases e2 : n=o
     ·rw [if_pos e2] at hn;cases hn
     ·rw [if_neg e2] at hn;exact h.good n v hn }
 ·exact h
theorem JK.make {s : NSt} (h : JK s) (g : Tx) : JK (ZhH g s):=⟨h.nm,h.few,h.ofA,h.memA,h.good⟩
theorem JK.drop {s : NSt} (h : JK s) (g : Tx) : JK (Ze5 g s):=by
 refine ⟨h.nm,h.few,h.ofA,fun k n hn=>?_,h.good⟩
 have hn : (if QP g s.K=0 then ZaD g s.mem else s.mem) k n=true:=hn
 split at hn
 ·unfold ZaD at hn
  simp only [Bool.and_eq_true] at hn
  exact h.memA k n hn.1
 ·exact h.memA k n hn
theorem ZlK {g k : Tx} {A : AMp} (h : JJ g k A=0) : Zo g=true∧Zr k A=0:=by
 unfold JJ at h
 cases hg : Zo g
 ·rw [hg] at h;simp at h
 ·rw [hg] at h;exact ⟨rfl,h⟩
theorem JK.join {s : NSt} (h : JK s) (g k : Tx) : JK (Zaq g k s):=by
 unfold Zaq
 split
 ·rename_i he
  unfold Kl at he
  by_cases hm : JJ g k s.A=0
  ·obtain ⟨_,h2⟩:=ZlK hm
   obtain ⟨_,p,h3⟩:=Zim h2
   refine ⟨h.nm,h.few,h.ofA,fun j n hn=>?_,h.good⟩
   have hn : (s.mem j n || (j==g && n==k))=true:=hn
   simp only [Bool.or_eq_true,Bool.and_eq_true,beq_iff_eq] at hn
   rcases hn with hn | ⟨_,hn⟩
   ·exact h.memA j n hn
   ·show (Ze n s.A).isSome=true
    rw [hn,h3];rfl
  ·rw [if_neg hm] at he;exact absurd he hm
 ·exact h
theorem JK.leave {s : NSt} (h : JK s) (g k : Tx) : JK (Wc g k s):=by
 unfold Wc
 split
 ·refine ⟨h.nm,h.few,h.ofA,fun j n hn=>?_,h.good⟩
  have hn : (s.mem j n && !(j==g && n==k))=true:=hn
  simp only [Bool.and_eq_true] at hn
  exact h.memA j n hn.1
 ·exact h
end Go.Proofs.YtedkoimihknggaaGreatDoor.A
namespace Go.Proofs.YtedkoimihknggaaGreatDoor.A
set_option linter.unusedVariables false
set_option linter.unusedSimpArgs false
open Go.Proofs Go.Proofs.YtedkoimihknggaaGreatDoor
section
variable {X X' : Zd} {n d c c' : Nat} {r : NR} {s : NSt} {k h m t o g : Tx}
theorem NR.mem_b (r : NR) : r.b∈r.own:=by simp [NR.own]
theorem NR.mem_o (r : NR) : r.o∈r.own:=by simp [NR.own]
theorem NR.mem_a (r : NR) : r.a∈r.own:=by simp [NR.own]
theorem NR.mem_g (r : NR) : ∀ j∈Q5 r.o2 r.G,j∈r.own:=fun j hj=>by
 unfold NR.own
 exact List.mem_cons_of_mem _ (List.mem_cons_of_mem _ (List.mem_cons_of_mem _ hj))
theorem ND0.more (hd : ND0 X d r s c) (hc : c≤c') : ND0 X d r s c':=⟨hd.cell,hd.m,hd.ix,hd.gr.more hc (fun _ _=>rfl),hd.ks,hd.dis⟩
theorem ND0.setA (hd : ND0 X d r s c) {A' : AMp} (m' : J8 ZaS X' r.b A') (hs : Zx [r.b] X [r.b] X') : ND0 X' d r { s with A:=A' } c∧Zx r.own X r.own X':=by
 obtain ⟨h1,h2,h3,_,_⟩:=hd.dis
 have nb : ∀ {j},j∉r.own→j∉[r.b]:=fun hj e=>hj (by rw [List.mem_singleton.1 e];exact r.mem_b)
 refine ⟨⟨hs.get hd.cell (nb hd.dnot),m',hd.ix.step hs (nb hd.xnot) (by simpa using Ne.symm h1) (by simpa using Ne.symm h2),hd.gr.step hs (nb hd.gnot) (fun j hj e=>h3 ?_),hd.ks,hd.dis⟩,hs.mono2 (by simpa using r.mem_b)⟩
 rw [← List.mem_singleton.1 e];exact hj
theorem ND0.setI (hd : ND0 X d r s c) {OW' OF' : YU} (i' : Idx X' r.x r.o r.a OW' OF') (hs : Zx [r.o,r.a] X [r.o,r.a] X') : ND0 X' d r { s with OW:=OW',OF:=OF' } c∧Zx r.own X r.own X':=by
 obtain ⟨h1,h2,h3,h4,h5⟩:=hd.dis
 have no : ∀ j∈[r.o,r.a],j∈r.own:=fun j hj=>by
  simp only [List.mem_cons,List.not_mem_nil,or_false] at hj
  rcases hj with rfl | rfl
  ·exact r.mem_o
  ·exact r.mem_a
 refine ⟨⟨hs.get hd.cell (fun e=>hd.dnot (no _ e)),hd.m.step hs (by simp [h1,h2]),i',hd.gr.step hs (fun e=>hd.gnot (no _ e)) (fun j hj e=>?_),hd.ks,hd.dis⟩,hs.mono2 no⟩
 simp only [List.mem_cons,List.not_mem_nil,or_false] at e
 rcases e with rfl | rfl
 ·exact h4 hj
 ·exact h5 hj
theorem ND0.setG (hd : ND0 X d r s c) {G' : Zc4} {mem' : Mem} {K' : List Tx} (g' : Grp X' r.g r.o2 G' mem' c') (hs : Zx (Q5 r.o2 r.G) X (Q5 r.o2 G') X') (hk : ZO G'=K') : ND0 X' d { r with G:=G' } { s with K:=K',mem:=mem' } c'∧Zx r.own X (NR.own { r with G:=G' }) X':=by
 obtain ⟨h1,h2,h3,h4,h5⟩:=hd.dis
 have hb:=hd.isMap r.mem_b
 have ho:=hd.isMap r.mem_o
 have ha:=hd.isMap r.mem_a
 have new : ∀ j,j < X.length→j∉Q5 r.o2 r.G→j∉Q5 r.o2 G':=fun j hj hn hm=>by
  rcases hs.own j hm with e | e
  ·exact hn e
  ·omega
 refine ⟨⟨hs.get hd.cell (fun e=>hd.dnot (r.mem_g _ e)),hd.m.step hs h3,hd.ix.step hs (fun e=>hd.xnot (r.mem_g _ e)) h4 h5,g',hk,⟨h1,h2,new _ hb.1 h3,new _ ho.1 h4,new _ ha.1 h5⟩⟩,hs.more r.mem_g (fun j hj=>?_)⟩
 unfold NR.own at hj ⊢
 rcases List.mem_cons.1 hj with rfl | hj
 ·exact .inl (by simp)
 ·rcases List.mem_cons.1 hj with rfl | hj
  ·exact .inl (by simp)
  ·rcases List.mem_cons.1 hj with rfl | hj
   ·exact .inl (by simp)
   ·exact .inr (.inl hj)
theorem Zda (hd : ND X d r s c) : ∃ (p : Nat) (X2 : Zd),(∀ {β : Type} (K : Value→Value→M β),bind (R (n+9) QY [pt d,strv k]) (fun v12=>bind (Zm v12 0) fun v13=>bind (Zm v12 1) fun v14=>bind (alc 1 (.agg #[.string ⟨#[]⟩,.bool false])) fun v7=>bind (stA 2 v7 v13) fun _=>K v7 v14) X=K (pt p) (iv (Zr k s.A)) X2)∧
  X2[p]?=some (.cells [strv (if Zo k then ZY k s.A else ([],false)).1,.bool (if Zo k then ZY k s.A else ([],false)).2] 1 false false)∧HLe X X2∧X.length≤p:=by
 obtain ⟨X1,e1,k1⟩:=Zv5 (n:=n+3) (k:=k) hd
 have e1 : R (n+9) QY [pt d,strv k] X=some (.tuple #[ZaS (if Zo k then ZY k s.A else ([],false)),iv (Zr k s.A)],X1):=e1
 generalize (if Zo k then ZY k s.A else ([],false))=a at e1
 refine ⟨X1.length,X1++[.cells [strv a.1,.bool a.2] 1 false false],fun {β} K=>?_,ZC,k1.trans (.app _ _),k1.len⟩
 rw [Za e1,Za Zt,Za Zs]
 exact Zao (n:=2) (zs:=[strv [],.bool false]) (r:=[strv a.1,.bool a.2]) (k:=fun v7=>K v7 (iv (Zr k s.A))) rfl rfl rfl rfl
theorem Zua {p : Nat} {X2 X3 : Zd} {own : List Nat} {ob : Zf} (hle : HLe X X2) (hp : X.length≤p) (hs : Zx own (X2.set p ob) own X3) : Zx own X own X3:=
 ⟨by have:=hle.len;have:=hs.len;rw [List.length_set] at this;omega,fun j hj hn=>by
  rw [hs.keep j (by rw [List.length_set];have:=hle.len;omega) hn,List.getElem?_set_ne (by omega)]
  exact hle.step.keep j hj (by simp),fun j hj=>.inl hj⟩
theorem ND0.box (hd : ND0 X d r s c) {p : Nat} {X2 : Zd} {ob : Zf} (hle : HLe X X2) (hp : X.length≤p) : ND0 (X2.set p ob) d r s c:=by
 have hs : Zx [] X [] (X2.set p ob):=⟨by rw [List.length_set];exact hle.len,fun j hj hn=>by
  rw [List.getElem?_set_ne (by omega)]
  exact hle.step.keep j hj (by simp),fun j hj=>by cases hj⟩
 exact hd.step hs (by simp) (by simp) (by simp) (by simp)
theorem ZpL {Y : Zd} : R (n+9) Zbi [strv h] Y=some (iv (Yu h),Y):=ZvV (n:=n+5)
theorem Zri (hd : ND X d r s c) : ∃ X',R (n+10) Y8 [pt d,strv k,strv h] X=some (iv (QK k h s.A),X')∧ND X' d r (Ky k h s) c∧Zx r.own X r.own X':=by
 obtain ⟨p,X2,e1,c1,k1,hp⟩:=Zda (n:=n) (k:=k) hd
 have h2:=hd.hle k1
 have f1 : ∀ v X',Za1 (R (n+9)) (pt d) (strv k) (strv h) X=some (v,X')→R (n+10) Y8 [pt d,strv k,strv h] X=some (v,X'):=fun v X' hr=>by rw [R,Zlz rfl];exact hr
 have hstep : Zx r.own X r.own X2:=k1.stepq
 by_cases he : QK k h s.A=0
 ·obtain ⟨a1,a2,a3,a4⟩:=ZhV he
  have hN : Zr k s.A=8:=by unfold Zr;rw [a1,a3];rfl
  rw [hN] at e1
  obtain ⟨X3,e3,m3,s3,_⟩:=h2.m.mup (k:=k) (v:=((h,false) : Acc))
  have e3 : mup .str (.map (some r.b)) (strv k) (ZaS (h,false)) X2=_:=e3
  obtain ⟨d3,s4⟩:=h2.toND0.setA m3 s3
  have hn : Ky k h s={ s with A:=Qr k (h,false) s.A }:=by unfold Ky;rw [if_pos he]
  rw [he,hn]
  refine ⟨X3,f1 _ _ ?_,⟨d3,by rw [← hn];exact hd.inv.create k h⟩,hstep.trans s4⟩
  have q1 : bop .int .eql (iv 8) (.int .i64 10) X2=some (.bool false,X2):=by rw [ZD];rfl
  have q2 : bop .int .neq (iv (Yu h)) (.int .i64 0) X2=some (.bool false,X2):=by rw [Zq];unfold Yu;rw [a2];rfl
  have q3 : bop .int .eql (iv 8) (.int .i64 0) X2=some (.bool false,X2):=by rw [ZD];rfl
  have q4 : bop .int .geq (iv s.A.length) (.int .i64 12) X2=some (.bool false,X2):=by rw [Qm,decide_eq_false (by omega)]
  have zb : bld (.agg #[.string ⟨#[]⟩,.bool false]) [(0,1,strv h)] X2=some (ZaS (h,false),X2):=by
   simp [bld,W9,Value.cells,Ks,strv,splice,ZaS]
  unfold Za1
  refine (e1 _).trans ?_
  rw [Za q1,Zb,if_neg (by simp),Za ZpL,Za q2,Zb,if_neg (by simp),Za q3,Zb,if_neg (by simp),Za Zu,Za Zg,Za h2.l0,Za h2.m.len,Za q4,Zb,if_neg (by simp),Za Zu,Za Zg,Za h2.l0,Za zb,Za e3]
  rfl
 ·have hn : Ky k h s=s:=by unfold Ky;rw [if_neg he]
  rw [hn]
  refine ⟨X2,f1 _ _ ?_,h2,hstep⟩
  unfold Za1
  refine (e1 _).trans ?_
  cases a1 : Zo k
  ·have hN : Zr k s.A=10:=by unfold Zr;rw [a1];rfl
   have hE : QK k h s.A=10:=by unfold QK;rw [a1];rfl
   have q1 : bop .int .eql (iv 10) (.int .i64 10) X2=some (.bool true,X2):=by rw [ZD];rfl
   rw [hN,hE,Za q1,Zb,if_pos rfl]
   rfl
  ·have hN : Zr k s.A=0∨Zr k s.A=8:=by unfold Zr;rw [a1];cases (Ze k s.A).isSome <;> simp
   have q1 : bop .int .eql (iv (Zr k s.A)) (.int .i64 10) X2=some (.bool false,X2):=by rw [ZD];rcases hN with h1 | h1 <;> rw [h1] <;> rfl
   rw [Za q1,Zb,if_neg (by simp),Za ZpL]
   cases a2 : WB h
   ·have hE : QK k h s.A=4:=by unfold QK;rw [a1,a2];rfl
    have q2 : bop .int .neq (iv (Yu h)) (.int .i64 0) X2=some (.bool true,X2):=by rw [Zq];unfold Yu;rw [a2];rfl
    rw [Za q2,Zb,if_pos rfl,hE]
    rfl
   ·have q2 : bop .int .neq (iv (Yu h)) (.int .i64 0) X2=some (.bool false,X2):=by rw [Zq];unfold Yu;rw [a2];rfl
    rw [Za q2,Zb,if_neg (by simp)]
    cases a3 : (Ze k s.A).isSome
    ·have hN : Zr k s.A=8:=by unfold Zr;rw [a1,a3];rfl
     have q3 : bop .int .eql (iv (Zr k s.A)) (.int .i64 0) X2=some (.bool false,X2):=by rw [ZD,hN];rfl
     have a4 : 12≤s.A.length:=by
      unfold QK at he
      rw [a1,a2,a3] at he
      simpa using he
     have hE : QK k h s.A=7:=by unfold QK;rw [a1,a2,a3];simp [a4]
     have q4 : bop .int .geq (iv s.A.length) (.int .i64 12) X2=some (.bool true,X2):=by rw [Qm,decide_eq_true (by omega)]
     rw [Za q3,Zb,if_neg (by simp),Za Zu,Za Zg,Za h2.l0,Za h2.m.len,Za q4,Zb,if_pos rfl,hE]
     rfl
    ·have hN : Zr k s.A=0:=by unfold Zr;rw [a1,a3];rfl
     have hE : QK k h s.A=9:=by unfold QK;rw [a1,a2,a3];rfl
     have q3 : bop .int .eql (iv (Zr k s.A)) (.int .i64 0) X2=some (.bool true,X2):=by rw [ZD,hN];rfl
     rw [Za q3,Zb,if_pos rfl,hE]
     rfl
theorem Zq8 (hd : ND X d r s c) : ∃ X',R (n+10) Ka [pt d,strv k] X=some (iv (Zr k s.A),X')∧ND X' d r (YW k s) c∧Zx r.own X r.own X':=by
 obtain ⟨p,X2,e1,c1,k1,hp⟩:=Zda (n:=n) (k:=k) hd
 have h2:=hd.hle k1
 have f1 : ∀ v X',ZaM (R (n+9)) (pt d) (strv k) X=some (v,X')→R (n+10) Ka [pt d,strv k] X=some (v,X'):=fun v X' hr=>by rw [R,ZkG rfl];exact hr
 have hstep : Zx r.own X r.own X2:=k1.stepq
 by_cases he : Zr k s.A=0
 ·obtain ⟨X3,e3,m3,s3,_⟩:=h2.m.mde (k:=k)
  obtain ⟨d3,t3⟩:=h2.toND0.setA m3 s3
  obtain ⟨X4,e4,i4,s4⟩:=Zmu (n:=n+8) (k:=k) d3.ix
  have e4 : R (n+9) Jz [pt r.x,strv k] X3=_:=e4
  obtain ⟨d4,t4⟩:=d3.setI i4 s4
  obtain ⟨X5,e5,g5,s5⟩:=ZyI (n:=n+1) (m:=k) d4.gr
  have e5 : R (n+9) Wx [pt r.g,strv k] X4=_:=e5
  obtain ⟨d5,t5⟩:=d4.setG g5 s5 hd.ks
  have q1 : bop .int .neq (iv (Zr k s.A)) (.int .i64 0) X2=some (.bool false,X2):=by rw [Zq,he];rfl
  have hn : YW k s={ s with A:=JY k s.A,OW:=W3 k s.OW s.OF,OF:=Ku k s.OF,mem:=Zcu k s.mem }:=by unfold YW;rw [if_pos he]
  have hinv:=hd.inv.delete k
  rw [hn] at hinv ⊢
  refine ⟨X5,f1 _ _ ?_,⟨d5,hinv⟩,((hstep.trans t3).trans t4).trans t5⟩
  unfold ZaM
  refine (e1 _).trans ?_
  rw [Za q1,Zb,if_neg (by simp),Za Zu,Za Zg,Za h2.l0,Za e3,Za Zu,Za Zg,Za d3.l1,Za e4,Za Zu,Za Zg,Za d4.l2,Za e5,he]
  rfl
 ·have hn : YW k s=s:=by unfold YW;rw [if_neg he]
  have q1 : bop .int .neq (iv (Zr k s.A)) (.int .i64 0) X2=some (.bool true,X2):=by rw [Zq];simp [he]
  rw [hn]
  refine ⟨X2,f1 _ _ ?_,h2,hstep⟩
  unfold ZaM
  refine (e1 _).trans ?_
  rw [Za q1,Zb,if_pos rfl]
  rfl
theorem Zwj (hd : ND X d r s c) : ∃ X',R (n+10) Wq [pt d,strv k,strv h] X=some (iv (Qt k h s.A),X')∧ND X' d r (YB k h s) c∧Zx r.own X r.own X':=by
 obtain ⟨p,X2,e1,c1,k1,hp⟩:=Zda (n:=n) (k:=k) hd
 have h2:=hd.hle k1
 have f1 : ∀ v X',Zai (R (n+9)) (pt d) (strv k) (strv h) X=some (v,X')→R (n+10) Wq [pt d,strv k,strv h] X=some (v,X'):=fun v X' hr=>by rw [R,Zko rfl];exact hr
 have hstep : Zx r.own X r.own X2:=k1.stepq
 by_cases he : Qt k h s.A=0
 ·obtain ⟨a1,a2,a3,a4⟩:=Zje he
  have hN : Zr k s.A=0:=by unfold Zr;rw [a1,a3];rfl
  rw [hN] at e1
  rw [a1] at c1
  have c1 : X2[p]?=some (.cells [strv (ZY k s.A).1,.bool (ZY k s.A).2] 1 false false):=c1
  have l1 : ld1 (pa p 1) X2=some (.bool false,X2):=by rw [Zv c1 rfl,a4]
  have w1 : st1 (pa p 0) (strv h) X2=some (undef,X2.set p (.cells [strv h,.bool (ZY k s.A).2] 1 false false)):=Kk (o:=0) c1 (by simp) rfl
  have d2 : ldA 2 (pt p) (X2.set p (.cells [strv h,.bool (ZY k s.A).2] 1 false false))=some (ZaS (h,(ZY k s.A).2),_):=ZQ (n:=2) (ZM c1) rfl
  have h3:=hd.toND0.box (ob:=.cells [strv h,.bool (ZY k s.A).2] 1 false false) k1 hp
  obtain ⟨X3,e3,m3,s3,_⟩:=h3.m.mup (k:=k) (v:=((h,(ZY k s.A).2) : Acc))
  obtain ⟨d3,s4⟩:=h3.setA m3 s3
  have hn : YB k h s={ s with A:=Qr k (h,(ZY k s.A).2) s.A }:=by unfold YB;rw [if_pos he]
  have hinv:=hd.inv.setHash k h
  rw [hn] at hinv ⊢
  rw [he]
  refine ⟨X3,f1 _ _ ?_,⟨d3,hinv⟩,Zua k1 hp s4⟩
  have q1 : bop .int .eql (iv 0) (.int .i64 10) X2=some (.bool false,X2):=by rw [ZD];rfl
  have q2 : bop .int .neq (iv (Yu h)) (.int .i64 0) X2=some (.bool false,X2):=by rw [Zq];unfold Yu;rw [a2];rfl
  have q3 : bop .int .neq (iv 0) (.int .i64 0) X2=some (.bool false,X2):=by rw [Zq];rfl
  unfold Zai
  refine (e1 _).trans ?_
  rw [Za q1,Zb,if_neg (by simp),Za ZpL,Za q2,Zb,if_neg (by simp),Za q3,Zb,if_neg (by simp),Za Zg,Za l1,Zb,if_neg (by simp),Za Zg,Za w1,Za Zu,Za Zg,Za h3.l0,Za d2,Za e3]
  rfl
 ·have hn : YB k h s=s:=by unfold YB;rw [if_neg he]
  rw [hn]
  refine ⟨X2,f1 _ _ ?_,h2,hstep⟩
  unfold Zai
  refine (e1 _).trans ?_
  cases a1 : Zo k
  ·have hN : Zr k s.A=10:=by unfold Zr;rw [a1];rfl
   have hE : Qt k h s.A=10:=by unfold Qt;rw [a1];rfl
   have q1 : bop .int .eql (iv 10) (.int .i64 10) X2=some (.bool true,X2):=by rw [ZD];rfl
   rw [hN,hE,Za q1,Zb,if_pos rfl]
   rfl
  ·rw [a1] at c1
   have c1 : X2[p]?=some (.cells [strv (ZY k s.A).1,.bool (ZY k s.A).2] 1 false false):=c1
   have hN : Zr k s.A=0∨Zr k s.A=8:=by unfold Zr;rw [a1];cases (Ze k s.A).isSome <;> simp
   have q1 : bop .int .eql (iv (Zr k s.A)) (.int .i64 10) X2=some (.bool false,X2):=by rw [ZD];rcases hN with h1 | h1 <;> rw [h1] <;> rfl
   rw [Za q1,Zb,if_neg (by simp),Za ZpL]
   cases a2 : WB h
   ·have hE : Qt k h s.A=4:=by unfold Qt;rw [a1,a2];rfl
    have q2 : bop .int .neq (iv (Yu h)) (.int .i64 0) X2=some (.bool true,X2):=by rw [Zq];unfold Yu;rw [a2];rfl
    rw [Za q2,Zb,if_pos rfl,hE]
    rfl
   ·have q2 : bop .int .neq (iv (Yu h)) (.int .i64 0) X2=some (.bool false,X2):=by rw [Zq];unfold Yu;rw [a2];rfl
    rw [Za q2,Zb,if_neg (by simp)]
    cases a3 : (Ze k s.A).isSome
    ·have hN : Zr k s.A=8:=by unfold Zr;rw [a1,a3];rfl
     have hE : Qt k h s.A=8:=by unfold Qt;rw [a1,a2,a3];rfl
     have q3 : bop .int .neq (iv (Zr k s.A)) (.int .i64 0) X2=some (.bool true,X2):=by rw [Zq,hN];rfl
     rw [Za q3,Zb,if_pos rfl,hE,hN]
     rfl
    ·have hN : Zr k s.A=0:=by unfold Zr;rw [a1,a3];rfl
     have q3 : bop .int .neq (iv (Zr k s.A)) (.int .i64 0) X2=some (.bool false,X2):=by rw [Zq,hN];rfl
     have a4 : (ZY k s.A).2=true:=by
      unfold Qt at he
      rw [a1,a2,a3] at he
      simpa using he
     have hE : Qt k h s.A=12:=by unfold Qt;rw [a1,a2,a3,a4];rfl
     have l1 : ld1 (pa p 1) X2=some (.bool true,X2):=by rw [Zv c1 rfl,a4]
     rw [Za q3,Zb,if_neg (by simp),Za Zg,Za l1,Zb,if_pos rfl,hE]
     rfl
theorem Zp0 (hd : ND X d r s c) : ∃ X',R (n+10) YH [pt d,strv k,strv m] X=some (iv (QE k m s),X')∧ND X' d r (QW k m s) c∧Zx r.own X r.own X':=by
 obtain ⟨p,X2,e1,c1,k1,hp⟩:=Zda (n:=n) (k:=k) hd
 have f1 : ∀ v X',Kn (R (n+9)) (pt d) (strv k) (strv m) X=some (v,X')→R (n+10) YH [pt d,strv k,strv m] X=some (v,X'):=fun v X' hr=>by rw [R,Zj7 rfl];exact hr
 obtain ⟨X3,e3,k3⟩:=ZsO (n:=n+1) (s:=m) (X:=X2)
 have e3 : R (n+9) Zbu [strv m] X2=_:=e3
 have k13:=k1.trans k3
 have h3:=hd.hle k13
 have hstep : Zx r.own X r.own X3:=k13.stepq
 have hgate : ∀ K : Value→M Value,bind (bop .str .neq (strv m) (Value.string ⟨#[]⟩)) (fun v28=>bind (ZH v28 true 2 (bind (bop .int .neq (iv (if QB m then 0 else 11)) (Value.int .i64 0)) fun v31=>ret [iv (if QB m then 0 else 11),v31])) (c2 fun _ q=>bind (pick v28 q (Value.bool false)) K)) X3=K (.bool (decide (m≠[]∧QB m=false))) X3:=fun K=>by
  have q0 : bop .str .neq (strv m) (.string ⟨#[]⟩) X3=some (.bool (decide (m≠[])),X3):=by
   have:=WM (a:=m) (b:=[]) (H:=X3)
   rw [show (strv [] : Value)=.string ⟨#[]⟩ from rfl] at this
   rw [this]
   by_cases h : m=[] <;> simp [h]
  have q1 : bop .int .neq (iv (if QB m then 0 else 11)) (.int .i64 0) X3=some (.bool (!QB m),X3):=by
   rw [Zq];cases QB m <;> rfl
  rw [Za q0]
  by_cases h : m=[]
  ·rw [decide_eq_false (fun e=>e h),Za (g_r.trans (if_neg (by simp)))]
   simp only [List.replicate]
   rw [Qf,Za Zn,decide_eq_false (fun e=>e.1 h)]
   rfl
  ·rw [decide_eq_true h,Z8,Zp,Za q1,Qb,Qf,Za Zn]
   cases hm : QB m <;> simp [h]
 cases a1 : Zo k
 ·have hN : Zr k s.A=10:=by unfold Zr;rw [a1];rfl
  have hE : QE k m s=10:=by unfold QE;rw [a1];rfl
  have hn : QW k m s=s:=by unfold QW;rw [if_neg (by rw [hE];decide)]
  have q1 : bop .int .eql (iv 10) (.int .i64 10) X3=some (.bool true,X3):=by rw [ZD];rfl
  rw [hn,hE]
  refine ⟨X3,f1 _ _ ?_,h3,hstep⟩
  unfold Kn
  refine (e1 _).trans ?_
  rw [Za e3,Za Zt,Za Zs,hN,Za q1,Zb,if_pos rfl]
  rfl
 ·have hN : Zr k s.A=0∨Zr k s.A=8:=by unfold Zr;rw [a1];cases (Ze k s.A).isSome <;> simp
  have q1 : bop .int .eql (iv (Zr k s.A)) (.int .i64 10) X3=some (.bool false,X3):=by rw [ZD];rcases hN with h1 | h1 <;> rw [h1] <;> rfl
  by_cases hb : m≠[]∧QB m=false
  ·have hE : QE k m s=11:=by unfold QE;rw [a1];simp [hb]
   have hn : QW k m s=s:=by unfold QW;rw [if_neg (by rw [hE];decide)]
   rw [hn,hE]
   refine ⟨X3,f1 _ _ ?_,h3,hstep⟩
   unfold Kn
   refine (e1 _).trans ?_
   rw [Za e3,Za Zt,Za Zs,Za q1,Zb,if_neg (by simp)]
   refine (hgate _).trans ?_
   rw [decide_eq_true hb,Zb,if_pos rfl,hb.2]
   rfl
  ·cases a3 : (Ze k s.A).isSome
   ·have hN : Zr k s.A=8:=by unfold Zr;rw [a1,a3];rfl
    have hE : QE k m s=8:=by unfold QE;rw [a1,if_pos rfl,if_neg hb,a3];rfl
    have hn : QW k m s=s:=by unfold QW;rw [if_neg (by rw [hE];decide)]
    have q3 : bop .int .neq (iv (Zr k s.A)) (.int .i64 0) X3=some (.bool true,X3):=by rw [Zq,hN];rfl
    rw [hn,hE]
    refine ⟨X3,f1 _ _ ?_,h3,hstep⟩
    unfold Kn
    refine (e1 _).trans ?_
    rw [Za e3,Za Zt,Za Zs,Za q1,Zb,if_neg (by simp)]
    refine (hgate _).trans ?_
    rw [decide_eq_false hb,Zb,if_neg (by simp),Za q3,Zb,if_pos rfl,hN]
    rfl
   ·have hN : Zr k s.A=0:=by unfold Zr;rw [a1,a3];rfl
    have hE : QE k m s=Yp k m s.OW:=by unfold QE;rw [a1,if_pos rfl,if_neg hb,a3];rfl
    have q3 : bop .int .neq (iv (Zr k s.A)) (.int .i64 0) X3=some (.bool false,X3):=by rw [Zq,hN];rfl
    obtain ⟨X4,e4,i4,s4⟩:=Zxz (n:=n) (k:=k) (m:=m) h3.ix
    obtain ⟨d4,t4⟩:=h3.toND0.setI i4 s4
    have hn : QW k m s={ s with OW:=Zig k m s.OW s.OF,OF:=ZbW k m s.OW s.OF }:=by
     unfold QW
     by_cases h0 : QE k m s=0
     ·rw [if_pos h0]
     ·rw [if_neg h0]
      rw [hE] at h0
      unfold Zig ZbW
      rw [if_neg h0,if_neg h0]
    have hinv:=hd.inv.setMail k m
    rw [hn] at hinv ⊢
    rw [hE]
    refine ⟨X4,f1 _ _ ?_,⟨d4,hinv⟩,hstep.trans t4⟩
    unfold Kn
    refine (e1 _).trans ?_
    rw [Za e3,Za Zt,Za Zs,Za q1,Zb,if_neg (by simp)]
    refine (hgate _).trans ?_
    rw [decide_eq_false hb,Zb,if_neg (by simp),Za q3,Zb,if_neg (by simp),Za Zu,Za Zg,Za h3.l1,Za e4]
    rfl
theorem ZwE {b : Bool} (hd : ND X d r s c) : ∃ X',R (n+10) Wo [pt d,strv k,.bool b] X=some (iv (Jt k b s.A),X')∧ND X' d r (J9 k b s) c∧Zx r.own X r.own X':=by
 obtain ⟨p,X2,e1,c1,k1,hp⟩:=Zda (n:=n) (k:=k) hd
 have h2:=hd.hle k1
 have f1 : ∀ v X',Wl (R (n+9)) (pt d) (strv k) (.bool b) X=some (v,X')→R (n+10) Wo [pt d,strv k,.bool b] X=some (v,X'):=fun v X' hr=>by rw [R,Zki rfl];exact hr
 have hstep : Zx r.own X r.own X2:=k1.stepq
 by_cases hN : Zr k s.A=0
 ·obtain ⟨a1,_⟩:=Zim hN
  rw [a1] at c1
  have c1 : X2[p]?=some (.cells [strv (ZY k s.A).1,.bool (ZY k s.A).2] 1 false false):=c1
  have l1 : ld1 (pa p 1) X2=some (.bool (ZY k s.A).2,X2):=Zv c1 rfl
  have q1 : bop .int .neq (iv (Zr k s.A)) (.int .i64 0) X2=some (.bool false,X2):=by rw [Zq,hN];rfl
  by_cases hb : (ZY k s.A).2=b
  ·have hE : Jt k b s.A=12:=by unfold Jt;rw [if_pos hN,if_pos hb]
   have hn : J9 k b s=s:=by unfold J9;rw [if_neg (by rw [hE];decide)]
   have q2 : bop .bool .eql (.bool (ZY k s.A).2) (.bool b) X2=some (.bool true,X2):=by rw [Jy,hb];simp
   rw [hn,hE]
   refine ⟨X2,f1 _ _ ?_,h2,hstep⟩
   unfold Wl
   refine (e1 _).trans ?_
   rw [Za q1,Zb,if_neg (by simp),Za Zg,Za l1,Za q2,Zb,if_pos rfl]
   rfl
  ·have hE : Jt k b s.A=0:=by unfold Jt;rw [if_pos hN,if_neg hb]
   have q2 : bop .bool .eql (.bool (ZY k s.A).2) (.bool b) X2=some (.bool false,X2):=by rw [Jy];simp [hb]
   have w1 : st1 (pa p 1) (.bool b) X2=some (undef,X2.set p (.cells [strv (ZY k s.A).1,.bool b] 1 false false)):=Kk (o:=1) c1 (by simp) rfl
   have d2 : ldA 2 (pt p) (X2.set p (.cells [strv (ZY k s.A).1,.bool b] 1 false false))=some (ZaS ((ZY k s.A).1,b),_):=ZQ (n:=2) (ZM c1) rfl
   have h3:=hd.toND0.box (ob:=.cells [strv (ZY k s.A).1,.bool b] 1 false false) k1 hp
   obtain ⟨X3,e3,m3,s3,_⟩:=h3.m.mup (k:=k) (v:=(((ZY k s.A).1,b) : Acc))
   obtain ⟨d3,s4⟩:=h3.setA m3 s3
   have hn : J9 k b s={ s with A:=Qr k ((ZY k s.A).1,b) s.A }:=by unfold J9;rw [if_pos hE]
   have hinv:=hd.inv.disable k b
   rw [hn] at hinv ⊢
   rw [hE]
   refine ⟨X3,f1 _ _ ?_,⟨d3,hinv⟩,Zua k1 hp s4⟩
   unfold Wl
   refine (e1 _).trans ?_
   rw [Za q1,Zb,if_neg (by simp),Za Zg,Za l1,Za q2,Zb,if_neg (by simp),Za Zg,Za w1,Za Zu,Za Zg,Za h3.l0,Za d2,Za e3]
   rfl
 ·have hE : Jt k b s.A=Zr k s.A:=by unfold Jt;rw [if_neg hN]
  have hn : J9 k b s=s:=by unfold J9;rw [if_neg (by rw [hE];exact hN)]
  have q1 : bop .int .neq (iv (Zr k s.A)) (.int .i64 0) X2=some (.bool true,X2):=by rw [Zq];simp [hN]
  rw [hn,hE]
  refine ⟨X2,f1 _ _ ?_,h2,hstep⟩
  unfold Wl
  refine (e1 _).trans ?_
  rw [Za q1,Zb,if_pos rfl]
  rfl
theorem Zxk (hd : ND X d r s c) : ∃ X',R (n+10) WC [pt d,strv o,strv t] X=some (iv (Jp o t s.A),X')∧ND X' d r (KZ o t s) c∧Zx r.own X r.own X':=by
 obtain ⟨p,X2,e1,c1,k1,hp⟩:=Zda (n:=n) (k:=o) hd
 obtain ⟨p2,X3,e2,b2,k2,hp2⟩:=Zda (n:=n) (k:=t) (hd.hle k1)
 have k12:=k1.trans k2
 have h3:=hd.hle k12
 have c13:=k2 _ _ c1
 have hstep : Zx r.own X r.own X3:=k12.stepq
 have f1 : ∀ v X',ZaN (R (n+9)) (pt d) (strv o) (strv t) X=some (v,X')→R (n+10) WC [pt d,strv o,strv t] X=some (v,X'):=fun v X' hr=>by rw [R,Zme rfl];exact hr
 have e10 : ∀ (k : Tx),(Zr k s.A==10)=!Zo k:=fun k=>by
  unfold Zr
  cases Zo k
  ·rfl
  ·cases (Ze k s.A).isSome <;> rfl
 have q1 : bop .int .eql (iv (Zr o s.A)) (.int .i64 10) X3=some (.bool (!Zo o),X3):=by rw [ZD,e10]
 have q2 : bop .int .eql (iv (Zr t s.A)) (.int .i64 10) X3=some (.bool (!Zo t),X3):=by rw [ZD,e10]
 have hgate : ∀ K : Value→M Value,bind (bop .int .eql (iv (Zr o s.A)) (.int .i64 10)) (fun v25=>bind (ZH v25 false 2 (bind (bop .int .eql (iv (Zr t s.A)) (Value.int .i64 10)) fun v28=>ret [iv (Zr t s.A),v28])) (c2 fun _ q=>bind (pick v25 (Value.bool true) q) K)) X3=K (.bool (!(Zo o && Zo t))) X3:=fun K=>by
  rw [Za q1]
  cases Zo o
  ·simp only [Bool.not_false]
   rw [Za (g_r.trans (if_neg (by simp)))]
   simp only [List.replicate]
   rw [Qf,Za Zn]
   rfl
  ·simp only [Bool.not_true]
   rw [Z8,Zp,Za q2,Qb,Qf,Za Zn]
   cases Zo t <;> rfl
 by_cases he : Jp o t s.A=0
 ·obtain ⟨a1,a2,a3,a4,a5⟩:=ZhR he
  have hN1 : Zr o s.A=0:=by unfold Zr;rw [a1,a3];rfl
  have hN2 : Zr t s.A=8:=by unfold Zr;rw [a2,a4];rfl
  rw [a1] at c13
  have c13 : X3[p]?=some (.cells [strv (ZY o s.A).1,.bool (ZY o s.A).2] 1 false false):=c13
  have q3 : bop .int .neq (iv (Zr o s.A)) (.int .i64 0) X3=some (.bool false,X3):=by rw [Zq,hN1];rfl
  have q4 : bop .int .eql (iv (Zr t s.A)) (.int .i64 0) X3=some (.bool false,X3):=by rw [ZD,hN2];rfl
  obtain ⟨X4,e4,m4,s4,_⟩:=h3.m.mde (k:=o)
  obtain ⟨d4,t4⟩:=h3.toND0.setA m4 s4
  have d4' : ldA 2 (pt p) X4=some (ZaS (ZY o s.A),X4):=by
   have c14 : X4[p]?=some (.cells [strv (ZY o s.A).1,.bool (ZY o s.A).2] 1 false false):=(h3.toND0.cle t4) _ _ _ _ _ c13
   exact ZQ (n:=2) c14 rfl
  obtain ⟨X5,e5,m5,s5,_⟩:=d4.m.mup (k:=t) (v:=ZY o s.A)
  obtain ⟨d5,t5⟩:=d4.setA m5 s5
  obtain ⟨X6,e6,i6,s6⟩:=ZB5 (n:=n+3) (old:=o) (next:=t) d5.ix
  have e6 : R (n+9) Wm [pt r.x,strv o,strv t] X5=_:=e6
  obtain ⟨d6,t6⟩:=d5.setI i6 s6
  obtain ⟨X7,e7,g7,s7⟩:=ZBo (n:=n+1) (s:=o) (t:=t) d6.gr
  have e7 : R (n+9) Kx [pt r.g,strv o,strv t] X6=_:=e7
  have hks : ZO r.G=s.K:=hd.ks
  have hren : Zis o t (ZO r.G) s.mem=0:=by
   unfold Zis
   rw [a2,if_pos rfl,if_neg a5]
   have : ofL t (ZO r.G) s.mem=[]:=by
    unfold ofL
    rw [List.filter_eq_nil_iff]
    intro x hx
    rw [hd.inv.memN a4 x];simp
   rw [if_pos this]
  have g7 : Grp X7 r.g r.o2 r.G (if Zis o t (ZO r.G) s.mem=0 then WT o t s.mem else s.mem) c:=g7
  rw [if_pos hren] at g7
  obtain ⟨d7,t7⟩:=d6.setG g7 s7 hks
  have hn : KZ o t s={ s with A:=Qr t (ZY o s.A) (JY o s.A),OW:=Zop o t s.OW s.OF,OF:=Zfn o t s.OF,mem:=WT o t s.mem }:=by unfold KZ;rw [if_pos he]
  have hinv:=hd.inv.rename o t
  rw [hn] at hinv ⊢
  rw [he]
  refine ⟨X7,f1 _ _ ?_,⟨d7,hinv⟩,(((hstep.trans t4).trans t5).trans t6).trans t7⟩
  unfold ZaN
  refine (e1 _).trans ((e2 _).trans ((hgate _).trans ?_))
  rw [a1,a2]
  simp only [Bool.and_self,Bool.not_true]
  rw [Zb,if_neg (by simp),Za q3,Zb,if_neg (by simp),Za q4,Zb,if_neg (by simp),Za Zu,Za Zg,Za h3.l0,Za e4,Za Zu,Za Zg,Za d4.l0,Za d4',Za e5,Za Zu,Za Zg,Za d5.l1,Za e6,Za Zu,Za Zg,Za d6.l2,Za e7]
  rfl
 ·have hn : KZ o t s=s:=by unfold KZ;rw [if_neg he]
  rw [hn]
  refine ⟨X3,f1 _ _ ?_,h3,hstep⟩
  unfold ZaN
  refine (e1 _).trans ((e2 _).trans ((hgate _).trans ?_))
  cases ab : Zo o && Zo t
  ·have hE : Jp o t s.A=10:=by unfold Jp;rw [ab];rfl
   rw [Zb,if_pos (by rfl),hE]
   rfl
  ·have ab':=ab
   simp only [Bool.and_eq_true] at ab'
   rw [Zb,if_neg (by simp)]
   cases a3 : (Ze o s.A).isSome
   ·have hN1 : Zr o s.A=8:=by unfold Zr;rw [ab'.1,a3];rfl
    have hE : Jp o t s.A=8:=by unfold Jp;rw [ab,a3];rfl
    have q3 : bop .int .neq (iv (Zr o s.A)) (.int .i64 0) X3=some (.bool true,X3):=by rw [Zq,hN1];rfl
    rw [Za q3,Zb,if_pos rfl,hE,hN1]
    rfl
   ·have hN1 : Zr o s.A=0:=by unfold Zr;rw [ab'.1,a3];rfl
    have q3 : bop .int .neq (iv (Zr o s.A)) (.int .i64 0) X3=some (.bool false,X3):=by rw [Zq,hN1];rfl
    have a4 : (Ze t s.A).isSome=true:=by
     unfold Jp at he
     rw [ab,a3] at he
     cases h4 : (Ze t s.A).isSome
     ·rw [h4] at he;simp at he
     ·rfl
    have hN2 : Zr t s.A=0:=by unfold Zr;rw [ab'.2,a4];rfl
    have hE : Jp o t s.A=9:=by unfold Jp;rw [ab,a3,a4];rfl
    have q4 : bop .int .eql (iv (Zr t s.A)) (.int .i64 0) X3=some (.bool true,X3):=by rw [ZD,hN2];rfl
    rw [Za q3,Zb,if_neg (by simp),Za q4,Zb,if_pos rfl,hE]
    rfl
theorem ZAr (hd : ND X d r s c) : ∃ X' r',R (n+10) Wy [pt d,strv g] X=some (iv (Qz g s.K),X')∧ND X' d r' (ZhH g s) c∧Zx r.own X r'.own X':=by
 obtain ⟨X1,G',e1,g1,k1,s1⟩:=ZvE (n:=n+1) (k:=g) hd.gr
 have e1 : R (n+9) Yk [pt r.g,strv g] X=_:=e1
 rw [hd.ks] at e1 k1
 obtain ⟨d1,t1⟩:=hd.toND0.setG g1 s1 k1
 refine ⟨X1,_,?_,⟨d1,hd.inv.make g⟩,t1⟩
 rw [R,Zio rfl]
 unfold ZcK
 rw [Za Zu,Za Zg,Za hd.l2,Za e1]
 rfl
theorem ZvS (hd : ND X d r s c) : ∃ X' r',R (n+10) YL [pt d,strv g] X=some (iv (QP g s.K),X')∧ND X' d r' (Ze5 g s) c∧Zx r.own X r'.own X':=by
 obtain ⟨X1,G',e1,g1,k1,s1⟩:=ZAf (n:=n+1) (k:=g) hd.gr
 have e1 : R (n+9) Wp [pt r.g,strv g] X=_:=e1
 rw [hd.ks] at e1 g1 k1
 obtain ⟨d1,t1⟩:=hd.toND0.setG g1 s1 k1
 refine ⟨X1,_,?_,⟨d1,hd.inv.drop g⟩,t1⟩
 rw [R,Ziy rfl]
 unfold ZcJ
 rw [Za Zu,Za Zg,Za hd.l2,Za e1]
 rfl
theorem Zq6 (hd : ND X d r s c) : ∃ X',R (n+10) WF [pt d,strv g,strv k] X=some (iv (JJ g k s.A),X')∧HLe X X':=by
 have e0 : R (n+9) Q9 [strv g] X=some (iv (ZV g),X):=Zej (n:=n+4)
 obtain ⟨p,X2,e1,c1,k1,hp⟩:=Zda (n:=n) (k:=k) hd
 have f1 : ∀ v X',ZaV (R (n+9)) (pt d) (strv g) (strv k) X=some (v,X')→R (n+10) WF [pt d,strv g,strv k] X=some (v,X'):=fun v X' hr=>by rw [R,Zly rfl];exact hr
 cases hg : Zo g
 ·have q1 : bop .int .neq (iv (ZV g)) (.int .i64 0) X=some (.bool true,X):=by rw [Zq];unfold ZV;rw [hg];rfl
  have hE : JJ g k s.A=10:=by unfold JJ;rw [hg];rfl
  refine ⟨X,f1 _ _ ?_,.refl _⟩
  unfold ZaV
  rw [Za e0,Za q1,Zb,if_pos rfl,hE,show ZV g=10 by unfold ZV;rw [hg];rfl]
  rfl
 ·have q1 : bop .int .neq (iv (ZV g)) (.int .i64 0) X=some (.bool false,X):=by rw [Zq];unfold ZV;rw [hg];rfl
  have hE : JJ g k s.A=Zr k s.A:=by unfold JJ;rw [hg];rfl
  refine ⟨X2,f1 _ _ ?_,k1⟩
  unfold ZaV
  rw [Za e0,Za q1,Zb,if_neg (by simp),hE]
  exact e1 _
theorem ZAB (hd : ND X d r s c) : ∃ X',R (n+11) ZaG [pt d,strv g,strv k] X=some (iv (Kl g k s),X')∧ND X' d r (Zaq g k s) (c+1)∧Zx r.own X r.own X':=by
 obtain ⟨X1,e1,k1⟩:=Zq6 (n:=n) (g:=g) (k:=k) hd
 have h1:=hd.hle k1
 have f1 : ∀ v X',Zb3 (R (n+10)) (pt d) (strv g) (strv k) X=some (v,X')→R (n+11) ZaG [pt d,strv g,strv k] X=some (v,X'):=fun v X' hr=>by rw [R,Zoa rfl];exact hr
 have hinv:=hd.inv.join g k
 by_cases hm : JJ g k s.A=0
 ·have q1 : bop .int .neq (iv (JJ g k s.A)) (.int .i64 0) X1=some (.bool false,X1):=by rw [Zq,hm];rfl
  have hE : Kl g k s=W0 g k s.K s.mem:=by unfold Kl;rw [if_pos hm]
  obtain ⟨X2,e2,g2,s2⟩:=ZvH (n:=n+2) (k:=g) (m:=k) h1.gr
  have e2 : R (n+10) YJ [pt r.g,strv g,strv k] X1=_:=e2
  rw [h1.ks] at e2 g2
  obtain ⟨d2,t2⟩:=h1.toND0.setG g2 s2 h1.ks
  have hn : Zaq g k s={ s with K:=s.K,mem:=if W0 g k s.K s.mem=0 then ZaU g k s.mem else s.mem }:=by
   unfold Zaq
   rw [hE]
   by_cases h0 : W0 g k s.K s.mem=0
   ·rw [if_pos h0,if_pos h0]
   ·rw [if_neg h0,if_neg h0]
  rw [hn] at hinv ⊢
  rw [hE]
  refine ⟨X2,f1 _ _ ?_,⟨d2,hinv⟩,k1.stepq.trans t2⟩
  unfold Zb3
  rw [Za e1,Za q1,Zb,if_neg (by simp),Za Zu,Za Zg,Za h1.l2,Za e2]
  rfl
 ·have q1 : bop .int .neq (iv (JJ g k s.A)) (.int .i64 0) X1=some (.bool true,X1):=by rw [Zq];simp [hm]
  have hE : Kl g k s=JJ g k s.A:=by unfold Kl;rw [if_neg hm]
  have hn : Zaq g k s=s:=by unfold Zaq;rw [if_neg (by rw [hE];exact hm)]
  rw [hn,hE]
  refine ⟨X1,f1 _ _ ?_,⟨h1.toND0.more (Nat.le_succ c),hd.inv⟩,k1.stepq⟩
  unfold Zb3
  rw [Za e1,Za q1,Zb,if_pos rfl]
  rfl
theorem Zy8 (hd : ND X d r s c) : ∃ X',R (n+11) W1 [pt d,strv g,strv k] X=some (iv (YG g k s),X')∧ND X' d r (Wc g k s) (c+1)∧Zx r.own X r.own X':=by
 obtain ⟨X1,e1,k1⟩:=Zq6 (n:=n) (g:=g) (k:=k) hd
 have h1:=hd.hle k1
 have f1 : ∀ v X',Zbm (R (n+10)) (pt d) (strv g) (strv k) X=some (v,X')→R (n+11) W1 [pt d,strv g,strv k] X=some (v,X'):=fun v X' hr=>by rw [R,Zmx rfl];exact hr
 have hinv:=hd.inv.leave g k
 by_cases hm : JJ g k s.A=0
 ·have q1 : bop .int .neq (iv (JJ g k s.A)) (.int .i64 0) X1=some (.bool false,X1):=by rw [Zq,hm];rfl
  have hE : YG g k s=Zbz g k s.K s.mem:=by unfold YG;rw [if_pos hm]
  obtain ⟨X2,e2,g2,s2⟩:=ZzI (n:=n+2) (k:=g) (m:=k) h1.gr
  have e2 : R (n+10) K0 [pt r.g,strv g,strv k] X1=_:=e2
  rw [h1.ks] at e2 g2
  obtain ⟨d2,t2⟩:=h1.toND0.setG g2 s2 h1.ks
  have hn : Wc g k s={ s with K:=s.K,mem:=if Zbz g k s.K s.mem=0 then Zb1 g k s.mem else s.mem }:=by
   unfold Wc
   rw [hE]
   by_cases h0 : Zbz g k s.K s.mem=0
   ·rw [if_pos h0,if_pos h0]
   ·rw [if_neg h0,if_neg h0]
  rw [hn] at hinv ⊢
  rw [hE]
  refine ⟨X2,f1 _ _ ?_,⟨d2,hinv⟩,k1.stepq.trans t2⟩
  unfold Zbm
  rw [Za e1,Za q1,Zb,if_neg (by simp),Za Zu,Za Zg,Za h1.l2,Za e2]
  rfl
 ·have q1 : bop .int .neq (iv (JJ g k s.A)) (.int .i64 0) X1=some (.bool true,X1):=by rw [Zq];simp [hm]
  have hE : YG g k s=JJ g k s.A:=by unfold YG;rw [if_neg hm]
  have hn : Wc g k s=s:=by unfold Wc;rw [if_neg (by rw [hE];exact hm)]
  rw [hn,hE]
  refine ⟨X1,f1 _ _ ?_,⟨h1.toND0.more (Nat.le_succ c),hd.inv⟩,k1.stepq⟩
  unfold Zbm
  rw [Za e1,Za q1,Zb,if_pos rfl]
  rfl
theorem ZAH (hd : ND X d r s c) : ∃ X' d' r',R (n+4) ZbX [pt d] X=some (pt d',X')∧ND X' d' r' s c∧HLe X X'∧X.length≤d'∧∀ j∈r'.own,X.length≤j:=by
 obtain ⟨X1,e1,m1,k1⟩:=hd.m.clone
 have e1' : R (n+3) Ju [.map (some r.b)] X=some (.map (some X.length),X1):=by
  show run Tryz.prog np lvs (n+3) _ _ X=_
  rw [Zdc (show np Ju=some Zb5 from rfl)]
  exact e1
 have h1:=hd.hle k1
 obtain ⟨X2,x',o',a',e2,i2,k2,p1,p2,p3⟩:=ZA2 (n:=n+1) h1.ix
 have e2 : R (n+3) Zbg [pt r.x] X1=_:=e2
 have h2:=h1.hle k2
 obtain ⟨X3,g',o2',G',e3,g3,hk3,k3,q1,q2⟩:=ZAm (n:=n+2) h2.gr
 have e3 : R (n+3) Zad [pt r.g] X2=_:=e3
 have e4 : bld (.agg #[.map none,.pointer none,.pointer none]) [(0,1,.map (some X.length)),(1,1,pt x'),(2,1,pt g')] X3=some (.agg #[.map (some X.length),pt x',pt g'],X3):=by
  simp [bld,W9,Value.cells,Ks,splice]
 have e5 : alc 1 (.agg #[.map (some X.length),pt x',pt g']) X3=some (pt X3.length,X3++[.cells [.map (some X.length),pt x',pt g'] 1 false false]):=K4 (vs:=[.map (some X.length),pt x',pt g']) rfl
 have k4 : HLe X3 (X3++[Zf.cells [.map (some X.length),pt x',pt g'] 1 false false]):=.app _ _
 have hi:=i2.lt
 have hx1 : X.length < X1.length:=m1.lt
 have l1:=k1.len
 have l2:=k2.len
 have l3:=k3.len
 refine ⟨X3++[.cells [.map (some X.length),pt x',pt g'] 1 false false],X3.length,⟨X.length,x',o',a',g',o2',G'⟩,?_,⟨⟨ZC,((m1.hle k2).hle k3).hle k4,(i2.hle k3).hle k4,g3.hle k4,hk3.trans hd.ks,⟨by simp only;omega,by simp only;omega,fun hm=>?_,fun hm=>?_,fun hm=>?_⟩⟩,hd.inv⟩,((k1.trans k2).trans k3).trans k4,by omega,fun j hj=>?_⟩
 ·rw [R,ZnK rfl]
  unfold Zfy
  rw [Za Zu,Za Zg,Za hd.l0,Za Zu,Za Zg,Za hd.l1,Za Zu,Za Zg,Za hd.l2,Za e1',Za h1.l2,ZZ,Za h1.l1,ZZ,Za e2,Za h2.l2,ZZ,Za e3,Za e4,Za e5]
  rfl
 ·have:=q2 _ hm;simp only at this;omega
 ·have:=q2 _ hm;simp only at this;omega
 ·have:=q2 _ hm;simp only at this;omega
 ·unfold NR.own at hj
  simp only [List.mem_cons] at hj
  rcases hj with h | h | h | h
  ·omega
  ·omega
  ·omega
  ·have:=q2 _ (List.mem_cons.2 h);omega
end
end Go.Proofs.YtedkoimihknggaaGreatDoor.A

namespace Go.Proofs.YtedkoimihknggaaGreatDoor.A
set_option linter.unusedVariables false
set_option linter.unusedSimpArgs false
open Go.Proofs Go.Proofs.YtedkoimihknggaaGreatDoor
open Go.Sort in
theorem ZCA {a c : Tx} {H : Zd} : bop .str .lss (strv a) (strv c) H=some (.bool (decide (a < c)),H):=by
 rw [← bytesLess_eq]
 show (sop .lss (⟨a.toArray⟩ : ByteArray) (⟨c.toArray⟩ : ByteArray)).map (·,H)=_
 unfold sop
 rw [Kt,Kt]
 rfl
theorem HLe.setN {H0 X : Zd} (h : HLe H0 X) {b : Nat} {o : Zf} (hb : H0.length≤b) : HLe H0 (X.set b o):=fun i v hi=>by
 have:=Ql hi
 rw [List.getElem?_set_ne (by omega)];exact h i v hi
section
variable {X X' H0 : Zd} {n : Nat} {v : Value} {l : List Tx} {x s : Tx}
theorem Zyd (hl : l.length≤1000000) (hs : Sl X v (l.map strv)) : ∀ (t j : Nat),l.length - j=t→j≤l.length→
  Zi (c4 (Zap.l1 (R n))) [strv x,v,iv l.length,iv j] X=some (if x∈l.drop j then .ret (.bool true) else .ext 0 [],X)
 | 0,j,ht,hj=>by
  rw [List.drop_eq_nil_of_le (by omega)]
  refine ZN ?_
  rw [ZJ,show j=l.length by omega]
  unfold Zap.l1
  rw [Za Zk,Zb,if_neg (by simp)]
  rfl
 | t+1,j,ht,hj=>by
  have hkl : j < l.length:=by omega
  have hlt : (j : Int) < l.length:=by omega
  have hg:=List.getElem?_eq_getElem hkl
  have hd:=List.drop_eq_getElem_cons hkl
  generalize l[j]=y at hg hd
  have x1:=hs.ix (i:=j) (by simpa using hkl) .i64 X
  have x2:=hs.ldx (Yt hg)
  have x3 : bop .str .eql (strv y) (strv x) X=some (.bool (y==x),X):=Zdh
  rw [hd]
  by_cases hyx : y=x
  ·rw [if_pos (by simp [hyx])]
   refine QR ?_
   rw [ZJ]
   unfold Zap.l1
   rw [Za Zk,Zb,if_pos (by simpa using hlt),Za x1,Za x2,Za x3,Zb,if_pos (by simpa using hyx)]
   rfl
  ·have : (x∈y :: l.drop (j+1))↔x∈l.drop (j+1):=by simp [Ne.symm hyx]
   simp only [this]
   refine (ZA ?_).trans (Zyd hl hs t (j+1) (by omega) (by omega))
   rw [ZJ]
   unfold Zap.l1
   rw [Za Zk,Zb,if_pos (by simpa using hlt),Za x1,Za x2,Za x3,Zb,if_neg (by simpa using hyx),Za ZB,Qi (by omega)]
   rfl
theorem Zt2 (hl : l.length≤1000000) (hs : Sl X v (l.map strv)) : R (n+1) Zan [v,strv x] X=some (.bool (decide (x∈l)),X):=by
 have e:=Zyd (n:=n) (x:=x) hl hs l.length 0 (by omega) (by omega)
 rw [show iv ((0 : Nat) : Int)=.int .i64 0 from rfl,List.drop_zero] at e
 have hlen : Zy v X=some (iv l.length,X):=by have:=hs.len (H':=X);simpa using this
 rw [R,Ztq rfl]
 unfold Zap
 rw [Za hlen]
 by_cases h : x∈l
 ·rw [if_pos h] at e
  rw [Yh e,decide_eq_true h];rfl
 ·rw [if_neg h] at e
  rw [Z5 e,ZG,decide_eq_false h];rfl
theorem Zhv {sl : Value} {rows : List Tx} {q : List Nat} {u : Tx} (hr : Zw X sl (rows.map strv) q) (hl : rows.length≤100000) (hq : ∀ j∈q,H0.length≤j) (h0 : HLe H0 X) :
  ∃ w X1 sl' X2 q',bsl 1 1 (.string ⟨#[]⟩) [(0,1,strv u)] X=some (w,X1)∧app 1 16 sl w X1=some (sl',X2)∧Zw X2 sl' ((rows++[u]).map strv) q'∧HLe H0 X2∧(∀ j∈q',H0.length≤j)∧Zx q X q' X2:=by
 have l1 : HLe X (X++[.cells [strv u] 1 false false]):=.app _ _
 have s1:=(Zi1 (x:=u) (H:=X)).rd
 have e1:=ZqE (x:=u) (H:=X)
 generalize X++[Zf.cells [strv u] 1 false false]=X1 at l1 s1 e1
 have hr1:=hr.step l1.step (by simp)
 obtain ⟨sl',X2,q',x5,hn2,s2,_⟩:=hr1.push (b:=16) s1 (by simp;omega) (by simp;omega)
 have hm:=(h0.trans l1).more s2 hq
 exact ⟨_,X1,sl',X2,q',e1,x5,by rw [List.map_append];exact hn2,hm.1,hm.2,(l1.step.more (by simp) (fun j hj=>.inl hj)).trans s2⟩
def ZeQ (s : Tx) : List Tx→Bool→List Tx
 | [],_=>[]
 | t :: l,d=>if (!d && decide (s < t))=true then s :: t :: ZeQ s l true else t :: ZeQ s l d
def Zdi (s : Tx) : List Tx→Bool→Bool
 | [],d=>d
 | t :: l,d=>Zdi s l (d || decide (s < t))
theorem Zky {s : Tx} : ∀ {l : List Tx},ZeQ s l true=l∧Zdi s l true=true
 | []=>⟨rfl,rfl⟩
 | t :: l=>by
  have : ZeQ s l true=l∧Zdi s l true=true:=Zky
  simp [ZeQ,Zdi,this.1,this.2]
def Zgk (s : Tx) (l : List Tx) : List Tx:=ZeQ s l false++(if Zdi s l false then [] else [s])
theorem Zmc {t : Tx} {l : List Tx} : Zgk s (t :: l)=if s < t then s :: t :: l else t :: Zgk s l:=by
 unfold Zgk
 by_cases h : s < t
 ·simp [ZeQ,Zdi,h,(Zky (s:=s) (l:=l)).1,(Zky (s:=s) (l:=l)).2]
 ·simp [ZeQ,Zdi,h]
theorem Zn6 : ∀ {l : List Tx},(Zgk s l).length=l.length+1
 | []=>rfl
 | t :: l=>by
  rw [Zmc]
  split
  ·rfl
  ·rw [List.length_cons,Zn6];rfl
theorem ZnL : ∀ {l : List Tx},x∈Zgk s l↔x=s∨x∈l
 | []=>by simp [Zgk,ZeQ,Zdi]
 | t :: l=>by
  rw [Zmc]
  split
  ·simp
  ·rw [List.mem_cons,ZnL,List.mem_cons]
   constructor
   ·rintro (h | h | h)
    ·exact .inr (.inl h)
    ·exact .inl h
    ·exact .inr (.inr h)
   ·rintro (h | h | h)
    ·exact .inr (.inl h)
    ·exact .inl h
    ·exact .inr (.inr h)
theorem ZtQ : ∀ {l : List Tx},Asc l→s∉l→Asc (Zgk s l)
 | [],_,_=>List.pairwise_singleton _ _
 | t :: l,h,hn=>by
  obtain ⟨a1,a2⟩:=List.pairwise_cons.1 h
  simp only [List.mem_cons,not_or] at hn
  rw [Zmc]
  split
  ·rename_i hlt
   refine List.pairwise_cons.2 ⟨fun y hy=>?_,h⟩
   rcases List.mem_cons.1 hy with rfl | hy
   ·exact hlt
   ·exact List.lt_trans hlt (a1 y hy)
  ·rename_i hlt
   have hts : t < s:=Decidable.byContradiction fun h6=>hn.1 (List.le_antisymm (List.not_lt.1 h6) (List.not_lt.1 hlt))
   refine List.pairwise_cons.2 ⟨fun y hy=>?_,ZtQ a2 hn.2⟩
   rcases ZnL.1 hy with rfl | hy
   ·exact hts
   ·exact a1 y hy
theorem ZnP {us : List Tx} {uv z10 z11 z12 : Value} (hu : us.length≤1000) (hA : Sl H0 uv (us.map strv)) : ∀ (t j : Nat) (sl : Value) (q : List Nat) (acc : List Tx) (done : Bool) (X : Zd),us.length - j=t→j≤us.length→acc.length≤2 * j→HLe H0 X→(∀ i∈q,H0.length≤i)→Zw X sl (acc.map strv) q→
  ∃ X' sl' q',Zi (c9 (Jg.l2 (R n))) [strv s,sl,.bool done,z10,z11,z12,uv,iv us.length,iv j] X=some (.ext 2 [strv s,sl',.bool (Zdi s (us.drop j) done),z10,z11,z12],X')∧Zw X' sl' ((acc++ZeQ s (us.drop j) done).map strv) q'∧HLe H0 X'∧∀ i∈q',H0.length≤i
 | 0,j,sl,q,acc,done,X,ht,hj,ha,hle,hq,hr=>by
  have : j=us.length:=by omega
  rw [this,List.drop_length]
  refine ⟨X,sl,q,ZN ?_,by simpa [ZeQ] using hr,hle,hq⟩
  rw [KL]
  unfold Jg.l2
  rw [Za Zk,Zb,if_neg (by simp)]
  rfl
 | t+1,j,sl,q,acc,done,X,ht,hj,ha,hle,hq,hr=>by
  have hkl : j < us.length:=by omega
  have hlt : (j : Int) < us.length:=by omega
  have hg:=List.getElem?_eq_getElem hkl
  have hd:=List.drop_eq_getElem_cons hkl
  generalize us[j]=y at hg hd
  have hA':=hA.mono hle
  have x1:=hA'.ix (i:=j) (by simpa using hkl) .i64 X
  have x2:=hA'.ldx (Yt hg)
  have hgate : ∀ K : Value→M Out,bind (uop .not (.bool done)) (fun v26x10=>bind (ZH v26x10 true 3 (bind (bop .str .lss (strv s) (strv y)) fun v30x11=>ret [strv s,strv y,v30x11])) (c3 fun _ _ q12_2=>bind (pick v26x10 q12_2 (Value.bool false)) K)) X=K (.bool (!done && decide (s < y))) X:=fun K=>by
   rw [Za ZF]
   cases done
   ·simp only [Bool.not_false]
    rw [Z8,Zp,Za ZCA,Qb,ZU,Za Zn]
    rfl
   ·simp only [Bool.not_true]
    rw [Za (g_r.trans (if_neg (by simp)))]
    simp only [List.replicate]
    rw [ZU,Za Zn]
    rfl
  rw [hd]
  cases hb : (!done && decide (s < y))
  ·obtain ⟨w,X1,sl1,X2,q2,a1,a2,r2,l2,o2,_⟩:=Zhv (u:=y) hr (by omega) hq hle
   have hdone : (done || decide (s < y))=done:=by cases done <;> simp at hb ⊢ <;> exact hb
   obtain ⟨X3,sl3,q3,e3,r3,l3,o3⟩:=ZnP hu hA t (j+1) sl1 q2 (acc++[y]) done X2 (by omega) (by omega) (by simp;omega) l2 o2 r2
   refine ⟨X3,sl3,q3,(ZA ?_).trans (e3.trans ?_),?_,l3,o3⟩
   ·rw [KL]
    unfold Jg.l2
    rw [Za Zk,Zb,if_pos (by simpa using hlt),Za x1,Za x2]
    refine (hgate _).trans ?_
    rw [hb]
    refine (ZS (vs:=[strv s,sl,.bool done,strv y,z10,z11,z12,uv,iv us.length,iv j]) (H':=X) ?_).trans ?_
    ·rw [Zb,if_neg (by simp)];rfl
    ·rw [YE,Za a1,Za a2,Za ZB,Qi (by omega)];rfl
   ·simp only [Zdi,hdone]
   ·simp only [ZeQ,hb]
    simpa using r3
  ·obtain ⟨w,X1,sl1,X2,q2,a1,a2,r2,l2,o2,_⟩:=Zhv (u:=s) hr (by omega) hq hle
   obtain ⟨w',X1',sl1',X2',q2',a1',a2',r2',l2',o2',_⟩:=Zhv (u:=y) r2 (by simp;omega) o2 l2
   have hdone : done=false∧s < y:=by simpa using hb
   obtain ⟨X3,sl3,q3,e3,r3,l3,o3⟩:=ZnP hu hA t (j+1) sl1' q2' (acc++[s]++[y]) true X2' (by omega) (by omega) (by simp;omega) l2' o2' r2'
   refine ⟨X3,sl3,q3,(ZA ?_).trans (e3.trans ?_),?_,l3,o3⟩
   ·rw [KL]
    unfold Jg.l2
    rw [Za Zk,Zb,if_pos (by simpa using hlt),Za x1,Za x2]
    refine (hgate _).trans ?_
    rw [hb]
    refine (ZS (vs:=[strv s,sl1,.bool true,strv y,z10,z11,z12,uv,iv us.length,iv j]) (H':=X2) ?_).trans ?_
    ·rw [Zb,if_pos rfl,Za a1,Za a2];rfl
    ·rw [YE,Za a1',Za a2',Za ZB,Qi (by omega)];rfl
   ·simp only [Zdi,hdone.2,decide_true,Bool.or_true]
   ·simp only [ZeQ,hb,if_true]
    simpa using r3
theorem Zn1 {lv : Value} (hl : l.length≤500) (hA : Sl H0 lv (l.map strv)) : ∀ (t j : Nat) (sl : Value) (q : List Nat) (acc : List Tx) (X : Zd),l.length - j=t→j≤l.length→acc.length≤j→HLe H0 X→(∀ i∈q,H0.length≤i)→Zw X sl (acc.map strv) q→Is acc (·∈l.take j)→
  ∃ X' sl' q' acc',Zi (c4 (Jg.l1 (R (n+1)))) [sl,lv,iv l.length,iv j] X=some (.ext 0 [sl'],X')∧Zw X' sl' (acc'.map strv) q'∧Is acc' (·∈l)∧acc'.length≤l.length∧HLe H0 X'∧∀ i∈q',H0.length≤i
 | 0,j,sl,q,acc,X,ht,hj,ha,hle,hq,hr,hI=>by
  have : j=l.length:=by omega
  subst this
  rw [List.take_length] at hI
  refine ⟨X,sl,q,acc,ZN ?_,hr,hI,ha,hle,hq⟩
  rw [ZJ]
  unfold Jg.l1
  rw [Za Zk,Zb,if_neg (by simp)]
  rfl
 | t+1,j,sl,q,acc,X,ht,hj,ha,hle,hq,hr,hI=>by
  have hkl : j < l.length:=by omega
  have hlt : (j : Int) < l.length:=by omega
  have hg:=List.getElem?_eq_getElem hkl
  generalize l[j]=y at hg
  have hA':=hA.mono hle
  have x1:=hA'.ix (i:=j) (by simpa using hkl) .i64 X
  have x2:=hA'.ldx (Yt hg)
  have x3 : R (n+1) Zan [sl,strv y] X=_:=Zt2 (x:=y) (by omega) hr.rd
  have hlenS : Zy sl X=some (iv acc.length,X):=by have:=hr.rd.len (H':=X);simpa using this
  by_cases hy : y∈acc
  ·rw [decide_eq_true hy] at x3
   have hI' : Is acc (·∈l.take (j+1)):=⟨hI.asc,fun z=>by
    rw [Zei hg,hI.mem z]
    constructor
    ·exact .inl
    ·rintro (h | rfl)
     ·exact h
     ·exact (hI.mem _).1 hy⟩
   obtain ⟨X3,sl3,q3,acc3,e3,r3⟩:=Zn1 hl hA t (j+1) sl q acc X (by omega) (by omega) (by omega) hle hq hr hI'
   refine ⟨X3,sl3,q3,acc3,(ZA ?_).trans e3,r3⟩
   rw [ZJ]
   unfold Jg.l1
   rw [Za Zk,Zb,if_pos (by simpa using hlt)]
   refine (ZS (vs:=[sl,lv,iv l.length,iv j]) (H':=X) ?_).trans ?_
   ·rw [Za x1,Za x2,Za x3,Zb,if_pos rfl];rfl
   ·rw [ZJ,Za ZB,Qi (by omega)];rfl
  ·rw [decide_eq_false hy] at x3
   have hq2 : ∀ i∈([] : List Nat),X.length≤i:=by simp
   obtain ⟨X1,sl1,q1,e1,r1,l1,o1⟩:=ZnP (n:=n+1) (s:=y) (z10:=lv) (z11:=iv l.length) (z12:=iv j) (by omega) hr.rd acc.length 0 (.slice none 0 0) [] [] false X (by omega) (by omega) (by simp) (.refl _) hq2 Zw.nil
   rw [show iv ((0 : Nat) : Int)=.int .i64 0 from rfl,List.drop_zero] at e1
   rw [List.drop_zero,List.nil_append] at r1
   have hI' : Is (Zgk y acc) (·∈l.take (j+1)):=⟨ZtQ hI.asc hy,fun z=>by
    rw [Zei hg,ZnL,hI.mem z]
    exact Or.comm⟩
   have lX1:=hle.trans l1
   obtain ⟨X2,sl2,q2,e2,r2,l2,o2⟩ : ∃ X2 sl2 q2,(bind (uop .not (.bool (Zdi y acc false))) fun v42x23=>jn (cnd v42x23 (bind (bsl 1 1 (.string ⟨#[]⟩) [(0,1,strv y)]) fun v45x24=>bind (app 1 16 sl1 v45x24) fun v46x25=>ret (.nrm [v46x25,lv,iv l.length,iv j])) (ret (.nrm [sl1,lv,iv l.length,iv j]))) (c4 fun q26_0 q26_1 q26_2 q26_3=>ret (.nrm [q26_0,q26_1,q26_2,q26_3])) noX ZX : M Out) X1=some (.nrm [sl2,lv,iv l.length,iv j],X2)∧Zw X2 sl2 ((Zgk y acc).map strv) q2∧HLe H0 X2∧∀ i∈q2,H0.length≤i:=by
    have o1' : ∀ i∈q1,H0.length≤i:=fun i hi=>Nat.le_trans hle.len (o1 i hi)
    unfold Zgk
    cases hdn : Zdi y acc false
    ·have hml : (ZeQ y acc false).length≤100000:=by
      have:=Zn6 (s:=y) (l:=acc)
      unfold Zgk at this
      rw [List.length_append] at this
      omega
     obtain ⟨w,Y1,sl2,X2,q2,a1,a2,r2,l2,o2,_⟩:=Zhv (u:=y) r1 hml o1' lX1
     refine ⟨X2,sl2,q2,?_,by simpa using r2,l2,o2⟩
     rw [Za ZF]
     refine (ZS (vs:=[sl2,lv,iv l.length,iv j]) (H':=X2) ?_).trans rfl
     rw [Zb,if_pos (by rfl),Za a1,Za a2];rfl
    ·refine ⟨X1,sl1,q1,?_,by simpa using r1,lX1,o1'⟩
     rw [Za ZF]
     refine (ZS (vs:=[sl1,lv,iv l.length,iv j]) (H':=X1) ?_).trans rfl
     rw [Zb,if_neg (by simp)];rfl
   obtain ⟨X3,sl3,q3,acc3,e3,r3⟩:=Zn1 hl hA t (j+1) sl2 q2 (Zgk y acc) X2 (by omega) (by omega) (by rw [Zn6];omega) l2 o2 r2 hI'
   refine ⟨X3,sl3,q3,acc3,(ZA ?_).trans e3,r3⟩
   rw [ZJ]
   unfold Jg.l1
   rw [Za Zk,Zb,if_pos (by simpa using hlt)]
   refine (ZS (vs:=[sl2,lv,iv l.length,iv j]) (H':=X2) ?_).trans ?_
   ·rw [Za x1,Za x2,Za x3,Zb,if_neg (by simp),Za hlenS,Z5 e1,ZG,Jw]
    exact e2
   ·rw [ZJ,Za ZB,Qi (by omega)];rfl
theorem Zt6 (hl : l.length≤500) (hA : Sl X v (l.map strv)) : ∃ X' v' q' l',R (n+2) W8 [v] X=some (v',X')∧Zw X' v' (l'.map strv) q'∧Is l' (·∈l)∧l'.length≤l.length∧HLe X X'∧∀ i∈q',X.length≤i:=by
 obtain ⟨X',sl,q,acc,e,r⟩:=Zn1 (n:=n) hl hA l.length 0 (.slice none 0 0) [] [] X (by omega) (by omega) (by simp) (.refl _) (by simp) Zw.nil ⟨List.Pairwise.nil,by simp⟩
 rw [show iv ((0 : Nat) : Int)=.int .i64 0 from rfl] at e
 have hlen : Zy v X=some (iv l.length,X):=by have:=hA.len (H':=X);simpa using this
 refine ⟨X',sl,q,acc,?_,r⟩
 rw [R,Zpq rfl]
 unfold Jg
 rw [Za hlen,Z5 e,ZG]
 rfl
end
end Go.Proofs.YtedkoimihknggaaGreatDoor.A
namespace Go.Proofs.YtedkoimihknggaaGreatDoor.A
set_option linter.unusedVariables false
set_option linter.unusedSimpArgs false
open Go.Proofs Go.Proofs.YtedkoimihknggaaGreatDoor
abbrev Pr:=Tx × Tx
def prG (u : Pr) : List Value:=[strv u.1,strv u.2]
theorem Zq5 (u : Pr) : (prG u).length=2:=rfl
theorem ZAO (u : Pr) : (prG u).all oneCell=true:=rfl
structure RG (X : Zd) (nv mv : Value) (N : List Tx) (M : List Pr) : Prop where
 n : ∃ q,Zw X nv (N.map strv) q
 m : ∃ q,QZ 2 X mv (M.map prG) q
section
variable {X X' H0 : Zd} {n : Nat} {v nv mv z1 z2 z3 z4 : Value} {N l : List Tx} {M : List Pr} {x s t k m : Tx}
theorem RG.hle (h : RG X nv mv N M) (hl : HLe X X') : RG X' nv mv N M:=⟨h.n.elim fun q h=>⟨q,h.step hl.step (by simp)⟩,h.m.elim fun q h=>⟨q,h.step hl.step (by simp)⟩⟩
theorem RG.sn (h : RG X nv mv N M) : Sl X nv (N.map strv):=h.n.elim fun q h=>h.rd
theorem RG.sm (h : RG X nv mv N M) : SlN 2 X mv (M.map prG):=h.m.elim fun q h=>h.rd
theorem RG.one (h : RG X nv mv N M) : ([nv,mv].all oneCell)=true∧nv.cells=#[nv]∧mv.cells=#[mv]:=by
 obtain ⟨q,hn⟩:=h.n
 obtain ⟨q',hm⟩:=h.m
 exact ⟨by simp [hn.one.1,hm.one.1],hn.one.2,hm.one.2⟩
theorem RG.lenN (h : RG X nv mv N M) (Y : Zd) : Zy nv Y=some (iv N.length,Y):=by have:=h.sn.len (H':=Y);simpa using this
theorem RG.lenM (h : RG X nv mv N M) (Y : Zd) : Zy mv Y=some (iv M.length,Y):=by have:=h.sm.len (H':=Y);simpa using this
theorem RG.box (h : RG X nv mv N M) (Y : Zd) : alc 1 (.agg #[nv,mv]) Y=some (pt Y.length,Y++[.cells [nv,mv] 1 false false]):=K4 (vs:=[nv,mv]) h.one.1
theorem ZCB (Y : Zd) : alc 1 (.agg #[.slice none 0 0,.slice none 0 0]) Y=some (pt Y.length,Y++[.cells [.slice none 0 0,.slice none 0 0] 1 false false]):=K4 (vs:=[.slice none 0 0,.slice none 0 0]) rfl
theorem Zz7 {β : Type} {H : Zd} {sl : Value} {K : Value→A.M β} {us : List Pr} {j : Nat} {u : Pr} (h : SlN 2 H sl (us.map prG)) (hj : us[j]?=some u) :
  bind (ixa 2 sl (iv j)) (fun p=>bind (ldA 2 p) fun v=>bind (alc 1 (.agg #[.string ⟨#[]⟩,.string ⟨#[]⟩])) fun q=>bind (stA 2 q v) fun _=>K q) H=K (pt H.length) (H++[.cells (prG u) 1 false false]):=by
 have hr : (us.map prG)[j]?=some (prG u):=by rw [List.getElem?_map,hj];rfl
 rw [h.fetch hr (by omega) .i64]
 exact Zao (n:=2) (zs:=[.string ⟨#[]⟩,.string ⟨#[]⟩]) (r:=prG u) rfl rfl rfl rfl
theorem ZBs {sl : Value} {rows : List Pr} {q : List Nat} {u : Pr} (hr : QZ 2 X sl (rows.map prG) q) (hl : rows.length≤10000) (hq : ∀ j∈q,H0.length≤j) (h0 : HLe H0 X) :
  ∃ w X1 sl' X2 q',bsl 2 1 (.agg #[.string ⟨#[]⟩,.string ⟨#[]⟩]) [(0,2,.agg (prG u).toArray)] X=some (w,X1)∧app 2 32 sl w X1=some (sl',X2)∧QZ 2 X2 sl' ((rows++[u]).map prG) q'∧HLe H0 X2∧(∀ j∈q',H0.length≤j)∧Zx q X q' X2:=by
 have x4:=Zws (es:=2) (z:=.agg #[.string ⟨#[]⟩,.string ⟨#[]⟩]) (H:=X) rfl (Zq5 u) (ZAO u)
 have l1 : HLe X (X++[Zf.cells (prG u) 2 false false]):=.app _ _
 have s1 : SlN 2 (X++[Zf.cells (prG u) 2 false false]) (.slice (some ⟨X.length,0,none⟩) 1 1) [prG u]:=SlN.whole (rows:=[prG u]) (c:=1) (e:=2) (g:=false) (ro:=false) (by rw [ZC];simp) (by simp [Zq5])
 generalize X++[Zf.cells (prG u) 2 false false]=X1 at x4 l1 s1
 have hr1 : QZ 2 X1 sl _ q:=hr.keep fun j hj=>l1.step.keep j (hr.lt j hj) (by simp)
 obtain ⟨sl',X2,q',x5,hn2,s2⟩:=hr1.push (b:=32) s1 (Zq5 _) (by simp;omega) (by simp;omega)
 have hm:=(h0.trans l1).more s2 hq
 exact ⟨_,X1,sl',X2,q',x4,x5,by rw [List.map_append];exact hn2,hm.1,hm.2,(l1.step.more (by simp) (fun j hj=>.inl hj)).trans s2⟩
theorem ZCy {a a' : Option Addr} {n1 c1 n2 c2 : Nat} : bld (.agg #[.slice none 0 0,.slice none 0 0]) [(0,1,.slice a n1 c1),(1,1,.slice a' n2 c2)] X=some (.agg #[.slice a n1 c1,.slice a' n2 c2],X):=by
 simp [↓Z9,Qa,↓QG,Qn,Qq,Qo,↓Zb,Ye,Zu,YM,Qx,JG,QA,JH,JF,QT,JR,QU,Q0,Q8,Q4,QH,Zn,ZF,Y9,YN,Jq,Jc,Yd,ZB,Q1,J0,Yg,J2,ZD,Zq,Zk,Ja,Qk,Qm,Jy,JS,JU,Yc,↓Kj,Yf,↓g_r,Kh,Ks,W9,splice,Value.cells]
theorem Zw.isS {vs : List Value} {q : List Nat} (h : Zw X v vs q) : ∃ a n c,v=.slice a n c:=by
 rcases h with ⟨_,_,rfl⟩ | ⟨sid,rest,gr,rfl,_,_⟩
 ·exact ⟨_,_,_,rfl⟩
 ·exact ⟨_,_,_,rfl⟩
theorem QZ.isS {es : Nat} {vs : List (List Value)} {q : List Nat} (h : QZ es X v vs q) : ∃ a n c,v=.slice a n c:=by
 rcases h with ⟨_,_,rfl⟩ | ⟨sid,rest,r,gr,rfl,_,_⟩
 ·exact ⟨_,_,_,rfl⟩
 ·exact ⟨_,_,_,rfl⟩
theorem Zov (h : RG X nv mv N M) : ∃ X2,(∀ {β : Type} (K : Value→Value→A.M β),bind (alc 1 (.agg #[nv,mv])) (fun a=>bind (alc 1 (.agg #[.slice none 0 0,.slice none 0 0])) fun b=>K a b) X=K (pt X.length) (pt (X.length+1)) X2)∧X2[X.length]?=some (.cells [nv,mv] 1 false false)∧X2[X.length+1]?=some (.cells [.slice none 0 0,.slice none 0 0] 1 false false)∧HLe X X2∧X2.length=X.length+2:=by
 refine ⟨X++[.cells [nv,mv] 1 false false]++[.cells [.slice none 0 0,.slice none 0 0] 1 false false],fun K=>?_,Zk6,ZBP,(HLe.app _ _).trans (.app _ _),by simp⟩
 rw [Za (h.box X),Za (ZCB _)]
 simp
theorem fin {b1 b2 : Nat} {a1 a2 c1 c2 : Value} (h1 : X[b1]?=some (.cells [a1,a2] 1 false false)) (h2 : X[b2]?=some (.cells [c1,c2] 1 false false)) (hn : b1≠b2) (ho : ([a1,a2].all oneCell)=true) {β : Type} (K : Value→A.M β) :
  bind (ldA 2 (pt b1)) (fun v=>bind (stA 2 (pt b2) v) fun _=>bind (ldA 2 (pt b2)) K) X=K (.agg #[a1,a2]) (X.set b2 (.cells [a1,a2] 1 false false)):=by
 have e1 : ldA 2 (pt b1) X=some (.agg #[a1,a2],X):=ZQ h1 rfl
 have e2 : stA 2 (pt b2) (.agg #[a1,a2]) X=some (undef,X.set b2 (.cells [a1,a2] 1 false false)):=KW (vs:=[a1,a2]) h2 rfl rfl ho
 have e3 : ldA 2 (pt b2) (X.set b2 (.cells [a1,a2] 1 false false))=some (.agg #[a1,a2],X.set b2 (.cells [a1,a2] 1 false false)):=ZQ (ZM h2) rfl
 rw [Za e1,Za e2,Za e3]
theorem Zw.setB {vs : List Value} {q : List Nat} {b : Nat} {o : Zf} (h : Zw X v vs q) (hb : b∉q) : Zw (X.set b o) v vs q:=h.keep fun j hj=>List.getElem?_set_ne fun e=>hb (by rw [e];exact hj)
theorem QZ.setB {es : Nat} {vs : List (List Value)} {q : List Nat} {b : Nat} {o : Zf} (h : QZ es X v vs q) (hb : b∉q) : QZ es (X.set b o) v vs q:=h.keep fun j hj=>List.getElem?_set_ne fun e=>hb (by rw [e];exact hj)
end
end Go.Proofs.YtedkoimihknggaaGreatDoor.A
namespace Go.Proofs.YtedkoimihknggaaGreatDoor.A
set_option linter.unusedVariables false
set_option linter.unusedSimpArgs false
open Go.Proofs Go.Proofs.YtedkoimihknggaaGreatDoor
structure Zjy (N : List Tx) (M : List Pr) (K : List Tx) (mem : Mem) : Prop where
 n : Is N (·∈K)
 m : ∀ k x,(k,x)∈M↔mem k x=true
theorem Zz3 {N K : List Tx} (h : Is N (·∈K)) (hK : K.Nodup) : N.length=K.length:=
 ((List.perm_ext_iff_of_nodup h.asc.nodup hK).2 h.mem).length_eq
section
variable {X X' H0 : Zd} {n : Nat} {v nv mv z1 z2 z3 z4 : Value} {N l K : List Tx} {M : List Pr} {mem : Mem} {x s t k m : Tx}
theorem Ztn (h : RG X nv mv N M) {X1 : Zd} (l1 : HLe X X1) {e : Int} (b1 : X1[X.length]?=some (.cells [nv,mv] 1 false false)) (b2 : X1[X.length+1]?=some (.cells [.slice none 0 0,.slice none 0 0] 1 false false)) :
  ∃ X',(bind (ldA 2 (pt X.length)) fun v9x5=>bind (stA 2 (pt (X.length+1)) v9x5) fun _=>bind (ldA 2 (pt (X.length+1))) fun vrx6=>ret (Value.tuple #[vrx6,iv e])) X1=some (.tuple #[.agg #[nv,mv],iv e],X')∧RG X' nv mv N M∧HLe X X':=by
 have l2 : HLe X (X1.set (X.length+1) (.cells [nv,mv] 1 false false)):=l1.setN (by omega)
 exact ⟨_,fin b1 b2 (by omega) h.one.1 _,h.hle l2,l2⟩
theorem ZAz (h : RG X nv mv N M) (hO : Zjy N M K mem) (hK : K.Nodup) (hN : N.length≤100) : ∃ X' nv' N',R (n+5) ZdE [.agg #[nv,mv],strv k] X=some (.tuple #[.agg #[nv',mv],iv (Qz k K)],X')∧RG X' nv' mv N' M∧Zjy N' M (Zcf k K) mem∧HLe X X':=by
 have f1 : ∀ r X',ZbA (R (n+4)) (.agg #[nv,mv]) (strv k) X=some (r,X')→R (n+5) ZdE [.agg #[nv,mv],strv k] X=some (r,X'):=fun r X' hr=>by rw [R,ZrR rfl];exact hr
 obtain ⟨X1,e1,b1,b2,l1,len1⟩:=Zov h
 have h1:=h.hle l1
 have e2 : ∀ Y : Zd,R (n+4) QL [strv k] Y=some (.bool (Zo k),Y):=fun Y=>Zce (n:=n+1)
 have d0 : ld1 (pa X.length 0) X1=some (nv,X1):=Zv b1 rfl
 have e3 : R (n+4) Zan [nv,strv k] X1=_:=Zt2 (n:=n+3) (x:=k) (by omega) h1.sn
 have hlen:=Zz3 hO.n hK
 have same : ∀ e,Qz k K=e→e≠0→Zjy N M (Zcf k K) mem:=fun e he hne=>by unfold Zcf;rw [if_neg (by rw [he];exact hne)];exact hO
 cases hn : Zo k
 ·have hE : Qz k K=10:=by unfold Qz;rw [hn];rfl
  obtain ⟨X2,e4,r4,l4⟩:=Ztn (e:=10) h l1 b1 b2
  refine ⟨X2,nv,N,by rw [hE];refine f1 _ _ ?_;unfold ZbA;refine (e1 _).trans ?_;rw [Za (e2 _),hn,Za ZF,Zb,if_pos (by rfl)];exact e4,r4,same _ hE (by decide),l4⟩
 ·by_cases hk : k∈K
  ·have hE : Qz k K=9:=by unfold Qz;rw [hn,if_pos rfl,if_pos hk]
   have hkN : k∈N:=(hO.n.mem k).2 hk
   rw [decide_eq_true hkN] at e3
   obtain ⟨X2,e4,r4,l4⟩:=Ztn (e:=9) h l1 b1 b2
   refine ⟨X2,nv,N,by rw [hE];refine f1 _ _ ?_;unfold ZbA;refine (e1 _).trans ?_;rw [Za (e2 _),hn,Za ZF,Zb,if_neg (by simp),Za Zg,Za d0,Za e3,Zb,if_pos rfl];exact e4,r4,same _ hE (by decide),l4⟩
  ·have hkN : ¬ k∈N:=fun hm=>hk ((hO.n.mem k).1 hm)
   rw [decide_eq_false hkN] at e3
   by_cases hl : 6≤K.length
   ·have hE : Qz k K=7:=by unfold Qz;rw [hn,if_pos rfl,if_neg hk,if_pos hl]
    obtain ⟨X2,e4,r4,l4⟩:=Ztn (e:=7) h l1 b1 b2
    refine ⟨X2,nv,N,by rw [hE];refine f1 _ _ ?_;unfold ZbA;refine (e1 _).trans ?_;rw [Za (e2 _),hn,Za ZF,Zb,if_neg (by simp),Za Zg,Za d0,Za e3,Zb,if_neg (by simp),Za Zg,Za d0,Za (h.lenN _),Za Qm,Zb,if_pos (by simp;omega)];exact e4,r4,same _ hE (by decide),l4⟩
   ·have hE : Qz k K=0:=by unfold Qz;rw [hn,if_pos rfl,if_neg hk,if_neg hl]
    have e5:=ZyX (es:=1) (z:=.string ⟨#[]⟩) (H:=X1)
    have l5 : HLe X1 (X1++[Zf.cells [] 1 false false]):=.app _ _
    have c5 : (X1++[Zf.cells [] 1 false false])[X1.length]?=some (.cells [] 1 false false):=ZC
    generalize X1++[Zf.cells [] 1 false false]=Y1 at e5 l5 c5
    have d5 : ld1 (pa X.length 0) Y1=some (nv,Y1):=Zv (l5 _ _ b1) rfl
    obtain ⟨sl,Y2,q2,e6,r6,l6,o6⟩:=ZsQ (b:=16) (s:=.slice (some ⟨X1.length,0,none⟩) 0 0) (h1.hle l5).sn (by simp;omega) (by simp;omega) (.inr ⟨X1.length,false,rfl,c5,rfl⟩)
    have hq2 : ∀ j∈q2,X1.length≤j:=fun j hj=>by
     rcases o6 j hj with h | ⟨_,h⟩
     ·exact Nat.le_trans l5.len h
     ·have : X1.length=j:=by simpa [own1] using h
      omega
    obtain ⟨w,Y3,sl3,Y4,q4,a1,a2,r4,l4,o4,_⟩:=Zhv (H0:=X1) (u:=k) r6 (by omega) hq2 (l5.trans l6)
    obtain ⟨Y5,sl5,q5,N5,e7,r7,i7,n7,l7,o7⟩:=Zt6 (n:=n+2) (l:=N++[k]) (by simp;omega) r4.rd
    have e7 : R (n+4) W8 [sl3] Y4=_:=e7
    have l15:=l4.trans l7
    have c1:=l15 _ _ b1
    have c2:=l15 _ _ b2
    have w3 : st1 (pa X.length 0) sl5 Y5=some (undef,Y5.set X.length (.cells [sl5,mv] 1 false false)):=Kk (cs:=[nv,mv]) c1 (by simp) r7.one.1
    have c3 : (Y5.set X.length (.cells [sl5,mv] 1 false false))[X.length]?=some (.cells [sl5,mv] 1 false false):=ZM c1
    have c4 : (Y5.set X.length (.cells [sl5,mv] 1 false false))[X.length+1]?=some (.cells [.slice none 0 0,.slice none 0 0] 1 false false):=by rw [List.getElem?_set_ne (by omega)];exact c2
    have hone : ([sl5,mv].all oneCell)=true:=by
     have:=h.one.1
     simp only [List.all_cons,List.all_nil,Bool.and_true,Bool.and_eq_true] at this ⊢
     exact ⟨r7.one.1,this.2⟩
    have hq5 : X.length∉q5∧X.length+1∉q5:=⟨fun hm=>by have:=o7 _ hm;have:=l4.len;omega,fun hm=>by have:=o7 _ hm;have:=l4.len;omega⟩
    have l05:=(l1.trans l15)
    refine ⟨(Y5.set X.length (.cells [sl5,mv] 1 false false)).set (X.length+1) (.cells [sl5,mv] 1 false false),sl5,N5,?_,⟨⟨q5,(r7.setB hq5.1).setB hq5.2⟩,?_⟩,?_,(l05.setN (Nat.le_refl _)).setN (by omega)⟩
    ·rw [hE]
     refine f1 _ _ ?_
     unfold ZbA
     refine (e1 _).trans ?_
     rw [Za (e2 _),hn,Za ZF,Zb,if_neg (by simp),Za Zg,Za d0,Za e3,Zb,if_neg (by simp),Za Zg,Za d0,Za (h.lenN _),Za Qm,Zb,if_neg (by simp;omega),Za e5,Za Zg,Za d5,Za e6,Za a1,Za a2,Za e7,Za Zg,Za w3]
     exact fin c3 c4 (by omega) hone _
    ·obtain ⟨qm,hm⟩:=h.m
     exact ⟨qm,hm.step ((l05.setN (Nat.le_refl _)).setN (by omega) : HLe X _).step (by simp)⟩
    ·refine ⟨⟨i7.asc,fun z=>?_⟩,hO.m⟩
     rw [i7.mem z]
     unfold Zcf
     rw [if_pos hE]
     simp only [List.mem_append,List.mem_singleton,hO.n.mem z]
theorem ZnY {lv : Value} (hl : l.length≤1000) (hA : Sl H0 lv (l.map strv)) : ∀ (t j : Nat) (sl : Value) (q : List Nat) (acc : List Tx) (X : Zd),l.length - j=t→j≤l.length→acc.length≤j→HLe H0 X→(∀ i∈q,H0.length≤i)→Zw X sl (acc.map strv) q→
  ∃ X' sl' q',Zi (c7 (Jd.l1 (R n))) [strv k,z1,z2,sl,lv,iv l.length,iv j] X=some (.ext 0 [strv k,z1,z2,sl'],X')∧Zw X' sl' ((acc++(l.drop j).filter (fun x=>decide (x≠k))).map strv) q'∧Zx q X q' X'∧∀ i∈q',H0.length≤i
 | 0,j,sl,q,acc,X,ht,hj,ha,hle,hq,hr=>by
  rw [List.drop_eq_nil_of_le (by omega)]
  refine ⟨X,sl,q,ZN ?_,by simpa using hr,.refl _ _,hq⟩
  rw [Jj,show j=l.length by omega]
  unfold Jd.l1
  rw [Za Zk,Zb,if_neg (by simp)]
  rfl
 | t+1,j,sl,q,acc,X,ht,hj,ha,hle,hq,hr=>by
  have hkl : j < l.length:=by omega
  have hlt : (j : Int) < l.length:=by omega
  have hg:=List.getElem?_eq_getElem hkl
  have hd:=List.drop_eq_getElem_cons hkl
  generalize l[j]=y at hg hd
  have hA':=hA.mono hle
  have x1:=hA'.ix (i:=j) (by simpa using hkl) .i64 X
  have x2:=hA'.ldx (Yt hg)
  rw [hd,List.filter_cons]
  by_cases hy : y=k
  ·rw [if_neg (by simpa using hy)]
   obtain ⟨X2,sl2,q2,e2,r2,s2,o2⟩:=ZnY hl hA t (j+1) sl q acc X (by omega) (by omega) (by omega) hle hq hr
   refine ⟨X2,sl2,q2,(ZA ?_).trans e2,r2,s2,o2⟩
   rw [Jj]
   unfold Jd.l1
   rw [Za Zk,Zb,if_pos (by simpa using hlt),Za x1,Za x2,Za WM]
   refine (ZS (vs:=[strv k,z1,z2,sl,lv,iv l.length,iv j]) (H':=X) ?_).trans ?_
   ·rw [Zb,if_neg (by simpa using hy)];rfl
   ·rw [Jj,Za ZB,Qi (by omega)];rfl
  ·rw [if_pos (by simpa using hy)]
   obtain ⟨w,Y,sl1,X2,q1,a1,a2,r1,l2,o1,s1⟩:=Zhv (u:=y) hr (by omega) hq hle
   obtain ⟨X3,sl2,q2,e2,r2,s2,o2⟩:=ZnY hl hA t (j+1) sl1 q1 (acc++[y]) X2 (by omega) (by omega) (by simp;omega) l2 o1 r1
   refine ⟨X3,sl2,q2,(ZA ?_).trans e2,by simpa using r2,s1.trans s2,o2⟩
   rw [Jj]
   unfold Jd.l1
   rw [Za Zk,Zb,if_pos (by simpa using hlt),Za x1,Za x2,Za WM]
   refine (ZS (vs:=[strv k,z1,z2,sl1,lv,iv l.length,iv j]) (H':=X2) ?_).trans ?_
   ·rw [Zb,if_pos (by simpa using hy),Za a1,Za a2];rfl
   ·rw [Jj,Za ZB,Qi (by omega)];rfl
theorem ZnN (hl : M.length≤1000) (hs : SlN 2 H0 mv (M.map prG)) : ∀ (t j : Nat) (sl : Value) (q : List Nat) (acc : List Pr) (X : Zd),M.length - j=t→j≤M.length→acc.length≤j→HLe H0 X→(∀ i∈q,H0.length≤i)→QZ 2 X sl (acc.map prG) q→
  ∃ X' sl' q',Zi (c7 (Jd.l2 (R n))) [strv k,z1,z2,sl,mv,iv M.length,iv j] X=some (.ext 2 [z1,z2,sl'],X')∧QZ 2 X' sl' ((acc++(M.drop j).filter (fun u=>!(u.1==k))).map prG) q'∧Zx q X q' X'∧∀ i∈q',H0.length≤i
 | 0,j,sl,q,acc,X,ht,hj,ha,hle,hq,hr=>by
  rw [List.drop_eq_nil_of_le (by omega)]
  refine ⟨X,sl,q,ZN ?_,by simpa using hr,.refl _ _,hq⟩
  rw [Jj,show j=M.length by omega]
  unfold Jd.l2
  rw [Za Zk,Zb,if_neg (by simp)]
  rfl
 | t+1,j,sl,q,acc,X,ht,hj,ha,hle,hq,hr=>by
  have hkl : j < M.length:=by omega
  have hlt : (j : Int) < M.length:=by omega
  have hg:=List.getElem?_eq_getElem hkl
  have hd:=List.drop_eq_getElem_cons hkl
  generalize M[j]=u at hg hd
  have hf:=fun {K : Value→A.M Out}=>Zz7 (K:=K) (hs.mono hle) hg
  have bx : (X++[Zf.cells (prG u) 1 false false])[X.length]?=some (.cells (prG u) 1 false false):=ZC
  have l1 : HLe X (X++[Zf.cells (prG u) 1 false false]):=.app _ _
  generalize X++[Zf.cells (prG u) 1 false false]=X1 at hf bx l1
  have hr1:=hr.step l1.step (by simp)
  have d0 : ld1 (pa X.length 0) X1=some (strv u.1,X1):=Zv bx rfl
  have dA : ldA 2 (pt X.length) X1=some (.agg (prG u).toArray,X1):=ZQ bx rfl
  have q1 : bop .str .neq (strv u.1) (strv k) X1=some (.bool (!(u.1==k)),X1):=WM
  rw [hd,List.filter_cons]
  cases hb : !(u.1==k)
  ·rw [hb] at q1
   obtain ⟨X2,sl2,q2,e2,r2,s2,o2⟩:=ZnN hl hs t (j+1) sl q acc X1 (by omega) (by omega) (by omega) (hle.trans l1) hq hr1
   refine ⟨X2,sl2,q2,(ZA ?_).trans e2,by simpa using r2,l1.stepq.trans s2,o2⟩
   rw [Jj]
   unfold Jd.l2
   rw [Za Zk,Zb,if_pos (by simpa using hlt),hf,Za Zg,Za d0,Za q1]
   refine (ZS (vs:=[strv k,z1,z2,sl,mv,iv M.length,iv j]) (H':=X1) ?_).trans ?_
   ·rw [Zb,if_neg (by simp)];rfl
   ·rw [Jj,Za ZB,Qi (by omega)];rfl
  ·rw [hb] at q1
   obtain ⟨w,Y,sl1,X2,q1',a1,a2,r1,l2,o1,s1⟩:=ZBs (u:=u) hr1 (by omega) hq (hle.trans l1)
   obtain ⟨X3,sl2,q2,e2,r2,s2,o2⟩:=ZnN hl hs t (j+1) sl1 q1' (acc++[u]) X2 (by omega) (by omega) (by simp;omega) l2 o1 r1
   refine ⟨X3,sl2,q2,(ZA ?_).trans e2,by simpa using r2,(l1.stepq.trans s1).trans s2,o2⟩
   rw [Jj]
   unfold Jd.l2
   rw [Za Zk,Zb,if_pos (by simpa using hlt),hf,Za Zg,Za d0,Za q1]
   refine (ZS (vs:=[strv k,z1,z2,sl1,mv,iv M.length,iv j]) (H':=X2) ?_).trans ?_
   ·rw [Zb,if_pos rfl,Za dA,Za a1,Za a2];rfl
   ·rw [Jj,Za ZB,Qi (by omega)];rfl
theorem ZAq (h : RG X nv mv N M) (hO : Zjy N M K mem) (hN : N.length≤100) (hM : M.length≤1000) : ∃ X' nv' mv' N' M',R (n+5) ZdF [.agg #[nv,mv],strv k] X=some (.tuple #[.agg #[nv',mv'],iv (QP k K)],X')∧RG X' nv' mv' N' M'∧Zjy N' M' (ZbL k K) (if QP k K=0 then ZaD k mem else mem)∧M'.length≤M.length∧HLe X X':=by
 have f1 : ∀ r X',Jd (R (n+4)) (.agg #[nv,mv]) (strv k) X=some (r,X')→R (n+5) ZdF [.agg #[nv,mv],strv k] X=some (r,X'):=fun r X' hr=>by rw [R,ZrO rfl];exact hr
 obtain ⟨X1,e1,b1,b2,l1,len1⟩:=Zov h
 have h1:=h.hle l1
 have e2 : ∀ Y : Zd,R (n+4) QL [strv k] Y=some (.bool (Zo k),Y):=fun Y=>Zce (n:=n+1)
 have d0 : ld1 (pa X.length 0) X1=some (nv,X1):=Zv b1 rfl
 have e3 : R (n+4) Zan [nv,strv k] X1=_:=Zt2 (n:=n+3) (x:=k) (by omega) h1.sn
 have same : ∀ e,QP k K=e→e≠0→Zjy N M (ZbL k K) (if QP k K=0 then ZaD k mem else mem):=fun e he hne=>by unfold ZbL;rw [if_neg (by rw [he];exact hne),if_neg (by rw [he];exact hne)];exact hO
 cases hn : Zo k
 ·have hE : QP k K=10:=by unfold QP;rw [hn];rfl
  obtain ⟨X2,e4,r4,l4⟩:=Ztn (e:=10) h l1 b1 b2
  refine ⟨X2,nv,mv,N,M,by rw [hE];refine f1 _ _ ?_;unfold Jd;refine (e1 _).trans ?_;rw [Za (e2 _),hn,Za ZF,Zb,if_pos (by rfl)];exact e4,r4,same _ hE (by decide),Nat.le_refl _,l4⟩
 ·by_cases hk : k∈K
  ·have hE : QP k K=0:=by unfold QP;rw [hn,if_pos rfl,if_pos hk]
   have hkN : k∈N:=(hO.n.mem k).2 hk
   rw [decide_eq_true hkN] at e3
   obtain ⟨X2,sl,q,e4,r4,s4,o4⟩:=ZnY (n:=n+4) (k:=k) (z1:=pt X.length) (z2:=pt (X.length+1)) (by omega) h1.sn N.length 0 (.slice none 0 0) [] [] X1 (by omega) (by omega) (by simp) (.refl _) (by simp) Zw.nil
   rw [show iv ((0 : Nat) : Int)=.int .i64 0 from rfl] at e4
   rw [List.drop_zero,List.nil_append] at r4
   have l4:=s4.hle
   have d1 : ld1 (pa X.length 1) X2=some (mv,X2):=Zv (l4 _ _ b1) rfl
   obtain ⟨X3,sm,qm,e5,r5,s5,o5⟩:=ZnN (n:=n+4) (k:=k) (z1:=pt (X.length+1)) (z2:=sl) hM (h1.hle l4).sm M.length 0 (.slice none 0 0) [] [] X2 (by omega) (by omega) (by simp) (.refl _) (by simp) QZ.nil
   rw [show iv ((0 : Nat) : Int)=.int .i64 0 from rfl] at e5
   rw [List.drop_zero,List.nil_append] at r5
   have l5:=s5.hle
   have r4':=r4.step l5.step (by simp)
   have hbld : bld (.agg #[.slice none 0 0,.slice none 0 0]) [(0,1,sl),(1,1,sm)] X3=some (.agg #[sl,sm],X3):=by
    obtain ⟨a,n1,c1,rfl⟩:=r4.isS
    obtain ⟨a',n2,c2,rfl⟩:=r5.isS
    exact ZCy
   have c2:=l5 _ _ (l4 _ _ b2)
   have hone : ([sl,sm].all oneCell)=true:=by simp [r4.one.1,r5.one.1]
   have w1 : stA 2 (pt (X.length+1)) (.agg #[sl,sm]) X3=some (undef,X3.set (X.length+1) (.cells [sl,sm] 1 false false)):=KW (vs:=[sl,sm]) c2 rfl rfl hone
   have w2 : ldA 2 (pt (X.length+1)) (X3.set (X.length+1) (.cells [sl,sm] 1 false false))=some (.agg #[sl,sm],X3.set (X.length+1) (.cells [sl,sm] 1 false false)):=ZQ (ZM c2) rfl
   have hx1:=l1.len
   have hx2:=l4.len
   refine ⟨X3.set (X.length+1) (.cells [sl,sm] 1 false false),sl,sm,N.filter (fun x=>decide (x≠k)),M.filter (fun u=>!(u.1==k)),?_,⟨⟨q,r4'.setB fun hm=>by have:=o4 _ hm;omega⟩,⟨qm,r5.setB fun hm=>by have:=o5 _ hm;omega⟩⟩,?_,List.length_filter_le _ _,((l1.trans l4).trans l5).setN (by omega)⟩
   ·rw [hE]
    refine f1 _ _ ?_
    unfold Jd
    refine (e1 _).trans ?_
    rw [Za (e2 _),hn,Za ZF,Zb,if_neg (by simp),Za Zg,Za d0,Za e3,Za ZF,Zb,if_neg (by simp),Za Zg,Za d0,Za (h.lenN _),Z5 e4,ZG,ZJ,Za Zg,Za d1,Za (h.lenM _),Z5 e5,ZG,ZU,Za hbld,Za w1,Za w2]
    rfl
   ·unfold ZbL
    rw [if_pos hE,if_pos hE]
    refine ⟨⟨hO.n.asc.filter _,fun z=>?_⟩,fun k' z=>?_⟩
    ·rw [List.mem_filter,List.mem_filter,hO.n.mem z]
    ·rw [List.mem_filter,hO.m];unfold ZaD;simp
  ·have hE : QP k K=8:=by unfold QP;rw [hn,if_pos rfl,if_neg hk]
   have hkN : ¬ k∈N:=fun hm=>hk ((hO.n.mem k).1 hm)
   rw [decide_eq_false hkN] at e3
   obtain ⟨X2,e4,r4,l4⟩:=Ztn (e:=8) h l1 b1 b2
   refine ⟨X2,nv,mv,N,M,by rw [hE];refine f1 _ _ ?_;unfold Jd;refine (e1 _).trans ?_;rw [Za (e2 _),hn,Za ZF,Zb,if_neg (by simp),Za Zg,Za d0,Za e3,Za ZF,Zb,if_pos (by rfl)];exact e4,r4,same _ hE (by decide),Nat.le_refl _,l4⟩
end
end Go.Proofs.YtedkoimihknggaaGreatDoor.A
namespace Go.Proofs.YtedkoimihknggaaGreatDoor.A
set_option linter.unusedVariables false
set_option linter.unusedSimpArgs false
open Go.Proofs Go.Proofs.YtedkoimihknggaaGreatDoor
section
variable {X X' H0 : Zd} {n : Nat} {v nv mv z1 z2 z3 z4 : Value} {N l K : List Tx} {M : List Pr} {mem : Mem} {x s t k m : Tx}
end
end Go.Proofs.YtedkoimihknggaaGreatDoor.A

namespace Go.Proofs.YtedkoimihknggaaGreatDoor.A
set_option linter.unusedVariables false
set_option linter.unusedSimpArgs false
open Go.Proofs Go.Proofs.YtedkoimihknggaaGreatDoor
def ZdR (l : List Zj) : Prop:=l.Pairwise fun a b=>a.nm < b.nm
def ZcQ (k : List UInt8) (l : List Zj) : Option Nat:=l.findIdx? fun u=>u.nm==k
section
variable {x : Zj} {k s : List UInt8}
def Kv (u : Zj) : List Zj→Bool→List Zj
 | [],_=>[]
 | v :: l,done=>(if !done && decide (u.nm≤v.nm) then [u] else [])++((if v.nm≠u.nm then [v] else [])++Kv u l (done || decide (u.nm≤v.nm)))
def Wd (u : Zj) : List Zj→Bool→Bool
 | [],done=>done
 | v :: l,done=>Wd u l (done || decide (u.nm≤v.nm))
def putU (u : Zj) (l : List Zj) : List Zj:=Kv u l false++if Wd u l false then [] else [u]
theorem Zlo {u : Zj} : ∀ {l : List Zj},Kv u l true=l.filter fun v=>decide (v.nm≠u.nm)
 | []=>rfl
 | v :: l=>by
  unfold Kv
  rw [Bool.true_or,Zlo,List.filter_cons]
  by_cases h : v.nm=u.nm <;> simp [h]
theorem ZjK {u : Zj} : ∀ {l : List Zj},Wd u l true=true
 | []=>rfl
 | v :: l=>by unfold Wd;rw [Bool.true_or,ZjK]
theorem ZlV {u v : Zj} {l : List Zj} : putU u (v :: l)=if u.nm≤v.nm then u :: (v :: l).filter (fun v=>decide (v.nm≠u.nm)) else v :: putU u l:=by
 have e1 : Kv u (v :: l) false=(if !false && decide (u.nm≤v.nm) then [u] else [])++((if v.nm≠u.nm then [v] else [])++Kv u l (false || decide (u.nm≤v.nm))):=rfl
 have e2 : Wd u (v :: l) false=Wd u l (false || decide (u.nm≤v.nm)):=rfl
 unfold putU
 rw [e1,e2]
 by_cases h : u.nm≤v.nm
 ·rw [if_pos h]
  simp only [h,decide_true,Bool.or_true,Zlo,ZjK,Bool.not_false,Bool.and_self,if_true,List.filter_cons]
  by_cases h2 : v.nm=u.nm <;> simp [h2]
 ·rw [if_neg h]
  have h2 : v.nm≠u.nm:=fun e=>h (by rw [e];exact List.le_refl _)
  simp [h,h2]
theorem Zcj {u : Zj} : ∀ {l : List Zj},x∈putU u l↔x=u∨(x∈l∧x.nm≠u.nm)
 | []=>by simp [putU,Kv,Wd]
 | v :: l=>by
  rw [ZlV]
  by_cases h : u.nm≤v.nm
  ·rw [if_pos h,List.mem_cons,List.mem_filter];simp
  ·have h2 : v.nm≠u.nm:=fun e=>h (by rw [e];exact List.le_refl _)
   rw [if_neg h,List.mem_cons,Zcj,List.mem_cons]
   constructor
   ·rintro (rfl | h | h)
    ·exact .inr ⟨.inl rfl,h2⟩
    ·exact .inl h
    ·exact .inr ⟨.inr h.1,h.2⟩
   ·rintro (h | ⟨h | h,h3⟩)
    ·exact .inr (.inl h)
    ·exact .inl h
    ·exact .inr (.inr ⟨h,h3⟩)
theorem ZkB {u : Zj} : ∀ {l : List Zj},ZdR l→ZdR (putU u l)
 | [],_=>by simp [putU,Kv,Wd,ZdR]
 | v :: l,hr=>by
  have hr2 : (∀ a∈l,v.nm < a.nm)∧ZdR l:=by simpa [ZdR] using hr
  rw [ZlV]
  by_cases h : u.nm≤v.nm
  ·rw [if_pos h]
   refine List.pairwise_cons.2 ⟨fun a ha=>?_,List.Pairwise.filter _ hr⟩
   obtain ⟨h1,h2⟩:=List.mem_filter.1 ha
   have h2 : a.nm≠u.nm:=by simpa using h2
   have h3 : u.nm≤a.nm:=by
    rcases List.mem_cons.1 h1 with rfl | h1
    ·exact h
    ·exact List.le_trans h (List.le_of_lt (hr2.1 a h1))
   rcases Zmb u.nm a.nm with h4 | h4 | h4
   ·exact h4
   ·exact absurd h4.symm h2
   ·exact absurd h4 h3
  ·rw [if_neg h]
   refine List.pairwise_cons.2 ⟨fun a ha=>?_,ZkB hr2.2⟩
   rcases Zcj.1 ha with rfl | ⟨h1,_⟩
   ·rcases Zmb v.nm a.nm with h4 | h4 | h4
    ·exact h4
    ·exact absurd (by rw [h4];exact List.le_refl _) h
    ·exact absurd (List.le_of_lt h4) h
   ·exact hr2.1 a h1
end
section
variable {H0 H X : Zd} {n d b : Nat} {ws : List Zj} {k s : List UInt8} {wv : Value}
theorem Zax {u : Zj} (h : oneCell u.gv=true) : u.cells.all oneCell=true:=by simp only [Zj.cells,List.all_cons,h];rfl
theorem Zed {β : Type} {k : Value→M β} {sl : Value} {us : List Zj} (h : SlN 5 H sl (us.map Zj.cells)) {j : Nat} {u : Zj} (ho : oneCell u.gv=true) (hj : us[j]?=some u) :
  bind (ixa 5 sl (iv j)) (fun p=>bind (ldA 5 p) fun v=>bind (alc 1 (.agg #[.string ⟨#[]⟩,.string ⟨#[]⟩,.string ⟨#[]⟩,.bool false,.slice none 0 0])) fun q=>bind (stA 5 q v) fun _=>k q) H=k (pt H.length) (H++[.cells u.cells 1 false false]):=by
 have hr : (us.map Zj.cells)[j]?=some u.cells:=by rw [List.getElem?_map,hj];rfl
 rw [h.fetch hr (by omega) .i64]
 exact Zao (n:=5) (zs:=[.string ⟨#[]⟩,.string ⟨#[]⟩,.string ⟨#[]⟩,.bool false,.slice none 0 0]) (r:=u.cells) rfl rfl rfl (Zax ho)
theorem ZCw {a c : List UInt8} {H : Zd} : bop .str .leq (strv a) (strv c) H=some (.bool (decide (a≤c)),H):=by
 have h : (Op.bytesLess a c || a==c)=decide (a≤c):=by
  rw [bytesLess_eq,Bool.eq_iff_iff]
  simp only [Bool.or_eq_true,decide_eq_true_eq,beq_iff_eq]
  constructor
  ·rintro (h | h)
   ·exact List.le_of_lt h
   ·rw [h];exact List.le_refl _
  ·intro h
   rcases Zmb a c with h4 | h4 | h4
   ·exact .inl h4
   ·exact .inr h4
   ·exact absurd h4 h
 rw [← h]
 show (sop .leq (⟨a.toArray⟩ : ByteArray) (⟨c.toArray⟩ : ByteArray)).map (·,H)=_
 unfold sop
 rw [Kt,Kt]
 rfl
theorem ZsN (hu : ws.length≤1000) (hA : SlN 5 H0 wv (ws.map Zj.cells)) (ho : ∀ u∈ws,oneCell u.gv=true) : ∀ (t j : Nat) (X : Zd),ws.length - j=t→j≤ws.length→HLe H0 X→
  ∃ X',Zi (c4 (K8.l1 (R n))) [strv k,wv,iv ws.length,iv j] X=some (match ZcQ k (ws.drop j) with | some i=>.ret (iv (j+i : Nat)) | none=>.ext 0 [],X')∧HLe H0 X'
 | 0,j,X,ht,hj,hle=>by
  have : j=ws.length:=by omega
  subst this
  rw [List.drop_length]
  refine ⟨X,ZN ?_,hle⟩
  rw [ZJ]
  unfold K8.l1
  rw [Za Zk,Zb,if_neg (by simp)]
  rfl
 | t+1,j,X,ht,hj,hle=>by
  have hjl : j < ws.length:=by omega
  have hlt : (j : Int) < ws.length:=by omega
  have hg:=List.getElem?_eq_getElem hjl
  have hd:=List.drop_eq_getElem_cons hjl
  generalize ws[j]=u at hg hd
  have hf:=fun {K : Value→M Out}=>Zed (k:=K) (hA.mono hle) (ho _ (List.mem_of_getElem? hg)) hg
  have g1 : (X++[Zf.cells u.cells 1 false false])[X.length]?=some (.cells u.cells 1 false false):=ZC
  have l1 : ld1 (pt X.length) (X++[.cells u.cells 1 false false])=some (strv u.nm,X++[.cells u.cells 1 false false]):=Zv g1 rfl
  have k1 : HLe X (X++[Zf.cells u.cells 1 false false]):=.app _ _
  generalize X++[Zf.cells u.cells 1 false false]=X1 at g1 l1 k1 hf
  have hb : c4 (K8.l1 (R n)) [strv k,wv,iv ws.length,iv j] X=some (if u.nm==k then .ret (iv j) else .nrm [strv k,wv,iv ws.length,iv ((j+1 : Nat) : Int)],X1):=by
   rw [ZJ]
   unfold K8.l1
   rw [Za Zk,Zb,if_pos (by simpa using hlt),hf,Za Zg,Za l1,Za Zdh,Zb]
   cases h : u.nm==k
   ·rw [if_neg (by simp),Za ZB,Qi (by omega)];rfl
   ·rw [if_pos rfl];rfl
  unfold ZcQ
  rw [hd,List.findIdx?_cons]
  cases h : u.nm==k
  ·rw [h] at hb
   obtain ⟨X2,e2,k2⟩:=ZsN hu hA ho t (j+1) X1 (by omega) (by omega) (hle.trans k1)
   refine ⟨X2,(ZA hb).trans (e2.trans ?_),k2⟩
   show some (match ZcQ k (ws.drop (j+1)) with | some i=>_ | none=>_,X2)=some (match Option.map (·+1) (ZcQ k (ws.drop (j+1))) with | some i=>_ | none=>_,X2)
   cases ZcQ k (ws.drop (j+1)) with
   | none=>rfl
   | some i=>simp only [Option.map_some];rw [show j+1+i=j+(i+1) by omega]
  ·rw [h] at hb
   exact ⟨X1,QR hb,hle.trans k1⟩
theorem Zqi (hu : ws.length≤1000) (hA : SlN 5 X wv (ws.map Zj.cells)) (ho : ∀ u∈ws,oneCell u.gv=true) : ∃ X',R (n+1) WO [wv,strv k] X=some (match ZcQ k ws with | some i=>iv i | none=>iv (-1),X')∧HLe X X':=by
 obtain ⟨X',e,l⟩:=ZsN (n:=n) (k:=k) hu hA ho ws.length 0 X (by omega) (by omega) (.refl _)
 rw [List.drop_zero] at e
 have e : Zi (c4 (K8.l1 (R n))) [strv k,wv,iv ws.length,.int .i64 0] X=_:=e
 have hl:=hA.len (H':=X)
 rw [List.length_map] at hl
 refine ⟨X',?_,l⟩
 rw [R,ZrH rfl]
 unfold K8
 rw [Za hl]
 cases h : ZcQ k ws with
 | none=>rw [h] at e;rw [Z5 e,ZG];rfl
 | some i=>
  rw [h] at e
  rw [Yh e]
  simp [ret]
theorem Zpv {sl : Value} {rows : List Zj} {q : List Nat} {u : Zj} {p : Nat} {e : Nat} {g ro : Bool} (hu1 : oneCell u.gv=true) (hr : QZ 5 X sl (rows.map Zj.cells) q) (hl : rows.length≤10000) (hp : X[p]?=some (.cells u.cells e g ro)) (hq : ∀ j∈q,H0.length≤j) (h0 : HLe H0 X) :
  ∃ w X1 sl' X2 q',ldA 5 (pt p) X=some (.agg u.cells.toArray,X)∧bsl 5 1 (.agg #[.string ⟨#[]⟩,.string ⟨#[]⟩,.string ⟨#[]⟩,.bool false,.slice none 0 0]) [(0,5,.agg u.cells.toArray)] X=some (w,X1)∧app 5 80 sl w X1=some (sl',X2)∧QZ 5 X2 sl' ((rows++[u]).map Zj.cells) q'∧HLe H0 X2∧(∀ j∈q',H0.length≤j)∧Zx q X q' X2:=by
 have e1 : ldA 5 (pt p) X=some (.agg u.cells.toArray,X):=ZQ (n:=5) hp rfl
 have x4:=Zws (es:=5) (z:=.agg #[.string ⟨#[]⟩,.string ⟨#[]⟩,.string ⟨#[]⟩,.bool false,.slice none 0 0]) (H:=X) rfl ((rfl : u.cells.length=5)) (Zax hu1)
 have l1 : HLe X (X++[Zf.cells u.cells 5 false false]):=.app _ _
 have s1 : SlN 5 (X++[Zf.cells u.cells 5 false false]) (.slice (some ⟨X.length,0,none⟩) 1 1) [u.cells]:=SlN.whole (rows:=[u.cells]) (c:=1) (e:=5) (g:=false) (ro:=false) (by rw [ZC];simp) (by simp)
 generalize X++[Zf.cells u.cells 5 false false]=X1 at x4 l1 s1
 have hr1 : QZ 5 X1 sl _ q:=hr.keep fun j hj=>l1.step.keep j (hr.lt j hj) (by simp)
 obtain ⟨sl',X2,q',x5,hn2,s2⟩:=hr1.push (b:=80) s1 ((rfl : u.cells.length=5)) (by simp;omega) (by simp;omega)
 have hm:=(h0.trans l1).more s2 hq
 exact ⟨_,X1,sl',X2,q',e1,x4,x5,by rw [List.map_append];exact hn2,hm.1,hm.2,(l1.step.more (by simp) (fun j hj=>.inl hj)).trans s2⟩
theorem ZnG (hu : ws.length≤1000) (hA : SlN 5 H0 wv (ws.map Zj.cells)) (ho : ∀ u∈ws,oneCell u.gv=true) : ∀ (t j : Nat) (sl : Value) (q : List Nat) (acc : List Zj) (X : Zd),ws.length - j=t→j≤ws.length→acc.length≤j→HLe H0 X→(∀ i∈q,H0.length≤i)→QZ 5 X sl (acc.map Zj.cells) q→
  ∃ X' sl' q',Zi (c5 (K7.l1 (R n))) [strv k,sl,wv,iv ws.length,iv j] X=some (.ext 0 [sl'],X')∧QZ 5 X' sl' ((acc++(ws.drop j).filter fun v=>decide (v.nm≠k)).map Zj.cells) q'∧HLe H0 X'∧∀ i∈q',H0.length≤i
 | 0,j,sl,q,acc,X,ht,hj,ha,hle,hq,hr=>by
  have : j=ws.length:=by omega
  subst this
  rw [List.drop_length]
  refine ⟨X,sl,q,ZN ?_,by simpa using hr,hle,hq⟩
  rw [Qs]
  unfold K7.l1
  rw [Za Zk,Zb,if_neg (by simp)]
  rfl
 | t+1,j,sl,q,acc,X,ht,hj,ha,hle,hq,hr=>by
  have hjl : j < ws.length:=by omega
  have hlt : (j : Int) < ws.length:=by omega
  have hg:=List.getElem?_eq_getElem hjl
  have hd:=List.drop_eq_getElem_cons hjl
  generalize ws[j]=u at hg hd
  have hf:=fun {K : Value→M Out}=>Zed (k:=K) (hA.mono hle) (ho _ (List.mem_of_getElem? hg)) hg
  have g1 : (X++[Zf.cells u.cells 1 false false])[X.length]?=some (.cells u.cells 1 false false):=ZC
  have l1 : ld1 (pt X.length) (X++[.cells u.cells 1 false false])=some (strv u.nm,X++[.cells u.cells 1 false false]):=Zv g1 rfl
  have k1 : HLe X (X++[Zf.cells u.cells 1 false false]):=.app _ _
  generalize X++[Zf.cells u.cells 1 false false]=X1 at g1 l1 k1 hf
  have hr1 : QZ 5 X1 sl _ q:=hr.keep fun i hi=>k1.step.keep i (hr.lt i hi) (by simp)
  rw [hd,List.filter_cons]
  by_cases h : u.nm=k
  ·rw [if_neg (by simpa using h)]
   obtain ⟨X2,sl2,q2,e2,r2⟩:=ZnG hu hA ho t (j+1) sl q acc X1 (by omega) (by omega) (by omega) (hle.trans k1) hq hr1
   refine ⟨X2,sl2,q2,(ZA ?_).trans e2,r2⟩
   have q1 : bop .str .neq (strv u.nm) (strv k) X1=some (.bool false,X1):=by rw [WM,h];simp
   rw [Qs]
   unfold K7.l1
   rw [Za Zk,Zb,if_pos (by simpa using hlt),hf,Za Zg,Za l1,Za q1]
   refine (ZS (vs:=[strv k,sl,wv,iv ws.length,iv j]) (H':=X1) ?_).trans ?_
   ·rw [Zb,if_neg (by simp)];rfl
   ·rw [Qs,Za ZB,Qi (by omega)];rfl
  ·rw [if_pos (by simpa using h)]
   obtain ⟨w,X2,sl',X3,q',a1,a2,a3,hr3,le3,o3,_⟩:=Zpv (ho _ (List.mem_of_getElem? hg)) hr1 (by omega) g1 hq (hle.trans k1)
   obtain ⟨X4,sl4,q4,e4,r4,r5⟩:=ZnG hu hA ho t (j+1) sl' q' (acc++[u]) X3 (by omega) (by omega) (by simp;omega) le3 o3 hr3
   refine ⟨X4,sl4,q4,(ZA ?_).trans e4,by simpa using r4,r5⟩
   have q1 : bop .str .neq (strv u.nm) (strv k) X1=some (.bool true,X1):=by rw [WM,beq_eq_false_iff_ne.2 h];rfl
   rw [Qs]
   unfold K7.l1
   rw [Za Zk,Zb,if_pos (by simpa using hlt),hf,Za Zg,Za l1,Za q1]
   refine (ZS (vs:=[strv k,sl',wv,iv ws.length,iv j]) (H':=X3) ?_).trans ?_
   ·rw [Zb,if_pos rfl,Za a1,Za a2,Za a3];rfl
   ·rw [Qs,Za ZB,Qi (by omega)];rfl
theorem Zvz (hu : ws.length≤1000) (hA : SlN 5 X wv (ws.map Zj.cells)) (ho : ∀ u∈ws,oneCell u.gv=true) : ∃ X' v,R (n+1) ZbC [wv,strv k] X=some (v,X')∧SlN 5 X' v ((ws.filter fun v=>decide (v.nm≠k)).map Zj.cells)∧HLe X X':=by
 obtain ⟨X',sl,q,e,r,l,_⟩:=ZnG (n:=n) (k:=k) hu hA ho ws.length 0 (.slice none 0 0) [] [] X (by omega) (by omega) (by simp) (.refl _) (by simp) QZ.nil
 rw [List.drop_zero] at r
 have e : Zi (c5 (K7.l1 (R n))) [strv k,.slice none 0 0,wv,iv ws.length,.int .i64 0] X=_:=e
 have hl:=hA.len (H':=X)
 rw [List.length_map] at hl
 refine ⟨X',sl,?_,r.rd,l⟩
 rw [R,Zse rfl]
 unfold K7
 rw [Za hl,Z5 e,ZG]
 rfl
theorem Zvt {u : Zj} {p0 : Nat} (hu : ws.length≤1000) (hA : SlN 5 H0 wv (ws.map Zj.cells)) (ho : ∀ u∈ws,oneCell u.gv=true) (hu0 : oneCell u.gv=true) (hp0 : H0[p0]?=some (.cells u.cells 1 false false)) : ∀ (t j : Nat) (sl : Value) (q : List Nat) (acc : List Zj) (done : Bool) (X : Zd),ws.length - j=t→j≤ws.length→acc.length≤2 * j→HLe H0 X→(∀ i∈q,H0.length≤i)→QZ 5 X sl (acc.map Zj.cells) q→
  ∃ X' sl' q',Zi (c6 (Zar.l1 (R n))) [pt p0,sl,.bool done,wv,iv ws.length,iv j] X=some (.ext 0 [pt p0,sl',.bool (Wd u (ws.drop j) done)],X')∧QZ 5 X' sl' ((acc++Kv u (ws.drop j) done).map Zj.cells) q'∧HLe H0 X'∧∀ i∈q',H0.length≤i
 | 0,j,sl,q,acc,done,X,ht,hj,ha,hle,hq,hr=>by
  have : j=ws.length:=by omega
  subst this
  rw [List.drop_length]
  refine ⟨X,sl,q,ZN ?_,by simpa [Kv] using hr,hle,hq⟩
  rw [Jw]
  unfold Zar.l1
  rw [Za Zk,Zb,if_neg (by simp)]
  rfl
 | t+1,j,sl,q,acc,done,X,ht,hj,ha,hle,hq,hr=>by
  have hjl : j < ws.length:=by omega
  have hlt : (j : Int) < ws.length:=by omega
  have hg:=List.getElem?_eq_getElem hjl
  have hd:=List.drop_eq_getElem_cons hjl
  generalize ws[j]=v at hg hd
  have hf:=fun {K : Value→M Out}=>Zed (k:=K) (hA.mono hle) (ho _ (List.mem_of_getElem? hg)) hg
  have hlv : X.length < (X++[Zf.cells v.cells 1 false false]).length:=by simp
  have g1 : (X++[Zf.cells v.cells 1 false false])[X.length]?=some (.cells v.cells 1 false false):=ZC
  have k1 : HLe X (X++[Zf.cells v.cells 1 false false]):=.app _ _
  have hqx : ∀ i∈q,i < X.length:=hr.lt
  generalize X++[Zf.cells v.cells 1 false false]=X1 at g1 k1 hf hlv
  generalize X.length=pv at g1 hf hlv hqx
  have hr1 : QZ 5 X1 sl _ q:=hr.keep fun i hi=>k1.step.keep i (hr.lt i hi) (by simp)
  have le1:=hle.trans k1
  have hp1:=le1 _ _ hp0
  have l1 : ld1 (pt pv) X1=some (strv v.nm,X1):=Zv g1 rfl
  have l0 : ld1 (pt p0) X1=some (strv u.nm,X1):=Zv hp1 rfl
  have e1 : Kv u (ws.drop j) done=(if !done && decide (u.nm≤v.nm) then [u] else [])++((if v.nm≠u.nm then [v] else [])++Kv u (ws.drop (j+1)) (done || decide (u.nm≤v.nm))):=by rw [hd];rfl
  have e2 : Wd u (ws.drop j) done=Wd u (ws.drop (j+1)) (done || decide (u.nm≤v.nm)):=by rw [hd];rfl
  rw [e1,e2]
  obtain ⟨X2,sl2,q2,b1,hr2,le2,o2,g2⟩ : ∃ X2 sl2 q2,(∀ K : Value→Value→Value→Value→Value→Value→Value→M Out,jn (cnd (.bool (!done && decide (u.nm≤v.nm)))
    (bind (ldA 5 (pt p0)) fun v25x15=>bind (bsl 5 1 (.agg #[.string ⟨#[]⟩,.string ⟨#[]⟩,.string ⟨#[]⟩,.bool false,.slice none 0 0]) [(0,5,v25x15)]) fun v26x16=>bind (app 5 80 sl v26x16) fun v27x17=>ret (.nrm [pt p0,v27x17,(Value.bool true),pt pv,wv,iv ws.length,iv j]))
    (ret (.nrm [pt p0,sl,.bool done,pt pv,wv,iv ws.length,iv j]))) (c7 K) noX ZX X1=K (pt p0) sl2 (.bool (done || decide (u.nm≤v.nm))) (pt pv) wv (iv ws.length) (iv j) X2)∧
    QZ 5 X2 sl2 ((acc++if !done && decide (u.nm≤v.nm) then [u] else []).map Zj.cells) q2∧HLe H0 X2∧(∀ i∈q2,H0.length≤i)∧X2[pv]?=some (.cells v.cells 1 false false):=by
   by_cases hb : (!done && decide (u.nm≤v.nm))=true
   ·rw [hb]
    obtain ⟨w,Xa,sl',Xb,q',a1,a2,a3,hr3,le3,o3,s3⟩:=Zpv hu0 hr1 (by omega) hp1 hq le1
    refine ⟨Xb,sl',q',fun K=>?_,by simpa using hr3,le3,o3,s3.get g1 (fun h=>by have:=hqx _ h;omega)⟩
    simp only [Bool.and_eq_true,Bool.not_eq_true',decide_eq_true_eq] at hb
    rw [hb.1,decide_eq_true hb.2]
    refine (ZS (vs:=[pt p0,sl',.bool true,pt pv,wv,iv ws.length,iv j]) (H':=Xb) ?_).trans ?_
    ·rw [Zb,if_pos rfl,Za a1,Za a2,Za a3];rfl
    ·rw [Jj];rfl
   ·have hb : (!done && decide (u.nm≤v.nm))=false:=by simpa using hb
    rw [hb]
    refine ⟨X1,sl,q,fun K=>?_,by simpa using hr1,le1,hq,g1⟩
    have hdn : (done || decide (u.nm≤v.nm))=done:=by cases done <;> simp_all
    rw [hdn]
    refine (ZS (vs:=[pt p0,sl,.bool done,pt pv,wv,iv ws.length,iv j]) (H':=X1) ?_).trans ?_
    ·rw [Zb,if_neg (by simp)];rfl
    ·rw [Jj]
  generalize hdone : (done || decide (u.nm≤v.nm))=done2 at b1 ⊢
  have hp2:=le2 _ _ hp0
  have l12 : ld1 (pt pv) X2=some (strv v.nm,X2):=Zv g2 rfl
  have l02 : ld1 (pt p0) X2=some (strv u.nm,X2):=Zv hp2 rfl
  have hacc : (acc++if !done && decide (u.nm≤v.nm) then [u] else []).length≤2 * j+1:=by
   rw [List.length_append];split <;> simp <;> omega
  obtain ⟨X3,sl3,q3,b2,hr3,le3,o3⟩ : ∃ X3 sl3 q3,(∀ K : Value→Value→Value→Value→Value→Value→M Out,jn (cnd (.bool (!(v.nm==u.nm)))
    (bind (ldA 5 (pt pv)) fun v34x24=>bind (bsl 5 1 (.agg #[.string ⟨#[]⟩,.string ⟨#[]⟩,.string ⟨#[]⟩,.bool false,.slice none 0 0]) [(0,5,v34x24)]) fun v35x25=>bind (app 5 80 sl2 v35x25) fun v36x26=>ret (.nrm [pt p0,v36x26,.bool done2,wv,iv ws.length,iv j]))
    (ret (.nrm [pt p0,sl2,.bool done2,wv,iv ws.length,iv j]))) (c6 K) noX ZX X2=K (pt p0) sl3 (.bool done2) wv (iv ws.length) (iv j) X3)∧
    QZ 5 X3 sl3 (((acc++if !done && decide (u.nm≤v.nm) then [u] else [])++if v.nm≠u.nm then [v] else []).map Zj.cells) q3∧HLe H0 X3∧(∀ i∈q3,H0.length≤i):=by
   by_cases hb : v.nm=u.nm
   ·rw [show (if v.nm≠u.nm then [v] else [])=[] from if_neg (by simpa using hb)]
    refine ⟨X2,sl2,q2,fun K=>?_,by rw [List.append_nil];exact hr2,le2,o2⟩
    refine (ZS (vs:=[pt p0,sl2,.bool done2,wv,iv ws.length,iv j]) (H':=X2) ?_).trans ?_
    ·rw [Zb,if_neg (by simp [hb])];rfl
    ·rw [Jw]
   ·rw [show (if v.nm≠u.nm then [v] else [])=[v] from if_pos hb]
    obtain ⟨w,Xa,sl',Xb,q',a1,a2,a3,hr3,le3,o3,s3⟩:=Zpv (ho _ (List.mem_of_getElem? hg)) hr2 (by omega) g2 o2 le2
    refine ⟨Xb,sl',q',fun K=>?_,hr3,le3,o3⟩
    refine (ZS (vs:=[pt p0,sl',.bool done2,wv,iv ws.length,iv j]) (H':=Xb) ?_).trans ?_
    ·rw [Zb,if_pos (by simp [hb]),Za a1,Za a2,Za a3];rfl
    ·rw [Jw]
  have hacc2 : ((acc++if !done && decide (u.nm≤v.nm) then [u] else [])++if v.nm≠u.nm then [v] else []).length≤2 * (j+1):=by
   have h1 : (if v.nm≠u.nm then [v] else []).length≤1:=by split <;> simp
   rw [List.length_append];omega
  obtain ⟨X4,sl4,q4,e4,r4,r5⟩:=Zvt hu hA ho hu0 hp0 t (j+1) sl3 q3 _ done2 X3 (by omega) (by omega) hacc2 le3 o3 hr3
  refine ⟨X4,sl4,q4,(ZA ?_).trans e4,by rw [List.append_assoc,List.append_assoc] at r4;exact r4,r5⟩
  rw [Jw]
  unfold Zar.l1
  rw [Za Zk,Zb,if_pos (by simpa using hlt),hf,Za ZF]
  have hgate : ∀ K : List Value→M Out,(∀ w0 w1 w2 w3 w4,(∀ X' : Zd,pick (.bool (!done)) w4 (.bool false) X'=some (.bool (!done && decide (u.nm≤v.nm)),X'))→K [w0,w1,w2,w3,w4] X1=some (.nrm [pt p0,sl3,.bool done2,wv,iv ws.length,iv ((j+1 : Nat) : Int)],X3))→
    bind (ZH (.bool (!done)) true 5 (bind (fa 0 (pt p0)) fun v18x8=>bind (ld1 v18x8) fun v19x9=>bind (fa 0 (pt pv)) fun v20x10=>bind (ld1 v20x10) fun v21x11=>bind (bop .str .leq v19x9 v21x11) fun v22x12=>ret [v18x8,v19x9,v20x10,v21x11,v22x12])) K X1=some (.nrm [pt p0,sl3,.bool done2,wv,iv ws.length,iv ((j+1 : Nat) : Int)],X3):=fun K hK=>by
   cases done
   ·simp only [Bool.not_false]
    rw [Z8,Zp,Za Zg,Zp,Za l0,Zp,Za Zg,Zp,Za l1,Zp,Za ZCw,Qb]
    exact hK _ _ _ _ _ (fun X'=>by rw [Zn];rfl)
   ·simp only [Bool.not_true]
    rw [Za (g_r.trans (if_neg (by simp)))]
    exact hK _ _ _ _ _ (fun X'=>by rw [Zn];rfl)
  refine hgate _ fun w0 w1 w2 w3 w4 hpk=>?_
  rw [Qs,Za (hpk _)]
  refine (b1 _).trans ?_
  rw [Za Zg,Za l12,Za Zg,Za l02,Za WM]
  refine (b2 _).trans ?_
  rw [Za ZB,Qi (by omega)]
  rfl
theorem ZsL {u : Zj} (hu0 : oneCell u.gv=true) (hu : ws.length≤1000) (hA : SlN 5 X wv (ws.map Zj.cells)) (ho : ∀ u∈ws,oneCell u.gv=true) : ∃ X' v q,R (n+1) Zat [wv,.agg u.cells.toArray] X=some (v,X')∧QZ 5 X' v ((putU u ws).map Zj.cells) q∧HLe X X'∧∀ j∈q,X.length≤j:=by
 have e1 : alc 1 (.agg u.cells.toArray) X=some (pt X.length,X++[.cells u.cells 1 false false]):=by
  rw [Q0]
  exact if_pos (show u.cells.toArray.toList.all oneCell=true by simpa using Zax hu0)
 have k1 : HLe X (X++[.cells u.cells 1 false false]):=.app _ _
 have cu : (X++[Zf.cells u.cells 1 false false])[X.length]?=some (.cells u.cells 1 false false):=ZC
 generalize X++[Zf.cells u.cells 1 false false]=X1 at e1 k1 cu
 have hlx:=k1.len
 generalize X.length=p0 at e1 cu hlx ⊢
 obtain ⟨X2,sl,q,e2,r2,l2,o2⟩:=Zvt (n:=n) hu (hA.mono k1) ho hu0 cu ws.length 0 (.slice none 0 0) [] [] false X1 (by omega) (by omega) (by simp) (.refl _) (by simp) QZ.nil
 rw [List.drop_zero] at e2 r2
 have e2 : Zi (c6 (Zar.l1 (R n))) [pt p0,.slice none 0 0,.bool false,wv,iv ws.length,.int .i64 0] X1=_:=e2
 have hl:=hA.len (H':=X1)
 rw [List.length_map] at hl
 have hrun : ∀ r,(jn (cnd (.bool (!Wd u ws false)) (bind (ldA 5 (pt p0)) fun v41x34=>bind (bsl 5 1 (.agg #[.string ⟨#[]⟩,.string ⟨#[]⟩,.string ⟨#[]⟩,.bool false,.slice none 0 0]) [(0,5,v41x34)]) fun v42x35=>bind (app 5 80 sl v42x35) fun v43x36=>ret (.nrm [v43x36])) (ret (.nrm [sl]))) (c1 fun q37_0=>ret q37_0) noX ret) X2=r→R (n+1) Zat [wv,.agg u.cells.toArray] X=r:=fun r hr=>by
  rw [R,Zux rfl]
  unfold Zar
  rw [Za e1,Za hl,Z5 e2,ZG,ZU,Za ZF]
  exact hr
 have hml : (Kv u ws false).length≤2 * ws.length:=by
  have : ∀ (l : List Zj) (b : Bool),(Kv u l b).length≤2 * l.length:=by
   intro l
   induction l with
   | nil=>intro b;simp [Kv]
   | cons v l ih=>
    intro b
    have h1 : (if !b && decide (u.nm≤v.nm) then [u] else []).length≤1:=by split <;> simp
    have h2 : (if v.nm≠u.nm then [v] else []).length≤1:=by split <;> simp
    have h3:=ih (b || decide (u.nm≤v.nm))
    have h4 : Kv u (v :: l) b=(if !b && decide (u.nm≤v.nm) then [u] else [])++((if v.nm≠u.nm then [v] else [])++Kv u l (b || decide (u.nm≤v.nm))):=rfl
    rw [h4,List.length_append,List.length_append,List.length_cons]
    omega
  exact this ws false
 unfold putU
 cases hd : Wd u ws false
 ·rw [hd] at hrun
  obtain ⟨w,Xa,sl',Xb,q',a1,a2,a3,hr3,le3,o3,_⟩:=Zpv hu0 r2 (by simp;omega) (l2 _ _ cu) o2 l2
  refine ⟨Xb,sl',q',hrun _ ?_,hr3,k1.trans le3,fun j hj=>Nat.le_trans hlx (o3 j hj)⟩
  refine (ZS (vs:=[sl']) (H':=Xb) ?_).trans rfl
  rw [Zb,if_pos (by rfl),Za a1,Za a2,Za a3];rfl
 ·rw [hd] at hrun
  refine ⟨X2,sl,q,hrun _ ?_,by simpa using r2,k1.trans l2,fun j hj=>Nat.le_trans hlx (o2 j hj)⟩
  refine (ZS (vs:=[sl]) (H':=X2) ?_).trans rfl
  rw [Zb,if_neg (by simp)];rfl
end
end Go.Proofs.YtedkoimihknggaaGreatDoor.A
namespace Go.Proofs.YtedkoimihknggaaGreatDoor.A
set_option linter.unusedVariables false
set_option linter.unusedSimpArgs false
open Go.Proofs Go.Proofs.YtedkoimihknggaaGreatDoor
structure Zqr (s : NSt) : Prop where
 nod : s.K.Nodup
 out : ∀ k n,s.mem k n=true→k∈s.K
 few : s.K.length≤6
structure ROK (s : NSt) (us : List Zj) : Prop where
 rise : ZdR us
 look : ∀ key : Kp,key∈us.map ZI↔ZK s key.1=some key
section
variable {X : Zd} {d c : Nat} {r : NR} {s s' : NSt} {us ws : List Zj} {u : Zj} {k h m n o t g : Tx} {key : Kp}
theorem ND0.kn (hd : ND0 X d r s c) : Zqr s:=⟨by rw [← hd.ks];exact hd.gr.mo.nod,fun k n hk=>by
 have:=hd.gr.out k n hk
 rw [Zjf,decide_eq_true_eq] at this
 rw [← hd.ks];exact this,by rw [← hd.ks,List.length_map];exact hd.gr.few⟩
theorem KO : key∈us.map ZI↔∃ u∈us,ZI u=key:=List.mem_map
theorem ROK.put (h : ROK s us) (h1 : ZK s' u.nm=some (ZI u)) (h2 : ∀ n,n≠u.nm→ZK s' n=ZK s n) : ROK s' (putU u us):=by
 refine ⟨ZkB h.rise,fun key=>?_⟩
 rw [KO]
 constructor
 ·rintro ⟨v,hv,rfl⟩
  rcases Zcj.1 hv with rfl | ⟨hv,hne⟩
  ·exact h1
  ·have:=(h.look (ZI v)).1 (KO.2 ⟨v,hv,rfl⟩)
   rw [show (ZI v).1=v.nm from rfl] at this ⊢
   rw [h2 _ hne];exact this
 ·intro hk
  by_cases e : key.1=u.nm
  ·rw [e,h1] at hk
   exact ⟨u,Zcj.2 (.inl rfl),Option.some.inj hk⟩
  ·rw [h2 _ e] at hk
   obtain ⟨v,hv,rfl⟩:=KO.1 ((h.look key).2 hk)
   exact ⟨v,Zcj.2 (.inr ⟨hv,e⟩),rfl⟩
theorem ROK.drop (h : ROK s us) (h1 : ZK s' k=none) (h2 : ∀ n,n≠k→ZK s' n=ZK s n) : ROK s' (us.filter fun v=>decide (v.nm≠k)):=by
 refine ⟨List.Pairwise.filter _ h.rise,fun key=>?_⟩
 rw [KO]
 constructor
 ·rintro ⟨v,hv,rfl⟩
  obtain ⟨hv,hne⟩:=List.mem_filter.1 hv
  have hne : v.nm≠k:=by simpa using hne
  have:=(h.look (ZI v)).1 (KO.2 ⟨v,hv,rfl⟩)
  rw [show (ZI v).1=v.nm from rfl] at this ⊢
  rw [h2 _ hne];exact this
 ·intro hk
  have e : key.1≠k:=fun e=>by rw [e,h1] at hk;cases hk
  rw [h2 _ e] at hk
  obtain ⟨v,hv,rfl⟩:=KO.1 ((h.look key).2 hk)
  exact ⟨v,List.mem_filter.2 ⟨hv,decide_eq_true e⟩,rfl⟩
theorem ROK.same (h : ROK s us) (h2 : ∀ n,ZK s' n=ZK s n) : ROK s' us:=⟨h.rise,fun key=>by rw [h2];exact h.look key⟩
theorem ZrA (h : ZK s n=some key) : key.1=n:=by
 unfold ZK at h
 cases ha : Ze n s.A with
 | none=>rw [ha] at h;cases h
 | some p=>rw [ha] at h;cases h;rfl
theorem ROK.at (h : ROK s us) (hu : u∈us) : ZK s u.nm=some (ZI u):=(h.look (ZI u)).1 (KO.2 ⟨u,hu,rfl⟩)
theorem ZgP (h : ROK s us) : ZcQ k us=none↔Ze k s.A=none:=by
 unfold ZcQ
 rw [List.findIdx?_eq_none_iff]
 constructor
 ·intro hn
  cases ha : Ze k s.A with
  | none=>rfl
  | some p=>
   obtain ⟨v,hv,he⟩:=KO.1 ((h.look (Qe s k p)).2 (by
    show ZK s k=_
    unfold ZK;rw [ha];rfl))
   have:=hn v hv
   have hnm : v.nm=k:=congrArg (·.1) he
   simp [hnm] at this
 ·intro ha v hv
  have:=h.at hv
  unfold ZK at this
  rw [beq_eq_false_iff_ne]
  intro e
  rw [e,ha] at this;cases this
theorem Zi4 (h : ROK s us) {i : Nat} (hi : ZcQ k us=some i) : ∃ u p,us[i]?=some u∧u.nm=k∧Ze k s.A=some p∧ZI u=Qe s k p:=by
 unfold ZcQ at hi
 obtain ⟨hlt,hk,_⟩:=List.findIdx?_eq_some_iff_getElem.1 hi
 have hnm : us[i].nm=k:=by simpa using hk
 have hat:=h.at (List.getElem_mem hlt)
 rw [hnm] at hat
 unfold ZK at hat
 cases ha : Ze k s.A with
 | none=>rw [ha] at hat;cases hat
 | some p=>
  rw [ha] at hat
  exact ⟨us[i],p,List.getElem?_eq_getElem hlt,hnm,rfl,(Option.some.inj hat).symm⟩
theorem ZdR.nodup (h : ZdR us) : (us.map (·.nm)).Nodup:=by
 unfold ZdR at h
 rw [List.nodup_iff_pairwise_ne,List.pairwise_map]
 refine h.imp ?_
 intro a b hab e
 rw [e] at hab
 exact Zlm hab
theorem ROK.len (h : ROK s us) (hn : (ZbM s).Nodup) : us.length=s.A.length:=by
 have hp : (us.map (·.nm)).Perm (ZbM s):=(List.perm_ext_iff_of_nodup h.rise.nodup hn).2 fun x=>by
  rw [List.mem_map,List.mem_map]
  constructor
  ·rintro ⟨v,hv,rfl⟩
   have:=h.at hv
   unfold ZK at this
   cases ha : Ze v.nm s.A with
   | none=>rw [ha] at this;cases this
   | some p=>exact ⟨_,Wk ha,rfl⟩
  ·rintro ⟨p,hp,rfl⟩
   have ha : Ze p.1 s.A=some p.2:=ZdJ hn hp
   obtain ⟨v,hv,he⟩:=KO.1 ((h.look (Qe s p.1 p.2)).2 (by
    show ZK s p.1=_
    unfold ZK;rw [ha];rfl))
   exact ⟨v,hv,congrArg (·.1) he⟩
 have:=hp.length_eq
 simpa using this
theorem Zzw : ∀ {l l' : List Kp},l.Pairwise (fun a b=>a.1 < b.1)→l'.Pairwise (fun a b=>a.1 < b.1)→(∀ x,x∈l↔x∈l')→l=l':=by
 intro l l' h h' hm
 have nd : ∀ {l : List Kp},l.Pairwise (fun a b=>a.1 < b.1)→l.Nodup:=fun h=>by
  rw [List.nodup_iff_pairwise_ne]
  refine List.Pairwise.imp ?_ h
  rintro a b hab rfl
  exact List.lt_irrefl _ hab
 have hp : l.Perm l':=(List.perm_ext_iff_of_nodup (nd h) (nd h')).2 hm
 exact List.Perm.eq_of_pairwise (le:=fun a b=>a.1 < b.1) (fun a b _ _ h1 h2=>absurd h2 (List.lt_asymm h1)) h h' hp
theorem Zrh (hn : (ZbM s).Nodup) : (allK s).Pairwise fun a b=>a.1 < b.1:=by
 unfold allK
 rw [List.pairwise_map]
 exact Zee hn
theorem Zju (hn : (ZbM s).Nodup) : key∈allK s↔ZK s key.1=some key:=by
 unfold allK
 rw [List.mem_map]
 constructor
 ·rintro ⟨k,hk,rfl⟩
  obtain ⟨p,hp,rfl⟩:=List.mem_map.1 (KX.1 hk)
  have ha : Ze p.1 s.A=some p.2:=ZdJ hn hp
  show ZK s p.1=_
  unfold ZK
  rw [ha];rfl
 ·intro hk
  unfold ZK at hk
  cases ha : Ze key.1 s.A with
  | none=>rw [ha] at hk;cases hk
  | some p=>
   rw [ha] at hk
   refine ⟨key.1,KX.2 (List.mem_map.2 ⟨_,Wk ha,rfl⟩),?_⟩
   rw [ha]
   exact Option.some.inj hk
theorem ROK.all (h : ROK s us) (hn : (ZbM s).Nodup) : us.map ZI=allK s:=by
 refine Zzw ?_ (Zrh hn) fun key=>(h.look key).trans (Zju hn).symm
 rw [List.pairwise_map]
 exact h.rise
theorem ZzK (h : ∀ g,s.mem g k=false) : ofL k s.K s.mem=[]:=by
 unfold ofL
 rw [List.filter_eq_nil_iff]
 intro x _
 rw [h];simp
theorem Ztb (hi : JK s) (he : QK k h s.A=0) (n : Tx) : ZK (Ky k h s) n=if n=k then some (k,h,[],false,[]) else ZK s n:=by
 obtain ⟨_,_,h3,_⟩:=ZhV he
 unfold Ky
 rw [if_pos he]
 by_cases e : n=k
 ·rw [if_pos e,e]
  unfold ZK
  rw [show ({ s with A:=Qr k (h,false) s.A } : NSt).A=Qr k (h,false) s.A from rfl,Kb]
  show some (Qe _ k (h,false))=_
  unfold Qe
  rw [hi.ofN h3]
  show some (k,h,[],false,ofL k s.K s.mem)=_
  rw [ZzK (hi.memN h3)]
 ·rw [if_neg e]
  unfold ZK
  rw [show ({ s with A:=Qr k (h,false) s.A } : NSt).A=Qr k (h,false) s.A from rfl,JZ e]
  rfl
theorem ZuA (he : Zr k s.A=0) (n : Tx) : ZK (YW k s) n=if n=k then none else ZK s n:=by
 unfold YW
 rw [if_pos he]
 by_cases e : n=k
 ·rw [if_pos e,e]
  unfold ZK
  rw [show ({ s with A:=JY k s.A,OW:=W3 k s.OW s.OF,OF:=Ku k s.OF,mem:=Zcu k s.mem } : NSt).A=JY k s.A from rfl,Wt]
  rfl
 ·rw [if_neg e]
  unfold ZK
  rw [show ({ s with A:=JY k s.A,OW:=W3 k s.OW s.OF,OF:=Ku k s.OF,mem:=Zcu k s.mem } : NSt).A=JY k s.A from rfl,Q6 e]
  cases Ze n s.A with
  | none=>rfl
  | some p=>
   show some (Qe _ n p)=some (Qe s n p)
   unfold Qe
   show some (n,p.1,(Ze n (Ku k s.OF)).getD [],p.2,ofL n s.K (Zcu k s.mem))=_
   rw [ZdX e]
   have : ofL n s.K (Zcu k s.mem)=ofL n s.K s.mem:=by
    unfold ofL Zcu
    refine List.filter_congr fun g _=>?_
    simp [e]
   rw [this]
theorem Zz0 {v : Acc} (hk : ∀ p,Ze k s.A=some p→True) (n : Tx) : ZK { s with A:=Qr k v s.A } n=if n=k then some (Qe s k v) else ZK s n:=by
 by_cases e : n=k
 ·rw [if_pos e,e]
  unfold ZK
  rw [show ({ s with A:=Qr k v s.A } : NSt).A=Qr k v s.A from rfl,Kb]
  rfl
 ·rw [if_neg e]
  unfold ZK
  rw [show ({ s with A:=Qr k v s.A } : NSt).A=Qr k v s.A from rfl,JZ e]
  rfl
theorem Zpc (he : Qt k h s.A=0) (n : Tx) : ZK (YB k h s) n=if n=k then some (Qe s k (h,(ZY k s.A).2)) else ZK s n:=by
 unfold YB
 rw [if_pos he]
 exact Zz0 (fun _ _=>trivial) n
theorem Zrt {b : Bool} (he : Jt k b s.A=0) (n : Tx) : ZK (J9 k b s) n=if n=k then some (Qe s k ((ZY k s.A).1,b)) else ZK s n:=by
 unfold J9
 rw [if_pos he]
 exact Zz0 (fun _ _=>trivial) n
theorem Zpb (he : QE k m s=0) (n : Tx) : ZK (QW k m s) n=if n=k then some (k,(ZY k s.A).1,(if QB m then Z7 m else []),(ZY k s.A).2,ofL k s.K s.mem) else ZK s n:=by
 obtain ⟨h1,h2,h3,h4⟩:=Zpz he
 unfold QW
 rw [if_pos he]
 unfold ZK
 show (Ze n s.A).map (Qe { s with OW:=Zig k m s.OW s.OF,OF:=ZbW k m s.OW s.OF } n)=_
 by_cases e : n=k
 ·rw [if_pos e,e,Zc3 h3]
  show some (Qe _ k _)=_
  unfold Qe
  show some (k,(ZY k s.A).1,(Ze k (ZbW k m s.OW s.OF)).getD [],(ZY k s.A).2,ofL k s.K s.mem)=_
  rw [Zel h4,if_pos rfl]
  rcases h2 with hm | hm
  ·rw [if_pos hm,hm]
   rfl
  ·rw [hm]
   by_cases hm0 : m=[]
   ·rw [hm0] at hm;exact absurd hm (by decide)
   ·rw [if_neg hm0]
    rfl
 ·rw [if_neg e]
  cases Ze n s.A with
  | none=>rfl
  | some p=>
   show some (Qe _ n p)=some (Qe s n p)
   unfold Qe
   show some (n,p.1,(Ze n (ZbW k m s.OW s.OF)).getD [],p.2,ofL n s.K s.mem)=_
   rw [Zel h4,if_neg e]
theorem Zom (hi : JK s) (he : Jp o t s.A=0) (n : Tx) : ZK (KZ o t s) n=if n=t then some (t,(ZY o s.A).1,(Ze o s.OF).getD [],(ZY o s.A).2,ofL o s.K s.mem) else if n=o then none else ZK s n:=by
 obtain ⟨h1,h2,h3,h4,h5⟩:=ZhR he
 have hof:=hi.ofN h4
 unfold KZ
 rw [if_pos he]
 unfold ZK
 show (Ze n (Qr t (ZY o s.A) (JY o s.A))).map _=_
 by_cases e1 : n=t
 ·rw [if_pos e1,e1,Kb]
  show some (Qe _ t _)=_
  unfold Qe
  show some (t,(ZY o s.A).1,(Ze t (Zfn o t s.OF)).getD [],(ZY o s.A).2,ofL t s.K (WT o t s.mem))=_
  rw [Zmf h2 hof h5,if_pos rfl]
  have : ofL t s.K (WT o t s.mem)=ofL o s.K s.mem:=by
   unfold ofL WT
   refine List.filter_congr fun g _=>?_
   cases hg : s.mem g o
   ·simp [hi.memN h4 g]
   ·simp
  rw [this]
 ·rw [if_neg e1,JZ e1]
  by_cases e2 : n=o
  ·rw [if_pos e2,e2,Wt];rfl
  ·rw [if_neg e2,Q6 e2]
   cases Ze n s.A with
   | none=>rfl
   | some p=>
    show some (Qe _ n p)=some (Qe s n p)
    unfold Qe
    show some (n,p.1,(Ze n (Zfn o t s.OF)).getD [],p.2,ofL n s.K (WT o t s.mem))=_
    rw [Zmf h2 hof h5,if_neg e1,if_neg e2]
    have : ofL n s.K (WT o t s.mem)=ofL n s.K s.mem:=by
     unfold ofL WT
     refine List.filter_congr fun g _=>?_
     have b1 : (n==t)=false:=beq_eq_false_iff_ne.2 e1
     have b2 : (n==o)=false:=beq_eq_false_iff_ne.2 e2
     rw [b1,b2]
     cases s.mem g o <;> simp
    rw [this]
theorem ZCb (hk : Zqr s) (n : Tx) : ZK (ZhH g s) n=ZK s n:=by
 unfold ZK ZhH
 show (Ze n s.A).map _=_
 cases Ze n s.A with
 | none=>rfl
 | some p=>
  show some (Qe _ n p)=some (Qe s n p)
  unfold Qe
  show some (n,p.1,(Ze n s.OF).getD [],p.2,ofL n (Zcf g s.K) s.mem)=_
  have : ofL n (Zcf g s.K) s.mem=ofL n s.K s.mem:=by
   unfold Zcf
   by_cases he : Qz g s.K=0
   ·rw [if_pos he]
    have hg : g∉s.K:=fun hm=>by
     unfold Qz at he
     cases hn : Zo g <;> rw [hn] at he <;> simp [hm] at he
    have hnod : (s.K++[g]).Nodup:=by
     rw [List.nodup_append]
     exact ⟨hk.nod,by simp,fun a ha b hb e=>hg (by
      have : b=g:=by simpa using hb
      rw [← this,← e];exact ha)⟩
    refine (Zcq hnod).uniq (Zcq hk.nod) fun x=>?_
    rw [List.mem_append,List.mem_singleton]
    constructor
    ·rintro ⟨_,h2⟩
     exact ⟨hk.out x n h2,h2⟩
    ·rintro ⟨h1,h2⟩
     exact ⟨.inl h1,h2⟩
   ·rw [if_neg he]
  rw [this]
theorem Zyf {K : List Tx} {x : Tx} (he : QP g K=0) : x∈ZbL g K↔x∈K∧x≠g:=by
 unfold ZbL
 rw [if_pos he,List.mem_filter]
 simp
theorem ZBF (hk : Zqr s) (he : QP g s.K=0) (n : Tx) : ZK (Ze5 g s) n=(ZK s n).map fun key=>(key.1,key.2.1,key.2.2.1,key.2.2.2.1,key.2.2.2.2.filter fun x=>decide (x≠g)):=by
 unfold ZK Ze5
 show (Ze n s.A).map _=_
 cases Ze n s.A with
 | none=>rfl
 | some p=>
  show some (Qe _ n p)=some _
  unfold Qe
  show some (n,p.1,(Ze n s.OF).getD [],p.2,ofL n (ZbL g s.K) (if QP g s.K=0 then ZaD g s.mem else s.mem))=_
  rw [if_pos he]
  have hnod : (ZbL g s.K).Nodup:=by
   unfold ZbL
   rw [if_pos he]
   exact (List.filter_sublist).nodup hk.nod
  have : ofL n (ZbL g s.K) (ZaD g s.mem)=(ofL n s.K s.mem).filter fun x=>decide (x≠g):=by
   refine (Zcq hnod).uniq (p':=fun x=>x∈ofL n s.K s.mem∧x≠g) ⟨(Zcq hk.nod).asc.filter _,fun x=>by rw [List.mem_filter];simp⟩ fun x=>?_
   rw [Zyf he,Zcr]
   unfold ZaD
   simp only [Bool.and_eq_true,Bool.not_eq_true',beq_eq_false_iff_ne]
   exact ⟨fun h=>⟨⟨h.1.1,h.2.1⟩,h.1.2⟩,fun h=>⟨⟨h.1.1,h.2⟩,h.1.2,h.2⟩⟩
  rw [this]
theorem ZBn (he : Kl g k s=0) : Zo g=true∧(∃ p,Ze k s.A=some p)∧g∈s.K∧s.mem g k=false:=by
 unfold Kl at he
 by_cases hm : JJ g k s.A=0
 ·rw [if_pos hm] at he
  obtain ⟨h1,h2⟩:=ZlK hm
  unfold W0 at he
  by_cases hf : QS g [k] s.K=0
  ·rw [if_pos hf] at he
   refine ⟨h1,(Zim h2).2,(ZgO hf).2.2,?_⟩
   cases hg : s.mem g k
   ·rfl
   ·rw [hg] at he;simp at he
  ·rw [if_neg hf] at he;exact absurd he hf
 ·rw [if_neg hm] at he;exact absurd he hm
theorem ZxJ (hk : Zqr s) (he : Kl g k s=0) {gs : List Tx} (hg : Is gs (·∈ofL k s.K s.mem++[g])) (n : Tx) : ZK (Zaq g k s) n=if n=k then some (k,(ZY k s.A).1,(Ze k s.OF).getD [],(ZY k s.A).2,gs) else ZK s n:=by
 obtain ⟨_,⟨p,hp⟩,h3,_⟩:=ZBn he
 unfold Zaq
 rw [if_pos he]
 unfold ZK
 show (Ze n s.A).map _=_
 by_cases e : n=k
 ·rw [if_pos e,e,Zc3 (by rw [hp];rfl)]
  show some (Qe _ k _)=_
  unfold Qe
  show some (k,(ZY k s.A).1,(Ze k s.OF).getD [],(ZY k s.A).2,ofL k s.K (ZaU g k s.mem))=_
  have : ofL k s.K (ZaU g k s.mem)=gs:=by
   refine (Zcq hk.nod).uniq hg fun x=>?_
   rw [List.mem_append,List.mem_singleton,Zcr]
   unfold ZaU
   simp only [Bool.or_eq_true,Bool.and_eq_true,beq_iff_eq]
   constructor
   ·rintro ⟨h1,h2 | ⟨h2,_⟩⟩
    ·exact .inl ⟨h1,h2⟩
    ·exact .inr h2
   ·rintro (⟨h1,h2⟩ | rfl)
    ·exact ⟨h1,.inl h2⟩
    ·exact ⟨h3,.inr (by simp)⟩
  rw [this]
 ·rw [if_neg e]
  cases Ze n s.A with
  | none=>rfl
  | some p=>
   show some (Qe _ n p)=some (Qe s n p)
   unfold Qe
   show some (n,p.1,(Ze n s.OF).getD [],p.2,ofL n s.K (ZaU g k s.mem))=_
   have : ofL n s.K (ZaU g k s.mem)=ofL n s.K s.mem:=by
    unfold ofL ZaU
    refine List.filter_congr fun x _=>?_
    simp [e]
   rw [this]
theorem Zy1 (he : YG g k s=0) : Zo g=true∧(∃ p,Ze k s.A=some p)∧g∈s.K∧s.mem g k=true:=by
 unfold YG at he
 by_cases hm : JJ g k s.A=0
 ·rw [if_pos hm] at he
  obtain ⟨h1,h2⟩:=ZlK hm
  unfold Zbz at he
  by_cases hf : QS g [k] s.K=0
  ·rw [if_pos hf] at he
   refine ⟨h1,(Zim h2).2,(ZgO hf).2.2,?_⟩
   cases hg : s.mem g k
   ·rw [hg] at he;simp at he
   ·rfl
  ·rw [if_neg hf] at he;exact absurd he hf
 ·rw [if_neg hm] at he;exact absurd he hm
theorem Zv7 (hk : Zqr s) (he : YG g k s=0) (n : Tx) : ZK (Wc g k s) n=if n=k then some (k,(ZY k s.A).1,(Ze k s.OF).getD [],(ZY k s.A).2,(ofL k s.K s.mem).filter fun x=>decide (x≠g)) else ZK s n:=by
 obtain ⟨_,⟨p,hp⟩,h3,_⟩:=Zy1 he
 unfold Wc
 rw [if_pos he]
 unfold ZK
 show (Ze n s.A).map _=_
 by_cases e : n=k
 ·rw [if_pos e,e,Zc3 (by rw [hp];rfl)]
  show some (Qe _ k _)=_
  unfold Qe
  show some (k,(ZY k s.A).1,(Ze k s.OF).getD [],(ZY k s.A).2,ofL k s.K (Zb1 g k s.mem))=_
  have : ofL k s.K (Zb1 g k s.mem)=(ofL k s.K s.mem).filter fun x=>decide (x≠g):=by
   refine (Zcq hk.nod).uniq (p':=fun x=>x∈ofL k s.K s.mem∧x≠g) ⟨(Zcq hk.nod).asc.filter _,fun x=>by rw [List.mem_filter];simp⟩ fun x=>?_
   rw [Zcr]
   unfold Zb1
   simp only [Bool.and_eq_true,Bool.not_eq_true',Bool.and_eq_false_iff,beq_eq_false_iff_ne]
   constructor
   ·rintro ⟨h1,h2,h3 | h3⟩
    ·exact ⟨⟨h1,h2⟩,h3⟩
    ·exact absurd rfl h3
   ·rintro ⟨⟨h1,h2⟩,h3⟩
    exact ⟨h1,h2,.inl h3⟩
  rw [this]
 ·rw [if_neg e]
  cases Ze n s.A with
  | none=>rfl
  | some p=>
   show some (Qe _ n p)=some (Qe s n p)
   unfold Qe
   show some (n,p.1,(Ze n s.OF).getD [],p.2,ofL n s.K (Zb1 g k s.mem))=_
   have : ofL n s.K (Zb1 g k s.mem)=ofL n s.K s.mem:=by
    unfold ofL Zb1
    refine List.filter_congr fun x _=>?_
    simp [e]
   rw [this]
end
end Go.Proofs.YtedkoimihknggaaGreatDoor.A
namespace Go.Proofs.YtedkoimihknggaaGreatDoor.A
set_option linter.unusedVariables false
set_option linter.unusedSimpArgs false
open Go.Proofs Go.Proofs.YtedkoimihknggaaGreatDoor
def UOK (X : Zd) (u : Zj) : Prop:=Sl X u.gv (u.gs.map strv)∧oneCell u.gv=true∧u.gs.length≤1000000
structure RD (X : Zd) (uv gv : Value) (s : NSt) : Prop where
 ex : ∃ us,Qg X uv us∧ROK s us
 n : ∃ q N,Zw X gv (N.map strv) q∧Is N (·∈s.K)
structure J3 (s : NSt) : Prop where
 i : JK s
 k : Zqr s
 n : (ZbM s).Nodup
 x : Inv s.OW s.OF
theorem ND.pinv {X : Zd} {d c : Nat} {r : NR} {s : NSt} (h : ND X d r s c) : J3 s:=⟨h.inv,h.toND0.kn,h.m.nod,h.ix.inv⟩
def ZlX (k h : List UInt8) : Zj:=⟨k,h,[],false,.slice none 0 0,[]⟩
abbrev Zg5 : Zj:=ZlX [] []
section
variable {X X' Y H0 : Zd} {n : Nat} {uv gv v : Value} {us : List Zj} {s : NSt} {k h m o t g : Tx} {u w : Zj} {β : Type}
theorem UOK.hle (h : UOK X u) (hl : HLe X X') : UOK X' u:=⟨h.1.mono hl,h.2⟩
theorem Qg.ok (h : Qg X uv us) (hu : u∈us) : UOK X u:=h.2 u hu
theorem Qg.one (h : Qg X uv us) : oneCell uv=true:=h.1.one.1
theorem Zw.hle {vs : List Value} {q : List Nat} (h : Zw X v vs q) (hl : HLe X X') : Zw X' v vs q:=h.step hl.step (by simp)
theorem RD.hle (h : RD X uv gv s) (hl : HLe X X') : RD X' uv gv s:=⟨h.ex.imp fun us ⟨a,b⟩=>⟨a.mono hl,b⟩,h.n.imp fun q ⟨N,a,b⟩=>⟨N,a.hle hl,b⟩⟩
theorem RD.oneG (h : RD X uv gv s) : oneCell gv=true:=by
 obtain ⟨q,N,a,_⟩:=h.n
 exact a.one.1
theorem RD.oneU (h : RD X uv gv s) : oneCell uv=true:=by
 obtain ⟨us,a,_⟩:=h.ex
 exact a.one
theorem Zw.cle {vs : List Value} {q : List Nat} (h : Zw X v vs q) (hc : CLe X X') : Zw X' v vs q:=by
 rcases h with ⟨rfl,rfl,rfl⟩ | ⟨sid,rest,gr,rfl,rfl,hid⟩
 ·exact .inl ⟨rfl,rfl,rfl⟩
 ·exact .inr ⟨sid,rest,gr,rfl,rfl,hc _ _ _ _ _ hid⟩
theorem RD.cle (h : RD X uv gv s) (hc : CLe X X') : RD X' uv gv s:=⟨h.ex.imp fun us ⟨a,b⟩=>⟨a.cle hc,b⟩,h.n.imp fun q ⟨N,a,b⟩=>⟨N,a.cle hc,b⟩⟩
abbrev zD : Value:=.agg #[.slice none 0 0,.slice none 0 0]
abbrev zU : Value:=.agg #[.string ⟨#[]⟩,.string ⟨#[]⟩,.string ⟨#[]⟩,.bool false,.slice none 0 0]
theorem HLe.putB (h : HLe H0 X) {b : Nat} {o : Zf} (hb : H0.length≤b) : HLe H0 (X.set b o):=fun i v hi=>by
 have:=Ql hi
 rw [List.getElem?_set_ne (by omega)]
 exact h i v hi
theorem Zin (h1 : oneCell uv=true) (h2 : oneCell gv=true) : ∃ p3 p6 X2,(∀ {β : Type} (K : Value→Value→M β),bind (alc 1 (.agg #[uv,gv])) (fun a=>bind (alc 1 zD) fun b=>K a b) X=K (pt p3) (pt p6) X2)∧X2[p3]?=some (.cells [uv,gv] 1 false false)∧X2[p6]?=some (.cells [.slice none 0 0,.slice none 0 0] 1 false false)∧HLe X X2∧X.length≤p3∧p3 < p6∧p6 < X2.length:=by
 have z1 : alc 1 (.agg #[uv,gv]) X=some (pt X.length,X++[.cells [uv,gv] 1 false false]):=K4 (vs:=[uv,gv]) (by simp only [List.all_cons,h1,h2];rfl)
 have z2 : alc 1 zD (X++[.cells [uv,gv] 1 false false])=some (pt (X++[Zf.cells [uv,gv] 1 false false]).length,X++[.cells [uv,gv] 1 false false]++[.cells [.slice none 0 0,.slice none 0 0] 1 false false]):=K4 (vs:=[.slice none 0 0,.slice none 0 0]) rfl
 exact ⟨X.length,(X++[Zf.cells [uv,gv] 1 false false]).length,X++[.cells [uv,gv] 1 false false]++[.cells [.slice none 0 0,.slice none 0 0] 1 false false],fun {β} K=>by rw [Za z1,Za z2],Zk6,ZC,(HLe.app _ _).trans (.app _ _),Nat.le_refl _,by simp,by simp⟩
theorem Zh7 {p3 p6 : Nat} {c6 : List Value} {e : Int} (h1 : oneCell uv=true) (h2 : oneCell gv=true) (c3 : Y[p3]?=some (.cells [uv,gv] 1 false false)) (b6 : Y[p6]?=some (.cells c6 1 false false)) (hl : c6.length=2) :
  (bind (ldA 2 (pt p3)) fun v18=>bind (stA 2 (pt p6) v18) fun _=>bind (ldA 2 (pt p6)) fun vr=>ret (Value.tuple #[vr,iv e])) Y=some (.tuple #[.agg #[uv,gv],iv e],Y.set p6 (.cells [uv,gv] 1 false false)):=by
 have d1 : ldA 2 (pt p3) Y=some (.agg #[uv,gv],Y):=ZQ (n:=2) c3 rfl
 have w1:=KW (vs:=[uv,gv]) (n:=2) b6 hl rfl (by simp only [List.all_cons,h1,h2];rfl)
 have w1 : stA 2 (pt p6) (.agg #[uv,gv]) Y=_:=w1
 have d2 : ldA 2 (pt p6) (Y.set p6 (.cells [uv,gv] 1 false false))=some (.agg #[uv,gv],_):=ZQ (n:=2) (ZM b6) rfl
 rw [Za d1,Za w1,Za d2]
 rfl
theorem Zra (hU : Qg X uv us) (hO : ROK s us) (hP : J3 s) (hg : oneCell gv=true) : ∃ u X',R (n+4) J7 [.agg #[uv,gv],strv k] X=some (.tuple #[.agg u.cells.toArray,iv (Zr k s.A)],X')∧HLe X X'∧UOK X' u∧(Zr k s.A=0→ZI u=Qe s k (ZY k s.A))∧(u=Zg5∨u∈us)∧(Zr k s.A≠0→u=Zg5):=by
 have z1 : alc 1 (.agg #[uv,gv]) X=some (pt X.length,X++[.cells [uv,gv] 1 false false]):=K4 (vs:=[uv,gv]) (by simp only [List.all_cons,hU.one,hg];rfl)
 have z2 : alc 1 zU (X++[.cells [uv,gv] 1 false false])=some (pt (X++[Zf.cells [uv,gv] 1 false false]).length,X++[.cells [uv,gv] 1 false false]++[.cells (usr ([],[])) 1 false false]):=K4 (vs:=usr ([],[])) rfl
 have k2 : HLe X (X++[Zf.cells [uv,gv] 1 false false]++[Zf.cells (usr ([],[])) 1 false false]):=(HLe.app _ _).trans (.app _ _)
 have b1 : (X++[Zf.cells [uv,gv] 1 false false]++[Zf.cells (usr ([],[])) 1 false false])[X.length]?=some (.cells [uv,gv] 1 false false):=Zk6
 have b2 : (X++[Zf.cells [uv,gv] 1 false false]++[Zf.cells (usr ([],[])) 1 false false])[(X++[Zf.cells [uv,gv] 1 false false]).length]?=some (.cells (usr ([],[])) 1 false false):=ZC
 have hp : X.length < (X++[Zf.cells [uv,gv] 1 false false]).length:=by simp
 generalize X++[Zf.cells [uv,gv] 1 false false]++[Zf.cells (usr ([],[])) 1 false false]=X2 at z2 k2 b1 b2
 generalize (X++[Zf.cells [uv,gv] 1 false false]).length=p2 at z2 b2 hp
 have hlen:=hO.len hP.n
 have hfew:=hP.i.few
 have e1 : R (n+3) QL [strv k] X2=some (.bool (Zo k),X2):=Zce
 have f1 : ∀ v X',ZcC (R (n+3)) (.agg #[uv,gv]) (strv k) X=some (v,X')→R (n+4) J7 [.agg #[uv,gv],strv k] X=some (v,X'):=fun v X' hr=>by rw [R,ZrN rfl];exact hr
 have fin : ∀ (w : Zj) (e : Int) (Y : Zd),oneCell w.gv=true→Y[p2]?=some (.cells (usr ([],[])) 1 false false)→(bind (stA 5 (pt p2) (.agg w.cells.toArray)) fun _=>bind (ldA 5 (pt p2)) fun vr=>ret (Value.tuple #[vr,iv e])) Y=some (.tuple #[.agg w.cells.toArray,iv e],Y.set p2 (.cells w.cells 1 false false)):=fun w e Y hw hY=>by
  have w1:=KW (vs:=w.cells) (n:=5) hY rfl rfl (Zax hw)
  have d1 : ldA 5 (pt p2) (Y.set p2 (.cells w.cells 1 false false))=some (.agg w.cells.toArray,_):=ZQ (n:=5) (ZM hY) rfl
  rw [Za w1,Za d1]
  rfl
 have okz : ∀ Y,UOK Y Zg5:=fun Y=>⟨Sl.nil,rfl,Nat.zero_le _⟩
 have zb : ∀ Y,bld zU [] Y=some (.agg Zg5.cells.toArray,Y):=fun Y=>rfl
 cases hnm : Zo k
 ·have he : Zr k s.A=10:=by unfold Zr;rw [hnm];rfl
  rw [hnm] at e1
  rw [he]
  refine ⟨Zg5,X2.set p2 (.cells Zg5.cells 1 false false),f1 _ _ ?_,k2.putB (by omega),okz _,fun h=>absurd h (by decide),.inl rfl,fun _=>rfl⟩
  unfold ZcC
  rw [Za z1,Za z2,Za e1,Za ZF,Zb,if_pos (by rfl),Za (zb _)]
  exact fin _ _ _ rfl b2
 ·rw [hnm] at e1
  have a1 : ld1 (pa X.length 0) X2=some (uv,X2):=Zv b1 rfl
  obtain ⟨X3,e3,k3⟩:=Zqi (n:=n+2) (k:=k) (by omega) (hU.mono k2).1 (fun u hu=>(hU.2 u hu).2.1)
  have e3 : R (n+3) WO [uv,strv k] X2=_:=e3
  have b13:=k3 _ _ b1
  have b23:=k3 _ _ b2
  have a3 : ld1 (pa X.length 0) X3=some (uv,X3):=Zv b13 rfl
  cases hfi : ZcQ k us with
  | none=>
   rw [hfi] at e3
   have ha:=(ZgP hO).1 hfi
   have he : Zr k s.A=8:=by unfold Zr;rw [hnm,ha];rfl
   rw [he]
   refine ⟨Zg5,X3.set p2 (.cells Zg5.cells 1 false false),f1 _ _ ?_,(k2.trans k3).putB (by omega),okz _,fun h=>absurd h (by decide),.inl rfl,fun _=>rfl⟩
   unfold ZcC
   rw [Za z1,Za z2,Za e1,Za ZF,Zb,if_neg (by simp),Za Zg,Za a1,Za e3,Za Zk,Zb,if_pos (by simp),Za (zb _)]
   exact fin _ _ _ rfl b23
  | some i=>
   rw [hfi] at e3
   obtain ⟨w,p,hw,hwn,ha,hkey⟩:=Zi4 hO hfi
   have he : Zr k s.A=0:=by unfold Zr;rw [hnm,ha];rfl
   have hm:=List.mem_of_getElem? hw
   have hok:=(hU.mono (k2.trans k3)).ok hm
   have hrow : (us.map Zj.cells)[i]?=some w.cells:=by rw [List.getElem?_map,hw];rfl
   have hf:=fun {K : Value→M Value}=>((hU.mono (k2.trans k3)).1).fetch (k:=K) hrow (by omega) .i64
   rw [he]
   have hput : HLe X (X3.set p2 (.cells w.cells 1 false false)):=(k2.trans k3).putB (by omega)
   refine ⟨w,X3.set p2 (.cells w.cells 1 false false),f1 _ _ ?_,hput,(hU.mono hput).ok hm,fun _=>by rw [hkey];unfold ZY;rw [ha];rfl,.inr hm,fun h=>absurd rfl h⟩
   unfold ZcC
   rw [Za z1,Za z2,Za e1,Za ZF,Zb,if_neg (by simp),Za Zg,Za a1,Za e3,Za Zk,Zb,if_neg (by simp),Za Zg,Za a3,hf]
   exact fin _ _ _ hok.2.1 b23
theorem Ztw (hU : Qg X uv us) (hO : ROK s us) (hP : J3 s) (hg : oneCell gv=true) : ∃ u X',R (n+4) J7 [.agg #[uv,gv],strv k] X=some (.tuple #[.agg u.cells.toArray,iv (Zr k s.A)],X')∧HLe X X'∧UOK X' u∧(Zr k s.A=0→ZI u=Qe s k (ZY k s.A)):=by
 obtain ⟨u,X',a,b,c,d,_⟩:=Zra (n:=n) (k:=k) hU hO hP hg
 exact ⟨u,X',a,b,c,d⟩
theorem Qg.put (h : Qg X uv us) (hv : SlN 5 X' v ((putU u us).map Zj.cells)) (hu : UOK X u) (hl : HLe X X') : Qg X' v (putU u us):=⟨hv,fun w hw=>by
 rcases Zcj.1 hw with rfl | ⟨hw,_⟩
 ·exact hu.hle hl
 ·exact (h.mono hl).2 w hw⟩
theorem Zz8 (hU : Qg X uv us) (hl : us.length≤1000) (hu : UOK X u) (hg : oneCell gv=true) : ∃ uv' X',R (n+2) WN [.agg #[uv,gv],.agg u.cells.toArray] X=some (.agg #[uv',gv],X')∧Qg X' uv' (putU u us)∧HLe X X':=by
 have z1 : alc 1 (.agg #[uv,gv]) X=some (pt X.length,X++[.cells [uv,gv] 1 false false]):=K4 (vs:=[uv,gv]) (by simp only [List.all_cons,hU.one,hg];rfl)
 have k1 : HLe X (X++[Zf.cells [uv,gv] 1 false false]):=.app _ _
 have b1 : (X++[Zf.cells [uv,gv] 1 false false])[X.length]?=some (.cells [uv,gv] 1 false false):=ZC
 generalize X++[Zf.cells [uv,gv] 1 false false]=X1 at z1 k1 b1
 have z2:=ZoL (X:=X1) hu.2.1
 have k2 : HLe X1 (X1++[Zf.cells u.cells 1 false false]):=.app _ _
 have b2 : (X1++[Zf.cells u.cells 1 false false])[X1.length]?=some (.cells u.cells 1 false false):=ZC
 generalize X1++[Zf.cells u.cells 1 false false]=X2 at z2 k2 b2
 have z3 : alc 1 zD X2=some (pt X2.length,X2++[.cells [.slice none 0 0,.slice none 0 0] 1 false false]):=K4 (vs:=[.slice none 0 0,.slice none 0 0]) rfl
 have k3 : HLe X2 (X2++[Zf.cells [.slice none 0 0,.slice none 0 0] 1 false false]):=.app _ _
 have b3 : (X2++[Zf.cells [.slice none 0 0,.slice none 0 0] 1 false false])[X2.length]?=some (.cells [.slice none 0 0,.slice none 0 0] 1 false false):=ZC
 generalize X2++[Zf.cells [.slice none 0 0,.slice none 0 0] 1 false false]=X3 at z3 k3 b3
 have l1:=Ql b1
 have l2:=Ql b2
 have l12:=k2.len
 have b13:=k3 _ _ (k2 _ _ b1)
 have b23:=k3 _ _ b2
 have hk:=(k1.trans k2).trans k3
 have a1 : ld1 (pa X.length 0) X3=some (uv,X3):=Zv b13 rfl
 have d2 : ldA 5 (pt X1.length) X3=some (.agg u.cells.toArray,X3):=ZQ (n:=5) b23 rfl
 obtain ⟨X4,v4,q4,e4,r4,k4,o4⟩:=ZsL (n:=n) (u:=u) hu.2.1 hl (hU.mono hk).1 (fun w hw=>(hU.2 w hw).2.1)
 have b14:=k4 _ _ b13
 have b34:=k4 _ _ b3
 have hv1 : oneCell v4=true:=r4.one.1
 have w1 : st1 (pa X.length 0) v4 X4=some (undef,X4.set X.length (.cells [v4,gv] 1 false false)):=Kk (o:=0) b14 (by simp) hv1
 have b15:=ZM (b:=Zf.cells [v4,gv] 1 false false) b14
 have b35:=(List.getElem?_set_ne (a:=Zf.cells [v4,gv] 1 false false) (show X.length≠X2.length by omega)).trans b34
 have hk5 : HLe X (X4.set X.length (.cells [v4,gv] 1 false false)):=(hk.trans k4).putB (Nat.le_refl _)
 have hal : ([v4,gv].all oneCell)=true:=by simp only [List.all_cons,hv1,hg];rfl
 have d5 : ldA 2 (pt X.length) (X4.set X.length (.cells [v4,gv] 1 false false))=some (.agg #[v4,gv],_):=ZQ (n:=2) b15 rfl
 have w5:=KW (vs:=[v4,gv]) (n:=2) b35 rfl rfl hal
 have w5 : stA 2 (pt X2.length) (.agg #[v4,gv]) (X4.set X.length (.cells [v4,gv] 1 false false))=_:=w5
 have d6 : ldA 2 (pt X2.length) ((X4.set X.length (.cells [v4,gv] 1 false false)).set X2.length (.cells [v4,gv] 1 false false))=some (.agg #[v4,gv],_):=ZQ (n:=2) (ZM b35) rfl
 have l3:=Ql b3
 have hr6 : QZ 5 ((X4.set X.length (.cells [v4,gv] 1 false false)).set X2.length (.cells [v4,gv] 1 false false)) v4 ((putU u us).map Zj.cells) q4:=r4.keep fun j hj=>by
  have:=o4 j hj
  rw [List.getElem?_set_ne (by omega),List.getElem?_set_ne (by omega)]
 refine ⟨v4,(X4.set X.length (.cells [v4,gv] 1 false false)).set X2.length (.cells [v4,gv] 1 false false),?_,hU.put hr6.rd hu (hk5.putB (by omega)),hk5.putB (by omega)⟩
 rw [R,Zth rfl]
 unfold Zjo
 rw [Za z1,Za z2,Za z3,Za Zg,Za a1,Za d2,Za e4,Za Zg,Za w1,Za d5,Za w5,Za d6]
 rfl
end
end Go.Proofs.YtedkoimihknggaaGreatDoor.A
namespace Go.Proofs.YtedkoimihknggaaGreatDoor.A
set_option linter.unusedVariables false
set_option linter.unusedSimpArgs false
open Go.Proofs Go.Proofs.YtedkoimihknggaaGreatDoor
section
variable {X X' Y H0 : Zd} {n : Nat} {uv gv v : Value} {us : List Zj} {s : NSt} {k h m o t g : Tx} {u w : Zj} {β : Type}
def Wv (v : Value) : Prop:=∃ a n c,v=.slice a n c
theorem Qg.isSl (h : Qg X uv us) : Wv uv:=by
 obtain ⟨a,c,h1,_⟩:=h.1
 exact ⟨a,_,c,h1⟩
theorem Zw.isSlc {vs : List Value} {q : List Nat} (h : Zw X v vs q) : Wv v:=by
 rcases h with ⟨_,_,h⟩ | ⟨_,_,_,h,_⟩
 ·exact ⟨_,_,_,h⟩
 ·exact ⟨_,_,_,h⟩
theorem Wv.one (h : Wv v) : oneCell v=true:=by
 obtain ⟨a,n,c,rfl⟩:=h;rfl
theorem Zqe {x : Tx} (h : Wv (strv x)) : False:=by
 obtain ⟨a,n,c,h⟩:=h
 cases h
theorem Sl.setD {l : List Tx} {b : Nat} {c1 c2 d1 d2 : Value} (h : Sl Y v (l.map strv)) (hb : Y[b]?=some (.cells [c1,c2] 1 false false)) (i1 : Wv c1) (i2 : Wv c2) : Sl (Y.set b (.cells [d1,d2] 1 false false)) v (l.map strv):=by
 by_cases ho : own1 v=some b
 ·obtain ⟨a,c,rfl,h0,hf⟩:=h
  unfold own1 at ho
  split at ho
  ·rename_i id o n x e
   cases e
   cases ho
   have hl : l=[]:=by
    unfold QD at hf
    simp only [hb] at hf
    split at hf
    ·have hf:=Option.some.inj hf
     cases l with
     | nil=>rfl
     | cons y l=>
      have hm : strv y∈([c1,c2].drop o).take ((List.map strv (y :: l)).length * 1):=by rw [hf];simp
      have hm:=List.mem_of_mem_drop (List.mem_of_mem_take hm)
      simp only [List.mem_cons,List.not_mem_nil,or_false] at hm
      rcases hm with hm | hm
      ·rw [← hm] at i1;exact (Zqe i1).elim
      ·rw [← hm] at i2;exact (Zqe i2).elim
    ·cases hf
   subst hl
   refine ⟨_,c,rfl,(fun e=>by cases e),?_⟩
   unfold QD at hf ⊢
   simp only [hb,ZM hb] at hf ⊢
   split at hf
   ·rename_i hle
    rw [if_pos (by simpa using hle)]
    simp
   ·cases hf
  ·cases ho
 ·exact h.keep fun id hid=>List.getElem?_set_ne (fun e=>ho (by rw [hid,e]))
theorem SlN.setD {rows : List (List Value)} {b : Nat} {c1 c2 d1 d2 : Value} (h : SlN 5 Y v rows) (hb : Y[b]?=some (.cells [c1,c2] 1 false false)) : SlN 5 (Y.set b (.cells [d1,d2] 1 false false)) v rows:=by
 by_cases ho : own1 v=some b
 ·obtain ⟨a,c,rfl,h0,hf,hr⟩:=h
  unfold own1 at ho
  split at ho
  ·rename_i id o n x e
   cases e
   cases ho
   unfold QD at hf
   simp only [hb] at hf
   split at hf
   ·rename_i hle
    have hl : rows.length=0:=by
     simp only [List.length_cons,List.length_nil] at hle
     omega
    have hl : rows=[]:=List.eq_nil_of_length_eq_zero hl
    subst hl
    refine ⟨_,c,rfl,(fun e=>by cases e),?_,hr⟩
    unfold QD
    simp only [ZM hb]
    rw [if_pos (by simpa using hle)]
    simp
   ·cases hf
  ·cases ho
 ·exact h.keep fun id hid=>List.getElem?_set_ne (fun e=>ho (by rw [hid,e]))
theorem Qg.setD {b : Nat} {c1 c2 d1 d2 : Value} (h : Qg Y v us) (hb : Y[b]?=some (.cells [c1,c2] 1 false false)) (i1 : Wv c1) (i2 : Wv c2) : Qg (Y.set b (.cells [d1,d2] 1 false false)) v us:=
 ⟨h.1.setD hb,fun u hu=>⟨(h.2 u hu).1.setD hb i1 i2,(h.2 u hu).2⟩⟩
theorem Zw.setD {l : List Tx} {q : List Nat} {b : Nat} {c1 c2 d1 d2 : Value} (h : Zw Y v (l.map strv) q) (hb : Y[b]?=some (.cells [c1,c2] 1 false false)) (i1 : Wv c1) (i2 : Wv c2) : Zw (Y.set b (.cells [d1,d2] 1 false false)) v (l.map strv) q:=by
 rcases h with ⟨h1,rfl,rfl⟩ | ⟨sid,rest,gr,rfl,rfl,hid⟩
 ·exact .inl ⟨h1,rfl,rfl⟩
 ·by_cases e : b=sid
  ·subst e
   rw [hb] at hid
   injection hid with hid
   injection hid with hc h2 h3 h4
   cases l with
   | nil=>
    have hc : [c1,c2]=rest:=by simpa using hc
    subst hc
    exact .inr ⟨b,[d1,d2],gr,rfl,rfl,by rw [ZM hb,h3];rfl⟩
   | cons y l=>
    rw [List.map_cons,List.cons_append] at hc
    injection hc with hc _
    rw [hc] at i1
    exact (Zqe i1).elim
  ·exact .inr ⟨sid,rest,gr,rfl,rfl,(List.getElem?_set_ne e).trans hid⟩
theorem Zxw (hU : Qg X uv us) (hO : ROK s us) (hP : J3 s) : ∃ X' v us',R (n+4) Za9 [uv,strv k,strv h] X=some (.tuple #[v,iv (QK k h s.A)],X')∧Qg X' v us'∧ROK (Ky k h s) us'∧HLe X X':=by
 have e1 : R (n+3) QL [strv k] X=some (.bool (Zo k),X):=Zce
 have e2 : R (n+3) Zaz [strv h] X=some (.bool (WB h),X):=Zpe
 have hlen:=hO.len hP.n
 have hfew:=hP.i.few
 obtain ⟨X1,e3,l1⟩:=Zqi (n:=n+2) (k:=k) (by omega) hU.1 (fun u hu=>(hU.2 u hu).2.1)
 have e3 : R (n+3) WO [uv,strv k] X=_:=e3
 have f1 : ∀ r X',Zcl (R (n+3)) uv (strv k) (strv h) X=some (r,X')→R (n+4) Za9 [uv,strv k,strv h] X=some (r,X'):=fun r X' hr=>by rw [R,ZoD rfl];exact hr
 have hU1:=hU.mono l1
 have hl : Zy uv X1=some (iv us.length,X1):=by have:=hU1.1.len (H':=X1);rwa [List.length_map] at this
 by_cases he : QK k h s.A=0
 ·obtain ⟨h1,h2,h3,h4⟩:=ZhV he
  rw [h1] at e1
  rw [h2] at e2
  rw [(ZgP hO).2 h3] at e3
  have zb : bld zU [(0,1,strv k),(1,1,strv h)] X1=some (.agg (ZlX k h).cells.toArray,X1):=ZvI
  have okB : UOK X1 (ZlX k h):=⟨Sl.nil,rfl,Nat.zero_le _⟩
  obtain ⟨X2,v,q,e4,r4,l4,_⟩:=ZsL (n:=n+2) (u:=ZlX k h) rfl (by omega) hU1.1 (fun u hu=>(hU.2 u hu).2.1)
  have e4 : R (n+3) Zat [uv,.agg (ZlX k h).cells.toArray] X1=_:=e4
  rw [he]
  refine ⟨X2,v,putU (ZlX k h) us,f1 _ _ ?_,hU1.put r4.rd okB l4,hO.put (u:=ZlX k h) ?_ (fun x hx=>?_),l1.trans l4⟩
  ·unfold Zcl
   rw [Za e1,Za ZF,Zb,if_neg (by simp),Za e2,Za ZF,Zb,if_neg (by simp),Za e3,Za Qm,Zb,if_neg (by simp),Za hl,Za Qm,Zb,if_neg (by simp;omega),Za zb,Za e4]
   rfl
  ·rw [Ztb hP.i he,if_pos (show (ZlX k h).nm=k from rfl)];rfl
  ·rw [Ztb hP.i he,if_neg (show ¬ x=k from hx)]
 ·have hn : Ky k h s=s:=by unfold Ky;rw [if_neg he]
  rw [hn]
  refine ⟨if Zo k && WB h then X1 else X,uv,us,f1 _ _ ?_,?_,hO,?_⟩
  ·unfold Zcl
   cases h1 : Zo k
   ·have hE : QK k h s.A=10:=by unfold QK;rw [h1];rfl
    rw [h1] at e1
    rw [Za e1,Za ZF,Zb,if_pos (by rfl),hE]
    rfl
   ·rw [h1] at e1
    cases h2 : WB h
    ·have hE : QK k h s.A=4:=by unfold QK;rw [h1,h2];rfl
     rw [h2] at e2
     rw [Za e1,Za ZF,Zb,if_neg (by simp),Za e2,Za ZF,Zb,if_pos (by rfl),hE]
     rfl
    ·rw [h2] at e2
     rw [Za e1,Za ZF,Zb,if_neg (by simp),Za e2,Za ZF,Zb,if_neg (by simp),Za e3]
     cases hfi : ZcQ k us with
     | some i=>
      obtain ⟨w,p,hw,hwn,ha,hkey⟩:=Zi4 hO hfi
      have hE : QK k h s.A=9:=by unfold QK;rw [h1,h2,ha];rfl
      rw [Za Qm,Zb,if_pos (by simp),hE]
      rfl
     | none=>
      have ha:=(ZgP hO).1 hfi
      have h12 : 12≤s.A.length:=by
       unfold QK at he
       rw [h1,h2,ha] at he
       simpa using he
      have hE : QK k h s.A=7:=by unfold QK;rw [h1,h2,ha];simp [h12]
      rw [Za Qm,Zb,if_neg (by simp),Za hl,Za Qm,Zb,if_pos (by simp;omega),hE]
      rfl
  ·split
   ·exact hU1
   ·exact hU
  ·split
   ·exact l1
   ·exact .refl _
theorem Zyw (hU : Qg X uv us) (hO : ROK s us) (hP : J3 s) : ∃ X' v us',R (n+4) Za8 [uv,strv k] X=some (.tuple #[v,iv (Zr k s.A)],X')∧Qg X' v us'∧ROK (YW k s) us'∧HLe X X':=by
 have e1 : R (n+3) QL [strv k] X=some (.bool (Zo k),X):=Zce
 have hlen:=hO.len hP.n
 have hfew:=hP.i.few
 obtain ⟨X1,e3,l1⟩:=Zqi (n:=n+2) (k:=k) (by omega) hU.1 (fun u hu=>(hU.2 u hu).2.1)
 have e3 : R (n+3) WO [uv,strv k] X=_:=e3
 have f1 : ∀ r X',Zba (R (n+3)) uv (strv k) X=some (r,X')→R (n+4) Za8 [uv,strv k] X=some (r,X'):=fun r X' hr=>by rw [R,Zo1 rfl];exact hr
 have hU1:=hU.mono l1
 cases h1 : Zo k
 ·have hE : Zr k s.A=10:=by unfold Zr;rw [h1];rfl
  have hn : YW k s=s:=by unfold YW;rw [if_neg (by rw [hE];decide)]
  rw [h1] at e1
  rw [hn,hE]
  refine ⟨X,uv,us,f1 _ _ ?_,hU,hO,.refl _⟩
  unfold Zba
  rw [Za e1,Za ZF,Zb,if_pos (by rfl)]
  rfl
 ·rw [h1] at e1
  cases hfi : ZcQ k us with
  | none=>
   rw [hfi] at e3
   have ha:=(ZgP hO).1 hfi
   have hE : Zr k s.A=8:=by unfold Zr;rw [h1,ha];rfl
   have hn : YW k s=s:=by unfold YW;rw [if_neg (by rw [hE];decide)]
   rw [hn,hE]
   refine ⟨X1,uv,us,f1 _ _ ?_,hU1,hO,l1⟩
   unfold Zba
   rw [Za e1,Za ZF,Zb,if_neg (by simp),Za e3,Za Zk,Zb,if_pos (by simp)]
   rfl
  | some i=>
   rw [hfi] at e3
   obtain ⟨w,p,hw,hwn,ha,hkey⟩:=Zi4 hO hfi
   have hE : Zr k s.A=0:=by unfold Zr;rw [h1,ha];rfl
   obtain ⟨X2,v,e4,r4,l4⟩:=Zvz (n:=n+2) (k:=k) (by omega) hU1.1 (fun u hu=>(hU.2 u hu).2.1)
   have e4 : R (n+3) ZbC [uv,strv k] X1=_:=e4
   refine ⟨X2,v,us.filter fun v=>decide (v.nm≠k),f1 _ _ ?_,⟨r4,fun u hu=>(hU1.mono l4).2 u (List.mem_filter.1 hu).1⟩,hO.drop (by rw [ZuA hE,if_pos rfl]) (fun x hx=>by rw [ZuA hE,if_neg hx]),l1.trans l4⟩
   unfold Zba
   rw [Za e1,Za ZF,Zb,if_neg (by simp),Za e3,Za Zk,Zb,if_neg (by simp),Za e4,hE]
   rfl
theorem Zwi {p3 p6 : Nat} {c1 c2 : Value} {e : Int} {us' : List Zj} (hv : Qg Y v us') (ig : Wv gv) (iu : Wv uv) (i1 : Wv c1) (i2 : Wv c2) (hn : p3≠p6) (c3 : Y[p3]?=some (.cells [uv,gv] 1 false false)) (b6 : Y[p6]?=some (.cells [c1,c2] 1 false false)) :
  ∃ Y',(bind (fa 0 (pt p3)) fun v19=>bind (st1 v19 v) fun _=>bind (ldA 2 (pt p3)) fun v20=>bind (stA 2 (pt p6) v20) fun _=>bind (ldA 2 (pt p6)) fun vr=>ret (Value.tuple #[vr,iv e])) Y=some (.tuple #[.agg #[v,gv],iv e],Y')∧Qg Y' v us'∧(∀ {H0 : Zd},HLe H0 Y→H0.length≤p3→H0.length≤p6→HLe H0 Y')∧(∀ {l : List Tx} {q : List Nat} {w : Value},Zw Y w (l.map strv) q→Zw Y' w (l.map strv) q):=by
 have w1 : st1 (pa p3 0) v Y=some (undef,Y.set p3 (.cells [v,gv] 1 false false)):=Kk (o:=0) c3 (by simp) hv.one
 have c3':=ZM (b:=Zf.cells [v,gv] 1 false false) c3
 have b6':=(List.getElem?_set_ne (a:=Zf.cells [v,gv] 1 false false) hn).trans b6
 have hf:=Zh7 (e:=e) hv.one ig.one c3' b6' rfl
 refine ⟨(Y.set p3 (.cells [v,gv] 1 false false)).set p6 (.cells [v,gv] 1 false false),?_,(hv.setD (d1:=v) (d2:=gv) c3 iu ig).setD b6' i1 i2,fun h h1 h2=>(h.putB h1).putB h2,fun h=>(h.setD (d1:=v) (d2:=gv) c3 iu ig).setD b6' i1 i2⟩
 rw [Za Zg,Za w1]
 exact hf
theorem RD.isSl (hR : RD X uv gv s) : Wv uv∧Wv gv:=by
 obtain ⟨us,hU,_⟩:=hR.ex
 obtain ⟨q,N,hr,_⟩:=hR.n
 exact ⟨hU.isSl,hr.isSlc⟩
theorem WS : Wv (.slice none 0 0):=⟨_,_,_,rfl⟩
theorem Zu0 (hR : RD X uv gv s) (hP : J3 s) : ∃ X' uv',R (n+6) Zcp [.agg #[uv,gv],strv k,strv h] X=some (.tuple #[.agg #[uv',gv],iv (QK k h s.A)],X')∧RD X' uv' gv (Ky k h s)∧HLe X X':=by
 obtain ⟨us,hU,hO⟩:=hR.ex
 obtain ⟨iu,ig⟩:=hR.isSl
 obtain ⟨p3,p6,X2,z,b3,b6,k2,l3,l36,l6⟩:=Zin (X:=X) hR.oneU hR.oneG
 have a3 : ld1 (pa p3 0) X2=some (uv,X2):=Zv b3 rfl
 obtain ⟨X3,v,us',e3,hU3,hO3,k3⟩:=Zxw (n:=n+1) (k:=k) (h:=h) (hU.mono k2) hO hP
 have e3 : R (n+5) Za9 [uv,strv k,strv h] X2=_:=e3
 obtain ⟨X4,e4,hU4,hl4,_⟩:=Zwi (e:=QK k h s.A) hU3 ig iu WS WS (show p3≠p6 by omega) (k3 _ _ b3) (k3 _ _ b6)
 have hkk : HLe X X4:=hl4 (k2.trans k3) l3 (by omega)
 have hK : (Ky k h s).K=s.K:=by unfold Ky;split <;> rfl
 refine ⟨X4,v,?_,⟨⟨us',hU4,hO3⟩,?_⟩,hkk⟩
 ·rw [R,ZoV rfl]
  unfold Zgh
  rw [z,Za Zg,Za a3,Za e3,Za Zt,Za Zs]
  exact e4
 ·rw [hK]
  exact (hR.hle hkk).n
theorem Zvd (hR : RD X uv gv s) (hP : J3 s) : ∃ X' uv',R (n+6) Zcm [.agg #[uv,gv],strv k] X=some (.tuple #[.agg #[uv',gv],iv (Zr k s.A)],X')∧RD X' uv' gv (YW k s)∧HLe X X':=by
 obtain ⟨us,hU,hO⟩:=hR.ex
 obtain ⟨iu,ig⟩:=hR.isSl
 obtain ⟨p3,p6,X2,z,b3,b6,k2,l3,l36,l6⟩:=Zin (X:=X) hR.oneU hR.oneG
 have a3 : ld1 (pa p3 0) X2=some (uv,X2):=Zv b3 rfl
 obtain ⟨X3,v,us',e3,hU3,hO3,k3⟩:=Zyw (n:=n+1) (k:=k) (hU.mono k2) hO hP
 have e3 : R (n+5) Za8 [uv,strv k] X2=_:=e3
 obtain ⟨X4,e4,hU4,hl4,_⟩:=Zwi (e:=Zr k s.A) hU3 ig iu WS WS (show p3≠p6 by omega) (k3 _ _ b3) (k3 _ _ b6)
 have hkk : HLe X X4:=hl4 (k2.trans k3) l3 (by omega)
 have hK : (YW k s).K=s.K:=by unfold YW;split <;> rfl
 refine ⟨X4,v,?_,⟨⟨us',hU4,hO3⟩,?_⟩,hkk⟩
 ·rw [R,Zpo rfl]
  unfold Zgc
  rw [z,Za Zg,Za a3,Za e3,Za Zt,Za Zs]
  exact e4
 ·rw [hK]
  exact (hR.hle hkk).n
theorem Ztv {p3 p6 p8 : Nat} {c1 c2 : Value} (hU : Qg Y uv us) (hl : us.length≤1000) (hu : UOK Y u) (ig : Wv gv) (i1 : Wv c1) (i2 : Wv c2) (c3 : Y[p3]?=some (.cells [uv,gv] 1 false false)) (b6 : Y[p6]?=some (.cells [c1,c2] 1 false false)) (b8 : Y[p8]?=some (.cells u.cells 1 false false)) :
  ∃ uv' Y',(bind (ldA 2 (pt p3)) fun v33=>bind (ldA 5 (pt p8)) fun v34=>bind (R (n+5) WN [v33,v34]) fun v35=>bind (stA 2 (pt p6) v35) fun _=>bind (ldA 2 (pt p6)) fun vr=>ret (Value.tuple #[vr,iv 0])) Y=some (.tuple #[.agg #[uv',gv],iv 0],Y')∧Qg Y' uv' (putU u us)∧(∀ {H0 : Zd},HLe H0 Y→H0.length≤p6→HLe H0 Y'):=by
 have d3 : ldA 2 (pt p3) Y=some (.agg #[uv,gv],Y):=ZQ (n:=2) c3 rfl
 have d8 : ldA 5 (pt p8) Y=some (.agg u.cells.toArray,Y):=ZQ (n:=5) b8 rfl
 obtain ⟨uv',Y1,e1,hU1,k1⟩:=Zz8 (n:=n+3) hU hl hu ig.one
 have e1 : R (n+5) WN [.agg #[uv,gv],.agg u.cells.toArray] Y=_:=e1
 have b6':=k1 _ _ b6
 have hal : ([uv',gv].all oneCell)=true:=by simp only [List.all_cons,hU1.one,ig.one];rfl
 have w1:=KW (vs:=[uv',gv]) (n:=2) b6' rfl rfl hal
 have w1 : stA 2 (pt p6) (.agg #[uv',gv]) Y1=_:=w1
 have d6 : ldA 2 (pt p6) (Y1.set p6 (.cells [uv',gv] 1 false false))=some (.agg #[uv',gv],_):=ZQ (n:=2) (ZM b6') rfl
 refine ⟨uv',Y1.set p6 (.cells [uv',gv] 1 false false),?_,hU1.setD b6' i1 i2,fun h h1=>(h.trans k1).putB h1⟩
 rw [Za d3,Za d8,Za e1,Za w1,Za d6]
 rfl
theorem Sl.ltO {vs : List Value} (hs : Sl X v vs) {id : Nat} (hid : own1 v=some id) : id < X.length:=by
 obtain ⟨a,c,rfl,h0,hf⟩:=hs
 unfold own1 at hid
 split at hid
 ·rename_i id' o n x e
  cases e
  cases hid
  unfold QD at hf
  simp only at hf
  split at hf
  ·rename_i hb
   exact Ql hb
  ·cases hf
 ·cases hid
theorem ZjH (hR : RD X uv gv s) (hP : J3 s) : ∃ p3 p6 p8 u X',(∀ {β : Type} (K : Value→Value→Value→Value→M β),bind (alc 1 (.agg #[uv,gv])) (fun v3=>bind (alc 1 zD) fun v6=>bind (ldA 2 v3) fun v11=>bind (R (n+5) J7 [v11,strv k]) fun v13=>bind (Zm v13 0) fun v14=>bind (Zm v13 1) fun v15=>bind (alc 1 zU) fun v8=>bind (stA 5 v8 v14) fun _=>K v3 v6 v8 v15) X=K (pt p3) (pt p6) (pt p8) (iv (Zr k s.A)) X')∧
  X'[p3]?=some (.cells [uv,gv] 1 false false)∧X'[p6]?=some (.cells [.slice none 0 0,.slice none 0 0] 1 false false)∧X'[p8]?=some (.cells u.cells 1 false false)∧HLe X X'∧X.length≤p3∧p3 < p6∧p6 < p8∧UOK X' u∧(∀ id,own1 u.gv=some id→id < p8)∧(Zr k s.A=0→ZI u=Qe s k (ZY k s.A)):=by
 obtain ⟨us,hU,hO⟩:=hR.ex
 obtain ⟨p3,p6,X2,z,b3,b6,k2,l3,l36,l6⟩:=Zin (X:=X) hR.oneU hR.oneG
 have d3 : ldA 2 (pt p3) X2=some (.agg #[uv,gv],X2):=ZQ (n:=2) b3 rfl
 obtain ⟨u,X3,e3,k3,ok,hk⟩:=Ztw (n:=n+1) (k:=k) (hU.mono k2) hO hP hR.oneG
 have e3 : R (n+5) J7 [.agg #[uv,gv],strv k] X2=_:=e3
 have z8 : ∀ {β : Type} (K : Value→M β),bind (alc 1 zU) (fun q=>bind (stA 5 q (.agg u.cells.toArray)) fun _=>K q) X3=K (pt X3.length) (X3++[.cells u.cells 1 false false]):=fun K=>Zao (n:=5) (zs:=[.string ⟨#[]⟩,.string ⟨#[]⟩,.string ⟨#[]⟩,.bool false,.slice none 0 0]) (r:=u.cells) rfl rfl rfl (Zax ok.2.1)
 have k4 : HLe X3 (X3++[Zf.cells u.cells 1 false false]):=.app _ _
 have hx3:=k3.len
 refine ⟨p3,p6,X3.length,u,X3++[.cells u.cells 1 false false],fun {β} K=>?_,k4 _ _ (k3 _ _ b3),k4 _ _ (k3 _ _ b6),ZC,(k2.trans k3).trans k4,l3,l36,by omega,ok.hle k4,fun id hid=>ok.1.ltO hid,hk⟩
 rw [z,Za d3,Za e3,Za Zt,Za Zs]
 exact z8 _
theorem RD.back (hR : RD X uv gv s) {s' : NSt} (hl : HLe X X') (he : s'=s) : RD X' uv gv s':=by rw [he];exact hR.hle hl
theorem Zwq : (YB k h s).K=s.K:=by unfold YB;split <;> rfl
theorem ZwY {b : Bool} : (J9 k b s).K=s.K:=by unfold J9;split <;> rfl
theorem Zww : (QW k m s).K=s.K:=by unfold QW;split <;> rfl
theorem ZyG : (KZ o t s).K=s.K:=by unfold KZ;split <;> rfl
theorem ZAl : (Zaq g k s).K=s.K:=by unfold Zaq;split <;> rfl
theorem ZyU : (Wc g k s).K=s.K:=by unfold Wc;split <;> rfl
theorem RD.users (hR : RD X uv gv s) {s' : NSt} {uv' : Value} {us' : List Zj} (hl : HLe X X') (hU : Qg X' uv' us') (hO : ROK s' us') (hK : s'.K=s.K) : RD X' uv' gv s':=⟨⟨us',hU,hO⟩,by rw [hK];exact (hR.hle hl).n⟩
theorem ZsK (hR : RD X uv gv s) (hP : J3 s) : ∃ X' uv',R (n+6) ZaC [.agg #[uv,gv],strv k,strv h] X=some (.tuple #[.agg #[uv',gv],iv (Qt k h s.A)],X')∧RD X' uv' gv (YB k h s)∧HLe X X':=by
 obtain ⟨us,hU,hO⟩:=hR.ex
 obtain ⟨iu,ig⟩:=hR.isSl
 obtain ⟨p3,p6,p8,u,X3,z,b3,b6,b8,k3,l3,l36,l68,ok,lo,hkey⟩:=ZjH (n:=n) (k:=k) hR hP
 have hlen:=hO.len hP.n
 have hfew:=hP.i.few
 have e2 : R (n+5) Zaz [strv h] X3=some (.bool (WB h),X3):=Zpe
 have f1 : ∀ r X',ZbT (R (n+5)) (.agg #[uv,gv]) (strv k) (strv h) X=some (r,X')→R (n+6) ZaC [.agg #[uv,gv],strv k,strv h] X=some (r,X'):=fun r X' hr=>by rw [R,ZnQ rfl];exact hr
 have a3 : ld1 (pa p8 3) X3=some (.bool u.ds,X3):=Zv b8 rfl
 have back : ∀ e : Int,Qt k h s.A=e→e≠0→YB k h s=s:=fun e h1 h2=>by unfold YB;rw [if_neg (by rw [h1];exact h2)]
 have hfin:=fun e : Int=>Zh7 (e:=e) hR.oneU hR.oneG b3 b6 rfl
 have hfl : HLe X (X3.set p6 (.cells [uv,gv] 1 false false)):=k3.putB (by omega)
 by_cases he : Qt k h s.A=0
 ·obtain ⟨a1,a2,a3',a4⟩:=Zje he
  have hN : Zr k s.A=0:=by unfold Zr;rw [a1,a3'];rfl
  have hku:=hkey hN
  have hds : u.ds=false:=by
   have : u.ds=(ZY k s.A).2:=congrArg (·.2.2.2.1) hku
   rw [this,a4]
  have w8 : st1 (pa p8 1) (strv h) X3=some (undef,X3.set p8 (.cells (Zj.cells { u with hs:=h }) 1 false false)):=Kk (o:=1) b8 (by simp) rfl
  have k8 : HLe X (X3.set p8 (.cells (Zj.cells { u with hs:=h }) 1 false false)):=k3.putB (by omega)
  have ok8 : UOK (X3.set p8 (.cells (Zj.cells { u with hs:=h }) 1 false false)) { u with hs:=h }:=by
   exact ⟨ok.1.keep fun id hid=>List.getElem?_set_ne (by have:=lo id hid;omega),ok.2⟩
  have c3:=(List.getElem?_set_ne (a:=Zf.cells (Zj.cells { u with hs:=h }) 1 false false) (show p8≠p3 by omega)).trans b3
  have c6:=(List.getElem?_set_ne (a:=Zf.cells (Zj.cells { u with hs:=h }) 1 false false) (show p8≠p6 by omega)).trans b6
  have c8:=ZM (b:=Zf.cells (Zj.cells { u with hs:=h }) 1 false false) b8
  obtain ⟨uv',X4,e4,hU4,hl4⟩:=Ztv (n:=n) (u:={ u with hs:=h }) (hU.mono k8) (by omega) ok8 ig WS WS c3 c6 c8
  have hkk : HLe X X4:=hl4 k8 (by omega)
  rw [he]
  have hnm : u.nm=k:=congrArg (·.1) hku
  refine ⟨X4,uv',f1 _ _ ?_,hR.users hkk hU4 (hO.put (u:={ u with hs:=h }) ?_ (fun x hx=>?_)) Zwq,hkk⟩
  ·unfold ZbT
   refine (z _).trans ?_
   have q1 : bop .int .eql (iv (Zr k s.A)) (.int .i64 10) X3=some (.bool false,X3):=by rw [ZD,hN];rfl
   have q3 : bop .int .neq (iv (Zr k s.A)) (.int .i64 0) X3=some (.bool false,X3):=by rw [Zq,hN];rfl
   rw [a2] at e2
   rw [hds] at a3
   rw [Za q1,Zb,if_neg (by simp),Za e2,Za ZF,Zb,if_neg (by simp),Za q3,Zb,if_neg (by simp),Za Zg,Za a3,Zb,if_neg (by simp),Za Zg,Za w8]
   exact e4
  ·rw [Zpc he,if_pos (show u.nm=k from hnm)]
   have h2 : ZI { u with hs:=h }=(k,h,(ZI u).2.2):=by unfold ZI;rw [hnm]
   rw [h2,hku]
   rfl
  ·rw [Zpc he,if_neg (by rw [← hnm];exact hx)]
 ·have hn : YB k h s=s:=by unfold YB;rw [if_neg he]
  rw [hn]
  refine ⟨X3.set p6 (.cells [uv,gv] 1 false false),uv,f1 _ _ ?_,hR.hle hfl,hfl⟩
  unfold ZbT
  refine (z _).trans ?_
  cases a1 : Zo k
  ·have hN : Zr k s.A=10:=by unfold Zr;rw [a1];rfl
   have hE : Qt k h s.A=10:=by unfold Qt;rw [a1];rfl
   have q1 : bop .int .eql (iv 10) (.int .i64 10) X3=some (.bool true,X3):=by rw [ZD];rfl
   rw [hN,hE,Za q1,Zb,if_pos rfl]
   exact hfin 10
  ·have hN : Zr k s.A=0∨Zr k s.A=8:=by unfold Zr;rw [a1];cases (Ze k s.A).isSome <;> simp
   have q1 : bop .int .eql (iv (Zr k s.A)) (.int .i64 10) X3=some (.bool false,X3):=by rw [ZD];rcases hN with h1 | h1 <;> rw [h1] <;> rfl
   rw [Za q1,Zb,if_neg (by simp),Za e2,Za ZF,Zb]
   cases a2 : WB h
   ·have hE : Qt k h s.A=4:=by unfold Qt;rw [a1,a2];rfl
    rw [if_pos (by rfl),hE]
    exact hfin 4
   ·rw [if_neg (by simp)]
    cases a3' : (Ze k s.A).isSome
    ·have hN : Zr k s.A=8:=by unfold Zr;rw [a1,a3'];rfl
     have hE : Qt k h s.A=8:=by unfold Qt;rw [a1,a2,a3'];rfl
     have q3 : bop .int .neq (iv 8) (.int .i64 0) X3=some (.bool true,X3):=by rw [Zq];rfl
     rw [hN,Za q3,Zb,if_pos rfl,hE]
     exact hfin 8
    ·have hN : Zr k s.A=0:=by unfold Zr;rw [a1,a3'];rfl
     have q3 : bop .int .neq (iv (Zr k s.A)) (.int .i64 0) X3=some (.bool false,X3):=by rw [Zq,hN];rfl
     have a4 : (ZY k s.A).2=true:=by
      unfold Qt at he
      rw [a1,a2,a3'] at he
      simpa using he
     have hds : u.ds=true:=by
      have : u.ds=(ZY k s.A).2:=congrArg (·.2.2.2.1) (hkey hN)
      rw [this,a4]
     have hE : Qt k h s.A=12:=by unfold Qt;rw [a1,a2,a3',a4];rfl
     rw [hds] at a3
     rw [Za q3,Zb,if_neg (by simp),Za Zg,Za a3,Zb,if_pos rfl,hE]
     exact hfin 12
end
end Go.Proofs.YtedkoimihknggaaGreatDoor.A
namespace Go.Proofs.YtedkoimihknggaaGreatDoor.A
set_option linter.unusedVariables false
set_option linter.unusedSimpArgs false
open Go.Proofs Go.Proofs.YtedkoimihknggaaGreatDoor
section
variable {X X' Y H0 : Zd} {n : Nat} {uv gv v : Value} {us : List Zj} {s : NSt} {k h m o t g x : Tx} {u w : Zj} {β : Type} {l : List Tx}
theorem ZsT (hl : l.length≤1000000) (hs : Sl X v (l.map strv)) : ∀ (t j : Nat),l.length - j=t→j≤l.length→
  Zi (c4 (Zaj.l1 (R n))) [strv x,v,iv l.length,iv j] X=some (if x∈l.drop j then .ret (.bool true) else .ext 0 [],X)
 | 0,j,ht,hj=>by
  rw [List.drop_eq_nil_of_le (by omega)]
  refine ZN ?_
  rw [ZJ,show j=l.length by omega]
  unfold Zaj.l1
  rw [Za Zk,Zb,if_neg (by simp)]
  rfl
 | t+1,j,ht,hj=>by
  have hkl : j < l.length:=by omega
  have hlt : (j : Int) < l.length:=by omega
  have hg:=List.getElem?_eq_getElem hkl
  have hd:=List.drop_eq_getElem_cons hkl
  generalize l[j]=y at hg hd
  have x1:=hs.ix (i:=j) (by simpa using hkl) .i64 X
  have x2:=hs.ldx (Yt hg)
  have x3 : bop .str .eql (strv y) (strv x) X=some (.bool (y==x),X):=Zdh
  rw [hd]
  by_cases hyx : y=x
  ·rw [if_pos (by simp [hyx])]
   refine QR ?_
   rw [ZJ]
   unfold Zaj.l1
   rw [Za Zk,Zb,if_pos (by simpa using hlt),Za x1,Za x2,Za x3,Zb,if_pos (by simpa using hyx)]
   rfl
  ·have : (x∈y :: l.drop (j+1))↔x∈l.drop (j+1):=by simp [Ne.symm hyx]
   simp only [this]
   refine (ZA ?_).trans (ZsT hl hs t (j+1) (by omega) (by omega))
   rw [ZJ]
   unfold Zaj.l1
   rw [Za Zk,Zb,if_pos (by simpa using hlt),Za x1,Za x2,Za x3,Zb,if_neg (by simpa using hyx),Za ZB,Qi (by omega)]
   rfl
theorem Zq1 (hl : l.length≤1000000) (hs : Sl X v (l.map strv)) : R (n+1) Wa [v,strv x] X=some (.bool (decide (x∈l)),X):=by
 have e:=ZsT (n:=n) (x:=x) hl hs l.length 0 (by omega) (by omega)
 rw [show iv ((0 : Nat) : Int)=.int .i64 0 from rfl,List.drop_zero] at e
 have hlen : Zy v X=some (iv l.length,X):=by have:=hs.len (H':=X);simpa using this
 rw [R,ZtH rfl]
 unfold Zaj
 rw [Za hlen]
 by_cases h : x∈l
 ·rw [if_pos h] at e
  rw [Yh e,decide_eq_true h];rfl
 ·rw [if_neg h] at e
  rw [Z5 e,ZG,decide_eq_false h];rfl
theorem Zq2 {lv : Value} (hl : l.length≤1000) (hA : Sl H0 lv (l.map strv)) : ∀ (t j : Nat) (sl : Value) (q : List Nat) (acc : List Tx) (X : Zd),l.length - j=t→j≤l.length→acc.length≤j→HLe H0 X→(∀ i∈q,H0.length≤i)→Zw X sl (acc.map strv) q→
  ∃ X' sl' q',Zi (c5 (YF.l1 (R n))) [strv k,sl,lv,iv l.length,iv j] X=some (.ext 0 [sl'],X')∧Zw X' sl' ((acc++(l.drop j).filter (fun x=>decide (x≠k))).map strv) q'∧HLe H0 X'∧∀ i∈q',H0.length≤i
 | 0,j,sl,q,acc,X,ht,hj,ha,hle,hq,hr=>by
  rw [List.drop_eq_nil_of_le (by omega)]
  refine ⟨X,sl,q,ZN ?_,by simpa using hr,hle,hq⟩
  rw [Qs,show j=l.length by omega]
  unfold YF.l1
  rw [Za Zk,Zb,if_neg (by simp)]
  rfl
 | t+1,j,sl,q,acc,X,ht,hj,ha,hle,hq,hr=>by
  have hkl : j < l.length:=by omega
  have hlt : (j : Int) < l.length:=by omega
  have hg:=List.getElem?_eq_getElem hkl
  have hd:=List.drop_eq_getElem_cons hkl
  generalize l[j]=y at hg hd
  have hA':=hA.mono hle
  have x1:=hA'.ix (i:=j) (by simpa using hkl) .i64 X
  have x2:=hA'.ldx (Yt hg)
  rw [hd,List.filter_cons]
  by_cases hy : y=k
  ·rw [if_neg (by simpa using hy)]
   obtain ⟨X2,sl2,q2,e2,r2,s2,o2⟩:=Zq2 hl hA t (j+1) sl q acc X (by omega) (by omega) (by omega) hle hq hr
   refine ⟨X2,sl2,q2,(ZA ?_).trans e2,r2,s2,o2⟩
   rw [Qs]
   unfold YF.l1
   rw [Za Zk,Zb,if_pos (by simpa using hlt),Za x1,Za x2,Za WM]
   refine (ZS (vs:=[strv k,sl,lv,iv l.length,iv j]) (H':=X) ?_).trans ?_
   ·rw [Zb,if_neg (by simpa using hy)];rfl
   ·rw [Qs,Za ZB,Qi (by omega)];rfl
  ·rw [if_pos (by simpa using hy)]
   obtain ⟨w,Y,sl1,X2,q1,a1,a2,r1,l2,o1,s1⟩:=Zhv (u:=y) hr (by omega) hq hle
   obtain ⟨X3,sl2,q2,e2,r2,s2,o2⟩:=Zq2 hl hA t (j+1) sl1 q1 (acc++[y]) X2 (by omega) (by omega) (by simp;omega) l2 o1 r1
   refine ⟨X3,sl2,q2,(ZA ?_).trans e2,by simpa using r2,s2,o2⟩
   rw [Qs]
   unfold YF.l1
   rw [Za Zk,Zb,if_pos (by simpa using hlt),Za x1,Za x2,Za WM]
   refine (ZS (vs:=[strv k,sl1,lv,iv l.length,iv j]) (H':=X2) ?_).trans ?_
   ·rw [Zb,if_pos (by simpa using hy),Za a1,Za a2];rfl
   ·rw [Qs,Za ZB,Qi (by omega)];rfl
theorem Znc {lv : Value} (hl : l.length≤1000) (hA : Sl X lv (l.map strv)) : ∃ X' v q,R (n+1) ZaF [lv,strv k] X=some (v,X')∧Zw X' v ((l.filter fun x=>decide (x≠k)).map strv) q∧HLe X X'∧∀ i∈q,X.length≤i:=by
 obtain ⟨X',v,q,e,r,l1,o⟩:=Zq2 (n:=n) (k:=k) hl hA l.length 0 (.slice none 0 0) [] [] X (by omega) (by omega) (Nat.le_refl _) (.refl _) (by simp) Zw.nil
 rw [List.drop_zero] at r
 have e : Zi (c5 (YF.l1 (R n))) [strv k,.slice none 0 0,lv,iv l.length,.int .i64 0] X=_:=e
 have hlen : Zy lv X=some (iv l.length,X):=by have:=hA.len (H':=X);simpa using this
 refine ⟨X',v,q,?_,by simpa using r,l1,o⟩
 rw [R,Zot rfl]
 unfold YF
 rw [Za hlen,Z5 e,ZG]
 rfl
theorem ZsP {b : Bool} (hR : RD X uv gv s) (hP : J3 s) : ∃ X' uv',R (n+6) ZaK [.agg #[uv,gv],strv k,.bool b] X=some (.tuple #[.agg #[uv',gv],iv (Jt k b s.A)],X')∧RD X' uv' gv (J9 k b s)∧HLe X X':=by
 obtain ⟨us,hU,hO⟩:=hR.ex
 obtain ⟨iu,ig⟩:=hR.isSl
 obtain ⟨p3,p6,p8,u,X3,z,b3,b6,b8,k3,l3,l36,l68,ok,lo,hkey⟩:=ZjH (n:=n) (k:=k) hR hP
 have hlen:=hO.len hP.n
 have hfew:=hP.i.few
 have f1 : ∀ r X',ZaE (R (n+5)) (.agg #[uv,gv]) (strv k) (.bool b) X=some (r,X')→R (n+6) ZaK [.agg #[uv,gv],strv k,.bool b] X=some (r,X'):=fun r X' hr=>by rw [R,ZnO rfl];exact hr
 have a3 : ld1 (pa p8 3) X3=some (.bool u.ds,X3):=Zv b8 rfl
 have hfin:=fun e : Int=>Zh7 (e:=e) hR.oneU hR.oneG b3 b6 rfl
 have hfl : HLe X (X3.set p6 (.cells [uv,gv] 1 false false)):=k3.putB (by omega)
 by_cases hN : Zr k s.A=0
 ·have hku:=hkey hN
  have hnm : u.nm=k:=congrArg (·.1) hku
  have hds : u.ds=(ZY k s.A).2:=congrArg (·.2.2.2.1) hku
  have q1 : bop .int .neq (iv (Zr k s.A)) (.int .i64 0) X3=some (.bool false,X3):=by rw [Zq,hN];rfl
  rw [hds] at a3
  by_cases hb : (ZY k s.A).2=b
  ·have hE : Jt k b s.A=12:=by unfold Jt;rw [if_pos hN,if_pos hb]
   have hn : J9 k b s=s:=by unfold J9;rw [if_neg (by rw [hE];decide)]
   have q2 : bop .bool .eql (.bool (ZY k s.A).2) (.bool b) X3=some (.bool true,X3):=by rw [Jy,hb];simp
   rw [hn,hE]
   refine ⟨X3.set p6 (.cells [uv,gv] 1 false false),uv,f1 _ _ ?_,hR.hle hfl,hfl⟩
   unfold ZaE
   refine (z _).trans ?_
   rw [Za q1,Zb,if_neg (by simp),Za Zg,Za a3,Za q2,Zb,if_pos rfl]
   exact hfin 12
  ·have hE : Jt k b s.A=0:=by unfold Jt;rw [if_pos hN,if_neg hb]
   have q2 : bop .bool .eql (.bool (ZY k s.A).2) (.bool b) X3=some (.bool false,X3):=by rw [Jy];simp [hb]
   have w8 : st1 (pa p8 3) (.bool b) X3=some (undef,X3.set p8 (.cells (Zj.cells { u with ds:=b }) 1 false false)):=Kk (o:=3) b8 (by simp) rfl
   have k8 : HLe X (X3.set p8 (.cells (Zj.cells { u with ds:=b }) 1 false false)):=k3.putB (by omega)
   have ok8 : UOK (X3.set p8 (.cells (Zj.cells { u with ds:=b }) 1 false false)) { u with ds:=b }:=⟨ok.1.keep fun id hid=>List.getElem?_set_ne (by have:=lo id hid;omega),ok.2⟩
   have c3:=(List.getElem?_set_ne (a:=Zf.cells (Zj.cells { u with ds:=b }) 1 false false) (show p8≠p3 by omega)).trans b3
   have c6:=(List.getElem?_set_ne (a:=Zf.cells (Zj.cells { u with ds:=b }) 1 false false) (show p8≠p6 by omega)).trans b6
   have c8:=ZM (b:=Zf.cells (Zj.cells { u with ds:=b }) 1 false false) b8
   obtain ⟨uv',X4,e4,hU4,hl4⟩:=Ztv (n:=n) (u:={ u with ds:=b }) (hU.mono k8) (by omega) ok8 ig WS WS c3 c6 c8
   have hkk : HLe X X4:=hl4 k8 (by omega)
   rw [hE]
   refine ⟨X4,uv',f1 _ _ ?_,hR.users hkk hU4 (hO.put (u:={ u with ds:=b }) ?_ (fun x hx=>?_)) ZwY,hkk⟩
   ·unfold ZaE
    refine (z _).trans ?_
    rw [Za q1,Zb,if_neg (by simp),Za Zg,Za a3,Za q2,Zb,if_neg (by simp),Za Zg,Za w8]
    exact e4
   ·rw [Zrt hE,if_pos (show u.nm=k from hnm)]
    have h2 : ZI { u with ds:=b }=(k,(ZI u).2.1,(ZI u).2.2.1,b,(ZI u).2.2.2.2):=by unfold ZI;rw [hnm]
    rw [h2,hku]
    rfl
   ·rw [Zrt hE,if_neg (by rw [← hnm];exact hx)]
 ·have hE : Jt k b s.A=Zr k s.A:=by unfold Jt;rw [if_neg hN]
  have hn : J9 k b s=s:=by unfold J9;rw [if_neg (by rw [hE];exact hN)]
  have q1 : bop .int .neq (iv (Zr k s.A)) (.int .i64 0) X3=some (.bool true,X3):=by rw [Zq];simp [hN]
  rw [hn,hE]
  refine ⟨X3.set p6 (.cells [uv,gv] 1 false false),uv,f1 _ _ ?_,hR.hle hfl,hfl⟩
  unfold ZaE
  refine (z _).trans ?_
  rw [Za q1,Zb,if_pos rfl]
  exact hfin _
def ZfJ (m k : Tx) (us : List Zj) : Bool:=us.any fun v=>decide (m≠[]) && (v.ml==m) && !(v.nm==k)
theorem ZtG {p3 p6 p8 : Nat} (hn : us.length≤1000) (hU : Qg H0 uv us) (h1 : oneCell uv=true) (h2 : oneCell gv=true) (b3 : H0[p3]?=some (.cells [uv,gv] 1 false false)) (b6 : H0[p6]?=some (.cells [.slice none 0 0,.slice none 0 0] 1 false false)) : ∀ (t j : Nat) (X : Zd),us.length - j=t→j≤us.length→HLe H0 X→
  ∃ X',(if ZfJ m k (us.drop j) then Zi (c8 (Qv.l1 (R n))) [strv k,pt p3,pt p6,pt p8,strv m,uv,iv us.length,iv j] X=some (.ret (.tuple #[.agg #[uv,gv],iv 9]),X'.set p6 (.cells [uv,gv] 1 false false)) else Zi (c8 (Qv.l1 (R n))) [strv k,pt p3,pt p6,pt p8,strv m,uv,iv us.length,iv j] X=some (.ext 0 [pt p3,pt p6,pt p8,strv m],X'))∧HLe H0 X'
 | 0,j,X,ht,hj,hle=>by
  rw [List.drop_eq_nil_of_le (by omega)]
  refine ⟨X,?_,hle⟩
  rw [if_neg (by simp [ZfJ])]
  refine ZN ?_
  rw [Ki,show j=us.length by omega]
  unfold Qv.l1
  rw [Za Zk,Zb,if_neg (by simp)]
  rfl
 | t+1,j,X,ht,hj,hle=>by
  have hkl : j < us.length:=by omega
  have hlt : (j : Int) < us.length:=by omega
  have hg:=List.getElem?_eq_getElem hkl
  have hd:=List.drop_eq_getElem_cons hkl
  generalize us[j]=w at hg hd
  have hUX:=hU.mono hle
  have hok:=hUX.ok (List.mem_of_getElem? hg)
  have hf:=fun {K : Value→M Out}=>Zed (k:=K) hUX.1 hok.2.1 hg
  have g1 : (X++[Zf.cells w.cells 1 false false])[X.length]?=some (.cells w.cells 1 false false):=ZC
  have k1 : HLe X (X++[Zf.cells w.cells 1 false false]):=.app _ _
  generalize X++[Zf.cells w.cells 1 false false]=X1 at g1 k1 hf
  have a2 : ld1 (pa X.length 2) X1=some (strv w.ml,X1):=Zv g1 rfl
  have a0 : ld1 (pa X.length 0) X1=some (strv w.nm,X1):=Zv g1 rfl
  have q0 : bop .str .neq (strv m) (.string ⟨#[]⟩) X1=some (.bool (decide (m≠[])),X1):=by
   have:=WM (a:=m) (b:=[]) (H:=X1)
   rw [show (strv [] : Value)=.string ⟨#[]⟩ from rfl] at this
   rw [this]
   by_cases h : m=[] <;> simp [h]
  have q1 : bop .str .eql (strv w.ml) (strv m) X1=some (.bool (w.ml==m),X1):=Zdh
  have q2 : bop .str .neq (strv w.nm) (strv k) X1=some (.bool (!(w.nm==k)),X1):=WM
  have hgate : ∀ K : Value→M Out,(bind (bop .str .neq (strv m) (Value.string ⟨#[]⟩)) fun v48x30=>
 bind (ZH v48x30 true 4 (bind (fa 2 (pt X.length)) fun v50x31=>
 bind (ld1 v50x31) fun v51x32=>
 bind (bop .str .eql v51x32 (strv m)) fun v53x33=>
 ret [v50x31,v51x32,strv m,v53x33])) (c4 fun _ _ _ q34_3=>
 bind (pick v48x30 q34_3 (Value.bool false)) fun v54x35=>
 bind (ZH v54x35 true 4 (bind (fa 0 (pt X.length)) fun v56x36=>
 bind (ld1 v56x36) fun v57x37=>
 bind (bop .str .neq v57x37 (strv k)) fun v59x38=>
 ret [v56x36,v57x37,strv k,v59x38])) (c4 fun _ _ _ q39_3=>
 bind (pick v54x35 q39_3 (Value.bool false)) K))) X1=K (.bool (decide (m≠[]) && (w.ml==m) && !(w.nm==k))) X1:=fun K=>by
   rw [Za q0]
   by_cases hm : m=[]
   ·rw [decide_eq_false (fun e=>e hm),Za (g_r.trans (if_neg (by simp)))]
    simp only [List.replicate]
    rw [ZJ,Za Zn]
    simp only [cond_false]
    rw [Za (g_r.trans (if_neg (by simp)))]
    simp only [List.replicate]
    rw [ZJ,Za Zn]
    rfl
   ·rw [decide_eq_true hm,Z8,Zp,Za Zg,Zp,Za a2,Zp,Za q1,Qb,ZJ,Za Zn]
    simp only [cond_true]
    cases hml : w.ml==m
    ·rw [Za (g_r.trans (if_neg (by simp)))]
     simp only [List.replicate]
     rw [ZJ,Za Zn]
     rfl
    ·rw [Z8,Zp,Za Zg,Zp,Za a0,Zp,Za q2,Qb,ZJ,Za Zn]
     rfl
  have htk : ZfJ m k (w :: us.drop (j+1))=((decide (m≠[]) && (w.ml==m) && !(w.nm==k)) || ZfJ m k (us.drop (j+1))):=by
   unfold ZfJ
   rw [List.any_cons]
  rw [hd,htk]
  cases hb : (decide (m≠[]) && (w.ml==m) && !(w.nm==k))
  ·rw [hb] at hgate
   rw [Bool.false_or]
   obtain ⟨X2,e2,k2⟩:=ZtG hn hU h1 h2 b3 b6 t (j+1) X1 (by omega) (by omega) (hle.trans k1)
   have hstep : c8 (Qv.l1 (R n)) [strv k,pt p3,pt p6,pt p8,strv m,uv,iv us.length,iv j] X=some (.nrm [strv k,pt p3,pt p6,pt p8,strv m,uv,iv us.length,iv ((j+1 : Nat) : Int)],X1):=by
    rw [Ki]
    unfold Qv.l1
    rw [Za Zk,Zb,if_pos (by simpa using hlt),hf]
    refine (hgate _).trans ?_
    rw [Zb,if_neg (by simp),Za ZB,Qi (by omega)]
    rfl
   refine ⟨X2,?_,k2⟩
   rw [ZA hstep]
   exact e2
  ·rw [hb] at hgate
   rw [Bool.true_or]
   refine ⟨X1,?_,hle.trans k1⟩
   rw [if_pos rfl]
   refine QR ?_
   have hfin:=Zh7 (e:=9) h1 h2 ((hle.trans k1) _ _ b3) ((hle.trans k1) _ _ b6) rfl
   have hfo : (bind (ldA 2 (pt p3)) fun v61=>bind (stA 2 (pt p6) v61) fun _=>bind (ldA 2 (pt p6)) fun vr=>ret (Out.ret (Value.tuple #[vr,(Value.int .i64 9)]))) X1=some (.ret (.tuple #[.agg #[uv,gv],iv 9]),X1.set p6 (.cells [uv,gv] 1 false false)):=by
    have d1 : ldA 2 (pt p3) X1=some (.agg #[uv,gv],X1):=ZQ (n:=2) ((hle.trans k1) _ _ b3) rfl
    have w1:=KW (vs:=[uv,gv]) (n:=2) ((hle.trans k1) _ _ b6) rfl rfl (by simp only [List.all_cons,h1,h2];rfl)
    have w1 : stA 2 (pt p6) (.agg #[uv,gv]) X1=_:=w1
    have d2 : ldA 2 (pt p6) (X1.set p6 (.cells [uv,gv] 1 false false))=some (.agg #[uv,gv],_):=ZQ (n:=2) (ZM ((hle.trans k1) _ _ b6)) rfl
    rw [Za d1,Za w1,Za d2]
    rfl
   rw [Ki]
   unfold Qv.l1
   rw [Za Zk,Zb,if_pos (by simpa using hlt),hf]
   refine (hgate _).trans ?_
   rw [Zb,if_pos rfl]
   exact hfo
theorem Zzf (hO : ROK s us) (hP : J3 s) (hk : Zo k=true) (hm : m=[]∨QB m=true) : ZfJ (if QB m then Z7 m else []) k us=decide (Yp k m s.OW≠0):=by
 have hml0 : QB []=false:=by decide
 unfold Yp
 rw [hk,if_pos rfl]
 by_cases hm0 : m=[]
 ·rw [if_pos hm0,hm0,hml0]
  simp [ZfJ]
 ·have hmb:=hm.resolve_left hm0
  rw [if_neg hm0,hmb,if_pos rfl,if_pos rfl]
  have hne:=(ZgZ hmb).1
  rw [Bool.eq_iff_iff,decide_eq_true_eq]
  unfold ZfJ
  rw [List.any_eq_true]
  constructor
  ·rintro ⟨w,hw,hc⟩
   simp only [Bool.and_eq_true,decide_eq_true_eq,beq_iff_eq,Bool.not_eq_true',beq_eq_false_iff_ne] at hc
   have hat:=hO.at hw
   unfold ZK at hat
   cases ha : Ze w.nm s.A with
   | none=>rw [ha] at hat;cases hat
   | some p=>
    rw [ha] at hat
    have hml : w.ml=(Ze w.nm s.OF).getD []:=congrArg (·.2.2.1) (Option.some.inj hat).symm
    cases ho : Ze w.nm s.OF with
    | none=>rw [ho] at hml;rw [hml] at hc;exact absurd hc.1.2.symm hne
    | some q=>
     rw [ho] at hml
     have hq : q=Z7 m:=by rw [← hc.1.2,hml];rfl
     have how:=(hP.x.inv w.nm (Z7 m)).1 (by rw [ho,hq])
     rw [how]
     simp only []
     rw [if_neg hc.2]
     decide
  ·intro hc
   cases how : Ze (Z7 m) s.OW with
   | none=>rw [how] at hc;exact absurd rfl hc
   | some q=>
    rw [how] at hc
    simp only [] at hc
    have hqk : q≠k:=fun e=>by rw [if_pos e] at hc;exact hc rfl
    have hof:=(hP.x.inv q (Z7 m)).2 how
    have hA:=hP.i.ofA q (by rw [hof];rfl)
    obtain ⟨w,hw,he⟩:=KO.1 ((hO.look (Qe s q (ZY q s.A))).2 (by
     show ZK s q=_
     unfold ZK;rw [Zc3 hA];rfl))
    have h1 : w.nm=q:=congrArg (·.1) he
    have h2 : w.ml=Z7 m:=by
     have : w.ml=(Ze q s.OF).getD []:=congrArg (·.2.2.1) he
     rw [this,hof];rfl
    refine ⟨w,hw,?_⟩
    simp [h1,h2,hne,hqk]
theorem Zt7 (hR : RD X uv gv s) (hP : J3 s) : ∃ X' uv',R (n+6) ZaL [.agg #[uv,gv],strv k,strv m] X=some (.tuple #[.agg #[uv',gv],iv (QE k m s)],X')∧RD X' uv' gv (QW k m s)∧HLe X X':=by
 obtain ⟨us,hU,hO⟩:=hR.ex
 obtain ⟨iu,ig⟩:=hR.isSl
 obtain ⟨p3,p6,p8,u,X3,z,b3,b6,b8,k3,l3,l36,l68,ok,lo,hkey⟩:=ZjH (n:=n) (k:=k) hR hP
 have hlen:=hO.len hP.n
 have hfew:=hP.i.few
 have e2 : R (n+5) ZbD [strv m] X3=some (.tuple #[strv (if QB m then Z7 m else []),.bool (QB m)],X3):=ZxI (n:=n+1)
 have f1 : ∀ r X',Qv (R (n+5)) (.agg #[uv,gv]) (strv k) (strv m) X=some (r,X')→R (n+6) ZaL [.agg #[uv,gv],strv k,strv m] X=some (r,X'):=fun r X' hr=>by rw [R,Zob rfl];exact hr
 have hfin:=fun e : Int=>Zh7 (e:=e) hR.oneU hR.oneG b3 b6 rfl
 have hfl : HLe X (X3.set p6 (.cells [uv,gv] 1 false false)):=k3.putB (by omega)
 have hgate : ∀ K : Value→M Value,bind (bop .str .neq (strv m) (Value.string ⟨#[]⟩)) (fun v30=>bind (ZH v30 true 2 (bind (uop .not (.bool (QB m))) fun v33=>ret [.bool (QB m),v33])) (c2 fun _ q=>bind (pick v30 q (Value.bool false)) K)) X3=K (.bool (decide (m≠[]∧QB m=false))) X3:=fun K=>by
  have q0 : bop .str .neq (strv m) (.string ⟨#[]⟩) X3=some (.bool (decide (m≠[])),X3):=by
   have:=WM (a:=m) (b:=[]) (H:=X3)
   rw [show (strv [] : Value)=.string ⟨#[]⟩ from rfl] at this
   rw [this]
   by_cases h : m=[] <;> simp [h]
  rw [Za q0]
  by_cases h : m=[]
  ·rw [decide_eq_false (fun e=>e h),Za (g_r.trans (if_neg (by simp)))]
   simp only [List.replicate]
   rw [Qf,Za Zn,decide_eq_false (fun e=>e.1 h)]
   rfl
  ·rw [decide_eq_true h,Z8,Zp,Za ZF,Qb,Qf,Za Zn]
   cases hm : QB m <;> simp [h]
 cases a1 : Zo k
 ·have hN : Zr k s.A=10:=by unfold Zr;rw [a1];rfl
  have hE : QE k m s=10:=by unfold QE;rw [a1];rfl
  have hn : QW k m s=s:=by unfold QW;rw [if_neg (by rw [hE];decide)]
  have q1 : bop .int .eql (iv 10) (.int .i64 10) X3=some (.bool true,X3):=by rw [ZD];rfl
  rw [hn,hE]
  refine ⟨X3.set p6 (.cells [uv,gv] 1 false false),uv,f1 _ _ ?_,hR.hle hfl,hfl⟩
  unfold Qv
  refine (z _).trans ?_
  rw [Za e2,Za Zt,Za Zs,hN,Za q1,Zb,if_pos rfl]
  exact hfin 10
 ·have hN : Zr k s.A=0∨Zr k s.A=8:=by unfold Zr;rw [a1];cases (Ze k s.A).isSome <;> simp
  have q1 : bop .int .eql (iv (Zr k s.A)) (.int .i64 10) X3=some (.bool false,X3):=by rw [ZD];rcases hN with h1 | h1 <;> rw [h1] <;> rfl
  by_cases hb : m≠[]∧QB m=false
  ·have hE : QE k m s=11:=by unfold QE;rw [a1];simp [hb]
   have hn : QW k m s=s:=by unfold QW;rw [if_neg (by rw [hE];decide)]
   rw [hn,hE]
   refine ⟨X3.set p6 (.cells [uv,gv] 1 false false),uv,f1 _ _ ?_,hR.hle hfl,hfl⟩
   unfold Qv
   refine (z _).trans ?_
   rw [Za e2,Za Zt,Za Zs,Za q1,Zb,if_neg (by simp)]
   refine (hgate _).trans ?_
   rw [decide_eq_true hb,Zb,if_pos rfl]
   exact hfin 11
  ·have hmm : m=[]∨QB m=true:=by
    by_cases h0 : m=[]
    ·exact .inl h0
    ·refine .inr ?_
     cases h5 : QB m
     ·exact absurd ⟨h0,h5⟩ hb
     ·rfl
   cases a3 : (Ze k s.A).isSome
   ·have hN : Zr k s.A=8:=by unfold Zr;rw [a1,a3];rfl
    have hE : QE k m s=8:=by unfold QE;rw [a1,if_pos rfl,if_neg hb,a3];rfl
    have hn : QW k m s=s:=by unfold QW;rw [if_neg (by rw [hE];decide)]
    have q3 : bop .int .neq (iv 8) (.int .i64 0) X3=some (.bool true,X3):=by rw [Zq];rfl
    rw [hn,hE]
    refine ⟨X3.set p6 (.cells [uv,gv] 1 false false),uv,f1 _ _ ?_,hR.hle hfl,hfl⟩
    unfold Qv
    refine (z _).trans ?_
    rw [Za e2,Za Zt,Za Zs,Za q1,Zb,if_neg (by simp)]
    refine (hgate _).trans ?_
    rw [decide_eq_false hb,Zb,if_neg (by simp),hN,Za q3,Zb,if_pos rfl]
    exact hfin 8
   ·have hN : Zr k s.A=0:=by unfold Zr;rw [a1,a3];rfl
    have hE : QE k m s=Yp k m s.OW:=by unfold QE;rw [a1,if_pos rfl,if_neg hb,a3];rfl
    have q3 : bop .int .neq (iv (Zr k s.A)) (.int .i64 0) X3=some (.bool false,X3):=by rw [Zq,hN];rfl
    have hku:=hkey hN
    have hnm : u.nm=k:=congrArg (·.1) hku
    have hU3:=hU.mono k3
    have hlu : Zy uv X3=some (iv us.length,X3):=by have:=hU3.1.len (H':=X3);rwa [List.length_map] at this
    have au : ld1 (pa p3 0) X3=some (uv,X3):=Zv b3 rfl
    obtain ⟨X4,e4,k4⟩:=ZtG (n:=n+5) (m:=if QB m then Z7 m else []) (k:=k) (p8:=p8) (by omega) hU3 hR.oneU hR.oneG b3 b6 us.length 0 X3 (by omega) (by omega) (.refl _)
    rw [List.drop_zero,Zzf hO hP a1 hmm] at e4
    by_cases h0 : Yp k m s.OW=0
    ·rw [if_neg (by simp [h0])] at e4
     have e4 : Zi (c8 (Qv.l1 (R (n+5)))) [strv k,pt p3,pt p6,pt p8,strv (if QB m then Z7 m else []),uv,iv us.length,.int .i64 0] X3=_:=e4
     have he : QE k m s=0:=by rw [hE,h0]
     generalize hm' : (if QB m then Z7 m else [])=m' at e4 e2
     have b38:=k4 _ _ b3
     have b68:=k4 _ _ b6
     have b88:=k4 _ _ b8
     have w8 : st1 (pa p8 2) (strv m') X4=some (undef,X4.set p8 (.cells (Zj.cells { u with ml:=m' }) 1 false false)):=Kk (o:=2) b88 (by simp) rfl
     have k8 : HLe X (X4.set p8 (.cells (Zj.cells { u with ml:=m' }) 1 false false)):=(k3.trans k4).putB (by omega)
     have ok8 : UOK (X4.set p8 (.cells (Zj.cells { u with ml:=m' }) 1 false false)) { u with ml:=m' }:=⟨(ok.hle k4).1.keep fun id hid=>List.getElem?_set_ne (by have:=lo id hid;omega),ok.2⟩
     have c3:=(List.getElem?_set_ne (a:=Zf.cells (Zj.cells { u with ml:=m' }) 1 false false) (show p8≠p3 by omega)).trans b38
     have c6:=(List.getElem?_set_ne (a:=Zf.cells (Zj.cells { u with ml:=m' }) 1 false false) (show p8≠p6 by omega)).trans b68
     have c8':=ZM (b:=Zf.cells (Zj.cells { u with ml:=m' }) 1 false false) b88
     obtain ⟨uv',X5,e5,hU5,hl5⟩:=Ztv (n:=n) (u:={ u with ml:=m' }) (hU.mono k8) (by omega) ok8 ig WS WS c3 c6 c8'
     have hkk : HLe X X5:=hl5 k8 (by omega)
     rw [he]
     refine ⟨X5,uv',f1 _ _ ?_,hR.users hkk hU5 (hO.put (u:={ u with ml:=m' }) ?_ (fun x hx=>?_)) Zww,hkk⟩
     ·unfold Qv
      refine (z _).trans ?_
      rw [Za e2,Za Zt,Za Zs,Za q1,Zb,if_neg (by simp)]
      refine (hgate _).trans ?_
      rw [decide_eq_false hb,Zb,if_neg (by simp),Za q3,Zb,if_neg (by simp),Za Zg,Za au,Za hlu,Z5 e4,ZG,ZJ,Za Zg,Za w8]
      exact e5
     ·rw [Zpb he,if_pos (show u.nm=k from hnm)]
      have h2 : ZI { u with ml:=m' }=(k,(ZI u).2.1,m',(ZI u).2.2.2):=by unfold ZI;rw [hnm]
      rw [h2,hku,hm']
      rfl
     ·rw [Zpb he,if_neg (by rw [← hnm];exact hx)]
    ·rw [if_pos (by simp [h0])] at e4
     have e4 : Zi (c8 (Qv.l1 (R (n+5)))) [strv k,pt p3,pt p6,pt p8,strv (if QB m then Z7 m else []),uv,iv us.length,.int .i64 0] X3=_:=e4
     have hn : QW k m s=s:=by unfold QW;rw [if_neg (by rw [hE];exact h0)]
     have h9 : Yp k m s.OW=9:=by
      unfold Yp at h0 ⊢
      rw [a1,if_pos rfl] at h0 ⊢
      by_cases hm0 : m=[]
      ·rw [if_pos hm0] at h0;exact absurd rfl h0
      ·rw [if_neg hm0,hmm.resolve_left hm0,if_pos rfl] at h0 ⊢
       cases how : Ze (Z7 m) s.OW with
       | none=>rw [how] at h0;exact absurd rfl h0
       | some q=>
        rw [how] at h0
        simp only [] at h0 ⊢
        by_cases hq : q=k
        ·rw [if_pos hq] at h0;exact absurd rfl h0
        ·rw [if_neg hq]
     have hfl4 : HLe X (X4.set p6 (.cells [uv,gv] 1 false false)):=(k3.trans k4).putB (by omega)
     rw [hn,hE,h9]
     refine ⟨X4.set p6 (.cells [uv,gv] 1 false false),uv,f1 _ _ ?_,hR.hle hfl4,hfl4⟩
     unfold Qv
     refine (z _).trans ?_
     rw [Za e2,Za Zt,Za Zs,Za q1,Zb,if_neg (by simp)]
     refine (hgate _).trans ?_
     rw [decide_eq_false hb,Zb,if_neg (by simp),Za q3,Zb,if_neg (by simp),Za Zg,Za au,Za hlu,Yh e4]
     rfl
end
end Go.Proofs.YtedkoimihknggaaGreatDoor.A
namespace Go.Proofs.YtedkoimihknggaaGreatDoor.A
set_option linter.unusedVariables false
set_option linter.unusedSimpArgs false
open Go.Proofs Go.Proofs.YtedkoimihknggaaGreatDoor
section
variable {X X' Y H0 : Zd} {n : Nat} {uv gv v : Value} {us : List Zj} {s s' : NSt} {k h m o t g x : Tx} {u w : Zj} {β : Type} {l : List Tx}
theorem ROK.dropPut (hO : ROK s us) (h1 : ZK s' u.nm=some (ZI u)) (h2 : ZK s' o=none) (h3 : ∀ n,n≠o→n≠u.nm→ZK s' n=ZK s n) : ROK s' (putU u (us.filter fun v=>decide (v.nm≠o))):=by
 refine ⟨ZkB (List.Pairwise.filter _ hO.rise),fun key=>?_⟩
 rw [KO]
 constructor
 ·rintro ⟨v,hv,rfl⟩
  rcases Zcj.1 hv with rfl | ⟨hv,hne⟩
  ·exact h1
  ·obtain ⟨hv,hno⟩:=List.mem_filter.1 hv
   have hno : v.nm≠o:=by simpa using hno
   show ZK s' v.nm=_
   rw [h3 _ hno hne]
   exact hO.at hv
 ·intro hk
  by_cases e : key.1=u.nm
  ·rw [e,h1] at hk
   exact ⟨u,Zcj.2 (.inl rfl),Option.some.inj hk⟩
  ·have eo : key.1≠o:=fun e=>by rw [e,h2] at hk;cases hk
   rw [h3 _ eo e] at hk
   obtain ⟨v,hv,rfl⟩:=KO.1 ((hO.look key).2 hk)
   exact ⟨v,Zcj.2 (.inr ⟨List.mem_filter.2 ⟨hv,decide_eq_true eo⟩,e⟩),rfl⟩
theorem ZuL (hR : RD X uv gv s) (hP : J3 s) : ∃ X' uv',R (n+6) Za7 [.agg #[uv,gv],strv o,strv t] X=some (.tuple #[.agg #[uv',gv],iv (Jp o t s.A)],X')∧RD X' uv' gv (KZ o t s)∧HLe X X':=by
 obtain ⟨us,hU,hO⟩:=hR.ex
 obtain ⟨iu,ig⟩:=hR.isSl
 obtain ⟨p3,p6,p8,u,X3,z,b3,b6,b8,k3,l3,l36,l68,ok,lo,hkey⟩:=ZjH (n:=n) (k:=o) hR hP
 have hlen:=hO.len hP.n
 have hfew:=hP.i.few
 have f1 : ∀ r X',Zcs (R (n+5)) (.agg #[uv,gv]) (strv o) (strv t) X=some (r,X')→R (n+6) Za7 [.agg #[uv,gv],strv o,strv t] X=some (r,X'):=fun r X' hr=>by rw [R,Zpy rfl];exact hr
 have d3 : ldA 2 (pt p3) X3=some (.agg #[uv,gv],X3):=ZQ (n:=2) b3 rfl
 obtain ⟨u2,X4,e4,k4,ok2,_⟩:=Ztw (n:=n+1) (k:=t) (hU.mono k3) hO hP hR.oneG
 have e4 : R (n+5) J7 [.agg #[uv,gv],strv t] X3=_:=e4
 have z5 : ∀ {β : Type} (K : Value→M β),bind (alc 1 zU) (fun q=>bind (stA 5 q (.agg u2.cells.toArray)) fun _=>K q) X4=K (pt X4.length) (X4++[.cells u2.cells 1 false false]):=fun K=>Zao (n:=5) (zs:=[.string ⟨#[]⟩,.string ⟨#[]⟩,.string ⟨#[]⟩,.bool false,.slice none 0 0]) (r:=u2.cells) rfl rfl rfl (Zax ok2.2.1)
 have k5 : HLe X4 (X4++[Zf.cells u2.cells 1 false false]):=.app _ _
 have hz : ∀ {β : Type} (K : Value→Value→M β),bind (ldA 2 (pt p3)) (fun v19=>bind (R (n+5) J7 [v19,strv t]) fun v21=>bind (Zm v21 0) fun v22=>bind (Zm v21 1) fun v23=>bind (alc 1 zU) fun v10=>bind (stA 5 v10 v22) fun _=>K v10 v23) X3=K (pt X4.length) (iv (Zr t s.A)) (X4++[.cells u2.cells 1 false false]):=fun {β} K=>by
  rw [Za d3,Za e4,Za Zt,Za Zs]
  exact z5 (fun q=>K q (iv (Zr t s.A)))
 generalize X4.length=p10 at hz
 generalize X4++[Zf.cells u2.cells 1 false false]=X5 at k5 hz
 have k45:=k4.trans k5
 have c3:=k45 _ _ b3
 have c6:=k45 _ _ b6
 have c8:=k45 _ _ b8
 have kX:=k3.trans k45
 have hfin:=fun e : Int=>Zh7 (e:=e) hR.oneU hR.oneG c3 c6 rfl
 have hfl : HLe X (X5.set p6 (.cells [uv,gv] 1 false false)):=kX.putB (by omega)
 have e10 : ∀ (k : Tx),(Zr k s.A==10)=!Zo k:=fun k=>by
  unfold Zr
  cases Zo k
  ·rfl
  ·cases (Ze k s.A).isSome <;> rfl
 have q1 : bop .int .eql (iv (Zr o s.A)) (.int .i64 10) X5=some (.bool (!Zo o),X5):=by rw [ZD,e10]
 have q2 : bop .int .eql (iv (Zr t s.A)) (.int .i64 10) X5=some (.bool (!Zo t),X5):=by rw [ZD,e10]
 have hgate : ∀ K : Value→M Value,bind (bop .int .eql (iv (Zr o s.A)) (.int .i64 10)) (fun v25=>bind (ZH v25 false 2 (bind (bop .int .eql (iv (Zr t s.A)) (Value.int .i64 10)) fun v28=>ret [iv (Zr t s.A),v28])) (c2 fun _ q=>bind (pick v25 (Value.bool true) q) K)) X5=K (.bool (!(Zo o && Zo t))) X5:=fun K=>by
  rw [Za q1]
  cases Zo o
  ·simp only [Bool.not_false]
   rw [Za (g_r.trans (if_neg (by simp)))]
   simp only [List.replicate]
   rw [Qf,Za Zn]
   rfl
  ·simp only [Bool.not_true]
   rw [Z8,Zp,Za q2,Qb,Qf,Za Zn]
   cases Zo t <;> rfl
 by_cases he : Jp o t s.A=0
 ·obtain ⟨a1,a2,a3,a4,a5⟩:=ZhR he
  have hN1 : Zr o s.A=0:=by unfold Zr;rw [a1,a3];rfl
  have hN2 : Zr t s.A=8:=by unfold Zr;rw [a2,a4];rfl
  have hku:=hkey hN1
  have q3 : bop .int .neq (iv (Zr o s.A)) (.int .i64 0) X5=some (.bool false,X5):=by rw [Zq,hN1];rfl
  have q4 : bop .int .eql (iv (Zr t s.A)) (.int .i64 0) X5=some (.bool false,X5):=by rw [ZD,hN2];rfl
  have w8 : st1 (pa p8 0) (strv t) X5=some (undef,X5.set p8 (.cells (Zj.cells { u with nm:=t }) 1 false false)):=Kk (o:=0) c8 (by simp) rfl
  have k8 : HLe X (X5.set p8 (.cells (Zj.cells { u with nm:=t }) 1 false false)):=kX.putB (by omega)
  have ok8 : UOK (X5.set p8 (.cells (Zj.cells { u with nm:=t }) 1 false false)) { u with nm:=t }:=⟨(ok.hle k45).1.keep fun id hid=>List.getElem?_set_ne (by have:=lo id hid;omega),ok.2⟩
  have d3':=(List.getElem?_set_ne (a:=Zf.cells (Zj.cells { u with nm:=t }) 1 false false) (show p8≠p3 by omega)).trans c3
  have d6':=(List.getElem?_set_ne (a:=Zf.cells (Zj.cells { u with nm:=t }) 1 false false) (show p8≠p6 by omega)).trans c6
  have d8':=ZM (b:=Zf.cells (Zj.cells { u with nm:=t }) 1 false false) c8
  generalize X5.set p8 (.cells (Zj.cells { u with nm:=t }) 1 false false)=X6 at w8 k8 ok8 d3' d6' d8'
  have hU6:=hU.mono k8
  have au : ld1 (pa p3 0) X6=some (uv,X6):=Zv d3' rfl
  have du : ldA 5 (pt p8) X6=some (.agg (Zj.cells { u with nm:=t }).toArray,X6):=ZQ (n:=5) d8' rfl
  obtain ⟨X7,v7,e7,r7,k7⟩:=Zvz (n:=n+4) (k:=o) (by omega) hU6.1 (fun u hu=>(hU.2 u hu).2.1)
  have e7 : R (n+5) ZbC [uv,strv o] X6=_:=e7
  have du7 : ldA 5 (pt p8) X7=some (.agg (Zj.cells { u with nm:=t }).toArray,X7):=ZQ (n:=5) (k7 _ _ d8') rfl
  have hU7 : Qg X7 v7 (us.filter fun v=>decide (v.nm≠o)):=⟨r7,fun u hu=>(hU6.mono k7).2 u (List.mem_filter.1 hu).1⟩
  have hfl' : (us.filter fun v=>decide (v.nm≠o)).length≤us.length:=List.length_filter_le _ _
  obtain ⟨X8,v8,q8,e8,r8,k8',_⟩:=ZsL (n:=n+4) (u:={ u with nm:=t }) ok8.2.1 (by omega) hU7.1 (fun u hu=>(hU7.2 u hu).2.1)
  have e8 : R (n+5) Zat [v7,.agg (Zj.cells { u with nm:=t }).toArray] X7=_:=e8
  have hU8:=hU7.put r8.rd (ok8.hle k7) k8'
  have k78:=k7.trans k8'
  obtain ⟨X9,e9,hU9,hl9,_⟩:=Zwi (e:=0) hU8 ig iu WS WS (show p3≠p6 by omega) (k78 _ _ d3') (k78 _ _ d6')
  have hkk : HLe X X9:=hl9 (k8.trans k78) l3 (by omega)
  rw [he]
  refine ⟨X9,v8,f1 _ _ ?_,hR.users hkk hU9 (hO.dropPut (u:={ u with nm:=t }) ?_ ?_ (fun x hx hx2=>?_)) ZyG,hkk⟩
  ·unfold Zcs
   refine (z _).trans ((hz _).trans ((hgate _).trans ?_))
   rw [a1,a2]
   simp only [Bool.and_self,Bool.not_true]
   rw [Zb,if_neg (by simp),Za q3,Zb,if_neg (by simp),Za q4,Zb,if_neg (by simp),Za Zg,Za w8,Za Zg,Za au,Za du,Za e7,Za du7,ZZ,Za e8]
   exact e9
  ·rw [Zom hP.i he,if_pos (show ({ u with nm:=t } : Zj).nm=t from rfl)]
   have h2 : ZI { u with nm:=t }=(t,(ZI u).2):=rfl
   rw [h2,hku]
   rfl
  ·rw [Zom hP.i he,if_neg a5,if_pos rfl]
  ·rw [Zom hP.i he,if_neg (show ¬ x=t from hx2),if_neg hx]
 ·have hn : KZ o t s=s:=by unfold KZ;rw [if_neg he]
  rw [hn]
  refine ⟨X5.set p6 (.cells [uv,gv] 1 false false),uv,f1 _ _ ?_,hR.hle hfl,hfl⟩
  unfold Zcs
  refine (z _).trans ((hz _).trans ((hgate _).trans ?_))
  cases ab : Zo o && Zo t
  ·have hE : Jp o t s.A=10:=by unfold Jp;rw [ab];rfl
   rw [Zb,if_pos (by rfl),hE]
   exact hfin 10
  ·have ab':=ab
   simp only [Bool.and_eq_true] at ab'
   rw [Zb,if_neg (by simp)]
   cases a3 : (Ze o s.A).isSome
   ·have hN1 : Zr o s.A=8:=by unfold Zr;rw [ab'.1,a3];rfl
    have hE : Jp o t s.A=8:=by unfold Jp;rw [ab,a3];rfl
    have q3 : bop .int .neq (iv 8) (.int .i64 0) X5=some (.bool true,X5):=by rw [Zq];rfl
    rw [hN1,Za q3,Zb,if_pos rfl,hE]
    exact hfin 8
   ·have hN1 : Zr o s.A=0:=by unfold Zr;rw [ab'.1,a3];rfl
    have q3 : bop .int .neq (iv (Zr o s.A)) (.int .i64 0) X5=some (.bool false,X5):=by rw [Zq,hN1];rfl
    have a4 : (Ze t s.A).isSome=true:=by
     unfold Jp at he
     rw [ab,a3] at he
     cases h4 : (Ze t s.A).isSome
     ·rw [h4] at he;simp at he
     ·rfl
    have hN2 : Zr t s.A=0:=by unfold Zr;rw [ab'.2,a4];rfl
    have hE : Jp o t s.A=9:=by unfold Jp;rw [ab,a3,a4];rfl
    have q4 : bop .int .eql (iv (Zr t s.A)) (.int .i64 0) X5=some (.bool true,X5):=by rw [ZD,hN2];rfl
    rw [Za q3,Zb,if_neg (by simp),Za q4,Zb,if_pos rfl,hE]
    exact hfin 9
theorem ZwP {N : List Tx} (hN : Is N (·∈s.K)) (hP : J3 s) : N.length≤6:=by
 rw [Zz3 hN hP.k.nod];exact hP.k.few
def noM : Mem:=fun _ _=>false
theorem ZBV {N : List Tx} (hN : Is N (·∈s.K)) : Zjy N [] s.K noM:=⟨hN,fun k x=>by simp [noM]⟩
theorem ZBt {N : List Tx} {q : List Nat} (h : Zw X gv (N.map strv) q) : RG X gv (.slice none 0 0) N []:=⟨⟨q,h⟩,⟨[],QZ.nil⟩⟩
theorem ZyN (ig : Wv gv) : bld zD [(0,1,gv)] Y=some (.agg #[gv,.slice none 0 0],Y):=by
 obtain ⟨a,n,c,rfl⟩:=ig
 simp [bld,W9,Value.cells,Ks,splice]
theorem Zxp (hR : RD X uv gv s) (hP : J3 s) : ∃ X' gv',R (n+6) ZaO [.agg #[uv,gv],strv g] X=some (.tuple #[.agg #[uv,gv'],iv (Qz g s.K)],X')∧RD X' uv gv' (ZhH g s)∧HLe X X':=by
 obtain ⟨us,hU,hO⟩:=hR.ex
 obtain ⟨q,N,hN,hI⟩:=hR.n
 obtain ⟨iu,ig⟩:=hR.isSl
 obtain ⟨p3,p6,X2,z,b3,b6,k2,l3,l36,l6⟩:=Zin (X:=X) hR.oneU hR.oneG
 have a3 : ld1 (pa p3 1) X2=some (gv,X2):=Zv b3 rfl
 have hfew:=ZwP hI hP
 obtain ⟨X3,nv,N',e3,g3,o3,k3⟩:=ZAz (n:=n) (k:=g) (ZBt (hN.hle k2)) (ZBV hI) hP.k.nod (by omega)
 obtain ⟨qn,hn3⟩:=g3.n
 have inv' : Wv nv:=hn3.isSlc
 have z4 : ∀ {β : Type} (K : Value→M β),bind (alc 1 zD) (fun q=>bind (stA 2 q (.agg #[nv,.slice none 0 0])) fun _=>K q) X3=K (pt X3.length) (X3++[.cells [nv,.slice none 0 0] 1 false false]):=fun K=>Zao (n:=2) (zs:=[.slice none 0 0,.slice none 0 0]) (r:=[nv,.slice none 0 0]) rfl rfl rfl (by simp only [List.all_cons,inv'.one];rfl)
 have k4 : HLe X3 (X3++[Zf.cells [nv,.slice none 0 0] 1 false false]):=.app _ _
 have b4 : (X3++[Zf.cells [nv,.slice none 0 0] 1 false false])[X3.length]?=some (.cells [nv,.slice none 0 0] 1 false false):=ZC
 have hx3:=k3.len
 have hp3:=Ql b3
 generalize X3++[Zf.cells [nv,.slice none 0 0] 1 false false]=X4 at z4 k4 b4
 have k34:=k3.trans k4
 have c3:=k34 _ _ b3
 have c6:=k34 _ _ b6
 have an : ld1 (pa X3.length 0) X4=some (nv,X4):=Zv b4 rfl
 have w3 : st1 (pa p3 1) nv X4=some (undef,X4.set p3 (.cells [uv,nv] 1 false false)):=Kk (o:=1) c3 (by simp) inv'.one
 have c3':=ZM (b:=Zf.cells [uv,nv] 1 false false) c3
 have c6':=(List.getElem?_set_ne (a:=Zf.cells [uv,nv] 1 false false) (show p3≠p6 by omega)).trans c6
 have hf:=Zh7 (e:=Qz g s.K) hR.oneU inv'.one c3' c6' rfl
 have hkk : HLe X ((X4.set p3 (.cells [uv,nv] 1 false false)).set p6 (.cells [uv,nv] 1 false false)):=(((k2.trans k34).putB l3).putB (by omega))
 refine ⟨(X4.set p3 (.cells [uv,nv] 1 false false)).set p6 (.cells [uv,nv] 1 false false),nv,?_,⟨⟨us,hU.mono hkk,hO.same (ZCb hP.k)⟩,⟨qn,N',((hn3.hle k4).setD c3 iu ig).setD c6' WS WS,o3.n⟩⟩,hkk⟩
 rw [R,Zlx rfl]
 unfold Zd7
 rw [z,Za Zg,Za a3,Za (ZyN ig),Za e3,Za Zt,Za Zs,z4,Za Zg,Za an,Za Zg,Za w3]
 exact hf
abbrev Zj.grp (u : Zj) (gv : Value) (gs : List Tx) : Zj:=⟨u.nm,u.hs,u.ml,u.ds,gv,gs⟩
theorem Zrx {z1 z2 : Value} (hn : us.length≤100) (hU : Qg H0 uv us) (hgs : ∀ u∈us,u.gs.length≤6) : ∀ (t j : Nat) (sl : Value) (q : List Nat) (acc : List Zj) (X : Zd),us.length - j=t→j≤us.length→acc.length≤j→HLe H0 X→Zbw H0 X sl acc q→
  ∃ X' sl' q' acc',Zi (c7 (JD.l1 (R (n+1)))) [strv g,z1,z2,sl,uv,iv us.length,iv j] X=some (.ext 0 [z1,z2,sl'],X')∧Zbw H0 X' sl' (acc++acc') q'∧acc'.map ZI=(us.drop j).map (fun u=>(u.nm,u.hs,u.ml,u.ds,u.gs.filter fun x=>decide (x≠g)))∧HLe H0 X'
 | 0,j,sl,q,acc,X,ht,hj,ha,hle,ho=>by
  rw [List.drop_eq_nil_of_le (by omega)]
  refine ⟨X,sl,q,[],ZN ?_,by rw [List.append_nil];exact ho,rfl,hle⟩
  rw [Jj,show j=us.length by omega]
  unfold JD.l1
  rw [Za Zk,Zb,if_neg (by simp)]
  rfl
 | t+1,j,sl,q,acc,X,ht,hj,ha,hle,ho=>by
  have hkl : j < us.length:=by omega
  have hlt : (j : Int) < us.length:=by omega
  have hg:=List.getElem?_eq_getElem hkl
  have hd:=List.drop_eq_getElem_cons hkl
  generalize us[j]=w at hg hd
  have hUX:=hU.mono hle
  have hm:=List.mem_of_getElem? hg
  have hok:=hUX.ok hm
  have h6:=hgs w hm
  have hf:=fun {K : Value→M Out}=>Zed (k:=K) hUX.1 hok.2.1 hg
  have g1 : (X++[Zf.cells w.cells 1 false false])[X.length]?=some (.cells w.cells 1 false false):=ZC
  have k1 : HLe X (X++[Zf.cells w.cells 1 false false]):=.app _ _
  have hq1 : ∀ i∈q,i < X.length:=ho.r.lt
  generalize X++[Zf.cells w.cells 1 false false]=X1 at g1 k1 hf
  have a4 : ld1 (pa X.length 4) X1=some (w.gv,X1):=Zv g1 rfl
  obtain ⟨X2,v2,q2,e2,r2,k2,o2⟩:=Znc (n:=n) (k:=g) (by omega) (UOK.hle hok k1).1
  have g2:=k2 _ _ g1
  have w2 : st1 (pa X.length 4) v2 X2=some (undef,X2.set X.length (.cells (Zj.cells (w.grp v2 (w.gs.filter fun x=>decide (x≠g)))) 1 false false)):=Kk (o:=4) g2 (by simp) r2.one.1
  have g3:=ZM (b:=Zf.cells (Zj.cells (w.grp v2 (w.gs.filter fun x=>decide (x≠g)))) 1 false false) g2
  have hl1:=Ql g1
  have k3 : HLe X (X2.set X.length (.cells (Zj.cells (w.grp v2 (w.gs.filter fun x=>decide (x≠g)))) 1 false false)):=(k1.trans k2).putB (Nat.le_refl _)
  have r3 : Zw (X2.set X.length (.cells (Zj.cells (w.grp v2 (w.gs.filter fun x=>decide (x≠g)))) 1 false false)) v2 ((w.gs.filter fun x=>decide (x≠g)).map strv) q2:=r2.keep fun i hi=>List.getElem?_set_ne (by have:=o2 i hi;omega)
  generalize X2.set X.length (.cells (Zj.cells (w.grp v2 (w.gs.filter fun x=>decide (x≠g)))) 1 false false)=X3 at w2 g3 k3 r3
  have d3 : ldA 5 (pt X.length) X3=some (.agg (Zj.cells (w.grp v2 (w.gs.filter fun x=>decide (x≠g)))).toArray,X3):=ZQ (n:=5) g3 rfl
  have hf6 : (w.gs.filter fun x=>decide (x≠g)).length≤6:=Nat.le_trans (List.length_filter_le _ _) h6
  obtain ⟨y,X4,sl',X5,q',b1,b2,ho5,l5⟩:=(ho.hle k3).push (w:=w.grp v2 (w.gs.filter fun x=>decide (x≠g))) (by omega) r3 (fun i hi=>⟨by have:=o2 i hi;have:=hle.len;omega,fun hm=>by have:=hq1 i hm;have:=o2 i hi;omega⟩) (Nat.le_trans hf6 (by decide)) (fun a ha i hi hm=>by obtain ⟨qa,b1,_,_⟩:=ho.u a ha;have h1:=b1.lt i (b1.own_of hi);have h2:=o2 i hm;omega) (hle.trans k3)
  obtain ⟨X6,sl6,q6,acc6,e6,o6,u6,l6⟩:=Zrx hn hU hgs t (j+1) sl' q' (acc++[w.grp v2 (w.gs.filter fun x=>decide (x≠g))]) X5 (by omega) (by omega) (by rw [List.length_append,List.length_singleton];omega) l5 ho5
  refine ⟨X6,sl6,q6,w.grp v2 (w.gs.filter fun x=>decide (x≠g)) :: acc6,(ZA ?_).trans e6,by rw [List.append_assoc] at o6;exact o6,?_,l6⟩
  ·rw [Jj]
   unfold JD.l1
   rw [Za Zk,Zb,if_pos (by simpa using hlt),hf,Za Zg,Za a4,Za e2,Za Zg,Za w2,Za d3,Za b1,Za b2,Za ZB,Qi (by omega)]
   rfl
  ·rw [hd,List.map_cons,List.map_cons,u6]
   rfl
theorem ROK.gs (hO : ROK s us) (hP : J3 s) (hu : u∈us) : u.gs=ofL u.nm s.K s.mem∧u.gs.length≤6:=by
 have hat:=hO.at hu
 unfold ZK at hat
 cases ha : Ze u.nm s.A with
 | none=>rw [ha] at hat;cases hat
 | some p=>
  rw [ha] at hat
  have h1 : u.gs=ofL u.nm s.K s.mem:=congrArg (·.2.2.2.2) (Option.some.inj hat).symm
  refine ⟨h1,?_⟩
  rw [h1]
  exact Nat.le_trans Zfu hP.k.few
theorem Zyi (hR : RD X uv gv s) (hP : J3 s) : ∃ X' uv' gv',R (n+6) WI [.agg #[uv,gv],strv g] X=some (.tuple #[.agg #[uv',gv'],iv (QP g s.K)],X')∧RD X' uv' gv' (Ze5 g s)∧HLe X X':=by
 obtain ⟨us,hU,hO⟩:=hR.ex
 obtain ⟨q,N,hN,hI⟩:=hR.n
 obtain ⟨iu,ig⟩:=hR.isSl
 obtain ⟨p3,p6,X2,z,b3,b6,k2,l3,l36,l6⟩:=Zin (X:=X) hR.oneU hR.oneG
 have a3 : ld1 (pa p3 1) X2=some (gv,X2):=Zv b3 rfl
 have hfew:=ZwP hI hP
 have hlen:=hO.len hP.n
 have hufew:=hP.i.few
 obtain ⟨X3,nv,mv,N',M',e3,g3,o3,_,k3⟩:=ZAq (n:=n) (k:=g) (ZBt (hN.hle k2)) (ZBV hI) (by omega) (Nat.zero_le _)
 obtain ⟨qn,hn3⟩:=g3.n
 have inv' : Wv nv:=hn3.isSlc
 have z4 : ∀ {β : Type} (K : Value→M β),bind (alc 1 zD) (fun q=>bind (stA 2 q (.agg #[nv,mv])) fun _=>K q) X3=K (pt X3.length) (X3++[.cells [nv,mv] 1 false false]):=fun K=>Zao (n:=2) (zs:=[.slice none 0 0,.slice none 0 0]) (r:=[nv,mv]) rfl rfl rfl g3.one.1
 have k4 : HLe X3 (X3++[Zf.cells [nv,mv] 1 false false]):=.app _ _
 have b4 : (X3++[Zf.cells [nv,mv] 1 false false])[X3.length]?=some (.cells [nv,mv] 1 false false):=ZC
 have hx3:=k3.len
 have hp3:=Ql b3
 generalize X3++[Zf.cells [nv,mv] 1 false false]=X4 at z4 k4 b4
 have k34:=k3.trans k4
 have c3:=k34 _ _ b3
 have c6:=k34 _ _ b6
 have kX:=k2.trans k34
 have f1 : ∀ r X',JD (R (n+5)) (.agg #[uv,gv]) (strv g) X=some (r,X')→R (n+6) WI [.agg #[uv,gv],strv g] X=some (r,X'):=fun r X' hr=>by rw [R,ZlW rfl];exact hr
 by_cases he : QP g s.K=0
 ·have q1 : bop .int .neq (iv (QP g s.K)) (.int .i64 0) X4=some (.bool false,X4):=by rw [Zq,he];rfl
  have an : ld1 (pa X3.length 0) X4=some (nv,X4):=Zv b4 rfl
  have w3 : st1 (pa p3 1) nv X4=some (undef,X4.set p3 (.cells [uv,nv] 1 false false)):=Kk (o:=1) c3 (by simp) inv'.one
  have c3':=ZM (b:=Zf.cells [uv,nv] 1 false false) c3
  have c6':=(List.getElem?_set_ne (a:=Zf.cells [uv,nv] 1 false false) (show p3≠p6 by omega)).trans c6
  have k5 : HLe X (X4.set p3 (.cells [uv,nv] 1 false false)):=kX.putB l3
  have hn5:=(hn3.hle k4).setD (d1:=uv) (d2:=nv) c3 iu ig
  generalize X4.set p3 (.cells [uv,nv] 1 false false)=X5 at w3 c3' c6' k5 hn5
  have au : ld1 (pa p3 0) X5=some (uv,X5):=Zv c3' rfl
  have hU5:=hU.mono k5
  have hlu : Zy uv X5=some (iv us.length,X5):=by have:=hU5.1.len (H':=X5);rwa [List.length_map] at this
  obtain ⟨X6,sl6,q6,acc6,e6,o6,u6,l6'⟩:=Zrx (n:=n+4) (g:=g) (z1:=pt p3) (z2:=pt p6) (by omega) hU5 (fun u hu=>(hO.gs hP hu).2) us.length 0 (.slice none 0 0) [] [] X5 (by omega) (by omega) (Nat.le_refl _) (.refl _) ⟨QZ.nil,by simp,by simp,by simp⟩
  have e6 : Zi (c7 (JD.l1 (R (n+5)))) [strv g,pt p3,pt p6,.slice none 0 0,uv,iv us.length,.int .i64 0] X5=_:=e6
  rw [List.nil_append] at o6
  rw [List.drop_zero] at u6
  obtain ⟨X7,e7,hU7,hl7,hr7⟩:=Zwi (e:=0) (uv:=uv) (gv:=nv) o6.us inv' iu WS WS (show p3≠p6 by omega) (l6' _ _ c3') (l6' _ _ c6')
  have hkk : HLe X X7:=hl7 (k5.trans l6') l3 (by omega)
  have hO' : ROK (Ze5 g s) acc6:=by
   refine ⟨?_,fun key=>?_⟩
   ·have h1 : acc6.map (·.nm)=us.map (·.nm):=by
     have h2:=congrArg (List.map (fun k : Kp=>k.1)) u6
     rw [List.map_map,List.map_map] at h2
     exact h2
    have h3:=hO.rise
    unfold ZdR at h3 ⊢
    rw [← List.pairwise_map (f:=fun u : Zj=>u.nm) (R:=fun a b=>a < b)] at h3 ⊢
    rw [h1];exact h3
   ·rw [u6,ZBF hP.k he]
    rw [List.mem_map]
    constructor
    ·rintro ⟨w,hw,rfl⟩
     show (ZK s w.nm).map _=_
     rw [hO.at hw]
     rfl
    ·intro hk
     cases hf : ZK s key.1 with
     | none=>rw [hf] at hk;cases hk
     | some k0=>
      rw [hf] at hk
      have hk0:=ZrA hf
      obtain ⟨w,hw,hwk⟩:=KO.1 ((hO.look k0).2 (by rw [hk0];exact hf))
      refine ⟨w,hw,?_⟩
      have hk:=Option.some.inj hk
      rw [← hk,← hwk]
      rfl
  have hgv : Zw X7 nv (N'.map strv) qn:=hr7 (hn5.hle l6')
  rw [he]
  refine ⟨X7,sl6,nv,f1 _ _ ?_,⟨⟨acc6,hU7,hO'⟩,⟨qn,N',hgv,?_⟩⟩,hkk⟩
  ·unfold JD
   rw [z,Za Zg,Za a3,Za (ZyN ig),Za e3,Za Zt,Za Zs,z4,Za q1,Zb,if_neg (by simp),Za Zg,Za an,Za Zg,Za w3,Za Zg,Za au,Za hlu,Z5 e6,ZG,ZU]
   exact e7
  ·have h1:=o3.n
   exact h1
 ·have q1 : bop .int .neq (iv (QP g s.K)) (.int .i64 0) X4=some (.bool true,X4):=by rw [Zq];simp [he]
  have hn : Ze5 g s=s:=by
   unfold Ze5 ZbL
   rw [if_neg he,if_neg he]
  have hfin:=Zh7 (e:=QP g s.K) hR.oneU hR.oneG c3 c6 rfl
  have hfl : HLe X (X4.set p6 (.cells [uv,gv] 1 false false)):=kX.putB (by omega)
  rw [hn]
  refine ⟨X4.set p6 (.cells [uv,gv] 1 false false),uv,gv,f1 _ _ ?_,hR.hle hfl,hfl⟩
  unfold JD
  rw [z,Za Zg,Za a3,Za (ZyN ig),Za e3,Za Zt,Za Zs,z4,Za q1,Zb,if_pos rfl]
  exact hfin
end
end Go.Proofs.YtedkoimihknggaaGreatDoor.A
namespace Go.Proofs.YtedkoimihknggaaGreatDoor.A
set_option linter.unusedVariables false
set_option linter.unusedSimpArgs false
open Go.Proofs Go.Proofs.YtedkoimihknggaaGreatDoor
section
variable {X X' Y H0 : Zd} {n : Nat} {uv gv v : Value} {us : List Zj} {s s' : NSt} {k h m o t g x : Tx} {u w : Zj} {β : Type} {l : List Tx}
def YY (g k : Tx) (s : NSt) : Int:=if !(Zo g && Zo k) then 10 else if (Ze k s.A).isNone || decide (g∉s.K) then 8 else 0
theorem Zjx : Kl g k s=if YY g k s=0 then (if s.mem g k then 9 else 0) else YY g k s:=by
 unfold Kl JJ W0 QS YY Zr
 cases h1 : Zo g <;> cases h2 : Zo k <;> cases h3 : Ze k s.A <;> by_cases h4 : g∈s.K <;> simp [h1,h2,h3,h4]
theorem Zh3 : YG g k s=if YY g k s=0 then (if s.mem g k then 0 else 12) else YY g k s:=by
 unfold YG JJ Zbz QS YY Zr
 cases h1 : Zo g <;> cases h2 : Zo k <;> cases h3 : Ze k s.A <;> by_cases h4 : g∈s.K <;> simp [h1,h2,h3,h4]
theorem ZqW (h : YY g k s=0) : Zr k s.A=0∧g∈s.K:=by
 unfold YY at h
 unfold Zr
 cases h1 : Zo g <;> cases h2 : Zo k <;> cases h3 : Ze k s.A <;> by_cases h4 : g∈s.K <;> simp [h1,h2,h3,h4] at h ⊢
theorem ZwN (hR : RD X uv gv s) (hP : J3 s) : ∃ u X',R (n+5) Zbd [.agg #[uv,gv],strv g,strv k] X=some (.tuple #[.agg u.cells.toArray,iv (YY g k s)],X')∧HLe X X'∧UOK X' u∧(YY g k s=0→ZI u=Qe s k (ZY k s.A)):=by
 obtain ⟨us,hU,hO⟩:=hR.ex
 obtain ⟨q,N,hN,hI⟩:=hR.n
 have hfew:=ZwP hI hP
 have z1 : alc 1 (.agg #[uv,gv]) X=some (pt X.length,X++[.cells [uv,gv] 1 false false]):=K4 (vs:=[uv,gv]) (by simp only [List.all_cons,hR.oneU,hR.oneG];rfl)
 have z2 : alc 1 zU (X++[.cells [uv,gv] 1 false false])=some (pt (X++[Zf.cells [uv,gv] 1 false false]).length,X++[.cells [uv,gv] 1 false false]++[.cells (usr ([],[])) 1 false false]):=K4 (vs:=usr ([],[])) rfl
 have k2 : HLe X (X++[Zf.cells [uv,gv] 1 false false]++[Zf.cells (usr ([],[])) 1 false false]):=(HLe.app _ _).trans (.app _ _)
 have b1 : (X++[Zf.cells [uv,gv] 1 false false]++[Zf.cells (usr ([],[])) 1 false false])[X.length]?=some (.cells [uv,gv] 1 false false):=Zk6
 have b2 : (X++[Zf.cells [uv,gv] 1 false false]++[Zf.cells (usr ([],[])) 1 false false])[(X++[Zf.cells [uv,gv] 1 false false]).length]?=some (.cells (usr ([],[])) 1 false false):=ZC
 have hp : X.length < (X++[Zf.cells [uv,gv] 1 false false]).length:=by simp
 generalize X++[Zf.cells [uv,gv] 1 false false]++[Zf.cells (usr ([],[])) 1 false false]=X2 at z2 k2 b1 b2
 generalize (X++[Zf.cells [uv,gv] 1 false false]).length=p2 at z2 b2 hp
 have d1 : ldA 2 (pt X.length) X2=some (.agg #[uv,gv],X2):=ZQ (n:=2) b1 rfl
 obtain ⟨u,X3,e3,k3,ok,hk,hin,_⟩:=Zra (n:=n) (k:=k) (hU.mono k2) hO hP hR.oneG
 have z8 : ∀ {β : Type} (K : Value→M β),bind (alc 1 zU) (fun q=>bind (stA 5 q (.agg u.cells.toArray)) fun _=>K q) X3=K (pt X3.length) (X3++[.cells u.cells 1 false false]):=fun K=>Zao (n:=5) (zs:=[.string ⟨#[]⟩,.string ⟨#[]⟩,.string ⟨#[]⟩,.bool false,.slice none 0 0]) (r:=u.cells) rfl rfl rfl (Zax ok.2.1)
 have k4 : HLe X3 (X3++[Zf.cells u.cells 1 false false]):=.app _ _
 have b8 : (X3++[Zf.cells u.cells 1 false false])[X3.length]?=some (.cells u.cells 1 false false):=ZC
 have hx3:=k3.len
 have lp2:=Ql b2
 generalize X3++[Zf.cells u.cells 1 false false]=X4 at z8 k4 b8
 generalize X3.length=p8 at z8 b8 hx3
 have k34:=k3.trans k4
 have c1:=k34 _ _ b1
 have c2':=k34 _ _ b2
 have ok4:=ok.hle k4
 have e5 : R (n+4) QL [strv g] X4=some (.bool (Zo g),X4):=Zce
 have ag : ld1 (pa X.length 1) X4=some (gv,X4):=Zv c1 rfl
 have hNm:=(hN.hle (k2.trans k34)).rd
 have eh:=Zq1 (n:=n+3) (x:=g) (l:=N) (by omega) hNm
 have eh : R (n+4) Wa [gv,strv g] X4=_:=eh
 have hmem : (decide (g∈N))=decide (g∈s.K):=by simp [hI.mem]
 have fin : ∀ e : Int,(bind (ldA 5 (pt p8)) fun v33=>bind (stA 5 (pt p2) v33) fun _=>bind (ldA 5 (pt p2)) fun vr=>ret (Value.tuple #[vr,iv e])) X4=some (.tuple #[.agg u.cells.toArray,iv e],X4.set p2 (.cells u.cells 1 false false)):=fun e=>by
  have d8 : ldA 5 (pt p8) X4=some (.agg u.cells.toArray,X4):=ZQ (n:=5) b8 rfl
  have w1:=KW (vs:=u.cells) (n:=5) c2' rfl rfl (Zax ok.2.1)
  have d2 : ldA 5 (pt p2) (X4.set p2 (.cells u.cells 1 false false))=some (.agg u.cells.toArray,_):=ZQ (n:=5) (ZM c2') rfl
  rw [Za d8,Za w1,Za d2]
  rfl
 have kX : HLe X (X4.set p2 (.cells u.cells 1 false false)):=(k2.trans k34).putB (by omega)
 refine ⟨u,X4.set p2 (.cells u.cells 1 false false),?_,kX,?_,fun he=>hk (ZqW he).1⟩
 ·rw [R,Zpu rfl]
  unfold Zgg
  rw [Za z1,Za z2,Za d1,Za e3,Za Zt,Za Zs]
  refine (z8 _).trans ?_
  have q10 : bop .int .eql (iv (Zr k s.A)) (.int .i64 10) X4=some (.bool (!Zo k),X4):=by
   rw [ZD]
   unfold Zr
   cases Zo k
   ·rfl
   ·cases (Ze k s.A).isSome <;> rfl
  rw [Za q10]
  have hgate : ∀ K : Value→M Value,bind (ZH (.bool (!Zo k)) false 3 (bind (R (n+4) QL [strv g]) fun v20=>bind (uop .not v20) fun v21=>ret [strv g,v20,v21])) (c3 fun _ _ q=>bind (pick (.bool (!Zo k)) (Value.bool true) q) K) X4=K (.bool (!(Zo g && Zo k))) X4:=fun K=>by
   cases Zo k
   ·simp only [Bool.not_false]
    rw [Za (g_r.trans (if_neg (by simp)))]
    simp only [List.replicate]
    rw [ZU,Za Zn,Bool.and_false]
    rfl
   ·simp only [Bool.not_true]
    rw [Z8,Zp,Za e5,Zp,Za ZF,Qb,ZU,Za Zn,Bool.and_true]
    rfl
  refine (hgate _).trans ?_
  cases hb : Zo g && Zo k
  ·have hE : YY g k s=10:=by unfold YY;rw [hb];rfl
   rw [Zb,if_pos (by rfl),hE]
   exact fin 10
  ·rw [Zb,if_neg (by simp)]
   have hb':=hb
   simp only [Bool.and_eq_true] at hb'
   have q0 : bop .int .neq (iv (Zr k s.A)) (.int .i64 0) X4=some (.bool (Ze k s.A).isNone,X4):=by
    rw [Zq]
    unfold Zr
    rw [hb'.2]
    cases Ze k s.A <;> rfl
   rw [Za q0]
   have hgate2 : ∀ K : Value→M Value,bind (ZH (.bool (Ze k s.A).isNone) false 5 (bind (fa 1 (pt X.length)) fun v27=>bind (ld1 v27) fun v28=>bind (R (n+4) Wa [v28,strv g]) fun v30=>bind (uop .not v30) fun v31=>ret [v27,v28,strv g,v30,v31])) (c5 fun _ _ _ _ q=>bind (pick (.bool (Ze k s.A).isNone) (Value.bool true) q) K) X4=K (.bool ((Ze k s.A).isNone || decide (g∉s.K))) X4:=fun K=>by
    cases (Ze k s.A).isNone
    ·rw [Z8,Zp,Za Zg,Zp,Za ag,Zp,Za eh,Zp,Za ZF,Qb,Qs,Za Zn,hmem]
     simp only [cond_false,Bool.false_or,decide_not]
    ·rw [Za (g_r.trans (if_neg (by simp)))]
     simp only [List.replicate]
     rw [Qs,Za Zn]
     rfl
   refine (hgate2 _).trans ?_
   cases h8 : (Ze k s.A).isNone || decide (g∉s.K)
   ·have hE : YY g k s=0:=by unfold YY;rw [hb,h8];rfl
    rw [Zb,if_neg (by simp),hE]
    exact fin 0
   ·have hE : YY g k s=8:=by unfold YY;rw [hb,h8];rfl
    rw [Zb,if_pos (by rfl),hE]
    exact fin 8
 ·rcases hin with rfl | hin
  ·exact ⟨Sl.nil,rfl,Nat.zero_le _⟩
  ·exact (hU.mono kX).ok hin
theorem ZpQ (hR : RD X uv gv s) (hP : J3 s) : ∃ p3 p6 p8 u X',(∀ {β : Type} (K : Value→Value→Value→Value→M β),bind (alc 1 (.agg #[uv,gv])) (fun v3=>bind (alc 1 zD) fun v6=>bind (ldA 2 v3) fun v11=>bind (R (n+5) Zbd [v11,strv g,strv k]) fun v13=>bind (Zm v13 0) fun v14=>bind (Zm v13 1) fun v15=>bind (alc 1 zU) fun v8=>bind (stA 5 v8 v14) fun _=>K v3 v6 v8 v15) X=K (pt p3) (pt p6) (pt p8) (iv (YY g k s)) X')∧
  X'[p3]?=some (.cells [uv,gv] 1 false false)∧X'[p6]?=some (.cells [.slice none 0 0,.slice none 0 0] 1 false false)∧X'[p8]?=some (.cells u.cells 1 false false)∧HLe X X'∧X.length≤p3∧p3 < p6∧p6 < p8∧UOK X' u∧(∀ id,own1 u.gv=some id→id < p8)∧(YY g k s=0→ZI u=Qe s k (ZY k s.A)):=by
 obtain ⟨p3,p6,X2,z,b3,b6,k2,l3,l36,l6⟩:=Zin (X:=X) hR.oneU hR.oneG
 have d3 : ldA 2 (pt p3) X2=some (.agg #[uv,gv],X2):=ZQ (n:=2) b3 rfl
 obtain ⟨u,X3,e3,k3,ok,hk⟩:=ZwN (n:=n) (g:=g) (k:=k) (hR.hle k2) hP
 have z8 : ∀ {β : Type} (K : Value→M β),bind (alc 1 zU) (fun q=>bind (stA 5 q (.agg u.cells.toArray)) fun _=>K q) X3=K (pt X3.length) (X3++[.cells u.cells 1 false false]):=fun K=>Zao (n:=5) (zs:=[.string ⟨#[]⟩,.string ⟨#[]⟩,.string ⟨#[]⟩,.bool false,.slice none 0 0]) (r:=u.cells) rfl rfl rfl (Zax ok.2.1)
 have k4 : HLe X3 (X3++[Zf.cells u.cells 1 false false]):=.app _ _
 have hx3:=k3.len
 refine ⟨p3,p6,X3.length,u,X3++[.cells u.cells 1 false false],fun {β} K=>?_,k4 _ _ (k3 _ _ b3),k4 _ _ (k3 _ _ b6),ZC,(k2.trans k3).trans k4,l3,l36,by omega,ok.hle k4,fun id hid=>ok.1.ltO hid,hk⟩
 rw [z,Za d3,Za e3,Za Zt,Za Zs]
 exact z8 _
theorem ZwO (hR : RD X uv gv s) (hP : J3 s) : ∃ X' uv',R (n+6) Zb2 [.agg #[uv,gv],strv g,strv k] X=some (.tuple #[.agg #[uv',gv],iv (YG g k s)],X')∧RD X' uv' gv (Wc g k s)∧HLe X X':=by
 obtain ⟨us,hU,hO⟩:=hR.ex
 obtain ⟨iu,ig⟩:=hR.isSl
 obtain ⟨p3,p6,p8,u,X3,z,b3,b6,b8,k3,l3,l36,l68,ok,lo,hkey⟩:=ZpQ (n:=n) (g:=g) (k:=k) hR hP
 have hlen:=hO.len hP.n
 have hfew:=hP.i.few
 have f1 : ∀ r X',ZbR (R (n+5)) (.agg #[uv,gv]) (strv g) (strv k) X=some (r,X')→R (n+6) Zb2 [.agg #[uv,gv],strv g,strv k] X=some (r,X'):=fun r X' hr=>by rw [R,ZqY rfl];exact hr
 have a4 : ld1 (pa p8 4) X3=some (u.gv,X3):=Zv b8 rfl
 have hfin:=fun e : Int=>Zh7 (e:=e) hR.oneU hR.oneG b3 b6 rfl
 have hfl : HLe X (X3.set p6 (.cells [uv,gv] 1 false false)):=k3.putB (by omega)
 have q0 : bop .int .neq (iv (YY g k s)) (.int .i64 0) X3=some (.bool (decide (YY g k s≠0)),X3):=by
  rw [Zq]
  by_cases h : YY g k s=0
  ·rw [h];rfl
  ·rw [decide_eq_true h];simp [h]
 have eh:=Zq1 (n:=n+4) (x:=g) (l:=u.gs) (by have:=ok.2.2;omega) ok.1
 have eh : R (n+5) Wa [u.gv,strv g] X3=_:=eh
 by_cases hE0 : YY g k s=0
 ·have hku:=hkey hE0
  have hgs : u.gs=ofL k s.K s.mem:=congrArg (·.2.2.2.2) hku
  have hin : decide (g∈u.gs)=s.mem g k:=by
   rw [hgs,Bool.eq_iff_iff,decide_eq_true_eq,Zcr]
   exact ⟨fun h=>h.2,fun h=>⟨(ZqW hE0).2,h⟩⟩
  rw [decide_eq_false (by simpa using hE0)] at q0
  by_cases he : s.mem g k=true
  ·have hL : YG g k s=0:=by rw [Zh3,if_pos hE0,if_pos he]
   have hgl : u.gs.length≤6:=by rw [hgs];exact Nat.le_trans Zfu hP.k.few
   obtain ⟨X4,v4,q4,e4,r4,k4,o4⟩:=Znc (n:=n+4) (k:=g) (by omega) ok.1
   have e4 : R (n+5) ZaF [u.gv,strv g] X3=_:=e4
   have c8:=k4 _ _ b8
   have l8:=Ql b8
   have w8 : st1 (pa p8 4) v4 X4=some (undef,X4.set p8 (.cells (Zj.cells (u.grp v4 (u.gs.filter fun x=>decide (x≠g)))) 1 false false)):=Kk (o:=4) c8 (by simp) r4.one.1
   have k8 : HLe X (X4.set p8 (.cells (Zj.cells (u.grp v4 (u.gs.filter fun x=>decide (x≠g)))) 1 false false)):=(k3.trans k4).putB (by omega)
   have r8 : Zw (X4.set p8 (.cells (Zj.cells (u.grp v4 (u.gs.filter fun x=>decide (x≠g)))) 1 false false)) v4 ((u.gs.filter fun x=>decide (x≠g)).map strv) q4:=r4.keep fun i hi=>List.getElem?_set_ne (by have:=o4 i hi;omega)
   have ok8 : UOK (X4.set p8 (.cells (Zj.cells (u.grp v4 (u.gs.filter fun x=>decide (x≠g)))) 1 false false)) (u.grp v4 (u.gs.filter fun x=>decide (x≠g))):=⟨r8.rd,r8.one.1,Nat.le_trans (List.length_filter_le _ _) ok.2.2⟩
   have c3:=(List.getElem?_set_ne (a:=Zf.cells (Zj.cells (u.grp v4 (u.gs.filter fun x=>decide (x≠g)))) 1 false false) (show p8≠p3 by omega)).trans (k4 _ _ b3)
   have c6:=(List.getElem?_set_ne (a:=Zf.cells (Zj.cells (u.grp v4 (u.gs.filter fun x=>decide (x≠g)))) 1 false false) (show p8≠p6 by omega)).trans (k4 _ _ b6)
   have c8':=ZM (b:=Zf.cells (Zj.cells (u.grp v4 (u.gs.filter fun x=>decide (x≠g)))) 1 false false) c8
   obtain ⟨uv',X5,e5,hU5,hl5⟩:=Ztv (n:=n) (u:=u.grp v4 (u.gs.filter fun x=>decide (x≠g))) (hU.mono k8) (by omega) ok8 ig WS WS c3 c6 c8'
   have hkk : HLe X X5:=hl5 k8 (by omega)
   have hnm : u.nm=k:=congrArg (·.1) hku
   have hku2 : ZI (u.grp v4 (u.gs.filter fun x=>decide (x≠g)))=((ZI u).1,(ZI u).2.1,(ZI u).2.2.1,(ZI u).2.2.2.1,u.gs.filter fun x=>decide (x≠g)):=rfl
   rw [hL]
   refine ⟨X5,uv',f1 _ _ ?_,hR.users hkk hU5 (hO.put (u:=u.grp v4 (u.gs.filter fun x=>decide (x≠g))) ?_ (fun x hx=>?_)) ZyU,hkk⟩
   ·unfold ZbR
    refine (z _).trans ?_
    rw [hin,he] at eh
    rw [Za q0,Zb,if_neg (by simp),Za Zg,Za a4,Za eh,Za ZF,Zb,if_neg (by simp),Za Zg,Za a4,Za e4,Za Zg,Za w8]
    exact e5
   ·rw [Zv7 hP.k hL,if_pos (show u.nm=k from hnm),hku2,hku,hgs]
    rfl
   ·rw [Zv7 hP.k hL,if_neg (by rw [← hnm];exact hx)]
  ·have he : s.mem g k=false:=by simpa using he
   have hL : YG g k s=12:=by rw [Zh3,if_pos hE0,if_neg (by rw [he];simp)]
   have hn : Wc g k s=s:=by unfold Wc;rw [if_neg (by rw [hL];decide)]
   rw [hL,hn]
   refine ⟨X3.set p6 (.cells [uv,gv] 1 false false),uv,f1 _ _ ?_,hR.hle hfl,hfl⟩
   unfold ZbR
   refine (z _).trans ?_
   rw [hin,he] at eh
   rw [Za q0,Zb,if_neg (by simp),Za Zg,Za a4,Za eh,Za ZF,Zb,if_pos (by rfl)]
   exact hfin 12
 ·have hL : YG g k s=YY g k s:=by rw [Zh3,if_neg hE0]
  have hn : Wc g k s=s:=by unfold Wc;rw [if_neg (by rw [hL];exact hE0)]
  rw [hL,hn]
  rw [decide_eq_true hE0] at q0
  refine ⟨X3.set p6 (.cells [uv,gv] 1 false false),uv,f1 _ _ ?_,hR.hle hfl,hfl⟩
  unfold ZbR
  refine (z _).trans ?_
  rw [Za q0,Zb,if_pos rfl]
  exact hfin _
theorem Zyp (hR : RD X uv gv s) (hP : J3 s) : ∃ X' uv',R (n+6) Zcw [.agg #[uv,gv],strv g,strv k] X=some (.tuple #[.agg #[uv',gv],iv (Kl g k s)],X')∧RD X' uv' gv (Zaq g k s)∧HLe X X':=by
 obtain ⟨us,hU,hO⟩:=hR.ex
 obtain ⟨iu,ig⟩:=hR.isSl
 obtain ⟨p3,p6,p8,u,X3,z,b3,b6,b8,k3,l3,l36,l68,ok,lo,hkey⟩:=ZpQ (n:=n) (g:=g) (k:=k) hR hP
 have hlen:=hO.len hP.n
 have hfew:=hP.i.few
 have f1 : ∀ r X',Zcz (R (n+5)) (.agg #[uv,gv]) (strv g) (strv k) X=some (r,X')→R (n+6) Zcw [.agg #[uv,gv],strv g,strv k] X=some (r,X'):=fun r X' hr=>by rw [R,Zsd rfl];exact hr
 have a4 : ld1 (pa p8 4) X3=some (u.gv,X3):=Zv b8 rfl
 have hfin:=fun e : Int=>Zh7 (e:=e) hR.oneU hR.oneG b3 b6 rfl
 have hfl : HLe X (X3.set p6 (.cells [uv,gv] 1 false false)):=k3.putB (by omega)
 have q0 : bop .int .neq (iv (YY g k s)) (.int .i64 0) X3=some (.bool (decide (YY g k s≠0)),X3):=by
  rw [Zq]
  by_cases h : YY g k s=0
  ·rw [h];rfl
  ·rw [decide_eq_true h];simp [h]
 have eh:=Zq1 (n:=n+4) (x:=g) (l:=u.gs) (by have:=ok.2.2;omega) ok.1
 have eh : R (n+5) Wa [u.gv,strv g] X3=_:=eh
 by_cases hE0 : YY g k s=0
 ·have hku:=hkey hE0
  have hgs : u.gs=ofL k s.K s.mem:=congrArg (·.2.2.2.2) hku
  have hin : decide (g∈u.gs)=s.mem g k:=by
   rw [hgs,Bool.eq_iff_iff,decide_eq_true_eq,Zcr]
   exact ⟨fun h=>h.2,fun h=>⟨(ZqW hE0).2,h⟩⟩
  rw [decide_eq_false (by simpa using hE0)] at q0
  by_cases he : s.mem g k=false
  ·have hL : Kl g k s=0:=by rw [Zjx,if_pos hE0,if_neg (by rw [he];simp)]
   have hgl : u.gs.length≤6:=by rw [hgs];exact Nat.le_trans Zfu hP.k.few
   have l8:=Ql b8
   have z0 : bsl 1 0 (.string ⟨#[]⟩) [] X3=some (.slice (some ⟨X3.length,0,none⟩) 0 0,X3++[.cells [] 1 false false]):=ZyX
   have g0 : (X3++[Zf.cells [] 1 false false])[X3.length]?=some (.cells [] 1 false false):=ZC
   have j0 : HLe X3 (X3++[Zf.cells [] 1 false false]):=.app _ _
   have hl0 : (X3++[Zf.cells [] 1 false false]).length=X3.length+1:=by simp
   generalize X3++[Zf.cells [] 1 false false]=Y0 at z0 g0 j0 hl0
   obtain ⟨sl1,Y1,o1,x1,r1,j1,ho1⟩:=ZsQ (b:=16) (ok.1.mono j0) (by simp;omega) (by simp;omega) (s:=.slice (some ⟨X3.length,0,none⟩) 0 0) (.inr ⟨X3.length,false,rfl,g0,rfl⟩)
   have ho1' : ∀ j∈o1,X3.length≤j:=fun j hj=>by
    rcases ho1 j hj with h | ⟨_,h⟩
    ·omega
    ·cases h;exact Nat.le_refl _
   obtain ⟨w,Y2,sl2,Y3,o3,x2,x3,r3,j3,ho3,_⟩:=Zhv (u:=g) (H0:=X3) r1 (by omega) ho1' (j0.trans j1)
   obtain ⟨Y4,v4,q4,l4,e4,r4,is4,le4,k4,o4⟩:=Zt6 (n:=n+3) (l:=u.gs++[g]) (by rw [List.length_append,List.length_singleton];omega) r3.rd
   have e4 : R (n+5) W8 [sl2] Y3=_:=e4
   have a41 : ld1 (pa p8 4) Y0=some (u.gv,Y0):=Zv (j0 _ _ b8) rfl
   have k34 : HLe X3 Y4:=j3.trans k4
   have hy3:=j3.len
   have c8:=k34 _ _ b8
   have w8 : st1 (pa p8 4) v4 Y4=some (undef,Y4.set p8 (.cells (Zj.cells (u.grp v4 l4)) 1 false false)):=Kk (o:=4) c8 (by simp) r4.one.1
   have k8 : HLe X (Y4.set p8 (.cells (Zj.cells (u.grp v4 l4)) 1 false false)):=(k3.trans k34).putB (by omega)
   have r8 : Zw (Y4.set p8 (.cells (Zj.cells (u.grp v4 l4)) 1 false false)) v4 (l4.map strv) q4:=r4.keep fun i hi=>List.getElem?_set_ne (by have:=o4 i hi;omega)
   have ok8 : UOK (Y4.set p8 (.cells (Zj.cells (u.grp v4 l4)) 1 false false)) (u.grp v4 l4):=⟨r8.rd,r8.one.1,by rw [List.length_append,List.length_singleton] at le4;show l4.length≤_;omega⟩
   have c3:=(List.getElem?_set_ne (a:=Zf.cells (Zj.cells (u.grp v4 l4)) 1 false false) (show p8≠p3 by omega)).trans (k34 _ _ b3)
   have c6:=(List.getElem?_set_ne (a:=Zf.cells (Zj.cells (u.grp v4 l4)) 1 false false) (show p8≠p6 by omega)).trans (k34 _ _ b6)
   have c8':=ZM (b:=Zf.cells (Zj.cells (u.grp v4 l4)) 1 false false) c8
   obtain ⟨uv',X5,e5,hU5,hl5⟩:=Ztv (n:=n) (u:=u.grp v4 l4) (hU.mono k8) (by omega) ok8 ig WS WS c3 c6 c8'
   have hkk : HLe X X5:=hl5 k8 (by omega)
   have hnm : u.nm=k:=congrArg (·.1) hku
   have hku2 : ZI (u.grp v4 l4)=((ZI u).1,(ZI u).2.1,(ZI u).2.2.1,(ZI u).2.2.2.1,l4):=rfl
   rw [hgs] at is4
   rw [hL]
   refine ⟨X5,uv',f1 _ _ ?_,hR.users hkk hU5 (hO.put (u:=u.grp v4 l4) ?_ (fun x hx=>?_)) ZAl,hkk⟩
   ·unfold Zcz
    refine (z _).trans ?_
    rw [hin,he] at eh
    rw [Za q0,Zb,if_neg (by simp),Za Zg,Za a4,Za eh,Zb,if_neg (by simp),Za z0,Za Zg,Za a41,Za x1,Za x2,Za x3,Za e4,Za Zg,Za w8]
    exact e5
   ·rw [ZxJ hP.k hL is4,if_pos (show u.nm=k from hnm),hku2,hku]
    rfl
   ·rw [ZxJ hP.k hL is4,if_neg (by rw [← hnm];exact hx)]
  ·have he : s.mem g k=true:=by simpa using he
   have hL : Kl g k s=9:=by rw [Zjx,if_pos hE0,if_pos he]
   have hn : Zaq g k s=s:=by unfold Zaq;rw [if_neg (by rw [hL];decide)]
   rw [hL,hn]
   refine ⟨X3.set p6 (.cells [uv,gv] 1 false false),uv,f1 _ _ ?_,hR.hle hfl,hfl⟩
   unfold Zcz
   refine (z _).trans ?_
   rw [hin,he] at eh
   rw [Za q0,Zb,if_neg (by simp),Za Zg,Za a4,Za eh,Zb,if_pos rfl]
   exact hfin 9
 ·have hL : Kl g k s=YY g k s:=by rw [Zjx,if_neg hE0]
  have hn : Zaq g k s=s:=by unfold Zaq;rw [if_neg (by rw [hL];exact hE0)]
  rw [hL,hn]
  rw [decide_eq_true hE0] at q0
  refine ⟨X3.set p6 (.cells [uv,gv] 1 false false),uv,f1 _ _ ?_,hR.hle hfl,hfl⟩
  unfold Zcz
  refine (z _).trans ?_
  rw [Za q0,Zb,if_pos rfl]
  exact hfin _
end
end Go.Proofs.YtedkoimihknggaaGreatDoor.A

namespace Go.Proofs.YtedkoimihknggaaGreatDoor.A
set_option linter.unusedVariables false
set_option linter.unusedSimpArgs false
open Go.Proofs Go.Proofs.YtedkoimihknggaaGreatDoor
def Zdv (m : Tx) : Bool:=m==[] || (QB m && Z7 m==m)
def Wi : List Tx→Bool
 | a :: b :: l=>decide (a < b) && Wi (b :: l)
 | _=>true
def Zgf (gs : List Tx) : Int:=if 6 < gs.length then 7 else if gs.all Zo then (if Wi gs then 0 else 9) else 10
def Yn (u : Zj) : Int:=if Zo u.nm then (if WB u.hs then (if Zdv u.ml then Zgf u.gs else 11) else 4) else 10
section
variable {X X' H H0 : Zd} {n p : Nat} {v sl : Value} {l gs : List Tx} {m : Tx} {u : Zj}
theorem Zhw {a b : Tx} : Wi (a :: b :: l)=(decide (a < b) && Wi (b :: l)):=rfl
theorem Zo2 (hl : l.length≤1000000) (hs : Sl X v (l.map strv)) : ∀ (t j : Nat),l.length - j=t→j≤l.length→
  Zi (c4 (JA.l1 (R (n+5)))) [v,v,iv l.length,iv j] X=some (if (l.drop j).all Zo then .ext 0 [v] else .ret (iv 10),X)
 | 0,j,ht,hj=>by
  rw [List.drop_eq_nil_of_le (by omega)]
  refine ZN ?_
  rw [ZJ,show j=l.length by omega]
  unfold JA.l1
  rw [Za Zk,Zb,if_neg (by simp)]
  rfl
 | t+1,j,ht,hj=>by
  have hkl : j < l.length:=by omega
  have hlt : (j : Int) < l.length:=by omega
  have hg:=List.getElem?_eq_getElem hkl
  have hd:=List.drop_eq_getElem_cons hkl
  generalize l[j]=y at hg hd
  have x1:=hs.ix (i:=j) (by simpa using hkl) .i64 X
  have x2:=hs.ldx (Yt hg)
  have e1 : R (n+5) Q9 [strv y] X=some (iv (ZV y),X):=Zej
  rw [hd,List.all_cons]
  cases hn : Zo y
  ·have he : ZV y=10:=by unfold ZV;rw [hn];rfl
   rw [he] at e1
   refine QR ?_
   rw [ZJ]
   unfold JA.l1
   rw [Za Zk,Zb,if_pos (by simpa using hlt),Za x1,Za x2,Za e1,Za Zq,Zb,if_pos (by simp)]
   rfl
  ·have he : ZV y=0:=ZfT.2 hn
   rw [he] at e1
   rw [Bool.true_and]
   refine (ZA ?_).trans (Zo2 hl hs t (j+1) (by omega) (by omega))
   rw [ZJ]
   unfold JA.l1
   rw [Za Zk,Zb,if_pos (by simpa using hlt),Za x1,Za x2,Za e1,Za Zq,Zb,if_neg (by simp),Za ZB,Qi (by omega)]
   rfl
theorem Zrq (hl : l.length≤1000000) (hs : Sl X v (l.map strv)) : ∀ (t j : Nat),l.length - j=t→1≤j→(j≤l.length∨j=1)→
  Zi (c2 (JA.l2 (R n))) [v,iv j] X=some (if Wi (l.drop (j - 1)) then .ext 2 [] else .ret (iv 9),X)
 | 0,j,ht,hj,hj2=>by
  have hr : Wi (l.drop (j - 1))=true:=by
   have h1 : (l.drop (j - 1)).length≤1:=by rw [List.length_drop];omega
   match l.drop (j - 1),h1 with
   | [],_=>rfl
   | [a],_=>rfl
  have hlen : Zy v X=some (iv l.length,X):=by have:=hs.len (H':=X);simpa using this
  rw [hr]
  refine ZN ?_
  rw [Qf]
  unfold JA.l2
  rw [Za hlen,Za Zk,Zb,if_neg (by simp;omega)]
  rfl
 | t+1,j,ht,hj,hj2=>by
  have hkl : j < l.length:=by omega
  have hlt : (j : Int) < l.length:=by omega
  have hlen : Zy v X=some (iv l.length,X):=by have:=hs.len (H':=X);simpa using this
  have hk0 : j - 1 < l.length:=by omega
  have hg:=List.getElem?_eq_getElem hkl
  have hg0:=List.getElem?_eq_getElem hk0
  have hd:=List.drop_eq_getElem_cons hkl
  have hd0:=List.drop_eq_getElem_cons hk0
  rw [show j - 1+1=j by omega,hd] at hd0
  generalize l[j]=y at hg hd hd0
  generalize l[j - 1]=y0 at hg0 hd0
  have x1:=hs.ix (i:=j) (by simpa using hkl) .i64 X
  have x2:=hs.ldx (Yt hg)
  have x3:=hs.ix (i:=j - 1) (by simpa using hk0) .i64 X
  have x4:=hs.ldx (Yt hg0)
  have w0 : IntKind.i64.wrap ((j : Int) - 1)=((j - 1 : Nat) : Int):=by rw [w64 (by omega) (by omega)];omega
  have q1 : bop .str .geq (strv y0) (strv y) X=some (.bool (!decide (y0 < y)),X):=ZCo
  rw [hd0,Zhw]
  by_cases hy : y0 < y
  ·rw [decide_eq_true hy] at q1 ⊢
   rw [Bool.true_and,← hd]
   have ih:=Zrq hl hs t (j+1) (by omega) (by omega) (by omega)
   rw [Nat.add_sub_cancel] at ih
   refine (ZA ?_).trans ih
   rw [Qf]
   unfold JA.l2
   rw [Za hlen,Za Zk,Zb,if_pos (by simpa using hlt),Za Q1,w0,Za x3,Za x4,Za x1,Za x2,Za q1,Zb,if_neg (by simp),Za ZB,Qi (by omega)]
   rfl
  ·rw [decide_eq_false hy] at q1 ⊢
   refine QR ?_
   rw [Qf]
   unfold JA.l2
   rw [Za hlen,Za Zk,Zb,if_pos (by simpa using hlt),Za Q1,w0,Za x3,Za x4,Za x1,Za x2,Za q1,Zb,if_pos (by simp)]
   rfl
theorem Ztf (hl : l.length≤1000000) (hs : Sl X v (l.map strv)) : R (n+6) Zdg [v] X=some (iv (Zgf l),X):=by
 have hlen : Zy v X=some (iv l.length,X):=by have:=hs.len (H':=X);simpa using this
 have e1:=Zo2 (n:=n) hl hs l.length 0 (by omega) (by omega)
 have e2:=Zrq (n:=n+5) hl hs (l.length - 1) 1 rfl (Nat.le_refl _) (.inr rfl)
 rw [show iv ((0 : Nat) : Int)=.int .i64 0 from rfl,List.drop_zero] at e1
 rw [show iv ((1 : Nat) : Int)=.int .i64 1 from rfl,Nat.sub_self,List.drop_zero] at e2
 rw [R,Zqn rfl]
 unfold JA Zgf
 rw [Za hlen]
 by_cases h6 : 6 < l.length
 ·rw [Za Qk,Zb,if_pos (by simp;omega),if_pos h6];rfl
 ·rw [Za Qk,Zb,if_neg (by simp;omega),if_neg h6,Za hlen]
  cases ha : l.all Zo
  ·rw [ha] at e1
   rw [Yh e1];rfl
  ·rw [ha] at e1
   rw [Z5 e1,ZG,YT]
   cases hr : Wi l
   ·rw [hr] at e2
    rw [Yh e2];rfl
   ·rw [hr] at e2
    rw [Z5 e2,ZG];rfl
theorem ZwK : ∃ X',R (n+9) ZeH [strv m] X=some (iv (if Zdv m then 0 else 11),X')∧HLe X X':=by
 have f1 : ∀ r X',ZeN (R (n+8)) (strv m) X=some (r,X')→R (n+9) ZeH [strv m] X=some (r,X'):=fun r X' hr=>by rw [R,Ztr rfl];exact hr
 have q1 : bop .str .eql (strv m) (.string ⟨#[]⟩) X=some (.bool (m==[]),X):=Zdh (b:=[])
 unfold Zdv
 by_cases hm : m=[]
 ·refine ⟨X,f1 _ _ ?_,.refl _⟩
  unfold ZeN
  rw [Za q1,Zb,if_pos (by simpa using hm)]
  simp [hm,ret]
 ·have hmb : (m==[])=false:=by simpa using hm
  obtain ⟨X1,e1,k1⟩:=ZsO (n:=n) (s:=m) (X:=X)
  refine ⟨X1,f1 _ _ ?_,k1⟩
  unfold ZeN
  rw [hmb] at q1 ⊢
  rw [Za q1,Zb,if_neg (by simp),Za e1,Za Zt,Za Zs]
  cases hb : QB m
  ·have q2 : bop .int .neq (iv 11) (.int .i64 0) X1=some (.bool true,X1):=by rw [Zq];rfl
   simp only [Bool.false_eq_true,if_false,Bool.false_and,Bool.or_false]
   rw [Za q2,Za (g_r.trans (if_neg (by simp)))]
   simp only [List.replicate]
   rw [ZU,Za Zn]
   simp only [cond_true]
   rw [Zb,if_pos rfl]
   rfl
  ·have q2 : bop .int .neq (iv 0) (.int .i64 0) X1=some (.bool false,X1):=by rw [Zq];rfl
   have q3 : bop .str .neq (strv (Z7 m)) (strv m) X1=some (.bool (!(Z7 m==m)),X1):=WM
   simp only [if_true,Bool.true_and,Bool.false_or]
   rw [Za q2,Z8,Zp,Za q3,Qb,ZU,Za Zn]
   simp only [cond_false]
   cases hf : Z7 m==m
   ·rw [Zb,if_pos (by rfl)];rfl
   ·rw [Zb,if_neg (by simp)];rfl
theorem UOK.cells1 (h : UOK X u) : alc 1 (.agg u.cells.toArray) X=some (pt X.length,X++[.cells u.cells 1 false false]):=ZoL h.2.1
theorem Zha (h : UOK X u) : ∃ X',R (n+10) WQ [iv 2,.agg u.cells.toArray] X=some (iv (Yn u),X')∧HLe X X':=by
 have e1:=h.cells1
 have k1 : HLe X (X++[.cells u.cells 1 false false]):=.app _ _
 have c1 : (X++[Zf.cells u.cells 1 false false])[X.length]?=some (.cells u.cells 1 false false):=ZC
 generalize X++[Zf.cells u.cells 1 false false]=X1 at e1 k1 c1
 generalize X.length=p at e1 c1
 have a0 : ∀ Y,HLe X1 Y→∀ f x,u.cells[f]?=some x→ld1 (pa p f) Y=some (x,Y):=fun Y hl f x h=>Zv (hl _ _ c1) h
 have e2 : R (n+9) Q9 [strv u.nm] X1=some (iv (ZV u.nm),X1):=Zej (n:=n+4)
 have e3 : R (n+9) Zbi [strv u.hs] X1=some (iv (Yu u.hs),X1):=ZvV (n:=n+5)
 have b2:=ZzY (a:=ZV u.nm) (c:=Yu u.hs) X1
 have k2 : HLe X1 (X1++[Zf.cells [iv (ZV u.nm),iv (Yu u.hs)] 1 false false]):=.app _ _
 have s2 : Sl (X1++[Zf.cells [iv (ZV u.nm),iv (Yu u.hs)] 1 false false]) (.slice (some ⟨X1.length,0,none⟩) 2 2) [iv (ZV u.nm),iv (Yu u.hs)]:=Sl.one (vs:=[iv (ZV u.nm),iv (Yu u.hs)]) (es:=1) (g:=false) (ro:=false) ZC
 generalize X1++[Zf.cells [iv (ZV u.nm),iv (Yu u.hs)] 1 false false]=X2 at b2 k2 s2
 generalize X1.length=p2 at b2 s2
 have e4 : R (n+9) Zbx [.slice (some ⟨p2,0,none⟩) 2 2] X2=_:=ZvB (n:=n+8) s2
 have q1 : bop .int .neq (iv 2) (.int .i64 1) X1=some (.bool true,X1):=by rw [Zq];rfl
 have q2 : bop .int .neq (iv 2) (.int .i64 2) X1=some (.bool false,X1):=by rw [Zq];rfl
 have q3 : bop .int .eql (iv 2) (.int .i64 2) X2=some (.bool true,X2):=by rw [ZD];rfl
 have f1 : ∀ r X',Zcx (R (n+9)) (iv 2) (.agg u.cells.toArray) X=some (r,X')→R (n+10) WQ [iv 2,.agg u.cells.toArray] X=some (r,X'):=fun r X' hr=>by rw [R,ZrJ rfl];exact hr
 have hpre : ∀ K : Value→M Value,bind (alc 1 (.agg u.cells.toArray)) (fun v3=>bind (bop .int .neq (iv 2) (.int .i64 1)) fun v7=>bind (ZH v7 true 2 (bind (bop .int .neq (iv 2) (.int .i64 2)) fun v10=>ret [iv 2,v10])) (c2 fun _ q=>bind (pick v7 q (.bool false)) fun v11=>cnd v11 (ret (.int .i64 6)) (K v3))) X=K (pt p) X1:=fun K=>by
  rw [Za e1,Za q1,Z8,Zp,Za q2,Qb,Qf,Za Zn]
  simp only [cond_true]
  rw [Zb,if_neg (by simp)]
 unfold Yn
 cases hn : Zo u.nm
 ·have h0 : ZV u.nm=10:=by unfold ZV;rw [hn];rfl
  refine ⟨X2,f1 _ _ ?_,k1.trans k2⟩
  unfold Zcx
  refine (hpre _).trans ?_
  rw [Za Zg,Za (a0 _ (.refl _) 0 _ rfl),Za Zg,Za (a0 _ (.refl _) 1 _ rfl),Za e2,Za (a0 _ (.refl _) 1 _ rfl),ZZ,Za e3,Za b2,Za e4,h0,Za Zq,Zb,if_pos (by simp)]
  rfl
 ·have h0 : ZV u.nm=0:=ZfT.2 hn
  cases hs : WB u.hs
  ·have h1 : Yu u.hs=4:=by unfold Yu;rw [hs];rfl
   refine ⟨X2,f1 _ _ ?_,k1.trans k2⟩
   unfold Zcx
   refine (hpre _).trans ?_
   rw [Za Zg,Za (a0 _ (.refl _) 0 _ rfl),Za Zg,Za (a0 _ (.refl _) 1 _ rfl),Za e2,Za (a0 _ (.refl _) 1 _ rfl),ZZ,Za e3,Za b2,Za e4,h0,h1,Za Zq,Zb,if_pos (by simp)]
   rfl
  ·have h1 : Yu u.hs=0:=Zzl.2 hs
   have k12:=k1.trans k2
   have s4:=(h.hle k12).1
   have hl6:=h.2.2
   obtain ⟨X3,e5,k3⟩:=ZwK (n:=n) (m:=u.ml) (X:=X2)
   have e6 : R (n+9) Zdg [u.gv] X3=_:=Ztf (n:=n+3) hl6 (s4.mono k3)
   have b7:=ZzY (a:=if Zdv u.ml then 0 else 11) (c:=Zgf u.gs) X3
   have k7 : HLe X3 (X3++[Zf.cells [iv (if Zdv u.ml then 0 else 11),iv (Zgf u.gs)] 1 false false]):=.app _ _
   have s7 : Sl (X3++[Zf.cells [iv (if Zdv u.ml then 0 else 11),iv (Zgf u.gs)] 1 false false]) (.slice (some ⟨X3.length,0,none⟩) 2 2) [iv (if Zdv u.ml then 0 else 11),iv (Zgf u.gs)]:=Sl.one (vs:=[iv (if Zdv u.ml then 0 else 11),iv (Zgf u.gs)]) (es:=1) (g:=false) (ro:=false) ZC
   generalize X3++[Zf.cells [iv (if Zdv u.ml then 0 else 11),iv (Zgf u.gs)] 1 false false]=X7 at b7 k7 s7
   generalize X3.length=p7 at b7 s7
   have e8 : R (n+9) Zbx [.slice (some ⟨p7,0,none⟩) 2 2] X7=_:=ZvB (n:=n+8) s7
   refine ⟨X7,f1 _ _ ?_,(k12.trans k3).trans k7⟩
   unfold Zcx
   refine (hpre _).trans ?_
   rw [Za Zg,Za (a0 _ (.refl _) 0 _ rfl),Za Zg,Za (a0 _ (.refl _) 1 _ rfl),Za e2,Za (a0 _ (.refl _) 1 _ rfl),ZZ,Za e3,Za b2,Za e4,h0,h1,Za Zq,Zb,if_neg (by simp),Za q3,Zb,if_pos rfl,Za Zg,Za (a0 _ k2 2 _ rfl),Za Zg,Za (a0 _ k2 4 _ rfl),Za e5,Za (a0 _ (k2.trans k3) 4 _ rfl),ZZ,Za e6,Za b7,Za e8]
   cases hm : Zdv u.ml <;> simp [ret]
end
end Go.Proofs.YtedkoimihknggaaGreatDoor.A

namespace Go.Proofs.YtedkoimihknggaaGreatDoor.A
set_option linter.unusedVariables false
set_option linter.unusedSimpArgs false
open Go.Proofs Go.Proofs.YtedkoimihknggaaGreatDoor
def Kg : List Zj→Int
 | []=>0
 | u :: l=>if Yn u=0 then Kg l else Yn u
def ZnB (us : List Zj) : Int:=if Kg us=0 then (if Wi (us.map (·.nm)) then (if 12 < us.length then 7 else 0) else 9) else Kg us
def Zd9 (us : List Zj) (gs : List Tx) : Int:=if ZnB us=0 then (if gs.all Zo then (if Wi gs then (if 6 < gs.length then 7 else 0) else 9) else 10) else ZnB us
def ZfB (gs : List Tx) (prev : List Zj) (u : Zj) : Int:=if u.gs.all (fun g=>decide (g∈gs)) then (if u.ml≠[]∧prev.any (fun v=>u.ml==v.ml)=true then 9 else 0) else 8
def Za4 (gs : List Tx) : List Zj→List Zj→Int
 | _,[]=>0
 | prev,u :: l=>if ZfB gs prev u=0 then Za4 gs (prev++[u]) l else ZfB gs prev u
def ZcL (us : List Zj) (gs : List Tx) : Int:=if Zd9 us gs=0 then Za4 gs [] us else Zd9 us gs
section
variable {X X' H H0 : Zd} {n p d b : Nat} {v sl gv : Value} {l gs : List Tx} {m : Tx} {u : Zj} {us : List Zj}
theorem Zhb : ∀ {l : List Tx},Wi l=true→l.Pairwise (· < ·)
 | [],_=>List.Pairwise.nil
 | [a],_=>by simp
 | a :: b :: l,h=>by
  rw [Zhw,Bool.and_eq_true,decide_eq_true_eq] at h
  have ih:=Zhb h.2
  refine List.Pairwise.cons (fun x hx=>?_) ih
  rcases List.mem_cons.1 hx with rfl | hx
  ·exact h.1
  ·exact List.lt_trans h.1 ((List.pairwise_cons.1 ih).1 x hx)
theorem Zkz : ∀ {us : List Zj},Kg us=0→∀ u∈us,Yn u=0
 | [],_,_,h=>by simp at h
 | w :: us,h,u,hu=>by
  unfold Kg at h
  by_cases hw : Yn w=0
  ·rw [if_pos hw] at h
   rcases List.mem_cons.1 hu with rfl | hu
   ·exact hw
   ·exact Zkz h u hu
  ·rw [if_neg hw] at h;exact absurd h hw
theorem Znx {k : Nat} (hl : l.length≤1000000) (hs : Sl X v (l.map strv)) : R (n+4) K6 [v,iv k] X=some (iv (if Wi l then (if k < l.length then 7 else 0) else 9),X):=by
 have hlen : Zy v X=some (iv l.length,X):=by have:=hs.len (H':=X);simpa using this
 have lp : ∀ (t j : Nat),l.length - j=t→1≤j→(j≤l.length∨j=1)→Zi (c3 (WK.l1 (R (n+3)))) [v,iv k,iv j] X=some (if Wi (l.drop (j - 1)) then .ext 0 [v,iv k] else .ret (iv 9),X):=by
  intro t
  induction t with
  | zero=>
   intro j ht hj hj2
   have hr : Wi (l.drop (j - 1))=true:=by
    have h1 : (l.drop (j - 1)).length≤1:=by rw [List.length_drop];omega
    match l.drop (j - 1),h1 with
    | [],_=>rfl
    | [a],_=>rfl
   rw [hr]
   refine ZN ?_
   rw [ZU]
   unfold WK.l1
   rw [Za hlen,Za Zk,Zb,if_neg (by simp;omega)]
   rfl
  | succ t ih=>
   intro j ht hj hj2
   have hkl : j < l.length:=by omega
   have hlt : (j : Int) < l.length:=by omega
   have hk0 : j - 1 < l.length:=by omega
   have hg:=List.getElem?_eq_getElem hkl
   have hg0:=List.getElem?_eq_getElem hk0
   have hd:=List.drop_eq_getElem_cons hkl
   have hd0:=List.drop_eq_getElem_cons hk0
   rw [show j - 1+1=j by omega,hd] at hd0
   generalize l[j]=y at hg hd hd0
   generalize l[j - 1]=y0 at hg0 hd0
   have x1:=hs.ix (i:=j) (by simpa using hkl) .i64 X
   have x2:=hs.ldx (Yt hg)
   have x3:=hs.ix (i:=j - 1) (by simpa using hk0) .i64 X
   have x4:=hs.ldx (Yt hg0)
   have w0 : IntKind.i64.wrap ((j : Int) - 1)=((j - 1 : Nat) : Int):=by rw [w64 (by omega) (by omega)];omega
   have e1 : R (n+3) JW [strv y0,strv y] X=some (iv (Zds y0 y),X):=ZxV (n:=n)
   have q1 : bop .int .geq (iv (Zds y0 y)) (.int .i64 0) X=some (.bool (!decide (y0 < y)),X):=by rw [Qm,ZAa]
   rw [hd0,Zhw]
   by_cases hy : y0 < y
   ·rw [decide_eq_true hy] at q1 ⊢
    rw [Bool.true_and,← hd]
    have ih:=ih (j+1) (by omega) (by omega) (by omega)
    rw [Nat.add_sub_cancel] at ih
    refine (ZA ?_).trans ih
    rw [ZU]
    unfold WK.l1
    rw [Za hlen,Za Zk,Zb,if_pos (by simpa using hlt),Za Q1,w0,Za x3,Za x4,Za x1,Za x2,Za e1,Za q1,Zb,if_neg (by simp),Za ZB,Qi (by omega)]
    rfl
   ·rw [decide_eq_false hy] at q1 ⊢
    refine QR ?_
    rw [ZU]
    unfold WK.l1
    rw [Za hlen,Za Zk,Zb,if_pos (by simpa using hlt),Za Q1,w0,Za x3,Za x4,Za x1,Za x2,Za e1,Za q1,Zb,if_pos (by simp)]
    rfl
 have e1:=lp (l.length - 1) 1 rfl (Nat.le_refl _) (.inr rfl)
 rw [show iv ((1 : Nat) : Int)=.int .i64 1 from rfl,Nat.sub_self,List.drop_zero] at e1
 rw [R,ZrZ rfl]
 unfold WK
 cases hr : Wi l
 ·rw [hr] at e1
  rw [Yh e1];rfl
 ·rw [hr] at e1
  rw [Z5 e1,ZG,Qf,Za hlen,Za Qk,Zb]
  by_cases h : k < l.length
  ·rw [if_pos (by simp;omega),if_pos h];rfl
  ·rw [if_neg (by simp;omega),if_neg h];rfl
theorem Zt8 (hn : us.length≤1000) (hA : Qg H0 sl us) : ∀ (t j : Nat) (nv : Value) (q : List Nat) (acc : List Tx) (X : Zd),us.length - j=t→j≤us.length→acc.length≤j→HLe H0 X→(∀ i∈q,H0.length≤i)→Zw X nv (acc.map strv) q→
  ∃ X' o,Zi (c5 (Q7.l1 (R (n+10)))) [gv,nv,sl,iv us.length,iv j] X=some (o,X')∧HLe H0 X'∧(if Kg (us.drop j)=0 then ∃ nv' q',o=.ext 0 [gv,nv']∧Zw X' nv' ((acc++(us.drop j).map (·.nm)).map strv) q' else o=.ret (iv (Kg (us.drop j))))
 | 0,j,nv,q,acc,X,ht,hj,ha,hle,hq,hr=>by
  rw [List.drop_eq_nil_of_le (by omega)]
  refine ⟨X,.ext 0 [gv,nv],ZN ?_,hle,?_⟩
  ·rw [Qs,show j=us.length by omega]
   unfold Q7.l1
   rw [Za Zk,Zb,if_neg (by simp)]
   rfl
  ·rw [if_pos (show Kg []=0 from rfl)]
   exact ⟨nv,q,rfl,by simpa using hr⟩
 | t+1,j,nv,q,acc,X,ht,hj,ha,hle,hq,hr=>by
  have hjl : j < us.length:=by omega
  have hlt : (j : Int) < us.length:=by omega
  have hg:=List.getElem?_eq_getElem hjl
  have hd:=List.drop_eq_getElem_cons hjl
  generalize us[j]=u at hg hd
  have hok:=(hA.mono hle).ok (List.mem_of_getElem? hg)
  have hf:=fun {K : Value→M Out}=>Zed (k:=K) (hA.mono hle).1 hok.2.1 hg
  have g1 : (X++[Zf.cells u.cells 1 false false])[X.length]?=some (.cells u.cells 1 false false):=ZC
  have k1 : HLe X (X++[Zf.cells u.cells 1 false false]):=.app _ _
  generalize X++[Zf.cells u.cells 1 false false]=X1 at g1 k1 hf
  generalize X.length=p at g1 hf
  have d1 : ldA 5 (pt p) X1=some (.agg u.cells.toArray,X1):=ZQ (n:=5) g1 rfl
  obtain ⟨X2,e2,k2⟩:=Zha (n:=n) (hok.hle k1)
  have k12:=k1.trans k2
  have le2:=hle.trans k12
  rw [hd]
  unfold Kg
  by_cases he : Yn u=0
  ·rw [he] at e2
   simp only [if_pos he]
   have q2 : bop .int .neq (iv 0) (.int .i64 0) X2=some (.bool false,X2):=by rw [Zq];rfl
   have l0 : ld1 (pa p 0) X2=some (strv u.nm,X2):=Zv (k2 _ _ g1) rfl
   have x4:=ZwW (es:=1) (z:=.string ⟨#[]⟩) (v:=strv u.nm) (H:=X2) rfl rfl rfl
   have k3 : HLe X2 (X2++[Zf.cells [strv u.nm] 1 false false]):=.app _ _
   have s3 : Sl (X2++[Zf.cells [strv u.nm] 1 false false]) (.slice (some ⟨X2.length,0,none⟩) 1 1) [strv u.nm]:=Sl.one (c:=1) ZC
   generalize X2++[Zf.cells [strv u.nm] 1 false false]=X3 at x4 k3 s3
   have hr3 : Zw X3 nv _ q:=hr.step (k12.trans k3).step (by simp)
   obtain ⟨nv',X4,q',x5,hr4,s4,_⟩:=hr3.push (b:=16) s3 (by simp;omega) (by simp;omega)
   have hm:=(le2.trans k3).more s4 hq
   have hr4' : Zw X4 nv' ((acc++[u.nm]).map strv) q':=by rw [List.map_append];exact hr4
   obtain ⟨X5,o5,e5,k5,h5⟩:=Zt8 hn hA t (j+1) nv' q' (acc++[u.nm]) X4 (by omega) (by omega) (by simp;omega) hm.1 hm.2 hr4'
   refine ⟨X5,o5,(ZA ?_).trans e5,k5,by simpa using h5⟩
   rw [Qs]
   unfold Q7.l1
   rw [Za Zk,Zb,if_pos (by simpa using hlt),hf,Za d1,Za e2,Za q2,Zb,if_neg (by simp),Za Zg,Za l0,Za x4,Za x5,Za ZB,Qi (by omega)]
   rfl
  ·simp only [if_neg he]
   have q2 : bop .int .neq (iv (Yn u)) (.int .i64 0) X2=some (.bool true,X2):=by rw [Zq];simp [he]
   refine ⟨X2,_,QR (v:=iv (Yn u)) ?_,le2,rfl⟩
   rw [Qs]
   unfold Q7.l1
   rw [Za Zk,Zb,if_pos (by simpa using hlt),hf,Za d1,Za e2,Za q2,Zb,if_pos rfl]
   rfl
theorem Zuv (hl : l.length≤1000000) (hs : Sl X v (l.map strv)) : ∀ (t j : Nat),l.length - j=t→j≤l.length→
  Zi (c4 (Q7.l2 (R (n+5)))) [v,v,iv l.length,iv j] X=some (if (l.drop j).all Zo then .ext 2 [v] else .ret (iv 10),X)
 | 0,j,ht,hj=>by
  rw [List.drop_eq_nil_of_le (by omega)]
  refine ZN ?_
  rw [ZJ,show j=l.length by omega]
  unfold Q7.l2
  rw [Za Zk,Zb,if_neg (by simp)]
  rfl
 | t+1,j,ht,hj=>by
  have hkl : j < l.length:=by omega
  have hlt : (j : Int) < l.length:=by omega
  have hg:=List.getElem?_eq_getElem hkl
  have hd:=List.drop_eq_getElem_cons hkl
  generalize l[j]=y at hg hd
  have x1:=hs.ix (i:=j) (by simpa using hkl) .i64 X
  have x2:=hs.ldx (Yt hg)
  have e1 : R (n+5) Q9 [strv y] X=some (iv (ZV y),X):=Zej
  rw [hd,List.all_cons]
  cases hn : Zo y
  ·have he : ZV y=10:=by unfold ZV;rw [hn];rfl
   rw [he] at e1
   refine QR ?_
   rw [ZJ]
   unfold Q7.l2
   rw [Za Zk,Zb,if_pos (by simpa using hlt),Za x1,Za x2,Za e1,Za Zq,Zb,if_pos (by simp)]
   rfl
  ·have he : ZV y=0:=ZfT.2 hn
   rw [he] at e1
   rw [Bool.true_and]
   refine (ZA ?_).trans (Zuv hl hs t (j+1) (by omega) (by omega))
   rw [ZJ]
   unfold Q7.l2
   rw [Za Zk,Zb,if_pos (by simpa using hlt),Za x1,Za x2,Za e1,Za Zq,Zb,if_neg (by simp),Za ZB,Qi (by omega)]
   rfl
theorem Zt4 (hn : us.length≤1000) (hl : gs.length≤1000000) (hA : Qg X sl us) (hs : Sl X gv (gs.map strv)) : ∃ X',R (n+11) Zc9 [sl,gv] X=some (iv (Zd9 us gs),X')∧HLe X X':=by
 obtain ⟨X1,o,e1,k1,h1⟩:=Zt8 (n:=n) (gv:=gv) hn hA us.length 0 (.slice none 0 0) [] [] X (by omega) (by omega) (by simp) (.refl _) (by simp) Zw.nil
 rw [List.drop_zero] at h1
 have e1 : Zi (c5 (Q7.l1 (R (n+10)))) [gv,.slice none 0 0,sl,iv us.length,.int .i64 0] X=_:=e1
 have hlen : Zy sl X=some (iv us.length,X):=by have:=hA.1.len (H':=X);rwa [List.length_map] at this
 have f1 : ∀ r X',Q7 (R (n+10)) sl gv X=some (r,X')→R (n+11) Zc9 [sl,gv] X=some (r,X'):=fun r X' hr=>by rw [R,Zqj rfl];exact hr
 refine ⟨X1,f1 _ _ ?_,k1⟩
 unfold Q7 Zd9 ZnB
 rw [Za hlen]
 by_cases hf : Kg us=0
 ·rw [if_pos hf] at h1
  simp only [if_pos hf]
  obtain ⟨nv,q,rfl,hr⟩:=h1
  rw [List.nil_append] at hr
  have e2 : R (n+10) K6 [nv,iv 12] X1=_:=Znx (n:=n+6) (k:=12) (l:=us.map (·.nm)) (by rw [List.length_map];omega) hr.rd
  have hs1:=hs.mono k1
  have hgl : Zy gv X1=some (iv gs.length,X1):=by have:=hs1.len (H':=X1);simpa using this
  have e3:=Zuv (n:=n+5) hl hs1 gs.length 0 (by omega) (by omega)
  rw [show iv ((0 : Nat) : Int)=.int .i64 0 from rfl,List.drop_zero] at e3
  have e4 : R (n+10) K6 [gv,iv 6] X1=_:=Znx (n:=n+6) (k:=6) hl hs1
  rw [List.length_map] at e2
  rw [Z5 e1,ZG,Qf]
  cases hr1 : Wi (us.map (·.nm))
  ·rw [hr1] at e2
   have e2 : R (n+10) K6 [nv,iv 12] X1=some (iv 9,X1):=e2
   rw [Za e2,Za Zq,Zb,if_pos (by simp)]
   rfl
  ·rw [hr1] at e2
   simp only [if_true] at e2 ⊢
   by_cases h12 : 12 < us.length
   ·rw [if_pos h12] at e2 ⊢
    have e2 : R (n+10) K6 [nv,iv 12] X1=some (iv 7,X1):=e2
    rw [Za e2,Za Zq,Zb,if_pos (by simp)]
    rfl
   ·rw [if_neg h12] at e2 ⊢
    have e2 : R (n+10) K6 [nv,iv 12] X1=some (iv 0,X1):=e2
    rw [Za e2,Za Zq,Zb,if_neg (by simp),Za hgl,if_pos rfl]
    cases ha : gs.all Zo
    ·rw [ha] at e3
     rw [Yh e3];rfl
    ·rw [ha] at e3
     rw [Z5 e3,ZG,YT,Za e4]
     rfl
 ·rw [if_neg hf] at h1
  simp only [if_neg hf]
  subst h1
  rw [Yh e1]
  rfl
end
end Go.Proofs.YtedkoimihknggaaGreatDoor.A

