/- What the law NewerApart needs (part 5). -/
import Derived.Test.YtnnehafmjfmbnaaGreatDoorZNewerApart4
namespace Go.Proofs.YtnnehafmjfmbnaaGreatDoor.A
set_option linter.unusedVariables false
set_option linter.unusedSimpArgs false
open Go.Proofs Go.Proofs.YtnnehafmjfmbnaaGreatDoor
abbrev Acc:=Tx × Bool
def Zau (p : Acc) : Value:=.agg #[strv p.1,.bool p.2]
abbrev AMp:=List (Tx × Acc)
structure NSt where
 A : AMp
 OW : YJ
 OF : YJ
 K : List Tx
 mem : Mem
structure Jp (s : NSt) : Prop where
 nm : ∀ p∈s.A,Zr p.1=true∧ZaH p.2.1=true
 few : s.A.length≤12
 ofA : ∀ n,(Ze n s.OF).isSome=true→(Ze n s.A).isSome=true
 memA : ∀ k n,s.mem k n=true→(Ze n s.A).isSome=true
 good : ∀ n m,Ze n s.OF=some m→QF m=true∧Qa m=m
structure NR where
 b : Nat
 x : Nat
 o : Nat
 a : Nat
 g : Nat
 o2 : Nat
 G : ZbM
def NR.own (r : NR) : List Nat:=r.b :: r.o :: r.a :: QU r.o2 r.G
structure ND0 (X : Zc) (d : Nat) (r : NR) (s : NSt) (c : Nat) : Prop where
 cell : X[d]?=some (.cells [.map (some r.b),pt r.x,pt r.g] 1 false false)
 m : JS Zau X r.b s.A
 ix : Idx X r.x r.o r.a s.OW s.OF
 gr : Grp X r.g r.o2 r.G s.mem c
 ks : ZJ r.G=s.K
 dis : r.b≠r.o∧r.b≠r.a∧r.b∉QU r.o2 r.G∧r.o∉QU r.o2 r.G∧r.a∉QU r.o2 r.G
structure ND (X : Zc) (d : Nat) (r : NR) (s : NSt) (c : Nat) : Prop extends ND0 X d r s c where
 inv : Jp s
def Qn (s : NSt) (n : Tx) (p : Acc) : ZfN:=(n,p.1,(Ze n s.OF).getD [],p.2,ofL n s.K s.mem)
def Zz (s : NSt) (n : Tx) : Option ZfN:=(Ze n s.A).map (Qn s n)
def Zl (n : Tx) (A : AMp) : Int:=if Zr n then (if (Ze n A).isSome then 0 else 8) else 10
theorem ZeS {n : Tx} {A : AMp} (h : Zl n A=0) : Zr n=true∧∃ p,Ze n A=some p:=by
 unfold Zl at h
 cases hn : Zr n
 ·rw [hn] at h;simp at h
 ·rw [hn] at h
  cases ha : Ze n A with
  | none=>rw [ha] at h;simp at h
  | some p=>exact ⟨rfl,p,rfl⟩
section
variable {X X' : Zc} {n d c : Nat} {r : NR} {s : NSt} {k : Tx}
theorem JS.isMap {α : Type} {enc : α→Value} {id : Nat} {mm : List (Tx × α)} (hm : JS enc X id mm) : id < X.length∧∀ cs es gr ro,X[id]?≠some (.cells cs es gr ro):=⟨hm.lt,fun cs es gr ro e=>by
 obtain ⟨es',_,h1 | h1⟩:=hm.ex
 ·obtain ⟨clk,h1,_⟩:=h1;rw [e] at h1;cases h1
 ·rw [e] at h1;cases h1⟩
theorem ND0.isMap (h : ND0 X d r s c) {j : Nat} (hj : j∈r.own) : j < X.length∧∀ cs es gr ro,X[j]?≠some (.cells cs es gr ro):=by
 unfold NR.own at hj
 rcases List.mem_cons.1 hj with rfl | hj
 ·exact h.m.isMap
 ·rcases List.mem_cons.1 hj with rfl | hj
  ·exact h.ix.ow.g.isMap
  ·rcases List.mem_cons.1 hj with rfl | hj
   ·exact h.ix.of.g.isMap
   ·exact h.gr.isMap hj
theorem ND0.dnot (h : ND0 X d r s c) : d∉r.own:=fun hj=>(h.isMap hj).2 _ _ _ _ h.cell
theorem ND0.xnot (h : ND0 X d r s c) : r.x∉r.own:=fun hj=>(h.isMap hj).2 _ _ _ _ h.ix.c
theorem ND0.gnot (h : ND0 X d r s c) : r.g∉r.own:=fun hj=>(h.isMap hj).2 _ _ _ _ h.gr.cell
theorem ND0.dlt (h : ND0 X d r s c) : d < X.length:=Jg h.cell
theorem ND0.step {o1 o2 : List Nat} (h : ND0 X d r s c) (hs : ZH o1 X o2 X') (hd : d∉o1) (hx : r.x∉o1) (hg : r.g∉o1) (ho : ∀ j∈r.own,j∉o1) : ND0 X' d r s c:=
 ⟨hs.get h.cell hd,h.m.step hs (ho _ (by simp [NR.own])),h.ix.step hs hx (ho _ (by simp [NR.own])) (ho _ (by simp [NR.own])),h.gr.step hs hg (fun j hj=>ho j (by
  unfold NR.own
  exact List.mem_cons_of_mem _ (List.mem_cons_of_mem _ (List.mem_cons_of_mem _ hj)))),h.ks,h.dis⟩
theorem ND0.hle (h : ND0 X d r s c) (hl : HLe X X') : ND0 X' d r s c:=h.step hl.step (by simp) (by simp) (by simp) (by simp)
theorem ND0.l0 (h : ND0 X d r s c) : ld1 (pa d 0) X=some (.map (some r.b),X):=Zu h.cell rfl
theorem ND0.l1 (h : ND0 X d r s c) : ld1 (pa d 1) X=some (pt r.x,X):=Zu h.cell rfl
theorem ND0.l2 (h : ND0 X d r s c) : ld1 (pa d 2) X=some (pt r.g,X):=Zu h.cell rfl
theorem ND.step {o1 o2 : List Nat} (h : ND X d r s c) (hs : ZH o1 X o2 X') (hd : d∉o1) (hx : r.x∉o1) (hg : r.g∉o1) (ho : ∀ j∈r.own,j∉o1) : ND X' d r s c:=⟨h.toND0.step hs hd hx hg ho,h.inv⟩
theorem ND.hle (h : ND X d r s c) (hl : HLe X X') : ND X' d r s c:=⟨h.toND0.hle hl,h.inv⟩
def CLe (X X' : Zc) : Prop:=∀ (i : Nat) (cs : List Value) (es : Nat) (g ro : Bool),X[i]?=some (Zf.cells cs es g ro)→X'[i]?=some (Zf.cells cs es g ro)
theorem CLe.trans {Y : Zc} (h : CLe X X') (h' : CLe X' Y) : CLe X Y:=fun i cs es g ro hi=>h' i _ _ _ _ (h i _ _ _ _ hi)
theorem ZH.cle {o1 o2 : List Nat} (hs : ZH o1 X o2 X') (hm : ∀ j∈o1,∀ cs es g ro,X[j]?≠some (Zf.cells cs es g ro)) : CLe X X':=fun i cs es g ro hi=>hs.get hi fun hj=>hm i hj _ _ _ _ hi
theorem ND0.cle {o2 : List Nat} (h : ND0 X d r s c) (hs : ZH r.own X o2 X') : CLe X X':=hs.cle fun j hj=>(h.isMap hj).2
theorem Sl.cle {sl : Value} {vs : List Value} (h : Sl X sl vs) (hc : CLe X X') : Sl X' sl vs:=by
 obtain ⟨a,c,rfl,h0,h⟩:=h
 refine ⟨a,c,rfl,h0,?_⟩
 unfold QN at h ⊢
 split at h
 ·exact h
 ·rename_i id o n x _
  split at h
  ·rename_i cs es g ro hid
   simp only [hc _ _ _ _ _ hid];exact h
  ·cases h
 ·exact h
 ·rename_i e;cases e
 ·cases h
theorem SlN.cle {es : Nat} {sl : Value} {rows : List (List Value)} (h : SlN es X sl rows) (hc : CLe X X') : SlN es X' sl rows:=by
 obtain ⟨a,c,rfl,h0,h,h2⟩:=h
 refine ⟨a,c,rfl,h0,?_,h2⟩
 unfold QN at h ⊢
 split at h
 ·exact h
 ·rename_i id o n x _
  split at h
  ·rename_i cs es' g ro hid
   simp only [hc _ _ _ _ _ hid];exact h
  ·cases h
 ·exact h
 ·rename_i e;cases e
 ·cases h
theorem Qg.cle {sl : Value} {us : List Zo} (h : Qg X sl us) (hc : CLe X X') : Qg X' sl us:=⟨h.1.cle hc,fun u hu=>⟨(h.2 u hu).1.cle hc,(h.2 u hu).2⟩⟩
theorem Zuw (X : Zc) : Jp ⟨[],[],[],[],fun _ _=>false⟩:=⟨by simp,by simp,by simp [Ze],by simp,by simp [Ze]⟩
theorem ZrY : ∃ X' d r,R (n+2) Kq [] X=some (pt d,X')∧ND X' d r ⟨[],[],[],[],fun _ _=>false⟩ 0∧HLe X X'∧X.length≤d∧∀ j∈r.own,X.length≤j:=by
 obtain ⟨X1,e1,m1,k1⟩:=Zrl (α:=Acc) (enc:=Zau) X
 have hl1 : X.length < X1.length:=m1.lt
 obtain ⟨X2,x,o,a,e2,i2,k2,o21,o22,o23⟩:=ZvI (n:=n) (X:=X1)
 obtain ⟨X3,g,o2,e3,g3,k3,o31,o32⟩:=Zvn (n:=n) (X:=X2)
 have hi:=i2.lt
 have e4 : bld (.agg #[.map none,.pointer none,.pointer none]) [(0,1,.map (some X.length)),(1,1,pt x),(2,1,pt g)] X3=some (.agg #[.map (some X.length),pt x,pt g],X3):=by
  simp [bld,Wq,Value.cells,Y6,splice]
 have e5 : alc 1 (.agg #[.map (some X.length),pt x,pt g]) X3=some (pt X3.length,X3++[.cells [.map (some X.length),pt x,pt g] 1 false false]):=K5 (vs:=[.map (some X.length),pt x,pt g]) rfl
 have k4 : HLe X3 (X3++[Zf.cells [.map (some X.length),pt x,pt g] 1 false false]):=.app _ _
 refine ⟨_,X3.length,⟨X.length,x,o,a,g,o2,[]⟩,?_,⟨⟨ZD,((m1.hle k2).hle k3).hle k4,(i2.hle k3).hle k4,g3.hle k4,rfl,⟨by simp only;omega,by simp only;omega,?_,?_,?_⟩⟩,Zuw X⟩,((k1.trans k2).trans k3).trans k4,?_,?_⟩
 ·rw [R,ZoB rfl]
  unfold Zgx
  rw [Za e1,Za e2,Za e3,Za e4,Za e5]
  rfl
 ·simp only [QU,List.map_nil,List.mem_singleton]
  have:=k2.len;omega
 ·simp only [QU,List.map_nil,List.mem_singleton]
  omega
 ·simp only [QU,List.map_nil,List.mem_singleton]
  omega
 ·have:=k1.len;have:=k2.len;have:=k3.len;omega
 ·intro j hj
  have:=k1.len;have:=k2.len
  simp only [NR.own,QU,List.map_nil,List.mem_cons,List.not_mem_nil,or_false] at hj
  omega
theorem Zqo (h : ND X d r s c) : ∃ X',R (n+6) Qs [pt d,strv k] X=some (.tuple #[Zau (if Zr k then (Ze k s.A).getD ([],false) else ([],false)),iv (Zl k s.A)],X')∧HLe X X':=by
 have one : ∀ p : Acc,([strv p.1,.bool p.2] : List Value).all oneCell=true:=fun _=>rfl
 have z1 : alc 1 (.agg #[.string ⟨#[]⟩,.bool false]) X=some (pt X.length,X++[.cells [strv [],.bool false] 1 false false]):=K5 (vs:=[strv [],.bool false]) rfl
 have k1 : HLe X (X++[Zf.cells [strv [],.bool false] 1 false false]):=.app _ _
 have c1 : (X++[Zf.cells [strv [],.bool false] 1 false false])[X.length]?=some (.cells [strv [],.bool false] 1 false false):=ZD
 have ll1 : X.length < (X++[Zf.cells [strv [],.bool false] 1 false false]).length:=by simp
 generalize X++[Zf.cells [strv [],.bool false] 1 false false]=X1 at z1 k1 c1 ll1
 have h1:=h.hle k1
 have e1 : R (n+5) Yd [strv k] X1=_:=Zf9
 have f1 : ∀ v X',KS (R (n+5)) (pt d) (strv k) X=some (v,X')→R (n+6) Qs [pt d,strv k] X=some (v,X'):=fun v X' hr=>by rw [R,ZiA rfl];exact hr
 have fin : ∀ (p : Acc) (Y : Zc) (K : Value→M Value),Y[X.length]?=some (.cells [strv [],.bool false] 1 false false)→bind (stA 2 (pt X.length) (Zau p)) (fun _=>bind (ldA 2 (pt X.length)) K) Y=K (Zau p) (Y.set X.length (.cells [strv p.1,.bool p.2] 1 false false)):=fun p Y K hY=>by
  have w:=WM (vs:=[strv p.1,.bool p.2]) (n:=2) hY rfl rfl rfl
  have w : stA 2 (pt X.length) (Zau p) Y=_:=w
  have l : ldA 2 (pt X.length) (Y.set X.length (.cells [strv p.1,.bool p.2] 1 false false))=some (Zau p,_):=ZY (n:=2) (ZT hY) rfl
  rw [Za w,Za l]
 have put : ∀ {Y : Zc} {o : Zf},HLe X Y→HLe X (Y.set X.length o):=fun hl i v hi=>by
  have:=Jg hi
  rw [List.getElem?_set_ne (by omega)]
  exact hl i v hi
 cases hnm : Zr k
 ·have he : Zl k s.A=10:=by unfold Zl;rw [hnm];rfl
  have q1 : bop .int .neq (iv (QT k)) (.int .i64 0) X1=some (.bool true,X1):=by rw [Zt];unfold QT;rw [hnm];rfl
  have zb : bld (.agg #[.string ⟨#[]⟩,.bool false]) [] X1=some (Zau ([],false),X1):=rfl
  rw [he]
  refine ⟨X1.set X.length (.cells [strv [],.bool false] 1 false false),f1 _ _ ?_,put k1⟩
  unfold KS
  rw [Za z1,Za e1,Za q1,Zb,if_pos rfl,Za zb]
  refine (fin _ _ _ c1).trans ?_
  rw [show QT k=10 by unfold QT;rw [hnm];rfl]
  rfl
 ·have q1 : bop .int .neq (iv (QT k)) (.int .i64 0) X1=some (.bool false,X1):=by rw [Zt];unfold QT;rw [hnm];rfl
  have e2 : lkp .str (.agg #[.string ⟨#[]⟩,.bool false]) true (.map (some r.b)) (strv k) X1=some (.tuple #[Zau ((Ze k s.A).getD ([],false)),.bool (Ze k s.A).isSome],X1):=by
   rw [h1.m.lkp]
   cases Ze k s.A <;> rfl
  generalize hv : (Ze k s.A).getD ([],false)=p at e2
  have z2 : ∀ K : Value→M Value,bind (alc 1 (.agg #[.string ⟨#[]⟩,.bool false])) (fun q=>bind (stA 2 q (Zau p)) fun _=>K q) X1=K (pt X1.length) (X1++[.cells [strv p.1,.bool p.2] 1 false false]):=fun K=>K3 (n:=2) (zs:=[strv [],.bool false]) (r:=[strv p.1,.bool p.2]) rfl rfl rfl rfl
  have k2 : HLe X1 (X1++[Zf.cells [strv p.1,.bool p.2] 1 false false]):=.app _ _
  have c2 : (X1++[Zf.cells [strv p.1,.bool p.2] 1 false false])[X1.length]?=some (.cells [strv p.1,.bool p.2] 1 false false):=ZD
  have c12:=k2 _ _ c1
  generalize X1++[Zf.cells [strv p.1,.bool p.2] 1 false false]=X2 at z2 k2 c2 c12
  have d2 : ldA 2 (pt X1.length) X2=some (Zau p,X2):=ZY (n:=2) c2 rfl
  have zb : bld (.agg #[.string ⟨#[]⟩,.bool false]) [] X2=some (Zau ([],false),X2):=rfl
  cases hs : (Ze k s.A).isSome
  ·have he : Zl k s.A=8:=by unfold Zl;rw [hnm,hs];rfl
   have hp : p=([],false):=by
    rw [← hv]
    cases ha : Ze k s.A with
    | none=>rfl
    | some v=>rw [ha] at hs;cases hs
   rw [hs] at e2
   rw [he]
   refine ⟨X2.set X.length (.cells [strv [],.bool false] 1 false false),f1 _ _ ?_,put (k1.trans k2)⟩
   unfold KS
   rw [Za z1,Za e1,Za q1,Zb,if_neg (by simp),Za Zv,Za Zg,Za h1.l0,Za e2,Za Zn,Za Zm,z2,Za Zy,Zb,if_pos (by rfl),Za zb]
   refine (fin _ _ _ c12).trans ?_
   rw [hp]
   rfl
  ·have he : Zl k s.A=0:=by unfold Zl;rw [hnm,hs];rfl
   rw [hs] at e2
   rw [he]
   refine ⟨X2.set X.length (.cells [strv p.1,.bool p.2] 1 false false),f1 _ _ ?_,put (k1.trans k2)⟩
   unfold KS
   rw [Za z1,Za e1,Za q1,Zb,if_neg (by simp),Za Zv,Za Zg,Za h1.l0,Za e2,Za Zn,Za Zm,z2,Za Zy,Zb,if_neg (by simp),Za d2]
   exact fin _ _ _ c12
theorem ZfE (h : ND X d r s c) : ∃ u q X',R (n+7) QA [pt d,strv k] X=some (.tuple #[.agg u.cells.toArray,iv (Zl k s.A)],X')∧ZE X' u.gv (u.gs.map strv) q∧(∀ j∈q,X.length≤j)∧HLe X X'∧u.gs.length≤6∧
  Z5 u=if Zl k s.A=0 then Qn s k ((Ze k s.A).getD ([],false)) else ([],[],[],false,[]):=by
 have z1 : alc 1 (.agg #[.string ⟨#[]⟩,.string ⟨#[]⟩,.string ⟨#[]⟩,.bool false,.slice none 0 0]) X=some (pt X.length,X++[.cells (usr ([],[])) 1 false false]):=K5 (vs:=usr ([],[])) rfl
 have k1 : HLe X (X++[Zf.cells (usr ([],[])) 1 false false]):=.app _ _
 have c1 : (X++[Zf.cells (usr ([],[])) 1 false false])[X.length]?=some (.cells (usr ([],[])) 1 false false):=ZD
 generalize X++[Zf.cells (usr ([],[])) 1 false false]=X1 at z1 k1 c1
 obtain ⟨X2,e2,k2⟩:=Zqo (n:=n) (k:=k) (h.hle k1)
 have f1 : ∀ v X',WY (R (n+6)) (pt d) (strv k) X=some (v,X')→R (n+7) QA [pt d,strv k] X=some (v,X'):=fun v X' hr=>by rw [R,ZiI rfl];exact hr
 generalize hp : (if Zr k then (Ze k s.A).getD ([],false) else ([],false))=p at e2
 have z2 : ∀ K : Value→M Value,bind (alc 1 (.agg #[.string ⟨#[]⟩,.bool false])) (fun q=>bind (stA 2 q (Zau p)) fun _=>K q) X2=K (pt X2.length) (X2++[.cells [strv p.1,.bool p.2] 1 false false]):=fun K=>K3 (n:=2) (zs:=[strv [],.bool false]) (r:=[strv p.1,.bool p.2]) rfl rfl rfl rfl
 have k3 : HLe X2 (X2++[Zf.cells [strv p.1,.bool p.2] 1 false false]):=.app _ _
 have c3 : (X2++[Zf.cells [strv p.1,.bool p.2] 1 false false])[X2.length]?=some (.cells [strv p.1,.bool p.2] 1 false false):=ZD
 have hlx : X.length < X2.length:=by have:=Jg c1;have:=k2.len;omega
 generalize X2++[Zf.cells [strv p.1,.bool p.2] 1 false false]=X3 at z2 k3 c3
 have c13:=k3 _ _ (k2 _ _ c1)
 have k13:=(k1.trans k2).trans k3
 have put : ∀ {Y : Zc} {o : Zf},HLe X Y→HLe X (Y.set X.length o):=fun hl i v hi=>by
  have:=Jg hi
  rw [List.getElem?_set_ne (by omega)]
  exact hl i v hi
 by_cases he : Zl k s.A=0
 ·obtain ⟨hnm,q0,hq0⟩:=ZeS he
  have hpq : p=q0:=by rw [← hp,hnm,hq0];rfl
  subst hpq
  have q1 : bop .int .neq (iv (Zl k s.A)) (.int .i64 0) X3=some (.bool false,X3):=by rw [Zt,he];rfl
  have h3:=h.hle k13
  have e4 : R (n+6) Zbd [pt r.x,strv k] X3=_:=ZvW (n:=n+5) h3.ix
  have a0 : ∀ Y,HLe X3 Y→ld1 (pa X2.length 0) Y=some (strv p.1,Y):=fun Y hl=>Zu (hl _ _ c3) rfl
  have a1 : ∀ Y,HLe X3 Y→ld1 (pa X2.length 1) Y=some (.bool p.2,Y):=fun Y hl=>Zu (hl _ _ c3) rfl
  obtain ⟨gv,q,X4,e5,r5,k5,o5⟩:=Zn0 (n:=n+2) (m:=k) h3.gr
  have e5 : R (n+6) JL [pt r.g,strv k] X3=_:=e5
  rw [h.ks] at r5
  have hfew : (ofL k s.K s.mem).length≤6:=by
   have h1:=ZeR (m:=k) (K:=s.K) (mem:=s.mem)
   have h2:=h.gr.few
   have h3 : s.K.length=r.G.length:=by rw [← h.ks];simp
   omega
  have hone:=r5.one
  have zb : bld (.agg #[.string ⟨#[]⟩,.string ⟨#[]⟩,.string ⟨#[]⟩,.bool false,.slice none 0 0]) [(0,1,strv k),(1,1,strv p.1),(2,1,strv ((Ze k s.OF).getD [])),(3,1,.bool p.2),(4,1,gv)] X4=some (.agg (Zo.cells ⟨k,p.1,(Ze k s.OF).getD [],p.2,gv,ofL k s.K s.mem⟩).toArray,X4):=by
   obtain ⟨ga,gn,gc,hgv⟩ : ∃ a n c,gv=.slice a n c:=by
    rcases r5 with ⟨_,_,h⟩ | ⟨_,_,_,h,_,_⟩
    ·exact ⟨_,_,_,h⟩
    ·exact ⟨_,_,_,h⟩
   rw [hgv]
   simp [bld,Wq,Value.cells,Y6,strv,splice,Zo.cells]
  have c14:=k5 _ _ c13
  have w4:=WM (vs:=Zo.cells ⟨k,p.1,(Ze k s.OF).getD [],p.2,gv,ofL k s.K s.mem⟩) (n:=5) c14 rfl rfl (by simp only [Zo.cells,List.all_cons,hone.1];rfl)
  have d4 : ldA 5 (pt X.length) (X4.set X.length (.cells (Zo.cells ⟨k,p.1,(Ze k s.OF).getD [],p.2,gv,ofL k s.K s.mem⟩) 1 false false))=some (.agg (Zo.cells ⟨k,p.1,(Ze k s.OF).getD [],p.2,gv,ofL k s.K s.mem⟩).toArray,_):=ZY (n:=5) (ZT c14) rfl
  refine ⟨⟨k,p.1,(Ze k s.OF).getD [],p.2,gv,ofL k s.K s.mem⟩,q,X4.set X.length (.cells (Zo.cells ⟨k,p.1,(Ze k s.OF).getD [],p.2,gv,ofL k s.K s.mem⟩) 1 false false),f1 _ _ ?_,r5.keep fun j hj=>List.getElem?_set_ne (fun e=>?_),fun j hj=>Nat.le_trans k13.len (o5 j hj),put (k13.trans k5),hfew,?_⟩
  ·unfold WY
   rw [Za z1,Za e2,Za Zn,Za Zm,z2,Za q1,Zb,if_neg (by simp),Za Zv,Za Zg,Za h3.l1,Za e4,Za Zn,Za Zm,Za Zg,Za (a0 _ (.refl _)),Za Zg,Za (a1 _ (.refl _)),Za Zv,Za Zg,Za h3.l2,Za e5,Za (a1 _ k5),KD,Za (a0 _ k5),KD,Za zb,Za w4,Za d4,he]
   rfl
  ·have:=o5 j hj
   have:=Jg c13
   omega
  ·rw [if_pos he,hq0]
   rfl
 ·have q1 : bop .int .neq (iv (Zl k s.A)) (.int .i64 0) X3=some (.bool true,X3):=by rw [Zt];simp [he]
  have zb : bld (.agg #[.string ⟨#[]⟩,.string ⟨#[]⟩,.string ⟨#[]⟩,.bool false,.slice none 0 0]) [] X3=some (.agg (usr ([],[])).toArray,X3):=rfl
  have w3:=WM (vs:=usr ([],[])) (n:=5) c13 rfl rfl rfl
  have d3 : ldA 5 (pt X.length) (X3.set X.length (.cells (usr ([],[])) 1 false false))=some (.agg (usr ([],[])).toArray,_):=ZY (n:=5) (ZT c13) rfl
  refine ⟨⟨[],[],[],false,.slice none 0 0,[]⟩,[],X3.set X.length (.cells (usr ([],[])) 1 false false),f1 _ _ ?_,ZE.nil,by simp,put k13,Nat.zero_le _,by rw [if_neg he];rfl⟩
  unfold WY
  rw [Za z1,Za e2,Za Zn,Za Zm,z2,Za q1,Zb,if_pos rfl,Za zb,Za w3,Za d3]
  rfl
abbrev Zbt (s : NSt) : List Tx:=s.A.map (·.1)
theorem Zs3 (h : ND X d r s c) : ∃ v q X',R (n+2) Zam [pt d] X=some (v,X')∧ZE X' v ((YH (Zbt s)).map strv) q∧HLe X X'∧∀ j∈q,X.length≤j:=by
 have e1 : run Tryz.prog np lvs (n+1) Qz [.map (some r.b)] X=some (.func (.func Jd) #[] #[pt X.length],X++[.cells [.map (some r.b)] 1 false false]):=by
  rw [Wh rfl]
  unfold Jm
  rw [Za (ZnR rfl rfl _)]
  rfl
 have l1 : HLe X (X++[.cells [.map (some r.b)] 1 false false]):=.app _ _
 obtain ⟨v,q,H2,e2,r2,l2,o2⟩:=(h.m.hle l1).keys (gks:=Zh0) (gc:=KE) (gk:=Jd) (c:=X.length) (by decide) ZD (Nat.le_trans h.inv.few (by decide)) (fun p hp=>Nat.le_trans (Zhd (h.inv.nm p hp).1) (by decide))
 have e2' : run Tryz.prog np lvs (n+1) J9 [.func (.func Jd) #[] #[pt X.length],.func (.func KE) #[] #[]] (X++[.cells [.map (some r.b)] 1 false false])=some (v,H2):=by
  rw [ZbQ (show np J9=some (ZcS Zh0 KE) from rfl)]
  exact e2
 refine ⟨v,q,H2,?_,r2,l1.trans l2,fun j hj=>Nat.le_trans l1.len (o2 j hj)⟩
 rw [R,Zjy rfl]
 unfold Zc8
 rw [Za Zv,Za Zg,Za h.l0,Za e1,Za e2']
 rfl
structure ZdC (X0 X : Zc) (sl : Value) (us : List Zo) (q : List Nat) : Prop where
 r : Q7 5 X sl (us.map Zo.cells) q
 o : ∀ j∈q,X0.length≤j
 u : ∀ w∈us,∃ qu,ZE X w.gv (w.gs.map strv) qu∧(∀ j∈qu,X0.length≤j∧j∉q)∧w.gs.length≤6
theorem ZdC.us {X0 X : Zc} {sl : Value} {us : List Zo} {q : List Nat} (h : ZdC X0 X sl us q) : Qg X sl us:=⟨h.r.rd,fun w hw=>by
 obtain ⟨qu,h1,_,h2⟩:=h.u w hw
 exact ⟨h1.rd,h1.one.1,by omega⟩⟩
theorem ZdC.hle {X0 X Y : Zc} {sl : Value} {us : List Zo} {q : List Nat} (h : ZdC X0 X sl us q) (hl : HLe X Y) : ZdC X0 Y sl us q:=
 ⟨h.r.step hl.step (by simp),h.o,fun w hw=>by
  obtain ⟨qu,h1,h2,h3⟩:=h.u w hw
  exact ⟨qu,h1.step hl.step (by simp),h2,h3⟩⟩
theorem ZdC.push {X0 : Zc} {sl : Value} {us : List Zo} {q qu : List Nat} {w : Zo} (h : ZdC X0 X sl us q) (hl : us.length≤1000) (hr : ZE X w.gv (w.gs.map strv) qu) (hq : ∀ j∈qu,X0.length≤j∧j∉q) (h6 : w.gs.length≤6) (hle : HLe X0 X) :
  ∃ x X1 sl' X2 q',bsl 5 1 (.agg #[.string ⟨#[]⟩,.string ⟨#[]⟩,.string ⟨#[]⟩,.bool false,.slice none 0 0]) [(0,5,.agg w.cells.toArray)] X=some (x,X1)∧app 5 80 sl x X1=some (sl',X2)∧ZdC X0 X2 sl' (us++[w]) q'∧HLe X0 X2:=by
 have hone : w.cells.all oneCell=true:=by simp only [Zo.cells,List.all_cons,hr.one.1];rfl
 have x4:=Zk5 (es:=5) (z:=.agg #[.string ⟨#[]⟩,.string ⟨#[]⟩,.string ⟨#[]⟩,.bool false,.slice none 0 0]) (H:=X) rfl (show w.cells.length=5 from rfl) hone
 have l1 : HLe X (X++[Zf.cells w.cells 5 false false]):=.app _ _
 have s1 : SlN 5 (X++[Zf.cells w.cells 5 false false]) (.slice (some ⟨X.length,0,none⟩) 1 1) [w.cells]:=SlN.whole (rows:=[w.cells]) (c:=1) (e:=5) (g:=false) (ro:=false) (by rw [ZD];simp) (by simp)
 generalize X++[Zf.cells w.cells 5 false false]=X1 at x4 l1 s1
 have h1:=h.hle l1
 obtain ⟨sl',X2,q',x5,hn2,s2⟩:=h1.r.push (b:=80) s1 rfl (by simp;omega) (by simp;omega)
 have hm:=(hle.trans l1).more s2 h.o
 rw [← List.map_singleton (f:=Zo.cells),← List.map_append] at hn2
 have hnew : ∀ (v : Zo) (qv : List Nat),ZE X1 v.gv (v.gs.map strv) qv→(∀ j∈qv,X0.length≤j∧j∉q)→ZE X2 v.gv (v.gs.map strv) qv∧∀ j∈qv,X0.length≤j∧j∉q':=fun v qv hv hj=>⟨hv.step s2 (fun j hm=>(hj j hm).2),fun j hm=>⟨(hj j hm).1,fun hq=>by
  rcases s2.own j hq with h2 | h2
  ·exact (hj j hm).2 h2
  ·have:=hv.lt j hm;omega⟩⟩
 refine ⟨_,X1,sl',X2,q',x4,x5,⟨hn2,hm.2,fun v hv=>?_⟩,hm.1⟩
 rcases List.mem_append.1 hv with hv | hv
 ·obtain ⟨qv,a1,a2,a3⟩:=h1.u v hv
  obtain ⟨b1,b2⟩:=hnew v qv a1 a2
  exact ⟨qv,b1,b2,a3⟩
 ·have hv : v=w:=by simpa using hv
  subst hv
  obtain ⟨b1,b2⟩:=hnew v qu (hr.step l1.step (by simp)) hq
  exact ⟨qu,b1,b2,h6⟩
theorem Zqt {v : Value} {q0 : List Nat} {ks : List Tx} {X0 : Zc} (h : ND X0 d r s c) (hr : ZE X0 v (ks.map strv) q0) (hk : ks.length≤100) (hK : ∀ k∈ks,Zl k s.A=0) : ∀ (t j : Nat) (sl : Value) (q : List Nat) (us : List Zo) (X : Zc),ks.length - j=t→j≤ks.length→us.length≤j→HLe X0 X→ZdC X0 X sl us q→
  ∃ X' sl' q' us',Zh (c5 (YZ.l1 (R (n+7)))) [pt d,sl,v,iv ks.length,iv j] X=some (.ext 0 [sl'],X')∧ZdC X0 X' sl' (us++us') q'∧us'.map Z5=(ks.drop j).map (fun k=>Qn s k ((Ze k s.A).getD ([],false)))∧HLe X0 X'
 | 0,j,sl,q,us,X,ht,hj,hu,hl,ho=>by
  have : j=ks.length:=by omega
  subst this
  rw [List.drop_length]
  refine ⟨X,sl,q,[],Z8 ?_,by rw [List.append_nil];exact ho,rfl,hl⟩
  rw [Qv]
  unfold YZ.l1
  rw [Za Zq,Zb,if_neg (by simp)]
  rfl
 | t+1,j,sl,q,us,X,ht,hj,hu,hl,ho=>by
  have hjl : j < ks.length:=by omega
  have hlt : (j : Int) < ks.length:=by omega
  have hg:=List.getElem?_eq_getElem hjl
  have hd:=List.drop_eq_getElem_cons hjl
  generalize ks[j]=k at hg hd
  have hrx:=hr.step hl.step (by simp)
  have x1:=hrx.ix (i:=j) (by simpa using hjl) .i64 X
  have x2:=hrx.ldx (Wi hg)
  have he:=hK k (List.mem_of_getElem? hg)
  obtain ⟨w,qw,X1,e1,r1,o1,l1,h6,hkey⟩:=ZfE (n:=n) (k:=k) (h.hle hl)
  rw [if_pos he] at hkey
  rw [he] at e1
  have ho1:=ho.hle l1
  have hone : w.cells.all oneCell=true:=by simp only [Zo.cells,List.all_cons,r1.one.1];rfl
  have z2 : ∀ K : Value→M Out,bind (alc 1 (.agg #[.string ⟨#[]⟩,.string ⟨#[]⟩,.string ⟨#[]⟩,.bool false,.slice none 0 0])) (fun p=>bind (stA 5 p (.agg w.cells.toArray)) fun _=>K p) X1=K (pt X1.length) (X1++[.cells w.cells 1 false false]):=fun K=>K3 (n:=5) (zs:=[.string ⟨#[]⟩,.string ⟨#[]⟩,.string ⟨#[]⟩,.bool false,.slice none 0 0]) (r:=w.cells) rfl rfl rfl hone
  have k2 : HLe X1 (X1++[Zf.cells w.cells 1 false false]):=.app _ _
  have c2 : (X1++[Zf.cells w.cells 1 false false])[X1.length]?=some (.cells w.cells 1 false false):=ZD
  generalize X1++[Zf.cells w.cells 1 false false]=X2 at z2 k2 c2
  have d2 : ldA 5 (pt X1.length) X2=some (.agg w.cells.toArray,X2):=ZY (n:=5) c2 rfl
  have hq : ∀ i∈qw,X0.length≤i∧i∉q:=fun i hi=>by
   have h1:=o1 i hi
   have h2:=hl.len
   exact ⟨by omega,fun hm=>by have:=ho.r.lt i hm;omega⟩
  obtain ⟨y,X3,sl',X4,q',a1,a2,ho4,l4⟩:=(ho1.hle k2).push (by omega) (r1.step k2.step (by simp)) hq h6 ((hl.trans l1).trans k2)
  obtain ⟨X5,sl5,q5,us5,e5,o5,u5,l5⟩:=Zqt h hr hk hK t (j+1) sl' q' (us++[w]) X4 (by omega) (by omega) (by rw [List.length_append,List.length_singleton];omega) l4 ho4
  refine ⟨X5,sl5,q5,w :: us5,(ZI ?_).trans e5,by rw [List.append_assoc] at o5;exact o5,?_,l5⟩
  ·rw [Qv]
   unfold YZ.l1
   rw [Za Zq,Zb,if_pos (by simpa using hlt),Za x1,Za x2,Za e1,Za Zn,Za Zm,z2,Za d2,Za a1,Za a2,Za ZC,QG (by omega)]
   rfl
  ·rw [hd,List.map_cons,List.map_cons,u5,hkey]
def Zkg (s : NSt) : List ZfN:=(YH (Zbt s)).map fun k=>Qn s k ((Ze k s.A).getD ([],false))
theorem Zta (h : ∀ p∈s.A,Zr p.1=true) {k : Tx} (hk : k∈Zbt s) : Zl k s.A=0:=by
 obtain ⟨p,hp,rfl⟩:=List.mem_map.1 hk
 unfold Zl
 rw [h p hp,ZgR,decide_eq_true (List.mem_map.2 ⟨p,hp,rfl⟩)]
 rfl
theorem Zu6 (h : ND X d r s c) : ∃ v q us X',R (n+8) Wb [pt d] X=some (v,X')∧ZdC X X' v us q∧us.map Z5=Zkg s∧HLe X X':=by
 obtain ⟨v,q,X1,e1,r1,l1,o1⟩:=Zs3 (n:=n+5) h
 have e1 : R (n+7) Zam [pt d] X=_:=e1
 have hfew : (YH (Zbt s)).length≤12:=by
  rw [Zfr]
  have:=h.inv.few
  simpa using this
 obtain ⟨X2,sl,q2,us,e2,o2,u2,l2⟩:=Zqt (n:=n) (h.hle l1) r1 (by omega) (fun k hk=>Zta (fun p hp=>(h.inv.nm p hp).1) (ZcE.1 hk)) (YH (Zbt s)).length 0 (.slice none 0 0) [] [] X1 (by omega) (by omega) (Nat.le_refl _) (.refl _) ⟨Q7.nil,by simp,by simp⟩
 have e2 : Zh (c5 (YZ.l1 (R (n+7)))) [pt d,.slice none 0 0,v,iv (YH (Zbt s)).length,.int .i64 0] X1=_:=e2
 rw [List.nil_append] at o2
 rw [List.drop_zero] at u2
 have hlen : ZB v X1=some (iv (YH (Zbt s)).length,X1):=by have:=r1.rd.len (H':=X1);simpa using this
 have hx:=l1.len
 refine ⟨sl,q2,us,X2,?_,⟨o2.r,fun j hj=>Nat.le_trans hx (o2.o j hj),fun w hw=>?_⟩,u2,l1.trans l2⟩
 ·rw [R,ZlI rfl]
  unfold YZ
  rw [Za e1,Za hlen,QX e2,ZN]
  rfl
 ·obtain ⟨qu,a1,a2,a3⟩:=o2.u w hw
  exact ⟨qu,a1,fun j hj=>⟨Nat.le_trans hx (a2 j hj).1,(a2 j hj).2⟩,a3⟩
end
end Go.Proofs.YtnnehafmjfmbnaaGreatDoor.A
namespace Go.Proofs.YtnnehafmjfmbnaaGreatDoor.A
set_option linter.unusedVariables false
set_option linter.unusedSimpArgs false
open Go.Proofs Go.Proofs.YtnnehafmjfmbnaaGreatDoor
def ZU (k : Tx) (A : AMp) : Acc:=(Ze k A).getD ([],false)
def Qp (k h : Tx) (A : AMp) : Int:=if Zr k then (if ZaH h then (if (Ze k A).isSome then 9 else if 12≤A.length then 7 else 0) else 4) else 10
def JY (k h : Tx) (s : NSt) : NSt:=if Qp k h s.A=0 then { s with A:=QD k (h,false) s.A } else s
def QS (k : Tx) (s : NSt) : NSt:=if Zl k s.A=0 then { s with A:=JR k s.A,OW:=Wo k s.OW s.OF,OF:=Ko k s.OF,mem:=Zc2 k s.mem } else s
def Qq (k h : Tx) (A : AMp) : Int:=if Zr k then (if ZaH h then (if (Ze k A).isSome then (if (ZU k A).2 then 12 else 0) else 8) else 4) else 10
def J8 (k h : Tx) (s : NSt) : NSt:=if Qq k h s.A=0 then { s with A:=QD k (h,(ZU k s.A).2) s.A } else s
def QC (k m : Tx) (s : NSt) : Int:=if Zr k then (if m≠[]∧QF m=false then 11 else if (Ze k s.A).isSome then KL k m s.OW else 8) else 10
def Qr (k m : Tx) (s : NSt) : NSt:=if QC k m s=0 then { s with OW:=Zmc k m s.OW s.OF,OF:=Zef k m s.OW s.OF } else s
def JI (k : Tx) (b : Bool) (A : AMp) : Int:=if Zl k A=0 then (if (ZU k A).2=b then 12 else 0) else Zl k A
def JJ (k : Tx) (b : Bool) (s : NSt) : NSt:=if JI k b s.A=0 then { s with A:=QD k ((ZU k s.A).1,b) s.A } else s
def Ji (o t : Tx) (A : AMp) : Int:=if Zr o && Zr t then (if (Ze o A).isSome then (if (Ze t A).isSome then 9 else 0) else 8) else 10
def Ys (o t : Tx) (s : NSt) : NSt:=if Ji o t s.A=0 then { s with A:=QD t (ZU o s.A) (JR o s.A),OW:=Zrp o t s.OW s.OF,OF:=ZfW o t s.OF,mem:=Zak o t s.mem } else s
def Zhh (g : Tx) (s : NSt) : NSt:={ s with K:=Zck g s.K }
def ZdL (g : Tx) (s : NSt) : NSt:={ s with K:=Za1 g s.K,mem:=if QL g s.K=0 then W7 g s.mem else s.mem }
def JW (g k : Tx) (A : AMp) : Int:=if Zr g then Zl k A else 10
def Kn (g k : Tx) (s : NSt) : Int:=if JW g k s.A=0 then Zb1 g k s.K s.mem else JW g k s.A
def K4 (g k : Tx) (s : NSt) : NSt:=if Kn g k s=0 then { s with mem:=ZbE g k s.mem } else s
def YQ (g k : Tx) (s : NSt) : Int:=if JW g k s.A=0 then Za0 g k s.K s.mem else JW g k s.A
def Kh (g k : Tx) (s : NSt) : NSt:=if YQ g k s=0 then { s with mem:=ZbI g k s.mem } else s
theorem ZcJ {α : Type} {k j : Tx} {v : α} {m : List (Tx × α)} (h : (Ze j m).isSome=true∨j=k) : (Ze j (QD k v m)).isSome=true:=by
 by_cases e : j=k
 ·rw [e,K1];rfl
 ·rw [Yz e];exact h.resolve_right e
theorem Jp.putA {s : NSt} (h : Jp s) {k : Tx} {v : Acc} (hk : Zr k=true) (hv : ZaH v.1=true) (hl : (Ze k s.A).isSome=true∨s.A.length < 12) : Jp { s with A:=QD k v s.A } where
 nm p hp:=by
  rcases Zhk hp with rfl | hp
  ·exact ⟨hk,hv⟩
  ·exact h.nm p hp
 few:=by
  show (QD k v s.A).length≤12
  rw [ZdJ]
  have:=h.few
  split
  ·exact this
  ·rename_i hn
   rcases hl with h1 | h1
   ·exact absurd h1 hn
   ·omega
 ofA n hn:=ZcJ (.inl (h.ofA n hn))
 memA g n hn:=ZcJ (.inl (h.memA g n hn))
 good:=h.good
theorem ZfJ {k h : Tx} {A : AMp} (he : Qp k h A=0) : Zr k=true∧ZaH h=true∧Ze k A=none∧A.length < 12:=by
 unfold Qp at he
 cases h1 : Zr k <;> cases h2 : ZaH h <;> rw [h1,h2] at he <;> try simp at he
 by_cases h3 : (Ze k A).isSome=true
 ·rw [if_pos h3] at he;simp at he
 ·rw [if_neg h3] at he
  by_cases h4 : 12≤A.length
  ·rw [if_pos h4] at he;simp at he
  ·exact ⟨rfl,rfl,by simpa using h3,by omega⟩
theorem Jp.create {s : NSt} (h : Jp s) (k x : Tx) : Jp (JY k x s):=by
 unfold JY
 split
 ·rename_i he
  obtain ⟨h1,h2,h3,h4⟩:=ZfJ he
  exact h.putA h1 h2 (.inr h4)
 ·exact h
theorem Jp.delete {s : NSt} (h : Jp s) (k : Tx) : Jp (QS k s):=by
 unfold QS
 split
 ·exact {
   nm:=fun p hp=>h.nm p (List.mem_filter.1 hp).1
   few:=Nat.le_trans (List.length_filter_le _ _) h.few
   ofA:=fun n hn=>by
    have hne : n≠k:=fun e=>by rw [e,ZbZ] at hn;cases hn
    show (Ze n (JR k s.A)).isSome=true
    rw [Js hne]
    rw [Zcq hne] at hn
    exact h.ofA n hn
   memA:=fun g n hn=>by
    have hn : (s.mem g n && !(n==k))=true:=hn
    simp only [Bool.and_eq_true,Bool.not_eq_true',beq_eq_false_iff_ne] at hn
    show (Ze n (JR k s.A)).isSome=true
    rw [Js hn.2]
    exact h.memA g n hn.1
   good:=fun n m hn=>by
    have hne : n≠k:=fun e=>by
     have hn : Ze n (Ko k s.OF)=some m:=hn
     rw [e,ZbZ] at hn;cases hn
    have hn : Ze n (Ko k s.OF)=some m:=hn
    rw [Zcq hne] at hn
    exact h.good n m hn }
 ·exact h
theorem ZbK {k : Tx} {A : AMp} (h : (Ze k A).isSome=true) : Ze k A=some (ZU k A):=by
 unfold ZU
 cases ha : Ze k A with
 | none=>rw [ha] at h;cases h
 | some p=>rfl
theorem Zhj {k h : Tx} {A : AMp} (he : Qq k h A=0) : Zr k=true∧ZaH h=true∧(Ze k A).isSome=true∧(ZU k A).2=false:=by
 unfold Qq at he
 cases h1 : Zr k <;> cases h2 : ZaH h <;> rw [h1,h2] at he <;> try simp at he
 cases h3 : (Ze k A).isSome <;> cases h4 : (ZU k A).2 <;> rw [h3,h4] at he <;> simp at he
 exact ⟨rfl,rfl,rfl,rfl⟩
theorem Jp.setHash {s : NSt} (h : Jp s) (k x : Tx) : Jp (J8 k x s):=by
 unfold J8
 split
 ·rename_i he
  obtain ⟨h1,h2,h3,h4⟩:=Zhj he
  exact h.putA h1 h2 (.inl h3)
 ·exact h
theorem Zq9 {k : Tx} {b : Bool} {A : AMp} (he : JI k b A=0) : Zl k A=0∧(ZU k A).2≠b:=by
 unfold JI at he
 by_cases h1 : Zl k A=0
 ·rw [if_pos h1] at he
  refine ⟨h1,fun e=>?_⟩
  rw [if_pos e] at he;simp at he
 ·rw [if_neg h1] at he;exact absurd he h1
theorem Jp.disable {s : NSt} (h : Jp s) (k : Tx) (b : Bool) : Jp (JJ k b s):=by
 unfold JJ
 split
 ·rename_i he
  obtain ⟨h1,_⟩:=Zq9 he
  obtain ⟨h2,p,h3⟩:=ZeS h1
  have h4 : (Ze k s.A).isSome=true:=by rw [h3];rfl
  refine h.putA h2 ?_ (.inl h4)
  have:=h.nm _ (K9 (ZbK h4))
  exact this.2
 ·exact h
theorem Zlz {k m : Tx} {s : NSt} (he : QC k m s=0) : Zr k=true∧(m=[]∨QF m=true)∧(Ze k s.A).isSome=true∧KL k m s.OW=0:=by
 unfold QC at he
 cases h1 : Zr k
 ·rw [h1] at he;simp at he
 ·rw [h1] at he
  simp only [if_true] at he
  by_cases h2 : m≠[]∧QF m=false
  ·rw [if_pos h2] at he;simp at he
  ·rw [if_neg h2] at he
   cases h3 : (Ze k s.A).isSome
   ·rw [h3] at he;simp at he
   ·rw [h3] at he
    simp only [if_true] at he
    refine ⟨rfl,?_,rfl,he⟩
    by_cases h4 : m=[]
    ·exact .inl h4
    ·refine .inr ?_
     cases h5 : QF m
     ·exact absurd ⟨h4,h5⟩ h2
     ·rfl
theorem Zi0 {k m : Tx} {OW OF : YJ} (he : KL k m OW=0) (n : Tx) : Ze n (Zef k m OW OF)=if n=k then (if m=[] then none else some (Qa m)) else Ze n OF:=by
 unfold Zef
 rw [if_pos he]
 by_cases hm : m=[]
 ·rw [if_pos hm,if_pos hm]
  by_cases hn : n=k
  ·rw [if_pos hn,hn,ZbZ]
  ·rw [if_neg hn,Zcq hn]
 ·rw [if_neg hm,if_neg hm]
  by_cases hn : n=k
  ·rw [if_pos hn,hn,K1]
  ·rw [if_neg hn,Yz hn,Zcq hn]
theorem ZjJ {m : Tx} : Qa (Qa m)=Qa m:=by
 unfold Qa
 rw [List.map_map]
 refine List.map_congr_left fun b _=>?_
 exact (Ze5 (p:=fun b=>YY (YY b)=YY b) (by decide+kernel)) b
theorem Zp3 {m : Tx} (h : QF m=true) : QF (Qa m)=true:=by
 unfold QF at h ⊢
 rw [ZjJ,show (Qa m).length=m.length from by simp [Qa]]
 exact h
theorem Jp.setMail {s : NSt} (h : Jp s) (k m : Tx) : Jp (Qr k m s):=by
 unfold Qr
 split
 ·rename_i he
  obtain ⟨h1,h2,h3,h4⟩:=Zlz he
  exact {
   nm:=h.nm
   few:=h.few
   ofA:=fun n hn=>by
    have hn : (Ze n (Zef k m s.OW s.OF)).isSome=true:=hn
    rw [Zi0 h4] at hn
    by_cases e : n=k
    ·rw [e];exact h3
    ·rw [if_neg e] at hn;exact h.ofA n hn
   memA:=h.memA
   good:=fun n v hn=>by
    have hn : Ze n (Zef k m s.OW s.OF)=some v:=hn
    rw [Zi0 h4] at hn
    by_cases e : n=k
    ·rw [if_pos e] at hn
     by_cases hm : m=[]
     ·rw [if_pos hm] at hn;cases hn
     ·rw [if_neg hm] at hn
      have hv : Qa m=v:=Option.some.inj hn
      rw [← hv]
      exact ⟨Zp3 (h2.resolve_left hm),ZjJ⟩
    ·rw [if_neg e] at hn;exact h.good n v hn }
 ·exact h
theorem ZdX {o t : Tx} {A : AMp} (he : Ji o t A=0) : Zr o=true∧Zr t=true∧(Ze o A).isSome=true∧Ze t A=none∧o≠t:=by
 unfold Ji at he
 cases h1 : Zr o <;> cases h2 : Zr t <;> rw [h1,h2] at he <;> try simp at he
 cases h3 : (Ze o A).isSome <;> cases h4 : (Ze t A).isSome <;> rw [h3,h4] at he <;> simp at he
 have h4 : Ze t A=none:=by simpa using h4
 refine ⟨rfl,rfl,rfl,h4,fun e=>?_⟩
 rw [e,h4] at h3;cases h3
theorem Jp.ofN {s : NSt} (h : Jp s) {t : Tx} (ht : Ze t s.A=none) : Ze t s.OF=none:=by
 cases ho : Ze t s.OF with
 | none=>rfl
 | some v=>
  have:=h.ofA t (by rw [ho];rfl)
  rw [ht] at this;cases this
theorem Jp.memN {s : NSt} (h : Jp s) {t : Tx} (ht : Ze t s.A=none) (g : Tx) : s.mem g t=false:=by
 cases ho : s.mem g t with
 | false=>rfl
 | true=>
  have:=h.memA g t ho
  rw [ht] at this;cases this
theorem Zi4 {o t : Tx} {OF : YJ} (ht : Zr t=true) (hn : Ze t OF=none) (hot : o≠t) (n : Tx) : Ze n (ZfW o t OF)=if n=t then Ze o OF else if n=o then none else Ze n OF:=by
 unfold ZfW ZeM
 rw [ht,hn]
 cases ho : Ze o OF with
 | none=>
  simp only [if_true]
  rw [if_neg (by decide)]
  by_cases h1 : n=t
  ·rw [if_pos h1,h1,hn]
  ·rw [if_neg h1]
   by_cases h2 : n=o
   ·rw [if_pos h2,h2,ho]
   ·rw [if_neg h2]
 | some m=>
  simp only [Option.isSome_none,Bool.false_and,if_true,Option.getD_some]
  rw [if_pos (by simp)]
  by_cases h1 : n=t
  ·rw [if_pos h1,h1,K1]
  ·rw [if_neg h1,Yz h1]
   by_cases h2 : n=o
   ·rw [if_pos h2,h2,ZbZ]
   ·rw [if_neg h2,Zcq h2]
theorem Jp.rename {s : NSt} (h : Jp s) (o t : Tx) : Jp (Ys o t s):=by
 unfold Ys
 split
 ·rename_i he
  obtain ⟨h1,h2,h3,h4,h5⟩:=ZdX he
  have hof:=h.ofN h4
  exact {
   nm:=fun p hp=>by
    rcases Zhk hp with rfl | hp
    ·exact ⟨h2,(h.nm _ (K9 (ZbK h3))).2⟩
    ·exact h.nm p (List.mem_filter.1 hp).1
   few:=by
    show (QD t (ZU o s.A) (JR o s.A)).length≤12
    rw [ZdJ]
    have hf:=h.few
    have hlt : (JR o s.A).length < s.A.length:=by
     unfold JR
     rw [List.length_filter_lt_length_iff_exists]
     exact ⟨_,K9 (ZbK h3),by simp⟩
    split <;> omega
   ofA:=fun n hn=>by
    have hn : (Ze n (ZfW o t s.OF)).isSome=true:=hn
    rw [Zi4 h2 hof h5] at hn
    show (Ze n (QD t (ZU o s.A) (JR o s.A))).isSome=true
    by_cases e1 : n=t
    ·exact ZcJ (.inr e1)
    ·rw [if_neg e1] at hn
     by_cases e2 : n=o
     ·rw [if_pos e2] at hn;cases hn
     ·rw [if_neg e2] at hn
      exact ZcJ (.inl (by rw [Js e2];exact h.ofA n hn))
   memA:=fun g n hn=>by
    have hn : Zak o t s.mem g n=true:=hn
    show (Ze n (QD t (ZU o s.A) (JR o s.A))).isSome=true
    by_cases e1 : n=t
    ·exact ZcJ (.inr e1)
    ·have hm : s.mem g n=true∧n≠o:=by
      unfold Zak at hn
      cases hg : s.mem g o
      ·rw [hg] at hn
       simp only [Bool.false_eq_true,if_false] at hn
       exact ⟨hn,fun e=>by rw [e,hg] at hn;cases hn⟩
      ·rw [hg] at hn
       simp only [if_true,Bool.or_eq_true,beq_iff_eq,Bool.and_eq_true,Bool.not_eq_true',beq_eq_false_iff_ne] at hn
       rcases hn with hn | hn
       ·exact absurd hn e1
       ·exact hn
     exact ZcJ (.inl (by rw [Js hm.2];exact h.memA g n hm.1))
   good:=fun n v hn=>by
    have hn : Ze n (ZfW o t s.OF)=some v:=hn
    rw [Zi4 h2 hof h5] at hn
    by_cases e1 : n=t
    ·rw [if_pos e1] at hn;exact h.good o v hn
    ·rw [if_neg e1] at hn
     by_cases e2 : n=o
     ·rw [if_pos e2] at hn;cases hn
     ·rw [if_neg e2] at hn;exact h.good n v hn }
 ·exact h
theorem Jp.make {s : NSt} (h : Jp s) (g : Tx) : Jp (Zhh g s):=⟨h.nm,h.few,h.ofA,h.memA,h.good⟩
theorem Jp.drop {s : NSt} (h : Jp s) (g : Tx) : Jp (ZdL g s):=by
 refine ⟨h.nm,h.few,h.ofA,fun k n hn=>?_,h.good⟩
 have hn : (if QL g s.K=0 then W7 g s.mem else s.mem) k n=true:=hn
 split at hn
 ·unfold W7 at hn
  simp only [Bool.and_eq_true] at hn
  exact h.memA k n hn.1
 ·exact h.memA k n hn
theorem Zh1 {g k : Tx} {A : AMp} (h : JW g k A=0) : Zr g=true∧Zl k A=0:=by
 unfold JW at h
 cases hg : Zr g
 ·rw [hg] at h;simp at h
 ·rw [hg] at h;exact ⟨rfl,h⟩
theorem Jp.join {s : NSt} (h : Jp s) (g k : Tx) : Jp (K4 g k s):=by
 unfold K4
 split
 ·rename_i he
  unfold Kn at he
  by_cases hm : JW g k s.A=0
  ·obtain ⟨_,h2⟩:=Zh1 hm
   obtain ⟨_,p,h3⟩:=ZeS h2
   refine ⟨h.nm,h.few,h.ofA,fun j n hn=>?_,h.good⟩
   have hn : (s.mem j n || (j==g && n==k))=true:=hn
   simp only [Bool.or_eq_true,Bool.and_eq_true,beq_iff_eq] at hn
   rcases hn with hn | ⟨_,hn⟩
   ·exact h.memA j n hn
   ·show (Ze n s.A).isSome=true
    rw [hn,h3];rfl
  ·rw [if_neg hm] at he;exact absurd he hm
 ·exact h
theorem Jp.leave {s : NSt} (h : Jp s) (g k : Tx) : Jp (Kh g k s):=by
 unfold Kh
 split
 ·refine ⟨h.nm,h.few,h.ofA,fun j n hn=>?_,h.good⟩
  have hn : (s.mem j n && !(j==g && n==k))=true:=hn
  simp only [Bool.and_eq_true] at hn
  exact h.memA j n hn.1
 ·exact h
end Go.Proofs.YtnnehafmjfmbnaaGreatDoor.A
namespace Go.Proofs.YtnnehafmjfmbnaaGreatDoor.A
set_option linter.unusedVariables false
set_option linter.unusedSimpArgs false
open Go.Proofs Go.Proofs.YtnnehafmjfmbnaaGreatDoor
section
variable {X X' : Zc} {n d c c' : Nat} {r : NR} {s : NSt} {k h m t o g : Tx}
theorem NR.mem_b (r : NR) : r.b∈r.own:=by simp [NR.own]
theorem NR.mem_o (r : NR) : r.o∈r.own:=by simp [NR.own]
theorem NR.mem_a (r : NR) : r.a∈r.own:=by simp [NR.own]
theorem NR.mem_g (r : NR) : ∀ j∈QU r.o2 r.G,j∈r.own:=fun j hj=>by
 unfold NR.own
 exact List.mem_cons_of_mem _ (List.mem_cons_of_mem _ (List.mem_cons_of_mem _ hj))
theorem ND0.more (hd : ND0 X d r s c) (hc : c≤c') : ND0 X d r s c':=⟨hd.cell,hd.m,hd.ix,hd.gr.more hc (fun _ _=>rfl),hd.ks,hd.dis⟩
theorem ND0.setA (hd : ND0 X d r s c) {A' : AMp} (m' : JS Zau X' r.b A') (hs : ZH [r.b] X [r.b] X') : ND0 X' d r { s with A:=A' } c∧ZH r.own X r.own X':=by
 obtain ⟨h1,h2,h3,_,_⟩:=hd.dis
 have nb : ∀ {j},j∉r.own→j∉[r.b]:=fun hj e=>hj (by rw [List.mem_singleton.1 e];exact r.mem_b)
 refine ⟨⟨hs.get hd.cell (nb hd.dnot),m',hd.ix.step hs (nb hd.xnot) (by simpa using Ne.symm h1) (by simpa using Ne.symm h2),hd.gr.step hs (nb hd.gnot) (fun j hj e=>h3 ?_),hd.ks,hd.dis⟩,hs.mono2 (by simpa using r.mem_b)⟩
 rw [← List.mem_singleton.1 e];exact hj
theorem ND0.setI (hd : ND0 X d r s c) {OW' OF' : YJ} (i' : Idx X' r.x r.o r.a OW' OF') (hs : ZH [r.o,r.a] X [r.o,r.a] X') : ND0 X' d r { s with OW:=OW',OF:=OF' } c∧ZH r.own X r.own X':=by
 obtain ⟨h1,h2,h3,h4,h5⟩:=hd.dis
 have no : ∀ j∈[r.o,r.a],j∈r.own:=fun j hj=>by
  simp only [List.mem_cons,List.not_mem_nil,or_false] at hj
  rcases hj with rfl | rfl
  ·exact r.mem_o
  ·exact r.mem_a
 refine ⟨⟨hs.get hd.cell (fun e=>hd.dnot (no _ e)),hd.m.step hs (by simp [h1,h2]),i',hd.gr.step hs (fun e=>hd.gnot (no _ e)) (fun j hj e=>?_),hd.ks,hd.dis⟩,hs.mono2 no⟩
 simp only [List.mem_cons,List.not_mem_nil,or_false] at e
 rcases e with rfl | rfl
 ·exact h4 hj
 ·exact h5 hj
theorem ND0.setG (hd : ND0 X d r s c) {G' : ZbM} {mem' : Mem} {K' : List Tx} (g' : Grp X' r.g r.o2 G' mem' c') (hs : ZH (QU r.o2 r.G) X (QU r.o2 G') X') (hk : ZJ G'=K') : ND0 X' d { r with G:=G' } { s with K:=K',mem:=mem' } c'∧ZH r.own X (NR.own { r with G:=G' }) X':=by
 obtain ⟨h1,h2,h3,h4,h5⟩:=hd.dis
 have hb:=hd.isMap r.mem_b
 have ho:=hd.isMap r.mem_o
 have ha:=hd.isMap r.mem_a
 have new : ∀ j,j < X.length→j∉QU r.o2 r.G→j∉QU r.o2 G':=fun j hj hn hm=>by
  rcases hs.own j hm with e | e
  ·exact hn e
  ·omega
 refine ⟨⟨hs.get hd.cell (fun e=>hd.dnot (r.mem_g _ e)),hd.m.step hs h3,hd.ix.step hs (fun e=>hd.xnot (r.mem_g _ e)) h4 h5,g',hk,⟨h1,h2,new _ hb.1 h3,new _ ho.1 h4,new _ ha.1 h5⟩⟩,hs.more r.mem_g (fun j hj=>?_)⟩
 unfold NR.own at hj ⊢
 rcases List.mem_cons.1 hj with rfl | hj
 ·exact .inl (by simp)
 ·rcases List.mem_cons.1 hj with rfl | hj
  ·exact .inl (by simp)
  ·rcases List.mem_cons.1 hj with rfl | hj
   ·exact .inl (by simp)
   ·exact .inr (.inl hj)
theorem ZbD (hd : ND X d r s c) : ∃ (p : Nat) (X2 : Zc),(∀ {β : Type} (K : Value→Value→M β),bind (R (n+9) Qs [pt d,strv k]) (fun v12=>bind (Zk v12 0) fun v13=>bind (Zk v12 1) fun v14=>bind (alc 1 (.agg #[.string ⟨#[]⟩,.bool false])) fun v7=>bind (stA 2 v7 v13) fun _=>K v7 v14) X=K (pt p) (iv (Zl k s.A)) X2)∧
  X2[p]?=some (.cells [strv (if Zr k then ZU k s.A else ([],false)).1,.bool (if Zr k then ZU k s.A else ([],false)).2] 1 false false)∧HLe X X2∧X.length≤p:=by
 obtain ⟨X1,e1,k1⟩:=Zqo (n:=n+3) (k:=k) hd
 have e1 : R (n+9) Qs [pt d,strv k] X=some (.tuple #[Zau (if Zr k then ZU k s.A else ([],false)),iv (Zl k s.A)],X1):=e1
 generalize (if Zr k then ZU k s.A else ([],false))=a at e1
 refine ⟨X1.length,X1++[.cells [strv a.1,.bool a.2] 1 false false],fun {β} K=>?_,ZD,k1.trans (.app _ _),k1.len⟩
 rw [Za e1,Za Zn,Za Zm]
 exact K3 (n:=2) (zs:=[strv [],.bool false]) (r:=[strv a.1,.bool a.2]) (k:=fun v7=>K v7 (iv (Zl k s.A))) rfl rfl rfl rfl
theorem Zpi {p : Nat} {X2 X3 : Zc} {own : List Nat} {ob : Zf} (hle : HLe X X2) (hp : X.length≤p) (hs : ZH own (X2.set p ob) own X3) : ZH own X own X3:=
 ⟨by have:=hle.len;have:=hs.len;rw [List.length_set] at this;omega,fun j hj hn=>by
  rw [hs.keep j (by rw [List.length_set];have:=hle.len;omega) hn,List.getElem?_set_ne (by omega)]
  exact hle.step.keep j hj (by simp),fun j hj=>.inl hj⟩
theorem ND0.box (hd : ND0 X d r s c) {p : Nat} {X2 : Zc} {ob : Zf} (hle : HLe X X2) (hp : X.length≤p) : ND0 (X2.set p ob) d r s c:=by
 have hs : ZH [] X [] (X2.set p ob):=⟨by rw [List.length_set];exact hle.len,fun j hj hn=>by
  rw [List.getElem?_set_ne (by omega)]
  exact hle.step.keep j hj (by simp),fun j hj=>by cases hj⟩
 exact hd.step hs (by simp) (by simp) (by simp) (by simp)
theorem Zlk {Y : Zc} : R (n+9) Zb2 [strv h] Y=some (iv (WV h),Y):=ZuH (n:=n+5)
theorem Zfj (hd : ND X d r s c) : ∃ X',R (n+10) QK [pt d,strv k,strv h] X=some (iv (Qp k h s.A),X')∧ND X' d r (JY k h s) c∧ZH r.own X r.own X':=by
 obtain ⟨p,X2,e1,c1,k1,hp⟩:=ZbD (n:=n) (k:=k) hd
 have h2:=hd.hle k1
 have f1 : ∀ v X',WR (R (n+9)) (pt d) (strv k) (strv h) X=some (v,X')→R (n+10) QK [pt d,strv k,strv h] X=some (v,X'):=fun v X' hr=>by rw [R,ZiP rfl];exact hr
 have hstep : ZH r.own X r.own X2:=k1.stepq
 by_cases he : Qp k h s.A=0
 ·obtain ⟨a1,a2,a3,a4⟩:=ZfJ he
  have hN : Zl k s.A=8:=by unfold Zl;rw [a1,a3];rfl
  rw [hN] at e1
  obtain ⟨X3,e3,m3,s3,_⟩:=h2.m.mup (k:=k) (v:=((h,false) : Acc))
  have e3 : mup .str (.map (some r.b)) (strv k) (Zau (h,false)) X2=_:=e3
  obtain ⟨d3,s4⟩:=h2.toND0.setA m3 s3
  have hn : JY k h s={ s with A:=QD k (h,false) s.A }:=by unfold JY;rw [if_pos he]
  rw [he,hn]
  refine ⟨X3,f1 _ _ ?_,⟨d3,by rw [← hn];exact hd.inv.create k h⟩,hstep.trans s4⟩
  have q1 : bop .int .eql (iv 8) (.int .i64 10) X2=some (.bool false,X2):=by rw [ZA];rfl
  have q2 : bop .int .neq (iv (WV h)) (.int .i64 0) X2=some (.bool false,X2):=by rw [Zt];unfold WV;rw [a2];rfl
  have q3 : bop .int .eql (iv 8) (.int .i64 0) X2=some (.bool false,X2):=by rw [ZA];rfl
  have q4 : bop .int .geq (iv s.A.length) (.int .i64 12) X2=some (.bool false,X2):=by rw [Qb,decide_eq_false (by omega)]
  have zb : bld (.agg #[.string ⟨#[]⟩,.bool false]) [(0,1,strv h)] X2=some (Zau (h,false),X2):=by
   simp [bld,Wq,Value.cells,Y6,strv,splice,Zau]
  unfold WR
  refine (e1 _).trans ?_
  rw [Za q1,Zb,if_neg (by simp),Za Zlk,Za q2,Zb,if_neg (by simp),Za q3,Zb,if_neg (by simp),Za Zv,Za Zg,Za h2.l0,Za h2.m.len,Za q4,Zb,if_neg (by simp),Za Zv,Za Zg,Za h2.l0,Za zb,Za e3]
  rfl
 ·have hn : JY k h s=s:=by unfold JY;rw [if_neg he]
  rw [hn]
  refine ⟨X2,f1 _ _ ?_,h2,hstep⟩
  unfold WR
  refine (e1 _).trans ?_
  cases a1 : Zr k
  ·have hN : Zl k s.A=10:=by unfold Zl;rw [a1];rfl
   have hE : Qp k h s.A=10:=by unfold Qp;rw [a1];rfl
   have q1 : bop .int .eql (iv 10) (.int .i64 10) X2=some (.bool true,X2):=by rw [ZA];rfl
   rw [hN,hE,Za q1,Zb,if_pos rfl]
   rfl
  ·have hN : Zl k s.A=0∨Zl k s.A=8:=by unfold Zl;rw [a1];cases (Ze k s.A).isSome <;> simp
   have q1 : bop .int .eql (iv (Zl k s.A)) (.int .i64 10) X2=some (.bool false,X2):=by rw [ZA];rcases hN with h1 | h1 <;> rw [h1] <;> rfl
   rw [Za q1,Zb,if_neg (by simp),Za Zlk]
   cases a2 : ZaH h
   ·have hE : Qp k h s.A=4:=by unfold Qp;rw [a1,a2];rfl
    have q2 : bop .int .neq (iv (WV h)) (.int .i64 0) X2=some (.bool true,X2):=by rw [Zt];unfold WV;rw [a2];rfl
    rw [Za q2,Zb,if_pos rfl,hE]
    rfl
   ·have q2 : bop .int .neq (iv (WV h)) (.int .i64 0) X2=some (.bool false,X2):=by rw [Zt];unfold WV;rw [a2];rfl
    rw [Za q2,Zb,if_neg (by simp)]
    cases a3 : (Ze k s.A).isSome
    ·have hN : Zl k s.A=8:=by unfold Zl;rw [a1,a3];rfl
     have q3 : bop .int .eql (iv (Zl k s.A)) (.int .i64 0) X2=some (.bool false,X2):=by rw [ZA,hN];rfl
     have a4 : 12≤s.A.length:=by
      unfold Qp at he
      rw [a1,a2,a3] at he
      simpa using he
     have hE : Qp k h s.A=7:=by unfold Qp;rw [a1,a2,a3];simp [a4]
     have q4 : bop .int .geq (iv s.A.length) (.int .i64 12) X2=some (.bool true,X2):=by rw [Qb,decide_eq_true (by omega)]
     rw [Za q3,Zb,if_neg (by simp),Za Zv,Za Zg,Za h2.l0,Za h2.m.len,Za q4,Zb,if_pos rfl,hE]
     rfl
    ·have hN : Zl k s.A=0:=by unfold Zl;rw [a1,a3];rfl
     have hE : Qp k h s.A=9:=by unfold Qp;rw [a1,a2,a3];rfl
     have q3 : bop .int .eql (iv (Zl k s.A)) (.int .i64 0) X2=some (.bool true,X2):=by rw [ZA,hN];rfl
     rw [Za q3,Zb,if_pos rfl,hE]
     rfl
theorem Zh2 (hd : ND X d r s c) : ∃ X',R (n+10) Ju [pt d,strv k] X=some (iv (Zl k s.A),X')∧ND X' d r (QS k s) c∧ZH r.own X r.own X':=by
 obtain ⟨p,X2,e1,c1,k1,hp⟩:=ZbD (n:=n) (k:=k) hd
 have h2:=hd.hle k1
 have f1 : ∀ v X',WW (R (n+9)) (pt d) (strv k) X=some (v,X')→R (n+10) Ju [pt d,strv k] X=some (v,X'):=fun v X' hr=>by rw [R,Zio rfl];exact hr
 have hstep : ZH r.own X r.own X2:=k1.stepq
 by_cases he : Zl k s.A=0
 ·obtain ⟨X3,e3,m3,s3,_⟩:=h2.m.mde (k:=k)
  obtain ⟨d3,t3⟩:=h2.toND0.setA m3 s3
  obtain ⟨X4,e4,i4,s4⟩:=Zi2 (n:=n+8) (k:=k) d3.ix
  have e4 : R (n+9) Jo [pt r.x,strv k] X3=_:=e4
  obtain ⟨d4,t4⟩:=d3.setI i4 s4
  obtain ⟨X5,e5,g5,s5⟩:=ZsN (n:=n+1) (m:=k) d4.gr
  have e5 : R (n+9) KK [pt r.g,strv k] X4=_:=e5
  obtain ⟨d5,t5⟩:=d4.setG g5 s5 hd.ks
  have q1 : bop .int .neq (iv (Zl k s.A)) (.int .i64 0) X2=some (.bool false,X2):=by rw [Zt,he];rfl
  have hn : QS k s={ s with A:=JR k s.A,OW:=Wo k s.OW s.OF,OF:=Ko k s.OF,mem:=Zc2 k s.mem }:=by unfold QS;rw [if_pos he]
  have hinv:=hd.inv.delete k
  rw [hn] at hinv ⊢
  refine ⟨X5,f1 _ _ ?_,⟨d5,hinv⟩,((hstep.trans t3).trans t4).trans t5⟩
  unfold WW
  refine (e1 _).trans ?_
  rw [Za q1,Zb,if_neg (by simp),Za Zv,Za Zg,Za h2.l0,Za e3,Za Zv,Za Zg,Za d3.l1,Za e4,Za Zv,Za Zg,Za d4.l2,Za e5,he]
  rfl
 ·have hn : QS k s=s:=by unfold QS;rw [if_neg he]
  have q1 : bop .int .neq (iv (Zl k s.A)) (.int .i64 0) X2=some (.bool true,X2):=by rw [Zt];simp [he]
  rw [hn]
  refine ⟨X2,f1 _ _ ?_,h2,hstep⟩
  unfold WW
  refine (e1 _).trans ?_
  rw [Za q1,Zb,if_pos rfl]
  rfl
theorem ZrC (hd : ND X d r s c) : ∃ X',R (n+10) Kz [pt d,strv k,strv h] X=some (iv (Qq k h s.A),X')∧ND X' d r (J8 k h s) c∧ZH r.own X r.own X':=by
 obtain ⟨p,X2,e1,c1,k1,hp⟩:=ZbD (n:=n) (k:=k) hd
 have h2:=hd.hle k1
 have f1 : ∀ v X',Wk (R (n+9)) (pt d) (strv k) (strv h) X=some (v,X')→R (n+10) Kz [pt d,strv k,strv h] X=some (v,X'):=fun v X' hr=>by rw [R,ZhD rfl];exact hr
 have hstep : ZH r.own X r.own X2:=k1.stepq
 by_cases he : Qq k h s.A=0
 ·obtain ⟨a1,a2,a3,a4⟩:=Zhj he
  have hN : Zl k s.A=0:=by unfold Zl;rw [a1,a3];rfl
  rw [hN] at e1
  rw [a1] at c1
  have c1 : X2[p]?=some (.cells [strv (ZU k s.A).1,.bool (ZU k s.A).2] 1 false false):=c1
  have l1 : ld1 (pa p 1) X2=some (.bool false,X2):=by rw [Zu c1 rfl,a4]
  have w1 : st1 (pa p 0) (strv h) X2=some (undef,X2.set p (.cells [strv h,.bool (ZU k s.A).2] 1 false false)):=Zal (o:=0) c1 (by simp) rfl
  have d2 : ldA 2 (pt p) (X2.set p (.cells [strv h,.bool (ZU k s.A).2] 1 false false))=some (Zau (h,(ZU k s.A).2),_):=ZY (n:=2) (ZT c1) rfl
  have h3:=hd.toND0.box (ob:=.cells [strv h,.bool (ZU k s.A).2] 1 false false) k1 hp
  obtain ⟨X3,e3,m3,s3,_⟩:=h3.m.mup (k:=k) (v:=((h,(ZU k s.A).2) : Acc))
  obtain ⟨d3,s4⟩:=h3.setA m3 s3
  have hn : J8 k h s={ s with A:=QD k (h,(ZU k s.A).2) s.A }:=by unfold J8;rw [if_pos he]
  have hinv:=hd.inv.setHash k h
  rw [hn] at hinv ⊢
  rw [he]
  refine ⟨X3,f1 _ _ ?_,⟨d3,hinv⟩,Zpi k1 hp s4⟩
  have q1 : bop .int .eql (iv 0) (.int .i64 10) X2=some (.bool false,X2):=by rw [ZA];rfl
  have q2 : bop .int .neq (iv (WV h)) (.int .i64 0) X2=some (.bool false,X2):=by rw [Zt];unfold WV;rw [a2];rfl
  have q3 : bop .int .neq (iv 0) (.int .i64 0) X2=some (.bool false,X2):=by rw [Zt];rfl
  unfold Wk
  refine (e1 _).trans ?_
  rw [Za q1,Zb,if_neg (by simp),Za Zlk,Za q2,Zb,if_neg (by simp),Za q3,Zb,if_neg (by simp),Za Zg,Za l1,Zb,if_neg (by simp),Za Zg,Za w1,Za Zv,Za Zg,Za h3.l0,Za d2,Za e3]
  rfl
 ·have hn : J8 k h s=s:=by unfold J8;rw [if_neg he]
  rw [hn]
  refine ⟨X2,f1 _ _ ?_,h2,hstep⟩
  unfold Wk
  refine (e1 _).trans ?_
  cases a1 : Zr k
  ·have hN : Zl k s.A=10:=by unfold Zl;rw [a1];rfl
   have hE : Qq k h s.A=10:=by unfold Qq;rw [a1];rfl
   have q1 : bop .int .eql (iv 10) (.int .i64 10) X2=some (.bool true,X2):=by rw [ZA];rfl
   rw [hN,hE,Za q1,Zb,if_pos rfl]
   rfl
  ·rw [a1] at c1
   have c1 : X2[p]?=some (.cells [strv (ZU k s.A).1,.bool (ZU k s.A).2] 1 false false):=c1
   have hN : Zl k s.A=0∨Zl k s.A=8:=by unfold Zl;rw [a1];cases (Ze k s.A).isSome <;> simp
   have q1 : bop .int .eql (iv (Zl k s.A)) (.int .i64 10) X2=some (.bool false,X2):=by rw [ZA];rcases hN with h1 | h1 <;> rw [h1] <;> rfl
   rw [Za q1,Zb,if_neg (by simp),Za Zlk]
   cases a2 : ZaH h
   ·have hE : Qq k h s.A=4:=by unfold Qq;rw [a1,a2];rfl
    have q2 : bop .int .neq (iv (WV h)) (.int .i64 0) X2=some (.bool true,X2):=by rw [Zt];unfold WV;rw [a2];rfl
    rw [Za q2,Zb,if_pos rfl,hE]
    rfl
   ·have q2 : bop .int .neq (iv (WV h)) (.int .i64 0) X2=some (.bool false,X2):=by rw [Zt];unfold WV;rw [a2];rfl
    rw [Za q2,Zb,if_neg (by simp)]
    cases a3 : (Ze k s.A).isSome
    ·have hN : Zl k s.A=8:=by unfold Zl;rw [a1,a3];rfl
     have hE : Qq k h s.A=8:=by unfold Qq;rw [a1,a2,a3];rfl
     have q3 : bop .int .neq (iv (Zl k s.A)) (.int .i64 0) X2=some (.bool true,X2):=by rw [Zt,hN];rfl
     rw [Za q3,Zb,if_pos rfl,hE,hN]
     rfl
    ·have hN : Zl k s.A=0:=by unfold Zl;rw [a1,a3];rfl
     have q3 : bop .int .neq (iv (Zl k s.A)) (.int .i64 0) X2=some (.bool false,X2):=by rw [Zt,hN];rfl
     have a4 : (ZU k s.A).2=true:=by
      unfold Qq at he
      rw [a1,a2,a3] at he
      simpa using he
     have hE : Qq k h s.A=12:=by unfold Qq;rw [a1,a2,a3,a4];rfl
     have l1 : ld1 (pa p 1) X2=some (.bool true,X2):=by rw [Zu c1 rfl,a4]
     rw [Za q3,Zb,if_neg (by simp),Za Zg,Za l1,Zb,if_pos rfl,hE]
     rfl
theorem Zg1 (hd : ND X d r s c) : ∃ X',R (n+10) JE [pt d,strv k,strv m] X=some (iv (QC k m s),X')∧ND X' d r (Qr k m s) c∧ZH r.own X r.own X':=by
 obtain ⟨p,X2,e1,c1,k1,hp⟩:=ZbD (n:=n) (k:=k) hd
 have f1 : ∀ v X',YM (R (n+9)) (pt d) (strv k) (strv m) X=some (v,X')→R (n+10) JE [pt d,strv k,strv m] X=some (v,X'):=fun v X' hr=>by rw [R,ZhA rfl];exact hr
 obtain ⟨X3,e3,k3⟩:=Zn6 (n:=n+1) (s:=m) (X:=X2)
 have e3 : R (n+9) Zaj [strv m] X2=_:=e3
 have k13:=k1.trans k3
 have h3:=hd.hle k13
 have hstep : ZH r.own X r.own X3:=k13.stepq
 have hgate : ∀ K : Value→M Value,bind (bop .str .neq (strv m) (Value.string ⟨#[]⟩)) (fun v28=>bind (Zx v28 true 2 (bind (bop .int .neq (iv (if QF m then 0 else 11)) (Value.int .i64 0)) fun v31=>ret [iv (if QF m then 0 else 11),v31])) (c2 fun _ q=>bind (pick v28 q (Value.bool false)) K)) X3=K (.bool (decide (m≠[]∧QF m=false))) X3:=fun K=>by
  have q0 : bop .str .neq (strv m) (.string ⟨#[]⟩) X3=some (.bool (decide (m≠[])),X3):=by
   have:=K6 (a:=m) (b:=[]) (H:=X3)
   rw [show (strv [] : Value)=.string ⟨#[]⟩ from rfl] at this
   rw [this]
   by_cases h : m=[] <;> simp [h]
  have q1 : bop .int .neq (iv (if QF m then 0 else 11)) (.int .i64 0) X3=some (.bool (!QF m),X3):=by
   rw [Zt];cases QF m <;> rfl
  rw [Za q0]
  by_cases h : m=[]
  ·rw [decide_eq_false (fun e=>e h),Za (g_r.trans (if_neg (by simp)))]
   simp only [List.replicate]
   rw [Qm,Za Zj,decide_eq_false (fun e=>e.1 h)]
   rfl
  ·rw [decide_eq_true h,ZQ,Zi,Za q1,Z9,Qm,Za Zj]
   cases hm : QF m <;> simp [h]
 cases a1 : Zr k
 ·have hN : Zl k s.A=10:=by unfold Zl;rw [a1];rfl
  have hE : QC k m s=10:=by unfold QC;rw [a1];rfl
  have hn : Qr k m s=s:=by unfold Qr;rw [if_neg (by rw [hE];decide)]
  have q1 : bop .int .eql (iv 10) (.int .i64 10) X3=some (.bool true,X3):=by rw [ZA];rfl
  rw [hn,hE]
  refine ⟨X3,f1 _ _ ?_,h3,hstep⟩
  unfold YM
  refine (e1 _).trans ?_
  rw [Za e3,Za Zn,Za Zm,hN,Za q1,Zb,if_pos rfl]
  rfl
 ·have hN : Zl k s.A=0∨Zl k s.A=8:=by unfold Zl;rw [a1];cases (Ze k s.A).isSome <;> simp
  have q1 : bop .int .eql (iv (Zl k s.A)) (.int .i64 10) X3=some (.bool false,X3):=by rw [ZA];rcases hN with h1 | h1 <;> rw [h1] <;> rfl
  by_cases hb : m≠[]∧QF m=false
  ·have hE : QC k m s=11:=by unfold QC;rw [a1];simp [hb]
   have hn : Qr k m s=s:=by unfold Qr;rw [if_neg (by rw [hE];decide)]
   rw [hn,hE]
   refine ⟨X3,f1 _ _ ?_,h3,hstep⟩
   unfold YM
   refine (e1 _).trans ?_
   rw [Za e3,Za Zn,Za Zm,Za q1,Zb,if_neg (by simp)]
   refine (hgate _).trans ?_
   rw [decide_eq_true hb,Zb,if_pos rfl,hb.2]
   rfl
  ·cases a3 : (Ze k s.A).isSome
   ·have hN : Zl k s.A=8:=by unfold Zl;rw [a1,a3];rfl
    have hE : QC k m s=8:=by unfold QC;rw [a1,if_pos rfl,if_neg hb,a3];rfl
    have hn : Qr k m s=s:=by unfold Qr;rw [if_neg (by rw [hE];decide)]
    have q3 : bop .int .neq (iv (Zl k s.A)) (.int .i64 0) X3=some (.bool true,X3):=by rw [Zt,hN];rfl
    rw [hn,hE]
    refine ⟨X3,f1 _ _ ?_,h3,hstep⟩
    unfold YM
    refine (e1 _).trans ?_
    rw [Za e3,Za Zn,Za Zm,Za q1,Zb,if_neg (by simp)]
    refine (hgate _).trans ?_
    rw [decide_eq_false hb,Zb,if_neg (by simp),Za q3,Zb,if_pos rfl,hN]
    rfl
   ·have hN : Zl k s.A=0:=by unfold Zl;rw [a1,a3];rfl
    have hE : QC k m s=KL k m s.OW:=by unfold QC;rw [a1,if_pos rfl,if_neg hb,a3];rfl
    have q3 : bop .int .neq (iv (Zl k s.A)) (.int .i64 0) X3=some (.bool false,X3):=by rw [Zt,hN];rfl
    obtain ⟨X4,e4,i4,s4⟩:=Zu7 (n:=n) (k:=k) (m:=m) h3.ix
    obtain ⟨d4,t4⟩:=h3.toND0.setI i4 s4
    have hn : Qr k m s={ s with OW:=Zmc k m s.OW s.OF,OF:=Zef k m s.OW s.OF }:=by
     unfold Qr
     by_cases h0 : QC k m s=0
     ·rw [if_pos h0]
     ·rw [if_neg h0]
      rw [hE] at h0
      unfold Zmc Zef
      rw [if_neg h0,if_neg h0]
    have hinv:=hd.inv.setMail k m
    rw [hn] at hinv ⊢
    rw [hE]
    refine ⟨X4,f1 _ _ ?_,⟨d4,hinv⟩,hstep.trans t4⟩
    unfold YM
    refine (e1 _).trans ?_
    rw [Za e3,Za Zn,Za Zm,Za q1,Zb,if_neg (by simp)]
    refine (hgate _).trans ?_
    rw [decide_eq_false hb,Zb,if_neg (by simp),Za q3,Zb,if_neg (by simp),Za Zv,Za Zg,Za h3.l1,Za e4]
    rfl
theorem ZrD {b : Bool} (hd : ND X d r s c) : ∃ X',R (n+10) KA [pt d,strv k,.bool b] X=some (iv (JI k b s.A),X')∧ND X' d r (JJ k b s) c∧ZH r.own X r.own X':=by
 obtain ⟨p,X2,e1,c1,k1,hp⟩:=ZbD (n:=n) (k:=k) hd
 have h2:=hd.hle k1
 have f1 : ∀ v X',Ky (R (n+9)) (pt d) (strv k) (.bool b) X=some (v,X')→R (n+10) KA [pt d,strv k,.bool b] X=some (v,X'):=fun v X' hr=>by rw [R,ZhE rfl];exact hr
 have hstep : ZH r.own X r.own X2:=k1.stepq
 by_cases hN : Zl k s.A=0
 ·obtain ⟨a1,_⟩:=ZeS hN
  rw [a1] at c1
  have c1 : X2[p]?=some (.cells [strv (ZU k s.A).1,.bool (ZU k s.A).2] 1 false false):=c1
  have l1 : ld1 (pa p 1) X2=some (.bool (ZU k s.A).2,X2):=Zu c1 rfl
  have q1 : bop .int .neq (iv (Zl k s.A)) (.int .i64 0) X2=some (.bool false,X2):=by rw [Zt,hN];rfl
  by_cases hb : (ZU k s.A).2=b
  ·have hE : JI k b s.A=12:=by unfold JI;rw [if_pos hN,if_pos hb]
   have hn : JJ k b s=s:=by unfold JJ;rw [if_neg (by rw [hE];decide)]
   have q2 : bop .bool .eql (.bool (ZU k s.A).2) (.bool b) X2=some (.bool true,X2):=by rw [Jn,hb];simp
   rw [hn,hE]
   refine ⟨X2,f1 _ _ ?_,h2,hstep⟩
   unfold Ky
   refine (e1 _).trans ?_
   rw [Za q1,Zb,if_neg (by simp),Za Zg,Za l1,Za q2,Zb,if_pos rfl]
   rfl
  ·have hE : JI k b s.A=0:=by unfold JI;rw [if_pos hN,if_neg hb]
   have q2 : bop .bool .eql (.bool (ZU k s.A).2) (.bool b) X2=some (.bool false,X2):=by rw [Jn];simp [hb]
   have w1 : st1 (pa p 1) (.bool b) X2=some (undef,X2.set p (.cells [strv (ZU k s.A).1,.bool b] 1 false false)):=Zal (o:=1) c1 (by simp) rfl
   have d2 : ldA 2 (pt p) (X2.set p (.cells [strv (ZU k s.A).1,.bool b] 1 false false))=some (Zau ((ZU k s.A).1,b),_):=ZY (n:=2) (ZT c1) rfl
   have h3:=hd.toND0.box (ob:=.cells [strv (ZU k s.A).1,.bool b] 1 false false) k1 hp
   obtain ⟨X3,e3,m3,s3,_⟩:=h3.m.mup (k:=k) (v:=(((ZU k s.A).1,b) : Acc))
   obtain ⟨d3,s4⟩:=h3.setA m3 s3
   have hn : JJ k b s={ s with A:=QD k ((ZU k s.A).1,b) s.A }:=by unfold JJ;rw [if_pos hE]
   have hinv:=hd.inv.disable k b
   rw [hn] at hinv ⊢
   rw [hE]
   refine ⟨X3,f1 _ _ ?_,⟨d3,hinv⟩,Zpi k1 hp s4⟩
   unfold Ky
   refine (e1 _).trans ?_
   rw [Za q1,Zb,if_neg (by simp),Za Zg,Za l1,Za q2,Zb,if_neg (by simp),Za Zg,Za w1,Za Zv,Za Zg,Za h3.l0,Za d2,Za e3]
   rfl
 ·have hE : JI k b s.A=Zl k s.A:=by unfold JI;rw [if_neg hN]
  have hn : JJ k b s=s:=by unfold JJ;rw [if_neg (by rw [hE];exact hN)]
  have q1 : bop .int .neq (iv (Zl k s.A)) (.int .i64 0) X2=some (.bool true,X2):=by rw [Zt];simp [hN]
  rw [hn,hE]
  refine ⟨X2,f1 _ _ ?_,h2,hstep⟩
  unfold Ky
  refine (e1 _).trans ?_
  rw [Za q1,Zb,if_pos rfl]
  rfl
theorem Znb (hd : ND X d r s c) : ∃ X',R (n+10) YC [pt d,strv o,strv t] X=some (iv (Ji o t s.A),X')∧ND X' d r (Ys o t s) c∧ZH r.own X r.own X':=by
 obtain ⟨p,X2,e1,c1,k1,hp⟩:=ZbD (n:=n) (k:=o) hd
 obtain ⟨p2,X3,e2,b2,k2,hp2⟩:=ZbD (n:=n) (k:=t) (hd.hle k1)
 have k12:=k1.trans k2
 have h3:=hd.hle k12
 have c13:=k2 _ _ c1
 have hstep : ZH r.own X r.own X3:=k12.stepq
 have f1 : ∀ v X',WP (R (n+9)) (pt d) (strv o) (strv t) X=some (v,X')→R (n+10) YC [pt d,strv o,strv t] X=some (v,X'):=fun v X' hr=>by rw [R,Zih rfl];exact hr
 have e10 : ∀ (k : Tx),(Zl k s.A==10)=!Zr k:=fun k=>by
  unfold Zl
  cases Zr k
  ·rfl
  ·cases (Ze k s.A).isSome <;> rfl
 have q1 : bop .int .eql (iv (Zl o s.A)) (.int .i64 10) X3=some (.bool (!Zr o),X3):=by rw [ZA,e10]
 have q2 : bop .int .eql (iv (Zl t s.A)) (.int .i64 10) X3=some (.bool (!Zr t),X3):=by rw [ZA,e10]
 have hgate : ∀ K : Value→M Value,bind (bop .int .eql (iv (Zl o s.A)) (.int .i64 10)) (fun v25=>bind (Zx v25 false 2 (bind (bop .int .eql (iv (Zl t s.A)) (Value.int .i64 10)) fun v28=>ret [iv (Zl t s.A),v28])) (c2 fun _ q=>bind (pick v25 (Value.bool true) q) K)) X3=K (.bool (!(Zr o && Zr t))) X3:=fun K=>by
  rw [Za q1]
  cases Zr o
  ·simp only [Bool.not_false]
   rw [Za (g_r.trans (if_neg (by simp)))]
   simp only [List.replicate]
   rw [Qm,Za Zj]
   rfl
  ·simp only [Bool.not_true]
   rw [ZQ,Zi,Za q2,Z9,Qm,Za Zj]
   cases Zr t <;> rfl
 by_cases he : Ji o t s.A=0
 ·obtain ⟨a1,a2,a3,a4,a5⟩:=ZdX he
  have hN1 : Zl o s.A=0:=by unfold Zl;rw [a1,a3];rfl
  have hN2 : Zl t s.A=8:=by unfold Zl;rw [a2,a4];rfl
  rw [a1] at c13
  have c13 : X3[p]?=some (.cells [strv (ZU o s.A).1,.bool (ZU o s.A).2] 1 false false):=c13
  have q3 : bop .int .neq (iv (Zl o s.A)) (.int .i64 0) X3=some (.bool false,X3):=by rw [Zt,hN1];rfl
  have q4 : bop .int .eql (iv (Zl t s.A)) (.int .i64 0) X3=some (.bool false,X3):=by rw [ZA,hN2];rfl
  obtain ⟨X4,e4,m4,s4,_⟩:=h3.m.mde (k:=o)
  obtain ⟨d4,t4⟩:=h3.toND0.setA m4 s4
  have d4' : ldA 2 (pt p) X4=some (Zau (ZU o s.A),X4):=by
   have c14 : X4[p]?=some (.cells [strv (ZU o s.A).1,.bool (ZU o s.A).2] 1 false false):=(h3.toND0.cle t4) _ _ _ _ _ c13
   exact ZY (n:=2) c14 rfl
  obtain ⟨X5,e5,m5,s5,_⟩:=d4.m.mup (k:=t) (v:=ZU o s.A)
  obtain ⟨d5,t5⟩:=d4.setA m5 s5
  obtain ⟨X6,e6,i6,s6⟩:=Zvc (n:=n+3) (old:=o) (next:=t) d5.ix
  have e6 : R (n+9) Kw [pt r.x,strv o,strv t] X5=_:=e6
  obtain ⟨d6,t6⟩:=d5.setI i6 s6
  obtain ⟨X7,e7,g7,s7⟩:=Zvj (n:=n+1) (s:=o) (t:=t) d6.gr
  have e7 : R (n+9) YR [pt r.g,strv o,strv t] X6=_:=e7
  have hks : ZJ r.G=s.K:=hd.ks
  have hren : Zf3 o t (ZJ r.G) s.mem=0:=by
   unfold Zf3
   rw [a2,if_pos rfl,if_neg a5]
   have : ofL t (ZJ r.G) s.mem=[]:=by
    unfold ofL
    rw [List.filter_eq_nil_iff]
    intro x hx
    rw [hd.inv.memN a4 x];simp
   rw [if_pos this]
  have g7 : Grp X7 r.g r.o2 r.G (if Zf3 o t (ZJ r.G) s.mem=0 then Zak o t s.mem else s.mem) c:=g7
  rw [if_pos hren] at g7
  obtain ⟨d7,t7⟩:=d6.setG g7 s7 hks
  have hn : Ys o t s={ s with A:=QD t (ZU o s.A) (JR o s.A),OW:=Zrp o t s.OW s.OF,OF:=ZfW o t s.OF,mem:=Zak o t s.mem }:=by unfold Ys;rw [if_pos he]
  have hinv:=hd.inv.rename o t
  rw [hn] at hinv ⊢
  rw [he]
  refine ⟨X7,f1 _ _ ?_,⟨d7,hinv⟩,(((hstep.trans t4).trans t5).trans t6).trans t7⟩
  unfold WP
  refine (e1 _).trans ((e2 _).trans ((hgate _).trans ?_))
  rw [a1,a2]
  simp only [Bool.and_self,Bool.not_true]
  rw [Zb,if_neg (by simp),Za q3,Zb,if_neg (by simp),Za q4,Zb,if_neg (by simp),Za Zv,Za Zg,Za h3.l0,Za e4,Za Zv,Za Zg,Za d4.l0,Za d4',Za e5,Za Zv,Za Zg,Za d5.l1,Za e6,Za Zv,Za Zg,Za d6.l2,Za e7]
  rfl
 ·have hn : Ys o t s=s:=by unfold Ys;rw [if_neg he]
  rw [hn]
  refine ⟨X3,f1 _ _ ?_,h3,hstep⟩
  unfold WP
  refine (e1 _).trans ((e2 _).trans ((hgate _).trans ?_))
  cases ab : Zr o && Zr t
  ·have hE : Ji o t s.A=10:=by unfold Ji;rw [ab];rfl
   rw [Zb,if_pos (by rfl),hE]
   rfl
  ·have ab':=ab
   simp only [Bool.and_eq_true] at ab'
   rw [Zb,if_neg (by simp)]
   cases a3 : (Ze o s.A).isSome
   ·have hN1 : Zl o s.A=8:=by unfold Zl;rw [ab'.1,a3];rfl
    have hE : Ji o t s.A=8:=by unfold Ji;rw [ab,a3];rfl
    have q3 : bop .int .neq (iv (Zl o s.A)) (.int .i64 0) X3=some (.bool true,X3):=by rw [Zt,hN1];rfl
    rw [Za q3,Zb,if_pos rfl,hE,hN1]
    rfl
   ·have hN1 : Zl o s.A=0:=by unfold Zl;rw [ab'.1,a3];rfl
    have q3 : bop .int .neq (iv (Zl o s.A)) (.int .i64 0) X3=some (.bool false,X3):=by rw [Zt,hN1];rfl
    have a4 : (Ze t s.A).isSome=true:=by
     unfold Ji at he
     rw [ab,a3] at he
     cases h4 : (Ze t s.A).isSome
     ·rw [h4] at he;simp at he
     ·rfl
    have hN2 : Zl t s.A=0:=by unfold Zl;rw [ab'.2,a4];rfl
    have hE : Ji o t s.A=9:=by unfold Ji;rw [ab,a3,a4];rfl
    have q4 : bop .int .eql (iv (Zl t s.A)) (.int .i64 0) X3=some (.bool true,X3):=by rw [ZA,hN2];rfl
    rw [Za q3,Zb,if_neg (by simp),Za q4,Zb,if_pos rfl,hE]
    rfl
theorem ZtY (hd : ND X d r s c) : ∃ X' r',R (n+10) KH [pt d,strv g] X=some (iv (QR g s.K),X')∧ND X' d r' (Zhh g s) c∧ZH r.own X r'.own X':=by
 obtain ⟨X1,G',e1,g1,k1,s1⟩:=Zu1 (n:=n+1) (k:=g) hd.gr
 have e1 : R (n+9) Yj [pt r.g,strv g] X=_:=e1
 rw [hd.ks] at e1 k1
 obtain ⟨d1,t1⟩:=hd.toND0.setG g1 s1 k1
 refine ⟨X1,_,?_,⟨d1,hd.inv.make g⟩,t1⟩
 rw [R,Zgg rfl]
 unfold Zbn
 rw [Za Zv,Za Zg,Za hd.l2,Za e1]
 rfl
theorem Zqk (hd : ND X d r s c) : ∃ X' r',R (n+10) Yl [pt d,strv g] X=some (iv (QL g s.K),X')∧ND X' d r' (ZdL g s) c∧ZH r.own X r'.own X':=by
 obtain ⟨X1,G',e1,g1,k1,s1⟩:=ZuA (n:=n+1) (k:=g) hd.gr
 have e1 : R (n+9) Kv [pt r.g,strv g] X=_:=e1
 rw [hd.ks] at e1 g1 k1
 obtain ⟨d1,t1⟩:=hd.toND0.setG g1 s1 k1
 refine ⟨X1,_,?_,⟨d1,hd.inv.drop g⟩,t1⟩
 rw [R,Zf5 rfl]
 unfold Zbl
 rw [Za Zv,Za Zg,Za hd.l2,Za e1]
 rfl
theorem Znj (hd : ND X d r s c) : ∃ X',R (n+10) KN [pt d,strv g,strv k] X=some (iv (JW g k s.A),X')∧HLe X X':=by
 have e0 : R (n+9) Yd [strv g] X=some (iv (QT g),X):=Zf9 (n:=n+4)
 obtain ⟨p,X2,e1,c1,k1,hp⟩:=ZbD (n:=n) (k:=k) hd
 have f1 : ∀ v X',WZ (R (n+9)) (pt d) (strv g) (strv k) X=some (v,X')→R (n+10) KN [pt d,strv g,strv k] X=some (v,X'):=fun v X' hr=>by rw [R,Ziy rfl];exact hr
 cases hg : Zr g
 ·have q1 : bop .int .neq (iv (QT g)) (.int .i64 0) X=some (.bool true,X):=by rw [Zt];unfold QT;rw [hg];rfl
  have hE : JW g k s.A=10:=by unfold JW;rw [hg];rfl
  refine ⟨X,f1 _ _ ?_,.refl _⟩
  unfold WZ
  rw [Za e0,Za q1,Zb,if_pos rfl,hE,show QT g=10 by unfold QT;rw [hg];rfl]
  rfl
 ·have q1 : bop .int .neq (iv (QT g)) (.int .i64 0) X=some (.bool false,X):=by rw [Zt];unfold QT;rw [hg];rfl
  have hE : JW g k s.A=Zl k s.A:=by unfold JW;rw [hg];rfl
  refine ⟨X2,f1 _ _ ?_,k1⟩
  unfold WZ
  rw [Za e0,Za q1,Zb,if_neg (by simp),hE]
  exact e1 _
theorem Zub (hd : ND X d r s c) : ∃ X',R (n+11) WL [pt d,strv g,strv k] X=some (iv (Kn g k s),X')∧ND X' d r (K4 g k s) (c+1)∧ZH r.own X r.own X':=by
 obtain ⟨X1,e1,k1⟩:=Znj (n:=n) (g:=g) (k:=k) hd
 have h1:=hd.hle k1
 have f1 : ∀ v X',ZaQ (R (n+10)) (pt d) (strv g) (strv k) X=some (v,X')→R (n+11) WL [pt d,strv g,strv k] X=some (v,X'):=fun v X' hr=>by rw [R,Zkh rfl];exact hr
 have hinv:=hd.inv.join g k
 by_cases hm : JW g k s.A=0
 ·have q1 : bop .int .neq (iv (JW g k s.A)) (.int .i64 0) X1=some (.bool false,X1):=by rw [Zt,hm];rfl
  have hE : Kn g k s=Zb1 g k s.K s.mem:=by unfold Kn;rw [if_pos hm]
  obtain ⟨X2,e2,g2,s2⟩:=Zu3 (n:=n+2) (k:=g) (m:=k) h1.gr
  have e2 : R (n+10) YL [pt r.g,strv g,strv k] X1=_:=e2
  rw [h1.ks] at e2 g2
  obtain ⟨d2,t2⟩:=h1.toND0.setG g2 s2 h1.ks
  have hn : K4 g k s={ s with K:=s.K,mem:=if Zb1 g k s.K s.mem=0 then ZbE g k s.mem else s.mem }:=by
   unfold K4
   rw [hE]
   by_cases h0 : Zb1 g k s.K s.mem=0
   ·rw [if_pos h0,if_pos h0]
   ·rw [if_neg h0,if_neg h0]
  rw [hn] at hinv ⊢
  rw [hE]
  refine ⟨X2,f1 _ _ ?_,⟨d2,hinv⟩,k1.stepq.trans t2⟩
  unfold ZaQ
  rw [Za e1,Za q1,Zb,if_neg (by simp),Za Zv,Za Zg,Za h1.l2,Za e2]
  rfl
 ·have q1 : bop .int .neq (iv (JW g k s.A)) (.int .i64 0) X1=some (.bool true,X1):=by rw [Zt];simp [hm]
  have hE : Kn g k s=JW g k s.A:=by unfold Kn;rw [if_neg hm]
  have hn : K4 g k s=s:=by unfold K4;rw [if_neg (by rw [hE];exact hm)]
  rw [hn,hE]
  refine ⟨X1,f1 _ _ ?_,⟨h1.toND0.more (Nat.le_succ c),hd.inv⟩,k1.stepq⟩
  unfold ZaQ
  rw [Za e1,Za q1,Zb,if_pos rfl]
  rfl
theorem Ztv (hd : ND X d r s c) : ∃ X',R (n+11) K7 [pt d,strv g,strv k] X=some (iv (YQ g k s),X')∧ND X' d r (Kh g k s) (c+1)∧ZH r.own X r.own X':=by
 obtain ⟨X1,e1,k1⟩:=Znj (n:=n) (g:=g) (k:=k) hd
 have h1:=hd.hle k1
 have f1 : ∀ v X',Zaf (R (n+10)) (pt d) (strv g) (strv k) X=some (v,X')→R (n+11) K7 [pt d,strv g,strv k] X=some (v,X'):=fun v X' hr=>by rw [R,Zjt rfl];exact hr
 have hinv:=hd.inv.leave g k
 by_cases hm : JW g k s.A=0
 ·have q1 : bop .int .neq (iv (JW g k s.A)) (.int .i64 0) X1=some (.bool false,X1):=by rw [Zt,hm];rfl
  have hE : YQ g k s=Za0 g k s.K s.mem:=by unfold YQ;rw [if_pos hm]
  obtain ⟨X2,e2,g2,s2⟩:=ZtG (n:=n+2) (k:=g) (m:=k) h1.gr
  have e2 : R (n+10) Kb [pt r.g,strv g,strv k] X1=_:=e2
  rw [h1.ks] at e2 g2
  obtain ⟨d2,t2⟩:=h1.toND0.setG g2 s2 h1.ks
  have hn : Kh g k s={ s with K:=s.K,mem:=if Za0 g k s.K s.mem=0 then ZbI g k s.mem else s.mem }:=by
   unfold Kh
   rw [hE]
   by_cases h0 : Za0 g k s.K s.mem=0
   ·rw [if_pos h0,if_pos h0]
   ·rw [if_neg h0,if_neg h0]
  rw [hn] at hinv ⊢
  rw [hE]
  refine ⟨X2,f1 _ _ ?_,⟨d2,hinv⟩,k1.stepq.trans t2⟩
  unfold Zaf
  rw [Za e1,Za q1,Zb,if_neg (by simp),Za Zv,Za Zg,Za h1.l2,Za e2]
  rfl
 ·have q1 : bop .int .neq (iv (JW g k s.A)) (.int .i64 0) X1=some (.bool true,X1):=by rw [Zt];simp [hm]
  have hE : YQ g k s=JW g k s.A:=by unfold YQ;rw [if_neg hm]
  have hn : Kh g k s=s:=by unfold Kh;rw [if_neg (by rw [hE];exact hm)]
  rw [hn,hE]
  refine ⟨X1,f1 _ _ ?_,⟨h1.toND0.more (Nat.le_succ c),hd.inv⟩,k1.stepq⟩
  unfold Zaf
  rw [Za e1,Za q1,Zb,if_pos rfl]
  rfl
theorem ZuQ (hd : ND X d r s c) : ∃ X' d' r',R (n+4) ZaK [pt d] X=some (pt d',X')∧ND X' d' r' s c∧HLe X X'∧X.length≤d'∧∀ j∈r'.own,X.length≤j:=by
 obtain ⟨X1,e1,m1,k1⟩:=hd.m.clone
 have e1' : R (n+3) Jb [.map (some r.b)] X=some (.map (some X.length),X1):=by
  show run Tryz.prog np lvs (n+3) _ _ X=_
  rw [ZbQ (show np Jb=some ZaL from rfl)]
  exact e1
 have h1:=hd.hle k1
 obtain ⟨X2,x',o',a',e2,i2,k2,p1,p2,p3⟩:=Zuc (n:=n+1) h1.ix
 have e2 : R (n+3) Zai [pt r.x] X1=_:=e2
 have h2:=h1.hle k2
 obtain ⟨X3,g',o2',G',e3,g3,hk3,k3,q1,q2⟩:=Zuf (n:=n+2) h2.gr
 have e3 : R (n+3) Wf [pt r.g] X2=_:=e3
 have e4 : bld (.agg #[.map none,.pointer none,.pointer none]) [(0,1,.map (some X.length)),(1,1,pt x'),(2,1,pt g')] X3=some (.agg #[.map (some X.length),pt x',pt g'],X3):=by
  simp [bld,Wq,Value.cells,Y6,splice]
 have e5 : alc 1 (.agg #[.map (some X.length),pt x',pt g']) X3=some (pt X3.length,X3++[.cells [.map (some X.length),pt x',pt g'] 1 false false]):=K5 (vs:=[.map (some X.length),pt x',pt g']) rfl
 have k4 : HLe X3 (X3++[Zf.cells [.map (some X.length),pt x',pt g'] 1 false false]):=.app _ _
 have hi:=i2.lt
 have hx1 : X.length < X1.length:=m1.lt
 have l1:=k1.len
 have l2:=k2.len
 have l3:=k3.len
 refine ⟨X3++[.cells [.map (some X.length),pt x',pt g'] 1 false false],X3.length,⟨X.length,x',o',a',g',o2',G'⟩,?_,⟨⟨ZD,((m1.hle k2).hle k3).hle k4,(i2.hle k3).hle k4,g3.hle k4,hk3.trans hd.ks,⟨by simp only;omega,by simp only;omega,fun hm=>?_,fun hm=>?_,fun hm=>?_⟩⟩,hd.inv⟩,((k1.trans k2).trans k3).trans k4,by omega,fun j hj=>?_⟩
 ·rw [R,Zkb rfl]
  unfold ZdG
  rw [Za Zv,Za Zg,Za hd.l0,Za Zv,Za Zg,Za hd.l1,Za Zv,Za Zg,Za hd.l2,Za e1',Za h1.l2,KD,Za h1.l1,KD,Za e2,Za h2.l2,KD,Za e3,Za e4,Za e5]
  rfl
 ·have:=q2 _ hm;simp only at this;omega
 ·have:=q2 _ hm;simp only at this;omega
 ·have:=q2 _ hm;simp only at this;omega
 ·unfold NR.own at hj
  simp only [List.mem_cons] at hj
  rcases hj with h | h | h | h
  ·omega
  ·omega
  ·omega
  ·have:=q2 _ (List.mem_cons.2 h);omega
end
end Go.Proofs.YtnnehafmjfmbnaaGreatDoor.A

namespace Go.Proofs.YtnnehafmjfmbnaaGreatDoor.A
set_option linter.unusedVariables false
set_option linter.unusedSimpArgs false
open Go.Proofs Go.Proofs.YtnnehafmjfmbnaaGreatDoor
open Go.Sort in
theorem Zwb {a c : Tx} {H : Zc} : bop .str .lss (strv a) (strv c) H=some (.bool (decide (a < c)),H):=by
 rw [← bytesLess_eq]
 show (sop .lss (⟨a.toArray⟩ : ByteArray) (⟨c.toArray⟩ : ByteArray)).map (·,H)=_
 unfold sop
 rw [ZaX,ZaX]
 rfl
theorem HLe.setN {H0 X : Zc} (h : HLe H0 X) {b : Nat} {o : Zf} (hb : H0.length≤b) : HLe H0 (X.set b o):=fun i v hi=>by
 have:=Jg hi
 rw [List.getElem?_set_ne (by omega)];exact h i v hi
section
variable {X X' H0 : Zc} {n : Nat} {v : Value} {l : List Tx} {x s : Tx}
theorem Zsn (hl : l.length≤1000000) (hs : Sl X v (l.map strv)) : ∀ (t j : Nat),l.length - j=t→j≤l.length→
  Zh (c4 (Wp.l1 (R n))) [strv x,v,iv l.length,iv j] X=some (if x∈l.drop j then .ret (.bool true) else .ext 0 [],X)
 | 0,j,ht,hj=>by
  rw [List.drop_eq_nil_of_le (by omega)]
  refine Z8 ?_
  rw [ZK,show j=l.length by omega]
  unfold Wp.l1
  rw [Za Zq,Zb,if_neg (by simp)]
  rfl
 | t+1,j,ht,hj=>by
  have hkl : j < l.length:=by omega
  have hlt : (j : Int) < l.length:=by omega
  have hg:=List.getElem?_eq_getElem hkl
  have hd:=List.drop_eq_getElem_cons hkl
  generalize l[j]=y at hg hd
  have x1:=hs.ix (i:=j) (by simpa using hkl) .i64 X
  have x2:=hs.ldx (Wi hg)
  have x3 : bop .str .eql (strv y) (strv x) X=some (.bool (y==x),X):=ZbW
  rw [hd]
  by_cases hyx : y=x
  ·rw [if_pos (by simp [hyx])]
   refine Yx ?_
   rw [ZK]
   unfold Wp.l1
   rw [Za Zq,Zb,if_pos (by simpa using hlt),Za x1,Za x2,Za x3,Zb,if_pos (by simpa using hyx)]
   rfl
  ·have : (x∈y :: l.drop (j+1))↔x∈l.drop (j+1):=by simp [Ne.symm hyx]
   simp only [this]
   refine (ZI ?_).trans (Zsn hl hs t (j+1) (by omega) (by omega))
   rw [ZK]
   unfold Wp.l1
   rw [Za Zq,Zb,if_pos (by simpa using hlt),Za x1,Za x2,Za x3,Zb,if_neg (by simpa using hyx),Za ZC,QG (by omega)]
   rfl
theorem Zpo (hl : l.length≤1000000) (hs : Sl X v (l.map strv)) : R (n+1) Ws [v,strv x] X=some (.bool (decide (x∈l)),X):=by
 have e:=Zsn (n:=n) (x:=x) hl hs l.length 0 (by omega) (by omega)
 rw [show iv ((0 : Nat) : Int)=.int .i64 0 from rfl,List.drop_zero] at e
 have hlen : ZB v X=some (iv l.length,X):=by have:=hs.len (H':=X);simpa using this
 rw [R,Zo8 rfl]
 unfold Wp
 rw [Za hlen]
 by_cases h : x∈l
 ·rw [if_pos h] at e
  rw [KI e,decide_eq_true h];rfl
 ·rw [if_neg h] at e
  rw [QX e,ZN,decide_eq_false h];rfl
theorem ZfG {sl : Value} {rows : List Tx} {q : List Nat} {u : Tx} (hr : ZE X sl (rows.map strv) q) (hl : rows.length≤100000) (hq : ∀ j∈q,H0.length≤j) (h0 : HLe H0 X) :
  ∃ w X1 sl' X2 q',bsl 1 1 (.string ⟨#[]⟩) [(0,1,strv u)] X=some (w,X1)∧app 1 16 sl w X1=some (sl',X2)∧ZE X2 sl' ((rows++[u]).map strv) q'∧HLe H0 X2∧(∀ j∈q',H0.length≤j)∧ZH q X q' X2:=by
 have l1 : HLe X (X++[.cells [strv u] 1 false false]):=.app _ _
 have s1:=(Zhc (x:=u) (H:=X)).rd
 have e1:=ZmG (x:=u) (H:=X)
 generalize X++[Zf.cells [strv u] 1 false false]=X1 at l1 s1 e1
 have hr1:=hr.step l1.step (by simp)
 obtain ⟨sl',X2,q',x5,hn2,s2,_⟩:=hr1.push (b:=16) s1 (by simp;omega) (by simp;omega)
 have hm:=(h0.trans l1).more s2 hq
 exact ⟨_,X1,sl',X2,q',e1,x5,by rw [List.map_append];exact hn2,hm.1,hm.2,(l1.step.more (by simp) (fun j hj=>.inl hj)).trans s2⟩
def Zc6 (s : Tx) : List Tx→Bool→List Tx
 | [],_=>[]
 | t :: l,d=>if (!d && decide (s < t))=true then s :: t :: Zc6 s l true else t :: Zc6 s l d
def Zb3 (s : Tx) : List Tx→Bool→Bool
 | [],d=>d
 | t :: l,d=>Zb3 s l (d || decide (s < t))
theorem ZhV {s : Tx} : ∀ {l : List Tx},Zc6 s l true=l∧Zb3 s l true=true
 | []=>⟨rfl,rfl⟩
 | t :: l=>by
  have : Zc6 s l true=l∧Zb3 s l true=true:=ZhV
  simp [Zc6,Zb3,this.1,this.2]
def Zej (s : Tx) (l : List Tx) : List Tx:=Zc6 s l false++(if Zb3 s l false then [] else [s])
theorem Zip {t : Tx} {l : List Tx} : Zej s (t :: l)=if s < t then s :: t :: l else t :: Zej s l:=by
 unfold Zej
 by_cases h : s < t
 ·simp [Zc6,Zb3,h,(ZhV (s:=s) (l:=l)).1,(ZhV (s:=s) (l:=l)).2]
 ·simp [Zc6,Zb3,h]
theorem ZkC : ∀ {l : List Tx},(Zej s l).length=l.length+1
 | []=>rfl
 | t :: l=>by
  rw [Zip]
  split
  ·rfl
  ·rw [List.length_cons,ZkC];rfl
theorem ZkO : ∀ {l : List Tx},x∈Zej s l↔x=s∨x∈l
 | []=>by simp [Zej,Zc6,Zb3]
 | t :: l=>by
  rw [Zip]
  split
  ·simp
  ·rw [List.mem_cons,ZkO,List.mem_cons]
   constructor
   ·rintro (h | h | h)
    ·exact .inr (.inl h)
    ·exact .inl h
    ·exact .inr (.inr h)
   ·rintro (h | h | h)
    ·exact .inr (.inl h)
    ·exact .inl h
    ·exact .inr (.inr h)
theorem Zop : ∀ {l : List Tx},Asc l→s∉l→Asc (Zej s l)
 | [],_,_=>List.pairwise_singleton _ _
 | t :: l,h,hn=>by
  obtain ⟨a1,a2⟩:=List.pairwise_cons.1 h
  simp only [List.mem_cons,not_or] at hn
  rw [Zip]
  split
  ·rename_i hlt
   refine List.pairwise_cons.2 ⟨fun y hy=>?_,h⟩
   rcases List.mem_cons.1 hy with rfl | hy
   ·exact hlt
   ·exact List.lt_trans hlt (a1 y hy)
  ·rename_i hlt
   have hts : t < s:=Decidable.byContradiction fun h6=>hn.1 (List.le_antisymm (List.not_lt.1 h6) (List.not_lt.1 hlt))
   refine List.pairwise_cons.2 ⟨fun y hy=>?_,Zop a2 hn.2⟩
   rcases ZkO.1 hy with rfl | hy
   ·exact hts
   ·exact a1 y hy
theorem Zkk {us : List Tx} {uv z10 z11 z12 : Value} (hu : us.length≤1000) (hA : Sl H0 uv (us.map strv)) : ∀ (t j : Nat) (sl : Value) (q : List Nat) (acc : List Tx) (done : Bool) (X : Zc),us.length - j=t→j≤us.length→acc.length≤2 * j→HLe H0 X→(∀ i∈q,H0.length≤i)→ZE X sl (acc.map strv) q→
  ∃ X' sl' q',Zh (c9 (Q3.l2 (R n))) [strv s,sl,.bool done,z10,z11,z12,uv,iv us.length,iv j] X=some (.ext 2 [strv s,sl',.bool (Zb3 s (us.drop j) done),z10,z11,z12],X')∧ZE X' sl' ((acc++Zc6 s (us.drop j) done).map strv) q'∧HLe H0 X'∧∀ i∈q',H0.length≤i
 | 0,j,sl,q,acc,done,X,ht,hj,ha,hle,hq,hr=>by
  have : j=us.length:=by omega
  rw [this,List.drop_length]
  refine ⟨X,sl,q,Z8 ?_,by simpa [Zc6] using hr,hle,hq⟩
  rw [Y8]
  unfold Q3.l2
  rw [Za Zq,Zb,if_neg (by simp)]
  rfl
 | t+1,j,sl,q,acc,done,X,ht,hj,ha,hle,hq,hr=>by
  have hkl : j < us.length:=by omega
  have hlt : (j : Int) < us.length:=by omega
  have hg:=List.getElem?_eq_getElem hkl
  have hd:=List.drop_eq_getElem_cons hkl
  generalize us[j]=y at hg hd
  have hA':=hA.mono hle
  have x1:=hA'.ix (i:=j) (by simpa using hkl) .i64 X
  have x2:=hA'.ldx (Wi hg)
  have hgate : ∀ K : Value→M Out,bind (uop .not (.bool done)) (fun v26x10=>bind (Zx v26x10 true 3 (bind (bop .str .lss (strv s) (strv y)) fun v30x11=>ret [strv s,strv y,v30x11])) (c3 fun _ _ q12_2=>bind (pick v26x10 q12_2 (Value.bool false)) K)) X=K (.bool (!done && decide (s < y))) X:=fun K=>by
   rw [Za Zy]
   cases done
   ·simp only [Bool.not_false]
    rw [ZQ,Zi,Za Zwb,Z9,Z4,Za Zj]
    rfl
   ·simp only [Bool.not_true]
    rw [Za (g_r.trans (if_neg (by simp)))]
    simp only [List.replicate]
    rw [Z4,Za Zj]
    rfl
  rw [hd]
  cases hb : (!done && decide (s < y))
  ·obtain ⟨w,X1,sl1,X2,q2,a1,a2,r2,l2,o2,_⟩:=ZfG (u:=y) hr (by omega) hq hle
   have hdone : (done || decide (s < y))=done:=by cases done <;> simp at hb ⊢ <;> exact hb
   obtain ⟨X3,sl3,q3,e3,r3,l3,o3⟩:=Zkk hu hA t (j+1) sl1 q2 (acc++[y]) done X2 (by omega) (by omega) (by simp;omega) l2 o2 r2
   refine ⟨X3,sl3,q3,(ZI ?_).trans (e3.trans ?_),?_,l3,o3⟩
   ·rw [Y8]
    unfold Q3.l2
    rw [Za Zq,Zb,if_pos (by simpa using hlt),Za x1,Za x2]
    refine (hgate _).trans ?_
    rw [hb]
    refine (ZV (vs:=[strv s,sl,.bool done,strv y,z10,z11,z12,uv,iv us.length,iv j]) (H':=X) ?_).trans ?_
    ·rw [Zb,if_neg (by simp)];rfl
    ·rw [Yg,Za a1,Za a2,Za ZC,QG (by omega)];rfl
   ·simp only [Zb3,hdone]
   ·simp only [Zc6,hb]
    simpa using r3
  ·obtain ⟨w,X1,sl1,X2,q2,a1,a2,r2,l2,o2,_⟩:=ZfG (u:=s) hr (by omega) hq hle
   obtain ⟨w',X1',sl1',X2',q2',a1',a2',r2',l2',o2',_⟩:=ZfG (u:=y) r2 (by simp;omega) o2 l2
   have hdone : done=false∧s < y:=by simpa using hb
   obtain ⟨X3,sl3,q3,e3,r3,l3,o3⟩:=Zkk hu hA t (j+1) sl1' q2' (acc++[s]++[y]) true X2' (by omega) (by omega) (by simp;omega) l2' o2' r2'
   refine ⟨X3,sl3,q3,(ZI ?_).trans (e3.trans ?_),?_,l3,o3⟩
   ·rw [Y8]
    unfold Q3.l2
    rw [Za Zq,Zb,if_pos (by simpa using hlt),Za x1,Za x2]
    refine (hgate _).trans ?_
    rw [hb]
    refine (ZV (vs:=[strv s,sl1,.bool true,strv y,z10,z11,z12,uv,iv us.length,iv j]) (H':=X2) ?_).trans ?_
    ·rw [Zb,if_pos rfl,Za a1,Za a2];rfl
    ·rw [Yg,Za a1',Za a2',Za ZC,QG (by omega)];rfl
   ·simp only [Zb3,hdone.2,decide_true,Bool.or_true]
   ·simp only [Zc6,hb,if_true]
    simpa using r3
theorem ZkB {lv : Value} (hl : l.length≤500) (hA : Sl H0 lv (l.map strv)) : ∀ (t j : Nat) (sl : Value) (q : List Nat) (acc : List Tx) (X : Zc),l.length - j=t→j≤l.length→acc.length≤j→HLe H0 X→(∀ i∈q,H0.length≤i)→ZE X sl (acc.map strv) q→Is acc (·∈l.take j)→
  ∃ X' sl' q' acc',Zh (c4 (Q3.l1 (R (n+1)))) [sl,lv,iv l.length,iv j] X=some (.ext 0 [sl'],X')∧ZE X' sl' (acc'.map strv) q'∧Is acc' (·∈l)∧acc'.length≤l.length∧HLe H0 X'∧∀ i∈q',H0.length≤i
 | 0,j,sl,q,acc,X,ht,hj,ha,hle,hq,hr,hI=>by
  have : j=l.length:=by omega
  subst this
  rw [List.take_length] at hI
  refine ⟨X,sl,q,acc,Z8 ?_,hr,hI,ha,hle,hq⟩
  rw [ZK]
  unfold Q3.l1
  rw [Za Zq,Zb,if_neg (by simp)]
  rfl
 | t+1,j,sl,q,acc,X,ht,hj,ha,hle,hq,hr,hI=>by
  have hkl : j < l.length:=by omega
  have hlt : (j : Int) < l.length:=by omega
  have hg:=List.getElem?_eq_getElem hkl
  generalize l[j]=y at hg
  have hA':=hA.mono hle
  have x1:=hA'.ix (i:=j) (by simpa using hkl) .i64 X
  have x2:=hA'.ldx (Wi hg)
  have x3 : R (n+1) Ws [sl,strv y] X=_:=Zpo (x:=y) (by omega) hr.rd
  have hlenS : ZB sl X=some (iv acc.length,X):=by have:=hr.rd.len (H':=X);simpa using this
  by_cases hy : y∈acc
  ·rw [decide_eq_true hy] at x3
   have hI' : Is acc (·∈l.take (j+1)):=⟨hI.asc,fun z=>by
    rw [ZcC hg,hI.mem z]
    constructor
    ·exact .inl
    ·rintro (h | rfl)
     ·exact h
     ·exact (hI.mem _).1 hy⟩
   obtain ⟨X3,sl3,q3,acc3,e3,r3⟩:=ZkB hl hA t (j+1) sl q acc X (by omega) (by omega) (by omega) hle hq hr hI'
   refine ⟨X3,sl3,q3,acc3,(ZI ?_).trans e3,r3⟩
   rw [ZK]
   unfold Q3.l1
   rw [Za Zq,Zb,if_pos (by simpa using hlt)]
   refine (ZV (vs:=[sl,lv,iv l.length,iv j]) (H':=X) ?_).trans ?_
   ·rw [Za x1,Za x2,Za x3,Zb,if_pos rfl];rfl
   ·rw [ZK,Za ZC,QG (by omega)];rfl
  ·rw [decide_eq_false hy] at x3
   have hq2 : ∀ i∈([] : List Nat),X.length≤i:=by simp
   obtain ⟨X1,sl1,q1,e1,r1,l1,o1⟩:=Zkk (n:=n+1) (s:=y) (z10:=lv) (z11:=iv l.length) (z12:=iv j) (by omega) hr.rd acc.length 0 (.slice none 0 0) [] [] false X (by omega) (by omega) (by simp) (.refl _) hq2 ZE.nil
   rw [show iv ((0 : Nat) : Int)=.int .i64 0 from rfl,List.drop_zero] at e1
   rw [List.drop_zero,List.nil_append] at r1
   have hI' : Is (Zej y acc) (·∈l.take (j+1)):=⟨Zop hI.asc hy,fun z=>by
    rw [ZcC hg,ZkO,hI.mem z]
    exact Or.comm⟩
   have lX1:=hle.trans l1
   obtain ⟨X2,sl2,q2,e2,r2,l2,o2⟩ : ∃ X2 sl2 q2,(bind (uop .not (.bool (Zb3 y acc false))) fun v42x23=>jn (cnd v42x23 (bind (bsl 1 1 (.string ⟨#[]⟩) [(0,1,strv y)]) fun v45x24=>bind (app 1 16 sl1 v45x24) fun v46x25=>ret (.nrm [v46x25,lv,iv l.length,iv j])) (ret (.nrm [sl1,lv,iv l.length,iv j]))) (c4 fun q26_0 q26_1 q26_2 q26_3=>ret (.nrm [q26_0,q26_1,q26_2,q26_3])) noX ZP : M Out) X1=some (.nrm [sl2,lv,iv l.length,iv j],X2)∧ZE X2 sl2 ((Zej y acc).map strv) q2∧HLe H0 X2∧∀ i∈q2,H0.length≤i:=by
    have o1' : ∀ i∈q1,H0.length≤i:=fun i hi=>Nat.le_trans hle.len (o1 i hi)
    unfold Zej
    cases hdn : Zb3 y acc false
    ·have hml : (Zc6 y acc false).length≤100000:=by
      have:=ZkC (s:=y) (l:=acc)
      unfold Zej at this
      rw [List.length_append] at this
      omega
     obtain ⟨w,Y1,sl2,X2,q2,a1,a2,r2,l2,o2,_⟩:=ZfG (u:=y) r1 hml o1' lX1
     refine ⟨X2,sl2,q2,?_,by simpa using r2,l2,o2⟩
     rw [Za Zy]
     refine (ZV (vs:=[sl2,lv,iv l.length,iv j]) (H':=X2) ?_).trans rfl
     rw [Zb,if_pos (by rfl),Za a1,Za a2];rfl
    ·refine ⟨X1,sl1,q1,?_,by simpa using r1,lX1,o1'⟩
     rw [Za Zy]
     refine (ZV (vs:=[sl1,lv,iv l.length,iv j]) (H':=X1) ?_).trans rfl
     rw [Zb,if_neg (by simp)];rfl
   obtain ⟨X3,sl3,q3,acc3,e3,r3⟩:=ZkB hl hA t (j+1) sl2 q2 (Zej y acc) X2 (by omega) (by omega) (by rw [ZkC];omega) l2 o2 r2 hI'
   refine ⟨X3,sl3,q3,acc3,(ZI ?_).trans e3,r3⟩
   rw [ZK]
   unfold Q3.l1
   rw [Za Zq,Zb,if_pos (by simpa using hlt)]
   refine (ZV (vs:=[sl2,lv,iv l.length,iv j]) (H':=X2) ?_).trans ?_
   ·rw [Za x1,Za x2,Za x3,Zb,if_neg (by simp),Za hlenS,QX e1,ZN,Jr]
    exact e2
   ·rw [ZK,Za ZC,QG (by omega)];rfl
theorem Zof (hl : l.length≤500) (hA : Sl X v (l.map strv)) : ∃ X' v' q' l',R (n+2) Wa [v] X=some (v',X')∧ZE X' v' (l'.map strv) q'∧Is l' (·∈l)∧l'.length≤l.length∧HLe X X'∧∀ i∈q',X.length≤i:=by
 obtain ⟨X',sl,q,acc,e,r⟩:=ZkB (n:=n) hl hA l.length 0 (.slice none 0 0) [] [] X (by omega) (by omega) (by simp) (.refl _) (by simp) ZE.nil ⟨List.Pairwise.nil,by simp⟩
 rw [show iv ((0 : Nat) : Int)=.int .i64 0 from rfl] at e
 have hlen : ZB v X=some (iv l.length,X):=by have:=hA.len (H':=X);simpa using this
 refine ⟨X',sl,q,acc,?_,r⟩
 rw [R,Zl0 rfl]
 unfold Q3
 rw [Za hlen,QX e,ZN]
 rfl
end
end Go.Proofs.YtnnehafmjfmbnaaGreatDoor.A
namespace Go.Proofs.YtnnehafmjfmbnaaGreatDoor.A
set_option linter.unusedVariables false
set_option linter.unusedSimpArgs false
open Go.Proofs Go.Proofs.YtnnehafmjfmbnaaGreatDoor
abbrev Pr:=Tx × Tx
def prG (u : Pr) : List Value:=[strv u.1,strv u.2]
theorem ZmT (u : Pr) : (prG u).length=2:=rfl
theorem Zu2 (u : Pr) : (prG u).all oneCell=true:=rfl
structure RG (X : Zc) (nv mv : Value) (N : List Tx) (M : List Pr) : Prop where
 n : ∃ q,ZE X nv (N.map strv) q
 m : ∃ q,Q7 2 X mv (M.map prG) q
section
variable {X X' H0 : Zc} {n : Nat} {v nv mv z1 z2 z3 z4 : Value} {N l : List Tx} {M : List Pr} {x s t k m : Tx}
theorem RG.hle (h : RG X nv mv N M) (hl : HLe X X') : RG X' nv mv N M:=⟨h.n.elim fun q h=>⟨q,h.step hl.step (by simp)⟩,h.m.elim fun q h=>⟨q,h.step hl.step (by simp)⟩⟩
theorem RG.sn (h : RG X nv mv N M) : Sl X nv (N.map strv):=h.n.elim fun q h=>h.rd
theorem RG.sm (h : RG X nv mv N M) : SlN 2 X mv (M.map prG):=h.m.elim fun q h=>h.rd
theorem RG.one (h : RG X nv mv N M) : ([nv,mv].all oneCell)=true∧nv.cells=#[nv]∧mv.cells=#[mv]:=by
 obtain ⟨q,hn⟩:=h.n
 obtain ⟨q',hm⟩:=h.m
 exact ⟨by simp [hn.one.1,hm.one.1],hn.one.2,hm.one.2⟩
theorem RG.lenN (h : RG X nv mv N M) (Y : Zc) : ZB nv Y=some (iv N.length,Y):=by have:=h.sn.len (H':=Y);simpa using this
theorem RG.lenM (h : RG X nv mv N M) (Y : Zc) : ZB mv Y=some (iv M.length,Y):=by have:=h.sm.len (H':=Y);simpa using this
theorem RG.box (h : RG X nv mv N M) (Y : Zc) : alc 1 (.agg #[nv,mv]) Y=some (pt Y.length,Y++[.cells [nv,mv] 1 false false]):=K5 (vs:=[nv,mv]) h.one.1
theorem Zwa (Y : Zc) : alc 1 (.agg #[.slice none 0 0,.slice none 0 0]) Y=some (pt Y.length,Y++[.cells [.slice none 0 0,.slice none 0 0] 1 false false]):=K5 (vs:=[.slice none 0 0,.slice none 0 0]) rfl
theorem Zuk {β : Type} {H : Zc} {sl : Value} {K : Value→A.M β} {us : List Pr} {j : Nat} {u : Pr} (h : SlN 2 H sl (us.map prG)) (hj : us[j]?=some u) :
  bind (ixa 2 sl (iv j)) (fun p=>bind (ldA 2 p) fun v=>bind (alc 1 (.agg #[.string ⟨#[]⟩,.string ⟨#[]⟩])) fun q=>bind (stA 2 q v) fun _=>K q) H=K (pt H.length) (H++[.cells (prG u) 1 false false]):=by
 have hr : (us.map prG)[j]?=some (prG u):=by rw [List.getElem?_map,hj];rfl
 rw [h.fetch hr (by omega) .i64]
 exact K3 (n:=2) (zs:=[.string ⟨#[]⟩,.string ⟨#[]⟩]) (r:=prG u) rfl rfl rfl rfl
theorem ZvL {sl : Value} {rows : List Pr} {q : List Nat} {u : Pr} (hr : Q7 2 X sl (rows.map prG) q) (hl : rows.length≤10000) (hq : ∀ j∈q,H0.length≤j) (h0 : HLe H0 X) :
  ∃ w X1 sl' X2 q',bsl 2 1 (.agg #[.string ⟨#[]⟩,.string ⟨#[]⟩]) [(0,2,.agg (prG u).toArray)] X=some (w,X1)∧app 2 32 sl w X1=some (sl',X2)∧Q7 2 X2 sl' ((rows++[u]).map prG) q'∧HLe H0 X2∧(∀ j∈q',H0.length≤j)∧ZH q X q' X2:=by
 have x4:=Zk5 (es:=2) (z:=.agg #[.string ⟨#[]⟩,.string ⟨#[]⟩]) (H:=X) rfl (ZmT u) (Zu2 u)
 have l1 : HLe X (X++[Zf.cells (prG u) 2 false false]):=.app _ _
 have s1 : SlN 2 (X++[Zf.cells (prG u) 2 false false]) (.slice (some ⟨X.length,0,none⟩) 1 1) [prG u]:=SlN.whole (rows:=[prG u]) (c:=1) (e:=2) (g:=false) (ro:=false) (by rw [ZD];simp) (by simp [ZmT])
 generalize X++[Zf.cells (prG u) 2 false false]=X1 at x4 l1 s1
 have hr1 : Q7 2 X1 sl _ q:=hr.keep fun j hj=>l1.step.keep j (hr.lt j hj) (by simp)
 obtain ⟨sl',X2,q',x5,hn2,s2⟩:=hr1.push (b:=32) s1 (ZmT _) (by simp;omega) (by simp;omega)
 have hm:=(h0.trans l1).more s2 hq
 exact ⟨_,X1,sl',X2,q',x4,x5,by rw [List.map_append];exact hn2,hm.1,hm.2,(l1.step.more (by simp) (fun j hj=>.inl hj)).trans s2⟩
theorem Zv7 {a a' : Option Addr} {n1 c1 n2 c2 : Nat} : bld (.agg #[.slice none 0 0,.slice none 0 0]) [(0,1,.slice a n1 c1),(1,1,.slice a' n2 c2)] X=some (.agg #[.slice a n1 c1,.slice a' n2 c2],X):=by
 simp [↓ZZ,Z0,↓Qx,Qd,Qc,Qe,↓Zb,J0,Zv,Yk,Qj,Jx,Qo,Jv,Jy,QI,JH,QH,QP,QW,QV,JA,Zj,Zy,YK,YA,Jf,Q0,JZ,ZC,Jc,J1,JU,JF,ZA,Zt,Zq,QY,QE,Qb,Jn,JM,JP,JV,↓YE,JX,↓g_r,YB,Y6,Wq,splice,Value.cells]
theorem ZE.isS {vs : List Value} {q : List Nat} (h : ZE X v vs q) : ∃ a n c,v=.slice a n c:=by
 rcases h with ⟨_,_,rfl⟩ | ⟨sid,rest,gr,rfl,_,_⟩
 ·exact ⟨_,_,_,rfl⟩
 ·exact ⟨_,_,_,rfl⟩
theorem Q7.isS {es : Nat} {vs : List (List Value)} {q : List Nat} (h : Q7 es X v vs q) : ∃ a n c,v=.slice a n c:=by
 rcases h with ⟨_,_,rfl⟩ | ⟨sid,rest,r,gr,rfl,_,_⟩
 ·exact ⟨_,_,_,rfl⟩
 ·exact ⟨_,_,_,rfl⟩
theorem ZnX (h : RG X nv mv N M) : ∃ X2,(∀ {β : Type} (K : Value→Value→A.M β),bind (alc 1 (.agg #[nv,mv])) (fun a=>bind (alc 1 (.agg #[.slice none 0 0,.slice none 0 0])) fun b=>K a b) X=K (pt X.length) (pt (X.length+1)) X2)∧X2[X.length]?=some (.cells [nv,mv] 1 false false)∧X2[X.length+1]?=some (.cells [.slice none 0 0,.slice none 0 0] 1 false false)∧HLe X X2∧X2.length=X.length+2:=by
 refine ⟨X++[.cells [nv,mv] 1 false false]++[.cells [.slice none 0 0,.slice none 0 0] 1 false false],fun K=>?_,ZhS,Zvm,(HLe.app _ _).trans (.app _ _),by simp⟩
 rw [Za (h.box X),Za (Zwa _)]
 simp
theorem fin {b1 b2 : Nat} {a1 a2 c1 c2 : Value} (h1 : X[b1]?=some (.cells [a1,a2] 1 false false)) (h2 : X[b2]?=some (.cells [c1,c2] 1 false false)) (hn : b1≠b2) (ho : ([a1,a2].all oneCell)=true) {β : Type} (K : Value→A.M β) :
  bind (ldA 2 (pt b1)) (fun v=>bind (stA 2 (pt b2) v) fun _=>bind (ldA 2 (pt b2)) K) X=K (.agg #[a1,a2]) (X.set b2 (.cells [a1,a2] 1 false false)):=by
 have e1 : ldA 2 (pt b1) X=some (.agg #[a1,a2],X):=ZY h1 rfl
 have e2 : stA 2 (pt b2) (.agg #[a1,a2]) X=some (undef,X.set b2 (.cells [a1,a2] 1 false false)):=WM (vs:=[a1,a2]) h2 rfl rfl ho
 have e3 : ldA 2 (pt b2) (X.set b2 (.cells [a1,a2] 1 false false))=some (.agg #[a1,a2],X.set b2 (.cells [a1,a2] 1 false false)):=ZY (ZT h2) rfl
 rw [Za e1,Za e2,Za e3]
theorem ZE.setB {vs : List Value} {q : List Nat} {b : Nat} {o : Zf} (h : ZE X v vs q) (hb : b∉q) : ZE (X.set b o) v vs q:=h.keep fun j hj=>List.getElem?_set_ne fun e=>hb (by rw [e];exact hj)
theorem Q7.setB {es : Nat} {vs : List (List Value)} {q : List Nat} {b : Nat} {o : Zf} (h : Q7 es X v vs q) (hb : b∉q) : Q7 es (X.set b o) v vs q:=h.keep fun j hj=>List.getElem?_set_ne fun e=>hb (by rw [e];exact hj)
end
end Go.Proofs.YtnnehafmjfmbnaaGreatDoor.A
namespace Go.Proofs.YtnnehafmjfmbnaaGreatDoor.A
set_option linter.unusedVariables false
set_option linter.unusedSimpArgs false
open Go.Proofs Go.Proofs.YtnnehafmjfmbnaaGreatDoor
structure Zg7 (N : List Tx) (M : List Pr) (K : List Tx) (mem : Mem) : Prop where
 n : Is N (·∈K)
 m : ∀ k x,(k,x)∈M↔mem k x=true
theorem ZtV {N K : List Tx} (h : Is N (·∈K)) (hK : K.Nodup) : N.length=K.length:=
 ((List.perm_ext_iff_of_nodup h.asc.nodup hK).2 h.mem).length_eq
section
variable {X X' H0 : Zc} {n : Nat} {v nv mv z1 z2 z3 z4 : Value} {N l K : List Tx} {M : List Pr} {mem : Mem} {x s t k m : Tx}
theorem Zod (h : RG X nv mv N M) {X1 : Zc} (l1 : HLe X X1) {e : Int} (b1 : X1[X.length]?=some (.cells [nv,mv] 1 false false)) (b2 : X1[X.length+1]?=some (.cells [.slice none 0 0,.slice none 0 0] 1 false false)) :
  ∃ X',(bind (ldA 2 (pt X.length)) fun v9x5=>bind (stA 2 (pt (X.length+1)) v9x5) fun _=>bind (ldA 2 (pt (X.length+1))) fun vrx6=>ret (Value.tuple #[vrx6,iv e])) X1=some (.tuple #[.agg #[nv,mv],iv e],X')∧RG X' nv mv N M∧HLe X X':=by
 have l2 : HLe X (X1.set (X.length+1) (.cells [nv,mv] 1 false false)):=l1.setN (by omega)
 exact ⟨_,fin b1 b2 (by omega) h.one.1 _,h.hle l2,l2⟩
theorem Zt5 (h : RG X nv mv N M) (hO : Zg7 N M K mem) (hK : K.Nodup) (hN : N.length≤100) : ∃ X' nv' N',R (n+5) Zci [.agg #[nv,mv],strv k] X=some (.tuple #[.agg #[nv',mv],iv (QR k K)],X')∧RG X' nv' mv N' M∧Zg7 N' M (Zck k K) mem∧HLe X X':=by
 have f1 : ∀ r X',Zar (R (n+4)) (.agg #[nv,mv]) (strv k) X=some (r,X')→R (n+5) Zci [.agg #[nv,mv],strv k] X=some (r,X'):=fun r X' hr=>by rw [R,Znq rfl];exact hr
 obtain ⟨X1,e1,b1,b2,l1,len1⟩:=ZnX h
 have h1:=h.hle l1
 have e2 : ∀ Y : Zc,R (n+4) Qt [strv k] Y=some (.bool (Zr k),Y):=fun Y=>Za2 (n:=n+1)
 have d0 : ld1 (pa X.length 0) X1=some (nv,X1):=Zu b1 rfl
 have e3 : R (n+4) Ws [nv,strv k] X1=_:=Zpo (n:=n+3) (x:=k) (by omega) h1.sn
 have hlen:=ZtV hO.n hK
 have same : ∀ e,QR k K=e→e≠0→Zg7 N M (Zck k K) mem:=fun e he hne=>by unfold Zck;rw [if_neg (by rw [he];exact hne)];exact hO
 cases hn : Zr k
 ·have hE : QR k K=10:=by unfold QR;rw [hn];rfl
  obtain ⟨X2,e4,r4,l4⟩:=Zod (e:=10) h l1 b1 b2
  refine ⟨X2,nv,N,by rw [hE];refine f1 _ _ ?_;unfold Zar;refine (e1 _).trans ?_;rw [Za (e2 _),hn,Za Zy,Zb,if_pos (by rfl)];exact e4,r4,same _ hE (by decide),l4⟩
 ·by_cases hk : k∈K
  ·have hE : QR k K=9:=by unfold QR;rw [hn,if_pos rfl,if_pos hk]
   have hkN : k∈N:=(hO.n.mem k).2 hk
   rw [decide_eq_true hkN] at e3
   obtain ⟨X2,e4,r4,l4⟩:=Zod (e:=9) h l1 b1 b2
   refine ⟨X2,nv,N,by rw [hE];refine f1 _ _ ?_;unfold Zar;refine (e1 _).trans ?_;rw [Za (e2 _),hn,Za Zy,Zb,if_neg (by simp),Za Zg,Za d0,Za e3,Zb,if_pos rfl];exact e4,r4,same _ hE (by decide),l4⟩
  ·have hkN : ¬ k∈N:=fun hm=>hk ((hO.n.mem k).1 hm)
   rw [decide_eq_false hkN] at e3
   by_cases hl : 6≤K.length
   ·have hE : QR k K=7:=by unfold QR;rw [hn,if_pos rfl,if_neg hk,if_pos hl]
    obtain ⟨X2,e4,r4,l4⟩:=Zod (e:=7) h l1 b1 b2
    refine ⟨X2,nv,N,by rw [hE];refine f1 _ _ ?_;unfold Zar;refine (e1 _).trans ?_;rw [Za (e2 _),hn,Za Zy,Zb,if_neg (by simp),Za Zg,Za d0,Za e3,Zb,if_neg (by simp),Za Zg,Za d0,Za (h.lenN _),Za Qb,Zb,if_pos (by simp;omega)];exact e4,r4,same _ hE (by decide),l4⟩
   ·have hE : QR k K=0:=by unfold QR;rw [hn,if_pos rfl,if_neg hk,if_neg hl]
    have e5:=ZvJ (es:=1) (z:=.string ⟨#[]⟩) (H:=X1)
    have l5 : HLe X1 (X1++[Zf.cells [] 1 false false]):=.app _ _
    have c5 : (X1++[Zf.cells [] 1 false false])[X1.length]?=some (.cells [] 1 false false):=ZD
    generalize X1++[Zf.cells [] 1 false false]=Y1 at e5 l5 c5
    have d5 : ld1 (pa X.length 0) Y1=some (nv,Y1):=Zu (l5 _ _ b1) rfl
    obtain ⟨sl,Y2,q2,e6,r6,l6,o6⟩:=ZsI (b:=16) (s:=.slice (some ⟨X1.length,0,none⟩) 0 0) (h1.hle l5).sn (by simp;omega) (by simp;omega) (.inr ⟨X1.length,false,rfl,c5,rfl⟩)
    have hq2 : ∀ j∈q2,X1.length≤j:=fun j hj=>by
     rcases o6 j hj with h | ⟨_,h⟩
     ·exact Nat.le_trans l5.len h
     ·have : X1.length=j:=by simpa [own1] using h
      omega
    obtain ⟨w,Y3,sl3,Y4,q4,a1,a2,r4,l4,o4,_⟩:=ZfG (H0:=X1) (u:=k) r6 (by omega) hq2 (l5.trans l6)
    obtain ⟨Y5,sl5,q5,N5,e7,r7,i7,n7,l7,o7⟩:=Zof (n:=n+2) (l:=N++[k]) (by simp;omega) r4.rd
    have e7 : R (n+4) Wa [sl3] Y4=_:=e7
    have l15:=l4.trans l7
    have c1:=l15 _ _ b1
    have c2:=l15 _ _ b2
    have w3 : st1 (pa X.length 0) sl5 Y5=some (undef,Y5.set X.length (.cells [sl5,mv] 1 false false)):=Zal (cs:=[nv,mv]) c1 (by simp) r7.one.1
    have c3 : (Y5.set X.length (.cells [sl5,mv] 1 false false))[X.length]?=some (.cells [sl5,mv] 1 false false):=ZT c1
    have c4 : (Y5.set X.length (.cells [sl5,mv] 1 false false))[X.length+1]?=some (.cells [.slice none 0 0,.slice none 0 0] 1 false false):=by rw [List.getElem?_set_ne (by omega)];exact c2
    have hone : ([sl5,mv].all oneCell)=true:=by
     have:=h.one.1
     simp only [List.all_cons,List.all_nil,Bool.and_true,Bool.and_eq_true] at this ⊢
     exact ⟨r7.one.1,this.2⟩
    have hq5 : X.length∉q5∧X.length+1∉q5:=⟨fun hm=>by have:=o7 _ hm;have:=l4.len;omega,fun hm=>by have:=o7 _ hm;have:=l4.len;omega⟩
    have l05:=(l1.trans l15)
    refine ⟨(Y5.set X.length (.cells [sl5,mv] 1 false false)).set (X.length+1) (.cells [sl5,mv] 1 false false),sl5,N5,?_,⟨⟨q5,(r7.setB hq5.1).setB hq5.2⟩,?_⟩,?_,(l05.setN (Nat.le_refl _)).setN (by omega)⟩
    ·rw [hE]
     refine f1 _ _ ?_
     unfold Zar
     refine (e1 _).trans ?_
     rw [Za (e2 _),hn,Za Zy,Zb,if_neg (by simp),Za Zg,Za d0,Za e3,Zb,if_neg (by simp),Za Zg,Za d0,Za (h.lenN _),Za Qb,Zb,if_neg (by simp;omega),Za e5,Za Zg,Za d5,Za e6,Za a1,Za a2,Za e7,Za Zg,Za w3]
     exact fin c3 c4 (by omega) hone _
    ·obtain ⟨qm,hm⟩:=h.m
     exact ⟨qm,hm.step ((l05.setN (Nat.le_refl _)).setN (by omega) : HLe X _).step (by simp)⟩
    ·refine ⟨⟨i7.asc,fun z=>?_⟩,hO.m⟩
     rw [i7.mem z]
     unfold Zck
     rw [if_pos hE]
     simp only [List.mem_append,List.mem_singleton,hO.n.mem z]
theorem Zkq {lv : Value} (hl : l.length≤1000) (hA : Sl H0 lv (l.map strv)) : ∀ (t j : Nat) (sl : Value) (q : List Nat) (acc : List Tx) (X : Zc),l.length - j=t→j≤l.length→acc.length≤j→HLe H0 X→(∀ i∈q,H0.length≤i)→ZE X sl (acc.map strv) q→
  ∃ X' sl' q',Zh (c7 (Q1.l1 (R n))) [strv k,z1,z2,sl,lv,iv l.length,iv j] X=some (.ext 0 [strv k,z1,z2,sl'],X')∧ZE X' sl' ((acc++(l.drop j).filter (fun x=>decide (x≠k))).map strv) q'∧ZH q X q' X'∧∀ i∈q',H0.length≤i
 | 0,j,sl,q,acc,X,ht,hj,ha,hle,hq,hr=>by
  rw [List.drop_eq_nil_of_le (by omega)]
  refine ⟨X,sl,q,Z8 ?_,by simpa using hr,.refl _ _,hq⟩
  rw [Jk,show j=l.length by omega]
  unfold Q1.l1
  rw [Za Zq,Zb,if_neg (by simp)]
  rfl
 | t+1,j,sl,q,acc,X,ht,hj,ha,hle,hq,hr=>by
  have hkl : j < l.length:=by omega
  have hlt : (j : Int) < l.length:=by omega
  have hg:=List.getElem?_eq_getElem hkl
  have hd:=List.drop_eq_getElem_cons hkl
  generalize l[j]=y at hg hd
  have hA':=hA.mono hle
  have x1:=hA'.ix (i:=j) (by simpa using hkl) .i64 X
  have x2:=hA'.ldx (Wi hg)
  rw [hd,List.filter_cons]
  by_cases hy : y=k
  ·rw [if_neg (by simpa using hy)]
   obtain ⟨X2,sl2,q2,e2,r2,s2,o2⟩:=Zkq hl hA t (j+1) sl q acc X (by omega) (by omega) (by omega) hle hq hr
   refine ⟨X2,sl2,q2,(ZI ?_).trans e2,r2,s2,o2⟩
   rw [Jk]
   unfold Q1.l1
   rw [Za Zq,Zb,if_pos (by simpa using hlt),Za x1,Za x2,Za K6]
   refine (ZV (vs:=[strv k,z1,z2,sl,lv,iv l.length,iv j]) (H':=X) ?_).trans ?_
   ·rw [Zb,if_neg (by simpa using hy)];rfl
   ·rw [Jk,Za ZC,QG (by omega)];rfl
  ·rw [if_pos (by simpa using hy)]
   obtain ⟨w,Y,sl1,X2,q1,a1,a2,r1,l2,o1,s1⟩:=ZfG (u:=y) hr (by omega) hq hle
   obtain ⟨X3,sl2,q2,e2,r2,s2,o2⟩:=Zkq hl hA t (j+1) sl1 q1 (acc++[y]) X2 (by omega) (by omega) (by simp;omega) l2 o1 r1
   refine ⟨X3,sl2,q2,(ZI ?_).trans e2,by simpa using r2,s1.trans s2,o2⟩
   rw [Jk]
   unfold Q1.l1
   rw [Za Zq,Zb,if_pos (by simpa using hlt),Za x1,Za x2,Za K6]
   refine (ZV (vs:=[strv k,z1,z2,sl1,lv,iv l.length,iv j]) (H':=X2) ?_).trans ?_
   ·rw [Zb,if_pos (by simpa using hy),Za a1,Za a2];rfl
   ·rw [Jk,Za ZC,QG (by omega)];rfl
theorem ZkJ (hl : M.length≤1000) (hs : SlN 2 H0 mv (M.map prG)) : ∀ (t j : Nat) (sl : Value) (q : List Nat) (acc : List Pr) (X : Zc),M.length - j=t→j≤M.length→acc.length≤j→HLe H0 X→(∀ i∈q,H0.length≤i)→Q7 2 X sl (acc.map prG) q→
  ∃ X' sl' q',Zh (c7 (Q1.l2 (R n))) [strv k,z1,z2,sl,mv,iv M.length,iv j] X=some (.ext 2 [z1,z2,sl'],X')∧Q7 2 X' sl' ((acc++(M.drop j).filter (fun u=>!(u.1==k))).map prG) q'∧ZH q X q' X'∧∀ i∈q',H0.length≤i
 | 0,j,sl,q,acc,X,ht,hj,ha,hle,hq,hr=>by
  rw [List.drop_eq_nil_of_le (by omega)]
  refine ⟨X,sl,q,Z8 ?_,by simpa using hr,.refl _ _,hq⟩
  rw [Jk,show j=M.length by omega]
  unfold Q1.l2
  rw [Za Zq,Zb,if_neg (by simp)]
  rfl
 | t+1,j,sl,q,acc,X,ht,hj,ha,hle,hq,hr=>by
  have hkl : j < M.length:=by omega
  have hlt : (j : Int) < M.length:=by omega
  have hg:=List.getElem?_eq_getElem hkl
  have hd:=List.drop_eq_getElem_cons hkl
  generalize M[j]=u at hg hd
  have hf:=fun {K : Value→A.M Out}=>Zuk (K:=K) (hs.mono hle) hg
  have bx : (X++[Zf.cells (prG u) 1 false false])[X.length]?=some (.cells (prG u) 1 false false):=ZD
  have l1 : HLe X (X++[Zf.cells (prG u) 1 false false]):=.app _ _
  generalize X++[Zf.cells (prG u) 1 false false]=X1 at hf bx l1
  have hr1:=hr.step l1.step (by simp)
  have d0 : ld1 (pa X.length 0) X1=some (strv u.1,X1):=Zu bx rfl
  have dA : ldA 2 (pt X.length) X1=some (.agg (prG u).toArray,X1):=ZY bx rfl
  have q1 : bop .str .neq (strv u.1) (strv k) X1=some (.bool (!(u.1==k)),X1):=K6
  rw [hd,List.filter_cons]
  cases hb : !(u.1==k)
  ·rw [hb] at q1
   obtain ⟨X2,sl2,q2,e2,r2,s2,o2⟩:=ZkJ hl hs t (j+1) sl q acc X1 (by omega) (by omega) (by omega) (hle.trans l1) hq hr1
   refine ⟨X2,sl2,q2,(ZI ?_).trans e2,by simpa using r2,l1.stepq.trans s2,o2⟩
   rw [Jk]
   unfold Q1.l2
   rw [Za Zq,Zb,if_pos (by simpa using hlt),hf,Za Zg,Za d0,Za q1]
   refine (ZV (vs:=[strv k,z1,z2,sl,mv,iv M.length,iv j]) (H':=X1) ?_).trans ?_
   ·rw [Zb,if_neg (by simp)];rfl
   ·rw [Jk,Za ZC,QG (by omega)];rfl
  ·rw [hb] at q1
   obtain ⟨w,Y,sl1,X2,q1',a1,a2,r1,l2,o1,s1⟩:=ZvL (u:=u) hr1 (by omega) hq (hle.trans l1)
   obtain ⟨X3,sl2,q2,e2,r2,s2,o2⟩:=ZkJ hl hs t (j+1) sl1 q1' (acc++[u]) X2 (by omega) (by omega) (by simp;omega) l2 o1 r1
   refine ⟨X3,sl2,q2,(ZI ?_).trans e2,by simpa using r2,(l1.stepq.trans s1).trans s2,o2⟩
   rw [Jk]
   unfold Q1.l2
   rw [Za Zq,Zb,if_pos (by simpa using hlt),hf,Za Zg,Za d0,Za q1]
   refine (ZV (vs:=[strv k,z1,z2,sl1,mv,iv M.length,iv j]) (H':=X2) ?_).trans ?_
   ·rw [Zb,if_pos rfl,Za dA,Za a1,Za a2];rfl
   ·rw [Jk,Za ZC,QG (by omega)];rfl
theorem ZuT (h : RG X nv mv N M) (hO : Zg7 N M K mem) (hN : N.length≤100) (hM : M.length≤1000) : ∃ X' nv' mv' N' M',R (n+5) Zcg [.agg #[nv,mv],strv k] X=some (.tuple #[.agg #[nv',mv'],iv (QL k K)],X')∧RG X' nv' mv' N' M'∧Zg7 N' M' (Za1 k K) (if QL k K=0 then W7 k mem else mem)∧M'.length≤M.length∧HLe X X':=by
 have f1 : ∀ r X',Q1 (R (n+4)) (.agg #[nv,mv]) (strv k) X=some (r,X')→R (n+5) Zcg [.agg #[nv,mv],strv k] X=some (r,X'):=fun r X' hr=>by rw [R,Znn rfl];exact hr
 obtain ⟨X1,e1,b1,b2,l1,len1⟩:=ZnX h
 have h1:=h.hle l1
 have e2 : ∀ Y : Zc,R (n+4) Qt [strv k] Y=some (.bool (Zr k),Y):=fun Y=>Za2 (n:=n+1)
 have d0 : ld1 (pa X.length 0) X1=some (nv,X1):=Zu b1 rfl
 have e3 : R (n+4) Ws [nv,strv k] X1=_:=Zpo (n:=n+3) (x:=k) (by omega) h1.sn
 have same : ∀ e,QL k K=e→e≠0→Zg7 N M (Za1 k K) (if QL k K=0 then W7 k mem else mem):=fun e he hne=>by unfold Za1;rw [if_neg (by rw [he];exact hne),if_neg (by rw [he];exact hne)];exact hO
 cases hn : Zr k
 ·have hE : QL k K=10:=by unfold QL;rw [hn];rfl
  obtain ⟨X2,e4,r4,l4⟩:=Zod (e:=10) h l1 b1 b2
  refine ⟨X2,nv,mv,N,M,by rw [hE];refine f1 _ _ ?_;unfold Q1;refine (e1 _).trans ?_;rw [Za (e2 _),hn,Za Zy,Zb,if_pos (by rfl)];exact e4,r4,same _ hE (by decide),Nat.le_refl _,l4⟩
 ·by_cases hk : k∈K
  ·have hE : QL k K=0:=by unfold QL;rw [hn,if_pos rfl,if_pos hk]
   have hkN : k∈N:=(hO.n.mem k).2 hk
   rw [decide_eq_true hkN] at e3
   obtain ⟨X2,sl,q,e4,r4,s4,o4⟩:=Zkq (n:=n+4) (k:=k) (z1:=pt X.length) (z2:=pt (X.length+1)) (by omega) h1.sn N.length 0 (.slice none 0 0) [] [] X1 (by omega) (by omega) (by simp) (.refl _) (by simp) ZE.nil
   rw [show iv ((0 : Nat) : Int)=.int .i64 0 from rfl] at e4
   rw [List.drop_zero,List.nil_append] at r4
   have l4:=s4.hle
   have d1 : ld1 (pa X.length 1) X2=some (mv,X2):=Zu (l4 _ _ b1) rfl
   obtain ⟨X3,sm,qm,e5,r5,s5,o5⟩:=ZkJ (n:=n+4) (k:=k) (z1:=pt (X.length+1)) (z2:=sl) hM (h1.hle l4).sm M.length 0 (.slice none 0 0) [] [] X2 (by omega) (by omega) (by simp) (.refl _) (by simp) Q7.nil
   rw [show iv ((0 : Nat) : Int)=.int .i64 0 from rfl] at e5
   rw [List.drop_zero,List.nil_append] at r5
   have l5:=s5.hle
   have r4':=r4.step l5.step (by simp)
   have hbld : bld (.agg #[.slice none 0 0,.slice none 0 0]) [(0,1,sl),(1,1,sm)] X3=some (.agg #[sl,sm],X3):=by
    obtain ⟨a,n1,c1,rfl⟩:=r4.isS
    obtain ⟨a',n2,c2,rfl⟩:=r5.isS
    exact Zv7
   have c2:=l5 _ _ (l4 _ _ b2)
   have hone : ([sl,sm].all oneCell)=true:=by simp [r4.one.1,r5.one.1]
   have w1 : stA 2 (pt (X.length+1)) (.agg #[sl,sm]) X3=some (undef,X3.set (X.length+1) (.cells [sl,sm] 1 false false)):=WM (vs:=[sl,sm]) c2 rfl rfl hone
   have w2 : ldA 2 (pt (X.length+1)) (X3.set (X.length+1) (.cells [sl,sm] 1 false false))=some (.agg #[sl,sm],X3.set (X.length+1) (.cells [sl,sm] 1 false false)):=ZY (ZT c2) rfl
   have hx1:=l1.len
   have hx2:=l4.len
   refine ⟨X3.set (X.length+1) (.cells [sl,sm] 1 false false),sl,sm,N.filter (fun x=>decide (x≠k)),M.filter (fun u=>!(u.1==k)),?_,⟨⟨q,r4'.setB fun hm=>by have:=o4 _ hm;omega⟩,⟨qm,r5.setB fun hm=>by have:=o5 _ hm;omega⟩⟩,?_,List.length_filter_le _ _,((l1.trans l4).trans l5).setN (by omega)⟩
   ·rw [hE]
    refine f1 _ _ ?_
    unfold Q1
    refine (e1 _).trans ?_
    rw [Za (e2 _),hn,Za Zy,Zb,if_neg (by simp),Za Zg,Za d0,Za e3,Za Zy,Zb,if_neg (by simp),Za Zg,Za d0,Za (h.lenN _),QX e4,ZN,ZK,Za Zg,Za d1,Za (h.lenM _),QX e5,ZN,Z4,Za hbld,Za w1,Za w2]
    rfl
   ·unfold Za1
    rw [if_pos hE,if_pos hE]
    refine ⟨⟨hO.n.asc.filter _,fun z=>?_⟩,fun k' z=>?_⟩
    ·rw [List.mem_filter,List.mem_filter,hO.n.mem z]
    ·rw [List.mem_filter,hO.m];unfold W7;simp
  ·have hE : QL k K=8:=by unfold QL;rw [hn,if_pos rfl,if_neg hk]
   have hkN : ¬ k∈N:=fun hm=>hk ((hO.n.mem k).1 hm)
   rw [decide_eq_false hkN] at e3
   obtain ⟨X2,e4,r4,l4⟩:=Zod (e:=8) h l1 b1 b2
   refine ⟨X2,nv,mv,N,M,by rw [hE];refine f1 _ _ ?_;unfold Q1;refine (e1 _).trans ?_;rw [Za (e2 _),hn,Za Zy,Zb,if_neg (by simp),Za Zg,Za d0,Za e3,Za Zy,Zb,if_pos (by rfl)];exact e4,r4,same _ hE (by decide),Nat.le_refl _,l4⟩
end
end Go.Proofs.YtnnehafmjfmbnaaGreatDoor.A
namespace Go.Proofs.YtnnehafmjfmbnaaGreatDoor.A
set_option linter.unusedVariables false
set_option linter.unusedSimpArgs false
open Go.Proofs Go.Proofs.YtnnehafmjfmbnaaGreatDoor
section
variable {X X' H0 : Zc} {n : Nat} {v nv mv z1 z2 z3 z4 : Value} {N l K : List Tx} {M : List Pr} {mem : Mem} {x s t k m : Tx}
end
end Go.Proofs.YtnnehafmjfmbnaaGreatDoor.A

namespace Go.Proofs.YtnnehafmjfmbnaaGreatDoor.A
set_option linter.unusedVariables false
set_option linter.unusedSimpArgs false
open Go.Proofs Go.Proofs.YtnnehafmjfmbnaaGreatDoor
def ZdP (l : List Zo) : Prop:=l.Pairwise fun a b=>a.nm < b.nm
def Zbu (k : List UInt8) (l : List Zo) : Option Nat:=l.findIdx? fun u=>u.nm==k
section
variable {x : Zo} {k s : List UInt8}
def Kf (u : Zo) : List Zo→Bool→List Zo
 | [],_=>[]
 | v :: l,done=>(if !done && decide (u.nm≤v.nm) then [u] else [])++((if v.nm≠u.nm then [v] else [])++Kf u l (done || decide (u.nm≤v.nm)))
def KM (u : Zo) : List Zo→Bool→Bool
 | [],done=>done
 | v :: l,done=>KM u l (done || decide (u.nm≤v.nm))
def ZbF (u : Zo) (l : List Zo) : List Zo:=Kf u l false++if KM u l false then [] else [u]
theorem ZhQ {u : Zo} : ∀ {l : List Zo},Kf u l true=l.filter fun v=>decide (v.nm≠u.nm)
 | []=>rfl
 | v :: l=>by
  unfold Kf
  rw [Bool.true_or,ZhQ,List.filter_cons]
  by_cases h : v.nm=u.nm <;> simp [h]
theorem Zhn {u : Zo} : ∀ {l : List Zo},KM u l true=true
 | []=>rfl
 | v :: l=>by unfold KM;rw [Bool.true_or,Zhn]
theorem Zm2 {u v : Zo} {l : List Zo} : ZbF u (v :: l)=if u.nm≤v.nm then u :: (v :: l).filter (fun v=>decide (v.nm≠u.nm)) else v :: ZbF u l:=by
 have e1 : Kf u (v :: l) false=(if !false && decide (u.nm≤v.nm) then [u] else [])++((if v.nm≠u.nm then [v] else [])++Kf u l (false || decide (u.nm≤v.nm))):=rfl
 have e2 : KM u (v :: l) false=KM u l (false || decide (u.nm≤v.nm)):=rfl
 unfold ZbF
 rw [e1,e2]
 by_cases h : u.nm≤v.nm
 ·rw [if_pos h]
  simp only [h,decide_true,Bool.or_true,ZhQ,Zhn,Bool.not_false,Bool.and_self,if_true,List.filter_cons]
  by_cases h2 : v.nm=u.nm <;> simp [h2]
 ·rw [if_neg h]
  have h2 : v.nm≠u.nm:=fun e=>h (by rw [e];exact List.le_refl _)
  simp [h,h2]
theorem Za6 {u : Zo} : ∀ {l : List Zo},x∈ZbF u l↔x=u∨(x∈l∧x.nm≠u.nm)
 | []=>by simp [ZbF,Kf,KM]
 | v :: l=>by
  rw [Zm2]
  by_cases h : u.nm≤v.nm
  ·rw [if_pos h,List.mem_cons,List.mem_filter];simp
  ·have h2 : v.nm≠u.nm:=fun e=>h (by rw [e];exact List.le_refl _)
   rw [if_neg h,List.mem_cons,Za6,List.mem_cons]
   constructor
   ·rintro (rfl | h | h)
    ·exact .inr ⟨.inl rfl,h2⟩
    ·exact .inl h
    ·exact .inr ⟨.inr h.1,h.2⟩
   ·rintro (h | ⟨h | h,h3⟩)
    ·exact .inr (.inl h)
    ·exact .inl h
    ·exact .inr (.inr ⟨h,h3⟩)
theorem Zid {u : Zo} : ∀ {l : List Zo},ZdP l→ZdP (ZbF u l)
 | [],_=>by simp [ZbF,Kf,KM,ZdP]
 | v :: l,hr=>by
  have hr2 : (∀ a∈l,v.nm < a.nm)∧ZdP l:=by simpa [ZdP] using hr
  rw [Zm2]
  by_cases h : u.nm≤v.nm
  ·rw [if_pos h]
   refine List.pairwise_cons.2 ⟨fun a ha=>?_,List.Pairwise.filter _ hr⟩
   obtain ⟨h1,h2⟩:=List.mem_filter.1 ha
   have h2 : a.nm≠u.nm:=by simpa using h2
   have h3 : u.nm≤a.nm:=by
    rcases List.mem_cons.1 h1 with rfl | h1
    ·exact h
    ·exact List.le_trans h (List.le_of_lt (hr2.1 a h1))
   rcases ZlB u.nm a.nm with h4 | h4 | h4
   ·exact h4
   ·exact absurd h4.symm h2
   ·exact absurd h4 h3
  ·rw [if_neg h]
   refine List.pairwise_cons.2 ⟨fun a ha=>?_,Zid hr2.2⟩
   rcases Za6.1 ha with rfl | ⟨h1,_⟩
   ·rcases ZlB v.nm a.nm with h4 | h4 | h4
    ·exact h4
    ·exact absurd (by rw [h4];exact List.le_refl _) h
    ·exact absurd (List.le_of_lt h4) h
   ·exact hr2.1 a h1
end
section
variable {H0 H X : Zc} {n d b : Nat} {ws : List Zo} {k s : List UInt8} {wv : Value}
theorem Kg {u : Zo} (h : oneCell u.gv=true) : u.cells.all oneCell=true:=by simp only [Zo.cells,List.all_cons,h];rfl
theorem ZeQ {β : Type} {k : Value→M β} {sl : Value} {us : List Zo} (h : SlN 5 H sl (us.map Zo.cells)) {j : Nat} {u : Zo} (ho : oneCell u.gv=true) (hj : us[j]?=some u) :
  bind (ixa 5 sl (iv j)) (fun p=>bind (ldA 5 p) fun v=>bind (alc 1 (.agg #[.string ⟨#[]⟩,.string ⟨#[]⟩,.string ⟨#[]⟩,.bool false,.slice none 0 0])) fun q=>bind (stA 5 q v) fun _=>k q) H=k (pt H.length) (H++[.cells u.cells 1 false false]):=by
 have hr : (us.map Zo.cells)[j]?=some u.cells:=by rw [List.getElem?_map,hj];rfl
 rw [h.fetch hr (by omega) .i64]
 exact K3 (n:=5) (zs:=[.string ⟨#[]⟩,.string ⟨#[]⟩,.string ⟨#[]⟩,.bool false,.slice none 0 0]) (r:=u.cells) rfl rfl rfl (Kg ho)
theorem Zv2 {a c : List UInt8} {H : Zc} : bop .str .leq (strv a) (strv c) H=some (.bool (decide (a≤c)),H):=by
 have h : (Op.bytesLess a c || a==c)=decide (a≤c):=by
  rw [bytesLess_eq,Bool.eq_iff_iff]
  simp only [Bool.or_eq_true,decide_eq_true_eq,beq_iff_eq]
  constructor
  ·rintro (h | h)
   ·exact List.le_of_lt h
   ·rw [h];exact List.le_refl _
  ·intro h
   rcases ZlB a c with h4 | h4 | h4
   ·exact .inl h4
   ·exact .inr h4
   ·exact absurd h4 h
 rw [← h]
 show (sop .leq (⟨a.toArray⟩ : ByteArray) (⟨c.toArray⟩ : ByteArray)).map (·,H)=_
 unfold sop
 rw [ZaX,ZaX]
 rfl
theorem Zn8 (hu : ws.length≤1000) (hA : SlN 5 H0 wv (ws.map Zo.cells)) (ho : ∀ u∈ws,oneCell u.gv=true) : ∀ (t j : Nat) (X : Zc),ws.length - j=t→j≤ws.length→HLe H0 X→
  ∃ X',Zh (c4 (Kk.l1 (R n))) [strv k,wv,iv ws.length,iv j] X=some (match Zbu k (ws.drop j) with | some i=>.ret (iv (j+i : Nat)) | none=>.ext 0 [],X')∧HLe H0 X'
 | 0,j,X,ht,hj,hle=>by
  have : j=ws.length:=by omega
  subst this
  rw [List.drop_length]
  refine ⟨X,Z8 ?_,hle⟩
  rw [ZK]
  unfold Kk.l1
  rw [Za Zq,Zb,if_neg (by simp)]
  rfl
 | t+1,j,X,ht,hj,hle=>by
  have hjl : j < ws.length:=by omega
  have hlt : (j : Int) < ws.length:=by omega
  have hg:=List.getElem?_eq_getElem hjl
  have hd:=List.drop_eq_getElem_cons hjl
  generalize ws[j]=u at hg hd
  have hf:=fun {K : Value→M Out}=>ZeQ (k:=K) (hA.mono hle) (ho _ (List.mem_of_getElem? hg)) hg
  have g1 : (X++[Zf.cells u.cells 1 false false])[X.length]?=some (.cells u.cells 1 false false):=ZD
  have l1 : ld1 (pt X.length) (X++[.cells u.cells 1 false false])=some (strv u.nm,X++[.cells u.cells 1 false false]):=Zu g1 rfl
  have k1 : HLe X (X++[Zf.cells u.cells 1 false false]):=.app _ _
  generalize X++[Zf.cells u.cells 1 false false]=X1 at g1 l1 k1 hf
  have hb : c4 (Kk.l1 (R n)) [strv k,wv,iv ws.length,iv j] X=some (if u.nm==k then .ret (iv j) else .nrm [strv k,wv,iv ws.length,iv ((j+1 : Nat) : Int)],X1):=by
   rw [ZK]
   unfold Kk.l1
   rw [Za Zq,Zb,if_pos (by simpa using hlt),hf,Za Zg,Za l1,Za ZbW,Zb]
   cases h : u.nm==k
   ·rw [if_neg (by simp),Za ZC,QG (by omega)];rfl
   ·rw [if_pos rfl];rfl
  unfold Zbu
  rw [hd,List.findIdx?_cons]
  cases h : u.nm==k
  ·rw [h] at hb
   obtain ⟨X2,e2,k2⟩:=Zn8 hu hA ho t (j+1) X1 (by omega) (by omega) (hle.trans k1)
   refine ⟨X2,(ZI hb).trans (e2.trans ?_),k2⟩
   show some (match Zbu k (ws.drop (j+1)) with | some i=>_ | none=>_,X2)=some (match Option.map (·+1) (Zbu k (ws.drop (j+1))) with | some i=>_ | none=>_,X2)
   cases Zbu k (ws.drop (j+1)) with
   | none=>rfl
   | some i=>simp only [Option.map_some];rw [show j+1+i=j+(i+1) by omega]
  ·rw [h] at hb
   exact ⟨X1,Yx hb,hle.trans k1⟩
theorem Zmk (hu : ws.length≤1000) (hA : SlN 5 X wv (ws.map Zo.cells)) (ho : ∀ u∈ws,oneCell u.gv=true) : ∃ X',R (n+1) KW [wv,strv k] X=some (match Zbu k ws with | some i=>iv i | none=>iv (-1),X')∧HLe X X':=by
 obtain ⟨X',e,l⟩:=Zn8 (n:=n) (k:=k) hu hA ho ws.length 0 X (by omega) (by omega) (.refl _)
 rw [List.drop_zero] at e
 have e : Zh (c4 (Kk.l1 (R n))) [strv k,wv,iv ws.length,.int .i64 0] X=_:=e
 have hl:=hA.len (H':=X)
 rw [List.length_map] at hl
 refine ⟨X',?_,l⟩
 rw [R,ZnI rfl]
 unfold Kk
 rw [Za hl]
 cases h : Zbu k ws with
 | none=>rw [h] at e;rw [QX e,ZN];rfl
 | some i=>
  rw [h] at e
  rw [KI e]
  simp [ret]
theorem ZlM {sl : Value} {rows : List Zo} {q : List Nat} {u : Zo} {p : Nat} {e : Nat} {g ro : Bool} (hu1 : oneCell u.gv=true) (hr : Q7 5 X sl (rows.map Zo.cells) q) (hl : rows.length≤10000) (hp : X[p]?=some (.cells u.cells e g ro)) (hq : ∀ j∈q,H0.length≤j) (h0 : HLe H0 X) :
  ∃ w X1 sl' X2 q',ldA 5 (pt p) X=some (.agg u.cells.toArray,X)∧bsl 5 1 (.agg #[.string ⟨#[]⟩,.string ⟨#[]⟩,.string ⟨#[]⟩,.bool false,.slice none 0 0]) [(0,5,.agg u.cells.toArray)] X=some (w,X1)∧app 5 80 sl w X1=some (sl',X2)∧Q7 5 X2 sl' ((rows++[u]).map Zo.cells) q'∧HLe H0 X2∧(∀ j∈q',H0.length≤j)∧ZH q X q' X2:=by
 have e1 : ldA 5 (pt p) X=some (.agg u.cells.toArray,X):=ZY (n:=5) hp rfl
 have x4:=Zk5 (es:=5) (z:=.agg #[.string ⟨#[]⟩,.string ⟨#[]⟩,.string ⟨#[]⟩,.bool false,.slice none 0 0]) (H:=X) rfl ((rfl : u.cells.length=5)) (Kg hu1)
 have l1 : HLe X (X++[Zf.cells u.cells 5 false false]):=.app _ _
 have s1 : SlN 5 (X++[Zf.cells u.cells 5 false false]) (.slice (some ⟨X.length,0,none⟩) 1 1) [u.cells]:=SlN.whole (rows:=[u.cells]) (c:=1) (e:=5) (g:=false) (ro:=false) (by rw [ZD];simp) (by simp)
 generalize X++[Zf.cells u.cells 5 false false]=X1 at x4 l1 s1
 have hr1 : Q7 5 X1 sl _ q:=hr.keep fun j hj=>l1.step.keep j (hr.lt j hj) (by simp)
 obtain ⟨sl',X2,q',x5,hn2,s2⟩:=hr1.push (b:=80) s1 ((rfl : u.cells.length=5)) (by simp;omega) (by simp;omega)
 have hm:=(h0.trans l1).more s2 hq
 exact ⟨_,X1,sl',X2,q',e1,x4,x5,by rw [List.map_append];exact hn2,hm.1,hm.2,(l1.step.more (by simp) (fun j hj=>.inl hj)).trans s2⟩
theorem Zky (hu : ws.length≤1000) (hA : SlN 5 H0 wv (ws.map Zo.cells)) (ho : ∀ u∈ws,oneCell u.gv=true) : ∀ (t j : Nat) (sl : Value) (q : List Nat) (acc : List Zo) (X : Zc),ws.length - j=t→j≤ws.length→acc.length≤j→HLe H0 X→(∀ i∈q,H0.length≤i)→Q7 5 X sl (acc.map Zo.cells) q→
  ∃ X' sl' q',Zh (c5 (Kj.l1 (R n))) [strv k,sl,wv,iv ws.length,iv j] X=some (.ext 0 [sl'],X')∧Q7 5 X' sl' ((acc++(ws.drop j).filter fun v=>decide (v.nm≠k)).map Zo.cells) q'∧HLe H0 X'∧∀ i∈q',H0.length≤i
 | 0,j,sl,q,acc,X,ht,hj,ha,hle,hq,hr=>by
  have : j=ws.length:=by omega
  subst this
  rw [List.drop_length]
  refine ⟨X,sl,q,Z8 ?_,by simpa using hr,hle,hq⟩
  rw [Qv]
  unfold Kj.l1
  rw [Za Zq,Zb,if_neg (by simp)]
  rfl
 | t+1,j,sl,q,acc,X,ht,hj,ha,hle,hq,hr=>by
  have hjl : j < ws.length:=by omega
  have hlt : (j : Int) < ws.length:=by omega
  have hg:=List.getElem?_eq_getElem hjl
  have hd:=List.drop_eq_getElem_cons hjl
  generalize ws[j]=u at hg hd
  have hf:=fun {K : Value→M Out}=>ZeQ (k:=K) (hA.mono hle) (ho _ (List.mem_of_getElem? hg)) hg
  have g1 : (X++[Zf.cells u.cells 1 false false])[X.length]?=some (.cells u.cells 1 false false):=ZD
  have l1 : ld1 (pt X.length) (X++[.cells u.cells 1 false false])=some (strv u.nm,X++[.cells u.cells 1 false false]):=Zu g1 rfl
  have k1 : HLe X (X++[Zf.cells u.cells 1 false false]):=.app _ _
  generalize X++[Zf.cells u.cells 1 false false]=X1 at g1 l1 k1 hf
  have hr1 : Q7 5 X1 sl _ q:=hr.keep fun i hi=>k1.step.keep i (hr.lt i hi) (by simp)
  rw [hd,List.filter_cons]
  by_cases h : u.nm=k
  ·rw [if_neg (by simpa using h)]
   obtain ⟨X2,sl2,q2,e2,r2⟩:=Zky hu hA ho t (j+1) sl q acc X1 (by omega) (by omega) (by omega) (hle.trans k1) hq hr1
   refine ⟨X2,sl2,q2,(ZI ?_).trans e2,r2⟩
   have q1 : bop .str .neq (strv u.nm) (strv k) X1=some (.bool false,X1):=by rw [K6,h];simp
   rw [Qv]
   unfold Kj.l1
   rw [Za Zq,Zb,if_pos (by simpa using hlt),hf,Za Zg,Za l1,Za q1]
   refine (ZV (vs:=[strv k,sl,wv,iv ws.length,iv j]) (H':=X1) ?_).trans ?_
   ·rw [Zb,if_neg (by simp)];rfl
   ·rw [Qv,Za ZC,QG (by omega)];rfl
  ·rw [if_pos (by simpa using h)]
   obtain ⟨w,X2,sl',X3,q',a1,a2,a3,hr3,le3,o3,_⟩:=ZlM (ho _ (List.mem_of_getElem? hg)) hr1 (by omega) g1 hq (hle.trans k1)
   obtain ⟨X4,sl4,q4,e4,r4,r5⟩:=Zky hu hA ho t (j+1) sl' q' (acc++[u]) X3 (by omega) (by omega) (by simp;omega) le3 o3 hr3
   refine ⟨X4,sl4,q4,(ZI ?_).trans e4,by simpa using r4,r5⟩
   have q1 : bop .str .neq (strv u.nm) (strv k) X1=some (.bool true,X1):=by rw [K6,beq_eq_false_iff_ne.2 h];rfl
   rw [Qv]
   unfold Kj.l1
   rw [Za Zq,Zb,if_pos (by simpa using hlt),hf,Za Zg,Za l1,Za q1]
   refine (ZV (vs:=[strv k,sl',wv,iv ws.length,iv j]) (H':=X3) ?_).trans ?_
   ·rw [Zb,if_pos rfl,Za a1,Za a2,Za a3];rfl
   ·rw [Qv,Za ZC,QG (by omega)];rfl
theorem Zqq (hu : ws.length≤1000) (hA : SlN 5 X wv (ws.map Zo.cells)) (ho : ∀ u∈ws,oneCell u.gv=true) : ∃ X' v,R (n+1) Zat [wv,strv k] X=some (v,X')∧SlN 5 X' v ((ws.filter fun v=>decide (v.nm≠k)).map Zo.cells)∧HLe X X':=by
 obtain ⟨X',sl,q,e,r,l,_⟩:=Zky (n:=n) (k:=k) hu hA ho ws.length 0 (.slice none 0 0) [] [] X (by omega) (by omega) (by simp) (.refl _) (by simp) Q7.nil
 rw [List.drop_zero] at r
 have e : Zh (c5 (Kj.l1 (R n))) [strv k,.slice none 0 0,wv,iv ws.length,.int .i64 0] X=_:=e
 have hl:=hA.len (H':=X)
 rw [List.length_map] at hl
 refine ⟨X',sl,?_,r.rd,l⟩
 rw [R,ZnA rfl]
 unfold Kj
 rw [Za hl,QX e,ZN]
 rfl
theorem Zqr {u : Zo} {p0 : Nat} (hu : ws.length≤1000) (hA : SlN 5 H0 wv (ws.map Zo.cells)) (ho : ∀ u∈ws,oneCell u.gv=true) (hu0 : oneCell u.gv=true) (hp0 : H0[p0]?=some (.cells u.cells 1 false false)) : ∀ (t j : Nat) (sl : Value) (q : List Nat) (acc : List Zo) (done : Bool) (X : Zc),ws.length - j=t→j≤ws.length→acc.length≤2 * j→HLe H0 X→(∀ i∈q,H0.length≤i)→Q7 5 X sl (acc.map Zo.cells) q→
  ∃ X' sl' q',Zh (c6 (Wu.l1 (R n))) [pt p0,sl,.bool done,wv,iv ws.length,iv j] X=some (.ext 0 [pt p0,sl',.bool (KM u (ws.drop j) done)],X')∧Q7 5 X' sl' ((acc++Kf u (ws.drop j) done).map Zo.cells) q'∧HLe H0 X'∧∀ i∈q',H0.length≤i
 | 0,j,sl,q,acc,done,X,ht,hj,ha,hle,hq,hr=>by
  have : j=ws.length:=by omega
  subst this
  rw [List.drop_length]
  refine ⟨X,sl,q,Z8 ?_,by simpa [Kf] using hr,hle,hq⟩
  rw [Jr]
  unfold Wu.l1
  rw [Za Zq,Zb,if_neg (by simp)]
  rfl
 | t+1,j,sl,q,acc,done,X,ht,hj,ha,hle,hq,hr=>by
  have hjl : j < ws.length:=by omega
  have hlt : (j : Int) < ws.length:=by omega
  have hg:=List.getElem?_eq_getElem hjl
  have hd:=List.drop_eq_getElem_cons hjl
  generalize ws[j]=v at hg hd
  have hf:=fun {K : Value→M Out}=>ZeQ (k:=K) (hA.mono hle) (ho _ (List.mem_of_getElem? hg)) hg
  have hlv : X.length < (X++[Zf.cells v.cells 1 false false]).length:=by simp
  have g1 : (X++[Zf.cells v.cells 1 false false])[X.length]?=some (.cells v.cells 1 false false):=ZD
  have k1 : HLe X (X++[Zf.cells v.cells 1 false false]):=.app _ _
  have hqx : ∀ i∈q,i < X.length:=hr.lt
  generalize X++[Zf.cells v.cells 1 false false]=X1 at g1 k1 hf hlv
  generalize X.length=pv at g1 hf hlv hqx
  have hr1 : Q7 5 X1 sl _ q:=hr.keep fun i hi=>k1.step.keep i (hr.lt i hi) (by simp)
  have le1:=hle.trans k1
  have hp1:=le1 _ _ hp0
  have l1 : ld1 (pt pv) X1=some (strv v.nm,X1):=Zu g1 rfl
  have l0 : ld1 (pt p0) X1=some (strv u.nm,X1):=Zu hp1 rfl
  have e1 : Kf u (ws.drop j) done=(if !done && decide (u.nm≤v.nm) then [u] else [])++((if v.nm≠u.nm then [v] else [])++Kf u (ws.drop (j+1)) (done || decide (u.nm≤v.nm))):=by rw [hd];rfl
  have e2 : KM u (ws.drop j) done=KM u (ws.drop (j+1)) (done || decide (u.nm≤v.nm)):=by rw [hd];rfl
  rw [e1,e2]
  obtain ⟨X2,sl2,q2,b1,hr2,le2,o2,g2⟩ : ∃ X2 sl2 q2,(∀ K : Value→Value→Value→Value→Value→Value→Value→M Out,jn (cnd (.bool (!done && decide (u.nm≤v.nm)))
    (bind (ldA 5 (pt p0)) fun v25x15=>bind (bsl 5 1 (.agg #[.string ⟨#[]⟩,.string ⟨#[]⟩,.string ⟨#[]⟩,.bool false,.slice none 0 0]) [(0,5,v25x15)]) fun v26x16=>bind (app 5 80 sl v26x16) fun v27x17=>ret (.nrm [pt p0,v27x17,(Value.bool true),pt pv,wv,iv ws.length,iv j]))
    (ret (.nrm [pt p0,sl,.bool done,pt pv,wv,iv ws.length,iv j]))) (c7 K) noX ZP X1=K (pt p0) sl2 (.bool (done || decide (u.nm≤v.nm))) (pt pv) wv (iv ws.length) (iv j) X2)∧
    Q7 5 X2 sl2 ((acc++if !done && decide (u.nm≤v.nm) then [u] else []).map Zo.cells) q2∧HLe H0 X2∧(∀ i∈q2,H0.length≤i)∧X2[pv]?=some (.cells v.cells 1 false false):=by
   by_cases hb : (!done && decide (u.nm≤v.nm))=true
   ·rw [hb]
    obtain ⟨w,Xa,sl',Xb,q',a1,a2,a3,hr3,le3,o3,s3⟩:=ZlM hu0 hr1 (by omega) hp1 hq le1
    refine ⟨Xb,sl',q',fun K=>?_,by simpa using hr3,le3,o3,s3.get g1 (fun h=>by have:=hqx _ h;omega)⟩
    simp only [Bool.and_eq_true,Bool.not_eq_true',decide_eq_true_eq] at hb
    rw [hb.1,decide_eq_true hb.2]
    refine (ZV (vs:=[pt p0,sl',.bool true,pt pv,wv,iv ws.length,iv j]) (H':=Xb) ?_).trans ?_
    ·rw [Zb,if_pos rfl,Za a1,Za a2,Za a3];rfl
    ·rw [Jk];rfl
   ·have hb : (!done && decide (u.nm≤v.nm))=false:=by simpa using hb
    rw [hb]
    refine ⟨X1,sl,q,fun K=>?_,by simpa using hr1,le1,hq,g1⟩
    have hdn : (done || decide (u.nm≤v.nm))=done:=by cases done <;> simp_all
    rw [hdn]
    refine (ZV (vs:=[pt p0,sl,.bool done,pt pv,wv,iv ws.length,iv j]) (H':=X1) ?_).trans ?_
    ·rw [Zb,if_neg (by simp)];rfl
    ·rw [Jk]
  generalize hdone : (done || decide (u.nm≤v.nm))=done2 at b1 ⊢
  have hp2:=le2 _ _ hp0
  have l12 : ld1 (pt pv) X2=some (strv v.nm,X2):=Zu g2 rfl
  have l02 : ld1 (pt p0) X2=some (strv u.nm,X2):=Zu hp2 rfl
  have hacc : (acc++if !done && decide (u.nm≤v.nm) then [u] else []).length≤2 * j+1:=by
   rw [List.length_append];split <;> simp <;> omega
  obtain ⟨X3,sl3,q3,b2,hr3,le3,o3⟩ : ∃ X3 sl3 q3,(∀ K : Value→Value→Value→Value→Value→Value→M Out,jn (cnd (.bool (!(v.nm==u.nm)))
    (bind (ldA 5 (pt pv)) fun v34x24=>bind (bsl 5 1 (.agg #[.string ⟨#[]⟩,.string ⟨#[]⟩,.string ⟨#[]⟩,.bool false,.slice none 0 0]) [(0,5,v34x24)]) fun v35x25=>bind (app 5 80 sl2 v35x25) fun v36x26=>ret (.nrm [pt p0,v36x26,.bool done2,wv,iv ws.length,iv j]))
    (ret (.nrm [pt p0,sl2,.bool done2,wv,iv ws.length,iv j]))) (c6 K) noX ZP X2=K (pt p0) sl3 (.bool done2) wv (iv ws.length) (iv j) X3)∧
    Q7 5 X3 sl3 (((acc++if !done && decide (u.nm≤v.nm) then [u] else [])++if v.nm≠u.nm then [v] else []).map Zo.cells) q3∧HLe H0 X3∧(∀ i∈q3,H0.length≤i):=by
   by_cases hb : v.nm=u.nm
   ·rw [show (if v.nm≠u.nm then [v] else [])=[] from if_neg (by simpa using hb)]
    refine ⟨X2,sl2,q2,fun K=>?_,by rw [List.append_nil];exact hr2,le2,o2⟩
    refine (ZV (vs:=[pt p0,sl2,.bool done2,wv,iv ws.length,iv j]) (H':=X2) ?_).trans ?_
    ·rw [Zb,if_neg (by simp [hb])];rfl
    ·rw [Jr]
   ·rw [show (if v.nm≠u.nm then [v] else [])=[v] from if_pos hb]
    obtain ⟨w,Xa,sl',Xb,q',a1,a2,a3,hr3,le3,o3,s3⟩:=ZlM (ho _ (List.mem_of_getElem? hg)) hr2 (by omega) g2 o2 le2
    refine ⟨Xb,sl',q',fun K=>?_,hr3,le3,o3⟩
    refine (ZV (vs:=[pt p0,sl',.bool done2,wv,iv ws.length,iv j]) (H':=Xb) ?_).trans ?_
    ·rw [Zb,if_pos (by simp [hb]),Za a1,Za a2,Za a3];rfl
    ·rw [Jr]
  have hacc2 : ((acc++if !done && decide (u.nm≤v.nm) then [u] else [])++if v.nm≠u.nm then [v] else []).length≤2 * (j+1):=by
   have h1 : (if v.nm≠u.nm then [v] else []).length≤1:=by split <;> simp
   rw [List.length_append];omega
  obtain ⟨X4,sl4,q4,e4,r4,r5⟩:=Zqr hu hA ho hu0 hp0 t (j+1) sl3 q3 _ done2 X3 (by omega) (by omega) hacc2 le3 o3 hr3
  refine ⟨X4,sl4,q4,(ZI ?_).trans e4,by rw [List.append_assoc,List.append_assoc] at r4;exact r4,r5⟩
  rw [Jr]
  unfold Wu.l1
  rw [Za Zq,Zb,if_pos (by simpa using hlt),hf,Za Zy]
  have hgate : ∀ K : List Value→M Out,(∀ w0 w1 w2 w3 w4,(∀ X' : Zc,pick (.bool (!done)) w4 (.bool false) X'=some (.bool (!done && decide (u.nm≤v.nm)),X'))→K [w0,w1,w2,w3,w4] X1=some (.nrm [pt p0,sl3,.bool done2,wv,iv ws.length,iv ((j+1 : Nat) : Int)],X3))→
    bind (Zx (.bool (!done)) true 5 (bind (fa 0 (pt p0)) fun v18x8=>bind (ld1 v18x8) fun v19x9=>bind (fa 0 (pt pv)) fun v20x10=>bind (ld1 v20x10) fun v21x11=>bind (bop .str .leq v19x9 v21x11) fun v22x12=>ret [v18x8,v19x9,v20x10,v21x11,v22x12])) K X1=some (.nrm [pt p0,sl3,.bool done2,wv,iv ws.length,iv ((j+1 : Nat) : Int)],X3):=fun K hK=>by
   cases done
   ·simp only [Bool.not_false]
    rw [ZQ,Zi,Za Zg,Zi,Za l0,Zi,Za Zg,Zi,Za l1,Zi,Za Zv2,Z9]
    exact hK _ _ _ _ _ (fun X'=>by rw [Zj];rfl)
   ·simp only [Bool.not_true]
    rw [Za (g_r.trans (if_neg (by simp)))]
    exact hK _ _ _ _ _ (fun X'=>by rw [Zj];rfl)
  refine hgate _ fun w0 w1 w2 w3 w4 hpk=>?_
  rw [Qv,Za (hpk _)]
  refine (b1 _).trans ?_
  rw [Za Zg,Za l12,Za Zg,Za l02,Za K6]
  refine (b2 _).trans ?_
  rw [Za ZC,QG (by omega)]
  rfl
theorem Zok {u : Zo} (hu0 : oneCell u.gv=true) (hu : ws.length≤1000) (hA : SlN 5 X wv (ws.map Zo.cells)) (ho : ∀ u∈ws,oneCell u.gv=true) : ∃ X' v q,R (n+1) Wr [wv,.agg u.cells.toArray] X=some (v,X')∧Q7 5 X' v ((ZbF u ws).map Zo.cells) q∧HLe X X'∧∀ j∈q,X.length≤j:=by
 have e1 : alc 1 (.agg u.cells.toArray) X=some (pt X.length,X++[.cells u.cells 1 false false]):=by
  rw [QP]
  exact if_pos (show u.cells.toArray.toList.all oneCell=true by simpa using Kg hu0)
 have k1 : HLe X (X++[.cells u.cells 1 false false]):=.app _ _
 have cu : (X++[Zf.cells u.cells 1 false false])[X.length]?=some (.cells u.cells 1 false false):=ZD
 generalize X++[Zf.cells u.cells 1 false false]=X1 at e1 k1 cu
 have hlx:=k1.len
 generalize X.length=p0 at e1 cu hlx ⊢
 obtain ⟨X2,sl,q,e2,r2,l2,o2⟩:=Zqr (n:=n) hu (hA.mono k1) ho hu0 cu ws.length 0 (.slice none 0 0) [] [] false X1 (by omega) (by omega) (by simp) (.refl _) (by simp) Q7.nil
 rw [List.drop_zero] at e2 r2
 have e2 : Zh (c6 (Wu.l1 (R n))) [pt p0,.slice none 0 0,.bool false,wv,iv ws.length,.int .i64 0] X1=_:=e2
 have hl:=hA.len (H':=X1)
 rw [List.length_map] at hl
 have hrun : ∀ r,(jn (cnd (.bool (!KM u ws false)) (bind (ldA 5 (pt p0)) fun v41x34=>bind (bsl 5 1 (.agg #[.string ⟨#[]⟩,.string ⟨#[]⟩,.string ⟨#[]⟩,.bool false,.slice none 0 0]) [(0,5,v41x34)]) fun v42x35=>bind (app 5 80 sl v42x35) fun v43x36=>ret (.nrm [v43x36])) (ret (.nrm [sl]))) (c1 fun q37_0=>ret q37_0) noX ret) X2=r→R (n+1) Wr [wv,.agg u.cells.toArray] X=r:=fun r hr=>by
  rw [R,Zn5 rfl]
  unfold Wu
  rw [Za e1,Za hl,QX e2,ZN,Z4,Za Zy]
  exact hr
 have hml : (Kf u ws false).length≤2 * ws.length:=by
  have : ∀ (l : List Zo) (b : Bool),(Kf u l b).length≤2 * l.length:=by
   intro l
   induction l with
   | nil=>intro b;simp [Kf]
   | cons v l ih=>
    intro b
    have h1 : (if !b && decide (u.nm≤v.nm) then [u] else []).length≤1:=by split <;> simp
    have h2 : (if v.nm≠u.nm then [v] else []).length≤1:=by split <;> simp
    have h3:=ih (b || decide (u.nm≤v.nm))
    have h4 : Kf u (v :: l) b=(if !b && decide (u.nm≤v.nm) then [u] else [])++((if v.nm≠u.nm then [v] else [])++Kf u l (b || decide (u.nm≤v.nm))):=rfl
    rw [h4,List.length_append,List.length_append,List.length_cons]
    omega
  exact this ws false
 unfold ZbF
 cases hd : KM u ws false
 ·rw [hd] at hrun
  obtain ⟨w,Xa,sl',Xb,q',a1,a2,a3,hr3,le3,o3,_⟩:=ZlM hu0 r2 (by simp;omega) (l2 _ _ cu) o2 l2
  refine ⟨Xb,sl',q',hrun _ ?_,hr3,k1.trans le3,fun j hj=>Nat.le_trans hlx (o3 j hj)⟩
  refine (ZV (vs:=[sl']) (H':=Xb) ?_).trans rfl
  rw [Zb,if_pos (by rfl),Za a1,Za a2,Za a3];rfl
 ·rw [hd] at hrun
  refine ⟨X2,sl,q,hrun _ ?_,by simpa using r2,k1.trans l2,fun j hj=>Nat.le_trans hlx (o2 j hj)⟩
  refine (ZV (vs:=[sl]) (H':=X2) ?_).trans rfl
  rw [Zb,if_neg (by simp)];rfl
end
end Go.Proofs.YtnnehafmjfmbnaaGreatDoor.A
namespace Go.Proofs.YtnnehafmjfmbnaaGreatDoor.A
set_option linter.unusedVariables false
set_option linter.unusedSimpArgs false
open Go.Proofs Go.Proofs.YtnnehafmjfmbnaaGreatDoor
structure Zms (s : NSt) : Prop where
 nod : s.K.Nodup
 out : ∀ k n,s.mem k n=true→k∈s.K
 few : s.K.length≤6
structure ROK (s : NSt) (us : List Zo) : Prop where
 rise : ZdP us
 look : ∀ key : ZfN,key∈us.map Z5↔Zz s key.1=some key
section
variable {X : Zc} {d c : Nat} {r : NR} {s s' : NSt} {us ws : List Zo} {u : Zo} {k h m n o t g : Tx} {key : ZfN}
theorem ND0.kn (hd : ND0 X d r s c) : Zms s:=⟨by rw [← hd.ks];exact hd.gr.mo.nod,fun k n hk=>by
 have:=hd.gr.out k n hk
 rw [ZgR,decide_eq_true_eq] at this
 rw [← hd.ks];exact this,by rw [← hd.ks,List.length_map];exact hd.gr.few⟩
theorem KR : key∈us.map Z5↔∃ u∈us,Z5 u=key:=List.mem_map
theorem ROK.put (h : ROK s us) (h1 : Zz s' u.nm=some (Z5 u)) (h2 : ∀ n,n≠u.nm→Zz s' n=Zz s n) : ROK s' (ZbF u us):=by
 refine ⟨Zid h.rise,fun key=>?_⟩
 rw [KR]
 constructor
 ·rintro ⟨v,hv,rfl⟩
  rcases Za6.1 hv with rfl | ⟨hv,hne⟩
  ·exact h1
  ·have:=(h.look (Z5 v)).1 (KR.2 ⟨v,hv,rfl⟩)
   rw [show (Z5 v).1=v.nm from rfl] at this ⊢
   rw [h2 _ hne];exact this
 ·intro hk
  by_cases e : key.1=u.nm
  ·rw [e,h1] at hk
   exact ⟨u,Za6.2 (.inl rfl),Option.some.inj hk⟩
  ·rw [h2 _ e] at hk
   obtain ⟨v,hv,rfl⟩:=KR.1 ((h.look key).2 hk)
   exact ⟨v,Za6.2 (.inr ⟨hv,e⟩),rfl⟩
theorem ROK.drop (h : ROK s us) (h1 : Zz s' k=none) (h2 : ∀ n,n≠k→Zz s' n=Zz s n) : ROK s' (us.filter fun v=>decide (v.nm≠k)):=by
 refine ⟨List.Pairwise.filter _ h.rise,fun key=>?_⟩
 rw [KR]
 constructor
 ·rintro ⟨v,hv,rfl⟩
  obtain ⟨hv,hne⟩:=List.mem_filter.1 hv
  have hne : v.nm≠k:=by simpa using hne
  have:=(h.look (Z5 v)).1 (KR.2 ⟨v,hv,rfl⟩)
  rw [show (Z5 v).1=v.nm from rfl] at this ⊢
  rw [h2 _ hne];exact this
 ·intro hk
  have e : key.1≠k:=fun e=>by rw [e,h1] at hk;cases hk
  rw [h2 _ e] at hk
  obtain ⟨v,hv,rfl⟩:=KR.1 ((h.look key).2 hk)
  exact ⟨v,List.mem_filter.2 ⟨hv,decide_eq_true e⟩,rfl⟩
theorem ROK.same (h : ROK s us) (h2 : ∀ n,Zz s' n=Zz s n) : ROK s' us:=⟨h.rise,fun key=>by rw [h2];exact h.look key⟩
theorem Zsi (h : Zz s n=some key) : key.1=n:=by
 unfold Zz at h
 cases ha : Ze n s.A with
 | none=>rw [ha] at h;cases h
 | some p=>rw [ha] at h;cases h;rfl
theorem ROK.at (h : ROK s us) (hu : u∈us) : Zz s u.nm=some (Z5 u):=(h.look (Z5 u)).1 (KR.2 ⟨u,hu,rfl⟩)
theorem ZeF (h : ROK s us) : Zbu k us=none↔Ze k s.A=none:=by
 unfold Zbu
 rw [List.findIdx?_eq_none_iff]
 constructor
 ·intro hn
  cases ha : Ze k s.A with
  | none=>rfl
  | some p=>
   obtain ⟨v,hv,he⟩:=KR.1 ((h.look (Qn s k p)).2 (by
    show Zz s k=_
    unfold Zz;rw [ha];rfl))
   have:=hn v hv
   have hnm : v.nm=k:=congrArg (·.1) he
   simp [hnm] at this
 ·intro ha v hv
  have:=h.at hv
  unfold Zz at this
  rw [beq_eq_false_iff_ne]
  intro e
  rw [e,ha] at this;cases this
theorem ZgZ (h : ROK s us) {i : Nat} (hi : Zbu k us=some i) : ∃ u p,us[i]?=some u∧u.nm=k∧Ze k s.A=some p∧Z5 u=Qn s k p:=by
 unfold Zbu at hi
 obtain ⟨hlt,hk,_⟩:=List.findIdx?_eq_some_iff_getElem.1 hi
 have hnm : us[i].nm=k:=by simpa using hk
 have hat:=h.at (List.getElem_mem hlt)
 rw [hnm] at hat
 unfold Zz at hat
 cases ha : Ze k s.A with
 | none=>rw [ha] at hat;cases hat
 | some p=>
  rw [ha] at hat
  exact ⟨us[i],p,List.getElem?_eq_getElem hlt,hnm,rfl,(Option.some.inj hat).symm⟩
theorem ZdP.nodup (h : ZdP us) : (us.map (·.nm)).Nodup:=by
 unfold ZdP at h
 rw [List.nodup_iff_pairwise_ne,List.pairwise_map]
 refine h.imp ?_
 intro a b hab e
 rw [e] at hab
 exact ZiL hab
theorem ROK.len (h : ROK s us) (hn : (Zbt s).Nodup) : us.length=s.A.length:=by
 have hp : (us.map (·.nm)).Perm (Zbt s):=(List.perm_ext_iff_of_nodup h.rise.nodup hn).2 fun x=>by
  rw [List.mem_map,List.mem_map]
  constructor
  ·rintro ⟨v,hv,rfl⟩
   have:=h.at hv
   unfold Zz at this
   cases ha : Ze v.nm s.A with
   | none=>rw [ha] at this;cases this
   | some p=>exact ⟨_,K9 ha,rfl⟩
  ·rintro ⟨p,hp,rfl⟩
   have ha : Ze p.1 s.A=some p.2:=Zcj hn hp
   obtain ⟨v,hv,he⟩:=KR.1 ((h.look (Qn s p.1 p.2)).2 (by
    show Zz s p.1=_
    unfold Zz;rw [ha];rfl))
   exact ⟨v,hv,congrArg (·.1) he⟩
 have:=hp.length_eq
 simpa using this
theorem ZsU : ∀ {l l' : List ZfN},l.Pairwise (fun a b=>a.1 < b.1)→l'.Pairwise (fun a b=>a.1 < b.1)→(∀ x,x∈l↔x∈l')→l=l':=by
 intro l l' h h' hm
 have nd : ∀ {l : List ZfN},l.Pairwise (fun a b=>a.1 < b.1)→l.Nodup:=fun h=>by
  rw [List.nodup_iff_pairwise_ne]
  refine List.Pairwise.imp ?_ h
  rintro a b hab rfl
  exact List.lt_irrefl _ hab
 have hp : l.Perm l':=(List.perm_ext_iff_of_nodup (nd h) (nd h')).2 hm
 exact List.Perm.eq_of_pairwise (le:=fun a b=>a.1 < b.1) (fun a b _ _ h1 h2=>absurd h2 (List.lt_asymm h1)) h h' hp
theorem ZsB (hn : (Zbt s).Nodup) : (Zkg s).Pairwise fun a b=>a.1 < b.1:=by
 unfold Zkg
 rw [List.pairwise_map]
 exact ZmZ hn
theorem Zpc (hn : (Zbt s).Nodup) : key∈Zkg s↔Zz s key.1=some key:=by
 unfold Zkg
 rw [List.mem_map]
 constructor
 ·rintro ⟨k,hk,rfl⟩
  obtain ⟨p,hp,rfl⟩:=List.mem_map.1 (ZcE.1 hk)
  have ha : Ze p.1 s.A=some p.2:=Zcj hn hp
  show Zz s p.1=_
  unfold Zz
  rw [ha];rfl
 ·intro hk
  unfold Zz at hk
  cases ha : Ze key.1 s.A with
  | none=>rw [ha] at hk;cases hk
  | some p=>
   rw [ha] at hk
   refine ⟨key.1,ZcE.2 (List.mem_map.2 ⟨_,K9 ha,rfl⟩),?_⟩
   rw [ha]
   exact Option.some.inj hk
theorem ROK.all (h : ROK s us) (hn : (Zbt s).Nodup) : us.map Z5=Zkg s:=by
 refine ZsU ?_ (ZsB hn) fun key=>(h.look key).trans (Zpc hn).symm
 rw [List.pairwise_map]
 exact h.rise
theorem Ztb (h : ∀ g,s.mem g k=false) : ofL k s.K s.mem=[]:=by
 unfold ofL
 rw [List.filter_eq_nil_iff]
 intro x _
 rw [h];simp
theorem Zg6 (hi : Jp s) (he : Qp k h s.A=0) (n : Tx) : Zz (JY k h s) n=if n=k then some (k,h,[],false,[]) else Zz s n:=by
 obtain ⟨_,_,h3,_⟩:=ZfJ he
 unfold JY
 rw [if_pos he]
 by_cases e : n=k
 ·rw [if_pos e,e]
  unfold Zz
  rw [show ({ s with A:=QD k (h,false) s.A } : NSt).A=QD k (h,false) s.A from rfl,K1]
  show some (Qn _ k (h,false))=_
  unfold Qn
  rw [hi.ofN h3]
  show some (k,h,[],false,ofL k s.K s.mem)=_
  rw [Ztb (hi.memN h3)]
 ·rw [if_neg e]
  unfold Zz
  rw [show ({ s with A:=QD k (h,false) s.A } : NSt).A=QD k (h,false) s.A from rfl,Yz e]
  rfl
theorem Zkz (he : Zl k s.A=0) (n : Tx) : Zz (QS k s) n=if n=k then none else Zz s n:=by
 unfold QS
 rw [if_pos he]
 by_cases e : n=k
 ·rw [if_pos e,e]
  unfold Zz
  rw [show ({ s with A:=JR k s.A,OW:=Wo k s.OW s.OF,OF:=Ko k s.OF,mem:=Zc2 k s.mem } : NSt).A=JR k s.A from rfl,KC]
  rfl
 ·rw [if_neg e]
  unfold Zz
  rw [show ({ s with A:=JR k s.A,OW:=Wo k s.OW s.OF,OF:=Ko k s.OF,mem:=Zc2 k s.mem } : NSt).A=JR k s.A from rfl,Js e]
  cases Ze n s.A with
  | none=>rfl
  | some p=>
   show some (Qn _ n p)=some (Qn s n p)
   unfold Qn
   show some (n,p.1,(Ze n (Ko k s.OF)).getD [],p.2,ofL n s.K (Zc2 k s.mem))=_
   rw [Zcq e]
   have : ofL n s.K (Zc2 k s.mem)=ofL n s.K s.mem:=by
    unfold ofL Zc2
    refine List.filter_congr fun g _=>?_
    simp [e]
   rw [this]
theorem ZtN {v : Acc} (hk : ∀ p,Ze k s.A=some p→True) (n : Tx) : Zz { s with A:=QD k v s.A } n=if n=k then some (Qn s k v) else Zz s n:=by
 by_cases e : n=k
 ·rw [if_pos e,e]
  unfold Zz
  rw [show ({ s with A:=QD k v s.A } : NSt).A=QD k v s.A from rfl,K1]
  rfl
 ·rw [if_neg e]
  unfold Zz
  rw [show ({ s with A:=QD k v s.A } : NSt).A=QD k v s.A from rfl,Yz e]
  rfl
theorem Zhf (he : Qq k h s.A=0) (n : Tx) : Zz (J8 k h s) n=if n=k then some (Qn s k (h,(ZU k s.A).2)) else Zz s n:=by
 unfold J8
 rw [if_pos he]
 exact ZtN (fun _ _=>trivial) n
theorem ZhW {b : Bool} (he : JI k b s.A=0) (n : Tx) : Zz (JJ k b s) n=if n=k then some (Qn s k ((ZU k s.A).1,b)) else Zz s n:=by
 unfold JJ
 rw [if_pos he]
 exact ZtN (fun _ _=>trivial) n
theorem ZgF (he : QC k m s=0) (n : Tx) : Zz (Qr k m s) n=if n=k then some (k,(ZU k s.A).1,(if QF m then Qa m else []),(ZU k s.A).2,ofL k s.K s.mem) else Zz s n:=by
 obtain ⟨h1,h2,h3,h4⟩:=Zlz he
 unfold Qr
 rw [if_pos he]
 unfold Zz
 show (Ze n s.A).map (Qn { s with OW:=Zmc k m s.OW s.OF,OF:=Zef k m s.OW s.OF } n)=_
 by_cases e : n=k
 ·rw [if_pos e,e,ZbK h3]
  show some (Qn _ k _)=_
  unfold Qn
  show some (k,(ZU k s.A).1,(Ze k (Zef k m s.OW s.OF)).getD [],(ZU k s.A).2,ofL k s.K s.mem)=_
  rw [Zi0 h4,if_pos rfl]
  rcases h2 with hm | hm
  ·rw [if_pos hm,hm]
   rfl
  ·rw [hm]
   by_cases hm0 : m=[]
   ·rw [hm0] at hm;exact absurd hm (by decide)
   ·rw [if_neg hm0]
    rfl
 ·rw [if_neg e]
  cases Ze n s.A with
  | none=>rfl
  | some p=>
   show some (Qn _ n p)=some (Qn s n p)
   unfold Qn
   show some (n,p.1,(Ze n (Zef k m s.OW s.OF)).getD [],p.2,ofL n s.K s.mem)=_
   rw [Zi0 h4,if_neg e]
theorem Zg3 (hi : Jp s) (he : Ji o t s.A=0) (n : Tx) : Zz (Ys o t s) n=if n=t then some (t,(ZU o s.A).1,(Ze o s.OF).getD [],(ZU o s.A).2,ofL o s.K s.mem) else if n=o then none else Zz s n:=by
 obtain ⟨h1,h2,h3,h4,h5⟩:=ZdX he
 have hof:=hi.ofN h4
 unfold Ys
 rw [if_pos he]
 unfold Zz
 show (Ze n (QD t (ZU o s.A) (JR o s.A))).map _=_
 by_cases e1 : n=t
 ·rw [if_pos e1,e1,K1]
  show some (Qn _ t _)=_
  unfold Qn
  show some (t,(ZU o s.A).1,(Ze t (ZfW o t s.OF)).getD [],(ZU o s.A).2,ofL t s.K (Zak o t s.mem))=_
  rw [Zi4 h2 hof h5,if_pos rfl]
  have : ofL t s.K (Zak o t s.mem)=ofL o s.K s.mem:=by
   unfold ofL Zak
   refine List.filter_congr fun g _=>?_
   cases hg : s.mem g o
   ·simp [hi.memN h4 g]
   ·simp
  rw [this]
 ·rw [if_neg e1,Yz e1]
  by_cases e2 : n=o
  ·rw [if_pos e2,e2,KC];rfl
  ·rw [if_neg e2,Js e2]
   cases Ze n s.A with
   | none=>rfl
   | some p=>
    show some (Qn _ n p)=some (Qn s n p)
    unfold Qn
    show some (n,p.1,(Ze n (ZfW o t s.OF)).getD [],p.2,ofL n s.K (Zak o t s.mem))=_
    rw [Zi4 h2 hof h5,if_neg e1,if_neg e2]
    have : ofL n s.K (Zak o t s.mem)=ofL n s.K s.mem:=by
     unfold ofL Zak
     refine List.filter_congr fun g _=>?_
     have b1 : (n==t)=false:=beq_eq_false_iff_ne.2 e1
     have b2 : (n==o)=false:=beq_eq_false_iff_ne.2 e2
     rw [b1,b2]
     cases s.mem g o <;> simp
    rw [this]
theorem Zvl (hk : Zms s) (n : Tx) : Zz (Zhh g s) n=Zz s n:=by
 unfold Zz Zhh
 show (Ze n s.A).map _=_
 cases Ze n s.A with
 | none=>rfl
 | some p=>
  show some (Qn _ n p)=some (Qn s n p)
  unfold Qn
  show some (n,p.1,(Ze n s.OF).getD [],p.2,ofL n (Zck g s.K) s.mem)=_
  have : ofL n (Zck g s.K) s.mem=ofL n s.K s.mem:=by
   unfold Zck
   by_cases he : QR g s.K=0
   ·rw [if_pos he]
    have hg : g∉s.K:=fun hm=>by
     unfold QR at he
     cases hn : Zr g <;> rw [hn] at he <;> simp [hm] at he
    have hnod : (s.K++[g]).Nodup:=by
     rw [List.nodup_append]
     exact ⟨hk.nod,by simp,fun a ha b hb e=>hg (by
      have : b=g:=by simpa using hb
      rw [← this,← e];exact ha)⟩
    refine (ZcV hnod).uniq (ZcV hk.nod) fun x=>?_
    rw [List.mem_append,List.mem_singleton]
    constructor
    ·rintro ⟨_,h2⟩
     exact ⟨hk.out x n h2,h2⟩
    ·rintro ⟨h1,h2⟩
     exact ⟨.inl h1,h2⟩
   ·rw [if_neg he]
  rw [this]
theorem Zr7 {K : List Tx} {x : Tx} (he : QL g K=0) : x∈Za1 g K↔x∈K∧x≠g:=by
 unfold Za1
 rw [if_pos he,List.mem_filter]
 simp
theorem ZvD (hk : Zms s) (he : QL g s.K=0) (n : Tx) : Zz (ZdL g s) n=(Zz s n).map fun key=>(key.1,key.2.1,key.2.2.1,key.2.2.2.1,key.2.2.2.2.filter fun x=>decide (x≠g)):=by
 unfold Zz ZdL
 show (Ze n s.A).map _=_
 cases Ze n s.A with
 | none=>rfl
 | some p=>
  show some (Qn _ n p)=some _
  unfold Qn
  show some (n,p.1,(Ze n s.OF).getD [],p.2,ofL n (Za1 g s.K) (if QL g s.K=0 then W7 g s.mem else s.mem))=_
  rw [if_pos he]
  have hnod : (Za1 g s.K).Nodup:=by
   unfold Za1
   rw [if_pos he]
   exact (List.filter_sublist).nodup hk.nod
  have : ofL n (Za1 g s.K) (W7 g s.mem)=(ofL n s.K s.mem).filter fun x=>decide (x≠g):=by
   refine (ZcV hnod).uniq (p':=fun x=>x∈ofL n s.K s.mem∧x≠g) ⟨(ZcV hk.nod).asc.filter _,fun x=>by rw [List.mem_filter];simp⟩ fun x=>?_
   rw [Zr7 he,Zb9]
   unfold W7
   simp only [Bool.and_eq_true,Bool.not_eq_true',beq_eq_false_iff_ne]
   exact ⟨fun h=>⟨⟨h.1.1,h.2.1⟩,h.1.2⟩,fun h=>⟨⟨h.1.1,h.2⟩,h.1.2,h.2⟩⟩
  rw [this]
theorem ZuL (he : Kn g k s=0) : Zr g=true∧(∃ p,Ze k s.A=some p)∧g∈s.K∧s.mem g k=false:=by
 unfold Kn at he
 by_cases hm : JW g k s.A=0
 ·rw [if_pos hm] at he
  obtain ⟨h1,h2⟩:=Zh1 hm
  unfold Zb1 at he
  by_cases hf : Jl g [k] s.K=0
  ·rw [if_pos hf] at he
   refine ⟨h1,(ZeS h2).2,(ZeI hf).2.2,?_⟩
   cases hg : s.mem g k
   ·rfl
   ·rw [hg] at he;simp at he
  ·rw [if_neg hf] at he;exact absurd he hf
 ·rw [if_neg hm] at he;exact absurd he hm
theorem Zse (hk : Zms s) (he : Kn g k s=0) {gs : List Tx} (hg : Is gs (·∈ofL k s.K s.mem++[g])) (n : Tx) : Zz (K4 g k s) n=if n=k then some (k,(ZU k s.A).1,(Ze k s.OF).getD [],(ZU k s.A).2,gs) else Zz s n:=by
 obtain ⟨_,⟨p,hp⟩,h3,_⟩:=ZuL he
 unfold K4
 rw [if_pos he]
 unfold Zz
 show (Ze n s.A).map _=_
 by_cases e : n=k
 ·rw [if_pos e,e,ZbK (by rw [hp];rfl)]
  show some (Qn _ k _)=_
  unfold Qn
  show some (k,(ZU k s.A).1,(Ze k s.OF).getD [],(ZU k s.A).2,ofL k s.K (ZbE g k s.mem))=_
  have : ofL k s.K (ZbE g k s.mem)=gs:=by
   refine (ZcV hk.nod).uniq hg fun x=>?_
   rw [List.mem_append,List.mem_singleton,Zb9]
   unfold ZbE
   simp only [Bool.or_eq_true,Bool.and_eq_true,beq_iff_eq]
   constructor
   ·rintro ⟨h1,h2 | ⟨h2,_⟩⟩
    ·exact .inl ⟨h1,h2⟩
    ·exact .inr h2
   ·rintro (⟨h1,h2⟩ | rfl)
    ·exact ⟨h1,.inl h2⟩
    ·exact ⟨h3,.inr (by simp)⟩
  rw [this]
 ·rw [if_neg e]
  cases Ze n s.A with
  | none=>rfl
  | some p=>
   show some (Qn _ n p)=some (Qn s n p)
   unfold Qn
   show some (n,p.1,(Ze n s.OF).getD [],p.2,ofL n s.K (ZbE g k s.mem))=_
   have : ofL n s.K (ZbE g k s.mem)=ofL n s.K s.mem:=by
    unfold ofL ZbE
    refine List.filter_congr fun x _=>?_
    simp [e]
   rw [this]
theorem ZtE (he : YQ g k s=0) : Zr g=true∧(∃ p,Ze k s.A=some p)∧g∈s.K∧s.mem g k=true:=by
 unfold YQ at he
 by_cases hm : JW g k s.A=0
 ·rw [if_pos hm] at he
  obtain ⟨h1,h2⟩:=Zh1 hm
  unfold Za0 at he
  by_cases hf : Jl g [k] s.K=0
  ·rw [if_pos hf] at he
   refine ⟨h1,(ZeS h2).2,(ZeI hf).2.2,?_⟩
   cases hg : s.mem g k
   ·rw [hg] at he;simp at he
   ·rfl
  ·rw [if_neg hf] at he;exact absurd he hf
 ·rw [if_neg hm] at he;exact absurd he hm
theorem ZqA (hk : Zms s) (he : YQ g k s=0) (n : Tx) : Zz (Kh g k s) n=if n=k then some (k,(ZU k s.A).1,(Ze k s.OF).getD [],(ZU k s.A).2,(ofL k s.K s.mem).filter fun x=>decide (x≠g)) else Zz s n:=by
 obtain ⟨_,⟨p,hp⟩,h3,_⟩:=ZtE he
 unfold Kh
 rw [if_pos he]
 unfold Zz
 show (Ze n s.A).map _=_
 by_cases e : n=k
 ·rw [if_pos e,e,ZbK (by rw [hp];rfl)]
  show some (Qn _ k _)=_
  unfold Qn
  show some (k,(ZU k s.A).1,(Ze k s.OF).getD [],(ZU k s.A).2,ofL k s.K (ZbI g k s.mem))=_
  have : ofL k s.K (ZbI g k s.mem)=(ofL k s.K s.mem).filter fun x=>decide (x≠g):=by
   refine (ZcV hk.nod).uniq (p':=fun x=>x∈ofL k s.K s.mem∧x≠g) ⟨(ZcV hk.nod).asc.filter _,fun x=>by rw [List.mem_filter];simp⟩ fun x=>?_
   rw [Zb9]
   unfold ZbI
   simp only [Bool.and_eq_true,Bool.not_eq_true',Bool.and_eq_false_iff,beq_eq_false_iff_ne]
   constructor
   ·rintro ⟨h1,h2,h3 | h3⟩
    ·exact ⟨⟨h1,h2⟩,h3⟩
    ·exact absurd rfl h3
   ·rintro ⟨⟨h1,h2⟩,h3⟩
    exact ⟨h1,h2,.inl h3⟩
  rw [this]
 ·rw [if_neg e]
  cases Ze n s.A with
  | none=>rfl
  | some p=>
   show some (Qn _ n p)=some (Qn s n p)
   unfold Qn
   show some (n,p.1,(Ze n s.OF).getD [],p.2,ofL n s.K (ZbI g k s.mem))=_
   have : ofL n s.K (ZbI g k s.mem)=ofL n s.K s.mem:=by
    unfold ofL ZbI
    refine List.filter_congr fun x _=>?_
    simp [e]
   rw [this]
end
end Go.Proofs.YtnnehafmjfmbnaaGreatDoor.A
namespace Go.Proofs.YtnnehafmjfmbnaaGreatDoor.A
set_option linter.unusedVariables false
set_option linter.unusedSimpArgs false
open Go.Proofs Go.Proofs.YtnnehafmjfmbnaaGreatDoor
def UOK (X : Zc) (u : Zo) : Prop:=Sl X u.gv (u.gs.map strv)∧oneCell u.gv=true∧u.gs.length≤1000000
structure RD (X : Zc) (uv gv : Value) (s : NSt) : Prop where
 ex : ∃ us,Qg X uv us∧ROK s us
 n : ∃ q N,ZE X gv (N.map strv) q∧Is N (·∈s.K)
structure W6 (s : NSt) : Prop where
 i : Jp s
 k : Zms s
 n : (Zbt s).Nodup
 x : Inv s.OW s.OF
theorem ND.pinv {X : Zc} {d c : Nat} {r : NR} {s : NSt} (h : ND X d r s c) : W6 s:=⟨h.inv,h.toND0.kn,h.m.nod,h.ix.inv⟩
def Zir (k h : List UInt8) : Zo:=⟨k,h,[],false,.slice none 0 0,[]⟩
abbrev ZhL : Zo:=Zir [] []
section
variable {X X' Y H0 : Zc} {n : Nat} {uv gv v : Value} {us : List Zo} {s : NSt} {k h m o t g : Tx} {u w : Zo} {β : Type}
theorem UOK.hle (h : UOK X u) (hl : HLe X X') : UOK X' u:=⟨h.1.mono hl,h.2⟩
theorem Qg.ok (h : Qg X uv us) (hu : u∈us) : UOK X u:=h.2 u hu
theorem Qg.one (h : Qg X uv us) : oneCell uv=true:=h.1.one.1
theorem ZE.hle {vs : List Value} {q : List Nat} (h : ZE X v vs q) (hl : HLe X X') : ZE X' v vs q:=h.step hl.step (by simp)
theorem RD.hle (h : RD X uv gv s) (hl : HLe X X') : RD X' uv gv s:=⟨h.ex.imp fun us ⟨a,b⟩=>⟨a.mono hl,b⟩,h.n.imp fun q ⟨N,a,b⟩=>⟨N,a.hle hl,b⟩⟩
theorem RD.oneG (h : RD X uv gv s) : oneCell gv=true:=by
 obtain ⟨q,N,a,_⟩:=h.n
 exact a.one.1
theorem RD.oneU (h : RD X uv gv s) : oneCell uv=true:=by
 obtain ⟨us,a,_⟩:=h.ex
 exact a.one
theorem ZE.cle {vs : List Value} {q : List Nat} (h : ZE X v vs q) (hc : CLe X X') : ZE X' v vs q:=by
 rcases h with ⟨rfl,rfl,rfl⟩ | ⟨sid,rest,gr,rfl,rfl,hid⟩
 ·exact .inl ⟨rfl,rfl,rfl⟩
 ·exact .inr ⟨sid,rest,gr,rfl,rfl,hc _ _ _ _ _ hid⟩
theorem RD.cle (h : RD X uv gv s) (hc : CLe X X') : RD X' uv gv s:=⟨h.ex.imp fun us ⟨a,b⟩=>⟨a.cle hc,b⟩,h.n.imp fun q ⟨N,a,b⟩=>⟨N,a.cle hc,b⟩⟩
abbrev zD : Value:=.agg #[.slice none 0 0,.slice none 0 0]
abbrev zU : Value:=.agg #[.string ⟨#[]⟩,.string ⟨#[]⟩,.string ⟨#[]⟩,.bool false,.slice none 0 0]
theorem HLe.putB (h : HLe H0 X) {b : Nat} {o : Zf} (hb : H0.length≤b) : HLe H0 (X.set b o):=fun i v hi=>by
 have:=Jg hi
 rw [List.getElem?_set_ne (by omega)]
 exact h i v hi
theorem Zgo (h1 : oneCell uv=true) (h2 : oneCell gv=true) : ∃ p3 p6 X2,(∀ {β : Type} (K : Value→Value→M β),bind (alc 1 (.agg #[uv,gv])) (fun a=>bind (alc 1 zD) fun b=>K a b) X=K (pt p3) (pt p6) X2)∧X2[p3]?=some (.cells [uv,gv] 1 false false)∧X2[p6]?=some (.cells [.slice none 0 0,.slice none 0 0] 1 false false)∧HLe X X2∧X.length≤p3∧p3 < p6∧p6 < X2.length:=by
 have z1 : alc 1 (.agg #[uv,gv]) X=some (pt X.length,X++[.cells [uv,gv] 1 false false]):=K5 (vs:=[uv,gv]) (by simp only [List.all_cons,h1,h2];rfl)
 have z2 : alc 1 zD (X++[.cells [uv,gv] 1 false false])=some (pt (X++[Zf.cells [uv,gv] 1 false false]).length,X++[.cells [uv,gv] 1 false false]++[.cells [.slice none 0 0,.slice none 0 0] 1 false false]):=K5 (vs:=[.slice none 0 0,.slice none 0 0]) rfl
 exact ⟨X.length,(X++[Zf.cells [uv,gv] 1 false false]).length,X++[.cells [uv,gv] 1 false false]++[.cells [.slice none 0 0,.slice none 0 0] 1 false false],fun {β} K=>by rw [Za z1,Za z2],ZhS,ZD,(HLe.app _ _).trans (.app _ _),Nat.le_refl _,by simp,by simp⟩
theorem ZfV {p3 p6 : Nat} {c6 : List Value} {e : Int} (h1 : oneCell uv=true) (h2 : oneCell gv=true) (c3 : Y[p3]?=some (.cells [uv,gv] 1 false false)) (b6 : Y[p6]?=some (.cells c6 1 false false)) (hl : c6.length=2) :
  (bind (ldA 2 (pt p3)) fun v18=>bind (stA 2 (pt p6) v18) fun _=>bind (ldA 2 (pt p6)) fun vr=>ret (Value.tuple #[vr,iv e])) Y=some (.tuple #[.agg #[uv,gv],iv e],Y.set p6 (.cells [uv,gv] 1 false false)):=by
 have d1 : ldA 2 (pt p3) Y=some (.agg #[uv,gv],Y):=ZY (n:=2) c3 rfl
 have w1:=WM (vs:=[uv,gv]) (n:=2) b6 hl rfl (by simp only [List.all_cons,h1,h2];rfl)
 have w1 : stA 2 (pt p6) (.agg #[uv,gv]) Y=_:=w1
 have d2 : ldA 2 (pt p6) (Y.set p6 (.cells [uv,gv] 1 false false))=some (.agg #[uv,gv],_):=ZY (n:=2) (ZT b6) rfl
 rw [Za d1,Za w1,Za d2]
 rfl
theorem Znl (hU : Qg X uv us) (hO : ROK s us) (hP : W6 s) (hg : oneCell gv=true) : ∃ u X',R (n+4) JT [.agg #[uv,gv],strv k] X=some (.tuple #[.agg u.cells.toArray,iv (Zl k s.A)],X')∧HLe X X'∧UOK X' u∧(Zl k s.A=0→Z5 u=Qn s k (ZU k s.A))∧(u=ZhL∨u∈us)∧(Zl k s.A≠0→u=ZhL):=by
 have z1 : alc 1 (.agg #[uv,gv]) X=some (pt X.length,X++[.cells [uv,gv] 1 false false]):=K5 (vs:=[uv,gv]) (by simp only [List.all_cons,hU.one,hg];rfl)
 have z2 : alc 1 zU (X++[.cells [uv,gv] 1 false false])=some (pt (X++[Zf.cells [uv,gv] 1 false false]).length,X++[.cells [uv,gv] 1 false false]++[.cells (usr ([],[])) 1 false false]):=K5 (vs:=usr ([],[])) rfl
 have k2 : HLe X (X++[Zf.cells [uv,gv] 1 false false]++[Zf.cells (usr ([],[])) 1 false false]):=(HLe.app _ _).trans (.app _ _)
 have b1 : (X++[Zf.cells [uv,gv] 1 false false]++[Zf.cells (usr ([],[])) 1 false false])[X.length]?=some (.cells [uv,gv] 1 false false):=ZhS
 have b2 : (X++[Zf.cells [uv,gv] 1 false false]++[Zf.cells (usr ([],[])) 1 false false])[(X++[Zf.cells [uv,gv] 1 false false]).length]?=some (.cells (usr ([],[])) 1 false false):=ZD
 have hp : X.length < (X++[Zf.cells [uv,gv] 1 false false]).length:=by simp
 generalize X++[Zf.cells [uv,gv] 1 false false]++[Zf.cells (usr ([],[])) 1 false false]=X2 at z2 k2 b1 b2
 generalize (X++[Zf.cells [uv,gv] 1 false false]).length=p2 at z2 b2 hp
 have hlen:=hO.len hP.n
 have hfew:=hP.i.few
 have e1 : R (n+3) Qt [strv k] X2=some (.bool (Zr k),X2):=Za2
 have f1 : ∀ v X',Zbj (R (n+3)) (.agg #[uv,gv]) (strv k) X=some (v,X')→R (n+4) JT [.agg #[uv,gv],strv k] X=some (v,X'):=fun v X' hr=>by rw [R,Znp rfl];exact hr
 have fin : ∀ (w : Zo) (e : Int) (Y : Zc),oneCell w.gv=true→Y[p2]?=some (.cells (usr ([],[])) 1 false false)→(bind (stA 5 (pt p2) (.agg w.cells.toArray)) fun _=>bind (ldA 5 (pt p2)) fun vr=>ret (Value.tuple #[vr,iv e])) Y=some (.tuple #[.agg w.cells.toArray,iv e],Y.set p2 (.cells w.cells 1 false false)):=fun w e Y hw hY=>by
  have w1:=WM (vs:=w.cells) (n:=5) hY rfl rfl (Kg hw)
  have d1 : ldA 5 (pt p2) (Y.set p2 (.cells w.cells 1 false false))=some (.agg w.cells.toArray,_):=ZY (n:=5) (ZT hY) rfl
  rw [Za w1,Za d1]
  rfl
 have okz : ∀ Y,UOK Y ZhL:=fun Y=>⟨Sl.nil,rfl,Nat.zero_le _⟩
 have zb : ∀ Y,bld zU [] Y=some (.agg ZhL.cells.toArray,Y):=fun Y=>rfl
 cases hnm : Zr k
 ·have he : Zl k s.A=10:=by unfold Zl;rw [hnm];rfl
  rw [hnm] at e1
  rw [he]
  refine ⟨ZhL,X2.set p2 (.cells ZhL.cells 1 false false),f1 _ _ ?_,k2.putB (by omega),okz _,fun h=>absurd h (by decide),.inl rfl,fun _=>rfl⟩
  unfold Zbj
  rw [Za z1,Za z2,Za e1,Za Zy,Zb,if_pos (by rfl),Za (zb _)]
  exact fin _ _ _ rfl b2
 ·rw [hnm] at e1
  have a1 : ld1 (pa X.length 0) X2=some (uv,X2):=Zu b1 rfl
  obtain ⟨X3,e3,k3⟩:=Zmk (n:=n+2) (k:=k) (by omega) (hU.mono k2).1 (fun u hu=>(hU.2 u hu).2.1)
  have e3 : R (n+3) KW [uv,strv k] X2=_:=e3
  have b13:=k3 _ _ b1
  have b23:=k3 _ _ b2
  have a3 : ld1 (pa X.length 0) X3=some (uv,X3):=Zu b13 rfl
  cases hfi : Zbu k us with
  | none=>
   rw [hfi] at e3
   have ha:=(ZeF hO).1 hfi
   have he : Zl k s.A=8:=by unfold Zl;rw [hnm,ha];rfl
   rw [he]
   refine ⟨ZhL,X3.set p2 (.cells ZhL.cells 1 false false),f1 _ _ ?_,(k2.trans k3).putB (by omega),okz _,fun h=>absurd h (by decide),.inl rfl,fun _=>rfl⟩
   unfold Zbj
   rw [Za z1,Za z2,Za e1,Za Zy,Zb,if_neg (by simp),Za Zg,Za a1,Za e3,Za Zq,Zb,if_pos (by simp),Za (zb _)]
   exact fin _ _ _ rfl b23
  | some i=>
   rw [hfi] at e3
   obtain ⟨w,p,hw,hwn,ha,hkey⟩:=ZgZ hO hfi
   have he : Zl k s.A=0:=by unfold Zl;rw [hnm,ha];rfl
   have hm:=List.mem_of_getElem? hw
   have hok:=(hU.mono (k2.trans k3)).ok hm
   have hrow : (us.map Zo.cells)[i]?=some w.cells:=by rw [List.getElem?_map,hw];rfl
   have hf:=fun {K : Value→M Value}=>((hU.mono (k2.trans k3)).1).fetch (k:=K) hrow (by omega) .i64
   rw [he]
   have hput : HLe X (X3.set p2 (.cells w.cells 1 false false)):=(k2.trans k3).putB (by omega)
   refine ⟨w,X3.set p2 (.cells w.cells 1 false false),f1 _ _ ?_,hput,(hU.mono hput).ok hm,fun _=>by rw [hkey];unfold ZU;rw [ha];rfl,.inr hm,fun h=>absurd rfl h⟩
   unfold Zbj
   rw [Za z1,Za z2,Za e1,Za Zy,Zb,if_neg (by simp),Za Zg,Za a1,Za e3,Za Zq,Zb,if_neg (by simp),Za Zg,Za a3,hf]
   exact fin _ _ _ hok.2.1 b23
theorem ZoX (hU : Qg X uv us) (hO : ROK s us) (hP : W6 s) (hg : oneCell gv=true) : ∃ u X',R (n+4) JT [.agg #[uv,gv],strv k] X=some (.tuple #[.agg u.cells.toArray,iv (Zl k s.A)],X')∧HLe X X'∧UOK X' u∧(Zl k s.A=0→Z5 u=Qn s k (ZU k s.A)):=by
 obtain ⟨u,X',a,b,c,d,_⟩:=Znl (n:=n) (k:=k) hU hO hP hg
 exact ⟨u,X',a,b,c,d⟩
theorem Qg.put (h : Qg X uv us) (hv : SlN 5 X' v ((ZbF u us).map Zo.cells)) (hu : UOK X u) (hl : HLe X X') : Qg X' v (ZbF u us):=⟨hv,fun w hw=>by
 rcases Za6.1 hw with rfl | ⟨hw,_⟩
 ·exact hu.hle hl
 ·exact (h.mono hl).2 w hw⟩
theorem ZuD (hU : Qg X uv us) (hl : us.length≤1000) (hu : UOK X u) (hg : oneCell gv=true) : ∃ uv' X',R (n+2) KX [.agg #[uv,gv],.agg u.cells.toArray] X=some (.agg #[uv',gv],X')∧Qg X' uv' (ZbF u us)∧HLe X X':=by
 have z1 : alc 1 (.agg #[uv,gv]) X=some (pt X.length,X++[.cells [uv,gv] 1 false false]):=K5 (vs:=[uv,gv]) (by simp only [List.all_cons,hU.one,hg];rfl)
 have k1 : HLe X (X++[Zf.cells [uv,gv] 1 false false]):=.app _ _
 have b1 : (X++[Zf.cells [uv,gv] 1 false false])[X.length]?=some (.cells [uv,gv] 1 false false):=ZD
 generalize X++[Zf.cells [uv,gv] 1 false false]=X1 at z1 k1 b1
 have z2:=Zpd (X:=X1) hu.2.1
 have k2 : HLe X1 (X1++[Zf.cells u.cells 1 false false]):=.app _ _
 have b2 : (X1++[Zf.cells u.cells 1 false false])[X1.length]?=some (.cells u.cells 1 false false):=ZD
 generalize X1++[Zf.cells u.cells 1 false false]=X2 at z2 k2 b2
 have z3 : alc 1 zD X2=some (pt X2.length,X2++[.cells [.slice none 0 0,.slice none 0 0] 1 false false]):=K5 (vs:=[.slice none 0 0,.slice none 0 0]) rfl
 have k3 : HLe X2 (X2++[Zf.cells [.slice none 0 0,.slice none 0 0] 1 false false]):=.app _ _
 have b3 : (X2++[Zf.cells [.slice none 0 0,.slice none 0 0] 1 false false])[X2.length]?=some (.cells [.slice none 0 0,.slice none 0 0] 1 false false):=ZD
 generalize X2++[Zf.cells [.slice none 0 0,.slice none 0 0] 1 false false]=X3 at z3 k3 b3
 have l1:=Jg b1
 have l2:=Jg b2
 have l12:=k2.len
 have b13:=k3 _ _ (k2 _ _ b1)
 have b23:=k3 _ _ b2
 have hk:=(k1.trans k2).trans k3
 have a1 : ld1 (pa X.length 0) X3=some (uv,X3):=Zu b13 rfl
 have d2 : ldA 5 (pt X1.length) X3=some (.agg u.cells.toArray,X3):=ZY (n:=5) b23 rfl
 obtain ⟨X4,v4,q4,e4,r4,k4,o4⟩:=Zok (n:=n) (u:=u) hu.2.1 hl (hU.mono hk).1 (fun w hw=>(hU.2 w hw).2.1)
 have b14:=k4 _ _ b13
 have b34:=k4 _ _ b3
 have hv1 : oneCell v4=true:=r4.one.1
 have w1 : st1 (pa X.length 0) v4 X4=some (undef,X4.set X.length (.cells [v4,gv] 1 false false)):=Zal (o:=0) b14 (by simp) hv1
 have b15:=ZT (b:=Zf.cells [v4,gv] 1 false false) b14
 have b35:=(List.getElem?_set_ne (a:=Zf.cells [v4,gv] 1 false false) (show X.length≠X2.length by omega)).trans b34
 have hk5 : HLe X (X4.set X.length (.cells [v4,gv] 1 false false)):=(hk.trans k4).putB (Nat.le_refl _)
 have hal : ([v4,gv].all oneCell)=true:=by simp only [List.all_cons,hv1,hg];rfl
 have d5 : ldA 2 (pt X.length) (X4.set X.length (.cells [v4,gv] 1 false false))=some (.agg #[v4,gv],_):=ZY (n:=2) b15 rfl
 have w5:=WM (vs:=[v4,gv]) (n:=2) b35 rfl rfl hal
 have w5 : stA 2 (pt X2.length) (.agg #[v4,gv]) (X4.set X.length (.cells [v4,gv] 1 false false))=_:=w5
 have d6 : ldA 2 (pt X2.length) ((X4.set X.length (.cells [v4,gv] 1 false false)).set X2.length (.cells [v4,gv] 1 false false))=some (.agg #[v4,gv],_):=ZY (n:=2) (ZT b35) rfl
 have l3:=Jg b3
 have hr6 : Q7 5 ((X4.set X.length (.cells [v4,gv] 1 false false)).set X2.length (.cells [v4,gv] 1 false false)) v4 ((ZbF u us).map Zo.cells) q4:=r4.keep fun j hj=>by
  have:=o4 j hj
  rw [List.getElem?_set_ne (by omega),List.getElem?_set_ne (by omega)]
 refine ⟨v4,(X4.set X.length (.cells [v4,gv] 1 false false)).set X2.length (.cells [v4,gv] 1 false false),?_,hU.put hr6.rd hu (hk5.putB (by omega)),hk5.putB (by omega)⟩
 rw [R,Zom rfl]
 unfold Zgv
 rw [Za z1,Za z2,Za z3,Za Zg,Za a1,Za d2,Za e4,Za Zg,Za w1,Za d5,Za w5,Za d6]
 rfl
end
end Go.Proofs.YtnnehafmjfmbnaaGreatDoor.A
namespace Go.Proofs.YtnnehafmjfmbnaaGreatDoor.A
set_option linter.unusedVariables false
set_option linter.unusedSimpArgs false
open Go.Proofs Go.Proofs.YtnnehafmjfmbnaaGreatDoor
section
variable {X X' Y H0 : Zc} {n : Nat} {uv gv v : Value} {us : List Zo} {s : NSt} {k h m o t g : Tx} {u w : Zo} {β : Type}
def KG (v : Value) : Prop:=∃ a n c,v=.slice a n c
theorem Qg.isSl (h : Qg X uv us) : KG uv:=by
 obtain ⟨a,c,h1,_⟩:=h.1
 exact ⟨a,_,c,h1⟩
theorem ZE.isSlc {vs : List Value} {q : List Nat} (h : ZE X v vs q) : KG v:=by
 rcases h with ⟨_,_,h⟩ | ⟨_,_,_,h,_⟩
 ·exact ⟨_,_,_,h⟩
 ·exact ⟨_,_,_,h⟩
theorem KG.one (h : KG v) : oneCell v=true:=by
 obtain ⟨a,n,c,rfl⟩:=h;rfl
theorem ZmD {x : Tx} (h : KG (strv x)) : False:=by
 obtain ⟨a,n,c,h⟩:=h
 cases h
theorem Sl.setD {l : List Tx} {b : Nat} {c1 c2 d1 d2 : Value} (h : Sl Y v (l.map strv)) (hb : Y[b]?=some (.cells [c1,c2] 1 false false)) (i1 : KG c1) (i2 : KG c2) : Sl (Y.set b (.cells [d1,d2] 1 false false)) v (l.map strv):=by
 by_cases ho : own1 v=some b
 ·obtain ⟨a,c,rfl,h0,hf⟩:=h
  unfold own1 at ho
  split at ho
  ·rename_i id o n x e
   cases e
   cases ho
   have hl : l=[]:=by
    unfold QN at hf
    simp only [hb] at hf
    split at hf
    ·have hf:=Option.some.inj hf
     cases l with
     | nil=>rfl
     | cons y l=>
      have hm : strv y∈([c1,c2].drop o).take ((List.map strv (y :: l)).length * 1):=by rw [hf];simp
      have hm:=List.mem_of_mem_drop (List.mem_of_mem_take hm)
      simp only [List.mem_cons,List.not_mem_nil,or_false] at hm
      rcases hm with hm | hm
      ·rw [← hm] at i1;exact (ZmD i1).elim
      ·rw [← hm] at i2;exact (ZmD i2).elim
    ·cases hf
   subst hl
   refine ⟨_,c,rfl,(fun e=>by cases e),?_⟩
   unfold QN at hf ⊢
   simp only [hb,ZT hb] at hf ⊢
   split at hf
   ·rename_i hle
    rw [if_pos (by simpa using hle)]
    simp
   ·cases hf
  ·cases ho
 ·exact h.keep fun id hid=>List.getElem?_set_ne (fun e=>ho (by rw [hid,e]))
theorem SlN.setD {rows : List (List Value)} {b : Nat} {c1 c2 d1 d2 : Value} (h : SlN 5 Y v rows) (hb : Y[b]?=some (.cells [c1,c2] 1 false false)) : SlN 5 (Y.set b (.cells [d1,d2] 1 false false)) v rows:=by
 by_cases ho : own1 v=some b
 ·obtain ⟨a,c,rfl,h0,hf,hr⟩:=h
  unfold own1 at ho
  split at ho
  ·rename_i id o n x e
   cases e
   cases ho
   unfold QN at hf
   simp only [hb] at hf
   split at hf
   ·rename_i hle
    have hl : rows.length=0:=by
     simp only [List.length_cons,List.length_nil] at hle
     omega
    have hl : rows=[]:=List.eq_nil_of_length_eq_zero hl
    subst hl
    refine ⟨_,c,rfl,(fun e=>by cases e),?_,hr⟩
    unfold QN
    simp only [ZT hb]
    rw [if_pos (by simpa using hle)]
    simp
   ·cases hf
  ·cases ho
 ·exact h.keep fun id hid=>List.getElem?_set_ne (fun e=>ho (by rw [hid,e]))
theorem Qg.setD {b : Nat} {c1 c2 d1 d2 : Value} (h : Qg Y v us) (hb : Y[b]?=some (.cells [c1,c2] 1 false false)) (i1 : KG c1) (i2 : KG c2) : Qg (Y.set b (.cells [d1,d2] 1 false false)) v us:=
 ⟨h.1.setD hb,fun u hu=>⟨(h.2 u hu).1.setD hb i1 i2,(h.2 u hu).2⟩⟩
theorem ZE.setD {l : List Tx} {q : List Nat} {b : Nat} {c1 c2 d1 d2 : Value} (h : ZE Y v (l.map strv) q) (hb : Y[b]?=some (.cells [c1,c2] 1 false false)) (i1 : KG c1) (i2 : KG c2) : ZE (Y.set b (.cells [d1,d2] 1 false false)) v (l.map strv) q:=by
 rcases h with ⟨h1,rfl,rfl⟩ | ⟨sid,rest,gr,rfl,rfl,hid⟩
 ·exact .inl ⟨h1,rfl,rfl⟩
 ·by_cases e : b=sid
  ·subst e
   rw [hb] at hid
   injection hid with hid
   injection hid with hc h2 h3 h4
   cases l with
   | nil=>
    have hc : [c1,c2]=rest:=by simpa using hc
    subst hc
    exact .inr ⟨b,[d1,d2],gr,rfl,rfl,by rw [ZT hb,h3];rfl⟩
   | cons y l=>
    rw [List.map_cons,List.cons_append] at hc
    injection hc with hc _
    rw [hc] at i1
    exact (ZmD i1).elim
  ·exact .inr ⟨sid,rest,gr,rfl,rfl,(List.getElem?_set_ne e).trans hid⟩
theorem ZrJ (hU : Qg X uv us) (hO : ROK s us) (hP : W6 s) : ∃ X' v us',R (n+4) Zaa [uv,strv k,strv h] X=some (.tuple #[v,iv (Qp k h s.A)],X')∧Qg X' v us'∧ROK (JY k h s) us'∧HLe X X':=by
 have e1 : R (n+3) Qt [strv k] X=some (.bool (Zr k),X):=Za2
 have e2 : R (n+3) Wz [strv h] X=some (.bool (ZaH h),X):=Zlj
 have hlen:=hO.len hP.n
 have hfew:=hP.i.few
 obtain ⟨X1,e3,l1⟩:=Zmk (n:=n+2) (k:=k) (by omega) hU.1 (fun u hu=>(hU.2 u hu).2.1)
 have e3 : R (n+3) KW [uv,strv k] X=_:=e3
 have f1 : ∀ r X',Zbc (R (n+3)) uv (strv k) (strv h) X=some (r,X')→R (n+4) Zaa [uv,strv k,strv h] X=some (r,X'):=fun r X' hr=>by rw [R,ZlW rfl];exact hr
 have hU1:=hU.mono l1
 have hl : ZB uv X1=some (iv us.length,X1):=by have:=hU1.1.len (H':=X1);rwa [List.length_map] at this
 by_cases he : Qp k h s.A=0
 ·obtain ⟨h1,h2,h3,h4⟩:=ZfJ he
  rw [h1] at e1
  rw [h2] at e2
  rw [(ZeF hO).2 h3] at e3
  have zb : bld zU [(0,1,strv k),(1,1,strv h)] X1=some (.agg (Zir k h).cells.toArray,X1):=Zt9
  have okB : UOK X1 (Zir k h):=⟨Sl.nil,rfl,Nat.zero_le _⟩
  obtain ⟨X2,v,q,e4,r4,l4,_⟩:=Zok (n:=n+2) (u:=Zir k h) rfl (by omega) hU1.1 (fun u hu=>(hU.2 u hu).2.1)
  have e4 : R (n+3) Wr [uv,.agg (Zir k h).cells.toArray] X1=_:=e4
  rw [he]
  refine ⟨X2,v,ZbF (Zir k h) us,f1 _ _ ?_,hU1.put r4.rd okB l4,hO.put (u:=Zir k h) ?_ (fun x hx=>?_),l1.trans l4⟩
  ·unfold Zbc
   rw [Za e1,Za Zy,Zb,if_neg (by simp),Za e2,Za Zy,Zb,if_neg (by simp),Za e3,Za Qb,Zb,if_neg (by simp),Za hl,Za Qb,Zb,if_neg (by simp;omega),Za zb,Za e4]
   rfl
  ·rw [Zg6 hP.i he,if_pos (show (Zir k h).nm=k from rfl)];rfl
  ·rw [Zg6 hP.i he,if_neg (show ¬ x=k from hx)]
 ·have hn : JY k h s=s:=by unfold JY;rw [if_neg he]
  rw [hn]
  refine ⟨if Zr k && ZaH h then X1 else X,uv,us,f1 _ _ ?_,?_,hO,?_⟩
  ·unfold Zbc
   cases h1 : Zr k
   ·have hE : Qp k h s.A=10:=by unfold Qp;rw [h1];rfl
    rw [h1] at e1
    rw [Za e1,Za Zy,Zb,if_pos (by rfl),hE]
    rfl
   ·rw [h1] at e1
    cases h2 : ZaH h
    ·have hE : Qp k h s.A=4:=by unfold Qp;rw [h1,h2];rfl
     rw [h2] at e2
     rw [Za e1,Za Zy,Zb,if_neg (by simp),Za e2,Za Zy,Zb,if_pos (by rfl),hE]
     rfl
    ·rw [h2] at e2
     rw [Za e1,Za Zy,Zb,if_neg (by simp),Za e2,Za Zy,Zb,if_neg (by simp),Za e3]
     cases hfi : Zbu k us with
     | some i=>
      obtain ⟨w,p,hw,hwn,ha,hkey⟩:=ZgZ hO hfi
      have hE : Qp k h s.A=9:=by unfold Qp;rw [h1,h2,ha];rfl
      rw [Za Qb,Zb,if_pos (by simp),hE]
      rfl
     | none=>
      have ha:=(ZeF hO).1 hfi
      have h12 : 12≤s.A.length:=by
       unfold Qp at he
       rw [h1,h2,ha] at he
       simpa using he
      have hE : Qp k h s.A=7:=by unfold Qp;rw [h1,h2,ha];simp [h12]
      rw [Za Qb,Zb,if_neg (by simp),Za hl,Za Qb,Zb,if_pos (by simp;omega),hE]
      rfl
  ·split
   ·exact hU1
   ·exact hU
  ·split
   ·exact l1
   ·exact .refl _
theorem ZrG (hU : Qg X uv us) (hO : ROK s us) (hP : W6 s) : ∃ X' v us',R (n+4) Zab [uv,strv k] X=some (.tuple #[v,iv (Zl k s.A)],X')∧Qg X' v us'∧ROK (QS k s) us'∧HLe X X':=by
 have e1 : R (n+3) Qt [strv k] X=some (.bool (Zr k),X):=Za2
 have hlen:=hO.len hP.n
 have hfew:=hP.i.few
 obtain ⟨X1,e3,l1⟩:=Zmk (n:=n+2) (k:=k) (by omega) hU.1 (fun u hu=>(hU.2 u hu).2.1)
 have e3 : R (n+3) KW [uv,strv k] X=_:=e3
 have f1 : ∀ r X',W8 (R (n+3)) uv (strv k) X=some (r,X')→R (n+4) Zab [uv,strv k] X=some (r,X'):=fun r X' hr=>by rw [R,Zk6 rfl];exact hr
 have hU1:=hU.mono l1
 cases h1 : Zr k
 ·have hE : Zl k s.A=10:=by unfold Zl;rw [h1];rfl
  have hn : QS k s=s:=by unfold QS;rw [if_neg (by rw [hE];decide)]
  rw [h1] at e1
  rw [hn,hE]
  refine ⟨X,uv,us,f1 _ _ ?_,hU,hO,.refl _⟩
  unfold W8
  rw [Za e1,Za Zy,Zb,if_pos (by rfl)]
  rfl
 ·rw [h1] at e1
  cases hfi : Zbu k us with
  | none=>
   rw [hfi] at e3
   have ha:=(ZeF hO).1 hfi
   have hE : Zl k s.A=8:=by unfold Zl;rw [h1,ha];rfl
   have hn : QS k s=s:=by unfold QS;rw [if_neg (by rw [hE];decide)]
   rw [hn,hE]
   refine ⟨X1,uv,us,f1 _ _ ?_,hU1,hO,l1⟩
   unfold W8
   rw [Za e1,Za Zy,Zb,if_neg (by simp),Za e3,Za Zq,Zb,if_pos (by simp)]
   rfl
  | some i=>
   rw [hfi] at e3
   obtain ⟨w,p,hw,hwn,ha,hkey⟩:=ZgZ hO hfi
   have hE : Zl k s.A=0:=by unfold Zl;rw [h1,ha];rfl
   obtain ⟨X2,v,e4,r4,l4⟩:=Zqq (n:=n+2) (k:=k) (by omega) hU1.1 (fun u hu=>(hU.2 u hu).2.1)
   have e4 : R (n+3) Zat [uv,strv k] X1=_:=e4
   refine ⟨X2,v,us.filter fun v=>decide (v.nm≠k),f1 _ _ ?_,⟨r4,fun u hu=>(hU1.mono l4).2 u (List.mem_filter.1 hu).1⟩,hO.drop (by rw [Zkz hE,if_pos rfl]) (fun x hx=>by rw [Zkz hE,if_neg hx]),l1.trans l4⟩
   unfold W8
   rw [Za e1,Za Zy,Zb,if_neg (by simp),Za e3,Za Zq,Zb,if_neg (by simp),Za e4,hE]
   rfl
theorem ZqN {p3 p6 : Nat} {c1 c2 : Value} {e : Int} {us' : List Zo} (hv : Qg Y v us') (ig : KG gv) (iu : KG uv) (i1 : KG c1) (i2 : KG c2) (hn : p3≠p6) (c3 : Y[p3]?=some (.cells [uv,gv] 1 false false)) (b6 : Y[p6]?=some (.cells [c1,c2] 1 false false)) :
  ∃ Y',(bind (fa 0 (pt p3)) fun v19=>bind (st1 v19 v) fun _=>bind (ldA 2 (pt p3)) fun v20=>bind (stA 2 (pt p6) v20) fun _=>bind (ldA 2 (pt p6)) fun vr=>ret (Value.tuple #[vr,iv e])) Y=some (.tuple #[.agg #[v,gv],iv e],Y')∧Qg Y' v us'∧(∀ {H0 : Zc},HLe H0 Y→H0.length≤p3→H0.length≤p6→HLe H0 Y')∧(∀ {l : List Tx} {q : List Nat} {w : Value},ZE Y w (l.map strv) q→ZE Y' w (l.map strv) q):=by
 have w1 : st1 (pa p3 0) v Y=some (undef,Y.set p3 (.cells [v,gv] 1 false false)):=Zal (o:=0) c3 (by simp) hv.one
 have c3':=ZT (b:=Zf.cells [v,gv] 1 false false) c3
 have b6':=(List.getElem?_set_ne (a:=Zf.cells [v,gv] 1 false false) hn).trans b6
 have hf:=ZfV (e:=e) hv.one ig.one c3' b6' rfl
 refine ⟨(Y.set p3 (.cells [v,gv] 1 false false)).set p6 (.cells [v,gv] 1 false false),?_,(hv.setD (d1:=v) (d2:=gv) c3 iu ig).setD b6' i1 i2,fun h h1 h2=>(h.putB h1).putB h2,fun h=>(h.setD (d1:=v) (d2:=gv) c3 iu ig).setD b6' i1 i2⟩
 rw [Za Zg,Za w1]
 exact hf
theorem RD.isSl (hR : RD X uv gv s) : KG uv∧KG gv:=by
 obtain ⟨us,hU,_⟩:=hR.ex
 obtain ⟨q,N,hr,_⟩:=hR.n
 exact ⟨hU.isSl,hr.isSlc⟩
theorem W5 : KG (.slice none 0 0):=⟨_,_,_,rfl⟩
theorem ZpH (hR : RD X uv gv s) (hP : W6 s) : ∃ X' uv',R (n+6) Zbb [.agg #[uv,gv],strv k,strv h] X=some (.tuple #[.agg #[uv',gv],iv (Qp k h s.A)],X')∧RD X' uv' gv (JY k h s)∧HLe X X':=by
 obtain ⟨us,hU,hO⟩:=hR.ex
 obtain ⟨iu,ig⟩:=hR.isSl
 obtain ⟨p3,p6,X2,z,b3,b6,k2,l3,l36,l6⟩:=Zgo (X:=X) hR.oneU hR.oneG
 have a3 : ld1 (pa p3 0) X2=some (uv,X2):=Zu b3 rfl
 obtain ⟨X3,v,us',e3,hU3,hO3,k3⟩:=ZrJ (n:=n+1) (k:=k) (h:=h) (hU.mono k2) hO hP
 have e3 : R (n+5) Zaa [uv,strv k,strv h] X2=_:=e3
 obtain ⟨X4,e4,hU4,hl4,_⟩:=ZqN (e:=Qp k h s.A) hU3 ig iu W5 W5 (show p3≠p6 by omega) (k3 _ _ b3) (k3 _ _ b6)
 have hkk : HLe X X4:=hl4 (k2.trans k3) l3 (by omega)
 have hK : (JY k h s).K=s.K:=by unfold JY;split <;> rfl
 refine ⟨X4,v,?_,⟨⟨us',hU4,hO3⟩,?_⟩,hkk⟩
 ·rw [R,Zlp rfl]
  unfold Zei
  rw [z,Za Zg,Za a3,Za e3,Za Zn,Za Zm]
  exact e4
 ·rw [hK]
  exact (hR.hle hkk).n
theorem Zp7 (hR : RD X uv gv s) (hP : W6 s) : ∃ X' uv',R (n+6) Zba [.agg #[uv,gv],strv k] X=some (.tuple #[.agg #[uv',gv],iv (Zl k s.A)],X')∧RD X' uv' gv (QS k s)∧HLe X X':=by
 obtain ⟨us,hU,hO⟩:=hR.ex
 obtain ⟨iu,ig⟩:=hR.isSl
 obtain ⟨p3,p6,X2,z,b3,b6,k2,l3,l36,l6⟩:=Zgo (X:=X) hR.oneU hR.oneG
 have a3 : ld1 (pa p3 0) X2=some (uv,X2):=Zu b3 rfl
 obtain ⟨X3,v,us',e3,hU3,hO3,k3⟩:=ZrG (n:=n+1) (k:=k) (hU.mono k2) hO hP
 have e3 : R (n+5) Zab [uv,strv k] X2=_:=e3
 obtain ⟨X4,e4,hU4,hl4,_⟩:=ZqN (e:=Zl k s.A) hU3 ig iu W5 W5 (show p3≠p6 by omega) (k3 _ _ b3) (k3 _ _ b6)
 have hkk : HLe X X4:=hl4 (k2.trans k3) l3 (by omega)
 have hK : (QS k s).K=s.K:=by unfold QS;split <;> rfl
 refine ⟨X4,v,?_,⟨⟨us',hU4,hO3⟩,?_⟩,hkk⟩
 ·rw [R,Zln rfl]
  unfold Zeg
  rw [z,Za Zg,Za a3,Za e3,Za Zn,Za Zm]
  exact e4
 ·rw [hK]
  exact (hR.hle hkk).n
theorem Zps {p3 p6 p8 : Nat} {c1 c2 : Value} (hU : Qg Y uv us) (hl : us.length≤1000) (hu : UOK Y u) (ig : KG gv) (i1 : KG c1) (i2 : KG c2) (c3 : Y[p3]?=some (.cells [uv,gv] 1 false false)) (b6 : Y[p6]?=some (.cells [c1,c2] 1 false false)) (b8 : Y[p8]?=some (.cells u.cells 1 false false)) :
  ∃ uv' Y',(bind (ldA 2 (pt p3)) fun v33=>bind (ldA 5 (pt p8)) fun v34=>bind (R (n+5) KX [v33,v34]) fun v35=>bind (stA 2 (pt p6) v35) fun _=>bind (ldA 2 (pt p6)) fun vr=>ret (Value.tuple #[vr,iv 0])) Y=some (.tuple #[.agg #[uv',gv],iv 0],Y')∧Qg Y' uv' (ZbF u us)∧(∀ {H0 : Zc},HLe H0 Y→H0.length≤p6→HLe H0 Y'):=by
 have d3 : ldA 2 (pt p3) Y=some (.agg #[uv,gv],Y):=ZY (n:=2) c3 rfl
 have d8 : ldA 5 (pt p8) Y=some (.agg u.cells.toArray,Y):=ZY (n:=5) b8 rfl
 obtain ⟨uv',Y1,e1,hU1,k1⟩:=ZuD (n:=n+3) hU hl hu ig.one
 have e1 : R (n+5) KX [.agg #[uv,gv],.agg u.cells.toArray] Y=_:=e1
 have b6':=k1 _ _ b6
 have hal : ([uv',gv].all oneCell)=true:=by simp only [List.all_cons,hU1.one,ig.one];rfl
 have w1:=WM (vs:=[uv',gv]) (n:=2) b6' rfl rfl hal
 have w1 : stA 2 (pt p6) (.agg #[uv',gv]) Y1=_:=w1
 have d6 : ldA 2 (pt p6) (Y1.set p6 (.cells [uv',gv] 1 false false))=some (.agg #[uv',gv],_):=ZY (n:=2) (ZT b6') rfl
 refine ⟨uv',Y1.set p6 (.cells [uv',gv] 1 false false),?_,hU1.setD b6' i1 i2,fun h h1=>(h.trans k1).putB h1⟩
 rw [Za d3,Za d8,Za e1,Za w1,Za d6]
 rfl
theorem Sl.ltO {vs : List Value} (hs : Sl X v vs) {id : Nat} (hid : own1 v=some id) : id < X.length:=by
 obtain ⟨a,c,rfl,h0,hf⟩:=hs
 unfold own1 at hid
 split at hid
 ·rename_i id' o n x e
  cases e
  cases hid
  unfold QN at hf
  simp only at hf
  split at hf
  ·rename_i hb
   exact Jg hb
  ·cases hf
 ·cases hid
theorem Zhg (hR : RD X uv gv s) (hP : W6 s) : ∃ p3 p6 p8 u X',(∀ {β : Type} (K : Value→Value→Value→Value→M β),bind (alc 1 (.agg #[uv,gv])) (fun v3=>bind (alc 1 zD) fun v6=>bind (ldA 2 v3) fun v11=>bind (R (n+5) JT [v11,strv k]) fun v13=>bind (Zk v13 0) fun v14=>bind (Zk v13 1) fun v15=>bind (alc 1 zU) fun v8=>bind (stA 5 v8 v14) fun _=>K v3 v6 v8 v15) X=K (pt p3) (pt p6) (pt p8) (iv (Zl k s.A)) X')∧
  X'[p3]?=some (.cells [uv,gv] 1 false false)∧X'[p6]?=some (.cells [.slice none 0 0,.slice none 0 0] 1 false false)∧X'[p8]?=some (.cells u.cells 1 false false)∧HLe X X'∧X.length≤p3∧p3 < p6∧p6 < p8∧UOK X' u∧(∀ id,own1 u.gv=some id→id < p8)∧(Zl k s.A=0→Z5 u=Qn s k (ZU k s.A)):=by
 obtain ⟨us,hU,hO⟩:=hR.ex
 obtain ⟨p3,p6,X2,z,b3,b6,k2,l3,l36,l6⟩:=Zgo (X:=X) hR.oneU hR.oneG
 have d3 : ldA 2 (pt p3) X2=some (.agg #[uv,gv],X2):=ZY (n:=2) b3 rfl
 obtain ⟨u,X3,e3,k3,ok,hk⟩:=ZoX (n:=n+1) (k:=k) (hU.mono k2) hO hP hR.oneG
 have e3 : R (n+5) JT [.agg #[uv,gv],strv k] X2=_:=e3
 have z8 : ∀ {β : Type} (K : Value→M β),bind (alc 1 zU) (fun q=>bind (stA 5 q (.agg u.cells.toArray)) fun _=>K q) X3=K (pt X3.length) (X3++[.cells u.cells 1 false false]):=fun K=>K3 (n:=5) (zs:=[.string ⟨#[]⟩,.string ⟨#[]⟩,.string ⟨#[]⟩,.bool false,.slice none 0 0]) (r:=u.cells) rfl rfl rfl (Kg ok.2.1)
 have k4 : HLe X3 (X3++[Zf.cells u.cells 1 false false]):=.app _ _
 have hx3:=k3.len
 refine ⟨p3,p6,X3.length,u,X3++[.cells u.cells 1 false false],fun {β} K=>?_,k4 _ _ (k3 _ _ b3),k4 _ _ (k3 _ _ b6),ZD,(k2.trans k3).trans k4,l3,l36,by omega,ok.hle k4,fun id hid=>ok.1.ltO hid,hk⟩
 rw [z,Za d3,Za e3,Za Zn,Za Zm]
 exact z8 _
theorem RD.back (hR : RD X uv gv s) {s' : NSt} (hl : HLe X X') (he : s'=s) : RD X' uv gv s':=by rw [he];exact hR.hle hl
theorem Zrx : (J8 k h s).K=s.K:=by unfold J8;split <;> rfl
theorem ZqQ {b : Bool} : (JJ k b s).K=s.K:=by unfold JJ;split <;> rfl
theorem Zrb : (Qr k m s).K=s.K:=by unfold Qr;split <;> rfl
theorem ZrT : (Ys o t s).K=s.K:=by unfold Ys;split <;> rfl
theorem Zuo : (K4 g k s).K=s.K:=by unfold K4;split <;> rfl
theorem ZtD : (Kh g k s).K=s.K:=by unfold Kh;split <;> rfl
theorem RD.users (hR : RD X uv gv s) {s' : NSt} {uv' : Value} {us' : List Zo} (hl : HLe X X') (hU : Qg X' uv' us') (hO : ROK s' us') (hK : s'.K=s.K) : RD X' uv' gv s':=⟨⟨us',hU,hO⟩,by rw [hK];exact (hR.hle hl).n⟩
theorem Zn2 (hR : RD X uv gv s) (hP : W6 s) : ∃ X' uv',R (n+6) WK [.agg #[uv,gv],strv k,strv h] X=some (.tuple #[.agg #[uv',gv],iv (Qq k h s.A)],X')∧RD X' uv' gv (J8 k h s)∧HLe X X':=by
 obtain ⟨us,hU,hO⟩:=hR.ex
 obtain ⟨iu,ig⟩:=hR.isSl
 obtain ⟨p3,p6,p8,u,X3,z,b3,b6,b8,k3,l3,l36,l68,ok,lo,hkey⟩:=Zhg (n:=n) (k:=k) hR hP
 have hlen:=hO.len hP.n
 have hfew:=hP.i.few
 have e2 : R (n+5) Wz [strv h] X3=some (.bool (ZaH h),X3):=Zlj
 have f1 : ∀ r X',ZaV (R (n+5)) (.agg #[uv,gv]) (strv k) (strv h) X=some (r,X')→R (n+6) WK [.agg #[uv,gv],strv k,strv h] X=some (r,X'):=fun r X' hr=>by rw [R,Zj5 rfl];exact hr
 have a3 : ld1 (pa p8 3) X3=some (.bool u.ds,X3):=Zu b8 rfl
 have back : ∀ e : Int,Qq k h s.A=e→e≠0→J8 k h s=s:=fun e h1 h2=>by unfold J8;rw [if_neg (by rw [h1];exact h2)]
 have hfin:=fun e : Int=>ZfV (e:=e) hR.oneU hR.oneG b3 b6 rfl
 have hfl : HLe X (X3.set p6 (.cells [uv,gv] 1 false false)):=k3.putB (by omega)
 by_cases he : Qq k h s.A=0
 ·obtain ⟨a1,a2,a3',a4⟩:=Zhj he
  have hN : Zl k s.A=0:=by unfold Zl;rw [a1,a3'];rfl
  have hku:=hkey hN
  have hds : u.ds=false:=by
   have : u.ds=(ZU k s.A).2:=congrArg (·.2.2.2.1) hku
   rw [this,a4]
  have w8 : st1 (pa p8 1) (strv h) X3=some (undef,X3.set p8 (.cells (Zo.cells { u with hs:=h }) 1 false false)):=Zal (o:=1) b8 (by simp) rfl
  have k8 : HLe X (X3.set p8 (.cells (Zo.cells { u with hs:=h }) 1 false false)):=k3.putB (by omega)
  have ok8 : UOK (X3.set p8 (.cells (Zo.cells { u with hs:=h }) 1 false false)) { u with hs:=h }:=by
   exact ⟨ok.1.keep fun id hid=>List.getElem?_set_ne (by have:=lo id hid;omega),ok.2⟩
  have c3:=(List.getElem?_set_ne (a:=Zf.cells (Zo.cells { u with hs:=h }) 1 false false) (show p8≠p3 by omega)).trans b3
  have c6:=(List.getElem?_set_ne (a:=Zf.cells (Zo.cells { u with hs:=h }) 1 false false) (show p8≠p6 by omega)).trans b6
  have c8:=ZT (b:=Zf.cells (Zo.cells { u with hs:=h }) 1 false false) b8
  obtain ⟨uv',X4,e4,hU4,hl4⟩:=Zps (n:=n) (u:={ u with hs:=h }) (hU.mono k8) (by omega) ok8 ig W5 W5 c3 c6 c8
  have hkk : HLe X X4:=hl4 k8 (by omega)
  rw [he]
  have hnm : u.nm=k:=congrArg (·.1) hku
  refine ⟨X4,uv',f1 _ _ ?_,hR.users hkk hU4 (hO.put (u:={ u with hs:=h }) ?_ (fun x hx=>?_)) Zrx,hkk⟩
  ·unfold ZaV
   refine (z _).trans ?_
   have q1 : bop .int .eql (iv (Zl k s.A)) (.int .i64 10) X3=some (.bool false,X3):=by rw [ZA,hN];rfl
   have q3 : bop .int .neq (iv (Zl k s.A)) (.int .i64 0) X3=some (.bool false,X3):=by rw [Zt,hN];rfl
   rw [a2] at e2
   rw [hds] at a3
   rw [Za q1,Zb,if_neg (by simp),Za e2,Za Zy,Zb,if_neg (by simp),Za q3,Zb,if_neg (by simp),Za Zg,Za a3,Zb,if_neg (by simp),Za Zg,Za w8]
   exact e4
  ·rw [Zhf he,if_pos (show u.nm=k from hnm)]
   have h2 : Z5 { u with hs:=h }=(k,h,(Z5 u).2.2):=by unfold Z5;rw [hnm]
   rw [h2,hku]
   rfl
  ·rw [Zhf he,if_neg (by rw [← hnm];exact hx)]
 ·have hn : J8 k h s=s:=by unfold J8;rw [if_neg he]
  rw [hn]
  refine ⟨X3.set p6 (.cells [uv,gv] 1 false false),uv,f1 _ _ ?_,hR.hle hfl,hfl⟩
  unfold ZaV
  refine (z _).trans ?_
  cases a1 : Zr k
  ·have hN : Zl k s.A=10:=by unfold Zl;rw [a1];rfl
   have hE : Qq k h s.A=10:=by unfold Qq;rw [a1];rfl
   have q1 : bop .int .eql (iv 10) (.int .i64 10) X3=some (.bool true,X3):=by rw [ZA];rfl
   rw [hN,hE,Za q1,Zb,if_pos rfl]
   exact hfin 10
  ·have hN : Zl k s.A=0∨Zl k s.A=8:=by unfold Zl;rw [a1];cases (Ze k s.A).isSome <;> simp
   have q1 : bop .int .eql (iv (Zl k s.A)) (.int .i64 10) X3=some (.bool false,X3):=by rw [ZA];rcases hN with h1 | h1 <;> rw [h1] <;> rfl
   rw [Za q1,Zb,if_neg (by simp),Za e2,Za Zy,Zb]
   cases a2 : ZaH h
   ·have hE : Qq k h s.A=4:=by unfold Qq;rw [a1,a2];rfl
    rw [if_pos (by rfl),hE]
    exact hfin 4
   ·rw [if_neg (by simp)]
    cases a3' : (Ze k s.A).isSome
    ·have hN : Zl k s.A=8:=by unfold Zl;rw [a1,a3'];rfl
     have hE : Qq k h s.A=8:=by unfold Qq;rw [a1,a2,a3'];rfl
     have q3 : bop .int .neq (iv 8) (.int .i64 0) X3=some (.bool true,X3):=by rw [Zt];rfl
     rw [hN,Za q3,Zb,if_pos rfl,hE]
     exact hfin 8
    ·have hN : Zl k s.A=0:=by unfold Zl;rw [a1,a3'];rfl
     have q3 : bop .int .neq (iv (Zl k s.A)) (.int .i64 0) X3=some (.bool false,X3):=by rw [Zt,hN];rfl
     have a4 : (ZU k s.A).2=true:=by
      unfold Qq at he
      rw [a1,a2,a3'] at he
      simpa using he
     have hds : u.ds=true:=by
      have : u.ds=(ZU k s.A).2:=congrArg (·.2.2.2.1) (hkey hN)
      rw [this,a4]
     have hE : Qq k h s.A=12:=by unfold Qq;rw [a1,a2,a3',a4];rfl
     rw [hds] at a3
     rw [Za q3,Zb,if_neg (by simp),Za Zg,Za a3,Zb,if_pos rfl,hE]
     exact hfin 12
end
end Go.Proofs.YtnnehafmjfmbnaaGreatDoor.A
namespace Go.Proofs.YtnnehafmjfmbnaaGreatDoor.A
set_option linter.unusedVariables false
set_option linter.unusedSimpArgs false
open Go.Proofs Go.Proofs.YtnnehafmjfmbnaaGreatDoor
section
variable {X X' Y H0 : Zc} {n : Nat} {uv gv v : Value} {us : List Zo} {s : NSt} {k h m o t g x : Tx} {u w : Zo} {β : Type} {l : List Tx}
theorem Zpu (hl : l.length≤1000000) (hs : Sl X v (l.map strv)) : ∀ (t j : Nat),l.length - j=t→j≤l.length→
  Zh (c4 (Wt.l1 (R n))) [strv x,v,iv l.length,iv j] X=some (if x∈l.drop j then .ret (.bool true) else .ext 0 [],X)
 | 0,j,ht,hj=>by
  rw [List.drop_eq_nil_of_le (by omega)]
  refine Z8 ?_
  rw [ZK,show j=l.length by omega]
  unfold Wt.l1
  rw [Za Zq,Zb,if_neg (by simp)]
  rfl
 | t+1,j,ht,hj=>by
  have hkl : j < l.length:=by omega
  have hlt : (j : Int) < l.length:=by omega
  have hg:=List.getElem?_eq_getElem hkl
  have hd:=List.drop_eq_getElem_cons hkl
  generalize l[j]=y at hg hd
  have x1:=hs.ix (i:=j) (by simpa using hkl) .i64 X
  have x2:=hs.ldx (Wi hg)
  have x3 : bop .str .eql (strv y) (strv x) X=some (.bool (y==x),X):=ZbW
  rw [hd]
  by_cases hyx : y=x
  ·rw [if_pos (by simp [hyx])]
   refine Yx ?_
   rw [ZK]
   unfold Wt.l1
   rw [Za Zq,Zb,if_pos (by simpa using hlt),Za x1,Za x2,Za x3,Zb,if_pos (by simpa using hyx)]
   rfl
  ·have : (x∈y :: l.drop (j+1))↔x∈l.drop (j+1):=by simp [Ne.symm hyx]
   simp only [this]
   refine (ZI ?_).trans (Zpu hl hs t (j+1) (by omega) (by omega))
   rw [ZK]
   unfold Wt.l1
   rw [Za Zq,Zb,if_pos (by simpa using hlt),Za x1,Za x2,Za x3,Zb,if_neg (by simpa using hyx),Za ZC,QG (by omega)]
   rfl
theorem ZmS (hl : l.length≤1000000) (hs : Sl X v (l.map strv)) : R (n+1) YI [v,strv x] X=some (.bool (decide (x∈l)),X):=by
 have e:=Zpu (n:=n) (x:=x) hl hs l.length 0 (by omega) (by omega)
 rw [show iv ((0 : Nat) : Int)=.int .i64 0 from rfl,List.drop_zero] at e
 have hlen : ZB v X=some (iv l.length,X):=by have:=hs.len (H':=X);simpa using this
 rw [R,Zpw rfl]
 unfold Wt
 rw [Za hlen]
 by_cases h : x∈l
 ·rw [if_pos h] at e
  rw [KI e,decide_eq_true h];rfl
 ·rw [if_neg h] at e
  rw [QX e,ZN,decide_eq_false h];rfl
theorem Zmj {lv : Value} (hl : l.length≤1000) (hA : Sl H0 lv (l.map strv)) : ∀ (t j : Nat) (sl : Value) (q : List Nat) (acc : List Tx) (X : Zc),l.length - j=t→j≤l.length→acc.length≤j→HLe H0 X→(∀ i∈q,H0.length≤i)→ZE X sl (acc.map strv) q→
  ∃ X' sl' q',Zh (c5 (Yh.l1 (R n))) [strv k,sl,lv,iv l.length,iv j] X=some (.ext 0 [sl'],X')∧ZE X' sl' ((acc++(l.drop j).filter (fun x=>decide (x≠k))).map strv) q'∧HLe H0 X'∧∀ i∈q',H0.length≤i
 | 0,j,sl,q,acc,X,ht,hj,ha,hle,hq,hr=>by
  rw [List.drop_eq_nil_of_le (by omega)]
  refine ⟨X,sl,q,Z8 ?_,by simpa using hr,hle,hq⟩
  rw [Qv,show j=l.length by omega]
  unfold Yh.l1
  rw [Za Zq,Zb,if_neg (by simp)]
  rfl
 | t+1,j,sl,q,acc,X,ht,hj,ha,hle,hq,hr=>by
  have hkl : j < l.length:=by omega
  have hlt : (j : Int) < l.length:=by omega
  have hg:=List.getElem?_eq_getElem hkl
  have hd:=List.drop_eq_getElem_cons hkl
  generalize l[j]=y at hg hd
  have hA':=hA.mono hle
  have x1:=hA'.ix (i:=j) (by simpa using hkl) .i64 X
  have x2:=hA'.ldx (Wi hg)
  rw [hd,List.filter_cons]
  by_cases hy : y=k
  ·rw [if_neg (by simpa using hy)]
   obtain ⟨X2,sl2,q2,e2,r2,s2,o2⟩:=Zmj hl hA t (j+1) sl q acc X (by omega) (by omega) (by omega) hle hq hr
   refine ⟨X2,sl2,q2,(ZI ?_).trans e2,r2,s2,o2⟩
   rw [Qv]
   unfold Yh.l1
   rw [Za Zq,Zb,if_pos (by simpa using hlt),Za x1,Za x2,Za K6]
   refine (ZV (vs:=[strv k,sl,lv,iv l.length,iv j]) (H':=X) ?_).trans ?_
   ·rw [Zb,if_neg (by simpa using hy)];rfl
   ·rw [Qv,Za ZC,QG (by omega)];rfl
  ·rw [if_pos (by simpa using hy)]
   obtain ⟨w,Y,sl1,X2,q1,a1,a2,r1,l2,o1,s1⟩:=ZfG (u:=y) hr (by omega) hq hle
   obtain ⟨X3,sl2,q2,e2,r2,s2,o2⟩:=Zmj hl hA t (j+1) sl1 q1 (acc++[y]) X2 (by omega) (by omega) (by simp;omega) l2 o1 r1
   refine ⟨X3,sl2,q2,(ZI ?_).trans e2,by simpa using r2,s2,o2⟩
   rw [Qv]
   unfold Yh.l1
   rw [Za Zq,Zb,if_pos (by simpa using hlt),Za x1,Za x2,Za K6]
   refine (ZV (vs:=[strv k,sl1,lv,iv l.length,iv j]) (H':=X2) ?_).trans ?_
   ·rw [Zb,if_pos (by simpa using hy),Za a1,Za a2];rfl
   ·rw [Qv,Za ZC,QG (by omega)];rfl
theorem Zj1 {lv : Value} (hl : l.length≤1000) (hA : Sl X lv (l.map strv)) : ∃ X' v q,R (n+1) WF [lv,strv k] X=some (v,X')∧ZE X' v ((l.filter fun x=>decide (x≠k)).map strv) q∧HLe X X'∧∀ i∈q,X.length≤i:=by
 obtain ⟨X',v,q,e,r,l1,o⟩:=Zmj (n:=n) (k:=k) hl hA l.length 0 (.slice none 0 0) [] [] X (by omega) (by omega) (Nat.le_refl _) (.refl _) (by simp) ZE.nil
 rw [List.drop_zero] at r
 have e : Zh (c5 (Yh.l1 (R n))) [strv k,.slice none 0 0,lv,iv l.length,.int .i64 0] X=_:=e
 have hlen : ZB lv X=some (iv l.length,X):=by have:=hA.len (H':=X);simpa using this
 refine ⟨X',v,q,?_,by simpa using r,l1,o⟩
 rw [R,Zkw rfl]
 unfold Yh
 rw [Za hlen,QX e,ZN]
 rfl
theorem Zn4 {b : Bool} (hR : RD X uv gv s) (hP : W6 s) : ∃ X' uv',R (n+6) WG [.agg #[uv,gv],strv k,.bool b] X=some (.tuple #[.agg #[uv',gv],iv (JI k b s.A)],X')∧RD X' uv' gv (JJ k b s)∧HLe X X':=by
 obtain ⟨us,hU,hO⟩:=hR.ex
 obtain ⟨iu,ig⟩:=hR.isSl
 obtain ⟨p3,p6,p8,u,X3,z,b3,b6,b8,k3,l3,l36,l68,ok,lo,hkey⟩:=Zhg (n:=n) (k:=k) hR hP
 have hlen:=hO.len hP.n
 have hfew:=hP.i.few
 have f1 : ∀ r X',WJ (R (n+5)) (.agg #[uv,gv]) (strv k) (.bool b) X=some (r,X')→R (n+6) WG [.agg #[uv,gv],strv k,.bool b] X=some (r,X'):=fun r X' hr=>by rw [R,ZkN rfl];exact hr
 have a3 : ld1 (pa p8 3) X3=some (.bool u.ds,X3):=Zu b8 rfl
 have hfin:=fun e : Int=>ZfV (e:=e) hR.oneU hR.oneG b3 b6 rfl
 have hfl : HLe X (X3.set p6 (.cells [uv,gv] 1 false false)):=k3.putB (by omega)
 by_cases hN : Zl k s.A=0
 ·have hku:=hkey hN
  have hnm : u.nm=k:=congrArg (·.1) hku
  have hds : u.ds=(ZU k s.A).2:=congrArg (·.2.2.2.1) hku
  have q1 : bop .int .neq (iv (Zl k s.A)) (.int .i64 0) X3=some (.bool false,X3):=by rw [Zt,hN];rfl
  rw [hds] at a3
  by_cases hb : (ZU k s.A).2=b
  ·have hE : JI k b s.A=12:=by unfold JI;rw [if_pos hN,if_pos hb]
   have hn : JJ k b s=s:=by unfold JJ;rw [if_neg (by rw [hE];decide)]
   have q2 : bop .bool .eql (.bool (ZU k s.A).2) (.bool b) X3=some (.bool true,X3):=by rw [Jn,hb];simp
   rw [hn,hE]
   refine ⟨X3.set p6 (.cells [uv,gv] 1 false false),uv,f1 _ _ ?_,hR.hle hfl,hfl⟩
   unfold WJ
   refine (z _).trans ?_
   rw [Za q1,Zb,if_neg (by simp),Za Zg,Za a3,Za q2,Zb,if_pos rfl]
   exact hfin 12
  ·have hE : JI k b s.A=0:=by unfold JI;rw [if_pos hN,if_neg hb]
   have q2 : bop .bool .eql (.bool (ZU k s.A).2) (.bool b) X3=some (.bool false,X3):=by rw [Jn];simp [hb]
   have w8 : st1 (pa p8 3) (.bool b) X3=some (undef,X3.set p8 (.cells (Zo.cells { u with ds:=b }) 1 false false)):=Zal (o:=3) b8 (by simp) rfl
   have k8 : HLe X (X3.set p8 (.cells (Zo.cells { u with ds:=b }) 1 false false)):=k3.putB (by omega)
   have ok8 : UOK (X3.set p8 (.cells (Zo.cells { u with ds:=b }) 1 false false)) { u with ds:=b }:=⟨ok.1.keep fun id hid=>List.getElem?_set_ne (by have:=lo id hid;omega),ok.2⟩
   have c3:=(List.getElem?_set_ne (a:=Zf.cells (Zo.cells { u with ds:=b }) 1 false false) (show p8≠p3 by omega)).trans b3
   have c6:=(List.getElem?_set_ne (a:=Zf.cells (Zo.cells { u with ds:=b }) 1 false false) (show p8≠p6 by omega)).trans b6
   have c8:=ZT (b:=Zf.cells (Zo.cells { u with ds:=b }) 1 false false) b8
   obtain ⟨uv',X4,e4,hU4,hl4⟩:=Zps (n:=n) (u:={ u with ds:=b }) (hU.mono k8) (by omega) ok8 ig W5 W5 c3 c6 c8
   have hkk : HLe X X4:=hl4 k8 (by omega)
   rw [hE]
   refine ⟨X4,uv',f1 _ _ ?_,hR.users hkk hU4 (hO.put (u:={ u with ds:=b }) ?_ (fun x hx=>?_)) ZqQ,hkk⟩
   ·unfold WJ
    refine (z _).trans ?_
    rw [Za q1,Zb,if_neg (by simp),Za Zg,Za a3,Za q2,Zb,if_neg (by simp),Za Zg,Za w8]
    exact e4
   ·rw [ZhW hE,if_pos (show u.nm=k from hnm)]
    have h2 : Z5 { u with ds:=b }=(k,(Z5 u).2.1,(Z5 u).2.2.1,b,(Z5 u).2.2.2.2):=by unfold Z5;rw [hnm]
    rw [h2,hku]
    rfl
   ·rw [ZhW hE,if_neg (by rw [← hnm];exact hx)]
 ·have hE : JI k b s.A=Zl k s.A:=by unfold JI;rw [if_neg hN]
  have hn : JJ k b s=s:=by unfold JJ;rw [if_neg (by rw [hE];exact hN)]
  have q1 : bop .int .neq (iv (Zl k s.A)) (.int .i64 0) X3=some (.bool true,X3):=by rw [Zt];simp [hN]
  rw [hn,hE]
  refine ⟨X3.set p6 (.cells [uv,gv] 1 false false),uv,f1 _ _ ?_,hR.hle hfl,hfl⟩
  unfold WJ
  refine (z _).trans ?_
  rw [Za q1,Zb,if_pos rfl]
  exact hfin _
def Zd6 (m k : Tx) (us : List Zo) : Bool:=us.any fun v=>decide (m≠[]) && (v.ml==m) && !(v.nm==k)
theorem Zog {p3 p6 p8 : Nat} (hn : us.length≤1000) (hU : Qg H0 uv us) (h1 : oneCell uv=true) (h2 : oneCell gv=true) (b3 : H0[p3]?=some (.cells [uv,gv] 1 false false)) (b6 : H0[p6]?=some (.cells [.slice none 0 0,.slice none 0 0] 1 false false)) : ∀ (t j : Nat) (X : Zc),us.length - j=t→j≤us.length→HLe H0 X→
  ∃ X',(if Zd6 m k (us.drop j) then Zh (c8 (Qk.l1 (R n))) [strv k,pt p3,pt p6,pt p8,strv m,uv,iv us.length,iv j] X=some (.ret (.tuple #[.agg #[uv,gv],iv 9]),X'.set p6 (.cells [uv,gv] 1 false false)) else Zh (c8 (Qk.l1 (R n))) [strv k,pt p3,pt p6,pt p8,strv m,uv,iv us.length,iv j] X=some (.ext 0 [pt p3,pt p6,pt p8,strv m],X'))∧HLe H0 X'
 | 0,j,X,ht,hj,hle=>by
  rw [List.drop_eq_nil_of_le (by omega)]
  refine ⟨X,?_,hle⟩
  rw [if_neg (by simp [Zd6])]
  refine Z8 ?_
  rw [Y7,show j=us.length by omega]
  unfold Qk.l1
  rw [Za Zq,Zb,if_neg (by simp)]
  rfl
 | t+1,j,X,ht,hj,hle=>by
  have hkl : j < us.length:=by omega
  have hlt : (j : Int) < us.length:=by omega
  have hg:=List.getElem?_eq_getElem hkl
  have hd:=List.drop_eq_getElem_cons hkl
  generalize us[j]=w at hg hd
  have hUX:=hU.mono hle
  have hok:=hUX.ok (List.mem_of_getElem? hg)
  have hf:=fun {K : Value→M Out}=>ZeQ (k:=K) hUX.1 hok.2.1 hg
  have g1 : (X++[Zf.cells w.cells 1 false false])[X.length]?=some (.cells w.cells 1 false false):=ZD
  have k1 : HLe X (X++[Zf.cells w.cells 1 false false]):=.app _ _
  generalize X++[Zf.cells w.cells 1 false false]=X1 at g1 k1 hf
  have a2 : ld1 (pa X.length 2) X1=some (strv w.ml,X1):=Zu g1 rfl
  have a0 : ld1 (pa X.length 0) X1=some (strv w.nm,X1):=Zu g1 rfl
  have q0 : bop .str .neq (strv m) (.string ⟨#[]⟩) X1=some (.bool (decide (m≠[])),X1):=by
   have:=K6 (a:=m) (b:=[]) (H:=X1)
   rw [show (strv [] : Value)=.string ⟨#[]⟩ from rfl] at this
   rw [this]
   by_cases h : m=[] <;> simp [h]
  have q1 : bop .str .eql (strv w.ml) (strv m) X1=some (.bool (w.ml==m),X1):=ZbW
  have q2 : bop .str .neq (strv w.nm) (strv k) X1=some (.bool (!(w.nm==k)),X1):=K6
  have hgate : ∀ K : Value→M Out,(bind (bop .str .neq (strv m) (Value.string ⟨#[]⟩)) fun v48x30=>
 bind (Zx v48x30 true 4 (bind (fa 2 (pt X.length)) fun v50x31=>
 bind (ld1 v50x31) fun v51x32=>
 bind (bop .str .eql v51x32 (strv m)) fun v53x33=>
 ret [v50x31,v51x32,strv m,v53x33])) (c4 fun _ _ _ q34_3=>
 bind (pick v48x30 q34_3 (Value.bool false)) fun v54x35=>
 bind (Zx v54x35 true 4 (bind (fa 0 (pt X.length)) fun v56x36=>
 bind (ld1 v56x36) fun v57x37=>
 bind (bop .str .neq v57x37 (strv k)) fun v59x38=>
 ret [v56x36,v57x37,strv k,v59x38])) (c4 fun _ _ _ q39_3=>
 bind (pick v54x35 q39_3 (Value.bool false)) K))) X1=K (.bool (decide (m≠[]) && (w.ml==m) && !(w.nm==k))) X1:=fun K=>by
   rw [Za q0]
   by_cases hm : m=[]
   ·rw [decide_eq_false (fun e=>e hm),Za (g_r.trans (if_neg (by simp)))]
    simp only [List.replicate]
    rw [ZK,Za Zj]
    simp only [cond_false]
    rw [Za (g_r.trans (if_neg (by simp)))]
    simp only [List.replicate]
    rw [ZK,Za Zj]
    rfl
   ·rw [decide_eq_true hm,ZQ,Zi,Za Zg,Zi,Za a2,Zi,Za q1,Z9,ZK,Za Zj]
    simp only [cond_true]
    cases hml : w.ml==m
    ·rw [Za (g_r.trans (if_neg (by simp)))]
     simp only [List.replicate]
     rw [ZK,Za Zj]
     rfl
    ·rw [ZQ,Zi,Za Zg,Zi,Za a0,Zi,Za q2,Z9,ZK,Za Zj]
     rfl
  have htk : Zd6 m k (w :: us.drop (j+1))=((decide (m≠[]) && (w.ml==m) && !(w.nm==k)) || Zd6 m k (us.drop (j+1))):=by
   unfold Zd6
   rw [List.any_cons]
  rw [hd,htk]
  cases hb : (decide (m≠[]) && (w.ml==m) && !(w.nm==k))
  ·rw [hb] at hgate
   rw [Bool.false_or]
   obtain ⟨X2,e2,k2⟩:=Zog hn hU h1 h2 b3 b6 t (j+1) X1 (by omega) (by omega) (hle.trans k1)
   have hstep : c8 (Qk.l1 (R n)) [strv k,pt p3,pt p6,pt p8,strv m,uv,iv us.length,iv j] X=some (.nrm [strv k,pt p3,pt p6,pt p8,strv m,uv,iv us.length,iv ((j+1 : Nat) : Int)],X1):=by
    rw [Y7]
    unfold Qk.l1
    rw [Za Zq,Zb,if_pos (by simpa using hlt),hf]
    refine (hgate _).trans ?_
    rw [Zb,if_neg (by simp),Za ZC,QG (by omega)]
    rfl
   refine ⟨X2,?_,k2⟩
   rw [ZI hstep]
   exact e2
  ·rw [hb] at hgate
   rw [Bool.true_or]
   refine ⟨X1,?_,hle.trans k1⟩
   rw [if_pos rfl]
   refine Yx ?_
   have hfin:=ZfV (e:=9) h1 h2 ((hle.trans k1) _ _ b3) ((hle.trans k1) _ _ b6) rfl
   have hfo : (bind (ldA 2 (pt p3)) fun v61=>bind (stA 2 (pt p6) v61) fun _=>bind (ldA 2 (pt p6)) fun vr=>ret (Out.ret (Value.tuple #[vr,(Value.int .i64 9)]))) X1=some (.ret (.tuple #[.agg #[uv,gv],iv 9]),X1.set p6 (.cells [uv,gv] 1 false false)):=by
    have d1 : ldA 2 (pt p3) X1=some (.agg #[uv,gv],X1):=ZY (n:=2) ((hle.trans k1) _ _ b3) rfl
    have w1:=WM (vs:=[uv,gv]) (n:=2) ((hle.trans k1) _ _ b6) rfl rfl (by simp only [List.all_cons,h1,h2];rfl)
    have w1 : stA 2 (pt p6) (.agg #[uv,gv]) X1=_:=w1
    have d2 : ldA 2 (pt p6) (X1.set p6 (.cells [uv,gv] 1 false false))=some (.agg #[uv,gv],_):=ZY (n:=2) (ZT ((hle.trans k1) _ _ b6)) rfl
    rw [Za d1,Za w1,Za d2]
    rfl
   rw [Y7]
   unfold Qk.l1
   rw [Za Zq,Zb,if_pos (by simpa using hlt),hf]
   refine (hgate _).trans ?_
   rw [Zb,if_pos rfl]
   exact hfo
theorem ZsY (hO : ROK s us) (hP : W6 s) (hk : Zr k=true) (hm : m=[]∨QF m=true) : Zd6 (if QF m then Qa m else []) k us=decide (KL k m s.OW≠0):=by
 have hml0 : QF []=false:=by decide
 unfold KL
 rw [hk,if_pos rfl]
 by_cases hm0 : m=[]
 ·rw [if_pos hm0,hm0,hml0]
  simp [Zd6]
 ·have hmb:=hm.resolve_left hm0
  rw [if_neg hm0,hmb,if_pos rfl,if_pos rfl]
  have hne:=(Zqn hmb).1
  rw [Bool.eq_iff_iff,decide_eq_true_eq]
  unfold Zd6
  rw [List.any_eq_true]
  constructor
  ·rintro ⟨w,hw,hc⟩
   simp only [Bool.and_eq_true,decide_eq_true_eq,beq_iff_eq,Bool.not_eq_true',beq_eq_false_iff_ne] at hc
   have hat:=hO.at hw
   unfold Zz at hat
   cases ha : Ze w.nm s.A with
   | none=>rw [ha] at hat;cases hat
   | some p=>
    rw [ha] at hat
    have hml : w.ml=(Ze w.nm s.OF).getD []:=congrArg (·.2.2.1) (Option.some.inj hat).symm
    cases ho : Ze w.nm s.OF with
    | none=>rw [ho] at hml;rw [hml] at hc;exact absurd hc.1.2.symm hne
    | some q=>
     rw [ho] at hml
     have hq : q=Qa m:=by rw [← hc.1.2,hml];rfl
     have how:=(hP.x.inv w.nm (Qa m)).1 (by rw [ho,hq])
     rw [how]
     simp only []
     rw [if_neg hc.2]
     decide
  ·intro hc
   cases how : Ze (Qa m) s.OW with
   | none=>rw [how] at hc;exact absurd rfl hc
   | some q=>
    rw [how] at hc
    simp only [] at hc
    have hqk : q≠k:=fun e=>by rw [if_pos e] at hc;exact hc rfl
    have hof:=(hP.x.inv q (Qa m)).2 how
    have hA:=hP.i.ofA q (by rw [hof];rfl)
    obtain ⟨w,hw,he⟩:=KR.1 ((hO.look (Qn s q (ZU q s.A))).2 (by
     show Zz s q=_
     unfold Zz;rw [ZbK hA];rfl))
    have h1 : w.nm=q:=congrArg (·.1) he
    have h2 : w.ml=Qa m:=by
     have : w.ml=(Ze q s.OF).getD []:=congrArg (·.2.2.1) he
     rw [this,hof];rfl
    refine ⟨w,hw,?_⟩
    simp [h1,h2,hne,hqk]
theorem Zo2 (hR : RD X uv gv s) (hP : W6 s) : ∃ X' uv',R (n+6) WE [.agg #[uv,gv],strv k,strv m] X=some (.tuple #[.agg #[uv',gv],iv (QC k m s)],X')∧RD X' uv' gv (Qr k m s)∧HLe X X':=by
 obtain ⟨us,hU,hO⟩:=hR.ex
 obtain ⟨iu,ig⟩:=hR.isSl
 obtain ⟨p3,p6,p8,u,X3,z,b3,b6,b8,k3,l3,l36,l68,ok,lo,hkey⟩:=Zhg (n:=n) (k:=k) hR hP
 have hlen:=hO.len hP.n
 have hfew:=hP.i.few
 have e2 : R (n+5) Wy [strv m] X3=some (.tuple #[strv (if QF m then Qa m else []),.bool (QF m)],X3):=Zsu (n:=n+1)
 have f1 : ∀ r X',Qk (R (n+5)) (.agg #[uv,gv]) (strv k) (strv m) X=some (r,X')→R (n+6) WE [.agg #[uv,gv],strv k,strv m] X=some (r,X'):=fun r X' hr=>by rw [R,Zkc rfl];exact hr
 have hfin:=fun e : Int=>ZfV (e:=e) hR.oneU hR.oneG b3 b6 rfl
 have hfl : HLe X (X3.set p6 (.cells [uv,gv] 1 false false)):=k3.putB (by omega)
 have hgate : ∀ K : Value→M Value,bind (bop .str .neq (strv m) (Value.string ⟨#[]⟩)) (fun v30=>bind (Zx v30 true 2 (bind (uop .not (.bool (QF m))) fun v33=>ret [.bool (QF m),v33])) (c2 fun _ q=>bind (pick v30 q (Value.bool false)) K)) X3=K (.bool (decide (m≠[]∧QF m=false))) X3:=fun K=>by
  have q0 : bop .str .neq (strv m) (.string ⟨#[]⟩) X3=some (.bool (decide (m≠[])),X3):=by
   have:=K6 (a:=m) (b:=[]) (H:=X3)
   rw [show (strv [] : Value)=.string ⟨#[]⟩ from rfl] at this
   rw [this]
   by_cases h : m=[] <;> simp [h]
  rw [Za q0]
  by_cases h : m=[]
  ·rw [decide_eq_false (fun e=>e h),Za (g_r.trans (if_neg (by simp)))]
   simp only [List.replicate]
   rw [Qm,Za Zj,decide_eq_false (fun e=>e.1 h)]
   rfl
  ·rw [decide_eq_true h,ZQ,Zi,Za Zy,Z9,Qm,Za Zj]
   cases hm : QF m <;> simp [h]
 cases a1 : Zr k
 ·have hN : Zl k s.A=10:=by unfold Zl;rw [a1];rfl
  have hE : QC k m s=10:=by unfold QC;rw [a1];rfl
  have hn : Qr k m s=s:=by unfold Qr;rw [if_neg (by rw [hE];decide)]
  have q1 : bop .int .eql (iv 10) (.int .i64 10) X3=some (.bool true,X3):=by rw [ZA];rfl
  rw [hn,hE]
  refine ⟨X3.set p6 (.cells [uv,gv] 1 false false),uv,f1 _ _ ?_,hR.hle hfl,hfl⟩
  unfold Qk
  refine (z _).trans ?_
  rw [Za e2,Za Zn,Za Zm,hN,Za q1,Zb,if_pos rfl]
  exact hfin 10
 ·have hN : Zl k s.A=0∨Zl k s.A=8:=by unfold Zl;rw [a1];cases (Ze k s.A).isSome <;> simp
  have q1 : bop .int .eql (iv (Zl k s.A)) (.int .i64 10) X3=some (.bool false,X3):=by rw [ZA];rcases hN with h1 | h1 <;> rw [h1] <;> rfl
  by_cases hb : m≠[]∧QF m=false
  ·have hE : QC k m s=11:=by unfold QC;rw [a1];simp [hb]
   have hn : Qr k m s=s:=by unfold Qr;rw [if_neg (by rw [hE];decide)]
   rw [hn,hE]
   refine ⟨X3.set p6 (.cells [uv,gv] 1 false false),uv,f1 _ _ ?_,hR.hle hfl,hfl⟩
   unfold Qk
   refine (z _).trans ?_
   rw [Za e2,Za Zn,Za Zm,Za q1,Zb,if_neg (by simp)]
   refine (hgate _).trans ?_
   rw [decide_eq_true hb,Zb,if_pos rfl]
   exact hfin 11
  ·have hmm : m=[]∨QF m=true:=by
    by_cases h0 : m=[]
    ·exact .inl h0
    ·refine .inr ?_
     cases h5 : QF m
     ·exact absurd ⟨h0,h5⟩ hb
     ·rfl
   cases a3 : (Ze k s.A).isSome
   ·have hN : Zl k s.A=8:=by unfold Zl;rw [a1,a3];rfl
    have hE : QC k m s=8:=by unfold QC;rw [a1,if_pos rfl,if_neg hb,a3];rfl
    have hn : Qr k m s=s:=by unfold Qr;rw [if_neg (by rw [hE];decide)]
    have q3 : bop .int .neq (iv 8) (.int .i64 0) X3=some (.bool true,X3):=by rw [Zt];rfl
    rw [hn,hE]
    refine ⟨X3.set p6 (.cells [uv,gv] 1 false false),uv,f1 _ _ ?_,hR.hle hfl,hfl⟩
    unfold Qk
    refine (z _).trans ?_
    rw [Za e2,Za Zn,Za Zm,Za q1,Zb,if_neg (by simp)]
    refine (hgate _).trans ?_
    rw [decide_eq_false hb,Zb,if_neg (by simp),hN,Za q3,Zb,if_pos rfl]
    exact hfin 8
   ·have hN : Zl k s.A=0:=by unfold Zl;rw [a1,a3];rfl
    have hE : QC k m s=KL k m s.OW:=by unfold QC;rw [a1,if_pos rfl,if_neg hb,a3];rfl
    have q3 : bop .int .neq (iv (Zl k s.A)) (.int .i64 0) X3=some (.bool false,X3):=by rw [Zt,hN];rfl
    have hku:=hkey hN
    have hnm : u.nm=k:=congrArg (·.1) hku
    have hU3:=hU.mono k3
    have hlu : ZB uv X3=some (iv us.length,X3):=by have:=hU3.1.len (H':=X3);rwa [List.length_map] at this
    have au : ld1 (pa p3 0) X3=some (uv,X3):=Zu b3 rfl
    obtain ⟨X4,e4,k4⟩:=Zog (n:=n+5) (m:=if QF m then Qa m else []) (k:=k) (p8:=p8) (by omega) hU3 hR.oneU hR.oneG b3 b6 us.length 0 X3 (by omega) (by omega) (.refl _)
    rw [List.drop_zero,ZsY hO hP a1 hmm] at e4
    by_cases h0 : KL k m s.OW=0
    ·rw [if_neg (by simp [h0])] at e4
     have e4 : Zh (c8 (Qk.l1 (R (n+5)))) [strv k,pt p3,pt p6,pt p8,strv (if QF m then Qa m else []),uv,iv us.length,.int .i64 0] X3=_:=e4
     have he : QC k m s=0:=by rw [hE,h0]
     generalize hm' : (if QF m then Qa m else [])=m' at e4 e2
     have b38:=k4 _ _ b3
     have b68:=k4 _ _ b6
     have b88:=k4 _ _ b8
     have w8 : st1 (pa p8 2) (strv m') X4=some (undef,X4.set p8 (.cells (Zo.cells { u with ml:=m' }) 1 false false)):=Zal (o:=2) b88 (by simp) rfl
     have k8 : HLe X (X4.set p8 (.cells (Zo.cells { u with ml:=m' }) 1 false false)):=(k3.trans k4).putB (by omega)
     have ok8 : UOK (X4.set p8 (.cells (Zo.cells { u with ml:=m' }) 1 false false)) { u with ml:=m' }:=⟨(ok.hle k4).1.keep fun id hid=>List.getElem?_set_ne (by have:=lo id hid;omega),ok.2⟩
     have c3:=(List.getElem?_set_ne (a:=Zf.cells (Zo.cells { u with ml:=m' }) 1 false false) (show p8≠p3 by omega)).trans b38
     have c6:=(List.getElem?_set_ne (a:=Zf.cells (Zo.cells { u with ml:=m' }) 1 false false) (show p8≠p6 by omega)).trans b68
     have c8':=ZT (b:=Zf.cells (Zo.cells { u with ml:=m' }) 1 false false) b88
     obtain ⟨uv',X5,e5,hU5,hl5⟩:=Zps (n:=n) (u:={ u with ml:=m' }) (hU.mono k8) (by omega) ok8 ig W5 W5 c3 c6 c8'
     have hkk : HLe X X5:=hl5 k8 (by omega)
     rw [he]
     refine ⟨X5,uv',f1 _ _ ?_,hR.users hkk hU5 (hO.put (u:={ u with ml:=m' }) ?_ (fun x hx=>?_)) Zrb,hkk⟩
     ·unfold Qk
      refine (z _).trans ?_
      rw [Za e2,Za Zn,Za Zm,Za q1,Zb,if_neg (by simp)]
      refine (hgate _).trans ?_
      rw [decide_eq_false hb,Zb,if_neg (by simp),Za q3,Zb,if_neg (by simp),Za Zg,Za au,Za hlu,QX e4,ZN,ZK,Za Zg,Za w8]
      exact e5
     ·rw [ZgF he,if_pos (show u.nm=k from hnm)]
      have h2 : Z5 { u with ml:=m' }=(k,(Z5 u).2.1,m',(Z5 u).2.2.2):=by unfold Z5;rw [hnm]
      rw [h2,hku,hm']
      rfl
     ·rw [ZgF he,if_neg (by rw [← hnm];exact hx)]
    ·rw [if_pos (by simp [h0])] at e4
     have e4 : Zh (c8 (Qk.l1 (R (n+5)))) [strv k,pt p3,pt p6,pt p8,strv (if QF m then Qa m else []),uv,iv us.length,.int .i64 0] X3=_:=e4
     have hn : Qr k m s=s:=by unfold Qr;rw [if_neg (by rw [hE];exact h0)]
     have h9 : KL k m s.OW=9:=by
      unfold KL at h0 ⊢
      rw [a1,if_pos rfl] at h0 ⊢
      by_cases hm0 : m=[]
      ·rw [if_pos hm0] at h0;exact absurd rfl h0
      ·rw [if_neg hm0,hmm.resolve_left hm0,if_pos rfl] at h0 ⊢
       cases how : Ze (Qa m) s.OW with
       | none=>rw [how] at h0;exact absurd rfl h0
       | some q=>
        rw [how] at h0
        simp only [] at h0 ⊢
        by_cases hq : q=k
        ·rw [if_pos hq] at h0;exact absurd rfl h0
        ·rw [if_neg hq]
     have hfl4 : HLe X (X4.set p6 (.cells [uv,gv] 1 false false)):=(k3.trans k4).putB (by omega)
     rw [hn,hE,h9]
     refine ⟨X4.set p6 (.cells [uv,gv] 1 false false),uv,f1 _ _ ?_,hR.hle hfl4,hfl4⟩
     unfold Qk
     refine (z _).trans ?_
     rw [Za e2,Za Zn,Za Zm,Za q1,Zb,if_neg (by simp)]
     refine (hgate _).trans ?_
     rw [decide_eq_false hb,Zb,if_neg (by simp),Za q3,Zb,if_neg (by simp),Za Zg,Za au,Za hlu,KI e4]
     rfl
end
end Go.Proofs.YtnnehafmjfmbnaaGreatDoor.A
namespace Go.Proofs.YtnnehafmjfmbnaaGreatDoor.A
set_option linter.unusedVariables false
set_option linter.unusedSimpArgs false
open Go.Proofs Go.Proofs.YtnnehafmjfmbnaaGreatDoor
section
variable {X X' Y H0 : Zc} {n : Nat} {uv gv v : Value} {us : List Zo} {s s' : NSt} {k h m o t g x : Tx} {u w : Zo} {β : Type} {l : List Tx}
theorem ROK.dropPut (hO : ROK s us) (h1 : Zz s' u.nm=some (Z5 u)) (h2 : Zz s' o=none) (h3 : ∀ n,n≠o→n≠u.nm→Zz s' n=Zz s n) : ROK s' (ZbF u (us.filter fun v=>decide (v.nm≠o))):=by
 refine ⟨Zid (List.Pairwise.filter _ hO.rise),fun key=>?_⟩
 rw [KR]
 constructor
 ·rintro ⟨v,hv,rfl⟩
  rcases Za6.1 hv with rfl | ⟨hv,hne⟩
  ·exact h1
  ·obtain ⟨hv,hno⟩:=List.mem_filter.1 hv
   have hno : v.nm≠o:=by simpa using hno
   show Zz s' v.nm=_
   rw [h3 _ hno hne]
   exact hO.at hv
 ·intro hk
  by_cases e : key.1=u.nm
  ·rw [e,h1] at hk
   exact ⟨u,Za6.2 (.inl rfl),Option.some.inj hk⟩
  ·have eo : key.1≠o:=fun e=>by rw [e,h2] at hk;cases hk
   rw [h3 _ eo e] at hk
   obtain ⟨v,hv,rfl⟩:=KR.1 ((hO.look key).2 hk)
   exact ⟨v,Za6.2 (.inr ⟨List.mem_filter.2 ⟨hv,decide_eq_true eo⟩,e⟩),rfl⟩
theorem ZpP (hR : RD X uv gv s) (hP : W6 s) : ∃ X' uv',R (n+6) W9 [.agg #[uv,gv],strv o,strv t] X=some (.tuple #[.agg #[uv',gv],iv (Ji o t s.A)],X')∧RD X' uv' gv (Ys o t s)∧HLe X X':=by
 obtain ⟨us,hU,hO⟩:=hR.ex
 obtain ⟨iu,ig⟩:=hR.isSl
 obtain ⟨p3,p6,p8,u,X3,z,b3,b6,b8,k3,l3,l36,l68,ok,lo,hkey⟩:=Zhg (n:=n) (k:=o) hR hP
 have hlen:=hO.len hP.n
 have hfew:=hP.i.few
 have f1 : ∀ r X',Zbe (R (n+5)) (.agg #[uv,gv]) (strv o) (strv t) X=some (r,X')→R (n+6) W9 [.agg #[uv,gv],strv o,strv t] X=some (r,X'):=fun r X' hr=>by rw [R,Zlq rfl];exact hr
 have d3 : ldA 2 (pt p3) X3=some (.agg #[uv,gv],X3):=ZY (n:=2) b3 rfl
 obtain ⟨u2,X4,e4,k4,ok2,_⟩:=ZoX (n:=n+1) (k:=t) (hU.mono k3) hO hP hR.oneG
 have e4 : R (n+5) JT [.agg #[uv,gv],strv t] X3=_:=e4
 have z5 : ∀ {β : Type} (K : Value→M β),bind (alc 1 zU) (fun q=>bind (stA 5 q (.agg u2.cells.toArray)) fun _=>K q) X4=K (pt X4.length) (X4++[.cells u2.cells 1 false false]):=fun K=>K3 (n:=5) (zs:=[.string ⟨#[]⟩,.string ⟨#[]⟩,.string ⟨#[]⟩,.bool false,.slice none 0 0]) (r:=u2.cells) rfl rfl rfl (Kg ok2.2.1)
 have k5 : HLe X4 (X4++[Zf.cells u2.cells 1 false false]):=.app _ _
 have hz : ∀ {β : Type} (K : Value→Value→M β),bind (ldA 2 (pt p3)) (fun v19=>bind (R (n+5) JT [v19,strv t]) fun v21=>bind (Zk v21 0) fun v22=>bind (Zk v21 1) fun v23=>bind (alc 1 zU) fun v10=>bind (stA 5 v10 v22) fun _=>K v10 v23) X3=K (pt X4.length) (iv (Zl t s.A)) (X4++[.cells u2.cells 1 false false]):=fun {β} K=>by
  rw [Za d3,Za e4,Za Zn,Za Zm]
  exact z5 (fun q=>K q (iv (Zl t s.A)))
 generalize X4.length=p10 at hz
 generalize X4++[Zf.cells u2.cells 1 false false]=X5 at k5 hz
 have k45:=k4.trans k5
 have c3:=k45 _ _ b3
 have c6:=k45 _ _ b6
 have c8:=k45 _ _ b8
 have kX:=k3.trans k45
 have hfin:=fun e : Int=>ZfV (e:=e) hR.oneU hR.oneG c3 c6 rfl
 have hfl : HLe X (X5.set p6 (.cells [uv,gv] 1 false false)):=kX.putB (by omega)
 have e10 : ∀ (k : Tx),(Zl k s.A==10)=!Zr k:=fun k=>by
  unfold Zl
  cases Zr k
  ·rfl
  ·cases (Ze k s.A).isSome <;> rfl
 have q1 : bop .int .eql (iv (Zl o s.A)) (.int .i64 10) X5=some (.bool (!Zr o),X5):=by rw [ZA,e10]
 have q2 : bop .int .eql (iv (Zl t s.A)) (.int .i64 10) X5=some (.bool (!Zr t),X5):=by rw [ZA,e10]
 have hgate : ∀ K : Value→M Value,bind (bop .int .eql (iv (Zl o s.A)) (.int .i64 10)) (fun v25=>bind (Zx v25 false 2 (bind (bop .int .eql (iv (Zl t s.A)) (Value.int .i64 10)) fun v28=>ret [iv (Zl t s.A),v28])) (c2 fun _ q=>bind (pick v25 (Value.bool true) q) K)) X5=K (.bool (!(Zr o && Zr t))) X5:=fun K=>by
  rw [Za q1]
  cases Zr o
  ·simp only [Bool.not_false]
   rw [Za (g_r.trans (if_neg (by simp)))]
   simp only [List.replicate]
   rw [Qm,Za Zj]
   rfl
  ·simp only [Bool.not_true]
   rw [ZQ,Zi,Za q2,Z9,Qm,Za Zj]
   cases Zr t <;> rfl
 by_cases he : Ji o t s.A=0
 ·obtain ⟨a1,a2,a3,a4,a5⟩:=ZdX he
  have hN1 : Zl o s.A=0:=by unfold Zl;rw [a1,a3];rfl
  have hN2 : Zl t s.A=8:=by unfold Zl;rw [a2,a4];rfl
  have hku:=hkey hN1
  have q3 : bop .int .neq (iv (Zl o s.A)) (.int .i64 0) X5=some (.bool false,X5):=by rw [Zt,hN1];rfl
  have q4 : bop .int .eql (iv (Zl t s.A)) (.int .i64 0) X5=some (.bool false,X5):=by rw [ZA,hN2];rfl
  have w8 : st1 (pa p8 0) (strv t) X5=some (undef,X5.set p8 (.cells (Zo.cells { u with nm:=t }) 1 false false)):=Zal (o:=0) c8 (by simp) rfl
  have k8 : HLe X (X5.set p8 (.cells (Zo.cells { u with nm:=t }) 1 false false)):=kX.putB (by omega)
  have ok8 : UOK (X5.set p8 (.cells (Zo.cells { u with nm:=t }) 1 false false)) { u with nm:=t }:=⟨(ok.hle k45).1.keep fun id hid=>List.getElem?_set_ne (by have:=lo id hid;omega),ok.2⟩
  have d3':=(List.getElem?_set_ne (a:=Zf.cells (Zo.cells { u with nm:=t }) 1 false false) (show p8≠p3 by omega)).trans c3
  have d6':=(List.getElem?_set_ne (a:=Zf.cells (Zo.cells { u with nm:=t }) 1 false false) (show p8≠p6 by omega)).trans c6
  have d8':=ZT (b:=Zf.cells (Zo.cells { u with nm:=t }) 1 false false) c8
  generalize X5.set p8 (.cells (Zo.cells { u with nm:=t }) 1 false false)=X6 at w8 k8 ok8 d3' d6' d8'
  have hU6:=hU.mono k8
  have au : ld1 (pa p3 0) X6=some (uv,X6):=Zu d3' rfl
  have du : ldA 5 (pt p8) X6=some (.agg (Zo.cells { u with nm:=t }).toArray,X6):=ZY (n:=5) d8' rfl
  obtain ⟨X7,v7,e7,r7,k7⟩:=Zqq (n:=n+4) (k:=o) (by omega) hU6.1 (fun u hu=>(hU.2 u hu).2.1)
  have e7 : R (n+5) Zat [uv,strv o] X6=_:=e7
  have du7 : ldA 5 (pt p8) X7=some (.agg (Zo.cells { u with nm:=t }).toArray,X7):=ZY (n:=5) (k7 _ _ d8') rfl
  have hU7 : Qg X7 v7 (us.filter fun v=>decide (v.nm≠o)):=⟨r7,fun u hu=>(hU6.mono k7).2 u (List.mem_filter.1 hu).1⟩
  have hfl' : (us.filter fun v=>decide (v.nm≠o)).length≤us.length:=List.length_filter_le _ _
  obtain ⟨X8,v8,q8,e8,r8,k8',_⟩:=Zok (n:=n+4) (u:={ u with nm:=t }) ok8.2.1 (by omega) hU7.1 (fun u hu=>(hU7.2 u hu).2.1)
  have e8 : R (n+5) Wr [v7,.agg (Zo.cells { u with nm:=t }).toArray] X7=_:=e8
  have hU8:=hU7.put r8.rd (ok8.hle k7) k8'
  have k78:=k7.trans k8'
  obtain ⟨X9,e9,hU9,hl9,_⟩:=ZqN (e:=0) hU8 ig iu W5 W5 (show p3≠p6 by omega) (k78 _ _ d3') (k78 _ _ d6')
  have hkk : HLe X X9:=hl9 (k8.trans k78) l3 (by omega)
  rw [he]
  refine ⟨X9,v8,f1 _ _ ?_,hR.users hkk hU9 (hO.dropPut (u:={ u with nm:=t }) ?_ ?_ (fun x hx hx2=>?_)) ZrT,hkk⟩
  ·unfold Zbe
   refine (z _).trans ((hz _).trans ((hgate _).trans ?_))
   rw [a1,a2]
   simp only [Bool.and_self,Bool.not_true]
   rw [Zb,if_neg (by simp),Za q3,Zb,if_neg (by simp),Za q4,Zb,if_neg (by simp),Za Zg,Za w8,Za Zg,Za au,Za du,Za e7,Za du7,KD,Za e8]
   exact e9
  ·rw [Zg3 hP.i he,if_pos (show ({ u with nm:=t } : Zo).nm=t from rfl)]
   have h2 : Z5 { u with nm:=t }=(t,(Z5 u).2):=rfl
   rw [h2,hku]
   rfl
  ·rw [Zg3 hP.i he,if_neg a5,if_pos rfl]
  ·rw [Zg3 hP.i he,if_neg (show ¬ x=t from hx2),if_neg hx]
 ·have hn : Ys o t s=s:=by unfold Ys;rw [if_neg he]
  rw [hn]
  refine ⟨X5.set p6 (.cells [uv,gv] 1 false false),uv,f1 _ _ ?_,hR.hle hfl,hfl⟩
  unfold Zbe
  refine (z _).trans ((hz _).trans ((hgate _).trans ?_))
  cases ab : Zr o && Zr t
  ·have hE : Ji o t s.A=10:=by unfold Ji;rw [ab];rfl
   rw [Zb,if_pos (by rfl),hE]
   exact hfin 10
  ·have ab':=ab
   simp only [Bool.and_eq_true] at ab'
   rw [Zb,if_neg (by simp)]
   cases a3 : (Ze o s.A).isSome
   ·have hN1 : Zl o s.A=8:=by unfold Zl;rw [ab'.1,a3];rfl
    have hE : Ji o t s.A=8:=by unfold Ji;rw [ab,a3];rfl
    have q3 : bop .int .neq (iv 8) (.int .i64 0) X5=some (.bool true,X5):=by rw [Zt];rfl
    rw [hN1,Za q3,Zb,if_pos rfl,hE]
    exact hfin 8
   ·have hN1 : Zl o s.A=0:=by unfold Zl;rw [ab'.1,a3];rfl
    have q3 : bop .int .neq (iv (Zl o s.A)) (.int .i64 0) X5=some (.bool false,X5):=by rw [Zt,hN1];rfl
    have a4 : (Ze t s.A).isSome=true:=by
     unfold Ji at he
     rw [ab,a3] at he
     cases h4 : (Ze t s.A).isSome
     ·rw [h4] at he;simp at he
     ·rfl
    have hN2 : Zl t s.A=0:=by unfold Zl;rw [ab'.2,a4];rfl
    have hE : Ji o t s.A=9:=by unfold Ji;rw [ab,a3,a4];rfl
    have q4 : bop .int .eql (iv (Zl t s.A)) (.int .i64 0) X5=some (.bool true,X5):=by rw [ZA,hN2];rfl
    rw [Za q3,Zb,if_neg (by simp),Za q4,Zb,if_pos rfl,hE]
    exact hfin 9
theorem Zra {N : List Tx} (hN : Is N (·∈s.K)) (hP : W6 s) : N.length≤6:=by
 rw [ZtV hN hP.k.nod];exact hP.k.few
def noM : Mem:=fun _ _=>false
theorem Zvk {N : List Tx} (hN : Is N (·∈s.K)) : Zg7 N [] s.K noM:=⟨hN,fun k x=>by simp [noM]⟩
theorem Zu4 {N : List Tx} {q : List Nat} (h : ZE X gv (N.map strv) q) : RG X gv (.slice none 0 0) N []:=⟨⟨q,h⟩,⟨[],Q7.nil⟩⟩
theorem Zth (ig : KG gv) : bld zD [(0,1,gv)] Y=some (.agg #[gv,.slice none 0 0],Y):=by
 obtain ⟨a,n,c,rfl⟩:=ig
 simp [bld,Wq,Value.cells,Y6,splice]
theorem ZrV (hR : RD X uv gv s) (hP : W6 s) : ∃ X' gv',R (n+6) WQ [.agg #[uv,gv],strv g] X=some (.tuple #[.agg #[uv,gv'],iv (QR g s.K)],X')∧RD X' uv gv' (Zhh g s)∧HLe X X':=by
 obtain ⟨us,hU,hO⟩:=hR.ex
 obtain ⟨q,N,hN,hI⟩:=hR.n
 obtain ⟨iu,ig⟩:=hR.isSl
 obtain ⟨p3,p6,X2,z,b3,b6,k2,l3,l36,l6⟩:=Zgo (X:=X) hR.oneU hR.oneG
 have a3 : ld1 (pa p3 1) X2=some (gv,X2):=Zu b3 rfl
 have hfew:=Zra hI hP
 obtain ⟨X3,nv,N',e3,g3,o3,k3⟩:=Zt5 (n:=n) (k:=g) (Zu4 (hN.hle k2)) (Zvk hI) hP.k.nod (by omega)
 obtain ⟨qn,hn3⟩:=g3.n
 have inv' : KG nv:=hn3.isSlc
 have z4 : ∀ {β : Type} (K : Value→M β),bind (alc 1 zD) (fun q=>bind (stA 2 q (.agg #[nv,.slice none 0 0])) fun _=>K q) X3=K (pt X3.length) (X3++[.cells [nv,.slice none 0 0] 1 false false]):=fun K=>K3 (n:=2) (zs:=[.slice none 0 0,.slice none 0 0]) (r:=[nv,.slice none 0 0]) rfl rfl rfl (by simp only [List.all_cons,inv'.one];rfl)
 have k4 : HLe X3 (X3++[Zf.cells [nv,.slice none 0 0] 1 false false]):=.app _ _
 have b4 : (X3++[Zf.cells [nv,.slice none 0 0] 1 false false])[X3.length]?=some (.cells [nv,.slice none 0 0] 1 false false):=ZD
 have hx3:=k3.len
 have hp3:=Jg b3
 generalize X3++[Zf.cells [nv,.slice none 0 0] 1 false false]=X4 at z4 k4 b4
 have k34:=k3.trans k4
 have c3:=k34 _ _ b3
 have c6:=k34 _ _ b6
 have an : ld1 (pa X3.length 0) X4=some (nv,X4):=Zu b4 rfl
 have w3 : st1 (pa p3 1) nv X4=some (undef,X4.set p3 (.cells [uv,nv] 1 false false)):=Zal (o:=1) c3 (by simp) inv'.one
 have c3':=ZT (b:=Zf.cells [uv,nv] 1 false false) c3
 have c6':=(List.getElem?_set_ne (a:=Zf.cells [uv,nv] 1 false false) (show p3≠p6 by omega)).trans c6
 have hf:=ZfV (e:=QR g s.K) hR.oneU inv'.one c3' c6' rfl
 have hkk : HLe X ((X4.set p3 (.cells [uv,nv] 1 false false)).set p6 (.cells [uv,nv] 1 false false)):=(((k2.trans k34).putB l3).putB (by omega))
 refine ⟨(X4.set p3 (.cells [uv,nv] 1 false false)).set p6 (.cells [uv,nv] 1 false false),nv,?_,⟨⟨us,hU.mono hkk,hO.same (Zvl hP.k)⟩,⟨qn,N',((hn3.hle k4).setD c3 iu ig).setD c6' W5 W5,o3.n⟩⟩,hkk⟩
 rw [R,ZiM rfl]
 unfold Zcw
 rw [z,Za Zg,Za a3,Za (Zth ig),Za e3,Za Zn,Za Zm,z4,Za Zg,Za an,Za Zg,Za w3]
 exact hf
abbrev Zo.grp (u : Zo) (gv : Value) (gs : List Tx) : Zo:=⟨u.nm,u.hs,u.ml,u.ds,gv,gs⟩
theorem Zm9 {z1 z2 : Value} (hn : us.length≤100) (hU : Qg H0 uv us) (hgs : ∀ u∈us,u.gs.length≤6) : ∀ (t j : Nat) (sl : Value) (q : List Nat) (acc : List Zo) (X : Zc),us.length - j=t→j≤us.length→acc.length≤j→HLe H0 X→ZdC H0 X sl acc q→
  ∃ X' sl' q' acc',Zh (c7 (Jq.l1 (R (n+1)))) [strv g,z1,z2,sl,uv,iv us.length,iv j] X=some (.ext 0 [z1,z2,sl'],X')∧ZdC H0 X' sl' (acc++acc') q'∧acc'.map Z5=(us.drop j).map (fun u=>(u.nm,u.hs,u.ml,u.ds,u.gs.filter fun x=>decide (x≠g)))∧HLe H0 X'
 | 0,j,sl,q,acc,X,ht,hj,ha,hle,ho=>by
  rw [List.drop_eq_nil_of_le (by omega)]
  refine ⟨X,sl,q,[],Z8 ?_,by rw [List.append_nil];exact ho,rfl,hle⟩
  rw [Jk,show j=us.length by omega]
  unfold Jq.l1
  rw [Za Zq,Zb,if_neg (by simp)]
  rfl
 | t+1,j,sl,q,acc,X,ht,hj,ha,hle,ho=>by
  have hkl : j < us.length:=by omega
  have hlt : (j : Int) < us.length:=by omega
  have hg:=List.getElem?_eq_getElem hkl
  have hd:=List.drop_eq_getElem_cons hkl
  generalize us[j]=w at hg hd
  have hUX:=hU.mono hle
  have hm:=List.mem_of_getElem? hg
  have hok:=hUX.ok hm
  have h6:=hgs w hm
  have hf:=fun {K : Value→M Out}=>ZeQ (k:=K) hUX.1 hok.2.1 hg
  have g1 : (X++[Zf.cells w.cells 1 false false])[X.length]?=some (.cells w.cells 1 false false):=ZD
  have k1 : HLe X (X++[Zf.cells w.cells 1 false false]):=.app _ _
  have hq1 : ∀ i∈q,i < X.length:=ho.r.lt
  generalize X++[Zf.cells w.cells 1 false false]=X1 at g1 k1 hf
  have a4 : ld1 (pa X.length 4) X1=some (w.gv,X1):=Zu g1 rfl
  obtain ⟨X2,v2,q2,e2,r2,k2,o2⟩:=Zj1 (n:=n) (k:=g) (by omega) (UOK.hle hok k1).1
  have g2:=k2 _ _ g1
  have w2 : st1 (pa X.length 4) v2 X2=some (undef,X2.set X.length (.cells (Zo.cells (w.grp v2 (w.gs.filter fun x=>decide (x≠g)))) 1 false false)):=Zal (o:=4) g2 (by simp) r2.one.1
  have g3:=ZT (b:=Zf.cells (Zo.cells (w.grp v2 (w.gs.filter fun x=>decide (x≠g)))) 1 false false) g2
  have hl1:=Jg g1
  have k3 : HLe X (X2.set X.length (.cells (Zo.cells (w.grp v2 (w.gs.filter fun x=>decide (x≠g)))) 1 false false)):=(k1.trans k2).putB (Nat.le_refl _)
  have r3 : ZE (X2.set X.length (.cells (Zo.cells (w.grp v2 (w.gs.filter fun x=>decide (x≠g)))) 1 false false)) v2 ((w.gs.filter fun x=>decide (x≠g)).map strv) q2:=r2.keep fun i hi=>List.getElem?_set_ne (by have:=o2 i hi;omega)
  generalize X2.set X.length (.cells (Zo.cells (w.grp v2 (w.gs.filter fun x=>decide (x≠g)))) 1 false false)=X3 at w2 g3 k3 r3
  have d3 : ldA 5 (pt X.length) X3=some (.agg (Zo.cells (w.grp v2 (w.gs.filter fun x=>decide (x≠g)))).toArray,X3):=ZY (n:=5) g3 rfl
  have hf6 : (w.gs.filter fun x=>decide (x≠g)).length≤6:=Nat.le_trans (List.length_filter_le _ _) h6
  obtain ⟨y,X4,sl',X5,q',b1,b2,ho5,l5⟩:=(ho.hle k3).push (w:=w.grp v2 (w.gs.filter fun x=>decide (x≠g))) (by omega) r3 (fun i hi=>⟨by have:=o2 i hi;have:=hle.len;omega,fun hm=>by have:=hq1 i hm;have:=o2 i hi;omega⟩) hf6 (hle.trans k3)
  obtain ⟨X6,sl6,q6,acc6,e6,o6,u6,l6⟩:=Zm9 hn hU hgs t (j+1) sl' q' (acc++[w.grp v2 (w.gs.filter fun x=>decide (x≠g))]) X5 (by omega) (by omega) (by rw [List.length_append,List.length_singleton];omega) l5 ho5
  refine ⟨X6,sl6,q6,w.grp v2 (w.gs.filter fun x=>decide (x≠g)) :: acc6,(ZI ?_).trans e6,by rw [List.append_assoc] at o6;exact o6,?_,l6⟩
  ·rw [Jk]
   unfold Jq.l1
   rw [Za Zq,Zb,if_pos (by simpa using hlt),hf,Za Zg,Za a4,Za e2,Za Zg,Za w2,Za d3,Za b1,Za b2,Za ZC,QG (by omega)]
   rfl
  ·rw [hd,List.map_cons,List.map_cons,u6]
   rfl
theorem ROK.gs (hO : ROK s us) (hP : W6 s) (hu : u∈us) : u.gs=ofL u.nm s.K s.mem∧u.gs.length≤6:=by
 have hat:=hO.at hu
 unfold Zz at hat
 cases ha : Ze u.nm s.A with
 | none=>rw [ha] at hat;cases hat
 | some p=>
  rw [ha] at hat
  have h1 : u.gs=ofL u.nm s.K s.mem:=congrArg (·.2.2.2.2) (Option.some.inj hat).symm
  refine ⟨h1,?_⟩
  rw [h1]
  exact Nat.le_trans ZeR hP.k.few
theorem Zsb (hR : RD X uv gv s) (hP : W6 s) : ∃ X' uv' gv',R (n+6) KQ [.agg #[uv,gv],strv g] X=some (.tuple #[.agg #[uv',gv'],iv (QL g s.K)],X')∧RD X' uv' gv' (ZdL g s)∧HLe X X':=by
 obtain ⟨us,hU,hO⟩:=hR.ex
 obtain ⟨q,N,hN,hI⟩:=hR.n
 obtain ⟨iu,ig⟩:=hR.isSl
 obtain ⟨p3,p6,X2,z,b3,b6,k2,l3,l36,l6⟩:=Zgo (X:=X) hR.oneU hR.oneG
 have a3 : ld1 (pa p3 1) X2=some (gv,X2):=Zu b3 rfl
 have hfew:=Zra hI hP
 have hlen:=hO.len hP.n
 have hufew:=hP.i.few
 obtain ⟨X3,nv,mv,N',M',e3,g3,o3,_,k3⟩:=ZuT (n:=n) (k:=g) (Zu4 (hN.hle k2)) (Zvk hI) (by omega) (Nat.zero_le _)
 obtain ⟨qn,hn3⟩:=g3.n
 have inv' : KG nv:=hn3.isSlc
 have z4 : ∀ {β : Type} (K : Value→M β),bind (alc 1 zD) (fun q=>bind (stA 2 q (.agg #[nv,mv])) fun _=>K q) X3=K (pt X3.length) (X3++[.cells [nv,mv] 1 false false]):=fun K=>K3 (n:=2) (zs:=[.slice none 0 0,.slice none 0 0]) (r:=[nv,mv]) rfl rfl rfl g3.one.1
 have k4 : HLe X3 (X3++[Zf.cells [nv,mv] 1 false false]):=.app _ _
 have b4 : (X3++[Zf.cells [nv,mv] 1 false false])[X3.length]?=some (.cells [nv,mv] 1 false false):=ZD
 have hx3:=k3.len
 have hp3:=Jg b3
 generalize X3++[Zf.cells [nv,mv] 1 false false]=X4 at z4 k4 b4
 have k34:=k3.trans k4
 have c3:=k34 _ _ b3
 have c6:=k34 _ _ b6
 have kX:=k2.trans k34
 have f1 : ∀ r X',Jq (R (n+5)) (.agg #[uv,gv]) (strv g) X=some (r,X')→R (n+6) KQ [.agg #[uv,gv],strv g] X=some (r,X'):=fun r X' hr=>by rw [R,Zic rfl];exact hr
 by_cases he : QL g s.K=0
 ·have q1 : bop .int .neq (iv (QL g s.K)) (.int .i64 0) X4=some (.bool false,X4):=by rw [Zt,he];rfl
  have an : ld1 (pa X3.length 0) X4=some (nv,X4):=Zu b4 rfl
  have w3 : st1 (pa p3 1) nv X4=some (undef,X4.set p3 (.cells [uv,nv] 1 false false)):=Zal (o:=1) c3 (by simp) inv'.one
  have c3':=ZT (b:=Zf.cells [uv,nv] 1 false false) c3
  have c6':=(List.getElem?_set_ne (a:=Zf.cells [uv,nv] 1 false false) (show p3≠p6 by omega)).trans c6
  have k5 : HLe X (X4.set p3 (.cells [uv,nv] 1 false false)):=kX.putB l3
  have hn5:=(hn3.hle k4).setD (d1:=uv) (d2:=nv) c3 iu ig
  generalize X4.set p3 (.cells [uv,nv] 1 false false)=X5 at w3 c3' c6' k5 hn5
  have au : ld1 (pa p3 0) X5=some (uv,X5):=Zu c3' rfl
  have hU5:=hU.mono k5
  have hlu : ZB uv X5=some (iv us.length,X5):=by have:=hU5.1.len (H':=X5);rwa [List.length_map] at this
  obtain ⟨X6,sl6,q6,acc6,e6,o6,u6,l6'⟩:=Zm9 (n:=n+4) (g:=g) (z1:=pt p3) (z2:=pt p6) (by omega) hU5 (fun u hu=>(hO.gs hP hu).2) us.length 0 (.slice none 0 0) [] [] X5 (by omega) (by omega) (Nat.le_refl _) (.refl _) ⟨Q7.nil,by simp,by simp⟩
  have e6 : Zh (c7 (Jq.l1 (R (n+5)))) [strv g,pt p3,pt p6,.slice none 0 0,uv,iv us.length,.int .i64 0] X5=_:=e6
  rw [List.nil_append] at o6
  rw [List.drop_zero] at u6
  obtain ⟨X7,e7,hU7,hl7,hr7⟩:=ZqN (e:=0) (uv:=uv) (gv:=nv) o6.us inv' iu W5 W5 (show p3≠p6 by omega) (l6' _ _ c3') (l6' _ _ c6')
  have hkk : HLe X X7:=hl7 (k5.trans l6') l3 (by omega)
  have hO' : ROK (ZdL g s) acc6:=by
   refine ⟨?_,fun key=>?_⟩
   ·have h1 : acc6.map (·.nm)=us.map (·.nm):=by
     have h2:=congrArg (List.map (fun k : ZfN=>k.1)) u6
     rw [List.map_map,List.map_map] at h2
     exact h2
    have h3:=hO.rise
    unfold ZdP at h3 ⊢
    rw [← List.pairwise_map (f:=fun u : Zo=>u.nm) (R:=fun a b=>a < b)] at h3 ⊢
    rw [h1];exact h3
   ·rw [u6,ZvD hP.k he]
    rw [List.mem_map]
    constructor
    ·rintro ⟨w,hw,rfl⟩
     show (Zz s w.nm).map _=_
     rw [hO.at hw]
     rfl
    ·intro hk
     cases hf : Zz s key.1 with
     | none=>rw [hf] at hk;cases hk
     | some k0=>
      rw [hf] at hk
      have hk0:=Zsi hf
      obtain ⟨w,hw,hwk⟩:=KR.1 ((hO.look k0).2 (by rw [hk0];exact hf))
      refine ⟨w,hw,?_⟩
      have hk:=Option.some.inj hk
      rw [← hk,← hwk]
      rfl
  have hgv : ZE X7 nv (N'.map strv) qn:=hr7 (hn5.hle l6')
  rw [he]
  refine ⟨X7,sl6,nv,f1 _ _ ?_,⟨⟨acc6,hU7,hO'⟩,⟨qn,N',hgv,?_⟩⟩,hkk⟩
  ·unfold Jq
   rw [z,Za Zg,Za a3,Za (Zth ig),Za e3,Za Zn,Za Zm,z4,Za q1,Zb,if_neg (by simp),Za Zg,Za an,Za Zg,Za w3,Za Zg,Za au,Za hlu,QX e6,ZN,Z4]
   exact e7
  ·have h1:=o3.n
   exact h1
 ·have q1 : bop .int .neq (iv (QL g s.K)) (.int .i64 0) X4=some (.bool true,X4):=by rw [Zt];simp [he]
  have hn : ZdL g s=s:=by
   unfold ZdL Za1
   rw [if_neg he,if_neg he]
  have hfin:=ZfV (e:=QL g s.K) hR.oneU hR.oneG c3 c6 rfl
  have hfl : HLe X (X4.set p6 (.cells [uv,gv] 1 false false)):=kX.putB (by omega)
  rw [hn]
  refine ⟨X4.set p6 (.cells [uv,gv] 1 false false),uv,gv,f1 _ _ ?_,hR.hle hfl,hfl⟩
  unfold Jq
  rw [z,Za Zg,Za a3,Za (Zth ig),Za e3,Za Zn,Za Zm,z4,Za q1,Zb,if_pos rfl]
  exact hfin
end
end Go.Proofs.YtnnehafmjfmbnaaGreatDoor.A
namespace Go.Proofs.YtnnehafmjfmbnaaGreatDoor.A
set_option linter.unusedVariables false
set_option linter.unusedSimpArgs false
open Go.Proofs Go.Proofs.YtnnehafmjfmbnaaGreatDoor
section
variable {X X' Y H0 : Zc} {n : Nat} {uv gv v : Value} {us : List Zo} {s s' : NSt} {k h m o t g x : Tx} {u w : Zo} {β : Type} {l : List Tx}
def Yw (g k : Tx) (s : NSt) : Int:=if !(Zr g && Zr k) then 10 else if (Ze k s.A).isNone || decide (g∉s.K) then 8 else 0
theorem Zg2 : Kn g k s=if Yw g k s=0 then (if s.mem g k then 9 else 0) else Yw g k s:=by
 unfold Kn JW Zb1 Jl Yw Zl
 cases h1 : Zr g <;> cases h2 : Zr k <;> cases h3 : Ze k s.A <;> by_cases h4 : g∈s.K <;> simp [h1,h2,h3,h4]
theorem ZfZ : YQ g k s=if Yw g k s=0 then (if s.mem g k then 0 else 12) else Yw g k s:=by
 unfold YQ JW Za0 Jl Yw Zl
 cases h1 : Zr g <;> cases h2 : Zr k <;> cases h3 : Ze k s.A <;> by_cases h4 : g∈s.K <;> simp [h1,h2,h3,h4]
theorem ZmM (h : Yw g k s=0) : Zl k s.A=0∧g∈s.K:=by
 unfold Yw at h
 unfold Zl
 cases h1 : Zr g <;> cases h2 : Zr k <;> cases h3 : Ze k s.A <;> by_cases h4 : g∈s.K <;> simp [h1,h2,h3,h4] at h ⊢
theorem Zrc (hR : RD X uv gv s) (hP : W6 s) : ∃ u X',R (n+5) Zac [.agg #[uv,gv],strv g,strv k] X=some (.tuple #[.agg u.cells.toArray,iv (Yw g k s)],X')∧HLe X X'∧UOK X' u∧(Yw g k s=0→Z5 u=Qn s k (ZU k s.A)):=by
 obtain ⟨us,hU,hO⟩:=hR.ex
 obtain ⟨q,N,hN,hI⟩:=hR.n
 have hfew:=Zra hI hP
 have z1 : alc 1 (.agg #[uv,gv]) X=some (pt X.length,X++[.cells [uv,gv] 1 false false]):=K5 (vs:=[uv,gv]) (by simp only [List.all_cons,hR.oneU,hR.oneG];rfl)
 have z2 : alc 1 zU (X++[.cells [uv,gv] 1 false false])=some (pt (X++[Zf.cells [uv,gv] 1 false false]).length,X++[.cells [uv,gv] 1 false false]++[.cells (usr ([],[])) 1 false false]):=K5 (vs:=usr ([],[])) rfl
 have k2 : HLe X (X++[Zf.cells [uv,gv] 1 false false]++[Zf.cells (usr ([],[])) 1 false false]):=(HLe.app _ _).trans (.app _ _)
 have b1 : (X++[Zf.cells [uv,gv] 1 false false]++[Zf.cells (usr ([],[])) 1 false false])[X.length]?=some (.cells [uv,gv] 1 false false):=ZhS
 have b2 : (X++[Zf.cells [uv,gv] 1 false false]++[Zf.cells (usr ([],[])) 1 false false])[(X++[Zf.cells [uv,gv] 1 false false]).length]?=some (.cells (usr ([],[])) 1 false false):=ZD
 have hp : X.length < (X++[Zf.cells [uv,gv] 1 false false]).length:=by simp
 generalize X++[Zf.cells [uv,gv] 1 false false]++[Zf.cells (usr ([],[])) 1 false false]=X2 at z2 k2 b1 b2
 generalize (X++[Zf.cells [uv,gv] 1 false false]).length=p2 at z2 b2 hp
 have d1 : ldA 2 (pt X.length) X2=some (.agg #[uv,gv],X2):=ZY (n:=2) b1 rfl
 obtain ⟨u,X3,e3,k3,ok,hk,hin,_⟩:=Znl (n:=n) (k:=k) (hU.mono k2) hO hP hR.oneG
 have z8 : ∀ {β : Type} (K : Value→M β),bind (alc 1 zU) (fun q=>bind (stA 5 q (.agg u.cells.toArray)) fun _=>K q) X3=K (pt X3.length) (X3++[.cells u.cells 1 false false]):=fun K=>K3 (n:=5) (zs:=[.string ⟨#[]⟩,.string ⟨#[]⟩,.string ⟨#[]⟩,.bool false,.slice none 0 0]) (r:=u.cells) rfl rfl rfl (Kg ok.2.1)
 have k4 : HLe X3 (X3++[Zf.cells u.cells 1 false false]):=.app _ _
 have b8 : (X3++[Zf.cells u.cells 1 false false])[X3.length]?=some (.cells u.cells 1 false false):=ZD
 have hx3:=k3.len
 have lp2:=Jg b2
 generalize X3++[Zf.cells u.cells 1 false false]=X4 at z8 k4 b8
 generalize X3.length=p8 at z8 b8 hx3
 have k34:=k3.trans k4
 have c1:=k34 _ _ b1
 have c2':=k34 _ _ b2
 have ok4:=ok.hle k4
 have e5 : R (n+4) Qt [strv g] X4=some (.bool (Zr g),X4):=Za2
 have ag : ld1 (pa X.length 1) X4=some (gv,X4):=Zu c1 rfl
 have hNm:=(hN.hle (k2.trans k34)).rd
 have eh:=ZmS (n:=n+3) (x:=g) (l:=N) (by omega) hNm
 have eh : R (n+4) YI [gv,strv g] X4=_:=eh
 have hmem : (decide (g∈N))=decide (g∈s.K):=by simp [hI.mem]
 have fin : ∀ e : Int,(bind (ldA 5 (pt p8)) fun v33=>bind (stA 5 (pt p2) v33) fun _=>bind (ldA 5 (pt p2)) fun vr=>ret (Value.tuple #[vr,iv e])) X4=some (.tuple #[.agg u.cells.toArray,iv e],X4.set p2 (.cells u.cells 1 false false)):=fun e=>by
  have d8 : ldA 5 (pt p8) X4=some (.agg u.cells.toArray,X4):=ZY (n:=5) b8 rfl
  have w1:=WM (vs:=u.cells) (n:=5) c2' rfl rfl (Kg ok.2.1)
  have d2 : ldA 5 (pt p2) (X4.set p2 (.cells u.cells 1 false false))=some (.agg u.cells.toArray,_):=ZY (n:=5) (ZT c2') rfl
  rw [Za d8,Za w1,Za d2]
  rfl
 have kX : HLe X (X4.set p2 (.cells u.cells 1 false false)):=(k2.trans k34).putB (by omega)
 refine ⟨u,X4.set p2 (.cells u.cells 1 false false),?_,kX,?_,fun he=>hk (ZmM he).1⟩
 ·rw [R,ZlG rfl]
  unfold Zel
  rw [Za z1,Za z2,Za d1,Za e3,Za Zn,Za Zm]
  refine (z8 _).trans ?_
  have q10 : bop .int .eql (iv (Zl k s.A)) (.int .i64 10) X4=some (.bool (!Zr k),X4):=by
   rw [ZA]
   unfold Zl
   cases Zr k
   ·rfl
   ·cases (Ze k s.A).isSome <;> rfl
  rw [Za q10]
  have hgate : ∀ K : Value→M Value,bind (Zx (.bool (!Zr k)) false 3 (bind (R (n+4) Qt [strv g]) fun v20=>bind (uop .not v20) fun v21=>ret [strv g,v20,v21])) (c3 fun _ _ q=>bind (pick (.bool (!Zr k)) (Value.bool true) q) K) X4=K (.bool (!(Zr g && Zr k))) X4:=fun K=>by
   cases Zr k
   ·simp only [Bool.not_false]
    rw [Za (g_r.trans (if_neg (by simp)))]
    simp only [List.replicate]
    rw [Z4,Za Zj,Bool.and_false]
    rfl
   ·simp only [Bool.not_true]
    rw [ZQ,Zi,Za e5,Zi,Za Zy,Z9,Z4,Za Zj,Bool.and_true]
    rfl
  refine (hgate _).trans ?_
  cases hb : Zr g && Zr k
  ·have hE : Yw g k s=10:=by unfold Yw;rw [hb];rfl
   rw [Zb,if_pos (by rfl),hE]
   exact fin 10
  ·rw [Zb,if_neg (by simp)]
   have hb':=hb
   simp only [Bool.and_eq_true] at hb'
   have q0 : bop .int .neq (iv (Zl k s.A)) (.int .i64 0) X4=some (.bool (Ze k s.A).isNone,X4):=by
    rw [Zt]
    unfold Zl
    rw [hb'.2]
    cases Ze k s.A <;> rfl
   rw [Za q0]
   have hgate2 : ∀ K : Value→M Value,bind (Zx (.bool (Ze k s.A).isNone) false 5 (bind (fa 1 (pt X.length)) fun v27=>bind (ld1 v27) fun v28=>bind (R (n+4) YI [v28,strv g]) fun v30=>bind (uop .not v30) fun v31=>ret [v27,v28,strv g,v30,v31])) (c5 fun _ _ _ _ q=>bind (pick (.bool (Ze k s.A).isNone) (Value.bool true) q) K) X4=K (.bool ((Ze k s.A).isNone || decide (g∉s.K))) X4:=fun K=>by
    cases (Ze k s.A).isNone
    ·rw [ZQ,Zi,Za Zg,Zi,Za ag,Zi,Za eh,Zi,Za Zy,Z9,Qv,Za Zj,hmem]
     simp only [cond_false,Bool.false_or,decide_not]
    ·rw [Za (g_r.trans (if_neg (by simp)))]
     simp only [List.replicate]
     rw [Qv,Za Zj]
     rfl
   refine (hgate2 _).trans ?_
   cases h8 : (Ze k s.A).isNone || decide (g∉s.K)
   ·have hE : Yw g k s=0:=by unfold Yw;rw [hb,h8];rfl
    rw [Zb,if_neg (by simp),hE]
    exact fin 0
   ·have hE : Yw g k s=8:=by unfold Yw;rw [hb,h8];rfl
    rw [Zb,if_pos (by rfl),hE]
    exact fin 8
 ·rcases hin with rfl | hin
  ·exact ⟨Sl.nil,rfl,Nat.zero_le _⟩
  ·exact (hU.mono kX).ok hin
theorem Zlg (hR : RD X uv gv s) (hP : W6 s) : ∃ p3 p6 p8 u X',(∀ {β : Type} (K : Value→Value→Value→Value→M β),bind (alc 1 (.agg #[uv,gv])) (fun v3=>bind (alc 1 zD) fun v6=>bind (ldA 2 v3) fun v11=>bind (R (n+5) Zac [v11,strv g,strv k]) fun v13=>bind (Zk v13 0) fun v14=>bind (Zk v13 1) fun v15=>bind (alc 1 zU) fun v8=>bind (stA 5 v8 v14) fun _=>K v3 v6 v8 v15) X=K (pt p3) (pt p6) (pt p8) (iv (Yw g k s)) X')∧
  X'[p3]?=some (.cells [uv,gv] 1 false false)∧X'[p6]?=some (.cells [.slice none 0 0,.slice none 0 0] 1 false false)∧X'[p8]?=some (.cells u.cells 1 false false)∧HLe X X'∧X.length≤p3∧p3 < p6∧p6 < p8∧UOK X' u∧(∀ id,own1 u.gv=some id→id < p8)∧(Yw g k s=0→Z5 u=Qn s k (ZU k s.A)):=by
 obtain ⟨p3,p6,X2,z,b3,b6,k2,l3,l36,l6⟩:=Zgo (X:=X) hR.oneU hR.oneG
 have d3 : ldA 2 (pt p3) X2=some (.agg #[uv,gv],X2):=ZY (n:=2) b3 rfl
 obtain ⟨u,X3,e3,k3,ok,hk⟩:=Zrc (n:=n) (g:=g) (k:=k) (hR.hle k2) hP
 have z8 : ∀ {β : Type} (K : Value→M β),bind (alc 1 zU) (fun q=>bind (stA 5 q (.agg u.cells.toArray)) fun _=>K q) X3=K (pt X3.length) (X3++[.cells u.cells 1 false false]):=fun K=>K3 (n:=5) (zs:=[.string ⟨#[]⟩,.string ⟨#[]⟩,.string ⟨#[]⟩,.bool false,.slice none 0 0]) (r:=u.cells) rfl rfl rfl (Kg ok.2.1)
 have k4 : HLe X3 (X3++[Zf.cells u.cells 1 false false]):=.app _ _
 have hx3:=k3.len
 refine ⟨p3,p6,X3.length,u,X3++[.cells u.cells 1 false false],fun {β} K=>?_,k4 _ _ (k3 _ _ b3),k4 _ _ (k3 _ _ b6),ZD,(k2.trans k3).trans k4,l3,l36,by omega,ok.hle k4,fun id hid=>ok.1.ltO hid,hk⟩
 rw [z,Za d3,Za e3,Za Zn,Za Zm]
 exact z8 _
theorem Zrk (hR : RD X uv gv s) (hP : W6 s) : ∃ X' uv',R (n+6) ZaU [.agg #[uv,gv],strv g,strv k] X=some (.tuple #[.agg #[uv',gv],iv (YQ g k s)],X')∧RD X' uv' gv (Kh g k s)∧HLe X X':=by
 obtain ⟨us,hU,hO⟩:=hR.ex
 obtain ⟨iu,ig⟩:=hR.isSl
 obtain ⟨p3,p6,p8,u,X3,z,b3,b6,b8,k3,l3,l36,l68,ok,lo,hkey⟩:=Zlg (n:=n) (g:=g) (k:=k) hR hP
 have hlen:=hO.len hP.n
 have hfew:=hP.i.few
 have f1 : ∀ r X',ZaP (R (n+5)) (.agg #[uv,gv]) (strv g) (strv k) X=some (r,X')→R (n+6) ZaU [.agg #[uv,gv],strv g,strv k] X=some (r,X'):=fun r X' hr=>by rw [R,Zmn rfl];exact hr
 have a4 : ld1 (pa p8 4) X3=some (u.gv,X3):=Zu b8 rfl
 have hfin:=fun e : Int=>ZfV (e:=e) hR.oneU hR.oneG b3 b6 rfl
 have hfl : HLe X (X3.set p6 (.cells [uv,gv] 1 false false)):=k3.putB (by omega)
 have q0 : bop .int .neq (iv (Yw g k s)) (.int .i64 0) X3=some (.bool (decide (Yw g k s≠0)),X3):=by
  rw [Zt]
  by_cases h : Yw g k s=0
  ·rw [h];rfl
  ·rw [decide_eq_true h];simp [h]
 have eh:=ZmS (n:=n+4) (x:=g) (l:=u.gs) (by have:=ok.2.2;omega) ok.1
 have eh : R (n+5) YI [u.gv,strv g] X3=_:=eh
 by_cases hE0 : Yw g k s=0
 ·have hku:=hkey hE0
  have hgs : u.gs=ofL k s.K s.mem:=congrArg (·.2.2.2.2) hku
  have hin : decide (g∈u.gs)=s.mem g k:=by
   rw [hgs,Bool.eq_iff_iff,decide_eq_true_eq,Zb9]
   exact ⟨fun h=>h.2,fun h=>⟨(ZmM hE0).2,h⟩⟩
  rw [decide_eq_false (by simpa using hE0)] at q0
  by_cases he : s.mem g k=true
  ·have hL : YQ g k s=0:=by rw [ZfZ,if_pos hE0,if_pos he]
   have hgl : u.gs.length≤6:=by rw [hgs];exact Nat.le_trans ZeR hP.k.few
   obtain ⟨X4,v4,q4,e4,r4,k4,o4⟩:=Zj1 (n:=n+4) (k:=g) (by omega) ok.1
   have e4 : R (n+5) WF [u.gv,strv g] X3=_:=e4
   have c8:=k4 _ _ b8
   have l8:=Jg b8
   have w8 : st1 (pa p8 4) v4 X4=some (undef,X4.set p8 (.cells (Zo.cells (u.grp v4 (u.gs.filter fun x=>decide (x≠g)))) 1 false false)):=Zal (o:=4) c8 (by simp) r4.one.1
   have k8 : HLe X (X4.set p8 (.cells (Zo.cells (u.grp v4 (u.gs.filter fun x=>decide (x≠g)))) 1 false false)):=(k3.trans k4).putB (by omega)
   have r8 : ZE (X4.set p8 (.cells (Zo.cells (u.grp v4 (u.gs.filter fun x=>decide (x≠g)))) 1 false false)) v4 ((u.gs.filter fun x=>decide (x≠g)).map strv) q4:=r4.keep fun i hi=>List.getElem?_set_ne (by have:=o4 i hi;omega)
   have ok8 : UOK (X4.set p8 (.cells (Zo.cells (u.grp v4 (u.gs.filter fun x=>decide (x≠g)))) 1 false false)) (u.grp v4 (u.gs.filter fun x=>decide (x≠g))):=⟨r8.rd,r8.one.1,Nat.le_trans (List.length_filter_le _ _) ok.2.2⟩
   have c3:=(List.getElem?_set_ne (a:=Zf.cells (Zo.cells (u.grp v4 (u.gs.filter fun x=>decide (x≠g)))) 1 false false) (show p8≠p3 by omega)).trans (k4 _ _ b3)
   have c6:=(List.getElem?_set_ne (a:=Zf.cells (Zo.cells (u.grp v4 (u.gs.filter fun x=>decide (x≠g)))) 1 false false) (show p8≠p6 by omega)).trans (k4 _ _ b6)
   have c8':=ZT (b:=Zf.cells (Zo.cells (u.grp v4 (u.gs.filter fun x=>decide (x≠g)))) 1 false false) c8
   obtain ⟨uv',X5,e5,hU5,hl5⟩:=Zps (n:=n) (u:=u.grp v4 (u.gs.filter fun x=>decide (x≠g))) (hU.mono k8) (by omega) ok8 ig W5 W5 c3 c6 c8'
   have hkk : HLe X X5:=hl5 k8 (by omega)
   have hnm : u.nm=k:=congrArg (·.1) hku
   have hku2 : Z5 (u.grp v4 (u.gs.filter fun x=>decide (x≠g)))=((Z5 u).1,(Z5 u).2.1,(Z5 u).2.2.1,(Z5 u).2.2.2.1,u.gs.filter fun x=>decide (x≠g)):=rfl
   rw [hL]
   refine ⟨X5,uv',f1 _ _ ?_,hR.users hkk hU5 (hO.put (u:=u.grp v4 (u.gs.filter fun x=>decide (x≠g))) ?_ (fun x hx=>?_)) ZtD,hkk⟩
   ·unfold ZaP
    refine (z _).trans ?_
    rw [hin,he] at eh
    rw [Za q0,Zb,if_neg (by simp),Za Zg,Za a4,Za eh,Za Zy,Zb,if_neg (by simp),Za Zg,Za a4,Za e4,Za Zg,Za w8]
    exact e5
   ·rw [ZqA hP.k hL,if_pos (show u.nm=k from hnm),hku2,hku,hgs]
    rfl
   ·rw [ZqA hP.k hL,if_neg (by rw [← hnm];exact hx)]
  ·have he : s.mem g k=false:=by simpa using he
   have hL : YQ g k s=12:=by rw [ZfZ,if_pos hE0,if_neg (by rw [he];simp)]
   have hn : Kh g k s=s:=by unfold Kh;rw [if_neg (by rw [hL];decide)]
   rw [hL,hn]
   refine ⟨X3.set p6 (.cells [uv,gv] 1 false false),uv,f1 _ _ ?_,hR.hle hfl,hfl⟩
   unfold ZaP
   refine (z _).trans ?_
   rw [hin,he] at eh
   rw [Za q0,Zb,if_neg (by simp),Za Zg,Za a4,Za eh,Za Zy,Zb,if_pos (by rfl)]
   exact hfin 12
 ·have hL : YQ g k s=Yw g k s:=by rw [ZfZ,if_neg hE0]
  have hn : Kh g k s=s:=by unfold Kh;rw [if_neg (by rw [hL];exact hE0)]
  rw [hL,hn]
  rw [decide_eq_true hE0] at q0
  refine ⟨X3.set p6 (.cells [uv,gv] 1 false false),uv,f1 _ _ ?_,hR.hle hfl,hfl⟩
  unfold ZaP
  refine (z _).trans ?_
  rw [Za q0,Zb,if_pos rfl]
  exact hfin _
theorem ZrN (hR : RD X uv gv s) (hP : W6 s) : ∃ X' uv',R (n+6) Zbg [.agg #[uv,gv],strv g,strv k] X=some (.tuple #[.agg #[uv',gv],iv (Kn g k s)],X')∧RD X' uv' gv (K4 g k s)∧HLe X X':=by
 obtain ⟨us,hU,hO⟩:=hR.ex
 obtain ⟨iu,ig⟩:=hR.isSl
 obtain ⟨p3,p6,p8,u,X3,z,b3,b6,b8,k3,l3,l36,l68,ok,lo,hkey⟩:=Zlg (n:=n) (g:=g) (k:=k) hR hP
 have hlen:=hO.len hP.n
 have hfew:=hP.i.few
 have f1 : ∀ r X',Zbi (R (n+5)) (.agg #[uv,gv]) (strv g) (strv k) X=some (r,X')→R (n+6) Zbg [.agg #[uv,gv],strv g,strv k] X=some (r,X'):=fun r X' hr=>by rw [R,ZnH rfl];exact hr
 have a4 : ld1 (pa p8 4) X3=some (u.gv,X3):=Zu b8 rfl
 have hfin:=fun e : Int=>ZfV (e:=e) hR.oneU hR.oneG b3 b6 rfl
 have hfl : HLe X (X3.set p6 (.cells [uv,gv] 1 false false)):=k3.putB (by omega)
 have q0 : bop .int .neq (iv (Yw g k s)) (.int .i64 0) X3=some (.bool (decide (Yw g k s≠0)),X3):=by
  rw [Zt]
  by_cases h : Yw g k s=0
  ·rw [h];rfl
  ·rw [decide_eq_true h];simp [h]
 have eh:=ZmS (n:=n+4) (x:=g) (l:=u.gs) (by have:=ok.2.2;omega) ok.1
 have eh : R (n+5) YI [u.gv,strv g] X3=_:=eh
 by_cases hE0 : Yw g k s=0
 ·have hku:=hkey hE0
  have hgs : u.gs=ofL k s.K s.mem:=congrArg (·.2.2.2.2) hku
  have hin : decide (g∈u.gs)=s.mem g k:=by
   rw [hgs,Bool.eq_iff_iff,decide_eq_true_eq,Zb9]
   exact ⟨fun h=>h.2,fun h=>⟨(ZmM hE0).2,h⟩⟩
  rw [decide_eq_false (by simpa using hE0)] at q0
  by_cases he : s.mem g k=false
  ·have hL : Kn g k s=0:=by rw [Zg2,if_pos hE0,if_neg (by rw [he];simp)]
   have hgl : u.gs.length≤6:=by rw [hgs];exact Nat.le_trans ZeR hP.k.few
   have l8:=Jg b8
   have z0 : bsl 1 0 (.string ⟨#[]⟩) [] X3=some (.slice (some ⟨X3.length,0,none⟩) 0 0,X3++[.cells [] 1 false false]):=ZvJ
   have g0 : (X3++[Zf.cells [] 1 false false])[X3.length]?=some (.cells [] 1 false false):=ZD
   have j0 : HLe X3 (X3++[Zf.cells [] 1 false false]):=.app _ _
   have hl0 : (X3++[Zf.cells [] 1 false false]).length=X3.length+1:=by simp
   generalize X3++[Zf.cells [] 1 false false]=Y0 at z0 g0 j0 hl0
   obtain ⟨sl1,Y1,o1,x1,r1,j1,ho1⟩:=ZsI (b:=16) (ok.1.mono j0) (by simp;omega) (by simp;omega) (s:=.slice (some ⟨X3.length,0,none⟩) 0 0) (.inr ⟨X3.length,false,rfl,g0,rfl⟩)
   have ho1' : ∀ j∈o1,X3.length≤j:=fun j hj=>by
    rcases ho1 j hj with h | ⟨_,h⟩
    ·omega
    ·cases h;exact Nat.le_refl _
   obtain ⟨w,Y2,sl2,Y3,o3,x2,x3,r3,j3,ho3,_⟩:=ZfG (u:=g) (H0:=X3) r1 (by omega) ho1' (j0.trans j1)
   obtain ⟨Y4,v4,q4,l4,e4,r4,is4,le4,k4,o4⟩:=Zof (n:=n+3) (l:=u.gs++[g]) (by rw [List.length_append,List.length_singleton];omega) r3.rd
   have e4 : R (n+5) Wa [sl2] Y3=_:=e4
   have a41 : ld1 (pa p8 4) Y0=some (u.gv,Y0):=Zu (j0 _ _ b8) rfl
   have k34 : HLe X3 Y4:=j3.trans k4
   have hy3:=j3.len
   have c8:=k34 _ _ b8
   have w8 : st1 (pa p8 4) v4 Y4=some (undef,Y4.set p8 (.cells (Zo.cells (u.grp v4 l4)) 1 false false)):=Zal (o:=4) c8 (by simp) r4.one.1
   have k8 : HLe X (Y4.set p8 (.cells (Zo.cells (u.grp v4 l4)) 1 false false)):=(k3.trans k34).putB (by omega)
   have r8 : ZE (Y4.set p8 (.cells (Zo.cells (u.grp v4 l4)) 1 false false)) v4 (l4.map strv) q4:=r4.keep fun i hi=>List.getElem?_set_ne (by have:=o4 i hi;omega)
   have ok8 : UOK (Y4.set p8 (.cells (Zo.cells (u.grp v4 l4)) 1 false false)) (u.grp v4 l4):=⟨r8.rd,r8.one.1,by rw [List.length_append,List.length_singleton] at le4;show l4.length≤_;omega⟩
   have c3:=(List.getElem?_set_ne (a:=Zf.cells (Zo.cells (u.grp v4 l4)) 1 false false) (show p8≠p3 by omega)).trans (k34 _ _ b3)
   have c6:=(List.getElem?_set_ne (a:=Zf.cells (Zo.cells (u.grp v4 l4)) 1 false false) (show p8≠p6 by omega)).trans (k34 _ _ b6)
   have c8':=ZT (b:=Zf.cells (Zo.cells (u.grp v4 l4)) 1 false false) c8
   obtain ⟨uv',X5,e5,hU5,hl5⟩:=Zps (n:=n) (u:=u.grp v4 l4) (hU.mono k8) (by omega) ok8 ig W5 W5 c3 c6 c8'
   have hkk : HLe X X5:=hl5 k8 (by omega)
   have hnm : u.nm=k:=congrArg (·.1) hku
   have hku2 : Z5 (u.grp v4 l4)=((Z5 u).1,(Z5 u).2.1,(Z5 u).2.2.1,(Z5 u).2.2.2.1,l4):=rfl
   rw [hgs] at is4
   rw [hL]
   refine ⟨X5,uv',f1 _ _ ?_,hR.users hkk hU5 (hO.put (u:=u.grp v4 l4) ?_ (fun x hx=>?_)) Zuo,hkk⟩
   ·unfold Zbi
    refine (z _).trans ?_
    rw [hin,he] at eh
    rw [Za q0,Zb,if_neg (by simp),Za Zg,Za a4,Za eh,Zb,if_neg (by simp),Za z0,Za Zg,Za a41,Za x1,Za x2,Za x3,Za e4,Za Zg,Za w8]
    exact e5
   ·rw [Zse hP.k hL is4,if_pos (show u.nm=k from hnm),hku2,hku]
    rfl
   ·rw [Zse hP.k hL is4,if_neg (by rw [← hnm];exact hx)]
  ·have he : s.mem g k=true:=by simpa using he
   have hL : Kn g k s=9:=by rw [Zg2,if_pos hE0,if_pos he]
   have hn : K4 g k s=s:=by unfold K4;rw [if_neg (by rw [hL];decide)]
   rw [hL,hn]
   refine ⟨X3.set p6 (.cells [uv,gv] 1 false false),uv,f1 _ _ ?_,hR.hle hfl,hfl⟩
   unfold Zbi
   refine (z _).trans ?_
   rw [hin,he] at eh
   rw [Za q0,Zb,if_neg (by simp),Za Zg,Za a4,Za eh,Zb,if_pos rfl]
   exact hfin 9
 ·have hL : Kn g k s=Yw g k s:=by rw [Zg2,if_neg hE0]
  have hn : K4 g k s=s:=by unfold K4;rw [if_neg (by rw [hL];exact hE0)]
  rw [hL,hn]
  rw [decide_eq_true hE0] at q0
  refine ⟨X3.set p6 (.cells [uv,gv] 1 false false),uv,f1 _ _ ?_,hR.hle hfl,hfl⟩
  unfold Zbi
  refine (z _).trans ?_
  rw [Za q0,Zb,if_pos rfl]
  exact hfin _
end
end Go.Proofs.YtnnehafmjfmbnaaGreatDoor.A

namespace Go.Proofs.YtnnehafmjfmbnaaGreatDoor.A
set_option linter.unusedVariables false
set_option linter.unusedSimpArgs false
open Go.Proofs Go.Proofs.YtnnehafmjfmbnaaGreatDoor
abbrev nActT : Ty:=.struct (.pair (.int .u8) (.pair .str (.pair .str (.pair .bool .unit))))
structure K0 where
 kd : Nat
 a : Tx
 b : Tx
 is : Bool
abbrev K0.cells (a : K0) : List Value:=[.int .u8 a.kd,strv a.a,strv a.b,.bool a.is]
abbrev zNA : Value:=.agg #[.int .u8 0,.string ⟨#[]⟩,.string ⟨#[]⟩,.bool false]
theorem ZqG {x : nActT.den} {H : Zc} {cs : List Value} (hw : nActT.wf x) (h : Rd nActT x H cs) : ∃ a : K0,cs=a.cells∧a.kd≤255:=by
 obtain ⟨k,s,t,b,u⟩:=x
 obtain ⟨h1,h2,h3,h4,h5⟩:=h
 obtain ⟨w1,_⟩:=hw
 have h1 : cs.take 1=[.int .u8 k]:=h1
 have h2 : (cs.drop 1).take 1=[.string s]:=h2
 have h3 : ((cs.drop 1).drop 1).take 1=[.string t]:=h3
 have h4 : (((cs.drop 1).drop 1).drop 1).take 1=[.bool b]:=h4
 have h5 : (((cs.drop 1).drop 1).drop 1).drop 1=[]:=h5
 match cs,h1,h2,h3,h4,h5 with
 | [c1,c2,c3,c4],h1,h2,h3,h4,_=>
  have w1:=ZvT w1
  have key : ∀ (q : IntKind) (z : Int),0≤z→[Value.int q z]=[Value.int q (z.toNat : Nat)]:=fun q z hz=>by rw [Int.toNat_of_nonneg hz]
  refine ⟨⟨Int.toNat k,ByteArray.data s |>.toList,ByteArray.data t |>.toList,b⟩,?_,?_⟩
  ·have e20 : c2=.string s:=by simpa using h2
   have e30 : c3=.string t:=by simpa using h3
   have e40 : c4=.bool b:=by simpa using h4
   have e1 : [c1]=[Value.int .u8 (Int.toNat k : Nat)]:=Eq.trans (by simpa using h1) (key .u8 k w1.1)
   have e1 : c1=Value.int .u8 (Int.toNat k : Nat):=by simpa using e1
   have e2 : c2=strv (ByteArray.data s).toList:=e20.trans (Zqg s)
   have e3 : c3=strv (ByteArray.data t).toList:=e30.trans (Zqg t)
   rw [e1,e2,e3,e40]
  ·have : ∀ z : Int,0≤z∧z≤255→z.toNat≤255:=fun z hz=>by omega
   exact this k w1
def Zbv (H : Zc) (sl : Value) (ac : List K0) : Prop:=SlN 4 H sl (ac.map K0.cells)∧∀ a∈ac,a.kd≤255
theorem ZtH {x : (Ty.slc nActT).den} {H : Zc} {v : Value} (hwf : (Ty.slc nActT).wf x) (h : Rd (.slc nActT) x H [v]) : ∃ ac,Zbv H v ac∧ac.length≤9223372036854775807:=by
 obtain ⟨rows,h1,h2,h3,h4⟩:=ZuR hwf h
 obtain ⟨ac,h5,h6⟩:=ZkX (f:=K0.cells) (Q:=fun _ a=>a.kd≤255) (rows:=rows) fun r hr=>by
  obtain ⟨y,hy,hr⟩:=h2 r hr
  exact ZqG hy hr
 subst h5
 exact ⟨ac,⟨h1,h6⟩,by simpa using h3⟩
section
variable {H H' X X' : Zc} {sl : Value} {ac : List K0} {n d c : Nat} {s : NSt} {r : NR} {m : Tx}
theorem Zbv.len (h : Zbv H sl ac) : ZB sl H'=some (iv ac.length,H'):=by
 have:=h.1.len (H':=H')
 rwa [List.length_map] at this
theorem Zbv.mono (h : Zbv H sl ac) (hl : HLe H H') : Zbv H' sl ac:=⟨h.1.mono hl,h.2⟩
theorem Zbv.fetch {β : Type} {k : Value→M β} (h : Zbv H sl ac) {j : Nat} {a : K0} (hj : ac[j]?=some a) :
  bind (ixa 4 sl (iv j)) (fun p=>bind (ldA 4 p) fun v=>bind (alc 1 zNA) fun q=>bind (stA 4 q v) fun _=>k q) H=k (pt H.length) (H++[.cells a.cells 1 false false]):=by
 have hr : (ac.map K0.cells)[j]?=some a.cells:=by rw [List.getElem?_map,hj];rfl
 rw [h.1.fetch hr (by omega) .i64]
 exact K3 (n:=4) (zs:=[.int .u8 0,.string ⟨#[]⟩,.string ⟨#[]⟩,.bool false]) (r:=a.cells) rfl rfl rfl rfl
def Ziz (a : K0) : Bool:=decide (a.a.length≤50) && decide (a.b.length≤50)
theorem Zqm {H0 : Zc} (h : Zbv H0 sl ac) (hn : ac.length≤9223372036854775807) : ∀ (t j : Nat) {X : Zc},ac.length - j=t→j≤ac.length→HLe H0 X→
  ∃ X',Zh (c4 (KY.l1 (R n))) [sl,sl,iv ac.length,iv j] X=some (if (ac.drop j).all Ziz then .ext 0 [sl] else .ret (.bool false),X')∧HLe H0 X'
 | 0,j,X,ht,hj,hle=>by
  have : j=ac.length:=by omega
  subst this
  rw [List.drop_length]
  refine ⟨X,Z8 ?_,hle⟩
  rw [ZK]
  unfold KY.l1
  rw [Za Zq,Zb,if_neg (by simp)]
  rfl
 | t+1,j,X,ht,hj,hle=>by
  have hjn : j < ac.length:=by omega
  have hlt : (j : Int) < ac.length:=by omega
  have hja:=List.getElem?_eq_getElem hjn
  have hd:=List.drop_eq_getElem_cons hjn
  generalize ac[j]=a at hja hd
  have g1 : (X++[Zf.cells a.cells 1 false false])[X.length]?=some (.cells a.cells 1 false false):=ZD
  have l1 : ld1 (pa X.length 1) (X++[.cells a.cells 1 false false])=some (strv a.a,X++[.cells a.cells 1 false false]):=Zu g1 rfl
  have l2 : ld1 (pa X.length 2) (X++[.cells a.cells 1 false false])=some (strv a.b,X++[.cells a.cells 1 false false]):=Zu g1 rfl
  have hf:=fun {K : Value→M Out}=>(h.mono hle).fetch (k:=K) hja
  have k1:=hle.trans (HLe.app X [.cells a.cells 1 false false])
  generalize X++[Zf.cells a.cells 1 false false]=X1 at g1 l1 l2 k1 hf
  obtain ⟨X2,e2,k2⟩:=Zqm h hn t (j+1) (by omega) (by omega) k1
  rw [hd,List.all_cons]
  have hb : KY.l1 (R n) sl sl (iv ac.length) (iv j) X=some (if Ziz a then .nrm [sl,sl,iv ac.length,iv ((j+1 : Nat) : Int)] else .ret (.bool false),X1):=by
   unfold KY.l1
   rw [Za Zq,Zb,if_pos (by simpa using hlt),hf,Za Yk,Za l1,Za ZL,Za QE]
   unfold Ziz
   by_cases h1 : a.a.length≤50
   ·have h1' : ¬ ((a.a.length : Int) > 50):=by omega
    rw [decide_eq_false h1',ZQ,Zi,Za Yk,Zi,Za l2,Zi,Za ZL,Zi,Za QE,Z9,ZK,Za Zj,decide_eq_true h1]
    simp only [cond_false]
    by_cases h2 : a.b.length≤50
    ·have h2' : ¬ ((a.b.length : Int) > 50):=by omega
     rw [decide_eq_false h2',Zb,if_neg (by simp),Za ZC,QG (by omega),decide_eq_true h2]
     rfl
    ·have h2' : ((a.b.length : Int) > 50):=by omega
     rw [decide_eq_true h2',Zb,if_pos rfl,decide_eq_false h2]
     rfl
   ·have h1' : ((a.a.length : Int) > 50):=by omega
    rw [decide_eq_true h1',Za (g_r.trans (if_neg (by simp)))]
    simp only [List.replicate]
    rw [ZK,Za Zj]
    simp only [cond_true]
    rw [Zb,if_pos rfl,decide_eq_false h1]
    rfl
  cases hfa : Ziz a
  ·rw [hfa] at hb
   exact ⟨X1,Yx hb,k1⟩
  ·rw [hfa] at hb
   exact ⟨X2,(ZI hb).trans e2,k2⟩
theorem ZsP (h : Zbv H sl ac) (hn : ac.length≤9223372036854775807) : ∃ H',R (n+1) Km [sl] H=some (.bool (ac.all Ziz && decide (ac.length≤60)),H')∧HLe H H':=by
 obtain ⟨H',e,k⟩:=Zqm (n:=n) h hn ac.length 0 (by omega) (by omega) (.refl _)
 rw [List.drop_zero] at e
 have e : Zh (c4 (KY.l1 (R n))) [sl,sl,iv ac.length,.int .i64 0] H=_:=e
 refine ⟨H',?_,k⟩
 rw [R,Zos rfl]
 unfold KY
 rw [Za h.len]
 cases hf : ac.all Ziz
 ·rw [hf] at e
  rw [KI e];rfl
 ·rw [hf] at e
  rw [QX e,ZN,YO,Za h.len,Za QY]
  simp [ret,decide_eq_decide]
  omega
theorem ZjW (h : ND X d r s c) : ∃ X',R (n+10) YG [pt d,strv m] X=some (.tuple #[strv (Zgw m s.OW),iv (Zcn m s.OW)],X')∧HLe X X':=by
 obtain ⟨X1,e1,k1⟩:=Zuu (n:=n) (m:=m) h.ix
 refine ⟨X1,?_,k1⟩
 rw [R,ZkP rfl]
 unfold Zdv
 rw [Za Zv,Za Zg,Za h.l1,Za e1,Za Zn,Za Zm]
 rfl
theorem Zkp : ∃ H',R (n+12) Yy [] H=some (.bool true,H')∧HLe H H':=by
 obtain ⟨H1,d,r,e1,D1,l1,o1,o2⟩:=ZrY (n:=n+9) (X:=H)
 have e1 : R (n+11) Kq [] H=_:=e1
 obtain ⟨H2,e2,D2,s2⟩:=Zfj (n:=n+1) (k:=[97,110,110]) (h:=[49]) D1
 obtain ⟨H3,e3,D3,s3⟩:=Zg1 (n:=n+1) (k:=[97,110,110]) (m:=[65,64,98,46,99]) D2
 obtain ⟨H4,e4,D4,s4⟩:=Znb (n:=n+1) (o:=[97,110,110]) (t:=[98,111,98]) D3
 obtain ⟨H5,e5,l5⟩:=ZjW (n:=n+1) (m:=[97,64,98,46,99]) D4
 have c1 : Qp [97,110,110] [49] (⟨[],[],[],[],fun _ _=>false⟩ : NSt).A=0:=by decide
 have c2 : QC [97,110,110] [65,64,98,46,99] (JY [97,110,110] [49] ⟨[],[],[],[],fun _ _=>false⟩)=0:=by decide
 have c3 : Ji [97,110,110] [98,111,98] (Qr [97,110,110] [65,64,98,46,99] (JY [97,110,110] [49] ⟨[],[],[],[],fun _ _=>false⟩)).A=0:=by decide
 have c4 : Zcn [97,64,98,46,99] (Ys [97,110,110] [98,111,98] (Qr [97,110,110] [65,64,98,46,99] (JY [97,110,110] [49] ⟨[],[],[],[],fun _ _=>false⟩))).OW=0:=by decide
 have c5 : Zgw [97,64,98,46,99] (Ys [97,110,110] [98,111,98] (Qr [97,110,110] [65,64,98,46,99] (JY [97,110,110] [49] ⟨[],[],[],[],fun _ _=>false⟩))).OW=[98,111,98]:=by decide
 rw [c1] at e2
 rw [c2] at e3
 rw [c3] at e4
 rw [c4,c5] at e5
 have e2 : R (n+11) QK [pt d,.string ⟨#[97,110,110]⟩,.string ⟨#[49]⟩] H1=_:=e2
 have e3 : R (n+11) JE [pt d,.string ⟨#[97,110,110]⟩,.string ⟨#[65,64,98,46,99]⟩] H2=_:=e3
 have e4 : R (n+11) YC [pt d,.string ⟨#[97,110,110]⟩,.string ⟨#[98,111,98]⟩] H3=_:=e4
 have e5 : R (n+11) YG [pt d,.string ⟨#[97,64,98,46,99]⟩] H4=_:=e5
 have q1 : bop .ptr .eql (pt d) (.pointer none) H1=some (.bool false,H1):=by rw [JP]
 have z0 : ∀ X : Zc,bop .int .eql (iv 0) (.int .i64 0) X=some (.bool true,X):=fun X=>by rw [ZA];rfl
 have q2 : bop .str .eql (strv [98,111,98]) (.string ⟨#[98,111,98]⟩) H5=some (.bool true,H5):=ZbW (b:=[98,111,98])
 have hf:=l1.more ((s2.trans s3).trans s4) o2
 refine ⟨H5,?_,hf.1.trans l5⟩
 rw [R,Zmi rfl]
 unfold Zff
 rw [Za e1,Za q1,Zb,if_neg (by simp),Za e2,Za e3,Za e4,Za e5,Za Zn,Za Zm,Za (z0 _),ZQ,Zi,Za (z0 _),Z9,Qm,Za Zj]
 simp only [cond_true]
 rw [ZQ,Zi,Za (z0 _),Z9,Qm,Za Zj]
 simp only [cond_true]
 rw [ZQ,Zi,Za (z0 _),Z9,Qm,Za Zj]
 simp only [cond_true]
 rw [ZQ,Zi,Za q2,Z9,Qm,Za Zj]
 rfl
end
end Go.Proofs.YtnnehafmjfmbnaaGreatDoor.A
namespace Go.Proofs.YtnnehafmjfmbnaaGreatDoor.A
set_option linter.unusedVariables false
set_option linter.unusedSimpArgs false
open Go.Proofs Go.Proofs.YtnnehafmjfmbnaaGreatDoor
def JB (u : K0) (s : NSt) : NSt:=
 match u.kd % 11 with
 | 0=>JY u.a u.b s
 | 1=>QS u.a s
 | 2=>J8 u.a u.b s
 | 3=>Qr u.a u.b s
 | 4=>JJ u.a u.is s
 | 5=>Ys u.a u.b s
 | 6=>Zhh u.a s
 | 7=>ZdL u.a s
 | 8=>K4 u.a u.b s
 | 9=>Kh u.a u.b s
 | _=>s
section
variable {X X' Y Y1 Y2 Y3 H0 : Zc} {n d c c' b1 b2 b3 : Nat} {r r' : NR} {uv gv uv' gv' v : Value} {s s' : NSt} {u : K0} {e : Int}
theorem RD.setB {b : Nat} {c1 c2 d1 d2 : Value} (h : RD Y uv gv s) (hb : Y[b]?=some (.cells [c1,c2] 1 false false)) (i1 : KG c1) (i2 : KG c2) : RD (Y.set b (.cells [d1,d2] 1 false false)) uv gv s:=
 ⟨h.ex.imp fun us ⟨a,b⟩=>⟨a.setD hb i1 i2,b⟩,h.n.imp fun q ⟨N,a,b⟩=>⟨N,a.setD hb i1 i2,b⟩⟩
structure ZdH (X X' : Zc) (d : Nat) (r r' : NR) (s' : NSt) (uv' gv' : Value) (c : Nat) : Prop where
 nd : ND X' d r' s' (c+1)
 rd : RD X' uv' gv' s'
 st : ZH r.own X r'.own X'
structure DoB (X Y : Zc) (b1 b2 b3 : Nat) (u : K0) (uv gv : Value) : Prop where
 le : HLe X Y
 h1 : Y[b1]?=some (.cells [uv,gv] 1 false false)
 h2 : Y[b2]?=some (.cells u.cells 1 false false)
 h3 : Y[b3]?=some (.cells [.slice none 0 0,.slice none 0 0] 1 false false)
 b : X.length≤b1∧b1 < b2∧b2 < b3
theorem ZbT (hR : RD X uv gv s) : ∃ b1 b2 b3 Y,(∀ {β : Type} (K : Value→Value→Value→Value→M β),bind (alc 1 (.agg #[uv,gv])) (fun v4=>bind (alc 1 (.agg u.cells.toArray)) fun v5=>bind (alc 1 zD) fun v6=>bind (fa 0 v5) fun v11=>bind (ld1 v11) fun v12=>bind (bop .int .rem v12 (Value.int .u8 11)) fun v13=>K v4 v5 v6 v13) X=K (pt b1) (pt b2) (pt b3) (.int .u8 ((u.kd % 11 : Nat) : Int)) Y)∧DoB X Y b1 b2 b3 u uv gv:=by
 have z1 : alc 1 (.agg #[uv,gv]) X=some (pt X.length,X++[.cells [uv,gv] 1 false false]):=K5 (vs:=[uv,gv]) (by simp only [List.all_cons,hR.oneU,hR.oneG];rfl)
 have k1 : HLe X (X++[Zf.cells [uv,gv] 1 false false]):=.app _ _
 have c1 : (X++[Zf.cells [uv,gv] 1 false false])[X.length]?=some (.cells [uv,gv] 1 false false):=ZD
 generalize X++[Zf.cells [uv,gv] 1 false false]=X1 at z1 k1 c1
 have z2 : alc 1 (.agg u.cells.toArray) X1=some (pt X1.length,X1++[.cells u.cells 1 false false]):=K5 (vs:=u.cells) rfl
 have k2 : HLe X1 (X1++[Zf.cells u.cells 1 false false]):=.app _ _
 have c2 : (X1++[Zf.cells u.cells 1 false false])[X1.length]?=some (.cells u.cells 1 false false):=ZD
 generalize X1++[Zf.cells u.cells 1 false false]=X2 at z2 k2 c2
 have z3 : alc 1 zD X2=some (pt X2.length,X2++[.cells [.slice none 0 0,.slice none 0 0] 1 false false]):=K5 (vs:=[.slice none 0 0,.slice none 0 0]) rfl
 have k3 : HLe X2 (X2++[Zf.cells [.slice none 0 0,.slice none 0 0] 1 false false]):=.app _ _
 have c3 : (X2++[Zf.cells [.slice none 0 0,.slice none 0 0] 1 false false])[X2.length]?=some (.cells [.slice none 0 0,.slice none 0 0] 1 false false):=ZD
 generalize X2++[Zf.cells [.slice none 0 0,.slice none 0 0] 1 false false]=X3 at z3 k3 c3
 have a0 : ld1 (pa X1.length 0) X3=some (.int .u8 u.kd,X3):=Zu (k3 _ _ c2) rfl
 have hmod : (u.kd : Int).tmod 11=((u.kd % 11 : Nat) : Int):=by rw [Int.tmod_eq_emod_of_nonneg (by omega)];omega
 have x0 : bop .int .rem (.int .u8 u.kd) (.int .u8 11) X3=some (.int .u8 ((u.kd % 11 : Nat) : Int),X3):=by rw [JF,if_neg (by omega),hmod]
 refine ⟨X.length,X1.length,X2.length,X3,fun {β} K=>by rw [Za z1,Za z2,Za z3,Za Zg,Za a0,Za x0],(k1.trans k2).trans k3,k3 _ _ (k2 _ _ c1),k3 _ _ c2,c3,Nat.le_refl _,Jg c1,Jg c2⟩
theorem Zce (hd : ND X d r s c) (hR : RD X uv gv s) (hB : DoB X Y b1 b2 b3 u uv gv) (hl : HLe Y Y1) (rd : RD Y1 uv' gv' s') : ∃ Y2,stA 2 (pt b1) (.agg #[uv',gv']) Y1=some (undef,Y2)∧ND Y2 d r s c∧RD Y2 uv' gv' s'∧Y2[b1]?=some (.cells [uv',gv'] 1 false false)∧Y2[b2]?=some (.cells u.cells 1 false false)∧Y2[b3]?=some (.cells [.slice none 0 0,.slice none 0 0] 1 false false)∧HLe X Y2:=by
 obtain ⟨hb1,hb2,hb3⟩:=hB.b
 have g1:=hl _ _ hB.h1
 obtain ⟨iu,ig⟩:=hR.isSl
 have hal : ([uv',gv'].all oneCell)=true:=by simp only [List.all_cons,rd.oneU,rd.oneG];rfl
 have w1:=WM (vs:=[uv',gv']) (n:=2) g1 rfl rfl hal
 exact ⟨Y1.set b1 (.cells [uv',gv'] 1 false false),w1,⟨hd.toND0.box (hB.le.trans hl) hb1,hd.inv⟩,rd.setB g1 iu ig,ZT g1,(List.getElem?_set_ne (by omega)).trans (hl _ _ hB.h2),(List.getElem?_set_ne (by omega)).trans (hl _ _ hB.h3),(hB.le.trans hl).putB hb1⟩
theorem ZbR (hd : ND0 X d r s c) (hl : HLe X Y2) (rd : RD Y2 uv' gv' s') (c1 : Y2[b1]?=some (.cells [uv',gv'] 1 false false)) (c3 : Y2[b3]?=some (.cells [.slice none 0 0,.slice none 0 0] 1 false false)) (hb : X.length≤b1∧b1 < b2∧b2 < b3) (hd2 : ND0 Y2 d r s c) (hst : ZH r.own Y2 r'.own Y3) (hd3 : ND Y3 d r' s' (c+1)) :
  ∃ X',(c4 fun q160_0 q160_1 q160_2 q160_3=>
   bind (ldA 2 q160_0) fun v184x161=>
   bind (bop .int .eql q160_2 q160_3) fun v187x162=>
   bind (stA 2 q160_1 v184x161) fun _=>
   bind (ldA 2 q160_1) fun vrx163=>
   ret (Value.tuple #[vrx163,v187x162])) [pt b1,pt b3,iv e,iv e] Y3=some (.tuple #[.agg #[uv',gv'],.bool true],X')∧ZdH X X' d r r' s' uv' gv' c:=by
 have hc:=hd2.cle hst
 have c1':=hc _ _ _ _ _ c1
 have c3':=hc _ _ _ _ _ c3
 have rd3:=rd.cle hc
 have hal : ([uv',gv'].all oneCell)=true:=by simp only [List.all_cons,rd.oneU,rd.oneG];rfl
 have d1 : ldA 2 (pt b1) Y3=some (.agg #[uv',gv'],Y3):=ZY (n:=2) c1' rfl
 have q : bop .int .eql (iv e) (iv e) Y3=some (.bool true,Y3):=by rw [ZA];simp
 have w1:=WM (vs:=[uv',gv']) (n:=2) c3' rfl rfl hal
 have w1 : stA 2 (pt b3) (.agg #[uv',gv']) Y3=_:=w1
 have d2 : ldA 2 (pt b3) (Y3.set b3 (.cells [uv',gv'] 1 false false))=some (.agg #[uv',gv'],_):=ZY (n:=2) (ZT c3') rfl
 have hs : ZH r.own X r'.own Y3:=hl.stepq.trans hst
 refine ⟨Y3.set b3 (.cells [uv',gv'] 1 false false),by rw [ZK,Za d1,Za q,Za w1,Za d2];rfl,?_,rd3.setB c3' W5 W5,?_⟩
 ·refine hd3.step (o1:=[b3]) (o2:=[b3]) ⟨by simp,fun i hi hn=>List.getElem?_set_ne (fun e=>hn (by simp [e])),fun i hi=>.inl hi⟩ ?_ ?_ ?_ ?_
  ·rw [List.mem_singleton]
   intro e
   have:=hd.dlt
   omega
  ·rw [List.mem_singleton]
   intro e
   have h:=hd3.ix.c
   rw [e,c3'] at h
   cases h
  ·rw [List.mem_singleton]
   intro e
   have h:=hd3.gr.cell
   rw [e,c3'] at h
   cases h
  ·intro j hj hm
   rw [List.mem_singleton] at hm
   subst hm
   exact (hd3.isMap hj).2 _ _ _ _ c3'
 ·exact ⟨by rw [List.length_set];exact hs.len,fun j hj hn=>(List.getElem?_set_ne (by omega)).trans (hs.keep j hj hn),hs.own⟩
theorem ZM {a b f g : Value} {m : M Out} (h : m Y=some (.nrm [a,b,f,g],X')) : jn m (c4 fun q0 q1 q2 q3=>ret (.nrm [q0,q1,q2,q3])) noX ZP Y=some (.nrm [a,b,f,g],X'):=
 (ZV h).trans rfl
theorem ND.more (hd : ND X d r s c) (h : c≤c') : ND X d r s c':=⟨hd.toND0.more h,hd.inv⟩
theorem Zsg (hd : ND X d r s c) (hR : RD X uv gv s) (hk : u.kd % 11=0) : ∃ X' r' uv' gv',R (n+12) Jh [pt d,.agg #[uv,gv],.agg u.cells.toArray] X=some (.tuple #[.agg #[uv',gv'],.bool true],X')∧ZdH X X' d r r' (JB u s) uv' gv' c:=by
 obtain ⟨b1,b2,b3,Y,z,hB⟩:=ZbT (u:=u) hR
 obtain ⟨Y1,uv',e1,rd1,l1⟩:=ZpH (n:=n+5) (k:=u.a) (h:=u.b) (hR.hle hB.le) hd.pinv
 have e1 : R (n+11) Zbb [.agg #[uv,gv],strv u.a,strv u.b] Y=_:=e1
 obtain ⟨Y2,w1,hd2,rd2,c1,c2,c3,l2⟩:=Zce hd hR hB l1 rd1
 obtain ⟨Y3,e2,hd3,st3⟩:=Zfj (n:=n+1) (k:=u.a) (h:=u.b) hd2
 have e2 : R (n+11) QK [pt d,strv u.a,strv u.b] Y2=_:=e2
 obtain ⟨X',e3,hA⟩:=ZbR (e:=Qp u.a u.b s.A) hd.toND0 l2 rd2 c1 c3 hB.b hd2.toND0 st3 (hd3.more (by omega))
 have hn : JB u s=JY u.a u.b s:=by unfold JB;rw [hk];first | done | rfl
 rw [hn]
 refine ⟨X',r,uv',gv,?_,hA⟩
 have dA : ldA 2 (pt b1) Y=some (.agg #[uv,gv],Y):=ZY (n:=2) hB.h1 rfl
 have ya : ld1 (pa b2 1) Y=some (strv u.a,Y):=Zu hB.h2 rfl
 have xa : ld1 (pa b2 1) Y2=some (strv u.a,Y2):=Zu c2 rfl
 have yb : ld1 (pa b2 2) Y=some (strv u.b,Y):=Zu hB.h2 rfl
 have xb : ld1 (pa b2 2) Y2=some (strv u.b,Y2):=Zu c2 rfl
 have q : ∀ j : Int,bop .int .eql (.int .u8 ((0 : Nat) : Int)) (.int .u8 j) Y=some (.bool (decide (((0 : Nat) : Int)=j)),Y):=fun j=>by rw [ZA];rfl
 rw [R,YU rfl]
 unfold Ki
 refine (z _).trans ?_
 rw [hk,Za (q 0)]
 refine (ZV (vs:=[pt b1,pt b3,iv (Qp u.a u.b s.A),iv (Qp u.a u.b s.A)]) (H':=Y3) ?_).trans e3
 rw [Zb,if_pos (by decide),Za dA,Za Zg,Za ya,Za Zg,Za yb,Za e1,Za Zn,Za Zm,Za w1,Za Zg,Za xa,Za Zg,Za xb,Za e2]
 rfl
theorem Zsy (hd : ND X d r s c) (hR : RD X uv gv s) (hk : u.kd % 11=1) : ∃ X' r' uv' gv',R (n+12) Jh [pt d,.agg #[uv,gv],.agg u.cells.toArray] X=some (.tuple #[.agg #[uv',gv'],.bool true],X')∧ZdH X X' d r r' (JB u s) uv' gv' c:=by
 obtain ⟨b1,b2,b3,Y,z,hB⟩:=ZbT (u:=u) hR
 obtain ⟨Y1,uv',e1,rd1,l1⟩:=Zp7 (n:=n+5) (k:=u.a) (hR.hle hB.le) hd.pinv
 have e1 : R (n+11) Zba [.agg #[uv,gv],strv u.a] Y=_:=e1
 obtain ⟨Y2,w1,hd2,rd2,c1,c2,c3,l2⟩:=Zce hd hR hB l1 rd1
 obtain ⟨Y3,e2,hd3,st3⟩:=Zh2 (n:=n+1) (k:=u.a) hd2
 have e2 : R (n+11) Ju [pt d,strv u.a] Y2=_:=e2
 obtain ⟨X',e3,hA⟩:=ZbR (e:=Zl u.a s.A) hd.toND0 l2 rd2 c1 c3 hB.b hd2.toND0 st3 (hd3.more (by omega))
 have hn : JB u s=QS u.a s:=by unfold JB;rw [hk];first | done | rfl
 rw [hn]
 refine ⟨X',r,uv',gv,?_,hA⟩
 have dA : ldA 2 (pt b1) Y=some (.agg #[uv,gv],Y):=ZY (n:=2) hB.h1 rfl
 have ya : ld1 (pa b2 1) Y=some (strv u.a,Y):=Zu hB.h2 rfl
 have xa : ld1 (pa b2 1) Y2=some (strv u.a,Y2):=Zu c2 rfl
 have q : ∀ j : Int,bop .int .eql (.int .u8 ((1 : Nat) : Int)) (.int .u8 j) Y=some (.bool (decide (((1 : Nat) : Int)=j)),Y):=fun j=>by rw [ZA];rfl
 rw [R,YU rfl]
 unfold Ki
 refine (z _).trans ?_
 rw [hk,Za (q 0)]
 refine (ZV (vs:=[pt b1,pt b3,iv (Zl u.a s.A),iv (Zl u.a s.A)]) (H':=Y3) ?_).trans e3
 rw [Zb,if_neg (by decide),Za (q 1)]
 refine ZM ?_
 rw [Zb,if_pos (by decide),Za dA,Za Zg,Za ya,Za e1,Za Zn,Za Zm,Za w1,Za Zg,Za xa,Za e2]
 rfl
theorem ZqP (hd : ND X d r s c) (hR : RD X uv gv s) (hk : u.kd % 11=2) : ∃ X' r' uv' gv',R (n+12) Jh [pt d,.agg #[uv,gv],.agg u.cells.toArray] X=some (.tuple #[.agg #[uv',gv'],.bool true],X')∧ZdH X X' d r r' (JB u s) uv' gv' c:=by
 obtain ⟨b1,b2,b3,Y,z,hB⟩:=ZbT (u:=u) hR
 obtain ⟨Y1,uv',e1,rd1,l1⟩:=Zn2 (n:=n+5) (k:=u.a) (h:=u.b) (hR.hle hB.le) hd.pinv
 have e1 : R (n+11) WK [.agg #[uv,gv],strv u.a,strv u.b] Y=_:=e1
 obtain ⟨Y2,w1,hd2,rd2,c1,c2,c3,l2⟩:=Zce hd hR hB l1 rd1
 obtain ⟨Y3,e2,hd3,st3⟩:=ZrC (n:=n+1) (k:=u.a) (h:=u.b) hd2
 have e2 : R (n+11) Kz [pt d,strv u.a,strv u.b] Y2=_:=e2
 obtain ⟨X',e3,hA⟩:=ZbR (e:=Qq u.a u.b s.A) hd.toND0 l2 rd2 c1 c3 hB.b hd2.toND0 st3 (hd3.more (by omega))
 have hn : JB u s=J8 u.a u.b s:=by unfold JB;rw [hk];first | done | rfl
 rw [hn]
 refine ⟨X',r,uv',gv,?_,hA⟩
 have dA : ldA 2 (pt b1) Y=some (.agg #[uv,gv],Y):=ZY (n:=2) hB.h1 rfl
 have ya : ld1 (pa b2 1) Y=some (strv u.a,Y):=Zu hB.h2 rfl
 have xa : ld1 (pa b2 1) Y2=some (strv u.a,Y2):=Zu c2 rfl
 have yb : ld1 (pa b2 2) Y=some (strv u.b,Y):=Zu hB.h2 rfl
 have xb : ld1 (pa b2 2) Y2=some (strv u.b,Y2):=Zu c2 rfl
 have q : ∀ j : Int,bop .int .eql (.int .u8 ((2 : Nat) : Int)) (.int .u8 j) Y=some (.bool (decide (((2 : Nat) : Int)=j)),Y):=fun j=>by rw [ZA];rfl
 rw [R,YU rfl]
 unfold Ki
 refine (z _).trans ?_
 rw [hk,Za (q 0)]
 refine (ZV (vs:=[pt b1,pt b3,iv (Qq u.a u.b s.A),iv (Qq u.a u.b s.A)]) (H':=Y3) ?_).trans e3
 rw [Zb,if_neg (by decide),Za (q 1)]
 refine ZM ?_
 rw [Zb,if_neg (by decide),Za (q 2)]
 refine ZM ?_
 rw [Zb,if_pos (by decide),Za dA,Za Zg,Za ya,Za Zg,Za yb,Za e1,Za Zn,Za Zm,Za w1,Za Zg,Za xa,Za Zg,Za xb,Za e2]
 rfl
theorem Zrf (hd : ND X d r s c) (hR : RD X uv gv s) (hk : u.kd % 11=3) : ∃ X' r' uv' gv',R (n+12) Jh [pt d,.agg #[uv,gv],.agg u.cells.toArray] X=some (.tuple #[.agg #[uv',gv'],.bool true],X')∧ZdH X X' d r r' (JB u s) uv' gv' c:=by
 obtain ⟨b1,b2,b3,Y,z,hB⟩:=ZbT (u:=u) hR
 obtain ⟨Y1,uv',e1,rd1,l1⟩:=Zo2 (n:=n+5) (k:=u.a) (m:=u.b) (hR.hle hB.le) hd.pinv
 have e1 : R (n+11) WE [.agg #[uv,gv],strv u.a,strv u.b] Y=_:=e1
 obtain ⟨Y2,w1,hd2,rd2,c1,c2,c3,l2⟩:=Zce hd hR hB l1 rd1
 obtain ⟨Y3,e2,hd3,st3⟩:=Zg1 (n:=n+1) (k:=u.a) (m:=u.b) hd2
 have e2 : R (n+11) JE [pt d,strv u.a,strv u.b] Y2=_:=e2
 obtain ⟨X',e3,hA⟩:=ZbR (e:=QC u.a u.b s) hd.toND0 l2 rd2 c1 c3 hB.b hd2.toND0 st3 (hd3.more (by omega))
 have hn : JB u s=Qr u.a u.b s:=by unfold JB;rw [hk];first | done | rfl
 rw [hn]
 refine ⟨X',r,uv',gv,?_,hA⟩
 have dA : ldA 2 (pt b1) Y=some (.agg #[uv,gv],Y):=ZY (n:=2) hB.h1 rfl
 have ya : ld1 (pa b2 1) Y=some (strv u.a,Y):=Zu hB.h2 rfl
 have xa : ld1 (pa b2 1) Y2=some (strv u.a,Y2):=Zu c2 rfl
 have yb : ld1 (pa b2 2) Y=some (strv u.b,Y):=Zu hB.h2 rfl
 have xb : ld1 (pa b2 2) Y2=some (strv u.b,Y2):=Zu c2 rfl
 have q : ∀ j : Int,bop .int .eql (.int .u8 ((3 : Nat) : Int)) (.int .u8 j) Y=some (.bool (decide (((3 : Nat) : Int)=j)),Y):=fun j=>by rw [ZA];rfl
 rw [R,YU rfl]
 unfold Ki
 refine (z _).trans ?_
 rw [hk,Za (q 0)]
 refine (ZV (vs:=[pt b1,pt b3,iv (QC u.a u.b s),iv (QC u.a u.b s)]) (H':=Y3) ?_).trans e3
 rw [Zb,if_neg (by decide),Za (q 1)]
 refine ZM ?_
 rw [Zb,if_neg (by decide),Za (q 2)]
 refine ZM ?_
 rw [Zb,if_neg (by decide),Za (q 3)]
 refine ZM ?_
 rw [Zb,if_pos (by decide),Za dA,Za Zg,Za ya,Za Zg,Za yb,Za e1,Za Zn,Za Zm,Za w1,Za Zg,Za xa,Za Zg,Za xb,Za e2]
 rfl
theorem Zro (hd : ND X d r s c) (hR : RD X uv gv s) (hk : u.kd % 11=4) : ∃ X' r' uv' gv',R (n+12) Jh [pt d,.agg #[uv,gv],.agg u.cells.toArray] X=some (.tuple #[.agg #[uv',gv'],.bool true],X')∧ZdH X X' d r r' (JB u s) uv' gv' c:=by
 obtain ⟨b1,b2,b3,Y,z,hB⟩:=ZbT (u:=u) hR
 obtain ⟨Y1,uv',e1,rd1,l1⟩:=Zn4 (n:=n+5) (k:=u.a) (b:=u.is) (hR.hle hB.le) hd.pinv
 have e1 : R (n+11) WG [.agg #[uv,gv],strv u.a,.bool u.is] Y=_:=e1
 obtain ⟨Y2,w1,hd2,rd2,c1,c2,c3,l2⟩:=Zce hd hR hB l1 rd1
 obtain ⟨Y3,e2,hd3,st3⟩:=ZrD (n:=n+1) (k:=u.a) (b:=u.is) hd2
 have e2 : R (n+11) KA [pt d,strv u.a,.bool u.is] Y2=_:=e2
 obtain ⟨X',e3,hA⟩:=ZbR (e:=JI u.a u.is s.A) hd.toND0 l2 rd2 c1 c3 hB.b hd2.toND0 st3 (hd3.more (by omega))
 have hn : JB u s=JJ u.a u.is s:=by unfold JB;rw [hk];first | done | rfl
 rw [hn]
 refine ⟨X',r,uv',gv,?_,hA⟩
 have dA : ldA 2 (pt b1) Y=some (.agg #[uv,gv],Y):=ZY (n:=2) hB.h1 rfl
 have ya : ld1 (pa b2 1) Y=some (strv u.a,Y):=Zu hB.h2 rfl
 have xa : ld1 (pa b2 1) Y2=some (strv u.a,Y2):=Zu c2 rfl
 have yis : ld1 (pa b2 3) Y=some (.bool u.is,Y):=Zu hB.h2 rfl
 have xis : ld1 (pa b2 3) Y2=some (.bool u.is,Y2):=Zu c2 rfl
 have q : ∀ j : Int,bop .int .eql (.int .u8 ((4 : Nat) : Int)) (.int .u8 j) Y=some (.bool (decide (((4 : Nat) : Int)=j)),Y):=fun j=>by rw [ZA];rfl
 rw [R,YU rfl]
 unfold Ki
 refine (z _).trans ?_
 rw [hk,Za (q 0)]
 refine (ZV (vs:=[pt b1,pt b3,iv (JI u.a u.is s.A),iv (JI u.a u.is s.A)]) (H':=Y3) ?_).trans e3
 rw [Zb,if_neg (by decide),Za (q 1)]
 refine ZM ?_
 rw [Zb,if_neg (by decide),Za (q 2)]
 refine ZM ?_
 rw [Zb,if_neg (by decide),Za (q 3)]
 refine ZM ?_
 rw [Zb,if_neg (by decide),Za (q 4)]
 refine ZM ?_
 rw [Zb,if_pos (by decide),Za dA,Za Zg,Za ya,Za Zg,Za yis,Za e1,Za Zn,Za Zm,Za w1,Za Zg,Za xa,Za Zg,Za xis,Za e2]
 rfl
theorem ZsD (hd : ND X d r s c) (hR : RD X uv gv s) (hk : u.kd % 11=5) : ∃ X' r' uv' gv',R (n+12) Jh [pt d,.agg #[uv,gv],.agg u.cells.toArray] X=some (.tuple #[.agg #[uv',gv'],.bool true],X')∧ZdH X X' d r r' (JB u s) uv' gv' c:=by
 obtain ⟨b1,b2,b3,Y,z,hB⟩:=ZbT (u:=u) hR
 obtain ⟨Y1,uv',e1,rd1,l1⟩:=ZpP (n:=n+5) (o:=u.a) (t:=u.b) (hR.hle hB.le) hd.pinv
 have e1 : R (n+11) W9 [.agg #[uv,gv],strv u.a,strv u.b] Y=_:=e1
 obtain ⟨Y2,w1,hd2,rd2,c1,c2,c3,l2⟩:=Zce hd hR hB l1 rd1
 obtain ⟨Y3,e2,hd3,st3⟩:=Znb (n:=n+1) (o:=u.a) (t:=u.b) hd2
 have e2 : R (n+11) YC [pt d,strv u.a,strv u.b] Y2=_:=e2
 obtain ⟨X',e3,hA⟩:=ZbR (e:=Ji u.a u.b s.A) hd.toND0 l2 rd2 c1 c3 hB.b hd2.toND0 st3 (hd3.more (by omega))
 have hn : JB u s=Ys u.a u.b s:=by unfold JB;rw [hk];first | done | rfl
 rw [hn]
 refine ⟨X',r,uv',gv,?_,hA⟩
 have dA : ldA 2 (pt b1) Y=some (.agg #[uv,gv],Y):=ZY (n:=2) hB.h1 rfl
 have ya : ld1 (pa b2 1) Y=some (strv u.a,Y):=Zu hB.h2 rfl
 have xa : ld1 (pa b2 1) Y2=some (strv u.a,Y2):=Zu c2 rfl
 have yb : ld1 (pa b2 2) Y=some (strv u.b,Y):=Zu hB.h2 rfl
 have xb : ld1 (pa b2 2) Y2=some (strv u.b,Y2):=Zu c2 rfl
 have q : ∀ j : Int,bop .int .eql (.int .u8 ((5 : Nat) : Int)) (.int .u8 j) Y=some (.bool (decide (((5 : Nat) : Int)=j)),Y):=fun j=>by rw [ZA];rfl
 rw [R,YU rfl]
 unfold Ki
 refine (z _).trans ?_
 rw [hk,Za (q 0)]
 refine (ZV (vs:=[pt b1,pt b3,iv (Ji u.a u.b s.A),iv (Ji u.a u.b s.A)]) (H':=Y3) ?_).trans e3
 rw [Zb,if_neg (by decide),Za (q 1)]
 refine ZM ?_
 rw [Zb,if_neg (by decide),Za (q 2)]
 refine ZM ?_
 rw [Zb,if_neg (by decide),Za (q 3)]
 refine ZM ?_
 rw [Zb,if_neg (by decide),Za (q 4)]
 refine ZM ?_
 rw [Zb,if_neg (by decide),Za (q 5)]
 refine ZM ?_
 rw [Zb,if_pos (by decide),Za dA,Za Zg,Za ya,Za Zg,Za yb,Za e1,Za Zn,Za Zm,Za w1,Za Zg,Za xa,Za Zg,Za xb,Za e2]
 rfl
theorem Zul (hd : ND X d r s c) (hR : RD X uv gv s) (hk : u.kd % 11=6) : ∃ X' r' uv' gv',R (n+12) Jh [pt d,.agg #[uv,gv],.agg u.cells.toArray] X=some (.tuple #[.agg #[uv',gv'],.bool true],X')∧ZdH X X' d r r' (JB u s) uv' gv' c:=by
 obtain ⟨b1,b2,b3,Y,z,hB⟩:=ZbT (u:=u) hR
 obtain ⟨Y1,gv',e1,rd1,l1⟩:=ZrV (n:=n+5) (g:=u.a) (hR.hle hB.le) hd.pinv
 have e1 : R (n+11) WQ [.agg #[uv,gv],strv u.a] Y=_:=e1
 obtain ⟨Y2,w1,hd2,rd2,c1,c2,c3,l2⟩:=Zce hd hR hB l1 rd1
 obtain ⟨Y3,r',e2,hd3,st3⟩:=ZtY (n:=n+1) (g:=u.a) hd2
 have e2 : R (n+11) KH [pt d,strv u.a] Y2=_:=e2
 obtain ⟨X',e3,hA⟩:=ZbR (e:=QR u.a s.K) hd.toND0 l2 rd2 c1 c3 hB.b hd2.toND0 st3 (hd3.more (by omega))
 have hn : JB u s=Zhh u.a s:=by unfold JB;rw [hk];first | done | rfl
 rw [hn]
 refine ⟨X',r',uv,gv',?_,hA⟩
 have dA : ldA 2 (pt b1) Y=some (.agg #[uv,gv],Y):=ZY (n:=2) hB.h1 rfl
 have ya : ld1 (pa b2 1) Y=some (strv u.a,Y):=Zu hB.h2 rfl
 have xa : ld1 (pa b2 1) Y2=some (strv u.a,Y2):=Zu c2 rfl
 have q : ∀ j : Int,bop .int .eql (.int .u8 ((6 : Nat) : Int)) (.int .u8 j) Y=some (.bool (decide (((6 : Nat) : Int)=j)),Y):=fun j=>by rw [ZA];rfl
 rw [R,YU rfl]
 unfold Ki
 refine (z _).trans ?_
 rw [hk,Za (q 0)]
 refine (ZV (vs:=[pt b1,pt b3,iv (QR u.a s.K),iv (QR u.a s.K)]) (H':=Y3) ?_).trans e3
 rw [Zb,if_neg (by decide),Za (q 1)]
 refine ZM ?_
 rw [Zb,if_neg (by decide),Za (q 2)]
 refine ZM ?_
 rw [Zb,if_neg (by decide),Za (q 3)]
 refine ZM ?_
 rw [Zb,if_neg (by decide),Za (q 4)]
 refine ZM ?_
 rw [Zb,if_neg (by decide),Za (q 5)]
 refine ZM ?_
 rw [Zb,if_neg (by decide),Za (q 6)]
 refine ZM ?_
 rw [Zb,if_pos (by decide),Za dA,Za Zg,Za ya,Za e1,Za Zn,Za Zm,Za w1,Za Zg,Za xa,Za e2]
 rfl
theorem ZuS (hd : ND X d r s c) (hR : RD X uv gv s) (hk : u.kd % 11=7) : ∃ X' r' uv' gv',R (n+12) Jh [pt d,.agg #[uv,gv],.agg u.cells.toArray] X=some (.tuple #[.agg #[uv',gv'],.bool true],X')∧ZdH X X' d r r' (JB u s) uv' gv' c:=by
 obtain ⟨b1,b2,b3,Y,z,hB⟩:=ZbT (u:=u) hR
 obtain ⟨Y1,uv',gv',e1,rd1,l1⟩:=Zsb (n:=n+5) (g:=u.a) (hR.hle hB.le) hd.pinv
 have e1 : R (n+11) KQ [.agg #[uv,gv],strv u.a] Y=_:=e1
 obtain ⟨Y2,w1,hd2,rd2,c1,c2,c3,l2⟩:=Zce hd hR hB l1 rd1
 obtain ⟨Y3,r',e2,hd3,st3⟩:=Zqk (n:=n+1) (g:=u.a) hd2
 have e2 : R (n+11) Yl [pt d,strv u.a] Y2=_:=e2
 obtain ⟨X',e3,hA⟩:=ZbR (e:=QL u.a s.K) hd.toND0 l2 rd2 c1 c3 hB.b hd2.toND0 st3 (hd3.more (by omega))
 have hn : JB u s=ZdL u.a s:=by unfold JB;rw [hk];first | done | rfl
 rw [hn]
 refine ⟨X',r',uv',gv',?_,hA⟩
 have dA : ldA 2 (pt b1) Y=some (.agg #[uv,gv],Y):=ZY (n:=2) hB.h1 rfl
 have ya : ld1 (pa b2 1) Y=some (strv u.a,Y):=Zu hB.h2 rfl
 have xa : ld1 (pa b2 1) Y2=some (strv u.a,Y2):=Zu c2 rfl
 have q : ∀ j : Int,bop .int .eql (.int .u8 ((7 : Nat) : Int)) (.int .u8 j) Y=some (.bool (decide (((7 : Nat) : Int)=j)),Y):=fun j=>by rw [ZA];rfl
 rw [R,YU rfl]
 unfold Ki
 refine (z _).trans ?_
 rw [hk,Za (q 0)]
 refine (ZV (vs:=[pt b1,pt b3,iv (QL u.a s.K),iv (QL u.a s.K)]) (H':=Y3) ?_).trans e3
 rw [Zb,if_neg (by decide),Za (q 1)]
 refine ZM ?_
 rw [Zb,if_neg (by decide),Za (q 2)]
 refine ZM ?_
 rw [Zb,if_neg (by decide),Za (q 3)]
 refine ZM ?_
 rw [Zb,if_neg (by decide),Za (q 4)]
 refine ZM ?_
 rw [Zb,if_neg (by decide),Za (q 5)]
 refine ZM ?_
 rw [Zb,if_neg (by decide),Za (q 6)]
 refine ZM ?_
 rw [Zb,if_neg (by decide),Za (q 7)]
 refine ZM ?_
 rw [Zb,if_pos (by decide),Za dA,Za Zg,Za ya,Za e1,Za Zn,Za Zm,Za w1,Za Zg,Za xa,Za e2]
 rfl
theorem ZuC (hd : ND X d r s c) (hR : RD X uv gv s) (hk : u.kd % 11=8) : ∃ X' r' uv' gv',R (n+12) Jh [pt d,.agg #[uv,gv],.agg u.cells.toArray] X=some (.tuple #[.agg #[uv',gv'],.bool true],X')∧ZdH X X' d r r' (JB u s) uv' gv' c:=by
 obtain ⟨b1,b2,b3,Y,z,hB⟩:=ZbT (u:=u) hR
 obtain ⟨Y1,uv',e1,rd1,l1⟩:=ZrN (n:=n+5) (g:=u.a) (k:=u.b) (hR.hle hB.le) hd.pinv
 have e1 : R (n+11) Zbg [.agg #[uv,gv],strv u.a,strv u.b] Y=_:=e1
 obtain ⟨Y2,w1,hd2,rd2,c1,c2,c3,l2⟩:=Zce hd hR hB l1 rd1
 obtain ⟨Y3,e2,hd3,st3⟩:=Zub (n:=n) (g:=u.a) (k:=u.b) hd2
 have e2 : R (n+11) WL [pt d,strv u.a,strv u.b] Y2=_:=e2
 obtain ⟨X',e3,hA⟩:=ZbR (e:=Kn u.a u.b s) hd.toND0 l2 rd2 c1 c3 hB.b hd2.toND0 st3 (hd3.more (by omega))
 have hn : JB u s=K4 u.a u.b s:=by unfold JB;rw [hk];first | done | rfl
 rw [hn]
 refine ⟨X',r,uv',gv,?_,hA⟩
 have dA : ldA 2 (pt b1) Y=some (.agg #[uv,gv],Y):=ZY (n:=2) hB.h1 rfl
 have ya : ld1 (pa b2 1) Y=some (strv u.a,Y):=Zu hB.h2 rfl
 have xa : ld1 (pa b2 1) Y2=some (strv u.a,Y2):=Zu c2 rfl
 have yb : ld1 (pa b2 2) Y=some (strv u.b,Y):=Zu hB.h2 rfl
 have xb : ld1 (pa b2 2) Y2=some (strv u.b,Y2):=Zu c2 rfl
 have q : ∀ j : Int,bop .int .eql (.int .u8 ((8 : Nat) : Int)) (.int .u8 j) Y=some (.bool (decide (((8 : Nat) : Int)=j)),Y):=fun j=>by rw [ZA];rfl
 rw [R,YU rfl]
 unfold Ki
 refine (z _).trans ?_
 rw [hk,Za (q 0)]
 refine (ZV (vs:=[pt b1,pt b3,iv (Kn u.a u.b s),iv (Kn u.a u.b s)]) (H':=Y3) ?_).trans e3
 rw [Zb,if_neg (by decide),Za (q 1)]
 refine ZM ?_
 rw [Zb,if_neg (by decide),Za (q 2)]
 refine ZM ?_
 rw [Zb,if_neg (by decide),Za (q 3)]
 refine ZM ?_
 rw [Zb,if_neg (by decide),Za (q 4)]
 refine ZM ?_
 rw [Zb,if_neg (by decide),Za (q 5)]
 refine ZM ?_
 rw [Zb,if_neg (by decide),Za (q 6)]
 refine ZM ?_
 rw [Zb,if_neg (by decide),Za (q 7)]
 refine ZM ?_
 rw [Zb,if_neg (by decide),Za (q 8)]
 refine ZM ?_
 rw [Zb,if_pos (by decide),Za dA,Za Zg,Za ya,Za Zg,Za yb,Za e1,Za Zn,Za Zm,Za w1,Za Zg,Za xa,Za Zg,Za xb,Za e2]
 rfl
theorem ZtJ (hd : ND X d r s c) (hR : RD X uv gv s) (hk : u.kd % 11=9) : ∃ X' r' uv' gv',R (n+12) Jh [pt d,.agg #[uv,gv],.agg u.cells.toArray] X=some (.tuple #[.agg #[uv',gv'],.bool true],X')∧ZdH X X' d r r' (JB u s) uv' gv' c:=by
 obtain ⟨b1,b2,b3,Y,z,hB⟩:=ZbT (u:=u) hR
 obtain ⟨Y1,uv',e1,rd1,l1⟩:=Zrk (n:=n+5) (g:=u.a) (k:=u.b) (hR.hle hB.le) hd.pinv
 have e1 : R (n+11) ZaU [.agg #[uv,gv],strv u.a,strv u.b] Y=_:=e1
 obtain ⟨Y2,w1,hd2,rd2,c1,c2,c3,l2⟩:=Zce hd hR hB l1 rd1
 obtain ⟨Y3,e2,hd3,st3⟩:=Ztv (n:=n) (g:=u.a) (k:=u.b) hd2
 have e2 : R (n+11) K7 [pt d,strv u.a,strv u.b] Y2=_:=e2
 obtain ⟨X',e3,hA⟩:=ZbR (e:=YQ u.a u.b s) hd.toND0 l2 rd2 c1 c3 hB.b hd2.toND0 st3 (hd3.more (by omega))
 have hn : JB u s=Kh u.a u.b s:=by unfold JB;rw [hk];first | done | rfl
 rw [hn]
 refine ⟨X',r,uv',gv,?_,hA⟩
 have dA : ldA 2 (pt b1) Y=some (.agg #[uv,gv],Y):=ZY (n:=2) hB.h1 rfl
 have ya : ld1 (pa b2 1) Y=some (strv u.a,Y):=Zu hB.h2 rfl
 have xa : ld1 (pa b2 1) Y2=some (strv u.a,Y2):=Zu c2 rfl
 have yb : ld1 (pa b2 2) Y=some (strv u.b,Y):=Zu hB.h2 rfl
 have xb : ld1 (pa b2 2) Y2=some (strv u.b,Y2):=Zu c2 rfl
 have q : ∀ j : Int,bop .int .eql (.int .u8 ((9 : Nat) : Int)) (.int .u8 j) Y=some (.bool (decide (((9 : Nat) : Int)=j)),Y):=fun j=>by rw [ZA];rfl
 rw [R,YU rfl]
 unfold Ki
 refine (z _).trans ?_
 rw [hk,Za (q 0)]
 refine (ZV (vs:=[pt b1,pt b3,iv (YQ u.a u.b s),iv (YQ u.a u.b s)]) (H':=Y3) ?_).trans e3
 rw [Zb,if_neg (by decide),Za (q 1)]
 refine ZM ?_
 rw [Zb,if_neg (by decide),Za (q 2)]
 refine ZM ?_
 rw [Zb,if_neg (by decide),Za (q 3)]
 refine ZM ?_
 rw [Zb,if_neg (by decide),Za (q 4)]
 refine ZM ?_
 rw [Zb,if_neg (by decide),Za (q 5)]
 refine ZM ?_
 rw [Zb,if_neg (by decide),Za (q 6)]
 refine ZM ?_
 rw [Zb,if_neg (by decide),Za (q 7)]
 refine ZM ?_
 rw [Zb,if_neg (by decide),Za (q 8)]
 refine ZM ?_
 rw [Zb,if_neg (by decide),Za (q 9)]
 refine ZM ?_
 rw [Zb,if_pos (by decide),Za dA,Za Zg,Za ya,Za Zg,Za yb,Za e1,Za Zn,Za Zm,Za w1,Za Zg,Za xa,Za Zg,Za xb,Za e2]
 rfl
end
end Go.Proofs.YtnnehafmjfmbnaaGreatDoor.A
namespace Go.Proofs.YtnnehafmjfmbnaaGreatDoor.A
set_option linter.unusedVariables false
set_option linter.unusedSimpArgs false
open Go.Proofs Go.Proofs.YtnnehafmjfmbnaaGreatDoor
section
variable {X X' Y Y1 Y2 Y3 H H0 : Zc} {n d c c' b1 b2 b3 w : Nat} {r r' : NR} {uv gv uv' gv' v sl : Value} {s s' : NSt} {u : K0} {e : Int} {ac : List K0}
theorem Zun (hd : ND X d r s c) (hR : RD X uv gv s) (hk : u.kd % 11=10) : ∃ X' r' uv' gv',R (n+12) Jh [pt d,.agg #[uv,gv],.agg u.cells.toArray] X=some (.tuple #[.agg #[uv',gv'],.bool true],X')∧ZdH X X' d r r' (JB u s) uv' gv' c:=by
 obtain ⟨b1,b2,b3,Y,z,hB⟩:=ZbT (u:=u) hR
 have hdY:=hd.hle hB.le
 obtain ⟨Y1,d',r',e1,D1,l1,p1,p2⟩:=ZuQ (n:=n+7) hdY
 have e1 : R (n+11) ZaK [pt d] Y=_:=e1
 obtain ⟨Y2,e2,D2,s2⟩:=Zfj (n:=n+1) (k:=u.a) (h:=[49]) D1
 have e2 : R (n+11) QK [pt d',strv u.a,.string ⟨#[49]⟩] Y1=_:=e2
 obtain ⟨Y3,e3,D3,s3⟩:=Zh2 (n:=n+1) (k:=[97,110,110]) D2
 have e3 : R (n+11) Ju [pt d',.string ⟨#[97,110,110]⟩] Y2=_:=e3
 obtain ⟨Y4,r'',e4,D4,s4⟩:=Zqk (n:=n+1) (g:=[100,101,118]) D3
 have e4 : R (n+11) Yl [pt d',.string ⟨#[100,101,118]⟩] Y3=_:=e4
 obtain ⟨Y5,e5,D5,s5⟩:=Zg1 (n:=n+1) (k:=[98,111,98]) (m:=[113,64,113,46,113]) D4
 have e5 : R (n+11) JE [pt d',.string ⟨#[98,111,98]⟩,.string ⟨#[113,64,113,46,113]⟩] Y4=_:=e5
 have hl5:=(l1.more (((s2.trans s3).trans s4).trans s5) p2).1
 have hX5:=hB.le.trans hl5
 obtain ⟨X',e6,hA⟩:=ZbR (e:=0) hd.toND0 hX5 (hR.hle hX5) (hl5 _ _ hB.h1) (hl5 _ _ hB.h3) hB.b (hd.hle hX5).toND0 (HLe.refl Y5).stepq ((hd.hle hX5).more (by omega))
 have hn : JB u s=s:=by unfold JB;rw [hk];first | done | rfl
 rw [hn]
 refine ⟨X',r,uv,gv,?_,hA⟩
 have ya : ld1 (pa b2 1) Y1=some (strv u.a,Y1):=Zu (l1 _ _ hB.h2) rfl
 have q : ∀ j : Int,bop .int .eql (.int .u8 ((10 : Nat) : Int)) (.int .u8 j) Y=some (.bool (decide (((10 : Nat) : Int)=j)),Y):=fun j=>by rw [ZA];rfl
 rw [R,YU rfl]
 unfold Ki
 refine (z _).trans ?_
 rw [hk,Za (q 0)]
 refine (ZV (vs:=[pt b1,pt b3,iv 0,iv 0]) (H':=Y5) ?_).trans e6
 rw [Zb,if_neg (by decide),Za (q 1)]
 refine ZM ?_
 rw [Zb,if_neg (by decide),Za (q 2)]
 refine ZM ?_
 rw [Zb,if_neg (by decide),Za (q 3)]
 refine ZM ?_
 rw [Zb,if_neg (by decide),Za (q 4)]
 refine ZM ?_
 rw [Zb,if_neg (by decide),Za (q 5)]
 refine ZM ?_
 rw [Zb,if_neg (by decide),Za (q 6)]
 refine ZM ?_
 rw [Zb,if_neg (by decide),Za (q 7)]
 refine ZM ?_
 rw [Zb,if_neg (by decide),Za (q 8)]
 refine ZM ?_
 rw [Zb,if_neg (by decide),Za (q 9)]
 refine ZM ?_
 rw [Zb,if_neg (by decide),Za e1,Za Zg,Za ya,Za e2,Za e3,Za e4,Za e5]
 rfl
theorem ZtS (hd : ND X d r s c) (hR : RD X uv gv s) : ∃ X' r' uv' gv',R (n+12) Jh [pt d,.agg #[uv,gv],.agg u.cells.toArray] X=some (.tuple #[.agg #[uv',gv'],.bool true],X')∧ZdH X X' d r r' (JB u s) uv' gv' c:=by
 have h11 : u.kd % 11 < 11:=Nat.mod_lt _ (by decide)
 rcases (by omega : u.kd % 11=0∨u.kd % 11=1∨u.kd % 11=2∨u.kd % 11=3∨u.kd % 11=4∨u.kd % 11=5∨u.kd % 11=6∨u.kd % 11=7∨u.kd % 11=8∨u.kd % 11=9∨u.kd % 11=10) with h | h | h | h | h | h | h | h | h | h | h
 ·exact Zsg hd hR h
 ·exact Zsy hd hR h
 ·exact ZqP hd hR h
 ·exact Zrf hd hR h
 ·exact Zro hd hR h
 ·exact ZsD hd hR h
 ·exact Zul hd hR h
 ·exact ZuS hd hR h
 ·exact ZuC hd hR h
 ·exact ZtJ hd hR h
 ·exact Zun hd hR h
theorem ND.setBox (hd : ND X d r s c) {ob : Zf} (hw : X[w]?=some (.cells [uv,gv] 1 false false)) (iu : KG uv) (ig : KG gv) : ND (X.set w ob) d r s c:=by
 obtain ⟨a1,n1,c1,rfl⟩:=iu
 obtain ⟨a2,n2,c2,rfl⟩:=ig
 refine hd.step (o1:=[w]) (o2:=[w]) ⟨by simp,fun i hi hn=>List.getElem?_set_ne (fun e=>hn (by simp [e])),fun i hi=>.inl hi⟩ ?_ ?_ ?_ ?_
 ·rw [List.mem_singleton]
  intro e
  have h:=hd.cell
  rw [e,hw] at h
  cases h
 ·rw [List.mem_singleton]
  intro e
  have h:=hd.ix.c
  rw [e,hw] at h
  cases h
 ·rw [List.mem_singleton]
  intro e
  have h:=hd.gr.cell
  rw [e,hw] at h
  cases h
 ·intro j hj hm
  rw [List.mem_singleton] at hm
  subst hm
  exact (hd.isMap hj).2 _ _ _ _ hw
structure NL (H X : Zc) (d : Nat) (r : NR) (s : NSt) (uv gv : Value) (w c : Nat) : Prop where
 le : HLe H X
 nd : ND X d r s c
 rd : RD X uv gv s
 own : ∀ i∈r.own,H.length≤i
 w : X[w]?=some (.cells [uv,gv] 1 false false)
theorem NL.hle (h : NL H X d r s uv gv w c) (hl : HLe X X') : NL H X' d r s uv gv w c:=⟨h.le.trans hl,h.nd.hle hl,h.rd.hle hl,h.own,hl _ _ h.w⟩
theorem Zvz (hA : Zbv H sl ac) (hw0 : H.length≤w) {j : Nat} (hja : ac[j]?=some u) (h : NL H X d r s uv gv w c) :
  ∃ X' r' uv' gv',(∀ {β : Type} (K : Value→M β),bind (ixa 4 sl (iv j)) (fun p=>bind (ldA 4 p) fun v=>bind (alc 1 zNA) fun q=>bind (stA 4 q v) fun _=>bind (ldA 2 (pt w)) fun v25=>bind (ldA 4 q) fun v26=>bind (R (n+12) Jh [pt d,v25,v26]) fun v27=>bind (Zk v27 0) fun v28=>bind (Zk v27 1) fun v29=>bind (stA 2 (pt w) v28) fun _=>K v29) X=K (.bool true) X')∧NL H X' d r' (JB u s) uv' gv' w (c+1):=by
 have g1 : (X++[Zf.cells u.cells 1 false false])[X.length]?=some (.cells u.cells 1 false false):=ZD
 have hf:=fun {β : Type} {K : Value→M β}=>(hA.mono h.le).fetch (k:=K) hja
 have k1 : HLe X (X++[Zf.cells u.cells 1 false false]):=.app _ _
 generalize X++[Zf.cells u.cells 1 false false]=X1 at g1 k1 hf
 have h1:=h.hle k1
 have d1 : ldA 2 (pt w) X1=some (.agg #[uv,gv],X1):=ZY h1.w rfl
 have d2 : ldA 4 (pt X.length) X1=some (.agg u.cells.toArray,X1):=ZY g1 rfl
 obtain ⟨X2,r',uv',gv',e2,hF⟩:=ZtS (n:=n) (u:=u) h1.nd h1.rd
 have hc:=h1.nd.toND0.cle hF.st
 have hw2:=hc _ _ _ _ _ h1.w
 obtain ⟨hm1,hm2⟩:=h1.le.more hF.st h1.own
 obtain ⟨iu,ig⟩:=h1.rd.isSl
 have hal : ([uv',gv'].all oneCell)=true:=by simp only [List.all_cons,hF.rd.oneU,hF.rd.oneG];rfl
 have w1 : stA 2 (pt w) (.agg #[uv',gv']) X2=some (undef,X2.set w (.cells [uv',gv'] 1 false false)):=WM (vs:=[uv',gv']) hw2 rfl rfl hal
 refine ⟨X2.set w (.cells [uv',gv'] 1 false false),r',uv',gv',fun {β} K=>?_,⟨hm1.setN hw0,hF.nd.setBox hw2 iu ig,hF.rd.setB hw2 iu ig,hm2,ZT hw2⟩⟩
 refine hf.trans ?_
 rw [Za d1,Za d2,Za e2,Za Zn,Za Zm,Za w1]
end
end Go.Proofs.YtnnehafmjfmbnaaGreatDoor.A

namespace Go.Proofs.YtnnehafmjfmbnaaGreatDoor.A
set_option linter.unusedVariables false
set_option linter.unusedSimpArgs false
open Go.Proofs Go.Proofs.YtnnehafmjfmbnaaGreatDoor
section
variable {H : Zc} {n : Nat} {s : List UInt8}
end
end Go.Proofs.YtnnehafmjfmbnaaGreatDoor.A

namespace Go.Proofs.YtnnehafmjfmbnaaGreatDoor.A
set_option linter.unusedVariables false
set_option linter.unusedSimpArgs false
open Go.Proofs Go.Proofs.YtnnehafmjfmbnaaGreatDoor
section
variable {X X' Y H H0 : Zc} {n d c w : Nat} {r : NR} {uv gv sl wv : Value} {s : NSt} {us ws : List Zo} {k m g pre : Tx} {q0 : List Nat}
end
end Go.Proofs.YtnnehafmjfmbnaaGreatDoor.A

namespace Go.Proofs.YtnnehafmjfmbnaaGreatDoor.A
set_option linter.unusedVariables false
set_option linter.unusedSimpArgs false
open Go.Proofs Go.Proofs.YtnnehafmjfmbnaaGreatDoor
section
variable {X X' H H0 : Zc} {n d c w : Nat} {r : NR} {uv gv sl : Value} {s : NSt} {u : K0} {ac : List K0}
theorem ZvB (K : Value→Value→A.M Value) : ∃ X' d r w,bind (R (n+12) Kq []) (fun v=>bind (alc 1 zD) fun b=>K v b) X=K (pt d) (pt w) X'∧NL X X' d r ⟨[],[],[],[],fun _ _=>false⟩ (.slice none 0 0) (.slice none 0 0) w 0∧X.length≤w:=by
 obtain ⟨X1,d,r,e1,D1,l1,o1,o2⟩:=ZrY (n:=n+10) (X:=X)
 have e1 : R (n+12) Kq [] X=_:=e1
 have z3 : alc 1 zD X1=some (pt X1.length,X1++[.cells [.slice none 0 0,.slice none 0 0] 1 false false]):=K5 (vs:=[.slice none 0 0,.slice none 0 0]) rfl
 have k3 : HLe X1 (X1++[Zf.cells [.slice none 0 0,.slice none 0 0] 1 false false]):=.app _ _
 have c3 : (X1++[Zf.cells [.slice none 0 0,.slice none 0 0] 1 false false])[X1.length]?=some (.cells [.slice none 0 0,.slice none 0 0] 1 false false):=ZD
 refine ⟨_,d,r,X1.length,?_,⟨l1.trans k3,D1.hle k3,⟨⟨[],⟨SlN.nil,by simp⟩,⟨List.Pairwise.nil,fun key=>?_⟩⟩,⟨[],[],ZE.nil,⟨List.Pairwise.nil,by simp⟩⟩⟩,o2,c3⟩,l1.len⟩
 ·rw [Za e1,Za z3]
 ·unfold Zz
  simp [Ze]
end
end Go.Proofs.YtnnehafmjfmbnaaGreatDoor.A

