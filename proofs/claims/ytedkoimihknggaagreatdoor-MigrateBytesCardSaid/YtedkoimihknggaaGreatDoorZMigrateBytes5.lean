/- What the law MigrateBytes needs (part 5). -/
import Derived.Test.YtedkoimihknggaaGreatDoorZMigrateBytes4
namespace Go.Proofs.YtedkoimihknggaaGreatDoor.A
set_option linter.unusedVariables false
set_option linter.unusedSimpArgs false
open Go.Proofs Go.Proofs.YtedkoimihknggaaGreatDoor
def Jm : List Zp→Int
 | []=>0
 | u :: l=>if QT u=0 then Jm l else QT u
def ZdG (us : List Zp) : Int:=if Jm us=0 then (if Jn (us.map (·.nm)) then (if 12 < us.length then 7 else 0) else 9) else Jm us
def Zbb (us : List Zp) (gs : List Tx) : Int:=if ZdG us=0 then (if gs.all ZB then (if Jn gs then (if 6 < gs.length then 7 else 0) else 9) else 10) else ZdG us
def Zcr (gs : List Tx) (prev : List Zp) (u : Zp) : Int:=if u.gs.all (fun g=>decide (g∈gs)) then (if u.ml≠[]∧prev.any (fun v=>u.ml==v.ml)=true then 9 else 0) else 8
def Kf (gs : List Tx) : List Zp→List Zp→Int
 | _,[]=>0
 | prev,u :: l=>if Zcr gs prev u=0 then Kf gs (prev++[u]) l else Zcr gs prev u
def WJ (us : List Zp) (gs : List Tx) : Int:=if Zbb us gs=0 then Kf gs [] us else Zbb us gs
def Zua (X : Zd) (sl : Value) (us : List Zp) : Prop:=∀ k,k≤us.length→∃ v,(∀ X',HLe X X'→slv 5 sl none (some (iv k)) none X'=some (v,X'))∧SlN 5 X v ((us.take k).map Zp.cells)
section
variable {X X' H H0 : Zd} {n p d b : Nat} {v sl gv : Value} {l gs : List Tx} {m : Tx} {u : Zp} {us : List Zp}
theorem Zji : ∀ {us : List Zp} {a : Tx},WT (some a) us=Jn (a :: us.map (·.nm))
 | [],a=>rfl
 | u :: us,a=>by
  rw [Zci,Zji (us:=us),List.map_cons,ZbB]
  rfl
theorem ZkO : WT none us=Jn (us.map (·.nm)):=by
 cases us with
 | nil=>rfl
 | cons u us=>rw [Zci,Zji,List.map_cons];rfl
theorem Zfv : ∀ {l : List Tx},Jn l=true→l.Pairwise (· < ·)
 | [],_=>List.Pairwise.nil
 | [a],_=>by simp
 | a :: b :: l,h=>by
  rw [ZbB,Bool.and_eq_true,decide_eq_true_eq] at h
  have ih:=Zfv h.2
  refine List.Pairwise.cons (fun x hx=>?_) ih
  rcases List.mem_cons.1 hx with rfl | hx
  ·exact h.1
  ·exact List.lt_trans h.1 ((List.pairwise_cons.1 ih).1 x hx)
theorem ZjK : ∀ {us : List Zp},Jm us=0→∀ u∈us,QT u=0
 | [],_,_,h=>by simp at h
 | w :: us,h,u,hu=>by
  unfold Jm at h
  by_cases hw : QT w=0
  ·rw [if_pos hw] at h
   rcases List.mem_cons.1 hu with rfl | hu
   ·exact hw
   ·exact ZjK h u hu
  ·rw [if_neg hw] at h;exact absurd h hw
theorem Zk4 {k : Nat} (hl : l.length≤1000000) (hs : Sl X v (l.map strv)) : R (n+4) Ki [v,iv k] X=some (iv (if Jn l then (if k < l.length then 7 else 0) else 9),X):=by
 have hlen : ZH v X=some (iv l.length,X):=by have:=hs.len (H':=X);simpa using this
 have lp : ∀ (t j : Nat),l.length - j=t→1≤j→(j≤l.length∨j=1)→Zj (c3 (KO.l1 (R (n+3)))) [v,iv k,iv j] X=some (if Jn (l.drop (j - 1)) then .ext 0 [v,iv k] else .ret (iv 9),X):=by
  intro t
  induction t with
  | zero=>
   intro j ht hj hj2
   have hr : Jn (l.drop (j - 1))=true:=by
    have h1 : (l.drop (j - 1)).length≤1:=by rw [List.length_drop];omega
    match l.drop (j - 1),h1 with
    | [],_=>rfl
    | [a],_=>rfl
   rw [hr]
   refine ZD ?_
   rw [ZX]
   unfold KO.l1
   rw [Za hlen,Za Zg,Zb,if_neg (by simp;omega)]
   rfl
  | succ t ih=>
   intro j ht hj hj2
   have hkl : j < l.length:=by omega
   have hlt : (j : Int) < l.length:=by omega
   have hk0 : j - 1 < l.length:=by omega
   have hg:=List.getElem?_eq_getElem hkl
   have hg0:=List.getElem?_eq_getElem hk0
   have hd:=List.drop_eq_getElem_cons hkl
   have hd0:=List.drop_eq_getElem_cons hk0
   rw [show j - 1+1=j by omega,hd] at hd0
   generalize l[j]=y at hg hd hd0
   generalize l[j - 1]=y0 at hg0 hd0
   have x1:=hs.ix (i:=j) (by simpa using hkl) .i64 X
   have x2:=hs.ldx (J9 hg)
   have x3:=hs.ix (i:=j - 1) (by simpa using hk0) .i64 X
   have x4:=hs.ldx (J9 hg0)
   have w0 : IntKind.i64.wrap ((j : Int) - 1)=((j - 1 : Nat) : Int):=by rw [w64 (by omega) (by omega)];omega
   have e1 : R (n+3) Qx [strv y0,strv y] X=some (iv (Zb7 y0 y),X):=ZoL (n:=n)
   have q1 : bop .int .geq (iv (Zb7 y0 y)) (.int .i64 0) X=some (.bool (!decide (y0 < y)),X):=by rw [Qz,ZsF]
   rw [hd0,ZbB]
   by_cases hy : y0 < y
   ·rw [decide_eq_true hy] at q1 ⊢
    rw [Bool.true_and,← hd]
    have ih:=ih (j+1) (by omega) (by omega) (by omega)
    rw [Nat.add_sub_cancel] at ih
    refine (Zr ?_).trans ih
    rw [ZX]
    unfold KO.l1
    rw [Za hlen,Za Zg,Zb,if_pos (by simpa using hlt),Za Qr,w0,Za x3,Za x4,Za x1,Za x2,Za e1,Za q1,Zb,if_neg (by simp),Za Zt,Qh (by omega)]
    rfl
   ·rw [decide_eq_false hy] at q1 ⊢
    refine Qc ?_
    rw [ZX]
    unfold KO.l1
    rw [Za hlen,Za Zg,Zb,if_pos (by simpa using hlt),Za Qr,w0,Za x3,Za x4,Za x1,Za x2,Za e1,Za q1,Zb,if_pos (by simp)]
    rfl
 have e1:=lp (l.length - 1) 1 rfl (Nat.le_refl _) (.inr rfl)
 rw [show iv ((1 : Nat) : Int)=.int .i64 1 from rfl,Nat.sub_self,List.drop_zero] at e1
 rw [R,Zpu rfl]
 unfold KO
 cases hr : Jn l
 ·rw [hr] at e1
  rw [QI e1];rfl
 ·rw [hr] at e1
  rw [ZO e1,Zu,ZP,Za hlen,Za ZF,Zb]
  by_cases h : k < l.length
  ·rw [if_pos (by simp;omega),if_pos h];rfl
  ·rw [if_neg (by simp;omega),if_neg h];rfl
theorem Zq4 (hn : us.length≤1000) (hA : QV H0 sl us) : ∀ (t j : Nat) (nv : Value) (q : List Nat) (acc : List Tx) (X : Zd),us.length - j=t→j≤us.length→acc.length≤j→HLe H0 X→(∀ i∈q,H0.length≤i)→Zs X nv (acc.map strv) q→
  ∃ X' o,Zj (c5 (QW.l1 (R (n+10)))) [gv,nv,sl,iv us.length,iv j] X=some (o,X')∧HLe H0 X'∧(if Jm (us.drop j)=0 then ∃ nv' q',o=.ext 0 [gv,nv']∧Zs X' nv' ((acc++(us.drop j).map (·.nm)).map strv) q' else o=.ret (iv (Jm (us.drop j))))
 | 0,j,nv,q,acc,X,ht,hj,ha,hle,hq,hr=>by
  rw [List.drop_eq_nil_of_le (by omega)]
  refine ⟨X,.ext 0 [gv,nv],ZD ?_,hle,?_⟩
  ·rw [ZU,show j=us.length by omega]
   unfold QW.l1
   rw [Za Zg,Zb,if_neg (by simp)]
   rfl
  ·rw [if_pos (show Jm []=0 from rfl)]
   exact ⟨nv,q,rfl,by simpa using hr⟩
 | t+1,j,nv,q,acc,X,ht,hj,ha,hle,hq,hr=>by
  have hjl : j < us.length:=by omega
  have hlt : (j : Int) < us.length:=by omega
  have hg:=List.getElem?_eq_getElem hjl
  have hd:=List.drop_eq_getElem_cons hjl
  generalize us[j]=u at hg hd
  have hok:=(hA.mono hle).ok (List.mem_of_getElem? hg)
  have hf:=fun {K : Value→M Out}=>ZcM (k:=K) (hA.mono hle).1 hok.2.1 hg
  have g1 : (X++[Zc.cells u.cells 1 false false])[X.length]?=some (.cells u.cells 1 false false):=Zm
  have k1 : HLe X (X++[Zc.cells u.cells 1 false false]):=.app _ _
  generalize X++[Zc.cells u.cells 1 false false]=X1 at g1 k1 hf
  generalize X.length=p at g1 hf
  have d1 : ldA 5 (pt p) X1=some (.agg u.cells.toArray,X1):=ZE (n:=5) g1 rfl
  obtain ⟨X2,e2,k2⟩:=Zfq (n:=n) (hok.hle k1)
  have k12:=k1.trans k2
  have le2:=hle.trans k12
  rw [hd]
  unfold Jm
  by_cases he : QT u=0
  ·rw [he] at e2
   simp only [if_pos he]
   have q2 : bop .int .neq (iv 0) (.int .i64 0) X2=some (.bool false,X2):=by rw [Zq];rfl
   have l0 : ld1 (pa p 0) X2=some (strv u.nm,X2):=ZN (k2 _ _ g1) rfl
   have x4:=ZqF (es:=1) (z:=.string ⟨#[]⟩) (v:=strv u.nm) (H:=X2) rfl rfl rfl
   have k3 : HLe X2 (X2++[Zc.cells [strv u.nm] 1 false false]):=.app _ _
   have s3 : Sl (X2++[Zc.cells [strv u.nm] 1 false false]) (.slice (some ⟨X2.length,0,none⟩) 1 1) [strv u.nm]:=Sl.one (c:=1) Zm
   generalize X2++[Zc.cells [strv u.nm] 1 false false]=X3 at x4 k3 s3
   have hr3 : Zs X3 nv _ q:=hr.step (k12.trans k3).step (by simp)
   obtain ⟨nv',X4,q',x5,hr4,s4,_⟩:=hr3.push (b:=16) s3 (by simp;omega) (by simp;omega)
   have hm:=(le2.trans k3).more s4 hq
   have hr4' : Zs X4 nv' ((acc++[u.nm]).map strv) q':=by rw [List.map_append];exact hr4
   obtain ⟨X5,o5,e5,k5,h5⟩:=Zq4 hn hA t (j+1) nv' q' (acc++[u.nm]) X4 (by omega) (by omega) (by simp;omega) hm.1 hm.2 hr4'
   refine ⟨X5,o5,(Zr ?_).trans e5,k5,by simpa using h5⟩
   rw [ZU]
   unfold QW.l1
   rw [Za Zg,Zb,if_pos (by simpa using hlt),hf,Za d1,Za e2,Za q2,Zb,if_neg (by simp),Za Zi,Za l0,Za x4,Za x5,Za Zt,Qh (by omega)]
   rfl
  ·simp only [if_neg he]
   have q2 : bop .int .neq (iv (QT u)) (.int .i64 0) X2=some (.bool true,X2):=by rw [Zq];simp [he]
   refine ⟨X2,_,Qc (v:=iv (QT u)) ?_,le2,rfl⟩
   rw [ZU]
   unfold QW.l1
   rw [Za Zg,Zb,if_pos (by simpa using hlt),hf,Za d1,Za e2,Za q2,Zb,if_pos rfl]
   rfl
theorem ZqK (hl : l.length≤1000000) (hs : Sl X v (l.map strv)) : ∀ (t j : Nat),l.length - j=t→j≤l.length→
  Zj (c4 (QW.l2 (R (n+5)))) [v,v,iv l.length,iv j] X=some (if (l.drop j).all ZB then .ext 2 [v] else .ret (iv 10),X)
 | 0,j,ht,hj=>by
  rw [List.drop_eq_nil_of_le (by omega)]
  refine ZD ?_
  rw [ZC,show j=l.length by omega]
  unfold QW.l2
  rw [Za Zg,Zb,if_neg (by simp)]
  rfl
 | t+1,j,ht,hj=>by
  have hkl : j < l.length:=by omega
  have hlt : (j : Int) < l.length:=by omega
  have hg:=List.getElem?_eq_getElem hkl
  have hd:=List.drop_eq_getElem_cons hkl
  generalize l[j]=y at hg hd
  have x1:=hs.ix (i:=j) (by simpa using hkl) .i64 X
  have x2:=hs.ldx (J9 hg)
  have e1 : R (n+5) JM [strv y] X=some (iv (Z7 y),X):=ZdH
  rw [hd,List.all_cons]
  cases hn : ZB y
  ·have he : Z7 y=10:=by unfold Z7;rw [hn];rfl
   rw [he] at e1
   refine Qc ?_
   rw [ZC]
   unfold QW.l2
   rw [Za Zg,Zb,if_pos (by simpa using hlt),Za x1,Za x2,Za e1,Za Zq,Zb,if_pos (by simp)]
   rfl
  ·have he : Z7 y=0:=Zew.2 hn
   rw [he] at e1
   rw [Bool.true_and]
   refine (Zr ?_).trans (ZqK hl hs t (j+1) (by omega) (by omega))
   rw [ZC]
   unfold QW.l2
   rw [Za Zg,Zb,if_pos (by simpa using hlt),Za x1,Za x2,Za e1,Za Zq,Zb,if_neg (by simp),Za Zt,Qh (by omega)]
   rfl
theorem Zri (hn : us.length≤1000) (hl : gs.length≤1000000) (hA : QV X sl us) (hs : Sl X gv (gs.map strv)) : ∃ X',R (n+11) Zbu [sl,gv] X=some (iv (Zbb us gs),X')∧HLe X X':=by
 obtain ⟨X1,o,e1,k1,h1⟩:=Zq4 (n:=n) (gv:=gv) hn hA us.length 0 (.slice none 0 0) [] [] X (by omega) (by omega) (by simp) (.refl _) (by simp) Zs.nil
 rw [List.drop_zero] at h1
 have e1 : Zj (c5 (QW.l1 (R (n+10)))) [gv,.slice none 0 0,sl,iv us.length,.int .i64 0] X=_:=e1
 have hlen : ZH sl X=some (iv us.length,X):=by have:=hA.1.len (H':=X);rwa [List.length_map] at this
 have f1 : ∀ r X',QW (R (n+10)) sl gv X=some (r,X')→R (n+11) Zbu [sl,gv] X=some (r,X'):=fun r X' hr=>by rw [R,ZnT rfl];exact hr
 refine ⟨X1,f1 _ _ ?_,k1⟩
 unfold QW Zbb ZdG
 rw [Za hlen]
 by_cases hf : Jm us=0
 ·rw [if_pos hf] at h1
  simp only [if_pos hf]
  obtain ⟨nv,q,rfl,hr⟩:=h1
  rw [List.nil_append] at hr
  have e2 : R (n+10) Ki [nv,iv 12] X1=_:=Zk4 (n:=n+6) (k:=12) (l:=us.map (·.nm)) (by rw [List.length_map];omega) hr.rd
  have hs1:=hs.mono k1
  have hgl : ZH gv X1=some (iv gs.length,X1):=by have:=hs1.len (H':=X1);simpa using this
  have e3:=ZqK (n:=n+5) hl hs1 gs.length 0 (by omega) (by omega)
  rw [show iv ((0 : Nat) : Int)=.int .i64 0 from rfl,List.drop_zero] at e3
  have e4 : R (n+10) Ki [gv,iv 6] X1=_:=Zk4 (n:=n+6) (k:=6) hl hs1
  rw [List.length_map] at e2
  rw [ZO e1,Zu,ZP]
  cases hr1 : Jn (us.map (·.nm))
  ·rw [hr1] at e2
   have e2 : R (n+10) Ki [nv,iv 12] X1=some (iv 9,X1):=e2
   rw [Za e2,Za Zq,Zb,if_pos (by simp)]
   rfl
  ·rw [hr1] at e2
   simp only [if_true] at e2 ⊢
   by_cases h12 : 12 < us.length
   ·rw [if_pos h12] at e2 ⊢
    have e2 : R (n+10) Ki [nv,iv 12] X1=some (iv 7,X1):=e2
    rw [Za e2,Za Zq,Zb,if_pos (by simp)]
    rfl
   ·rw [if_neg h12] at e2 ⊢
    have e2 : R (n+10) Ki [nv,iv 12] X1=some (iv 0,X1):=e2
    rw [Za e2,Za Zq,Zb,if_neg (by simp),Za hgl,if_pos rfl]
    cases ha : gs.all ZB
    ·rw [ha] at e3
     rw [QI e3];rfl
    ·rw [ha] at e3
     rw [ZO e3,Zu,Jy,Za e4]
     rfl
 ·rw [if_neg hf] at h1
  simp only [if_neg hf]
  subst h1
  rw [QI e1]
  rfl
theorem ZqQ (hn : us.length≤1000) (hA : QV H0 sl us) : ∀ (t k : Nat) (X : Zd),us.length - k=t→k≤us.length→HLe H0 X→
  ∃ X',Zj (c5 (Qb.l1 (R (n+5)))) [sl,iv 2,sl,iv us.length,iv k] X=some (if Jm (us.drop k)=0 then .ext 0 [sl] else .ret (iv (Jm (us.drop k))),X')∧HLe H0 X'
 | 0,k,X,ht,hk,hle=>by
  rw [List.drop_eq_nil_of_le (by omega)]
  refine ⟨X,ZD ?_,hle⟩
  rw [ZU,show k=us.length by omega]
  unfold Qb.l1
  rw [Za Zg,Zb,if_neg (by simp)]
  rfl
 | t+1,k,X,ht,hk,hle=>by
  have hkl : k < us.length:=by omega
  have hlt : (k : Int) < us.length:=by omega
  have hg:=List.getElem?_eq_getElem hkl
  have hd:=List.drop_eq_getElem_cons hkl
  generalize us[k]=u at hg hd
  have hok:=(hA.mono hle).ok (List.mem_of_getElem? hg)
  have hf:=fun {K : Value→M Out}=>ZcM (k:=K) (hA.mono hle).1 hok.2.1 hg
  have g1 : (X++[Zc.cells u.cells 1 false false])[X.length]?=some (.cells u.cells 1 false false):=Zm
  have k1 : HLe X (X++[Zc.cells u.cells 1 false false]):=.app _ _
  generalize X++[Zc.cells u.cells 1 false false]=X1 at g1 k1 hf
  have d1 : ldA 5 (pt X.length) X1=some (.agg u.cells.toArray,X1):=ZE (n:=5) g1 rfl
  obtain ⟨X2,e2,k2⟩:=ZkY (n:=n) (hok.hle k1)
  have hb : c5 (Qb.l1 (R (n+5))) [sl,iv 2,sl,iv us.length,iv k] X=some (if QT u=0 then .nrm [sl,iv 2,sl,iv us.length,iv ((k+1 : Nat) : Int)] else .ret (iv (QT u)),X2):=by
   rw [ZU]
   unfold Qb.l1
   rw [Za Zg,Zb,if_pos (by simpa using hlt),hf,Za d1,Za e2,Za Zq,Zb]
   by_cases h : QT u=0
   ·rw [if_neg (by simp [h]),if_pos h,Za Zt,Qh (by omega)];rfl
   ·rw [if_pos (by simp [h]),if_neg h];rfl
  rw [hd]
  unfold Jm
  by_cases h : QT u=0
  ·rw [if_pos h] at hb
   simp only [if_pos h]
   obtain ⟨X3,e3,k3⟩:=ZqQ hn hA t (k+1) X2 (by omega) (by omega) (hle.trans (k1.trans k2))
   exact ⟨X3,(Zr hb).trans e3,k3⟩
  ·rw [if_neg h] at hb
   simp only [if_neg h]
   exact ⟨X2,Qc hb,hle.trans (k1.trans k2)⟩
theorem QV.nmAt (hA : QV X sl us) {i : Nat} (hi : us[i]?=some u) : ∃ id o,ixa 5 sl (iv i) X=some (pa id o,X)∧ld1 (pa id (o+0)) X=some (strv u.nm,X):=by
 obtain ⟨id,o,cs,e,g,ro,e1,e2,e3,e4,_⟩:=hA.1.at (i:=i) (r:=u.cells) (by rw [List.getElem?_map,hi];rfl) (by omega) .i64
 refine ⟨id,o,e1 X,?_⟩
 rw [Qj,e2,Je]
 have : cs[o+0]?=some (strv u.nm):=by
  have h0 : ((cs.drop o).take 5)[0]?=some (strv u.nm):=by rw [e3];rfl
  rw [List.getElem?_take,if_pos (by omega),List.getElem?_drop] at h0
  exact h0
 rw [this];rfl
theorem Zp4 (hn : us.length≤1000) (hA : QV H0 sl us) : ∀ (t k : Nat) (X : Zd),us.length - k=t→k≤us.length→HLe H0 X→
  ∃ X',Zj (c4 (Qb.l2 (R n))) [sl,sl,iv us.length,iv k] X=some (if WT (K2 us k) (us.drop k) then .ext 2 [sl] else .ret (iv 9),X')∧HLe H0 X'
 | 0,k,X,ht,hk,hle=>by
  have : k=us.length:=by omega
  subst this
  rw [List.drop_length]
  refine ⟨X,ZD ?_,hle⟩
  rw [ZC]
  unfold Qb.l2
  rw [Za Zg,Zb,if_neg (by simp)]
  rfl
 | t+1,k,X,ht,hk,hle=>by
  have hkl : k < us.length:=by omega
  have hlt : (k : Int) < us.length:=by omega
  have hg:=List.getElem?_eq_getElem hkl
  have hd:=List.drop_eq_getElem_cons hkl
  generalize us[k]=u at hg hd
  have hok:=(hA.mono hle).ok (List.mem_of_getElem? hg)
  have hf:=fun {K : Value→M Out}=>ZcM (k:=K) (hA.mono hle).1 hok.2.1 hg
  have g1 : (X++[Zc.cells u.cells 1 false false])[X.length]?=some (.cells u.cells 1 false false):=Zm
  have k1 : HLe X (X++[Zc.cells u.cells 1 false false]):=.app _ _
  generalize X++[Zc.cells u.cells 1 false false]=X1 at g1 k1 hf
  generalize X.length=p at g1 hf
  have a0 : ∀ f x,u.cells[f]?=some x→ld1 (pa p f) X1=some (x,X1):=fun f x h=>ZN g1 h
  have hA1:=(hA.mono hle).mono k1
  have hcmp : ∀ K : Value→M Out,
    bind (bop .int .gtr (iv k) (Value.int .i64 0)) (fun v31x17=>bind (ZJ v31x17 true (ret sl)) fun v33x18=>bind (ZJ v31x17 true (ret (iv k))) fun v34x19=>bind (ZJ v31x17 true (bop .int .sub v34x19 (Value.int .i64 1))) fun v35x20=>bind (ZJ v31x17 true (ixa 5 v33x18 v35x20)) fun v36x21=>bind (ZJ v31x17 true (fa 0 v36x21)) fun v37x22=>bind (ZJ v31x17 true (ld1 v37x22)) fun v38x23=>bind (ZJ v31x17 true (fa 0 (pt p))) fun v39x24=>bind (ZJ v31x17 true (ld1 v39x24)) fun v40x25=>bind (ZJ v31x17 true (bop .str .geq v38x23 v40x25)) fun v41x26=>bind (pick v31x17 v41x26 (Value.bool false)) K) X1=K (.bool (!upB (K2 us k) u)) X1:=fun K=>by
   by_cases h0 : k=0
   ·subst h0
    have q1 : bop .int .gtr (iv (0 : Nat)) (Value.int .i64 0) X1=some (.bool false,X1):=by rw [ZF];rfl
    rw [Za q1]
    iterate 9 rw [ZlC (by rfl)]
    rw [Za Zh]
    rfl
   ·have q1 : bop .int .gtr (iv k) (Value.int .i64 0) X1=some (.bool true,X1):=by rw [ZF,decide_eq_true (by omega)]
    obtain ⟨v,hv⟩ : ∃ v,us[k - 1]?=some v:=⟨_,List.getElem?_eq_getElem (by omega)⟩
    obtain ⟨id,o,x1,x2⟩:=hA1.nmAt hv
    have hp : upB (K2 us k) u=decide (v.nm < u.nm):=by unfold K2 upB;rw [if_neg h0,hv];rfl
    rw [Za q1,Q5,ZQ,Q5,ZQ,Q5,Za Qr,Zj5 (by omega) (by omega),Q5,Za x1,Q5,Za Yh,Q5,Za x2,Q5,Za Zi,Q5,Za (a0 0 _ rfl),Q5,Za ZpS,Za Zh,hp]
    rfl
  rw [hd,Zci]
  cases hup : upB (K2 us k) u
  ·rw [hup] at hcmp
   refine ⟨X1,Qc ?_,hle.trans k1⟩
   rw [ZC]
   unfold Qb.l2
   rw [Za Zg,Zb,if_pos (by simpa using hlt),hf]
   refine (hcmp _).trans ?_
   rw [Zb,if_pos (by rfl)]
   rfl
  ·rw [hup] at hcmp
   obtain ⟨X3,e3,k3⟩:=Zp4 hn hA t (k+1) X1 (by omega) (by omega) (hle.trans k1)
   rw [Ze3 hg] at e3
   refine ⟨X3,(Zr ?_).trans e3,k3⟩
   rw [ZC]
   unfold Qb.l2
   rw [Za Zg,Zb,if_pos (by simpa using hlt),hf]
   refine (hcmp _).trans ?_
   rw [Zb,if_neg (by simp),Za Zt,Qh (by omega)]
   rfl
theorem Zv9 (hn : us.length≤1000) (hA : QV X sl us) : ∃ X',R (n+6) W6 [sl,iv 2] X=some (iv (ZdG us),X')∧HLe X X':=by
 obtain ⟨X1,e1,k1⟩:=ZqQ (n:=n) hn hA us.length 0 X (by omega) (by omega) (.refl _)
 rw [List.drop_zero] at e1
 have e1 : Zj (c5 (Qb.l1 (R (n+5)))) [sl,iv 2,sl,iv us.length,.int .i64 0] X=_:=e1
 have f1 : ∀ r X',Qb (R (n+5)) sl (iv 2) X=some (r,X')→R (n+6) W6 [sl,iv 2] X=some (r,X'):=fun r X' hr=>by rw [R,ZkP rfl];exact hr
 have hlen : ∀ Y,ZH sl Y=some (iv us.length,Y):=fun Y=>by have:=hA.1.len (H':=Y);rwa [List.length_map] at this
 unfold ZdG
 by_cases h1 : Jm us=0
 ·rw [if_pos h1] at e1
  rw [if_pos h1]
  obtain ⟨X2,e2,k2⟩:=Zp4 (n:=n+5) hn (hA.mono k1) us.length 0 X1 (by omega) (by omega) (.refl _)
  rw [List.drop_zero,ZhJ,ZkO] at e2
  have e2 : Zj (c4 (Qb.l2 (R (n+5)))) [sl,sl,iv us.length,.int .i64 0] X1=_:=e2
  refine ⟨X2,f1 _ _ ?_,k1.trans k2⟩
  unfold Qb
  rw [Za (hlen _),ZO e1,Zu,Jy,Za (hlen _)]
  cases h2 : Jn (us.map (·.nm))
  ·rw [h2] at e2
   rw [QI e2];rfl
  ·rw [h2] at e2
   rw [ZO e2,Zu,Jy,Za (hlen _),Za ZF,Zb]
   by_cases h3 : 12 < us.length
   ·rw [if_pos (by simp;omega),if_pos rfl,if_pos h3];rfl
   ·rw [if_neg (by simp;omega),if_pos rfl,if_neg h3];rfl
 ·rw [if_neg h1] at e1
  rw [if_neg h1]
  refine ⟨X1,f1 _ _ ?_,k1⟩
  unfold Qb
  rw [Za (hlen _),QI e1]
  rfl
end
end Go.Proofs.YtedkoimihknggaaGreatDoor.A

namespace Go.Proofs.YtedkoimihknggaaGreatDoor.A
set_option linter.unusedVariables false
set_option linter.unusedSimpArgs false
open Go.Proofs Go.Proofs.YtedkoimihknggaaGreatDoor
structure Zc2 where
 kd : Nat
 a : Tx
 b : Tx
 is : Bool
abbrev Zc2.cells (a : Zc2) : List Value:=[.int .u8 a.kd,strv a.a,strv a.b,.bool a.is]
abbrev zNA : Value:=.agg #[.int .u8 0,.string ⟨#[]⟩,.string ⟨#[]⟩,.bool false]
def ZgV (H : Zd) (sl : Value) (ac : List Zc2) : Prop:=SlN 4 H sl (ac.map Zc2.cells)∧∀ a∈ac,a.kd≤255
section
variable {H H' X X' : Zd} {sl : Value} {ac : List Zc2} {n d c : Nat} {s : NSt} {r : NR} {m : Tx}
theorem ZgV.len (h : ZgV H sl ac) : ZH sl H'=some (iv ac.length,H'):=by
 have:=h.1.len (H':=H')
 rwa [List.length_map] at this
theorem ZgV.mono (h : ZgV H sl ac) (hl : HLe H H') : ZgV H' sl ac:=⟨h.1.mono hl,h.2⟩
theorem ZgV.fetch {β : Type} {k : Value→M β} (h : ZgV H sl ac) {j : Nat} {a : Zc2} (hj : ac[j]?=some a) :
  bind (ixa 4 sl (iv j)) (fun p=>bind (ldA 4 p) fun v=>bind (alc 1 zNA) fun q=>bind (stA 4 q v) fun _=>k q) H=k (pt H.length) (H++[.cells a.cells 1 false false]):=by
 have hr : (ac.map Zc2.cells)[j]?=some a.cells:=by rw [List.getElem?_map,hj];rfl
 rw [h.1.fetch hr (by omega) .i64]
 exact ZbW (n:=4) (zs:=[.int .u8 0,.string ⟨#[]⟩,.string ⟨#[]⟩,.bool false]) (r:=a.cells) rfl rfl rfl rfl
end
end Go.Proofs.YtedkoimihknggaaGreatDoor.A
namespace Go.Proofs.YtedkoimihknggaaGreatDoor.A
set_option linter.unusedVariables false
set_option linter.unusedSimpArgs false
open Go.Proofs Go.Proofs.YtedkoimihknggaaGreatDoor
section
variable {X X' Y Y1 Y2 Y3 H0 : Zd} {n d c c' b1 b2 b3 : Nat} {r r' : NR} {uv gv uv' gv' v : Value} {s s' : NSt} {u : Zc2} {e : Int}
theorem RD.setB {b : Nat} {c1 c2 d1 d2 : Value} (h : RD Y uv gv s) (hb : Y[b]?=some (.cells [c1,c2] 1 false false)) (i1 : ZeA c1) (i2 : ZeA c2) : RD (Y.set b (.cells [d1,d2] 1 false false)) uv gv s:=
 ⟨h.ex.imp fun us ⟨a,b⟩=>⟨a.setD hb i1 i2,b⟩,h.n.imp fun q ⟨N,a,b⟩=>⟨N,a.setD hb i1 i2,b⟩⟩
end
end Go.Proofs.YtedkoimihknggaaGreatDoor.A
namespace Go.Proofs.YtedkoimihknggaaGreatDoor.A
set_option linter.unusedVariables false
set_option linter.unusedSimpArgs false
open Go.Proofs Go.Proofs.YtedkoimihknggaaGreatDoor
section
variable {X X' Y Y1 Y2 Y3 H H0 : Zd} {n d c c' b1 b2 b3 w : Nat} {r r' : NR} {uv gv uv' gv' v sl : Value} {s s' : NSt} {u : Zc2} {e : Int} {ac : List Zc2}
structure NL (H X : Zd) (d : Nat) (r : NR) (s : NSt) (uv gv : Value) (w c : Nat) : Prop where
 le : HLe H X
 nd : ND X d r s c
 rd : RD X uv gv s
 own : ∀ i∈r.own,H.length≤i
 w : X[w]?=some (.cells [uv,gv] 1 false false)
theorem NL.hle (h : NL H X d r s uv gv w c) (hl : HLe X X') : NL H X' d r s uv gv w c:=⟨h.le.trans hl,h.nd.hle hl,h.rd.hle hl,h.own,hl _ _ h.w⟩
end
end Go.Proofs.YtedkoimihknggaaGreatDoor.A

namespace Go.Proofs.YtedkoimihknggaaGreatDoor.A
set_option linter.unusedVariables false
set_option linter.unusedSimpArgs false
open Go.Proofs Go.Proofs.YtedkoimihknggaaGreatDoor
section
variable {H : Zd} {n : Nat} {s : List UInt8}
end
end Go.Proofs.YtedkoimihknggaaGreatDoor.A

namespace Go.Proofs.YtedkoimihknggaaGreatDoor.A
set_option linter.unusedVariables false
set_option linter.unusedSimpArgs false
open Go.Proofs Go.Proofs.YtedkoimihknggaaGreatDoor
section
variable {X X' Y H H0 : Zd} {n d c w : Nat} {r : NR} {uv gv sl wv : Value} {s : NSt} {us ws : List Zp} {k m g pre : Tx} {q0 : List Nat}
theorem ZuY (hO : ROK s us) (hP : ZlE s) (hm : Wk m=true) : (us.find? fun u=>u.ml==QH m).map (·.nm)=Zk (QH m) s.OW:=by
 have hat : ∀ u∈us,u.ml=QH m↔Zk (QH m) s.OW=some u.nm:=fun u hu=>by
  have h1:=hO.at hu
  unfold YF at h1
  cases ha : Zk u.nm s.A with
  | none=>rw [ha] at h1;cases h1
  | some p=>
   rw [ha] at h1
   have h2 : Zak s u.nm p=ZW u:=Option.some.inj h1
   have h3 : (Zk u.nm s.OF).getD []=u.ml:=congrArg (·.2.2.1) h2
   rw [← hP.x.inv,← h3]
   cases ho : Zk u.nm s.OF with
   | none=>exact ⟨fun h=>absurd h.symm (ZgB hm).1,fun h=>by cases h⟩
   | some v=>exact ⟨fun h=>by rw [← h];rfl,fun h=>by cases h;rfl⟩
 cases hf : us.find? fun u=>u.ml==QH m with
 | some u=>
  have h1:=List.find?_some hf
  have h2:=List.mem_of_find?_eq_some hf
  exact ((hat u h2).1 (by simpa using h1)).symm
 | none=>
  rw [List.find?_eq_none] at hf
  cases hw : Zk (QH m) s.OW with
  | none=>rfl
  | some x=>
   have h1:=(hP.x.inv _ _).2 hw
   have h2:=hP.i.ofA x (by rw [h1];rfl)
   obtain ⟨p,hp⟩:=Option.isSome_iff_exists.1 h2
   have h3 : YF s x=some (Zak s x p):=by unfold YF;rw [hp];rfl
   obtain ⟨u,hu,hk⟩:=Zad.1 ((hO.look (Zak s x p)).2 h3)
   have hn : u.nm=x:=congrArg (·.1) hk
   have:=(hat u hu).2 (by rw [hn];exact hw)
   exact absurd (by simpa using this) (hf u hu)
end
end Go.Proofs.YtedkoimihknggaaGreatDoor.A

namespace Go.Proofs.YtedkoimihknggaaGreatDoor.A
set_option linter.unusedVariables false
set_option linter.unusedSimpArgs false
open Go.Proofs Go.Proofs.YtedkoimihknggaaGreatDoor
def K7 (ps : List Tx) (k : Tx) (mem : Mem) : Mem:=fun g n=>mem g n || (decide (g∈ps) && n==k)
section
variable {X X' X0 H H0 : Zd} {n p d b c i : Nat} {r : NR} {s : NSt} {v sl gv ugv zl : Value} {l gs : List Tx} {m k g : Tx} {u : Zp} {us prev : List Zp}
theorem Zxd (hl : gs.length≤1000000) (hs : Sl X gv (gs.map strv)) : ∀ (t j : Nat),gs.length - j=t→j≤gs.length→
  Zj (c5 (ZS.l1 (R (n+3)))) [sl,gv,gv,iv gs.length,iv j] X=some (if (gs.drop j).all ZB then .ext 0 [sl,gv] else .ret (iv 10),X)
 | 0,j,ht,hj=>by
  rw [List.drop_eq_nil_of_le (by omega)]
  refine ZD ?_
  rw [ZU,show j=gs.length by omega]
  unfold ZS.l1
  rw [Za Zg,Zb,if_neg (by simp)]
  rfl
 | t+1,j,ht,hj=>by
  have hkl : j < gs.length:=by omega
  have hlt : (j : Int) < gs.length:=by omega
  have hg:=List.getElem?_eq_getElem hkl
  have hd:=List.drop_eq_getElem_cons hkl
  generalize gs[j]=y at hg hd
  have x1:=hs.ix (i:=j) (by simpa using hkl) .i64 X
  have x2:=hs.ldx (J9 hg)
  have e1 : R (n+3) YB [strv y] X=some (.bool (ZB y),X):=Zc5
  rw [hd,List.all_cons]
  cases hn : ZB y
  ·rw [hn] at e1
   refine Qc ?_
   rw [ZU]
   unfold ZS.l1
   rw [Za Zg,Zb,if_pos (by simpa using hlt),Za x1,Za x2,Za e1,Za ZY,Zb,if_pos (by rfl)]
   rfl
  ·rw [hn] at e1
   rw [Bool.true_and]
   refine (Zr ?_).trans (Zxd hl hs t (j+1) (by omega) (by omega))
   rw [ZU]
   unfold ZS.l1
   rw [Za Zg,Zb,if_pos (by simpa using hlt),Za x1,Za x2,Za e1,Za ZY,Zb,if_neg (by simp),Za Zt,Qh (by omega)]
   rfl
theorem Zsi {j : Nat} (h : l.length - j=0) : JH l j=true:=by
 unfold JH
 by_cases h0 : j=0
 ·rw [if_pos h0]
  have : l=[]:=List.eq_nil_of_length_eq_zero (by omega)
  rw [this];rfl
 ·rw [if_neg h0]
  have h1 : (l.drop (j - 1)).length≤1:=by rw [List.length_drop];omega
  match l.drop (j - 1),h1 with
  | [],_=>rfl
  | [a],_=>rfl
theorem Zxe (hl : gs.length≤1000000) (hs : Sl X gv (gs.map strv)) : ∀ (t j : Nat),gs.length - j=t→j≤gs.length→
  Zj (c5 (ZS.l2 (R n))) [sl,gv,gv,iv gs.length,iv j] X=some (if JH gs j then .ext 2 [sl,gv] else .ret (iv 9),X)
 | 0,j,ht,hj=>by
  rw [Zsi ht]
  refine ZD ?_
  rw [ZU,show j=gs.length by omega]
  unfold ZS.l2
  rw [Za Zg,Zb,if_neg (by simp)]
  rfl
 | t+1,j,ht,hj=>by
  have hkl : j < gs.length:=by omega
  have hlt : (j : Int) < gs.length:=by omega
  have hg:=List.getElem?_eq_getElem hkl
  have hd:=List.drop_eq_getElem_cons hkl
  have x1:=hs.ix (i:=j) (by simpa using hkl) .i64 X
  have x2:=hs.ldx (J9 hg)
  have ih:=Zxe hl hs t (j+1) (by omega) (by omega)
  by_cases h0 : j=0
  ·subst h0
   have q0 : bop .int .gtr (iv ((0 : Nat) : Int)) (.int .i64 0) X=some (.bool false,X):=by rw [ZF];rfl
   have hr : JH gs 0=JH gs (0+1):=by unfold JH;simp
   rw [hr]
   refine (Zr ?_).trans ih
   rw [ZU]
   unfold ZS.l2
   rw [Za Zg,Zb,if_pos (by simpa using hlt),Za x1,Za x2,Za q0,Za (g_r.trans (if_neg (by simp)))]
   simp only [List.replicate]
   rw [Yn,Za Zh]
   simp only [cond_false]
   rw [Zb,if_neg (by simp),Za Zt,Qh (by omega)]
   rfl
  ·have hk0 : j - 1 < gs.length:=by omega
   have hg0:=List.getElem?_eq_getElem hk0
   have hd0:=List.drop_eq_getElem_cons hk0
   rw [show j - 1+1=j by omega,hd] at hd0
   have hr1 : JH gs (j+1)=Jn (gs.drop j):=by unfold JH;simp
   have hr0 : JH gs j=Jn (gs.drop (j - 1)):=by unfold JH;rw [if_neg h0]
   rw [hr1,hd] at ih
   rw [hr0,hd0,ZbB]
   generalize gs[j]=y at x1 x2 hg hd hd0 ih
   generalize gs[j - 1]=y0 at hg0 hd0
   have x3:=hs.ix (i:=j - 1) (by simpa using hk0) .i64 X
   have x4:=hs.ldx (J9 hg0)
   have w0 : IntKind.i64.wrap ((j : Int) - 1)=((j - 1 : Nat) : Int):=by rw [w64 (by omega) (by omega)];omega
   have q0 : bop .int .gtr (iv j) (.int .i64 0) X=some (.bool true,X):=by rw [ZF,decide_eq_true (by omega)]
   have q1 : bop .str .geq (strv y0) (strv y) X=some (.bool (!decide (y0 < y)),X):=ZpS
   by_cases hy : y0 < y
   ·rw [decide_eq_true hy] at q1 ⊢
    rw [Bool.true_and]
    refine (Zr ?_).trans ih
    rw [ZU]
    unfold ZS.l2
    rw [Za Zg,Zb,if_pos (by simpa using hlt),Za x1,Za x2,Za q0,ZK,Zf,Za Qr,w0,Zf,Za x3,Zf,Za x4,Zf,Za q1,ZQ,Yn,Za Zh]
    simp only [cond_true,Bool.not_true]
    rw [Zb,if_neg (by simp),Za Zt,Qh (by omega)]
    rfl
   ·rw [decide_eq_false hy] at q1 ⊢
    refine Qc ?_
    rw [ZU]
    unfold ZS.l2
    rw [Za Zg,Zb,if_pos (by simpa using hlt),Za x1,Za x2,Za q0,ZK,Zf,Za Qr,w0,Zf,Za x3,Zf,Za x4,Zf,Za q1,ZQ,Yn,Za Zh]
    simp only [cond_true,Bool.not_false]
    rw [Zb,if_pos rfl]
    rfl
theorem Zxl {z1 z2 z3 z4 z5 : Value} (hgl : gs.length≤1000000) (hs : Sl X gv (gs.map strv)) (hl : l.length≤1000000) (hu : Sl X ugv (l.map strv)) : ∀ (t j : Nat),l.length - j=t→j≤l.length→
  Zj (c10 (ZS.l4 (R (n+1)))) [sl,gv,z1,z2,z3,z4,z5,ugv,iv l.length,iv j] X=some (if (l.drop j).all (fun g=>decide (g∈gs)) then .ext 6 [sl,gv,z1,z2,z3,z4,z5] else .ret (iv 8),X)
 | 0,j,ht,hj=>by
  rw [List.drop_eq_nil_of_le (by omega)]
  refine ZD ?_
  rw [J2,show j=l.length by omega]
  unfold ZS.l4
  rw [Za Zg,Zb,if_neg (by simp)]
  rfl
 | t+1,j,ht,hj=>by
  have hkl : j < l.length:=by omega
  have hlt : (j : Int) < l.length:=by omega
  have hg:=List.getElem?_eq_getElem hkl
  have hd:=List.drop_eq_getElem_cons hkl
  generalize l[j]=y at hg hd
  have x1:=hu.ix (i:=j) (by simpa using hkl) .i64 X
  have x2:=hu.ldx (J9 hg)
  have e1:=Zye (n:=n) (x:=y) hgl hs
  rw [hd,List.all_cons]
  by_cases hy : y∈gs
  ·rw [decide_eq_true hy] at e1 ⊢
   rw [Bool.true_and]
   refine (Zr ?_).trans (Zxl hgl hs hl hu t (j+1) (by omega) (by omega))
   rw [J2]
   unfold ZS.l4
   rw [Za Zg,Zb,if_pos (by simpa using hlt),Za x1,Za x2,Za e1,Za ZY,Zb,if_neg (by simp),Za Zt,Qh (by omega)]
   rfl
  ·rw [decide_eq_false hy] at e1 ⊢
   refine Qc ?_
   rw [J2]
   unfold ZS.l4
   rw [Za Zg,Zb,if_pos (by simpa using hlt),Za x1,Za x2,Za e1,Za ZY,Zb,if_pos (by rfl)]
   rfl
theorem Zw9 {z3 z4 z5 : Value} (hn : prev.length≤1000) (hA : SlN 5 H0 v (prev.map Zp.cells)) (ho : ∀ w∈prev,oneCell w.gv=true) (hb : H0[b]?=some (.cells u.cells 1 false false)) : ∀ (t j : Nat) (X : Zd),prev.length - j=t→j≤prev.length→HLe H0 X→
  ∃ X',Zj (c9 (ZS.l5 (R n))) [sl,gv,pt b,z3,z4,z5,v,iv prev.length,iv j] X=some (if u.ml≠[]∧(prev.drop j).any (fun w=>u.ml==w.ml)=true then .ret (iv 9) else .ext 8 [sl,gv,z3,z4,z5],X')∧HLe H0 X'
 | 0,j,X,ht,hj,hle=>by
  rw [List.drop_eq_nil_of_le (by omega),if_neg (by simp)]
  refine ⟨X,ZD ?_,hle⟩
  rw [YR,show j=prev.length by omega]
  unfold ZS.l5
  rw [Za Zg,Zb,if_neg (by simp)]
  rfl
 | t+1,j,X,ht,hj,hle=>by
  have hjl : j < prev.length:=by omega
  have hlt : (j : Int) < prev.length:=by omega
  have hg:=List.getElem?_eq_getElem hjl
  have hd:=List.drop_eq_getElem_cons hjl
  generalize prev[j]=w at hg hd
  have hf:=fun {K : Value→M Out}=>ZcM (k:=K) (hA.mono hle) (ho w (List.mem_of_getElem? hg)) hg
  have g1 : (X++[Zc.cells w.cells 1 false false])[X.length]?=some (.cells w.cells 1 false false):=Zm
  have k1 : HLe X (X++[Zc.cells w.cells 1 false false]):=.app _ _
  generalize X++[Zc.cells w.cells 1 false false]=X1 at g1 k1 hf
  generalize X.length=p at g1 hf
  have le1:=hle.trans k1
  have a2 : ld1 (pa b 2) X1=some (strv u.ml,X1):=ZN (le1 _ _ hb) rfl
  have b2 : ld1 (pa p 2) X1=some (strv w.ml,X1):=ZN g1 rfl
  have q1 : bop .str .neq (strv u.ml) (.string ⟨#[]⟩) X1=some (.bool (!(u.ml==[])),X1):=Zbf (b:=[])
  have q2 : bop .str .eql (strv u.ml) (strv w.ml) X1=some (.bool (u.ml==w.ml),X1):=Zd1
  obtain ⟨X2,e2,k2⟩:=Zw9 hn hA ho hb t (j+1) X1 (by omega) (by omega) le1
  rw [hd,List.any_cons]
  by_cases hm : u.ml=[]
  ·have hmb : (u.ml==[])=true:=by simpa using hm
   rw [if_neg (fun h=>h.1 hm)] at e2 ⊢
   rw [hmb] at q1
   refine ⟨X2,(Zr ?_).trans e2,k2⟩
   rw [YR]
   unfold ZS.l5
   rw [Za Zg,Zb,if_pos (by simpa using hlt),hf,Za Zi,Za a2,Za q1,Za (g_r.trans (if_neg (by simp)))]
   simp only [List.replicate]
   rw [ZU,Za Zh]
   simp only [cond_false,Bool.not_true]
   rw [Zb,if_neg (by simp),Za Zt,Qh (by omega)]
   rfl
  ·have hmb : (u.ml==[])=false:=by simpa using hm
   rw [hmb] at q1
   cases hw : u.ml==w.ml
   ·rw [hw] at q2
    rw [Bool.false_or]
    refine ⟨X2,(Zr ?_).trans e2,k2⟩
    rw [YR]
    unfold ZS.l5
    rw [Za Zg,Zb,if_pos (by simpa using hlt),hf,Za Zi,Za a2,Za q1]
    simp only [Bool.not_false]
    rw [ZK,Zf,Za Zi,Zf,Za a2,Zf,Za Zi,Zf,Za b2,Zf,Za q2,ZQ,ZU,Za Zh]
    simp only [cond_true]
    rw [Zb,if_neg (by simp),Za Zt,Qh (by omega)]
    rfl
   ·rw [hw] at q2
    rw [Bool.true_or,if_pos ⟨hm,rfl⟩]
    refine ⟨X1,Qc ?_,le1⟩
    rw [YR]
    unfold ZS.l5
    rw [Za Zg,Zb,if_pos (by simpa using hlt),hf,Za Zi,Za a2,Za q1]
    simp only [Bool.not_false]
    rw [ZK,Zf,Za Zi,Zf,Za a2,Zf,Za Zi,Zf,Za b2,Zf,Za q2,ZQ,ZU,Za Zh]
    simp only [cond_true]
    rw [Zb,if_pos rfl]
    rfl
theorem Zjb {i : Nat} (hg : us[i]?=some u) : us.take (i+1)=us.take i++[u]:=by
 rw [List.take_add_one,hg];rfl
theorem Zw6 (hn : us.length≤1000) (hA : QV H0 sl us) (hC : Zua H0 sl us) (hgl : gs.length≤1000000) (hs : Sl H0 gv (gs.map strv)) : ∀ (t i : Nat) (X : Zd),us.length - i=t→i≤us.length→HLe H0 X→
  ∃ X',Zj (c5 (ZS.l3 (R (n+1)))) [sl,gv,sl,iv us.length,iv i] X=some (if Kf gs (us.take i) (us.drop i)=0 then .ext 4 [] else .ret (iv (Kf gs (us.take i) (us.drop i))),X')∧HLe H0 X'
 | 0,i,X,ht,hj,hle=>by
  rw [List.drop_eq_nil_of_le (show us.length≤i by omega),if_pos (show Kf gs (us.take i) []=0 from by unfold Kf;rfl)]
  refine ⟨X,ZD ?_,hle⟩
  rw [ZU,show i=us.length by omega]
  unfold ZS.l3
  rw [Za Zg,Zb,if_neg (by simp)]
  rfl
 | t+1,i,X,ht,hj,hle=>by
  have hjl : i < us.length:=by omega
  have hlt : (i : Int) < us.length:=by omega
  have hg:=List.getElem?_eq_getElem hjl
  have hd:=List.drop_eq_getElem_cons hjl
  generalize us[i]=u at hg hd
  have hok:=(hA.mono hle).ok (List.mem_of_getElem? hg)
  have hf:=fun {K : Value→M Out}=>ZcM (k:=K) (hA.mono hle).1 hok.2.1 hg
  have g1 : (X++[Zc.cells u.cells 1 false false])[X.length]?=some (.cells u.cells 1 false false):=Zm
  have k1 : HLe X (X++[Zc.cells u.cells 1 false false]):=.app _ _
  generalize X++[Zc.cells u.cells 1 false false]=X1 at g1 k1 hf
  generalize X.length=b at g1 hf
  have le1:=hle.trans k1
  have a4 : ld1 (pa b 4) X1=some (u.gv,X1):=ZN g1 rfl
  have ok1:=hok.hle k1
  have hul : ZH u.gv X1=some (iv u.gs.length,X1):=by have:=ok1.1.len (H':=X1);simpa using this
  have e4:=Zxl (n:=n) (sl:=sl) (z1:=iv i) (z2:=pt b) (z3:=sl) (z4:=iv us.length) (z5:=iv i) hgl (hs.mono le1) ok1.2.2 ok1.1 u.gs.length 0 (by omega) (by omega)
  rw [show iv ((0 : Nat) : Int)=.int .i64 0 from rfl,List.drop_zero] at e4
  have hbody : ∀ o X2,jn (Zj (c10 (ZS.l4 (R (n+1)))) [sl,gv,iv i,pt b,sl,iv us.length,iv i,u.gv,iv u.gs.length,(Value.int .i64 0)]) noN (xk 6 (c7 fun q43_0 q43_1 q43_2 q43_3 q43_4 q43_5 q43_6=>
    bind (slv 5 q43_0 none (some q43_2) none) fun v74x44=>bind (ZH v74x44) fun v75x45=>
    jn (Zj (c9 (ZS.l5 (R (n+1)))) [q43_0,q43_1,q43_3,q43_4,q43_5,q43_6,v74x44,v75x45,(Value.int .i64 0)]) noN (xk 8 (c5 fun q62_0 q62_1 q62_2 q62_3 q62_4=>
    bind (bop .int .add q62_4 (Value.int .i64 1)) fun v91x63=>ret (.nrm [q62_0,q62_1,q62_2,q62_3,v91x63])) noX) Ji) noX) Ji X1=some (o,X2)→c5 (ZS.l3 (R (n+1))) [sl,gv,sl,iv us.length,iv i] X=some (o,X2):=fun o X2 h=>by
   rw [ZU]
   unfold ZS.l3
   rw [Za Zg,Zb,if_pos (by simpa using hlt),hf,Za Zi,Za a4,Za hul]
   exact h
  rw [hd]
  unfold Kf Zcr
  cases ha : u.gs.all fun g=>decide (g∈gs)
  ·rw [ha] at e4
   simp only [Bool.false_eq_true,if_false]
   exact ⟨X1,Qc (hbody _ _ ((QI e4).trans rfl)),le1⟩
  ·rw [ha] at e4
   simp only [if_true]
   obtain ⟨cv,hc1,hc2⟩:=hC i (by omega)
   have hlt' : (us.take i).length=i:=by rw [List.length_take];omega
   have hcl : ZH cv X1=some (iv (us.take i).length,X1):=by have:=(hc2.mono le1).len (H':=X1);rwa [List.length_map] at this
   obtain ⟨X2,e5,k5⟩:=Zw9 (n:=n+1) (sl:=sl) (gv:=gv) (z3:=sl) (z4:=iv us.length) (z5:=iv i) (by omega) (hc2.mono le1) (fun w hw=>(hA.2 w (List.mem_of_mem_take hw)).2.1) g1 (us.take i).length 0 X1 (by omega) (by omega) (.refl _)
   rw [show iv ((0 : Nat) : Int)=.int .i64 0 from rfl,List.drop_zero] at e5
   have le2:=le1.trans k5
   by_cases hp : u.ml≠[]∧(us.take i).any (fun w=>u.ml==w.ml)=true
   ·rw [if_pos hp] at e5
    simp only [if_pos hp]
    refine ⟨X2,Qc (hbody _ _ ?_),le2⟩
    rw [ZO e4,Zu,Yn,Za (hc1 _ le1),Za hcl,QI e5]
    rfl
   ·rw [if_neg hp] at e5
    simp only [if_neg hp,if_true]
    obtain ⟨X3,e6,k6⟩:=Zw6 hn hA hC hgl hs t (i+1) X2 (by omega) (by omega) le2
    rw [Zjb hg] at e6
    refine ⟨X3,(Zr (hbody _ _ ?_)).trans e6,k6⟩
    rw [ZO e4,Zu,Yn,Za (hc1 _ le1),Za hcl,ZO e5,Zu,ZU,Za Zt,Qh (by omega)]
    rfl
theorem ZuO (hn : us.length≤1000) (hgl : gs.length≤1000000) (hA : QV X sl us) (hC : Zua X sl us) (hs : Sl X gv (gs.map strv)) : ∃ X',R (n+7) ZcN [sl,gv] X=some (iv (WJ us gs),X')∧HLe X X':=by
 obtain ⟨X1,e1,k1⟩:=Zv9 (n:=n) hn hA
 have f1 : ∀ r X',ZS (R (n+6)) sl gv X=some (r,X')→R (n+7) ZcN [sl,gv] X=some (r,X'):=fun r X' hr=>by rw [R,Zsl rfl];exact hr
 have hlen : ∀ Y,ZH sl Y=some (iv us.length,Y):=fun Y=>by have:=hA.1.len (H':=Y);rwa [List.length_map] at this
 have hgn : ∀ Y,ZH gv Y=some (iv gs.length,Y):=fun Y=>by have:=hs.len (H':=Y);simpa using this
 unfold WJ Zbb
 by_cases h0 : ZdG us=0
 ·rw [h0] at e1
  simp only [if_pos h0]
  have q1 : bop .int .neq (iv 0) (.int .i64 0) X1=some (.bool false,X1):=by rw [Zq];rfl
  have hs1:=hs.mono k1
  have e2:=Zxd (n:=n+3) (sl:=sl) hgl hs1 gs.length 0 (by omega) (by omega)
  have e3:=Zxe (n:=n+6) (sl:=sl) hgl hs1 gs.length 0 (by omega) (by omega)
  rw [show iv ((0 : Nat) : Int)=.int .i64 0 from rfl,List.drop_zero] at e2
  rw [show iv ((0 : Nat) : Int)=.int .i64 0 from rfl,show JH gs 0=Jn gs from by unfold JH;simp] at e3
  cases ha : gs.all ZB
  ·rw [ha] at e2
   refine ⟨X1,f1 _ _ ?_,k1⟩
   unfold ZS
   rw [Za e1,Za q1,Zb,if_neg (by simp),Za (hgn _),QI e2]
   rfl
  ·rw [ha] at e2
   simp only [if_true]
   cases hr : Jn gs
   ·rw [hr] at e3
    refine ⟨X1,f1 _ _ ?_,k1⟩
    unfold ZS
    rw [Za e1,Za q1,Zb,if_neg (by simp),Za (hgn _),ZO e2,Zu,ZP,Za (hgn _),QI e3]
    rfl
   ·rw [hr] at e3
    simp only [if_true]
    by_cases h6 : 6 < gs.length
    ·simp only [if_pos h6]
     refine ⟨X1,f1 _ _ ?_,k1⟩
     unfold ZS
     rw [Za e1,Za q1,Zb,if_neg (by simp),Za (hgn _),ZO e2,Zu,ZP,Za (hgn _),ZO e3,Zu,ZP,Za (hgn _),Za ZF,Zb,if_pos (by simp;omega)]
     rfl
    ·simp only [if_neg h6]
     have hC1 : Zua X1 sl us:=fun k hk=>by
      obtain ⟨w,a,b⟩:=hC k hk
      exact ⟨w,fun X' hl=>a X' (k1.trans hl),b.mono k1⟩
     obtain ⟨X2,e4,k2⟩:=Zw6 (n:=n+5) hn (hA.mono k1) hC1 hgl hs1 us.length 0 X1 (by omega) (by omega) (.refl _)
     rw [show iv ((0 : Nat) : Int)=.int .i64 0 from rfl,List.drop_zero,List.take_zero] at e4
     refine ⟨X2,f1 _ _ ?_,k1.trans k2⟩
     unfold ZS
     rw [Za e1,Za q1,Zb,if_neg (by simp),Za (hgn _),ZO e2,Zu,ZP,Za (hgn _),ZO e3,Zu,ZP,Za (hgn _),Za ZF,Zb,if_neg (by simp;omega),Za (hlen _)]
     by_cases hz : Kf gs [] us=0
     ·rw [if_pos hz] at e4
      rw [ZO e4,Zu,hz];rfl
     ·rw [if_neg hz] at e4
      rw [QI e4];rfl
 ·simp only [if_neg h0]
  have q1 : bop .int .neq (iv (ZdG us)) (.int .i64 0) X1=some (.bool true,X1):=by rw [Zq];simp [h0]
  refine ⟨X1,f1 _ _ ?_,k1⟩
  unfold ZS
  rw [Za e1,Za q1,Zb,if_pos rfl]
  rfl
end
end Go.Proofs.YtedkoimihknggaaGreatDoor.A

namespace Go.Proofs.YtedkoimihknggaaGreatDoor.A
set_option linter.unusedVariables false
set_option linter.unusedSimpArgs false
open Go.Proofs Go.Proofs.YtedkoimihknggaaGreatDoor
section
variable {X X' X0 H H0 : Zd} {n p d b c i : Nat} {r : NR} {s : NSt} {v sl gv ugv zl : Value} {l gs : List Tx} {m k g : Tx} {u : Zp} {us prev : List Zp}
def nGs (gs : List Tx) : NSt:=⟨[],[],[],gs,fun _ _=>false⟩
theorem ZxZ (hr : Jn gs=true) (hn : gs.all ZB=true) (h6 : gs.length≤6) {j : Nat} (hg : gs[j]?=some g) : KJ g (gs.take j)=0∧Zhj g (gs.take j)=gs.take (j+1):=by
 have hj : j < gs.length:=(List.getElem?_eq_some_iff.1 hg).1
 have hgm:=List.mem_of_getElem? hg
 have h1 : ZB g=true:=List.all_eq_true.1 hn g hgm
 have hd:=List.drop_eq_getElem_cons hj
 have hge : gs[j]=g:=by have:=List.getElem?_eq_getElem hj;rw [hg] at this;exact (Option.some.inj this).symm
 have hp:=Zfv hr
 rw [← List.take_append_drop j gs,List.pairwise_append,hd,hge] at hp
 have h2 : g∉gs.take j:=fun hm=>List.lt_irrefl g (hp.2.2 g hm g (by simp))
 have hl : (gs.take j).length=j:=by rw [List.length_take];omega
 have h0 : KJ g (gs.take j)=0:=by
  unfold KJ
  rw [h1,if_pos rfl,if_neg h2,hl,if_neg (by omega)]
 refine ⟨h0,?_⟩
 unfold Zhj
 rw [if_pos h0,List.take_add_one,hg]
 rfl
theorem ZvB (hs : Sl X0 gv (gs.map strv)) (hr : Jn gs=true) (hn : gs.all ZB=true) (h6 : gs.length≤6) : ∀ (t j : Nat) (r : NR) (X : Zd),gs.length - j=t→j≤gs.length→HLe X0 X→ND X d r (nGs (gs.take j)) 0→(∀ i∈r.own,X0.length≤i)→
  ∃ X' r',Zj (c5 (QJ.l1 (R (n+11)))) [sl,pt d,gv,iv gs.length,iv j] X=some (.ext 0 [sl,pt d],X')∧HLe X0 X'∧ND X' d r' (nGs gs) 0∧∀ i∈r'.own,X0.length≤i
 | 0,j,r,X,ht,hj,hle,hd,ho=>by
  have hj : j=gs.length:=by omega
  subst hj
  rw [List.take_length] at hd
  refine ⟨X,r,ZD ?_,hle,hd,ho⟩
  rw [ZU]
  unfold QJ.l1
  rw [Za Zg,Zb,if_neg (by simp)]
  rfl
 | t+1,j,r,X,ht,hj,hle,hd,ho=>by
  have hkl : j < gs.length:=by omega
  have hlt : (j : Int) < gs.length:=by omega
  have hg:=List.getElem?_eq_getElem hkl
  generalize gs[j]=g at hg
  have x1:=(hs.mono hle).ix (i:=j) (by simpa using hkl) .i64 X
  have x2:=(hs.mono hle).ldx (J9 hg)
  obtain ⟨m1,m2⟩:=ZxZ hr hn h6 hg
  obtain ⟨X1,G',e1,g1,k1,s1⟩:=Zx9 (n:=n+3) (k:=g) hd.gr
  have e1 : R (n+11) YK [pt r.g,strv g] X=_:=e1
  rw [hd.ks] at e1 k1
  rw [show (nGs (gs.take j)).K=gs.take j from rfl,m2] at k1
  obtain ⟨d1,t1⟩:=hd.toND0.setG g1 s1 k1
  have hm:=hle.more t1 ho
  have hd1 : ND X1 d { r with G:=G' } (nGs (gs.take (j+1))) 0:=⟨d1,⟨by simp [nGs],by simp [nGs],by simp [nGs,Zk],by simp [nGs],by simp [nGs,Zk]⟩⟩
  obtain ⟨X2,r2,e2,k2,h2,o2⟩:=ZvB hs hr hn h6 t (j+1) _ X1 (by omega) (by omega) hm.1 hd1 hm.2
  refine ⟨X2,r2,(Zr ?_).trans e2,k2,h2,o2⟩
  rw [ZU]
  unfold QJ.l1
  rw [Za Zg,Zb,if_pos (by simpa using hlt),Za x1,Za x2,Za Zv,Za Zi,Za hd.l2,Za e1,Za Zt,Qh (by omega)]
  rfl
theorem ZwK {mem : Mem} : K7 [] k mem=mem:=by
 funext g n
 unfold K7
 simp
theorem ZvD {mem : Mem} {ps : List Tx} : ZmE g k (K7 ps k mem)=K7 (ps++[g]) k mem:=by
 funext g' n
 unfold ZmE K7
 by_cases h1 : g'∈ps <;> by_cases h2 : g'=g <;> cases mem g' n <;> cases hn : n==k <;> simp [h1,h2,hn]
theorem ZvG (hnm : ZB u.nm=true) (hall : u.gs.all ZB=true) (hasc : Jn u.gs=true) (hl : u.gs.length≤6) (hfree : ∀ g,s.mem g u.nm=false) (hK : s.K=gs) {z1 z2 z3 : Value} : ∀ (t j : Nat) (c : Nat) (X : Zd),u.gs.length - j=t→j≤u.gs.length→ND0 X d r { s with mem:=K7 (u.gs.take j) u.nm s.mem } c→X[b]?=some (.cells u.cells 1 false false)→Sl X ugv (u.gs.map strv)→
  ∃ X',Zj (c8 (QJ.l3 (R (n+11)))) [pt d,pt b,z1,z2,z3,ugv,iv u.gs.length,iv j] X=some (if (u.gs.drop j).all (fun g=>decide (g∈gs)) then .ext 4 [pt d,pt b,z1,z2,z3] else .ret (.tuple #[.pointer none,iv 8]),X')∧Zw r.own X r.own X'∧((u.gs.drop j).all (fun g=>decide (g∈gs))=true→∃ c',ND0 X' d r { s with mem:=K7 u.gs u.nm s.mem } c')
 | 0,j,c,X,ht,hj,hd,hb,hs=>by
  have hj : j=u.gs.length:=by omega
  subst hj
  rw [List.take_length] at hd
  rw [List.drop_length]
  refine ⟨X,ZD ?_,.refl _ _,fun _=>⟨c,hd⟩⟩
  rw [YG]
  unfold QJ.l3
  rw [Za Zg,Zb,if_neg (by simp)]
  rfl
 | t+1,j,c,X,ht,hj,hd,hb,hs=>by
  have hkl : j < u.gs.length:=by omega
  have hlt : (j : Int) < u.gs.length:=by omega
  have hg:=List.getElem?_eq_getElem hkl
  have hdr:=List.drop_eq_getElem_cons hkl
  have hsn:=take_snocT hg
  generalize u.gs[j]=g at hg hdr hsn
  have x1:=hs.ix (i:=j) (by simpa using hkl) .i64 X
  have x2:=hs.ldx (J9 hg)
  have l0 : ld1 (pa b 0) X=some (strv u.nm,X):=ZN hb rfl
  obtain ⟨X1,e1,g1,s1⟩:=ZxJ (n:=n+3) (k:=g) (m:=u.nm) hd.gr
  have e1 : R (n+11) Kw [pt r.g,strv g,strv u.nm] X=_:=e1
  rw [hd.ks] at e1 g1
  have hKs : ({ s with mem:=K7 (u.gs.take j) u.nm s.mem } : NSt).K=gs:=hK
  rw [hKs] at e1 g1
  have hgn : ZB g=true:=List.all_eq_true.1 hall g (List.mem_of_getElem? hg)
  have hgt : g∉u.gs.take j:=by
   have hp:=Zfv hasc
   rw [← List.take_append_drop j u.gs,List.pairwise_append,hdr] at hp
   exact fun hm=>List.lt_irrefl g (hp.2.2 g hm g (by simp))
  have hmf : K7 (u.gs.take j) u.nm s.mem g u.nm=false:=by
   unfold K7
   rw [hfree]
   simp [hgt]
  have hfd : JZ g [u.nm] gs=if g∈gs then 0 else 8:=by
   unfold JZ
   simp [hgn,hnm]
  rw [hdr,List.all_cons]
  by_cases hgm : g∈gs
  ·rw [if_pos hgm] at hfd
   have hE : ZdK g u.nm gs (K7 (u.gs.take j) u.nm s.mem)=0:=by
    unfold ZdK
    rw [hfd,if_pos rfl,hmf];rfl
   rw [hE] at e1
   rw [show ({ s with mem:=K7 (u.gs.take j) u.nm s.mem } : NSt).mem=K7 (u.gs.take j) u.nm s.mem from rfl,hE,if_pos rfl,ZvD,← hsn] at g1
   obtain ⟨d1,t1⟩:=hd.setG g1 s1 hd.ks
   have hc1:=hd.cle t1
   rw [decide_eq_true hgm,Bool.true_and]
   have d1' : ND0 X1 d r { s with mem:=K7 (u.gs.take (j+1)) u.nm s.mem } (c+1):=d1
   obtain ⟨X2,e2,t2,h2⟩:=ZvG hnm hall hasc hl hfree hK t (j+1) (c+1) X1 (by omega) (by omega) d1' (hc1 _ _ _ _ _ hb) (hs.cle hc1)
   refine ⟨X2,(Zr ?_).trans e2,Zw.trans t1 t2,h2⟩
   rw [YG]
   unfold QJ.l3
   rw [Za Zg,Zb,if_pos (by simpa using hlt),Za x1,Za x2,Za Zv,Za Zi,Za hd.l2,Za Zi,Za l0,Za e1,Za Zq,Zb,if_neg (by simp),Za Zt,Qh (by omega)]
   rfl
  ·rw [if_neg hgm] at hfd
   have hE : ZdK g u.nm gs (K7 (u.gs.take j) u.nm s.mem)=8:=by
    unfold ZdK
    rw [hfd,if_neg (by simp)]
   rw [hE] at e1
   obtain ⟨d1,t1⟩:=hd.setG g1 s1 hd.ks
   rw [decide_eq_false hgm,Bool.false_and]
   refine ⟨X1,Qc ?_,t1,fun h=>by cases h⟩
   rw [YG]
   unfold QJ.l3
   rw [Za Zg,Zb,if_pos (by simpa using hlt),Za x1,Za x2,Za Zv,Za Zi,Za hd.l2,Za Zi,Za l0,Za e1,Za Zq,Zb,if_pos (by simp)]
   rfl
where
 take_snocT {l : List Tx} {j : Nat} {h : j < l.length} (hg : l[j]?=some l[j]) : l.take (j+1)=l.take j++[l[j]]:=by
  rw [List.take_add_one,hg];rfl
theorem ZoR : ∀ {us : List Zp},(∀ v∈us,v.nm < u.nm)→putU u us=us++[u]
 | [],_=>by simp [putU,ZbZ,ZaJ]
 | v :: us,h=>by
  rw [Zje,if_neg (fun hle=>(List.not_lt.2 hle) (h v (by simp))),ZoR fun w hw=>h w (by simp [hw])]
  rfl
theorem Zv0 (hO : ROK s prev) (hP : ZlE s) (hm : Wk m=true) (hf : QH m=m) : prev.any (fun w=>m==w.ml)=(Zk m s.OW).isSome:=by
 have h1:=ZuY hO hP hm
 rw [hf] at h1
 rw [← h1,Option.isSome_map,List.isSome_find?]
 congr 1
 funext w
 exact BEq.comm
def addN (u : Zp) (s : NSt) : NSt:={ A:=JB u.nm (u.hs,u.ds) s.A,OW:=Zv7 u.nm u.ml s.OW s.OF,OF:=Zhm u.nm u.ml s.OW s.OF,K:=s.K,mem:=K7 u.gs u.nm s.mem }
theorem ZjY (h : ZbC m=true) : m=[]∨(Wk m=true∧QH m=m):=by
 unfold ZbC at h
 simpa using h
theorem Zfa (h : QT u=0) : ZB u.nm=true∧KW u.hs=true∧ZbC u.ml=true∧u.gs.length≤6∧u.gs.all ZB=true∧Jn u.gs=true:=by
 unfold QT at h
 split at h
 ·rename_i h1
  split at h
  ·rename_i h2
   split at h
   ·rename_i h3
    unfold Zc3 at h
    split at h
    ·exact absurd h (by decide)
    ·rename_i h6
     split at h
     ·rename_i h4
      split at h
      ·rename_i h5
       exact ⟨h1,h2,h3,by omega,h4,h5⟩
      ·exact absurd h (by decide)
     ·exact absurd h (by decide)
   ·exact absurd h (by decide)
  ·exact absurd h (by decide)
 ·exact absurd h (by decide)
theorem Zyi (hO : ROK s prev) (hP : ZlE s) (hu : QT u=0) (hA : Zk u.nm s.A=none) : Zaz u.nm u.ml s.OW=if u.ml≠[]∧prev.any (fun w=>u.ml==w.ml)=true then 9 else 0:=by
 obtain ⟨h1,_,h3,_,_,_⟩:=Zfa hu
 unfold Zaz
 rw [h1,if_pos rfl]
 rcases ZjY h3 with hm | ⟨hm,hf⟩
 ·rw [if_pos hm,if_neg (fun h=>h.1 hm)]
 ·have hne : u.ml≠[]:=by have:=(ZgB hm).1;rwa [hf] at this
  rw [if_neg hne,hm,if_pos rfl,hf,Zv0 hO hP hm hf]
  cases hw : Zk u.ml s.OW with
  | none=>simp
  | some w=>
   have hww : w≠u.nm:=fun e=>by
    subst e
    have:=hP.i.ofA u.nm (by rw [(hP.x.inv u.nm u.ml).2 hw];rfl)
    rw [hA] at this;cases this
   simp [hww,hne]
theorem ZwW (hi : Kn s) (hu : QT u=0) (hgs : ∀ g∈u.gs,g∈s.K) (hk : s.K.Nodup) (hA : Zk u.nm s.A=none) (hfree : ∀ g,s.mem g u.nm=false) (he : Zaz u.nm u.ml s.OW=0) (x : Tx) : YF (addN u s) x=if x=u.nm then some (ZW u) else YF s x:=by
 obtain ⟨h1,h2,h3,h4,h5,h6⟩:=Zfa hu
 by_cases hx : x=u.nm
 ·rw [if_pos hx,hx]
  unfold YF
  show (Zk u.nm (JB u.nm (u.hs,u.ds) s.A)).map _=_
  rw [ZaD]
  show some (Zak _ u.nm (u.hs,u.ds))=_
  unfold Zak ZW
  show some (u.nm,u.hs,(Zk u.nm (Zhm u.nm u.ml s.OW s.OF)).getD [],u.ds,ofL u.nm s.K (K7 u.gs u.nm s.mem))=_
  rw [ZjX he,if_pos rfl]
  have hg : ofL u.nm s.K (K7 u.gs u.nm s.mem)=u.gs:=by
   refine (Zqx hk).uniq ⟨Zfv h6,fun y=>Iff.rfl⟩ fun y=>?_
   unfold K7
   rw [hfree]
   simp
   exact hgs y
  rw [hg]
  rcases ZjY h3 with hm | ⟨hm,hf⟩
  ·rw [if_pos hm,hm];rfl
  ·have hne : u.ml≠[]:=by have:=(ZgB hm).1;rwa [hf] at this
   rw [if_neg hne,hf];rfl
 ·rw [if_neg hx]
  unfold YF
  show (Zk x (JB u.nm (u.hs,u.ds) s.A)).map _=_
  rw [WD hx]
  cases Zk x s.A with
  | none=>rfl
  | some p=>
   show some (Zak _ x p)=some (Zak s x p)
   unfold Zak
   show some (x,p.1,(Zk x (Zhm u.nm u.ml s.OW s.OF)).getD [],p.2,ofL x s.K (K7 u.gs u.nm s.mem))=_
   rw [ZjX he,if_neg hx]
   have : ofL x s.K (K7 u.gs u.nm s.mem)=ofL x s.K s.mem:=by
    unfold ofL K7
    refine List.filter_congr fun g _=>?_
    simp [hx]
   rw [this]
theorem Kn.add (hi : Kn s) (hu : QT u=0) (hA : s.A.length < 12) (he : Zaz u.nm u.ml s.OW=0) : Kn (addN u s):=by
 obtain ⟨h1,h2,h3,h4,h5,h6⟩:=Zfa hu
 have p1:=hi.putA (k:=u.nm) (v:=(u.hs,u.ds)) h1 h2 (.inr hA)
 refine ⟨p1.nm,p1.few,fun x hx=>?_,fun g x hx=>?_,fun x y hx=>?_⟩
 ·have hx : (Zk x (Zhm u.nm u.ml s.OW s.OF)).isSome=true:=hx
  rw [ZjX he] at hx
  by_cases e : x=u.nm
  ·show (Zk x (JB u.nm (u.hs,u.ds) s.A)).isSome=true
   rw [e,ZaD];rfl
  ·rw [if_neg e] at hx
   exact Zef (.inl (hi.ofA x hx))
 ·have hx : K7 u.gs u.nm s.mem g x=true:=hx
  unfold K7 at hx
  rw [Bool.or_eq_true] at hx
  rcases hx with hx | hx
  ·exact Zef (.inl (hi.memA g x hx))
  ·rw [Bool.and_eq_true,beq_iff_eq] at hx
   exact Zef (.inr hx.2)
 ·have hx : Zk x (Zhm u.nm u.ml s.OW s.OF)=some y:=hx
  rw [ZjX he] at hx
  by_cases e : x=u.nm
  ·rw [if_pos e] at hx
   rcases ZjY h3 with hm | ⟨hm,hf⟩
   ·rw [if_pos hm] at hx;cases hx
   ·have hne : u.ml≠[]:=by have:=(ZgB hm).1;rwa [hf] at this
    rw [if_neg hne,hf] at hx
    cases hx
    exact ⟨hm,hf⟩
  ·rw [if_neg e] at hx
   exact hi.good x y hx
structure OfS (X0 X : Zd) (d : Nat) (r : NR) (s : NSt) (c : Nat) (gs : List Tx) (prev : List Zp) : Prop where
 le : HLe X0 X
 nd : ND X d r s c
 own : ∀ i∈r.own,X0.length≤i
 K : s.K=gs
 ok : ROK s prev
theorem Zvm (hn : us.length≤12) (hA : QV X0 sl us) (h2 : ∀ u∈us,QT u=0) (hris : Jn (us.map (·.nm))=true) : ∀ (t i : Nat) (s : NSt) (c : Nat) (X : Zd),us.length - i=t→i≤us.length→OfS X0 X d r s c gs (us.take i)→
  ∃ X' o,Zj (c4 (QJ.l2 (R (n+11)))) [pt d,sl,iv us.length,iv i] X=some (o,X')∧HLe X0 X'∧(if Kf gs (us.take i) (us.drop i)=0 then o=.ext 2 [pt d]∧∃ s' c',OfS X0 X' d r s' c' gs us else o=.ret (.tuple #[.pointer none,iv (Kf gs (us.take i) (us.drop i))]))
 | 0,i,s,c,X,ht,hi,hS=>by
  have hi : i=us.length:=by omega
  subst hi
  rw [List.take_length] at hS
  rw [List.drop_length,List.take_length]
  refine ⟨X,.ext 2 [pt d],ZD ?_,hS.le,?_⟩
  ·rw [ZC]
   unfold QJ.l2
   rw [Za Zg,Zb,if_neg (by simp)]
   rfl
  ·rw [if_pos (show Kf gs us []=0 from by unfold Kf;rfl)]
   exact ⟨rfl,s,c,hS⟩
 | t+1,i,s,c,X,ht,hi,hS=>by
  have hjl : i < us.length:=by omega
  have hlt : (i : Int) < us.length:=by omega
  have hg:=List.getElem?_eq_getElem hjl
  have hdr:=List.drop_eq_getElem_cons hjl
  generalize us[i]=u at hg hdr
  have hum:=List.mem_of_getElem? hg
  have hu:=h2 u hum
  obtain ⟨u1,u2,u3,u4,u5,u6⟩:=Zfa hu
  have hP:=hS.nd.pinv
  have hrp : ∀ v∈us.take i,v.nm < u.nm:=fun v hv=>by
   have hp:=Zfv hris
   rw [← List.take_append_drop i us,hdr,List.map_append,List.pairwise_append] at hp
   exact hp.2.2 v.nm (List.mem_map.2 ⟨v,hv,rfl⟩) u.nm (by simp)
  have hlen:=hS.ok.len hP.n
  have hlt' : (us.take i).length=i:=by rw [List.length_take];omega
  have hnone : Zk u.nm s.A=none:=by
   cases ha : Zk u.nm s.A with
   | none=>rfl
   | some p=>
    have h3 : YF s u.nm=some (Zak s u.nm p):=by unfold YF;rw [ha];rfl
    obtain ⟨v,hv,hk⟩:=Zad.1 ((hS.ok.look (Zak s u.nm p)).2 h3)
    have hvn : v.nm=u.nm:=congrArg (·.1) hk
    have:=hrp v hv
    rw [hvn] at this
    exact absurd this (List.lt_irrefl _)
  have hfree:=hP.i.memN hnone
  have hok:=(hA.mono hS.le).ok hum
  have hf:=fun {K : Value→M Out}=>ZcM (k:=K) (hA.mono hS.le).1 hok.2.1 hg
  have g1 : (X++[Zc.cells u.cells 1 false false])[X.length]?=some (.cells u.cells 1 false false):=Zm
  have k1 : HLe X (X++[Zc.cells u.cells 1 false false]):=.app _ _
  generalize X++[Zc.cells u.cells 1 false false]=X1 at g1 k1 hf
  generalize X.length=b at g1 hf
  have d1:=hS.nd.hle k1
  have ok1:=hok.hle k1
  have a0 : ∀ f x,u.cells[f]?=some x→ld1 (pa b f) X1=some (x,X1):=fun f x h=>ZN g1 h
  obtain ⟨X2,e2,m2,s2,_⟩:=d1.m.mup (k:=u.nm) (v:=(u.hs,u.ds))
  obtain ⟨d2,t2⟩:=d1.toND0.setA m2 s2
  have c2:=d1.toND0.cle t2
  have g2:=c2 _ _ _ _ _ g1
  have a4 : ld1 (pa b 4) X2=some (u.gv,X2):=ZN g2 rfl
  have hs2:=ok1.1.cle c2
  have hul : ZH u.gv X2=some (iv u.gs.length,X2):=by have:=hs2.len (H':=X2);simpa using this
  have d2' : ND0 X2 d r { ({ s with A:=JB u.nm (u.hs,u.ds) s.A } : NSt) with mem:=K7 (u.gs.take 0) u.nm s.mem } c:=by
   rw [List.take_zero,ZwK];exact d2
  obtain ⟨X3,e3,t3,h3⟩:=ZvG (n:=n) (s:={ s with A:=JB u.nm (u.hs,u.ds) s.A }) (gs:=gs) (z1:=sl) (z2:=iv us.length) (z3:=iv i) u1 u5 u6 u4 hfree hS.K u.gs.length 0 c X2 (by omega) (by omega) d2' g2 hs2
  rw [show iv ((0 : Nat) : Int)=.int .i64 0 from rfl,List.drop_zero] at e3
  rw [List.drop_zero] at h3
  obtain ⟨q1,q2⟩:=(hS.le.trans k1).more (t2.trans t3) hS.own
  have hbody : ∀ o Z,jn (Zj (c8 (QJ.l3 (R (n+11)))) [pt d,pt b,sl,iv us.length,iv i,u.gv,iv u.gs.length,(Value.int .i64 0)]) noN (xk 4 (c5 fun q45_0 q45_1 q45_2 q45_3 q45_4=>
    bind (Jc q45_0) fun v73x46=>bind (fa 1 v73x46) fun v74x47=>bind (ld1 v74x47) fun v75x48=>bind (fa 0 q45_1) fun v76x49=>bind (ld1 v76x49) fun v77x50=>bind (fa 2 q45_1) fun v78x51=>bind (ld1 v78x51) fun v79x52=>
    bind (R (n+11) Kd [v75x48,v77x50,v79x52]) fun v80x53=>bind (bop .int .neq v80x53 (Value.int .i64 0)) fun v82x54=>
    cnd v82x54 (ret (.ret (Value.tuple #[(Value.pointer none),v80x53]))) (bind (bop .int .add q45_4 (Value.int .i64 1)) fun v84x55=>ret (.nrm [q45_0,q45_2,q45_3,v84x55]))) noX) Ji X2=some (o,Z)→c4 (QJ.l2 (R (n+11))) [pt d,sl,iv us.length,iv i] X=some (o,Z):=fun o Z h=>by
   rw [ZC]
   unfold QJ.l2
   rw [Za Zg,Zb,if_pos (by simpa using hlt),hf,Za Zv,Za Zi,Za d1.l0,Za Zi,Za (a0 0 _ rfl),Za Zi,Za (a0 1 _ rfl),Za Zi,Za (a0 3 _ rfl),Za ZzI,Za e2,Za Zi,Za a4,Za hul]
   exact h
  rw [hdr]
  unfold Kf Zcr
  cases ha : u.gs.all fun g=>decide (g∈gs)
  ·rw [ha] at e3
   simp only [Bool.false_eq_true,if_false]
   exact ⟨X3,_,Qc (hbody _ _ ((QI e3).trans rfl)),q1,rfl⟩
  ·rw [ha] at e3
   simp only [if_true]
   obtain ⟨c3,d3⟩:=h3 ha
   have c23:=d2.cle t3
   have g3:=c23 _ _ _ _ _ g2
   have l0 : ld1 (pa b 0) X3=some (strv u.nm,X3):=ZN g3 rfl
   have l2 : ld1 (pa b 2) X3=some (strv u.ml,X3):=ZN g3 rfl
   obtain ⟨X4,e4,i4,s4⟩:=Zyt (n:=n+2) (k:=u.nm) (m:=u.ml) d3.ix
   have e4 : R (n+11) Kd [pt r.x,strv u.nm,strv u.ml] X3=some (iv (Zaz u.nm u.ml s.OW),X4):=e4
   obtain ⟨d4,t4⟩:=d3.setI i4 s4
   obtain ⟨q3,q4⟩:=q1.more t4 q2
   have hE:=Zyi hS.ok hP hu hnone
   by_cases hp : u.ml≠[]∧(us.take i).any (fun w=>u.ml==w.ml)=true
   ·rw [if_pos hp] at hE
    simp only [if_pos hp]
    rw [hE] at e4
    refine ⟨X4,_,Qc (hbody (.ret (.tuple #[.pointer none,iv 9])) X4 ?_),q3,rfl⟩
    rw [ZO e3,Zu,ZU,Za Zv,Za Zi,Za d3.l1,Za Zi,Za l0,Za Zi,Za l2,Za e4,Za Zq,Zb,if_pos (by simp)]
    rfl
   ·rw [if_neg hp] at hE
    simp only [if_neg hp,if_true]
    rw [hE] at e4
    have hgs : ∀ g∈u.gs,g∈s.K:=fun g hgm=>by
     rw [hS.K]
     simpa using List.all_eq_true.1 ha g hgm
    have hadd:=ZwW hP.i hu hgs hP.k.nod hnone hfree hE
    have hd4 : ND X4 d r (addN u s) c3:=⟨d4,hP.i.add hu (by omega) hE⟩
    have hok4 : ROK (addN u s) (us.take (i+1)):=by
     rw [Zjb hg,← ZoR hrp]
     exact hS.ok.put (by rw [hadd,if_pos rfl]) (fun x hx=>by rw [hadd,if_neg hx])
    obtain ⟨X5,o5,e5,k5,h5⟩:=Zvm hn hA h2 hris t (i+1) (addN u s) c3 X4 (by omega) (by omega) ⟨q3,hd4,q4,hS.K,hok4⟩
    rw [Zjb hg] at h5
    refine ⟨X5,o5,(Zr (hbody _ X4 ?_)).trans e5,k5,h5⟩
    rw [ZO e3,Zu,ZU,Za Zv,Za Zi,Za d3.l1,Za Zi,Za l0,Za Zi,Za l2,Za e4,Za Zq,Zb,if_neg (by simp),Za Zt,Qh (by omega)]
    rfl
theorem Zut (h : Zbb us gs=0) : Jm us=0∧Jn (us.map (·.nm))=true∧us.length≤12∧gs.all ZB=true∧Jn gs=true∧gs.length≤6:=by
 unfold Zbb ZdG at h
 by_cases h1 : Jm us=0
 ·simp only [if_pos h1] at h
  cases h2 : Jn (us.map (·.nm))
  ·rw [h2] at h;simp at h
  ·rw [h2] at h
   by_cases h3 : 12 < us.length
   ·simp [h3] at h
   ·cases h4 : gs.all ZB <;> cases h5 : Jn gs <;> rw [h4,h5] at h <;> by_cases h6 : 6 < gs.length <;> simp [h3,h6] at h
    exact ⟨h1,rfl,by omega,rfl,rfl,by omega⟩
 ·simp only [if_neg h1] at h
  exact absurd h h1
theorem Zox (hn : us.length≤1000) (hl : gs.length≤1000000) (hA : QV X sl us) (hs : Sl X gv (gs.map strv)) : ∃ X',HLe X X'∧(if WJ us gs=0 then ∃ d r s c,R (n+12) ZaG [sl,gv] X=some (.tuple #[pt d,iv 0],X')∧OfS X X' d r s c gs us else R (n+12) ZaG [sl,gv] X=some (.tuple #[.pointer none,iv (WJ us gs)],X')):=by
 obtain ⟨X1,e1,k1⟩:=Zri (n:=n) hn hl hA hs
 have f1 : ∀ r X',QJ (R (n+11)) sl gv X=some (r,X')→R (n+12) ZaG [sl,gv] X=some (r,X'):=fun r X' hr=>by rw [R,Zr4 rfl];exact hr
 unfold WJ
 by_cases hc : Zbb us gs=0
 ·obtain ⟨c1,c2,c3,c4,c5,c6⟩:=Zut hc
  rw [hc] at e1
  simp only [if_pos hc]
  have q1 : bop .int .neq (iv 0) (.int .i64 0) X1=some (.bool false,X1):=by rw [Zq];rfl
  obtain ⟨X2,d,r,e2,D2,l2,o1,o2⟩:=ZyG (n:=n+9) (X:=X1)
  have e2 : R (n+11) Zdq [] X1=_:=e2
  have k2:=k1.trans l2
  have hgn : ZH gv X2=some (iv gs.length,X2):=by have:=hs.len (H':=X2);simpa using this
  obtain ⟨X3,r3,e3,k3,D3,o3⟩:=ZvB (n:=n) (sl:=sl) hs c5 c4 c6 gs.length 0 r X2 (by omega) (by omega) k2 D2 (fun i hi=>Nat.le_trans k1.len (o2 i hi))
  rw [show iv ((0 : Nat) : Int)=.int .i64 0 from rfl] at e3
  have hlen : ZH sl X3=some (iv us.length,X3):=by have:=hA.1.len (H':=X3);rwa [List.length_map] at this
  have hS : OfS X X3 d r3 (nGs gs) 0 gs (us.take 0):=⟨k3,D3,o3,rfl,⟨List.Pairwise.nil,fun key=>by simp [YF,nGs,Zk]⟩⟩
  obtain ⟨X4,o,e4,k4,h4⟩:=Zvm (n:=n) c3 hA (ZjK c1) c2 us.length 0 (nGs gs) 0 X3 (by omega) (by omega) hS
  rw [show iv ((0 : Nat) : Int)=.int .i64 0 from rfl] at e4
  rw [List.take_zero,List.drop_zero] at h4
  refine ⟨X4,k4,?_⟩
  by_cases hz : Kf gs [] us=0
  ·rw [if_pos hz] at h4 ⊢
   obtain ⟨rfl,s',c',hS'⟩:=h4
   refine ⟨d,r3,s',c',f1 _ _ ?_,hS'⟩
   unfold QJ
   rw [Za e1,Za q1,Zb,if_neg (by simp),Za e2,Za hgn,ZO e3,Zu,ZP,Za hlen,ZO e4,Zu]
   rfl
  ·rw [if_neg hz] at h4 ⊢
   subst h4
   refine f1 _ _ ?_
   unfold QJ
   rw [Za e1,Za q1,Zb,if_neg (by simp),Za e2,Za hgn,ZO e3,Zu,ZP,Za hlen,QI e4]
   rfl
 ·simp only [if_neg hc]
  have q1 : bop .int .neq (iv (Zbb us gs)) (.int .i64 0) X1=some (.bool true,X1):=by rw [Zq];simp [hc]
  refine ⟨X1,k1,f1 _ _ ?_⟩
  unfold QJ
  rw [Za e1,Za q1,Zb,if_pos rfl]
  rfl
theorem ZvW {us ws : List Zp} (h : us.map ZW=ws.map ZW) : WJ us gs=WJ ws gs:=by
 have hrest : ∀ (l l' p p' : List Zp),l.map ZW=l'.map ZW→p.map ZW=p'.map ZW→Kf gs p l=Kf gs p' l':=by
  intro l
  induction l with
  | nil=>
   intro l' p p' hl hp
   cases l' with
   | nil=>unfold Kf;rfl
   | cons a b=>simp at hl
  | cons u l ih=>
   intro l' p p' hl hp
   cases l' with
   | nil=>simp at hl
   | cons w l'=>
    rw [List.map_cons,List.map_cons,List.cons.injEq] at hl
    have hg : u.gs=w.gs:=congrArg (·.2.2.2.2) hl.1
    have hm : u.ml=w.ml:=congrArg (·.2.2.1) hl.1
    have hany : p.any (fun v=>u.ml==v.ml)=p'.any (fun v=>w.ml==v.ml):=by
     have h1 : ∀ (p : List Zp) (m : Tx),p.any (fun v=>m==v.ml)=(p.map ZW).any (fun v=>m==v.2.2.1):=fun p m=>by
      rw [List.any_map];rfl
     rw [h1,h1,hp,hm]
    have hpe : Zcr gs p u=Zcr gs p' w:=by
     unfold Zcr
     rw [hg,hm]
     rw [hm] at hany
     rw [hany]
    unfold Kf
    rw [hpe,ih l' (p++[u]) (p'++[w]) hl.2 (by rw [List.map_append,List.map_append,hp,List.map_singleton,List.map_singleton,hl.1])]
 have hfirst : ∀ (l l' : List Zp),l.map ZW=l'.map ZW→Jm l=Jm l':=by
  intro l
  induction l with
  | nil=>
   intro l' hl
   cases l' with
   | nil=>rfl
   | cons a b=>simp at hl
  | cons u l ih=>
   intro l' hl
   cases l' with
   | nil=>simp at hl
   | cons w l'=>
    rw [List.map_cons,List.map_cons,List.cons.injEq] at hl
    have he : QT u=QT w:=by
     have h1 : u.nm=w.nm:=congrArg (·.1) hl.1
     have h2 : u.hs=w.hs:=congrArg (·.2.1) hl.1
     have h3 : u.ml=w.ml:=congrArg (·.2.2.1) hl.1
     have h4 : u.gs=w.gs:=congrArg (·.2.2.2.2) hl.1
     unfold QT
     rw [h1,h2,h3,h4]
    unfold Jm
    rw [he,ih l' hl.2]
 have hnm : us.map (·.nm)=ws.map (·.nm):=by
  have h1:=congrArg (List.map (·.1)) h
  rw [List.map_map,List.map_map] at h1
  exact h1
 have hlen : us.length=ws.length:=by
  have h1:=congrArg List.length h
  rwa [List.length_map,List.length_map] at h1
 unfold WJ Zbb ZdG
 rw [hfirst us ws h,hnm,hlen,hrest us ws [] [] h rfl]
end
end Go.Proofs.YtedkoimihknggaaGreatDoor.A

namespace Go.Proofs.YtedkoimihknggaaGreatDoor.A
set_option linter.unusedVariables false
set_option linter.unusedSimpArgs false
open Go.Proofs Go.Proofs.YtedkoimihknggaaGreatDoor
def le (x : Nat) : Nat→List UInt8
 | 0=>[]
 | k+1=>UInt8.ofNat (x % 256) :: le (x / 256) k
theorem KS : ∀ {k x : Nat},(le x k).length=k
 | 0,_=>rfl
 | k+1,x=>by unfold le;rw [List.length_cons,KS]
def txt (s : List UInt8) : List UInt8:=le s.length 2++s
theorem Zyo (a b : List UInt8) : u8s (a++b)=u8s a++u8s b:=by simp [u8s]
section
variable {H X : Zd} {n p : Nat} {sl x v : Value} {vs ws : List Value} {own : List Nat} {bs s : List UInt8}
theorem Zs.addN {b : Nat} (h : Zs H sl vs own) (hf : Qq 1 H x=some ws) (hn : A.flen x=ws.length) (hb : (vs.length+ws.length) * b≤140737488355328) (hb0 : vs.length+ws.length≤140737488355328) :
  ∃ sl' H' own',app 1 b sl x H=some (sl',H')∧Zs H' sl' (vs++ws) own'∧Zw own H own' H':=by
 by_cases h0 : ws.length=0
 ·have hw : ws=[]:=List.eq_nil_of_length_eq_zero h0
  subst hw
  refine ⟨sl,H,own,?_,by simpa using h,.refl _ _⟩
  rcases h with ⟨rfl,rfl,rfl⟩ | ⟨sid,rest,gr,rfl,rfl,hid⟩
  ·unfold app
   rw [hf]
   simp [hn]
  ·unfold app
   rw [hf]
   simp [hn,hid]
 rcases h with ⟨rfl,rfl,rfl⟩ | ⟨sid,rest,gr,rfl,rfl,hid⟩
 ·refine ⟨_,H++[.cells ws 1 true false],[H.length],?_,.inr ⟨H.length,[],true,rfl,rfl,by simp⟩,⟨by simp,fun j hj _=>List.getElem?_append_left hj,by simp⟩⟩
  unfold app
  rw [hf]
  simp only [hn]
  simp only [List.length_nil,Nat.zero_add] at hb hb0
  rw [if_neg h0,if_pos ⟨hb0,hb⟩]
  simp
 ·have hlt:=Z5 hid
  by_cases hc : ws.length≤rest.length
  ·have hsp : splice (vs++rest) ws vs.length=vs++(ws++rest.drop ws.length):=by
    unfold splice
    rw [List.take_left,List.drop_append,List.drop_eq_nil_of_le (by omega),List.nil_append,Nat.add_sub_cancel_left,List.append_assoc]
   have hset : (H.set sid (.cells (vs++(ws++rest.drop ws.length)) 1 gr false))[sid]?=some (.cells (vs++(ws++rest.drop ws.length)) 1 gr false):=ZI hid
   refine ⟨.slice (some ⟨sid,0,none⟩) (vs.length+ws.length) (vs.length+rest.length),H.set sid (.cells (vs++(ws++rest.drop ws.length)) 1 gr false),[sid],?_,.inr ⟨sid,rest.drop ws.length,gr,?_,rfl,by rw [hset,List.append_assoc]⟩,⟨by simp,fun j hj hn=>List.getElem?_set_ne (fun e=>hn (by simp [e])),by simp⟩⟩
   ·unfold app
    rw [hf]
    simp only [hn,hid,if_true,Nat.mul_one,Nat.zero_add]
    rw [if_pos (by omega),if_neg h0,if_pos ⟨trivial,by rw [List.length_append];omega⟩,hsp]
   ·rw [List.length_append,List.length_drop]
    congr 1;omega
  ·have hold : ((vs++rest).drop 0).take vs.length=vs:=by rw [List.drop_zero,List.take_left]
   have happ : app 1 b (.slice (some ⟨sid,0,none⟩) vs.length (vs.length+rest.length)) x H=some (.slice (some ⟨H.length,0,none⟩) (vs.length+ws.length) (vs.length+ws.length),(bif gr then H.set sid (.view vs 1 H.length) else H)++[.cells (vs++ws) 1 true false]):=by
    unfold app
    rw [hf]
    simp only [hn,hid,if_true,Nat.mul_one,Nat.zero_add]
    rw [if_neg (by omega),if_pos ⟨by simp,by rw [List.length_append];omega,hb0,hb⟩,hold]
    rfl
   have hnew : ((bif gr then H.set sid (.view vs 1 H.length) else H)++[.cells (vs++ws) 1 true false])[H.length]?=some (.cells (vs++ws) 1 true false):=by
    rw [List.getElem?_append_right (by cases gr <;> simp)]
    cases gr <;> simp
   refine ⟨_,_,[H.length],happ,.inr ⟨H.length,[],true,by simp,rfl,by rw [hnew,List.append_nil]⟩,⟨?_,fun j hj hn=>?_,by simp⟩⟩
   ·cases gr <;> simp
   ·rw [List.getElem?_append_left (by cases gr <;> simpa using hj)]
    cases gr
    ·rfl
    ·exact List.getElem?_set_ne (fun e=>hn (by simp [e]))
structure Wtr (H : Zd) (p : Nat) (bs : List UInt8) (own : List Nat) : Prop where
 o : ∃ sl,H[p]?=some (.cells [sl] 1 false false)∧Zs H sl (u8s bs) own
 ne : p∉own
theorem Wtr.lt (h : Wtr H p bs own) : ∀ j∈p :: own,j < H.length:=by
 obtain ⟨sl,hc,hr⟩:=h.o
 intro j hj
 rcases List.mem_cons.1 hj with rfl | hj
 ·exact Z5 hc
 ·exact hr.lt j hj
theorem Wtr.keep (h : Wtr H p bs own) (hk : ∀ j∈p :: own,X[j]?=H[j]?) : Wtr X p bs own:=by
 obtain ⟨sl,hc,hr⟩:=h.o
 exact ⟨⟨sl,by rw [hk p (by simp)];exact hc,hr.keep fun j hj=>hk j (by simp [hj])⟩,h.ne⟩
theorem Wtr.step {o1 o2 : List Nat} (h : Wtr H p bs own) (hs : Zw o1 H o2 X) (hn : ∀ j∈p :: own,j∉o1) : Wtr X p bs own:=
 h.keep fun j hj=>hs.keep j (h.lt j hj) (hn j hj)
theorem Wtr.hle (h : Wtr H p bs own) (hl : HLe H X) : Wtr X p bs own:=h.step hl.step (by simp)
theorem Wtr.put {own' : List Nat} {bs' : List UInt8} (h : Wtr H p bs own) (hr : Zs X sl (u8s bs') own') (hs : Zw own H own' X) : ∃ X',st1 (pt p) sl X=some (undef,X')∧Wtr X' p bs' own'∧Zw (p :: own) H (p :: own') X':=by
 obtain ⟨sl0,hc,hr0⟩:=h.o
 have hc1 : X[p]?=some (.cells [sl0] 1 false false):=hs.get hc h.ne
 have hne : p∉own':=fun hm=>by
  rcases hs.own p hm with h1 | h1
  ·exact h.ne h1
  ·have:=Z5 hc;omega
 have e1 : st1 (pt p) sl X=some (undef,X.set p (.cells [sl] 1 false false)):=W8 (o:=0) hc1 (by simp) hr.one.1
 refine ⟨_,e1,⟨⟨sl,ZI hc1,hr.keep fun j hj=>List.getElem?_set_ne (fun e=>hne (by rw [e];exact hj))⟩,hne⟩,?_⟩
 have s1 : Zw [p] X [p] (X.set p (.cells [sl] 1 false false)):=⟨by simp,fun j hj hn=>List.getElem?_set_ne (fun e=>hn (by simp [e])),fun j hj=>.inl hj⟩
 refine (hs.more (o2:=p :: own) (o2':=p :: own') (by simp+contextual) ?_).trans (s1.more (by simp) (fun j hj=>.inl hj))
 intro j hj
 rcases List.mem_cons.1 hj with rfl | hj
 ·exact .inl (by simp)
 ·exact .inr (.inl hj)
theorem Znc (x : Nat) : ((UInt8.ofNat (x % 256)).toNat : Int)=(x : Int) % 256:=by
 rw [UInt8.toNat_ofNat']
 omega
theorem Zvc {N : Nat} (hN : N≤1000) : ∀ (t k x : Nat) (bs : List UInt8) (own : List Nat) (H : Zd),N - k=t→k≤N→x < 18446744073709551616→bs.length+t≤1000000000000→Wtr H p bs own→
  ∃ H' own',Zj (c4 (J5.l1 (R n))) [pt p,.int .u64 x,iv N,iv k] H=some (.ext 0 [pt p],H')∧Wtr H' p (bs++le x t) own'∧Zw (p :: own) H (p :: own') H'
 | 0,k,x,bs,own,H,ht,hk,hx,hb,h=>by
  have : k=N:=by omega
  subst this
  refine ⟨H,own,ZD ?_,by simpa [le] using h,.refl _ _⟩
  rw [ZC]
  unfold J5.l1
  rw [Za Zg,Zb,if_neg (by simp)]
  rfl
 | t+1,k,x,bs,own,H,ht,hk,hx,hb,h=>by
  have hlt : (k : Int) < N:=by omega
  obtain ⟨sl,hc,hr⟩:=h.o
  have e1 : bsl 1 1 (.int .u8 0) [(0,1,.int .u8 ((UInt8.ofNat (x % 256)).toNat))] H=some (.slice (some ⟨H.length,0,none⟩) 1 1,H++[.cells [.int .u8 ((UInt8.ofNat (x % 256)).toNat)] 1 false false]):=ZqF rfl rfl rfl
  have k1 : HLe H (H++[Zc.cells [.int .u8 ((UInt8.ofNat (x % 256)).toNat)] 1 false false]):=.app _ _
  have s1 : Sl (H++[Zc.cells [.int .u8 ((UInt8.ofNat (x % 256)).toNat)] 1 false false]) (.slice (some ⟨H.length,0,none⟩) 1 1) [.int .u8 ((UInt8.ofNat (x % 256)).toNat)]:=Sl.one (vs:=[.int .u8 ((UInt8.ofNat (x % 256)).toNat)]) Zm
  generalize H++[Zc.cells [.int .u8 ((UInt8.ofNat (x % 256)).toNat)] 1 false false]=X1 at e1 k1 s1
  have h1:=h.hle k1
  have hr1 : Zs X1 sl (u8s bs) own:=hr.step k1.step (by simp)
  have hl : (u8s bs).length=bs.length:=QB bs
  obtain ⟨sl',X2,own',e2,r2,st2,_⟩:=hr1.push (b:=1) s1 (by omega) (by omega)
  rw [show u8s bs++[.int .u8 ((UInt8.ofNat (x % 256)).toNat)]=u8s (bs++[UInt8.ofNat (x % 256)]) from by simp [u8s]] at r2
  obtain ⟨X3,e3,w3,st3⟩:=h1.put r2 st2
  have hx2 : x / 256 < 18446744073709551616:=by omega
  obtain ⟨H',own2,e4,w4,st4⟩:=Zvc hN t (k+1) (x / 256) (bs++[UInt8.ofNat (x % 256)]) own' X3 (by omega) (by omega) hx2 (by rw [List.length_append,List.length_singleton];omega) w3
  have c1 : cvi .u8 (.int .u64 x) H=some (.int .u8 ((UInt8.ofNat (x % 256)).toNat),H):=by rw [Qi,wu8,Znc]
  have c2 : ∀ Y,bop .int .shr (.int .u64 x) (.int .u64 8) Y=some (.int .u64 ((x / 256 : Nat) : Int),Y):=fun Y=>by
   rw [ZzA,if_neg (by decide)]
   congr 3
   rw [show (2 : Int) ^ min (8 : Int).toNat IntKind.u64.bits=256 from rfl]
   rw [Int.fdiv_eq_ediv_of_nonneg _ (by decide)]
   omega
  have c3 : ld1 (pt p) H=some (sl,H):=ZeB hc
  refine ⟨H',own2,(Zr ?_).trans e4,?_,(k1.step.more (by simp) (fun j hj=>.inl hj)).trans (st3.trans st4)⟩
  ·rw [ZC]
   unfold J5.l1
   rw [Za Zg,Zb,if_pos (by simpa using hlt),Za Zv,Za Zi,Za c3,Za c1,Za e1,Za e2,Za Zv,Za Zi,Za e3,Za (c2 _),Za Zt,Qh (by omega)]
   rfl
  ·rw [List.append_assoc] at w4
   exact w4
theorem Zuh {N x : Nat} (hN : N≤1000) (hx : x < 18446744073709551616) (hb : bs.length+N≤1000000000000) (h : Wtr H p bs own) : ∃ H' own',R (n+1) Ka [pt p,.int .u64 x,iv N] H=some (pt p,H')∧Wtr H' p (bs++le x N) own'∧Zw (p :: own) H (p :: own') H':=by
 obtain ⟨H',own',e,w,s⟩:=Zvc (n:=n) hN N 0 x bs own H (by omega) (by omega) hx hb h
 have e : Zj (c4 (J5.l1 (R n))) [pt p,.int .u64 x,iv N,.int .i64 0] H=_:=e
 refine ⟨H',own',?_,w,s⟩
 rw [R,ZiO rfl]
 unfold J5
 rw [ZO e,Zu]
 rfl
theorem ZsO {x : Nat} (hx : x < 256) (hb : bs.length≤100000000000) (h : Wtr H p bs own) : ∃ H' own',R (n+2) JP [pt p,.int .u8 x] H=some (pt p,H')∧Wtr H' p (bs++le x 1) own'∧Zw (p :: own) H (p :: own') H':=by
 obtain ⟨H',own',e,w,s⟩:=Zuh (n:=n) (N:=1) (x:=x) (by omega) (by omega) (by omega) h
 have e : R (n+1) Ka [pt p,.int .u64 x,.int .i64 1] H=_:=e
 have c1 : cvi .u64 (.int .u8 x) H=some (.int .u64 x,H):=by rw [Qi,Zds,Int.emod_eq_of_lt (by omega) (by omega)]
 refine ⟨H',own',?_,w,s⟩
 rw [R,Zh8 rfl]
 unfold Zcc
 rw [Za c1,Za e]
 rfl
theorem Zqv {x : Nat} (hx : x < 65536) (hb : bs.length≤100000000000) (h : Wtr H p bs own) : ∃ H' own',R (n+2) Yw [pt p,.int .u16 x] H=some (pt p,H')∧Wtr H' p (bs++le x 2) own'∧Zw (p :: own) H (p :: own') H':=by
 obtain ⟨H',own',e,w,s⟩:=Zuh (n:=n) (N:=2) (x:=x) (by omega) (by omega) (by omega) h
 have e : R (n+1) Ka [pt p,.int .u64 x,.int .i64 2] H=_:=e
 have c1 : cvi .u64 (.int .u16 x) H=some (.int .u64 x,H):=by rw [Qi,Zds,Int.emod_eq_of_lt (by omega) (by omega)]
 refine ⟨H',own',?_,w,s⟩
 rw [R,Zja rfl]
 unfold ZcG
 rw [Za c1,Za e]
 rfl
theorem ZtN (n : Int) : IntKind.u16.wrap n=n % 65536:=by simp [IntKind.wrap,IntKind.bits,IntKind.signed]
theorem ZyF : Qq 1 H (strv s)=some (u8s s):=by
 unfold strv Qq
 rfl
theorem ZwD : A.flen (strv s)=(u8s s).length:=by
 rw [QB]
 unfold strv A.flen
 exact Znp
theorem Zj1 (hs : s.length≤65535) (hb : bs.length≤1000000000) (h : Wtr H p bs own) : ∃ H' own',R (n+3) Jr [pt p,strv s] H=some (pt p,H')∧Wtr H' p (bs++txt s) own'∧Zw (p :: own) H (p :: own') H':=by
 obtain ⟨H1,q1,e1,w1,s1⟩:=Zqv (n:=n) (x:=s.length) (by omega) (by omega) h
 obtain ⟨sl,hc,hr⟩:=w1.o
 have hl2 : (u8s (bs++le s.length 2)).length=bs.length+2:=by rw [QB,List.length_append,KS]
 have hl3 : (u8s s).length=s.length:=QB s
 obtain ⟨sl',H2,q2,e2,r2,s2⟩:=hr.addN (b:=1) (x:=strv s) ZyF ZwD (by omega) (by omega)
 rw [← Zyo,List.append_assoc] at r2
 obtain ⟨H3,e3,w3,s3⟩:=w1.put r2 s2
 have c0 : mxi false (iv s.length) (.int .i64 65535) H=some (iv s.length,H):=by rw [Ys,if_neg (by omega)]
 have c1 : sls (strv s) none (some (iv s.length)) H=some (strv s,H):=by
  have:=Zmn (s:=s) (k:=s.length) (H:=H) (Nat.le_refl _)
  rwa [List.take_length] at this
 have c2 : cvi .u16 (iv s.length) H=some (.int .u16 s.length,H):=by rw [Qi,ZtN,Int.emod_eq_of_lt (by omega) (by omega)]
 have c3 : ld1 (pt p) H1=some (sl,H1):=ZeB hc
 refine ⟨H3,q2,?_,w3,s1.trans s3⟩
 rw [R,Zie rfl]
 unfold Zb5
 rw [Za ZM,Za c0,Za c1,Za ZM,Za c2,Za e1,Za Zv,Za Zi,Za c3,Za e2,Za Zv,Za Zi,Za e3]
 rfl
theorem Zoo {b : Value} {bs : List UInt8} (hb : Sl H b (u8s bs)) (hp : bs.length≤140737488355328) :
  ∃ v q H',R (n+1) Wz [b] H=some (v,H')∧Zs H' v (u8s bs) q∧HLe H H'∧∀ j∈q,H.length≤j:=by
 rw [R,ZnW rfl]
 rcases hb.isnil (H':=H) with ⟨rfl,hp0,e⟩ | e
 ·refine ⟨.slice none 0 0,[],H,?_,by rw [hp0];exact Zs.nil,.refl _,by simp⟩
  unfold Zde
  rw [Za e]
  rfl
 ·have hb2 : Sl (H++[.cells [] 1 false false]) b (u8s bs):=hb.mono (.app _ _)
  obtain ⟨sl',H',own',e2,hr,hle,ho⟩:=Zuq (b:=1) hb2 (by rw [QB];omega) (by rw [QB];omega) (s:=.slice (some ⟨H.length,0,none⟩) 0 0) (.inr ⟨H.length,false,rfl,Zm,rfl⟩)
  refine ⟨sl',own',H',?_,hr,(HLe.app _ _).trans hle,fun j hj=>?_⟩
  ·unfold Zde
   rw [Za e,Zb,if_neg (by simp),Za Zy4,Za e2]
   rfl
  ·rcases ho j hj with h | ⟨_,h⟩
   ·simp at h;omega
   ·cases h;exact Nat.le_refl _
theorem ZwA (hb : bs.length≤1000000000) (h : Wtr H p bs own) : ∃ v q H',R (n+2) KV [pt p] H=some (v,H')∧Zs H' v (u8s bs) q∧HLe H H'∧∀ j∈q,H.length≤j:=by
 obtain ⟨sl,hc,hr⟩:=h.o
 obtain ⟨v,q,H',e,r,l,o⟩:=Zoo (n:=n) hr.rd (by omega)
 refine ⟨v,q,H',?_,r,l,o⟩
 rw [R,Zg3 rfl]
 unfold Zbm
 rw [Za Zv,Za Zi,Za (ZeB hc),Za e]
 rfl
theorem ZxG : bld (.agg #[.slice none 0 0]) [] H=some (.agg #[.slice none 0 0],H)∧alc 1 (.agg #[.slice none 0 0]) H=some (pt H.length,H++[.cells [.slice none 0 0] 1 false false])∧Wtr (H++[.cells [.slice none 0 0] 1 false false]) H.length [] []:=
 ⟨rfl,rfl,⟨⟨.slice none 0 0,Zm,Zs.nil⟩,by simp⟩⟩
end
end Go.Proofs.YtedkoimihknggaaGreatDoor.A
namespace Go.Proofs.YtedkoimihknggaaGreatDoor.A
set_option linter.unusedVariables false
set_option linter.unusedSimpArgs false
open Go.Proofs Go.Proofs.YtedkoimihknggaaGreatDoor
abbrev RSt:=Nat × List UInt8
def leN : List UInt8→Nat
 | []=>0
 | b :: l=>b.toNat+256 * leN l
def Z3 (e : Nat) (s : RSt) : RSt:=if s.1=0∧e≠0 then (e,[]) else s
def tkS (n : Nat) (s : RSt) : List UInt8 × RSt:=if n≤s.2.length then (s.2.take n,(s.1,s.2.drop n)) else ([],Z3 2 s)
def Z0 (k : Nat) (s : RSt) : Nat × RSt:=(leN (tkS k s).1,(tkS k s).2)
def Qy (most : Nat) (s : RSt) : Nat × RSt:=if (Z0 2 s).1 > most then (0,Z3 3 (Z0 2 s).2) else Z0 2 s
def ZV (most : Nat) (s : RSt) : List UInt8 × RSt:=tkS (Qy most s).1 (Qy most s).2
def RB (H : Zd) (sl : Value) (bs : List UInt8) : Prop:=
 (bs=[]∧(sl=.slice none 0 0∨∃ id o j,sl=.slice (some ⟨id,o,some j⟩) 0 0))∨
 ∃ id o c cs g ro,sl=.slice (some ⟨id,o,none⟩) bs.length c∧bs.length≤c∧H[id]?=some (.cells cs 1 g ro)∧o+bs.length≤cs.length∧(cs.drop o).take bs.length=u8s bs
def Rdr (H : Zd) (p : Nat) (s : RSt) : Prop:=
 ∃ sl,H[p]?=some (.cells [sl,iv s.1] 1 false false)∧RB H sl s.2∧(∀ j,own1 sl=some j→j < p)∧(s.1≠0→s.2=[])
theorem Zl5 : ∀ (l : List UInt8),leN l < 256 ^ l.length
 | []=>by decide
 | b :: l=>by
  have h1:=Zl5 l
  have h2 : b.toNat < 256:=b.toNat_lt
  rw [List.length_cons,Nat.pow_succ]
  unfold leN
  omega
theorem Zln : ∀ (l : List UInt8) (b : UInt8),leN (l++[b])=leN l+b.toNat * 2 ^ (8 * l.length)
 | [],b=>by simp [leN]
 | a :: l,b=>by
  rw [List.cons_append]
  unfold leN
  rw [Zln l b,List.length_cons,Nat.mul_add,show 8 * (l.length+1)=8 * l.length+8 by omega,Nat.pow_add]
  have : 256 * (b.toNat * 2 ^ (8 * l.length))=b.toNat * (2 ^ (8 * l.length) * 2 ^ 8):=by
   rw [← Nat.mul_assoc,Nat.mul_comm 256,Nat.mul_assoc,Nat.mul_comm 256]
  omega
section
variable {H X : Zd} {n p : Nat} {sl x v : Value} {vs ws : List Value} {own : List Nat} {bs : List UInt8} {s : RSt}
theorem RB.rd (h : RB H sl bs) : Sl H sl (u8s bs):=by
 rcases h with ⟨rfl,rfl | ⟨id,o,j,rfl⟩⟩ | ⟨id,o,c,cs,g,ro,rfl,h1,h2,h3,h4⟩
 ·exact Sl.nil
 ·exact ⟨_,_,rfl,(fun e=>by cases e),rfl⟩
 ·refine ⟨_,c,by rw [QB],(fun e=>by cases e),?_⟩
  unfold Qq
  simp only [h2,Nat.mul_one]
  rw [if_pos h3,h4]
theorem RB.one (h : RB H sl bs) : oneCell sl=true:=by
 rcases h with ⟨rfl,rfl | ⟨id,o,j,rfl⟩⟩ | ⟨id,o,c,cs,g,ro,rfl,_⟩ <;> rfl
theorem RB.keep (h : RB H sl bs) (hk : ∀ j,own1 sl=some j→X[j]?=H[j]?) : RB X sl bs:=by
 rcases h with h | ⟨id,o,c,cs,g,ro,rfl,h1,h2,h3,h4⟩
 ·exact .inl h
 ·exact .inr ⟨id,o,c,cs,g,ro,rfl,h1,by rw [hk id rfl];exact h2,h3,h4⟩
theorem Zs.rb {q : List Nat} (h : Zs H sl (u8s bs) q) : RB H sl bs:=by
 rcases h with ⟨h1,rfl,rfl⟩ | ⟨sid,rest,g,rfl,rfl,hid⟩
 ·refine .inl ⟨?_,.inl rfl⟩
  cases bs with
  | nil=>rfl
  | cons b l=>simp [u8s] at h1
 ·refine .inr ⟨sid,0,_,_,g,false,by rw [QB],by first | omega | (rw [QB];omega),hid,?_,?_⟩
  ·rw [List.length_append,QB];omega
  ·rw [List.drop_zero,← QB bs,List.take_left]
theorem RB.cut (h : RB H sl bs) {k : Nat} (hk : k≤bs.length) : ∃ a b,slv 1 sl none (some (iv k)) none H=some (a,H)∧slv 1 sl (some (iv k)) none none H=some (b,H)∧RB H a (bs.take k)∧RB H b (bs.drop k)∧(∀ j,own1 a=some j→own1 sl=some j)∧(∀ j,own1 b=some j→own1 sl=some j):=by
 have b1 : ∀ d,bnd (some (iv k)) d=some k:=fun d=>by simp [bnd]
 have b2 : ∀ d,bnd none d=some d:=fun _=>rfl
 rcases h with ⟨rfl,h⟩ | ⟨id,o,c,cs,g,ro,rfl,h1,h2,h3,h4⟩
 ·have hk0 : k=0:=by simpa using hk
  subst hk0
  rcases h with rfl | ⟨id,o,j,rfl⟩
  ·exact ⟨_,_,rfl,rfl,.inl ⟨rfl,.inl rfl⟩,.inl ⟨rfl,.inl rfl⟩,fun _ h=>h,fun _ h=>h⟩
  ·exact ⟨_,_,rfl,rfl,.inl ⟨rfl,.inr ⟨_,_,_,rfl⟩⟩,.inl ⟨rfl,.inr ⟨_,_,_,rfl⟩⟩,fun _ h=>h,fun _ h=>h⟩
 ·have hA : ∃ a,slv 1 (.slice (some ⟨id,o,none⟩) bs.length c) none (some (iv k)) none H=some (a,H)∧RB H a (bs.take k)∧(∀ j,own1 a=some j→some id=some j):=by
   by_cases h0 : c=0
   ·have hb : bs=[]:=List.eq_nil_of_length_eq_zero (by omega)
    subst hb
    refine ⟨.slice (some ⟨id,o,some (bif g then 1 else 0)⟩) 0 0,?_,.inl ⟨List.take_nil,.inr ⟨_,_,_,rfl⟩⟩,fun j h=>by cases h⟩
    have hk0 : k=0:=by simpa using hk
    subst hk0
    simp only [slv,h2,b1,b2]
    rw [if_pos ⟨trivial,by omega,by omega,Nat.le_refl _⟩,if_pos (by omega)]
   ·have hl : (bs.take k).length=k:=by simp;omega
    refine ⟨.slice (some ⟨id,o,none⟩) k c,?_,.inr ⟨id,o,c,cs,g,ro,by rw [hl],by omega,h2,by omega,?_⟩,fun j h=>h⟩
    ·simp only [slv,h2,b1,b2]
     rw [if_pos ⟨trivial,by omega,by omega,Nat.le_refl _⟩,if_neg (by omega)]
     simp
    ·have:=congrArg (List.take k) h4
     rw [List.take_take,Nat.min_eq_left hk] at this
     rw [hl,this]
     simp [u8s,List.map_take]
  have hB : ∃ b,slv 1 (.slice (some ⟨id,o,none⟩) bs.length c) (some (iv k)) none none H=some (b,H)∧RB H b (bs.drop k)∧(∀ j,own1 b=some j→some id=some j):=by
   by_cases h0 : c=k
   ·have hb : bs.drop k=[]:=List.drop_eq_nil_of_le (by omega)
    refine ⟨.slice (some ⟨id,o,some (bif g then 1 else 0)⟩) 0 0,?_,.inl ⟨hb,.inr ⟨_,_,_,rfl⟩⟩,fun j h=>by cases h⟩
    simp only [slv,h2,b1,b2]
    rw [if_pos ⟨trivial,by omega,by omega,Nat.le_refl _⟩,if_pos (by omega)]
   ·have hl : (bs.drop k).length=bs.length - k:=by simp
    refine ⟨.slice (some ⟨id,o+k,none⟩) (bs.length - k) (c - k),?_,.inr ⟨id,o+k,c - k,cs,g,ro,by rw [hl],by omega,h2,by omega,?_⟩,fun j h=>h⟩
    ·simp only [slv,h2,b1,b2]
     rw [if_pos ⟨trivial,by omega,by omega,Nat.le_refl _⟩,if_neg (by omega)]
     simp
    ·have:=congrArg (List.drop k) h4
     rw [List.drop_take,List.drop_drop] at this
     rw [hl,this]
     simp [u8s,List.map_drop]
  obtain ⟨a,a1,a2,a3⟩:=hA
  obtain ⟨b,c1,c2,c3⟩:=hB
  exact ⟨a,b,a1,c1,a2,c2,a3,c3⟩
theorem Rdr.lt (h : Rdr H p s) : p < H.length:=by
 obtain ⟨sl,hc,_⟩:=h
 exact Z5 hc
theorem Rdr.other {a : Nat} {o : Zc} (h : Rdr H p s) (ha : p < a) : Rdr (H.set a o) p s:=by
 obtain ⟨sl,h1,h2,h3,h4⟩:=h
 exact ⟨sl,(List.getElem?_set_ne (by omega)).trans h1,h2.keep fun j hj=>List.getElem?_set_ne (by have:=h3 j hj;omega),h3,h4⟩
theorem Rdr.hle (h : Rdr H p s) (hl : HLe H X) : Rdr X p s:=by
 obtain ⟨sl,hc,hr,hn,h0⟩:=h
 refine ⟨sl,hl _ _ hc,hr.keep fun j hj=>?_,hn,h0⟩
 rcases hr with ⟨_,rfl | ⟨id,o,k,rfl⟩⟩ | ⟨id,o,c,cs,g,ro,rfl,h1,h2,h3,h4⟩
 ·cases hj
 ·cases hj
 ·cases hj
  rw [h2,hl _ _ h2]
theorem Rdr.put {s' : RSt} {sl' : Value} (hc : H[p]?=some (.cells [x,v] 1 false false)) (hr : RB H sl' s'.2) (hn : ∀ j,own1 sl'=some j→j < p) (h0 : s'.1≠0→s'.2=[]) : Rdr (H.set p (.cells [sl',iv s'.1] 1 false false)) p s'∧Zw [p] H [p] (H.set p (.cells [sl',iv s'.1] 1 false false)):=
 ⟨⟨sl',ZI hc,hr.keep fun j hj=>List.getElem?_set_ne (fun e=>by have:=hn j hj;omega),hn,h0⟩,⟨by simp,fun j hj hm=>List.getElem?_set_ne (fun e=>hm (by simp [e])),fun j hj=>.inl hj⟩⟩
theorem ZfE {e : Nat} (he : e≤1000) (h : Rdr H p s) : ∃ H',R (n+1) ZR [pt p,iv e] H=some (.tuple #[],H')∧Rdr H' p (Z3 e s)∧Zw [p] H [p] H':=by
 obtain ⟨sl,hc,hr,hn,h0⟩:=h
 have a1 : ld1 (pa p 1) H=some (iv s.1,H):=ZN hc rfl
 have f1 : ∀ H',Kv (R n) (pt p) (iv e) H=some (.tuple #[],H')→R (n+1) ZR [pt p,iv e] H=some (.tuple #[],H'):=fun H' hr=>by rw [R,Zib rfl];exact hr
 unfold Z3
 by_cases hs : s.1=0
 ·have q1 : bop .int .eql (iv s.1) (.int .i64 0) H=some (.bool true,H):=by rw [ZA,hs];rfl
  by_cases he0 : e=0
  ·have q2 : bop .int .neq (iv e) (.int .i64 0) H=some (.bool false,H):=by rw [Zq,he0];rfl
   rw [if_neg (by simp [he0])]
   refine ⟨H,f1 _ ?_,⟨sl,hc,hr,hn,h0⟩,.refl _ _⟩
   unfold Kv
   rw [Za Zv,Za Zi,Za a1,Za q1,ZK,Zf,Za q2,ZQ,ZP,Za Zh]
   simp only [cond_true]
   refine (Qf (vs:=[]) (H':=H) ?_).trans ?_
   ·rw [Zb,if_neg (by simp)];rfl
   ·rfl
  ·have q2 : bop .int .neq (iv e) (.int .i64 0) H=some (.bool true,H):=by rw [Zq];simp [he0]
   rw [if_pos ⟨hs,he0⟩]
   have w1 : st1 (pa p 0) (.slice none 0 0) H=some (undef,H.set p (.cells [.slice none 0 0,iv s.1] 1 false false)):=W8 (o:=0) hc (by simp) rfl
   have c1 : (H.set p (.cells [.slice none 0 0,iv s.1] 1 false false))[p]?=some (.cells [.slice none 0 0,iv s.1] 1 false false):=ZI hc
   have w2 : st1 (pa p 1) (iv e) (H.set p (.cells [.slice none 0 0,iv s.1] 1 false false))=some (undef,(H.set p (.cells [.slice none 0 0,iv s.1] 1 false false)).set p (.cells [.slice none 0 0,iv e] 1 false false)):=W8 (o:=1) c1 (by simp) rfl
   rw [List.set_set] at w2
   have hp:=Rdr.put (s':=(e,[])) (sl':=.slice none 0 0) hc (.inl ⟨rfl,.inl rfl⟩) (by simp [own1]) (fun _=>rfl)
   refine ⟨_,f1 _ ?_,hp.1,hp.2⟩
   unfold Kv
   rw [Za Zv,Za Zi,Za a1,Za q1,ZK,Zf,Za q2,ZQ,ZP,Za Zh]
   simp only [cond_true]
   refine (Qf (vs:=[]) (H':=H.set p (.cells [.slice none 0 0,iv e] 1 false false)) ?_).trans ?_
   ·rw [Zb,if_pos (by simp),Za Zv,Za Zi,Za w1,Za Zv,Za Zi,Za w2];rfl
   ·rfl
 ·have q1 : bop .int .eql (iv s.1) (.int .i64 0) H=some (.bool false,H):=by rw [ZA];simp [hs]
  rw [if_neg (by simp [hs])]
  refine ⟨H,f1 _ ?_,⟨sl,hc,hr,hn,h0⟩,.refl _ _⟩
  unfold Kv
  rw [Za Zv,Za Zi,Za a1,Za q1,Za (g_r.trans (if_neg (by simp)))]
  simp only [List.replicate]
  rw [ZP,Za Zh]
  simp only [cond_false]
  refine (Qf (vs:=[]) (H':=H) ?_).trans ?_
  ·rw [Zb,if_neg (by simp)];rfl
  ·rfl
theorem ZuC {k : Nat} (hk : k≤1000000000) (h : Rdr H p s) : ∃ v H',R (n+2) YJ [pt p,iv k] H=some (v,H')∧RB H' v (tkS k s).1∧Rdr H' p (tkS k s).2∧Zw [p] H [p] H':=by
 have h':=h
 obtain ⟨sl,hc,hr,hn,h0⟩:=h
 have a1 : ld1 (pa p 0) H=some (sl,H):=ZN hc rfl
 have hl : ZH sl H=some (iv s.2.length,H):=by have:=hr.rd.len (H':=H);rwa [QB] at this
 have f1 : ∀ r H',K9 (R (n+1)) (pt p) (iv k) H=some (r,H')→R (n+2) YJ [pt p,iv k] H=some (r,H'):=fun r H' hr=>by rw [R,Zin rfl];exact hr
 unfold tkS
 by_cases hle : k≤s.2.length
 ·rw [if_pos hle]
  obtain ⟨a,b,e1,e2,ra,rb,oa,ob⟩:=hr.cut hle
  have q1 : bop .int .gtr (iv k) (iv s.2.length) H=some (.bool false,H):=by rw [ZF,decide_eq_false (by omega)]
  have w1 : st1 (pa p 0) b H=some (undef,H.set p (.cells [b,iv s.1] 1 false false)):=W8 (o:=0) hc (by simp) rb.one
  have hp:=Rdr.put (s':=(s.1,s.2.drop k)) (sl':=b) hc rb (fun j e=>hn j (ob _ e)) (fun h=>by simp [h0 h])
  refine ⟨a,_,f1 _ _ ?_,ra.keep fun j hj=>List.getElem?_set_ne (fun e=>by have:=hn j (oa _ hj);omega),hp.1,hp.2⟩
  unfold K9
  rw [Za Zv,Za Zi,Za a1,Za hl,Za q1,Zb,if_neg (by simp),Za Zv,Za Zi,Za a1,Za e1,Za Zv,Za Zi,Za a1,Za e2,Za Zv,Za Zi,Za w1]
  rfl
 ·rw [if_neg hle]
  have q1 : bop .int .gtr (iv k) (iv s.2.length) H=some (.bool true,H):=by rw [ZF,decide_eq_true (by omega)]
  obtain ⟨H',e2,r2,s2⟩:=ZfE (n:=n) (e:=2) (by omega) h'
  have e2 : R (n+1) ZR [pt p,.int .i64 2] H=_:=e2
  refine ⟨.slice none 0 0,H',f1 _ _ ?_,.inl ⟨rfl,.inl rfl⟩,r2,s2⟩
  unfold K9
  rw [Za Zv,Za Zi,Za a1,Za hl,Za q1,Zb,if_pos rfl,Za e2]
  rfl
theorem ZsD {bs : List UInt8} (hb : bs.length≤8) (hs : Sl X v (u8s bs)) : ∀ (t k : Nat),bs.length - k=t→k≤bs.length→
  Zj (c4 (J4.l1 (R n))) [.int .u64 (leN (bs.take k)),v,iv bs.length,iv k] X=some (.ext 0 [.int .u64 (leN bs)],X)
 | 0,k,ht,hk=>by
  have : k=bs.length:=by omega
  subst this
  refine ZD ?_
  rw [ZC,List.take_length]
  unfold J4.l1
  rw [Za Zg,Zb,if_neg (by simp)]
  rfl
 | t+1,k,ht,hk=>by
  have hkl : k < bs.length:=by omega
  have hlt : (k : Int) < bs.length:=by omega
  have hg:=List.getElem?_eq_getElem hkl
  have htk : bs.take (k+1)=bs.take k++[bs[k]]:=(List.take_append_getElem hkl).symm
  generalize bs[k]=b at hg htk
  have hkk : (u8s bs)[k]?=some (.int .u8 b.toNat):=by simp [u8s,hg]
  have x1:=hs.ix (i:=k) (by rw [QB];exact hkl) .i64 X
  have x2:=hs.ldx hkk
  have hb2 : b.toNat < 256:=b.toNat_lt
  have hlen : (bs.take k).length=k:=by simp;omega
  have hpow : 2 ^ (8 * k)≤2 ^ 56:=Nat.pow_le_pow_right (by decide) (by omega)
  have hlt2 : leN (bs.take k) < 2 ^ (8 * k):=by
   have:=Zl5 (bs.take k)
   rw [hlen] at this
   rwa [Nat.pow_mul]
  have hprod : b.toNat * 2 ^ (8 * k)≤255 * 2 ^ 56:=Nat.mul_le_mul (by omega) hpow
  have c1 : cvi .u64 (.int .u8 b.toNat) X=some (.int .u64 b.toNat,X):=by rw [Qi,Zds,Int.emod_eq_of_lt (by omega) (by omega)]
  have c2 : bop .int .mul (.int .i64 8) (iv k) X=some (iv ((8 * k : Nat) : Int),X):=by rw [JD,w64 (by omega) (by omega)];simp
  have c3 : bop .int .shl (.int .u64 b.toNat) (iv ((8 * k : Nat) : Int)) X=some (.int .u64 ((b.toNat * 2 ^ (8 * k) : Nat) : Int),X):=by
   rw [Zzw,if_neg (by omega)]
   have hm : min ((8 * k : Nat) : Int).toNat IntKind.u64.bits=8 * k:=by
    rw [Int.toNat_natCast]
    show min (8 * k) 64=8 * k
    omega
   have hc : (b.toNat : Int) * 2 ^ (8 * k)=((b.toNat * 2 ^ (8 * k) : Nat) : Int):=by push_cast;rfl
   rw [hm,hc,Zds,Int.emod_eq_of_lt (by omega) (by omega)]
  have c4' : bop .int .or (.int .u64 (leN (bs.take k))) (.int .u64 ((b.toNat * 2 ^ (8 * k) : Nat) : Int)) X=some (.int .u64 (leN (bs.take (k+1))),X):=by
   rw [ZzM]
   have ho : ((BitVec.ofInt IntKind.u64.bits (leN (bs.take k) : Int) ||| BitVec.ofInt IntKind.u64.bits ((b.toNat * 2 ^ (8 * k) : Nat) : Int)).toNat)=leN (bs.take (k+1)):=by
    rw [BitVec.toNat_or,BitVec.ofInt_natCast,BitVec.ofInt_natCast,BitVec.toNat_ofNat,BitVec.toNat_ofNat]
    show leN (bs.take k) % 2 ^ 64 ||| (b.toNat * 2 ^ (8 * k)) % 2 ^ 64=_
    rw [Nat.mod_eq_of_lt (by omega),Nat.mod_eq_of_lt (by omega),htk,Zln,hlen,Nat.or_comm,← Nat.shiftLeft_eq,← Nat.shiftLeft_add_eq_or_of_lt hlt2,Nat.add_comm]
   rw [ho]
   have : leN (bs.take (k+1)) < 2 ^ 64:=by
    rw [htk,Zln,hlen];omega
   rw [Zds,Int.emod_eq_of_lt (by omega) (by omega)]
  refine (Zr ?_).trans (ZsD hb hs t (k+1) (by omega) (by omega))
  rw [ZC]
  unfold J4.l1
  rw [Za Zg,Zb,if_pos (by simpa using hlt),Za x1,Za x2,Za c1,Za c2,Za c3,Za c4',Za Zt,Qh (by omega)]
  rfl
theorem Zny {k : Nat} : (tkS k s).1.length≤k:=by
 unfold tkS
 split
 ·simp;omega
 ·exact Nat.zero_le _
theorem Zvr {k : Nat} (hk : k≤8) (h : Rdr H p s) : ∃ H',R (n+3) Y6 [pt p,iv k] H=some (.int .u64 (Z0 k s).1,H')∧Rdr H' p (Z0 k s).2∧Zw [p] H [p] H':=by
 obtain ⟨v,H',e1,rb,r1,s1⟩:=ZuC (n:=n) (k:=k) (by omega) h
 have hl:=Zny (k:=k) (s:=s)
 have e2 : ZH v H'=some (iv (tkS k s).1.length,H'):=by have:=rb.rd.len (H':=H');rwa [QB] at this
 have e3:=ZsD (n:=n+2) (bs:=(tkS k s).1) (by omega) rb.rd (tkS k s).1.length 0 (by omega) (by omega)
 have e3 : Zj (c4 (J4.l1 (R (n+2)))) [.int .u64 0,v,iv (tkS k s).1.length,.int .i64 0] H'=_:=e3
 refine ⟨H',?_,r1,s1⟩
 rw [R,Zjz rfl]
 unfold J4
 rw [Za e1,Za e2,ZO e3,Zu]
 rfl
theorem WR {k : Nat} : (Z0 k s).1 < 256 ^ k:=
 Nat.lt_of_lt_of_le (Zl5 _) (Nat.pow_le_pow_right (by decide) Zny)
theorem ZqB (h : Rdr H p s) : ∃ H',R (n+4) JO [pt p] H=some (.int .u8 (Z0 1 s).1,H')∧Rdr H' p (Z0 1 s).2∧Zw [p] H [p] H':=by
 obtain ⟨H',e,r,st⟩:=Zvr (n:=n) (k:=1) (by omega) h
 have e : R (n+3) Y6 [pt p,.int .i64 1] H=_:=e
 have hl:=WR (s:=s) (k:=1)
 have c1 : cvi .u8 (.int .u64 (Z0 1 s).1) H'=some (.int .u8 (Z0 1 s).1,H'):=by rw [Qi,wu8,Int.emod_eq_of_lt (by omega) (by omega)]
 refine ⟨H',?_,r,st⟩
 rw [R,Zim rfl]
 unfold Zb4
 rw [Za e,Za c1]
 rfl
theorem Ztu (h : Rdr H p s) : ∃ H',R (n+4) J1 [pt p] H=some (.int .u16 (Z0 2 s).1,H')∧Rdr H' p (Z0 2 s).2∧Zw [p] H [p] H':=by
 obtain ⟨H',e,r,st⟩:=Zvr (n:=n) (k:=2) (by omega) h
 have e : R (n+3) Y6 [pt p,.int .i64 2] H=_:=e
 have hl:=WR (s:=s) (k:=2)
 have c1 : cvi .u16 (.int .u64 (Z0 2 s).1) H'=some (.int .u16 (Z0 2 s).1,H'):=by rw [Qi,ZtN,Int.emod_eq_of_lt (by omega) (by omega)]
 refine ⟨H',?_,r,st⟩
 rw [R,ZiP rfl]
 unfold ZcI
 rw [Za e,Za c1]
 rfl
theorem ZqY {most : Nat} (hm : most≤1000000) (h : Rdr H p s) : ∃ H',R (n+5) Yy [pt p,iv most] H=some (iv (Qy most s).1,H')∧Rdr H' p (Qy most s).2∧Zw [p] H [p] H':=by
 obtain ⟨H1,e1,r1,s1⟩:=Ztu (n:=n) h
 have hl:=WR (s:=s) (k:=2)
 have c1 : cvi .i64 (.int .u16 (Z0 2 s).1) H1=some (iv (Z0 2 s).1,H1):=by rw [Qi,w64 (by omega) (by omega)]
 have c2 : mxi true (.int .i64 0) (iv most) H1=some (iv most,H1):=by
  rw [Yi]
  by_cases h0 : (most : Int) > 0
  ·rw [if_pos h0]
  ·rw [if_neg h0,show (most : Int)=0 by omega]
 have f1 : ∀ r H',KY (R (n+4)) (pt p) (iv most) H=some (r,H')→R (n+5) Yy [pt p,iv most] H=some (r,H'):=fun r H' hr=>by rw [R,ZhK rfl];exact hr
 unfold Qy
 by_cases hg : (Z0 2 s).1 > most
 ·rw [if_pos hg]
  have q1 : bop .int .gtr (iv (Z0 2 s).1) (iv most) H1=some (.bool true,H1):=by rw [ZF,decide_eq_true (by omega)]
  obtain ⟨H2,e2,r2,s2⟩:=ZfE (n:=n+3) (e:=3) (by omega) r1
  have e2 : R (n+4) ZR [pt p,.int .i64 3] H1=_:=e2
  refine ⟨H2,f1 _ _ ?_,r2,s1.trans s2⟩
  unfold KY
  rw [Za e1,Za c1,Za c2,Za q1,Zb,if_pos rfl,Za e2]
  rfl
 ·rw [if_neg hg]
  have q1 : bop .int .gtr (iv (Z0 2 s).1) (iv most) H1=some (.bool false,H1):=by rw [ZF,decide_eq_false (by omega)]
  refine ⟨H1,f1 _ _ ?_,r1,s1⟩
  unfold KY
  rw [Za e1,Za c1,Za c2,Za q1,Zb,if_neg (by simp)]
  rfl
theorem Zi6 {most : Nat} : (Qy most s).1 < 65536:=by
 have hl:=WR (s:=s) (k:=2)
 unfold Qy
 split
 ·show 0 < 65536
  decide
 ·exact hl
theorem ZgM {most : Nat} (hm : most≤1000000) (h : Rdr H p s) : ∃ H',R (n+6) QQ [pt p,iv most] H=some (strv (ZV most s).1,H')∧Rdr H' p (ZV most s).2∧Zw [p] H [p] H':=by
 obtain ⟨H1,e1,r1,s1⟩:=ZqY (n:=n) hm h
 have hl:=Zi6 (s:=s) (most:=most)
 obtain ⟨v,H2,e2,rb,r2,s2⟩:=ZuC (n:=n+3) (k:=(Qy most s).1) (by omega) r1
 have e2 : R (n+5) YJ [pt p,iv (Qy most s).1] H1=_:=e2
 refine ⟨H2,?_,r2,s1.trans s2⟩
 rw [R,Zid rfl]
 unfold Zb3
 rw [Za e1,Za e2,Za (Zd6 rb.rd)]
 rfl
theorem Zf4 (h : Rdr H p s) : R (n+1) Z4 [pt p] H=some (iv s.1,H):=by
 obtain ⟨sl,hc,hr,hn,h0⟩:=h
 have a1 : ld1 (pa p 1) H=some (iv s.1,H):=ZN hc rfl
 rw [R,Zjo rfl]
 unfold Zct
 rw [Za Zv,Za Zi,Za a1]
 rfl
def Zau (s : RSt) : Nat:=if s.1=0 then (if s.2=[] then 0 else 3) else s.1
theorem Zxg (h : Rdr H p s) : R (n+1) J0 [pt p] H=some (iv (Zau s),H):=by
 obtain ⟨sl,hc,hr,hn,h0⟩:=h
 have a0 : ld1 (pa p 0) H=some (sl,H):=ZN hc rfl
 have a1 : ld1 (pa p 1) H=some (iv s.1,H):=ZN hc rfl
 have hl : ZH sl H=some (iv s.2.length,H):=by have:=hr.rd.len (H':=H);rwa [QB] at this
 unfold Zau
 rw [R,Zjy rfl]
 unfold ZcB
 by_cases hs : s.1=0
 ·have q1 : bop .int .eql (iv s.1) (.int .i64 0) H=some (.bool true,H):=by rw [ZA,hs];rfl
  rw [if_pos hs,Za Zv,Za Zi,Za a1,Za q1,ZK,Zf,Za Zv,Zf,Za Zi,Zf,Za a0,Zf,Za hl,Zf,Za ZF,ZQ,Jx,Za Zh]
  simp only [cond_true]
  rw [Zb]
  by_cases he : s.2=[]
  ·rw [if_neg (by simp [he]),if_pos he,Za Zv,Za Zi,Za a1,hs]
   rfl
  ·have : 0 < s.2.length:=List.length_pos_iff.2 he
   rw [if_pos (by simp;omega),if_neg he]
   rfl
 ·have q1 : bop .int .eql (iv s.1) (.int .i64 0) H=some (.bool false,H):=by rw [ZA];simp [hs]
  rw [if_neg hs,Za Zv,Za Zi,Za a1,Za q1,Za (g_r.trans (if_neg (by simp)))]
  simp only [List.replicate]
  rw [Jx,Za Zh]
  simp only [cond_false]
  rw [Zb,if_neg (by simp),Za Zv,Za Zi,Za a1]
  rfl
theorem Znm {b : Value} {bs : List UInt8} (hb : Sl H b (u8s bs)) (hp : bs.length≤140737488355328) : ∃ p H',R (n+2) ZbD [b] H=some (pt p,H')∧Rdr H' p (0,bs)∧HLe H H'∧H.length≤p:=by
 obtain ⟨v,q,H1,e1,r1,l1,o1⟩:=Zoo (n:=n) hb hp
 have e2 : bld (.agg #[.slice none 0 0,.int .i64 0]) [(0,1,v)] H1=some (.agg #[v,iv 0],H1):=by
  rcases r1 with ⟨_,_,rfl⟩ | ⟨_,_,_,rfl,_,_⟩ <;> rfl
 have e3 : alc 1 (.agg #[v,iv 0]) H1=some (pt H1.length,H1++[.cells [v,iv 0] 1 false false]):=Zcq (vs:=[v,iv 0]) (by rw [List.all_cons,r1.one.1];rfl)
 have hl:=l1.len
 refine ⟨H1.length,_,?_,⟨v,Zm,r1.rb.keep fun j hj=>?_,fun j e=>?_,fun h=>absurd rfl h⟩,l1.trans (.app _ _),hl⟩
 ·rw [R,Zsv rfl]
  unfold Ziq
  rw [Za e1,Za e2,Za e3]
  rfl
 ·have:=r1.lt j (by rw [r1.own1 hj];simp)
  exact List.getElem?_append_left this
 ·exact r1.lt j (by rw [r1.own1 e];simp)
end
end Go.Proofs.YtedkoimihknggaaGreatDoor.A

namespace Go.Proofs.YtedkoimihknggaaGreatDoor.A
set_option linter.unusedVariables false
set_option linter.unusedSimpArgs false
open Go.Proofs Go.Proofs.YtedkoimihknggaaGreatDoor
def Wx (e : Ent) : Nat:=if ZB e.1 then (if KW e.2 then 0 else 4) else 10
def J8 (e : Ent) : Zp:=⟨e.1,e.2,[],false,.slice none 0 0,[]⟩
def ZwB (e : Ent) : List UInt8:=txt e.1++txt e.2
def ZmJ (m : List Ent) : List UInt8:=(m.map ZwB).flatten
def ZzJ (m : List Ent) : List UInt8:=le 1 1++(le m.length 2++ZmJ m)
theorem Zog (e : Ent) (H : Zd) : (J8 e).ok H:=.inl ⟨rfl,.inl rfl⟩
theorem Zes (e : Ent) : ZaH (J8 e)=Wx e:=by
 unfold ZaH Wx
 have : Zgt (J8 e)=true:=rfl
 rw [this]
 show (if ZB e.1=true then if KW e.2=true then _ else _ else _)=_
 split
 ·split <;> rfl
 ·rfl
theorem ZsZ {k : List UInt8} (h : KW k=true) : k.length≤12:=by
 unfold KW at h
 simp only [Bool.and_eq_true,decide_eq_true_eq] at h
 exact h.1.2
theorem Yf {s : List UInt8} : (txt s).length=s.length+2:=by unfold txt;rw [List.length_append,KS];omega
section
variable {H X : Zd} {n p d b : Nat} {sl x v : Value} {own q : List Nat} {bs : List UInt8} {m : List Ent} {e : Ent}
theorem Qu.users (hr : Qu 5 H v (m.map usr) q) : Users H v (m.map J8):=
 ⟨by have h:=hr.rd;rw [List.map_map];exact h,fun u hu=>by obtain ⟨e,_,rfl⟩:=List.mem_map.1 hu;exact Zog e H⟩
end
end Go.Proofs.YtedkoimihknggaaGreatDoor.A
namespace Go.Proofs.YtedkoimihknggaaGreatDoor.A
set_option linter.unusedVariables false
set_option linter.unusedSimpArgs false
open Go.Proofs Go.Proofs.YtedkoimihknggaaGreatDoor
def Zlw (u : Ent) (r : RSt) : Ent × RSt:=
 let r':=if r.1=0 then Z3 (Wx u) r else r
 (if r'.1=0 then u else ([],[]),r')
def YT (s : RSt) : Ent × RSt:=Zlw ((ZV 65535 s).1,(ZV 65535 (ZV 65535 s).2).1) (ZV 65535 (ZV 65535 s).2).2
def JX : Nat→RSt→List Ent × RSt
 | 0,s=>([],s)
 | k+1,s=>((YT s).1 :: (JX k (YT s).2).1,(JX k (YT s).2).2)
def ofN (l : List Ent) : Nat:=(ofE (l.map J8)).toNat
def Jk (bs : List UInt8) : Nat × List Ent:=
 let b:=Z0 1 (0,bs)
 if b.2.1=0∧b.1≠1 then (6,[]) else
 let c:=Z0 2 b.2
 let q:=if c.1 > 12 then ([],Z3 7 c.2) else JX c.1 c.2
 if q.2.1≠0 then (q.2.1,[]) else
 let e:=if ofN q.1=0 then Zau q.2 else ofN q.1
 if e≠0 then (e,[]) else (0,q.1)
theorem Zoe (e : Ent) : Wx e≤10:=by
 unfold Wx
 split
 ·split <;> omega
 ·omega
theorem ZoK : ∀ {l : List Ent},0≤Kq (l.map J8)
 | []=>Int.le_refl _
 | e :: l=>by
  rw [List.map_cons]
  unfold Kq
  split
  ·exact ZoK
  ·rw [Zes];omega
theorem ZyB {l : List Ent} : 0≤ofE (l.map J8):=by
 unfold ofE
 have:=ZoK (l:=l)
 split
 ·split
  ·split <;> decide
  ·decide
 ·exact this
theorem Wb (k : Nat) : ((k : Int)==0)=(k==0):=by rw [Bool.eq_iff_iff];simp
theorem YX (k : Nat) : ((k : Int) !=0)=(k !=0):=by rw [Bool.eq_iff_iff];simp
theorem ZmT (l : List Ent) : ofE (l.map J8)=ofN l:=(Int.toNat_of_nonneg ZyB).symm
section
variable {H X : Zd} {n p d b : Nat} {sl x v : Value} {own q : List Nat} {bs : List UInt8} {m : List Ent} {e : Ent} {s : RSt}
theorem ZzB (h : Rdr H p s) : ∃ H',R (n+7) WU [pt p,iv 1] H=some (.agg (usr (YT s).1).toArray,H')∧Rdr H' p (YT s).2∧Zw [p] H [p] H':=by
 have z0 : alc 1 (.agg #[.string ⟨#[]⟩,.string ⟨#[]⟩,.string ⟨#[]⟩,.bool false,.slice none 0 0]) H=some (pt H.length,H++[.cells (usr ([],[])) 1 false false]):=Zcq (vs:=usr ([],[])) rfl
 have k0 : HLe H (H++[.cells (usr ([],[])) 1 false false]):=.app _ _
 have c0 : (H++[Zc.cells (usr ([],[])) 1 false false])[H.length]?=some (.cells (usr ([],[])) 1 false false):=Zm
 have hlt:=h.lt
 have hn0 : H.length≠p:=by omega
 generalize H++[Zc.cells (usr ([],[])) 1 false false]=X0 at z0 k0 c0
 have hlt4 : p < H.length:=hlt
 generalize hal : H.length=a at z0 c0 hn0 hlt4
 have q1 : bop .int .neq (iv 1) (.int .i64 1) X0=some (.bool false,X0):=by rw [Zq];rfl
 obtain ⟨X1,e1,r1,s1⟩:=ZgM (n:=n) (most:=65535) (by omega) (h.hle k0)
 have e1 : R (n+6) QQ [pt p,.int .i64 65535] X0=_:=e1
 obtain ⟨X2,e2,r2,s2⟩:=ZgM (n:=n) (most:=65535) (by omega) r1
 have e2 : R (n+6) QQ [pt p,.int .i64 65535] X1=_:=e2
 have c2:=(s1.trans s2).get c0 (by simpa using hn0)
 unfold YT
 generalize (ZV 65535 (ZV 65535 s).2).2=r at r2 e2
 generalize (ZV 65535 (ZV 65535 s).2).1=hs at e2
 generalize (ZV 65535 s).1=nm at e1
 have z3:=Zgz (k:=nm) (s:=hs) (H:=X2)
 generalize hu : ((nm,hs) : Ent)=u at z3
 have z4 : alc 1 (.agg #[.string ⟨#[]⟩,.string ⟨#[]⟩,.string ⟨#[]⟩,.bool false,.slice none 0 0]) X2=some (pt X2.length,X2++[.cells (usr ([],[])) 1 false false]):=Zcq (vs:=usr ([],[])) rfl
 have k3 : HLe X2 (X2++[.cells (usr u) 1 false false]):=.app _ _
 have c3 : (X2++[Zc.cells (usr u) 1 false false])[X2.length]?=some (.cells (usr u) 1 false false):=Zm
 have w3 : stA 5 (pt X2.length) (.agg (usr u).toArray) (X2++[.cells (usr ([],[])) 1 false false])=some (undef,X2++[.cells (usr u) 1 false false]):=by
  have:=Ja (vs:=usr u) (n:=5) (H:=X2++[Zc.cells (usr ([],[])) 1 false false]) (id:=X2.length) (cs:=usr ([],[])) (es:=1) (g:=false) Zm rfl rfl rfl
  rw [this];simp
 have hn3 : X2.length≠p:=by have:=r2.lt;omega
 generalize X2++[Zc.cells (usr u) 1 false false]=X3 at k3 c3 w3
 generalize X2.length=c at z4 c3 w3 hn3
 have r3:=r2.hle k3
 have c03:=k3 _ _ c2
 have q2 : bop .int .eql (iv 1) (.int .i64 2) X3=some (.bool false,X3):=by rw [ZA];rfl
 have s03 : Zw [p] H [p] X3:=((k0.step.more (o2:=[p]) (o2':=[p]) (by simp) (fun j hj=>.inl hj)).trans (s1.trans s2)).trans (k3.step.more (by simp) (fun j hj=>.inl hj))
 have f1 : ∀ v H',ZcP (R (n+6)) (pt p) (iv 1) H=some (v,H')→R (n+7) WU [pt p,iv 1] H=some (v,H'):=fun v H' hr=>by rw [R,Zgo rfl];exact hr
 have e4:=Zf4 (n:=n+5) r3
 have e4 : R (n+6) Z4 [pt p] X3=some (iv r.1,X3):=e4
 have hC : ∃ X4,(cnd (Value.bool (r.1==0)) (bind (ldA 5 (pt c)) fun v36=>bind (R (n+6) Ye [iv 1,v36]) fun v37=>bind (R (n+6) ZR [pt p,v37]) fun v38=>ret (Out.nrm [pt p,pt a,pt c])) (ret (Out.nrm [pt p,pt a,pt c]))) X3=some (Out.nrm [pt p,pt a,pt c],X4)∧Rdr X4 p (if r.1=0 then Z3 (Wx u) r else r)∧Zw [p] X3 [p] X4:=by
  by_cases h0 : r.1=0
  ·have d3 : ldA 5 (pt c) X3=some (.agg (usr u).toArray,X3):=ZE (n:=5) c3 rfl
   obtain ⟨X4,e5,k5⟩:=ZkK (n:=n) (Zog u X3)
   rw [Zes] at e5
   have e5 : R (n+6) Ye [iv 1,.agg (usr u).toArray] X3=some (iv (Wx u),X4):=e5
   obtain ⟨X5,e6,r6,s6⟩:=ZfE (n:=n+5) (e:=Wx u) (by have:=Zoe u;omega) (r3.hle k5)
   have e6 : R (n+6) ZR [pt p,iv (Wx u)] X4=_:=e6
   rw [if_pos h0]
   refine ⟨X5,?_,r6,(k5.step.more (by simp) (fun j hj=>.inl hj)).trans s6⟩
   rw [Zb,if_pos (by simp [h0]),Za d3,Za e5,Za e6]
   rfl
  ·rw [if_neg h0]
   refine ⟨X3,?_,r3,.refl _ _⟩
   rw [Zb,if_neg (by simp [h0])]
   rfl
 obtain ⟨X4,e5,r4,s4⟩:=hC
 have e6:=Zf4 (n:=n+5) r4
 have e6 : R (n+6) Z4 [pt p] X4=_:=e6
 have c34:=s4.get c3 (by simpa using hn3)
 have c04:=s4.get c03 (by simpa using hn0)
 have d4 : ldA 5 (pt c) X4=some (.agg (usr u).toArray,X4):=ZE (n:=5) c34 rfl
 have q3 : bop .int .eql (iv r.1) (.int .i64 0) X3=some (.bool (r.1==0),X3):=by
  rw [ZA,Wb]
 generalize hr' : (if r.1=0 then Z3 (Wx u) r else r)=r' at r4 e6
 have hw : ∀ u' : Ent,stA 5 (pt a) (.agg (usr u').toArray) X4=some (undef,X4.set a (.cells (usr u') 1 false false)):=fun u'=>Ja (vs:=usr u') (n:=5) c04 rfl rfl rfl
 have hd : ∀ u' : Ent,ldA 5 (pt a) (X4.set a (.cells (usr u') 1 false false))=some (.agg (usr u').toArray,X4.set a (.cells (usr u') 1 false false)):=fun u'=>ZE (n:=5) (ZI c04) rfl
 have s4p : Zw [p] H [p] X4:=s03.trans s4
 have hT : ∀ u' : Ent,Zw [p] H [p] (X4.set a (.cells (usr u') 1 false false)):=fun u'=>⟨by rw [List.length_set];exact s4p.len,fun j hj hm=>by rw [List.getElem?_set_ne (by omega),s4p.keep j hj hm],fun j hj=>.inl hj⟩
 have hF : ∀ (u' : Ent),(Zlw u r).1=u'→(cnd (Value.bool (r'.1 !=0)) (bind (bld (.agg #[.string ⟨#[]⟩,.string ⟨#[]⟩,.string ⟨#[]⟩,.bool false,.slice none 0 0]) []) fun v42=>bind (stA 5 (pt a) v42) fun _=>bind (ldA 5 (pt a)) fun vr=>ret vr) (bind (ldA 5 (pt c)) fun v43=>bind (stA 5 (pt a) v43) fun _=>bind (ldA 5 (pt a)) fun vr=>ret vr)) X4=some (.agg (usr u').toArray,X4.set a (.cells (usr u') 1 false false)):=fun u' h'=>by
  unfold Zlw at h'
  rw [hr'] at h'
  have h' : (if r'.1=0 then u else ([],[]))=u':=h'
  have zb : bld (.agg #[.string ⟨#[]⟩,.string ⟨#[]⟩,.string ⟨#[]⟩,.bool false,.slice none 0 0]) [] X4=some (.agg (usr ([],[])).toArray,X4):=rfl
  by_cases h0 : r'.1=0
  ·rw [if_pos h0] at h'
   subst h'
   rw [Zb,if_neg (by simp [h0]),Za d4,Za (hw u),Za (hd u)]
   rfl
  ·rw [if_neg h0] at h'
   subst h'
   rw [Zb,if_pos (by simp [h0]),Za zb,Za (hw ([],[])),Za (hd ([],[]))]
   rfl
 have hr2 : (Zlw u r).2=r':=hr'
 have q4 : bop .int .neq (iv r'.1) (.int .i64 0) X4=some (.bool (r'.1 !=0),X4):=by
  rw [Zq,YX]
 refine ⟨X4.set a (.cells (usr (Zlw u r).1) 1 false false),f1 _ _ ?_,by rw [hr2];exact r4.other hlt4,hT _⟩
 unfold ZcP
 rw [Za z0,Za q1,Za (g_r.trans (if_neg (by simp)))]
 simp only [List.replicate]
 rw [ZP,Za Zh]
 simp only [cond_false]
 rw [Zb,if_neg (by simp),Za e1,Za e2,Za z3,Za z4,Za w3,Za q2]
 refine (Qf (vs:=[pt p,iv 1,pt a,pt c]) (H':=X3) ?_).trans ?_
 ·rw [Zb,if_neg (by simp)];rfl
 ·rw [ZC,Za e4,Za q3]
  refine (Qf e5).trans ?_
  rw [ZX,Za e6,Za q4]
  exact hF _ rfl
theorem Rdr.step {o1 o2 : List Nat} (h : Rdr H p s) (hs : Zw o1 H o2 X) (hn : ∀ j∈o1,p < j) : Rdr X p s:=by
 obtain ⟨sl,h1,h2,h3,h4⟩:=h
 refine ⟨sl,hs.get h1 fun hm=>Nat.lt_irrefl _ (hn _ hm),h2.keep fun j hj=>hs.keep j ?_ fun hm=>?_,h3,h4⟩
 ·have:=h3 j hj;have:=Z5 h1;omega
 ·have:=h3 j hj;have:=hn j hm;omega
theorem ZsN {N : Nat} (hN : N≤1000) : ∀ (t k : Nat) (l : List Ent) (s : RSt) (sl : Value) (q : List Nat) (X : Zd),N - k=t→k≤N→l.length≤k→Qu 5 X sl (l.map usr) q→(∀ j∈q,p < j)→Rdr X p s→
  ∃ X' sl' q',Zj (c4 (Ko.l1 (R (n+7)))) [pt p,sl,iv N,iv k] X=some (.ext 0 [pt p,sl'],X')∧Qu 5 X' sl' ((l++(JX t s).1).map usr) q'∧Rdr X' p (JX t s).2∧(∀ j∈q',p < j)∧Zw (p :: q) X (p :: q') X'
 | 0,k,l,s,sl,q,X,ht,hk,hl,hr,hq,h=>by
  have : k=N:=by omega
  subst this
  refine ⟨X,sl,q,ZD ?_,by simpa [JX] using hr,h,hq,.refl _ _⟩
  rw [ZC]
  unfold Ko.l1
  rw [Za Zg,Zb,if_neg (by simp)]
  rfl
 | t+1,k,l,s,sl,q,X,ht,hk,hl,hr,hq,h=>by
  have hlt : (k : Int) < N:=by omega
  obtain ⟨X1,e1,r1,s1⟩:=ZzB (n:=n) h
  have hr1:=hr.step s1 (fun j hj hm=>by have : j=p:=(by simpa using hm);have:=hq j hj;omega)
  have hpx:=r1.lt
  have x4:=Znd (es:=5) (z:=.agg #[.string ⟨#[]⟩,.string ⟨#[]⟩,.string ⟨#[]⟩,.bool false,.slice none 0 0]) (H:=X1) rfl (ZbY (YT s).1) (ZnK _)
  have l1 : HLe X1 (X1++[Zc.cells (usr (YT s).1) 5 false false]):=.app _ _
  have s4 : SlN 5 (X1++[Zc.cells (usr (YT s).1) 5 false false]) (.slice (some ⟨X1.length,0,none⟩) 1 1) [usr (YT s).1]:=SlN.whole (rows:=[usr (YT s).1]) (c:=1) (e:=5) (g:=false) (ro:=false) (by rw [Zm];simp) (by simp [ZbY])
  generalize X1++[Zc.cells (usr (YT s).1) 5 false false]=X2 at x4 l1 s4
  have hr2 : Qu 5 X2 sl (l.map usr) q:=hr1.keep fun j hj=>l1.step.keep j (hr1.lt j hj) (by simp)
  obtain ⟨sl',X3,q',x5,hr3,s3⟩:=hr2.push (b:=80) s4 (ZbY _) (by simp;omega) (by simp;omega)
  rw [← List.map_singleton (f:=usr),← List.map_append] at hr3
  have hq3 : ∀ j∈q',p < j:=fun j hj=>by
   rcases s3.own j hj with h1 | h1
   ·exact hq j h1
   ·have:=l1.len;omega
  have r3:=(r1.hle l1).step s3 hq
  obtain ⟨X4,sl4,q4,e4,hr4,r4,hq4,s5⟩:=ZsN hN t (k+1) (l++[(YT s).1]) (YT s).2 sl' q' X3 (by omega) (by omega) (by rw [List.length_append,List.length_singleton];omega) hr3 hq3 r3
  have s13 : Zw (p :: q) X (p :: q') X3:=(s1.more (o2:=p :: q) (o2':=p :: q) (by simp) (fun j hj=>.inl hj)).trans ((l1.step.more (o2:=p :: q) (o2':=p :: q) (by simp) (fun j hj=>.inl hj)).trans (s3.more (o2:=p :: q) (o2':=p :: q') (by simp+contextual) (fun j hj=>by
   rcases List.mem_cons.1 hj with rfl | hj
   ·exact .inl (by simp)
   ·exact .inr (.inl hj))))
  refine ⟨X4,sl4,q4,(Zr ?_).trans e4,?_,r4,hq4,s13.trans s5⟩
  ·rw [ZC]
   unfold Ko.l1
   rw [Za Zg,Zb,if_pos (by simpa using hlt),Za e1,Za x4,Za x5,Za Zt,Qh (by omega)]
   rfl
  ·rw [List.append_assoc] at hr4
   exact hr4
theorem ZpK {l : List Ent} (h : ofN l=0) : (∀ e∈l,Wx e=0)∧l.length≤12:=by
 have h : ofE (l.map J8)=0:=by rw [ZmT,h];rfl
 unfold ofE at h
 by_cases h1 : Kq (l.map J8)=0
 ·rw [if_pos h1] at h
  refine ⟨fun e he=>?_,?_⟩
  ·have:=Zly h1 (J8 e) (List.mem_map.2 ⟨e,he,rfl⟩)
   rw [Zes] at this
   omega
  ·by_cases h2 : WT none (l.map J8)=true
   ·rw [if_pos h2] at h
    by_cases h3 : 12 < (l.map J8).length
    ·rw [if_pos h3] at h;exact absurd h (by decide)
    ·rw [List.length_map] at h3;omega
   ·rw [if_neg h2] at h;exact absurd h (by decide)
 ·rw [if_neg h1] at h;exact absurd h h1
theorem ZuA {l : Yr} (hn : (l.map (·.1)).Nodup) (hR : Zfy l) : ZaQ l=l:=by
 refine ZvZ (Zt9 hn) hR fun x=>?_
 rw [Zu6 hn]
 exact ⟨fun h=>Zae h,fun h=>Zaf hn h⟩
theorem Zpz (l : List Ent) : (l.map J8).map Ze4=l:=by
 rw [List.map_map];exact (List.map_congr_left fun a _=>rfl).trans (List.map_id l)
theorem Ztt {sv : Value} (hs : Sl H sv (u8s bs)) (hb : bs.length≤100000000) : ∃ dv H',R (n+8) ZaK [sv] H=some (.tuple #[dv,iv (Jk bs).1],H')∧HLe H H'∧
  ((Jk bs).1≠0→dv=.pointer none)∧((Jk bs).1=0→∃ d b,dv=pt d∧Dir H' d b (Jk bs).2∧Zfy (Jk bs).2∧ofN (Jk bs).2=0):=by
 obtain ⟨p,X0,e0,r0,k0,o0⟩:=Znm (n:=n+5) hs (by omega)
 have e0 : R (n+7) ZbD [sv] H=_:=e0
 obtain ⟨X1,e1,r1,s1⟩:=ZqB (n:=n+3) r0
 have e1 : R (n+7) JO [pt p] X0=_:=e1
 have e2:=Zf4 (n:=n+6) r1
 have e2 : R (n+7) Z4 [pt p] X1=_:=e2
 have hop : ∀ j∈[p],H.length≤j:=fun j hj=>by have : j=p:=(by simpa using hj);omega
 have m1:=k0.more s1 hop
 have f1 : ∀ v H',Ko (R (n+7)) sv H=some (v,H')→R (n+8) ZaK [sv] H=some (v,H'):=fun v H' hr=>by rw [R,Zrc rfl];exact hr
 unfold Jk
 generalize Z0 1 (0,bs)=B at r1 e1 e2
 obtain ⟨bv,bst⟩:=B
 have e1 : R (n+7) JO [pt p] X0=some (.int .u8 bv,X1):=e1
 have e2 : R (n+7) Z4 [pt p] X1=some (iv bst.1,X1):=e2
 simp only []
 have q1 : bop .int .eql (iv bst.1) (.int .i64 0) X1=some (.bool (bst.1==0),X1):=by rw [ZA,Wb]
 have hgate : ∀ K : Value→M Value,bind (ZT (Value.bool (bst.1==0)) true 2 (bind (bop .int .neq (.int .u8 bv) (Value.int .u8 1)) fun v20=>ret [.int .u8 bv,v20])) (c2 fun _ q6=>bind (pick (Value.bool (bst.1==0)) q6 (Value.bool false)) K) X1=K (.bool (decide (bst.1=0∧bv≠1))) X1:=fun K=>by
  by_cases h0 : bst.1=0
  ·have q2 : bop .int .neq (.int .u8 bv) (Value.int .u8 1) X1=some (.bool (decide (bv≠1)),X1):=by
    rw [Zq,show ((bv : Int) !=1)=decide (bv≠1) from by rw [Bool.eq_iff_iff,decide_eq_true_eq,bne_iff_ne];omega]
   rw [show (bst.1==0)=true from by simp [h0],ZK,Zf,Za q2,ZQ,ZP,Za Zh]
   simp [h0]
  ·rw [show (bst.1==0)=false from by simp [h0],Za (g_r.trans (if_neg (by simp)))]
   simp only [List.replicate]
   rw [ZP,Za Zh]
   simp [h0]
 by_cases hv : bst.1=0∧bv≠1
 ·rw [if_pos hv]
  refine ⟨.pointer none,X1,f1 _ _ ?_,m1.1,fun _=>rfl,fun h=>by cases h⟩
  unfold Ko
  rw [Za e0,Za e1,Za e2,Za q1]
  refine (hgate _).trans ?_
  rw [decide_eq_true hv,Zb,if_pos rfl]
  rfl
 rw [if_neg hv]
 obtain ⟨X2,e3,r2,s2⟩:=Ztu (n:=n+3) r1
 have e3 : R (n+7) J1 [pt p] X1=_:=e3
 have m2:=m1.1.more s2 m1.2
 have hcl:=WR (k:=2) (s:=bst)
 generalize Z0 2 bst=C at r2 e3 hcl
 obtain ⟨cv,cst⟩:=C
 have e3 : R (n+7) J1 [pt p] X1=some (.int .u16 cv,X2):=e3
 have hcl : cv < 65536:=hcl
 have r2 : Rdr X2 p cst:=r2
 simp only []
 have c3 : cvi .i64 (.int .u16 cv) X2=some (iv cv,X2):=by rw [Qi,w64 (by omega) (by omega)]
 have q3 : bop .int .gtr (iv cv) (.int .i64 12) X2=some (.bool (decide (cv > 12)),X2):=by
  rw [ZF,show decide ((cv : Int) > 12)=decide (cv > 12) from by rw [decide_eq_decide];omega]
 have hN : ∃ X3 N st,(cnd (Value.bool (decide (cv > 12))) (bind (R (n+7) ZR [pt p,(Value.int .i64 7)]) fun v28=>ret (Out.nrm [pt p,(Value.int .i64 0)])) (ret (Out.nrm [pt p,iv cv]))) X2=some (Out.nrm [pt p,iv (N : Nat)],X3)∧N≤12∧Rdr X3 p st∧Zw [p] X2 [p] X3∧(if cv > 12 then (([] : List Ent),Z3 7 cst) else JX cv cst)=JX N st:=by
  by_cases h12 : cv > 12
  ·obtain ⟨X3,e4,r3,s3⟩:=ZfE (n:=n+6) (e:=7) (by omega) r2
   have e4 : R (n+7) ZR [pt p,.int .i64 7] X2=_:=e4
   refine ⟨X3,0,_,?_,by omega,r3,s3,if_pos h12⟩
   rw [decide_eq_true h12,Zb,if_pos rfl,Za e4]
   rfl
  ·refine ⟨X2,cv,cst,?_,by omega,r2,.refl _ _,if_neg h12⟩
   rw [decide_eq_false h12,Zb,if_neg (by simp)]
   rfl
 obtain ⟨X3,N,st,e4,hN,r3,s3,hq⟩:=hN
 rw [hq]
 have m3:=m2.1.more s3 m2.2
 obtain ⟨X4,lv,ql,e5,hr4,r4,hql,s4⟩:=ZsN (n:=n) (N:=N) (by omega) N 0 [] st (.slice none 0 0) [] X3 (by omega) (by omega) (Nat.zero_le _) Qu.nil (by simp) r3
 have e5 : Zj (c4 (Ko.l1 (R (n+7)))) [pt p,.slice none 0 0,iv N,.int .i64 0] X3=_:=e5
 rw [List.nil_append] at hr4
 have m4:=m3.1.more s4 m3.2
 have hll : (JX N st).1.length=N:=by
  have : ∀ (k : Nat) (s : RSt),(JX k s).1.length=k:=by
   intro k
   induction k with
   | zero=>intro s;rfl
   | succ k ih=>intro s;unfold JX;rw [List.length_cons,ih]
  exact this _ _
 generalize JX N st=G at hr4 r4 hll
 obtain ⟨gl,gs⟩:=G
 have hr4 : Qu 5 X4 lv (gl.map usr) ql:=hr4
 have r4 : Rdr X4 p gs:=r4
 have hll : gl.length=N:=hll
 simp only []
 have e6:=Zf4 (n:=n+6) r4
 have e6 : R (n+7) Z4 [pt p] X4=some (iv gs.1,X4):=e6
 have q4 : bop .int .neq (iv gs.1) (.int .i64 0) X4=some (.bool (gs.1 !=0),X4):=by rw [Zq,YX]
 have hrun : ∀ v H',(bind (R (n+7) Z4 [pt p]) fun v39x20=>
 bind (bop .int .neq v39x20 (Value.int .i64 0)) fun v41x21=>
 cnd v41x21
 (ret (Value.tuple #[(Value.pointer none),v39x20]))
 (bind (R (n+7) ZcQ [lv]) fun v45x22=>
 bind (Zz v45x22 0) fun v46x23=>
 bind (Zz v45x22 1) fun v47x24=>
 bind (bop .int .eql v47x24 (Value.int .i64 0)) fun v49x25=>
 jn (cnd v49x25
 (bind (R (n+7) J0 [pt p]) fun v51x26=>
 ret (.nrm [v46x23,v51x26]))
 (ret (.nrm [v46x23,v47x24]))) (c2 fun q27_0 q27_1=>
 bind (bop .int .neq q27_1 (Value.int .i64 0)) fun v53x28=>
 cnd v53x28
 (ret (Value.tuple #[(Value.pointer none),q27_1]))
 (ret (Value.tuple #[q27_0,(Value.int .i64 0)]))) noX ret)) X4=some (v,H')→R (n+8) ZaK [sv] H=some (v,H'):=fun v H' hr=>by
  refine f1 _ _ ?_
  unfold Ko
  rw [Za e0,Za e1,Za e2,Za q1]
  refine (hgate _).trans ?_
  rw [decide_eq_false hv,Zb,if_neg (by simp),Za e3,Za c3,Za q3]
  refine (Qf e4).trans ?_
  rw [ZP,ZO e5,Zu,ZP]
  exact hr
 by_cases hg0 : gs.1=0
 ·rw [if_neg (by simp [hg0])]
  obtain ⟨X5,dv,e7,k5,hz,hok⟩:=Zzp (n:=n) (by rw [List.length_map];omega) hr4.users
  rw [ZmT] at e7 hz hok
  have q5 : bop .int .eql (iv (ofN gl)) (.int .i64 0) X5=some (.bool (ofN gl==0),X5):=by rw [ZA,Wb]
  have r5:=r4.hle k5
  by_cases ho : ofN gl=0
  ·obtain ⟨d,b,rfl,D5,hR,_,_⟩:=hok (by rw [ho];rfl)
   rw [Zpz] at D5 hR
   have e8:=Zxg (n:=n+6) r5
   have e8 : R (n+7) J0 [pt p] X5=_:=e8
   rw [if_pos ho]
   by_cases he : Zau gs=0
   ·rw [if_neg (by simp [he])]
    have q6 : bop .int .neq (iv (Zau gs)) (.int .i64 0) X5=some (.bool false,X5):=by rw [Zq,he];rfl
    refine ⟨pt d,X5,hrun _ _ ?_,m4.1.trans k5,fun h=>absurd rfl h,fun _=>⟨d,b,rfl,D5,hR,ho⟩⟩
    rw [Za e6,Za q4,Zb,if_neg (by simp [hg0]),Za e7,Za Zo,Za Zn,Za q5]
    refine (Qf (vs:=[pt d,iv (Zau gs)]) (H':=X5) ?_).trans ?_
    ·rw [Zb,if_pos (by simp [ho]),Za e8];rfl
    ·rw [ZP,Za q6,Zb,if_neg (by simp)];rfl
   ·rw [if_pos he]
    have q6 : bop .int .neq (iv (Zau gs)) (.int .i64 0) X5=some (.bool true,X5):=by rw [Zq];simp [he]
    refine ⟨.pointer none,X5,hrun _ _ ?_,m4.1.trans k5,fun _=>rfl,fun h=>absurd h he⟩
    rw [Za e6,Za q4,Zb,if_neg (by simp [hg0]),Za e7,Za Zo,Za Zn,Za q5]
    refine (Qf (vs:=[pt d,iv (Zau gs)]) (H':=X5) ?_).trans ?_
    ·rw [Zb,if_pos (by simp [ho]),Za e8];rfl
    ·rw [ZP,Za q6,Zb,if_pos (by simp)];rfl
  ·rw [if_neg ho,if_pos ho]
   have hdv:=hz (by simpa using ho)
   subst hdv
   have q6 : bop .int .neq (iv (ofN gl)) (.int .i64 0) X5=some (.bool true,X5):=by rw [Zq];simp [ho]
   refine ⟨.pointer none,X5,hrun _ _ ?_,m4.1.trans k5,fun _=>rfl,fun h=>absurd h ho⟩
   rw [Za e6,Za q4,Zb,if_neg (by simp [hg0]),Za e7,Za Zo,Za Zn,Za q5]
   refine (Qf (vs:=[.pointer none,iv (ofN gl)]) (H':=X5) ?_).trans ?_
   ·rw [Zb,if_neg (by simp [ho])];rfl
   ·rw [ZP,Za q6,Zb,if_pos (by simp)];rfl
 ·rw [if_pos hg0]
  refine ⟨.pointer none,X4,hrun _ _ ?_,m4.1,fun _=>rfl,fun h=>absurd h hg0⟩
  rw [Za e6,Za q4,Zb,if_pos (by simp [hg0])]
  rfl
end
end Go.Proofs.YtedkoimihknggaaGreatDoor.A
namespace Go.Proofs.YtedkoimihknggaaGreatDoor.A
set_option linter.unusedVariables false
set_option linter.unusedSimpArgs false
open Go.Proofs Go.Proofs.YtedkoimihknggaaGreatDoor
theorem Zur : ∀ {k x : Nat},x < 256 ^ k→leN (le x k)=x
 | 0,x,h=>by
  have : x=0:=by simpa using h
  rw [this];rfl
 | k+1,x,h=>by
  unfold le leN
  have h2 : x / 256 < 256 ^ k:=by
   rw [Nat.pow_succ] at h
   exact Nat.div_lt_of_lt_mul (by rw [Nat.mul_comm];exact h)
  rw [Zur h2,UInt8.toNat_ofNat']
  omega
theorem ZnF {a r : List UInt8} {k : Nat} (h : a.length=k) : tkS k (0,a++r)=(a,(0,r)):=by
 subst h
 unfold tkS
 simp only []
 rw [if_pos (by simp),List.take_left,List.drop_left]
theorem ZdJ {k x : Nat} {r : List UInt8} (h : x < 256 ^ k) : Z0 k (0,le x k++r)=(x,(0,r)):=by
 unfold Z0
 rw [ZnF KS,Zur h]
section
variable {H0 H X : Zd} {n p d b : Nat} {u w : Zp} {us ws : List Zp} {sl a c v : Value} {bs : List UInt8} {m : List Ent}
def schemaS (bs : List UInt8) : Nat:=
 match bs with
 | []=>0
 | b :: _=>if b.toNat=1∨b.toNat=2 then b.toNat else 0
theorem Zru (hs : Sl H sl (u8s bs)) (hb : bs.length≤100000000) : R (n+1) K1 [sl] H=some (iv (schemaS bs),H):=by
 have hl : ZH sl H=some (iv bs.length,H):=by have:=hs.len (H':=H);rwa [QB] at this
 rw [R,Znt rfl]
 unfold ZfK
 cases bs with
 | nil=>
  rw [Za hl,Za ZF]
  have hz : decide ((([] : List UInt8).length : Int) > 0)=false:=rfl
  rw [hz,Za (g_r.trans (if_neg (by simp)))]
  simp only [List.replicate]
  rw [ZU,Za YD]
  simp only [List.replicate]
  rw [ZC,Za (g_r.trans (if_neg (by simp)))]
  simp only [List.replicate]
  rw [Jy,Za Zh]
  simp only [cond_false]
  rw [Zb,if_neg (by simp)]
  rfl
 | cons x l=>
  have hz : decide (((x :: l).length : Int) > 0)=true:=by rw [decide_eq_true_eq,List.length_cons];omega
  have hk : (u8s (x :: l))[0]?=some (.int .u8 x.toNat):=rfl
  have x1:=hs.ix (i:=0) (by rw [QB];simp) .i64 H
  have x1 : ixa 1 sl (.int .i64 0) H=some (ixp sl 0,H):=x1
  have x2:=hs.ldx hk
  have q1 : bop .int .eql (.int .u8 x.toNat) (.int .u8 1) H=some (.bool (decide (x.toNat=1)),H):=by
   rw [ZA,show ((x.toNat : Int)==1)=decide (x.toNat=1) from by rw [Bool.eq_iff_iff,decide_eq_true_eq,beq_iff_eq];omega]
  have q2 : bop .int .eql (.int .u8 x.toNat) (.int .u8 2) H=some (.bool (decide (x.toNat=2)),H):=by
   rw [ZA,show ((x.toNat : Int)==2)=decide (x.toNat=2) from by rw [Bool.eq_iff_iff,decide_eq_true_eq,beq_iff_eq];omega]
  have hx : x.toNat < 256:=x.toNat_lt
  have c3 : cvi .i64 (.int .u8 x.toNat) H=some (iv x.toNat,H):=by rw [Qi,w64 (by omega) (by omega)]
  rw [Za hl,Za ZF,hz,ZK,Zf,Za x1,Zf,Za x2,Zf,Za q1,ZQ,ZU]
  unfold schemaS
  simp only []
  by_cases h1 : x.toNat=1
  ·rw [decide_eq_true h1,Za (g_r.trans (if_neg (by simp)))]
   simp only [List.replicate]
   rw [ZC,ZK,Zf,Za Zh,ZQ,Jy,Za Zh]
   simp only [cond_true]
   rw [Zb,if_pos rfl,Za x1,Za x2,Za c3,if_pos (.inl h1)]
   rfl
  ·rw [decide_eq_false h1,ZK,Zf,Za x1,Zf,Za x2,Zf,Za q2,ZQ,ZC,ZK,Zf,Za Zh,ZQ,Jy,Za Zh]
   simp only [cond_true,cond_false]
   rw [Zb]
   by_cases h2 : x.toNat=2
   ·rw [if_pos (by simp [h2]),Za x1,Za x2,Za c3,if_pos (.inr h2)]
    rfl
   ·rw [if_neg (by simp [h2]),if_neg (by omega)]
    rfl
end
end Go.Proofs.YtedkoimihknggaaGreatDoor.A

namespace Go.Proofs.YtedkoimihknggaaGreatDoor.A
set_option linter.unusedVariables false
set_option linter.unusedSimpArgs false
open Go.Proofs Go.Proofs.YtedkoimihknggaaGreatDoor
section
variable {H0 H X : Zd} {n p d b : Nat} {a c v : Value} {bs s : List UInt8} {β : Type} {K : Value→M β}
theorem HLe.put {H0 X : Zd} (h : HLe H0 X) {b : Nat} {o : Zc} (hb : H0.length≤b) : HLe H0 (X.set b o):=fun i v hi=>by
 have:=Z5 hi
 rw [List.getElem?_set_ne (by omega)]
 exact h i v hi
theorem bx {vs : List Value} (h1 : vs.all oneCell=true) : alc 1 (.agg vs.toArray) X=some (pt X.length,X++[.cells vs 1 false false]):=Zcq h1
theorem YQ {vs cs : List Value} {es : Nat} (hc : X[p]?=some (.cells cs es false false)) (h2 : cs.length=n) (hv : vs.length=n) (h1 : vs.all oneCell=true) :
  bind (stA n (pt p) (.agg vs.toArray)) (fun _=>bind (ldA n (pt p)) K) X=K (.agg vs.toArray) (X.set p (.cells vs es false false)):=by
 rw [Za (Ja hc h2 hv h1),Za (ZE (ZI hc) hv)]
theorem ZmV {N : Nat} (hN : N≤8) : ∀ (t k x : Nat) (s : List UInt8) (H : Zd),N - k=t→k≤N→x < 18446744073709551616→s.length+t≤1000→
  ∃ H',Zj (c4 (Wd.l1 (R n))) [.int .u64 x,strv s,iv N,iv k] H=some (.ext 0 [strv (s++le x t)],H')∧HLe H H'
 | 0,k,x,s,H,ht,hk,hx,hs=>by
  refine ⟨H,ZD ?_,.refl _⟩
  rw [ZC]
  unfold Wd.l1
  rw [Za Zg,Zb,if_neg (by simp;omega)]
  unfold le
  rw [List.append_nil]
  rfl
 | t+1,k,x,s,H,ht,hk,hx,hs=>by
  have hlt : (k : Int) < N:=by omega
  have c1 : bop .int .rem (.int .u64 x) (.int .u64 256) H=some (.int .u64 ((x % 256 : Nat) : Int),H):=by
   rw [JG,if_neg (by decide)]
   have : (x : Int).tmod 256=((x % 256 : Nat) : Int):=by rw [Int.tmod_eq_emod_of_nonneg (by omega)];omega
   rw [this]
  have c2 : cvi .u8 (.int .u64 ((x % 256 : Nat) : Int)) H=some (.int .u8 ((UInt8.ofNat (x % 256)).toNat),H):=by
   rw [Qi,wu8,Znc]
   have : ((x % 256 : Nat) : Int) % 256=(x : Int) % 256:=by omega
   rw [this]
  have e1 : bsl 1 1 (.int .u8 0) [(0,1,.int .u8 ((UInt8.ofNat (x % 256)).toNat))] H=some (.slice (some ⟨H.length,0,none⟩) 1 1,H++[.cells [.int .u8 ((UInt8.ofNat (x % 256)).toNat)] 1 false false]):=ZqF rfl rfl rfl
  have k1 : HLe H (H++[Zc.cells [.int .u8 ((UInt8.ofNat (x % 256)).toNat)] 1 false false]):=.app _ _
  have s1 : Sl (H++[Zc.cells [.int .u8 ((UInt8.ofNat (x % 256)).toNat)] 1 false false]) (.slice (some ⟨H.length,0,none⟩) 1 1) (u8s [UInt8.ofNat (x % 256)]):=Sl.one (vs:=[.int .u8 ((UInt8.ofNat (x % 256)).toNat)]) Zm
  generalize H++[Zc.cells [.int .u8 ((UInt8.ofNat (x % 256)).toNat)] 1 false false]=X1 at e1 k1 s1
  have c3 : bop .str .add (strv s) (strv [UInt8.ofNat (x % 256)]) X1=some (strv (s++[UInt8.ofNat (x % 256)]),X1):=QD (by rw [List.length_singleton];omega)
  have c4' : bop .int .quo (.int .u64 x) (.int .u64 256) X1=some (.int .u64 ((x / 256 : Nat) : Int),X1):=by
   rw [JI,if_neg (by decide)]
   have : (x : Int).tdiv 256=((x / 256 : Nat) : Int):=by rw [Int.tdiv_eq_ediv_of_nonneg (by omega)];omega
   rw [this,Zds,Int.emod_eq_of_lt (by omega) (by omega)]
  have hx2 : x / 256 < 18446744073709551616:=by omega
  obtain ⟨H',e4,k4⟩:=ZmV hN t (k+1) (x / 256) (s++[UInt8.ofNat (x % 256)]) X1 (by omega) (by omega) hx2 (by rw [List.length_append,List.length_singleton];omega)
  rw [List.append_assoc] at e4
  refine ⟨H',(Zr ?_).trans e4,k1.trans k4⟩
  rw [ZC]
  unfold Wd.l1
  rw [Za Zg,Zb,if_pos (by simpa using hlt),Za c1,Za c2,Za e1,Za (Zd6 s1),Za c3,Za c4',Za Zt,Qh (by omega)]
  rfl
theorem ZqT {N x : Nat} (hN : N≤8) (hx : x < 18446744073709551616) : ∃ H',R (n+1) We [.int .u64 x,iv N] H=some (strv (le x N),H')∧HLe H H':=by
 obtain ⟨H',e,k⟩:=ZmV (n:=n) hN N 0 x [] H (by omega) (by omega) hx (by rw [List.length_nil];omega)
 have e : Zj (c4 (Wd.l1 (R n))) [.int .u64 x,.string ⟨#[]⟩,iv N,.int .i64 0] H=some (.ext 0 [strv (le x N)],H'):=e
 refine ⟨H',?_,k⟩
 rw [R,Zp8 rfl]
 unfold Wd
 rw [ZO e,Zu]
 rfl
theorem Zv1 {k : Nat} (h : k < 9223372036854775808) : cvi .u64 (iv k) H=some (.int .u64 k,H):=by rw [Qi,Zds,Int.emod_eq_of_lt (by omega) (by omega)]
theorem Zj0 (hs : s.length≤1000000000) : ∃ H',R (n+2) Kj [strv s] H=some (strv (txt s),H')∧HLe H H':=by
 obtain ⟨H',e,k⟩:=ZqT (n:=n) (N:=2) (x:=s.length) (H:=H) (by omega) (by omega)
 have e : R (n+1) We [.int .u64 s.length,.int .i64 2] H=_:=e
 have c3 : bop .str .add (strv (le s.length 2)) (strv s) H'=some (strv (txt s),H'):=QD (by rw [KS];omega)
 refine ⟨H',?_,k⟩
 rw [R,Zo9 rfl]
 unfold Zgk
 rw [Za ZM,Za (Zv1 (by omega)),Za e,Za c3]
 rfl
end
end Go.Proofs.YtedkoimihknggaaGreatDoor.A

namespace Go.Proofs.YtedkoimihknggaaGreatDoor.A
set_option linter.unusedVariables false
set_option linter.unusedSimpArgs false
open Go.Proofs Go.Proofs.YtedkoimihknggaaGreatDoor
abbrev RR (s : RSt) : List Value:=[strv s.2,iv s.1]
theorem ZL (s : RSt) : (RR s).all oneCell=true:=rfl
def okR (s : RSt) : Prop:=s.1≠0→s.2=[]
theorem Zfz {e : Nat} {s : RSt} (h : okR s) : okR (Z3 e s):=by
 unfold Z3 okR at *
 split
 ·exact fun _=>rfl
 ·exact h
theorem Zu3 {k : Nat} {s : RSt} (h : okR s) : okR (tkS k s).2:=by
 unfold tkS
 split
 ·intro h1
  show s.2.drop k=[]
  rw [h h1];exact List.drop_nil
 ·exact Zfz h
theorem ZbV {k : Nat} {s : RSt} (h : okR s) : okR (Z0 k s).2:=Zu3 h
theorem ZoJ {m : Nat} {s : RSt} (h : okR s) : okR (Qy m s).2:=by
 unfold Qy
 split
 ·exact Zfz (ZbV h)
 ·exact ZbV h
theorem Zby {m : Nat} {s : RSt} (h : okR s) : okR (ZV m s).2:=Zu3 (ZoJ h)
theorem Zrk {k : Nat} {s : RSt} (h : okR s) (he : s.1≠0) : tkS k s=([],s):=by
 have h2:=h he
 obtain ⟨e,l⟩:=s
 simp only at h2 he
 subst h2
 unfold tkS
 split
 ·simp
 ·unfold Z3
  rw [if_neg (fun h=>he h.1)]
theorem Zs4 {k : Nat} {s : RSt} (h : okR s) (he : s.1≠0) : Z0 k s=(0,s):=by
 unfold Z0
 rw [Zrk h he];rfl
theorem ZdO {k : Nat} {s : RSt} (h : okR s) (he : (Z0 k s).2.1≠0) : (Z0 k s).1=0:=by
 by_cases h0 : s.1=0
 ·unfold Z0 tkS at *
  by_cases hl : k≤s.2.length
  ·rw [if_pos hl] at he;exact absurd h0 he
  ·rw [if_neg hl];rfl
 ·rw [Zs4 h h0]
section
variable {H0 H X : Zd} {n p d b : Nat} {a c v : Value} {bs : List UInt8} {β : Type} {K : Value→M β} {s : RSt}
theorem ZgD {e : Nat} (he : e≤1000) : ∃ H',R (n+1) Jp [.agg (RR s).toArray,iv e] H=some (.agg (RR (Z3 e s)).toArray,H')∧HLe H H':=by
 have z1:=bx (X:=H) (ZL s)
 have z2:=bx (X:=H++[.cells (RR s) 1 false false]) (ZL (0,[]))
 have k2 : HLe H (H++[Zc.cells (RR s) 1 false false]++[Zc.cells (RR (0,[])) 1 false false]):=(HLe.app _ _).trans (.app _ _)
 have c1 : (H++[Zc.cells (RR s) 1 false false]++[Zc.cells (RR (0,[])) 1 false false])[H.length]?=some (.cells (RR s) 1 false false):=Zbo
 have c2 : (H++[Zc.cells (RR s) 1 false false]++[Zc.cells (RR (0,[])) 1 false false])[(H++[Zc.cells (RR s) 1 false false]).length]?=some (.cells (RR (0,[])) 1 false false):=Zm
 have hp2 : H.length≤(H++[Zc.cells (RR s) 1 false false]).length:=by simp
 generalize H++[Zc.cells (RR s) 1 false false]++[Zc.cells (RR (0,[])) 1 false false]=X2 at z2 k2 c1 c2
 generalize (H++[Zc.cells (RR s) 1 false false]).length=p2 at z2 c2 hp2
 have z2 : alc 1 (.agg #[.string ⟨#[]⟩,.int .i64 0]) _=some (pt p2,X2):=z2
 have a1 : ld1 (pa H.length 1) X2=some (iv s.1,X2):=ZN c1 rfl
 have d1 : ldA 2 (pt H.length) X2=some (.agg (RR s).toArray,X2):=ZE (n:=2) c1 rfl
 have q1 : bop .int .neq (iv s.1) (.int .i64 0) X2=some (.bool (s.1 !=0),X2):=by rw [Zq,YX]
 have q2 : bop .int .eql (iv e) (.int .i64 0) X2=some (.bool (e==0),X2):=by rw [ZA,Wb]
 have f1 : ∀ r H',Zd2 (R n) (.agg (RR s).toArray) (iv e) H=some (r,H')→R (n+1) Jp [.agg (RR s).toArray,iv e] H=some (r,H'):=fun r H' hr=>by rw [R,Zpc rfl];exact hr
 have hfin : ∀ t : RSt,bind (stA 2 (pt p2) (.agg (RR t).toArray)) (fun _=>bind (ldA 2 (pt p2)) fun vr=>ret vr) X2=some (.agg (RR t).toArray,X2.set p2 (.cells (RR t) 1 false false)):=fun t=>YQ c2 rfl rfl (ZL t)
 refine ⟨X2.set p2 (.cells (RR (Z3 e s)) 1 false false),f1 _ _ ?_,k2.put hp2⟩
 unfold Zd2 Z3
 rw [Za z1,Za z2,Za Zi,Za a1,Za q1]
 by_cases h0 : s.1=0
 ·rw [show (s.1 !=0)=false from by simp [h0],ZK,Zf,Za q2,ZQ,ZP,Za Zh]
  simp only [cond_false]
  by_cases he0 : e=0
  ·rw [if_neg (by simp [he0]),Zb,if_pos (by simp [he0]),Za d1]
   exact hfin s
  ·have zb : bld (.agg #[.string ⟨#[]⟩,.int .i64 0]) [(1,1,iv e)] X2=some (.agg (RR (e,[])).toArray,X2):=rfl
   rw [if_pos ⟨h0,he0⟩,Zb,if_neg (by simp [he0]),Za zb]
   exact hfin (e,[])
 ·rw [show (s.1 !=0)=true from by simp [h0],Za (g_r.trans (if_neg (by simp)))]
  simp only [List.replicate]
  rw [ZP,Za Zh]
  simp only [cond_true]
  rw [if_neg (by simp [h0]),Zb,if_pos rfl,Za d1]
  exact hfin s
theorem ZtB {s : List UInt8} {k : Nat} (hk : k≤s.length) : sls (strv s) (some (iv k)) none H=some (strv (s.drop k),H):=by
 have b1 : ∀ d,bnd (some (iv k)) d=some k:=fun d=>by simp [bnd]
 have b2 : ∀ d,bnd none d=some d:=fun _=>rfl
 unfold strv
 simp only [sls,b1,b2]
 rw [if_pos ⟨by simpa [ByteArray.size] using hk,Nat.le_refl _⟩]
 congr 3
 apply ByteArray.ext
 rw [ByteArray.data_extract]
 simp [ByteArray.size]
 exact List.take_of_length_le (by simp)
theorem Zn2 {k : Nat} (hk : k≤1000000000) (hl : s.2.length≤1000000000) (ho : okR s) : ∃ ok H',R (n+2) YU [.agg (RR s).toArray,iv k] H=some (.tuple #[.agg (RR (tkS k s).2).toArray,strv (tkS k s).1,ok],H')∧HLe H H':=by
 have z1:=bx (X:=H) (ZL s)
 have z2:=bx (X:=H++[.cells (RR s) 1 false false]) (ZL (0,[]))
 have k2 : HLe H (H++[Zc.cells (RR s) 1 false false]++[Zc.cells (RR (0,[])) 1 false false]):=(HLe.app _ _).trans (.app _ _)
 have c1 : (H++[Zc.cells (RR s) 1 false false]++[Zc.cells (RR (0,[])) 1 false false])[H.length]?=some (.cells (RR s) 1 false false):=Zbo
 have c2 : (H++[Zc.cells (RR s) 1 false false]++[Zc.cells (RR (0,[])) 1 false false])[(H++[Zc.cells (RR s) 1 false false]).length]?=some (.cells (RR (0,[])) 1 false false):=Zm
 have hp2 : H.length < (H++[Zc.cells (RR s) 1 false false]).length:=by simp
 generalize H++[Zc.cells (RR s) 1 false false]++[Zc.cells (RR (0,[])) 1 false false]=X2 at z2 k2 c1 c2
 generalize (H++[Zc.cells (RR s) 1 false false]).length=p2 at z2 c2 hp2
 have z2 : alc 1 (.agg #[.string ⟨#[]⟩,.int .i64 0]) _=some (pt p2,X2):=z2
 have a1 : ld1 (pa H.length 1) X2=some (iv s.1,X2):=ZN c1 rfl
 have a0 : ld1 (pa H.length 0) X2=some (strv s.2,X2):=ZN c1 rfl
 have d1 : ldA 2 (pt H.length) X2=some (.agg (RR s).toArray,X2):=ZE (n:=2) c1 rfl
 have q1 : bop .int .neq (iv s.1) (.int .i64 0) X2=some (.bool (s.1 !=0),X2):=by rw [Zq,YX]
 have q2 : bop .int .gtr (iv k) (iv s.2.length) X2=some (.bool (decide (k > s.2.length)),X2):=by
  rw [ZF,show decide ((k : Int) > (s.2.length : Int))=decide (k > s.2.length) from by rw [decide_eq_decide];omega]
 have f1 : ∀ r H',Za5 (R (n+1)) (.agg (RR s).toArray) (iv k) H=some (r,H')→R (n+2) YU [.agg (RR s).toArray,iv k] H=some (r,H'):=fun r H' hr=>by rw [R,Zpr rfl];exact hr
 have hF : ∃ H',(bind (ldA 2 (pt H.length)) fun v17x12=>bind (R (n+1) Jp [v17x12,(Value.int .i64 2)]) fun v18x13=>bind (stA 2 (pt p2) v18x13) fun _=>bind (ldA 2 (pt p2)) fun vrx14=>ret (Value.tuple #[vrx14,(Value.string ⟨#[]⟩),(Value.bool false)])) X2=some (.tuple #[.agg (RR (Z3 2 s)).toArray,strv [],.bool false],H')∧HLe H H':=by
  obtain ⟨X3,e3,k3⟩:=ZgD (n:=n) (s:=s) (e:=2) (H:=X2) (by omega)
  have e3 : R (n+1) Jp [.agg (RR s).toArray,.int .i64 2] X2=_:=e3
  refine ⟨X3.set p2 (.cells (RR (Z3 2 s)) 1 false false),?_,(k2.trans k3).put (Nat.le_of_lt hp2)⟩
  rw [Za d1,Za e3]
  exact YQ (k3 _ _ c2) rfl rfl (ZL _)
 by_cases h0 : s.1=0
 ·by_cases hle : k≤s.2.length
  ·have hlt : ¬ k > s.2.length:=by omega
   have zb : bld (.agg #[.string ⟨#[]⟩,.int .i64 0]) [(0,1,strv (s.2.drop k))] X2=some (.agg (RR (0,s.2.drop k)).toArray,X2):=by
    simp [bld,KK,Value.cells,Yv,strv,splice]
   have a0' : ld1 (pa H.length 0) (X2.set p2 (.cells (RR (0,s.2.drop k)) 1 false false))=some (strv s.2,X2.set p2 (.cells (RR (0,s.2.drop k)) 1 false false)):=ZN ((List.getElem?_set_ne (by omega)).trans c1) rfl
   have w2:=Ja (vs:=RR (0,s.2.drop k)) (n:=2) c2 rfl rfl (ZL _)
   have d2 : ldA 2 (pt p2) (X2.set p2 (.cells (RR (0,s.2.drop k)) 1 false false))=some (.agg (RR (0,s.2.drop k)).toArray,_):=ZE (n:=2) (ZI c2) rfl
   have ht : tkS k s=(s.2.take k,(0,s.2.drop k)):=by unfold tkS;rw [if_pos hle,h0]
   rw [ht]
   refine ⟨.bool true,X2.set p2 (.cells (RR (0,s.2.drop k)) 1 false false),f1 _ _ ?_,k2.put (Nat.le_of_lt hp2)⟩
   unfold Za5
   rw [Za z1,Za z2,Za Zi,Za a1,Za q1,show (s.1 !=0)=false from by simp [h0],ZK,Zf,Za Zi,Zf,Za a0,Zf,Za ZM,Zf,Za q2,ZQ,ZU,Za Zh]
   simp only [cond_false]
   rw [Zb,if_neg (by simpa using hle),Za Zi,Za a0,Za (ZtB hle),Za zb,Za Zi,Za a0,Za (Zmn hle),Za w2,Za a0',Qn,Za d2]
   rfl
  ·have ht : tkS k s=([],Z3 2 s):=by unfold tkS;rw [if_neg hle]
   rw [ht]
   obtain ⟨H',e,kk⟩:=hF
   refine ⟨.bool false,H',f1 _ _ ?_,kk⟩
   unfold Za5
   rw [Za z1,Za z2,Za Zi,Za a1,Za q1,show (s.1 !=0)=false from by simp [h0],ZK,Zf,Za Zi,Zf,Za a0,Zf,Za ZM,Zf,Za q2,ZQ,ZU,Za Zh]
   simp only [cond_false]
   rw [Zb,if_pos (by simpa using hle)]
   exact e
 ·have ht : tkS k s=([],Z3 2 s):=by
   rw [Zrk ho h0]
   unfold Z3
   rw [if_neg (fun h=>h0 h.1)]
  rw [ht]
  obtain ⟨H',e,kk⟩:=hF
  refine ⟨.bool false,H',f1 _ _ ?_,kk⟩
  unfold Za5
  rw [Za z1,Za z2,Za Zi,Za a1,Za q1,show (s.1 !=0)=true from by simp [h0],Za (g_r.trans (if_neg (by simp)))]
  simp only [List.replicate]
  rw [ZU,Za Zh]
  simp only [cond_true]
  rw [Zb,if_pos rfl]
  exact e
theorem Zqo {t : List UInt8} (ht : t.length≤8) : ∀ (k : Nat),k≤t.length→
  Zj (c3 (Kp.l1 (R n))) [strv t,.int .u64 (leN (t.drop k)),iv ((k : Int) - 1)] X=some (.ext 0 [.int .u64 (leN t)],X)
 | 0,hk=>by
  refine ZD ?_
  rw [ZX]
  unfold Kp.l1
  rw [Za Qz,Zb,if_neg (by simp)]
  rfl
 | k+1,hk=>by
  have hkl : k < t.length:=by omega
  have hg:=List.getElem?_eq_getElem hkl
  have hd:=List.drop_eq_getElem_cons hkl
  generalize t[k]=x at hg hd
  have hv : leN (t.drop k)=x.toNat+256 * leN (t.drop (k+1)):=by rw [hd];rfl
  have hlt:=Zl5 (t.drop (k+1))
  have hlen : (t.drop (k+1)).length=t.length - (k+1):=List.length_drop
  have hp : 256 ^ (t.drop (k+1)).length≤256 ^ 7:=Nat.pow_le_pow_right (by decide) (by omega)
  have hx : x.toNat < 256:=x.toNat_lt
  have e0 : ((k+1 : Nat) : Int) - 1=k:=by omega
  have c1 : bop .int .mul (.int .u64 (leN (t.drop (k+1)))) (.int .u64 256) X=some (.int .u64 ((leN (t.drop (k+1)) * 256 : Nat) : Int),X):=by
   rw [JD,Zds,Int.emod_eq_of_lt (by omega) (by omega)];simp
  have c2 : cvi .u64 (u8v x) X=some (.int .u64 x.toNat,X):=by rw [Qi,Zds,Int.emod_eq_of_lt (by omega) (by omega)]
  have c3' : bop .int .add (.int .u64 ((leN (t.drop (k+1)) * 256 : Nat) : Int)) (.int .u64 x.toNat) X=some (.int .u64 (leN (t.drop k)),X):=by
   rw [Zt,Zds,Int.emod_eq_of_lt (by omega) (by omega),hv]
   congr 3
   omega
  refine (Zr ?_).trans (Zqo ht k (by omega))
  rw [ZX]
  unfold Kp.l1
  rw [e0,Za Qz,Zb,if_pos (by simp),Za c1,Za (WK hg .i64 X),Za c2,Za c3',Za Qr,w64 (by omega) (by omega)]
  rfl
theorem Zx7 {t : List UInt8} (ht : t.length≤8) : R (n+1) Zbn [strv t] X=some (.int .u64 (leN t),X):=by
 have e:=Zqo (n:=n) (X:=X) ht t.length (Nat.le_refl _)
 rw [List.drop_length] at e
 have e : Zj (c3 (Kp.l1 (R n))) [strv t,.int .u64 0,iv ((t.length : Int) - 1)] X=_:=e
 rw [R,ZnA rfl]
 unfold Kp
 rw [Za ZM,Za Qr,w64 (by omega) (by omega),ZO e,Zu]
 rfl
theorem ZgO {k : Nat} (hk : k≤8) (hl : s.2.length≤1000000000) (ho : okR s) : ∃ H',R (n+3) Q7 [.agg (RR s).toArray,iv k] H=some (.tuple #[.agg (RR (Z0 k s).2).toArray,.int .u64 (Z0 k s).1],H')∧HLe H H':=by
 have z1:=bx (X:=H) (ZL s)
 have z2:=bx (X:=H++[.cells (RR s) 1 false false]) (ZL (0,[]))
 have k2 : HLe H (H++[Zc.cells (RR s) 1 false false]++[Zc.cells (RR (0,[])) 1 false false]):=(HLe.app _ _).trans (.app _ _)
 have c1 : (H++[Zc.cells (RR s) 1 false false]++[Zc.cells (RR (0,[])) 1 false false])[H.length]?=some (.cells (RR s) 1 false false):=Zbo
 have c2 : (H++[Zc.cells (RR s) 1 false false]++[Zc.cells (RR (0,[])) 1 false false])[(H++[Zc.cells (RR s) 1 false false]).length]?=some (.cells (RR (0,[])) 1 false false):=Zm
 have hp2 : H.length < (H++[Zc.cells (RR s) 1 false false]).length:=by simp
 generalize H++[Zc.cells (RR s) 1 false false]++[Zc.cells (RR (0,[])) 1 false false]=X2 at z2 k2 c1 c2
 generalize (H++[Zc.cells (RR s) 1 false false]).length=p2 at z2 c2 hp2
 have z2 : alc 1 (.agg #[.string ⟨#[]⟩,.int .i64 0]) _=some (pt p2,X2):=z2
 have d1 : ldA 2 (pt H.length) X2=some (.agg (RR s).toArray,X2):=ZE (n:=2) c1 rfl
 obtain ⟨ok,X3,e3,k3⟩:=Zn2 (n:=n) (H:=X2) (k:=k) (by omega) hl ho
 have htl:=Zny (k:=k) (s:=s)
 unfold Z0
 generalize tkS k s=T at e3 htl
 obtain ⟨t,s'⟩:=T
 have e3 : R (n+2) YU [.agg (RR s).toArray,iv k] X2=some (.tuple #[.agg (RR s').toArray,strv t,ok],X3):=e3
 have htl : t.length≤k:=htl
 have z4:=bx (X:=X3) (ZL (0,[]))
 have k4 : HLe X3 (X3++[Zc.cells (RR s') 1 false false]):=.app _ _
 have c4' : (X3++[Zc.cells (RR s') 1 false false])[X3.length]?=some (.cells (RR s') 1 false false):=Zm
 have w4 : stA 2 (pt X3.length) (.agg (RR s').toArray) (X3++[.cells (RR (0,[])) 1 false false])=some (undef,X3++[.cells (RR s') 1 false false]):=by
  have:=Ja (vs:=RR s') (n:=2) (H:=X3++[Zc.cells (RR (0,[])) 1 false false]) (id:=X3.length) (cs:=RR (0,[])) (es:=1) (g:=false) Zm rfl rfl (ZL _)
  rw [this];simp
 have z4 : alc 1 (.agg #[.string ⟨#[]⟩,.int .i64 0]) X3=some (pt X3.length,X3++[.cells (RR (0,[])) 1 false false]):=z4
 have hc24:=k4 _ _ (k3 _ _ c2)
 generalize X3++[Zc.cells (RR s') 1 false false]=X4 at k4 c4' w4 hc24
 have d4 : ldA 2 (pt X3.length) X4=some (.agg (RR s').toArray,X4):=ZE (n:=2) c4' rfl
 have e5:=Zx7 (n:=n+1) (X:=X4) (t:=t) (by omega)
 have e5 : R (n+2) Zbn [strv t] X4=_:=e5
 refine ⟨X4.set p2 (.cells (RR s') 1 false false),?_,((k2.trans k3).trans k4).put (Nat.le_of_lt hp2)⟩
 rw [R,Zrh rfl]
 unfold ZhG
 rw [Za z1,Za z2,Za d1,Za e3,Za QM,Za QL,Za QN,Za z4,Za w4,Za d4,Za e5,Za d4,Qn]
 exact YQ hc24 rfl rfl (ZL _)
theorem ZjV : Qy 65535 s=Z0 2 s:=by
 have hl:=WR (s:=s) (k:=2)
 unfold Qy
 rw [if_neg (by omega)]
theorem Zt8 {k : Nat} : (tkS k s).2.2.length≤s.2.length:=by
 unfold tkS Z3
 split
 ·simp
 ·split
  ·simp
  ·exact Nat.le_refl _
theorem Zck {k : Nat} : (Z0 k s).2.2.length≤s.2.length:=Zt8
theorem ZnY : (ZV 65535 s).2.2.length≤s.2.length:=by
 unfold ZV
 rw [ZjV]
 exact Nat.le_trans Zt8 Zck
theorem Zcs {zs r : List Value} {n : Nat} (hz : zs.length=n) (hr : r.length=n) (hz1 : zs.all oneCell=true) (h1 : r.all oneCell=true) {K : Value→M β} :
  bind (alc 1 (.agg zs.toArray)) (fun q=>bind (stA n q (.agg r.toArray)) fun _=>K q) H=K (pt H.length) (H++[.cells r 1 false false]):=ZbW hz hr hz1 h1
theorem ZmW (hl : s.2.length≤1000000000) (ho : okR s) : ∃ H',R (n+4) Qt [.agg (RR s).toArray,iv 65535] H=some (.tuple #[.agg (RR (ZV 65535 s).2).toArray,strv (ZV 65535 s).1],H')∧HLe H H':=by
 have z1:=bx (X:=H) (ZL s)
 have z2:=bx (X:=H++[.cells (RR s) 1 false false]) (ZL (0,[]))
 have k2 : HLe H (H++[Zc.cells (RR s) 1 false false]++[Zc.cells (RR (0,[])) 1 false false]):=(HLe.app _ _).trans (.app _ _)
 have c1 : (H++[Zc.cells (RR s) 1 false false]++[Zc.cells (RR (0,[])) 1 false false])[H.length]?=some (.cells (RR s) 1 false false):=Zbo
 have c2 : (H++[Zc.cells (RR s) 1 false false]++[Zc.cells (RR (0,[])) 1 false false])[(H++[Zc.cells (RR s) 1 false false]).length]?=some (.cells (RR (0,[])) 1 false false):=Zm
 have hp2 : H.length < (H++[Zc.cells (RR s) 1 false false]).length:=by simp
 generalize H++[Zc.cells (RR s) 1 false false]++[Zc.cells (RR (0,[])) 1 false false]=X2 at z2 k2 c1 c2
 generalize (H++[Zc.cells (RR s) 1 false false]).length=p2 at z2 c2 hp2
 have z2 : alc 1 (.agg #[.string ⟨#[]⟩,.int .i64 0]) _=some (pt p2,X2):=z2
 have d1 : ldA 2 (pt H.length) X2=some (.agg (RR s).toArray,X2):=ZE (n:=2) c1 rfl
 obtain ⟨X3,e3,k3⟩:=ZgO (n:=n) (H:=X2) (k:=2) (by omega) hl ho
 have e3 : R (n+3) Q7 [.agg (RR s).toArray,.int .i64 2] X2=_:=e3
 have hcl:=WR (k:=2) (s:=s)
 have ho' : okR (Z0 2 s).2:=ZbV ho
 have hle' : (Z0 2 s).2.2.length≤1000000000:=Nat.le_trans Zck hl
 unfold ZV
 rw [ZjV]
 generalize Z0 2 s=C at e3 hcl ho' hle'
 obtain ⟨cv,s'⟩:=C
 have e3 : R (n+3) Q7 [.agg (RR s).toArray,.int .i64 2] X2=some (.tuple #[.agg (RR s').toArray,.int .u64 cv],X3):=e3
 have hcl : cv < 65536:=hcl
 have ho' : okR s':=ho'
 have hle' : s'.2.length≤1000000000:=hle'
 have k4 : HLe X3 (X3++[Zc.cells (RR s') 1 false false]):=.app _ _
 have c4' : (X3++[Zc.cells (RR s') 1 false false])[X3.length]?=some (.cells (RR s') 1 false false):=Zm
 have z4:=fun {K : Value→M Value}=>Zcs (H:=X3) (n:=2) (zs:=RR (0,[])) (r:=RR s') (K:=K) rfl rfl (ZL _) (ZL _)
 have hc24:=k4 _ _ (k3 _ _ c2)
 have hp4 : p2 < X3.length:=Z5 (k3 _ _ c2)
 generalize X3++[Zc.cells (RR s') 1 false false]=X4 at k4 c4' z4 hc24
 generalize X3.length=p4 at c4' z4 hp4
 have z4 : ∀ {K : Value→M Value},bind (alc 1 (.agg #[.string ⟨#[]⟩,.int .i64 0])) (fun q=>bind (stA 2 q (.agg (RR s').toArray)) fun _=>K q) X3=K (pt p4) X4:=z4
 have a1 : ld1 (pa p4 1) X4=some (iv s'.1,X4):=ZN c4' rfl
 have q1 : bop .int .eql (iv s'.1) (.int .i64 0) X4=some (.bool (s'.1==0),X4):=by rw [ZA,Wb]
 have cI : cvi .i64 (.int .u64 cv) X4=some (iv cv,X4):=by rw [Qi,w64 (by omega) (by omega)]
 have cM : mxi true (.int .i64 0) (iv 65535) X4=some (iv 65535,X4):=by rw [Yi];rfl
 have cG : bop .int .gtr (iv cv) (iv 65535) X4=some (.bool false,X4):=by rw [ZF,decide_eq_false (by omega)]
 have d4 : ldA 2 (pt p4) X4=some (.agg (RR s').toArray,X4):=ZE (n:=2) c4' rfl
 obtain ⟨ok,X5,e5,k5⟩:=Zn2 (n:=n+1) (H:=X4) (k:=cv) (s:=s') (by omega) hle' ho'
 have e5 : R (n+3) YU [.agg (RR s').toArray,iv cv] X4=_:=e5
 generalize tkS cv s'=T at e5
 obtain ⟨t,s''⟩:=T
 have e5 : R (n+3) YU [.agg (RR s').toArray,iv cv] X4=some (.tuple #[.agg (RR s'').toArray,strv t,ok],X5):=e5
 have w5:=Ja (vs:=RR s'') (n:=2) (k5 _ _ c4') rfl rfl (ZL _)
 have d5 : ldA 2 (pt p4) (X5.set p4 (.cells (RR s'') 1 false false))=some (.agg (RR s'').toArray,_):=ZE (n:=2) (ZI (k5 _ _ c4')) rfl
 have hc25 : (X5.set p4 (.cells (RR s'') 1 false false))[p2]?=some (.cells (RR (0,[])) 1 false false):=(List.getElem?_set_ne (by omega)).trans (k5 _ _ hc24)
 have hk5 : HLe H (X5.set p4 (.cells (RR s'') 1 false false)):=(((k2.trans k3).trans k4).trans k5).put (by omega)
 refine ⟨(X5.set p4 (.cells (RR s'') 1 false false)).set p2 (.cells (RR s'') 1 false false),?_,hk5.put (by omega)⟩
 rw [R,ZfM rfl]
 unfold Wu
 rw [Za z1,Za z2,Za d1,Za e3,Za Zo,Za Zn,z4,Za Zi,Za a1,Za q1]
 have hgate : ∀ K : Value→M Value,bind (ZT (Value.bool (s'.1==0)) true 5 (bind (cvi .i64 (.int .u64 cv)) fun v20x11=>
 bind (mxi true (Value.int .i64 0) (iv 65535)) fun v22x12=>
 bind (bop .int .gtr v20x11 v22x12) fun v23x13=>
 ret [.int .u64 cv,v20x11,iv 65535,v22x12,v23x13])) (c5 fun _ _ _ _ q14_4=>
 bind (pick (Value.bool (s'.1==0)) q14_4 (Value.bool false)) K) X4=K (.bool false) X4:=fun K=>by
  cases s'.1==0
  ·rw [Za (g_r.trans (if_neg (by simp)))]
   simp only [List.replicate]
   rw [ZU,Za Zh]
   rfl
  ·rw [ZK,Zf,Za cI,Zf,Za cM,Zf,Za cG,ZQ,ZU,Za Zh]
   rfl
 refine (hgate _).trans ?_
 rw [Zb,if_neg (by simp),Za d4,Za cI,Za e5,Za QM,Za QL,Za QN,Za w5,Za d5]
 exact YQ hc25 rfl rfl (ZL _)
theorem ZfR {u : Ent} {r : RSt} : Zlw u r=(if (Z3 (Wx u) r).1=0 then u else ([],[]),Z3 (Wx u) r):=by
 have h : (if r.1=0 then Z3 (Wx u) r else r)=Z3 (Wx u) r:=by
  by_cases h0 : r.1=0
  ·rw [if_pos h0]
  ·rw [if_neg h0]
   unfold Z3
   rw [if_neg (fun h=>h0 h.1)]
 unfold Zlw
 rw [h]
theorem ZyS (hl : s.2.length≤1000000000) (ho : okR s) : ∃ H',R (n+5) Wi [.agg (RR s).toArray,iv 1] H=some (.tuple #[.agg (RR (YT s).2).toArray,.agg (usr (YT s).1).toArray],H')∧HLe H H':=by
 have U0 : ∀ e : Ent,(usr e).all oneCell=true:=fun _=>rfl
 have z1:=bx (X:=H) (ZL s)
 have k1 : HLe H (H++[Zc.cells (RR s) 1 false false]):=.app _ _
 have g1 : (H++[Zc.cells (RR s) 1 false false])[H.length]?=some (.cells (RR s) 1 false false):=Zm
 generalize H++[Zc.cells (RR s) 1 false false]=X1 at z1 k1 g1
 have z2:=bx (X:=X1) (ZL (0,[]))
 have k2 : HLe X1 (X1++[Zc.cells (RR (0,[])) 1 false false]):=.app _ _
 have g2 : (X1++[Zc.cells (RR (0,[])) 1 false false])[X1.length]?=some (.cells (RR (0,[])) 1 false false):=Zm
 generalize X1++[Zc.cells (RR (0,[])) 1 false false]=X2 at z2 k2 g2
 have z3:=bx (X:=X2) (U0 ([],[]))
 have k3 : HLe X2 (X2++[Zc.cells (usr ([],[])) 1 false false]):=.app _ _
 have g3 : (X2++[Zc.cells (usr ([],[])) 1 false false])[X2.length]?=some (.cells (usr ([],[])) 1 false false):=Zm
 generalize X2++[Zc.cells (usr ([],[])) 1 false false]=X3 at z3 k3 g3
 have z4:=fun {K : Value→M Value}=>Zcs (H:=X3) (n:=5) (zs:=usr ([],[])) (r:=usr ([],[])) (K:=K) rfl rfl (U0 _) (U0 _)
 have k4 : HLe X3 (X3++[Zc.cells (usr ([],[])) 1 false false]):=.app _ _
 have g4 : (X3++[Zc.cells (usr ([],[])) 1 false false])[X3.length]?=some (.cells (usr ([],[])) 1 false false):=Zm
 generalize X3++[Zc.cells (usr ([],[])) 1 false false]=X4 at z4 k4 g4
 have z5:=fun {K : Value→M Value}=>Zcs (H:=X4) (n:=5) (zs:=usr ([],[])) (r:=usr ([],[])) (K:=K) rfl rfl (U0 _) (U0 _)
 have k5 : HLe X4 (X4++[Zc.cells (usr ([],[])) 1 false false]):=.app _ _
 have g5 : (X4++[Zc.cells (usr ([],[])) 1 false false])[X4.length]?=some (.cells (usr ([],[])) 1 false false):=Zm
 generalize X4++[Zc.cells (usr ([],[])) 1 false false]=X5 at z5 k5 g5
 have l1:=Z5 g1
 have l2:=Z5 g2
 have l3:=Z5 g3
 have l4:=Z5 g4
 have m1:=k1.len
 have m2:=k2.len
 have m3:=k3.len
 have m4:=k4.len
 have b1 : X5[H.length]?=some (.cells (RR s) 1 false false):=k5 _ _ (k4 _ _ (k3 _ _ (k2 _ _ g1)))
 have b2 : X5[X1.length]?=some (.cells (RR (0,[])) 1 false false):=k5 _ _ (k4 _ _ (k3 _ _ g2))
 have b3 : X5[X2.length]?=some (.cells (usr ([],[])) 1 false false):=k5 _ _ (k4 _ _ g3)
 have b4 : X5[X3.length]?=some (.cells (usr ([],[])) 1 false false):=k5 _ _ g4
 have b5 : X5[X4.length]?=some (.cells (usr ([],[])) 1 false false):=g5
 have hk : HLe H X5:=(((k1.trans k2).trans k3).trans k4).trans k5
 have dz : ldA 5 (pt X3.length) X4=some (.agg (usr ([],[])).toArray,X4):=ZE (n:=5) g4 rfl
 generalize hP1 : H.length=P1 at *
 generalize X1.length=P2 at *
 generalize X2.length=P3 at *
 generalize X3.length=P4 at *
 generalize X4.length=P5 at *
 have zb : bld (.agg #[.string ⟨#[]⟩,.string ⟨#[]⟩,.string ⟨#[]⟩,.bool false,.slice none 0 0]) [] X3=some (.agg (usr ([],[])).toArray,X3):=rfl
 have q1 : bop .int .lss (iv 1) (.int .i64 1) X4=some (.bool false,X4):=by rw [Zg];rfl
 have q2 : bop .int .gtr (iv 1) (.int .i64 2) X4=some (.bool false,X4):=by rw [ZF];rfl
 have d1 : ldA 2 (pt P1) X5=some (.agg (RR s).toArray,X5):=ZE (n:=2) b1 rfl
 obtain ⟨X6,e6,k6⟩:=ZmW (n:=n) (H:=X5) hl ho
 have e6 : R (n+4) Qt [.agg (RR s).toArray,.int .i64 65535] X5=_:=e6
 have ho6 : okR (ZV 65535 s).2:=Zby ho
 have hl6 : (ZV 65535 s).2.2.length≤1000000000:=Nat.le_trans ZnY hl
 unfold YT
 generalize ZV 65535 s=T at e6 ho6 hl6
 obtain ⟨nm,s1⟩:=T
 have e6 : R (n+4) Qt [.agg (RR s).toArray,.int .i64 65535] X5=some (.tuple #[.agg (RR s1).toArray,strv nm],X6):=e6
 have ho6 : okR s1:=ho6
 have hl6 : s1.2.length≤1000000000:=hl6
 simp only []
 have w6:=Ja (vs:=RR s1) (n:=2) (k6 _ _ b1) rfl rfl (ZL _)
 have hk6 : HLe H (X6.set P1 (.cells (RR s1) 1 false false)):=(hk.trans k6).put (by omega)
 have b1:=ZI (b:=Zc.cells (RR s1) 1 false false) (k6 _ _ b1)
 have b2:=(List.getElem?_set_ne (a:=Zc.cells (RR s1) 1 false false) (show P1≠P2 by omega)).trans (k6 _ _ b2)
 have b3:=(List.getElem?_set_ne (a:=Zc.cells (RR s1) 1 false false) (show P1≠P3 by omega)).trans (k6 _ _ b3)
 have b4:=(List.getElem?_set_ne (a:=Zc.cells (RR s1) 1 false false) (show P1≠P4 by omega)).trans (k6 _ _ b4)
 have b5:=(List.getElem?_set_ne (a:=Zc.cells (RR s1) 1 false false) (show P1≠P5 by omega)).trans (k6 _ _ b5)
 generalize X6.set P1 (.cells (RR s1) 1 false false)=X7 at w6 hk6 b1 b2 b3 b4 b5
 have w7 : st1 (pa P5 0) (strv nm) X7=some (undef,X7.set P5 (.cells (usr (nm,[])) 1 false false)):=W8 (o:=0) b5 (by simp [usr]) rfl
 have hk7 : HLe H (X7.set P5 (.cells (usr (nm,[])) 1 false false)):=hk6.put (by omega)
 have b1:=(List.getElem?_set_ne (a:=Zc.cells (usr (nm,[])) 1 false false) (show P5≠P1 by omega)).trans b1
 have b2:=(List.getElem?_set_ne (a:=Zc.cells (usr (nm,[])) 1 false false) (show P5≠P2 by omega)).trans b2
 have b3:=(List.getElem?_set_ne (a:=Zc.cells (usr (nm,[])) 1 false false) (show P5≠P3 by omega)).trans b3
 have b4:=(List.getElem?_set_ne (a:=Zc.cells (usr (nm,[])) 1 false false) (show P5≠P4 by omega)).trans b4
 have b5:=ZI (b:=Zc.cells (usr (nm,[])) 1 false false) b5
 generalize X7.set P5 (.cells (usr (nm,[])) 1 false false)=X8 at w7 hk7 b1 b2 b3 b4 b5
 have d8 : ldA 2 (pt P1) X8=some (.agg (RR s1).toArray,X8):=ZE (n:=2) b1 rfl
 obtain ⟨X9,e9,k9⟩:=ZmW (n:=n) (H:=X8) hl6 ho6
 have e9 : R (n+4) Qt [.agg (RR s1).toArray,.int .i64 65535] X8=_:=e9
 generalize ZV 65535 s1=T at e9
 obtain ⟨hs,s2⟩:=T
 have e9 : R (n+4) Qt [.agg (RR s1).toArray,.int .i64 65535] X8=some (.tuple #[.agg (RR s2).toArray,strv hs],X9):=e9
 simp only []
 have w9:=Ja (vs:=RR s2) (n:=2) (k9 _ _ b1) rfl rfl (ZL _)
 have hk9 : HLe H (X9.set P1 (.cells (RR s2) 1 false false)):=(hk7.trans k9).put (by omega)
 have b1:=ZI (b:=Zc.cells (RR s2) 1 false false) (k9 _ _ b1)
 have b2:=(List.getElem?_set_ne (a:=Zc.cells (RR s2) 1 false false) (show P1≠P2 by omega)).trans (k9 _ _ b2)
 have b3:=(List.getElem?_set_ne (a:=Zc.cells (RR s2) 1 false false) (show P1≠P3 by omega)).trans (k9 _ _ b3)
 have b4:=(List.getElem?_set_ne (a:=Zc.cells (RR s2) 1 false false) (show P1≠P4 by omega)).trans (k9 _ _ b4)
 have b5:=(List.getElem?_set_ne (a:=Zc.cells (RR s2) 1 false false) (show P1≠P5 by omega)).trans (k9 _ _ b5)
 generalize X9.set P1 (.cells (RR s2) 1 false false)=Xa at w9 hk9 b1 b2 b3 b4 b5
 have wa : st1 (pa P5 1) (strv hs) Xa=some (undef,Xa.set P5 (.cells (usr (nm,hs)) 1 false false)):=W8 (o:=1) b5 (by simp [usr]) rfl
 have hka : HLe H (Xa.set P5 (.cells (usr (nm,hs)) 1 false false)):=hk9.put (by omega)
 have b1:=(List.getElem?_set_ne (a:=Zc.cells (usr (nm,hs)) 1 false false) (show P5≠P1 by omega)).trans b1
 have b2:=(List.getElem?_set_ne (a:=Zc.cells (usr (nm,hs)) 1 false false) (show P5≠P2 by omega)).trans b2
 have b3:=(List.getElem?_set_ne (a:=Zc.cells (usr (nm,hs)) 1 false false) (show P5≠P3 by omega)).trans b3
 have b4:=(List.getElem?_set_ne (a:=Zc.cells (usr (nm,hs)) 1 false false) (show P5≠P4 by omega)).trans b4
 have b5:=ZI (b:=Zc.cells (usr (nm,hs)) 1 false false) b5
 generalize Xa.set P5 (.cells (usr (nm,hs)) 1 false false)=Xb at wa hka b1 b2 b3 b4 b5
 have q3 : bop .int .eql (iv 1) (.int .i64 2) Xb=some (.bool false,Xb):=by rw [ZA];rfl
 have db : ldA 2 (pt P1) Xb=some (.agg (RR s2).toArray,Xb):=ZE (n:=2) b1 rfl
 have db5 : ldA 5 (pt P5) Xb=some (.agg (usr (nm,hs)).toArray,Xb):=ZE (n:=5) b5 rfl
 obtain ⟨Xc,ec,kc⟩:=Zl0 (n:=n) (Zog (nm,hs) Xb)
 rw [Zes] at ec
 have ec : R (n+4) WH [iv 1,.agg (usr (nm,hs)).toArray] Xb=some (iv (Wx (nm,hs)),Xc):=ec
 have dc : ldA 2 (pt P1) Xc=some (.agg (RR s2).toArray,Xc):=ZE (n:=2) (kc _ _ b1) rfl
 obtain ⟨Xd,ed,kd⟩:=ZgD (n:=n+3) (H:=Xc) (s:=s2) (e:=Wx (nm,hs)) (by have:=Zoe (nm,hs);omega)
 have ed : R (n+4) Jp [.agg (RR s2).toArray,iv (Wx (nm,hs))] Xc=_:=ed
 rw [ZfR]
 generalize Z3 (Wx (nm,hs)) s2=s3 at ed
 simp only []
 have kcd:=kc.trans kd
 have wd:=Ja (vs:=RR s3) (n:=2) (kcd _ _ b1) rfl rfl (ZL _)
 have hkd : HLe H (Xd.set P1 (.cells (RR s3) 1 false false)):=(hka.trans kcd).put (by omega)
 have b1:=ZI (b:=Zc.cells (RR s3) 1 false false) (kcd _ _ b1)
 have b2:=(List.getElem?_set_ne (a:=Zc.cells (RR s3) 1 false false) (show P1≠P2 by omega)).trans (kcd _ _ b2)
 have b3:=(List.getElem?_set_ne (a:=Zc.cells (RR s3) 1 false false) (show P1≠P3 by omega)).trans (kcd _ _ b3)
 have b4:=(List.getElem?_set_ne (a:=Zc.cells (RR s3) 1 false false) (show P1≠P4 by omega)).trans (kcd _ _ b4)
 have b5:=(List.getElem?_set_ne (a:=Zc.cells (RR s3) 1 false false) (show P1≠P5 by omega)).trans (kcd _ _ b5)
 generalize Xd.set P1 (.cells (RR s3) 1 false false)=Xe at wd hkd b1 b2 b3 b4 b5
 have ae : ld1 (pa P1 1) Xe=some (iv s3.1,Xe):=ZN b1 rfl
 have qe : bop .int .neq (iv s3.1) (.int .i64 0) Xe=some (.bool (s3.1 !=0),Xe):=by rw [Zq,YX]
 have de : ldA 2 (pt P1) Xe=some (.agg (RR s3).toArray,Xe):=ZE (n:=2) b1 rfl
 have we:=Ja (vs:=RR s3) (n:=2) b2 rfl rfl (ZL _)
 have hfin : ∀ (Q : Nat) (u : Ent),Q=P4∨Q=P5→Xe[Q]?=some (.cells (usr u) 1 false false)→(bind (ldA 2 (pt P1)) fun v59x54=>bind (ldA 5 (pt Q)) fun v60x55=>bind (stA 2 (pt P2) v59x54) fun _=>bind (ldA 5 (pt Q)) fun u_56=>same u_56 v60x55 <| bind (stA 5 (pt P3) v60x55) fun _=>bind (ldA 2 (pt P2)) fun vrx57=>bind (ldA 5 (pt P3)) fun vrx58=>ret (Value.tuple #[vrx57,vrx58])) Xe=some (.tuple #[.agg (RR s3).toArray,.agg (usr u).toArray],(Xe.set P2 (.cells (RR s3) 1 false false)).set P3 (.cells (usr u) 1 false false)):=fun Q u hQ bQ=>by
  have x1 : ldA 5 (pt Q) Xe=some (.agg (usr u).toArray,Xe):=ZE (n:=5) bQ rfl
  have x2 : ldA 5 (pt Q) (Xe.set P2 (.cells (RR s3) 1 false false))=some (.agg (usr u).toArray,_):=ZE (n:=5) ((List.getElem?_set_ne (by omega)).trans bQ) rfl
  have c3 : (Xe.set P2 (.cells (RR s3) 1 false false))[P3]?=some (.cells (usr ([],[])) 1 false false):=(List.getElem?_set_ne (by omega)).trans b3
  have x3:=Ja (vs:=usr u) (n:=5) c3 rfl rfl (U0 u)
  have x4 : ldA 2 (pt P2) ((Xe.set P2 (.cells (RR s3) 1 false false)).set P3 (.cells (usr u) 1 false false))=some (.agg (RR s3).toArray,_):=ZE (n:=2) ((List.getElem?_set_ne (by omega)).trans (ZI b2)) rfl
  have x5 : ldA 5 (pt P3) ((Xe.set P2 (.cells (RR s3) 1 false false)).set P3 (.cells (usr u) 1 false false))=some (.agg (usr u).toArray,_):=ZE (n:=5) (ZI c3) rfl
  rw [Za de,Za x1,Za we,Za x2,Qn,Za x3,Za x4,Za x5]
  rfl
 have z3 : alc 1 (.agg #[.string ⟨#[]⟩,.string ⟨#[]⟩,.string ⟨#[]⟩,.bool false,.slice none 0 0]) X2=some (pt P3,X3):=z3
 have z4 : ∀ {K : Value→M Value},bind (alc 1 (.agg #[.string ⟨#[]⟩,.string ⟨#[]⟩,.string ⟨#[]⟩,.bool false,.slice none 0 0])) (fun q=>bind (stA 5 q (.agg (usr ([],[])).toArray)) fun _=>K q) X3=K (pt P4) X4:=z4
 have z5 : ∀ {K : Value→M Value},bind (alc 1 (.agg #[.string ⟨#[]⟩,.string ⟨#[]⟩,.string ⟨#[]⟩,.bool false,.slice none 0 0])) (fun q=>bind (stA 5 q (.agg (usr ([],[])).toArray)) fun _=>K q) X4=K (pt P5) X5:=z5
 have z2 : alc 1 (.agg #[.string ⟨#[]⟩,.int .i64 0]) X1=some (pt P2,X2):=z2
 refine ⟨(Xe.set P2 (.cells (RR s3) 1 false false)).set P3 (.cells (usr (if s3.1=0 then (nm,hs) else ([],[]))) 1 false false),?_,(hkd.put (by omega)).put (by omega)⟩
 rw [R,Zi9 rfl]
 unfold Ze5
 rw [Za z1,Za z2,Za z3,Za zb,z4,Za q1,ZK,Zf,Za q2,ZQ,ZP,Za Zh]
 simp only [cond_false]
 rw [Zb,if_neg (by simp),Za dz,z5,Za d1,Za e6,Za Zo,Za Zn,Za w6,Za Zi,Za w7,Za d8,Za e9,Za Zo,Za Zn,Za w9,Za Zi,Za wa,Za q3]
 refine (Qf (vs:=[iv 1,pt P1,pt P2,pt P3,pt P4,pt P5]) (H':=Xb) ?_).trans ?_
 ·rw [Zb,if_neg (by simp)];rfl
 ·rw [Jx,Za db,Za db5,Za ec,Za dc,Qn,Za ed,Za wd,Za Zi,Za ae,Za qe,Zb]
  by_cases h0 : s3.1=0
  ·rw [if_neg (by simp [h0]),if_pos h0]
   exact hfin P5 (nm,hs) (.inr rfl) b5
  ·rw [if_pos (by simp [h0]),if_neg h0]
   exact hfin P4 ([],[]) (.inl rfl) b4
end
end Go.Proofs.YtedkoimihknggaaGreatDoor.A

namespace Go.Proofs.YtedkoimihknggaaGreatDoor.A
set_option linter.unusedVariables false
set_option linter.unusedSimpArgs false
open Go.Proofs Go.Proofs.YtedkoimihknggaaGreatDoor
theorem Zui : ∀ (t : List UInt8),le (leN t) t.length=t
 | []=>rfl
 | b :: t=>by
  have hb : b.toNat < 256:=b.toNat_lt
  rw [List.length_cons]
  unfold leN le
  have h1 : (b.toNat+256 * leN t) / 256=leN t:=by omega
  have h2 : (b.toNat+256 * leN t) % 256=b.toNat:=by omega
  rw [h1,h2,Zui t]
  simp
theorem Ztd {e : Nat} {s : RSt} {r : List UInt8} (h : Z3 e s=(0,r)) : s=(0,r)∧e=0∨(s=(0,r)∧e=0):=by
 unfold Z3 at h
 by_cases hc : s.1=0∧e≠0
 ·rw [if_pos hc] at h
  exact absurd (congrArg (·.1) h) hc.2
 ·rw [if_neg hc] at h
  subst h
  have : e=0:=by
   by_cases he : e=0
   ·exact he
   ·exact absurd ⟨rfl,he⟩ hc
  exact .inl ⟨rfl,this⟩
theorem Zsw {k : Nat} {s : RSt} {t r : List UInt8} (h : tkS k s=(t,(0,r))) : s=(0,t++r)∧t.length=k:=by
 unfold tkS at h
 by_cases hl : k≤s.2.length
 ·rw [if_pos hl] at h
  have h1 : s.2.take k=t:=congrArg (·.1) h
  have h2 : s.1=0:=congrArg (·.2.1) h
  have h3 : s.2.drop k=r:=congrArg (·.2.2) h
  refine ⟨?_,by rw [← h1];simp;omega⟩
  rw [← h1,← h3,List.take_append_drop,← h2]
 ·rw [if_neg hl] at h
  have h2 : Z3 2 s=(0,r):=congrArg (·.2) h
  rcases Ztd h2 with ⟨_,h3⟩ | ⟨_,h3⟩ <;> exact absurd h3 (by decide)
theorem ZrK {k x : Nat} {s : RSt} {r : List UInt8} (h : Z0 k s=(x,(0,r))) : s=(0,le x k++r):=by
 unfold Z0 at h
 have h1 : leN (tkS k s).1=x:=congrArg (·.1) h
 have h2 : (tkS k s).2=(0,r):=congrArg (·.2) h
 obtain ⟨h3,h4⟩:=Zsw (k:=k) (s:=s) (t:=(tkS k s).1) (r:=r) (by rw [← h2])
 have h5:=Zui (tkS k s).1
 rw [h4,h1] at h5
 rw [h5]
 exact h3
theorem ZoG {s : RSt} {t r : List UInt8} (h : ZV 65535 s=(t,(0,r))) : s=(0,txt t++r):=by
 unfold ZV at h
 rw [ZjV] at h
 obtain ⟨h1,h2⟩:=Zsw h
 have h3:=ZrK (k:=2) (s:=s) (x:=(Z0 2 s).1) (r:=t++r) (by rw [← h1])
 unfold txt
 rw [h2,List.append_assoc]
 exact h3
theorem ZwU {s : RSt} {e : Ent} {r : List UInt8} (h : YT s=(e,(0,r))) : s=(0,ZwB e++r):=by
 unfold YT at h
 rw [ZfR] at h
 have h2:=congrArg (·.2) h
 have h1:=congrArg (·.1) h
 simp only at h1 h2
 rw [h2] at h1
 simp only [if_true] at h1
 have h3 : (ZV 65535 (ZV 65535 s).2).2=(0,r):=by
  rcases Ztd h2 with ⟨h4,_⟩ | ⟨h4,_⟩ <;> exact h4
 have h4:=ZoG (s:=(ZV 65535 s).2) (t:=(ZV 65535 (ZV 65535 s).2).1) (r:=r) (by rw [← h3])
 have h5:=ZoG (s:=s) (t:=(ZV 65535 s).1) (r:=txt (ZV 65535 (ZV 65535 s).2).1++r) (by rw [← h4])
 rw [h5]
 unfold ZwB
 rw [← h1,List.append_assoc]
theorem ZoI : ∀ {k : Nat} {s : RSt} {m : List Ent} {r : List UInt8},JX k s=(m,(0,r))→s=(0,ZmJ m++r)∧m.length=k
 | 0,s,m,r,h=>by
  unfold JX at h
  have h1 : []=m:=congrArg (·.1) h
  have h2 : s=(0,r):=congrArg (·.2) h
  subst h1
  exact ⟨h2,rfl⟩
 | k+1,s,m,r,h=>by
  unfold JX at h
  have h1:=congrArg (·.1) h
  have h2:=congrArg (·.2) h
  simp only at h1 h2
  obtain ⟨h3,h4⟩:=ZoI (k:=k) (s:=(YT s).2) (m:=(JX k (YT s).2).1) (r:=r) (by rw [← h2])
  have h5:=ZwU (s:=s) (e:=(YT s).1) (r:=ZmJ (JX k (YT s).2).1++r) (by rw [← h3])
  refine ⟨?_,by rw [← h1,List.length_cons,h4]⟩
  rw [h5,← h1]
  simp [ZmJ]
theorem Zrm {x : UInt8} {l : List UInt8} : Z0 1 (0,x :: l)=(x.toNat,(0,l)):=by
 unfold Z0
 rw [show x :: l=[x]++l from rfl,ZnF (k:=1) rfl]
 simp [leN]
theorem Zuz : Jk []=(2,[]):=rfl
theorem ZqW {x : UInt8} {l : List UInt8} (h : x.toNat≠1) : Jk (x :: l)=(6,[]):=by
 unfold Jk
 rw [Zrm]
 simp only []
 rw [if_pos ⟨trivial,h⟩]
def ZaT (s : RSt) : RSt × List Ent:=
 let c:=Z0 2 s
 if c.2.1=0∧c.1 > 12 then (Z3 7 c.2,[]) else
 let g:=JX c.1 c.2
 let st:=if g.2.1=0 then Z3 (ofN g.1) g.2 else g.2
 (st,if st.1=0 then g.1 else [])
theorem Zu1 {x : UInt8} {l : List UInt8} (h : x.toNat=1) : Jk (x :: l)=if (if (ZaT (0,l)).1.1=0∧(ZaT (0,l)).1.2≠[] then 3 else (ZaT (0,l)).1.1)≠0 then ((if (ZaT (0,l)).1.1=0∧(ZaT (0,l)).1.2≠[] then 3 else (ZaT (0,l)).1.1),[]) else (0,(ZaT (0,l)).2):=by
 have hb:=ZdO (k:=2) (s:=(0,l)) (fun h=>absurd rfl h)
 unfold Jk ZaT
 rw [Zrm]
 simp only []
 rw [if_neg (by simp [h])]
 generalize Z0 2 (0,l)=C at hb
 obtain ⟨cv,cs⟩:=C
 simp only at hb ⊢
 by_cases h12 : cv > 12
 ·have h0 : cs.1=0:=by
   by_cases h0 : cs.1=0
   ·exact h0
   ·have:=hb h0;omega
  have hf : Z3 7 cs=(7,[]):=by unfold Z3;rw [if_pos ⟨h0,by decide⟩]
  simp only [if_pos h12,if_pos (show cs.1=0∧cv > 12 from ⟨h0,h12⟩),hf]
  simp
 ·simp only [if_neg h12,if_neg (show ¬ (cs.1=0∧cv > 12) from fun h=>h12 h.2)]
  generalize JX cv cs=G
  obtain ⟨g,st⟩:=G
  simp only []
  by_cases h0 : st.1=0
  ·rw [if_neg (by simp [h0]),if_pos h0]
   by_cases hf : ofN g=0
   ·have hfs : Z3 0 st=st:=by unfold Z3;rw [if_neg (fun h=>h.2 rfl)]
    rw [if_pos hf,hf,hfs]
    unfold Zau
    rw [if_pos h0]
    by_cases he : st.2=[]
    ·simp [h0,he]
    ·simp [h0,he]
   ·have hfs : Z3 (ofN g) st=(ofN g,[]):=by unfold Z3;rw [if_pos ⟨h0,hf⟩]
    rw [if_neg hf,hfs]
    simp [hf]
  ·rw [if_pos h0,if_neg h0]
   simp [h0]
theorem Zha {bs : List UInt8} (h : (Jk bs).1=0) : ZzJ (Jk bs).2=bs∧ofN (Jk bs).2=0:=by
 cases bs with
 | nil=>rw [Zuz] at h;exact absurd h (by decide)
 | cons x l=>
  by_cases hx : x.toNat=1
  ·have hb:=ZdO (k:=2) (s:=(0,l)) (fun h=>absurd rfl h)
   unfold Jk at h ⊢
   rw [Zrm] at h ⊢
   simp only at h ⊢
   rw [if_neg (by simp [hx])] at h ⊢
   have hC:=ZrK (k:=2) (s:=(0,l)) (x:=(Z0 2 (0,l)).1) (r:=(Z0 2 (0,l)).2.2)
   generalize Z0 2 (0,l)=C at hb h hC
   obtain ⟨cv,cs⟩:=C
   simp only at hb h hC ⊢
   by_cases h12 : cv > 12
   ·have h0 : cs.1=0:=by
     by_cases h0 : cs.1=0
     ·exact h0
     ·have:=hb h0;omega
    have hf : Z3 7 cs=(7,[]):=by unfold Z3;rw [if_pos ⟨h0,by decide⟩]
    rw [if_pos h12,hf] at h
    simp at h
   ·rw [if_neg h12] at h ⊢
    have hG:=ZoI (k:=cv) (s:=cs) (m:=(JX cv cs).1) (r:=(JX cv cs).2.2)
    generalize JX cv cs=G at h hG
    obtain ⟨g,st⟩:=G
    simp only at h hG ⊢
    by_cases h0 : st.1=0
    ·rw [if_neg (by simp [h0])] at h ⊢
     by_cases hf : ofN g=0
     ·rw [if_pos hf] at h ⊢
      by_cases he : Zau st=0
      ·rw [if_neg (by simp [he])]
       have hst : st.2=[]:=by
        unfold Zau at he
        rw [if_pos h0] at he
        by_cases h5 : st.2=[]
        ·exact h5
        ·rw [if_neg h5] at he;exact absurd he (by decide)
       obtain ⟨h6,h7⟩:=hG (by rw [← h0])
       rw [hst,List.append_nil] at h6
       have h8:=hC (by rw [h6])
       refine ⟨?_,hf⟩
       have h9 : l=le cv 2++cs.2:=congrArg (·.2) h8
       rw [h6] at h9
       show le 1 1++(le g.length 2++ZmJ g)=x :: l
       rw [h9,h7]
       have hx1 : x=UInt8.ofNat (1 % 256):=by
        have : x=UInt8.ofNat x.toNat:=by simp
        rw [this,hx]
       rw [hx1];rfl
      ·rw [if_pos he] at h;exact absurd h he
     ·rw [if_neg hf,if_pos hf] at h;exact absurd h hf
    ·rw [if_pos h0] at h;exact absurd h h0
  ·rw [ZqW hx] at h
   exact absurd h (by decide)
section
variable {H0 H X : Zd} {n p d b : Nat} {a c v : Value} {bs : List UInt8} {s : RSt} {q : List Nat}
theorem Zuw {x : (Ty.slc (.int .u8)).den} {H : Zd} {v : Value} (hwf : (Ty.slc (.int .u8)).wf x) (h : Rd (.slc (.int .u8)) x H [v]) : ∃ bs : List UInt8,Sl H v (u8s bs)∧bs.length≤9223372036854775807:=by
 obtain ⟨bs,hs⟩:=Zwq hwf h
 obtain ⟨rows,h1,_,h3,_⟩:=Zyb hwf h
 refine ⟨bs,hs,?_⟩
 have e1:=hs.len (H':=H)
 have e2:=h1.len (H':=H)
 rw [e1,QB] at e2
 injection e2 with e2
 injection e2 with e2
 injection e2 with _ e2
 omega
theorem ZyE {s : RSt} : (YT s).2.2.length≤s.2.length:=by
 unfold YT
 rw [ZfR]
 have h1:=ZnY (s:=s)
 have h2:=ZnY (s:=(ZV 65535 s).2)
 simp only []
 unfold Z3
 split
 ·exact Nat.zero_le _
 ·omega
theorem ZxP {s : RSt} (h : okR s) : okR (YT s).2:=by
 have h1:=Zby (m:=65535) h
 have h2:=Zby (m:=65535) h1
 unfold YT
 generalize (ZV 65535 (ZV 65535 s).2).2=r at h2
 rw [ZfR]
 exact Zfz h2
theorem Zqi {N p2 p4 B : Nat} (hN : N≤1000) (hB : B≤1000000000) : ∀ (t k : Nat) (l : List Ent) (s : RSt) (sl : Value) (q : List Nat) (X : Zd),N - k=t→k≤N→l.length≤k→okR s→s.2.length≤B→X[p2]?=some (.cells (RR s) 1 false false)→Qu 5 X sl (l.map usr) q→(∀ j∈q,p2 < j)→
  ∃ X' sl' q',Zj (c6 (JC.l1 (R (n+5)))) [iv 1,pt p2,pt p4,sl,.int .u64 N,.int .u64 k] X=some (.ext 0 [iv 1,pt p2,pt p4,sl'],X')∧Qu 5 X' sl' ((l++(JX t s).1).map usr) q'∧X'[p2]?=some (.cells (RR (JX t s).2) 1 false false)∧(∀ j∈q',p2 < j)∧Zw (p2 :: q) X (p2 :: q') X'
 | 0,k,l,s,sl,q,X,ht,hk,hl,ho,hb,h2,hr,hq=>by
  have : k=N:=by omega
  subst this
  refine ⟨X,sl,q,ZD ?_,by simpa [JX] using hr,h2,hq,.refl _ _⟩
  rw [Jx]
  unfold JC.l1
  rw [Za Zg,Zb,if_neg (by simp)]
  rfl
 | t+1,k,l,s,sl,q,X,ht,hk,hl,ho,hb,h2,hr,hq=>by
  have U0 : ∀ e : Ent,(usr e).all oneCell=true:=fun _=>rfl
  have hlt : (k : Int) < N:=by omega
  have d0 : ldA 2 (pt p2) X=some (.agg (RR s).toArray,X):=ZE (n:=2) h2 rfl
  obtain ⟨X1,e1,k1⟩:=ZyS (n:=n) (H:=X) (Nat.le_trans hb hB) ho
  have ho1:=ZxP ho
  have hb1 : (YT s).2.2.length≤B:=Nat.le_trans ZyE hb
  have hgs : JX (t+1) s=((YT s).1 :: (JX t (YT s).2).1,(JX t (YT s).2).2):=by rw [JX]
  rw [hgs]
  generalize YT s=G at e1 ho1 hb1
  obtain ⟨u,s'⟩:=G
  have e1 : R (n+5) Wi [.agg (RR s).toArray,iv 1] X=some (.tuple #[.agg (RR s').toArray,.agg (usr u).toArray],X1):=e1
  have ho1 : okR s':=ho1
  have hb1 : s'.2.length≤B:=hb1
  simp only []
  have lp:=Z5 h2
  have lx:=k1.len
  have z1:=bx (X:=X1) (ZL (0,[]))
  have z2:=bx (X:=X1++[.cells (RR (0,[])) 1 false false]) (U0 ([],[]))
  have k2 : HLe X1 (X1++[Zc.cells (RR (0,[])) 1 false false]++[Zc.cells (usr ([],[])) 1 false false]):=(HLe.app _ _).trans (.app _ _)
  have g1 : (X1++[Zc.cells (RR (0,[])) 1 false false]++[Zc.cells (usr ([],[])) 1 false false])[X1.length]?=some (.cells (RR (0,[])) 1 false false):=Zbo
  have g2 : (X1++[Zc.cells (RR (0,[])) 1 false false]++[Zc.cells (usr ([],[])) 1 false false])[(X1++[Zc.cells (RR (0,[])) 1 false false]).length]?=some (.cells (usr ([],[])) 1 false false):=Zm
  have l12 : X1.length < (X1++[Zc.cells (RR (0,[])) 1 false false]).length:=by simp
  generalize X1++[Zc.cells (RR (0,[])) 1 false false]++[Zc.cells (usr ([],[])) 1 false false]=X2 at z2 k2 g1 g2
  generalize (X1++[Zc.cells (RR (0,[])) 1 false false]).length=w2 at z2 g2 l12
  have z1 : alc 1 (.agg #[.string ⟨#[]⟩,.int .i64 0]) X1=_:=z1
  have z2 : alc 1 (.agg #[.string ⟨#[]⟩,.string ⟨#[]⟩,.string ⟨#[]⟩,.bool false,.slice none 0 0]) _=some (pt w2,X2):=z2
  have y1:=Ja (vs:=RR s') (n:=2) g1 rfl rfl (ZL _)
  have k3 : HLe X1 (X2.set X1.length (.cells (RR s') 1 false false)):=k2.put (Nat.le_refl _)
  have g3:=ZI (b:=Zc.cells (RR s') 1 false false) g1
  have g4:=(List.getElem?_set_ne (a:=Zc.cells (RR s') 1 false false) (show X1.length≠w2 by omega)).trans g2
  generalize X2.set X1.length (.cells (RR s') 1 false false)=X3 at y1 k3 g3 g4
  have y2:=Ja (vs:=usr u) (n:=5) g4 rfl rfl (U0 _)
  have k4 : HLe X1 (X3.set w2 (.cells (usr u) 1 false false)):=k3.put (by omega)
  have g5:=ZI (b:=Zc.cells (usr u) 1 false false) g4
  have g6:=(List.getElem?_set_ne (a:=Zc.cells (usr u) 1 false false) (show w2≠X1.length by omega)).trans g3
  generalize X3.set w2 (.cells (usr u) 1 false false)=X4 at y2 k4 g5 g6
  have d4 : ldA 2 (pt X1.length) X4=some (.agg (RR s').toArray,X4):=ZE (n:=2) g6 rfl
  have hp4 : X4[p2]?=some (.cells (RR s) 1 false false):=k4 _ _ (k1 _ _ h2)
  have y3:=Ja (vs:=RR s') (n:=2) hp4 rfl rfl (ZL _)
  have hp5:=ZI (b:=Zc.cells (RR s') 1 false false) hp4
  have g7:=(List.getElem?_set_ne (a:=Zc.cells (RR s') 1 false false) (show p2≠w2 by omega)).trans g5
  have s5 : Zw [p2] X4 [p2] (X4.set p2 (.cells (RR s') 1 false false)):=⟨by simp,fun j hj hm=>List.getElem?_set_ne (fun e=>hm (by simp [e])),fun j hj=>.inl hj⟩
  have s05 : Zw (p2 :: q) X (p2 :: q) (X4.set p2 (.cells (RR s') 1 false false)):=((k1.trans k4).step.more (by simp) (fun j hj=>.inl hj)).trans (s5.more (by simp) (fun j hj=>.inl hj))
  have hr5 : Qu 5 (X4.set p2 (.cells (RR s') 1 false false)) sl (l.map usr) q:=(hr.step (k1.trans k4).step (by simp)).step s5 (fun j hj hm=>(fun h1 h2=>by omega : p2 < j→j=p2→False) (hq j hj) (by simpa using hm))
  generalize X4.set p2 (.cells (RR s') 1 false false)=X5 at y3 hp5 g7 s05 hr5
  have d5 : ldA 5 (pt w2) X5=some (.agg (usr u).toArray,X5):=ZE (n:=5) g7 rfl
  have x4:=Znd (es:=5) (z:=.agg #[.string ⟨#[]⟩,.string ⟨#[]⟩,.string ⟨#[]⟩,.bool false,.slice none 0 0]) (H:=X5) rfl (ZbY u) (ZnK _)
  have l5 : HLe X5 (X5++[Zc.cells (usr u) 5 false false]):=.app _ _
  have t4 : SlN 5 (X5++[Zc.cells (usr u) 5 false false]) (.slice (some ⟨X5.length,0,none⟩) 1 1) [usr u]:=SlN.whole (rows:=[usr u]) (c:=1) (e:=5) (g:=false) (ro:=false) (by rw [Zm];simp) (by simp [ZbY])
  have lp5:=Z5 hp5
  generalize X5++[Zc.cells (usr u) 5 false false]=X6 at x4 l5 t4
  have hr6 : Qu 5 X6 sl (l.map usr) q:=hr5.keep fun j hj=>l5.step.keep j (hr5.lt j hj) (by simp)
  obtain ⟨sl',X7,q',x5,hr7,s7⟩:=hr6.push (b:=80) t4 (ZbY _) (by simp;omega) (by simp;omega)
  rw [← List.map_singleton (f:=usr),← List.map_append] at hr7
  have hq7 : ∀ j∈q',p2 < j:=fun j hj=>by
   rcases s7.own j hj with h1 | h1
   ·exact hq j h1
   ·have:=l5.len;omega
  have hp7:=s7.get (l5 _ _ hp5) (fun hm=>Nat.lt_irrefl _ (hq _ hm))
  have s57 : Zw (p2 :: q) X5 (p2 :: q') X7:=(l5.step.more (o2:=p2 :: q) (o2':=p2 :: q) (by simp) (fun j hj=>.inl hj)).trans (s7.more (o2:=p2 :: q) (o2':=p2 :: q') (by simp+contextual) (fun j hj=>by
   rcases List.mem_cons.1 hj with rfl | hj
   ·exact .inl (by simp)
   ·exact .inr (.inl hj)))
  obtain ⟨X8,sl8,q8,e8,hr8,hp8,hq8,s8⟩:=Zqi hN hB t (k+1) (l++[u]) s' sl' q' X7 (by omega) (by omega) (by rw [List.length_append,List.length_singleton];omega) ho1 hb1 hp7 hr7 hq7
  have ca : bop .int .add (.int .u64 k) (.int .u64 1) X7=some (.int .u64 ((k+1 : Nat) : Int),X7):=by
   rw [Zt,Zds,Int.emod_eq_of_lt (by omega) (by omega)];simp
  refine ⟨X8,sl8,q8,(Zr ?_).trans e8,?_,hp8,hq8,(s05.trans s57).trans s8⟩
  ·rw [Jx]
   unfold JC.l1
   rw [Za Zg,Zb,if_pos (by simpa using hlt),Za d0,Za e1,Za Zo,Za Zn,Za z1,Za z2,Za y1,Za y2,Za d4,Za y3,Za d5,Za x4,Za x5,Za ca]
   rfl
  ·rw [List.append_assoc] at hr8
   exact hr8
theorem ZqM : ∀ (k : Nat) (s : RSt),(JX k s).1.length=k
 | 0,s=>rfl
 | k+1,s=>by unfold JX;rw [List.length_cons,ZqM k]
theorem Qu.us {m : List Ent} (h : Qu 5 H v (m.map usr) q) : QV H v (m.map J8):=h.users.s (fun u hu=>by obtain ⟨e,_,rfl⟩:=List.mem_map.1 hu;exact Nat.zero_le _)
theorem Zjv : QV H (.slice none 0 0) (([] : List Ent).map J8):=⟨SlN.nil,by simp⟩
theorem Zt2 (ho : okR s) (hb : s.2.length≤1000000000) : ∃ lv H',R (n+6) Km [.agg (RR s).toArray,iv 1] H=some (.tuple #[.agg (RR (ZaT s).1).toArray,lv],H')∧HLe H H'∧QV H' lv ((ZaT s).2.map J8):=by
 have z1:=bx (X:=H) (ZL s)
 have z2:=bx (X:=H++[.cells (RR s) 1 false false]) (ZL (0,[]))
 have k2 : HLe H (H++[Zc.cells (RR s) 1 false false]++[Zc.cells (RR (0,[])) 1 false false]):=(HLe.app _ _).trans (.app _ _)
 have c1 : (H++[Zc.cells (RR s) 1 false false]++[Zc.cells (RR (0,[])) 1 false false])[H.length]?=some (.cells (RR s) 1 false false):=Zbo
 have g2' : (H++[Zc.cells (RR s) 1 false false]++[Zc.cells (RR (0,[])) 1 false false])[(H++[Zc.cells (RR s) 1 false false]).length]?=some (.cells (RR (0,[])) 1 false false):=Zm
 have hp2 : H.length < (H++[Zc.cells (RR s) 1 false false]).length:=by simp
 generalize H++[Zc.cells (RR s) 1 false false]++[Zc.cells (RR (0,[])) 1 false false]=X2 at z2 k2 c1 g2'
 generalize (H++[Zc.cells (RR s) 1 false false]).length=p4 at z2 g2' hp2
 generalize hP : H.length=p2 at z1 c1 hp2
 have z2 : alc 1 (.agg #[.string ⟨#[]⟩,.int .i64 0]) _=some (pt p4,X2):=z2
 have d2 : ldA 2 (pt p2) X2=some (.agg (RR s).toArray,X2):=ZE (n:=2) c1 rfl
 obtain ⟨X3,e3,k3⟩:=ZgO (n:=n+2) (H:=X2) (k:=2) (by omega) hb ho
 have e3 : R (n+5) Q7 [.agg (RR s).toArray,.int .i64 2] X2=_:=e3
 have hcl:=WR (k:=2) (s:=s)
 have hbad:=ZdO (k:=2) ho
 have ho3 : okR (Z0 2 s).2:=ZbV ho
 have hb3 : (Z0 2 s).2.2.length≤1000000000:=Nat.le_trans Zck hb
 unfold ZaT
 generalize Z0 2 s=C at e3 hcl hbad ho3 hb3
 obtain ⟨cv,cs⟩:=C
 have e3 : R (n+5) Q7 [.agg (RR s).toArray,.int .i64 2] X2=some (.tuple #[.agg (RR cs).toArray,.int .u64 cv],X3):=e3
 have hcl : cv < 65536:=hcl
 have hbad : cs.1≠0→cv=0:=hbad
 have ho3 : okR cs:=ho3
 have hb3 : cs.2.length≤1000000000:=hb3
 simp only []
 have y3:=Ja (vs:=RR cs) (n:=2) (k3 _ _ c1) rfl rfl (ZL _)
 have hk3 : HLe H (X3.set p2 (.cells (RR cs) 1 false false)):=(k2.trans k3).put (by omega)
 have c4:=(List.getElem?_set_ne (a:=Zc.cells (RR cs) 1 false false) (show p2≠p4 by omega)).trans (k3 _ _ g2')
 have c3:=ZI (b:=Zc.cells (RR cs) 1 false false) (k3 _ _ c1)
 generalize X3.set p2 (.cells (RR cs) 1 false false)=X4 at y3 hk3 c3 c4
 have a4 : ld1 (pa p2 1) X4=some (iv cs.1,X4):=ZN c3 rfl
 have q4 : bop .int .eql (iv cs.1) (.int .i64 0) X4=some (.bool (cs.1==0),X4):=by rw [ZA,Wb]
 have q5 : bop .int .gtr (.int .u64 cv) (.int .u64 12) X4=some (.bool (decide (cv > 12)),X4):=by
  rw [ZF,show decide ((cv : Int) > 12)=decide (cv > 12) from by rw [decide_eq_decide];omega]
 have hgate : ∀ K : Value→M Value,bind (ZT (Value.bool (cs.1==0)) true 2 (bind (bop .int .gtr (.int .u64 cv) (Value.int .u64 12)) fun v20=>ret [.int .u64 cv,v20])) (c2 fun _ q6=>bind (pick (Value.bool (cs.1==0)) q6 (Value.bool false)) K) X4=K (.bool (decide (cs.1=0∧cv > 12))) X4:=fun K=>by
  by_cases h0 : cs.1=0
  ·rw [show (cs.1==0)=true from by simp [h0],ZK,Zf,Za q5,ZQ,ZP,Za Zh]
   simp [h0]
  ·rw [show (cs.1==0)=false from by simp [h0],Za (g_r.trans (if_neg (by simp)))]
   simp only [List.replicate]
   rw [ZP,Za Zh]
   simp [h0]
 have f1 : ∀ r H',JC (R (n+5)) (.agg (RR s).toArray) (iv 1) H=some (r,H')→R (n+6) Km [.agg (RR s).toArray,iv 1] H=some (r,H'):=fun r H' hr=>by rw [R,Zkg rfl];exact hr
 have d4 : ldA 2 (pt p2) X4=some (.agg (RR cs).toArray,X4):=ZE (n:=2) c3 rfl
 by_cases hc : cs.1=0∧cv > 12
 ·rw [if_pos hc]
  obtain ⟨X5,e5,k5⟩:=ZgD (n:=n+4) (H:=X4) (s:=cs) (e:=7) (by omega)
  have e5 : R (n+5) Jp [.agg (RR cs).toArray,.int .i64 7] X4=_:=e5
  refine ⟨.slice none 0 0,X5.set p4 (.cells (RR (Z3 7 cs)) 1 false false),f1 _ _ ?_,(hk3.trans k5).put (by omega),Zjv⟩
  unfold JC
  rw [Za z1,Za z2,Za d2,Za e3,Za Zo,Za Zn,Za y3,Za Zi,Za a4,Za q4]
  refine (hgate _).trans ?_
  rw [decide_eq_true hc,Zb,if_pos rfl,Za d4,Za e5]
  exact YQ (k5 _ _ c4) rfl rfl (ZL _)
 ·rw [if_neg hc]
  have hcv : cv≤12:=by
   by_cases h0 : cs.1=0
   ·exact Nat.not_lt.1 fun h=>hc ⟨h0,h⟩
   ·rw [hbad h0];omega
  obtain ⟨X5,lv,q5',e5,hr5,hp5,hq5,s5⟩:=Zqi (n:=n) (N:=cv) (p4:=p4) (by omega) (Nat.le_refl _) cv 0 [] cs (.slice none 0 0) [] X4 (by omega) (by omega) (Nat.zero_le _) ho3 hb3 c3 Qu.nil (by simp)
  have e5 : Zj (c6 (JC.l1 (R (n+5)))) [iv 1,pt p2,pt p4,.slice none 0 0,.int .u64 cv,.int .u64 0] X4=_:=e5
  rw [List.nil_append] at hr5
  have hgl:=ZqM cv cs
  generalize JX cv cs=G at hr5 hp5 hgl
  obtain ⟨g,st⟩:=G
  have hr5 : Qu 5 X5 lv (g.map usr) q5':=hr5
  have hp5 : X5[p2]?=some (.cells (RR st) 1 false false):=hp5
  have hgl : g.length=cv:=hgl
  simp only []
  have hm5:=hk3.more s5 (fun j hj=>by have : j=p2:=(by simpa using hj);omega)
  have c5 : X5[p4]?=some (.cells (RR (0,[])) 1 false false):=s5.get c4 (by simp;omega)
  have a5 : ld1 (pa p2 1) X5=some (iv st.1,X5):=ZN hp5 rfl
  have q6 : bop .int .eql (iv st.1) (.int .i64 0) X5=some (.bool (st.1==0),X5):=by rw [ZA,Wb]
  have d5 : ldA 2 (pt p2) X5=some (.agg (RR st).toArray,X5):=ZE (n:=2) hp5 rfl
  have hC : ∃ X6,(cnd (Value.bool (st.1==0)) (bind (ldA 2 (pt p2)) fun v42=>bind (R (n+5) W6 [lv,iv 1]) fun v45=>bind (ldA 2 (pt p2)) fun u_35=>same u_35 v42 <| bind (R (n+5) Jp [v42,v45]) fun v46=>bind (stA 2 (pt p2) v46) fun _=>ret (Out.nrm [pt p2,pt p4,lv])) (ret (Out.nrm [pt p2,pt p4,lv]))) X5=some (Out.nrm [pt p2,pt p4,lv],X6)∧HLe H X6∧X6[p2]?=some (.cells (RR (if st.1=0 then Z3 (ofN g) st else st)) 1 false false)∧X6[p4]?=some (.cells (RR (0,[])) 1 false false)∧QV X6 lv (g.map J8):=by
   by_cases h0 : st.1=0
   ·obtain ⟨X6,e6,k6⟩:=Zyg (n:=n) (by rw [List.length_map];omega) hr5.users
    rw [ZmT] at e6
    have d6 : ldA 2 (pt p2) X6=some (.agg (RR st).toArray,X6):=ZE (n:=2) (k6 _ _ hp5) rfl
    have hof : ofN g≤1000:=by
     have h1 : ofE (g.map J8)≤10:=by
      have hfu : ∀ l : List Ent,Kq (l.map J8)≤10:=by
       intro l
       induction l with
       | nil=>decide
       | cons a l ih=>
        rw [List.map_cons]
        unfold Kq
        split
        ·exact ih
        ·rw [Zes];have:=Zoe a;omega
      unfold ofE
      have:=hfu g
      split
      ·split
       ·split <;> decide
       ·decide
      ·exact this
     rw [ZmT] at h1;omega
    obtain ⟨X7,e7,k7⟩:=ZgD (n:=n+4) (H:=X6) (s:=st) (e:=ofN g) hof
    have e7 : R (n+5) Jp [.agg (RR st).toArray,iv (ofN g)] X6=_:=e7
    have k67:=k6.trans k7
    have y7:=Ja (vs:=RR (Z3 (ofN g) st)) (n:=2) (k67 _ _ hp5) rfl rfl (ZL _)
    rw [if_pos h0]
    refine ⟨X7.set p2 (.cells (RR (Z3 (ofN g) st)) 1 false false),?_,(hm5.1.trans k67).put (by omega),ZI (k67 _ _ hp5),(List.getElem?_set_ne (by omega)).trans (k67 _ _ c5),?_⟩
    ·rw [Zb,if_pos (by simp [h0]),Za d5,Za e6,Za d6,Qn,Za e7,Za y7]
     rfl
    ·exact ((hr5.keep fun j hj=>k67.step.keep j (hr5.lt j hj) (by simp)).keep fun j hj=>List.getElem?_set_ne (by have:=hq5 j hj;omega)).us
   ·rw [if_neg h0]
    refine ⟨X5,?_,hm5.1,hp5,c5,hr5.us⟩
    rw [Zb,if_neg (by simp [h0])]
    rfl
  obtain ⟨X6,e6,k6,hp6,c6',u6⟩:=hC
  generalize (if st.1=0 then Z3 (ofN g) st else st)=st' at hp6
  have a6 : ld1 (pa p2 1) X6=some (iv st'.1,X6):=ZN hp6 rfl
  have q7 : bop .int .neq (iv st'.1) (.int .i64 0) X6=some (.bool (st'.1 !=0),X6):=by rw [Zq,YX]
  have d6 : ldA 2 (pt p2) X6=some (.agg (RR st').toArray,X6):=ZE (n:=2) hp6 rfl
  have hU : ∀ {w : Value} {us : List Zp},QV X6 w us→own1 w≠some p4→(∀ u∈us,u.gv=.slice none 0 0)→QV (X6.set p4 (.cells (RR st') 1 false false)) w us:=fun {w us} h ho hg=>⟨h.1.keep fun id hid=>List.getElem?_set_ne (fun e=>ho (by rw [hid,e])),fun u hu=>by
   have h1:=h.2 u hu
   refine ⟨?_,h1.2⟩
   rw [hg u hu] at h1 ⊢
   have hl : u.gs.map strv=[]:=by
    have:=h1.1.fc
    simpa [Qq] using this.symm
   rw [hl]
   exact Sl.nil⟩
  have hgv : ∀ m : List Ent,∀ u∈m.map J8,u.gv=.slice none 0 0:=fun m u hu=>by
   obtain ⟨e,_,rfl⟩:=List.mem_map.1 hu
   rfl
  have hown : own1 lv≠some p4:=fun e=>by
   have h1 : q5'=[p4]:=hr5.own1 e
   have h2:=s5.own p4 (by rw [h1];simp)
   rcases h2 with h2 | h2
   ·simp at h2;omega
   ·have:=Z5 c4;omega
  refine ⟨(if st'.1=0 then lv else .slice none 0 0),X6.set p4 (.cells (RR st') 1 false false),f1 _ _ ?_,k6.put (by omega),?_⟩
  ·unfold JC
   rw [Za z1,Za z2,Za d2,Za e3,Za Zo,Za Zn,Za y3,Za Zi,Za a4,Za q4]
   refine (hgate _).trans ?_
   rw [decide_eq_false hc,Zb,if_neg (by simp),ZO e5,Zu,ZC,Za Zi,Za a5,Za q6]
   refine (Qf e6).trans ?_
   rw [ZX,Za Zi,Za a6,Za q7,Zb]
   by_cases h0 : st'.1=0
   ·rw [if_neg (by simp [h0]),if_pos h0,Za d6]
    exact YQ c6' rfl rfl (ZL _)
   ·rw [if_pos (by simp [h0]),if_neg h0,Za d6]
    exact YQ c6' rfl rfl (ZL _)
  ·by_cases h0 : st'.1=0
   ·rw [if_pos h0,if_pos h0]
    exact hU u6 hown (hgv g)
   ·rw [if_neg h0,if_neg h0]
    exact Zjv
theorem Zu7 (hb : bs.length≤1000000000) : ∃ lv H',R (n+7) Za0 [strv bs] H=some (.tuple #[lv,iv (Jk bs).1],H')∧HLe H H'∧QV H' lv ((Jk bs).2.map J8):=by
 have f1 : ∀ r H',Za8 (R (n+6)) (strv bs) H=some (r,H')→R (n+7) Za0 [strv bs] H=some (r,H'):=fun r H' hr=>by rw [R,ZpC rfl];exact hr
 cases bs with
 | nil=>
  have q1 : bop .str .eql (strv []) (.string ⟨#[]⟩) H=some (.bool true,H):=ZcT
  refine ⟨.slice none 0 0,H,f1 _ _ ?_,.refl _,Zjv⟩
  unfold Za8
  rw [Za q1,Zb,if_pos rfl]
  rfl
 | cons x l=>
  have q1 : bop .str .eql (strv (x :: l)) (.string ⟨#[]⟩) H=some (.bool false,H):=by rw [ZcT,decide_eq_false (by simp)]
  have x1 : ixs (strv (x :: l)) (.int .i64 0) H=some (u8v x,H):=WK (i:=0) rfl .i64 H
  have q2 : bop .int .neq (u8v x) (.int .u8 1) H=some (.bool (decide (x.toNat≠1)),H):=by
   rw [Zq,show ((x.toNat : Int) !=1)=decide (x.toNat≠1) from by rw [Bool.eq_iff_iff,decide_eq_true_eq,bne_iff_ne];omega]
  by_cases hx : x.toNat=1
  ·rw [decide_eq_false (fun h=>h hx)] at q2
   rw [Zu1 hx]
   have z1 : sls (strv (x :: l)) (some (.int .i64 1)) none H=some (strv l,H):=ZtB (k:=1) (by simp)
   have zb : bld (.agg #[.string ⟨#[]⟩,.int .i64 0]) [(0,1,strv l)] H=some (.agg (RR (0,l)).toArray,H):=by
    simp [bld,KK,Value.cells,Yv,strv,splice]
   have hbl : l.length≤1000000000:=by
    simp only [List.length_cons] at hb
    omega
   obtain ⟨lv,X1,e1,k1,u1⟩:=Zt2 (n:=n) (H:=H) (s:=(0,l)) (fun h=>absurd rfl h) hbl
   have e1 : R (n+6) Km [.agg (RR (0,l)).toArray,.int .i64 1] H=_:=e1
   generalize ZaT (0,l)=U at e1 u1
   obtain ⟨st,m⟩:=U
   have e1 : R (n+6) Km [.agg (RR (0,l)).toArray,.int .i64 1] H=some (.tuple #[.agg (RR st).toArray,lv],X1):=e1
   have u1 : QV X1 lv (m.map J8):=u1
   simp only []
   have z4:=fun {K : Value→M Value}=>Zcs (H:=X1) (n:=2) (zs:=RR (0,[])) (r:=RR st) (K:=K) rfl rfl (ZL _) (ZL _)
   have k2 : HLe X1 (X1++[Zc.cells (RR st) 1 false false]):=.app _ _
   have c2 : (X1++[Zc.cells (RR st) 1 false false])[X1.length]?=some (.cells (RR st) 1 false false):=Zm
   have ho1 : own1 lv≠some X1.length:=fun e=>by
    have h1:=u1.1
    obtain ⟨a,c,rfl,_,h3,_⟩:=h1
    unfold own1 at e
    split at e
    ·rename_i id o _ _ ee
     cases ee
     cases e
     unfold Qq at h3
     simp only at h3
     rw [List.getElem?_eq_none (Nat.le_refl _)] at h3
     cases h3
    ·cases e
   have hx1:=u1.mono k2
   generalize X1++[Zc.cells (RR st) 1 false false]=X2 at z4 k2 c2 hx1
   generalize hP : X1.length=p at z4 c2 ho1
   have z4 : ∀ {K : Value→M Value},bind (alc 1 (.agg #[.string ⟨#[]⟩,.int .i64 0])) (fun q=>bind (stA 2 q (.agg (RR st).toArray)) fun _=>K q) X1=K (pt p) X2:=z4
   have a1 : ld1 (pa p 1) X2=some (iv st.1,X2):=ZN c2 rfl
   have a0 : ld1 (pa p 0) X2=some (strv st.2,X2):=ZN c2 rfl
   have q3 : bop .int .eql (iv st.1) (.int .i64 0) X2=some (.bool (st.1==0),X2):=by rw [ZA,Wb]
   have q4 : bop .str .neq (strv st.2) (.string ⟨#[]⟩) X2=some (.bool (decide (st.2≠[])),X2):=by
    have:=Zbf (a:=st.2) (b:=[]) (H:=X2)
    rw [show (strv [] : Value)=.string ⟨#[]⟩ from rfl] at this
    rw [this]
    by_cases h : st.2=[] <;> simp [h]
   have hgate : ∀ K : Value→M Value,bind (ZT (Value.bool (st.1==0)) true 3 (bind (fa 0 (pt p)) fun v22x13=>bind (ld1 v22x13) fun v23x14=>bind (bop .str .neq v23x14 (Value.string ⟨#[]⟩)) fun v24x15=>ret [v22x13,v23x14,v24x15])) (c3 fun _ _ q16_2=>bind (pick (Value.bool (st.1==0)) q16_2 (Value.bool false)) K) X2=K (.bool (decide (st.1=0∧st.2≠[]))) X2:=fun K=>by
    by_cases h0 : st.1=0
    ·rw [show (st.1==0)=true from by simp [h0],ZK,Zf,Za Zi,Zf,Za a0,Zf,Za q4,ZQ,ZX,Za Zh]
     simp [h0]
    ·rw [show (st.1==0)=false from by simp [h0],Za (g_r.trans (if_neg (by simp)))]
     simp only [List.replicate]
     rw [ZX,Za Zh]
     simp [h0]
   have hJ : ∃ X3,(cnd (Value.bool (decide (st.1=0∧st.2≠[]))) (bind (fa 1 (pt p)) fun v26=>bind (st1 v26 (Value.int .i64 3)) fun _=>ret (Out.nrm [pt p,lv])) (ret (Out.nrm [pt p,lv]))) X2=some (Out.nrm [pt p,lv],X3)∧HLe X1 X3∧ld1 (pa p 1) X3=some (iv ((if st.1=0∧st.2≠[] then 3 else st.1 : Nat)),X3):=by
    by_cases hc : st.1=0∧st.2≠[]
    ·have w : st1 (pa p 1) (iv 3) X2=some (undef,X2.set p (.cells [strv st.2,iv 3] 1 false false)):=W8 (o:=1) c2 (by simp) rfl
     refine ⟨X2.set p (.cells [strv st.2,iv 3] 1 false false),?_,k2.put (by omega),?_⟩
     ·rw [decide_eq_true hc,Zb,if_pos rfl,Za Zi,Za w];rfl
     ·rw [if_pos hc];exact ZN (ZI c2) rfl
    ·refine ⟨X2,?_,k2,?_⟩
     ·rw [decide_eq_false hc,Zb,if_neg (by simp)];rfl
     ·rw [if_neg hc];exact a1
   obtain ⟨X3,e3,k3,a3⟩:=hJ
   generalize (if st.1=0∧st.2≠[] then 3 else st.1 : Nat)=e at a3
   have q5 : bop .int .neq (iv e) (.int .i64 0) X3=some (.bool (e !=0),X3):=by rw [Zq,YX]
   refine ⟨(if e≠0 then .slice none 0 0 else lv),X3,f1 _ _ ?_,k1.trans k3,?_⟩
   ·unfold Za8
    rw [Za q1,Zb,if_neg (by simp),Za x1,Za q2,Zb,if_neg (by simp),Za z1,Za zb,Za e1,Za Zo,Za Zn,z4,Za Zi,Za a1,Za q3]
    refine (hgate _).trans ?_
    refine (Qf e3).trans ?_
    rw [ZP,Za Zi,Za a3,Za q5,Zb]
    by_cases he : e=0
    ·rw [if_neg (by simp [he]),if_neg (by simp [he]),if_neg (by simp [he])]
     rfl
    ·rw [if_pos (by simp [he]),if_pos he,if_pos he,Za Zi,Za a3]
     rfl
   ·by_cases he : e=0
    ·rw [if_neg (by simp [he]),if_neg (by simp [he])]
     exact u1.mono k3
    ·rw [if_pos he,if_pos he]
     exact Zjv
  ·rw [decide_eq_true hx] at q2
   rw [ZqW hx]
   refine ⟨.slice none 0 0,H,f1 _ _ ?_,.refl _,Zjv⟩
   unfold Za8
   rw [Za q1,Zb,if_neg (by simp),Za x1,Za q2,Zb,if_pos rfl]
   rfl
end
end Go.Proofs.YtedkoimihknggaaGreatDoor.A

namespace Go.Proofs.YtedkoimihknggaaGreatDoor.A
set_option linter.unusedVariables false
set_option maxRecDepth 100000
set_option linter.unusedSimpArgs false
open Go.Proofs Go.Proofs.YtedkoimihknggaaGreatDoor
def ZaY (b : Bool) : List UInt8:=le (if b then 1 else 0) 1
def Zbx (l : List Tx) : List UInt8:=le l.length 2++(l.map txt).flatten
def Zcw (k : YS) : List UInt8:=txt k.1++(txt k.2.1++(txt k.2.2.1++(ZaY k.2.2.2.1++Zbx k.2.2.2.2)))
def YH (l : List YS) : List UInt8:=(l.map Zcw).flatten
def Zb6 (K : List Tx) (ks : List YS) : List UInt8:=le 2 1++(Zbx K++(le ks.length 2++YH ks))
abbrev ZzO : YS:=([],[],[],false,[])
def uOf (k : YS) : Zp:=⟨k.1,k.2.1,k.2.2.1,k.2.2.2.1,.slice none 0 0,k.2.2.2.2⟩
def K6 (k : YS) : Nat:=(QT (uOf k)).toNat
def ofK (ks : List YS) (gs : List Tx) : Nat:=(WJ (ks.map uOf) gs).toNat
def KQ (s : RSt) : Bool × RSt:=((Z0 1 s).1==1,if 1 < (Z0 1 s).1 then Z3 4 (Z0 1 s).2 else (Z0 1 s).2)
def QU (long : Nat) : Nat→RSt→List Tx × RSt
 | 0,s=>([],s)
 | k+1,s=>((ZV long s).1 :: (QU long k (ZV long s).2).1,(QU long k (ZV long s).2).2)
def KM (most long : Nat) (s : RSt) : List Tx × RSt:=
 (if (QU long (Qy most s).1 (Qy most s).2).2.1=0 then (QU long (Qy most s).1 (Qy most s).2).1 else [],(QU long (Qy most s).1 (Qy most s).2).2)
def Zho (s : RSt) : YS × RSt:=
 let a:=ZV 65535 s
 let b:=ZV 65535 a.2
 let c:=ZV 65535 b.2
 let d:=KQ c.2
 let e:=KM 65535 65535 d.2
 ((a.1,b.1,c.1,d.1,e.1),e.2)
def Zcv (s : RSt) : YS × RSt:=(if (Z3 (K6 (Zho s).1) (Zho s).2).1=0 then (Zho s).1 else ZzO,Z3 (K6 (Zho s).1) (Zho s).2)
def Wg : Nat→RSt→List YS × RSt
 | 0,s=>([],s)
 | k+1,s=>((Zcv s).1 :: (Wg k (Zcv s).2).1,(Wg k (Zcv s).2).2)
def Zma (s : RSt) : Nat × (List Tx × List YS):=
 let g:=KM 6 12 s
 let n:=Z0 2 g.2
 let m:=if n.1 > 12 then (0,Z3 7 n.2) else n
 let u:=Wg m.1 m.2
 if u.2.1≠0 then (u.2.1,[],[]) else
 if ofK u.1 g.1≠0 then (ofK u.1 g.1,[],[]) else
 if u.2.2≠[] then (3,[],[]) else (0,g.1,u.1)
def Kg (bs : List UInt8) : Nat × (List Tx × List YS):=
 let b:=Z0 1 (0,bs)
 if b.2.1=0∧b.1≠2 then (6,[],[]) else Zma b.2
section
variable {s : RSt} {k : YS} {ks : List YS} {l K : List Tx} {r t : List UInt8} {us : List Zp}
theorem Zww (k : YS) : ZW (uOf k)=k:=rfl
theorem ZnB (ks : List YS) : (ks.map uOf).map ZW=ks:=by
 rw [List.map_map]
 exact (List.map_congr_left fun a _=>Zww a).trans (List.map_id ks)
theorem Zhk {u : Zp} : 0≤QT u∧QT u≤12:=by
 unfold QT Zc3
 repeat' split
 all_goals exact ⟨by decide,by decide⟩
theorem ZvC {u w : Zp} (h : ZW u=ZW w) : QT u=QT w:=by
 have h1 : u.nm=w.nm:=congrArg (·.1) h
 have h2 : u.hs=w.hs:=congrArg (·.2.1) h
 have h3 : u.ml=w.ml:=congrArg (·.2.2.1) h
 have h4 : u.gs=w.gs:=congrArg (·.2.2.2.2) h
 unfold QT
 rw [h1,h2,h3,h4]
theorem Zfc {u : Zp} : QT u=K6 (ZW u):=by
 unfold K6
 rw [Int.toNat_of_nonneg Zhk.1]
 exact ZvC rfl
theorem ZsU : K6 k≤12:=by
 unfold K6
 have:=Zhk (u:=uOf k)
 omega
theorem Zme : ∀ {us : List Zp},0≤Jm us
 | []=>Int.le_refl _
 | u :: us=>by
  unfold Jm
  split
  ·exact Zme
  ·exact Zhk.1
theorem Zwc {gs : List Tx} {p : List Zp} {u : Zp} : 0≤Zcr gs p u:=by
 unfold Zcr
 repeat' split
 all_goals decide
theorem ZqS {gs : List Tx} : ∀ {us p : List Zp},0≤Kf gs p us
 | [],p=>by unfold Kf;exact Int.le_refl _
 | u :: us,p=>by
  unfold Kf
  split
  ·exact ZqS
  ·exact Zwc
theorem Zxw : 0≤Zbb us l:=by
 unfold Zbb ZdG
 have:=Zme (us:=us)
 repeat' split
 all_goals first | exact this | decide
theorem ZpX : 0≤WJ us l:=by
 unfold WJ
 split
 ·exact ZqS
 ·exact Zxw
theorem ZjZ : WJ us l=ofK (us.map ZW) l:=by
 unfold ofK
 rw [Int.toNat_of_nonneg ZpX]
 exact ZvW (ZnB _).symm
theorem ZsT {m : Tx} (h : ZbC m=true) : m.length≤20:=by
 rcases ZjY h with h | ⟨h,_⟩
 ·rw [h];decide
 ·unfold Wk at h
  rw [Bool.and_eq_true,decide_eq_true_eq] at h
  exact h.1
structure Ze7 (k : YS) : Prop where
 n : k.1.length≤12
 h : k.2.1.length≤12
 m : k.2.2.1.length≤20
 g : k.2.2.2.2.length≤6
 gs : ∀ x∈k.2.2.2.2,x.length≤12
theorem ZmG (h : K6 k=0) : Ze7 k:=by
 have h0 : QT (uOf k)=0:=by
  have:=Zhk (u:=uOf k)
  unfold K6 at h
  omega
 obtain ⟨h1,h2,h3,h4,h5,_⟩:=Zfa h0
 exact ⟨ZaI h1,ZsZ h2,ZsT h3,h4,fun x hx=>ZaI (List.all_eq_true.1 h5 x hx)⟩
theorem Zxf (h : ofK ks l=0) : (∀ k∈ks,K6 k=0)∧ks.length≤12∧l.length≤6∧(∀ x∈l,x.length≤12)∧Jn l=true∧l.all ZB=true:=by
 have h0 : WJ (ks.map uOf) l=0:=by
  have:=ZpX (us:=ks.map uOf) (l:=l)
  unfold ofK at h
  omega
 have hc : Zbb (ks.map uOf) l=0:=by
  unfold WJ at h0
  by_cases hc : Zbb (ks.map uOf) l=0
  ·exact hc
  ·rw [if_neg hc] at h0;exact h0
 obtain ⟨h1,_,h3,h4,h5,h6⟩:=Zut hc
 rw [List.length_map] at h3
 refine ⟨fun k hk=>?_,h3,h6,fun x hx=>ZaI (List.all_eq_true.1 h4 x hx),h5,h4⟩
 have:=ZjK h1 (uOf k) (List.mem_map.2 ⟨k,hk,rfl⟩)
 unfold K6
 rw [this];rfl
theorem Zjj {b : Nat} : ∀ {l : List Tx},(∀ x∈l,x.length≤b)→((l.map txt).flatten).length≤l.length * (b+2)
 | [],_=>by simp
 | x :: l,h=>by
  have h1:=h x (by simp)
  have h2:=Zjj (b:=b) (l:=l) fun y hy=>h y (by simp [hy])
  rw [List.map_cons,List.flatten_cons,List.length_append,Yf,List.length_cons,Nat.add_mul]
  omega
theorem Zfn {b : Nat} (h : ∀ x∈l,x.length≤b) : (Zbx l).length≤2+l.length * (b+2):=by
 unfold Zbx
 rw [List.length_append,KS]
 have:=Zjj h
 omega
theorem Ze8 (b : Bool) : (ZaY b).length=1:=by unfold ZaY;rw [KS]
theorem Zlj (h : Ze7 k) : (Zcw k).length≤137:=by
 unfold Zcw
 rw [List.length_append,List.length_append,List.length_append,List.length_append,Yf,Yf,Yf,Ze8]
 have h1:=Zfn h.gs
 have h2:=h.g
 have:=h.n
 have:=h.h
 have:=h.m
 have h3 : k.2.2.2.2.length * (12+2)≤6 * (12+2):=Nat.mul_le_mul_right _ h2
 omega
theorem Zhu : ∀ {ks : List YS},(∀ k∈ks,Ze7 k)→(YH ks).length≤ks.length * 137
 | [],_=>by simp [YH]
 | k :: ks,h=>by
  have h1:=Zlj (h k (by simp))
  have h2:=Zhu (ks:=ks) fun y hy=>h y (by simp [hy])
  unfold YH at h2 ⊢
  rw [List.map_cons,List.flatten_cons,List.length_append,List.length_cons,Nat.add_mul]
  omega
theorem Zre (h : ∀ k∈ks,Ze7 k) (hn : ks.length≤12) (hl : l.length≤6) (hx : ∀ x∈l,x.length≤12) : (Zb6 l ks).length≤1733:=by
 unfold Zb6
 rw [List.length_append,List.length_append,List.length_append,KS,KS]
 have h1:=Zfn hx
 have h2:=Zhu h
 have h3 : l.length * (12+2)≤6 * (12+2):=Nat.mul_le_mul_right _ hl
 have h4 : ks.length * 137≤12 * 137:=Nat.mul_le_mul_right _ hn
 omega
theorem ZfV {t r : List UInt8} {most : Nat} (h : t.length≤most) (h2 : t.length≤65535) : ZV most (0,txt t++r)=(t,(0,r)):=by
 have h1 : Z0 2 (0,txt t++r)=(t.length,(0,t++r)):=by
  unfold txt
  rw [List.append_assoc]
  exact ZdJ (by omega)
 unfold ZV Qy
 rw [h1]
 simp only []
 rw [if_neg (by omega)]
 exact ZnF rfl
theorem Znl {long : Nat} : ∀ {l : List Tx} {r : List UInt8},(∀ x∈l,x.length≤long∧x.length≤65535)→QU long l.length (0,(l.map txt).flatten++r)=(l,(0,r))
 | [],r,_=>rfl
 | x :: l,r,h=>by
  have h1:=h x (by simp)
  rw [List.length_cons]
  unfold QU
  rw [List.map_cons,List.flatten_cons,List.append_assoc,ZfV h1.1 h1.2,Znl fun y hy=>h y (by simp [hy])]
theorem ZqA {most long : Nat} (hm : l.length≤most) (h6 : l.length≤65535) (h : ∀ x∈l,x.length≤long∧x.length≤65535) : KM most long (0,Zbx l++r)=(l,(0,r)):=by
 have h1 : Qy most (0,Zbx l++r)=(l.length,(0,(l.map txt).flatten++r)):=by
  unfold Qy Zbx
  rw [List.append_assoc,ZdJ (by omega)]
  simp only []
  rw [if_neg (by omega)]
 unfold KM
 rw [h1]
 simp only []
 rw [Znl h]
 simp
theorem ZtA (b : Bool) : KQ (0,ZaY b++r)=(b,(0,r)):=by
 unfold KQ ZaY
 cases b
 ·rw [show (if false=true then 1 else 0)=0 from rfl,ZdJ (by decide)]
  simp
 ·rw [show (if true=true then 1 else 0)=1 from rfl,ZdJ (by decide)]
  simp
theorem Zyk : Z3 0 s=s:=by unfold Z3;rw [if_neg (fun h=>h.2 rfl)]
theorem Zv6 (h : Ze7 k) : Zho (0,Zcw k++r)=(k,(0,r)):=by
 have h1:=h.n
 have h2:=h.h
 have h3:=h.m
 have h4:=h.g
 unfold Zho Zcw
 simp only [List.append_assoc]
 rw [ZfV (by omega) (by omega)]
 simp only []
 rw [ZfV (by omega) (by omega)]
 simp only []
 rw [ZfV (by omega) (by omega)]
 simp only []
 rw [ZtA]
 simp only []
 rw [ZqA (by omega) (by omega) (fun x hx=>by have:=h.gs x hx;omega)]
theorem ZwM (h : K6 k=0) : Zcv (0,Zcw k++r)=(k,(0,r)):=by
 unfold Zcv
 rw [Zv6 (ZmG h)]
 simp only [h,Zyk]
 simp
theorem ZoB : ∀ {ks : List YS} {r : List UInt8},(∀ k∈ks,K6 k=0)→Wg ks.length (0,YH ks++r)=(ks,(0,r))
 | [],r,_=>rfl
 | k :: ks,r,h=>by
  have ih:=ZoB (ks:=ks) (r:=r) fun y hy=>h y (by simp [hy])
  unfold YH at ih ⊢
  rw [List.length_cons]
  unfold Wg
  rw [List.map_cons,List.flatten_cons,List.append_assoc,ZwM (h k (by simp)),ih]
theorem Zvw (h : ofK ks l=0) : Kg (Zb6 l ks)=(0,l,ks):=by
 obtain ⟨h1,h2,h3,h4,_,_⟩:=Zxf h
 have e1 : Z0 1 (0,Zb6 l ks)=(2,(0,Zbx l++(le ks.length 2++YH ks))):=by
  unfold Zb6
  exact ZdJ (by decide)
 have e2 : KM 6 12 (0,Zbx l++(le ks.length 2++YH ks))=(l,(0,le ks.length 2++YH ks)):=ZqA h3 (by omega) (fun x hx=>by have:=h4 x hx;omega)
 have e3 : Z0 2 (0,le ks.length 2++YH ks)=(ks.length,(0,YH ks)):=ZdJ (by omega)
 have e4 : Wg ks.length (0,YH ks)=(ks,(0,[])):=by
  have:=ZoB (r:=[]) h1
  rwa [List.append_nil] at this
 unfold Kg
 rw [e1]
 simp only []
 rw [if_neg (fun h=>h.2 rfl)]
 unfold Zma
 rw [e2]
 simp only []
 rw [e3]
 simp only []
 rw [if_neg (show ¬ ks.length > 12 by omega)]
 simp only []
 rw [e4]
 simp [h]
theorem ZuD : Kg []=(2,[],[]):=rfl
theorem ZwI {x : UInt8} {l : List UInt8} (h : x.toNat≠2) : Kg (x :: l)=(6,[],[]):=by
 unfold Kg
 rw [Zrm]
 simp only []
 rw [if_pos ⟨trivial,h⟩]
theorem ZuG {x : UInt8} {l : List UInt8} (h : x.toNat=2) : Kg (x :: l)=Zma (0,l):=by
 unfold Kg
 rw [Zrm]
 simp only []
 rw [if_neg (fun h'=>h'.2 h)]
end
end Go.Proofs.YtedkoimihknggaaGreatDoor.A

namespace Go.Proofs.YtedkoimihknggaaGreatDoor.A
set_option linter.unusedVariables false
set_option maxRecDepth 100000
set_option linter.unusedSimpArgs false
open Go.Proofs Go.Proofs.YtedkoimihknggaaGreatDoor
section
variable {H X X' : Zd} {n p d c : Nat} {r : NR} {s : NSt} {sl x v gv sv : Value} {own q : List Nat} {bs : List UInt8} {l : List Tx} {u : Zp} {us : List Zp}
theorem Zfm : ∀ {l : List Tx},l.Pairwise (· < ·)→Jn l=true
 | [],_=>rfl
 | [a],_=>rfl
 | a :: b :: l,h=>by
  rw [ZbB,Bool.and_eq_true,decide_eq_true_eq]
  have h1:=List.pairwise_cons.1 h
  exact ⟨h1.1 b (by simp),Zfm h1.2⟩
theorem ND0.kname (hd : ND0 X d r s c) {k : Tx} (hk : k∈s.K) : ZB k=true:=by
 rw [← hd.ks] at hk
 obtain ⟨p,hp,rfl⟩:=List.mem_map.1 hk
 exact hd.gr.ok p hp
theorem Zju (hO : ROK s us) (hP : ZlE s) (hN : ∀ k∈s.K,ZB k=true) (hu : u∈us) : QT u=0∧(∀ g∈u.gs,g∈s.K)∧u.ml=(Zk u.nm s.OF).getD []:=by
 have hat:=hO.at hu
 unfold YF at hat
 cases ha : Zk u.nm s.A with
 | none=>rw [ha] at hat;cases hat
 | some p=>
  rw [ha] at hat
  have hk : Zak s u.nm p=ZW u:=Option.some.inj hat
  have h1 : p.1=u.hs:=congrArg (·.2.1) hk
  have h2 : (Zk u.nm s.OF).getD []=u.ml:=congrArg (·.2.2.1) hk
  have h3 : ofL u.nm s.K s.mem=u.gs:=congrArg (·.2.2.2.2) hk
  have hnm:=hP.i.nm _ (Zae ha)
  have hin : ∀ g∈u.gs,g∈s.K:=fun g hg=>by
   rw [← h3] at hg
   exact (((Zqx hP.k.nod).mem g).1 hg).1
  refine ⟨?_,hin,h2.symm⟩
  unfold QT Zc3
  rw [show ZB u.nm=true from hnm.1,← h1,show KW p.1=true from hnm.2]
  have hm : ZbC u.ml=true:=by
   unfold ZbC
   rw [← h2]
   cases ho : Zk u.nm s.OF with
   | none=>rfl
   | some m=>
    obtain ⟨g1,g2⟩:=hP.i.good _ m ho
    show (m==[] || (Wk m && QH m==m))=true
    rw [g1,g2]
    simp
  have hl : u.gs.length≤6:=by
   rw [← h3]
   exact Nat.le_trans Zok hP.k.few
  have hall : u.gs.all ZB=true:=List.all_eq_true.2 fun g hg=>hN g (hin g hg)
  have hr : Jn u.gs=true:=by
   rw [← h3]
   exact Zfm (Zqx hP.k.nod).asc
  rw [hm,hall,hr]
  simp only [if_true]
  rw [if_neg (by omega)]
theorem Znu {gs : List Tx} : ∀ {us prev : List Zp},(∀ (i : Nat) (u : Zp),us[i]?=some u→Zcr gs (prev++us.take i) u=0)→Kf gs prev us=0
 | [],prev,_=>by unfold Kf;rfl
 | u :: us,prev,h=>by
  have h0:=h 0 u rfl
  rw [List.take_zero,List.append_nil] at h0
  unfold Kf
  rw [if_pos h0]
  refine Znu fun i w hi=>?_
  have h1:=h (i+1) w (by simpa using hi)
  rw [List.take_succ_cons] at h1
  rwa [List.append_assoc]
theorem Zy5 (hO : ROK s us) (hP : ZlE s) (hN : ∀ k∈s.K,ZB k=true) : WJ us (Qs s.K)=0:=by
 have hlen:=hO.len hP.n
 have hfew:=hP.i.few
 have h1 : Jm us=0:=by
  have hall : ∀ u∈us,QT u=0:=fun u hu=>(Zju hO hP hN hu).1
  clear hO hlen
  induction us with
  | nil=>rfl
  | cons u us ih=>
   unfold Jm
   rw [if_pos (hall u (by simp))]
   exact ih fun w hw=>hall w (by simp [hw])
 have h2 : Jn (us.map (·.nm))=true:=by
  refine Zfm ?_
  rw [List.pairwise_map]
  exact hO.rise
 have h3 : (Qs s.K).all ZB=true:=List.all_eq_true.2 fun g hg=>hN g (Zbv.1 hg)
 have h4 : Jn (Qs s.K)=true:=Zfm (ZjS hP.k.nod)
 have h5 : (Qs s.K).length≤6:=by rw [ZcL];exact hP.k.few
 have hc : Zbb us (Qs s.K)=0:=by
  unfold Zbb ZdG
  have x1 : ¬ 12 < us.length:=by omega
  have x2 : ¬ 6 < (Qs s.K).length:=by omega
  rw [h1,h2,h3,h4]
  simp [x1,x2,hP.k.few]
 unfold WJ
 rw [if_pos hc]
 refine Znu fun i u hi=>?_
 rw [List.nil_append]
 have hum:=List.mem_of_getElem? hi
 obtain ⟨_,hg,hm⟩:=Zju hO hP hN hum
 unfold Zcr
 have hall : (u.gs.all fun g=>decide (g∈Qs s.K))=true:=List.all_eq_true.2 fun g hgm=>by
  rw [decide_eq_true_eq]
  exact Zbv.2 (hg g hgm)
 rw [hall,if_pos rfl,if_neg]
 rintro ⟨hne,hany⟩
 obtain ⟨w,hw,hwe⟩:=List.any_eq_true.1 hany
 have hwm:=List.mem_of_mem_take hw
 obtain ⟨_,_,hm2⟩:=Zju hO hP hN hwm
 have hwe : u.ml=w.ml:=by simpa using hwe
 have h6 : ∀ v : Zp,v.ml=(Zk v.nm s.OF).getD []→v.ml≠[]→Zk v.ml s.OW=some v.nm:=fun v hv hvne=>by
  cases ho : Zk v.nm s.OF with
  | none=>rw [ho] at hv;exact absurd hv hvne
  | some m=>
   rw [ho] at hv
   have hv : v.ml=m:=hv
   rw [hv]
   exact (hP.x.inv _ _).1 ho
 have h7:=h6 u hm hne
 have h8:=h6 w hm2 (by rw [← hwe];exact hne)
 rw [← hwe,h7] at h8
 have h9 : u.nm=w.nm:=Option.some.inj h8
 have hri:=hO.rise
 unfold Zdo at hri
 rw [← List.take_append_drop i us,List.pairwise_append] at hri
 have hud : u∈us.drop i:=by
  have hil:=(List.getElem?_eq_some_iff.1 hi).1
  rw [List.drop_eq_getElem_cons hil]
  have:=List.getElem?_eq_getElem hil
  rw [hi] at this
  rw [← Option.some.inj this]
  simp
 have:=hri.2.2 w hw u hud
 rw [h9] at this
 exact absurd this (List.lt_irrefl _)
theorem ROK.allK (hn : (Zbj s).Nodup) : ROK s ((A.allK s).map uOf):=⟨by
 have h:=ZoM hn
 unfold Zdo
 rw [List.pairwise_map]
 exact h,fun key=>by rw [ZnB];exact Zqd hn⟩
theorem Zze (hd : ND X d r s c) : ofK (A.allK s) (Qs s.K)=0:=by
 have:=Zy5 (ROK.allK hd.pinv.n) hd.pinv fun k hk=>hd.toND0.kname hk
 rw [ZjZ,ZnB] at this
 omega
theorem Zwd {b : Bool} (hb : bs.length≤100000000000) (h : Wtr H p bs own) : ∃ H' own',R (n+3) KU [pt p,.bool b] H=some (pt p,H')∧Wtr H' p (bs++ZaY b) own'∧Zw (p :: own) H (p :: own') H':=by
 obtain ⟨H',own',e,w,s⟩:=ZsO (n:=n) (x:=if b then 1 else 0) (by cases b <;> decide) hb h
 refine ⟨H',own',?_,w,s⟩
 rw [R,Zhn rfl]
 unfold ZbE
 cases b
 ·have e : R (n+2) JP [pt p,.int .u8 0] H=_:=e
  rw [Zb,if_neg (by simp),Za e]
  rfl
 ·have e : R (n+2) JP [pt p,.int .u8 1] H=_:=e
  rw [Zb,if_pos rfl,Za e]
  rfl
theorem Zs.whole {vs : List Value} (h : Zs X v vs q) : ∃ sv,slv 1 v none (some (iv vs.length)) none X=some (sv,X)∧Sl X sv vs∧∀ j,A.own1 sv=some j→j∈q:=by
 have b1 : ∀ d,bnd (some (iv vs.length)) d=some vs.length:=fun d=>by simp [bnd]
 have b2 : ∀ d,bnd none d=some d:=fun _=>rfl
 rcases h with ⟨rfl,rfl,rfl⟩ | ⟨sid,rest,g,rfl,rfl,hid⟩
 ·exact ⟨.slice none 0 0,rfl,Sl.nil,fun j hj=>by cases hj⟩
 ·by_cases h0 : vs.length+rest.length=0
  ·have hv : vs=[]:=List.eq_nil_of_length_eq_zero (by omega)
   subst hv
   refine ⟨.slice (some ⟨sid,0,some (bif g then 1 else 0)⟩) 0 0,?_,⟨_,_,rfl,(fun e=>by cases e),rfl⟩,fun j hj=>by cases hj⟩
   simp only [slv,hid,b1,b2]
   rw [if_pos ⟨trivial,by omega,by omega,Nat.le_refl _⟩,if_pos (by omega)]
  ·refine ⟨.slice (some ⟨sid,0,none⟩) vs.length (vs.length+rest.length),?_,⟨some ⟨sid,0,none⟩,_,rfl,(fun e=>by cases e),?_⟩,fun j hj=>by cases hj;simp⟩
   ·simp only [slv,hid,b1,b2]
    rw [if_pos ⟨trivial,by omega,by omega,Nat.le_refl _⟩,if_neg (by omega)]
    simp
   ·simp only [Qq,hid]
    rw [if_pos (by simp)]
    simp
theorem Zs7 (hl : ∀ x∈l,x.length≤1000) (hn : l.length≤1000) : ∀ (t j : Nat) (bs : List UInt8) (own : List Nat) (X : Zd),l.length - j=t→j≤l.length→Sl X sv (l.map strv)→(∀ i,own1 sv=some i→i∉p :: own∧i < X.length)→bs.length+t * 1002≤100000000→Wtr X p bs own→
  ∃ X' own',Zj (c4 (Yx.l1 (R (n+3)))) [pt p,sv,iv l.length,iv j] X=some (.ext 0 [pt p],X')∧Wtr X' p (bs++((l.drop j).map txt).flatten) own'∧Zw (p :: own) X (p :: own') X'
 | 0,j,bs,own,X,ht,hj,hs,hd,hb,h=>by
  rw [List.drop_eq_nil_of_le (by omega)]
  refine ⟨X,own,ZD ?_,by simpa using h,.refl _ _⟩
  rw [ZC,show j=l.length by omega]
  unfold Yx.l1
  rw [Za Zg,Zb,if_neg (by simp)]
  rfl
 | t+1,j,bs,own,X,ht,hj,hs,hd,hb,h=>by
  have hkl : j < l.length:=by omega
  have hlt : (j : Int) < l.length:=by omega
  have hg:=List.getElem?_eq_getElem hkl
  have hdr:=List.drop_eq_getElem_cons hkl
  generalize l[j]=y at hg hdr
  have hy:=hl y (List.mem_of_getElem? hg)
  have x1:=hs.ix (i:=j) (by simpa using hkl) .i64 X
  have x2:=hs.ldx (J9 hg)
  obtain ⟨X1,own1',e1,w1,s1⟩:=Zj1 (n:=n) (s:=y) (by omega) (by omega) h
  have hs1 : Sl X1 sv (l.map strv):=hs.keep fun i hi=>s1.keep i (hd i hi).2 (hd i hi).1
  have hd1 : ∀ i,A.own1 sv=some i→i∉p :: own1'∧i < X1.length:=fun i hi=>⟨fun hm=>by
   rcases s1.own i hm with h1 | h1
   ·exact (hd i hi).1 h1
   ·have:=(hd i hi).2;omega,Nat.lt_of_lt_of_le (hd i hi).2 s1.len⟩
  obtain ⟨X2,own2,e2,w2,s2⟩:=Zs7 hl hn t (j+1) (bs++txt y) own1' X1 (by omega) (by omega) hs1 hd1 (by rw [List.length_append,Yf];omega) w1
  refine ⟨X2,own2,(Zr ?_).trans e2,?_,s1.trans s2⟩
  ·rw [ZC]
   unfold Yx.l1
   rw [Za Zg,Zb,if_pos (by simpa using hlt),Za x1,Za x2,Za e1,Za Zt,Qh (by omega)]
   rfl
  ·rw [hdr,List.map_cons,List.flatten_cons,← List.append_assoc]
   exact w2
theorem Zvn (hl : ∀ x∈l,x.length≤1000) (hn : l.length≤1000) (hr : Zs H gv (l.map strv) q) (hd : ∀ j∈q,j∉p :: own) (hb : bs.length≤10000000) (h : Wtr H p bs own) : ∃ H' own',R (n+4) Y8 [pt p,gv] H=some (pt p,H')∧Wtr H' p (bs++Zbx l) own'∧Zw (p :: own) H (p :: own') H':=by
 have hlen : ZH gv H=some (iv l.length,H):=by have:=hr.rd.len (H':=H);simpa using this
 have hm : mxi false (iv l.length) (.int .i64 65535) H=some (iv l.length,H):=by
  rw [Ys,if_neg (by omega)]
 obtain ⟨sv,e1,s1,o1⟩:=hr.whole
 rw [List.length_map] at e1
 have hsl : ∀ Y,ZH sv Y=some (iv l.length,Y):=fun Y=>by have:=s1.len (H':=Y);simpa using this
 have c1 : cvi .u16 (iv l.length) H=some (.int .u16 l.length,H):=by rw [Qi,ZtN,Int.emod_eq_of_lt (by omega) (by omega)]
 obtain ⟨X1,own1',e2,w2,st2⟩:=Zqv (n:=n+1) (x:=l.length) (by omega) (by omega) h
 have e2 : R (n+3) Yw [pt p,.int .u16 l.length] H=_:=e2
 have hs1 : Sl X1 sv (l.map strv):=s1.keep fun i hi=>st2.keep i (hr.lt i (o1 i hi)) (hd i (o1 i hi))
 have hd1 : ∀ i,A.own1 sv=some i→i∉p :: own1'∧i < X1.length:=fun i hi=>⟨fun hm=>by
  rcases st2.own i hm with h1 | h1
  ·exact hd i (o1 i hi) h1
  ·have:=hr.lt i (o1 i hi);omega,Nat.lt_of_lt_of_le (hr.lt i (o1 i hi)) st2.len⟩
 obtain ⟨X2,own2,e3,w3,st3⟩:=Zs7 (n:=n) (p:=p) hl hn l.length 0 (bs++le l.length 2) own1' X1 (by omega) (by omega) hs1 hd1 (by rw [List.length_append,KS];omega) w2
 rw [show iv ((0 : Nat) : Int)=.int .i64 0 from rfl] at e3
 rw [List.drop_zero,List.append_assoc] at w3
 refine ⟨X2,own2,?_,w3,st2.trans st3⟩
 rw [R,Zjm rfl]
 unfold Yx
 rw [Za hlen,Za hm,Za e1,Za (hsl _),Za c1,Za e2,Za (hsl _),ZO e3,Zu]
 rfl
theorem ZuN {u : Zp} : Zcw (ZW u)=txt u.nm++(txt u.hs++(txt u.ml++(ZaY u.ds++Zbx u.gs))):=rfl
theorem ZbX {o1 o2 : List Nat} (hs : Zw o1 X o2 X') {q : List Nat} (hl : ∀ j∈q,j < X.length) (hd : ∀ j∈q,j∉o1) : ∀ j∈q,j∉o2:=fun j hj hm=>by
 rcases hs.own j hm with h1 | h1
 ·exact hd j hj h1
 ·have:=hl j hj;omega
theorem Zx0 (he : QT u=0) (hr : Zs H u.gv (u.gs.map strv) q) (hd : ∀ j∈q,j∉p :: own) (hb : bs.length≤1000000) (h : Wtr H p bs own) : ∃ H' own',R (n+11) ZfY [pt p,iv 2,.agg u.cells.toArray] H=some (.bool true,H')∧Wtr H' p (bs++Zcw (ZW u)) own'∧Zw (p :: own) H (p :: own') H':=by
 obtain ⟨b1,b2,b3,b4,b5,b6⟩:=Zfa he
 have hnl:=ZaI b1
 have hhl:=ZsZ b2
 have hml:=ZsT b3
 have hgl : ∀ x∈u.gs,x.length≤1000:=fun x hx=>by have:=ZaI (List.all_eq_true.1 b5 x hx);omega
 have ok0 : UOK H u:=⟨hr.rd,hr.one.1,by omega⟩
 have e1:=ok0.cells1
 have k1 : HLe H (H++[.cells u.cells 1 false false]):=.app _ _
 have c1 : (H++[Zc.cells u.cells 1 false false])[H.length]?=some (.cells u.cells 1 false false):=Zm
 have hne : H.length∉p :: own:=fun hm=>Nat.lt_irrefl _ (h.lt _ hm)
 have hq1:=hr.lt
 generalize H++[Zc.cells u.cells 1 false false]=X1 at e1 k1 c1
 have d1 : ldA 5 (pt H.length) X1=some (.agg u.cells.toArray,X1):=ZE (n:=5) c1 rfl
 obtain ⟨X2,e2,k2⟩:=Zfq (n:=n) (ok0.hle k1)
 rw [he] at e2
 have c2:=k2 _ _ c1
 have k12:=k1.trans k2
 have q1 : bop .int .neq (iv 0) (.int .i64 0) X2=some (.bool false,X2):=by rw [Zq];rfl
 have w2:=h.hle k12
 have hr2:=hr.step k12.step (by simp)
 generalize H.length=w at e1 c1 hne d1 c2
 obtain ⟨X3,q3,e3,w3,s3⟩:=Zj1 (n:=n+7) (s:=u.nm) (by omega) (by omega) w2
 have e3 : R (n+10) Jr [pt p,strv u.nm] X2=_:=e3
 have c3:=s3.get c2 hne
 have hwl:=Z5 c2
 have n3 : w∉p :: q3:=fun hm=>by
  rcases s3.own w hm with h1 | h1
  ·exact hne h1
  ·omega
 have l3 : (txt u.nm).length≤14:=by rw [Yf];omega
 have l4 : (txt u.hs).length≤14:=by rw [Yf];omega
 have l5 : (txt u.ml).length≤22:=by rw [Yf];omega
 obtain ⟨X4,q4,e4,w4,s4⟩:=Zj1 (n:=n+7) (s:=u.hs) (by omega) (by rw [List.length_append];omega) w3
 have e4 : R (n+10) Jr [pt p,strv u.hs] X3=_:=e4
 have c4:=s4.get c3 n3
 have hwl3:=Z5 c3
 have n4 : w∉p :: q4:=fun hm=>by
  rcases s4.own w hm with h1 | h1
  ·exact n3 h1
  ·omega
 obtain ⟨X5,q5,e5,w5,s5⟩:=Zj1 (n:=n+7) (s:=u.ml) (by omega) (by rw [List.length_append,List.length_append];omega) w4
 have e5 : R (n+10) Jr [pt p,strv u.ml] X4=_:=e5
 have c5:=s5.get c4 n4
 have hwl4:=Z5 c4
 have n5 : w∉p :: q5:=fun hm=>by
  rcases s5.own w hm with h1 | h1
  ·exact n4 h1
  ·omega
 obtain ⟨X6,q6,e6,w6,s6⟩:=Zwd (n:=n+7) (b:=u.ds) (by rw [List.length_append,List.length_append,List.length_append];omega) w5
 have e6 : R (n+10) KU [pt p,.bool u.ds] X5=_:=e6
 have c6:=s6.get c5 n5
 have a2:=hr2.lt
 have r3:=hr2.step s3 hd
 have f3:=ZbX s3 a2 hd
 have r4:=r3.step s4 f3
 have f4:=ZbX s4 r3.lt f3
 have r5:=r4.step s5 f4
 have f5:=ZbX s5 r4.lt f4
 have r6:=r5.step s6 f5
 have f6:=ZbX s6 r5.lt f5
 obtain ⟨X7,q7,e7,w7,s7⟩:=Zvn (n:=n+6) hgl (by omega) r6 f6 (by rw [List.length_append,List.length_append,List.length_append,List.length_append,Ze8];omega) w6
 have e7 : R (n+10) Y8 [pt p,u.gv] X6=_:=e7
 have q2 : bop .int .eql (iv 2) (.int .i64 2) X4=some (.bool true,X4):=by rw [ZA];rfl
 have a : ∀ {Y : Zd},Y[w]?=some (.cells u.cells 1 false false)→∀ f x,u.cells[f]?=some x→ld1 (pa w f) Y=some (x,Y):=fun hY f x h=>ZN hY h
 refine ⟨X7,q7,?_,by rw [ZuN];simpa [List.append_assoc] using w7,(k12.stepq).trans ((((s3.trans s4).trans s5).trans s6).trans s7)⟩
 rw [R,Zr7 rfl]
 unfold Zjl
 rw [Za e1,Za d1,Za e2,Za q1,Zb,if_neg (by simp),Za Zi,Za (a c2 0 _ rfl),Za Zi,Za (a c2 1 _ rfl),Za e3,Za (a c3 1 _ rfl),Qn,Za e4,Za q2]
 refine (Qf (vs:=[]) (H':=X7) ?_).trans ?_
 ·rw [Zb,if_pos rfl,Za Zi,Za (a c4 2 _ rfl),Za Zi,Za (a c4 3 _ rfl),Za Zi,Za (a c4 4 _ rfl),Za e5,Za (a c5 4 _ rfl),Qn,Za (a c5 3 _ rfl),Qn,Za e6,Za (a c6 4 _ rfl),Qn,Za e7]
  rfl
 ·rfl
theorem ZsP (hn : us.length≤100) (hE : ∀ u∈us,QT u=0) : ∀ (t k : Nat) (bs : List UInt8) (own : List Nat) (X : Zd),us.length - k=t→k≤us.length→Qu 5 X v (us.map Zp.cells) q→(∀ j∈q,j∉p :: own)→(∀ u∈us,∃ qu,Zs X u.gv (u.gs.map strv) qu∧∀ j∈qu,j∉p :: own)→bs.length+t * 137≤100000→Wtr X p bs own→
  ∃ X' own',Zj (c4 (KX.l1 (R (n+11)))) [pt p,v,iv us.length,iv k] X=some (.ext 0 [pt p],X')∧Wtr X' p (bs++YH ((us.drop k).map ZW)) own'∧Zw (p :: own) X (p :: own') X'
 | 0,k,bs,own,X,ht,hk,hr,hd,hu,hb,h=>by
  rw [List.drop_eq_nil_of_le (by omega)]
  refine ⟨X,own,ZD ?_,by simpa [YH] using h,.refl _ _⟩
  rw [ZC,show k=us.length by omega]
  unfold KX.l1
  rw [Za Zg,Zb,if_neg (by simp)]
  rfl
 | t+1,k,bs,own,X,ht,hk,hr,hd,hu,hb,h=>by
  have hkl : k < us.length:=by omega
  have hlt : (k : Int) < us.length:=by omega
  have hg:=List.getElem?_eq_getElem hkl
  have hdr:=List.drop_eq_getElem_cons hkl
  generalize us[k]=u at hg hdr
  have hum:=List.mem_of_getElem? hg
  have he:=hE u hum
  obtain ⟨qu,u1,u2⟩:=hu u hum
  have hf:=fun {K : Value→M Out}=>ZcM (k:=K) hr.rd u1.one.1 hg
  have k1 : HLe X (X++[Zc.cells u.cells 1 false false]):=.app _ _
  have c1 : (X++[Zc.cells u.cells 1 false false])[X.length]?=some (.cells u.cells 1 false false):=Zm
  generalize X++[Zc.cells u.cells 1 false false]=X1 at k1 c1 hf
  have d1 : ldA 5 (pt X.length) X1=some (.agg u.cells.toArray,X1):=ZE (n:=5) c1 rfl
  obtain ⟨X2,own2,e2,w2,s2⟩:=Zx0 (n:=n) he (u1.step k1.step (by simp)) u2 (by omega) (h.hle k1)
  have hgk : Ze7 (ZW u):=ZmG (by rw [← Int.toNat_natCast (K6 (ZW u)),← Zfc,he];rfl)
  have hel:=Zlj hgk
  have s12:=(k1.stepq (q:=p :: own)).trans s2
  have hu2 : ∀ u∈us,∃ qu,Zs X2 u.gv (u.gs.map strv) qu∧∀ j∈qu,j∉p :: own2:=fun w hw=>by
   obtain ⟨qw,w1,w2⟩:=hu w hw
   exact ⟨qw,w1.step s12 w2,ZbX s12 w1.lt w2⟩
  obtain ⟨X3,own3,e3,w3,s3⟩:=ZsP hn hE t (k+1) (bs++Zcw (ZW u)) own2 X2 (by omega) (by omega) (hr.step s12 hd) (ZbX s12 hr.lt hd) hu2 (by rw [List.length_append];omega) w2
  refine ⟨X3,own3,(Zr ?_).trans e3,?_,s12.trans s3⟩
  ·rw [ZC]
   unfold KX.l1
   rw [Za Zg,Zb,if_pos (by simpa using hlt),hf,Za d1,Za e2,Za Zt,Qh (by omega)]
   rfl
  ·rw [hdr]
   unfold YH at w3 ⊢
   rw [List.map_cons,List.map_cons,List.flatten_cons,← List.append_assoc]
   exact w3
theorem Zq5 (hd : ND X d r s c) : ∃ v q H',R (n+12) ZbA [pt d] X=some (v,H')∧Zs H' v (u8s (Zb6 (Qs s.K) (A.allK s))) q∧HLe X H'∧∀ j∈q,X.length≤j:=by
 have hgood:=Zze hd
 obtain ⟨g1,g2,g3,g4,_,_⟩:=Zxf hgood
 have q0 : bop .ptr .eql (pt d) (.pointer none) X=some (.bool false,X):=JA
 obtain ⟨z1,z2,w0⟩:=ZxG (H:=X)
 have k0 : HLe X (X++[Zc.cells [.slice none 0 0] 1 false false]):=.app _ _
 generalize X++[Zc.cells [.slice none 0 0] 1 false false]=X0 at z2 w0 k0
 generalize hpp : X.length=p at z2 w0
 have hp : ∀ j∈[p],X.length≤j:=fun j hj=>by have : j=p:=(by simpa using hj);omega
 obtain ⟨X1,q1,e1,w1,s1⟩:=ZsO (n:=n+9) (x:=2) (by omega) (by simp) w0
 have e1 : R (n+11) JP [pt p,.int .u8 2] X0=_:=e1
 have m1:=k0.more s1 hp
 rw [List.nil_append] at w1
 obtain ⟨vg,qg,X2,e2,r2,l2,o2⟩:=ZuZ (n:=n+7) (hd.hle m1.1)
 have e2 : R (n+11) Wv [pt d] X1=_:=e2
 have w2:=w1.hle l2
 have m12:=m1.1.trans l2
 have dg : ∀ j∈qg,j∉p :: q1:=fun j hj hm=>by have:=o2 j hj;have:=w1.lt j hm;omega
 obtain ⟨X3,q3,e3,w3,s3⟩:=Zvn (n:=n+7) (l:=Qs s.K) (fun x hx=>by have:=g4 x hx;omega) (by omega) r2 dg (by rw [KS];omega) w2
 have e3 : R (n+11) Y8 [pt p,vg] X2=_:=e3
 have m3:=m12.more s3 m1.2
 have e4 : R (n+11) ZaW [pt d] X3=some (iv s.A.length,X3):=ZyK (n:=n+10) (hd.hle m3.1)
 have hfew:=hd.inv.few
 have c4 : cvi .u16 (iv s.A.length) X3=some (.int .u16 s.A.length,X3):=by rw [Qi,ZtN,Int.emod_eq_of_lt (by omega) (by omega)]
 have hlr:=Zfn (b:=12) g4
 have hlr2 : (Qs s.K).length * (12+2)≤6 * (12+2):=Nat.mul_le_mul_right _ g3
 obtain ⟨X4,q4,e5,w4,s4⟩:=Zqv (n:=n+9) (x:=s.A.length) (by omega) (by rw [List.length_append,KS];omega) w3
 have e5 : R (n+11) Yw [pt p,.int .u16 s.A.length] X3=_:=e5
 have m4:=m3.1.more s4 m3.2
 obtain ⟨va,qa,us,X5,e6,o6,u6,l6⟩:=ZyR (n:=n+3) (hd.hle m4.1)
 have e6 : R (n+11) ZaR [pt d] X4=_:=e6
 have w5:=w4.hle l6
 have hlen : us.length=s.A.length:=by
  have h1:=congrArg List.length u6
  unfold A.allK at h1
  rw [List.length_map,List.length_map,ZcL] at h1
  simpa using h1
 have hla : ZH va X5=some (iv us.length,X5):=by have:=o6.r.rd.len (H':=X5);rwa [List.length_map] at this
 have hE : ∀ u∈us,QT u=0:=fun u hu=>by
  have:=g1 (ZW u) (by rw [← u6];exact List.mem_map.2 ⟨u,hu,rfl⟩)
  rw [Zfc,this];rfl
 have da : ∀ j,X4.length≤j→j∉p :: q4:=fun j hj hm=>by have:=w4.lt j hm;omega
 obtain ⟨X6,q6,e7,w6,s6⟩:=ZsP (n:=n) (p:=p) (us:=us) (by omega) hE us.length 0 _ q4 X5 (by omega) (by omega) o6.r (fun j hj=>da j (o6.o j hj)) (fun u hu=>by
  obtain ⟨qu,a1,a2,_⟩:=o6.u u hu
  exact ⟨qu,a1,fun j hj=>da j (a2 j hj).1⟩) (by rw [List.length_append,List.length_append,KS,KS];omega) w5
 rw [show iv ((0 : Nat) : Int)=.int .i64 0 from rfl] at e7
 rw [List.drop_zero,u6] at w6
 have m6:=(m4.1.trans l6).more s6 m4.2
 have heq : le 2 1++Zbx (Qs s.K)++le s.A.length 2++YH (A.allK s)=Zb6 (Qs s.K) (A.allK s):=by
  unfold Zb6
  have : (A.allK s).length=s.A.length:=by rw [← u6,List.length_map,hlen]
  rw [this]
  simp [List.append_assoc]
 rw [heq] at w6
 have hel:=Zre (fun k hk=>ZmG (g1 k hk)) g2 g3 g4
 obtain ⟨v,qv,X7,e8,r7,l7,o7⟩:=ZwA (n:=n+9) (by omega) w6
 have e8 : R (n+11) KV [pt p] X6=_:=e8
 refine ⟨v,qv,X7,?_,r7,m6.1.trans l7,fun j hj=>by have h1:=o7 j hj;have h2:=m6.1.len;omega⟩
 rw [R,Zon rfl]
 unfold KX
 rw [Za q0,Zb,if_neg (by simp),Za z1,Za z2,Za e1,Za e2,Za e3,Za e4,Za c4,Za e5,Za e6,Za hla,ZO e7,Zu,Jy,Za e8]
 rfl
end
end Go.Proofs.YtedkoimihknggaaGreatDoor.A

namespace Go.Proofs.YtedkoimihknggaaGreatDoor.A
set_option linter.unusedVariables false
set_option maxRecDepth 100000
set_option linter.unusedSimpArgs false
open Go.Proofs Go.Proofs.YtedkoimihknggaaGreatDoor
section
variable {H X X' : Zd} {n p : Nat} {s : RSt} {sl v : Value} {q : List Nat} {l : List Tx}
theorem ZwG (h : Rdr H p s) : ∃ H',R (n+5) KT [pt p] H=some (.bool (KQ s).1,H')∧Rdr H' p (KQ s).2∧Zw [p] H [p] H':=by
 obtain ⟨H1,e1,r1,s1⟩:=ZqB (n:=n) h
 have q1 : bop .int .gtr (.int .u8 (Z0 1 s).1) (.int .u8 1) H1=some (.bool (decide (1 < (Z0 1 s).1)),H1):=by
  rw [ZF,show (decide (((Z0 1 s).1 : Int) > 1))=decide (1 < (Z0 1 s).1) from decide_eq_decide.2 (by omega)]
 have q2 : ∀ Y : Zd,bop .int .eql (.int .u8 (Z0 1 s).1) (.int .u8 1) Y=some (.bool ((Z0 1 s).1==1),Y):=fun Y=>by
  rw [ZA,show (((Z0 1 s).1 : Int)==1)=((Z0 1 s).1==1) from by rw [Bool.eq_iff_iff];simp;omega]
 unfold KQ
 by_cases hc : 1 < (Z0 1 s).1
 ·obtain ⟨H2,e2,r2,s2⟩:=ZfE (n:=n+3) (e:=4) (by omega) r1
  have e2 : R (n+4) ZR [pt p,.int .i64 4] H1=_:=e2
  rw [if_pos hc]
  refine ⟨H2,?_,r2,s1.trans s2⟩
  rw [R,Zdg rfl]
  unfold WY
  rw [Za e1,Za q1]
  refine (Qf (vs:=[.int .u8 (Z0 1 s).1]) (H':=H2) ?_).trans ?_
  ·rw [decide_eq_true hc,Zb,if_pos rfl,Za e2];rfl
  ·rw [Jy,Za (q2 _)];rfl
 ·rw [if_neg hc]
  refine ⟨H1,?_,r1,s1⟩
  rw [R,Zdg rfl]
  unfold WY
  rw [Za e1,Za q1]
  refine (Qf (vs:=[.int .u8 (Z0 1 s).1]) (H':=H1) ?_).trans ?_
  ·rw [decide_eq_false hc,Zb,if_neg (by simp)];rfl
  ·rw [Jy,Za (q2 _)];rfl
theorem ZmQ {long : Nat} : ∀ {k : Nat} {s : RSt},(QU long k s).1.length=k
 | 0,s=>rfl
 | k+1,s=>by unfold QU;rw [List.length_cons,ZmQ]
theorem Zte {N long : Nat} (hN : N≤100000) (hl : long≤1000000) : ∀ (t j : Nat) (s : RSt) (sl : Value) (q : List Nat) (acc : List Tx) (X : Zd),N - j=t→j≤N→acc.length≤j→Zs X sl (acc.map strv) q→(∀ i∈q,p < i)→Rdr X p s→
  ∃ X' sl' q',Zj (c5 (J3.l1 (R (n+6)))) [pt p,iv long,sl,iv N,iv j] X=some (.ext 0 [pt p,sl'],X')∧Zs X' sl' ((acc++(QU long t s).1).map strv) q'∧Rdr X' p (QU long t s).2∧(∀ i∈q',p < i)∧Zw (p :: q) X (p :: q') X'
 | 0,j,s,sl,q,acc,X,ht,hj,ha,hr,hq,h=>by
  refine ⟨X,sl,q,ZD ?_,by simpa [QU] using hr,h,hq,.refl _ _⟩
  rw [ZU,show j=N by omega]
  unfold J3.l1
  rw [Za Zg,Zb,if_neg (by simp)]
  rfl
 | t+1,j,s,sl,q,acc,X,ht,hj,ha,hr,hq,h=>by
  have hlt : (j : Int) < N:=by omega
  obtain ⟨X1,e1,r1,s1⟩:=ZgM (n:=n) hl h
  have hr1:=hr.step s1 (fun i hi hm=>by have:=hq i hi;simp only [List.mem_singleton] at hm;omega)
  have x4:=ZqF (es:=1) (z:=.string ⟨#[]⟩) (v:=strv (ZV long s).1) (H:=X1) rfl rfl rfl
  have k2 : HLe X1 (X1++[Zc.cells [strv (ZV long s).1] 1 false false]):=.app _ _
  have s2 : Sl (X1++[Zc.cells [strv (ZV long s).1] 1 false false]) (.slice (some ⟨X1.length,0,none⟩) 1 1) [strv (ZV long s).1]:=Sl.one (c:=1) Zm
  generalize X1++[Zc.cells [strv (ZV long s).1] 1 false false]=X2 at x4 k2 s2
  have hr2:=hr1.step k2.step (by simp)
  obtain ⟨sl',X3,q',x5,hr3,s3,_⟩:=hr2.push (b:=16) s2 (by simp;omega) (by simp;omega)
  have hr3' : Zs X3 sl' ((acc++[(ZV long s).1]).map strv) q':=by rw [List.map_append];exact hr3
  have hp1:=r1.lt
  have hp2:=(r1.hle k2).lt
  have hq3 : ∀ i∈q',p < i:=fun i hi=>by
   rcases s3.own i hi with h1 | h1
   ·exact hq i h1
   ·omega
  have r3:=(r1.hle k2).step s3 hq
  obtain ⟨X4,sl4,q4,e4,r4,d4,o4,st4⟩:=Zte hN hl t (j+1) (ZV long s).2 sl' q' (acc++[(ZV long s).1]) X3 (by omega) (by omega) (by rw [List.length_append,List.length_singleton];omega) hr3' hq3 r3
  refine ⟨X4,sl4,q4,(Zr ?_).trans e4,by unfold QU;simpa using r4,d4,o4,?_⟩
  ·rw [ZU]
   unfold J3.l1
   rw [Za Zg,Zb,if_pos (by simpa using hlt),Za e1,Za x4,Za x5,Za Zt,Qh (by omega)]
   rfl
  ·refine Zw.trans ?_ st4
   have a1 : Zw (p :: q) X (p :: q) X1:=s1.more (by simp) (fun i hi=>.inl hi)
   have a2 : Zw (p :: q) X1 (p :: q) X2:=k2.stepq
   have a3 : Zw (p :: q) X2 (p :: q') X3:=s3.more (fun i hi=>List.mem_cons_of_mem _ hi) (fun i hi=>by
    rcases List.mem_cons.1 hi with rfl | hi
    ·exact .inl (by simp)
    ·exact .inr (.inl hi))
   exact (a1.trans a2).trans a3
theorem Zvk {most long : Nat} (hm : most≤1000000) (hl : long≤1000000) (h : Rdr H p s) : ∃ v q H',R (n+7) Y7 [pt p,iv most,iv long] H=some (v,H')∧Zs H' v ((KM most long s).1.map strv) q∧Rdr H' p (KM most long s).2∧(∀ j∈q,H.length≤j)∧Zw [p] H [p] H':=by
 obtain ⟨H1,e1,r1,s1⟩:=ZqY (n:=n+1) hm h
 have e1 : R (n+6) Yy [pt p,iv most] H=_:=e1
 have hc:=Zi6 (s:=s) (most:=most)
 obtain ⟨H2,sl,q,e2,r2,d2,o2,s2⟩:=Zte (n:=n) (p:=p) (N:=(Qy most s).1) (by omega) hl (Qy most s).1 0 (Qy most s).2 (.slice none 0 0) [] [] H1 (by omega) (by omega) (by simp) Zs.nil (by simp) r1
 rw [show iv ((0 : Nat) : Int)=.int .i64 0 from rfl] at e2
 rw [List.nil_append] at r2
 have hfresh : ∀ j∈q,H.length≤j:=fun j hj=>by
  rcases s2.own j (by simp [hj]) with h1 | h1
  ·simp only [List.mem_singleton] at h1
   have:=o2 j hj;omega
  ·exact Nat.le_trans s1.len h1
 have hst : Zw [p] H [p] H2:=⟨Nat.le_trans s1.len s2.len,fun j hj hn=>by
  have h1:=s1.keep j hj hn
  have h2 : j < H1.length:=Nat.lt_of_lt_of_le hj s1.len
  rw [s2.keep j h2 hn,h1],fun j hj=>.inl hj⟩
 have hcell : ∃ sv,H2[p]?=some (.cells [sv,iv (QU long (Qy most s).1 (Qy most s).2).2.1] 1 false false):=by
  obtain ⟨sv,hcc,_⟩:=d2
  exact ⟨sv,hcc⟩
 obtain ⟨sv,hcc⟩:=hcell
 have a1 : ld1 (pa p 1) H2=some (iv (QU long (Qy most s).1 (Qy most s).2).2.1,H2):=ZN hcc rfl
 have q1 : bop .int .neq (iv (QU long (Qy most s).1 (Qy most s).2).2.1) (.int .i64 0) H2=some (.bool ((QU long (Qy most s).1 (Qy most s).2).2.1 !=0),H2):=by rw [Zq,YX]
 unfold KM
 by_cases h0 : (QU long (Qy most s).1 (Qy most s).2).2.1=0
 ·rw [if_pos h0]
  refine ⟨sl,q,H2,?_,r2,d2,hfresh,hst⟩
  rw [R,Zd8 rfl]
  unfold J3
  rw [Za e1,ZO e2,Zu,ZP,Za Zv,Za Zi,Za a1,Za q1,Zb,if_neg (by simp [h0])]
  rfl
 ·rw [if_neg h0]
  refine ⟨.slice none 0 0,[],H2,?_,Zs.nil,d2,by simp,hst⟩
  rw [R,Zd8 rfl]
  unfold J3
  rw [Za e1,ZO e2,Zu,ZP,Za Zv,Za Zi,Za a1,Za q1,Zb,if_pos (by simp [h0])]
  rfl
theorem Zhl {most long : Nat} : (KM most long s).1.length≤65535:=by
 unfold KM
 have:=Zi6 (s:=s) (most:=most)
 simp only []
 split
 ·rw [ZmQ];omega
 ·simp
theorem Zxq (h : Rdr H p s) : ∃ u q H',R (n+11) WU [pt p,iv 2] H=some (.agg (Zp.cells u).toArray,H')∧ZW u=(Zcv s).1∧Zs H' u.gv (u.gs.map strv) q∧(∀ j∈q,H.length≤j)∧u.gs.length≤65535∧Rdr H' p (Zcv s).2∧Zw [p] H [p] H':=by
 have z0 : alc 1 zU H=some (pt H.length,H++[.cells (usr ([],[])) 1 false false]):=Zcq (vs:=usr ([],[])) rfl
 have k0 : HLe H (H++[.cells (usr ([],[])) 1 false false]):=.app _ _
 have c0 : (H++[Zc.cells (usr ([],[])) 1 false false])[H.length]?=some (.cells (usr ([],[])) 1 false false):=Zm
 have hlt:=h.lt
 have hn0 : H.length≠p:=by omega
 generalize H++[Zc.cells (usr ([],[])) 1 false false]=X0 at z0 k0 c0
 have hlt4 : p < H.length:=hlt
 generalize hal : H.length=a at z0 c0 hn0 hlt4
 have q1 : bop .int .neq (iv 2) (.int .i64 1) X0=some (.bool true,X0):=by rw [Zq];rfl
 have q1' : bop .int .neq (iv 2) (.int .i64 2) X0=some (.bool false,X0):=by rw [Zq];rfl
 obtain ⟨X1,e1,r1,s1⟩:=ZgM (n:=n+4) (most:=65535) (by omega) (h.hle k0)
 have e1 : R (n+10) QQ [pt p,.int .i64 65535] X0=_:=e1
 obtain ⟨X2,e2,r2,s2⟩:=ZgM (n:=n+4) (most:=65535) (by omega) r1
 have e2 : R (n+10) QQ [pt p,.int .i64 65535] X1=_:=e2
 have c2:=(s1.trans s2).get c0 (by simpa using hn0)
 unfold Zcv Zho
 simp only
 generalize ZV 65535 s=T1 at e1 r1 e2 r2 ⊢
 obtain ⟨nm,t1⟩:=T1
 simp only at e1 r1 e2 r2 ⊢
 generalize ZV 65535 t1=T2 at e2 r2 ⊢
 obtain ⟨hs,t2⟩:=T2
 simp only at e2 r2 ⊢
 have z3:=Zgz (k:=nm) (s:=hs) (H:=X2)
 have z4 : ∀ {β : Type} (K : Value→M β),bind (alc 1 zU) (fun q=>bind (stA 5 q (.agg (usr (nm,hs)).toArray)) fun _=>K q) X2=K (pt X2.length) (X2++[.cells (usr (nm,hs)) 1 false false]):=fun K=>ZbW (n:=5) (zs:=[.string ⟨#[]⟩,.string ⟨#[]⟩,.string ⟨#[]⟩,.bool false,.slice none 0 0]) (r:=usr (nm,hs)) rfl rfl rfl rfl
 have k3 : HLe X2 (X2++[.cells (usr (nm,hs)) 1 false false]):=.app _ _
 have c3 : (X2++[Zc.cells (usr (nm,hs)) 1 false false])[X2.length]?=some (.cells (usr (nm,hs)) 1 false false):=Zm
 have hn3 : X2.length≠p:=by have:=r2.lt;omega
 have hac : a < X2.length:=Z5 c2
 have hpc : p < X2.length:=r2.lt
 generalize X2++[Zc.cells (usr (nm,hs)) 1 false false]=X3 at z4 k3 c3
 generalize X2.length=c at z4 c3 hn3 hac hpc
 have r3:=r2.hle k3
 have c03:=k3 _ _ c2
 have q2 : bop .int .eql (iv 2) (.int .i64 2) X3=some (.bool true,X3):=by rw [ZA];rfl
 have s03 : Zw [p] H [p] X3:=(k0.stepq.trans (s1.trans s2)).trans k3.stepq
 obtain ⟨X4,e4,r4,s4⟩:=ZgM (n:=n+4) (most:=65535) (by omega) r3
 have e4 : R (n+10) QQ [pt p,.int .i64 65535] X3=_:=e4
 generalize ZV 65535 t2=T3 at e4 r4 ⊢
 obtain ⟨ml,t3⟩:=T3
 simp only at e4 r4 ⊢
 obtain ⟨X5,e5,r5,s5⟩:=ZwG (n:=n+5) r4
 have e5 : R (n+10) KT [pt p] X4=_:=e5
 generalize KQ t3=T4 at e5 r5 ⊢
 obtain ⟨ds,t4⟩:=T4
 simp only at e5 r5 ⊢
 obtain ⟨gv,q,X6,e6,g6,r6,o6,s6⟩:=Zvk (n:=n+3) (most:=65535) (long:=65535) (by omega) (by omega) r5
 have e6 : R (n+10) Y7 [pt p,.int .i64 65535,.int .i64 65535] X5=_:=e6
 have hgl:=Zhl (most:=65535) (long:=65535) (s:=t4)
 generalize KM 65535 65535 t4=T5 at e6 g6 r6 hgl ⊢
 obtain ⟨gs,t5⟩:=T5
 simp only at e6 g6 r6 hgl ⊢
 have s46 : Zw [p] X3 [p] X6:=(s4.trans s5).trans s6
 have c36:=s46.get c3 (by simpa using hn3)
 have c06:=s46.get c03 (by simpa using hn0)
 have hq6 : ∀ j∈q,c < j:=fun j hj=>by
  have h1:=o6 j hj
  have h2:=Z5 ((s4.trans s5).get c3 (by simpa using hn3))
  omega
 have w1 : st1 (pa c 2) (strv ml) X6=some (undef,X6.set c (.cells [strv nm,strv hs,strv ml,.bool false,.slice none 0 0] 1 false false)):=W8 (o:=2) c36 (by simp [usr]) rfl
 have w2 : st1 (pa c 3) (.bool ds) (X6.set c (.cells [strv nm,strv hs,strv ml,.bool false,.slice none 0 0] 1 false false))=some (undef,(X6.set c (.cells [strv nm,strv hs,strv ml,.bool false,.slice none 0 0] 1 false false)).set c (.cells [strv nm,strv hs,strv ml,.bool ds,.slice none 0 0] 1 false false)):=W8 (o:=3) (ZI c36) (by simp) rfl
 rw [List.set_set] at w2
 have w3 : st1 (pa c 4) gv (X6.set c (.cells [strv nm,strv hs,strv ml,.bool ds,.slice none 0 0] 1 false false))=some (undef,(X6.set c (.cells [strv nm,strv hs,strv ml,.bool ds,.slice none 0 0] 1 false false)).set c (.cells [strv nm,strv hs,strv ml,.bool ds,gv] 1 false false)):=W8 (o:=4) (ZI c36) (by simp) g6.one.1
 rw [List.set_set] at w3
 let u : Zp:=⟨nm,hs,ml,ds,gv,gs⟩
 have c37 : (X6.set c (.cells u.cells 1 false false))[c]?=some (.cells u.cells 1 false false):=ZI c36
 have c07 : (X6.set c (.cells u.cells 1 false false))[a]?=some (.cells (usr ([],[])) 1 false false):=(List.getElem?_set_ne (by omega)).trans c06
 have r7 : Rdr (X6.set c (.cells u.cells 1 false false)) p t5:=r6.other hpc
 have g7 : Zs (X6.set c (.cells u.cells 1 false false)) gv (gs.map strv) q:=g6.keep fun j hj=>List.getElem?_set_ne (by have:=hq6 j hj;omega)
 have s07 : Zw [p] H [p] (X6.set c (.cells u.cells 1 false false)):=by
  have h1:=s03.trans s46
  refine ⟨by rw [List.length_set];exact h1.len,fun j hj hm=>?_,fun j hj=>.inl hj⟩
  rw [List.getElem?_set_ne (by omega),h1.keep j hj hm]
 have w3 : st1 (pa c 4) gv (X6.set c (.cells [strv nm,strv hs,strv ml,.bool ds,.slice none 0 0] 1 false false))=some (undef,X6.set c (.cells u.cells 1 false false)):=w3
 generalize X6.set c (.cells u.cells 1 false false)=X7 at w3 c37 c07 r7 g7 s07
 have hoku : UOK X7 u:=⟨g7.rd,g7.one.1,by show gs.length≤1000000;omega⟩
 have f1 : ∀ v H',ZcP (R (n+10)) (pt p) (iv 2) H=some (v,H')→R (n+11) WU [pt p,iv 2] H=some (v,H'):=fun v H' hr=>by rw [R,Zgo rfl];exact hr
 have e8:=Zf4 (n:=n+9) r7
 have e8 : R (n+10) Z4 [pt p] X7=some (iv t5.1,X7):=e8
 have hck : ((nm,hs,ml,ds,gs) : YS)=ZW u:=rfl
 rw [hck]
 have hC : ∃ X8,(cnd (Value.bool (t5.1==0)) (bind (ldA 5 (pt c)) fun v36=>bind (R (n+10) Ye [iv 2,v36]) fun v37=>bind (R (n+10) ZR [pt p,v37]) fun v38=>ret (Out.nrm [pt p,pt a,pt c])) (ret (Out.nrm [pt p,pt a,pt c]))) X7=some (Out.nrm [pt p,pt a,pt c],X8)∧Rdr X8 p (Z3 (K6 (ZW u)) t5)∧Zw [p] X7 [p] X8:=by
  by_cases h0 : t5.1=0
  ·have d3 : ldA 5 (pt c) X7=some (.agg u.cells.toArray,X7):=ZE (n:=5) c37 rfl
   obtain ⟨X8,e9,k9⟩:=Zfq (n:=n) hoku
   rw [Zfc] at e9
   obtain ⟨X9,e10,r10,s10⟩:=ZfE (n:=n+9) (e:=K6 (ZW u)) (by have:=ZsU (k:=ZW u);omega) (r7.hle k9)
   have e10 : R (n+10) ZR [pt p,iv (K6 (ZW u))] X8=_:=e10
   refine ⟨X9,?_,r10,k9.stepq.trans s10⟩
   rw [Zb,if_pos (by simp [h0]),Za d3,Za e9,Za e10]
   rfl
  ·have hfs : Z3 (K6 (ZW u)) t5=t5:=by unfold Z3;rw [if_neg (fun h=>h0 h.1)]
   rw [hfs]
   refine ⟨X7,?_,r7,.refl _ _⟩
   rw [Zb,if_neg (by simp [h0])]
   rfl
 obtain ⟨X8,e9,r9,s9⟩:=hC
 have e10:=Zf4 (n:=n+9) r9
 have e10 : R (n+10) Z4 [pt p] X8=_:=e10
 have c38:=s9.get c37 (by simpa using hn3)
 have c08:=s9.get c07 (by simpa using hn0)
 have g8:=g7.step s9 (fun j hj hm=>by have:=hq6 j hj;simp only [List.mem_singleton] at hm;omega)
 have s08:=s07.trans s9
 have d4 : ldA 5 (pt c) X8=some (.agg u.cells.toArray,X8):=ZE (n:=5) c38 rfl
 have q3 : bop .int .eql (iv t5.1) (.int .i64 0) X7=some (.bool (t5.1==0),X7):=by rw [ZA,Wb]
 generalize Z3 (K6 (ZW u)) t5=r' at r9 e10 ⊢
 have q4 : bop .int .neq (iv r'.1) (.int .i64 0) X8=some (.bool (r'.1 !=0),X8):=by rw [Zq,YX]
 have hfin : ∀ (w : Zp),oneCell w.gv=true→(stA 5 (pt a) (.agg w.cells.toArray) X8=some (undef,X8.set a (.cells w.cells 1 false false))∧ldA 5 (pt a) (X8.set a (.cells w.cells 1 false false))=some (.agg w.cells.toArray,X8.set a (.cells w.cells 1 false false))∧Zw [p] H [p] (X8.set a (.cells w.cells 1 false false))∧Rdr (X8.set a (.cells w.cells 1 false false)) p r'):=fun w hw=>
  ⟨Ja (vs:=w.cells) (n:=5) c08 rfl rfl (ZoQ hw),ZE (n:=5) (ZI c08) rfl,⟨by rw [List.length_set];exact s08.len,fun j hj hm=>by rw [List.getElem?_set_ne (by omega),s08.keep j hj hm],fun j hj=>.inl hj⟩,r9.other (by omega)⟩
 have hpre : ∀ o,(cnd (Value.bool (r'.1 !=0)) (bind (bld zU []) fun v42=>bind (stA 5 (pt a) v42) fun _=>bind (ldA 5 (pt a)) fun vr=>ret vr) (bind (ldA 5 (pt c)) fun v43=>bind (stA 5 (pt a) v43) fun _=>bind (ldA 5 (pt a)) fun vr=>ret vr)) X8=o→R (n+11) WU [pt p,iv 2] H=o:=fun o ho=>by
  rw [R,Zgo rfl]
  unfold ZcP
  rw [Za z0,Za q1,ZK,Zf,Za q1',ZQ,ZP,Za Zh]
  simp only [cond_true]
  rw [Zb,if_neg (by simp),Za e1,Za e2,Za z3,z4,Za q2]
  refine (Qf (vs:=[pt p,iv 2,pt a,pt c]) (H':=X7) ?_).trans ?_
  ·rw [Zb,if_pos rfl,Za e4,Za e5,Za e6,Za Zi,Za w1,Za Zi,Za w2,Za Zi,Za w3];rfl
  ·rw [ZC,Za e8,Za q3]
   refine (Qf e9).trans ?_
   rw [ZX,Za e10,Za q4]
   exact ho
 by_cases h0 : r'.1=0
 ·rw [if_pos h0]
  obtain ⟨f1',f2,f3,f4⟩:=hfin u g6.one.1
  refine ⟨u,q,_,hpre _ ?_,rfl,g8.keep fun j hj=>List.getElem?_set_ne (by have:=hq6 j hj;omega),fun j hj=>by have:=hq6 j hj;omega,hgl,f4,f3⟩
  rw [Zb,if_neg (by simp [h0]),Za d4,Za f1',Za f2]
  rfl
 ·rw [if_neg h0]
  obtain ⟨f1',f2,f3,f4⟩:=hfin Zw1 rfl
  refine ⟨Zw1,[],_,hpre _ ?_,rfl,Zs.nil,by simp,by decide,f4,f3⟩
  have zb : bld zU [] X8=some (.agg Zw1.cells.toArray,X8):=rfl
  rw [Zb,if_pos (by simp [h0]),Za zb,Za f1',Za f2]
  rfl
end
end Go.Proofs.YtedkoimihknggaaGreatDoor.A

namespace Go.Proofs.YtedkoimihknggaaGreatDoor.A
set_option linter.unusedVariables false
set_option maxRecDepth 100000
set_option linter.unusedSimpArgs false
open Go.Proofs Go.Proofs.YtedkoimihknggaaGreatDoor
theorem K0.step {X0 X X' : Zd} {sl : Value} {us : List Zp} {q o1 o2 : List Nat} (h : K0 X0 X sl us q) (hs : Zw o1 X o2 X') (hd : ∀ j,X0.length≤j→j∉o1) : K0 X0 X' sl us q:=
 ⟨h.r.step hs fun j hj=>hd j (h.o j hj),h.o,fun w hw=>by
  obtain ⟨qu,h1,h2,h3⟩:=h.u w hw
  exact ⟨qu,h1.step hs fun j hj=>hd j (h2 j hj).1,h2,h3⟩,h.un⟩
section
variable {H X X' X0 : Zd} {n p : Nat} {s : RSt} {sl v vg bv : Value} {q qg : List Nat} {l gl : List Tx} {bs : List UInt8}
theorem ZqU {N : Nat} (hN : N≤12) (hp : p < X0.length) (hqg : ∀ j∈qg,j≠p∧j < X0.length) : ∀ (t j : Nat) (s : RSt) (sl : Value) (q : List Nat) (acc : List Zp) (X : Zd),N - j=t→j≤N→acc.length≤j→X0.length≤X.length→K0 X0 X sl acc q→Zs X vg (gl.map strv) qg→Rdr X p s→
  ∃ X' sl' q' us,Zj (c5 (Kk.l1 (R (n+12)))) [pt p,vg,sl,iv N,iv j] X=some (.ext 0 [pt p,vg,sl'],X')∧K0 X0 X' sl' (acc++us) q'∧us.map ZW=(Wg t s).1∧Zs X' vg (gl.map strv) qg∧Rdr X' p (Wg t s).2∧Zw (p :: q) X (p :: q') X'
 | 0,j,s,sl,q,acc,X,ht,hj,ha,hX,ho,hg,h=>by
  refine ⟨X,sl,q,[],ZD ?_,by rw [List.append_nil];exact ho,rfl,hg,h,.refl _ _⟩
  rw [ZU,show j=N by omega]
  unfold Kk.l1
  rw [Za Zg,Zb,if_neg (by simp)]
  rfl
 | t+1,j,s,sl,q,acc,X,ht,hj,ha,hX,ho,hg,h=>by
  have hlt : (j : Int) < N:=by omega
  obtain ⟨u,qu,X1,e1,k1,r1,o1,gl1,d1,s1⟩:=Zxq (n:=n+1) h
  have ho1:=ho.step s1 (fun j hj hm=>by simp only [List.mem_singleton] at hm;omega)
  have hg1:=hg.step s1 (fun j hj hm=>by simp only [List.mem_singleton] at hm;exact (hqg j hj).1 hm)
  obtain ⟨x,X2,sl',X3,q',a1,a2,ho3,s3⟩:=ho1.push0 (w:=u) (by omega) r1 (fun i hi=>⟨by have:=o1 i hi;omega,fun hm=>by have:=ho.r.lt i hm;have:=o1 i hi;omega⟩) (by omega) (fun a ha i hi hm=>by obtain ⟨qa,b1,_,_⟩:=ho.u a ha;have h1:=b1.lt i (b1.own_of hi);have h2:=o1 i hm;omega) (Nat.le_trans hX s1.len)
  have hg3:=hg1.step s3 (fun j hj hm=>by have:=ho.o j hm;have:=(hqg j hj).2;omega)
  have d3:=d1.step s3 (fun j hj=>by have:=ho.o j hj;omega)
  obtain ⟨X4,sl4,q4,us4,e4,ho4,k4,hg4,d4,s4⟩:=ZqU hN hp hqg t (j+1) (Zcv s).2 sl' q' (acc++[u]) X3 (by omega) (by omega) (by rw [List.length_append,List.length_singleton];omega) (Nat.le_trans hX (Nat.le_trans s1.len s3.len)) ho3 hg3 d3
  refine ⟨X4,sl4,q4,u :: us4,(Zr ?_).trans e4,by rw [List.append_assoc] at ho4;exact ho4,?_,hg4,d4,?_⟩
  ·rw [ZU]
   unfold Kk.l1
   rw [Za Zg,Zb,if_pos (by simpa using hlt),Za e1,Za a1,Za a2,Za Zt,Qh (by omega)]
   rfl
  ·unfold Wg
   rw [List.map_cons,k1,k4]
  ·have b1 : Zw (p :: q) X (p :: q) X1:=s1.more (fun i hi=>by simp at hi;simp [hi]) (fun i hi=>.inl hi)
   have b2 : Zw (p :: q) X1 (p :: q') X3:=s3.more (fun i hi=>List.mem_cons_of_mem _ hi) (fun i hi=>by
    rcases List.mem_cons.1 hi with rfl | hi
    ·exact .inl (by simp)
    ·exact .inr (.inl hi))
   exact (b1.trans b2).trans s4
theorem Zjg : ∀ (k : Nat) (s : RSt),(Wg k s).1.length=k
 | 0,s=>rfl
 | k+1,s=>by unfold Wg;rw [List.length_cons,Zjg]
theorem Zsc (hs : Sl X bv (u8s bs)) (hb : bs.length≤100000000) : ∃ dv X',R (n+13) Za6 [bv] X=some (.tuple #[dv,iv (Kg bs).1],X')∧HLe X X'∧((Kg bs).1≠0→dv=.pointer none)∧((Kg bs).1=0→∃ d r s c us,dv=pt d∧OfS X X' d r s c (Kg bs).2.1 us∧us.map ZW=(Kg bs).2.2):=by
 obtain ⟨p,X0,e0,r0,k0,hp0⟩:=Znm (n:=n+10) hs (by omega)
 have e0 : R (n+12) ZbD [bv] X=_:=e0
 obtain ⟨X1,e1,r1,s1⟩:=ZqB (n:=n+8) r0
 have e1 : R (n+12) JO [pt p] X0=_:=e1
 have hpo : ∀ j∈[p],X.length≤j:=by simpa using hp0
 have m1:=k0.more s1 hpo
 have e2 : R (n+12) Z4 [pt p] X1=_:=Zf4 (n:=n+11) r1
 have f1 : ∀ v X',Kk (R (n+12)) bv X=some (v,X')→R (n+13) Za6 [bv] X=some (v,X'):=fun v X' hr=>by rw [R,ZhM rfl];exact hr
 unfold Kg
 simp only
 generalize Z0 1 (0,bs)=B at e1 r1 e2 ⊢
 obtain ⟨b0,t1⟩:=B
 simp only at e1 r1 e2 ⊢
 have q1 : bop .int .eql (iv t1.1) (.int .i64 0) X1=some (.bool (t1.1==0),X1):=by rw [ZA,Wb]
 have q2 : bop .int .neq (.int .u8 b0) (.int .u8 2) X1=some (.bool (b0 !=2),X1):=by
  rw [Zq,show ((b0 : Int) !=2)=(b0 !=2) from by rw [Bool.eq_iff_iff];simp;omega]
 have hgate : ∀ K : Value→M Value,bind (ZT (.bool (t1.1==0)) true 2 (bind (bop .int .neq (.int .u8 b0) (.int .u8 2)) fun v21=>ret [.int .u8 b0,v21])) (c2 fun _ q=>bind (pick (.bool (t1.1==0)) q (.bool false)) K) X1=K (.bool ((t1.1==0) && (b0 !=2))) X1:=fun K=>by
  cases t1.1==0
  ·rw [Za (g_r.trans (if_neg (by simp)))]
   simp only [List.replicate]
   rw [ZP,Za Zh]
   rfl
  ·rw [ZK,Zf,Za q2,ZQ,ZP,Za Zh]
   rfl
 by_cases hbad : t1.1=0∧b0≠2
 ·rw [if_pos hbad]
  have hbb : ((t1.1==0) && (b0 !=2))=true:=by simp [hbad]
  rw [hbb] at hgate
  refine ⟨.pointer none,X1,f1 _ _ ?_,m1.1,fun _=>rfl,fun h=>absurd h (by simp)⟩
  unfold Kk
  rw [Za e0,Za e1,Za e2,Za q1]
  refine (hgate _).trans ?_
  rw [Zb,if_pos rfl]
  rfl
 ·rw [if_neg hbad]
  have hbb : ((t1.1==0) && (b0 !=2))=false:=by
   cases h1 : (t1.1==0) <;> cases h2 : (b0 !=2) <;> simp at h1 h2 ⊢
   exact hbad ⟨h1,h2⟩
  rw [hbb] at hgate
  obtain ⟨vg,qg,X2,e3,g3,r3,o3,s3⟩:=Zvk (n:=n+5) (most:=6) (long:=12) (by omega) (by omega) r1
  have e3 : R (n+12) Y7 [pt p,.int .i64 6,.int .i64 12] X1=_:=e3
  obtain ⟨X3,e4,r4,s4⟩:=Ztu (n:=n+8) r3
  have e4 : R (n+12) J1 [pt p] X2=_:=e4
  have m3:=m1.1.more (s3.trans s4) hpo
  have hpl:=r1.lt
  have hg4:=g3.step s4 (fun j hj hm=>by have:=o3 j hj;simp only [List.mem_singleton] at hm;omega)
  have hnl:=WR (s:=(KM 6 12 t1).2) (k:=2)
  have hrl : (KM 6 12 t1).1.length≤65535:=Zhl
  unfold Zma
  simp only
  generalize KM 6 12 t1=G at e3 g3 r3 e4 r4 hnl hg4 hrl ⊢
  obtain ⟨gl,t2⟩:=G
  simp only at e3 g3 r3 e4 r4 hnl hg4 hrl ⊢
  generalize Z0 2 t2=N at e4 r4 hnl ⊢
  obtain ⟨nv,t3⟩:=N
  simp only at e4 r4 hnl ⊢
  have cI : cvi .i64 (.int .u16 nv) X3=some (iv nv,X3):=by rw [Qi,w64 (by omega) (by omega)]
  have q3 : bop .int .gtr (iv nv) (.int .i64 12) X3=some (.bool (decide (12 < nv)),X3):=by
   rw [ZF,show (decide ((nv : Int) > 12))=decide (12 < nv) from decide_eq_decide.2 (by omega)]
  have hM : ∃ X4,(cnd (Value.bool (decide (12 < nv))) (bind (R (n+12) ZR [pt p,(Value.int .i64 7)]) fun v31=>ret (Out.nrm [pt p,vg,(Value.int .i64 0)])) (ret (Out.nrm [pt p,vg,iv nv]))) X3=some (Out.nrm [pt p,vg,iv ((if nv > 12 then ((0 : Nat),Z3 7 t3) else (nv,t3)).1 : Nat)],X4)∧Rdr X4 p (if nv > 12 then ((0 : Nat),Z3 7 t3) else (nv,t3)).2∧Zw [p] X3 [p] X4:=by
   by_cases h12 : nv > 12
   ·obtain ⟨X4,e5,r5,s5⟩:=ZfE (n:=n+11) (e:=7) (by omega) r4
    have e5 : R (n+12) ZR [pt p,.int .i64 7] X3=_:=e5
    rw [if_pos h12]
    refine ⟨X4,?_,r5,s5⟩
    rw [decide_eq_true h12,Zb,if_pos rfl,Za e5]
    rfl
   ·rw [if_neg h12]
    refine ⟨X3,?_,r4,.refl _ _⟩
    rw [decide_eq_false h12,Zb,if_neg (by simp)]
    rfl
  obtain ⟨X4,e5,r5,s5⟩:=hM
  have hNle : (if nv > 12 then ((0 : Nat),Z3 7 t3) else (nv,t3)).1≤12:=by
   split
   ·simp
   ·simp only;omega
  generalize (if nv > 12 then ((0 : Nat),Z3 7 t3) else (nv,t3))=Mm at e5 r5 hNle ⊢
  obtain ⟨N,t4⟩:=Mm
  simp only at e5 r5 hNle ⊢
  have m4:=m3.1.more s5 hpo
  have hg5:=hg4.step s5 (fun j hj hm=>by have:=o3 j hj;simp only [List.mem_singleton] at hm;omega)
  have hp4:=r5.lt
  have hqg : ∀ j∈qg,j≠p∧j < X4.length:=fun j hj=>⟨by have:=o3 j hj;omega,hg5.lt j hj⟩
  obtain ⟨X5,sl,q,us,e6,ho6,k6,hg6,r6,s6⟩:=ZqU (n:=n) (X0:=X4) (vg:=vg) (gl:=gl) hNle hp4 hqg N 0 t4 (.slice none 0 0) [] [] X4 (by omega) (by omega) (by simp) (Nat.le_refl _) ⟨Qu.nil,by simp,by simp,by simp⟩ hg5 r5
  rw [show iv ((0 : Nat) : Int)=.int .i64 0 from rfl] at e6
  rw [List.nil_append] at ho6
  have hlus : us.length≤12:=by
   have:=congrArg List.length k6
   rw [List.length_map,Zjg] at this
   omega
  have hown6 : ∀ j∈p :: q,X.length≤j:=fun j hj=>by
   rcases List.mem_cons.1 hj with rfl | hj
   ·exact hp0
   ·exact Nat.le_trans m4.1.len (ho6.o j hj)
  have m6 : HLe X X5:=(m4.1.more s6 hpo).1
  generalize Wg N t4=U at k6 r6 ⊢
  obtain ⟨ul,t5⟩:=U
  simp only at k6 r6 ⊢
  subst k6
  have e7 : R (n+12) Z4 [pt p] X5=_:=Zf4 (n:=n+11) r6
  have hpre : ∀ o,(bind (R (n+12) Z4 [pt p]) fun y21=>
    bind (bop .int .neq y21 (Value.int .i64 0)) fun y22=>
    cnd y22 (ret (Value.tuple #[(Value.pointer none),y21]))
    (bind (R (n+12) ZaG [sl,vg]) fun y23=>bind (Zz y23 0) fun y24=>bind (Zz y23 1) fun y25=>bind (bop .int .eql y25 (Value.int .i64 0)) fun y26=>
    jn (cnd y26 (bind (R (n+12) J0 [pt p]) fun y27=>ret (.nrm [y24,y27])) (ret (.nrm [y24,y25]))) (c2 fun q28_0 q28_1=>
    bind (bop .int .neq q28_1 (Value.int .i64 0)) fun y29=>
    cnd y29 (ret (Value.tuple #[(Value.pointer none),q28_1])) (ret (Value.tuple #[q28_0,(Value.int .i64 0)]))) noX ret)) X5=o→R (n+13) Za6 [bv] X=o:=fun o ho=>by
   rw [R,ZhM rfl]
   unfold Kk
   rw [Za e0,Za e1,Za e2,Za q1]
   refine (hgate _).trans ?_
   rw [Zb,if_neg (by simp),Za e3,Za e4,Za cI,Za q3]
   refine (Qf e5).trans ?_
   rw [ZX,ZO e6,Zu,ZX]
   exact ho
  by_cases h5 : t5.1≠0
  ·rw [if_pos h5]
   have q4 : bop .int .neq (iv t5.1) (.int .i64 0) X5=some (.bool true,X5):=by rw [Zq,YX];simp [h5]
   refine ⟨.pointer none,X5,hpre _ ?_,m6,fun _=>rfl,fun h=>absurd h h5⟩
   rw [Za e7,Za q4,Zb,if_pos rfl]
   rfl
  ·rw [if_neg h5]
   have h5 : t5.1=0:=Decidable.of_not_not h5
   have q4 : bop .int .neq (iv t5.1) (.int .i64 0) X5=some (.bool false,X5):=by rw [Zq,YX];simp [h5]
   obtain ⟨X6,k7,h7⟩:=Zox (n:=n) (us:=us) (gs:=gl) (by omega) (by omega) ho6.us hg6.rd
   rw [ZjZ] at h7
   have m7:=m6.trans k7
   by_cases hE : ofK (us.map ZW) gl≠0
   ·rw [if_pos hE]
    have hE' : ¬ ((ofK (us.map ZW) gl : Int)=0):=by omega
    rw [if_neg hE'] at h7
    have q5 : bop .int .eql (iv (ofK (us.map ZW) gl)) (.int .i64 0) X6=some (.bool false,X6):=by rw [ZA,Wb];simp [hE]
    have q6 : bop .int .neq (iv (ofK (us.map ZW) gl)) (.int .i64 0) X6=some (.bool true,X6):=by rw [Zq,YX];simp [hE]
    refine ⟨.pointer none,X6,hpre _ ?_,m7,fun _=>rfl,fun h=>absurd h hE⟩
    rw [Za e7,Za q4,Zb,if_neg (by simp),Za h7,Za Zo,Za Zn,Za q5]
    refine (Qf (vs:=[.pointer none,iv (ofK (us.map ZW) gl)]) (H':=X6) ?_).trans ?_
    ·rw [Zb,if_neg (by simp)];rfl
    ·rw [ZP,Za q6,Zb,if_pos rfl];rfl
   ·rw [if_neg hE]
    have hE : ofK (us.map ZW) gl=0:=Decidable.of_not_not hE
    rw [if_pos (by rw [hE];rfl)] at h7
    obtain ⟨d,r,st,c,e8,hS⟩:=h7
    have q5 : bop .int .eql (iv 0) (.int .i64 0) X6=some (.bool true,X6):=by rw [ZA];rfl
    have e9 : R (n+12) J0 [pt p] X6=some (iv (Zau t5),X6):=Zxg (n:=n+11) (r6.hle k7)
    have hS' : OfS X X6 d r st c gl us:=⟨m7,hS.nd,fun i hi=>Nat.le_trans m6.len (hS.own i hi),hS.K,hS.ok⟩
    by_cases h6 : t5.2≠[]
    ·rw [if_pos h6]
     have he : Zau t5=3:=by unfold Zau;rw [if_pos h5,if_neg h6]
     rw [he] at e9
     have q6 : bop .int .neq (iv ((3 : Nat) : Int)) (.int .i64 0) X6=some (.bool true,X6):=by rw [Zq];rfl
     refine ⟨.pointer none,X6,hpre _ ?_,m7,fun _=>rfl,fun h=>absurd h (by simp)⟩
     rw [Za e7,Za q4,Zb,if_neg (by simp),Za e8,Za Zo,Za Zn,Za q5]
     refine (Qf (vs:=[pt d,iv ((3 : Nat) : Int)]) (H':=X6) ?_).trans ?_
     ·rw [Zb,if_pos rfl,Za e9];rfl
     ·rw [ZP,Za q6,Zb,if_pos rfl];rfl
    ·rw [if_neg h6]
     have h6 : t5.2=[]:=Decidable.of_not_not h6
     have he : Zau t5=0:=by unfold Zau;rw [if_pos h5,if_pos h6]
     rw [he] at e9
     have q6 : bop .int .neq (iv ((0 : Nat) : Int)) (.int .i64 0) X6=some (.bool false,X6):=by rw [Zq];rfl
     refine ⟨pt d,X6,hpre _ ?_,m7,fun h=>absurd rfl h,fun _=>⟨d,r,st,c,us,rfl,hS',rfl⟩⟩
     rw [Za e7,Za q4,Zb,if_neg (by simp),Za e8,Za Zo,Za Zn,Za q5]
     refine (Qf (vs:=[pt d,iv ((0 : Nat) : Int)]) (H':=X6) ?_).trans ?_
     ·rw [Zb,if_pos rfl,Za e9];rfl
     ·rw [ZP,Za q6,Zb,if_neg (by simp)];rfl
end
end Go.Proofs.YtedkoimihknggaaGreatDoor.A

namespace Go.Proofs.YtedkoimihknggaaGreatDoor.A
set_option linter.unusedVariables false
set_option maxRecDepth 100000
set_option linter.unusedSimpArgs false
open Go.Proofs Go.Proofs.YtedkoimihknggaaGreatDoor
section
variable {H X X' H0 : Zd} {n p : Nat} {sl v gv uv : Value} {l N : List Tx} {us : List Zp} {u : Zp} {b : Bool}
theorem ZsJ (hl : ∀ x∈l,x.length≤1000) (hs : Sl H0 gv (l.map strv)) (hn : l.length≤1000) : ∀ (t j : Nat) (s : List UInt8) (X : Zd),l.length - j=t→j≤l.length→s.length+t * 1002≤100000000→HLe H0 X→
  ∃ X',Zj (c4 (W3.l1 (R (n+2)))) [strv s,gv,iv l.length,iv j] X=some (.ext 0 [strv (s++((l.drop j).map txt).flatten)],X')∧HLe H0 X'
 | 0,j,s,X,ht,hj,hb,hle=>by
  rw [List.drop_eq_nil_of_le (by omega)]
  refine ⟨X,ZD ?_,hle⟩
  rw [ZC,show j=l.length by omega]
  unfold W3.l1
  rw [Za Zg,Zb,if_neg (by simp)]
  simp
  rfl
 | t+1,j,s,X,ht,hj,hb,hle=>by
  have hkl : j < l.length:=by omega
  have hlt : (j : Int) < l.length:=by omega
  have hg:=List.getElem?_eq_getElem hkl
  have hd:=List.drop_eq_getElem_cons hkl
  generalize l[j]=y at hg hd
  have hy:=hl y (List.mem_of_getElem? hg)
  have x1:=(hs.mono hle).ix (i:=j) (by simpa using hkl) .i64 X
  have x2:=(hs.mono hle).ldx (J9 hg)
  obtain ⟨X1,e1,k1⟩:=Zj0 (n:=n) (s:=y) (H:=X) (by omega)
  have c3 : bop .str .add (strv s) (strv (txt y)) X1=some (strv (s++txt y),X1):=QD (by rw [Yf];omega)
  obtain ⟨X2,e2,k2⟩:=ZsJ hl hs hn t (j+1) (s++txt y) X1 (by omega) (by omega) (by rw [List.length_append,Yf];omega) (hle.trans k1)
  refine ⟨X2,(Zr ?_).trans (e2.trans ?_),k2⟩
  ·rw [ZC]
   unfold W3.l1
   rw [Za Zg,Zb,if_pos (by simpa using hlt),Za x1,Za x2,Za e1,Za c3,Za Zt,Qh (by omega)]
   rfl
  ·rw [hd,List.map_cons,List.flatten_cons,← List.append_assoc]
theorem Zvf (hl : ∀ x∈l,x.length≤1000) (hs : Sl H gv (l.map strv)) (hn : l.length≤1000) : ∃ H',R (n+3) ZbQ [gv] H=some (strv (Zbx l),H')∧HLe H H':=by
 have hlen : ∀ Y,ZH gv Y=some (iv l.length,Y):=fun Y=>by have:=hs.len (H':=Y);simpa using this
 obtain ⟨X1,e1,k1⟩:=ZqT (n:=n+1) (N:=2) (x:=l.length) (H:=H) (by omega) (by omega)
 have e1 : R (n+2) We [.int .u64 l.length,.int .i64 2] H=_:=e1
 obtain ⟨X2,e2,k2⟩:=ZsJ (n:=n) hl (hs.mono k1) hn l.length 0 (le l.length 2) X1 (by omega) (by omega) (by rw [KS];omega) (.refl _)
 rw [show iv ((0 : Nat) : Int)=.int .i64 0 from rfl,List.drop_zero] at e2
 refine ⟨X2,?_,k1.trans k2⟩
 rw [R,Zq0 rfl]
 unfold W3
 rw [Za (hlen _),Za (Zv1 (by omega)),Za e1,Za (hlen _),ZO e2,Zu]
 rfl
theorem ZvQ : R (n+1) ZbN [.bool b] H=some (strv (ZaY b),H):=by
 rw [R,Znz rfl]
 unfold Zfk
 cases b
 ·rw [Zb,if_neg (by simp)];rfl
 ·rw [Zb,if_pos rfl];rfl
theorem ZvO (hk : Ze7 (ZW u)) (ok : UOK H u) : ∃ H',R (n+4) ZdY [iv 2,.agg u.cells.toArray] H=some (strv (Zcw (ZW u)),H')∧HLe H H':=by
 have h1 : u.nm.length≤12:=hk.n
 have h2 : u.hs.length≤12:=hk.h
 have h3 : u.ml.length≤20:=hk.m
 have h4 : u.gs.length≤6:=hk.g
 have h5 : ∀ x∈u.gs,x.length≤12:=hk.gs
 have z1:=ok.cells1
 have k1 : HLe H (H++[Zc.cells u.cells 1 false false]):=.app _ _
 have c1 : (H++[Zc.cells u.cells 1 false false])[H.length]?=some (.cells u.cells 1 false false):=Zm
 generalize H++[Zc.cells u.cells 1 false false]=X1 at z1 k1 c1
 generalize H.length=w at z1 c1
 have a : ∀ Y,HLe X1 Y→∀ f x,u.cells[f]?=some x→ld1 (pa w f) Y=some (x,Y):=fun Y hl f x h=>ZN (hl _ _ c1) h
 obtain ⟨X2,e2,k2⟩:=Zj0 (n:=n+1) (s:=u.nm) (H:=X1) (by omega)
 have e2 : R (n+3) Kj [strv u.nm] X1=_:=e2
 obtain ⟨X3,e3,k3⟩:=Zj0 (n:=n+1) (s:=u.hs) (H:=X2) (by omega)
 have e3 : R (n+3) Kj [strv u.hs] X2=_:=e3
 have k13:=k2.trans k3
 have p3 : bop .str .add (strv (txt u.nm)) (strv (txt u.hs)) X3=some (strv (txt u.nm++txt u.hs),X3):=QD (by rw [Yf,Yf];omega)
 have q3 : bop .int .eql (iv 2) (.int .i64 2) X3=some (.bool true,X3):=by rw [ZA];rfl
 obtain ⟨X4,e4,k4⟩:=Zj0 (n:=n+1) (s:=u.ml) (H:=X3) (by omega)
 have e4 : R (n+3) Kj [strv u.ml] X3=_:=e4
 have k14:=k13.trans k4
 have p4 : bop .str .add (strv (txt u.nm++txt u.hs)) (strv (txt u.ml)) X4=some (strv (txt u.nm++txt u.hs++txt u.ml),X4):=QD (by rw [List.length_append,Yf,Yf,Yf];omega)
 have e5 : R (n+3) ZbN [.bool u.ds] X4=some (strv (ZaY u.ds),X4):=ZvQ (n:=n+2)
 have p5 : bop .str .add (strv (txt u.nm++txt u.hs++txt u.ml)) (strv (ZaY u.ds)) X4=some (strv (txt u.nm++txt u.hs++txt u.ml++ZaY u.ds),X4):=QD (by rw [List.length_append,List.length_append,Yf,Yf,Yf,Ze8];omega)
 obtain ⟨X6,e6,k6⟩:=Zvf (n:=n) (l:=u.gs) (H:=X4) (fun x hx=>by have:=h5 x hx;omega) (ok.hle (k1.trans k14)).1 (by omega)
 have hrl:=Zfn h5
 have h6 : u.gs.length * (12+2)≤6 * (12+2):=Nat.mul_le_mul_right _ h4
 have p6 : bop .str .add (strv (txt u.nm++txt u.hs++txt u.ml++ZaY u.ds)) (strv (Zbx u.gs)) X6=some (strv (Zcw (ZW u)),X6):=by
  rw [QD (by rw [List.length_append,List.length_append,List.length_append,Yf,Yf,Yf,Ze8];omega),ZuN]
  simp [List.append_assoc]
 refine ⟨X6,?_,(k1.trans k14).trans k6⟩
 rw [R,Zo8 rfl]
 unfold Zgc
 rw [Za z1,Za Zi,Za (a _ (.refl _) 0 _ rfl),Za Zi,Za (a _ (.refl _) 1 _ rfl),Za e2,Za (a _ k2 1 _ rfl),Qn,Za e3,Za p3,Za q3]
 refine (Qf (vs:=[strv (Zcw (ZW u))]) (H':=X6) ?_).trans ?_
 ·rw [Zb,if_pos rfl,Za Zi,Za (a _ k13 2 _ rfl),Za Zi,Za (a _ k13 3 _ rfl),Za Zi,Za (a _ k13 4 _ rfl),Za e4,Za (a _ k14 4 _ rfl),Qn,Za (a _ k14 3 _ rfl),Qn,Za p4,Za e5,Za (a _ k14 4 _ rfl),Qn,Za p5,Za e6,Za p6]
  rfl
 ·rfl
theorem Znf (hn : us.length≤1000) (hA : QV H0 sl us) (hE : ∀ u∈us,Ze7 (ZW u)) : ∀ (t k : Nat) (s : List UInt8) (X : Zd),us.length - k=t→k≤us.length→s.length+t * 137≤1000000→HLe H0 X→
  ∃ X',Zj (c5 (KZ.l1 (R (n+4)))) [iv 2,strv s,sl,iv us.length,iv k] X=some (.ext 0 [strv (s++YH ((us.drop k).map ZW))],X')∧HLe H0 X'
 | 0,k,s,X,ht,hk,hs,hle=>by
  rw [List.drop_eq_nil_of_le (by omega)]
  refine ⟨X,ZD ?_,hle⟩
  rw [ZU,show k=us.length by omega]
  unfold KZ.l1
  rw [Za Zg,Zb,if_neg (by simp)]
  simp [YH]
  rfl
 | t+1,k,s,X,ht,hk,hs,hle=>by
  have hkl : k < us.length:=by omega
  have hlt : (k : Int) < us.length:=by omega
  have hg:=List.getElem?_eq_getElem hkl
  have hd:=List.drop_eq_getElem_cons hkl
  generalize us[k]=u at hg hd
  have hm:=List.mem_of_getElem? hg
  have he:=hE u hm
  have hel:=Zlj he
  have hok:=(hA.mono hle).ok hm
  have hf:=fun {K : Value→M Out}=>ZcM (k:=K) (hA.mono hle).1 hok.2.1 hg
  have g1 : (X++[Zc.cells u.cells 1 false false])[X.length]?=some (.cells u.cells 1 false false):=Zm
  have k1 : HLe X (X++[Zc.cells u.cells 1 false false]):=.app _ _
  generalize X++[Zc.cells u.cells 1 false false]=X1 at g1 k1 hf
  have d1 : ldA 5 (pt X.length) X1=some (.agg u.cells.toArray,X1):=ZE (n:=5) g1 rfl
  obtain ⟨X2,e2,k2⟩:=ZvO (n:=n) he (hok.hle k1)
  have c3 : bop .str .add (strv s) (strv (Zcw (ZW u))) X2=some (strv (s++Zcw (ZW u)),X2):=QD (by omega)
  obtain ⟨X3,e3,k3⟩:=Znf hn hA hE t (k+1) (s++Zcw (ZW u)) X2 (by omega) (by omega) (by rw [List.length_append];omega) ((hle.trans k1).trans k2)
  refine ⟨X3,(Zr ?_).trans (e3.trans ?_),k3⟩
  ·rw [ZU]
   unfold KZ.l1
   rw [Za Zg,Zb,if_pos (by simpa using hlt),hf,Za d1,Za e2,Za c3,Za Zt,Qh (by omega)]
   rfl
  ·rw [hd]
   simp [YH]
theorem Zwb (hn : us.length≤12) (hA : QV H uv us) (hE : ∀ u∈us,Ze7 (ZW u)) (hs : Sl H gv (N.map strv)) (hl : ∀ x∈N,x.length≤12) (hN : N.length≤6) (o1 : oneCell uv=true) (o2 : oneCell gv=true) : ∃ H',R (n+6) Zcn [.agg #[uv,gv]] H=some (strv (Zb6 N (us.map ZW)),H')∧HLe H H':=by
 have z1 : alc 1 (.agg #[uv,gv]) H=some (pt H.length,H++[.cells [uv,gv] 1 false false]):=Zcq (vs:=[uv,gv]) (by simp only [List.all_cons,o1,o2];rfl)
 have k1 : HLe H (H++[Zc.cells [uv,gv] 1 false false]):=.app _ _
 have c1 : (H++[Zc.cells [uv,gv] 1 false false])[H.length]?=some (.cells [uv,gv] 1 false false):=Zm
 generalize H++[Zc.cells [uv,gv] 1 false false]=X1 at z1 k1 c1
 generalize H.length=w at z1 c1
 have a0 : ∀ Y,HLe X1 Y→ld1 (pa w 0) Y=some (uv,Y):=fun Y hl=>ZN (hl _ _ c1) rfl
 have a1 : ld1 (pa w 1) X1=some (gv,X1):=ZN c1 rfl
 obtain ⟨X2,e2,k2⟩:=Zvf (n:=n+2) (l:=N) (fun x hx=>by have:=hl x hx;omega) (hs.mono k1) (by omega)
 have e2 : R (n+5) ZbQ [gv] X1=_:=e2
 have hrl:=Zfn hl
 have h6 : N.length * (12+2)≤6 * (12+2):=Nat.mul_le_mul_right _ hN
 have p2 : bop .str .add (.string ⟨#[2]⟩) (strv (Zbx N)) X2=some (strv ([2]++Zbx N),X2):=QD (a:=[2]) (by rw [List.length_singleton];omega)
 have hA2:=hA.mono (k1.trans k2)
 obtain ⟨X3,e3,k3⟩:=ZqT (n:=n+3) (N:=2) (x:=us.length) (H:=X2) (by omega) (by omega)
 have e3 : R (n+4) We [.int .u64 us.length,.int .i64 2] X2=_:=e3
 obtain ⟨X4,e4,k4⟩:=Znf (n:=n) (by omega) (hA2.mono k3) hE us.length 0 (le us.length 2) X3 (by omega) (by omega) (by rw [KS];omega) (.refl _)
 rw [show iv ((0 : Nat) : Int)=.int .i64 0 from rfl,List.drop_zero] at e4
 have hlen : ∀ Y,ZH uv Y=some (iv us.length,Y):=fun Y=>by have:=hA.1.len (H':=Y);rwa [List.length_map] at this
 have e5 : R (n+5) Zdp [iv 2,uv] X2=some (strv (le us.length 2++YH (us.map ZW)),X4):=by
  rw [R,Zou rfl]
  unfold KZ
  rw [Za (hlen _),Za (Zv1 (by omega)),Za e3,Za (hlen _),ZO e4,Zu]
  rfl
 have hub : (YH (us.map ZW)).length≤us.length * 137:=by
  have:=Zhu (ks:=us.map ZW) fun k hk=>by obtain ⟨u,hu,rfl⟩:=List.mem_map.1 hk;exact hE u hu
  rwa [List.length_map] at this
 have p5 : bop .str .add (strv ([2]++Zbx N)) (strv (le us.length 2++YH (us.map ZW))) X4=some (strv (Zb6 N (us.map ZW)),X4):=by
  rw [QD (by rw [List.length_append,List.length_append,KS,List.length_singleton];omega)]
  unfold Zb6
  rw [List.length_map,List.append_assoc]
  rfl
 refine ⟨X4,?_,((k1.trans k2).trans k3).trans k4⟩
 rw [R,ZpH rfl]
 unfold Zge
 rw [Za z1,Za Zi,Za a1,Za Zi,Za (a0 _ (.refl _)),Za e2,Za (a0 _ k2),Qn,Za p2,Za e5,Za p5]
 rfl
end
end Go.Proofs.YtedkoimihknggaaGreatDoor.A

namespace Go.Proofs.YtedkoimihknggaaGreatDoor.A
set_option linter.unusedVariables false
set_option maxRecDepth 100000
set_option linter.unusedSimpArgs false
open Go.Proofs Go.Proofs.YtedkoimihknggaaGreatDoor
theorem ZgT {e : Nat} {s : RSt} (h : s.1=0) (he : e≠0) : Z3 e s=(e,[]):=by unfold Z3;rw [if_pos ⟨h,he⟩]
theorem Zul {s : RSt} (h : okR s) : okR (KQ s).2:=by
 unfold KQ
 simp only
 split
 ·exact Zfz (ZbV h)
 ·exact ZbV h
theorem ZoA {m : Nat} : ∀ {k : Nat} {s : RSt},okR s→okR (QU m k s).2
 | 0,s,h=>h
 | k+1,s,h=>ZoA (k:=k) (Zby h)
theorem ZsB {m l : Nat} {s : RSt} (h : okR s) : okR (KM m l s).2:=ZoA (ZoJ h)
theorem Zv4 {m : Nat} {s : RSt} (h : okR s) (he : s.1≠0) : ZV m s=([],s):=by
 have h1:=Zs4 (k:=2) h he
 unfold ZV Qy
 rw [h1]
 simp only [Nat.not_lt_zero,gt_iff_lt,if_false]
 exact Zrk h he
theorem ZoS {m : Nat} : ∀ {k : Nat} {s : RSt},okR s→s.1≠0→(QU m k s).2=s
 | 0,s,h,he=>rfl
 | k+1,s,h,he=>by
  unfold QU
  rw [Zv4 h he]
  exact ZoS (k:=k) h he
theorem Zot {e : Nat} {s : RSt} : (Z3 e s).2.length≤s.2.length:=by
 unfold Z3
 split
 ·simp
 ·exact Nat.le_refl _
theorem Zqg {m : Nat} {s : RSt} : (Qy m s).2.2.length≤s.2.length:=by
 unfold Qy
 split
 ·exact Nat.le_trans Zot Zck
 ·exact Zck
theorem ZfA {m : Nat} {s : RSt} : (ZV m s).2.2.length≤s.2.length:=Nat.le_trans Zt8 Zqg
theorem ZpZ {m : Nat} : ∀ {k : Nat} {s : RSt},(QU m k s).2.2.length≤s.2.length
 | 0,s=>Nat.le_refl _
 | k+1,s=>Nat.le_trans (ZpZ (k:=k)) ZfA
theorem ZuW {m l : Nat} {s : RSt} : (KM m l s).2.2.length≤s.2.length:=Nat.le_trans ZpZ Zqg
theorem ZvR {s : RSt} : (KQ s).2.2.length≤s.2.length:=by
 unfold KQ
 simp only
 split
 ·exact Nat.le_trans Zot Zck
 ·exact Zck
section
variable {H0 H X : Zd} {n p d b M L : Nat} {a c v : Value} {bs : List UInt8} {s : RSt}
theorem Zn5 {e : Nat} : bld (.agg #[.string ⟨#[]⟩,.int .i64 0]) [(1,1,iv e)] X=some (.agg (RR (e,[])).toArray,X):=by
 simp [bld,KK,Value.cells,Yv,strv,splice]
theorem ZeS (hM : M≤1000000) (hl : s.2.length≤1000000000) (ho : okR s) : ∃ H',R (n+4) Qt [.agg (RR s).toArray,iv M] H=some (.tuple #[.agg (RR (ZV M s).2).toArray,strv (ZV M s).1],H')∧HLe H H':=by
 have z1:=bx (X:=H) (ZL s)
 have z2:=bx (X:=H++[.cells (RR s) 1 false false]) (ZL (0,[]))
 have k2 : HLe H (H++[Zc.cells (RR s) 1 false false]++[Zc.cells (RR (0,[])) 1 false false]):=(HLe.app _ _).trans (.app _ _)
 have c1 : (H++[Zc.cells (RR s) 1 false false]++[Zc.cells (RR (0,[])) 1 false false])[H.length]?=some (.cells (RR s) 1 false false):=Zbo
 have c2 : (H++[Zc.cells (RR s) 1 false false]++[Zc.cells (RR (0,[])) 1 false false])[(H++[Zc.cells (RR s) 1 false false]).length]?=some (.cells (RR (0,[])) 1 false false):=Zm
 have hp2 : H.length < (H++[Zc.cells (RR s) 1 false false]).length:=by simp
 generalize H++[Zc.cells (RR s) 1 false false]++[Zc.cells (RR (0,[])) 1 false false]=X2 at z2 k2 c1 c2
 generalize (H++[Zc.cells (RR s) 1 false false]).length=p2 at z2 c2 hp2
 have z2 : alc 1 (.agg #[.string ⟨#[]⟩,.int .i64 0]) _=some (pt p2,X2):=z2
 have d1 : ldA 2 (pt H.length) X2=some (.agg (RR s).toArray,X2):=ZE (n:=2) c1 rfl
 obtain ⟨X3,e3,k3⟩:=ZgO (n:=n) (H:=X2) (k:=2) (by omega) hl ho
 have e3 : R (n+3) Q7 [.agg (RR s).toArray,.int .i64 2] X2=_:=e3
 have hcl:=WR (k:=2) (s:=s)
 have ho' : okR (Z0 2 s).2:=ZbV ho
 have hle' : (Z0 2 s).2.2.length≤1000000000:=Nat.le_trans Zck hl
 have hbad:=ZdO (k:=2) ho
 unfold ZV Qy
 generalize Z0 2 s=C at e3 hcl ho' hle' hbad
 obtain ⟨cv,s'⟩:=C
 have e3 : R (n+3) Q7 [.agg (RR s).toArray,.int .i64 2] X2=some (.tuple #[.agg (RR s').toArray,.int .u64 cv],X3):=e3
 have hcl : cv < 65536:=hcl
 have ho' : okR s':=ho'
 have hle' : s'.2.length≤1000000000:=hle'
 have hbad : s'.1≠0→cv=0:=hbad
 simp only
 have k4 : HLe X3 (X3++[Zc.cells (RR s') 1 false false]):=.app _ _
 have c4' : (X3++[Zc.cells (RR s') 1 false false])[X3.length]?=some (.cells (RR s') 1 false false):=Zm
 have z4:=fun {K : Value→A.M Value}=>Zcs (H:=X3) (n:=2) (zs:=RR (0,[])) (r:=RR s') (K:=K) rfl rfl (ZL _) (ZL _)
 have hc24:=k4 _ _ (k3 _ _ c2)
 have hp4 : p2 < X3.length:=Z5 (k3 _ _ c2)
 generalize X3++[Zc.cells (RR s') 1 false false]=X4 at k4 c4' z4 hc24
 generalize X3.length=p4 at c4' z4 hp4
 have z4 : ∀ {K : Value→A.M Value},bind (alc 1 (.agg #[.string ⟨#[]⟩,.int .i64 0])) (fun q=>bind (stA 2 q (.agg (RR s').toArray)) fun _=>K q) X3=K (pt p4) X4:=z4
 have a1 : ld1 (pa p4 1) X4=some (iv s'.1,X4):=ZN c4' rfl
 have q1 : bop .int .eql (iv s'.1) (.int .i64 0) X4=some (.bool (s'.1==0),X4):=by rw [ZA,Wb]
 have cI : cvi .i64 (.int .u64 cv) X4=some (iv cv,X4):=by rw [Qi,w64 (by omega) (by omega)]
 have cM : mxi true (.int .i64 0) (iv M) X4=some (iv M,X4):=by
  rw [Yi]
  by_cases h0 : M=0
  ·subst h0;rfl
  ·rw [if_pos (by omega)]
 have cG : bop .int .gtr (iv cv) (iv M) X4=some (.bool (decide (cv > M)),X4):=by rw [ZF,show decide ((cv : Int) > M)=decide (cv > M) from decide_eq_decide.2 (by omega)]
 have hgate : ∀ K : Value→A.M Value,bind (ZT (Value.bool (s'.1==0)) true 5 (bind (cvi .i64 (.int .u64 cv)) fun y11=>
 bind (mxi true (Value.int .i64 0) (iv M)) fun y12=>
 bind (bop .int .gtr y11 y12) fun y13=>
 ret [.int .u64 cv,y11,iv M,y12,y13])) (c5 fun _ _ _ _ q14_4=>
 bind (pick (Value.bool (s'.1==0)) q14_4 (Value.bool false)) K) X4=K (.bool (decide (cv > M))) X4:=fun K=>by
  by_cases h0 : s'.1=0
  ·rw [show (s'.1==0)=true from by simp [h0],ZK,Zf,Za cI,Zf,Za cM,Zf,Za cG,ZQ,ZU,Za Zh]
   rfl
  ·rw [show (s'.1==0)=false from by simp [h0],Za (g_r.trans (if_neg (by simp)))]
   simp only [List.replicate]
   rw [ZU,Za Zh,hbad h0]
   rfl
 have f1 : ∀ r X',Wu (R (n+3)) (.agg (RR s).toArray) (iv M) H=some (r,X')→R (n+4) Qt [.agg (RR s).toArray,iv M] H=some (r,X'):=fun r X' hr=>by rw [R,ZfM rfl];exact hr
 by_cases hcm : cv > M
 ·have h0 : s'.1=0:=Decidable.byContradiction fun h=>by have:=hbad h;omega
  rw [if_pos hcm,ZgT h0 (by omega)]
  have ze:=Zn5 (e:=3) (X:=X4)
  have ze : bld (.agg #[.string ⟨#[]⟩,.int .i64 0]) [(1,1,.int .i64 3)] X4=_:=ze
  refine ⟨X4.set p2 (.cells (RR (3,[])) 1 false false),f1 _ _ ?_,((k2.trans k3).trans k4).put (by omega)⟩
  unfold Wu
  rw [Za z1,Za z2,Za d1,Za e3,Za Zo,Za Zn,z4,Za Zi,Za a1,Za q1]
  refine (hgate _).trans ?_
  rw [Zb,if_pos (by simpa using hcm),Za ze]
  exact YQ hc24 rfl rfl (ZL _)
 ·rw [if_neg hcm]
  have d4 : ldA 2 (pt p4) X4=some (.agg (RR s').toArray,X4):=ZE (n:=2) c4' rfl
  obtain ⟨ok,X5,e5,k5⟩:=Zn2 (n:=n+1) (H:=X4) (k:=cv) (s:=s') (by omega) hle' ho'
  have e5 : R (n+3) YU [.agg (RR s').toArray,iv cv] X4=_:=e5
  simp only
  generalize tkS cv s'=T at e5
  obtain ⟨t,s''⟩:=T
  have e5 : R (n+3) YU [.agg (RR s').toArray,iv cv] X4=some (.tuple #[.agg (RR s'').toArray,strv t,ok],X5):=e5
  have w5:=Ja (vs:=RR s'') (n:=2) (k5 _ _ c4') rfl rfl (ZL _)
  have d5 : ldA 2 (pt p4) (X5.set p4 (.cells (RR s'') 1 false false))=some (.agg (RR s'').toArray,_):=ZE (n:=2) (ZI (k5 _ _ c4')) rfl
  have hc25 : (X5.set p4 (.cells (RR s'') 1 false false))[p2]?=some (.cells (RR (0,[])) 1 false false):=(List.getElem?_set_ne (by omega)).trans (k5 _ _ hc24)
  have hk5 : HLe H (X5.set p4 (.cells (RR s'') 1 false false)):=(((k2.trans k3).trans k4).trans k5).put (by omega)
  refine ⟨(X5.set p4 (.cells (RR s'') 1 false false)).set p2 (.cells (RR s'') 1 false false),f1 _ _ ?_,hk5.put (by omega)⟩
  unfold Wu
  rw [Za z1,Za z2,Za d1,Za e3,Za Zo,Za Zn,z4,Za Zi,Za a1,Za q1]
  refine (hgate _).trans ?_
  rw [Zb,if_neg (by simpa using hcm),Za d4,Za cI,Za e5,Za QM,Za QL,Za QN,Za w5,Za d5]
  exact YQ hc25 rfl rfl (ZL _)
theorem Zr6 (hl : s.2.length≤1000000000) (ho : okR s) : ∃ H',R (n+4) K5 [.agg (RR s).toArray] H=some (.tuple #[.agg (RR (KQ s).2).toArray,.bool (KQ s).1],H')∧HLe H H':=by
 have z1:=bx (X:=H) (ZL s)
 have z2:=bx (X:=H++[.cells (RR s) 1 false false]) (ZL (0,[]))
 have k2 : HLe H (H++[Zc.cells (RR s) 1 false false]++[Zc.cells (RR (0,[])) 1 false false]):=(HLe.app _ _).trans (.app _ _)
 have c1 : (H++[Zc.cells (RR s) 1 false false]++[Zc.cells (RR (0,[])) 1 false false])[H.length]?=some (.cells (RR s) 1 false false):=Zbo
 have c2 : (H++[Zc.cells (RR s) 1 false false]++[Zc.cells (RR (0,[])) 1 false false])[(H++[Zc.cells (RR s) 1 false false]).length]?=some (.cells (RR (0,[])) 1 false false):=Zm
 have hp2 : H.length < (H++[Zc.cells (RR s) 1 false false]).length:=by simp
 generalize H++[Zc.cells (RR s) 1 false false]++[Zc.cells (RR (0,[])) 1 false false]=X2 at z2 k2 c1 c2
 generalize (H++[Zc.cells (RR s) 1 false false]).length=p2 at z2 c2 hp2
 have z2 : alc 1 (.agg #[.string ⟨#[]⟩,.int .i64 0]) _=some (pt p2,X2):=z2
 have d1 : ldA 2 (pt H.length) X2=some (.agg (RR s).toArray,X2):=ZE (n:=2) c1 rfl
 obtain ⟨X3,e3,k3⟩:=ZgO (n:=n) (H:=X2) (k:=1) (by omega) hl ho
 have e3 : R (n+3) Q7 [.agg (RR s).toArray,.int .i64 1] X2=_:=e3
 have hbad:=ZdO (k:=1) ho
 unfold KQ
 generalize Z0 1 s=C at e3 hbad
 obtain ⟨cv,s'⟩:=C
 have e3 : R (n+3) Q7 [.agg (RR s).toArray,.int .i64 1] X2=some (.tuple #[.agg (RR s').toArray,.int .u64 cv],X3):=e3
 have hbad : s'.1≠0→cv=0:=hbad
 simp only
 have k4 : HLe X3 (X3++[Zc.cells (RR s') 1 false false]):=.app _ _
 have c4' : (X3++[Zc.cells (RR s') 1 false false])[X3.length]?=some (.cells (RR s') 1 false false):=Zm
 have z4:=fun {K : Value→A.M Value}=>Zcs (H:=X3) (n:=2) (zs:=RR (0,[])) (r:=RR s') (K:=K) rfl rfl (ZL _) (ZL _)
 have hc24:=k4 _ _ (k3 _ _ c2)
 have hp4 : p2 < X3.length:=Z5 (k3 _ _ c2)
 generalize X3++[Zc.cells (RR s') 1 false false]=X4 at k4 c4' z4 hc24
 generalize X3.length=p4 at c4' z4 hp4
 have z4 : ∀ {K : Value→A.M Value},bind (alc 1 (.agg #[.string ⟨#[]⟩,.int .i64 0])) (fun q=>bind (stA 2 q (.agg (RR s').toArray)) fun _=>K q) X3=K (pt p4) X4:=z4
 have q1 : bop .int .gtr (.int .u64 cv) (.int .u64 1) X4=some (.bool (decide (1 < cv)),X4):=by rw [ZF,show decide ((cv : Int) > 1)=decide (1 < cv) from decide_eq_decide.2 (by omega)]
 have f1 : ∀ r X',WZ (R (n+3)) (.agg (RR s).toArray) H=some (r,X')→R (n+4) K5 [.agg (RR s).toArray] H=some (r,X'):=fun r X' hr=>by rw [R,Zkm rfl];exact hr
 by_cases hcm : 1 < cv
 ·have h0 : s'.1=0:=Decidable.byContradiction fun h=>by have:=hbad h;omega
  rw [if_pos hcm,ZgT h0 (by omega),show (cv==1)=false from by simp;omega]
  have ze : bld (.agg #[.string ⟨#[]⟩,.int .i64 0]) [(1,1,.int .i64 4)] X4=_:=Zn5 (e:=4) (X:=X4)
  refine ⟨X4.set p2 (.cells (RR (4,[])) 1 false false),f1 _ _ ?_,((k2.trans k3).trans k4).put (by omega)⟩
  unfold WZ
  rw [Za z1,Za z2,Za d1,Za e3,Za Zo,Za Zn,z4,Za q1,Zb,if_pos (by simpa using hcm),Za ze]
  exact YQ hc24 rfl rfl (ZL _)
 ·rw [if_neg hcm]
  have d4 : ldA 2 (pt p4) X4=some (.agg (RR s').toArray,X4):=ZE (n:=2) c4' rfl
  have q2 : bop .int .eql (.int .u64 cv) (.int .u64 1) X4=some (.bool (cv==1),X4):=by rw [ZA,show ((cv : Int)==1)=(cv==1) from by rw [Bool.eq_iff_iff];simp;omega]
  refine ⟨X4.set p2 (.cells (RR s') 1 false false),f1 _ _ ?_,((k2.trans k3).trans k4).put (by omega)⟩
  unfold WZ
  rw [Za z1,Za z2,Za d1,Za e3,Za Zo,Za Zn,z4,Za q1,Zb,if_neg (by simpa using hcm),Za d4,Za q2]
  exact YQ hc24 rfl rfl (ZL _)
theorem ZoD {N : Nat} (hL : L≤1000000) (hN : N≤100000) (h68 : p < d) (hp : H0.length≤p) : ∀ (t j : Nat) (s : RSt) (sl : Value) (q : List Nat) (acc : List Tx) (X : Zd),N - j=t→j≤N→acc.length≤j→okR s→s.2.length≤1000000000→HLe H0 X→X[p]?=some (.cells (RR (0,[])) 1 false false)→X[d]?=some (.cells (RR s) 1 false false)→Zs X sl (acc.map strv) q→(∀ i∈q,d < i)→
  ∃ X' o,Zj (c6 (Jw.l1 (R (n+4)))) [iv L,pt p,pt d,sl,.int .u64 N,.int .u64 j] X=some (o,X')∧HLe H0 X'∧(((QU L t s).2.1≠0∧t≠0∧o=.ret (.tuple #[.agg (RR (QU L t s).2).toArray,.slice none 0 0]))∨(((QU L t s).2.1=0∨t=0)∧∃ sl' q',o=.ext 0 [pt p,pt d,sl']∧Zs X' sl' ((acc++(QU L t s).1).map strv) q'∧(∀ i∈q',d < i)∧X'[p]?=some (.cells (RR (0,[])) 1 false false)∧X'[d]?=some (.cells (RR (QU L t s).2) 1 false false)))
 | 0,j,s,sl,q,acc,X,ht,hj,ha,ho,hb,hle,h6,h8,hr,hq=>by
  refine ⟨X,.ext 0 [pt p,pt d,sl],ZD ?_,hle,.inr ⟨.inr rfl,sl,q,rfl,by unfold QU;rw [List.append_nil];exact hr,hq,h6,h8⟩⟩
  rw [Jx,show j=N by omega]
  unfold Jw.l1
  rw [Za Zg,Zb,if_neg (by simp)]
  rfl
 | t+1,j,s,sl,q,acc,X,ht,hj,ha,ho,hb,hle,h6,h8,hr,hq=>by
  have hlt : (j : Int) < N:=by omega
  have d1 : ldA 2 (pt d) X=some (.agg (RR s).toArray,X):=ZE (n:=2) h8 rfl
  obtain ⟨X1,e1,k1⟩:=ZeS (n:=n) (H:=X) hL hb ho
  have ho1 : okR (ZV L s).2:=Zby ho
  have hb1 : (ZV L s).2.2.length≤1000000000:=Nat.le_trans ZfA hb
  unfold QU
  generalize ZV L s=T at e1 ho1 hb1
  obtain ⟨tx,s'⟩:=T
  have e1 : R (n+4) Qt [.agg (RR s).toArray,iv L] X=some (.tuple #[.agg (RR s').toArray,strv tx],X1):=e1
  have ho1 : okR s':=ho1
  have hb1 : s'.2.length≤1000000000:=hb1
  simp only
  have hdX:=Z5 (k1 _ _ h8)
  have z4 : ∀ {K : Value→A.M Out},bind (alc 1 (.agg #[.string ⟨#[]⟩,.int .i64 0])) (fun q=>bind (stA 2 q (.agg (RR s').toArray)) fun _=>K q) X1=K (pt X1.length) (X1++[.cells (RR s') 1 false false]):=fun {K}=>Zcs (H:=X1) (n:=2) (zs:=RR (0,[])) (r:=RR s') (K:=K) rfl rfl (ZL _) (ZL _)
  have k2 : HLe X1 (X1++[Zc.cells (RR s') 1 false false]):=.app _ _
  have c2 : (X1++[Zc.cells (RR s') 1 false false])[X1.length]?=some (.cells (RR s') 1 false false):=Zm
  generalize X1++[Zc.cells (RR s') 1 false false]=X2 at z4 k2 c2
  generalize X1.length=b at z4 c2 hdX
  have d2 : ldA 2 (pt b) X2=some (.agg (RR s').toArray,X2):=ZE (n:=2) c2 rfl
  have k12:=k1.trans k2
  have h8':=k12 _ _ h8
  have w3:=Ja (vs:=RR s') (n:=2) h8' rfl rfl (ZL _)
  have k3 : HLe H0 (X2.set d (.cells (RR s') 1 false false)):=(hle.trans k12).put (by omega)
  have h8:=ZI (b:=Zc.cells (RR s') 1 false false) h8'
  have h6:=(List.getElem?_set_ne (a:=Zc.cells (RR s') 1 false false) (show d≠p by omega)).trans (k12 _ _ h6)
  have hr3 : Zs (X2.set d (.cells (RR s') 1 false false)) sl (acc.map strv) q:=(hr.step k12.step (by simp)).keep fun i hi=>List.getElem?_set_ne (by have:=hq i hi;omega)
  generalize X2.set d (.cells (RR s') 1 false false)=X3 at w3 k3 h8 h6 hr3
  have a3 : ld1 (pa d 1) X3=some (iv s'.1,X3):=ZN h8 rfl
  have q3 : bop .int .neq (iv s'.1) (.int .i64 0) X3=some (.bool (s'.1 !=0),X3):=by rw [Zq,YX]
  by_cases h0 : s'.1=0
  ·have hd3:=Z5 h8
   obtain ⟨w,X4,sl',X5,q',e4,e5,r5,l5,o5,s5⟩:=ZzC (H0:=H0) (u:=tx) hr3 (by omega) (fun i hi=>by have:=hq i hi;omega) k3
   have hq5 : ∀ i∈q',d < i:=fun i hi=>by
    rcases s5.own i hi with h | h
    ·exact hq i h
    ·omega
   have h8':=s5.get h8 (fun hm=>by have:=hq _ hm;omega)
   have h6':=s5.get h6 (fun hm=>by have:=hq _ hm;omega)
   obtain ⟨X6,o,e6,k6,h⟩:=ZoD hL hN h68 hp t (j+1) s' sl' q' (acc++[tx]) X5 (by omega) (by omega) (by rw [List.length_append,List.length_singleton];omega) ho1 hb1 l5 h6' h8' r5 hq5
   refine ⟨X6,o,(Zr ?_).trans e6,k6,?_⟩
   ·have qa : bop .int .add (.int .u64 j) (.int .u64 1) X5=some (.int .u64 ((j+1 : Nat) : Int),X5):=by rw [Zt,Zds,Int.emod_eq_of_lt (by omega) (by omega)];rfl
    rw [Jx]
    unfold Jw.l1
    rw [Za Zg,Zb,if_pos (by simpa using hlt),Za d1,Za e1,Za Zo,Za Zn,z4,Za d2,Za w3,Za Zi,Za a3,Za q3,Zb,if_neg (by simp [h0]),Za e4,Za e5,Za qa]
    rfl
   ·rcases h with ⟨h1,_,h2⟩ | ⟨h1,sl6,q6,h2,h3,h4,h5,h6⟩
    ·exact .inl ⟨h1,by omega,h2⟩
    ·refine .inr ⟨?_,sl6,q6,h2,by rw [List.append_assoc] at h3;exact h3,h4,h5,h6⟩
     rcases h1 with h1 | h1
     ·exact .inl h1
     ·subst h1;exact .inl h0
  ·have hte:=ZoS (m:=L) (k:=t) ho1 h0
   rw [hte]
   have d3 : ldA 2 (pt d) X3=some (.agg (RR s').toArray,X3):=ZE (n:=2) h8 rfl
   refine ⟨X3.set p (.cells (RR s') 1 false false),_,Qc (v:=.tuple #[.agg (RR s').toArray,.slice none 0 0]) ?_,k3.put hp,.inl ⟨h0,by omega,rfl⟩⟩
   rw [Jx]
   unfold Jw.l1
   rw [Za Zg,Zb,if_pos (by simpa using hlt),Za d1,Za e1,Za Zo,Za Zn,z4,Za d2,Za w3,Za Zi,Za a3,Za q3,Zb,if_pos (by simp [h0]),Za d3]
   exact YQ h6 rfl rfl (ZL _)
theorem ZoT (hM : M≤1000000) (hL : L≤1000000) (hl : s.2.length≤1000000000) (ho : okR s) : ∃ H' v q,R (n+5) KA [.agg (RR s).toArray,iv M,iv L] H=some (.tuple #[.agg (RR (KM M L s).2).toArray,v],H')∧HLe H H'∧Zs H' v ((KM M L s).1.map strv) q∧∀ i∈q,H.length≤i:=by
 have z1:=bx (X:=H) (ZL s)
 have z2:=bx (X:=H++[.cells (RR s) 1 false false]) (ZL (0,[]))
 have k2 : HLe H (H++[Zc.cells (RR s) 1 false false]++[Zc.cells (RR (0,[])) 1 false false]):=(HLe.app _ _).trans (.app _ _)
 have c1 : (H++[Zc.cells (RR s) 1 false false]++[Zc.cells (RR (0,[])) 1 false false])[H.length]?=some (.cells (RR s) 1 false false):=Zbo
 have c2 : (H++[Zc.cells (RR s) 1 false false]++[Zc.cells (RR (0,[])) 1 false false])[(H++[Zc.cells (RR s) 1 false false]).length]?=some (.cells (RR (0,[])) 1 false false):=Zm
 have hp2 : H.length < (H++[Zc.cells (RR s) 1 false false]).length:=by simp
 generalize H++[Zc.cells (RR s) 1 false false]++[Zc.cells (RR (0,[])) 1 false false]=X2 at z2 k2 c1 c2
 generalize (H++[Zc.cells (RR s) 1 false false]).length=p2 at z2 c2 hp2
 have z2 : alc 1 (.agg #[.string ⟨#[]⟩,.int .i64 0]) _=some (pt p2,X2):=z2
 have d1 : ldA 2 (pt H.length) X2=some (.agg (RR s).toArray,X2):=ZE (n:=2) c1 rfl
 obtain ⟨X3,e3,k3⟩:=ZgO (n:=n+1) (H:=X2) (k:=2) (by omega) hl ho
 have e3 : R (n+4) Q7 [.agg (RR s).toArray,.int .i64 2] X2=_:=e3
 have hcl:=WR (k:=2) (s:=s)
 have ho' : okR (Z0 2 s).2:=ZbV ho
 have hle' : (Z0 2 s).2.2.length≤1000000000:=Nat.le_trans Zck hl
 have hbad:=ZdO (k:=2) ho
 unfold KM Qy
 generalize Z0 2 s=C at e3 hcl ho' hle' hbad
 obtain ⟨cv,s'⟩:=C
 have e3 : R (n+4) Q7 [.agg (RR s).toArray,.int .i64 2] X2=some (.tuple #[.agg (RR s').toArray,.int .u64 cv],X3):=e3
 have hcl : cv < 65536:=hcl
 have ho' : okR s':=ho'
 have hle' : s'.2.length≤1000000000:=hle'
 have hbad : s'.1≠0→cv=0:=hbad
 simp only
 have k4 : HLe X3 (X3++[Zc.cells (RR s') 1 false false]):=.app _ _
 have c4' : (X3++[Zc.cells (RR s') 1 false false])[X3.length]?=some (.cells (RR s') 1 false false):=Zm
 have z4:=fun {K : Value→A.M Value}=>Zcs (H:=X3) (n:=2) (zs:=RR (0,[])) (r:=RR s') (K:=K) rfl rfl (ZL _) (ZL _)
 have hc24:=k4 _ _ (k3 _ _ c2)
 have hp4 : p2 < X3.length:=Z5 (k3 _ _ c2)
 generalize X3++[Zc.cells (RR s') 1 false false]=X4 at k4 c4' z4 hc24
 generalize X3.length=p4 at c4' z4 hp4
 have z4 : ∀ {K : Value→A.M Value},bind (alc 1 (.agg #[.string ⟨#[]⟩,.int .i64 0])) (fun q=>bind (stA 2 q (.agg (RR s').toArray)) fun _=>K q) X3=K (pt p4) X4:=z4
 have a1 : ld1 (pa p4 1) X4=some (iv s'.1,X4):=ZN c4' rfl
 have q1 : bop .int .eql (iv s'.1) (.int .i64 0) X4=some (.bool (s'.1==0),X4):=by rw [ZA,Wb]
 have cI : cvi .i64 (.int .u64 cv) X4=some (iv cv,X4):=by rw [Qi,w64 (by omega) (by omega)]
 have cM : mxi true (.int .i64 0) (iv M) X4=some (iv M,X4):=by
  rw [Yi]
  by_cases h0 : M=0
  ·subst h0;rfl
  ·rw [if_pos (by omega)]
 have cG : bop .int .gtr (iv cv) (iv M) X4=some (.bool (decide (cv > M)),X4):=by rw [ZF,show decide ((cv : Int) > M)=decide (cv > M) from decide_eq_decide.2 (by omega)]
 have hgate : ∀ K : Value→A.M Value,bind (ZT (Value.bool (s'.1==0)) true 5 (bind (cvi .i64 (.int .u64 cv)) fun y11=>
 bind (mxi true (Value.int .i64 0) (iv M)) fun y12=>
 bind (bop .int .gtr y11 y12) fun y13=>
 ret [.int .u64 cv,y11,iv M,y12,y13])) (c5 fun _ _ _ _ q14_4=>
 bind (pick (Value.bool (s'.1==0)) q14_4 (Value.bool false)) K) X4=K (.bool (decide (cv > M))) X4:=fun K=>by
  by_cases h0 : s'.1=0
  ·rw [show (s'.1==0)=true from by simp [h0],ZK,Zf,Za cI,Zf,Za cM,Zf,Za cG,ZQ,ZU,Za Zh]
   rfl
  ·rw [show (s'.1==0)=false from by simp [h0],Za (g_r.trans (if_neg (by simp)))]
   simp only [List.replicate]
   rw [ZU,Za Zh,hbad h0]
   rfl
 have f1 : ∀ r X',Jw (R (n+4)) (.agg (RR s).toArray) (iv M) (iv L) H=some (r,X')→R (n+5) KA [.agg (RR s).toArray,iv M,iv L] H=some (r,X'):=fun r X' hr=>by rw [R,Zmj rfl];exact hr
 have hk4:=(k2.trans k3).trans k4
 by_cases hcm : cv > M
 ·have h0 : s'.1=0:=Decidable.byContradiction fun h=>by have:=hbad h;omega
  rw [if_pos hcm,ZgT h0 (by omega)]
  have ze : bld (.agg #[.string ⟨#[]⟩,.int .i64 0]) [(1,1,.int .i64 3)] X4=_:=Zn5 (e:=3) (X:=X4)
  refine ⟨X4.set p2 (.cells (RR (3,[])) 1 false false),.slice none 0 0,[],f1 _ _ ?_,hk4.put (by omega),Zs.nil,by simp⟩
  unfold Jw
  rw [Za z1,Za z2,Za d1,Za e3,Za Zo,Za Zn,z4,Za Zi,Za a1,Za q1]
  refine (hgate _).trans ?_
  rw [Zb,if_pos (by simpa using hcm),Za ze]
  exact YQ hc24 rfl rfl (ZL _)
 ·rw [if_neg hcm]
  simp only
  have hp4H : H.length≤p2:=by omega
  obtain ⟨X5,o,e5,k5,h5⟩:=ZoD (n:=n) (H0:=H) (N:=cv) hL (by omega) hp4 hp4H cv 0 s' (.slice none 0 0) [] [] X4 (by omega) (by omega) (Nat.le_refl _) ho' hle' hk4 hc24 c4' Zs.nil (by simp)
  have e5 : Zj (c6 (Jw.l1 (R (n+4)))) [iv L,pt p2,pt p4,.slice none 0 0,.int .u64 cv,.int .u64 0] X4=_:=e5
  rcases h5 with ⟨h1,_,rfl⟩ | ⟨h1,sl',q',rfl,h2,h3,h6,h8⟩
  ·rw [if_neg h1]
   refine ⟨X5,.slice none 0 0,[],f1 _ _ ?_,k5,Zs.nil,by simp⟩
   unfold Jw
   rw [Za z1,Za z2,Za d1,Za e3,Za Zo,Za Zn,z4,Za Zi,Za a1,Za q1]
   refine (hgate _).trans ?_
   rw [Zb,if_neg (by simpa using hcm),QI e5]
   rfl
  ·have hv : (if (QU L cv s').2.1=0 then (QU L cv s').1 else [])=(QU L cv s').1:=by
    rcases h1 with h1 | h1
    ·rw [if_pos h1]
    ·subst h1
     unfold QU
     split <;> rfl
   rw [hv]
   have d8 : ldA 2 (pt p4) X5=some (.agg (RR (QU L cv s').2).toArray,X5):=ZE (n:=2) h8 rfl
   refine ⟨X5.set p2 (.cells (RR (QU L cv s').2) 1 false false),sl',q',f1 _ _ ?_,k5.put hp4H,h2.keep fun i hi=>List.getElem?_set_ne (by have:=h3 i hi;omega),fun i hi=>by have:=h3 i hi;omega⟩
   unfold Jw
   rw [Za z1,Za z2,Za d1,Za e3,Za Zo,Za Zn,z4,Za Zi,Za a1,Za q1]
   refine (hgate _).trans ?_
   rw [Zb,if_neg (by simpa using hcm),ZO e5,Zu,ZX,Za d8]
   exact YQ h6 rfl rfl (ZL _)
end
end Go.Proofs.YtedkoimihknggaaGreatDoor.A

