/- What the law FolioReads needs (part 4). -/
import Derived.Test.YtedkoimihknggaaGreatDoorZFolioReads3
namespace Go.Proofs.YtedkoimihknggaaGreatDoor.A
set_option linter.unusedVariables false
set_option linter.unusedSimpArgs false
open Go.Proofs Go.Proofs.YtedkoimihknggaaGreatDoor
def Zfu : Option (List UInt8)→List Zm→Bool
 | _,[]=>true
 | p,u :: l=>(match p with | none=>true | some p=>decide (p < u.nm)) && Zfu (some u.nm) l
def ZeQ (us : List Zm) (k : Nat) : Option (List UInt8):=if k=0 then none else (us[k - 1]?).map (·.nm)
section
variable {H0 H X : Zc} {n p : Nat} {u : Zm} {us : List Zm} {sl : Value}
theorem ZqX {a c : Int} {v : Value} (hs : Sl X v [iv a,iv c]) : R (n+1) WE [v] X=some (iv (if a=0 then c else a),X):=by
 have e1 : ZC v X=some (iv 2,X):=hs.len
 have x1 : ixa 1 v (.int .i64 0) X=some (ixp v 0,X):=hs.ix (i:=0) (by simp) .i64 X
 have x2:=hs.ldx (i:=0) (v:=iv a) rfl
 have x3 : ixa 1 v (.int .i64 1) X=some (ixp v 1,X):=hs.ix (i:=1) (by simp) .i64 X
 have x4:=hs.ldx (i:=1) (v:=iv c) rfl
 have w1 : IntKind.i64.wrap (0+1)=1:=w64 (by omega) (by omega)
 have w2 : IntKind.i64.wrap (1+1)=2:=w64 (by omega) (by omega)
 rw [R,ZnA rfl]
 unfold Jp
 rw [Za e1]
 by_cases ha : a=0
 ·rw [if_pos ha]
  have s1 : c3 (Jp.l1 (run Tryz.prog np lvs n)) [v,iv 2,.int .i64 0] X=some (.nrm [v,iv 2,.int .i64 1],X):=by
   rw [ZR]
   unfold Jp.l1
   rw [Za Zg,Zb,if_pos (by decide),Za x1,Za x2,Za Zp,Zb,if_neg (by simp [ha]),Za Zt,w1]
   rfl
  by_cases hc : c=0
  ·have s2 : c3 (Jp.l1 (run Tryz.prog np lvs n)) [v,iv 2,.int .i64 1] X=some (.nrm [v,iv 2,.int .i64 2],X):=by
    rw [ZR]
    unfold Jp.l1
    rw [Za Zg,Zb,if_pos (by decide),Za x3,Za x4,Za Zp,Zb,if_neg (by simp [hc]),Za Zt,w2]
    rfl
   have s3 : c3 (Jp.l1 (run Tryz.prog np lvs n)) [v,iv 2,.int .i64 2] X=some (.ext 0 [],X):=by
    rw [ZR]
    unfold Jp.l1
    rw [Za Zg,Zb,if_neg (by decide)]
    rfl
   rw [ZS ((Zu s1).trans ((Zu s2).trans (ZI s3))),Zv,hc]
   rfl
  ·have s2 : c3 (Jp.l1 (run Tryz.prog np lvs n)) [v,iv 2,.int .i64 1] X=some (.ret (iv c),X):=by
    rw [ZR]
    unfold Jp.l1
    rw [Za Zg,Zb,if_pos (by decide),Za x3,Za x4,Za Zp,Zb,if_pos (by simp [hc])]
    rfl
   rw [QM ((Zu s1).trans (Z8 s2))]
   rfl
 ·rw [if_neg ha]
  have s1 : c3 (Jp.l1 (run Tryz.prog np lvs n)) [v,iv 2,.int .i64 0] X=some (.ret (iv a),X):=by
   rw [ZR]
   unfold Jp.l1
   rw [Za Zg,Zb,if_pos (by decide),Za x1,Za x2,Za Zp,Zb,if_pos (by simp [ha])]
   rfl
  rw [QM (Z8 s1)]
  rfl
theorem ZuM {a c : Int} (H : Zc) : bsl 1 2 (.int .i64 0) [(0,1,iv a),(1,1,iv c)] H=some (.slice (some ⟨H.length,0,none⟩) 2 2,H++[.cells [iv a,iv c] 1 false false]):=rfl
theorem Zxc {a c : List UInt8} {H : Zc} : bop .str .lss (strv a) (strv c) H=some (.bool (decide (a < c)),H):=by
 rw [← bytesLess_eq]
 show (sop .lss (⟨a.toArray⟩ : ByteArray) (⟨c.toArray⟩ : ByteArray)).map (·,H)=_
 unfold sop
 rw [Kd,Kd]
 rfl
theorem ZrE {a c : List UInt8} {H : Zc} : bop .str .geq (strv a) (strv c) H=some (.bool (!decide (a < c)),H):=by
 rw [← bytesLess_eq]
 show (sop .geq (⟨a.toArray⟩ : ByteArray) (⟨c.toArray⟩ : ByteArray)).map (·,H)=_
 unfold sop
 rw [Kd,Kd]
 rfl
theorem Zw2 {a c : List UInt8} {H : Zc} : bop .str .gtr (strv a) (strv c) H=some (.bool (decide (c < a)),H):=by
 have h : (!(Op.bytesLess a c || a==c))=decide (c < a):=by
  rw [bytesLess_eq,Bool.eq_iff_iff]
  simp only [Bool.not_eq_true',Bool.or_eq_false_iff,decide_eq_false_iff_not,beq_eq_false_iff_ne,decide_eq_true_eq]
  constructor
  ·rintro ⟨h1,h2⟩
   rcases Zih a c with h4 | h4 | h4
   ·exact absurd h4 h1
   ·exact absurd h4 h2
   ·exact h4
  ·intro h
   exact ⟨List.lt_asymm h,by rintro rfl;exact List.lt_irrefl _ h⟩
 rw [← h]
 show (sop .gtr (⟨a.toArray⟩ : ByteArray) (⟨c.toArray⟩ : ByteArray)).map (·,H)=_
 unfold sop
 rw [Kd,Kd]
 rfl
theorem Zqx {a : List UInt8} : R (n+1) YK [strv a] X=some (.bool false,X):=by
 rw [R,ZiC rfl]
 unfold ZbO
 rw [Za ZbC]
 simp [ret]
theorem ZsN {a c : List UInt8} : R (n+3) JB [strv a,strv c] X=some (iv (Zbn a c),X):=by
 have e0 : run Tryz.prog np lvs (n+1) YK [strv a] X=_:=Zqx
 have e1 : run Tryz.prog np lvs (n+1) YK [strv c] X=_:=Zqx
 have e2 : run Tryz.prog np lvs (n+2) Wt [strv a,strv c] X=some (iv (Zbn a c),X):=by
  rw [Zgt rfl]
  unfold ZaV Zbn
  rw [Za e0,Za e1,Zb,if_neg (by simp),Zb,if_neg (by simp),Za Zxc,Zb]
  by_cases h1 : a < c
  ·rw [if_pos (by simpa using h1),if_pos h1];rfl
  ·rw [if_neg (by simpa using h1),Za Zw2,Zb,if_neg h1]
   by_cases h2 : c < a
   ·rw [if_pos (by simpa using h2),if_pos h2];rfl
   ·rw [if_neg (by simpa using h2),if_neg h2];rfl
 rw [R,Zle rfl]
 unfold ZdF
 rw [Za e2]
 rfl
theorem ZvX {a c : List UInt8} : decide (Zbn a c≥0)=!decide (a < c):=by
 unfold Zbn
 by_cases h1 : a < c
 ·simp [h1]
 ·by_cases h2 : c < a <;> simp [h1,h2]
end
end Go.Proofs.YtedkoimihknggaaGreatDoor.A

namespace Go.Proofs.YtedkoimihknggaaGreatDoor.A
set_option linter.unusedVariables false
set_option linter.unusedSimpArgs false
open Go.Proofs Go.Proofs.YtedkoimihknggaaGreatDoor
section
variable {H0 H X : Zc} {n p d b : Nat} {u : Zm} {us : List Zm} {sl dv : Value}
def upB (prev : Option (List UInt8)) (u : Zm) : Bool:=match prev with | none=>true | some p=>decide (p < u.nm)
theorem Zfj {p : Option (List UInt8)} {l : List Zm} : Zfu p (u :: l)=(upB p u && Zfu (some u.nm) l):=rfl
theorem Zrg {k : Nat} (hk : us[k]?=some u) : ZeQ us (k+1)=some u.nm:=by
 unfold ZeQ
 rw [if_neg (by omega),Nat.add_sub_cancel,hk];rfl
theorem ZrW : ZeQ us 0=none:=rfl
end
end Go.Proofs.YtedkoimihknggaaGreatDoor.A

namespace Go.Proofs.YtedkoimihknggaaGreatDoor.A
set_option linter.unusedVariables false
set_option linter.unusedSimpArgs false
open Go.Proofs Go.Proofs.YtedkoimihknggaaGreatDoor
abbrev YG:=List UInt8 × List UInt8 × List UInt8 × Bool × List (List UInt8)
def ZG (u : Zm) : YG:=(u.nm,u.hs,u.ml,u.ds,u.gs)
section
variable {H0 H X : Zc} {n p p1 p2 d b : Nat} {u w : Zm} {us ws : List Zm} {a c : Value}
theorem Zn5 (h1 : Sl X u.gv (u.gs.map strv)) (h2 : Sl X w.gv (w.gs.map strv)) (hl : u.gs.length=w.gs.length) (hb : u.gs.length≤1000000) (c1 : X[p1]?=some (.cells u.cells 1 false false)) (c2 : X[p2]?=some (.cells w.cells 1 false false)) : ∀ (t j : Nat),u.gs.length - j=t→j≤u.gs.length→
  Zk (c4 (YV.l1 (R n))) [pt p1,pt p2,iv u.gs.length,iv j] X=some (if u.gs.drop j=w.gs.drop j then .ext 0 [] else .ret (.bool false),X)
 | 0,j,ht,hj=>by
  rw [List.drop_eq_nil_of_le (by omega),List.drop_eq_nil_of_le (by omega),if_pos rfl]
  refine ZI ?_
  rw [ZB]
  unfold YV.l1
  rw [Za Zg,Zb,if_neg (by simp;omega)]
  rfl
 | t+1,j,ht,hj=>by
  have hj1 : j < u.gs.length:=by omega
  have hj2 : j < w.gs.length:=by omega
  have hlt : (j : Int) < u.gs.length:=by omega
  have g1:=List.getElem?_eq_getElem hj1
  have g2:=List.getElem?_eq_getElem hj2
  have d1:=List.drop_eq_getElem_cons hj1
  have d2:=List.drop_eq_getElem_cons hj2
  generalize u.gs[j]=x at g1 d1
  generalize w.gs[j]=y at g2 d2
  have x1:=h1.ix (i:=j) (by simpa using hj1) .i64 X
  have x2:=h1.ldx (JF g1)
  have y1:=h2.ix (i:=j) (by simpa using hj2) .i64 X
  have y2:=h2.ldx (JF g2)
  have a4 : ld1 (pa p1 4) X=some (u.gv,X):=ZV c1 rfl
  have b4 : ld1 (pa p2 4) X=some (w.gv,X):=ZV c2 rfl
  have q1 : bop .str .neq (strv x) (strv y) X=some (.bool (!(x==y)),X):=ZbC
  rw [d1,d2]
  by_cases hxy : x=y
  ·subst hxy
   have ih:=Zn5 h1 h2 hl hb c1 c2 t (j+1) (by omega) (by omega)
   have hi : (x :: u.gs.drop (j+1)=x :: w.gs.drop (j+1))↔(u.gs.drop (j+1)=w.gs.drop (j+1)):=by simp
   simp only [hi]
   refine (Zu ?_).trans ih
   rw [ZB]
   unfold YV.l1
   rw [Za Zg,Zb,if_pos (by simpa using hlt),Za Zi,Za a4,Za x1,Za x2,Za Zi,Za b4,Za y1,Za y2,Za q1,Zb,if_neg (by simp),Za Zt,Qm (by omega)]
   rfl
  ·rw [if_neg (by simp [hxy])]
   refine Z8 ?_
   rw [ZB]
   unfold YV.l1
   rw [Za Zg,Zb,if_pos (by simpa using hlt),Za Zi,Za a4,Za x1,Za x2,Za Zi,Za b4,Za y1,Za y2,Za q1,Zb,if_pos (by simp [hxy])]
   rfl
theorem ZoV {u : Zm} (h : oneCell u.gv=true) : alc 1 (.agg u.cells.toArray) X=some (pt X.length,X++[.cells u.cells 1 false false]):=by
 rw [QY]
 exact if_pos (show u.cells.toArray.toList.all oneCell=true by simp only [Zm.cells,List.all_cons,h];rfl)
theorem ZvR (h1 : Sl X u.gv (u.gs.map strv)) (h2 : Sl X w.gv (w.gs.map strv)) (o1 : oneCell u.gv=true) (o2 : oneCell w.gv=true) (hb1 : u.gs.length≤1000000) (hb2 : w.gs.length≤1000000) :
  ∃ X',R (n+1) Zc7 [.agg u.cells.toArray,.agg w.cells.toArray] X=some (.bool (decide (ZG u=ZG w)),X')∧HLe X X':=by
 have e1:=ZoV (X:=X) o1
 have e2:=ZoV (X:=X++[.cells u.cells 1 false false]) o2
 have k1 : HLe X (X++[Zd.cells u.cells 1 false false]++[Zd.cells w.cells 1 false false]):=(HLe.app _ _).trans (.app _ _)
 have c1 : (X++[Zd.cells u.cells 1 false false]++[Zd.cells w.cells 1 false false])[X.length]?=some (.cells u.cells 1 false false):=Zcu
 have c2 : (X++[Zd.cells u.cells 1 false false]++[Zd.cells w.cells 1 false false])[(X++[Zd.cells u.cells 1 false false]).length]?=some (.cells w.cells 1 false false):=Zx
 generalize X++[Zd.cells u.cells 1 false false]++[Zd.cells w.cells 1 false false]=X2 at e2 k1 c1 c2
 generalize (X++[Zd.cells u.cells 1 false false]).length=p2 at e2 c2
 generalize X.length=p1 at e1 c1
 have a0 : ∀ f x,u.cells[f]?=some x→ld1 (pa p1 f) X2=some (x,X2):=fun f x h=>ZV c1 h
 have b0 : ∀ f x,w.cells[f]?=some x→ld1 (pa p2 f) X2=some (x,X2):=fun f x h=>ZV c2 h
 have q0 : ∀ x y : List UInt8,bop .str .neq (strv x) (strv y) X2=some (.bool (decide (x≠y)),X2):=fun x y=>by
  rw [ZbC];by_cases h : x=y <;> simp [h]
 have q1 : bop .bool .neq (.bool u.ds) (.bool w.ds) X2=some (.bool (decide (u.ds≠w.ds)),X2):=by
  rw [Jy];cases u.ds <;> cases w.ds <;> rfl
 have q2 : bop .int .neq (iv u.gs.length) (iv w.gs.length) X2=some (.bool (decide (u.gs.length≠w.gs.length)),X2):=by
  rw [Zp];by_cases h : u.gs.length=w.gs.length
  ·simp [h]
  ·have : ((u.gs.length : Int) !=w.gs.length)=true:=by rw [bne_iff_ne];omega
   rw [this];simp [h]
 have g1:=h1.mono k1
 have g2:=h2.mono k1
 have l1 : ZC u.gv X2=some (iv u.gs.length,X2):=by have:=g1.len (H':=X2);rwa [List.length_map] at this
 have l2 : ZC w.gv X2=some (iv w.gs.length,X2):=by have:=g2.len (H':=X2);rwa [List.length_map] at this
 refine ⟨X2,?_,k1⟩
 rw [R,Znt rfl]
 unfold YV
 rw [Za e1,Za e2,Za Zi,Za (a0 0 _ rfl),Za Zi,Za (b0 0 _ rfl),Za (q0 _ _)]
 by_cases n1 : u.nm=w.nm
 rotate_left
 ·rw [decide_eq_true n1,Za (g_r.trans (if_neg (by simp)))]
  simp only [List.replicate]
  rw [ZM,Za Zh]
  simp only [cond_true]
  rw [Za (g_r.trans (if_neg (by simp)))]
  simp only [List.replicate]
  rw [ZM,Za Zh]
  simp only [cond_true]
  rw [Za (g_r.trans (if_neg (by simp)))]
  simp only [List.replicate]
  rw [ZM,Za Zh]
  simp only [cond_true]
  rw [Za (g_r.trans (if_neg (by simp)))]
  simp only [List.replicate]
  rw [JH,Za Zh]
  simp only [cond_true]
  rw [Zb,if_pos rfl,decide_eq_false (fun e=>n1 (congrArg (·.1) e))]
  rfl
 rw [decide_eq_false (fun h=>h n1),ZL,Zf,Za Zi,Zf,Za (a0 1 _ rfl),Zf,Za Zi,Zf,Za (b0 1 _ rfl),Zf,Za (q0 _ _),ZO,ZM,Za Zh]
 simp only [cond_false]
 by_cases n2 : u.hs=w.hs
 rotate_left
 ·rw [decide_eq_true n2,Za (g_r.trans (if_neg (by simp)))]
  simp only [List.replicate]
  rw [ZM,Za Zh]
  simp only [cond_true]
  rw [Za (g_r.trans (if_neg (by simp)))]
  simp only [List.replicate]
  rw [ZM,Za Zh]
  simp only [cond_true]
  rw [Za (g_r.trans (if_neg (by simp)))]
  simp only [List.replicate]
  rw [JH,Za Zh]
  simp only [cond_true]
  rw [Zb,if_pos rfl,decide_eq_false (fun e=>n2 (congrArg (·.2.1) e))]
  rfl
 rw [decide_eq_false (fun h=>h n2),ZL,Zf,Za Zi,Zf,Za (a0 2 _ rfl),Zf,Za Zi,Zf,Za (b0 2 _ rfl),Zf,Za (q0 _ _),ZO,ZM,Za Zh]
 simp only [cond_false]
 by_cases n3 : u.ml=w.ml
 rotate_left
 ·rw [decide_eq_true n3,Za (g_r.trans (if_neg (by simp)))]
  simp only [List.replicate]
  rw [ZM,Za Zh]
  simp only [cond_true]
  rw [Za (g_r.trans (if_neg (by simp)))]
  simp only [List.replicate]
  rw [JH,Za Zh]
  simp only [cond_true]
  rw [Zb,if_pos rfl,decide_eq_false (fun e=>n3 (congrArg (·.2.2.1) e))]
  rfl
 rw [decide_eq_false (fun h=>h n3),ZL,Zf,Za Zi,Zf,Za (a0 3 _ rfl),Zf,Za Zi,Zf,Za (b0 3 _ rfl),Zf,Za q1,ZO,ZM,Za Zh]
 simp only [cond_false]
 by_cases n4 : u.ds=w.ds
 rotate_left
 ·rw [decide_eq_true n4,Za (g_r.trans (if_neg (by simp)))]
  simp only [List.replicate]
  rw [JH,Za Zh]
  simp only [cond_true]
  rw [Zb,if_pos rfl,decide_eq_false (fun e=>n4 (congrArg (·.2.2.2.1) e))]
  rfl
 rw [decide_eq_false (fun h=>h n4),ZL,Zf,Za Zi,Zf,Za (a0 4 _ rfl),Zf,Za l1,Zf,Za Zi,Zf,Za (b0 4 _ rfl),Zf,Za l2,Zf,Za q2,ZO,JH,Za Zh]
 simp only [cond_false]
 by_cases n5 : u.gs.length=w.gs.length
 rotate_left
 ·rw [decide_eq_true n5,Zb,if_pos rfl,decide_eq_false (fun e=>n5 (congrArg (·.2.2.2.2.length) e))]
  rfl
 rw [decide_eq_false (fun h=>h n5),Zb,if_neg (by simp),Za Zi,Za (a0 4 _ rfl),Za l1]
 have e3:=Zn5 (n:=n) g1 g2 n5 hb1 c1 c2 u.gs.length 0 (by omega) (by omega)
 rw [List.drop_zero,List.drop_zero] at e3
 have e3 : Zk (c4 (YV.l1 (R n))) [pt p1,pt p2,iv u.gs.length,.int .i64 0] X2=_:=e3
 by_cases n6 : u.gs=w.gs
 ·rw [if_pos n6] at e3
  rw [ZS e3,Zv,decide_eq_true (show ZG u=ZG w by unfold ZG;rw [n1,n2,n3,n4,n6])]
  rfl
 ·rw [if_neg n6] at e3
  rw [QM e3,decide_eq_false (fun e=>n6 (congrArg (·.2.2.2.2) e))]
  rfl
def Q0 (H : Zc) (sl : Value) (us : List Zm) : Prop:=SlN 5 H sl (us.map Zm.cells)∧∀ u∈us,Sl H u.gv (u.gs.map strv)∧oneCell u.gv=true∧u.gs.length≤1000000
theorem Q0.mono (h : Q0 H a us) (hl : HLe H X) : Q0 X a us:=⟨h.1.mono hl,fun u hu=>⟨(h.2 u hu).1.mono hl,(h.2 u hu).2⟩⟩
theorem KV.s (h : KV H a us) (hb : ∀ u∈us,u.gs.length≤1000000) : Q0 H a us:=⟨h.1,fun u hu=>⟨GV.sl (h.2 u hu),GV.one (h.2 u hu),hb u hu⟩⟩
theorem Zor (hn : us.length≤1000000) (hl : us.length=ws.length) (ha : Q0 H0 a us) (hc : Q0 H0 c ws) : ∀ (t j : Nat) (X : Zc),us.length - j=t→j≤us.length→HLe H0 X→
  ∃ X',Zk (c4 (QQ.l1 (R (n+1)))) [a,c,iv us.length,iv j] X=some (if (us.drop j).map ZG=(ws.drop j).map ZG then .ext 0 [] else .ret (.bool false),X')∧HLe H0 X'
 | 0,j,X,ht,hj,hle=>by
  rw [List.drop_eq_nil_of_le (by omega),List.drop_eq_nil_of_le (by omega),if_pos rfl]
  refine ⟨X,ZI ?_,hle⟩
  rw [ZB]
  unfold QQ.l1
  rw [Za Zg,Zb,if_neg (by simp;omega)]
  rfl
 | t+1,j,X,ht,hj,hle=>by
  have hj1 : j < us.length:=by omega
  have hj2 : j < ws.length:=by omega
  have hlt : (j : Int) < us.length:=by omega
  have g1:=List.getElem?_eq_getElem hj1
  have g2:=List.getElem?_eq_getElem hj2
  have d1:=List.drop_eq_getElem_cons hj1
  have d2:=List.drop_eq_getElem_cons hj2
  generalize us[j]=u at g1 d1
  generalize ws[j]=w at g2 d2
  have hr1 : (us.map Zm.cells)[j]?=some u.cells:=by rw [List.getElem?_map,g1];rfl
  have hr2 : (ws.map Zm.cells)[j]?=some w.cells:=by rw [List.getElem?_map,g2];rfl
  have hf1:=fun {K : Value→M Out}=>(ha.1.mono hle).fetch (k:=K) hr1 (by omega) .i64
  have hf2:=fun {K : Value→M Out}=>(hc.1.mono hle).fetch (k:=K) hr2 (by omega) .i64
  obtain ⟨p1,p2,p3⟩:=(ha.mono hle).2 u (List.mem_of_getElem? g1)
  obtain ⟨r1,r2,r3⟩:=(hc.mono hle).2 w (List.mem_of_getElem? g2)
  obtain ⟨X1,e1,l1⟩:=ZvR (n:=n) p1 r1 p2 r2 p3 r3
  rw [d1,d2]
  by_cases hk : ZG u=ZG w
  ·rw [decide_eq_true hk] at e1
   obtain ⟨X2,e2,l2⟩:=Zor hn hl ha hc t (j+1) X1 (by omega) (by omega) (hle.trans l1)
   have hi : ((u :: us.drop (j+1)).map ZG=(w :: ws.drop (j+1)).map ZG)↔((us.drop (j+1)).map ZG=(ws.drop (j+1)).map ZG):=by simp [hk]
   simp only [hi]
   refine ⟨X2,(Zu ?_).trans e2,l2⟩
   rw [ZB]
   unfold QQ.l1
   rw [Za Zg,Zb,if_pos (by simpa using hlt),hf1,hf2,Za e1,Za ZN,Zb,if_neg (by simp),Za Zt,Qm (by omega)]
   rfl
  ·rw [decide_eq_false hk] at e1
   rw [if_neg (by simp [hk])]
   refine ⟨X1,Z8 ?_,hle.trans l1⟩
   rw [ZB]
   unfold QQ.l1
   rw [Za Zg,Zb,if_pos (by simpa using hlt),hf1,hf2,Za e1,Za ZN,Zb,if_pos (by simp)]
   rfl
theorem Zth (hn : us.length≤1000000) (hn2 : ws.length≤1000000) (ha : Q0 X a us) (hc : Q0 X c ws) : ∃ X',R (n+2) Kn [a,c] X=some (.bool (decide (us.map ZG=ws.map ZG)),X')∧HLe X X':=by
 have h1 : ZC a X=some (iv us.length,X):=by have:=ha.1.len (H':=X);rwa [List.length_map] at this
 have h2 : ZC c X=some (iv ws.length,X):=by have:=hc.1.len (H':=X);rwa [List.length_map] at this
 have f1 : ∀ v H',QQ (R (n+1)) a c X=some (v,H')→R (n+2) Kn [a,c] X=some (v,H'):=fun v H' hr=>by rw [R,ZhF rfl];exact hr
 by_cases hl : us.length=ws.length
 ·obtain ⟨X',e,l⟩:=Zor (n:=n) hn hl ha hc us.length 0 X (by omega) (by omega) (.refl _)
  have e : Zk (c4 (QQ.l1 (R (n+1)))) [a,c,iv us.length,.int .i64 0] X=_:=e
  rw [List.drop_zero,List.drop_zero] at e
  refine ⟨X',f1 _ _ ?_,l⟩
  unfold QQ
  rw [Za h1,Za h2,Za Zp,Zb,if_neg (by simp [hl]),Za h1]
  by_cases hk : us.map ZG=ws.map ZG
  ·rw [if_pos hk] at e
   rw [ZS e,Zv,decide_eq_true hk];rfl
  ·rw [if_neg hk] at e
   rw [QM e,decide_eq_false hk];rfl
 ·refine ⟨X,f1 _ _ ?_,.refl _⟩
  unfold QQ
  have hk : ¬ us.map ZG=ws.map ZG:=fun e=>hl (by have:=congrArg List.length e;simpa using this)
  have hne : ((us.length : Int) !=ws.length)=true:=by rw [bne_iff_ne];omega
  rw [Za h1,Za h2,Za Zp,Zb,if_pos hne,decide_eq_false hk]
  rfl
end
end Go.Proofs.YtedkoimihknggaaGreatDoor.A

namespace Go.Proofs.YtedkoimihknggaaGreatDoor.A
set_option linter.unusedVariables false
set_option linter.unusedSimpArgs false
open Go.Proofs Go.Proofs.YtedkoimihknggaaGreatDoor
section
variable {H H' : Zc} {n d b p q : Nat} {m : Kz} {k s : List UInt8}
end
end Go.Proofs.YtedkoimihknggaaGreatDoor.A

namespace Go.Proofs.YtedkoimihknggaaGreatDoor.A
set_option linter.unusedVariables false
set_option linter.unusedSimpArgs false
open Go.Proofs Go.Proofs.YtedkoimihknggaaGreatDoor
structure Zkj where
 kd : Nat
 nm : List UInt8
 hs : List UInt8
abbrev Zkj.cells (a : Zkj) : List Value:=[.int .u8 a.kd,strv a.nm,strv a.hs]
def Zgd (H : Zc) (sl : Value) (ac : List Zkj) : Prop:=SlN 3 H sl (ac.map Zkj.cells)∧∀ a∈ac,a.kd≤255
section
variable {H H' : Zc} {sl : Value} {ac : List Zkj} {n : Nat}
theorem Zgd.len (h : Zgd H sl ac) : ZC sl H'=some (iv ac.length,H'):=by
 have:=h.1.len (H':=H')
 rwa [List.length_map] at this
theorem Zgd.mono (h : Zgd H sl ac) (hl : HLe H H') : Zgd H' sl ac:=⟨h.1.mono hl,h.2⟩
theorem Zgd.fetch {β : Type} {k : Value→M β} (h : Zgd H sl ac) {j : Nat} {a : Zkj} (hj : ac[j]?=some a) :
  bind (ixa 3 sl (iv j)) (fun p=>bind (ldA 3 p) fun v=>bind (alc 1 (.agg #[.int .u8 0,.string ⟨#[]⟩,.string ⟨#[]⟩])) fun q=>bind (stA 3 q v) fun _=>k q) H=k (pt H.length) (H++[.cells a.cells 1 false false]):=by
 have hr : (ac.map Zkj.cells)[j]?=some a.cells:=by rw [List.getElem?_map,hj];rfl
 rw [h.1.fetch hr (by omega) .i64]
 exact Zcl (n:=3) (zs:=[.int .u8 0,.string ⟨#[]⟩,.string ⟨#[]⟩]) (r:=a.cells) rfl rfl rfl rfl
end
end Go.Proofs.YtedkoimihknggaaGreatDoor.A

namespace Go.Proofs.YtedkoimihknggaaGreatDoor.A
set_option linter.unusedVariables false
set_option linter.unusedSimpArgs false
open Go.Proofs Go.Proofs.YtedkoimihknggaaGreatDoor
section
variable {H : Zc} {n : Nat} {f v : Value} {p : List UInt8→Bool} {l : List (List UInt8)} {q : List Nat} {Q : Zc→Prop}
theorem HLe.stepq {X X' : Zc} (h : HLe X X') : Zw q X q X':=h.step.more (by simp) (fun j hj=>.inl hj)
theorem ZqG (hl : l.length≤1000000) (hQ : ∀ X X',Q X→HLe X X'→Q X') (hf : ∀ X,Q X→∀ s∈l,∃ X',YR (R n) f [strv s] X=some (.bool (p s),X')∧HLe X X') : ∀ (t k : Nat) (X : Zc),l.length - k=t→k≤l.length→Q X→Zq X v (l.map strv) q→
  ∃ X',Zk (c4 (Zz.l1 (R n))) [v,f,iv l.length,iv k] X=some (match (l.drop k).findIdx? p with | some i=>.ret (iv (k+i : Nat)) | none=>.ext 0 [],X')∧HLe X X'
 | 0,k,X,ht,hk,hq,hr=>by
  have : k=l.length:=by omega
  subst this
  rw [List.drop_length]
  refine ⟨X,ZI ?_,.refl _⟩
  rw [ZB]
  unfold Zz.l1
  rw [Za Zg,Zb,if_neg (by simp)]
  rfl
 | t+1,k,X,ht,hk,hq,hr=>by
  have hkl : k < l.length:=by omega
  have hlt : (k : Int) < l.length:=by omega
  have hg:=List.getElem?_eq_getElem hkl
  have hm : l[k]∈l:=List.getElem_mem hkl
  have hd:=List.drop_eq_getElem_cons hkl
  generalize l[k]=x at hg hd hm
  have x1:=hr.ix (i:=k) (by simpa using hkl) .i64 X
  have x2:=hr.ldx (JF hg)
  obtain ⟨X1,x3,l1⟩:=hf X hq x hm
  obtain ⟨X2,ih,l2⟩:=ZqG hl hQ hf t (k+1) X1 (by omega) (by omega) (hQ _ _ hq l1) (hr.step l1.step (by simp))
  rw [hd,List.findIdx?_cons]
  cases hp : p x
  ·rw [hp] at x3
   refine ⟨X2,(Zu ?_).trans (ih.trans ?_),l1.trans l2⟩
   ·rw [ZB]
    unfold Zz.l1
    rw [Za Zg,Zb,if_pos (by simpa using hlt),Za x1,Za x2,Za x3,Zb,if_neg (by simp),Za Zt,Qm (by omega)]
    rfl
   ·cases (l.drop (k+1)).findIdx? p with
    | none=>rfl
    | some i=>simp only [Bool.false_eq_true,if_false,Option.map_some];rw [show k+1+i=k+(i+1) by omega]
  ·rw [hp] at x3
   refine ⟨X1,Z8 ?_,l1⟩
   rw [ZB]
   unfold Zz.l1
   rw [Za Zg,Zb,if_pos (by simpa using hlt),Za x1,Za x2,Za x3,Zb,if_pos rfl]
   rfl
theorem Zs6 (hr : Zq H v (l.map strv) q) (hl : l.length≤1000000) (hQ : ∀ X X',Q X→HLe X X'→Q X') (hf : ∀ X,Q X→∀ s∈l,∃ X',YR (R n) f [strv s] X=some (.bool (p s),X')∧HLe X X') (h0 : Q H) :
  ∃ H',R (n+1) Jt [v,f] H=some (match l.findIdx? p with | some i=>iv i | none=>iv (-1),H')∧HLe H H':=by
 obtain ⟨H',e,le⟩:=ZqG hl hQ hf l.length 0 H (by omega) (by omega) h0 hr
 rw [List.drop_zero] at e
 have e : Zk (c4 (Zz.l1 (R n))) [v,f,iv l.length,.int .i64 0] H=_:=e
 have hlen : ZC v H=some (iv l.length,H):=by have:=hr.rd.len (H':=H);simpa using this
 refine ⟨H',?_,le⟩
 rw [R,Zb2 rfl]
 unfold Zz
 rw [Za hlen]
 cases h : l.findIdx? p with
 | none=>rw [h] at e;rw [ZS e,Zv];rfl
 | some i=>
  rw [h] at e
  rw [QM e]
  simp [ret]
theorem ZlZ (hl : l.length≤1000000) (hQ : ∀ X X',Q X→Zw q X q X'→Q X') (hf : ∀ X,Q X→∀ s∈l,∃ X',YR (R n) f [strv s] X=some (.bool (p s),X')∧HLe X X') : ∀ (t j i : Nat) (cs : List (List UInt8)) (X : Zc),l.length - j=t→j≤l.length→i≤j→cs.length=l.length→cs.drop j=l.drop j→Zq X v (cs.map strv) q→Q X→
  ∃ (X' : Zc) (cs' : List (List UInt8)),Zk (c4 (ZQ.l1 (R n))) [v,f,iv i,iv j] X=some (.ext 0 [v,iv (i+((l.drop j).filter fun s=>!p s).length : Nat)],X')∧Zq X' v (cs'.map strv) q∧cs'.length=l.length∧
   cs'.take (i+((l.drop j).filter fun s=>!p s).length)=cs.take i++(l.drop j).filter (fun s=>!p s)∧Zw q X q X'
 | 0,j,i,cs,X,ht,hj,hi,hc,hd,hr,hq=>by
  have : j=l.length:=by omega
  subst this
  rw [List.drop_length]
  have hlen : ZC v X=some (iv l.length,X):=by have:=hr.rd.len (H':=X);simpa [hc] using this
  refine ⟨X,cs,ZI ?_,hr,hc,by simp,.refl _ _⟩
  rw [ZB]
  unfold ZQ.l1
  rw [Za hlen,Za Zg,Zb,if_neg (by simp)]
  rfl
 | t+1,j,i,cs,X,ht,hj,hi,hc,hd,hr,hq=>by
  have hjl : j < l.length:=by omega
  have hlt : (j : Int) < l.length:=by omega
  have hg:=List.getElem?_eq_getElem hjl
  have hm : l[j]∈l:=List.getElem_mem hjl
  have hdl:=List.drop_eq_getElem_cons hjl
  generalize l[j]=x at hg hdl hm
  have hgc : cs[j]?=some x:=by
   have h1 : (cs.drop j)[0]?=(l.drop j)[0]?:=by rw [hd]
   simpa [hg] using h1
  have hlen : ZC v X=some (iv l.length,X):=by have:=hr.rd.len (H':=X);simpa [hc] using this
  have x1:=hr.ix (i:=j) (by simpa [hc] using hjl) .i64 X
  have x2:=hr.ldx (JF hgc)
  obtain ⟨Y,x3,ly⟩:=hf X hq x hm
  have hqy:=hQ _ _ hq (ly.stepq (q:=q))
  have hry:=hr.step ly.step (by simp)
  have hd1 : cs.drop (j+1)=l.drop (j+1):=by
   rw [← List.drop_drop,hd,List.drop_drop]
  rw [hdl,List.filter_cons]
  cases hp : p x
  ·rw [hp] at x3
   have x4:=hry.ix (i:=i) (by simp [hc];omega) .i64 Y
   obtain ⟨X1,x5,r1,s1,_⟩:=hry.stx (i:=i) (u:=strv x) (by simp [hc];omega) rfl
   have hset : (cs.map strv).set i (strv x)=(cs.set i x).map strv:=by rw [List.map_set]
   rw [hset] at r1
   obtain ⟨X',cs',e,r',hc',ht',s'⟩:=ZlZ hl hQ hf t (j+1) (i+1) (cs.set i x) X1 (by omega) (by omega) (by omega) (by simpa using hc) (by rw [List.drop_set_of_lt (by omega)];exact hd1) r1 (hQ _ _ hqy s1)
   have hn : i+1+((l.drop (j+1)).filter fun s=>!p s).length=i+(((l.drop (j+1)).filter fun s=>!p s).length+1):=by omega
   rw [hn] at e ht'
   simp only [Bool.not_false,if_true,List.length_cons]
   refine ⟨X',cs',(Zu ?_).trans e,r',hc',?_,(ly.stepq.trans s1).trans s'⟩
   ·rw [ZB]
    unfold ZQ.l1
    rw [Za hlen,Za Zg,Zb,if_pos (by simpa using hlt),Za x1,Za x2,Za x3,Za ZN]
    refine (QC (vs:=[v,f,iv ((i+1 : Nat) : Int),iv j]) (H':=X1) ?_).trans ?_
    ·rw [Zb,if_pos (by rfl),Za x4,Za x5,Za Zt,Qm (by omega)];rfl
    ·rw [ZB,Za Zt,Qm (by omega)];rfl
   ·rw [ht']
    have : (cs.set i x).take (i+1)=cs.take i++[x]:=by
     have hil : i < (cs.set i x).length:=by simp [hc];omega
     rw [List.take_succ_eq_append_getElem hil,List.take_set_of_le (Nat.le_refl _)]
     simp
    rw [this];simp
  ·rw [hp] at x3
   obtain ⟨X',cs',e,r',hc',ht',s'⟩:=ZlZ hl hQ hf t (j+1) i cs Y (by omega) (by omega) (by omega) hc hd1 hry hqy
   simp only [Bool.not_true,Bool.false_eq_true,if_false]
   refine ⟨X',cs',(Zu ?_).trans e,r',hc',ht',ly.stepq.trans s'⟩
   rw [ZB]
   unfold ZQ.l1
   rw [Za hlen,Za Zg,Zb,if_pos (by simpa using hlt),Za x1,Za x2,Za x3,Za ZN]
   refine (QC (vs:=[v,f,iv i,iv j]) (H':=Y) ?_).trans ?_
   ·rw [Zb,if_neg (by simp)];rfl
   ·rw [ZB,Za Zt,Qm (by omega)];rfl
theorem Znj (hr : Zq H v (l.map strv) q) (hl : l.length≤1000000) (hQ : ∀ X X',Q X→Zw q X q X'→Q X') (hf : ∀ X,Q X→∀ s∈l,∃ X',YR (R n) f [strv s] X=some (.bool (p s),X')∧HLe X X') (hf1 : ∀ X,Q X→∀ s∈l,∃ X',YR (R (n+1)) f [strv s] X=some (.bool (p s),X')∧HLe X X') (h0 : Q H) :
  ∃ H' v',R (n+2) QN [v,f] H=some (v',H')∧Zq H' v' ((l.filter fun s=>!p s).map strv) q∧Zw q H q H':=by
 obtain ⟨Y,e1,ly⟩:=Zs6 hr hl (fun X X' hq hx=>hQ X X' hq hx.stepq) hf h0
 have e1 : run Tryz.prog np lvs (n+1) Jt [v,f] H=_:=e1
 have hry:=hr.step ly.step (by simp)
 have hqy:=hQ _ _ h0 (ly.stepq (q:=q))
 have hfi:=ZgL (p:=p) (l:=l)
 have hrun : R (n+2) QN [v,f] H=ZQ (R (n+1)) v f H:=by rw [R,ZbL rfl]
 rw [hrun]
 unfold ZQ
 cases h : l.findIdx? p with
 | none=>
  rw [h] at e1 hfi
  refine ⟨Y,v,?_,by rw [hfi];exact hry,ly.stepq⟩
  rw [Za e1,Za ZJ,Zb,if_pos (by simp)]
  rfl
 | some i=>
  rw [h] at e1 hfi
  simp only at e1 hfi
  obtain ⟨X',cs',e2,r2,hc2,ht2,s2⟩:=ZlZ (n:=n+1) hl hQ hf1 (l.length - (i+1)) (i+1) i l Y rfl (by omega) (by omega) rfl rfl hry hqy
  have hle : ((l.drop (i+1)).filter fun s=>!p s).length≤l.length - (i+1):=by
   have:=List.length_filter_le (fun s=>!p s) (l.drop (i+1))
   simpa using this
  obtain ⟨a,X2,v',a1,a2,a3,a4,a5⟩:=Zsn r2 (i:=i+((l.drop (i+1)).filter fun s=>!p s).length) (by omega)
  refine ⟨X2,v',?_,by rw [hfi.1,← ht2];exact a4,(ly.stepq.trans s2).trans a5⟩
  rw [Za e1,Za ZJ,Zb,if_neg (by simp),Za Zt,Qm (by omega),ZS e2,Zv,ZW,Za a1,Za a2,Za a3]
  rfl
end
abbrev Tx:=List UInt8
def Asc (l : List Tx) : Prop:=l.Pairwise (· < ·)
theorem ZkF {a : Tx} : ¬ a < a:=List.lt_irrefl a
theorem Zl6 : ∀ {l l' : List Tx},Asc l→Asc l'→(∀ x,x∈l↔x∈l')→l=l'
 | [],[],_,_,_=>rfl
 | [],b :: l',_,_,h=>by have:=(h b).2 (by simp);cases this
 | a :: l,[],_,_,h=>by have:=(h a).1 (by simp);cases this
 | a :: l,b :: l',h1,h2,h=>by
  obtain ⟨a1,a2⟩:=List.pairwise_cons.1 h1
  obtain ⟨b1,b2⟩:=List.pairwise_cons.1 h2
  have hab : a=b:=by
   rcases List.mem_cons.1 ((h a).1 (by simp)) with e | e
   ·exact e
   ·rcases List.mem_cons.1 ((h b).2 (by simp)) with e' | e'
    ·exact e'.symm
    ·exact absurd (List.lt_trans (b1 a e) (a1 b e')) ZkF
  subst hab
  congr 1
  refine Zl6 a2 b2 fun x=>⟨fun hx=>?_,fun hx=>?_⟩
  ·rcases List.mem_cons.1 ((h x).1 (List.mem_cons_of_mem _ hx)) with e | e
   ·subst e;exact absurd (a1 _ hx) ZkF
   ·exact e
  ·rcases List.mem_cons.1 ((h x).2 (List.mem_cons_of_mem _ hx)) with e | e
   ·subst e;exact absurd (b1 _ hx) ZkF
   ·exact e
theorem Zdp {l : List Tx} (hn : l.Nodup) : Asc (Qk l):=by
 have h1 : (Qk l).Pairwise (fun a b=>leB a b=true):=List.pairwise_mergeSort (fun a b c h h'=>by
  simp only [leB,decide_eq_true_eq] at *
  exact List.le_trans h h') (fun a b=>by
  simp only [leB,Bool.or_eq_true,decide_eq_true_eq]
  exact List.le_total a b) l
 have h2 : (Qk l).Nodup:=((List.mergeSort_perm l _).nodup_iff).2 hn
 unfold Asc
 have h3:=h1.and h2
 refine h3.imp fun {a b} h=>?_
 obtain ⟨h4,h5⟩:=h
 simp only [leB,decide_eq_true_eq] at h4
 exact Decidable.byContradiction fun h6=>h5 (List.le_antisymm h4 (List.not_lt.1 h6))
theorem Wu {l : List Tx} {x : Tx} : x∈Qk l↔x∈l:=List.mem_mergeSort
structure Is (l : List Tx) (p : Tx→Prop) : Prop where
 asc : Asc l
 mem : ∀ x,x∈l↔p x
theorem Is.uniq {l l' : List Tx} {p p' : Tx→Prop} (h : Is l p) (h' : Is l' p') (hp : ∀ x,p x↔p' x) : l=l':=Zl6 h.asc h'.asc fun x=>(h.mem x).trans ((hp x).trans (h'.mem x).symm)
theorem Is.nil {l : List Tx} {p : Tx→Prop} (h : Is l p) : l=[]↔∀ x,¬ p x:=by
 constructor
 ·rintro rfl x hx;have:=(h.mem x).2 hx;cases this
 ·intro hx;exact List.eq_nil_iff_forall_not_mem.2 fun x hm=>hx x ((h.mem x).1 hm)
theorem Asc.filter {l : List Tx} (h : Asc l) (p : Tx→Bool) : Asc (l.filter p):=List.Pairwise.filter p h
end Go.Proofs.YtedkoimihknggaaGreatDoor.A
namespace Go.Proofs.YtedkoimihknggaaGreatDoor.A
set_option linter.unusedVariables false
set_option linter.unusedSimpArgs false
open Go.Proofs Go.Proofs.YtedkoimihknggaaGreatDoor
abbrev ZwM (s : Nat) : Value:=.map (some s)
abbrev ZnR (_ : Unit) : Value:=.agg #[]
abbrev Zgh:=List (Tx × Nat)
abbrev Zt7:=List (Tx × Unit)
abbrev Mem:=Tx→Tx→Bool
abbrev Ym (o : Nat) (G : Zgh) : List Nat:=o :: G.map (·.2)
abbrev Q7 (G : Zgh) : List Tx:=G.map (·.1)
structure Grp (X : Zc) (g o : Nat) (G : Zgh) (mem : Mem) (c : Nat) : Prop where
 cell : X[g]?=some (.cells [.map (some o)] 1 false false)
 mo : J8 ZwM X o G
 ms : ∀ p∈G,∃ S : Zt7,J8 ZnR X p.2 S∧(∀ n,(Zj n S).isSome=mem p.1 n)∧S.length≤c∧∀ q∈S,ZA q.1=true
 out : ∀ k n,mem k n=true→(Zj k G).isSome=true
 nod : (Ym o G).Nodup
 ok : ∀ p∈G,ZA p.1=true
 few : G.length≤6
theorem Zgn {α : Type} {k : Tx} : ∀ {m : List (Tx × α)},(Zj k m).isSome=decide (k∈m.map (·.1))
 | []=>rfl
 | p :: m=>by
  simp only [Zj,List.map_cons,List.mem_cons]
  by_cases h : p.1=k
  ·rw [if_pos h];simp [h]
  ·rw [if_neg h,Zgn]
   have : k≠p.1:=Ne.symm h
   simp [this]
section
variable {X X' : Zc} {n g o c c' : Nat} {G : Zgh} {mem mem' : Mem} {k m s t : Tx}
theorem Grp.isMap (h : Grp X g o G mem c) {j : Nat} (hj : j∈Ym o G) : j < X.length∧∀ cs es gr ro,X[j]?≠some (.cells cs es gr ro):=by
 have key : ∀ {α : Type} {enc : α→Value} {id : Nat} {mm : List (Tx × α)},J8 enc X id mm→id < X.length∧∀ cs es gr ro,X[id]?≠some (.cells cs es gr ro):=fun hm=>⟨hm.lt,fun cs es gr ro e=>by
  obtain ⟨es',_,h1 | h1⟩:=hm.ex
  ·obtain ⟨clk,h1,_⟩:=h1;rw [e] at h1;cases h1
  ·rw [e] at h1;cases h1⟩
 rcases List.mem_cons.1 hj with rfl | hj
 ·exact key h.mo
 ·obtain ⟨p,hp,rfl⟩:=List.mem_map.1 hj
  obtain ⟨S,hS,_⟩:=h.ms p hp
  exact key hS
theorem Grp.gnot (h : Grp X g o G mem c) : g∉Ym o G:=fun hj=>(h.isMap hj).2 _ _ _ _ h.cell
theorem Grp.glt (h : Grp X g o G mem c) : g < X.length:=Z6 h.cell
theorem Grp.step {o1 o2 : List Nat} (h : Grp X g o G mem c) (hs : Zw o1 X o2 X') (hg : g∉o1) (ho : ∀ j∈Ym o G,j∉o1) : Grp X' g o G mem c:=
 ⟨hs.get h.cell hg,h.mo.step hs (ho o (by simp)),fun p hp=>by
  obtain ⟨S,h1,h2⟩:=h.ms p hp
  exact ⟨S,h1.step hs (ho p.2 (List.mem_cons_of_mem _ (List.mem_map.2 ⟨p,hp,rfl⟩))),h2⟩,h.out,h.nod,h.ok,h.few⟩
theorem Grp.hle (h : Grp X g o G mem c) (hl : HLe X X') : Grp X' g o G mem c:=h.step hl.step (by simp) (by simp)
theorem Grp.more (h : Grp X g o G mem c) (hc : c≤c') (hm : ∀ k n,mem' k n=mem k n) : Grp X g o G mem' c':=
 ⟨h.cell,h.mo,fun p hp=>by
  obtain ⟨S,h1,h2,h3,h4⟩:=h.ms p hp
  exact ⟨S,h1,fun n=>(h2 n).trans (hm _ _).symm,Nat.le_trans h3 hc,h4⟩,fun k n hk=>h.out k n (by rw [← hm];exact hk),h.nod,h.ok,h.few⟩
theorem Grp.ldo (h : Grp X g o G mem c) : ld1 (pt g) X=some (.map (some o),X):=Zgj h.cell
theorem Grp.upd (h : Grp X g o G mem c) {id : Nat} {S' : Zt7} (hk : Zj k G=some id) (hm : J8 ZnR X' id S') (hs : Zw [id] X [id] X') (hn : ∀ q∈S',ZA q.1=true) (hc : S'.length≤c') (hcc : c≤c')
  (hmem : ∀ k' n,mem' k' n=if k'=k then (Zj n S').isSome else mem k' n) : Grp X' g o G mem' c':=by
 have hpm:=ZaQ hk
 have hnod:=h.nod
 simp only [List.nodup_cons] at hnod
 have hidm : id∈G.map (·.2):=List.mem_map.2 ⟨_,hpm,rfl⟩
 have hido : o≠id:=fun e=>hnod.1 (e ▸ hidm)
 have hidg : g≠id:=fun e=>h.gnot (e ▸ List.mem_cons_of_mem _ hidm)
 refine ⟨hs.get h.cell (by simpa using hidg),h.mo.step hs (by simpa using hido),fun p hp=>?_,fun k' n hk'=>?_,h.nod,h.ok,h.few⟩
 ·by_cases hpid : p.2=id
  ·have hpk : p.1=k:=by
    have h1 : Zj p.1 G=some p.2:=Zbv h.mo.nod hp
    have hinj : ∀ (G : Zgh),(G.map (·.2)).Nodup→p∈G→(k,id)∈G→p=(k,id):=by
     intro G hG h1 h2
     induction G with
     | nil=>cases h1
     | cons a G ih=>
      simp only [List.map_cons,List.nodup_cons,List.mem_map,not_exists,not_and] at hG
      rcases List.mem_cons.1 h1 with e1 | e1
      ·rcases List.mem_cons.1 h2 with e2 | e2
       ·rw [e1,e2]
       ·exact absurd (by rw [← e1];exact hpid.symm) (hG.1 _ e2)
      ·rcases List.mem_cons.1 h2 with e2 | e2
       ·exact absurd (by rw [← e2];exact hpid) (hG.1 _ e1)
       ·exact ih hG.2 e1 e2
    rw [hinj G hnod.2 hp hpm]
   exact ⟨S',by rw [hpid];exact hm,fun n=>by rw [hmem,if_pos hpk],hc,hn⟩
  ·obtain ⟨S,h1,h2,h3,h4⟩:=h.ms p hp
   have hpk : p.1≠k:=fun e=>hpid (by
    have h5 : Zj p.1 G=some p.2:=Zbv h.mo.nod hp
    rw [e,hk] at h5;exact (Option.some.inj h5).symm)
   exact ⟨S,h1.step hs (by simpa using hpid),fun n=>by rw [hmem,if_neg hpk];exact h2 n,Nat.le_trans h3 hcc,h4⟩
 ·rw [hmem] at hk'
  by_cases e : k'=k
  ·rw [e,hk];rfl
  ·rw [if_neg e] at hk';exact h.out k' n hk'
theorem Grp.step1 (h : Grp X g o G mem c) {id : Nat} (hk : Zj k G=some id) (hs : Zw [id] X [id] X') : Zw (Ym o G) X (Ym o G) X':=
 hs.more (fun j hj=>by
  have hj : j=id:=by simpa using hj
  subst hj
  exact List.mem_cons_of_mem _ (List.mem_map.2 ⟨_,ZaQ hk,rfl⟩)) (fun j hj=>.inl hj)
theorem Grp.set (h : Grp X g o G mem c) {id : Nat} (hk : Zj k G=some id) : ∃ S : Zt7,J8 ZnR X id S∧(∀ n,(Zj n S).isSome=mem k n)∧S.length≤c∧∀ q∈S,ZA q.1=true:=h.ms _ (ZaQ hk)
theorem Grp.key (h : Grp X g o G mem c) : (Zj k G).isSome=decide (k∈Q7 G):=Zgn
theorem Zm3 {v : Value} {l : List Tx} (hl : l.length≤1000) (hs : Sl X v (l.map strv)) : ∀ (t j : Nat),l.length - j=t→j≤l.length→
  Zk (c3 (YY.l1 (R (n+5)))) [v,iv l.length,iv j] X=some (if (l.drop j).all ZA then .ext 0 [] else .ret (iv 10),X)
 | 0,j,ht,hj=>by
  rw [List.drop_eq_nil_of_le (by omega)]
  refine ZI ?_
  rw [ZR,show j=l.length by omega]
  unfold YY.l1
  rw [Za Zg,Zb,if_neg (by simp)]
  rfl
 | t+1,j,ht,hj=>by
  have hkl : j < l.length:=by omega
  have hlt : (j : Int) < l.length:=by omega
  have hg:=List.getElem?_eq_getElem hkl
  have hd:=List.drop_eq_getElem_cons hkl
  generalize l[j]=x at hg hd
  have x1:=hs.ix (i:=j) (by simpa using hkl) .i64 X
  have x2:=hs.ldx (JF hg)
  have x3 : R (n+5) JU [strv x] X=some (iv (Qc x),X):=Zeg
  rw [hd,List.all_cons]
  cases hx : ZA x
  ·refine Z8 ?_
   rw [ZR]
   unfold YY.l1
   rw [Za Zg,Zb,if_pos (by simpa using hlt),Za x1,Za x2,Za x3,show Qc x=10 by unfold Qc;rw [hx];rfl,Za Zp,Zb,if_pos (by simp)]
   rfl
  ·refine (Zu ?_).trans (Zm3 hl hs t (j+1) (by omega) (by omega))
   rw [ZR]
   unfold YY.l1
   rw [Za Zg,Zb,if_pos (by simpa using hlt),Za x1,Za x2,Za x3,show Qc x=0 by unfold Qc;rw [hx];rfl,Za Zp,Zb,if_neg (by simp),Za Zt,Qm (by omega)]
   rfl
def Zj9 (l : List Tx) : Int:=if l.all ZA then 0 else 10
theorem ZuE {v : Value} {l : List Tx} (hl : l.length≤1000) (hs : Sl X v (l.map strv)) : R (n+6) ZaZ [v] X=some (iv (Zj9 l),X):=by
 have e:=Zm3 (n:=n) hl hs l.length 0 (by omega) (by omega)
 rw [show iv ((0 : Nat) : Int)=.int .i64 0 from rfl,List.drop_zero] at e
 have hlen : ZC v X=some (iv l.length,X):=by have:=hs.len (H':=X);simpa using this
 rw [R,ZmE rfl]
 unfold YY Zj9
 rw [Za hlen]
 by_cases h : l.all ZA=true
 ·rw [if_pos h] at e ⊢
  rw [ZS e,Zv];rfl
 ·rw [if_neg h] at e ⊢
  rw [QM e];rfl
def JQ (k : Tx) (ms : List Tx) (K : List Tx) : Int:=if (k :: ms).all ZA then (if k∈K then 0 else 8) else 10
theorem ZqS (h : Grp X g o G mem c) {mv : Value} {ms : List Tx} (hml : ms.length≤5)
  (hrow : ∃ w X1 v X2,bsl 1 1 (.string ⟨#[]⟩) [(0,1,strv k)] X=some (w,X1)∧app 1 16 w mv X1=some (v,X2)∧Sl X2 v ((k :: ms).map strv)∧HLe X X2) :
  ∃ X',R (n+7) Ys [pt g,strv k,mv] X=some (.tuple #[.map (if JQ k ms (Q7 G)=0 then Zj k G else none),iv (JQ k ms (Q7 G))],X')∧HLe X X':=by
 obtain ⟨w,X1,v,X2,e1,e2,s2,l2⟩:=hrow
 have e3 : R (n+6) ZaZ [v] X2=_:=ZuE (n:=n) (l:=k :: ms) (by simp;omega) s2
 have h2:=h.hle l2
 refine ⟨X2,?_,l2⟩
 rw [R,Zg3 rfl]
 unfold Zbh JQ
 rw [Za e1,Za e2,Za e3]
 unfold Zj9
 by_cases hn : (k :: ms).all ZA=true
 ·rw [if_pos hn,if_pos hn]
  have e4:=h2.mo.lkp (k:=k) (z:=.map none) (ok:=true)
  have hkey:=h2.key (k:=k)
  rw [Za Zp,Zb,if_neg (by simp),Za Zs,Za Zi,Za h2.ldo]
  cases hk : Zj k G with
  | none=>
   rw [hk] at e4 hkey
   have hnk : ¬ k∈Q7 G:=by simpa using hkey.symm
   rw [if_neg hnk,if_neg (by decide)]
   simp only [cond_true] at e4
   rw [Za e4,Za Zn,Za Zo,Za ZN,Zb,if_pos (by rfl)]
   rfl
  | some id=>
   rw [hk] at e4 hkey
   have hnk : k∈Q7 G:=by simpa using hkey.symm
   rw [if_pos hnk,if_pos rfl]
   simp only [cond_true] at e4
   rw [Za e4,Za Zn,Za Zo,Za ZN,Zb,if_neg (by simp)]
   rfl
 ·rw [if_neg hn,if_neg hn,Za Zp,Zb,if_pos (by rfl)]
  rfl
theorem Zrh {x : Tx} {H : Zc} : bsl 1 1 (.string ⟨#[]⟩) [(0,1,strv x)] H=some (.slice (some ⟨H.length,0,none⟩) 1 1,H++[.cells [strv x] 1 false false]):=Zrp rfl rfl rfl
theorem ZkC {x : Tx} {H : Zc} : Zq (H++[.cells [strv x] 1 false false]) (.slice (some ⟨H.length,0,none⟩) 1 1) ([x].map strv) [H.length]:=.inr ⟨H.length,[],false,rfl,rfl,by rw [Zx];rfl⟩
theorem Zvs {b : Nat} {sl : Value} {vs : List Value} {q : List Nat} (h : Zq X sl vs q) : app 1 b sl (.slice none 0 0) X=some (sl,X):=by
 rcases h with ⟨rfl,rfl,rfl⟩ | ⟨sid,rest,gr,rfl,rfl,hid⟩
 ·rfl
 ·unfold app
  simp only [Qj,flen,hid,Nat.add_zero,Nat.le_add_right,if_true]
theorem Zuz (h : Grp X g o G mem c) : ∃ X',R (n+7) Ys [pt g,strv k,.slice none 0 0] X=some (.tuple #[.map (if JQ k [] (Q7 G)=0 then Zj k G else none),iv (JQ k [] (Q7 G))],X')∧HLe X X':=
 ZqS h (by simp) ⟨_,_,_,_,Zrh,Zvs ZkC,ZkC.rd,.app _ _⟩
theorem ZtQ (h : Grp X g o G mem c) {mv : Value} (hm : Sl X mv [strv m]) : ∃ X',R (n+7) Ys [pt g,strv k,mv] X=some (.tuple #[.map (if JQ k [m] (Q7 G)=0 then Zj k G else none),iv (JQ k [m] (Q7 G))],X')∧HLe X X':=by
 have l1 : HLe X (X++[.cells [strv k] 1 false false]):=.app _ _
 obtain ⟨v,X2,q,e2,r2,s2,_⟩:=(ZkC (x:=k) (H:=X)).push (b:=16) (hm.mono l1) (by simp) (by simp)
 have l2:=(l1.more s2 (by simp)).1
 exact ZqS h (by simp) ⟨_,_,_,_,Zrh,e2,r2.rd,l2⟩
theorem Zwg : ∃ X' g o,R (n+1) Zd6 [] X=some (pt g,X')∧Grp X' g o [] (fun _ _=>false) 0∧HLe X X'∧X.length≤g∧X.length≤o:=by
 obtain ⟨H1,e1,g1,l1⟩:=Zrk (α:=Nat) (enc:=ZwM) X
 have e2 : bld (.agg #[.map none]) [(0,1,.map (some X.length))] H1=some (.agg #[.map (some X.length)],H1):=by simp [↓ZZ,Z0,↓Qw,Qg,Qe,Qf,↓Zb,JL,Zs,Yo,Qh,Jl,Qp,Jm,Jf,QJ,Js,QK,QY,QV,QU,Ql,Zh,ZN,Yh,Ye,Q8,QZ,JK,Zt,Qo,Jq,JO,JM,ZJ,Zp,Zg,Q3,ZK,Qu,JJ,Jy,JA,Jz,↓Yz,JN,↓g_r,Yv,YC,KW,splice,Value.cells]
 have e3 : alc 1 (.agg #[.map (some X.length)]) H1=some (pt H1.length,H1++[.cells [.map (some X.length)] 1 false false]):=by
  rw [QY];simp [Value.cells,oneCell]
 refine ⟨H1++[.cells [.map (some X.length)] 1 false false],H1.length,X.length,?_,⟨Zx,g1.hle (.app _ _),by simp,by simp,by simp,by simp,by simp⟩,l1.trans (.app _ _),l1.len,Nat.le_refl _⟩
 rw [R,Zox rfl]
 unfold ZfK
 rw [Za e1,Za e2,Za e3]
 rfl
def Kr (k : Tx) (K : List Tx) : Int:=if ZA k then (if k∈K then 9 else if 6≤K.length then 7 else 0) else 10
def Zgv (k : Tx) (K : List Tx) : List Tx:=if Kr k K=0 then K++[k] else K
theorem Zvn (h : Grp X g o G mem c) : ∃ X' G',R (n+8) Yp [pt g,strv k] X=some (iv (Kr k (Q7 G)),X')∧Grp X' g o G' mem c∧Q7 G'=Zgv k (Q7 G)∧Zw (Ym o G) X (Ym o G') X':=by
 obtain ⟨X1,e1,l1⟩:=Zuz (n:=n) (k:=k) h
 have h1:=h.hle l1
 have f1 : ∀ r X',J2 (R (n+7)) (pt g) (strv k) X=some (r,X')→R (n+8) Yp [pt g,strv k] X=some (r,X'):=fun r X' hr=>by rw [R,Zg8 rfl];exact hr
 have same : ∀ e,Kr k (Q7 G)=e→e≠0→(J2 (R (n+7)) (pt g) (strv k) X=some (iv e,X1))→∃ X' G',R (n+8) Yp [pt g,strv k] X=some (iv (Kr k (Q7 G)),X')∧Grp X' g o G' mem c∧Q7 G'=Zgv k (Q7 G)∧Zw (Ym o G) X (Ym o G') X':=fun e he hne hr=>by
  refine ⟨X1,G,by rw [he];exact f1 _ _ hr,h1,?_,l1.stepq⟩
  unfold Zgv;rw [if_neg (by rw [he];exact hne)]
 cases hn : ZA k
 ·have hE : Kr k (Q7 G)=10:=by unfold Kr;rw [hn];rfl
  have hF : JQ k [] (Q7 G)=10:=by unfold JQ;simp [hn]
  rw [hF] at e1
  refine same _ hE (by decide) ?_
  unfold J2
  rw [Za e1,Za Zn,Za Zo,Za ZJ,Zb,if_neg (by decide),Za Zp,Zb,if_pos (by decide)]
  rfl
 ·by_cases hk : k∈Q7 G
  ·have hE : Kr k (Q7 G)=9:=by unfold Kr;rw [hn,if_pos rfl,if_pos hk]
   have hF : JQ k [] (Q7 G)=0:=by unfold JQ;simp [hn,hk]
   rw [hF] at e1
   refine same _ hE (by decide) ?_
   unfold J2
   rw [Za e1,Za Zn,Za Zo,Za ZJ,Zb,if_pos (by decide)]
   rfl
  ·have hF : JQ k [] (Q7 G)=8:=by unfold JQ;simp [hn,hk]
   rw [hF] at e1
   have hkl : (Q7 G).length=G.length:=by simp
   by_cases hl : 6≤(Q7 G).length
   ·have hE : Kr k (Q7 G)=7:=by unfold Kr;rw [hn,if_pos rfl,if_neg hk,if_pos hl]
    refine same _ hE (by decide) ?_
    unfold J2
    rw [Za e1,Za Zn,Za Zo,Za ZJ,Zb,if_neg (by decide),Za Zp,Zb,if_neg (by decide),Za Zs,Za Zi,Za h1.ldo,Za h1.mo.len,Za Qu,Zb,if_pos (by simp;omega)]
    rfl
   ·have hE : Kr k (Q7 G)=0:=by unfold Kr;rw [hn,if_pos rfl,if_neg hk,if_neg hl]
    obtain ⟨X2,e2,m2,l2⟩:=Zrk (α:=Unit) (enc:=ZnR) X1
    have h2:=h1.hle l2
    have hkn : Zj k G=none:=by
     have:=h.key (k:=k)
     cases ha : Zj k G with
     | none=>rfl
     | some v=>rw [ha] at this;exact absurd (by simpa using this.symm) hk
    obtain ⟨X3,e3,m3,s3,len3⟩:=h2.mo.mup (k:=k) (v:=X1.length)
    have ha : Ju k X1.length G=G++[(k,X1.length)]:=by unfold Ju;rw [hkn];rfl
    rw [ha] at m3
    have hlt : ∀ j∈Ym o G,j < X1.length:=fun j hj=>(h1.isMap hj).1
    refine ⟨X3,G++[(k,X1.length)],?_,?_,?_,?_⟩
    ·rw [hE]
     refine f1 _ _ ?_
     unfold J2
     rw [Za e1,Za Zn,Za Zo,Za ZJ,Zb,if_neg (by decide),Za Zp,Zb,if_neg (by decide),Za Zs,Za Zi,Za h1.ldo,Za h1.mo.len,Za Qu,Zb,if_neg (by simp;omega),Za Zs,Za Zi,Za h1.ldo,Za e2,Za e3]
     rfl
    ·have hgo : g≠o:=fun e=>h.gnot (by rw [e];simp)
     have hoid : ∀ p∈G,p.2≠o:=fun p hp e=>by
      have:=h.nod
      simp only [List.nodup_cons] at this
      exact this.1 (List.mem_map.2 ⟨p,hp,e⟩)
     refine ⟨s3.get h2.cell (by simpa using hgo),m3,fun p hp=>?_,fun k' n' hk'=>?_,?_,fun p hp=>?_,by simp;omega⟩
     ·rcases List.mem_append.1 hp with hp | hp
      ·obtain ⟨S,h5,h6⟩:=h2.ms p hp
       exact ⟨S,h5.step s3 (by simpa using hoid p hp),h6⟩
      ·have : p=(k,X1.length):=by simpa using hp
       subst this
       refine ⟨[],m2.step s3 (by have:=hlt o (by simp);simp;omega),fun n'=>?_,Nat.zero_le _,by simp⟩
       cases hb : mem k n' with
       | false=>rfl
       | true=>have:=h.out k n' hb;rw [hkn] at this;cases this
     ·rw [Zc3]
      have:=h.out k' n' hk'
      cases hg : Zj k' G with
      | none=>rw [hg] at this;cases this
      | some v=>rfl
     ·have : Ym o (G++[(k,X1.length)])=Ym o G++[X1.length]:=by simp
      rw [this,List.nodup_append]
      refine ⟨h.nod,by simp,fun a ha b hb e=>?_⟩
      have:=hlt a ha
      have hb : b=X1.length:=by simpa using hb
      omega
     ·rcases List.mem_append.1 hp with hp | hp
      ·exact h.ok p hp
      ·have : p=(k,X1.length):=by simpa using hp
       subst this;exact hn
    ·unfold Zgv;rw [if_pos hE];simp
    ·have s:=(l1.trans l2).stepq (q:=Ym o G)
     have s:=s.trans (s3.more (o2:=Ym o G) (o2':=Ym o G) (by simp) (fun j hj=>.inl hj))
     refine ⟨s.len,s.keep,fun j hj=>?_⟩
     ·have : Ym o (G++[(k,X1.length)])=Ym o G++[X1.length]:=by simp
      rw [this] at hj
      rcases List.mem_append.1 hj with hj | hj
      ·exact .inl hj
      ·have hj : j=X1.length:=by simpa using hj
       exact .inr (by rw [hj];exact l1.len)
def Zl0 (k : Tx) (K : List Tx) : Int:=if ZA k then (if k∈K then 0 else 8) else 10
def ZwV (k : Tx) (K : List Tx) : List Tx:=if Zl0 k K=0 then K.filter (fun x=>decide (x≠k)) else K
def Zmw (k : Tx) (mem : Mem) : Mem:=fun k' n=>mem k' n && !(k'==k)
end
end Go.Proofs.YtedkoimihknggaaGreatDoor.A
namespace Go.Proofs.YtedkoimihknggaaGreatDoor.A
set_option linter.unusedVariables false
set_option linter.unusedSimpArgs false
open Go.Proofs Go.Proofs.YtedkoimihknggaaGreatDoor
theorem Zod {α : Type} {k : Tx} {v : α} {m : List (Tx × α)} {q : Tx × α} (h : q∈Ju k v m) : q=(k,v)∨q∈m:=by
 unfold Ju at h
 split at h
 ·obtain ⟨p,hp,rfl⟩:=List.mem_map.1 h
  by_cases e : p.1=k
  ·rw [if_pos e];exact .inl rfl
  ·rw [if_neg e];exact .inr hp
 ·rcases List.mem_append.1 h with h | h
  ·exact .inr h
  ·exact .inl (by simpa using h)
section
variable {X X' : Zc} {n g o c c' : Nat} {G : Zgh} {mem mem' : Mem} {k m s t : Tx}
def ZcT (k m : Tx) (K : List Tx) (mem : Mem) : Int:=if JQ k [m] K=0 then (if mem k m then 9 else 0) else JQ k [m] K
def Zuq (k m : Tx) (K : List Tx) (mem : Mem) : Int:=if JQ k [m] K=0 then (if mem k m then 0 else 12) else JQ k [m] K
def ZkI (k m : Tx) (mem : Mem) : Mem:=fun k' n=>mem k' n || (k'==k && n==m)
def Zwe (k m : Tx) (mem : Mem) : Mem:=fun k' n=>mem k' n && !(k'==k && n==m)
theorem Zr1 {k m : Tx} {K : List Tx} (h : JQ k [m] K=0) : ZA k=true∧ZA m=true∧k∈K:=by
 unfold JQ at h
 by_cases h1 : (k :: [m]).all ZA=true
 ·rw [if_pos h1] at h
  simp only [List.all_cons,List.all_nil,Bool.and_true,Bool.and_eq_true] at h1
  by_cases h2 : k∈K
  ·exact ⟨h1.1,h1.2,h2⟩
  ·rw [if_neg h2] at h;cases h
 ·rw [if_neg h1] at h;cases h
theorem Zxl {H : Zc} : bld (.agg #[]) [] H=some (.agg #[],H):=by simp [↓ZZ,Z0,↓Qw,Qg,Qe,Qf,↓Zb,JL,Zs,Yo,Qh,Jl,Qp,Jm,Jf,QJ,Js,QK,QY,QV,QU,Ql,Zh,ZN,Yh,Ye,Q8,QZ,JK,Zt,Qo,Jq,JO,JM,ZJ,Zp,Zg,Q3,ZK,Qu,JJ,Jy,JA,Jz,↓Yz,JN,↓g_r,Yv,YC,KW,splice,Value.cells]
theorem Grp.has (h : Grp X g o G mem c) (hk : k∈Q7 G) : ∃ id,Zj k G=some id:=by
 have:=h.key (k:=k)
 cases ha : Zj k G with
 | none=>rw [ha] at this;exact absurd hk (by simpa using this.symm)
 | some v=>exact ⟨v,rfl⟩
theorem Zvw (h : Grp X g o G mem c) : ∃ X',R (n+8) Ka [pt g,strv k,strv m] X=some (iv (ZcT k m (Q7 G) mem),X')∧Grp X' g o G (if ZcT k m (Q7 G) mem=0 then ZkI k m mem else mem) (c+1)∧Zw (Ym o G) X (Ym o G) X':=by
 have l0 : HLe X (X++[.cells [strv m] 1 false false]):=.app _ _
 have s0:=(ZkC (x:=m) (H:=X)).rd
 have e0:=Zrh (x:=m) (H:=X)
 generalize X++[Zd.cells [strv m] 1 false false]=X0 at l0 s0 e0
 obtain ⟨X1,e1,l1⟩:=ZtQ (n:=n) (k:=k) (m:=m) (h.hle l0) s0
 have l01:=l0.trans l1
 have h1:=h.hle l01
 have f1 : ∀ r X',Kc (R (n+7)) (pt g) (strv k) (strv m) X=some (r,X')→R (n+8) Ka [pt g,strv k,strv m] X=some (r,X'):=fun r X' hr=>by rw [R,ZgU rfl];exact hr
 unfold ZcT
 by_cases hE : JQ k [m] (Q7 G)=0
 ·rw [hE] at e1 ⊢
  rw [if_pos rfl] at e1 ⊢
  obtain ⟨b1,b2,b3⟩:=Zr1 hE
  obtain ⟨id,hid⟩:=h.has b3
  rw [hid] at e1
  obtain ⟨S,m1,m2,m3,m4⟩:=h1.set hid
  have e2:=m1.lkp (k:=m) (z:=.agg #[]) (ok:=true)
  have l2 : HLe X1 (X1++[.cells [] 1 false false]):=.app _ _
  have hbox:=fun {K : Value→M Value}=>Zcl (k:=K) (zs:=[]) (r:=[]) (n:=0) (H:=X1) rfl rfl rfl rfl
  have h2:=h1.hle l2
  have m1:=m1.hle l2
  generalize X1++[Zd.cells [] 1 false false]=X2 at hbox l2 h2 m1
  have hmm:=m2 m
  cases hg : Zj m S with
  | some u=>
   rw [hg] at hmm e2
   have hmm : mem k m=true:=hmm.symm
   rw [if_pos hmm,if_neg (by decide)]
   refine ⟨X2,f1 _ _ ?_,h2.more (Nat.le_succ _) (fun _ _=>rfl),(l01.trans l2).stepq⟩
   unfold Kc
   simp only [cond_true] at e2
   rw [Za e0,Za e1,Za Zn,Za Zo,Za Zp,Zb,if_neg (by decide),Za e2,Za Zn,Za Zo]
   refine hbox.trans ?_
   rw [Zb,if_pos rfl]
   rfl
  | none=>
   rw [hg] at hmm e2
   have hmm : mem k m=false:=hmm.symm
   rw [if_neg (by simp [hmm]),if_pos rfl]
   simp only [cond_true] at e2
   obtain ⟨X3,e3,m5,s3,_⟩:=m1.mup (k:=m) (v:=())
   have hlen : (Ju m () S).length≤c+1:=by rw [ZfX,hg];simp;omega
   refine ⟨X3,f1 _ _ ?_,h2.upd hid m5 s3 (fun q hq=>?_) hlen (Nat.le_succ _) (fun k' n'=>?_),(l01.trans l2).stepq.trans (h2.step1 hid s3)⟩
   ·unfold Kc
    rw [Za e0,Za e1,Za Zn,Za Zo,Za Zp,Zb,if_neg (by decide),Za e2,Za Zn,Za Zo]
    refine hbox.trans ?_
    rw [Zb,if_neg (by simp),Za Zxl,Za e3]
    rfl
   ·rcases Zod hq with rfl | hq
    ·exact b2
    ·exact m4 q hq
   ·unfold ZkI
    by_cases hk : k'=k
    ·subst hk
     rw [if_pos rfl]
     by_cases hn : n'=m
     ·subst hn;rw [W7];simp
     ·rw [K9 hn,m2];simp [hn]
    ·rw [if_neg hk];simp [hk]
 ·rw [if_neg hE,if_neg hE]
  refine ⟨X1,f1 _ _ ?_,h1.more (Nat.le_succ _) (fun _ _=>rfl),l01.stepq⟩
  unfold Kc
  rw [Za e0,Za e1,Za Zn,Za Zo,Za Zp,Zb,if_pos (by simpa using hE)]
  rfl
theorem ZsV (h : Grp X g o G mem c) : ∃ v q X',R (n+3) YL [pt g] X=some (v,X')∧Zq X' v ((Qk (Q7 G)).map strv) q∧HLe X X'∧∀ j∈q,X.length≤j:=by
 have e1 : R (n+1) QT [.map (some o)] X=some (.func (.func JC) #[] #[pt X.length],X++[.cells [.map (some o)] 1 false false]):=by
  rw [R,WJ rfl]
  unfold JP
  rw [Za (Zn0 rfl rfl _)]
  rfl
 have l1 : HLe X (X++[.cells [.map (some o)] 1 false false]):=.app _ _
 obtain ⟨v,q,X2,e2,r2,l2,o2⟩:=(h.mo.hle l1).keys (gks:=Zhe) (gc:=JB) (gk:=JC) (c:=X.length) (by decide) Zx (Nat.le_trans h.few (by decide)) (fun p hp=>Nat.le_trans (ZaP (h.ok p hp)) (by decide))
 have e2' : R (n+1) JI [.func (.func JC) #[] #[pt X.length],.func (.func JB) #[] #[]] (X++[.cells [.map (some o)] 1 false false])=some (v,X2):=by
  rw [R,Zgk (show np JI=some (Zcs Zhe JB) from rfl)]
  exact e2
 have e3 : R (n+2) KH [.map (some o)] X=some (v,X2):=by
  rw [R,ZeL rfl]
  unfold WW
  rw [Za e1,Za e2']
  rfl
 refine ⟨v,q,X2,?_,r2,l1.trans l2,fun j hj=>Nat.le_trans l1.len (o2 j hj)⟩
 rw [R,ZhX rfl]
 unfold ZbN
 rw [Za Zs,Za Zi,Za h.ldo,Za e3]
 rfl
theorem Grp.keysAsc (h : Grp X g o G mem c) : Asc (Qk (Q7 G)):=Zdp h.mo.nod
theorem W5 {l : List Tx} : (Qk l).length=l.length:=List.length_mergeSort l
def ofL (m : Tx) (K : List Tx) (mem : Mem) : List Tx:=(Qk K).filter fun k=>mem k m
theorem Zpw {K : List Tx} (hn : K.Nodup) : Is (ofL m K mem) (fun k=>k∈K∧mem k m=true):=⟨(Zdp hn).filter _,fun x=>by unfold ofL;rw [List.mem_filter,Wu]⟩
theorem Zl2 {K : List Tx} : (ofL m K mem).length≤K.length:=by
 unfold ofL
 have:=List.length_filter_le (fun k=>mem k m) (Qk K)
 rwa [W5] at this
theorem Zwt {b1 b2 : Nat} (h : Grp X g o G mem c) (h1 : X[b1]?=some (.cells [pt g] 1 false false)) (h2 : X[b2]?=some (.cells [strv m] 1 false false)) (hk : k∈Q7 G) :
  ∃ X',R (n+1) YI [strv k,pt b1,pt b2] X=some (.bool (!mem k m),X')∧HLe X X':=by
 obtain ⟨id,hid⟩:=h.has hk
 obtain ⟨S,m1,m2,m3,m4⟩:=h.set hid
 have e2 : lkp .str (.map none) false (.map (some o)) (strv k) X=some (.map (some id),X):=by rw [h.mo.lkp,hid];rfl
 have e3 : lkp .str (.agg #[]) true (.map (some id)) (strv m) X=some (.tuple #[.agg #[],.bool (mem k m)],X):=by
  rw [m1.lkp,← m2 m]
  cases Zj m S <;> rfl
 have l2 : HLe X (X++[.cells [] 1 false false]):=.app _ _
 have e4 : alc 1 (.agg #[]) X=some (pt X.length,X++[.cells [] 1 false false]):=Zc8 (vs:=[]) rfl
 have a4 : (X++[Zd.cells [] 1 false false])[X.length]?=some (.cells [] 1 false false):=Zx
 have e5 : stA 0 (pt X.length) (.agg #[]) (X++[Zd.cells [] 1 false false])=some (undef,(X++[Zd.cells [] 1 false false]).set X.length (.cells [] 1 false false)):=YX (vs:=[]) a4 rfl rfl rfl
 rw [Zvk] at e5
 have h':=h.hle l2
 have m1':=m1.hle l2
 have b1':=l2 _ _ h1
 have b2':=l2 _ _ h2
 generalize X++[Zd.cells [] 1 false false]=X2 at l2 e4 e5 h' m1' b1' b2'
 have e2' : lkp .str (.map none) false (.map (some o)) (strv k) X2=some (.map (some id),X2):=by rw [h'.mo.lkp,hid];rfl
 have e3' : lkp .str (.agg #[]) true (.map (some id)) (strv m) X2=some (.tuple #[.agg #[],.bool (mem k m)],X2):=by
  rw [m1'.lkp,← m2 m]
  cases Zj m S <;> rfl
 refine ⟨X2,?_,l2⟩
 rw [R,Zh5 rfl]
 unfold ZbR
 rw [Za (Zgj h1),Za Zs,Za Zi,Za h.ldo,Za e2,Za (Zgj h2),Za e3,Za Zn,Za Zo,Za e4,Za e3',Qz,Za (Zgj b2'),Qz,Za e2',Qz]
 refine (Za h'.ldo).trans ?_
 rw [Qz,Za (Zgj b1'),Qz,Za e5,Za ZN]
 rfl
theorem Zw8 (h : Grp X g o G mem c) : ∃ v q X',R (n+4) Wp [pt g,strv m] X=some (v,X')∧Zq X' v ((ofL m (Q7 G) mem).map strv) q∧HLe X X'∧∀ j∈q,X.length≤j:=by
 have e1:=Zn0 (v:=pt g) rfl rfl X
 have l1 : HLe X (X++[Zd.cells [pt g] 1 false false]):=.app _ _
 have c1 : (X++[Zd.cells [pt g] 1 false false])[X.length]?=some (.cells [pt g] 1 false false):=Zx
 generalize X++[Zd.cells [pt g] 1 false false]=X1 at e1 l1 c1
 have e2:=Zn0 (v:=strv m) rfl rfl X1
 have l2 : HLe X1 (X1++[Zd.cells [strv m] 1 false false]):=.app _ _
 have c2 : (X1++[Zd.cells [strv m] 1 false false])[X1.length]?=some (.cells [strv m] 1 false false):=Zx
 generalize X1++[Zd.cells [strv m] 1 false false]=X2 at e2 l2 c2
 have c1:=l2 _ _ c1
 have h2:=h.hle (l1.trans l2)
 obtain ⟨v,q,X3,e3,r3,l3,o3⟩:=ZsV (n:=n) h2
 have e3 : R (n+3) YL [pt g] X2=_:=e3
 have l123:=(l1.trans l2).trans l3
 have hq : ∀ j∈q,j∉Ym o G∧j≠g∧j≠X.length∧j≠X1.length:=fun j hj=>by
  have:=o3 j hj
  have a1:=Z6 c1
  have a2:=Z6 c2
  have a3:=h2.glt
  exact ⟨fun hm=>by have:=(h2.isMap hm).1;omega,by omega,by omega,by omega⟩
 have hkeep : ∀ Y Y',(Grp Y g o G mem c∧Y[X.length]?=some (.cells [pt g] 1 false false)∧Y[X1.length]?=some (.cells [strv m] 1 false false))→Zw q Y q Y'→(Grp Y' g o G mem c∧Y'[X.length]?=some (.cells [pt g] 1 false false)∧Y'[X1.length]?=some (.cells [strv m] 1 false false)):=fun Y Y' ⟨a1,a2,a3⟩ hs=>
  ⟨a1.step hs (fun hm=>(hq g hm).2.1 rfl) (fun j hj hm=>(hq j hm).1 hj),hs.get a2 (fun hm=>(hq _ hm).2.2.1 rfl),hs.get a3 (fun hm=>(hq _ hm).2.2.2 rfl)⟩
 have hf : ∀ i Y,(Grp Y g o G mem c∧Y[X.length]?=some (.cells [pt g] 1 false false)∧Y[X1.length]?=some (.cells [strv m] 1 false false))→∀ s∈Qk (Q7 G),∃ Y',YR (R (i+1)) (.func (.func YI) #[] #[pt X.length,pt X1.length]) [strv s] Y=some (.bool (!mem s m),Y')∧HLe Y Y':=fun i Y ⟨a1,a2,a3⟩ s hs=>by
  obtain ⟨Y',e,l⟩:=Zwt (n:=i) a1 a2 a3 (Wu.1 hs)
  refine ⟨Y',?_,l⟩
  have:=Zv9 (n:=i+1) (g:=YI) (bs:=[pt X.length,pt X1.length]) (args:=[strv s])
  exact (congrFun this Y).trans e
 obtain ⟨X4,v',e4,r4,s4⟩:=Znj (n:=n+1) (p:=fun s=>!mem s m) (f:=.func (.func YI) #[] #[pt X.length,pt X1.length]) (Q:=fun Y=>Grp Y g o G mem c∧Y[X.length]?=some (.cells [pt g] 1 false false)∧Y[X1.length]?=some (.cells [strv m] 1 false false)) r3 (by rw [W5];have:=h.few;simp;omega) hkeep (hf n) (hf (n+1)) ⟨h2.hle l3,l3 _ _ c1,l3 _ _ c2⟩
 have e4 : R (n+3) QN [v,.func (.func YI) #[] #[pt X.length,pt X1.length]] X3=_:=e4
 have hm:=l123.more s4 (fun j hj=>Nat.le_trans (l1.trans l2).len (o3 j hj))
 refine ⟨v',q,X4,?_,by simpa [ofL] using r4,hm.1,hm.2⟩
 rw [R,Zi7 rfl]
 unfold ZcE
 rw [Za e1,Za e2,Za (Zgj c1),Za e3,Za e4]
 rfl
end
end Go.Proofs.YtedkoimihknggaaGreatDoor.A
namespace Go.Proofs.YtedkoimihknggaaGreatDoor.A
set_option linter.unusedVariables false
set_option linter.unusedSimpArgs false
open Go.Proofs Go.Proofs.YtedkoimihknggaaGreatDoor
section
variable {X X' : Zc} {n g o c c' : Nat} {G : Zgh} {mem mem' : Mem} {k m s t : Tx}
def Zwx (m : Tx) (mem : Mem) : Mem:=fun k n=>mem k n && !(n==m)
theorem J8.move {α : Type} {enc : α→Value} {id id' : Nat} {mm : List (Tx × α)} (h : J8 enc X id mm) (he : X'[id']?=X[id]?) : J8 enc X' id' mm:=by
 obtain ⟨es,h1,h2⟩:=h.ex
 exact ⟨⟨es,h1,by rw [he];exact h2⟩,h.nod⟩
end
end Go.Proofs.YtedkoimihknggaaGreatDoor.A

namespace Go.Proofs.YtedkoimihknggaaGreatDoor.A
set_option linter.unusedVariables false
set_option linter.unusedSimpArgs false
open Go.Proofs Go.Proofs.YtedkoimihknggaaGreatDoor
def Ki (b : UInt8) : UInt8:=if decide (65≤b.toNat) && decide (b.toNat≤90) then UInt8.ofNat (b.toNat+32) else b
def Qt (s : List UInt8) : List UInt8:=s.map Ki
theorem ZtH : ∀ b : UInt8,(decide (65≤b.toNat) && decide (b.toNat≤90))=true→IntKind.u8.wrap (IntKind.u8.wrap ((b.toNat : Int)+97) - 65)=(Ki b).toNat:=ZfC (by decide+kernel)
section
variable {H X : Zc} {n : Nat} {s : List UInt8}
theorem Zwv {cs : List UInt8} {k : Nat} {b : UInt8} (h : cs[k]?=some b) : (u8s cs)[k]?=some (u8v b):=by unfold u8s;rw [List.getElem?_map,h];rfl
theorem Zvr {cs : List UInt8} {k : Nat} {b : UInt8} : (u8s cs).set k (u8v b)=u8s (cs.set k b):=by unfold u8s;rw [List.map_set]
theorem ZwZ : s2b (strv s) H=some (.slice (some ⟨H.length,0,none⟩) s.length s.length,H++[.cells (u8s s) 1 true false]):=by
 unfold s2b strv ZhS
 simp [ByteArray.size]
theorem Zl5 {v : Value} {q : List Nat} (hs : s.length≤1000000) : ∀ (t k : Nat) (cs : List UInt8) (X : Zc),s.length - k=t→k≤s.length→cs.length=s.length→cs.take k=(s.take k).map Ki→cs.drop k=s.drop k→Zq X v (u8s cs) q→
  ∃ X',Zk (c4 (Kt.l1 (R n))) [v,v,iv s.length,iv k] X=some (.ext 0 [v],X')∧Zq X' v (u8s (Qt s)) q∧Zw q X q X'
 | 0,k,cs,X,ht,hk,hl,h1,h2,hr=>by
  have : k=s.length:=by omega
  subst this
  have : cs=Qt s:=by
   rw [List.take_of_length_le (by omega),List.take_of_length_le (by omega)] at h1
   exact h1
  subst this
  refine ⟨X,ZI ?_,hr,.refl _ _⟩
  rw [ZB]
  unfold Kt.l1
  rw [Za Zg,Zb,if_neg (by simp)]
  rfl
 | t+1,k,cs,X,ht,hk,hl,h1,h2,hr=>by
  have hkl : k < s.length:=by omega
  have hlt : (k : Int) < s.length:=by omega
  have hg:=List.getElem?_eq_getElem hkl
  have htk:=List.take_succ_eq_append_getElem hkl
  have hdk:=List.drop_eq_getElem_cons hkl
  generalize s[k]=b at hg htk hdk
  have hgc : cs[k]?=some b:=by
   have h3 : (cs.drop k)[0]?=(s.drop k)[0]?:=by rw [h2]
   simpa [hg] using h3
  have hul : (u8s cs).length=s.length:=by rw [QE,hl]
  have x1:=hr.ix (i:=k) (by omega) .i64 X
  have x2:=hr.ldx (Zwv hgc)
  have hd1 : cs.drop (k+1)=s.drop (k+1):=by rw [← List.drop_drop,h2,List.drop_drop]
  have htc : cs.take (k+1)=cs.take k++[b]:=by
   have:=List.take_succ_eq_append_getElem (show k < cs.length by omega)
   rw [this,(List.getElem?_eq_some_iff.1 hgc).2]
  have hpk : ∀ (K : Value→M Out),bind (bop .int .geq (u8v b) (Value.int .u8 65)) (fun v16x6=>bind (ZU v16x6 true 2 (bind (bop .int .leq (u8v b) (Value.int .u8 90)) fun v19x7=>ret [u8v b,v19x7])) (c2 fun _ q8_1=>bind (pick v16x6 q8_1 (Value.bool false)) K)) X=K (.bool (decide (65≤b.toNat) && decide (b.toNat≤90))) X:=fun K=>by
   have e1 : decide ((b.toNat : Int)≥65)=decide (65≤b.toNat):=by rw [decide_eq_decide];omega
   have e2 : decide ((b.toNat : Int)≤90)=decide (b.toNat≤90):=by rw [decide_eq_decide];omega
   rw [Za Qu,e1]
   cases decide (65≤b.toNat)
   ·rw [Za (g_r.trans (if_neg (by simp)))]
    simp only [List.replicate]
    rw [ZW,Za Zh]
    rfl
   ·rw [ZL,Zf,Za Q3,ZO,ZW,Za Zh,e2]
    rfl
  cases hup : (decide (65≤b.toNat) && decide (b.toNat≤90))
  ·have hfb : Ki b=b:=by unfold Ki;rw [hup];rfl
   rw [hup] at hpk
   obtain ⟨X',e,r',s'⟩:=Zl5 hs t (k+1) cs X (by omega) (by omega) hl (by rw [htc,h1,htk,List.map_append,List.map_singleton,hfb]) hd1 hr
   refine ⟨X',(Zu ?_).trans e,r',s'⟩
   rw [ZB]
   unfold Kt.l1
   rw [Za Zg,Zb,if_pos (by simpa using hlt),Za x1,Za x2]
   refine (hpk _).trans ?_
   refine (QC (vs:=[v,v,iv s.length,iv k]) (H':=X) ?_).trans ?_
   ·rw [Zb,if_neg (by simp)];rfl
   ·rw [ZB,Za Zt,Qm (by omega)];rfl
  ·have hfu:=ZtH b hup
   rw [hup] at hpk
   obtain ⟨X1,x3,r1,s1,_⟩:=hr.stx (i:=k) (u:=u8v (Ki b)) (by omega) rfl
   rw [Zvr] at r1
   obtain ⟨X',e,r',s'⟩:=Zl5 hs t (k+1) (cs.set k (Ki b)) X1 (by omega) (by omega) (by simpa using hl) (by
    have h5 : k < (cs.set k (Ki b)).length:=by simp;omega
    rw [List.take_succ_eq_append_getElem h5,List.take_set_of_le (Nat.le_refl _),h1,htk,List.map_append]
    simp) (by rw [List.drop_set_of_lt (by omega)];exact hd1) r1
   refine ⟨X',(Zu ?_).trans e,r',s1.trans s'⟩
   rw [ZB]
   unfold Kt.l1
   rw [Za Zg,Zb,if_pos (by simpa using hlt),Za x1,Za x2]
   refine (hpk _).trans ?_
   refine (QC (vs:=[v,v,iv s.length,iv k]) (H':=X1) ?_).trans ?_
   ·rw [Zb,if_pos rfl,Za Zt,Za Qo,hfu,Za x1,Za x3];rfl
   ·rw [ZB,Za Zt,Qm (by omega)];rfl
theorem Zwi (hs : s.length≤1000000) : ∃ H',R (n+1) Zcz [strv s] H=some (strv (Qt s),H')∧HLe H H':=by
 have e1:=ZwZ (s:=s) (H:=H)
 have k1 : HLe H (H++[.cells (u8s s) 1 true false]):=.app _ _
 have r1 : Zq (H++[.cells (u8s s) 1 true false]) (.slice (some ⟨H.length,0,none⟩) s.length s.length) (u8s s) [H.length]:=.inr ⟨H.length,[],true,by rw [QE];rfl,rfl,by rw [Zx,List.append_nil]⟩
 have hnl : ∀ j∈[H.length],H.length≤j:=by simp
 generalize H++[Zd.cells (u8s s) 1 true false]=H1 at e1 k1 r1
 obtain ⟨H2,e2,r2,s2⟩:=Zl5 (n:=n) hs s.length 0 s H1 (by omega) (by omega) rfl rfl rfl r1
 have e2 : Zk (c4 (Kt.l1 (R n))) [.slice (some ⟨H.length,0,none⟩) s.length s.length,.slice (some ⟨H.length,0,none⟩) s.length s.length,iv s.length,.int .i64 0] H1=_:=e2
 refine ⟨H2,?_,(k1.more s2 hnl).1⟩
 rw [R,Zn9 rfl]
 unfold Kt
 have hl : ZC (.slice (some ⟨H.length,0,none⟩) s.length s.length) H1=some (iv s.length,H1):=rfl
 rw [Za e1,Za hl,ZS e2,Zv,JY,Za (Zd0 r2.rd)]
 rfl
def Zai : List UInt8:=[65,66,67,68,69,70,71,72,73,74,75,76,77,78,79,80,81,82,83,84,85,86,87,88,89,90]
theorem Zrr : ∀ k < 26,∀ b,Zai[k]?=some b→ZeD[k]?=some (Ki b):=by
 intro k hk b hb
 have : ∀ k < 26,(Zai[k]?).map Ki=ZeD[k]?:=by decide
 rw [← this k hk,hb];rfl
theorem Zup : ∀ b : UInt8,(if Zai.contains b then Ki b else b)=Ki b:=ZfC (by decide+kernel)
theorem ZsJ {i j : Nat} (hij : i≤j) (hj : j≤s.length) : sls (strv s) (some (iv i)) (some (iv j)) H=some (strv ((s.take j).drop i),H):=by
 have h1 : (⟨s.toArray⟩ : ByteArray).size=s.length:=by simp [ByteArray.size]
 have h2 : (⟨s.toArray⟩ : ByteArray).extract i j=⟨((s.take j).drop i).toArray⟩:=by
  apply ByteArray.ext
  rw [ByteArray.data_extract]
  simp [List.drop_take]
 have hb : ∀ k : Nat,∀ d,bnd (some (iv k)) d=some k:=fun k d=>by simp [bnd]
 unfold strv sls
 simp only [h1,hb]
 rw [if_pos ⟨hij,hj⟩,h2]
theorem ZuL {i : Nat} (hi : i≤s.length) : sls (strv s) (some (iv i)) none H=some (strv (s.drop i),H):=by
 have h1 : (⟨s.toArray⟩ : ByteArray).size=s.length:=by simp [ByteArray.size]
 have h2 : (⟨s.toArray⟩ : ByteArray).extract i s.length=⟨(s.drop i).toArray⟩:=by
  apply ByteArray.ext
  rw [ByteArray.data_extract]
  simp [List.take_of_length_le]
 have hb : ∀ k : Nat,∀ d,bnd (some (iv k)) d=some k:=fun k d=>by simp [bnd]
 have hb0 : ∀ d,bnd none d=some d:=fun _=>rfl
 unfold strv sls
 simp only [h1,hb,hb0]
 rw [if_pos ⟨hi,Nat.le_refl _⟩,h2]
theorem Zsc {k : Nat} {b : UInt8} (h : s[k]?=some b) : (s.take (k+1)).drop k=[b]:=by
 have hk:=(List.getElem?_eq_some_iff.1 h).1
 rw [List.take_succ_eq_append_getElem hk,(List.getElem?_eq_some_iff.1 h).2,List.drop_append_of_le_length (by rw [List.length_take];omega),List.drop_eq_nil_of_le (by rw [List.length_take];omega)]
 rfl
theorem Zh4 {i : Nat} {b : UInt8} (hi : s[i]?=some b) (hs : s.length≤1000000) : ∀ (t k : Nat) (cur : UInt8) (z1 : Value),26 - k=t→k≤26→
  Zk (c6 (Je.l2 (R n))) [strv s,strv Zai,z1,iv i,strv [cur],iv k] X=some (.ext 2 [strv s,strv Zai,z1,iv i,strv [if (Zai.drop k).contains b then Ki b else cur]],X)
 | 0,k,cur,z1,ht,hk=>by
  have : k=26:=by omega
  subst this
  refine ZI ?_
  rw [JE]
  unfold Je.l2
  rw [Za Zg,Zb,if_neg (by decide)]
  rfl
 | t+1,k,cur,z1,ht,hk=>by
  have hkl : k < Zai.length:=by show k < 26;omega
  have hlt : (k : Int) < 26:=by omega
  have hg:=List.getElem?_eq_getElem hkl
  have hd:=List.drop_eq_getElem_cons hkl
  generalize Zai[k]=g at hg hd
  have x1:=WP hi .i64 X
  have x2:=WP hg .i64 X
  have hgf:=Zrr k (by omega) g hg
  rw [hd,List.contains_cons]
  by_cases hb : b=g
  ·subst hb
   have e3 : sls (strv ZeD) (some (iv k)) (some (iv ((k+1 : Nat) : Int))) X=some (strv [Ki b],X):=by
    rw [ZsJ (by omega) (by show k+1≤26;omega),Zsc hgf]
   have e3 : sls (.string ⟨#[97,98,99,100,101,102,103,104,105,106,107,108,109,110,111,112,113,114,115,116,117,118,119,120,121,122]⟩) (some (iv k)) (some (iv ((k+1 : Nat) : Int))) X=some (strv [Ki b],X):=e3
   refine (Zu ?_).trans ((Zh4 hi hs t (k+1) (Ki b) z1 (by omega) (by omega)).trans (by simp))
   rw [JE]
   unfold Je.l2
   rw [Za Zg,Zb,if_pos (by simpa using hlt),Za x1,Za x2,Za ZJ,ZfB]
   refine (QC (vs:=[strv s,strv Zai,z1,iv i,strv [Ki b],iv k]) (H':=X) ?_).trans ?_
   ·rw [Zb,if_pos (by simp),Za Zt,Qm (by omega),Za e3];rfl
   ·rw [JE,Za Zt,Qm (by omega)];rfl
  ·have hbf : (b==g)=false:=beq_eq_false_iff_ne.2 hb
   rw [hbf,Bool.false_or]
   refine (Zu ?_).trans (Zh4 hi hs t (k+1) cur z1 (by omega) (by omega))
   rw [JE]
   unfold Je.l2
   rw [Za Zg,Zb,if_pos (by simpa using hlt),Za x1,Za x2,Za ZJ,ZfB,hbf]
   refine (QC (vs:=[strv s,strv Zai,z1,iv i,strv [cur],iv k]) (H':=X) ?_).trans ?_
   ·rw [Zb,if_neg (by simp)];rfl
   ·rw [JE,Za Zt,Qm (by omega)];rfl
theorem Zm4 (hs : s.length≤1000000) : ∀ (t k : Nat),s.length - k=t→k≤s.length→
  Zk (c4 (Je.l1 (R n))) [strv s,strv Zai,strv ((s.take k).map Ki),iv k] X=some (.ext 0 [strv (Qt s)],X)
 | 0,k,ht,hk=>by
  have : k=s.length:=by omega
  subst this
  rw [List.take_length]
  refine ZI ?_
  rw [ZB]
  unfold Je.l1
  rw [Za ZD,Za Zg,Zb,if_neg (by simp)]
  rfl
 | t+1,k,ht,hk=>by
  have hkl : k < s.length:=by omega
  have hlt : (k : Int) < s.length:=by omega
  have hg:=List.getElem?_eq_getElem hkl
  have htk:=List.take_succ_eq_append_getElem hkl
  generalize s[k]=b at hg htk
  have e1 : sls (strv s) (some (iv k)) (some (iv ((k+1 : Nat) : Int))) X=some (strv [b],X):=by rw [ZsJ (by omega) (by omega),Zsc hg]
  have e2:=Zh4 (n:=n) (X:=X) hg hs 26 0 b (strv ((s.take k).map Ki)) rfl (by omega)
  rw [List.drop_zero,Zup] at e2
  have e2 : Zk (c6 (Je.l2 (R n))) [strv s,strv Zai,strv ((s.take k).map Ki),iv k,strv [b],.int .i64 0] X=_:=e2
  have e3:=Jn (a:=(s.take k).map Ki) (b:=[Ki b]) (H:=X) (by simp;omega)
  refine (Zu ?_).trans (Zm4 hs t (k+1) (by omega) (by omega))
  rw [ZB]
  unfold Je.l1
  rw [Za ZD,Za Zg,Zb,if_pos (by simpa using hlt),Za Zt,Qm (by omega),Za e1,ZS e2,Zv,ZM,Za e3,Za Zt,Qm (by omega),htk,List.map_append]
  rfl
theorem ZsA (hs : s.length≤1000000) : R (n+1) Zbq [strv s] H=some (strv (Qt s),H):=by
 have e:=Zm4 (n:=n) (X:=H) hs s.length 0 (by omega) (by omega)
 have e : Zk (c4 (Je.l1 (R n))) [strv s,.string ⟨#[65,66,67,68,69,70,71,72,73,74,75,76,77,78,79,80,81,82,83,84,85,86,87,88,89,90]⟩,.string ⟨#[]⟩,.int .i64 0] H=_:=e
 rw [R,ZnP rfl]
 unfold Je
 rw [ZS e,Zv]
 rfl
end
end Go.Proofs.YtedkoimihknggaaGreatDoor.A
namespace Go.Proofs.YtedkoimihknggaaGreatDoor.A
set_option linter.unusedVariables false
set_option linter.unusedSimpArgs false
open Go.Proofs Go.Proofs.YtedkoimihknggaaGreatDoor
def Qd (c : UInt8) : List UInt8→List (List UInt8)
 | []=>[[]]
 | b :: l=>if b=c then [] :: Qd c l else match Qd c l with
  | h :: t=>(b :: h) :: t
  | []=>[[b]]
theorem Zdf {c : UInt8} : ∀ {s : List UInt8},Qd c s≠[]
 | []=>by simp [Qd]
 | b :: s=>by
  unfold Qd
  split
  ·simp
  ·split <;> simp
theorem ZkD {c : UInt8} : ∀ {s : List UInt8},c∉s→Qd c s=[s]
 | [],_=>rfl
 | b :: s,h=>by
  simp only [List.mem_cons,not_or] at h
  unfold Qd
  rw [if_neg (Ne.symm h.1),ZkD h.2]
theorem ZhN {c : UInt8} : ∀ {s : List UInt8},c∈s→Qd c s=s.takeWhile (· !=c) :: Qd c (s.drop ((s.takeWhile (· !=c)).length+1))
 | [],h=>by cases h
 | b :: s,h=>by
  rw [show Qd c (b :: s)=(if b=c then [] :: Qd c s else match Qd c s with | h :: t=>(b :: h) :: t | []=>[[b]]) from rfl]
  by_cases hb : b=c
  ·subst hb
   rw [if_pos rfl]
   simp
  ·rw [if_neg hb]
   have hm : c∈s:=by
    rcases List.mem_cons.1 h with h | h
    ·exact absurd h.symm hb
    ·exact h
   rw [ZhN hm]
   have h2 : (b !=c)=true:=by simp [hb]
   simp [List.takeWhile_cons,h2]
theorem ZcD {c : UInt8} : ∀ {s : List UInt8},(Qd c s).length=s.count c+1
 | []=>rfl
 | b :: s=>by
  have ih:=ZcD (c:=c) (s:=s)
  unfold Qd
  by_cases hb : b=c
  ·subst hb
   rw [if_pos rfl,List.length_cons,ih,List.count_cons_self]
  ·rw [if_neg hb,List.count_cons_of_ne (by simpa using hb)]
   cases h : Qd c s with
   | nil=>exact absurd h Zdf
   | cons a t=>rw [h] at ih;simpa using ih
theorem ZtB {c : UInt8} : ∀ {s : List UInt8},c∈s→s.count c=(s.drop ((s.takeWhile (· !=c)).length+1)).count c+1:=by
 intro s h
 have h1:=ZcD (c:=c) (s:=s)
 rw [ZhN h,List.length_cons,ZcD] at h1
 omega
def Ze8 (l : List UInt8) : Bool:=!(l==[]) && l.all KC
def KO (f : List UInt8) : List UInt8:=if 64∈f then f.drop ((f.takeWhile (· !=64)).length+1) else []
def okM (f : List UInt8) : Bool:=decide (64∈f) && (ZA (f.takeWhile (· !=64)) && (decide (2≤(Qd 46 (KO f)).length) && (Qd 46 (KO f)).all Ze8))
def KP (s : List UInt8) : Bool:=decide (s.length≤20) && okM (Qt s)
def Zab : List UInt8→Nat→Nat→Option (Nat × Nat)
 | [],st,lg=>some (st,lg)
 | c :: l,st,lg=>if c=46 then (if lg=0 then none else Zab l (st+1) 0) else if KC c then Zab l st (lg+1) else none
def ZeI (l : List UInt8) (st lg : Nat) : Bool:=match Zab l st lg with
 | some (a,b)=>decide (a≠0) && decide (b≠0)
 | none=>false
def Zc1 (lg : Nat) : List (List UInt8)→Bool
 | h :: t=>(h.all KC && decide (lg+h.length≠0)) && t.all Ze8
 | []=>false
theorem Zmm : ∀ (l : List UInt8) (st lg : Nat),ZeI l st lg=(decide (st+(Qd 46 l).length≠1) && Zc1 lg (Qd 46 l))
 | [],st,lg=>by simp [ZeI,Zab,Qd,Zc1]
 | c :: l,st,lg=>by
  unfold ZeI Zab Qd
  by_cases hc : c=46
  ·rw [if_pos hc,if_pos hc]
   by_cases hl : lg=0
   ·simp [hl,Zc1]
   ·rw [if_neg hl]
    have ih:=Zmm l (st+1) 0
    unfold ZeI at ih
    rw [ih]
    have hne:=Zdf (c:=46) (s:=l)
    cases hsp : Qd 46 l with
    | nil=>exact absurd hsp hne
    | cons h t=>
     have h1 : decide (st+1+(h :: t).length≠1)=true:=by simp;omega
     have h2 : decide (st+([] :: h :: t).length≠1)=true:=by simp;omega
     rw [h1,h2]
     simp only [Zc1,List.all_nil,List.all_cons,Ze8,List.length_nil,Nat.zero_add,Nat.add_zero,Bool.true_and]
     have h3 : decide (lg≠0)=true:=by simp [hl]
     rw [h3,Bool.true_and]
     have h4 : (!(h==[]))=decide (h.length≠0):=by cases h <;> simp
     rw [h4,Bool.and_comm (h.all KC)]
  ·rw [if_neg hc,if_neg hc]
   cases hsp : Qd 46 l with
   | nil=>exact absurd hsp Zdf
   | cons h t=>
    cases ha : KC c
    ·simp [Zc1,ha]
    ·have ih:=Zmm l st (lg+1)
     unfold ZeI at ih
     simp only [if_true]
     rw [ih,hsp]
     have e : ∀ x : Nat,lg+1+x=lg+(x+1):=fun x=>by omega
     simp [Zc1,ha,e]
theorem Zui {l : List UInt8} : ZeI l 0 0=(decide (2≤(Qd 46 l).length) && (Qd 46 l).all Ze8):=by
 rw [Zmm]
 cases hsp : Qd 46 l with
 | nil=>exact absurd hsp Zdf
 | cons h t=>
  have h1 : decide (0+(h :: t).length≠1)=decide (2≤(h :: t).length):=by
   rw [decide_eq_decide]
   have : (h :: t).length=t.length+1:=rfl
   omega
  rw [h1]
  have h4 : (!(h==[]))=decide (h.length≠0):=by cases h <;> simp
  simp only [Zc1,List.all_cons,Ze8,Nat.zero_add,h4]
  rw [Bool.and_comm (h.all KC)]
section
variable {H X : Zc} {n : Nat} {s : List UInt8} {c : UInt8}
theorem Zvd {args : List Value} : run Tryz.prog np lvs (n+1) JW args=Zf2 args:=Zgk (show np JW=some Zf2 from rfl)
theorem ZvE {args : List Value} : run Tryz.prog np lvs (n+1) Yk args=ZfO args:=Zgk (show np Yk=some ZfO from rfl)
theorem Zoe : R (n+3) QP [strv s,strv [c]] H=some (iv (Go.Lib.indexByte s c),H):=by
 have e1 : run Tryz.prog np lvs (n+2) Jo [strv s,u8v c] H=some (iv (Go.Lib.indexByte s c),H):=by
  have e0 : run Tryz.prog np lvs (n+1) JW [strv s,u8v c] H=some (iv (Go.Lib.indexByte s c),H):=by rw [Zvd];exact Zwy
  rw [ZbQ rfl]
  unfold Y5
  rw [Za e0]
  rfl
 have q0 : bop .int .eql (iv [c].length) (.int .i64 0) H=some (.bool false,H):=by rw [ZJ];rfl
 have q1 : bop .int .eql (iv [c].length) (.int .i64 1) H=some (.bool true,H):=by rw [ZJ];rfl
 have x1 : ixs (strv [c]) (.int .i64 0) H=some (u8v c,H):=WP (s:=[c]) (i:=0) rfl .i64 H
 rw [R,Zc0 rfl]
 unfold JZ
 rw [Za ZD,Za q0,ZL,Zf,Za Zda,ZO,ZR,Za Zh]
 simp only [cond_false]
 by_cases h : s=[c]
 ·subst h
  rw [Zb,if_pos (by simp)]
  unfold Go.Lib.indexByte
  simp [ret]
 ·rw [Zb,if_neg (by simp;exact fun e=>h e.symm),Za q1,Zb,if_pos rfl,Za x1,Za e1]
  rfl
theorem ZtO : R (n+4) K2 [strv s,strv [c]] H=some (iv (Go.Lib.indexByte s c),H):=by
 have e1 : run Tryz.prog np lvs (n+3) QP [strv s,strv [c]] H=_:=Zoe
 rw [R,Zkd rfl]
 unfold ZcW
 rw [Za e1]
 rfl
theorem Zvy : R (n+2) WS [strv s,strv [c]] H=some (iv (s.count c),H):=by
 have e0 : run Tryz.prog np lvs (n+1) Yk [strv s,u8v c] H=some (iv (s.count c),H):=by rw [ZvE];exact Zwl
 have q0 : bop .int .eql (iv [c].length) (.int .i64 0) H=some (.bool false,H):=by rw [ZJ];rfl
 have q1 : bop .int .eql (iv [c].length) (.int .i64 1) H=some (.bool true,H):=by rw [ZJ];rfl
 have x1 : ixs (strv [c]) (.int .i64 0) H=some (u8v c,H):=WP (s:=[c]) (i:=0) rfl .i64 H
 rw [R,Zke rfl]
 unfold WT
 rw [Za ZD,Za q0,Zb,if_neg (by simp),Za ZD,Za q1,Zb,if_pos rfl,Za x1,Za e0]
 rfl
theorem Zlz {s : List UInt8} {c : UInt8} (h : c∈s) : (s.takeWhile (· !=c)).length < s.length:=by
 rcases Nat.lt_or_ge (s.takeWhile (· !=c)).length s.length with h1 | h1
 ·exact h1
 ·have h2 : s.takeWhile (· !=c)=s:=by
   have:=List.takeWhile_prefix (p:=(· !=c)) (l:=s)
   exact this.eq_of_length (by have:=this.length_le;omega)
  have h3:=List.all_eq_true.1 (List.all_takeWhile (p:=(· !=c)) (l:=s)) c (by rw [h2];exact h)
  simp at h3
theorem ZlN {s : List UInt8} {p : UInt8→Bool} : s.take (s.takeWhile p).length=s.takeWhile p:=
 (List.prefix_iff_eq_take.1 (List.takeWhile_prefix p)).symm
theorem ZwP (hs : s.length≤1000000) : R (n+5) We [strv s,strv [c]] H=some (if c∈s then .tuple #[strv (s.takeWhile (· !=c)),strv (s.drop ((s.takeWhile (· !=c)).length+1)),.bool true] else .tuple #[strv s,strv [],.bool false],H):=by
 have e1 : run Tryz.prog np lvs (n+3) QP [strv s,strv [c]] H=_:=Zoe
 have e2 : run Tryz.prog np lvs (n+4) YZ [strv s,strv [c]] H=some (if c∈s then .tuple #[strv (s.takeWhile (· !=c)),strv (s.drop ((s.takeWhile (· !=c)).length+1)),.bool true] else .tuple #[strv s,strv [],.bool false],H):=by
  rw [ZdD rfl]
  unfold Wb
  rw [Za e1,ZcR,Za Qu,Zb]
  by_cases h : c∈s
  ·have hl:=Zlz h
   have w : IntKind.i64.wrap (((s.takeWhile (· !=c)).length : Int)+(([c] : List UInt8).length : Nat))=(((s.takeWhile (· !=c)).length+1 : Nat) : Int):=Qm (by omega)
   rw [if_pos h,if_pos (by simp),Za (Zk0 (by omega)),ZlN,Za ZD,Za Zt,w,Za (ZuL (by omega)),if_pos h]
   rfl
  ·rw [if_neg h,if_neg (by decide),if_neg h]
   rfl
 rw [R,Zmv rfl]
 unfold Zew
 rw [Za e2]
 by_cases h : c∈s
 ·rw [if_pos h];rfl
 ·rw [if_neg h];rfl
theorem ZoD {v : Value} {q : List Nat} {N : Nat} (hN : N≤1000001) : ∀ (t i : Nat) (s : List UInt8) (cs : List (List UInt8)) (X : Zc),N - 1 - i=t→i < N→s.length≤1000000→s.count c+1+i=N→cs.length=N→Zq X v (cs.map strv) q→
  ∃ (X' : Zc) (s' : List UInt8) (cs' : List (List UInt8)),Zk (c6 (Jx.l1 (R (n+4)))) [strv s,strv [c],iv 0,iv ((N - 1 : Nat) : Int),v,iv i] X=some (.ext 0 [strv s',v,iv ((N - 1 : Nat) : Int)],X')∧Zq X' v (cs'.map strv) q∧cs'.length=N∧cs'.take (N - 1)++[s']=cs.take i++Qd c s∧Zw q X q X'
 | 0,i,s,cs,X,ht,hi,hs,hc,hl,hr=>by
  have hi2 : i=N - 1:=by omega
  subst hi2
  have hcs : c∉s:=by
   intro h
   have:=List.count_pos_iff.2 h
   omega
  refine ⟨X,s,cs,ZI ?_,hr,hl,by rw [ZkD hcs],.refl _ _⟩
  rw [JE]
  unfold Jx.l1
  rw [Za Zg,Zb,if_neg (by simp)]
  rfl
 | t+1,i,s,cs,X,ht,hi,hs,hc,hl,hr=>by
  have hlt : (i : Int) < ((N - 1 : Nat) : Int):=by omega
  have hcs : c∈s:=List.count_pos_iff.1 (by omega)
  have htl:=Zlz hcs
  have hct:=ZtB hcs
  have e1 : R (n+4) K2 [strv s,strv [c]] X=_:=ZtO
  rw [ZcR,if_pos hcs] at e1
  have w0 : IntKind.i64.wrap (((s.takeWhile (· !=c)).length : Int)+0)=((s.takeWhile (· !=c)).length : Int):=by rw [Int.add_zero];exact w64 (by omega) (by omega)
  have w : IntKind.i64.wrap (((s.takeWhile (· !=c)).length : Int)+(([c] : List UInt8).length : Nat))=(((s.takeWhile (· !=c)).length+1 : Nat) : Int):=Qm (by omega)
  have x1:=hr.ix (i:=i) (by simp;omega) .i64 X
  obtain ⟨X1,x2,r1,s1,_⟩:=hr.stx (i:=i) (u:=strv (s.takeWhile (· !=c))) (by simp;omega) rfl
  rw [show (cs.map strv).set i (strv (s.takeWhile (· !=c)))=(cs.set i (s.takeWhile (· !=c))).map strv from by rw [List.map_set]] at r1
  obtain ⟨X',s',cs',e2,r2,l2,h2,s2⟩:=ZoD hN t (i+1) (s.drop ((s.takeWhile (· !=c)).length+1)) (cs.set i (s.takeWhile (· !=c))) X1 (by omega) (by omega) (by simp;omega) (by omega) (by simpa using hl) r1
  refine ⟨X',s',cs',(Zu ?_).trans e2,r2,l2,?_,s1.trans s2⟩
  ·have q1 : bop .int .lss (iv ((s.takeWhile (· !=c)).length : Nat)) (.int .i64 0) X=some (.bool false,X):=by rw [Zg,decide_eq_false (by omega)]
   rw [JE]
   unfold Jx.l1
   rw [Za Zg,Zb,if_pos (by simpa using hlt),Za e1,Za q1,Zb,if_neg (by simp),Za Zt,w0,Za (Zk0 (by omega)),ZlN,Za x1,Za x2,Za ZD,Za Zt,w,Za (ZuL (by omega)),Za Zt,Qm (by omega)]
   rfl
  ·have h5 : i < (cs.set i (s.takeWhile (· !=c))).length:=by simp;omega
   rw [h2,ZhN hcs,List.take_succ_eq_append_getElem h5,List.take_set_of_le (Nat.le_refl _)]
   simp
theorem Zu9 (hs : s.length≤1000000) : ∃ X' v q,R (n+6) WX [strv s,strv [c]] X=some (v,X')∧Zq X' v ((Qd c s).map strv) q∧HLe X X':=by
 have hcl : s.count c≤s.length:=List.count_le_length
 have e0 : run Tryz.prog np lvs (n+4) WS [strv s,strv [c]] X=_:=Zvy (n:=n+2)
 have w1 : IntKind.i64.wrap ((s.count c : Int)+1)=((s.count c+1 : Nat) : Int):=Qm (by omega)
 have w2 : IntKind.i64.wrap ((s.length : Int)+1)=((s.length+1 : Nat) : Int):=Qm (by omega)
 have q0 : bop .int .eql (.int .i64 (-1)) (.int .i64 0) X=some (.bool false,X):=by rw [ZJ];rfl
 have q1 : bop .str .eql (strv [c]) (.string ⟨#[]⟩) X=some (.bool false,X):=Zda (b:=[])
 have q2 : bop .int .lss (.int .i64 (-1)) (.int .i64 0) X=some (.bool true,X):=by rw [Zg];rfl
 have hm : mxi false (iv ((s.count c+1 : Nat) : Int)) (iv ((s.length+1 : Nat) : Int)) X=some (iv ((s.count c+1 : Nat) : Int),X):=by rw [Ye,if_neg (by omega)]
 have e1:=Zxd (k:=s.count c+1) (b:=16) (z:=.string ⟨#[]⟩) (H:=X) rfl (by omega) (by omega)
 have k1 : HLe X (X++[.cells (List.replicate (s.count c+1) (Value.string ⟨#[]⟩)) 1 false false]):=.app _ _
 have r1 : Zq (X++[.cells (List.replicate (s.count c+1) (Value.string ⟨#[]⟩)) 1 false false]) (.slice (some ⟨X.length,0,none⟩) (s.count c+1) (s.count c+1)) ((List.replicate (s.count c+1) ([] : List UInt8)).map strv) [X.length]:=by
  rw [List.map_replicate]
  exact Zq.new Zx
 have ho : ∀ j∈[X.length],X.length≤j:=by simp
 generalize X++[Zd.cells (List.replicate (s.count c+1) (Value.string ⟨#[]⟩)) 1 false false]=X1 at e1 k1 r1
 generalize hv : Value.slice (some ⟨X.length,0,none⟩) (s.count c+1) (s.count c+1)=v at e1 r1
 have w3 : IntKind.i64.wrap (((s.count c+1 : Nat) : Int) - 1)=((s.count c+1 - 1 : Nat) : Int):=ZnT (by omega) (by omega)
 obtain ⟨X2,s',cs',e2,r2,l2,h2,s2⟩:=ZoD (n:=n) (c:=c) (N:=s.count c+1) (by omega) (s.count c+1 - 1 - 0) 0 s _ X1 rfl (by omega) hs (by omega) (by simp) r1
 have e2 : Zk (c6 (Jx.l1 (R (n+4)))) [strv s,strv [c],.int .i64 0,iv ((s.count c+1 - 1 : Nat) : Int),v,.int .i64 0] X1=_:=e2
 have x1:=r2.ix (i:=s.count c+1 - 1) (by simp;omega) .i64 X2
 obtain ⟨X3,x2,r3,s3,_⟩:=r2.stx (i:=s.count c+1 - 1) (u:=strv s') (by simp;omega) rfl
 have hfin : (cs'.set (s.count c+1 - 1) s')=Qd c s:=by
  have h6 : s.count c+1 - 1 < cs'.length:=by omega
  rw [← List.take_append_drop (s.count c+1 - 1) (cs'.set (s.count c+1 - 1) s'),List.take_set_of_le (Nat.le_refl _),List.drop_set]
  rw [if_neg (by omega),Nat.sub_self]
  have hd : (cs'.drop (s.count c+1 - 1)).length=1:=by simp;omega
  obtain ⟨a,ha⟩:=List.length_eq_one_iff.1 hd
  rw [ha,List.set_cons_zero,h2]
  rfl
 rw [show (cs'.map strv).set (s.count c+1 - 1) (strv s')=(cs'.set (s.count c+1 - 1) s').map strv from by rw [List.map_set],hfin] at r3
 have hlen : ((Qd c s).map strv).length=s.count c+1:=by rw [List.length_map,ZcD]
 have x3 : ∃ v',slv 1 v none (some (iv ((s.count c+1 : Nat) : Int))) none X3=some (v',X3)∧Zq X3 v' ((Qd c s).map strv) [X.length]:=by
  rcases r3 with ⟨h,_,_⟩ | ⟨sid,rest,g,h1,h3,h4⟩
  ·rw [h] at hlen;simp at hlen
  ·rw [hlen] at h1
   refine ⟨.slice (some ⟨sid,0,none⟩) (s.count c+1) (s.count c+1+rest.length),?_,.inr ⟨sid,rest,g,by rw [hlen],h3,h4⟩⟩
   have b1 : bnd (some (iv ((s.count c+1 : Nat) : Int))) (s.count c+1)=some (s.count c+1):=by simp [bnd];omega
   have b2 : ∀ d,bnd none d=some d:=fun _=>rfl
   rw [h1]
   simp only [slv,h4,b1,b2]
   rw [if_pos ⟨trivial,by omega,by omega,Nat.le_refl _⟩,if_neg (by omega)]
   simp
 obtain ⟨v',x3,r4⟩:=x3
 have w4 : IntKind.i64.wrap (((s.count c+1 - 1 : Nat) : Int)+1)=((s.count c+1 : Nat) : Int):=by rw [Qm (by omega)];congr 1
 have e3 : run Tryz.prog np lvs (n+5) WO [strv s,strv [c],.int .i64 0,.int .i64 (-1)] X=some (v',X3):=by
  rw [ZgZ rfl]
  unfold Jx
  rw [Za q0,Zb,if_neg (by simp),Za q1,Zb,if_neg (by simp),Za q2]
  refine (QC (vs:=[strv s,strv [c],.int .i64 0,iv ((s.count c+1 : Nat) : Int)]) (H':=X) ?_).trans ?_
  ·rw [Zb,if_pos rfl,Za e0,Za Zt,w1];rfl
  ·rw [ZB,Za ZD,Za Zt,w2,Za hm,Za e1,Za Qo,w3]
   refine (QC (vs:=[strv s',v,iv ((s.count c+1 - 1 : Nat) : Int)]) (H':=X2) ?_).trans ?_
   ·rw [ZS e2,Zv,ZR];rfl
   ·rw [ZR,Za x1,Za x2,Za Zt,w4,Za x3];rfl
 refine ⟨X3,v',[X.length],?_,r4,(k1.more (s2.trans s3) ho).1⟩
 rw [R,Zkr rfl]
 unfold ZcS
 rw [Za e3]
 rfl
end
end Go.Proofs.YtedkoimihknggaaGreatDoor.A
namespace Go.Proofs.YtedkoimihknggaaGreatDoor.A
set_option linter.unusedVariables false
set_option linter.unusedSimpArgs false
open Go.Proofs Go.Proofs.YtedkoimihknggaaGreatDoor
section
variable {H X : Zc} {n : Nat} {s f : List UInt8} {c : UInt8}
theorem ZvD {b : UInt8} : R (n+2) Zbt [u8v b] H=some (.bool (KC b),H):=by
 have e1 : run Tryz.prog np lvs (n+1) Yg [u8v b] H=some (.bool (Y7 b),H):=Zf7
 have e2 : run Tryz.prog np lvs (n+1) Yw [u8v b] H=some (.bool (ZaM b),H):=ZiI
 rw [R,ZnG rfl]
 unfold KC Zfa
 rw [Za e1]
 cases Y7 b
 ·rw [ZL,Zf,Za e2,ZO,ZW,Za Zh]
  rfl
 ·rw [Za (g_r.trans (if_neg (by simp)))]
  simp only [List.replicate]
  rw [ZW,Za Zh]
  rfl
theorem Zrs (hs : s.length≤1000000000) : R (n+3) Kf [strv s,.func (.func Zbt) #[] #[]] H=some (.bool (s.all KC),H):=
 Zrq (fun b H=>by rw [Zok];exact ZvD) hs
theorem Zsx {v : Value} {q : List Nat} {ls : List (List UInt8)} (hl : ls.length≤1000) (hb : ∀ l∈ls,l.length≤1000000) (hr : Zq X v (ls.map strv) q) : ∀ (t k : Nat),ls.length - k=t→k≤ls.length→
  Zk (c4 (YB.l1 (R (n+3)))) [strv f,v,iv ls.length,iv k] X=some (if (ls.drop k).all Ze8 then .ext 0 [strv f] else .ret (.tuple #[strv [],iv 11]),X)
 | 0,k,ht,hk=>by
  have : k=ls.length:=by omega
  subst this
  rw [List.drop_length]
  refine ZI ?_
  rw [ZB]
  unfold YB.l1
  rw [Za Zg,Zb,if_neg (by simp)]
  rfl
 | t+1,k,ht,hk=>by
  have hkl : k < ls.length:=by omega
  have hlt : (k : Int) < ls.length:=by omega
  have hg:=List.getElem?_eq_getElem hkl
  have hm:=List.getElem_mem hkl
  have hd:=List.drop_eq_getElem_cons hkl
  generalize ls[k]=l at hg hd hm
  have x1:=hr.ix (i:=k) (by simpa using hkl) .i64 X
  have x2:=hr.ldx (JF hg)
  have e1 : R (n+3) Kf [strv l,.func (.func Zbt) #[] #[]] X=some (.bool (l.all KC),X):=Zrs (Nat.le_trans (hb l hm) (by decide))
  have ih:=Zsx hl hb hr t (k+1) (by omega) (by omega)
  have q1 : bop .str .eql (strv l) (.string ⟨#[]⟩) X=some (.bool (l==[]),X):=Zda (b:=[])
  have hb1 : c4 (YB.l1 (R (n+3))) [strv f,v,iv ls.length,iv k] X=some (if Ze8 l then .nrm [strv f,v,iv ls.length,iv ((k+1 : Nat) : Int)] else .ret (.tuple #[strv [],iv 11]),X):=by
   rw [ZB]
   unfold YB.l1 Ze8
   rw [Za Zg,Zb,if_pos (by simpa using hlt),Za x1,Za x2,Za q1]
   cases l==[]
   ·rw [ZL,Zf,Za e1,Zf,Za ZN,ZO,ZR,Za Zh]
    simp only [cond_false]
    cases l.all KC
    ·rw [Zb,if_pos (by rfl)];rfl
    ·rw [Zb,if_neg (by simp),Za Zt,Qm (by omega)];rfl
   ·rw [Za (g_r.trans (if_neg (by simp)))]
    simp only [List.replicate]
    rw [ZR,Za Zh]
    simp only [cond_true]
    rw [Zb,if_pos rfl]
    rfl
  rw [hd,List.all_cons]
  cases hlb : Ze8 l
  ·rw [hlb] at hb1
   exact Z8 hb1
  ·rw [hlb] at hb1
   rw [Bool.true_and]
   exact (Zu hb1).trans ih
theorem Zc9 {c : UInt8} : ∀ {s : List UInt8},∀ l∈Qd c s,l.length≤s.length
 | [],l,h=>by simp [Qd] at h;simp [h]
 | b :: s,l,h=>by
  rw [show Qd c (b :: s)=(if b=c then [] :: Qd c s else match Qd c s with | h :: t=>(b :: h) :: t | []=>[[b]]) from rfl] at h
  split at h
  ·rcases List.mem_cons.1 h with rfl | h
   ·simp
   ·have:=Zc9 l h
    simp;omega
  ·cases hsp : Qd c s with
   | nil=>exact absurd hsp Zdf
   | cons a t=>
    rw [hsp] at h
    rcases List.mem_cons.1 h with rfl | h
    ·have:=Zc9 (c:=c) (s:=s) a (by rw [hsp];simp)
     simpa using this
    ·have:=Zc9 (c:=c) (s:=s) l (by rw [hsp];simp [h])
     simp;omega
theorem Zh3 : (Qt s).length=s.length:=by simp [Qt]
theorem Ztk : ∃ X',R (n+8) Zbd [strv s] X=some (.tuple #[strv (if KP s then Qt s else []),iv (if KP s then 0 else 11)],X')∧HLe X X':=by
 have f1 : ∀ r X',YB (R (n+7)) (strv s) X=some (r,X')→R (n+8) Zbd [strv s] X=some (r,X'):=fun r X' hr=>by rw [R,Zob rfl];exact hr
 unfold KP
 by_cases h20 : s.length≤20
 ·have q1 : bop .int .gtr (iv s.length) (.int .i64 20) X=some (.bool false,X):=by rw [ZK,decide_eq_false (by omega)]
  obtain ⟨X1,e1,k1⟩:=Zwi (n:=n+6) (s:=s) (H:=X) (by omega)
  have e1 : R (n+7) Zcz [strv s] X=_:=e1
  have hfl : (Qt s).length≤20:=by rw [Zh3];exact h20
  generalize Qt s=f at e1 hfl
  have e2 : R (n+7) We [strv f,strv [64]] X1=_:=ZwP (n:=n+2) (c:=64) (by omega)
  obtain ⟨loc,e2'⟩ : ∃ loc : List UInt8,R (n+7) We [strv f,strv [64]] X1=some (.tuple #[strv loc,strv (KO f),.bool (decide (64∈f))],X1)∧(64∈f→loc=f.takeWhile (· !=64)):=by
   unfold KO
   by_cases h : 64∈f
   ·rw [if_pos h] at e2
    exact ⟨_,by rw [e2,if_pos h,decide_eq_true h],fun _=>rfl⟩
   ·rw [if_neg h] at e2
    exact ⟨_,by rw [e2,if_neg h,decide_eq_false h],fun h2=>absurd h2 h⟩
  obtain ⟨e2',hloc⟩:=e2'
  have hdl : (KO f).length≤20:=by unfold KO;split <;> simp;omega
  obtain ⟨X2,v,q,e3,r3,k3⟩:=Zu9 (n:=n+1) (c:=46) (s:=KO f) (X:=X1) (by omega)
  have e3 : R (n+7) WX [strv (KO f),.string ⟨#[46]⟩] X1=_:=e3
  have e2'' : R (n+7) We [strv f,.string ⟨#[64]⟩] X1=_:=e2'
  have hcl : (KO f).count 46≤(KO f).length:=List.count_le_length
  have hsl:=ZcD (c:=46) (s:=KO f)
  have hl : ZC v X2=some (iv (Qd 46 (KO f)).length,X2):=by have:=r3.rd.len (H':=X2);rwa [List.length_map] at this
  have e4 : R (n+7) Wc [strv loc] X2=some (.bool (ZA loc),X2):=Zm8 (n:=n+3)
  have e5:=Zsx (n:=n+4) (f:=f) (ls:=Qd 46 (KO f)) (by omega) (fun l h=>Nat.le_trans (Zc9 l h) (by omega)) r3 (Qd 46 (KO f)).length 0 (by omega) (by omega)
  rw [List.drop_zero] at e5
  have e5 : Zk (c4 (YB.l1 (R (n+7)))) [strv f,v,iv (Qd 46 (KO f)).length,.int .i64 0] X2=_:=e5
  refine ⟨X2,f1 _ _ ?_,k1.trans k3⟩
  unfold YB
  rw [Za ZD,Za q1,Zb,if_neg (by simp),Za e1,Za e2'']
  have t0 : ZE (.tuple #[strv loc,strv (KO f),.bool (decide (64∈f))]) 0 X1=some (strv loc,X1):=rfl
  have t1 : ZE (.tuple #[strv loc,strv (KO f),.bool (decide (64∈f))]) 1 X1=some (strv (KO f),X1):=rfl
  have t2 : ZE (.tuple #[strv loc,strv (KO f),.bool (decide (64∈f))]) 2 X1=some (.bool (decide (64∈f)),X1):=rfl
  rw [Za t0,Za t1,Za t2,Za e3,Za ZN]
  unfold okM
  rw [decide_eq_true h20]
  by_cases h : 64∈f
  ·rw [decide_eq_true h,← hloc h]
   simp only [Bool.not_true,Bool.true_and]
   rw [ZL,Zf,Za e4,Zf,Za ZN,ZO,ZR,Za Zh]
   simp only [cond_false]
   cases ZA loc
   ·simp only [Bool.not_false,Bool.false_and]
    rw [Za (g_r.trans (if_neg (by simp)))]
    simp only [List.replicate]
    rw [ZR,Za Zh]
    simp only [cond_true]
    rw [Zb,if_pos rfl]
    rfl
   ·simp only [Bool.not_true,Bool.true_and]
    rw [ZL,Zf,Za hl,Zf,Za Zg,ZO,ZR,Za Zh]
    simp only [cond_false]
    by_cases h2 : 2≤(Qd 46 (KO f)).length
    ·rw [decide_eq_false (by omega),Zb,if_neg (by simp),Za hl,decide_eq_true h2,Bool.true_and]
     cases ha : (Qd 46 (KO f)).all Ze8
     ·rw [ha] at e5
      rw [QM e5]
      rfl
     ·rw [ha] at e5
      rw [ZS e5,Zv]
      rfl
    ·rw [decide_eq_true (by omega),Zb,if_pos rfl,decide_eq_false h2]
     rfl
  ·rw [decide_eq_false h]
   simp only [Bool.not_false,Bool.false_and,Bool.and_false]
   rw [Za (g_r.trans (if_neg (by simp)))]
   simp only [List.replicate]
   rw [ZR,Za Zh]
   simp only [cond_true]
   rw [Za (g_r.trans (if_neg (by simp)))]
   simp only [List.replicate]
   rw [ZR,Za Zh]
   simp only [cond_true]
   rw [Zb,if_pos rfl]
   rfl
 ·have q1 : bop .int .gtr (iv s.length) (.int .i64 20) X=some (.bool true,X):=by rw [ZK,decide_eq_true (by omega)]
  refine ⟨X,f1 _ _ ?_,.refl _⟩
  unfold YB
  rw [Za ZD,Za q1,Zb,if_pos rfl,decide_eq_false h20]
  rfl
theorem Zw6 {i : Nat} (hi : i < (f.takeWhile (· !=c)).length) : ∃ x,f[i]?=some x∧x≠c:=by
 have h1 : (f.takeWhile (· !=c))[i]?=f[i]?:=by
  conv=>rhs;rw [← List.takeWhile_append_dropWhile (p:=(· !=c)) (l:=f)]
  rw [List.getElem?_append_left hi]
 have h2:=List.getElem?_eq_getElem hi
 have hm:=List.getElem_mem hi
 generalize (f.takeWhile (· !=c))[i]=x at h2 hm
 refine ⟨x,by rw [← h1,h2],?_⟩
 have:=List.all_eq_true.1 (List.all_takeWhile (p:=(· !=c)) (l:=f)) x hm
 simpa using this
theorem Ztc : ∀ {f : List UInt8},c∈f→f[(f.takeWhile (· !=c)).length]?=some c
 | [],h=>by cases h
 | b :: f,h=>by
  by_cases hb : b=c
  ·subst hb;simp
  ·have hm : c∈f:=by
    rcases List.mem_cons.1 h with h | h
    ·exact absurd h.symm hb
    ·exact h
   have ih:=Ztc hm
   have h2 : (b !=c)=true:=by simp [hb]
   rw [List.takeWhile_cons,h2]
   simpa using ih
theorem ZoN : ∀ {f : List UInt8},c∉f→(f.takeWhile (· !=c)).length=f.length
 | [],_=>rfl
 | b :: f,h=>by
  simp only [List.mem_cons,not_or] at h
  have h2 : (b !=c)=true:=by simp [Ne.symm h.1]
  rw [List.takeWhile_cons,h2]
  simpa using ZoN h.2
theorem ZuW (hf : f.length≤1000000) : ∀ (t k : Nat),(f.takeWhile (· !=64)).length - k=t→k≤(f.takeWhile (· !=64)).length→
  Zk (c2 (QF.l1 (R n))) [strv f,iv k] X=some (.ext 0 [strv f,iv (f.takeWhile (· !=64)).length],X)
 | 0,k,ht,hk=>by
  have : k=(f.takeWhile (· !=64)).length:=by omega
  subst this
  refine ZI ?_
  rw [ZW]
  unfold QF.l1
  rw [Za ZD,Za Zg]
  by_cases h : 64∈f
  ·have hl:=Zlz h
   have x1:=WP (Ztc h) .i64 X
   have q1 : bop .int .neq (u8v 64) (.int .u8 64) X=some (.bool false,X):=by rw [Zp];rfl
   rw [decide_eq_true (by omega),ZL,Zf,Za x1,Zf,Za q1,ZO,ZB,Za Zh]
   simp only [cond_true]
   rw [Zb,if_neg (by simp)]
   rfl
  ·have hl:=ZoN h
   rw [decide_eq_false (by omega),Za (g_r.trans (if_neg (by simp)))]
   simp only [List.replicate]
   rw [ZB,Za Zh]
   simp only [cond_false]
   rw [Zb,if_neg (by simp)]
   rfl
 | t+1,k,ht,hk=>by
  have hkt : k < (f.takeWhile (· !=64)).length:=by omega
  have hle : (f.takeWhile (· !=64)).length≤f.length:=(List.takeWhile_prefix _).length_le
  obtain ⟨x,hx,hne⟩:=Zw6 hkt
  have x1:=WP hx .i64 X
  have q1 : bop .int .neq (u8v x) (.int .u8 64) X=some (.bool true,X):=by
   have:=ZfB (a:=x) (b:=64)
   have h2 : (x==64)=false:=beq_eq_false_iff_ne.2 hne
   rw [h2] at this
   rw [Zp]
   have h3 : ((x.toNat : Int)==64)=false:=this
   simp only [bne,h3];rfl
  refine (Zu ?_).trans (ZuW hf t (k+1) (by omega) (by omega))
  rw [ZW]
  unfold QF.l1
  rw [Za ZD,Za Zg,decide_eq_true (by omega),ZL,Zf,Za x1,Zf,Za q1,ZO,ZB,Za Zh]
  simp only [cond_true]
  rw [Zb,if_pos rfl,Za Zt,Qm (by omega)]
  rfl
theorem Zl7 (hf : f.length≤1000000) : ∀ (t k st lg : Nat),f.length - k=t→k≤f.length→st≤k→lg≤k→
  Zk (c4 (QF.l2 (R (n+1)))) [strv f,iv st,iv lg,iv k] X=some (match Zab (f.drop k) st lg with | some (a,b)=>.ext 2 [strv f,iv a,iv b] | none=>.ret (.tuple #[strv [],.bool false]),X)
 | 0,k,st,lg,ht,hk,h1,h2=>by
  have : k=f.length:=by omega
  subst this
  rw [List.drop_length]
  refine ZI ?_
  rw [ZB]
  unfold QF.l2
  rw [Za ZD,Za Zg,Zb,if_neg (by simp)]
  rfl
 | t+1,k,st,lg,ht,hk,h1,h2=>by
  have hkl : k < f.length:=by omega
  have hlt : (k : Int) < f.length:=by omega
  have hg:=List.getElem?_eq_getElem hkl
  have hd:=List.drop_eq_getElem_cons hkl
  generalize f[k]=x at hg hd
  have x1:=WP hg .i64 X
  have q1 : bop .int .eql (u8v x) (.int .u8 46) X=some (.bool (x==46),X):=by
   rw [ZJ]
   congr 2
   exact congrArg Value.bool (ZfB (a:=x) (b:=46))
  have e1 : R (n+1) KX [u8v x,.string ⟨#[97,98,99,100,101,102,103,104,105,106,107,108,109,110,111,112,113,114,115,116,117,118,119,120,121,122,48,49,50,51,52,53,54,55,56,57]⟩] X=some (.bool (KC x),X):=by
   rw [← Zpx]
   exact ZrK (t:=Zo6) (by decide)
  rw [hd]
  by_cases hx : x=46
  ·subst hx
   by_cases hl : lg=0
   ·subst hl
    refine (Z8 (v:=.tuple #[strv [],.bool false]) (H':=X) ?_).trans (by simp [Zab])
    rw [ZB]
    unfold QF.l2
    rw [Za ZD,Za Zg,Zb,if_pos (by simpa using hlt),Za x1,Za q1]
    refine (QM (v:=.tuple #[strv [],.bool false]) (H':=X) ?_).trans rfl
    rw [Zb,if_pos (by simp),Za ZJ,Zb,if_pos (by rfl)]
    rfl
   ·have hs : Zab (46 :: f.drop (k+1)) st lg=Zab (f.drop (k+1)) (st+1) 0:=by simp [Zab,hl]
    rw [hs]
    refine (Zu ?_).trans (Zl7 hf t (k+1) (st+1) 0 (by omega) (by omega) (by omega) (by omega))
    rw [ZB]
    unfold QF.l2
    rw [Za ZD,Za Zg,Zb,if_pos (by simpa using hlt),Za x1,Za q1]
    refine (QC (vs:=[strv f,iv ((st+1 : Nat) : Int),iv (0 : Nat),iv k]) (H':=X) ?_).trans ?_
    ·rw [Zb,if_pos (by simp),Za ZJ,Zb,if_neg (by simp;omega),Za Zt,Qm (by omega)];rfl
    ·rw [ZB,Za Zt,Qm (by omega)];rfl
  ·have hxf : (x==46)=false:=beq_eq_false_iff_ne.2 hx
   rw [hxf] at q1
   cases ha : KC x
   ·rw [ha] at e1
    refine (Z8 (v:=.tuple #[strv [],.bool false]) (H':=X) ?_).trans (by simp [Zab,hx,ha])
    rw [ZB]
    unfold QF.l2
    rw [Za ZD,Za Zg,Zb,if_pos (by simpa using hlt),Za x1,Za q1]
    refine (QM (v:=.tuple #[strv [],.bool false]) (H':=X) ?_).trans rfl
    rw [Zb,if_neg (by simp),Za x1,Za e1,Za ZN,Zb,if_pos (by rfl)]
    rfl
   ·rw [ha] at e1
    have hs : Zab (x :: f.drop (k+1)) st lg=Zab (f.drop (k+1)) st (lg+1):=by simp [Zab,hx,ha]
    rw [hs]
    refine (Zu ?_).trans (Zl7 hf t (k+1) st (lg+1) (by omega) (by omega) (by omega) (by omega))
    rw [ZB]
    unfold QF.l2
    rw [Za ZD,Za Zg,Zb,if_pos (by simpa using hlt),Za x1,Za q1]
    refine (QC (vs:=[strv f,iv st,iv ((lg+1 : Nat) : Int),iv k]) (H':=X) ?_).trans ?_
    ·rw [Zb,if_neg (by simp),Za x1,Za e1,Za ZN,Zb,if_neg (by simp),Za Zt,Qm (by omega)];rfl
    ·rw [ZB,Za Zt,Qm (by omega)];rfl
theorem Zso : R (n+4) WC [strv s] X=some (.tuple #[strv (if KP s then Qt s else []),.bool (KP s)],X):=by
 have f1 : ∀ r,QF (R (n+3)) (strv s) X=r→R (n+4) WC [strv s] X=r:=fun r hr=>by rw [R,Zns rfl];exact hr
 refine f1 _ ?_
 unfold KP QF
 by_cases h20 : s.length≤20
 ·have q1 : bop .int .gtr (iv s.length) (.int .i64 20) X=some (.bool false,X):=by rw [ZK,decide_eq_false (by omega)]
  have e1 : R (n+3) Zbq [strv s] X=some (strv (Qt s),X):=ZsA (n:=n+2) (by omega)
  have hfl : (Qt s).length≤20:=by rw [Zh3];exact h20
  generalize Qt s=f at e1 hfl
  have e2:=ZuW (n:=n+3) (X:=X) (f:=f) (by omega) (f.takeWhile (· !=64)).length 0 (by omega) (by omega)
  have e2 : Zk (c2 (QF.l1 (R (n+3)))) [strv f,.int .i64 0] X=_:=e2
  have hle : (f.takeWhile (· !=64)).length≤f.length:=(List.takeWhile_prefix _).length_le
  rw [Za ZD,Za q1,Zb,if_neg (by simp),Za e1,ZS e2,Zv,ZW,Za ZD,Za ZJ,decide_eq_true h20]
  unfold okM
  by_cases h : 64∈f
  ·have hl:=Zlz h
   have hne : (((f.takeWhile (· !=64)).length : Int)==(f.length : Int))=false:=by rw [beq_eq_false_iff_ne];omega
   have e3 : R (n+3) YA [strv (f.takeWhile (· !=64))] X=some (.bool (ZA (f.takeWhile (· !=64))),X):=Zd8
   rw [hne,ZL,Zf,Za (Zk0 (by omega)),ZlN,Zf,Za e3,Zf,Za ZN,ZO,ZM,Za Zh,decide_eq_true h]
   simp only [cond_false,Bool.true_and]
   cases ZA (f.takeWhile (· !=64))
   ·rw [Zb,if_pos (by rfl)];rfl
   ·have hdm : KO f=f.drop ((f.takeWhile (· !=64)).length+1):=by unfold KO;rw [if_pos h]
    have e4:=Zl7 (n:=n+2) (X:=X) (f:=f) (by omega) (f.length - ((f.takeWhile (· !=64)).length+1)) ((f.takeWhile (· !=64)).length+1) 0 0 rfl (by omega) (by omega) (by omega)
    have e4 : Zk (c4 (QF.l2 (R (n+3)))) [strv f,.int .i64 0,.int .i64 0,iv (((f.takeWhile (· !=64)).length+1 : Nat) : Int)] X=_:=e4
    rw [← hdm] at e4
    rw [Zb,if_neg (by simp),Za Zt,Qm (by omega),Bool.true_and,← Zui]
    unfold ZeI
    cases hsc : Zab (KO f) 0 0 with
    | none=>
     rw [hsc] at e4
     rw [QM e4]
     rfl
    | some p=>
     obtain ⟨a,b⟩:=p
     rw [hsc] at e4
     rw [ZS e4,Zv,ZR,Za ZJ]
     by_cases ha : a=0
     ·subst ha
      have q2 : (((0 : Nat) : Int)==0)=true:=rfl
      rw [q2,Za (g_r.trans (if_neg (by simp)))]
      simp only [List.replicate]
      rw [ZW,Za Zh]
      simp only [cond_true]
      rw [Zb,if_pos rfl]
      rfl
     ·have q2 : (((a : Nat) : Int)==0)=false:=by rw [beq_eq_false_iff_ne];omega
      rw [q2,ZL,Zf,Za ZJ,ZO,ZW,Za Zh]
      simp only [cond_false]
      by_cases hb : b=0
      ·subst hb
       rw [Zb,if_pos (by rfl)]
       simp [ret]
       rfl
      ·have q3 : (((b : Nat) : Int)==0)=false:=by rw [beq_eq_false_iff_ne];omega
       rw [q3,Zb,if_neg (by simp)]
       simp [ret,ha,hb]
  ·have hl:=ZoN h
   have hne : (((f.takeWhile (· !=64)).length : Int)==(f.length : Int))=true:=by rw [hl];simp
   rw [hne,Za (g_r.trans (if_neg (by simp))),decide_eq_false h]
   simp only [List.replicate]
   rw [ZM,Za Zh]
   simp only [cond_true]
   rw [Zb,if_pos rfl]
   rfl
 ·have q1 : bop .int .gtr (iv s.length) (.int .i64 20) X=some (.bool true,X):=by rw [ZK,decide_eq_true (by omega)]
  rw [Za ZD,Za q1,Zb,if_pos rfl,decide_eq_false h20]
  rfl
end
end Go.Proofs.YtedkoimihknggaaGreatDoor.A

namespace Go.Proofs.YtedkoimihknggaaGreatDoor.A
set_option linter.unusedVariables false
set_option linter.unusedSimpArgs false
structure Wj {α : Type} (enc : α→Value) (H : Zc) (id : Nat) (m : List (List UInt8 × α)) : Prop where
 ex : ∃ es clk,es.map kv=m.map (fun p=>(strv p.1,enc p.2))∧H[id]?=some (.map es clk)∧Zan es clk
 nod : (m.map (·.1)).Nodup
section
variable {α : Type} {enc : α→Value} {H H' : Zc} {id : Nat} {m : List (List UInt8 × α)} {k : List UInt8} {v : α} {z : Value}
theorem Wj.g (h : Wj enc H id m) : J8 enc H id m:=by
 obtain ⟨es,clk,h1,h2,h3⟩:=h.ex
 exact ⟨⟨es,h1,.inl ⟨clk,h2,h3⟩⟩,h.nod⟩
theorem Wj.lt (h : Wj enc H id m) : id < H.length:=h.g.lt
theorem Wj.keep (h : Wj enc H id m) (hk : H'[id]?=H[id]?) : Wj enc H' id m:=by
 obtain ⟨es,clk,h1,h2,h3⟩:=h.ex
 exact ⟨⟨es,clk,h1,by rw [hk];exact h2,h3⟩,h.nod⟩
theorem Wj.hle (h : Wj enc H id m) (hl : HLe H H') : Wj enc H' id m:=h.keep (hl.step.keep id h.lt (by simp))
theorem Wj.step {o1 o2 : List Nat} (h : Wj enc H id m) (hs : Zw o1 H o2 H') (hn : id∉o1) : Wj enc H' id m:=h.keep (hs.keep id h.lt hn)
theorem ZuK (H : Zc) : ∃ H',mkm H=some (.map (some H.length),H')∧Wj enc H' H.length ([] : List (List UInt8 × α))∧HLe H H'∧H'.length=H.length+1:=
 ⟨_,rfl,⟨⟨[],0,rfl,Zx,⟨by simp,by simp⟩⟩,by simp⟩,.app _ _,by simp⟩
theorem Wj.mde (h : Wj enc H id m) : ∃ H',A.mde .str (.map (some id)) (strv k) H=some (.tuple #[],H')∧Wj enc H' id (Zav k m)∧Zw [id] H [id] H'∧H'.length=H.length:=by
 obtain ⟨es,clk,h1,h2,hs⟩:=h.ex
 have hst : ∀ o,Zw [id] H [id] (H.set id o):=fun o=>⟨by simp,fun j hj hn=>List.getElem?_set_ne (fun e=>hn (by simp [e])),fun j hj=>.inl hj⟩
 have hnod:=Zq7 (k:=k) h.nod
 rcases Zfr (k:=k) 0 h1 with ⟨h3,h4⟩ | ⟨j,v0,h3,h4,h5⟩
 ·refine ⟨H,?_,by rw [Zte h3];exact h,.refl _ _,rfl⟩
  unfold A.mde
  simp only [h2,Zao,cond_true,h4]
 ·have ha : Zav k m=m.eraseIdx j:=(Zev h.nod h3).symm
  rw [ha] at hnod ⊢
  rw [Nat.zero_add] at h5
  have hm : (es.eraseIdx j).map kv=(m.eraseIdx j).map fun p=>(strv p.1,enc p.2):=by
   have hg : ∀ {β γ : Type} (f : β→γ) (l : List β) (j : Nat),(l.eraseIdx j).map f=(l.map f).eraseIdx j:=fun f l j=>by
    rw [List.eraseIdx_eq_take_drop_succ,List.eraseIdx_eq_take_drop_succ,List.map_append,List.map_take,List.map_drop]
   rw [hg,hg,h1]
  refine ⟨H.set id (.map (es.eraseIdx j) clk),?_,⟨⟨_,clk,hm,ZT h2,⟨fun e he=>hs.lt e ((List.eraseIdx_sublist es j).subset he),((List.eraseIdx_sublist es j).map _).nodup hs.nod⟩⟩,hnod⟩,hst _,by simp⟩
  unfold A.mde;simp only [h2,Zao,cond_true,h5]
theorem ZgG {es : List (Value × Value × Nat)} {j : Nat} {e : Value × Value × Nat} (hn : (es.map (·.2.2)).Nodup) (hj : es[j]?=some e) : es.findIdx? (fun x=>(x.2.2 : Int)==(e.2.2 : Nat))=some j:=by
 rw [List.findIdx?_eq_some_iff_getElem]
 have hlt:=(List.getElem?_eq_some_iff.1 hj).1
 have he:=(List.getElem?_eq_some_iff.1 hj).2
 refine ⟨hlt,by rw [he];simp,fun i hi=>?_⟩
 have hil : i < es.length:=by omega
 simp only [Bool.not_eq_true,beq_eq_false_iff_ne,ne_eq]
 intro h
 have h2 : es[i].2.2=e.2.2:=by omega
 have hp:=List.pairwise_iff_getElem.1 (List.nodup_iff_pairwise_ne.1 hn) i j (by simpa using hil) (by simpa using hlt) hi
 rw [List.getElem_map,List.getElem_map,he] at hp
 exact hp h2
theorem Wj.put (h : Wj enc H id m) : ∃ t st H1 H2,men .str z (.map (some id)) (strv k) H=some (t,H1)∧ZE t 1 H1=some (st,H1)∧ens (.map (some id)) st (enc v) H1=some (undef,H2)∧Wj enc H2 id (Ju k v m)∧Zw [id] H [id] H1∧Zw [id] H [id] H2∧H2.length=H.length:=by
 obtain ⟨es,clk,h1,h2,hs⟩:=h.ex
 have hst : ∀ o,Zw [id] H [id] (H.set id o):=fun o=>⟨by simp,fun j hj hn=>List.getElem?_set_ne (fun e=>hn (by simp [e])),fun j hj=>.inl hj⟩
 have hst2 : ∀ o o',Zw [id] H [id] ((H.set id o).set id o'):=fun o o'=>⟨by simp,fun j hj hn=>by rw [List.getElem?_set_ne (fun e=>hn (by simp [e])),List.getElem?_set_ne (fun e=>hn (by simp [e]))],fun j hj=>.inl hj⟩
 have hnod:=Zlm (k:=k) (v:=v) h.nod
 rcases Zfr (k:=k) 0 h1 with ⟨h3,h4⟩ | ⟨j,v0,h3,h4,h5⟩
 ·have ha : Ju k v m=m++[(k,v)]:=by unfold Ju;rw [h3];rfl
  rw [ha] at hnod ⊢
  have hS : Zan (es++[(strv k,z,clk)]) (clk+1):=⟨fun e he=>by
   rcases List.mem_append.1 he with he | he
   ·have:=hs.lt e he;omega
   ·have : e=(strv k,z,clk):=by simpa using he
    rw [this];exact Nat.lt_succ_self _,by
   rw [List.map_append,List.nodup_append]
   refine ⟨hs.nod,by simp,fun a ha b hb=>?_⟩
   have hb : b=clk:=by simpa using hb
   obtain ⟨e,he,rfl⟩:=List.mem_map.1 ha
   have:=hs.lt e he;omega⟩
  have hlen : es.length=m.length:=by have:=congrArg List.length h1;simpa using this
  have hget : (es++[(strv k,z,clk)])[es.length]?=some (strv k,z,clk):=by simp
  have hfi:=ZgG hS.nod hget
  have hgk : ((es++[(strv k,z,clk)]).map kv)[es.length]?=some (strv k,z):=by rw [List.getElem?_map,hget];rfl
  refine ⟨.tuple #[z,.int .i64 (clk : Nat)],.int .i64 (clk : Nat),H.set id (.map (es++[(strv k,z,clk)]) (clk+1)),(H.set id (.map (es++[(strv k,z,clk)]) (clk+1))).set id (.map (Ya (es++[(strv k,z,clk)]) es.length (enc v)) (clk+1)),?_,rfl,?_,⟨⟨_,clk+1,?_,ZT (ZT h2),ZiK hS⟩,hnod⟩,hst _,hst2 _ _,by simp⟩
  ·unfold men;simp only [h2,Zao,cond_true,h4]
  ·unfold ens
   simp only [ZT h2,hfi]
  ·rw [Zf9 hgk,List.map_append,h1,List.map_append]
   have : es.length=(m.map fun p=>(strv p.1,enc p.2)).length:=by rw [List.length_map,hlen]
   rw [this]
   simp [kv]
 ·have ha : Ju k v m=m.set j (k,v):=by unfold Ju;rw [h4];exact (Zga h.nod h3).symm
  rw [ha] at hnod ⊢
  rw [Nat.zero_add] at h5
  have hget : (es.map kv)[j]?=some (strv k,enc v0):=by rw [h1,List.getElem?_map,h3];rfl
  obtain ⟨e,he,hek⟩ : ∃ e,es[j]?=some e∧kv e=(strv k,enc v0):=by
   rw [List.getElem?_map] at hget
   cases hh : es[j]? with
   | none=>rw [hh] at hget;cases hget
   | some e=>rw [hh] at hget;exact ⟨e,rfl,by simpa using hget⟩
  have hfi:=ZgG hs.nod he
  have hgd : (es.getD j (undef,undef,0)).2.2=e.2.2:=by rw [List.getD_eq_getElem?_getD,he];rfl
  refine ⟨.tuple #[enc v0,.int .i64 (e.2.2 : Nat)],.int .i64 (e.2.2 : Nat),H,H.set id (.map (Ya es j (enc v)) clk),?_,rfl,?_,⟨⟨_,clk,?_,ZT h2,ZiK hs⟩,hnod⟩,.refl _ _,hst _,by simp⟩
  ·unfold men;simp only [h2,Zao,cond_true,h5,hgd]
  ·unfold ens
   simp only [h2,hfi]
  ·rw [Zf9 hget,h1,List.map_set]
end
end Go.Proofs.YtedkoimihknggaaGreatDoor.A

namespace Go.Proofs.YtedkoimihknggaaGreatDoor.A
set_option linter.unusedVariables false
set_option linter.unusedSimpArgs false
open Go.Proofs Go.Proofs.YtedkoimihknggaaGreatDoor
structure Inv (OW OF : Kz) : Prop where
 inv : ∀ k v,Zj k OF=some v↔Zj v OW=some k
 same : OW.length=OF.length
 lens : ∀ p∈OF,p.1≠[]∧p.1.length≤12∧p.2≠[]∧p.2.length≤20
def Zba (k : List UInt8) (OW OF : Kz) : Kz:=match Zj k OF with
 | some m=>Zav m OW
 | none=>OW
def Wv (k : List UInt8) (OF : Kz) : Kz:=match Zj k OF with
 | some _=>Zav k OF
 | none=>OF
section
variable {OW OF : Kz} {k f : List UInt8}
theorem Inv.drop (h : Inv OW OF) (n1 : (OW.map (·.1)).Nodup) (n2 : (OF.map (·.1)).Nodup) : Inv (Zba k OW OF) (Wv k OF):=by
 unfold Zba Wv
 cases hk : Zj k OF with
 | none=>exact h
 | some m=>
  have hm:=(h.inv k m).1 hk
  refine ⟨fun j v=>?_,?_,fun p hp=>h.lens p (List.mem_filter.1 hp).1⟩
  ·by_cases hj : j=k
   ·subst hj
    rw [Zdk]
    constructor
    ·intro e;cases e
    ·intro e
     by_cases hv : v=m
     ·subst hv;rw [Zdk] at e;cases e
     ·rw [Wd hv,← h.inv] at e
      rw [hk] at e
      exact absurd (Option.some.inj e).symm hv
   ·rw [Wd hj]
    by_cases hv : v=m
    ·subst hv
     rw [Zdk,h.inv,hm]
     constructor
     ·intro e;exact absurd (Option.some.inj e).symm hj
     ·intro e;cases e
    ·rw [Wd hv,h.inv]
  ·rw [Zov n1 (by rw [hm];rfl),Zov n2 (by rw [hk];rfl),h.same]
theorem Inv.put (h : Inv OW OF) (h1 : Zj f OW=none) (h2 : Zj k OF=none) (hk : k≠[]∧k.length≤12) (hf : f≠[]∧f.length≤20) : Inv (Ju f k OW) (Ju k f OF):=by
 refine ⟨fun j v=>?_,?_,fun p hp=>?_⟩
 ·by_cases hj : j=k
  ·subst hj
   rw [W7]
   by_cases hv : v=f
   ·subst hv;rw [W7];simp
   ·rw [K9 hv,← h.inv,h2]
    constructor
    ·intro e;exact absurd (Option.some.inj e).symm hv
    ·intro e;cases e
  ·rw [K9 hj]
   by_cases hv : v=f
   ·subst hv
    rw [W7,h.inv,h1]
    constructor
    ·intro e;cases e
    ·intro e;exact absurd (Option.some.inj e).symm hj
   ·rw [K9 hv,h.inv]
 ·rw [ZfX,ZfX,h1,h2,h.same]
 ·unfold Ju at hp
  rw [h2] at hp
  simp only [Option.isSome_none,Bool.false_eq_true,if_false,List.mem_append,List.mem_singleton] at hp
  rcases hp with hp | rfl
  ·exact h.lens p hp
  ·exact ⟨hk.1,hk.2,hf.1,hf.2⟩
theorem Zea : Zj k (Wv k OF)=none:=by
 unfold Wv
 cases hk : Zj k OF with
 | none=>exact hk
 | some m=>exact Zdk
theorem ZrY (h : Inv OW OF) (hf : ∀ w,Zj f OW=some w→w=k) : Zj f (Zba k OW OF)=none:=by
 unfold Zba
 cases hk : Zj k OF with
 | none=>
  cases ho : Zj f OW with
  | none=>rfl
  | some w=>
   have:=hf w ho
   subst this
   rw [← h.inv,hk] at ho
   cases ho
 | some m=>
  by_cases hm : f=m
  ·subst hm;exact Zdk
  ·simp only
   rw [Wd hm]
   cases ho : Zj f OW with
   | none=>rfl
   | some w=>
    have:=hf w ho
    subst this
    rw [← h.inv,hk] at ho
    exact absurd (Option.some.inj ho).symm hm
theorem Zgz {j : List UInt8} (hj : j≠k) : Zj j (Wv k OF)=Zj j OF:=by
 unfold Wv
 cases hk : Zj k OF with
 | none=>rfl
 | some m=>exact Wd hj
def WY (k m : List UInt8) (OW : Kz) : Int:=
 if ZA k then (if m=[] then 0 else if KP m then (match Zj (Qt m) OW with
  | some w=>if w=k then 0 else 9
  | none=>0) else 11) else 10
def ZuA (k m : List UInt8) (OW OF : Kz) : Kz:=if WY k m OW=0 then (if m=[] then Zba k OW OF else Ju (Qt m) k (Zba k OW OF)) else OW
def Zgm (k m : List UInt8) (OW OF : Kz) : Kz:=if WY k m OW=0 then (if m=[] then Wv k OF else Ju k (Qt m) (Wv k OF)) else OF
theorem Zvh (h : ZA k=true) : k≠[]∧k.length≤12:=by
 refine ⟨?_,ZaP h⟩
 rintro rfl
 revert h;decide
theorem ZfD {m : List UInt8} (h : KP m=true) : Qt m≠[]∧(Qt m).length≤20:=by
 unfold KP at h
 simp only [Bool.and_eq_true,decide_eq_true_eq] at h
 refine ⟨fun e=>?_,by rw [Zh3];exact h.1⟩
 have h2:=h.2
 rw [e] at h2
 revert h2;decide
end
structure Idx (X : Zc) (x o a : Nat) (OW OF : Kz) : Prop where
 c : X[x]?=some (.cells [.map (some o),.map (some a)] 1 false false)
 ow : Wj strv X o OW
 of : Wj strv X a OF
 ne : o≠a
 inv : Inv OW OF
section
variable {X X' : Zc} {n x o a : Nat} {OW OF : Kz} {k m : List UInt8}
theorem Idx.not (h : Idx X x o a OW OF) : x≠o∧x≠a:=by
 constructor
 ·rintro rfl
  obtain ⟨es,clk,_,h2,_⟩:=h.ow.ex
  rw [h.c] at h2;cases h2
 ·rintro rfl
  obtain ⟨es,clk,_,h2,_⟩:=h.of.ex
  rw [h.c] at h2;cases h2
theorem Idx.hle (h : Idx X x o a OW OF) (hl : HLe X X') : Idx X' x o a OW OF:=⟨hl _ _ h.c,h.ow.hle hl,h.of.hle hl,h.ne,h.inv⟩
theorem Idx.lt (h : Idx X x o a OW OF) : x < X.length∧o < X.length∧a < X.length:=⟨Z6 h.c,h.ow.lt,h.of.lt⟩
theorem Idx.step {o1 o2 : List Nat} (h : Idx X x o a OW OF) (hs : Zw o1 X o2 X') (h1 : x∉o1) (h2 : o∉o1) (h3 : a∉o1) : Idx X' x o a OW OF:=
 ⟨hs.get h.c h1,h.ow.step hs h2,h.of.step hs h3,h.ne,h.inv⟩
theorem Idx.l0 (h : Idx X x o a OW OF) : ld1 (pa x 0) X=some (.map (some o),X):=ZV h.c rfl
theorem Idx.l1 (h : Idx X x o a OW OF) : ld1 (pa x 1) X=some (.map (some a),X):=ZV h.c rfl
theorem ZuD {id : Nat} {mm : Kz} (h : J8 strv X id mm) : lkp .str (.string ⟨#[]⟩) true (.map (some id)) (strv k) X=some (.tuple #[strv ((Zj k mm).getD []),.bool (Zj k mm).isSome],X):=by
 rw [h.lkp]
 cases Zj k mm <;> rfl
theorem Zw.mono2 {o1 o2 : List Nat} (h : Zw o1 X o1 X') (hs : ∀ j∈o1,j∈o2) : Zw o2 X o2 X':=h.more hs (fun j hj=>.inl hj)
theorem Zwu : ∃ X' x o a,R (n+1) ZeW [] X=some (pt x,X')∧Idx X' x o a [] []∧HLe X X'∧X.length≤x∧X.length≤o∧X.length≤a:=by
 obtain ⟨X1,e1,g1,l1,n1⟩:=ZuK (α:=List UInt8) (enc:=strv) X
 obtain ⟨X2,e2,g2,l2,n2⟩:=ZuK (α:=List UInt8) (enc:=strv) X1
 have e3 : bld (.agg #[.map none,.map none]) [(0,1,.map (some X.length)),(1,1,.map (some X1.length))] X2=some (.agg #[.map (some X.length),.map (some X1.length)],X2):=by simp [↓ZZ,Z0,↓Qw,Qg,Qe,Qf,↓Zb,JL,Zs,Yo,Qh,Jl,Qp,Jm,Jf,QJ,Js,QK,QY,QV,QU,Ql,Zh,ZN,Yh,Ye,Q8,QZ,JK,Zt,Qo,Jq,JO,JM,ZJ,Zp,Zg,Q3,ZK,Qu,JJ,Jy,JA,Jz,↓Yz,JN,↓g_r,Yv,YC,KW,splice,Value.cells]
 have e4 : alc 1 (.agg #[.map (some X.length),.map (some X1.length)]) X2=some (pt X2.length,X2++[.cells [.map (some X.length),.map (some X1.length)] 1 false false]):=by
  rw [QY];simp [Value.cells,oneCell]
 refine ⟨X2++[.cells [.map (some X.length),.map (some X1.length)] 1 false false],X2.length,X.length,X1.length,?_,⟨Zx,(g1.hle l2).hle (.app _ _),g2.hle (.app _ _),by omega,⟨fun k v=>by simp [Zj],rfl,by simp⟩⟩,(l1.trans l2).trans (.app _ _),by omega,Nat.le_refl _,by omega⟩
 rw [R,Zql rfl]
 unfold ZhM
 rw [Za e1,Za e2,Za e3,Za e4]
 rfl
theorem ZqT (h : Idx X x o a OW OF) : ∃ X',R (n+1) Yt [pt x,strv k] X=some (.bool (Zj k OF).isSome,X')∧Idx X' x o a (Zba k OW OF) (Wv k OF)∧Zw [o,a] X [o,a] X':=by
 have e1:=ZuD (k:=k) h.of.g
 have f1 : ∀ r X',WA (R n) (pt x) (strv k) X=some (r,X')→R (n+1) Yt [pt x,strv k] X=some (r,X'):=fun r X' hr=>by rw [R,Zjc rfl];exact hr
 cases hk : Zj k OF with
 | none=>
  rw [hk] at e1
  simp only [Option.isSome_none,Option.getD_none] at e1 ⊢
  have hi : Idx X x o a (Zba k OW OF) (Wv k OF):=by unfold Zba Wv;rw [hk];exact h
  refine ⟨X,f1 _ _ ?_,hi,.refl _ _⟩
  unfold WA
  rw [Za Zs,Za Zi,Za h.l1,Za e1,Za Zn,Za Zo]
  refine (QC (vs:=[.bool false]) (H':=X) ?_).trans rfl
  rw [Zb,if_neg (by simp)]
  rfl
 | some mm=>
  rw [hk] at e1
  simp only [Option.isSome_some,Option.getD_some] at e1 ⊢
  obtain ⟨X1,e2,m2,s2,_⟩:=h.ow.mde (k:=mm)
  have of1:=h.of.step s2 (by simp [Ne.symm h.ne])
  have c1:=s2.get h.c (by simp [h.not.1])
  obtain ⟨X2,e3,m3,s3,_⟩:=of1.mde (k:=k)
  have s12:=(s2.mono2 (o2:=[o,a]) (by simp)).trans (s3.mono2 (o2:=[o,a]) (by simp))
  have hinv:=h.inv.drop (k:=k) h.ow.nod h.of.nod
  have hi : Idx X2 x o a (Zba k OW OF) (Wv k OF):=by
   unfold Zba Wv at hinv ⊢
   rw [hk] at hinv ⊢
   exact ⟨s3.get c1 (by simp [h.not.2]),m2.step s3 (by simp [h.ne]),m3,h.ne,hinv⟩
  refine ⟨X2,f1 _ _ ?_,hi,s12⟩
  have l0' : ld1 (pa x 0) X=some (.map (some o),X):=h.l0
  have l1' : ld1 (pa x 1) X1=some (.map (some a),X1):=ZV c1 rfl
  unfold WA
  rw [Za Zs,Za Zi,Za h.l1,Za e1,Za Zn,Za Zo]
  refine (QC (vs:=[.bool true]) (H':=X2) ?_).trans rfl
  rw [Zb,if_pos rfl,Za Zs,Za Zi,Za l0']
  refine (Za e2).trans ?_
  rw [Za Zs,Za Zi,Za l1',Za e3]
  rfl
theorem ZtA {f : List UInt8} (h : Idx X x o a OW OF) (h1 : Zj f OW=none) (h2 : Zj k OF=none) (hk : k≠[]∧k.length≤12) (hf : f≠[]∧f.length≤20) :
  ∃ X',(∀ K : M Value,bind (men .str (.string ⟨#[]⟩) (.map (some o)) (strv f)) (fun v60=>bind (ZE v60 1) fun v61=>bind (ens (.map (some o)) v61 (strv k)) fun _=>bind (men .str (.string ⟨#[]⟩) (.map (some a)) (strv k)) fun v62=>bind (ZE v62 1) fun v63=>bind (ens (.map (some a)) v63 (strv f)) fun _=>K) X=K X')∧Idx X' x o a (Ju f k OW) (Ju k f OF)∧Zw [o,a] X [o,a] X':=by
 obtain ⟨t1,st1,Y1,Y2,e1,e2,e3,m1,_,s1,_⟩:=h.ow.put (k:=f) (v:=k) (z:=.string ⟨#[]⟩)
 have of1:=h.of.step s1 (by simp [Ne.symm h.ne])
 have c1:=s1.get h.c (by simp [h.not.1])
 obtain ⟨t2,st2,Z1,Z2,e4,e5,e6,m2,_,s2,_⟩:=of1.put (k:=k) (v:=f) (z:=.string ⟨#[]⟩)
 refine ⟨Z2,fun K=>?_,⟨s2.get c1 (by simp [h.not.2]),m1.step s2 (by simp [h.ne]),m2,h.ne,h.inv.put h1 h2 hk hf⟩,(s1.mono2 (o2:=[o,a]) (by simp)).trans (s2.mono2 (o2:=[o,a]) (by simp))⟩
 rw [Za e1,Za e2,Za e3,Za e4,Za e5,Za e6]
theorem Zwh (h : Idx X x o a OW OF) : ∃ X',R (n+9) YQ [pt x,strv k,strv m] X=some (iv (WY k m OW),X')∧Idx X' x o a (ZuA k m OW OF) (Zgm k m OW OF)∧Zw [o,a] X [o,a] X':=by
 have f1 : ∀ r X',YP (R (n+8)) (pt x) (strv k) (strv m) X=some (r,X')→R (n+9) YQ [pt x,strv k,strv m] X=some (r,X'):=fun r X' hr=>by rw [R,ZjY rfl];exact hr
 have e1 : R (n+8) JU [strv k] X=some (iv (Qc k),X):=Zeg (n:=n+3)
 have q1 : bop .str .eql (strv m) (.string ⟨#[]⟩) X=some (.bool (m==[]),X):=Zda (b:=[])
 unfold WY ZuA Zgm WY
 cases hn : ZA k
 ·have he : Qc k=10:=by unfold Qc;rw [hn];rfl
  refine ⟨X,f1 _ _ ?_,by simpa using h,.refl _ _⟩
  unfold YP
  rw [Za e1,he,Za Zp,Zb,if_pos (by rfl)]
  rfl
 ·have he : Qc k=0:=ZeZ.2 hn
  by_cases hm0 : m=[]
  ·obtain ⟨X1,e2,i2,s2⟩:=ZqT (n:=n+7) (k:=k) h
   have e2 : R (n+8) Yt [pt x,strv k] X=_:=e2
   refine ⟨X1,f1 _ _ ?_,by simpa [hm0] using i2,s2⟩
   unfold YP
   rw [Za e1,he,Za Zp,Zb,if_neg (by decide),Za q1,Zb,if_pos (by simp [hm0]),Za e2]
   simp [hm0,ret]
  ·obtain ⟨X1,e2,k2⟩:=Ztk (n:=n) (s:=m) (X:=X)
   have h1:=h.hle k2
   have ks:=k2.step.more (o2:=[o,a]) (o2':=[o,a]) (by simp) (fun j hj=>.inl hj)
   cases hmb : KP m
   ·rw [hmb] at e2
    refine ⟨X1,f1 _ _ ?_,by simpa [hm0] using h1,ks⟩
    unfold YP
    rw [Za e1,he,Za Zp,Zb,if_neg (by decide),Za q1,Zb,if_neg (by simpa using hm0),Za e2,Za Zn,Za Zo]
    have q3 : bop .int .neq (iv (if false=true then 0 else 11)) (.int .i64 0) X1=some (.bool true,X1):=by rw [Zp];rfl
    rw [Za q3,Zb,if_pos rfl]
    simp [hm0,ret]
   ·rw [hmb] at e2
    simp only [if_true] at e2
    have e3:=ZuD (k:=Qt m) h1.ow.g
    have hfm:=ZfD hmb
    have hkn:=Zvh hn
    have q3 : bop .int .neq (iv 0) (.int .i64 0) X1=some (.bool false,X1):=by rw [Zp];rfl
    simp only [if_true,if_neg hm0]
    have hgo : (∀ w,Zj (Qt m) OW=some w→w=k)→∃ X',R (n+9) YQ [pt x,strv k,strv m] X=some (iv 0,X')∧Idx X' x o a (Ju (Qt m) k (Zba k OW OF)) (Ju k (Qt m) (Wv k OF))∧Zw [o,a] X [o,a] X':=fun hw=>by
     obtain ⟨X2,e4,i4,s4⟩:=ZqT (n:=n+7) (k:=k) h1
     have e4 : R (n+8) Yt [pt x,strv k] X1=_:=e4
     obtain ⟨X3,e5,i5,s5⟩:=ZtA (k:=k) (f:=Qt m) i4 (ZrY h.inv hw) Zea hkn hfm
     refine ⟨X3,f1 _ _ ?_,i5,(ks.trans s4).trans s5⟩
     unfold YP
     rw [Za e1,he,Za Zp,Zb,if_neg (by decide),Za q1,Zb,if_neg (by simpa using hm0),Za e2,Za Zn,Za Zo,Za q3,Zb,if_neg (by simp),Za Zs,Za Zi,Za h1.l0,Za e3,Za Zn,Za Zo]
     cases ho : Zj (Qt m) OW with
     | none=>
      simp only [Option.isSome_none]
      rw [Za (g_r.trans (if_neg (by simp)))]
      simp only [List.replicate]
      rw [ZR,Za Zh]
      simp only [cond_false]
      rw [Zb,if_neg (by simp),Za e4,Za Zs,Za Zi,Za i4.l0,Za Zs,Za Zi,Za i4.l1]
      exact e5 _
     | some w=>
      have:=hw w ho
      subst this
      have q4 : bop .str .neq (strv w) (strv w) X1=some (.bool false,X1):=by rw [ZbC];simp
      simp only [Option.isSome_some,Option.getD_some]
      rw [ZL,Zf,Za q4,ZO,ZR,Za Zh]
      simp only [cond_true]
      rw [Zb,if_neg (by simp),Za e4,Za Zs,Za Zi,Za i4.l0,Za Zs,Za Zi,Za i4.l1]
      exact e5 _
    cases ho : Zj (Qt m) OW with
    | none=>simpa using hgo (fun w hw=>by rw [ho] at hw;cases hw)
    | some w=>
     by_cases hw : w=k
     ·simpa [hw] using hgo (fun w' hw'=>by rw [ho] at hw';cases hw';exact hw)
     ·simp only [if_neg hw]
      refine ⟨X1,f1 _ _ ?_,by simpa using h1,ks⟩
      have q4 : bop .str .neq (strv w) (strv k) X1=some (.bool true,X1):=by rw [ZbC,beq_eq_false_iff_ne.2 hw];rfl
      rw [ho] at e3
      simp only [Option.isSome_some,Option.getD_some] at e3
      unfold YP
      rw [Za e1,he,Za Zp,Zb,if_neg (by decide),Za q1,Zb,if_neg (by simpa using hm0),Za e2,Za Zn,Za Zo,Za q3,Zb,if_neg (by simp),Za Zs,Za Zi,Za h1.l0,Za e3,Za Zn,Za Zo,ZL,Zf,Za q4,ZO,ZR,Za Zh]
      simp only [cond_true]
      rw [Zb,if_pos rfl]
      rfl
theorem ZwT (h : Idx X x o a OW OF) : R (n+1) Zak [pt x,strv k] X=some (.tuple #[strv ((Zj k OF).getD []),.bool (Zj k OF).isSome],X):=by
 have e1:=ZuD (k:=k) h.of.g
 rw [R,ZlF rfl]
 unfold ZdC
 rw [Za Zs,Za Zi,Za h.l1,Za e1,Za Zn,Za Zo]
 rfl
end
end Go.Proofs.YtedkoimihknggaaGreatDoor.A
namespace Go.Proofs.YtedkoimihknggaaGreatDoor.A
set_option linter.unusedVariables false
set_option linter.unusedSimpArgs false
open Go.Proofs Go.Proofs.YtedkoimihknggaaGreatDoor
section
variable {H X X' : Zc} {n x o a : Nat} {OW OF : Kz} {k m : List UInt8}
end
end Go.Proofs.YtedkoimihknggaaGreatDoor.A
namespace Go.Proofs.YtedkoimihknggaaGreatDoor.A
set_option linter.unusedVariables false
set_option linter.unusedSimpArgs false
open Go.Proofs Go.Proofs.YtedkoimihknggaaGreatDoor
section
variable {n : Nat}
variable {X : Zc} {x o a : Nat} {OW OF : Kz}
end
end Go.Proofs.YtedkoimihknggaaGreatDoor.A

namespace Go.Proofs.YtedkoimihknggaaGreatDoor.A
set_option linter.unusedVariables false
set_option linter.unusedSimpArgs false
open Go.Proofs Go.Proofs.YtedkoimihknggaaGreatDoor
abbrev Acc:=Tx × Bool
def Zbl (p : Acc) : Value:=.agg #[strv p.1,.bool p.2]
abbrev AMp:=List (Tx × Acc)
structure NSt where
 A : AMp
 OW : Kz
 OF : Kz
 K : List Tx
 mem : Mem
structure Kl (s : NSt) : Prop where
 nm : ∀ p∈s.A,ZA p.1=true∧Zaz p.2.1=true
 few : s.A.length≤12
 ofA : ∀ n,(Zj n s.OF).isSome=true→(Zj n s.A).isSome=true
 memA : ∀ k n,s.mem k n=true→(Zj n s.A).isSome=true
 good : ∀ n m,Zj n s.OF=some m→KP m=true∧Qt m=m
structure NR where
 b : Nat
 x : Nat
 o : Nat
 a : Nat
 g : Nat
 o2 : Nat
 G : Zgh
def NR.own (r : NR) : List Nat:=r.b :: r.o :: r.a :: Ym r.o2 r.G
structure ND0 (X : Zc) (d : Nat) (r : NR) (s : NSt) (c : Nat) : Prop where
 cell : X[d]?=some (.cells [.map (some r.b),pt r.x,pt r.g] 1 false false)
 m : J8 Zbl X r.b s.A
 ix : Idx X r.x r.o r.a s.OW s.OF
 gr : Grp X r.g r.o2 r.G s.mem c
 ks : Q7 r.G=s.K
 dis : r.b≠r.o∧r.b≠r.a∧r.b∉Ym r.o2 r.G∧r.o∉Ym r.o2 r.G∧r.a∉Ym r.o2 r.G
structure ND (X : Zc) (d : Nat) (r : NR) (s : NSt) (c : Nat) : Prop extends ND0 X d r s c where
 inv : Kl s
def WN (s : NSt) (n : Tx) (p : Acc) : YG:=(n,p.1,(Zj n s.OF).getD [],p.2,ofL n s.K s.mem)
def Yl (s : NSt) (n : Tx) : Option YG:=(Zj n s.A).map (WN s n)
def W9 (n : Tx) (A : AMp) : Int:=if ZA n then (if (Zj n A).isSome then 0 else 8) else 10
theorem Zwm {n : Tx} {A : AMp} (h : W9 n A=0) : ZA n=true∧∃ p,Zj n A=some p:=by
 unfold W9 at h
 cases hn : ZA n
 ·rw [hn] at h;simp at h
 ·rw [hn] at h
  cases ha : Zj n A with
  | none=>rw [ha] at h;simp at h
  | some p=>exact ⟨rfl,p,rfl⟩
section
variable {X X' : Zc} {n d c : Nat} {r : NR} {s : NSt} {k : Tx}
theorem J8.isMap {α : Type} {enc : α→Value} {id : Nat} {mm : List (Tx × α)} (hm : J8 enc X id mm) : id < X.length∧∀ cs es gr ro,X[id]?≠some (.cells cs es gr ro):=⟨hm.lt,fun cs es gr ro e=>by
 obtain ⟨es',_,h1 | h1⟩:=hm.ex
 ·obtain ⟨clk,h1,_⟩:=h1;rw [e] at h1;cases h1
 ·rw [e] at h1;cases h1⟩
theorem ND0.isMap (h : ND0 X d r s c) {j : Nat} (hj : j∈r.own) : j < X.length∧∀ cs es gr ro,X[j]?≠some (.cells cs es gr ro):=by
 unfold NR.own at hj
 rcases List.mem_cons.1 hj with rfl | hj
 ·exact h.m.isMap
 ·rcases List.mem_cons.1 hj with rfl | hj
  ·exact h.ix.ow.g.isMap
  ·rcases List.mem_cons.1 hj with rfl | hj
   ·exact h.ix.of.g.isMap
   ·exact h.gr.isMap hj
theorem ND0.dnot (h : ND0 X d r s c) : d∉r.own:=fun hj=>(h.isMap hj).2 _ _ _ _ h.cell
theorem ND0.xnot (h : ND0 X d r s c) : r.x∉r.own:=fun hj=>(h.isMap hj).2 _ _ _ _ h.ix.c
theorem ND0.gnot (h : ND0 X d r s c) : r.g∉r.own:=fun hj=>(h.isMap hj).2 _ _ _ _ h.gr.cell
theorem ND0.step {o1 o2 : List Nat} (h : ND0 X d r s c) (hs : Zw o1 X o2 X') (hd : d∉o1) (hx : r.x∉o1) (hg : r.g∉o1) (ho : ∀ j∈r.own,j∉o1) : ND0 X' d r s c:=
 ⟨hs.get h.cell hd,h.m.step hs (ho _ (by simp [NR.own])),h.ix.step hs hx (ho _ (by simp [NR.own])) (ho _ (by simp [NR.own])),h.gr.step hs hg (fun j hj=>ho j (by
  unfold NR.own
  exact List.mem_cons_of_mem _ (List.mem_cons_of_mem _ (List.mem_cons_of_mem _ hj)))),h.ks,h.dis⟩
theorem ND0.hle (h : ND0 X d r s c) (hl : HLe X X') : ND0 X' d r s c:=h.step hl.step (by simp) (by simp) (by simp) (by simp)
theorem ND0.l0 (h : ND0 X d r s c) : ld1 (pa d 0) X=some (.map (some r.b),X):=ZV h.cell rfl
theorem ND0.l1 (h : ND0 X d r s c) : ld1 (pa d 1) X=some (pt r.x,X):=ZV h.cell rfl
theorem ND0.l2 (h : ND0 X d r s c) : ld1 (pa d 2) X=some (pt r.g,X):=ZV h.cell rfl
theorem ND.step {o1 o2 : List Nat} (h : ND X d r s c) (hs : Zw o1 X o2 X') (hd : d∉o1) (hx : r.x∉o1) (hg : r.g∉o1) (ho : ∀ j∈r.own,j∉o1) : ND X' d r s c:=⟨h.toND0.step hs hd hx hg ho,h.inv⟩
theorem ND.hle (h : ND X d r s c) (hl : HLe X X') : ND X' d r s c:=⟨h.toND0.hle hl,h.inv⟩
def CLe (X X' : Zc) : Prop:=∀ (i : Nat) (cs : List Value) (es : Nat) (g ro : Bool),X[i]?=some (Zd.cells cs es g ro)→X'[i]?=some (Zd.cells cs es g ro)
theorem CLe.trans {Y : Zc} (h : CLe X X') (h' : CLe X' Y) : CLe X Y:=fun i cs es g ro hi=>h' i _ _ _ _ (h i _ _ _ _ hi)
theorem Zw.cle {o1 o2 : List Nat} (hs : Zw o1 X o2 X') (hm : ∀ j∈o1,∀ cs es g ro,X[j]?≠some (Zd.cells cs es g ro)) : CLe X X':=fun i cs es g ro hi=>hs.get hi fun hj=>hm i hj _ _ _ _ hi
theorem ND0.cle {o2 : List Nat} (h : ND0 X d r s c) (hs : Zw r.own X o2 X') : CLe X X':=hs.cle fun j hj=>(h.isMap hj).2
theorem Sl.cle {sl : Value} {vs : List Value} (h : Sl X sl vs) (hc : CLe X X') : Sl X' sl vs:=by
 obtain ⟨a,c,rfl,h0,h⟩:=h
 refine ⟨a,c,rfl,h0,?_⟩
 unfold Qj at h ⊢
 split at h
 ·exact h
 ·rename_i id o n x _
  split at h
  ·rename_i cs es g ro hid
   simp only [hc _ _ _ _ _ hid];exact h
  ·cases h
 ·exact h
 ·rename_i e;cases e
 ·cases h
theorem Zxg {k : Tx} {t : Bool} {H : Zc} : bld (.agg #[.string ⟨#[]⟩,.bool false]) [(0,1,strv k),(1,1,.bool t)] H=some (Zbl (k,t),H):=by
 simp [bld,KW,Value.cells,YC,strv,splice,Zbl]
theorem ZvJ (X : Zc) : Kl ⟨[],[],[],[],fun _ _=>false⟩:=⟨by simp,by simp,by simp [Zj],by simp,by simp [Zj]⟩
theorem Zs2 : ∃ X' d r,R (n+2) Zae [] X=some (pt d,X')∧ND X' d r ⟨[],[],[],[],fun _ _=>false⟩ 0∧HLe X X'∧X.length≤d∧∀ j∈r.own,X.length≤j:=by
 obtain ⟨X1,e1,m1,k1⟩:=Zrk (α:=Acc) (enc:=Zbl) X
 have hl1 : X.length < X1.length:=m1.lt
 obtain ⟨X2,x,o,a,e2,i2,k2,o21,o22,o23⟩:=Zwu (n:=n) (X:=X1)
 obtain ⟨X3,g,o2,e3,g3,k3,o31,o32⟩:=Zwg (n:=n) (X:=X2)
 have hi:=i2.lt
 have e4 : bld (.agg #[.map none,.pointer none,.pointer none]) [(0,1,.map (some X.length)),(1,1,pt x),(2,1,pt g)] X3=some (.agg #[.map (some X.length),pt x,pt g],X3):=by
  simp [bld,KW,Value.cells,YC,splice]
 have e5 : alc 1 (.agg #[.map (some X.length),pt x,pt g]) X3=some (pt X3.length,X3++[.cells [.map (some X.length),pt x,pt g] 1 false false]):=Zc8 (vs:=[.map (some X.length),pt x,pt g]) rfl
 have k4 : HLe X3 (X3++[Zd.cells [.map (some X.length),pt x,pt g] 1 false false]):=.app _ _
 refine ⟨_,X3.length,⟨X.length,x,o,a,g,o2,[]⟩,?_,⟨⟨Zx,((m1.hle k2).hle k3).hle k4,(i2.hle k3).hle k4,g3.hle k4,rfl,⟨by simp only;omega,by simp only;omega,?_,?_,?_⟩⟩,ZvJ X⟩,((k1.trans k2).trans k3).trans k4,?_,?_⟩
 ·rw [R,Zof rfl]
  unfold Zf1
  rw [Za e1,Za e2,Za e3,Za e4,Za e5]
  rfl
 ·simp only [Ym,List.map_nil,List.mem_singleton]
  have:=k2.len;omega
 ·simp only [Ym,List.map_nil,List.mem_singleton]
  omega
 ·simp only [Ym,List.map_nil,List.mem_singleton]
  omega
 ·have:=k1.len;have:=k2.len;have:=k3.len;omega
 ·intro j hj
  have:=k1.len;have:=k2.len
  simp only [NR.own,Ym,List.map_nil,List.mem_cons,List.not_mem_nil,or_false] at hj
  omega
theorem ZvO (h : ND X d r s c) : ∃ X',R (n+6) WV [pt d,strv k] X=some (.tuple #[Zbl (if ZA k then (Zj k s.A).getD ([],false) else ([],false)),iv (W9 k s.A)],X')∧HLe X X':=by
 have one : ∀ p : Acc,([strv p.1,.bool p.2] : List Value).all oneCell=true:=fun _=>rfl
 have z1 : alc 1 (.agg #[.string ⟨#[]⟩,.bool false]) X=some (pt X.length,X++[.cells [strv [],.bool false] 1 false false]):=Zc8 (vs:=[strv [],.bool false]) rfl
 have k1 : HLe X (X++[Zd.cells [strv [],.bool false] 1 false false]):=.app _ _
 have c1 : (X++[Zd.cells [strv [],.bool false] 1 false false])[X.length]?=some (.cells [strv [],.bool false] 1 false false):=Zx
 have ll1 : X.length < (X++[Zd.cells [strv [],.bool false] 1 false false]).length:=by simp
 generalize X++[Zd.cells [strv [],.bool false] 1 false false]=X1 at z1 k1 c1 ll1
 have h1:=h.hle k1
 have e1 : R (n+5) JU [strv k] X1=_:=Zeg
 have f1 : ∀ v X',K3 (R (n+5)) (pt d) (strv k) X=some (v,X')→R (n+6) WV [pt d,strv k] X=some (v,X'):=fun v X' hr=>by rw [R,Zj8 rfl];exact hr
 have fin : ∀ (p : Acc) (Y : Zc) (K : Value→M Value),Y[X.length]?=some (.cells [strv [],.bool false] 1 false false)→bind (stA 2 (pt X.length) (Zbl p)) (fun _=>bind (ldA 2 (pt X.length)) K) Y=K (Zbl p) (Y.set X.length (.cells [strv p.1,.bool p.2] 1 false false)):=fun p Y K hY=>by
  have w:=YX (vs:=[strv p.1,.bool p.2]) (n:=2) hY rfl rfl rfl
  have w : stA 2 (pt X.length) (Zbl p) Y=_:=w
  have l : ldA 2 (pt X.length) (Y.set X.length (.cells [strv p.1,.bool p.2] 1 false false))=some (Zbl p,_):=Z9 (n:=2) (ZT hY) rfl
  rw [Za w,Za l]
 have put : ∀ {Y : Zc} {o : Zd},HLe X Y→HLe X (Y.set X.length o):=fun hl i v hi=>by
  have:=Z6 hi
  rw [List.getElem?_set_ne (by omega)]
  exact hl i v hi
 cases hnm : ZA k
 ·have he : W9 k s.A=10:=by unfold W9;rw [hnm];rfl
  have q1 : bop .int .neq (iv (Qc k)) (.int .i64 0) X1=some (.bool true,X1):=by rw [Zp];unfold Qc;rw [hnm];rfl
  have zb : bld (.agg #[.string ⟨#[]⟩,.bool false]) [] X1=some (Zbl ([],false),X1):=rfl
  rw [he]
  refine ⟨X1.set X.length (.cells [strv [],.bool false] 1 false false),f1 _ _ ?_,put k1⟩
  unfold K3
  rw [Za z1,Za e1,Za q1,Zb,if_pos rfl,Za zb]
  refine (fin _ _ _ c1).trans ?_
  rw [show Qc k=10 by unfold Qc;rw [hnm];rfl]
  rfl
 ·have q1 : bop .int .neq (iv (Qc k)) (.int .i64 0) X1=some (.bool false,X1):=by rw [Zp];unfold Qc;rw [hnm];rfl
  have e2 : lkp .str (.agg #[.string ⟨#[]⟩,.bool false]) true (.map (some r.b)) (strv k) X1=some (.tuple #[Zbl ((Zj k s.A).getD ([],false)),.bool (Zj k s.A).isSome],X1):=by
   rw [h1.m.lkp]
   cases Zj k s.A <;> rfl
  generalize hv : (Zj k s.A).getD ([],false)=p at e2
  have z2 : ∀ K : Value→M Value,bind (alc 1 (.agg #[.string ⟨#[]⟩,.bool false])) (fun q=>bind (stA 2 q (Zbl p)) fun _=>K q) X1=K (pt X1.length) (X1++[.cells [strv p.1,.bool p.2] 1 false false]):=fun K=>Zcl (n:=2) (zs:=[strv [],.bool false]) (r:=[strv p.1,.bool p.2]) rfl rfl rfl rfl
  have k2 : HLe X1 (X1++[Zd.cells [strv p.1,.bool p.2] 1 false false]):=.app _ _
  have c2 : (X1++[Zd.cells [strv p.1,.bool p.2] 1 false false])[X1.length]?=some (.cells [strv p.1,.bool p.2] 1 false false):=Zx
  have c12:=k2 _ _ c1
  generalize X1++[Zd.cells [strv p.1,.bool p.2] 1 false false]=X2 at z2 k2 c2 c12
  have d2 : ldA 2 (pt X1.length) X2=some (Zbl p,X2):=Z9 (n:=2) c2 rfl
  have zb : bld (.agg #[.string ⟨#[]⟩,.bool false]) [] X2=some (Zbl ([],false),X2):=rfl
  cases hs : (Zj k s.A).isSome
  ·have he : W9 k s.A=8:=by unfold W9;rw [hnm,hs];rfl
   have hp : p=([],false):=by
    rw [← hv]
    cases ha : Zj k s.A with
    | none=>rfl
    | some v=>rw [ha] at hs;cases hs
   rw [hs] at e2
   rw [he]
   refine ⟨X2.set X.length (.cells [strv [],.bool false] 1 false false),f1 _ _ ?_,put (k1.trans k2)⟩
   unfold K3
   rw [Za z1,Za e1,Za q1,Zb,if_neg (by simp),Za Zs,Za Zi,Za h1.l0,Za e2,Za Zn,Za Zo,z2,Za ZN,Zb,if_pos (by rfl),Za zb]
   refine (fin _ _ _ c12).trans ?_
   rw [hp]
   rfl
  ·have he : W9 k s.A=0:=by unfold W9;rw [hnm,hs];rfl
   rw [hs] at e2
   rw [he]
   refine ⟨X2.set X.length (.cells [strv p.1,.bool p.2] 1 false false),f1 _ _ ?_,put (k1.trans k2)⟩
   unfold K3
   rw [Za z1,Za e1,Za q1,Zb,if_neg (by simp),Za Zs,Za Zi,Za h1.l0,Za e2,Za Zn,Za Zo,z2,Za ZN,Zb,if_neg (by simp),Za d2]
   exact fin _ _ _ c12
theorem Zr8 (h : ND X d r s c) : ∃ u q X',R (n+7) Wa [pt d,strv k] X=some (.tuple #[.agg u.cells.toArray,iv (W9 k s.A)],X')∧Zq X' u.gv (u.gs.map strv) q∧(∀ j∈q,X.length≤j)∧HLe X X'∧u.gs.length≤6∧
  ZG u=if W9 k s.A=0 then WN s k ((Zj k s.A).getD ([],false)) else ([],[],[],false,[]):=by
 have z1 : alc 1 (.agg #[.string ⟨#[]⟩,.string ⟨#[]⟩,.string ⟨#[]⟩,.bool false,.slice none 0 0]) X=some (pt X.length,X++[.cells (usr ([],[])) 1 false false]):=Zc8 (vs:=usr ([],[])) rfl
 have k1 : HLe X (X++[Zd.cells (usr ([],[])) 1 false false]):=.app _ _
 have c1 : (X++[Zd.cells (usr ([],[])) 1 false false])[X.length]?=some (.cells (usr ([],[])) 1 false false):=Zx
 generalize X++[Zd.cells (usr ([],[])) 1 false false]=X1 at z1 k1 c1
 obtain ⟨X2,e2,k2⟩:=ZvO (n:=n) (k:=k) (h.hle k1)
 have f1 : ∀ v X',K6 (R (n+6)) (pt d) (strv k) X=some (v,X')→R (n+7) Wa [pt d,strv k] X=some (v,X'):=fun v X' hr=>by rw [R,Zhg rfl];exact hr
 generalize hp : (if ZA k then (Zj k s.A).getD ([],false) else ([],false))=p at e2
 have z2 : ∀ K : Value→M Value,bind (alc 1 (.agg #[.string ⟨#[]⟩,.bool false])) (fun q=>bind (stA 2 q (Zbl p)) fun _=>K q) X2=K (pt X2.length) (X2++[.cells [strv p.1,.bool p.2] 1 false false]):=fun K=>Zcl (n:=2) (zs:=[strv [],.bool false]) (r:=[strv p.1,.bool p.2]) rfl rfl rfl rfl
 have k3 : HLe X2 (X2++[Zd.cells [strv p.1,.bool p.2] 1 false false]):=.app _ _
 have c3 : (X2++[Zd.cells [strv p.1,.bool p.2] 1 false false])[X2.length]?=some (.cells [strv p.1,.bool p.2] 1 false false):=Zx
 have hlx : X.length < X2.length:=by have:=Z6 c1;have:=k2.len;omega
 generalize X2++[Zd.cells [strv p.1,.bool p.2] 1 false false]=X3 at z2 k3 c3
 have c13:=k3 _ _ (k2 _ _ c1)
 have k13:=(k1.trans k2).trans k3
 have put : ∀ {Y : Zc} {o : Zd},HLe X Y→HLe X (Y.set X.length o):=fun hl i v hi=>by
  have:=Z6 hi
  rw [List.getElem?_set_ne (by omega)]
  exact hl i v hi
 by_cases he : W9 k s.A=0
 ·obtain ⟨hnm,q0,hq0⟩:=Zwm he
  have hpq : p=q0:=by rw [← hp,hnm,hq0];rfl
  subst hpq
  have q1 : bop .int .neq (iv (W9 k s.A)) (.int .i64 0) X3=some (.bool false,X3):=by rw [Zp,he];rfl
  have h3:=h.hle k13
  have e4 : R (n+6) Zak [pt r.x,strv k] X3=_:=ZwT (n:=n+5) h3.ix
  have a0 : ∀ Y,HLe X3 Y→ld1 (pa X2.length 0) Y=some (strv p.1,Y):=fun Y hl=>ZV (hl _ _ c3) rfl
  have a1 : ∀ Y,HLe X3 Y→ld1 (pa X2.length 1) Y=some (.bool p.2,Y):=fun Y hl=>ZV (hl _ _ c3) rfl
  obtain ⟨gv,q,X4,e5,r5,k5,o5⟩:=Zw8 (n:=n+2) (m:=k) h3.gr
  have e5 : R (n+6) Wp [pt r.g,strv k] X3=_:=e5
  rw [h.ks] at r5
  have hfew : (ofL k s.K s.mem).length≤6:=by
   have h1:=Zl2 (m:=k) (K:=s.K) (mem:=s.mem)
   have h2:=h.gr.few
   have h3 : s.K.length=r.G.length:=by rw [← h.ks];simp
   omega
  have hone:=r5.one
  have zb : bld (.agg #[.string ⟨#[]⟩,.string ⟨#[]⟩,.string ⟨#[]⟩,.bool false,.slice none 0 0]) [(0,1,strv k),(1,1,strv p.1),(2,1,strv ((Zj k s.OF).getD [])),(3,1,.bool p.2),(4,1,gv)] X4=some (.agg (Zm.cells ⟨k,p.1,(Zj k s.OF).getD [],p.2,gv,ofL k s.K s.mem⟩).toArray,X4):=by
   obtain ⟨ga,gn,gc,hgv⟩ : ∃ a n c,gv=.slice a n c:=by
    rcases r5 with ⟨_,_,h⟩ | ⟨_,_,_,h,_,_⟩
    ·exact ⟨_,_,_,h⟩
    ·exact ⟨_,_,_,h⟩
   rw [hgv]
   simp [bld,KW,Value.cells,YC,strv,splice,Zm.cells]
  have c14:=k5 _ _ c13
  have w4:=YX (vs:=Zm.cells ⟨k,p.1,(Zj k s.OF).getD [],p.2,gv,ofL k s.K s.mem⟩) (n:=5) c14 rfl rfl (by simp only [Zm.cells,List.all_cons,hone.1];rfl)
  have d4 : ldA 5 (pt X.length) (X4.set X.length (.cells (Zm.cells ⟨k,p.1,(Zj k s.OF).getD [],p.2,gv,ofL k s.K s.mem⟩) 1 false false))=some (.agg (Zm.cells ⟨k,p.1,(Zj k s.OF).getD [],p.2,gv,ofL k s.K s.mem⟩).toArray,_):=Z9 (n:=5) (ZT c14) rfl
  refine ⟨⟨k,p.1,(Zj k s.OF).getD [],p.2,gv,ofL k s.K s.mem⟩,q,X4.set X.length (.cells (Zm.cells ⟨k,p.1,(Zj k s.OF).getD [],p.2,gv,ofL k s.K s.mem⟩) 1 false false),f1 _ _ ?_,r5.keep fun j hj=>List.getElem?_set_ne (fun e=>?_),fun j hj=>Nat.le_trans k13.len (o5 j hj),put (k13.trans k5),hfew,?_⟩
  ·unfold K6
   rw [Za z1,Za e2,Za Zn,Za Zo,z2,Za q1,Zb,if_neg (by simp),Za Zs,Za Zi,Za h3.l1,Za e4,Za Zn,Za Zo,Za Zi,Za (a0 _ (.refl _)),Za Zi,Za (a1 _ (.refl _)),Za Zs,Za Zi,Za h3.l2,Za e5,Za (a1 _ k5),Qz,Za (a0 _ k5),Qz,Za zb,Za w4,Za d4,he]
   rfl
  ·have:=o5 j hj
   have:=Z6 c13
   omega
  ·rw [if_pos he,hq0]
   rfl
 ·have q1 : bop .int .neq (iv (W9 k s.A)) (.int .i64 0) X3=some (.bool true,X3):=by rw [Zp];simp [he]
  have zb : bld (.agg #[.string ⟨#[]⟩,.string ⟨#[]⟩,.string ⟨#[]⟩,.bool false,.slice none 0 0]) [] X3=some (.agg (usr ([],[])).toArray,X3):=rfl
  have w3:=YX (vs:=usr ([],[])) (n:=5) c13 rfl rfl rfl
  have d3 : ldA 5 (pt X.length) (X3.set X.length (.cells (usr ([],[])) 1 false false))=some (.agg (usr ([],[])).toArray,_):=Z9 (n:=5) (ZT c13) rfl
  refine ⟨⟨[],[],[],false,.slice none 0 0,[]⟩,[],X3.set X.length (.cells (usr ([],[])) 1 false false),f1 _ _ ?_,Zq.nil,by simp,put k13,Nat.zero_le _,by rw [if_neg he];rfl⟩
  unfold K6
  rw [Za z1,Za e2,Za Zn,Za Zo,z2,Za q1,Zb,if_pos rfl,Za zb,Za w3,Za d3]
  rfl
theorem ZsH (h : ND X d r s c) : R (n+1) KK [pt d] X=some (iv s.A.length,X):=by
 rw [R,Zlv rfl]
 unfold ZdE
 rw [Za Zs,Za Zi,Za h.l0,Za h.m.len]
 rfl
theorem Znc (h : ND X d r s c) : ∃ v q X',R (n+4) YH [pt d] X=some (v,X')∧Zq X' v ((Qk s.K).map strv) q∧HLe X X'∧∀ j∈q,X.length≤j:=by
 obtain ⟨v,q,X',e,r1,l,o⟩:=ZsV (n:=n) h.gr
 have e : R (n+3) YL [pt r.g] X=_:=e
 rw [h.ks] at r1
 refine ⟨v,q,X',?_,r1,l,o⟩
 rw [R,Zh8 rfl]
 unfold ZbI
 rw [Za Zs,Za Zi,Za h.l2,Za e]
 rfl
abbrev Zad (s : NSt) : List Tx:=s.A.map (·.1)
theorem Zt2 (h : ND X d r s c) : ∃ v q X',R (n+2) Wq [pt d] X=some (v,X')∧Zq X' v ((Qk (Zad s)).map strv) q∧HLe X X'∧∀ j∈q,X.length≤j:=by
 have e1 : run Tryz.prog np lvs (n+1) Qq [.map (some r.b)] X=some (.func (.func QX) #[] #[pt X.length],X++[.cells [.map (some r.b)] 1 false false]):=by
  rw [KM rfl]
  unfold Q2
  rw [Za (Zn0 rfl rfl _)]
  rfl
 have l1 : HLe X (X++[.cells [.map (some r.b)] 1 false false]):=.app _ _
 obtain ⟨v,q,H2,e2,r2,l2,o2⟩:=(h.m.hle l1).keys (gks:=Zhe) (gc:=JB) (gk:=QX) (c:=X.length) (by decide) Zx (Nat.le_trans h.inv.few (by decide)) (fun p hp=>Nat.le_trans (ZaP (h.inv.nm p hp).1) (by decide))
 have e2' : run Tryz.prog np lvs (n+1) JI [.func (.func QX) #[] #[pt X.length],.func (.func JB) #[] #[]] (X++[.cells [.map (some r.b)] 1 false false])=some (v,H2):=by
  rw [Zgk (show np JI=some (Zcs Zhe JB) from rfl)]
  exact e2
 refine ⟨v,q,H2,?_,r2,l1.trans l2,fun j hj=>Nat.le_trans l1.len (o2 j hj)⟩
 rw [R,Zjg rfl]
 unfold Zcr
 rw [Za Zs,Za Zi,Za h.l0,Za e1,Za e2']
 rfl
theorem Zq.own_of {v : Value} {vs : List Value} {q : List Nat} (h : Zq X v vs q) {i : Nat} (hi : A.own1 v=some i) : i∈q:=by
 rcases h with ⟨_,rfl,rfl⟩ | ⟨sid,rest,g,rfl,rfl,_⟩
 ·cases hi
 ·cases hi;simp
structure KE (X0 X : Zc) (sl : Value) (us : List Zm) (q : List Nat) : Prop where
 r : J9 5 X sl (us.map Zm.cells) q
 o : ∀ j∈q,X0.length≤j
 u : ∀ w∈us,∃ qu,Zq X w.gv (w.gs.map strv) qu∧(∀ j∈qu,X0.length≤j∧j∉q)∧w.gs.length≤100000
 un : ∀ a∈us,∀ b∈us,∀ i,own1 a.gv=some i→own1 b.gv=some i→a=b
theorem KE.us {X0 X : Zc} {sl : Value} {us : List Zm} {q : List Nat} (h : KE X0 X sl us q) : Q0 X sl us:=⟨h.r.rd,fun w hw=>by
 obtain ⟨qu,h1,_,h2⟩:=h.u w hw
 exact ⟨h1.rd,h1.one.1,by omega⟩⟩
theorem KE.hle {X0 X Y : Zc} {sl : Value} {us : List Zm} {q : List Nat} (h : KE X0 X sl us q) (hl : HLe X Y) : KE X0 Y sl us q:=
 ⟨h.r.step hl.step (by simp),h.o,fun w hw=>by
  obtain ⟨qu,h1,h2,h3⟩:=h.u w hw
  exact ⟨qu,h1.step hl.step (by simp),h2,h3⟩,h.un⟩
theorem KE.push0 {X0 : Zc} {sl : Value} {us : List Zm} {q qu : List Nat} {w : Zm} (h : KE X0 X sl us q) (hl : us.length≤1000) (hr : Zq X w.gv (w.gs.map strv) qu) (hq : ∀ j∈qu,X0.length≤j∧j∉q) (h6 : w.gs.length≤100000) (hfr : ∀ a∈us,∀ i,own1 a.gv=some i→i∉qu) (hX : X0.length≤X.length) :
  ∃ x X1 sl' X2 q',bsl 5 1 (.agg #[.string ⟨#[]⟩,.string ⟨#[]⟩,.string ⟨#[]⟩,.bool false,.slice none 0 0]) [(0,5,.agg w.cells.toArray)] X=some (x,X1)∧app 5 80 sl x X1=some (sl',X2)∧KE X0 X2 sl' (us++[w]) q'∧Zw q X q' X2:=by
 have hone : w.cells.all oneCell=true:=by simp only [Zm.cells,List.all_cons,hr.one.1];rfl
 have x4:=ZwX (es:=5) (z:=.agg #[.string ⟨#[]⟩,.string ⟨#[]⟩,.string ⟨#[]⟩,.bool false,.slice none 0 0]) (H:=X) rfl (show w.cells.length=5 from rfl) hone
 have l1 : HLe X (X++[Zd.cells w.cells 5 false false]):=.app _ _
 have s1 : SlN 5 (X++[Zd.cells w.cells 5 false false]) (.slice (some ⟨X.length,0,none⟩) 1 1) [w.cells]:=SlN.whole (rows:=[w.cells]) (c:=1) (e:=5) (g:=false) (ro:=false) (by rw [Zx];simp) (by simp)
 generalize X++[Zd.cells w.cells 5 false false]=X1 at x4 l1 s1
 have h1:=h.hle l1
 obtain ⟨sl',X2,q',x5,hn2,s2⟩:=h1.r.push (b:=80) s1 rfl (by simp;omega) (by simp;omega)
 have hX1:=l1.len
 have hm2 : ∀ j∈q',X0.length≤j:=fun j hj=>by
  rcases s2.own j hj with h2 | h2
  ·exact h.o j h2
  ·omega
 rw [← List.map_singleton (f:=Zm.cells),← List.map_append] at hn2
 have hnew : ∀ (v : Zm) (qv : List Nat),Zq X1 v.gv (v.gs.map strv) qv→(∀ j∈qv,X0.length≤j∧j∉q)→Zq X2 v.gv (v.gs.map strv) qv∧∀ j∈qv,X0.length≤j∧j∉q':=fun v qv hv hj=>⟨hv.step s2 (fun j hm=>(hj j hm).2),fun j hm=>⟨(hj j hm).1,fun hq=>by
  rcases s2.own j hq with h2 | h2
  ·exact (hj j hm).2 h2
  ·have:=hv.lt j hm;omega⟩⟩
 refine ⟨_,X1,sl',X2,q',x4,x5,⟨hn2,hm2,fun v hv=>?_,fun a ha b hb i hai hbi=>?_⟩,l1.stepq.trans s2⟩
 ·rcases List.mem_append.1 hv with hv | hv
  ·obtain ⟨qv,a1,a2,a3⟩:=h1.u v hv
   obtain ⟨b1,b2⟩:=hnew v qv a1 a2
   exact ⟨qv,b1,b2,a3⟩
  ·have hv : v=w:=by simpa using hv
   subst hv
   obtain ⟨b1,b2⟩:=hnew v qu (hr.step l1.step (by simp)) hq
   exact ⟨qu,b1,b2,h6⟩
 ·rcases List.mem_append.1 ha with ha | ha <;> rcases List.mem_append.1 hb with hb | hb
  ·exact h.un a ha b hb i hai hbi
  ·have hb : b=w:=by simpa using hb
   rw [hb] at hbi
   exact absurd (hr.own_of hbi) (hfr a ha i hai)
  ·have ha : a=w:=by simpa using ha
   rw [ha] at hai
   exact absurd (hr.own_of hai) (hfr b hb i hbi)
  ·have ha : a=w:=by simpa using ha
   have hb : b=w:=by simpa using hb
   rw [ha,hb]
theorem KE.push {X0 : Zc} {sl : Value} {us : List Zm} {q qu : List Nat} {w : Zm} (h : KE X0 X sl us q) (hl : us.length≤1000) (hr : Zq X w.gv (w.gs.map strv) qu) (hq : ∀ j∈qu,X0.length≤j∧j∉q) (h6 : w.gs.length≤100000) (hfr : ∀ a∈us,∀ i,own1 a.gv=some i→i∉qu) (hle : HLe X0 X) :
  ∃ x X1 sl' X2 q',bsl 5 1 (.agg #[.string ⟨#[]⟩,.string ⟨#[]⟩,.string ⟨#[]⟩,.bool false,.slice none 0 0]) [(0,5,.agg w.cells.toArray)] X=some (x,X1)∧app 5 80 sl x X1=some (sl',X2)∧KE X0 X2 sl' (us++[w]) q'∧HLe X0 X2:=by
 obtain ⟨x,X1,sl',X2,q',a,b,c,e⟩:=h.push0 hl hr hq h6 hfr hle.len
 exact ⟨x,X1,sl',X2,q',a,b,c,(hle.more e h.o).1⟩
theorem Zq5 {v : Value} {q0 : List Nat} {ks : List Tx} {X0 : Zc} (h : ND X0 d r s c) (hr : Zq X0 v (ks.map strv) q0) (hk : ks.length≤100) (hK : ∀ k∈ks,W9 k s.A=0) : ∀ (t j : Nat) (sl : Value) (q : List Nat) (us : List Zm) (X : Zc),ks.length - j=t→j≤ks.length→us.length≤j→HLe X0 X→KE X0 X sl us q→
  ∃ X' sl' q' us',Zk (c5 (YD.l1 (R (n+7)))) [pt d,sl,v,iv ks.length,iv j] X=some (.ext 0 [sl'],X')∧KE X0 X' sl' (us++us') q'∧us'.map ZG=(ks.drop j).map (fun k=>WN s k ((Zj k s.A).getD ([],false)))∧HLe X0 X'
 | 0,j,sl,q,us,X,ht,hj,hu,hl,ho=>by
  have : j=ks.length:=by omega
  subst this
  rw [List.drop_length]
  refine ⟨X,sl,q,[],ZI ?_,by rw [List.append_nil];exact ho,rfl,hl⟩
  rw [ZM]
  unfold YD.l1
  rw [Za Zg,Zb,if_neg (by simp)]
  rfl
 | t+1,j,sl,q,us,X,ht,hj,hu,hl,ho=>by
  have hjl : j < ks.length:=by omega
  have hlt : (j : Int) < ks.length:=by omega
  have hg:=List.getElem?_eq_getElem hjl
  have hd:=List.drop_eq_getElem_cons hjl
  generalize ks[j]=k at hg hd
  have hrx:=hr.step hl.step (by simp)
  have x1:=hrx.ix (i:=j) (by simpa using hjl) .i64 X
  have x2:=hrx.ldx (JF hg)
  have he:=hK k (List.mem_of_getElem? hg)
  obtain ⟨w,qw,X1,e1,r1,o1,l1,h6,hkey⟩:=Zr8 (n:=n) (k:=k) (h.hle hl)
  rw [if_pos he] at hkey
  rw [he] at e1
  have ho1:=ho.hle l1
  have hone : w.cells.all oneCell=true:=by simp only [Zm.cells,List.all_cons,r1.one.1];rfl
  have z2 : ∀ K : Value→M Out,bind (alc 1 (.agg #[.string ⟨#[]⟩,.string ⟨#[]⟩,.string ⟨#[]⟩,.bool false,.slice none 0 0])) (fun p=>bind (stA 5 p (.agg w.cells.toArray)) fun _=>K p) X1=K (pt X1.length) (X1++[.cells w.cells 1 false false]):=fun K=>Zcl (n:=5) (zs:=[.string ⟨#[]⟩,.string ⟨#[]⟩,.string ⟨#[]⟩,.bool false,.slice none 0 0]) (r:=w.cells) rfl rfl rfl hone
  have k2 : HLe X1 (X1++[Zd.cells w.cells 1 false false]):=.app _ _
  have c2 : (X1++[Zd.cells w.cells 1 false false])[X1.length]?=some (.cells w.cells 1 false false):=Zx
  generalize X1++[Zd.cells w.cells 1 false false]=X2 at z2 k2 c2
  have d2 : ldA 5 (pt X1.length) X2=some (.agg w.cells.toArray,X2):=Z9 (n:=5) c2 rfl
  have hq : ∀ i∈qw,X0.length≤i∧i∉q:=fun i hi=>by
   have h1:=o1 i hi
   have h2:=hl.len
   exact ⟨by omega,fun hm=>by have:=ho.r.lt i hm;omega⟩
  obtain ⟨y,X3,sl',X4,q',a1,a2,ho4,l4⟩:=(ho1.hle k2).push (by omega) (r1.step k2.step (by simp)) hq (by omega) (fun a ha i hi hm=>by obtain ⟨qa,b1,_,_⟩:=ho.u a ha;have h1:=b1.lt i (b1.own_of hi);have h2:=o1 i hm;omega) ((hl.trans l1).trans k2)
  obtain ⟨X5,sl5,q5,us5,e5,o5,u5,l5⟩:=Zq5 h hr hk hK t (j+1) sl' q' (us++[w]) X4 (by omega) (by omega) (by rw [List.length_append,List.length_singleton];omega) l4 ho4
  refine ⟨X5,sl5,q5,w :: us5,(Zu ?_).trans e5,by rw [List.append_assoc] at o5;exact o5,?_,l5⟩
  ·rw [ZM]
   unfold YD.l1
   rw [Za Zg,Zb,if_pos (by simpa using hlt),Za x1,Za x2,Za e1,Za Zn,Za Zo,z2,Za d2,Za a1,Za a2,Za Zt,Qm (by omega)]
   rfl
  ·rw [hd,List.map_cons,List.map_cons,u5,hkey]
def allK (s : NSt) : List YG:=(Qk (Zad s)).map fun k=>WN s k ((Zj k s.A).getD ([],false))
theorem Zuy (h : ∀ p∈s.A,ZA p.1=true) {k : Tx} (hk : k∈Zad s) : W9 k s.A=0:=by
 obtain ⟨p,hp,rfl⟩:=List.mem_map.1 hk
 unfold W9
 rw [h p hp,Zgn,decide_eq_true (List.mem_map.2 ⟨p,hp,rfl⟩)]
 rfl
theorem ZsT (h : ND X d r s c) : ∃ v q us X',R (n+8) Wo [pt d] X=some (v,X')∧KE X X' v us q∧us.map ZG=allK s∧HLe X X':=by
 obtain ⟨v,q,X1,e1,r1,l1,o1⟩:=Zt2 (n:=n+5) h
 have e1 : R (n+7) Wq [pt d] X=_:=e1
 have hfew : (Qk (Zad s)).length≤12:=by
  rw [W5]
  have:=h.inv.few
  simpa using this
 obtain ⟨X2,sl,q2,us,e2,o2,u2,l2⟩:=Zq5 (n:=n) (h.hle l1) r1 (by omega) (fun k hk=>Zuy (fun p hp=>(h.inv.nm p hp).1) (Wu.1 hk)) (Qk (Zad s)).length 0 (.slice none 0 0) [] [] X1 (by omega) (by omega) (Nat.le_refl _) (.refl _) ⟨J9.nil,by simp,by simp,by simp⟩
 have e2 : Zk (c5 (YD.l1 (R (n+7)))) [pt d,.slice none 0 0,v,iv (Qk (Zad s)).length,.int .i64 0] X1=_:=e2
 rw [List.nil_append] at o2
 rw [List.drop_zero] at u2
 have hlen : ZC v X1=some (iv (Qk (Zad s)).length,X1):=by have:=r1.rd.len (H':=X1);simpa using this
 have hx:=l1.len
 refine ⟨sl,q2,us,X2,?_,⟨o2.r,fun j hj=>Nat.le_trans hx (o2.o j hj),fun w hw=>?_,o2.un⟩,u2,l1.trans l2⟩
 ·rw [R,ZlH rfl]
  unfold YD
  rw [Za e1,Za hlen,ZS e2,Zv]
  rfl
 ·obtain ⟨qu,a1,a2,a3⟩:=o2.u w hw
  exact ⟨qu,a1,fun j hj=>⟨Nat.le_trans hx (a2 j hj).1,(a2 j hj).2⟩,a3⟩
end
end Go.Proofs.YtedkoimihknggaaGreatDoor.A
namespace Go.Proofs.YtedkoimihknggaaGreatDoor.A
set_option linter.unusedVariables false
set_option linter.unusedSimpArgs false
open Go.Proofs Go.Proofs.YtedkoimihknggaaGreatDoor
def Zl9 (k h : Tx) (A : AMp) : Int:=if ZA k then (if Zaz h then (if (Zj k A).isSome then 9 else if 12≤A.length then 7 else 0) else 4) else 10
def ZqA (k h : Tx) (s : NSt) : NSt:=if Zl9 k h s.A=0 then { s with A:=Ju k (h,false) s.A } else s
def ZqP (k : Tx) (s : NSt) : NSt:=if W9 k s.A=0 then { s with A:=Zav k s.A,OW:=Zba k s.OW s.OF,OF:=Wv k s.OF,mem:=Zwx k s.mem } else s
def ZwY (g : Tx) (s : NSt) : NSt:={ s with K:=Zgv g s.K }
def ZwO (g : Tx) (s : NSt) : NSt:={ s with K:=ZwV g s.K,mem:=if Zl0 g s.K=0 then Zmw g s.mem else s.mem }
def ZqH (g k : Tx) (A : AMp) : Int:=if ZA g then W9 k A else 10
def Zvf (g k : Tx) (s : NSt) : Int:=if ZqH g k s.A=0 then Zuq g k s.K s.mem else ZqH g k s.A
def Zts (g k : Tx) (s : NSt) : NSt:=if Zvf g k s=0 then { s with mem:=Zwe g k s.mem } else s
theorem Zdv {α : Type} {k j : Tx} {v : α} {m : List (Tx × α)} (h : (Zj j m).isSome=true∨j=k) : (Zj j (Ju k v m)).isSome=true:=by
 by_cases e : j=k
 ·rw [e,W7];rfl
 ·rw [K9 e];exact h.resolve_right e
theorem Kl.putA {s : NSt} (h : Kl s) {k : Tx} {v : Acc} (hk : ZA k=true) (hv : Zaz v.1=true) (hl : (Zj k s.A).isSome=true∨s.A.length < 12) : Kl { s with A:=Ju k v s.A } where
 nm p hp:=by
  rcases Zod hp with rfl | hp
  ·exact ⟨hk,hv⟩
  ·exact h.nm p hp
 few:=by
  show (Ju k v s.A).length≤12
  rw [ZfX]
  have:=h.few
  split
  ·exact this
  ·rename_i hn
   rcases hl with h1 | h1
   ·exact absurd h1 hn
   ·omega
 ofA n hn:=Zdv (.inl (h.ofA n hn))
 memA g n hn:=Zdv (.inl (h.memA g n hn))
 good:=h.good
theorem ZsF {k h : Tx} {A : AMp} (he : Zl9 k h A=0) : ZA k=true∧Zaz h=true∧Zj k A=none∧A.length < 12:=by
 unfold Zl9 at he
 cases h1 : ZA k <;> cases h2 : Zaz h <;> rw [h1,h2] at he <;> try simp at he
 by_cases h3 : (Zj k A).isSome=true
 ·rw [if_pos h3] at he;simp at he
 ·rw [if_neg h3] at he
  by_cases h4 : 12≤A.length
  ·rw [if_pos h4] at he;simp at he
  ·exact ⟨rfl,rfl,by simpa using h3,by omega⟩
theorem Kl.create {s : NSt} (h : Kl s) (k x : Tx) : Kl (ZqA k x s):=by
 unfold ZqA
 split
 ·rename_i he
  obtain ⟨h1,h2,h3,h4⟩:=ZsF he
  exact h.putA h1 h2 (.inr h4)
 ·exact h
theorem Kl.delete {s : NSt} (h : Kl s) (k : Tx) : Kl (ZqP k s):=by
 unfold ZqP
 split
 ·exact {
   nm:=fun p hp=>h.nm p (List.mem_filter.1 hp).1
   few:=Nat.le_trans (List.length_filter_le _ _) h.few
   ofA:=fun n hn=>by
    have hne : n≠k:=fun e=>by rw [e,Zea] at hn;cases hn
    show (Zj n (Zav k s.A)).isSome=true
    rw [Wd hne]
    rw [Zgz hne] at hn
    exact h.ofA n hn
   memA:=fun g n hn=>by
    have hn : (s.mem g n && !(n==k))=true:=hn
    simp only [Bool.and_eq_true,Bool.not_eq_true',beq_eq_false_iff_ne] at hn
    show (Zj n (Zav k s.A)).isSome=true
    rw [Wd hn.2]
    exact h.memA g n hn.1
   good:=fun n m hn=>by
    have hne : n≠k:=fun e=>by
     have hn : Zj n (Wv k s.OF)=some m:=hn
     rw [e,Zea] at hn;cases hn
    have hn : Zj n (Wv k s.OF)=some m:=hn
    rw [Zgz hne] at hn
    exact h.good n m hn }
 ·exact h
theorem ZiH {k m : Tx} {OW OF : Kz} (he : WY k m OW=0) (n : Tx) : Zj n (Zgm k m OW OF)=if n=k then (if m=[] then none else some (Qt m)) else Zj n OF:=by
 unfold Zgm
 rw [if_pos he]
 by_cases hm : m=[]
 ·rw [if_pos hm,if_pos hm]
  by_cases hn : n=k
  ·rw [if_pos hn,hn,Zea]
  ·rw [if_neg hn,Zgz hn]
 ·rw [if_neg hm,if_neg hm]
  by_cases hn : n=k
  ·rw [if_pos hn,hn,W7]
  ·rw [if_neg hn,K9 hn,Zgz hn]
theorem Kl.memN {s : NSt} (h : Kl s) {t : Tx} (ht : Zj t s.A=none) (g : Tx) : s.mem g t=false:=by
 cases ho : s.mem g t with
 | false=>rfl
 | true=>
  have:=h.memA g t ho
  rw [ht] at this;cases this
theorem Kl.make {s : NSt} (h : Kl s) (g : Tx) : Kl (ZwY g s):=⟨h.nm,h.few,h.ofA,h.memA,h.good⟩
theorem Kl.drop {s : NSt} (h : Kl s) (g : Tx) : Kl (ZwO g s):=by
 refine ⟨h.nm,h.few,h.ofA,fun k n hn=>?_,h.good⟩
 have hn : (if Zl0 g s.K=0 then Zmw g s.mem else s.mem) k n=true:=hn
 split at hn
 ·unfold Zmw at hn
  simp only [Bool.and_eq_true] at hn
  exact h.memA k n hn.1
 ·exact h.memA k n hn
theorem Kl.leave {s : NSt} (h : Kl s) (g k : Tx) : Kl (Zts g k s):=by
 unfold Zts
 split
 ·refine ⟨h.nm,h.few,h.ofA,fun j n hn=>?_,h.good⟩
  have hn : (s.mem j n && !(j==g && n==k))=true:=hn
  simp only [Bool.and_eq_true] at hn
  exact h.memA j n hn.1
 ·exact h
end Go.Proofs.YtedkoimihknggaaGreatDoor.A
namespace Go.Proofs.YtedkoimihknggaaGreatDoor.A
set_option linter.unusedVariables false
set_option linter.unusedSimpArgs false
open Go.Proofs Go.Proofs.YtedkoimihknggaaGreatDoor
section
variable {X X' : Zc} {n d c c' : Nat} {r : NR} {s : NSt} {k h m t o g : Tx}
theorem NR.mem_b (r : NR) : r.b∈r.own:=by simp [NR.own]
theorem NR.mem_o (r : NR) : r.o∈r.own:=by simp [NR.own]
theorem NR.mem_a (r : NR) : r.a∈r.own:=by simp [NR.own]
theorem NR.mem_g (r : NR) : ∀ j∈Ym r.o2 r.G,j∈r.own:=fun j hj=>by
 unfold NR.own
 exact List.mem_cons_of_mem _ (List.mem_cons_of_mem _ (List.mem_cons_of_mem _ hj))
theorem ND0.more (hd : ND0 X d r s c) (hc : c≤c') : ND0 X d r s c':=⟨hd.cell,hd.m,hd.ix,hd.gr.more hc (fun _ _=>rfl),hd.ks,hd.dis⟩
theorem ND0.setA (hd : ND0 X d r s c) {A' : AMp} (m' : J8 Zbl X' r.b A') (hs : Zw [r.b] X [r.b] X') : ND0 X' d r { s with A:=A' } c∧Zw r.own X r.own X':=by
 obtain ⟨h1,h2,h3,_,_⟩:=hd.dis
 have nb : ∀ {j},j∉r.own→j∉[r.b]:=fun hj e=>hj (by rw [List.mem_singleton.1 e];exact r.mem_b)
 refine ⟨⟨hs.get hd.cell (nb hd.dnot),m',hd.ix.step hs (nb hd.xnot) (by simpa using Ne.symm h1) (by simpa using Ne.symm h2),hd.gr.step hs (nb hd.gnot) (fun j hj e=>h3 ?_),hd.ks,hd.dis⟩,hs.mono2 (by simpa using r.mem_b)⟩
 rw [← List.mem_singleton.1 e];exact hj
theorem ND0.setI (hd : ND0 X d r s c) {OW' OF' : Kz} (i' : Idx X' r.x r.o r.a OW' OF') (hs : Zw [r.o,r.a] X [r.o,r.a] X') : ND0 X' d r { s with OW:=OW',OF:=OF' } c∧Zw r.own X r.own X':=by
 obtain ⟨h1,h2,h3,h4,h5⟩:=hd.dis
 have no : ∀ j∈[r.o,r.a],j∈r.own:=fun j hj=>by
  simp only [List.mem_cons,List.not_mem_nil,or_false] at hj
  rcases hj with rfl | rfl
  ·exact r.mem_o
  ·exact r.mem_a
 refine ⟨⟨hs.get hd.cell (fun e=>hd.dnot (no _ e)),hd.m.step hs (by simp [h1,h2]),i',hd.gr.step hs (fun e=>hd.gnot (no _ e)) (fun j hj e=>?_),hd.ks,hd.dis⟩,hs.mono2 no⟩
 simp only [List.mem_cons,List.not_mem_nil,or_false] at e
 rcases e with rfl | rfl
 ·exact h4 hj
 ·exact h5 hj
theorem ND0.setG (hd : ND0 X d r s c) {G' : Zgh} {mem' : Mem} {K' : List Tx} (g' : Grp X' r.g r.o2 G' mem' c') (hs : Zw (Ym r.o2 r.G) X (Ym r.o2 G') X') (hk : Q7 G'=K') : ND0 X' d { r with G:=G' } { s with K:=K',mem:=mem' } c'∧Zw r.own X (NR.own { r with G:=G' }) X':=by
 obtain ⟨h1,h2,h3,h4,h5⟩:=hd.dis
 have hb:=hd.isMap r.mem_b
 have ho:=hd.isMap r.mem_o
 have ha:=hd.isMap r.mem_a
 have new : ∀ j,j < X.length→j∉Ym r.o2 r.G→j∉Ym r.o2 G':=fun j hj hn hm=>by
  rcases hs.own j hm with e | e
  ·exact hn e
  ·omega
 refine ⟨⟨hs.get hd.cell (fun e=>hd.dnot (r.mem_g _ e)),hd.m.step hs h3,hd.ix.step hs (fun e=>hd.xnot (r.mem_g _ e)) h4 h5,g',hk,⟨h1,h2,new _ hb.1 h3,new _ ho.1 h4,new _ ha.1 h5⟩⟩,hs.more r.mem_g (fun j hj=>?_)⟩
 unfold NR.own at hj ⊢
 rcases List.mem_cons.1 hj with rfl | hj
 ·exact .inl (by simp)
 ·rcases List.mem_cons.1 hj with rfl | hj
  ·exact .inl (by simp)
  ·rcases List.mem_cons.1 hj with rfl | hj
   ·exact .inl (by simp)
   ·exact .inr (.inl hj)
theorem ND0.box (hd : ND0 X d r s c) {p : Nat} {X2 : Zc} {ob : Zd} (hle : HLe X X2) (hp : X.length≤p) : ND0 (X2.set p ob) d r s c:=by
 have hs : Zw [] X [] (X2.set p ob):=⟨by rw [List.length_set];exact hle.len,fun j hj hn=>by
  rw [List.getElem?_set_ne (by omega)]
  exact hle.step.keep j hj (by simp),fun j hj=>by cases hj⟩
 exact hd.step hs (by simp) (by simp) (by simp) (by simp)
end
end Go.Proofs.YtedkoimihknggaaGreatDoor.A

namespace Go.Proofs.YtedkoimihknggaaGreatDoor.A
set_option linter.unusedVariables false
set_option linter.unusedSimpArgs false
open Go.Proofs Go.Proofs.YtedkoimihknggaaGreatDoor
section
variable {X X' H0 : Zc} {n : Nat} {v : Value} {l : List Tx} {x s : Tx}
theorem Zw5 {sl : Value} {rows : List Tx} {q : List Nat} {u : Tx} (hr : Zq X sl (rows.map strv) q) (hl : rows.length≤100000) (hq : ∀ j∈q,H0.length≤j) (h0 : HLe H0 X) :
  ∃ w X1 sl' X2 q',bsl 1 1 (.string ⟨#[]⟩) [(0,1,strv u)] X=some (w,X1)∧app 1 16 sl w X1=some (sl',X2)∧Zq X2 sl' ((rows++[u]).map strv) q'∧HLe H0 X2∧(∀ j∈q',H0.length≤j)∧Zw q X q' X2:=by
 have l1 : HLe X (X++[.cells [strv u] 1 false false]):=.app _ _
 have s1:=(ZkC (x:=u) (H:=X)).rd
 have e1:=Zrh (x:=u) (H:=X)
 generalize X++[Zd.cells [strv u] 1 false false]=X1 at l1 s1 e1
 have hr1:=hr.step l1.step (by simp)
 obtain ⟨sl',X2,q',x5,hn2,s2,_⟩:=hr1.push (b:=16) s1 (by simp;omega) (by simp;omega)
 have hm:=(h0.trans l1).more s2 hq
 exact ⟨_,X1,sl',X2,q',e1,x5,by rw [List.map_append];exact hn2,hm.1,hm.2,(l1.step.more (by simp) (fun j hj=>.inl hj)).trans s2⟩
end
end Go.Proofs.YtedkoimihknggaaGreatDoor.A
namespace Go.Proofs.YtedkoimihknggaaGreatDoor.A
set_option linter.unusedVariables false
set_option linter.unusedSimpArgs false
open Go.Proofs Go.Proofs.YtedkoimihknggaaGreatDoor
abbrev Pr:=Tx × Tx
def prG (u : Pr) : List Value:=[strv u.1,strv u.2]
structure RG (X : Zc) (nv mv : Value) (N : List Tx) (M : List Pr) : Prop where
 n : ∃ q,Zq X nv (N.map strv) q
 m : ∃ q,J9 2 X mv (M.map prG) q
section
variable {X X' H0 : Zc} {n : Nat} {v nv mv z1 z2 z3 z4 : Value} {N l : List Tx} {M : List Pr} {x s t k m : Tx}
theorem RG.hle (h : RG X nv mv N M) (hl : HLe X X') : RG X' nv mv N M:=⟨h.n.elim fun q h=>⟨q,h.step hl.step (by simp)⟩,h.m.elim fun q h=>⟨q,h.step hl.step (by simp)⟩⟩
theorem RG.sn (h : RG X nv mv N M) : Sl X nv (N.map strv):=h.n.elim fun q h=>h.rd
theorem RG.sm (h : RG X nv mv N M) : SlN 2 X mv (M.map prG):=h.m.elim fun q h=>h.rd
theorem RG.one (h : RG X nv mv N M) : ([nv,mv].all oneCell)=true∧nv.cells=#[nv]∧mv.cells=#[mv]:=by
 obtain ⟨q,hn⟩:=h.n
 obtain ⟨q',hm⟩:=h.m
 exact ⟨by simp [hn.one.1,hm.one.1],hn.one.2,hm.one.2⟩
theorem RG.lenM (h : RG X nv mv N M) (Y : Zc) : ZC mv Y=some (iv M.length,Y):=by have:=h.sm.len (H':=Y);simpa using this
theorem RG.box (h : RG X nv mv N M) (Y : Zc) : alc 1 (.agg #[nv,mv]) Y=some (pt Y.length,Y++[.cells [nv,mv] 1 false false]):=Zc8 (vs:=[nv,mv]) h.one.1
theorem Zxh (Y : Zc) : alc 1 (.agg #[.slice none 0 0,.slice none 0 0]) Y=some (pt Y.length,Y++[.cells [.slice none 0 0,.slice none 0 0] 1 false false]):=Zc8 (vs:=[.slice none 0 0,.slice none 0 0]) rfl
theorem J9.isS {es : Nat} {vs : List (List Value)} {q : List Nat} (h : J9 es X v vs q) : ∃ a n c,v=.slice a n c:=by
 rcases h with ⟨_,_,rfl⟩ | ⟨sid,rest,r,gr,rfl,_,_⟩
 ·exact ⟨_,_,_,rfl⟩
 ·exact ⟨_,_,_,rfl⟩
theorem Zro (h : RG X nv mv N M) : ∃ X2,(∀ {β : Type} (K : Value→Value→A.M β),bind (alc 1 (.agg #[nv,mv])) (fun a=>bind (alc 1 (.agg #[.slice none 0 0,.slice none 0 0])) fun b=>K a b) X=K (pt X.length) (pt (X.length+1)) X2)∧X2[X.length]?=some (.cells [nv,mv] 1 false false)∧X2[X.length+1]?=some (.cells [.slice none 0 0,.slice none 0 0] 1 false false)∧HLe X X2∧X2.length=X.length+2:=by
 refine ⟨X++[.cells [nv,mv] 1 false false]++[.cells [.slice none 0 0,.slice none 0 0] 1 false false],fun K=>?_,Zcu,ZwH,(HLe.app _ _).trans (.app _ _),by simp⟩
 rw [Za (h.box X),Za (Zxh _)]
 simp
theorem fin {b1 b2 : Nat} {a1 a2 c1 c2 : Value} (h1 : X[b1]?=some (.cells [a1,a2] 1 false false)) (h2 : X[b2]?=some (.cells [c1,c2] 1 false false)) (hn : b1≠b2) (ho : ([a1,a2].all oneCell)=true) {β : Type} (K : Value→A.M β) :
  bind (ldA 2 (pt b1)) (fun v=>bind (stA 2 (pt b2) v) fun _=>bind (ldA 2 (pt b2)) K) X=K (.agg #[a1,a2]) (X.set b2 (.cells [a1,a2] 1 false false)):=by
 have e1 : ldA 2 (pt b1) X=some (.agg #[a1,a2],X):=Z9 h1 rfl
 have e2 : stA 2 (pt b2) (.agg #[a1,a2]) X=some (undef,X.set b2 (.cells [a1,a2] 1 false false)):=YX (vs:=[a1,a2]) h2 rfl rfl ho
 have e3 : ldA 2 (pt b2) (X.set b2 (.cells [a1,a2] 1 false false))=some (.agg #[a1,a2],X.set b2 (.cells [a1,a2] 1 false false)):=Z9 (ZT h2) rfl
 rw [Za e1,Za e2,Za e3]
theorem Zq.setB {vs : List Value} {q : List Nat} {b : Nat} {o : Zd} (h : Zq X v vs q) (hb : b∉q) : Zq (X.set b o) v vs q:=h.keep fun j hj=>List.getElem?_set_ne fun e=>hb (by rw [e];exact hj)
theorem J9.setB {es : Nat} {vs : List (List Value)} {q : List Nat} {b : Nat} {o : Zd} (h : J9 es X v vs q) (hb : b∉q) : J9 es (X.set b o) v vs q:=h.keep fun j hj=>List.getElem?_set_ne fun e=>hb (by rw [e];exact hj)
end
end Go.Proofs.YtedkoimihknggaaGreatDoor.A
namespace Go.Proofs.YtedkoimihknggaaGreatDoor.A
set_option linter.unusedVariables false
set_option linter.unusedSimpArgs false
open Go.Proofs Go.Proofs.YtedkoimihknggaaGreatDoor
section
variable {X X' H0 : Zc} {n : Nat} {v nv mv z1 z2 z3 z4 : Value} {N l K : List Tx} {M : List Pr} {mem : Mem} {x s t k m : Tx}
end
end Go.Proofs.YtedkoimihknggaaGreatDoor.A
namespace Go.Proofs.YtedkoimihknggaaGreatDoor.A
set_option linter.unusedVariables false
set_option linter.unusedSimpArgs false
open Go.Proofs Go.Proofs.YtedkoimihknggaaGreatDoor
section
variable {X X' H0 : Zc} {n : Nat} {v nv mv z1 z2 z3 z4 : Value} {N l K : List Tx} {M : List Pr} {mem : Mem} {x s t k m : Tx}
end
end Go.Proofs.YtedkoimihknggaaGreatDoor.A

namespace Go.Proofs.YtedkoimihknggaaGreatDoor.A
set_option linter.unusedVariables false
set_option linter.unusedSimpArgs false
open Go.Proofs Go.Proofs.YtedkoimihknggaaGreatDoor
def ZcC (l : List Zm) : Prop:=l.Pairwise fun a b=>a.nm < b.nm
section
variable {x : Zm} {k s : List UInt8}
def Za6 (u : Zm) : List Zm→Bool→List Zm
 | [],_=>[]
 | v :: l,done=>(if !done && decide (u.nm≤v.nm) then [u] else [])++((if v.nm≠u.nm then [v] else [])++Za6 u l (done || decide (u.nm≤v.nm)))
def Zac (u : Zm) : List Zm→Bool→Bool
 | [],done=>done
 | v :: l,done=>Zac u l (done || decide (u.nm≤v.nm))
def putU (u : Zm) (l : List Zm) : List Zm:=Za6 u l false++if Zac u l false then [] else [u]
theorem ZhC {u : Zm} : ∀ {l : List Zm},Za6 u l true=l.filter fun v=>decide (v.nm≠u.nm)
 | []=>rfl
 | v :: l=>by
  unfold Za6
  rw [Bool.true_or,ZhC,List.filter_cons]
  by_cases h : v.nm=u.nm <;> simp [h]
theorem ZgR {u : Zm} : ∀ {l : List Zm},Zac u l true=true
 | []=>rfl
 | v :: l=>by unfold Zac;rw [Bool.true_or,ZgR]
theorem Zhm {u v : Zm} {l : List Zm} : putU u (v :: l)=if u.nm≤v.nm then u :: (v :: l).filter (fun v=>decide (v.nm≠u.nm)) else v :: putU u l:=by
 have e1 : Za6 u (v :: l) false=(if !false && decide (u.nm≤v.nm) then [u] else [])++((if v.nm≠u.nm then [v] else [])++Za6 u l (false || decide (u.nm≤v.nm))):=rfl
 have e2 : Zac u (v :: l) false=Zac u l (false || decide (u.nm≤v.nm)):=rfl
 unfold putU
 rw [e1,e2]
 by_cases h : u.nm≤v.nm
 ·rw [if_pos h]
  simp only [h,decide_true,Bool.or_true,ZhC,ZgR,Bool.not_false,Bool.and_self,if_true,List.filter_cons]
  by_cases h2 : v.nm=u.nm <;> simp [h2]
 ·rw [if_neg h]
  have h2 : v.nm≠u.nm:=fun e=>h (by rw [e];exact List.le_refl _)
  simp [h,h2]
theorem ZeE {u : Zm} : ∀ {l : List Zm},x∈putU u l↔x=u∨(x∈l∧x.nm≠u.nm)
 | []=>by simp [putU,Za6,Zac]
 | v :: l=>by
  rw [Zhm]
  by_cases h : u.nm≤v.nm
  ·rw [if_pos h,List.mem_cons,List.mem_filter];simp
  ·have h2 : v.nm≠u.nm:=fun e=>h (by rw [e];exact List.le_refl _)
   rw [if_neg h,List.mem_cons,ZeE,List.mem_cons]
   constructor
   ·rintro (rfl | h | h)
    ·exact .inr ⟨.inl rfl,h2⟩
    ·exact .inl h
    ·exact .inr ⟨.inr h.1,h.2⟩
   ·rintro (h | ⟨h | h,h3⟩)
    ·exact .inr (.inl h)
    ·exact .inl h
    ·exact .inr (.inr ⟨h,h3⟩)
theorem ZmV {u : Zm} : ∀ {l : List Zm},ZcC l→ZcC (putU u l)
 | [],_=>by simp [putU,Za6,Zac,ZcC]
 | v :: l,hr=>by
  have hr2 : (∀ a∈l,v.nm < a.nm)∧ZcC l:=by simpa [ZcC] using hr
  rw [Zhm]
  by_cases h : u.nm≤v.nm
  ·rw [if_pos h]
   refine List.pairwise_cons.2 ⟨fun a ha=>?_,List.Pairwise.filter _ hr⟩
   obtain ⟨h1,h2⟩:=List.mem_filter.1 ha
   have h2 : a.nm≠u.nm:=by simpa using h2
   have h3 : u.nm≤a.nm:=by
    rcases List.mem_cons.1 h1 with rfl | h1
    ·exact h
    ·exact List.le_trans h (List.le_of_lt (hr2.1 a h1))
   rcases Zih u.nm a.nm with h4 | h4 | h4
   ·exact h4
   ·exact absurd h4.symm h2
   ·exact absurd h4 h3
  ·rw [if_neg h]
   refine List.pairwise_cons.2 ⟨fun a ha=>?_,ZmV hr2.2⟩
   rcases ZeE.1 ha with rfl | ⟨h1,_⟩
   ·rcases Zih v.nm a.nm with h4 | h4 | h4
    ·exact h4
    ·exact absurd (by rw [h4];exact List.le_refl _) h
    ·exact absurd (List.le_of_lt h4) h
   ·exact hr2.1 a h1
end
section
variable {H0 H X : Zc} {n d b : Nat} {ws : List Zm} {k s : List UInt8} {wv : Value}
theorem Zm1 {u : Zm} (h : oneCell u.gv=true) : u.cells.all oneCell=true:=by simp only [Zm.cells,List.all_cons,h];rfl
theorem ZcY {β : Type} {k : Value→M β} {sl : Value} {us : List Zm} (h : SlN 5 H sl (us.map Zm.cells)) {j : Nat} {u : Zm} (ho : oneCell u.gv=true) (hj : us[j]?=some u) :
  bind (ixa 5 sl (iv j)) (fun p=>bind (ldA 5 p) fun v=>bind (alc 1 (.agg #[.string ⟨#[]⟩,.string ⟨#[]⟩,.string ⟨#[]⟩,.bool false,.slice none 0 0])) fun q=>bind (stA 5 q v) fun _=>k q) H=k (pt H.length) (H++[.cells u.cells 1 false false]):=by
 have hr : (us.map Zm.cells)[j]?=some u.cells:=by rw [List.getElem?_map,hj];rfl
 rw [h.fetch hr (by omega) .i64]
 exact Zcl (n:=5) (zs:=[.string ⟨#[]⟩,.string ⟨#[]⟩,.string ⟨#[]⟩,.bool false,.slice none 0 0]) (r:=u.cells) rfl rfl rfl (Zm1 ho)
theorem ZwQ {a c : List UInt8} {H : Zc} : bop .str .leq (strv a) (strv c) H=some (.bool (decide (a≤c)),H):=by
 have h : (Op.bytesLess a c || a==c)=decide (a≤c):=by
  rw [bytesLess_eq,Bool.eq_iff_iff]
  simp only [Bool.or_eq_true,decide_eq_true_eq,beq_iff_eq]
  constructor
  ·rintro (h | h)
   ·exact List.le_of_lt h
   ·rw [h];exact List.le_refl _
  ·intro h
   rcases Zih a c with h4 | h4 | h4
   ·exact .inl h4
   ·exact .inr h4
   ·exact absurd h4 h
 rw [← h]
 show (sop .leq (⟨a.toArray⟩ : ByteArray) (⟨c.toArray⟩ : ByteArray)).map (·,H)=_
 unfold sop
 rw [Kd,Kd]
 rfl
end
end Go.Proofs.YtedkoimihknggaaGreatDoor.A
namespace Go.Proofs.YtedkoimihknggaaGreatDoor.A
set_option linter.unusedVariables false
set_option linter.unusedSimpArgs false
open Go.Proofs Go.Proofs.YtedkoimihknggaaGreatDoor
structure ZwK (s : NSt) : Prop where
 nod : s.K.Nodup
 out : ∀ k n,s.mem k n=true→k∈s.K
 few : s.K.length≤6
structure ROK (s : NSt) (us : List Zm) : Prop where
 rise : ZcC us
 look : ∀ key : YG,key∈us.map ZG↔Yl s key.1=some key
section
variable {X : Zc} {d c : Nat} {r : NR} {s s' : NSt} {us ws : List Zm} {u : Zm} {k h m n o t g : Tx} {key : YG}
theorem ND0.kn (hd : ND0 X d r s c) : ZwK s:=⟨by rw [← hd.ks];exact hd.gr.mo.nod,fun k n hk=>by
 have:=hd.gr.out k n hk
 rw [Zgn,decide_eq_true_eq] at this
 rw [← hd.ks];exact this,by rw [← hd.ks,List.length_map];exact hd.gr.few⟩
theorem WD : key∈us.map ZG↔∃ u∈us,ZG u=key:=List.mem_map
theorem ROK.put (h : ROK s us) (h1 : Yl s' u.nm=some (ZG u)) (h2 : ∀ n,n≠u.nm→Yl s' n=Yl s n) : ROK s' (putU u us):=by
 refine ⟨ZmV h.rise,fun key=>?_⟩
 rw [WD]
 constructor
 ·rintro ⟨v,hv,rfl⟩
  rcases ZeE.1 hv with rfl | ⟨hv,hne⟩
  ·exact h1
  ·have:=(h.look (ZG v)).1 (WD.2 ⟨v,hv,rfl⟩)
   rw [show (ZG v).1=v.nm from rfl] at this ⊢
   rw [h2 _ hne];exact this
 ·intro hk
  by_cases e : key.1=u.nm
  ·rw [e,h1] at hk
   exact ⟨u,ZeE.2 (.inl rfl),Option.some.inj hk⟩
  ·rw [h2 _ e] at hk
   obtain ⟨v,hv,rfl⟩:=WD.1 ((h.look key).2 hk)
   exact ⟨v,ZeE.2 (.inr ⟨hv,e⟩),rfl⟩
theorem ROK.drop (h : ROK s us) (h1 : Yl s' k=none) (h2 : ∀ n,n≠k→Yl s' n=Yl s n) : ROK s' (us.filter fun v=>decide (v.nm≠k)):=by
 refine ⟨List.Pairwise.filter _ h.rise,fun key=>?_⟩
 rw [WD]
 constructor
 ·rintro ⟨v,hv,rfl⟩
  obtain ⟨hv,hne⟩:=List.mem_filter.1 hv
  have hne : v.nm≠k:=by simpa using hne
  have:=(h.look (ZG v)).1 (WD.2 ⟨v,hv,rfl⟩)
  rw [show (ZG v).1=v.nm from rfl] at this ⊢
  rw [h2 _ hne];exact this
 ·intro hk
  have e : key.1≠k:=fun e=>by rw [e,h1] at hk;cases hk
  rw [h2 _ e] at hk
  obtain ⟨v,hv,rfl⟩:=WD.1 ((h.look key).2 hk)
  exact ⟨v,List.mem_filter.2 ⟨hv,decide_eq_true e⟩,rfl⟩
theorem ROK.at (h : ROK s us) (hu : u∈us) : Yl s u.nm=some (ZG u):=(h.look (ZG u)).1 (WD.2 ⟨u,hu,rfl⟩)
theorem ZcC.nodup (h : ZcC us) : (us.map (·.nm)).Nodup:=by
 unfold ZcC at h
 rw [List.nodup_iff_pairwise_ne,List.pairwise_map]
 refine h.imp ?_
 intro a b hab e
 rw [e] at hab
 exact ZkF hab
theorem ROK.len (h : ROK s us) (hn : (Zad s).Nodup) : us.length=s.A.length:=by
 have hp : (us.map (·.nm)).Perm (Zad s):=(List.perm_ext_iff_of_nodup h.rise.nodup hn).2 fun x=>by
  rw [List.mem_map,List.mem_map]
  constructor
  ·rintro ⟨v,hv,rfl⟩
   have:=h.at hv
   unfold Yl at this
   cases ha : Zj v.nm s.A with
   | none=>rw [ha] at this;cases this
   | some p=>exact ⟨_,ZaQ ha,rfl⟩
  ·rintro ⟨p,hp,rfl⟩
   have ha : Zj p.1 s.A=some p.2:=Zbv hn hp
   obtain ⟨v,hv,he⟩:=WD.1 ((h.look (WN s p.1 p.2)).2 (by
    show Yl s p.1=_
    unfold Yl;rw [ha];rfl))
   exact ⟨v,hv,congrArg (·.1) he⟩
 have:=hp.length_eq
 simpa using this
theorem Zun : ∀ {l l' : List YG},l.Pairwise (fun a b=>a.1 < b.1)→l'.Pairwise (fun a b=>a.1 < b.1)→(∀ x,x∈l↔x∈l')→l=l':=by
 intro l l' h h' hm
 have nd : ∀ {l : List YG},l.Pairwise (fun a b=>a.1 < b.1)→l.Nodup:=fun h=>by
  rw [List.nodup_iff_pairwise_ne]
  refine List.Pairwise.imp ?_ h
  rintro a b hab rfl
  exact List.lt_irrefl _ hab
 have hp : l.Perm l':=(List.perm_ext_iff_of_nodup (nd h) (nd h')).2 hm
 exact List.Perm.eq_of_pairwise (le:=fun a b=>a.1 < b.1) (fun a b _ _ h1 h2=>absurd h2 (List.lt_asymm h1)) h h' hp
theorem Zna (hn : (Zad s).Nodup) : (allK s).Pairwise fun a b=>a.1 < b.1:=by
 unfold allK
 rw [List.pairwise_map]
 exact Zdp hn
theorem Zpm (hn : (Zad s).Nodup) : key∈allK s↔Yl s key.1=some key:=by
 unfold allK
 rw [List.mem_map]
 constructor
 ·rintro ⟨k,hk,rfl⟩
  obtain ⟨p,hp,rfl⟩:=List.mem_map.1 (Wu.1 hk)
  have ha : Zj p.1 s.A=some p.2:=Zbv hn hp
  show Yl s p.1=_
  unfold Yl
  rw [ha];rfl
 ·intro hk
  unfold Yl at hk
  cases ha : Zj key.1 s.A with
  | none=>rw [ha] at hk;cases hk
  | some p=>
   rw [ha] at hk
   refine ⟨key.1,Wu.2 (List.mem_map.2 ⟨_,ZaQ ha,rfl⟩),?_⟩
   rw [ha]
   exact Option.some.inj hk
theorem ROK.all (h : ROK s us) (hn : (Zad s).Nodup) : us.map ZG=allK s:=by
 refine Zun ?_ (Zna hn) fun key=>(h.look key).trans (Zpm hn).symm
 rw [List.pairwise_map]
 exact h.rise
end
end Go.Proofs.YtedkoimihknggaaGreatDoor.A
namespace Go.Proofs.YtedkoimihknggaaGreatDoor.A
set_option linter.unusedVariables false
set_option linter.unusedSimpArgs false
open Go.Proofs Go.Proofs.YtedkoimihknggaaGreatDoor
def UOK (X : Zc) (u : Zm) : Prop:=Sl X u.gv (u.gs.map strv)∧oneCell u.gv=true∧u.gs.length≤1000000
structure RD (X : Zc) (uv gv : Value) (s : NSt) : Prop where
 ex : ∃ us,Q0 X uv us∧ROK s us
 n : ∃ q N,Zq X gv (N.map strv) q∧Is N (·∈s.K)
structure ZjX (s : NSt) : Prop where
 i : Kl s
 k : ZwK s
 n : (Zad s).Nodup
 x : Inv s.OW s.OF
theorem ND.pinv {X : Zc} {d c : Nat} {r : NR} {s : NSt} (h : ND X d r s c) : ZjX s:=⟨h.inv,h.toND0.kn,h.m.nod,h.ix.inv⟩
def Zxk (k h : List UInt8) : Zm:=⟨k,h,[],false,.slice none 0 0,[]⟩
abbrev ZuB : Zm:=Zxk [] []
section
variable {X X' Y H0 : Zc} {n : Nat} {uv gv v : Value} {us : List Zm} {s : NSt} {k h m o t g : Tx} {u w : Zm} {β : Type}
theorem UOK.hle (h : UOK X u) (hl : HLe X X') : UOK X' u:=⟨h.1.mono hl,h.2⟩
theorem Q0.ok (h : Q0 X uv us) (hu : u∈us) : UOK X u:=h.2 u hu
theorem Q0.one (h : Q0 X uv us) : oneCell uv=true:=h.1.one.1
theorem Zq.hle {vs : List Value} {q : List Nat} (h : Zq X v vs q) (hl : HLe X X') : Zq X' v vs q:=h.step hl.step (by simp)
theorem RD.hle (h : RD X uv gv s) (hl : HLe X X') : RD X' uv gv s:=⟨h.ex.imp fun us ⟨a,b⟩=>⟨a.mono hl,b⟩,h.n.imp fun q ⟨N,a,b⟩=>⟨N,a.hle hl,b⟩⟩
abbrev zD : Value:=.agg #[.slice none 0 0,.slice none 0 0]
abbrev zU : Value:=.agg #[.string ⟨#[]⟩,.string ⟨#[]⟩,.string ⟨#[]⟩,.bool false,.slice none 0 0]
end
end Go.Proofs.YtedkoimihknggaaGreatDoor.A
namespace Go.Proofs.YtedkoimihknggaaGreatDoor.A
set_option linter.unusedVariables false
set_option linter.unusedSimpArgs false
open Go.Proofs Go.Proofs.YtedkoimihknggaaGreatDoor
section
variable {X X' Y H0 : Zc} {n : Nat} {uv gv v : Value} {us : List Zm} {s : NSt} {k h m o t g : Tx} {u w : Zm} {β : Type}
def ZeG (v : Value) : Prop:=∃ a n c,v=.slice a n c
theorem ZeG.one (h : ZeG v) : oneCell v=true:=by
 obtain ⟨a,n,c,rfl⟩:=h;rfl
theorem Zmr {x : Tx} (h : ZeG (strv x)) : False:=by
 obtain ⟨a,n,c,h⟩:=h
 cases h
theorem Sl.setD {l : List Tx} {b : Nat} {c1 c2 d1 d2 : Value} (h : Sl Y v (l.map strv)) (hb : Y[b]?=some (.cells [c1,c2] 1 false false)) (i1 : ZeG c1) (i2 : ZeG c2) : Sl (Y.set b (.cells [d1,d2] 1 false false)) v (l.map strv):=by
 by_cases ho : own1 v=some b
 ·obtain ⟨a,c,rfl,h0,hf⟩:=h
  unfold own1 at ho
  split at ho
  ·rename_i id o n x e
   cases e
   cases ho
   have hl : l=[]:=by
    unfold Qj at hf
    simp only [hb] at hf
    split at hf
    ·have hf:=Option.some.inj hf
     cases l with
     | nil=>rfl
     | cons y l=>
      have hm : strv y∈([c1,c2].drop o).take ((List.map strv (y :: l)).length * 1):=by rw [hf];simp
      have hm:=List.mem_of_mem_drop (List.mem_of_mem_take hm)
      simp only [List.mem_cons,List.not_mem_nil,or_false] at hm
      rcases hm with hm | hm
      ·rw [← hm] at i1;exact (Zmr i1).elim
      ·rw [← hm] at i2;exact (Zmr i2).elim
    ·cases hf
   subst hl
   refine ⟨_,c,rfl,(fun e=>by cases e),?_⟩
   unfold Qj at hf ⊢
   simp only [hb,ZT hb] at hf ⊢
   split at hf
   ·rename_i hle
    rw [if_pos (by simpa using hle)]
    simp
   ·cases hf
  ·cases ho
 ·exact h.keep fun id hid=>List.getElem?_set_ne (fun e=>ho (by rw [hid,e]))
theorem SlN.setD {rows : List (List Value)} {b : Nat} {c1 c2 d1 d2 : Value} (h : SlN 5 Y v rows) (hb : Y[b]?=some (.cells [c1,c2] 1 false false)) : SlN 5 (Y.set b (.cells [d1,d2] 1 false false)) v rows:=by
 by_cases ho : own1 v=some b
 ·obtain ⟨a,c,rfl,h0,hf,hr⟩:=h
  unfold own1 at ho
  split at ho
  ·rename_i id o n x e
   cases e
   cases ho
   unfold Qj at hf
   simp only [hb] at hf
   split at hf
   ·rename_i hle
    have hl : rows.length=0:=by
     simp only [List.length_cons,List.length_nil] at hle
     omega
    have hl : rows=[]:=List.eq_nil_of_length_eq_zero hl
    subst hl
    refine ⟨_,c,rfl,(fun e=>by cases e),?_,hr⟩
    unfold Qj
    simp only [ZT hb]
    rw [if_pos (by simpa using hle)]
    simp
   ·cases hf
  ·cases ho
 ·exact h.keep fun id hid=>List.getElem?_set_ne (fun e=>ho (by rw [hid,e]))
theorem Q0.setD {b : Nat} {c1 c2 d1 d2 : Value} (h : Q0 Y v us) (hb : Y[b]?=some (.cells [c1,c2] 1 false false)) (i1 : ZeG c1) (i2 : ZeG c2) : Q0 (Y.set b (.cells [d1,d2] 1 false false)) v us:=
 ⟨h.1.setD hb,fun u hu=>⟨(h.2 u hu).1.setD hb i1 i2,(h.2 u hu).2⟩⟩
theorem Zq.setD {l : List Tx} {q : List Nat} {b : Nat} {c1 c2 d1 d2 : Value} (h : Zq Y v (l.map strv) q) (hb : Y[b]?=some (.cells [c1,c2] 1 false false)) (i1 : ZeG c1) (i2 : ZeG c2) : Zq (Y.set b (.cells [d1,d2] 1 false false)) v (l.map strv) q:=by
 rcases h with ⟨h1,rfl,rfl⟩ | ⟨sid,rest,gr,rfl,rfl,hid⟩
 ·exact .inl ⟨h1,rfl,rfl⟩
 ·by_cases e : b=sid
  ·subst e
   rw [hb] at hid
   injection hid with hid
   injection hid with hc h2 h3 h4
   cases l with
   | nil=>
    have hc : [c1,c2]=rest:=by simpa using hc
    subst hc
    exact .inr ⟨b,[d1,d2],gr,rfl,rfl,by rw [ZT hb,h3];rfl⟩
   | cons y l=>
    rw [List.map_cons,List.cons_append] at hc
    injection hc with hc _
    rw [hc] at i1
    exact (Zmr i1).elim
  ·exact .inr ⟨sid,rest,gr,rfl,rfl,(List.getElem?_set_ne e).trans hid⟩
theorem RD.back (hR : RD X uv gv s) {s' : NSt} (hl : HLe X X') (he : s'=s) : RD X' uv gv s':=by rw [he];exact hR.hle hl
theorem RD.users (hR : RD X uv gv s) {s' : NSt} {uv' : Value} {us' : List Zm} (hl : HLe X X') (hU : Q0 X' uv' us') (hO : ROK s' us') (hK : s'.K=s.K) : RD X' uv' gv s':=⟨⟨us',hU,hO⟩,by rw [hK];exact (hR.hle hl).n⟩
end
end Go.Proofs.YtedkoimihknggaaGreatDoor.A
namespace Go.Proofs.YtedkoimihknggaaGreatDoor.A
set_option linter.unusedVariables false
set_option linter.unusedSimpArgs false
open Go.Proofs Go.Proofs.YtedkoimihknggaaGreatDoor
section
variable {X X' Y H0 : Zc} {n : Nat} {uv gv v : Value} {us : List Zm} {s : NSt} {k h m o t g x : Tx} {u w : Zm} {β : Type} {l : List Tx}
theorem ZoZ (hl : l.length≤1000000) (hs : Sl X v (l.map strv)) : ∀ (t j : Nat),l.length - j=t→j≤l.length→
  Zk (c4 (KU.l1 (R n))) [strv x,v,iv l.length,iv j] X=some (if x∈l.drop j then .ret (.bool true) else .ext 0 [],X)
 | 0,j,ht,hj=>by
  rw [List.drop_eq_nil_of_le (by omega)]
  refine ZI ?_
  rw [ZB,show j=l.length by omega]
  unfold KU.l1
  rw [Za Zg,Zb,if_neg (by simp)]
  rfl
 | t+1,j,ht,hj=>by
  have hkl : j < l.length:=by omega
  have hlt : (j : Int) < l.length:=by omega
  have hg:=List.getElem?_eq_getElem hkl
  have hd:=List.drop_eq_getElem_cons hkl
  generalize l[j]=y at hg hd
  have x1:=hs.ix (i:=j) (by simpa using hkl) .i64 X
  have x2:=hs.ldx (JF hg)
  have x3 : bop .str .eql (strv y) (strv x) X=some (.bool (y==x),X):=Zda
  rw [hd]
  by_cases hyx : y=x
  ·rw [if_pos (by simp [hyx])]
   refine Z8 ?_
   rw [ZB]
   unfold KU.l1
   rw [Za Zg,Zb,if_pos (by simpa using hlt),Za x1,Za x2,Za x3,Zb,if_pos (by simpa using hyx)]
   rfl
  ·have : (x∈y :: l.drop (j+1))↔x∈l.drop (j+1):=by simp [Ne.symm hyx]
   simp only [this]
   refine (Zu ?_).trans (ZoZ hl hs t (j+1) (by omega) (by omega))
   rw [ZB]
   unfold KU.l1
   rw [Za Zg,Zb,if_pos (by simpa using hlt),Za x1,Za x2,Za x3,Zb,if_neg (by simpa using hyx),Za Zt,Qm (by omega)]
   rfl
theorem ZvY (hl : l.length≤1000000) (hs : Sl X v (l.map strv)) : R (n+1) Zeb [v,strv x] X=some (.bool (decide (x∈l)),X):=by
 have e:=ZoZ (n:=n) (x:=x) hl hs l.length 0 (by omega) (by omega)
 rw [show iv ((0 : Nat) : Int)=.int .i64 0 from rfl,List.drop_zero] at e
 have hlen : ZC v X=some (iv l.length,X):=by have:=hs.len (H':=X);simpa using this
 rw [R,Zpb rfl]
 unfold KU
 rw [Za hlen]
 by_cases h : x∈l
 ·rw [if_pos h] at e
  rw [QM e,decide_eq_true h];rfl
 ·rw [if_neg h] at e
  rw [ZS e,Zv,decide_eq_false h];rfl
end
end Go.Proofs.YtedkoimihknggaaGreatDoor.A
namespace Go.Proofs.YtedkoimihknggaaGreatDoor.A
set_option linter.unusedVariables false
set_option linter.unusedSimpArgs false
open Go.Proofs Go.Proofs.YtedkoimihknggaaGreatDoor
section
variable {X X' Y H0 : Zc} {n : Nat} {uv gv v : Value} {us : List Zm} {s s' : NSt} {k h m o t g x : Tx} {u w : Zm} {β : Type} {l : List Tx}
theorem ROK.gs (hO : ROK s us) (hP : ZjX s) (hu : u∈us) : u.gs=ofL u.nm s.K s.mem∧u.gs.length≤6:=by
 have hat:=hO.at hu
 unfold Yl at hat
 cases ha : Zj u.nm s.A with
 | none=>rw [ha] at hat;cases hat
 | some p=>
  rw [ha] at hat
  have h1 : u.gs=ofL u.nm s.K s.mem:=congrArg (·.2.2.2.2) (Option.some.inj hat).symm
  refine ⟨h1,?_⟩
  rw [h1]
  exact Nat.le_trans Zl2 hP.k.few
end
end Go.Proofs.YtedkoimihknggaaGreatDoor.A
namespace Go.Proofs.YtedkoimihknggaaGreatDoor.A
set_option linter.unusedVariables false
set_option linter.unusedSimpArgs false
open Go.Proofs Go.Proofs.YtedkoimihknggaaGreatDoor
section
variable {X X' Y H0 : Zc} {n : Nat} {uv gv v : Value} {us : List Zm} {s s' : NSt} {k h m o t g x : Tx} {u w : Zm} {β : Type} {l : List Tx}
end
end Go.Proofs.YtedkoimihknggaaGreatDoor.A

namespace Go.Proofs.YtedkoimihknggaaGreatDoor.A
set_option linter.unusedVariables false
set_option linter.unusedSimpArgs false
open Go.Proofs Go.Proofs.YtedkoimihknggaaGreatDoor
def ZaT (m : Tx) : Bool:=m==[] || (KP m && Qt m==m)
def Jk : List Tx→Bool
 | a :: b :: l=>decide (a < b) && Jk (b :: l)
 | _=>true
def Zcw (gs : List Tx) : Int:=if 6 < gs.length then 7 else if gs.all ZA then (if Jk gs then 0 else 9) else 10
def QR (u : Zm) : Int:=if ZA u.nm then (if Zaz u.hs then (if ZaT u.ml then Zcw u.gs else 11) else 4) else 10
section
variable {X X' H H0 : Zc} {n p : Nat} {v sl : Value} {l gs : List Tx} {m : Tx} {u : Zm}
theorem ZaK {a b : Tx} : Jk (a :: b :: l)=(decide (a < b) && Jk (b :: l)):=rfl
theorem ZkM (hl : l.length≤1000000) (hs : Sl X v (l.map strv)) : ∀ (t j : Nat),l.length - j=t→j≤l.length→
  Zk (c4 (Q6.l1 (R (n+5)))) [v,v,iv l.length,iv j] X=some (if (l.drop j).all ZA then .ext 0 [v] else .ret (iv 10),X)
 | 0,j,ht,hj=>by
  rw [List.drop_eq_nil_of_le (by omega)]
  refine ZI ?_
  rw [ZB,show j=l.length by omega]
  unfold Q6.l1
  rw [Za Zg,Zb,if_neg (by simp)]
  rfl
 | t+1,j,ht,hj=>by
  have hkl : j < l.length:=by omega
  have hlt : (j : Int) < l.length:=by omega
  have hg:=List.getElem?_eq_getElem hkl
  have hd:=List.drop_eq_getElem_cons hkl
  generalize l[j]=y at hg hd
  have x1:=hs.ix (i:=j) (by simpa using hkl) .i64 X
  have x2:=hs.ldx (JF hg)
  have e1 : R (n+5) JU [strv y] X=some (iv (Qc y),X):=Zeg
  rw [hd,List.all_cons]
  cases hn : ZA y
  ·have he : Qc y=10:=by unfold Qc;rw [hn];rfl
   rw [he] at e1
   refine Z8 ?_
   rw [ZB]
   unfold Q6.l1
   rw [Za Zg,Zb,if_pos (by simpa using hlt),Za x1,Za x2,Za e1,Za Zp,Zb,if_pos (by simp)]
   rfl
  ·have he : Qc y=0:=ZeZ.2 hn
   rw [he] at e1
   rw [Bool.true_and]
   refine (Zu ?_).trans (ZkM hl hs t (j+1) (by omega) (by omega))
   rw [ZB]
   unfold Q6.l1
   rw [Za Zg,Zb,if_pos (by simpa using hlt),Za x1,Za x2,Za e1,Za Zp,Zb,if_neg (by simp),Za Zt,Qm (by omega)]
   rfl
theorem ZmT (hl : l.length≤1000000) (hs : Sl X v (l.map strv)) : ∀ (t j : Nat),l.length - j=t→1≤j→(j≤l.length∨j=1)→
  Zk (c2 (Q6.l2 (R n))) [v,iv j] X=some (if Jk (l.drop (j - 1)) then .ext 2 [] else .ret (iv 9),X)
 | 0,j,ht,hj,hj2=>by
  have hr : Jk (l.drop (j - 1))=true:=by
   have h1 : (l.drop (j - 1)).length≤1:=by rw [List.length_drop];omega
   match l.drop (j - 1),h1 with
   | [],_=>rfl
   | [a],_=>rfl
  have hlen : ZC v X=some (iv l.length,X):=by have:=hs.len (H':=X);simpa using this
  rw [hr]
  refine ZI ?_
  rw [ZW]
  unfold Q6.l2
  rw [Za hlen,Za Zg,Zb,if_neg (by simp;omega)]
  rfl
 | t+1,j,ht,hj,hj2=>by
  have hkl : j < l.length:=by omega
  have hlt : (j : Int) < l.length:=by omega
  have hlen : ZC v X=some (iv l.length,X):=by have:=hs.len (H':=X);simpa using this
  have hk0 : j - 1 < l.length:=by omega
  have hg:=List.getElem?_eq_getElem hkl
  have hg0:=List.getElem?_eq_getElem hk0
  have hd:=List.drop_eq_getElem_cons hkl
  have hd0:=List.drop_eq_getElem_cons hk0
  rw [show j - 1+1=j by omega,hd] at hd0
  generalize l[j]=y at hg hd hd0
  generalize l[j - 1]=y0 at hg0 hd0
  have x1:=hs.ix (i:=j) (by simpa using hkl) .i64 X
  have x2:=hs.ldx (JF hg)
  have x3:=hs.ix (i:=j - 1) (by simpa using hk0) .i64 X
  have x4:=hs.ldx (JF hg0)
  have w0 : IntKind.i64.wrap ((j : Int) - 1)=((j - 1 : Nat) : Int):=by rw [w64 (by omega) (by omega)];omega
  have q1 : bop .str .geq (strv y0) (strv y) X=some (.bool (!decide (y0 < y)),X):=ZrE
  rw [hd0,ZaK]
  by_cases hy : y0 < y
  ·rw [decide_eq_true hy] at q1 ⊢
   rw [Bool.true_and,← hd]
   have ih:=ZmT hl hs t (j+1) (by omega) (by omega) (by omega)
   rw [Nat.add_sub_cancel] at ih
   refine (Zu ?_).trans ih
   rw [ZW]
   unfold Q6.l2
   rw [Za hlen,Za Zg,Zb,if_pos (by simpa using hlt),Za Qo,w0,Za x3,Za x4,Za x1,Za x2,Za q1,Zb,if_neg (by simp),Za Zt,Qm (by omega)]
   rfl
  ·rw [decide_eq_false hy] at q1 ⊢
   refine Z8 ?_
   rw [ZW]
   unfold Q6.l2
   rw [Za hlen,Za Zg,Zb,if_pos (by simpa using hlt),Za Qo,w0,Za x3,Za x4,Za x1,Za x2,Za q1,Zb,if_pos (by simp)]
   rfl
theorem ZoE (hl : l.length≤1000000) (hs : Sl X v (l.map strv)) : R (n+6) Za3 [v] X=some (iv (Zcw l),X):=by
 have hlen : ZC v X=some (iv l.length,X):=by have:=hs.len (H':=X);simpa using this
 have e1:=ZkM (n:=n) hl hs l.length 0 (by omega) (by omega)
 have e2:=ZmT (n:=n+5) hl hs (l.length - 1) 1 rfl (Nat.le_refl _) (.inr rfl)
 rw [show iv ((0 : Nat) : Int)=.int .i64 0 from rfl,List.drop_zero] at e1
 rw [show iv ((1 : Nat) : Int)=.int .i64 1 from rfl,Nat.sub_self,List.drop_zero] at e2
 rw [R,ZmG rfl]
 unfold Q6 Zcw
 rw [Za hlen]
 by_cases h6 : 6 < l.length
 ·rw [Za ZK,Zb,if_pos (by simp;omega),if_pos h6];rfl
 ·rw [Za ZK,Zb,if_neg (by simp;omega),if_neg h6,Za hlen]
  cases ha : l.all ZA
  ·rw [ha] at e1
   rw [QM e1];rfl
  ·rw [ha] at e1
   rw [ZS e1,Zv,JY]
   cases hr : Jk l
   ·rw [hr] at e2
    rw [QM e2];rfl
   ·rw [hr] at e2
    rw [ZS e2,Zv];rfl
theorem Zr2 : ∃ X',R (n+9) Zcm [strv m] X=some (iv (if ZaT m then 0 else 11),X')∧HLe X X':=by
 have f1 : ∀ r X',Zcb (R (n+8)) (strv m) X=some (r,X')→R (n+9) Zcm [strv m] X=some (r,X'):=fun r X' hr=>by rw [R,Zog rfl];exact hr
 have q1 : bop .str .eql (strv m) (.string ⟨#[]⟩) X=some (.bool (m==[]),X):=Zda (b:=[])
 unfold ZaT
 by_cases hm : m=[]
 ·refine ⟨X,f1 _ _ ?_,.refl _⟩
  unfold Zcb
  rw [Za q1,Zb,if_pos (by simpa using hm)]
  simp [hm,ret]
 ·have hmb : (m==[])=false:=by simpa using hm
  obtain ⟨X1,e1,k1⟩:=Ztk (n:=n) (s:=m) (X:=X)
  refine ⟨X1,f1 _ _ ?_,k1⟩
  unfold Zcb
  rw [hmb] at q1 ⊢
  rw [Za q1,Zb,if_neg (by simp),Za e1,Za Zn,Za Zo]
  cases hb : KP m
  ·have q2 : bop .int .neq (iv 11) (.int .i64 0) X1=some (.bool true,X1):=by rw [Zp];rfl
   simp only [Bool.false_eq_true,if_false,Bool.false_and,Bool.or_false]
   rw [Za q2,Za (g_r.trans (if_neg (by simp)))]
   simp only [List.replicate]
   rw [ZR,Za Zh]
   simp only [cond_true]
   rw [Zb,if_pos rfl]
   rfl
  ·have q2 : bop .int .neq (iv 0) (.int .i64 0) X1=some (.bool false,X1):=by rw [Zp];rfl
   have q3 : bop .str .neq (strv (Qt m)) (strv m) X1=some (.bool (!(Qt m==m)),X1):=ZbC
   simp only [if_true,Bool.true_and,Bool.false_or]
   rw [Za q2,ZL,Zf,Za q3,ZO,ZR,Za Zh]
   simp only [cond_false]
   cases hf : Qt m==m
   ·rw [Zb,if_pos (by rfl)];rfl
   ·rw [Zb,if_neg (by simp)];rfl
theorem UOK.cells1 (h : UOK X u) : alc 1 (.agg u.cells.toArray) X=some (pt X.length,X++[.cells u.cells 1 false false]):=ZoV h.2.1
theorem Zez (h : UOK X u) : ∃ X',R (n+10) KY [iv 2,.agg u.cells.toArray] X=some (iv (QR u),X')∧HLe X X':=by
 have e1:=h.cells1
 have k1 : HLe X (X++[.cells u.cells 1 false false]):=.app _ _
 have c1 : (X++[Zd.cells u.cells 1 false false])[X.length]?=some (.cells u.cells 1 false false):=Zx
 generalize X++[Zd.cells u.cells 1 false false]=X1 at e1 k1 c1
 generalize X.length=p at e1 c1
 have a0 : ∀ Y,HLe X1 Y→∀ f x,u.cells[f]?=some x→ld1 (pa p f) Y=some (x,Y):=fun Y hl f x h=>ZV (hl _ _ c1) h
 have e2 : R (n+9) JU [strv u.nm] X1=some (iv (Qc u.nm),X1):=Zeg (n:=n+4)
 have e3 : R (n+9) Zci [strv u.hs] X1=some (iv (Wz u.hs),X1):=ZuY (n:=n+5)
 have b2:=ZuM (a:=Qc u.nm) (c:=Wz u.hs) X1
 have k2 : HLe X1 (X1++[Zd.cells [iv (Qc u.nm),iv (Wz u.hs)] 1 false false]):=.app _ _
 have s2 : Sl (X1++[Zd.cells [iv (Qc u.nm),iv (Wz u.hs)] 1 false false]) (.slice (some ⟨X1.length,0,none⟩) 2 2) [iv (Qc u.nm),iv (Wz u.hs)]:=Sl.one (vs:=[iv (Qc u.nm),iv (Wz u.hs)]) (es:=1) (g:=false) (ro:=false) Zx
 generalize X1++[Zd.cells [iv (Qc u.nm),iv (Wz u.hs)] 1 false false]=X2 at b2 k2 s2
 generalize X1.length=p2 at b2 s2
 have e4 : R (n+9) WE [.slice (some ⟨p2,0,none⟩) 2 2] X2=_:=ZqX (n:=n+8) s2
 have q1 : bop .int .neq (iv 2) (.int .i64 1) X1=some (.bool true,X1):=by rw [Zp];rfl
 have q2 : bop .int .neq (iv 2) (.int .i64 2) X1=some (.bool false,X1):=by rw [Zp];rfl
 have q3 : bop .int .eql (iv 2) (.int .i64 2) X2=some (.bool true,X2):=by rw [ZJ];rfl
 have f1 : ∀ r X',Zau (R (n+9)) (iv 2) (.agg u.cells.toArray) X=some (r,X')→R (n+10) KY [iv 2,.agg u.cells.toArray] X=some (r,X'):=fun r X' hr=>by rw [R,ZnF rfl];exact hr
 have hpre : ∀ K : Value→M Value,bind (alc 1 (.agg u.cells.toArray)) (fun v3=>bind (bop .int .neq (iv 2) (.int .i64 1)) fun v7=>bind (ZU v7 true 2 (bind (bop .int .neq (iv 2) (.int .i64 2)) fun v10=>ret [iv 2,v10])) (c2 fun _ q=>bind (pick v7 q (.bool false)) fun v11=>cnd v11 (ret (.int .i64 6)) (K v3))) X=K (pt p) X1:=fun K=>by
  rw [Za e1,Za q1,ZL,Zf,Za q2,ZO,ZW,Za Zh]
  simp only [cond_true]
  rw [Zb,if_neg (by simp)]
 unfold QR
 cases hn : ZA u.nm
 ·have h0 : Qc u.nm=10:=by unfold Qc;rw [hn];rfl
  refine ⟨X2,f1 _ _ ?_,k1.trans k2⟩
  unfold Zau
  refine (hpre _).trans ?_
  rw [Za Zi,Za (a0 _ (.refl _) 0 _ rfl),Za Zi,Za (a0 _ (.refl _) 1 _ rfl),Za e2,Za (a0 _ (.refl _) 1 _ rfl),Qz,Za e3,Za b2,Za e4,h0,Za Zp,Zb,if_pos (by simp)]
  rfl
 ·have h0 : Qc u.nm=0:=ZeZ.2 hn
  cases hs : Zaz u.hs
  ·have h1 : Wz u.hs=4:=by unfold Wz;rw [hs];rfl
   refine ⟨X2,f1 _ _ ?_,k1.trans k2⟩
   unfold Zau
   refine (hpre _).trans ?_
   rw [Za Zi,Za (a0 _ (.refl _) 0 _ rfl),Za Zi,Za (a0 _ (.refl _) 1 _ rfl),Za e2,Za (a0 _ (.refl _) 1 _ rfl),Qz,Za e3,Za b2,Za e4,h0,h1,Za Zp,Zb,if_pos (by simp)]
   rfl
  ·have h1 : Wz u.hs=0:=ZuG.2 hs
   have k12:=k1.trans k2
   have s4:=(h.hle k12).1
   have hl6:=h.2.2
   obtain ⟨X3,e5,k3⟩:=Zr2 (n:=n) (m:=u.ml) (X:=X2)
   have e6 : R (n+9) Za3 [u.gv] X3=_:=ZoE (n:=n+3) hl6 (s4.mono k3)
   have b7:=ZuM (a:=if ZaT u.ml then 0 else 11) (c:=Zcw u.gs) X3
   have k7 : HLe X3 (X3++[Zd.cells [iv (if ZaT u.ml then 0 else 11),iv (Zcw u.gs)] 1 false false]):=.app _ _
   have s7 : Sl (X3++[Zd.cells [iv (if ZaT u.ml then 0 else 11),iv (Zcw u.gs)] 1 false false]) (.slice (some ⟨X3.length,0,none⟩) 2 2) [iv (if ZaT u.ml then 0 else 11),iv (Zcw u.gs)]:=Sl.one (vs:=[iv (if ZaT u.ml then 0 else 11),iv (Zcw u.gs)]) (es:=1) (g:=false) (ro:=false) Zx
   generalize X3++[Zd.cells [iv (if ZaT u.ml then 0 else 11),iv (Zcw u.gs)] 1 false false]=X7 at b7 k7 s7
   generalize X3.length=p7 at b7 s7
   have e8 : R (n+9) WE [.slice (some ⟨p7,0,none⟩) 2 2] X7=_:=ZqX (n:=n+8) s7
   refine ⟨X7,f1 _ _ ?_,(k12.trans k3).trans k7⟩
   unfold Zau
   refine (hpre _).trans ?_
   rw [Za Zi,Za (a0 _ (.refl _) 0 _ rfl),Za Zi,Za (a0 _ (.refl _) 1 _ rfl),Za e2,Za (a0 _ (.refl _) 1 _ rfl),Qz,Za e3,Za b2,Za e4,h0,h1,Za Zp,Zb,if_neg (by simp),Za q3,Zb,if_pos rfl,Za Zi,Za (a0 _ k2 2 _ rfl),Za Zi,Za (a0 _ k2 4 _ rfl),Za e5,Za (a0 _ (k2.trans k3) 4 _ rfl),Qz,Za e6,Za b7,Za e8]
   cases hm : ZaT u.ml <;> simp [ret]
theorem Zsk (hl : l.length≤1000000) (hs : Sl X v (l.map strv)) : ∀ (t j : Nat),l.length - j=t→j≤l.length→
  Zk (c4 (Qx.l1 (R (n+3)))) [pt p,v,iv l.length,iv j] X=some (if (l.drop j).all ZA then .ext 0 [pt p] else .ret (iv 10),X)
 | 0,j,ht,hj=>by
  rw [List.drop_eq_nil_of_le (by omega)]
  refine ZI ?_
  rw [ZB,show j=l.length by omega]
  unfold Qx.l1
  rw [Za Zg,Zb,if_neg (by simp)]
  rfl
 | t+1,j,ht,hj=>by
  have hkl : j < l.length:=by omega
  have hlt : (j : Int) < l.length:=by omega
  have hg:=List.getElem?_eq_getElem hkl
  have hd:=List.drop_eq_getElem_cons hkl
  generalize l[j]=y at hg hd
  have x1:=hs.ix (i:=j) (by simpa using hkl) .i64 X
  have x2:=hs.ldx (JF hg)
  have e1 : R (n+3) YA [strv y] X=some (.bool (ZA y),X):=Zd8
  rw [hd,List.all_cons]
  cases hn : ZA y
  ·rw [hn] at e1
   refine Z8 ?_
   rw [ZB]
   unfold Qx.l1
   rw [Za Zg,Zb,if_pos (by simpa using hlt),Za x1,Za x2,Za e1,Za ZN,Zb,if_pos (by rfl)]
   rfl
  ·rw [hn] at e1
   rw [Bool.true_and]
   refine (Zu ?_).trans (Zsk hl hs t (j+1) (by omega) (by omega))
   rw [ZB]
   unfold Qx.l1
   rw [Za Zg,Zb,if_pos (by simpa using hlt),Za x1,Za x2,Za e1,Za ZN,Zb,if_neg (by simp),Za Zt,Qm (by omega)]
   rfl
theorem Zw7 {a c : Tx} {H : Zc} : bop .str .leq (strv a) (strv c) H=some (.bool (!decide (c < a)),H):=by
 rw [ZwQ]
 congr 3
 rw [Bool.eq_iff_iff]
 simp [List.not_lt]
def Jr (l : List Tx) (j : Nat) : Bool:=if j=0 then Jk l else Jk (l.drop (j - 1))
theorem ZsS {gv : Value} (hl : u.gs.length≤1000000) (hs : Sl X u.gv (u.gs.map strv)) (c1 : X[p]?=some (.cells u.cells 1 false false)) : ∀ (t j : Nat),u.gs.length - j=t→j≤u.gs.length→
  Zk (c4 (Qx.l2 (R n))) [pt p,u.gv,iv u.gs.length,iv j] X=some (if Jr u.gs j then .ext 2 [] else .ret (iv 9),X)
 | 0,j,ht,hj=>by
  have hr : Jr u.gs j=true:=by
   unfold Jr
   by_cases h0 : j=0
   ·rw [if_pos h0]
    have : u.gs=[]:=List.eq_nil_of_length_eq_zero (by omega)
    rw [this];rfl
   ·rw [if_neg h0]
    have h1 : (u.gs.drop (j - 1)).length≤1:=by rw [List.length_drop];omega
    match u.gs.drop (j - 1),h1 with
    | [],_=>rfl
    | [a],_=>rfl
  rw [hr]
  refine ZI ?_
  rw [ZB,show j=u.gs.length by omega]
  unfold Qx.l2
  rw [Za Zg,Zb,if_neg (by simp)]
  rfl
 | t+1,j,ht,hj=>by
  have hkl : j < u.gs.length:=by omega
  have hlt : (j : Int) < u.gs.length:=by omega
  have hg:=List.getElem?_eq_getElem hkl
  have hd:=List.drop_eq_getElem_cons hkl
  have x1:=hs.ix (i:=j) (by simpa using hkl) .i64 X
  have x2:=hs.ldx (JF hg)
  have ih:=ZsS (gv:=gv) hl hs c1 t (j+1) (by omega) (by omega)
  by_cases h0 : j=0
  ·subst h0
   have q0 : bop .int .gtr (iv ((0 : Nat) : Int)) (.int .i64 0) X=some (.bool false,X):=by rw [ZK];rfl
   have hr : Jr u.gs 0=Jr u.gs (0+1):=by unfold Jr;simp
   rw [hr]
   refine (Zu ?_).trans ih
   rw [ZB]
   unfold Qx.l2
   rw [Za Zg,Zb,if_pos (by simpa using hlt),Za x1,Za x2,Za q0,Za (g_r.trans (if_neg (by simp)))]
   simp only [List.replicate]
   rw [Yn,Za Zh]
   simp only [cond_false]
   rw [Zb,if_neg (by simp),Za Zt,Qm (by omega)]
   rfl
  ·have hk0 : j - 1 < u.gs.length:=by omega
   have hg0:=List.getElem?_eq_getElem hk0
   have hd0:=List.drop_eq_getElem_cons hk0
   rw [show j - 1+1=j by omega,hd] at hd0
   have hr1 : Jr u.gs (j+1)=Jk (u.gs.drop j):=by unfold Jr;simp
   have hr0 : Jr u.gs j=Jk (u.gs.drop (j - 1)):=by unfold Jr;rw [if_neg h0]
   rw [hr1,hd] at ih
   rw [hr0,hd0,ZaK]
   generalize u.gs[j]=y at x1 x2 hg hd hd0 ih
   generalize u.gs[j - 1]=y0 at hg0 hd0
   have x3:=hs.ix (i:=j - 1) (by simpa using hk0) .i64 X
   have x4:=hs.ldx (JF hg0)
   have w0 : IntKind.i64.wrap ((j : Int) - 1)=((j - 1 : Nat) : Int):=by rw [w64 (by omega) (by omega)];omega
   have q0 : bop .int .gtr (iv j) (.int .i64 0) X=some (.bool true,X):=by rw [ZK,decide_eq_true (by omega)]
   have q1 : bop .str .leq (strv y) (strv y0) X=some (.bool (!decide (y0 < y)),X):=Zw7
   have a4 : ld1 (pa p 4) X=some (u.gv,X):=ZV c1 rfl
   by_cases hy : y0 < y
   ·rw [decide_eq_true hy] at q1 ⊢
    rw [Bool.true_and]
    refine (Zu ?_).trans ih
    rw [ZB]
    unfold Qx.l2
    rw [Za Zg,Zb,if_pos (by simpa using hlt),Za x1,Za x2,Za q0,ZL,Zf,Za Zi,Zf,Za a4,Zf,Za Qo,w0,Zf,Za x3,Zf,Za x4,Zf,Za q1,ZO,Yn,Za Zh]
    simp only [cond_true,Bool.not_true]
    rw [Zb,if_neg (by simp),Za Zt,Qm (by omega)]
    rfl
   ·rw [decide_eq_false hy] at q1 ⊢
    refine Z8 ?_
    rw [ZB]
    unfold Qx.l2
    rw [Za Zg,Zb,if_pos (by simpa using hlt),Za x1,Za x2,Za q0,ZL,Zf,Za Zi,Zf,Za a4,Zf,Za Qo,w0,Zf,Za x3,Zf,Za x4,Zf,Za q1,ZO,Yn,Za Zh]
    simp only [cond_true,Bool.not_false]
    rw [Zb,if_pos rfl]
    rfl
theorem Zjw (h : UOK X u) : ∃ X',R (n+5) ZaJ [iv 2,.agg u.cells.toArray] X=some (iv (QR u),X')∧HLe X X':=by
 have e1:=h.cells1
 have k1 : HLe X (X++[.cells u.cells 1 false false]):=.app _ _
 have cc : (X++[Zd.cells u.cells 1 false false])[X.length]?=some (.cells u.cells 1 false false):=Zx
 generalize X++[Zd.cells u.cells 1 false false]=X1 at e1 k1 cc
 generalize X.length=p at e1 cc
 have a0 : ∀ f x,u.cells[f]?=some x→ld1 (pa p f) X1=some (x,X1):=fun f x h=>ZV cc h
 have e2 : R (n+4) YA [strv u.nm] X1=some (.bool (ZA u.nm),X1):=Zd8
 have e3 : R (n+4) Zbw [strv u.hs] X1=some (.bool (Zaz u.hs),X1):=ZrO
 have e4 : R (n+4) WC [strv u.ml] X1=_:=Zso (n:=n)
 have hu:=h.hle k1
 have hlen : ZC u.gv X1=some (iv u.gs.length,X1):=by have:=hu.1.len (H':=X1);simpa using this
 have q1 : bop .int .lss (iv 2) (.int .i64 1) X1=some (.bool false,X1):=by rw [Zg];rfl
 have q3 : bop .int .gtr (iv 2) (.int .i64 2) X1=some (.bool false,X1):=by rw [ZK];rfl
 have q2 : bop .int .eql (iv 2) (.int .i64 1) X1=some (.bool false,X1):=by rw [ZJ];rfl
 have q5 : bop .str .neq (strv u.ml) (.string ⟨#[]⟩) X1=some (.bool (!(u.ml==[])),X1):=ZbC (b:=[])
 have q6 : bop .str .neq (strv (Qt u.ml)) (strv u.ml) X1=some (.bool (!(Qt u.ml==u.ml)),X1):=ZbC
 have l1:=Zsk (n:=n+1) (p:=p) h.2.2 hu.1 u.gs.length 0 (by omega) (by omega)
 have l2:=ZsS (n:=n+4) (gv:=u.gv) h.2.2 hu.1 cc u.gs.length 0 (by omega) (by omega)
 rw [show iv ((0 : Nat) : Int)=.int .i64 0 from rfl,List.drop_zero] at l1
 rw [show iv ((0 : Nat) : Int)=.int .i64 0 from rfl,show Jr u.gs 0=Jk u.gs from by unfold Jr;simp] at l2
 have hgr : (c1 fun q42_0=>
   bind (fa 4 q42_0) fun v57x43=>bind (ld1 v57x43) fun v58x44=>bind (ZC v58x44) fun v59x45=>bind (bop .int .gtr v59x45 (Value.int .i64 6)) fun v60x46=>
   cnd v60x46 (ret (Value.int .i64 7))
   (bind (fa 4 q42_0) fun v61x47=>bind (ld1 v61x47) fun v62x48=>bind (ZC v62x48) fun v63x49=>
   jn (Zk (c4 (Qx.l1 (R (n+4)))) [q42_0,v62x48,v63x49,(Value.int .i64 0)]) noN (xk 0 (c1 fun q57_0=>
   bind (fa 4 q57_0) fun v72x58=>bind (ld1 v72x58) fun v73x59=>bind (ZC v73x59) fun v74x60=>
   jn (Zk (c4 (Qx.l2 (R (n+4)))) [q57_0,v73x59,v74x60,(Value.int .i64 0)]) noN (xk 2 (c0 (ret (Value.int .i64 0))) noX) ret) noX) ret)) [pt p] X1=some (iv (Zcw u.gs),X1):=by
  unfold Zcw
  rw [JY,Za Zi,Za (a0 4 _ rfl),Za hlen]
  by_cases h6 : 6 < u.gs.length
  ·rw [Za ZK,Zb,if_pos (by simp;omega),if_pos h6];rfl
  ·rw [Za ZK,Zb,if_neg (by simp;omega),if_neg h6,Za Zi,Za (a0 4 _ rfl),Za hlen]
   cases ha : u.gs.all ZA
   ·rw [ha] at l1
    rw [QM l1];rfl
   ·rw [ha] at l1
    rw [ZS l1,Zv,JY,Za Zi,Za (a0 4 _ rfl),Za hlen]
    cases hr : Jk u.gs
    ·rw [hr] at l2
     rw [QM l2];rfl
    ·rw [hr] at l2
     rw [ZS l2,Zv];rfl
 refine ⟨X1,?_,k1⟩
 rw [R,Zl1 rfl]
 unfold Qx QR
 rw [Za e1,Za q1,ZL,Zf,Za q3,ZO,ZW,Za Zh]
 simp only [cond_false]
 rw [Zb,if_neg (by simp),Za Zi,Za (a0 0 _ rfl),Za e2,Za ZN]
 cases hn : ZA u.nm
 ·rw [Zb,if_pos (by rfl)];rfl
 rw [Zb,if_neg (by simp),Za Zi,Za (a0 1 _ rfl),Za e3,Za ZN]
 cases hs : Zaz u.hs
 ·rw [Zb,if_pos (by rfl)];rfl
 rw [Zb,if_neg (by simp),Za q2,Zb,if_neg (by simp),Za Zi,Za (a0 2 _ rfl),Za q5]
 simp only [if_true]
 unfold ZaT
 by_cases hm : u.ml=[]
 ·have hmb : (u.ml==[])=true:=by simpa using hm
  rw [hmb]
  refine (QC (vs:=[pt p]) (H':=X1) ?_).trans ?_
  ·rw [Zb,if_neg (by simp)];rfl
  ·exact hgr
 ·have hmb : (u.ml==[])=false:=by simpa using hm
  rw [hmb]
  cases hb : KP u.ml
  ·rw [hb] at e4
   rw [if_neg (by simp)]
   refine QM ?_
   rw [Zb,if_pos (by rfl),Za Zi,Za (a0 2 _ rfl),Za e4,Za Zn,Za Zo,Za ZN]
   simp only [Bool.not_false]
   rw [Za (g_r.trans (if_neg (by simp)))]
   simp only [List.replicate]
   rw [ZB,Za Zh]
   simp only [cond_true]
   rw [Zb,if_pos rfl]
   rfl
  ·rw [hb] at e4
   have e4 : R (n+4) WC [strv u.ml] X1=some (.tuple #[strv (Qt u.ml),.bool true],X1):=e4
   cases hf : Qt u.ml==u.ml
   ·rw [hf] at q6
    rw [if_neg (by simp)]
    refine QM ?_
    rw [Zb,if_pos (by rfl),Za Zi,Za (a0 2 _ rfl),Za e4,Za Zn,Za Zo,Za ZN]
    simp only [Bool.not_true]
    rw [ZL,Zf,Za Zi,Zf,Za (a0 2 _ rfl),Zf,Za q6,ZO,ZB,Za Zh]
    simp only [cond_false,Bool.not_false]
    rw [Zb,if_pos rfl]
    rfl
   ·rw [hf] at q6
    rw [if_pos (by simp)]
    refine (QC (vs:=[pt p]) (H':=X1) ?_).trans ?_
    ·rw [Zb,if_pos (by rfl),Za Zi,Za (a0 2 _ rfl),Za e4,Za Zn,Za Zo,Za ZN]
     simp only [Bool.not_true]
     rw [ZL,Zf,Za Zi,Zf,Za (a0 2 _ rfl),Zf,Za q6,ZO,ZB,Za Zh]
     simp only [cond_false,Bool.not_true]
     rw [Zb,if_neg (by simp)]
     rfl
    ·exact hgr
end
end Go.Proofs.YtedkoimihknggaaGreatDoor.A

namespace Go.Proofs.YtedkoimihknggaaGreatDoor.A
set_option linter.unusedVariables false
set_option linter.unusedSimpArgs false
open Go.Proofs Go.Proofs.YtedkoimihknggaaGreatDoor
def JD : List Zm→Int
 | []=>0
 | u :: l=>if QR u=0 then JD l else QR u
def Zet (us : List Zm) : Int:=if JD us=0 then (if Jk (us.map (·.nm)) then (if 12 < us.length then 7 else 0) else 9) else JD us
def Zbk (us : List Zm) (gs : List Tx) : Int:=if Zet us=0 then (if gs.all ZA then (if Jk gs then (if 6 < gs.length then 7 else 0) else 9) else 10) else Zet us
def Zcp (gs : List Tx) (prev : List Zm) (u : Zm) : Int:=if u.gs.all (fun g=>decide (g∈gs)) then (if u.ml≠[]∧prev.any (fun v=>u.ml==v.ml)=true then 9 else 0) else 8
def YS (gs : List Tx) : List Zm→List Zm→Int
 | _,[]=>0
 | prev,u :: l=>if Zcp gs prev u=0 then YS gs (prev++[u]) l else Zcp gs prev u
def WL (us : List Zm) (gs : List Tx) : Int:=if Zbk us gs=0 then YS gs [] us else Zbk us gs
def Zrj (X : Zc) (sl : Value) (us : List Zm) : Prop:=∀ k,k≤us.length→∃ v,(∀ X',HLe X X'→slv 5 sl none (some (iv k)) none X'=some (v,X'))∧SlN 5 X v ((us.take k).map Zm.cells)
section
variable {X X' H H0 : Zc} {n p d b : Nat} {v sl gv : Value} {l gs : List Tx} {m : Tx} {u : Zm} {us : List Zm}
theorem Ziu : ∀ {us : List Zm} {a : Tx},Zfu (some a) us=Jk (a :: us.map (·.nm))
 | [],a=>rfl
 | u :: us,a=>by
  rw [Zfj,Ziu (us:=us),List.map_cons,ZaK]
  rfl
theorem Zqk : Zfu none us=Jk (us.map (·.nm)):=by
 cases us with
 | nil=>rfl
 | cons u us=>rw [Zfj,Ziu,List.map_cons];rfl
theorem ZbF : ∀ {l : List Tx},Jk l=true→l.Pairwise (· < ·)
 | [],_=>List.Pairwise.nil
 | [a],_=>by simp
 | a :: b :: l,h=>by
  rw [ZaK,Bool.and_eq_true,decide_eq_true_eq] at h
  have ih:=ZbF h.2
  refine List.Pairwise.cons (fun x hx=>?_) ih
  rcases List.mem_cons.1 hx with rfl | hx
  ·exact h.1
  ·exact List.lt_trans h.1 ((List.pairwise_cons.1 ih).1 x hx)
theorem ZhK : ∀ {us : List Zm},JD us=0→∀ u∈us,QR u=0
 | [],_,_,h=>by simp at h
 | w :: us,h,u,hu=>by
  unfold JD at h
  by_cases hw : QR w=0
  ·rw [if_pos hw] at h
   rcases List.mem_cons.1 hu with rfl | hu
   ·exact hw
   ·exact ZhK h u hu
  ·rw [if_neg hw] at h;exact absurd h hw
theorem ZjQ {k : Nat} (hl : l.length≤1000000) (hs : Sl X v (l.map strv)) : R (n+4) YT [v,iv k] X=some (iv (if Jk l then (if k < l.length then 7 else 0) else 9),X):=by
 have hlen : ZC v X=some (iv l.length,X):=by have:=hs.len (H':=X);simpa using this
 have lp : ∀ (t j : Nat),l.length - j=t→1≤j→(j≤l.length∨j=1)→Zk (c3 (Kw.l1 (R (n+3)))) [v,iv k,iv j] X=some (if Jk (l.drop (j - 1)) then .ext 0 [v,iv k] else .ret (iv 9),X):=by
  intro t
  induction t with
  | zero=>
   intro j ht hj hj2
   have hr : Jk (l.drop (j - 1))=true:=by
    have h1 : (l.drop (j - 1)).length≤1:=by rw [List.length_drop];omega
    match l.drop (j - 1),h1 with
    | [],_=>rfl
    | [a],_=>rfl
   rw [hr]
   refine ZI ?_
   rw [ZR]
   unfold Kw.l1
   rw [Za hlen,Za Zg,Zb,if_neg (by simp;omega)]
   rfl
  | succ t ih=>
   intro j ht hj hj2
   have hkl : j < l.length:=by omega
   have hlt : (j : Int) < l.length:=by omega
   have hk0 : j - 1 < l.length:=by omega
   have hg:=List.getElem?_eq_getElem hkl
   have hg0:=List.getElem?_eq_getElem hk0
   have hd:=List.drop_eq_getElem_cons hkl
   have hd0:=List.drop_eq_getElem_cons hk0
   rw [show j - 1+1=j by omega,hd] at hd0
   generalize l[j]=y at hg hd hd0
   generalize l[j - 1]=y0 at hg0 hd0
   have x1:=hs.ix (i:=j) (by simpa using hkl) .i64 X
   have x2:=hs.ldx (JF hg)
   have x3:=hs.ix (i:=j - 1) (by simpa using hk0) .i64 X
   have x4:=hs.ldx (JF hg0)
   have w0 : IntKind.i64.wrap ((j : Int) - 1)=((j - 1 : Nat) : Int):=by rw [w64 (by omega) (by omega)];omega
   have e1 : R (n+3) JB [strv y0,strv y] X=some (iv (Zbn y0 y),X):=ZsN (n:=n)
   have q1 : bop .int .geq (iv (Zbn y0 y)) (.int .i64 0) X=some (.bool (!decide (y0 < y)),X):=by rw [Qu,ZvX]
   rw [hd0,ZaK]
   by_cases hy : y0 < y
   ·rw [decide_eq_true hy] at q1 ⊢
    rw [Bool.true_and,← hd]
    have ih:=ih (j+1) (by omega) (by omega) (by omega)
    rw [Nat.add_sub_cancel] at ih
    refine (Zu ?_).trans ih
    rw [ZR]
    unfold Kw.l1
    rw [Za hlen,Za Zg,Zb,if_pos (by simpa using hlt),Za Qo,w0,Za x3,Za x4,Za x1,Za x2,Za e1,Za q1,Zb,if_neg (by simp),Za Zt,Qm (by omega)]
    rfl
   ·rw [decide_eq_false hy] at q1 ⊢
    refine Z8 ?_
    rw [ZR]
    unfold Kw.l1
    rw [Za hlen,Za Zg,Zb,if_pos (by simpa using hlt),Za Qo,w0,Za x3,Za x4,Za x1,Za x2,Za e1,Za q1,Zb,if_pos (by simp)]
    rfl
 have e1:=lp (l.length - 1) 1 rfl (Nat.le_refl _) (.inr rfl)
 rw [show iv ((1 : Nat) : Int)=.int .i64 1 from rfl,Nat.sub_self,List.drop_zero] at e1
 rw [R,Znq rfl]
 unfold Kw
 cases hr : Jk l
 ·rw [hr] at e1
  rw [QM e1];rfl
 ·rw [hr] at e1
  rw [ZS e1,Zv,ZW,Za hlen,Za ZK,Zb]
  by_cases h : k < l.length
  ·rw [if_pos (by simp;omega),if_pos h];rfl
  ·rw [if_neg (by simp;omega),if_neg h];rfl
theorem ZoM (hn : us.length≤1000) (hA : Q0 H0 sl us) : ∀ (t j : Nat) (nv : Value) (q : List Nat) (acc : List Tx) (X : Zc),us.length - j=t→j≤us.length→acc.length≤j→HLe H0 X→(∀ i∈q,H0.length≤i)→Zq X nv (acc.map strv) q→
  ∃ X' o,Zk (c5 (QL.l1 (R (n+10)))) [gv,nv,sl,iv us.length,iv j] X=some (o,X')∧HLe H0 X'∧(if JD (us.drop j)=0 then ∃ nv' q',o=.ext 0 [gv,nv']∧Zq X' nv' ((acc++(us.drop j).map (·.nm)).map strv) q' else o=.ret (iv (JD (us.drop j))))
 | 0,j,nv,q,acc,X,ht,hj,ha,hle,hq,hr=>by
  rw [List.drop_eq_nil_of_le (by omega)]
  refine ⟨X,.ext 0 [gv,nv],ZI ?_,hle,?_⟩
  ·rw [ZM,show j=us.length by omega]
   unfold QL.l1
   rw [Za Zg,Zb,if_neg (by simp)]
   rfl
  ·rw [if_pos (show JD []=0 from rfl)]
   exact ⟨nv,q,rfl,by simpa using hr⟩
 | t+1,j,nv,q,acc,X,ht,hj,ha,hle,hq,hr=>by
  have hjl : j < us.length:=by omega
  have hlt : (j : Int) < us.length:=by omega
  have hg:=List.getElem?_eq_getElem hjl
  have hd:=List.drop_eq_getElem_cons hjl
  generalize us[j]=u at hg hd
  have hok:=(hA.mono hle).ok (List.mem_of_getElem? hg)
  have hf:=fun {K : Value→M Out}=>ZcY (k:=K) (hA.mono hle).1 hok.2.1 hg
  have g1 : (X++[Zd.cells u.cells 1 false false])[X.length]?=some (.cells u.cells 1 false false):=Zx
  have k1 : HLe X (X++[Zd.cells u.cells 1 false false]):=.app _ _
  generalize X++[Zd.cells u.cells 1 false false]=X1 at g1 k1 hf
  generalize X.length=p at g1 hf
  have d1 : ldA 5 (pt p) X1=some (.agg u.cells.toArray,X1):=Z9 (n:=5) g1 rfl
  obtain ⟨X2,e2,k2⟩:=Zez (n:=n) (hok.hle k1)
  have k12:=k1.trans k2
  have le2:=hle.trans k12
  rw [hd]
  unfold JD
  by_cases he : QR u=0
  ·rw [he] at e2
   simp only [if_pos he]
   have q2 : bop .int .neq (iv 0) (.int .i64 0) X2=some (.bool false,X2):=by rw [Zp];rfl
   have l0 : ld1 (pa p 0) X2=some (strv u.nm,X2):=ZV (k2 _ _ g1) rfl
   have x4:=Zrp (es:=1) (z:=.string ⟨#[]⟩) (v:=strv u.nm) (H:=X2) rfl rfl rfl
   have k3 : HLe X2 (X2++[Zd.cells [strv u.nm] 1 false false]):=.app _ _
   have s3 : Sl (X2++[Zd.cells [strv u.nm] 1 false false]) (.slice (some ⟨X2.length,0,none⟩) 1 1) [strv u.nm]:=Sl.one (c:=1) Zx
   generalize X2++[Zd.cells [strv u.nm] 1 false false]=X3 at x4 k3 s3
   have hr3 : Zq X3 nv _ q:=hr.step (k12.trans k3).step (by simp)
   obtain ⟨nv',X4,q',x5,hr4,s4,_⟩:=hr3.push (b:=16) s3 (by simp;omega) (by simp;omega)
   have hm:=(le2.trans k3).more s4 hq
   have hr4' : Zq X4 nv' ((acc++[u.nm]).map strv) q':=by rw [List.map_append];exact hr4
   obtain ⟨X5,o5,e5,k5,h5⟩:=ZoM hn hA t (j+1) nv' q' (acc++[u.nm]) X4 (by omega) (by omega) (by simp;omega) hm.1 hm.2 hr4'
   refine ⟨X5,o5,(Zu ?_).trans e5,k5,by simpa using h5⟩
   rw [ZM]
   unfold QL.l1
   rw [Za Zg,Zb,if_pos (by simpa using hlt),hf,Za d1,Za e2,Za q2,Zb,if_neg (by simp),Za Zi,Za l0,Za x4,Za x5,Za Zt,Qm (by omega)]
   rfl
  ·simp only [if_neg he]
   have q2 : bop .int .neq (iv (QR u)) (.int .i64 0) X2=some (.bool true,X2):=by rw [Zp];simp [he]
   refine ⟨X2,_,Z8 (v:=iv (QR u)) ?_,le2,rfl⟩
   rw [ZM]
   unfold QL.l1
   rw [Za Zg,Zb,if_pos (by simpa using hlt),hf,Za d1,Za e2,Za q2,Zb,if_pos rfl]
   rfl
theorem ZoR (hl : l.length≤1000000) (hs : Sl X v (l.map strv)) : ∀ (t j : Nat),l.length - j=t→j≤l.length→
  Zk (c4 (QL.l2 (R (n+5)))) [v,v,iv l.length,iv j] X=some (if (l.drop j).all ZA then .ext 2 [v] else .ret (iv 10),X)
 | 0,j,ht,hj=>by
  rw [List.drop_eq_nil_of_le (by omega)]
  refine ZI ?_
  rw [ZB,show j=l.length by omega]
  unfold QL.l2
  rw [Za Zg,Zb,if_neg (by simp)]
  rfl
 | t+1,j,ht,hj=>by
  have hkl : j < l.length:=by omega
  have hlt : (j : Int) < l.length:=by omega
  have hg:=List.getElem?_eq_getElem hkl
  have hd:=List.drop_eq_getElem_cons hkl
  generalize l[j]=y at hg hd
  have x1:=hs.ix (i:=j) (by simpa using hkl) .i64 X
  have x2:=hs.ldx (JF hg)
  have e1 : R (n+5) JU [strv y] X=some (iv (Qc y),X):=Zeg
  rw [hd,List.all_cons]
  cases hn : ZA y
  ·have he : Qc y=10:=by unfold Qc;rw [hn];rfl
   rw [he] at e1
   refine Z8 ?_
   rw [ZB]
   unfold QL.l2
   rw [Za Zg,Zb,if_pos (by simpa using hlt),Za x1,Za x2,Za e1,Za Zp,Zb,if_pos (by simp)]
   rfl
  ·have he : Qc y=0:=ZeZ.2 hn
   rw [he] at e1
   rw [Bool.true_and]
   refine (Zu ?_).trans (ZoR hl hs t (j+1) (by omega) (by omega))
   rw [ZB]
   unfold QL.l2
   rw [Za Zg,Zb,if_pos (by simpa using hlt),Za x1,Za x2,Za e1,Za Zp,Zb,if_neg (by simp),Za Zt,Qm (by omega)]
   rfl
theorem ZpE (hn : us.length≤1000) (hl : gs.length≤1000000) (hA : Q0 X sl us) (hs : Sl X gv (gs.map strv)) : ∃ X',R (n+11) Za2 [sl,gv] X=some (iv (Zbk us gs),X')∧HLe X X':=by
 obtain ⟨X1,o,e1,k1,h1⟩:=ZoM (n:=n) (gv:=gv) hn hA us.length 0 (.slice none 0 0) [] [] X (by omega) (by omega) (by simp) (.refl _) (by simp) Zq.nil
 rw [List.drop_zero] at h1
 have e1 : Zk (c5 (QL.l1 (R (n+10)))) [gv,.slice none 0 0,sl,iv us.length,.int .i64 0] X=_:=e1
 have hlen : ZC sl X=some (iv us.length,X):=by have:=hA.1.len (H':=X);rwa [List.length_map] at this
 have f1 : ∀ r X',QL (R (n+10)) sl gv X=some (r,X')→R (n+11) Za2 [sl,gv] X=some (r,X'):=fun r X' hr=>by rw [R,ZmF rfl];exact hr
 refine ⟨X1,f1 _ _ ?_,k1⟩
 unfold QL Zbk Zet
 rw [Za hlen]
 by_cases hf : JD us=0
 ·rw [if_pos hf] at h1
  simp only [if_pos hf]
  obtain ⟨nv,q,rfl,hr⟩:=h1
  rw [List.nil_append] at hr
  have e2 : R (n+10) YT [nv,iv 12] X1=_:=ZjQ (n:=n+6) (k:=12) (l:=us.map (·.nm)) (by rw [List.length_map];omega) hr.rd
  have hs1:=hs.mono k1
  have hgl : ZC gv X1=some (iv gs.length,X1):=by have:=hs1.len (H':=X1);simpa using this
  have e3:=ZoR (n:=n+5) hl hs1 gs.length 0 (by omega) (by omega)
  rw [show iv ((0 : Nat) : Int)=.int .i64 0 from rfl,List.drop_zero] at e3
  have e4 : R (n+10) YT [gv,iv 6] X1=_:=ZjQ (n:=n+6) (k:=6) hl hs1
  rw [List.length_map] at e2
  rw [ZS e1,Zv,ZW]
  cases hr1 : Jk (us.map (·.nm))
  ·rw [hr1] at e2
   have e2 : R (n+10) YT [nv,iv 12] X1=some (iv 9,X1):=e2
   rw [Za e2,Za Zp,Zb,if_pos (by simp)]
   rfl
  ·rw [hr1] at e2
   simp only [if_true] at e2 ⊢
   by_cases h12 : 12 < us.length
   ·rw [if_pos h12] at e2 ⊢
    have e2 : R (n+10) YT [nv,iv 12] X1=some (iv 7,X1):=e2
    rw [Za e2,Za Zp,Zb,if_pos (by simp)]
    rfl
   ·rw [if_neg h12] at e2 ⊢
    have e2 : R (n+10) YT [nv,iv 12] X1=some (iv 0,X1):=e2
    rw [Za e2,Za Zp,Zb,if_neg (by simp),Za hgl,if_pos rfl]
    cases ha : gs.all ZA
    ·rw [ha] at e3
     rw [QM e3];rfl
    ·rw [ha] at e3
     rw [ZS e3,Zv,JY,Za e4]
     rfl
 ·rw [if_neg hf] at h1
  simp only [if_neg hf]
  subst h1
  rw [QM e1]
  rfl
theorem Zpa (hn : us.length≤1000) (hA : Q0 H0 sl us) : ∀ (t k : Nat) (X : Zc),us.length - k=t→k≤us.length→HLe H0 X→
  ∃ X',Zk (c5 (Jj.l1 (R (n+5)))) [sl,iv 2,sl,iv us.length,iv k] X=some (if JD (us.drop k)=0 then .ext 0 [sl] else .ret (iv (JD (us.drop k))),X')∧HLe H0 X'
 | 0,k,X,ht,hk,hle=>by
  rw [List.drop_eq_nil_of_le (by omega)]
  refine ⟨X,ZI ?_,hle⟩
  rw [ZM,show k=us.length by omega]
  unfold Jj.l1
  rw [Za Zg,Zb,if_neg (by simp)]
  rfl
 | t+1,k,X,ht,hk,hle=>by
  have hkl : k < us.length:=by omega
  have hlt : (k : Int) < us.length:=by omega
  have hg:=List.getElem?_eq_getElem hkl
  have hd:=List.drop_eq_getElem_cons hkl
  generalize us[k]=u at hg hd
  have hok:=(hA.mono hle).ok (List.mem_of_getElem? hg)
  have hf:=fun {K : Value→M Out}=>ZcY (k:=K) (hA.mono hle).1 hok.2.1 hg
  have g1 : (X++[Zd.cells u.cells 1 false false])[X.length]?=some (.cells u.cells 1 false false):=Zx
  have k1 : HLe X (X++[Zd.cells u.cells 1 false false]):=.app _ _
  generalize X++[Zd.cells u.cells 1 false false]=X1 at g1 k1 hf
  have d1 : ldA 5 (pt X.length) X1=some (.agg u.cells.toArray,X1):=Z9 (n:=5) g1 rfl
  obtain ⟨X2,e2,k2⟩:=Zjw (n:=n) (hok.hle k1)
  have hb : c5 (Jj.l1 (R (n+5))) [sl,iv 2,sl,iv us.length,iv k] X=some (if QR u=0 then .nrm [sl,iv 2,sl,iv us.length,iv ((k+1 : Nat) : Int)] else .ret (iv (QR u)),X2):=by
   rw [ZM]
   unfold Jj.l1
   rw [Za Zg,Zb,if_pos (by simpa using hlt),hf,Za d1,Za e2,Za Zp,Zb]
   by_cases h : QR u=0
   ·rw [if_neg (by simp [h]),if_pos h,Za Zt,Qm (by omega)];rfl
   ·rw [if_pos (by simp [h]),if_neg h];rfl
  rw [hd]
  unfold JD
  by_cases h : QR u=0
  ·rw [if_pos h] at hb
   simp only [if_pos h]
   obtain ⟨X3,e3,k3⟩:=Zpa hn hA t (k+1) X2 (by omega) (by omega) (hle.trans (k1.trans k2))
   exact ⟨X3,(Zu hb).trans e3,k3⟩
  ·rw [if_neg h] at hb
   simp only [if_neg h]
   exact ⟨X2,Z8 hb,hle.trans (k1.trans k2)⟩
theorem Q0.nmAt (hA : Q0 X sl us) {i : Nat} (hi : us[i]?=some u) : ∃ id o,ixa 5 sl (iv i) X=some (pa id o,X)∧ld1 (pa id (o+0)) X=some (strv u.nm,X):=by
 obtain ⟨id,o,cs,e,g,ro,e1,e2,e3,e4,_⟩:=hA.1.at (i:=i) (r:=u.cells) (by rw [List.getElem?_map,hi];rfl) (by omega) .i64
 refine ⟨id,o,e1 X,?_⟩
 rw [Qh,e2,Jf]
 have : cs[o+0]?=some (strv u.nm):=by
  have h0 : ((cs.drop o).take 5)[0]?=some (strv u.nm):=by rw [e3];rfl
  rw [List.getElem?_take,if_pos (by omega),List.getElem?_drop] at h0
  exact h0
 rw [this];rfl
theorem Zpz (hn : us.length≤1000) (hA : Q0 H0 sl us) : ∀ (t k : Nat) (X : Zc),us.length - k=t→k≤us.length→HLe H0 X→
  ∃ X',Zk (c4 (Jj.l2 (R n))) [sl,sl,iv us.length,iv k] X=some (if Zfu (ZeQ us k) (us.drop k) then .ext 2 [sl] else .ret (iv 9),X')∧HLe H0 X'
 | 0,k,X,ht,hk,hle=>by
  have : k=us.length:=by omega
  subst this
  rw [List.drop_length]
  refine ⟨X,ZI ?_,hle⟩
  rw [ZB]
  unfold Jj.l2
  rw [Za Zg,Zb,if_neg (by simp)]
  rfl
 | t+1,k,X,ht,hk,hle=>by
  have hkl : k < us.length:=by omega
  have hlt : (k : Int) < us.length:=by omega
  have hg:=List.getElem?_eq_getElem hkl
  have hd:=List.drop_eq_getElem_cons hkl
  generalize us[k]=u at hg hd
  have hok:=(hA.mono hle).ok (List.mem_of_getElem? hg)
  have hf:=fun {K : Value→M Out}=>ZcY (k:=K) (hA.mono hle).1 hok.2.1 hg
  have g1 : (X++[Zd.cells u.cells 1 false false])[X.length]?=some (.cells u.cells 1 false false):=Zx
  have k1 : HLe X (X++[Zd.cells u.cells 1 false false]):=.app _ _
  generalize X++[Zd.cells u.cells 1 false false]=X1 at g1 k1 hf
  generalize X.length=p at g1 hf
  have a0 : ∀ f x,u.cells[f]?=some x→ld1 (pa p f) X1=some (x,X1):=fun f x h=>ZV g1 h
  have hA1:=(hA.mono hle).mono k1
  have hcmp : ∀ K : Value→M Out,
    bind (bop .int .gtr (iv k) (Value.int .i64 0)) (fun v31x17=>bind (ZF v31x17 true (ret sl)) fun v33x18=>bind (ZF v31x17 true (ret (iv k))) fun v34x19=>bind (ZF v31x17 true (bop .int .sub v34x19 (Value.int .i64 1))) fun v35x20=>bind (ZF v31x17 true (ixa 5 v33x18 v35x20)) fun v36x21=>bind (ZF v31x17 true (fa 0 v36x21)) fun v37x22=>bind (ZF v31x17 true (ld1 v37x22)) fun v38x23=>bind (ZF v31x17 true (fa 0 (pt p))) fun v39x24=>bind (ZF v31x17 true (ld1 v39x24)) fun v40x25=>bind (ZF v31x17 true (bop .str .geq v38x23 v40x25)) fun v41x26=>bind (pick v31x17 v41x26 (Value.bool false)) K) X1=K (.bool (!upB (ZeQ us k) u)) X1:=fun K=>by
   by_cases h0 : k=0
   ·subst h0
    have q1 : bop .int .gtr (iv (0 : Nat)) (Value.int .i64 0) X1=some (.bool false,X1):=by rw [ZK];rfl
    rw [Za q1]
    iterate 9 rw [ZtV (by rfl)]
    rw [Za Zh]
    rfl
   ·have q1 : bop .int .gtr (iv k) (Value.int .i64 0) X1=some (.bool true,X1):=by rw [ZK,decide_eq_true (by omega)]
    obtain ⟨v,hv⟩ : ∃ v,us[k - 1]?=some v:=⟨_,List.getElem?_eq_getElem (by omega)⟩
    obtain ⟨id,o,x1,x2⟩:=hA1.nmAt hv
    have hp : upB (ZeQ us k) u=decide (v.nm < u.nm):=by unfold ZeQ upB;rw [if_neg h0,hv];rfl
    rw [Za q1,QA,ZO,QA,ZO,QA,Za Qo,ZnT (by omega) (by omega),QA,Za x1,QA,Za Yo,QA,Za x2,QA,Za Zi,QA,Za (a0 0 _ rfl),QA,Za ZrE,Za Zh,hp]
    rfl
  rw [hd,Zfj]
  cases hup : upB (ZeQ us k) u
  ·rw [hup] at hcmp
   refine ⟨X1,Z8 ?_,hle.trans k1⟩
   rw [ZB]
   unfold Jj.l2
   rw [Za Zg,Zb,if_pos (by simpa using hlt),hf]
   refine (hcmp _).trans ?_
   rw [Zb,if_pos (by rfl)]
   rfl
  ·rw [hup] at hcmp
   obtain ⟨X3,e3,k3⟩:=Zpz hn hA t (k+1) X1 (by omega) (by omega) (hle.trans k1)
   rw [Zrg hg] at e3
   refine ⟨X3,(Zu ?_).trans e3,k3⟩
   rw [ZB]
   unfold Jj.l2
   rw [Za Zg,Zb,if_pos (by simpa using hlt),hf]
   refine (hcmp _).trans ?_
   rw [Zb,if_neg (by simp),Za Zt,Qm (by omega)]
   rfl
theorem Zul (hn : us.length≤1000) (hA : Q0 X sl us) : ∃ X',R (n+6) Zdh [sl,iv 2] X=some (iv (Zet us),X')∧HLe X X':=by
 obtain ⟨X1,e1,k1⟩:=Zpa (n:=n) hn hA us.length 0 X (by omega) (by omega) (.refl _)
 rw [List.drop_zero] at e1
 have e1 : Zk (c5 (Jj.l1 (R (n+5)))) [sl,iv 2,sl,iv us.length,.int .i64 0] X=_:=e1
 have f1 : ∀ r X',Jj (R (n+5)) sl (iv 2) X=some (r,X')→R (n+6) Zdh [sl,iv 2] X=some (r,X'):=fun r X' hr=>by rw [R,ZpG rfl];exact hr
 have hlen : ∀ Y,ZC sl Y=some (iv us.length,Y):=fun Y=>by have:=hA.1.len (H':=Y);rwa [List.length_map] at this
 unfold Zet
 by_cases h1 : JD us=0
 ·rw [if_pos h1] at e1
  rw [if_pos h1]
  obtain ⟨X2,e2,k2⟩:=Zpz (n:=n+5) hn (hA.mono k1) us.length 0 X1 (by omega) (by omega) (.refl _)
  rw [List.drop_zero,ZrW,Zqk] at e2
  have e2 : Zk (c4 (Jj.l2 (R (n+5)))) [sl,sl,iv us.length,.int .i64 0] X1=_:=e2
  refine ⟨X2,f1 _ _ ?_,k1.trans k2⟩
  unfold Jj
  rw [Za (hlen _),ZS e1,Zv,JY,Za (hlen _)]
  cases h2 : Jk (us.map (·.nm))
  ·rw [h2] at e2
   rw [QM e2];rfl
  ·rw [h2] at e2
   rw [ZS e2,Zv,JY,Za (hlen _),Za ZK,Zb]
   by_cases h3 : 12 < us.length
   ·rw [if_pos (by simp;omega),if_pos rfl,if_pos h3];rfl
   ·rw [if_neg (by simp;omega),if_pos rfl,if_neg h3];rfl
 ·rw [if_neg h1] at e1
  rw [if_neg h1]
  refine ⟨X1,f1 _ _ ?_,k1⟩
  unfold Jj
  rw [Za (hlen _),QM e1]
  rfl
end
end Go.Proofs.YtedkoimihknggaaGreatDoor.A

namespace Go.Proofs.YtedkoimihknggaaGreatDoor.A
set_option linter.unusedVariables false
set_option linter.unusedSimpArgs false
open Go.Proofs Go.Proofs.YtedkoimihknggaaGreatDoor
structure Zcj where
 kd : Nat
 a : Tx
 b : Tx
 is : Bool
abbrev Zcj.cells (a : Zcj) : List Value:=[.int .u8 a.kd,strv a.a,strv a.b,.bool a.is]
abbrev zNA : Value:=.agg #[.int .u8 0,.string ⟨#[]⟩,.string ⟨#[]⟩,.bool false]
def Zgu (H : Zc) (sl : Value) (ac : List Zcj) : Prop:=SlN 4 H sl (ac.map Zcj.cells)∧∀ a∈ac,a.kd≤255
section
variable {H H' X X' : Zc} {sl : Value} {ac : List Zcj} {n d c : Nat} {s : NSt} {r : NR} {m : Tx}
theorem Zgu.len (h : Zgu H sl ac) : ZC sl H'=some (iv ac.length,H'):=by
 have:=h.1.len (H':=H')
 rwa [List.length_map] at this
theorem Zgu.mono (h : Zgu H sl ac) (hl : HLe H H') : Zgu H' sl ac:=⟨h.1.mono hl,h.2⟩
theorem Zgu.fetch {β : Type} {k : Value→M β} (h : Zgu H sl ac) {j : Nat} {a : Zcj} (hj : ac[j]?=some a) :
  bind (ixa 4 sl (iv j)) (fun p=>bind (ldA 4 p) fun v=>bind (alc 1 zNA) fun q=>bind (stA 4 q v) fun _=>k q) H=k (pt H.length) (H++[.cells a.cells 1 false false]):=by
 have hr : (ac.map Zcj.cells)[j]?=some a.cells:=by rw [List.getElem?_map,hj];rfl
 rw [h.1.fetch hr (by omega) .i64]
 exact Zcl (n:=4) (zs:=[.int .u8 0,.string ⟨#[]⟩,.string ⟨#[]⟩,.bool false]) (r:=a.cells) rfl rfl rfl rfl
end
end Go.Proofs.YtedkoimihknggaaGreatDoor.A
namespace Go.Proofs.YtedkoimihknggaaGreatDoor.A
set_option linter.unusedVariables false
set_option linter.unusedSimpArgs false
open Go.Proofs Go.Proofs.YtedkoimihknggaaGreatDoor
section
variable {X X' Y Y1 Y2 Y3 H0 : Zc} {n d c c' b1 b2 b3 : Nat} {r r' : NR} {uv gv uv' gv' v : Value} {s s' : NSt} {u : Zcj} {e : Int}
theorem RD.setB {b : Nat} {c1 c2 d1 d2 : Value} (h : RD Y uv gv s) (hb : Y[b]?=some (.cells [c1,c2] 1 false false)) (i1 : ZeG c1) (i2 : ZeG c2) : RD (Y.set b (.cells [d1,d2] 1 false false)) uv gv s:=
 ⟨h.ex.imp fun us ⟨a,b⟩=>⟨a.setD hb i1 i2,b⟩,h.n.imp fun q ⟨N,a,b⟩=>⟨N,a.setD hb i1 i2,b⟩⟩
theorem ND.more (hd : ND X d r s c) (h : c≤c') : ND X d r s c':=⟨hd.toND0.more h,hd.inv⟩
end
end Go.Proofs.YtedkoimihknggaaGreatDoor.A
namespace Go.Proofs.YtedkoimihknggaaGreatDoor.A
set_option linter.unusedVariables false
set_option linter.unusedSimpArgs false
open Go.Proofs Go.Proofs.YtedkoimihknggaaGreatDoor
section
variable {X X' Y Y1 Y2 Y3 H H0 : Zc} {n d c c' b1 b2 b3 w : Nat} {r r' : NR} {uv gv uv' gv' v sl : Value} {s s' : NSt} {u : Zcj} {e : Int} {ac : List Zcj}
theorem ZpB {a c : Value} {l : List (List UInt8)} (hu : l.length≤1000) (ha : Sl X a (l.map strv)) (hc : Sl X c (l.map strv)) : ∀ (t j : Nat),l.length - j=t→j≤l.length→
  Zk (c4 (JR.l1 (R n))) [a,c,iv l.length,iv j] X=some (.ext 0 [],X)
 | 0,j,ht,hj=>by
  have : j=l.length:=by omega
  subst this
  refine ZI ?_
  rw [ZB]
  unfold JR.l1
  rw [Za Zg,Zb,if_neg (by simp)]
  rfl
 | t+1,j,ht,hj=>by
  have hjl : j < l.length:=by omega
  have hlt : (j : Int) < l.length:=by omega
  have hg:=List.getElem?_eq_getElem hjl
  generalize l[j]=x at hg
  have x1:=ha.ix (i:=j) (by simpa using hjl) .i64 X
  have x2:=ha.ldx (JF hg)
  have x3:=hc.ix (i:=j) (by simpa using hjl) .i64 X
  have x4:=hc.ldx (JF hg)
  have q0 : bop .str .neq (strv x) (strv x) X=some (.bool false,X):=by rw [ZbC];simp
  refine (Zu ?_).trans (ZpB hu ha hc t (j+1) (by omega) (by omega))
  rw [ZB]
  unfold JR.l1
  rw [Za Zg,Zb,if_pos (by simpa using hlt),Za x1,Za x2,Za x3,Za x4,Za q0,Zb,if_neg (by simp),Za Zt,Qm (by omega)]
  rfl
theorem Zqd {a c : Value} {l : List (List UInt8)} (hu : l.length≤1000) (ha : Sl X a (l.map strv)) (hc : Sl X c (l.map strv)) : R (n+1) K8 [a,c] X=some (.bool true,X):=by
 have e:=ZpB (n:=n) hu ha hc l.length 0 (by omega) (by omega)
 have e : Zk (c4 (JR.l1 (R n))) [a,c,iv l.length,.int .i64 0] X=_:=e
 have h1:=ha.len (H':=X)
 have h2:=hc.len (H':=X)
 rw [List.length_map] at h1 h2
 rw [R,Zie rfl]
 unfold JR
 rw [Za h1,Za h2,Za Zp,Zb,if_neg (by simp),Za h1,ZS e,Zv]
 rfl
theorem Zuj {us : List Zm} {N : List Tx} (hd : ND X d r s c) (U : Q0 X uv us) (O : ROK s us) (hN : Sl X gv (N.map strv)) (iN : Is N (·∈s.K)) (o1 : oneCell uv=true) (o2 : oneCell gv=true) : ∃ X',R (n+9) Zbr [pt d,.agg #[uv,gv]] X=some (.bool true,X')∧HLe X X':=by
 have z1 : alc 1 (.agg #[uv,gv]) X=some (pt X.length,X++[.cells [uv,gv] 1 false false]):=Zc8 (vs:=[uv,gv]) (by simp only [List.all_cons,o1,o2];rfl)
 have k1 : HLe X (X++[Zd.cells [uv,gv] 1 false false]):=.app _ _
 have c1 : (X++[Zd.cells [uv,gv] 1 false false])[X.length]?=some (.cells [uv,gv] 1 false false):=Zx
 generalize X++[Zd.cells [uv,gv] 1 false false]=X1 at z1 k1 c1
 have U1:=U.mono k1
 have hd1:=hd.hle k1
 have a0 : ∀ Y,HLe X1 Y→ld1 (pa X.length 0) Y=some (uv,Y):=fun Y hl=>ZV (hl _ _ c1) rfl
 have a1 : ∀ Y,HLe X1 Y→ld1 (pa X.length 1) Y=some (gv,Y):=fun Y hl=>ZV (hl _ _ c1) rfl
 have hlen : ZC uv X1=some (iv us.length,X1):=by have:=U1.1.len (H':=X1);rwa [List.length_map] at this
 have e1 : R (n+8) KK [pt d] X1=some (iv s.A.length,X1):=ZsH (n:=n+7) hd1
 have hl:=O.len hd.m.nod
 have hfew:=hd.inv.few
 have q1 : bop .int .eql (iv s.A.length) (iv us.length) X1=some (.bool true,X1):=by rw [ZJ,hl];simp
 obtain ⟨v,q2,us2,X2,e2,w2,k2,l2⟩:=ZsT (n:=n) hd1
 have hu2 : us2.length≤1000000:=by
  have h1 : us2.map ZG=us.map ZG:=k2.trans (O.all hd.m.nod).symm
  have h2:=congrArg List.length h1
  rw [List.length_map,List.length_map] at h2
  omega
 obtain ⟨X3,e3,l3⟩:=Zth (n:=n+6) hu2 (by omega) w2.us (U1.mono l2)
 rw [decide_eq_true (k2.trans (O.all hd.m.nod).symm)] at e3
 have e3 : R (n+8) Kn [v,uv] X2=_:=e3
 have k13:=l2.trans l3
 obtain ⟨v4,q4,X4,e4,r4,l4,o4⟩:=Znc (n:=n+4) (hd1.hle k13)
 have e4 : R (n+8) YH [pt d] X3=_:=e4
 have hasc:=hd.gr.keysAsc
 rw [hd.ks] at hasc
 have hNk : N=Qk s.K:=iN.uniq ⟨hasc,fun x=>Wu⟩ fun _=>Iff.rfl
 have hN4:=hN.mono ((k1.trans k13).trans l4)
 rw [hNk] at hN4
 have hk6 : (Qk s.K).length≤1000:=by rw [W5];have:=hd.toND0.kn.few;omega
 have e5 : R (n+8) K8 [v4,gv] X4=_:=Zqd (n:=n+7) hk6 r4.rd hN4
 refine ⟨X4,?_,(k1.trans k13).trans l4⟩
 rw [R,Znm rfl]
 unfold Zfd
 rw [Za z1,Za Zi,Za (a0 _ (.refl _)),Za hlen,Za e1,Za (a0 _ (.refl _)),Qz,Za q1,QA,ZO,QA,Za Zi,QA,Za (a0 _ (.refl _)),QA,Za e2,QA,Za (a0 _ l2),Qz,QA,Za e3,Za Zh]
 simp only [cond_true]
 rw [QA,ZO,QA,Za Zi,QA,Za (a1 _ k13),QA,Za e4,QA,Za (a1 _ (k13.trans l4)),Qz,QA,Za e5,Za Zh]
 rfl
structure NL (H X : Zc) (d : Nat) (r : NR) (s : NSt) (uv gv : Value) (w c : Nat) : Prop where
 le : HLe H X
 nd : ND X d r s c
 rd : RD X uv gv s
 own : ∀ i∈r.own,H.length≤i
 w : X[w]?=some (.cells [uv,gv] 1 false false)
theorem NL.hle (h : NL H X d r s uv gv w c) (hl : HLe X X') : NL H X' d r s uv gv w c:=⟨h.le.trans hl,h.nd.hle hl,h.rd.hle hl,h.own,hl _ _ h.w⟩
end
end Go.Proofs.YtedkoimihknggaaGreatDoor.A

namespace Go.Proofs.YtedkoimihknggaaGreatDoor.A
set_option linter.unusedVariables false
set_option linter.unusedSimpArgs false
open Go.Proofs Go.Proofs.YtedkoimihknggaaGreatDoor
section
variable {H : Zc} {n : Nat} {s : List UInt8}
end
end Go.Proofs.YtedkoimihknggaaGreatDoor.A

namespace Go.Proofs.YtedkoimihknggaaGreatDoor.A
set_option linter.unusedVariables false
set_option linter.unusedSimpArgs false
open Go.Proofs Go.Proofs.YtedkoimihknggaaGreatDoor
section
variable {X X' Y H H0 : Zc} {n d c w : Nat} {r : NR} {uv gv sl wv : Value} {s : NSt} {us ws : List Zm} {k m g pre : Tx} {q0 : List Nat}
theorem Zsw (hO : ROK s us) (hP : ZjX s) (hm : KP m=true) : (us.find? fun u=>u.ml==Qt m).map (·.nm)=Zj (Qt m) s.OW:=by
 have hat : ∀ u∈us,u.ml=Qt m↔Zj (Qt m) s.OW=some u.nm:=fun u hu=>by
  have h1:=hO.at hu
  unfold Yl at h1
  cases ha : Zj u.nm s.A with
  | none=>rw [ha] at h1;cases h1
  | some p=>
   rw [ha] at h1
   have h2 : WN s u.nm p=ZG u:=Option.some.inj h1
   have h3 : (Zj u.nm s.OF).getD []=u.ml:=congrArg (·.2.2.1) h2
   rw [← hP.x.inv,← h3]
   cases ho : Zj u.nm s.OF with
   | none=>exact ⟨fun h=>absurd h.symm (ZfD hm).1,fun h=>by cases h⟩
   | some v=>exact ⟨fun h=>by rw [← h];rfl,fun h=>by cases h;rfl⟩
 cases hf : us.find? fun u=>u.ml==Qt m with
 | some u=>
  have h1:=List.find?_some hf
  have h2:=List.mem_of_find?_eq_some hf
  exact ((hat u h2).1 (by simpa using h1)).symm
 | none=>
  rw [List.find?_eq_none] at hf
  cases hw : Zj (Qt m) s.OW with
  | none=>rfl
  | some x=>
   have h1:=(hP.x.inv _ _).2 hw
   have h2:=hP.i.ofA x (by rw [h1];rfl)
   obtain ⟨p,hp⟩:=Option.isSome_iff_exists.1 h2
   have h3 : Yl s x=some (WN s x p):=by unfold Yl;rw [hp];rfl
   obtain ⟨u,hu,hk⟩:=WD.1 ((hO.look (WN s x p)).2 h3)
   have hn : u.nm=x:=congrArg (·.1) hk
   have:=(hat u hu).2 (by rw [hn];exact hw)
   exact absurd (by simpa using this) (hf u hu)
end
end Go.Proofs.YtedkoimihknggaaGreatDoor.A

namespace Go.Proofs.YtedkoimihknggaaGreatDoor.A
set_option linter.unusedVariables false
set_option linter.unusedSimpArgs false
open Go.Proofs Go.Proofs.YtedkoimihknggaaGreatDoor
def KJ (ps : List Tx) (k : Tx) (mem : Mem) : Mem:=fun g n=>mem g n || (decide (g∈ps) && n==k)
section
variable {X X' X0 H H0 : Zc} {n p d b c i : Nat} {r : NR} {s : NSt} {v sl gv ugv zl : Value} {l gs : List Tx} {m k g : Tx} {u : Zm} {us prev : List Zm}
theorem ZuR (hl : gs.length≤1000000) (hs : Sl X gv (gs.map strv)) : ∀ (t j : Nat),gs.length - j=t→j≤gs.length→
  Zk (c5 (ZH.l1 (R (n+3)))) [sl,gv,gv,iv gs.length,iv j] X=some (if (gs.drop j).all ZA then .ext 0 [sl,gv] else .ret (iv 10),X)
 | 0,j,ht,hj=>by
  rw [List.drop_eq_nil_of_le (by omega)]
  refine ZI ?_
  rw [ZM,show j=gs.length by omega]
  unfold ZH.l1
  rw [Za Zg,Zb,if_neg (by simp)]
  rfl
 | t+1,j,ht,hj=>by
  have hkl : j < gs.length:=by omega
  have hlt : (j : Int) < gs.length:=by omega
  have hg:=List.getElem?_eq_getElem hkl
  have hd:=List.drop_eq_getElem_cons hkl
  generalize gs[j]=y at hg hd
  have x1:=hs.ix (i:=j) (by simpa using hkl) .i64 X
  have x2:=hs.ldx (JF hg)
  have e1 : R (n+3) YA [strv y] X=some (.bool (ZA y),X):=Zd8
  rw [hd,List.all_cons]
  cases hn : ZA y
  ·rw [hn] at e1
   refine Z8 ?_
   rw [ZM]
   unfold ZH.l1
   rw [Za Zg,Zb,if_pos (by simpa using hlt),Za x1,Za x2,Za e1,Za ZN,Zb,if_pos (by rfl)]
   rfl
  ·rw [hn] at e1
   rw [Bool.true_and]
   refine (Zu ?_).trans (ZuR hl hs t (j+1) (by omega) (by omega))
   rw [ZM]
   unfold ZH.l1
   rw [Za Zg,Zb,if_pos (by simpa using hlt),Za x1,Za x2,Za e1,Za ZN,Zb,if_neg (by simp),Za Zt,Qm (by omega)]
   rfl
theorem Zqj {j : Nat} (h : l.length - j=0) : Jr l j=true:=by
 unfold Jr
 by_cases h0 : j=0
 ·rw [if_pos h0]
  have : l=[]:=List.eq_nil_of_length_eq_zero (by omega)
  rw [this];rfl
 ·rw [if_neg h0]
  have h1 : (l.drop (j - 1)).length≤1:=by rw [List.length_drop];omega
  match l.drop (j - 1),h1 with
  | [],_=>rfl
  | [a],_=>rfl
theorem ZuO (hl : gs.length≤1000000) (hs : Sl X gv (gs.map strv)) : ∀ (t j : Nat),gs.length - j=t→j≤gs.length→
  Zk (c5 (ZH.l2 (R n))) [sl,gv,gv,iv gs.length,iv j] X=some (if Jr gs j then .ext 2 [sl,gv] else .ret (iv 9),X)
 | 0,j,ht,hj=>by
  rw [Zqj ht]
  refine ZI ?_
  rw [ZM,show j=gs.length by omega]
  unfold ZH.l2
  rw [Za Zg,Zb,if_neg (by simp)]
  rfl
 | t+1,j,ht,hj=>by
  have hkl : j < gs.length:=by omega
  have hlt : (j : Int) < gs.length:=by omega
  have hg:=List.getElem?_eq_getElem hkl
  have hd:=List.drop_eq_getElem_cons hkl
  have x1:=hs.ix (i:=j) (by simpa using hkl) .i64 X
  have x2:=hs.ldx (JF hg)
  have ih:=ZuO hl hs t (j+1) (by omega) (by omega)
  by_cases h0 : j=0
  ·subst h0
   have q0 : bop .int .gtr (iv ((0 : Nat) : Int)) (.int .i64 0) X=some (.bool false,X):=by rw [ZK];rfl
   have hr : Jr gs 0=Jr gs (0+1):=by unfold Jr;simp
   rw [hr]
   refine (Zu ?_).trans ih
   rw [ZM]
   unfold ZH.l2
   rw [Za Zg,Zb,if_pos (by simpa using hlt),Za x1,Za x2,Za q0,Za (g_r.trans (if_neg (by simp)))]
   simp only [List.replicate]
   rw [JH,Za Zh]
   simp only [cond_false]
   rw [Zb,if_neg (by simp),Za Zt,Qm (by omega)]
   rfl
  ·have hk0 : j - 1 < gs.length:=by omega
   have hg0:=List.getElem?_eq_getElem hk0
   have hd0:=List.drop_eq_getElem_cons hk0
   rw [show j - 1+1=j by omega,hd] at hd0
   have hr1 : Jr gs (j+1)=Jk (gs.drop j):=by unfold Jr;simp
   have hr0 : Jr gs j=Jk (gs.drop (j - 1)):=by unfold Jr;rw [if_neg h0]
   rw [hr1,hd] at ih
   rw [hr0,hd0,ZaK]
   generalize gs[j]=y at x1 x2 hg hd hd0 ih
   generalize gs[j - 1]=y0 at hg0 hd0
   have x3:=hs.ix (i:=j - 1) (by simpa using hk0) .i64 X
   have x4:=hs.ldx (JF hg0)
   have w0 : IntKind.i64.wrap ((j : Int) - 1)=((j - 1 : Nat) : Int):=by rw [w64 (by omega) (by omega)];omega
   have q0 : bop .int .gtr (iv j) (.int .i64 0) X=some (.bool true,X):=by rw [ZK,decide_eq_true (by omega)]
   have q1 : bop .str .geq (strv y0) (strv y) X=some (.bool (!decide (y0 < y)),X):=ZrE
   by_cases hy : y0 < y
   ·rw [decide_eq_true hy] at q1 ⊢
    rw [Bool.true_and]
    refine (Zu ?_).trans ih
    rw [ZM]
    unfold ZH.l2
    rw [Za Zg,Zb,if_pos (by simpa using hlt),Za x1,Za x2,Za q0,ZL,Zf,Za Qo,w0,Zf,Za x3,Zf,Za x4,Zf,Za q1,ZO,JH,Za Zh]
    simp only [cond_true,Bool.not_true]
    rw [Zb,if_neg (by simp),Za Zt,Qm (by omega)]
    rfl
   ·rw [decide_eq_false hy] at q1 ⊢
    refine Z8 ?_
    rw [ZM]
    unfold ZH.l2
    rw [Za Zg,Zb,if_pos (by simpa using hlt),Za x1,Za x2,Za q0,ZL,Zf,Za Qo,w0,Zf,Za x3,Zf,Za x4,Zf,Za q1,ZO,JH,Za Zh]
    simp only [cond_true,Bool.not_false]
    rw [Zb,if_pos rfl]
    rfl
theorem ZuJ {z1 z2 z3 z4 z5 : Value} (hgl : gs.length≤1000000) (hs : Sl X gv (gs.map strv)) (hl : l.length≤1000000) (hu : Sl X ugv (l.map strv)) : ∀ (t j : Nat),l.length - j=t→j≤l.length→
  Zk (c10 (ZH.l4 (R (n+1)))) [sl,gv,z1,z2,z3,z4,z5,ugv,iv l.length,iv j] X=some (if (l.drop j).all (fun g=>decide (g∈gs)) then .ext 6 [sl,gv,z1,z2,z3,z4,z5] else .ret (iv 8),X)
 | 0,j,ht,hj=>by
  rw [List.drop_eq_nil_of_le (by omega)]
  refine ZI ?_
  rw [JX,show j=l.length by omega]
  unfold ZH.l4
  rw [Za Zg,Zb,if_neg (by simp)]
  rfl
 | t+1,j,ht,hj=>by
  have hkl : j < l.length:=by omega
  have hlt : (j : Int) < l.length:=by omega
  have hg:=List.getElem?_eq_getElem hkl
  have hd:=List.drop_eq_getElem_cons hkl
  generalize l[j]=y at hg hd
  have x1:=hu.ix (i:=j) (by simpa using hkl) .i64 X
  have x2:=hu.ldx (JF hg)
  have e1:=ZvY (n:=n) (x:=y) hgl hs
  rw [hd,List.all_cons]
  by_cases hy : y∈gs
  ·rw [decide_eq_true hy] at e1 ⊢
   rw [Bool.true_and]
   refine (Zu ?_).trans (ZuJ hgl hs hl hu t (j+1) (by omega) (by omega))
   rw [JX]
   unfold ZH.l4
   rw [Za Zg,Zb,if_pos (by simpa using hlt),Za x1,Za x2,Za e1,Za ZN,Zb,if_neg (by simp),Za Zt,Qm (by omega)]
   rfl
  ·rw [decide_eq_false hy] at e1 ⊢
   refine Z8 ?_
   rw [JX]
   unfold ZH.l4
   rw [Za Zg,Zb,if_pos (by simpa using hlt),Za x1,Za x2,Za e1,Za ZN,Zb,if_pos (by rfl)]
   rfl
theorem ZuU {z3 z4 z5 : Value} (hn : prev.length≤1000) (hA : SlN 5 H0 v (prev.map Zm.cells)) (ho : ∀ w∈prev,oneCell w.gv=true) (hb : H0[b]?=some (.cells u.cells 1 false false)) : ∀ (t j : Nat) (X : Zc),prev.length - j=t→j≤prev.length→HLe H0 X→
  ∃ X',Zk (c9 (ZH.l5 (R n))) [sl,gv,pt b,z3,z4,z5,v,iv prev.length,iv j] X=some (if u.ml≠[]∧(prev.drop j).any (fun w=>u.ml==w.ml)=true then .ret (iv 9) else .ext 8 [sl,gv,z3,z4,z5],X')∧HLe H0 X'
 | 0,j,X,ht,hj,hle=>by
  rw [List.drop_eq_nil_of_le (by omega),if_neg (by simp)]
  refine ⟨X,ZI ?_,hle⟩
  rw [Yy,show j=prev.length by omega]
  unfold ZH.l5
  rw [Za Zg,Zb,if_neg (by simp)]
  rfl
 | t+1,j,X,ht,hj,hle=>by
  have hjl : j < prev.length:=by omega
  have hlt : (j : Int) < prev.length:=by omega
  have hg:=List.getElem?_eq_getElem hjl
  have hd:=List.drop_eq_getElem_cons hjl
  generalize prev[j]=w at hg hd
  have hf:=fun {K : Value→M Out}=>ZcY (k:=K) (hA.mono hle) (ho w (List.mem_of_getElem? hg)) hg
  have g1 : (X++[Zd.cells w.cells 1 false false])[X.length]?=some (.cells w.cells 1 false false):=Zx
  have k1 : HLe X (X++[Zd.cells w.cells 1 false false]):=.app _ _
  generalize X++[Zd.cells w.cells 1 false false]=X1 at g1 k1 hf
  generalize X.length=p at g1 hf
  have le1:=hle.trans k1
  have a2 : ld1 (pa b 2) X1=some (strv u.ml,X1):=ZV (le1 _ _ hb) rfl
  have b2 : ld1 (pa p 2) X1=some (strv w.ml,X1):=ZV g1 rfl
  have q1 : bop .str .neq (strv u.ml) (.string ⟨#[]⟩) X1=some (.bool (!(u.ml==[])),X1):=ZbC (b:=[])
  have q2 : bop .str .eql (strv u.ml) (strv w.ml) X1=some (.bool (u.ml==w.ml),X1):=Zda
  obtain ⟨X2,e2,k2⟩:=ZuU hn hA ho hb t (j+1) X1 (by omega) (by omega) le1
  rw [hd,List.any_cons]
  by_cases hm : u.ml=[]
  ·have hmb : (u.ml==[])=true:=by simpa using hm
   rw [if_neg (fun h=>h.1 hm)] at e2 ⊢
   rw [hmb] at q1
   refine ⟨X2,(Zu ?_).trans e2,k2⟩
   rw [Yy]
   unfold ZH.l5
   rw [Za Zg,Zb,if_pos (by simpa using hlt),hf,Za Zi,Za a2,Za q1,Za (g_r.trans (if_neg (by simp)))]
   simp only [List.replicate]
   rw [ZM,Za Zh]
   simp only [cond_false,Bool.not_true]
   rw [Zb,if_neg (by simp),Za Zt,Qm (by omega)]
   rfl
  ·have hmb : (u.ml==[])=false:=by simpa using hm
   rw [hmb] at q1
   cases hw : u.ml==w.ml
   ·rw [hw] at q2
    rw [Bool.false_or]
    refine ⟨X2,(Zu ?_).trans e2,k2⟩
    rw [Yy]
    unfold ZH.l5
    rw [Za Zg,Zb,if_pos (by simpa using hlt),hf,Za Zi,Za a2,Za q1]
    simp only [Bool.not_false]
    rw [ZL,Zf,Za Zi,Zf,Za a2,Zf,Za Zi,Zf,Za b2,Zf,Za q2,ZO,ZM,Za Zh]
    simp only [cond_true]
    rw [Zb,if_neg (by simp),Za Zt,Qm (by omega)]
    rfl
   ·rw [hw] at q2
    rw [Bool.true_or,if_pos ⟨hm,rfl⟩]
    refine ⟨X1,Z8 ?_,le1⟩
    rw [Yy]
    unfold ZH.l5
    rw [Za Zg,Zb,if_pos (by simpa using hlt),hf,Za Zi,Za a2,Za q1]
    simp only [Bool.not_false]
    rw [ZL,Zf,Za Zi,Zf,Za a2,Zf,Za Zi,Zf,Za b2,Zf,Za q2,ZO,ZM,Za Zh]
    simp only [cond_true]
    rw [Zb,if_pos rfl]
    rfl
theorem ZiE {i : Nat} (hg : us[i]?=some u) : us.take (i+1)=us.take i++[u]:=by
 rw [List.take_add_one,hg];rfl
theorem ZuQ (hn : us.length≤1000) (hA : Q0 H0 sl us) (hC : Zrj H0 sl us) (hgl : gs.length≤1000000) (hs : Sl H0 gv (gs.map strv)) : ∀ (t i : Nat) (X : Zc),us.length - i=t→i≤us.length→HLe H0 X→
  ∃ X',Zk (c5 (ZH.l3 (R (n+1)))) [sl,gv,sl,iv us.length,iv i] X=some (if YS gs (us.take i) (us.drop i)=0 then .ext 4 [] else .ret (iv (YS gs (us.take i) (us.drop i))),X')∧HLe H0 X'
 | 0,i,X,ht,hj,hle=>by
  rw [List.drop_eq_nil_of_le (show us.length≤i by omega),if_pos (show YS gs (us.take i) []=0 from by unfold YS;rfl)]
  refine ⟨X,ZI ?_,hle⟩
  rw [ZM,show i=us.length by omega]
  unfold ZH.l3
  rw [Za Zg,Zb,if_neg (by simp)]
  rfl
 | t+1,i,X,ht,hj,hle=>by
  have hjl : i < us.length:=by omega
  have hlt : (i : Int) < us.length:=by omega
  have hg:=List.getElem?_eq_getElem hjl
  have hd:=List.drop_eq_getElem_cons hjl
  generalize us[i]=u at hg hd
  have hok:=(hA.mono hle).ok (List.mem_of_getElem? hg)
  have hf:=fun {K : Value→M Out}=>ZcY (k:=K) (hA.mono hle).1 hok.2.1 hg
  have g1 : (X++[Zd.cells u.cells 1 false false])[X.length]?=some (.cells u.cells 1 false false):=Zx
  have k1 : HLe X (X++[Zd.cells u.cells 1 false false]):=.app _ _
  generalize X++[Zd.cells u.cells 1 false false]=X1 at g1 k1 hf
  generalize X.length=b at g1 hf
  have le1:=hle.trans k1
  have a4 : ld1 (pa b 4) X1=some (u.gv,X1):=ZV g1 rfl
  have ok1:=hok.hle k1
  have hul : ZC u.gv X1=some (iv u.gs.length,X1):=by have:=ok1.1.len (H':=X1);simpa using this
  have e4:=ZuJ (n:=n) (sl:=sl) (z1:=iv i) (z2:=pt b) (z3:=sl) (z4:=iv us.length) (z5:=iv i) hgl (hs.mono le1) ok1.2.2 ok1.1 u.gs.length 0 (by omega) (by omega)
  rw [show iv ((0 : Nat) : Int)=.int .i64 0 from rfl,List.drop_zero] at e4
  have hbody : ∀ o X2,jn (Zk (c10 (ZH.l4 (R (n+1)))) [sl,gv,iv i,pt b,sl,iv us.length,iv i,u.gv,iv u.gs.length,(Value.int .i64 0)]) noN (xk 6 (c7 fun q43_0 q43_1 q43_2 q43_3 q43_4 q43_5 q43_6=>
    bind (slv 5 q43_0 none (some q43_2) none) fun v74x44=>bind (ZC v74x44) fun v75x45=>
    jn (Zk (c9 (ZH.l5 (R (n+1)))) [q43_0,q43_1,q43_3,q43_4,q43_5,q43_6,v74x44,v75x45,(Value.int .i64 0)]) noN (xk 8 (c5 fun q62_0 q62_1 q62_2 q62_3 q62_4=>
    bind (bop .int .add q62_4 (Value.int .i64 1)) fun v91x63=>ret (.nrm [q62_0,q62_1,q62_2,q62_3,v91x63])) noX) Q5) noX) Q5 X1=some (o,X2)→c5 (ZH.l3 (R (n+1))) [sl,gv,sl,iv us.length,iv i] X=some (o,X2):=fun o X2 h=>by
   rw [ZM]
   unfold ZH.l3
   rw [Za Zg,Zb,if_pos (by simpa using hlt),hf,Za Zi,Za a4,Za hul]
   exact h
  rw [hd]
  unfold YS Zcp
  cases ha : u.gs.all fun g=>decide (g∈gs)
  ·rw [ha] at e4
   simp only [Bool.false_eq_true,if_false]
   exact ⟨X1,Z8 (hbody _ _ ((QM e4).trans rfl)),le1⟩
  ·rw [ha] at e4
   simp only [if_true]
   obtain ⟨cv,hc1,hc2⟩:=hC i (by omega)
   have hlt' : (us.take i).length=i:=by rw [List.length_take];omega
   have hcl : ZC cv X1=some (iv (us.take i).length,X1):=by have:=(hc2.mono le1).len (H':=X1);rwa [List.length_map] at this
   obtain ⟨X2,e5,k5⟩:=ZuU (n:=n+1) (sl:=sl) (gv:=gv) (z3:=sl) (z4:=iv us.length) (z5:=iv i) (by omega) (hc2.mono le1) (fun w hw=>(hA.2 w (List.mem_of_mem_take hw)).2.1) g1 (us.take i).length 0 X1 (by omega) (by omega) (.refl _)
   rw [show iv ((0 : Nat) : Int)=.int .i64 0 from rfl,List.drop_zero] at e5
   have le2:=le1.trans k5
   by_cases hp : u.ml≠[]∧(us.take i).any (fun w=>u.ml==w.ml)=true
   ·rw [if_pos hp] at e5
    simp only [if_pos hp]
    refine ⟨X2,Z8 (hbody _ _ ?_),le2⟩
    rw [ZS e4,Zv,JH,Za (hc1 _ le1),Za hcl,QM e5]
    rfl
   ·rw [if_neg hp] at e5
    simp only [if_neg hp,if_true]
    obtain ⟨X3,e6,k6⟩:=ZuQ hn hA hC hgl hs t (i+1) X2 (by omega) (by omega) le2
    rw [ZiE hg] at e6
    refine ⟨X3,(Zu (hbody _ _ ?_)).trans e6,k6⟩
    rw [ZS e4,Zv,JH,Za (hc1 _ le1),Za hcl,ZS e5,Zv,ZM,Za Zt,Qm (by omega)]
    rfl
theorem Zs8 (hn : us.length≤1000) (hgl : gs.length≤1000000) (hA : Q0 X sl us) (hC : Zrj X sl us) (hs : Sl X gv (gs.map strv)) : ∃ X',R (n+7) ZbU [sl,gv] X=some (iv (WL us gs),X')∧HLe X X':=by
 obtain ⟨X1,e1,k1⟩:=Zul (n:=n) hn hA
 have f1 : ∀ r X',ZH (R (n+6)) sl gv X=some (r,X')→R (n+7) ZbU [sl,gv] X=some (r,X'):=fun r X' hr=>by rw [R,ZpO rfl];exact hr
 have hlen : ∀ Y,ZC sl Y=some (iv us.length,Y):=fun Y=>by have:=hA.1.len (H':=Y);rwa [List.length_map] at this
 have hgn : ∀ Y,ZC gv Y=some (iv gs.length,Y):=fun Y=>by have:=hs.len (H':=Y);simpa using this
 unfold WL Zbk
 by_cases h0 : Zet us=0
 ·rw [h0] at e1
  simp only [if_pos h0]
  have q1 : bop .int .neq (iv 0) (.int .i64 0) X1=some (.bool false,X1):=by rw [Zp];rfl
  have hs1:=hs.mono k1
  have e2:=ZuR (n:=n+3) (sl:=sl) hgl hs1 gs.length 0 (by omega) (by omega)
  have e3:=ZuO (n:=n+6) (sl:=sl) hgl hs1 gs.length 0 (by omega) (by omega)
  rw [show iv ((0 : Nat) : Int)=.int .i64 0 from rfl,List.drop_zero] at e2
  rw [show iv ((0 : Nat) : Int)=.int .i64 0 from rfl,show Jr gs 0=Jk gs from by unfold Jr;simp] at e3
  cases ha : gs.all ZA
  ·rw [ha] at e2
   refine ⟨X1,f1 _ _ ?_,k1⟩
   unfold ZH
   rw [Za e1,Za q1,Zb,if_neg (by simp),Za (hgn _),QM e2]
   rfl
  ·rw [ha] at e2
   simp only [if_true]
   cases hr : Jk gs
   ·rw [hr] at e3
    refine ⟨X1,f1 _ _ ?_,k1⟩
    unfold ZH
    rw [Za e1,Za q1,Zb,if_neg (by simp),Za (hgn _),ZS e2,Zv,ZW,Za (hgn _),QM e3]
    rfl
   ·rw [hr] at e3
    simp only [if_true]
    by_cases h6 : 6 < gs.length
    ·simp only [if_pos h6]
     refine ⟨X1,f1 _ _ ?_,k1⟩
     unfold ZH
     rw [Za e1,Za q1,Zb,if_neg (by simp),Za (hgn _),ZS e2,Zv,ZW,Za (hgn _),ZS e3,Zv,ZW,Za (hgn _),Za ZK,Zb,if_pos (by simp;omega)]
     rfl
    ·simp only [if_neg h6]
     have hC1 : Zrj X1 sl us:=fun k hk=>by
      obtain ⟨w,a,b⟩:=hC k hk
      exact ⟨w,fun X' hl=>a X' (k1.trans hl),b.mono k1⟩
     obtain ⟨X2,e4,k2⟩:=ZuQ (n:=n+5) hn (hA.mono k1) hC1 hgl hs1 us.length 0 X1 (by omega) (by omega) (.refl _)
     rw [show iv ((0 : Nat) : Int)=.int .i64 0 from rfl,List.drop_zero,List.take_zero] at e4
     refine ⟨X2,f1 _ _ ?_,k1.trans k2⟩
     unfold ZH
     rw [Za e1,Za q1,Zb,if_neg (by simp),Za (hgn _),ZS e2,Zv,ZW,Za (hgn _),ZS e3,Zv,ZW,Za (hgn _),Za ZK,Zb,if_neg (by simp;omega),Za (hlen _)]
     by_cases hz : YS gs [] us=0
     ·rw [if_pos hz] at e4
      rw [ZS e4,Zv,hz];rfl
     ·rw [if_neg hz] at e4
      rw [QM e4];rfl
 ·simp only [if_neg h0]
  have q1 : bop .int .neq (iv (Zet us)) (.int .i64 0) X1=some (.bool true,X1):=by rw [Zp];simp [h0]
  refine ⟨X1,f1 _ _ ?_,k1⟩
  unfold ZH
  rw [Za e1,Za q1,Zb,if_pos rfl]
  rfl
end
end Go.Proofs.YtedkoimihknggaaGreatDoor.A

namespace Go.Proofs.YtedkoimihknggaaGreatDoor.A
set_option linter.unusedVariables false
set_option linter.unusedSimpArgs false
open Go.Proofs Go.Proofs.YtedkoimihknggaaGreatDoor
section
variable {X X' X0 H H0 : Zc} {n p d b c i : Nat} {r : NR} {s : NSt} {v sl gv ugv zl : Value} {l gs : List Tx} {m k g : Tx} {u : Zm} {us prev : List Zm}
def nGs (gs : List Tx) : NSt:=⟨[],[],[],gs,fun _ _=>false⟩
theorem Zvj (hr : Jk gs=true) (hn : gs.all ZA=true) (h6 : gs.length≤6) {j : Nat} (hg : gs[j]?=some g) : Kr g (gs.take j)=0∧Zgv g (gs.take j)=gs.take (j+1):=by
 have hj : j < gs.length:=(List.getElem?_eq_some_iff.1 hg).1
 have hgm:=List.mem_of_getElem? hg
 have h1 : ZA g=true:=List.all_eq_true.1 hn g hgm
 have hd:=List.drop_eq_getElem_cons hj
 have hge : gs[j]=g:=by have:=List.getElem?_eq_getElem hj;rw [hg] at this;exact (Option.some.inj this).symm
 have hp:=ZbF hr
 rw [← List.take_append_drop j gs,List.pairwise_append,hd,hge] at hp
 have h2 : g∉gs.take j:=fun hm=>List.lt_irrefl g (hp.2.2 g hm g (by simp))
 have hl : (gs.take j).length=j:=by rw [List.length_take];omega
 have h0 : Kr g (gs.take j)=0:=by
  unfold Kr
  rw [h1,if_pos rfl,if_neg h2,hl,if_neg (by omega)]
 refine ⟨h0,?_⟩
 unfold Zgv
 rw [if_pos h0,List.take_add_one,hg]
 rfl
theorem ZsG (hs : Sl X0 gv (gs.map strv)) (hr : Jk gs=true) (hn : gs.all ZA=true) (h6 : gs.length≤6) : ∀ (t j : Nat) (r : NR) (X : Zc),gs.length - j=t→j≤gs.length→HLe X0 X→ND X d r (nGs (gs.take j)) 0→(∀ i∈r.own,X0.length≤i)→
  ∃ X' r',Zk (c5 (Qy.l1 (R (n+11)))) [sl,pt d,gv,iv gs.length,iv j] X=some (.ext 0 [sl,pt d],X')∧HLe X0 X'∧ND X' d r' (nGs gs) 0∧∀ i∈r'.own,X0.length≤i
 | 0,j,r,X,ht,hj,hle,hd,ho=>by
  have hj : j=gs.length:=by omega
  subst hj
  rw [List.take_length] at hd
  refine ⟨X,r,ZI ?_,hle,hd,ho⟩
  rw [ZM]
  unfold Qy.l1
  rw [Za Zg,Zb,if_neg (by simp)]
  rfl
 | t+1,j,r,X,ht,hj,hle,hd,ho=>by
  have hkl : j < gs.length:=by omega
  have hlt : (j : Int) < gs.length:=by omega
  have hg:=List.getElem?_eq_getElem hkl
  generalize gs[j]=g at hg
  have x1:=(hs.mono hle).ix (i:=j) (by simpa using hkl) .i64 X
  have x2:=(hs.mono hle).ldx (JF hg)
  obtain ⟨m1,m2⟩:=Zvj hr hn h6 hg
  obtain ⟨X1,G',e1,g1,k1,s1⟩:=Zvn (n:=n+3) (k:=g) hd.gr
  have e1 : R (n+11) Yp [pt r.g,strv g] X=_:=e1
  rw [hd.ks] at e1 k1
  rw [show (nGs (gs.take j)).K=gs.take j from rfl,m2] at k1
  obtain ⟨d1,t1⟩:=hd.toND0.setG g1 s1 k1
  have hm:=hle.more t1 ho
  have hd1 : ND X1 d { r with G:=G' } (nGs (gs.take (j+1))) 0:=⟨d1,⟨by simp [nGs],by simp [nGs],by simp [nGs,Zj],by simp [nGs],by simp [nGs,Zj]⟩⟩
  obtain ⟨X2,r2,e2,k2,h2,o2⟩:=ZsG hs hr hn h6 t (j+1) _ X1 (by omega) (by omega) hm.1 hd1 hm.2
  refine ⟨X2,r2,(Zu ?_).trans e2,k2,h2,o2⟩
  rw [ZM]
  unfold Qy.l1
  rw [Za Zg,Zb,if_pos (by simpa using hlt),Za x1,Za x2,Za Zs,Za Zi,Za hd.l2,Za e1,Za Zt,Qm (by omega)]
  rfl
theorem Zuo {mem : Mem} : KJ [] k mem=mem:=by
 funext g n
 unfold KJ
 simp
theorem Zst {mem : Mem} {ps : List Tx} : ZkI g k (KJ ps k mem)=KJ (ps++[g]) k mem:=by
 funext g' n
 unfold ZkI KJ
 by_cases h1 : g'∈ps <;> by_cases h2 : g'=g <;> cases mem g' n <;> cases hn : n==k <;> simp [h1,h2,hn]
theorem ZsC (hnm : ZA u.nm=true) (hall : u.gs.all ZA=true) (hasc : Jk u.gs=true) (hl : u.gs.length≤6) (hfree : ∀ g,s.mem g u.nm=false) (hK : s.K=gs) {z1 z2 z3 : Value} : ∀ (t j : Nat) (c : Nat) (X : Zc),u.gs.length - j=t→j≤u.gs.length→ND0 X d r { s with mem:=KJ (u.gs.take j) u.nm s.mem } c→X[b]?=some (.cells u.cells 1 false false)→Sl X ugv (u.gs.map strv)→
  ∃ X',Zk (c8 (Qy.l3 (R (n+11)))) [pt d,pt b,z1,z2,z3,ugv,iv u.gs.length,iv j] X=some (if (u.gs.drop j).all (fun g=>decide (g∈gs)) then .ext 4 [pt d,pt b,z1,z2,z3] else .ret (.tuple #[.pointer none,iv 8]),X')∧Zw r.own X r.own X'∧((u.gs.drop j).all (fun g=>decide (g∈gs))=true→∃ c',ND0 X' d r { s with mem:=KJ u.gs u.nm s.mem } c')
 | 0,j,c,X,ht,hj,hd,hb,hs=>by
  have hj : j=u.gs.length:=by omega
  subst hj
  rw [List.take_length] at hd
  rw [List.drop_length]
  refine ⟨X,ZI ?_,.refl _ _,fun _=>⟨c,hd⟩⟩
  rw [Yn]
  unfold Qy.l3
  rw [Za Zg,Zb,if_neg (by simp)]
  rfl
 | t+1,j,c,X,ht,hj,hd,hb,hs=>by
  have hkl : j < u.gs.length:=by omega
  have hlt : (j : Int) < u.gs.length:=by omega
  have hg:=List.getElem?_eq_getElem hkl
  have hdr:=List.drop_eq_getElem_cons hkl
  have hsn:=take_snocT hg
  generalize u.gs[j]=g at hg hdr hsn
  have x1:=hs.ix (i:=j) (by simpa using hkl) .i64 X
  have x2:=hs.ldx (JF hg)
  have l0 : ld1 (pa b 0) X=some (strv u.nm,X):=ZV hb rfl
  obtain ⟨X1,e1,g1,s1⟩:=Zvw (n:=n+3) (k:=g) (m:=u.nm) hd.gr
  have e1 : R (n+11) Ka [pt r.g,strv g,strv u.nm] X=_:=e1
  rw [hd.ks] at e1 g1
  have hKs : ({ s with mem:=KJ (u.gs.take j) u.nm s.mem } : NSt).K=gs:=hK
  rw [hKs] at e1 g1
  have hgn : ZA g=true:=List.all_eq_true.1 hall g (List.mem_of_getElem? hg)
  have hgt : g∉u.gs.take j:=by
   have hp:=ZbF hasc
   rw [← List.take_append_drop j u.gs,List.pairwise_append,hdr] at hp
   exact fun hm=>List.lt_irrefl g (hp.2.2 g hm g (by simp))
  have hmf : KJ (u.gs.take j) u.nm s.mem g u.nm=false:=by
   unfold KJ
   rw [hfree]
   simp [hgt]
  have hfd : JQ g [u.nm] gs=if g∈gs then 0 else 8:=by
   unfold JQ
   simp [hgn,hnm]
  rw [hdr,List.all_cons]
  by_cases hgm : g∈gs
  ·rw [if_pos hgm] at hfd
   have hE : ZcT g u.nm gs (KJ (u.gs.take j) u.nm s.mem)=0:=by
    unfold ZcT
    rw [hfd,if_pos rfl,hmf];rfl
   rw [hE] at e1
   rw [show ({ s with mem:=KJ (u.gs.take j) u.nm s.mem } : NSt).mem=KJ (u.gs.take j) u.nm s.mem from rfl,hE,if_pos rfl,Zst,← hsn] at g1
   obtain ⟨d1,t1⟩:=hd.setG g1 s1 hd.ks
   have hc1:=hd.cle t1
   rw [decide_eq_true hgm,Bool.true_and]
   have d1' : ND0 X1 d r { s with mem:=KJ (u.gs.take (j+1)) u.nm s.mem } (c+1):=d1
   obtain ⟨X2,e2,t2,h2⟩:=ZsC hnm hall hasc hl hfree hK t (j+1) (c+1) X1 (by omega) (by omega) d1' (hc1 _ _ _ _ _ hb) (hs.cle hc1)
   refine ⟨X2,(Zu ?_).trans e2,Zw.trans t1 t2,h2⟩
   rw [Yn]
   unfold Qy.l3
   rw [Za Zg,Zb,if_pos (by simpa using hlt),Za x1,Za x2,Za Zs,Za Zi,Za hd.l2,Za Zi,Za l0,Za e1,Za Zp,Zb,if_neg (by simp),Za Zt,Qm (by omega)]
   rfl
  ·rw [if_neg hgm] at hfd
   have hE : ZcT g u.nm gs (KJ (u.gs.take j) u.nm s.mem)=8:=by
    unfold ZcT
    rw [hfd,if_neg (by simp)]
   rw [hE] at e1
   obtain ⟨d1,t1⟩:=hd.setG g1 s1 hd.ks
   rw [decide_eq_false hgm,Bool.false_and]
   refine ⟨X1,Z8 ?_,t1,fun h=>by cases h⟩
   rw [Yn]
   unfold Qy.l3
   rw [Za Zg,Zb,if_pos (by simpa using hlt),Za x1,Za x2,Za Zs,Za Zi,Za hd.l2,Za Zi,Za l0,Za e1,Za Zp,Zb,if_pos (by simp)]
   rfl
where
 take_snocT {l : List Tx} {j : Nat} {h : j < l.length} (hg : l[j]?=some l[j]) : l.take (j+1)=l.take j++[l[j]]:=by
  rw [List.take_add_one,hg];rfl
theorem ZmP : ∀ {us : List Zm},(∀ v∈us,v.nm < u.nm)→putU u us=us++[u]
 | [],_=>by simp [putU,Za6,Zac]
 | v :: us,h=>by
  rw [Zhm,if_neg (fun hle=>(List.not_lt.2 hle) (h v (by simp))),ZmP fun w hw=>h w (by simp [hw])]
  rfl
theorem Zty (hO : ROK s prev) (hP : ZjX s) (hm : KP m=true) (hf : Qt m=m) : prev.any (fun w=>m==w.ml)=(Zj m s.OW).isSome:=by
 have h1:=Zsw hO hP hm
 rw [hf] at h1
 rw [← h1,Option.isSome_map,List.isSome_find?]
 congr 1
 funext w
 exact BEq.comm
def addN (u : Zm) (s : NSt) : NSt:={ A:=Ju u.nm (u.hs,u.ds) s.A,OW:=ZuA u.nm u.ml s.OW s.OF,OF:=Zgm u.nm u.ml s.OW s.OF,K:=s.K,mem:=KJ u.gs u.nm s.mem }
theorem ZiO (h : ZaT m=true) : m=[]∨(KP m=true∧Qt m=m):=by
 unfold ZaT at h
 simpa using h
theorem Zef (h : QR u=0) : ZA u.nm=true∧Zaz u.hs=true∧ZaT u.ml=true∧u.gs.length≤6∧u.gs.all ZA=true∧Jk u.gs=true:=by
 unfold QR at h
 split at h
 ·rename_i h1
  split at h
  ·rename_i h2
   split at h
   ·rename_i h3
    unfold Zcw at h
    split at h
    ·exact absurd h (by decide)
    ·rename_i h6
     split at h
     ·rename_i h4
      split at h
      ·rename_i h5
       exact ⟨h1,h2,h3,by omega,h4,h5⟩
      ·exact absurd h (by decide)
     ·exact absurd h (by decide)
   ·exact absurd h (by decide)
  ·exact absurd h (by decide)
 ·exact absurd h (by decide)
theorem Zu6 (hO : ROK s prev) (hP : ZjX s) (hu : QR u=0) (hA : Zj u.nm s.A=none) : WY u.nm u.ml s.OW=if u.ml≠[]∧prev.any (fun w=>u.ml==w.ml)=true then 9 else 0:=by
 obtain ⟨h1,_,h3,_,_,_⟩:=Zef hu
 unfold WY
 rw [h1,if_pos rfl]
 rcases ZiO h3 with hm | ⟨hm,hf⟩
 ·rw [if_pos hm,if_neg (fun h=>h.1 hm)]
 ·have hne : u.ml≠[]:=by have:=(ZfD hm).1;rwa [hf] at this
  rw [if_neg hne,hm,if_pos rfl,hf,Zty hO hP hm hf]
  cases hw : Zj u.ml s.OW with
  | none=>simp
  | some w=>
   have hww : w≠u.nm:=fun e=>by
    subst e
    have:=hP.i.ofA u.nm (by rw [(hP.x.inv u.nm u.ml).2 hw];rfl)
    rw [hA] at this;cases this
   simp [hww,hne]
theorem Zus (hi : Kl s) (hu : QR u=0) (hgs : ∀ g∈u.gs,g∈s.K) (hk : s.K.Nodup) (hA : Zj u.nm s.A=none) (hfree : ∀ g,s.mem g u.nm=false) (he : WY u.nm u.ml s.OW=0) (x : Tx) : Yl (addN u s) x=if x=u.nm then some (ZG u) else Yl s x:=by
 obtain ⟨h1,h2,h3,h4,h5,h6⟩:=Zef hu
 by_cases hx : x=u.nm
 ·rw [if_pos hx,hx]
  unfold Yl
  show (Zj u.nm (Ju u.nm (u.hs,u.ds) s.A)).map _=_
  rw [W7]
  show some (WN _ u.nm (u.hs,u.ds))=_
  unfold WN ZG
  show some (u.nm,u.hs,(Zj u.nm (Zgm u.nm u.ml s.OW s.OF)).getD [],u.ds,ofL u.nm s.K (KJ u.gs u.nm s.mem))=_
  rw [ZiH he,if_pos rfl]
  have hg : ofL u.nm s.K (KJ u.gs u.nm s.mem)=u.gs:=by
   refine (Zpw hk).uniq ⟨ZbF h6,fun y=>Iff.rfl⟩ fun y=>?_
   unfold KJ
   rw [hfree]
   simp
   exact hgs y
  rw [hg]
  rcases ZiO h3 with hm | ⟨hm,hf⟩
  ·rw [if_pos hm,hm];rfl
  ·have hne : u.ml≠[]:=by have:=(ZfD hm).1;rwa [hf] at this
   rw [if_neg hne,hf];rfl
 ·rw [if_neg hx]
  unfold Yl
  show (Zj x (Ju u.nm (u.hs,u.ds) s.A)).map _=_
  rw [K9 hx]
  cases Zj x s.A with
  | none=>rfl
  | some p=>
   show some (WN _ x p)=some (WN s x p)
   unfold WN
   show some (x,p.1,(Zj x (Zgm u.nm u.ml s.OW s.OF)).getD [],p.2,ofL x s.K (KJ u.gs u.nm s.mem))=_
   rw [ZiH he,if_neg hx]
   have : ofL x s.K (KJ u.gs u.nm s.mem)=ofL x s.K s.mem:=by
    unfold ofL KJ
    refine List.filter_congr fun g _=>?_
    simp [hx]
   rw [this]
theorem Kl.add (hi : Kl s) (hu : QR u=0) (hA : s.A.length < 12) (he : WY u.nm u.ml s.OW=0) : Kl (addN u s):=by
 obtain ⟨h1,h2,h3,h4,h5,h6⟩:=Zef hu
 have p1:=hi.putA (k:=u.nm) (v:=(u.hs,u.ds)) h1 h2 (.inr hA)
 refine ⟨p1.nm,p1.few,fun x hx=>?_,fun g x hx=>?_,fun x y hx=>?_⟩
 ·have hx : (Zj x (Zgm u.nm u.ml s.OW s.OF)).isSome=true:=hx
  rw [ZiH he] at hx
  by_cases e : x=u.nm
  ·show (Zj x (Ju u.nm (u.hs,u.ds) s.A)).isSome=true
   rw [e,W7];rfl
  ·rw [if_neg e] at hx
   exact Zdv (.inl (hi.ofA x hx))
 ·have hx : KJ u.gs u.nm s.mem g x=true:=hx
  unfold KJ at hx
  rw [Bool.or_eq_true] at hx
  rcases hx with hx | hx
  ·exact Zdv (.inl (hi.memA g x hx))
  ·rw [Bool.and_eq_true,beq_iff_eq] at hx
   exact Zdv (.inr hx.2)
 ·have hx : Zj x (Zgm u.nm u.ml s.OW s.OF)=some y:=hx
  rw [ZiH he] at hx
  by_cases e : x=u.nm
  ·rw [if_pos e] at hx
   rcases ZiO h3 with hm | ⟨hm,hf⟩
   ·rw [if_pos hm] at hx;cases hx
   ·have hne : u.ml≠[]:=by have:=(ZfD hm).1;rwa [hf] at this
    rw [if_neg hne,hf] at hx
    cases hx
    exact ⟨hm,hf⟩
  ·rw [if_neg e] at hx
   exact hi.good x y hx
structure OfS (X0 X : Zc) (d : Nat) (r : NR) (s : NSt) (c : Nat) (gs : List Tx) (prev : List Zm) : Prop where
 le : HLe X0 X
 nd : ND X d r s c
 own : ∀ i∈r.own,X0.length≤i
 K : s.K=gs
 ok : ROK s prev
theorem Ztt (hn : us.length≤12) (hA : Q0 X0 sl us) (h2 : ∀ u∈us,QR u=0) (hris : Jk (us.map (·.nm))=true) : ∀ (t i : Nat) (s : NSt) (c : Nat) (X : Zc),us.length - i=t→i≤us.length→OfS X0 X d r s c gs (us.take i)→
  ∃ X' o,Zk (c4 (Qy.l2 (R (n+11)))) [pt d,sl,iv us.length,iv i] X=some (o,X')∧HLe X0 X'∧(if YS gs (us.take i) (us.drop i)=0 then o=.ext 2 [pt d]∧∃ s' c',OfS X0 X' d r s' c' gs us else o=.ret (.tuple #[.pointer none,iv (YS gs (us.take i) (us.drop i))]))
 | 0,i,s,c,X,ht,hi,hS=>by
  have hi : i=us.length:=by omega
  subst hi
  rw [List.take_length] at hS
  rw [List.drop_length,List.take_length]
  refine ⟨X,.ext 2 [pt d],ZI ?_,hS.le,?_⟩
  ·rw [ZB]
   unfold Qy.l2
   rw [Za Zg,Zb,if_neg (by simp)]
   rfl
  ·rw [if_pos (show YS gs us []=0 from by unfold YS;rfl)]
   exact ⟨rfl,s,c,hS⟩
 | t+1,i,s,c,X,ht,hi,hS=>by
  have hjl : i < us.length:=by omega
  have hlt : (i : Int) < us.length:=by omega
  have hg:=List.getElem?_eq_getElem hjl
  have hdr:=List.drop_eq_getElem_cons hjl
  generalize us[i]=u at hg hdr
  have hum:=List.mem_of_getElem? hg
  have hu:=h2 u hum
  obtain ⟨u1,u2,u3,u4,u5,u6⟩:=Zef hu
  have hP:=hS.nd.pinv
  have hrp : ∀ v∈us.take i,v.nm < u.nm:=fun v hv=>by
   have hp:=ZbF hris
   rw [← List.take_append_drop i us,hdr,List.map_append,List.pairwise_append] at hp
   exact hp.2.2 v.nm (List.mem_map.2 ⟨v,hv,rfl⟩) u.nm (by simp)
  have hlen:=hS.ok.len hP.n
  have hlt' : (us.take i).length=i:=by rw [List.length_take];omega
  have hnone : Zj u.nm s.A=none:=by
   cases ha : Zj u.nm s.A with
   | none=>rfl
   | some p=>
    have h3 : Yl s u.nm=some (WN s u.nm p):=by unfold Yl;rw [ha];rfl
    obtain ⟨v,hv,hk⟩:=WD.1 ((hS.ok.look (WN s u.nm p)).2 h3)
    have hvn : v.nm=u.nm:=congrArg (·.1) hk
    have:=hrp v hv
    rw [hvn] at this
    exact absurd this (List.lt_irrefl _)
  have hfree:=hP.i.memN hnone
  have hok:=(hA.mono hS.le).ok hum
  have hf:=fun {K : Value→M Out}=>ZcY (k:=K) (hA.mono hS.le).1 hok.2.1 hg
  have g1 : (X++[Zd.cells u.cells 1 false false])[X.length]?=some (.cells u.cells 1 false false):=Zx
  have k1 : HLe X (X++[Zd.cells u.cells 1 false false]):=.app _ _
  generalize X++[Zd.cells u.cells 1 false false]=X1 at g1 k1 hf
  generalize X.length=b at g1 hf
  have d1:=hS.nd.hle k1
  have ok1:=hok.hle k1
  have a0 : ∀ f x,u.cells[f]?=some x→ld1 (pa b f) X1=some (x,X1):=fun f x h=>ZV g1 h
  obtain ⟨X2,e2,m2,s2,_⟩:=d1.m.mup (k:=u.nm) (v:=(u.hs,u.ds))
  obtain ⟨d2,t2⟩:=d1.toND0.setA m2 s2
  have c2:=d1.toND0.cle t2
  have g2:=c2 _ _ _ _ _ g1
  have a4 : ld1 (pa b 4) X2=some (u.gv,X2):=ZV g2 rfl
  have hs2:=ok1.1.cle c2
  have hul : ZC u.gv X2=some (iv u.gs.length,X2):=by have:=hs2.len (H':=X2);simpa using this
  have d2' : ND0 X2 d r { ({ s with A:=Ju u.nm (u.hs,u.ds) s.A } : NSt) with mem:=KJ (u.gs.take 0) u.nm s.mem } c:=by
   rw [List.take_zero,Zuo];exact d2
  obtain ⟨X3,e3,t3,h3⟩:=ZsC (n:=n) (s:={ s with A:=Ju u.nm (u.hs,u.ds) s.A }) (gs:=gs) (z1:=sl) (z2:=iv us.length) (z3:=iv i) u1 u5 u6 u4 hfree hS.K u.gs.length 0 c X2 (by omega) (by omega) d2' g2 hs2
  rw [show iv ((0 : Nat) : Int)=.int .i64 0 from rfl,List.drop_zero] at e3
  rw [List.drop_zero] at h3
  obtain ⟨q1,q2⟩:=(hS.le.trans k1).more (t2.trans t3) hS.own
  have hbody : ∀ o Z,jn (Zk (c8 (Qy.l3 (R (n+11)))) [pt d,pt b,sl,iv us.length,iv i,u.gv,iv u.gs.length,(Value.int .i64 0)]) noN (xk 4 (c5 fun q45_0 q45_1 q45_2 q45_3 q45_4=>
    bind (Jg q45_0) fun v73x46=>bind (fa 1 v73x46) fun v74x47=>bind (ld1 v74x47) fun v75x48=>bind (fa 0 q45_1) fun v76x49=>bind (ld1 v76x49) fun v77x50=>bind (fa 2 q45_1) fun v78x51=>bind (ld1 v78x51) fun v79x52=>
    bind (R (n+11) YQ [v75x48,v77x50,v79x52]) fun v80x53=>bind (bop .int .neq v80x53 (Value.int .i64 0)) fun v82x54=>
    cnd v82x54 (ret (.ret (Value.tuple #[(Value.pointer none),v80x53]))) (bind (bop .int .add q45_4 (Value.int .i64 1)) fun v84x55=>ret (.nrm [q45_0,q45_2,q45_3,v84x55]))) noX) Q5 X2=some (o,Z)→c4 (Qy.l2 (R (n+11))) [pt d,sl,iv us.length,iv i] X=some (o,Z):=fun o Z h=>by
   rw [ZB]
   unfold Qy.l2
   rw [Za Zg,Zb,if_pos (by simpa using hlt),hf,Za Zs,Za Zi,Za d1.l0,Za Zi,Za (a0 0 _ rfl),Za Zi,Za (a0 1 _ rfl),Za Zi,Za (a0 3 _ rfl),Za Zxg,Za e2,Za Zi,Za a4,Za hul]
   exact h
  rw [hdr]
  unfold YS Zcp
  cases ha : u.gs.all fun g=>decide (g∈gs)
  ·rw [ha] at e3
   simp only [Bool.false_eq_true,if_false]
   exact ⟨X3,_,Z8 (hbody _ _ ((QM e3).trans rfl)),q1,rfl⟩
  ·rw [ha] at e3
   simp only [if_true]
   obtain ⟨c3,d3⟩:=h3 ha
   have c23:=d2.cle t3
   have g3:=c23 _ _ _ _ _ g2
   have l0 : ld1 (pa b 0) X3=some (strv u.nm,X3):=ZV g3 rfl
   have l2 : ld1 (pa b 2) X3=some (strv u.ml,X3):=ZV g3 rfl
   obtain ⟨X4,e4,i4,s4⟩:=Zwh (n:=n+2) (k:=u.nm) (m:=u.ml) d3.ix
   have e4 : R (n+11) YQ [pt r.x,strv u.nm,strv u.ml] X3=some (iv (WY u.nm u.ml s.OW),X4):=e4
   obtain ⟨d4,t4⟩:=d3.setI i4 s4
   obtain ⟨q3,q4⟩:=q1.more t4 q2
   have hE:=Zu6 hS.ok hP hu hnone
   by_cases hp : u.ml≠[]∧(us.take i).any (fun w=>u.ml==w.ml)=true
   ·rw [if_pos hp] at hE
    simp only [if_pos hp]
    rw [hE] at e4
    refine ⟨X4,_,Z8 (hbody (.ret (.tuple #[.pointer none,iv 9])) X4 ?_),q3,rfl⟩
    rw [ZS e3,Zv,ZM,Za Zs,Za Zi,Za d3.l1,Za Zi,Za l0,Za Zi,Za l2,Za e4,Za Zp,Zb,if_pos (by simp)]
    rfl
   ·rw [if_neg hp] at hE
    simp only [if_neg hp,if_true]
    rw [hE] at e4
    have hgs : ∀ g∈u.gs,g∈s.K:=fun g hgm=>by
     rw [hS.K]
     simpa using List.all_eq_true.1 ha g hgm
    have hadd:=Zus hP.i hu hgs hP.k.nod hnone hfree hE
    have hd4 : ND X4 d r (addN u s) c3:=⟨d4,hP.i.add hu (by omega) hE⟩
    have hok4 : ROK (addN u s) (us.take (i+1)):=by
     rw [ZiE hg,← ZmP hrp]
     exact hS.ok.put (by rw [hadd,if_pos rfl]) (fun x hx=>by rw [hadd,if_neg hx])
    obtain ⟨X5,o5,e5,k5,h5⟩:=Ztt hn hA h2 hris t (i+1) (addN u s) c3 X4 (by omega) (by omega) ⟨q3,hd4,q4,hS.K,hok4⟩
    rw [ZiE hg] at h5
    refine ⟨X5,o5,(Zu (hbody _ X4 ?_)).trans e5,k5,h5⟩
    rw [ZS e3,Zv,ZM,Za Zs,Za Zi,Za d3.l1,Za Zi,Za l0,Za Zi,Za l2,Za e4,Za Zp,Zb,if_neg (by simp),Za Zt,Qm (by omega)]
    rfl
theorem Zsi (h : Zbk us gs=0) : JD us=0∧Jk (us.map (·.nm))=true∧us.length≤12∧gs.all ZA=true∧Jk gs=true∧gs.length≤6:=by
 unfold Zbk Zet at h
 by_cases h1 : JD us=0
 ·simp only [if_pos h1] at h
  cases h2 : Jk (us.map (·.nm))
  ·rw [h2] at h;simp at h
  ·rw [h2] at h
   by_cases h3 : 12 < us.length
   ·simp [h3] at h
   ·cases h4 : gs.all ZA <;> cases h5 : Jk gs <;> rw [h4,h5] at h <;> by_cases h6 : 6 < gs.length <;> simp [h3,h6] at h
    exact ⟨h1,rfl,by omega,rfl,rfl,by omega⟩
 ·simp only [if_neg h1] at h
  exact absurd h h1
theorem Zr5 (hn : us.length≤1000) (hl : gs.length≤1000000) (hA : Q0 X sl us) (hs : Sl X gv (gs.map strv)) : ∃ X',HLe X X'∧(if WL us gs=0 then ∃ d r s c,R (n+12) Za0 [sl,gv] X=some (.tuple #[pt d,iv 0],X')∧OfS X X' d r s c gs us else R (n+12) Za0 [sl,gv] X=some (.tuple #[.pointer none,iv (WL us gs)],X')):=by
 obtain ⟨X1,e1,k1⟩:=ZpE (n:=n) hn hl hA hs
 have f1 : ∀ r X',Qy (R (n+11)) sl gv X=some (r,X')→R (n+12) Za0 [sl,gv] X=some (r,X'):=fun r X' hr=>by rw [R,Zqc rfl];exact hr
 unfold WL
 by_cases hc : Zbk us gs=0
 ·obtain ⟨c1,c2,c3,c4,c5,c6⟩:=Zsi hc
  rw [hc] at e1
  simp only [if_pos hc]
  have q1 : bop .int .neq (iv 0) (.int .i64 0) X1=some (.bool false,X1):=by rw [Zp];rfl
  obtain ⟨X2,d,r,e2,D2,l2,o1,o2⟩:=Zs2 (n:=n+9) (X:=X1)
  have e2 : R (n+11) Zae [] X1=_:=e2
  have k2:=k1.trans l2
  have hgn : ZC gv X2=some (iv gs.length,X2):=by have:=hs.len (H':=X2);simpa using this
  obtain ⟨X3,r3,e3,k3,D3,o3⟩:=ZsG (n:=n) (sl:=sl) hs c5 c4 c6 gs.length 0 r X2 (by omega) (by omega) k2 D2 (fun i hi=>Nat.le_trans k1.len (o2 i hi))
  rw [show iv ((0 : Nat) : Int)=.int .i64 0 from rfl] at e3
  have hlen : ZC sl X3=some (iv us.length,X3):=by have:=hA.1.len (H':=X3);rwa [List.length_map] at this
  have hS : OfS X X3 d r3 (nGs gs) 0 gs (us.take 0):=⟨k3,D3,o3,rfl,⟨List.Pairwise.nil,fun key=>by simp [Yl,nGs,Zj]⟩⟩
  obtain ⟨X4,o,e4,k4,h4⟩:=Ztt (n:=n) c3 hA (ZhK c1) c2 us.length 0 (nGs gs) 0 X3 (by omega) (by omega) hS
  rw [show iv ((0 : Nat) : Int)=.int .i64 0 from rfl] at e4
  rw [List.take_zero,List.drop_zero] at h4
  refine ⟨X4,k4,?_⟩
  by_cases hz : YS gs [] us=0
  ·rw [if_pos hz] at h4 ⊢
   obtain ⟨rfl,s',c',hS'⟩:=h4
   refine ⟨d,r3,s',c',f1 _ _ ?_,hS'⟩
   unfold Qy
   rw [Za e1,Za q1,Zb,if_neg (by simp),Za e2,Za hgn,ZS e3,Zv,ZW,Za hlen,ZS e4,Zv]
   rfl
  ·rw [if_neg hz] at h4 ⊢
   subst h4
   refine f1 _ _ ?_
   unfold Qy
   rw [Za e1,Za q1,Zb,if_neg (by simp),Za e2,Za hgn,ZS e3,Zv,ZW,Za hlen,QM e4]
   rfl
 ·simp only [if_neg hc]
  have q1 : bop .int .neq (iv (Zbk us gs)) (.int .i64 0) X1=some (.bool true,X1):=by rw [Zp];simp [hc]
  refine ⟨X1,k1,f1 _ _ ?_⟩
  unfold Qy
  rw [Za e1,Za q1,Zb,if_pos rfl]
  rfl
theorem Zuu {us ws : List Zm} (h : us.map ZG=ws.map ZG) : WL us gs=WL ws gs:=by
 have hrest : ∀ (l l' p p' : List Zm),l.map ZG=l'.map ZG→p.map ZG=p'.map ZG→YS gs p l=YS gs p' l':=by
  intro l
  induction l with
  | nil=>
   intro l' p p' hl hp
   cases l' with
   | nil=>unfold YS;rfl
   | cons a b=>simp at hl
  | cons u l ih=>
   intro l' p p' hl hp
   cases l' with
   | nil=>simp at hl
   | cons w l'=>
    rw [List.map_cons,List.map_cons,List.cons.injEq] at hl
    have hg : u.gs=w.gs:=congrArg (·.2.2.2.2) hl.1
    have hm : u.ml=w.ml:=congrArg (·.2.2.1) hl.1
    have hany : p.any (fun v=>u.ml==v.ml)=p'.any (fun v=>w.ml==v.ml):=by
     have h1 : ∀ (p : List Zm) (m : Tx),p.any (fun v=>m==v.ml)=(p.map ZG).any (fun v=>m==v.2.2.1):=fun p m=>by
      rw [List.any_map];rfl
     rw [h1,h1,hp,hm]
    have hpe : Zcp gs p u=Zcp gs p' w:=by
     unfold Zcp
     rw [hg,hm]
     rw [hm] at hany
     rw [hany]
    unfold YS
    rw [hpe,ih l' (p++[u]) (p'++[w]) hl.2 (by rw [List.map_append,List.map_append,hp,List.map_singleton,List.map_singleton,hl.1])]
 have hfirst : ∀ (l l' : List Zm),l.map ZG=l'.map ZG→JD l=JD l':=by
  intro l
  induction l with
  | nil=>
   intro l' hl
   cases l' with
   | nil=>rfl
   | cons a b=>simp at hl
  | cons u l ih=>
   intro l' hl
   cases l' with
   | nil=>simp at hl
   | cons w l'=>
    rw [List.map_cons,List.map_cons,List.cons.injEq] at hl
    have he : QR u=QR w:=by
     have h1 : u.nm=w.nm:=congrArg (·.1) hl.1
     have h2 : u.hs=w.hs:=congrArg (·.2.1) hl.1
     have h3 : u.ml=w.ml:=congrArg (·.2.2.1) hl.1
     have h4 : u.gs=w.gs:=congrArg (·.2.2.2.2) hl.1
     unfold QR
     rw [h1,h2,h3,h4]
    unfold JD
    rw [he,ih l' hl.2]
 have hnm : us.map (·.nm)=ws.map (·.nm):=by
  have h1:=congrArg (List.map (·.1)) h
  rw [List.map_map,List.map_map] at h1
  exact h1
 have hlen : us.length=ws.length:=by
  have h1:=congrArg List.length h
  rwa [List.length_map,List.length_map] at h1
 unfold WL Zbk Zet
 rw [hfirst us ws h,hnm,hlen,hrest us ws [] [] h rfl]
theorem ROK.keys {us ws : List Zm} (hO : ROK s us) (h : us.map ZG=ws.map ZG) : ROK s ws:=⟨by
 have h1:=congrArg (List.map (·.1)) h
 rw [List.map_map,List.map_map] at h1
 have h1 : us.map (·.nm)=ws.map (·.nm):=h1
 have h2 : (us.map (·.nm)).Pairwise (· < ·):=by rw [List.pairwise_map];exact hO.rise
 rw [h1,List.pairwise_map] at h2
 exact h2,fun key=>by rw [← h];exact hO.look key⟩
end
end Go.Proofs.YtedkoimihknggaaGreatDoor.A

