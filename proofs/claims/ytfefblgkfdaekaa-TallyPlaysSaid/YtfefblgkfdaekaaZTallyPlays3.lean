/- What the law TallyPlays needs (part 3). -/
import Derived.Test.YtfefblgkfdaekaaZTallyPlays2
namespace Go.Proofs.Ytfefblgkfdaekaa.A
set_option linter.unusedVariables false
set_option linter.unusedSimpArgs false
open Go.Proofs Go.Proofs.Ytfefblgkfdaekaa
def tly (ns : List Int) : Zo:=.cells (ns.map iv) 1 false false
def inT (k : Int) : Prop:=0≤k∧k < 16
instance (k : Int) : Decidable (inT k):=by unfold inT;infer_instance
def Zw (ns : List Int) (k : Int) : Int:=if inT k then ns.getD k.toNat 0 else 0
theorem Kx {n : Nat} {id : Nat} {k : Int} {H : Zb} : R (n+1) Q9 [pt id,iv k] H=some (if inT k then pa id k.toNat else .pointer none,H):=by
 rw [R,Zaw rfl]
 unfold inT
 by_cases h1 : k < 0
 ·have h2 : ¬ (0≤k):=by omega
  simp [JI,↓Zm,Zn,↓ZH,Zx,Zv,Zu,↓Zj,QG,ZR,QX,ZB,Z1,ZC,Z2,Qe,ZE,Qp,ZK,Qi,ZY,ZT,Qs,Zt,Z7,Q4,Q1,Z6,ZS,QD,ZU,Qw,QC,QA,Qn,Qj,Z5,ZN,Qu,Qk,Qr,Qx,Qo,QF,QH,↓Ja,QE,↓g_r,Q3,Bool.not_true,Bool.not_false,Bool.false_eq_true,Bool.true_eq_false,reduceIte,List.tail_cons,List.headD_cons,decide_true,decide_false,cond_true,cond_false,Nat.beq_refl,Q8,QV,QJ,QO,Q7,Q6,QT,QW,Q2,QQ,Qz,Qt,QB,ZL,List.replicate,ZA,Zz,ZI,ZF,ZG,QS,ZZ,ZX,Qy,h1,h2]
 ·by_cases h3 : k≥16
  ·have h2 : ¬ (k < 16):=by omega
   simp [JI,↓Zm,Zn,↓ZH,Zx,Zv,Zu,↓Zj,QG,ZR,QX,ZB,Z1,ZC,Z2,Qe,ZE,Qp,ZK,Qi,ZY,ZT,Qs,Zt,Z7,Q4,Q1,Z6,ZS,QD,ZU,Qw,QC,QA,Qn,Qj,Z5,ZN,Qu,Qk,Qr,Qx,Qo,QF,QH,↓Ja,QE,↓g_r,Q3,Bool.not_true,Bool.not_false,Bool.false_eq_true,Bool.true_eq_false,reduceIte,List.tail_cons,List.headD_cons,decide_true,decide_false,cond_true,cond_false,Nat.beq_refl,Q8,QV,QJ,QO,Q7,Q6,QT,QW,Q2,QQ,Qz,Qt,QB,ZL,List.replicate,ZA,Zz,ZI,ZF,ZG,QS,ZZ,ZX,Qy,h1,h2,h3]
  ·have h2 : 0≤k∧k < 16:=by omega
   simp [JI,↓Zm,Zn,↓ZH,Zx,Zv,Zu,↓Zj,QG,ZR,QX,ZB,Z1,ZC,Z2,Qe,ZE,Qp,ZK,Qi,ZY,ZT,Qs,Zt,Z7,Q4,Q1,Z6,ZS,QD,ZU,Qw,QC,QA,Qn,Qj,Z5,ZN,Qu,Qk,Qr,Qx,Qo,QF,QH,↓Ja,QE,↓g_r,Q3,Bool.not_true,Bool.not_false,Bool.false_eq_true,Bool.true_eq_false,reduceIte,List.tail_cons,List.headD_cons,decide_true,decide_false,cond_true,cond_false,Nat.beq_refl,Q8,QV,QJ,QO,Q7,Q6,QT,QW,Q2,QQ,Qz,Qt,QB,ZL,List.replicate,ZA,Zz,ZI,ZF,ZG,QS,ZZ,ZX,Qy,h1,h2,h3]
theorem Zb5 {n id o : Nat} {x : Int} {cs : List Value} {es : Nat} {g ro : Bool} {H : Zb} (h : H[id]?=some (.cells cs es g ro)) (hx : cs[o]?=some (iv x)) : R (n+2) Qm [pa id o] H=some (iv x,H):=by
 rw [R,Ki rfl]
 simp [JK,↓Zm,Zn,↓ZH,Zx,Zv,Zu,↓Zj,QG,ZR,QX,ZB,Z1,ZC,Z2,Qe,ZE,Qp,ZK,Qi,ZY,ZT,Qs,Zt,Z7,Q4,Q1,Z6,ZS,QD,ZU,Qw,QC,QA,Qn,Qj,Z5,ZN,Qu,Qk,Qr,Qx,Qo,QF,QH,↓Ja,QE,↓g_r,Q3,Bool.not_true,Bool.not_false,Bool.false_eq_true,Bool.true_eq_false,reduceIte,List.tail_cons,List.headD_cons,decide_true,decide_false,cond_true,cond_false,Nat.beq_refl,Q8,QV,QJ,QO,Q7,Q6,QT,QW,Q2,QQ,Qz,Qt,QB,ZL,List.replicate,ZA,Zz,ZI,ZF,ZG,QS,ZZ,ZX,Qy,Kk,WM,h,hx]
theorem ZeB {n id o : Nat} {x y : Int} {ns : List Int} {H : Zb} (h : H[id]?=some (tly ns)) (hx : ns[o]?=some x) : R (n+2) Jb [pa id o,iv y] H=some (.tuple #[],H.set id (tly (ns.set o y))):=by
 rw [R,Kd rfl]
 unfold tly at h ⊢
 obtain ⟨ho,hx2⟩:=List.getElem?_eq_some_iff.1 hx
 simp [JC,↓Zm,Zn,↓ZH,Zx,Zv,Zu,↓Zj,QG,ZR,QX,ZB,Z1,ZC,Z2,Qe,ZE,Qp,ZK,Qi,ZY,ZT,Qs,Zt,Z7,Q4,Q1,Z6,ZS,QD,ZU,Qw,QC,QA,Qn,Qj,Z5,ZN,Qu,Qk,Qr,Qx,Qo,QF,QH,↓Ja,QE,↓g_r,Q3,Bool.not_true,Bool.not_false,Bool.false_eq_true,Bool.true_eq_false,reduceIte,List.tail_cons,List.headD_cons,decide_true,decide_false,cond_true,cond_false,Nat.beq_refl,Q8,QV,QJ,QO,Q7,Q6,QT,QW,Q2,QQ,Qz,Qt,QB,ZL,List.replicate,ZA,Zz,ZI,ZF,ZG,QS,ZZ,ZX,Qy,Kg,KN,h,ho,oneCell]
theorem Zfd {n id o : Nat} {x y : Int} {ns : List Int} {H : Zb} (h : H[id]?=some (tly ns)) (hx : ns[o]?=some x) : R (n+2) Jg [pa id o,iv y] H=some (iv (IntKind.i64.wrap (x+y)),H.set id (tly (ns.set o (IntKind.i64.wrap (x+y))))):=by
 rw [R,Ku rfl]
 unfold tly at h ⊢
 obtain ⟨ho,hx2⟩:=List.getElem?_eq_some_iff.1 hx
 simp [JR,↓Zm,Zn,↓ZH,Zx,Zv,Zu,↓Zj,QG,ZR,QX,ZB,Z1,ZC,Z2,Qe,ZE,Qp,ZK,Qi,ZY,ZT,Qs,Zt,Z7,Q4,Q1,Z6,ZS,QD,ZU,Qw,QC,QA,Qn,Qj,Z5,ZN,Qu,Qk,Qr,Qx,Qo,QF,QH,↓Ja,QE,↓g_r,Q3,Bool.not_true,Bool.not_false,Bool.false_eq_true,Bool.true_eq_false,reduceIte,List.tail_cons,List.headD_cons,decide_true,decide_false,cond_true,cond_false,Nat.beq_refl,Q8,QV,QJ,QO,Q7,Q6,QT,QW,Q2,QQ,Qz,Qt,QB,ZL,List.replicate,ZA,Zz,ZI,ZF,ZG,QS,ZZ,ZX,Qy,KD,ZaR,h,ho,hx,hx2,oneCell]
theorem Zeo {n id o : Nat} {x a b : Int} {ns : List Int} {H : Zb} (h : H[id]?=some (tly ns)) (hx : ns[o]?=some x) :
  R (n+2) ZM [pa id o,iv a,iv b] H=if x=a then some (.bool true,H.set id (tly (ns.set o b))) else some (.bool false,H):=by
 rw [R,Yd rfl]
 unfold tly at h ⊢
 obtain ⟨ho,hx2⟩:=List.getElem?_eq_some_iff.1 hx
 by_cases hxa : x=a
 ·simp [Z8,↓Zm,Zn,↓ZH,Zx,Zv,Zu,↓Zj,QG,ZR,QX,ZB,Z1,ZC,Z2,Qe,ZE,Qp,ZK,Qi,ZY,ZT,Qs,Zt,Z7,Q4,Q1,Z6,ZS,QD,ZU,Qw,QC,QA,Qn,Qj,Z5,ZN,Qu,Qk,Qr,Qx,Qo,QF,QH,↓Ja,QE,↓g_r,Q3,Bool.not_true,Bool.not_false,Bool.false_eq_true,Bool.true_eq_false,reduceIte,List.tail_cons,List.headD_cons,decide_true,decide_false,cond_true,cond_false,Nat.beq_refl,Q8,QV,QJ,QO,Q7,Q6,QT,QW,Q2,QQ,Qz,Qt,QB,ZL,List.replicate,ZA,Zz,ZI,ZF,ZG,QS,ZZ,ZX,Qy,Ji,WZ,h,ho,hx,hx2,hxa,oneCell]
 ·simp [Z8,↓Zm,Zn,↓ZH,Zx,Zv,Zu,↓Zj,QG,ZR,QX,ZB,Z1,ZC,Z2,Qe,ZE,Qp,ZK,Qi,ZY,ZT,Qs,Zt,Z7,Q4,Q1,Z6,ZS,QD,ZU,Qw,QC,QA,Qn,Qj,Z5,ZN,Qu,Qk,Qr,Qx,Qo,QF,QH,↓Ja,QE,↓g_r,Q3,Bool.not_true,Bool.not_false,Bool.false_eq_true,Bool.true_eq_false,reduceIte,List.tail_cons,List.headD_cons,decide_true,decide_false,cond_true,cond_false,Nat.beq_refl,Q8,QV,QJ,QO,Q7,Q6,QT,QW,Q2,QQ,Qz,Qt,QB,ZL,List.replicate,ZA,Zz,ZI,ZF,ZG,QS,ZZ,ZX,Qy,Ji,WZ,h,ho,hx,hx2,hxa,oneCell]
section
variable {n id : Nat} {k : Int} {ns : List Int} {H : Zb}
theorem Y2 (hl : ns.length=16) (hk : inT k) : ns[k.toNat]?=some (Zw ns k):=by
 unfold Zw
 rw [if_pos hk]
 have : k.toNat < ns.length:=by unfold inT at hk;omega
 rw [List.getElem?_eq_getElem this,List.getD_eq_getElem?_getD,List.getElem?_eq_getElem this];rfl
theorem Zc9 (h : H[id]?=some (tly ns)) (hl : ns.length=16) : R (n+3) Qf [pt id,iv k] H=some (iv (Zw ns k),H):=by
 rw [R,W6 rfl]
 by_cases hk : inT k
 ·have e:=Zb5 (n:=n) h (o:=k.toNat) (x:=Zw ns k) (by simp [Y2 hl hk])
  simp [JX,↓Zm,Zn,↓ZH,Zx,Zv,Zu,↓Zj,QG,ZR,QX,ZB,Z1,ZC,Z2,Qe,ZE,Qp,ZK,Qi,ZY,ZT,Qs,Zt,Z7,Q4,Q1,Z6,ZS,QD,ZU,Qw,QC,QA,Qn,Qj,Z5,ZN,Qu,Qk,Qr,Qx,Qo,QF,QH,↓Ja,QE,↓g_r,Q3,Bool.not_true,Bool.not_false,Bool.false_eq_true,Bool.true_eq_false,reduceIte,List.tail_cons,List.headD_cons,decide_true,decide_false,cond_true,cond_false,Nat.beq_refl,Q8,QV,QJ,QO,Q7,Q6,QT,QW,Q2,QQ,Qz,Qt,QB,ZL,List.replicate,ZA,Zz,ZI,ZF,ZG,QS,ZZ,ZX,Qy,Kx,hk,e]
 ·simp [JX,↓Zm,Zn,↓ZH,Zx,Zv,Zu,↓Zj,QG,ZR,QX,ZB,Z1,ZC,Z2,Qe,ZE,Qp,ZK,Qi,ZY,ZT,Qs,Zt,Z7,Q4,Q1,Z6,ZS,QD,ZU,Qw,QC,QA,Qn,Qj,Z5,ZN,Qu,Qk,Qr,Qx,Qo,QF,QH,↓Ja,QE,↓g_r,Q3,Bool.not_true,Bool.not_false,Bool.false_eq_true,Bool.true_eq_false,reduceIte,List.tail_cons,List.headD_cons,decide_true,decide_false,cond_true,cond_false,Nat.beq_refl,Q8,QV,QJ,QO,Q7,Q6,QT,QW,Q2,QQ,Qz,Qt,QB,ZL,List.replicate,ZA,Zz,ZI,ZF,ZG,QS,ZZ,ZX,Qy,Kx,hk,ZaZ,Zw]
theorem ZcU {y : Int} (h : H[id]?=some (tly ns)) (hl : ns.length=16) : R (n+3) ZJ [pt id,iv k,iv y] H=
  if inT k then some (iv (IntKind.i64.wrap (Zw ns k+y)),H.set id (tly (ns.set k.toNat (IntKind.i64.wrap (Zw ns k+y))))) else some (iv 0,H):=by
 rw [R,W7 rfl]
 by_cases hk : inT k
 ·have e:=Zfd (n:=n) (y:=y) h (Y2 hl hk)
  simp [JW,↓Zm,Zn,↓ZH,Zx,Zv,Zu,↓Zj,QG,ZR,QX,ZB,Z1,ZC,Z2,Qe,ZE,Qp,ZK,Qi,ZY,ZT,Qs,Zt,Z7,Q4,Q1,Z6,ZS,QD,ZU,Qw,QC,QA,Qn,Qj,Z5,ZN,Qu,Qk,Qr,Qx,Qo,QF,QH,↓Ja,QE,↓g_r,Q3,Bool.not_true,Bool.not_false,Bool.false_eq_true,Bool.true_eq_false,reduceIte,List.tail_cons,List.headD_cons,decide_true,decide_false,cond_true,cond_false,Nat.beq_refl,Q8,QV,QJ,QO,Q7,Q6,QT,QW,Q2,QQ,Qz,Qt,QB,ZL,List.replicate,ZA,Zz,ZI,ZF,ZG,QS,ZZ,ZX,Qy,Kx,hk,e]
 ·simp [JW,↓Zm,Zn,↓ZH,Zx,Zv,Zu,↓Zj,QG,ZR,QX,ZB,Z1,ZC,Z2,Qe,ZE,Qp,ZK,Qi,ZY,ZT,Qs,Zt,Z7,Q4,Q1,Z6,ZS,QD,ZU,Qw,QC,QA,Qn,Qj,Z5,ZN,Qu,Qk,Qr,Qx,Qo,QF,QH,↓Ja,QE,↓g_r,Q3,Bool.not_true,Bool.not_false,Bool.false_eq_true,Bool.true_eq_false,reduceIte,List.tail_cons,List.headD_cons,decide_true,decide_false,cond_true,cond_false,Nat.beq_refl,Q8,QV,QJ,QO,Q7,Q6,QT,QW,Q2,QQ,Qz,Qt,QB,ZL,List.replicate,ZA,Zz,ZI,ZF,ZG,QS,ZZ,ZX,Qy,Kx,hk,ZaZ,Zw]
theorem Ze9 {x y : Int} (h : H[id]?=some (tly ns)) (hl : ns.length=16) : R (n+3) QN [pt id,iv k,iv x,iv y] H=
  if inT k∧Zw ns k=x then some (.bool true,H.set id (tly (ns.set k.toNat y))) else some (.bool false,H):=by
 rw [R,WO rfl]
 by_cases hk : inT k
 ·have e:=Zeo (n:=n) (a:=x) (b:=y) h (Y2 hl hk)
  by_cases hx : Zw ns k=x
  ·rw [if_pos hx] at e
   simp [Jo,↓Zm,Zn,↓ZH,Zx,Zv,Zu,↓Zj,QG,ZR,QX,ZB,Z1,ZC,Z2,Qe,ZE,Qp,ZK,Qi,ZY,ZT,Qs,Zt,Z7,Q4,Q1,Z6,ZS,QD,ZU,Qw,QC,QA,Qn,Qj,Z5,ZN,Qu,Qk,Qr,Qx,Qo,QF,QH,↓Ja,QE,↓g_r,Q3,Bool.not_true,Bool.not_false,Bool.false_eq_true,Bool.true_eq_false,reduceIte,List.tail_cons,List.headD_cons,decide_true,decide_false,cond_true,cond_false,Nat.beq_refl,Q8,QV,QJ,QO,Q7,Q6,QT,QW,Q2,QQ,Qz,Qt,QB,ZL,List.replicate,ZA,Zz,ZI,ZF,ZG,QS,ZZ,ZX,Qy,Kx,hk,e,hx]
  ·rw [if_neg hx] at e
   simp [Jo,↓Zm,Zn,↓ZH,Zx,Zv,Zu,↓Zj,QG,ZR,QX,ZB,Z1,ZC,Z2,Qe,ZE,Qp,ZK,Qi,ZY,ZT,Qs,Zt,Z7,Q4,Q1,Z6,ZS,QD,ZU,Qw,QC,QA,Qn,Qj,Z5,ZN,Qu,Qk,Qr,Qx,Qo,QF,QH,↓Ja,QE,↓g_r,Q3,Bool.not_true,Bool.not_false,Bool.false_eq_true,Bool.true_eq_false,reduceIte,List.tail_cons,List.headD_cons,decide_true,decide_false,cond_true,cond_false,Nat.beq_refl,Q8,QV,QJ,QO,Q7,Q6,QT,QW,Q2,QQ,Qz,Qt,QB,ZL,List.replicate,ZA,Zz,ZI,ZF,ZG,QS,ZZ,ZX,Qy,Kx,hk,e,hx]
 ·simp [Jo,↓Zm,Zn,↓ZH,Zx,Zv,Zu,↓Zj,QG,ZR,QX,ZB,Z1,ZC,Z2,Qe,ZE,Qp,ZK,Qi,ZY,ZT,Qs,Zt,Z7,Q4,Q1,Z6,ZS,QD,ZU,Qw,QC,QA,Qn,Qj,Z5,ZN,Qu,Qk,Qr,Qx,Qo,QF,QH,↓Ja,QE,↓g_r,Q3,Bool.not_true,Bool.not_false,Bool.false_eq_true,Bool.true_eq_false,reduceIte,List.tail_cons,List.headD_cons,decide_true,decide_false,cond_true,cond_false,Nat.beq_refl,Q8,QV,QJ,QO,Q7,Q6,QT,QW,Q2,QQ,Qz,Qt,QB,ZL,List.replicate,ZA,Zz,ZI,ZF,ZG,QS,ZZ,ZX,Qy,Kx,hk,ZaZ,Zw]
theorem Zbb {y : Int} (h : H[id]?=some (tly ns)) (hl : ns.length=16) : R (n+3) ZV [pt id,iv k,iv y] H=
  if inT k∧Zw ns k < y then some (.bool true,H.set id (tly (ns.set k.toNat y))) else some (.bool false,H):=by
 rw [R,Wj rfl]
 by_cases hk : inT k
 ·have e1:=Zb5 (n:=n) h (o:=k.toNat) (x:=Zw ns k) (by simp [Y2 hl hk])
  have e:=Zeo (n:=n) (a:=Zw ns k) (b:=y) h (Y2 hl hk)
  rw [if_pos rfl] at e
  by_cases hx : Zw ns k < y
  ·have hx2 : ¬ (Zw ns k≥y):=by omega
   have : Qb (c2 (Zq.l1 (R (n+2)))) [iv y,pa id k.toNat] H=some (.ret (.bool true),H.set id (tly (ns.set k.toNat y))):=by
    refine Zcb ?_
    simp [Zq.l1,↓Zm,Zn,↓ZH,Zx,Zv,Zu,↓Zj,QG,ZR,QX,ZB,Z1,ZC,Z2,Qe,ZE,Qp,ZK,Qi,ZY,ZT,Qs,Zt,Z7,Q4,Q1,Z6,ZS,QD,ZU,Qw,QC,QA,Qn,Qj,Z5,ZN,Qu,Qk,Qr,Qx,Qo,QF,QH,↓Ja,QE,↓g_r,Q3,Bool.not_true,Bool.not_false,Bool.false_eq_true,Bool.true_eq_false,reduceIte,List.tail_cons,List.headD_cons,decide_true,decide_false,cond_true,cond_false,Nat.beq_refl,Q8,QV,QJ,QO,Q7,Q6,QT,QW,Q2,QQ,Qz,Qt,QB,ZL,List.replicate,ZA,Zz,ZI,ZF,ZG,QS,ZZ,ZX,Qy,hk,e,e1,hx2]
   simp only [Zq,↓Zm,Zn,↓ZH,Zx,Zv,Zu,↓Zj,QG,ZR,QX,ZB,Z1,ZC,Z2,Qe,ZE,Qp,ZK,Qi,ZY,ZT,Qs,Zt,Z7,Q4,Q1,Z6,ZS,QD,ZU,Qw,QC,QA,Qn,Qj,Z5,ZN,Qu,Qk,Qr,Qx,Qo,QF,QH,↓Ja,QE,↓g_r,Q3,Bool.not_true,Bool.not_false,Bool.false_eq_true,Bool.true_eq_false,reduceIte,List.tail_cons,List.headD_cons,decide_true,decide_false,cond_true,cond_false,Nat.beq_refl,Q8,QV,QJ,QO,Q7,Q6,QT,QW,Q2,QQ,Qz,Qt,QB,ZL,List.replicate,ZA,Zz,ZI,ZF,ZG,QS,ZZ,ZX,Qy,Kx,hk,this,hx,and_self]
  ·have hx2 : (Zw ns k≥y):=by omega
   have : Qb (c2 (Zq.l1 (R (n+2)))) [iv y,pa id k.toNat] H=some (.ret (.bool false),H):=by
    refine Zcb ?_
    simp [Zq.l1,↓Zm,Zn,↓ZH,Zx,Zv,Zu,↓Zj,QG,ZR,QX,ZB,Z1,ZC,Z2,Qe,ZE,Qp,ZK,Qi,ZY,ZT,Qs,Zt,Z7,Q4,Q1,Z6,ZS,QD,ZU,Qw,QC,QA,Qn,Qj,Z5,ZN,Qu,Qk,Qr,Qx,Qo,QF,QH,↓Ja,QE,↓g_r,Q3,Bool.not_true,Bool.not_false,Bool.false_eq_true,Bool.true_eq_false,reduceIte,List.tail_cons,List.headD_cons,decide_true,decide_false,cond_true,cond_false,Nat.beq_refl,Q8,QV,QJ,QO,Q7,Q6,QT,QW,Q2,QQ,Qz,Qt,QB,ZL,List.replicate,ZA,Zz,ZI,ZF,ZG,QS,ZZ,ZX,Qy,hk,e,e1,hx2]
   simp only [Zq,↓Zm,Zn,↓ZH,Zx,Zv,Zu,↓Zj,QG,ZR,QX,ZB,Z1,ZC,Z2,Qe,ZE,Qp,ZK,Qi,ZY,ZT,Qs,Zt,Z7,Q4,Q1,Z6,ZS,QD,ZU,Qw,QC,QA,Qn,Qj,Z5,ZN,Qu,Qk,Qr,Qx,Qo,QF,QH,↓Ja,QE,↓g_r,Q3,Bool.not_true,Bool.not_false,Bool.false_eq_true,Bool.true_eq_false,reduceIte,List.tail_cons,List.headD_cons,decide_true,decide_false,cond_true,cond_false,Nat.beq_refl,Q8,QV,QJ,QO,Q7,Q6,QT,QW,Q2,QQ,Qz,Qt,QB,ZL,List.replicate,ZA,Zz,ZI,ZF,ZG,QS,ZZ,ZX,Qy,Kx,hk,this,hx,and_false]
 ·have : Qb (c2 (Zq.l1 (R (n+2)))) [iv y,.pointer none] H=some (.ext 0 [],H):=by
   refine YA ?_
   simp [Zq.l1,↓Zm,Zn,↓ZH,Zx,Zv,Zu,↓Zj,QG,ZR,QX,ZB,Z1,ZC,Z2,Qe,ZE,Qp,ZK,Qi,ZY,ZT,Qs,Zt,Z7,Q4,Q1,Z6,ZS,QD,ZU,Qw,QC,QA,Qn,Qj,Z5,ZN,Qu,Qk,Qr,Qx,Qo,QF,QH,↓Ja,QE,↓g_r,Q3,Bool.not_true,Bool.not_false,Bool.false_eq_true,Bool.true_eq_false,reduceIte,List.tail_cons,List.headD_cons,decide_true,decide_false,cond_true,cond_false,Nat.beq_refl,Q8,QV,QJ,QO,Q7,Q6,QT,QW,Q2,QQ,Qz,Qt,QB,ZL,List.replicate,ZA,Zz,ZI,ZF,ZG,QS,ZZ,ZX,Qy,ZaZ]
  simp only [Zq,↓Zm,Zn,↓ZH,Zx,Zv,Zu,↓Zj,QG,ZR,QX,ZB,Z1,ZC,Z2,Qe,ZE,Qp,ZK,Qi,ZY,ZT,Qs,Zt,Z7,Q4,Q1,Z6,ZS,QD,ZU,Qw,QC,QA,Qn,Qj,Z5,ZN,Qu,Qk,Qr,Qx,Qo,QF,QH,↓Ja,QE,↓g_r,Q3,Bool.not_true,Bool.not_false,Bool.false_eq_true,Bool.true_eq_false,reduceIte,List.tail_cons,List.headD_cons,decide_true,decide_false,cond_true,cond_false,Nat.beq_refl,Q8,QV,QJ,QO,Q7,Q6,QT,QW,Q2,QQ,Qz,Qt,QB,ZL,List.replicate,ZA,Zz,ZI,ZF,ZG,QS,ZZ,ZX,Qy,Kx,hk,this,false_and]
end
def Ze : List Int:=List.replicate 16 0
theorem Zdz (n : Nat) (H : Zb) : R (n+1) J5 [] H=some (pt H.length,H++[tly Ze]):=by
 rw [R,ZbP rfl]
 simp [K7,↓Zm,Zn,↓ZH,Zx,Zv,Zu,↓Zj,QG,ZR,QX,ZB,Z1,ZC,Z2,Qe,ZE,Qp,ZK,Qi,ZY,ZT,Qs,Zt,Z7,Q4,Q1,Z6,ZS,QD,ZU,Qw,QC,QA,Qn,Qj,Z5,ZN,Qu,Qk,Qr,Qx,Qo,QF,QH,↓Ja,QE,↓g_r,Q3,Bool.not_true,Bool.not_false,Bool.false_eq_true,Bool.true_eq_false,reduceIte,List.tail_cons,List.headD_cons,decide_true,decide_false,cond_true,cond_false,Nat.beq_refl,Q8,QV,QJ,QO,Q7,Q6,QT,QW,Q2,QQ,Qz,Qt,QB,ZL,List.replicate,ZA,Zz,ZI,ZF,ZG,QS,ZZ,ZX,Qy,KC,Value.cells,oneCell,tly,Ze,List.replicate]
theorem Zb1 {ns : List Int} {k y : Int} (hl : ns.length=16) (hk : inT k) : Zw (ns.set k.toNat y) k=y:=by
 unfold Zw
 rw [if_pos hk]
 have : k.toNat < ns.length:=by unfold inT at hk;omega
 simp [List.getD_eq_getElem?_getD,this]
theorem Zb7 (n : Nat) (H : Zb) : ∃ H',R (n+4) J2 [] H=some (.bool true,H')∧HLe H H':=by
 have h0 : (H++[tly Ze])[H.length]?=some (tly Ze):=QK
 have hz : Ze.length=16:=rfl
 have e1:=ZcU (n:=n) (k:=2) (y:=5) h0 hz
 rw [if_pos (by decide),ZcK] at e1
 have h1 : (H++[tly (Ze.set 2 5)])[H.length]?=some (tly (Ze.set 2 5)):=QK
 have e2:=Zbb (n:=n) (k:=2) (y:=4) h1 rfl
 rw [if_neg (by decide)] at e2
 have e3:=Zbb (n:=n) (k:=2) (y:=9) h1 rfl
 rw [if_pos (by decide),ZcK,show (Ze.set 2 5).set (2 : Int).toNat 9=Ze.set 2 9 from rfl] at e3
 have h2 : (H++[tly (Ze.set 2 9)])[H.length]?=some (tly (Ze.set 2 9)):=QK
 have e4:=Zc9 (n:=n) (k:=2) h2 rfl
 have a1 : IntKind.i64.wrap (Zw Ze 2+5)=5:=by decide
 have a2 : Zw (Ze.set 2 9) 2=9:=by decide
 rw [a1] at e1
 rw [a2] at e4
 refine ⟨_,?_,.app H [tly (Ze.set 2 9)]⟩
 rw [R,Zbm rfl]
 have t2 : (2 : Int).toNat=2:=rfl
 rw [t2] at *
 simp [Kf,↓Zm,Zn,↓ZH,Zx,Zv,Zu,↓Zj,QG,ZR,QX,ZB,Z1,ZC,Z2,Qe,ZE,Qp,ZK,Qi,ZY,ZT,Qs,Zt,Z7,Q4,Q1,Z6,ZS,QD,ZU,Qw,QC,QA,Qn,Qj,Z5,ZN,Qu,Qk,Qr,Qx,Qo,QF,QH,↓Ja,QE,↓g_r,Q3,Bool.not_true,Bool.not_false,Bool.false_eq_true,Bool.true_eq_false,reduceIte,List.tail_cons,List.headD_cons,decide_true,decide_false,cond_true,cond_false,Nat.beq_refl,Q8,QV,QJ,QO,Q7,Q6,QT,QW,Q2,QQ,Qz,Qt,QB,ZL,List.replicate,ZA,Zz,ZI,ZF,ZG,QS,ZZ,ZX,Qy,Zdz,e1,e2,e3,e4]
theorem But.trans {id : Nat} {H H' H'' : Zb} (h : But id H H') (h' : But id H' H'') : But id H H'':=fun j hj=>(h' j hj).trans (h j hj)
theorem Zch {m id q : Nat} {r : Value} {ns : List Int} (hl : ns.length=16) (hq : q≠id) : ∀ (d i : Nat) {os : List Int} {H : Zb},16 - i=d→i≤16→os.length=16→(∀ j,j < i→os[j]?=ns[j]?)→
  H[id]?=some (tly ns)→H[q]?=some (tly os)→
  ∃ H',Qb (c4 (Qc.l1 (R (m+2)))) [pt id,r,pt q,iv i] H=some (.ext 0 [r,pt q],H')∧H'[q]?=some (tly ns)∧But q H H'
 | 0,i,os,H,hd,hi,ho,heq,h1,h2=>by
  have : i=16:=by omega
  subst this
  have : os=ns:=by
   apply List.ext_getElem?
   intro j
   rcases Nat.lt_or_ge j 16 with hj | hj
   ·exact heq j hj
   ·rw [List.getElem?_eq_none (by omega),List.getElem?_eq_none (by omega)]
  subst this
  refine ⟨H,YA ?_,h2,fun _ _=>rfl⟩
  simp [Qc.l1,↓Zm,Zn,↓ZH,Zx,Zv,Zu,↓Zj,QG,ZR,QX,ZB,Z1,ZC,Z2,Qe,ZE,Qp,ZK,Qi,ZY,ZT,Qs,Zt,Z7,Q4,Q1,Z6,ZS,QD,ZU,Qw,QC,QA,Qn,Qj,Z5,ZN,Qu,Qk,Qr,Qx,Qo,QF,QH,↓Ja,QE,↓g_r,Q3,Bool.not_true,Bool.not_false,Bool.false_eq_true,Bool.true_eq_false,reduceIte,List.tail_cons,List.headD_cons,decide_true,decide_false,cond_true,cond_false,Nat.beq_refl,Q8,QV,QJ,QO,Q7,Q6,QT,QW,Q2,QQ,Qz,Qt,QB,ZL,List.replicate,ZA,Zz,ZI,ZF,ZG,QS,ZZ,ZX,Qy]
 | d+1,i,os,H,hd,hi,ho,heq,h1,h2=>by
  have hi' : i < ns.length:=by omega
  have e:=Zb5 (n:=m) h1 (o:=i) (x:=ns[i]) (by simp [hi'])
  have hw : IntKind.i64.wrap ((i : Int)+1)=((i+1 : Nat) : Int):=by rw [w64 (by omega) (by omega)];simp
  have hb : (i : Int) < 16:=by omega
  have hr : Qc.l1 (R (m+2)) (pt id) r (pt q) (iv i) H=some (.nrm [pt id,r,pt q,iv ((i+1 : Nat) : Int)],H.set q (tly (os.set i ns[i]))):=by
   have h2' : H[q]?=some (.cells (os.map iv) 1 false false):=h2
   have hoi : i < os.length:=by omega
   simp [Qc.l1,↓Zm,Zn,↓ZH,Zx,Zv,Zu,↓Zj,QG,ZR,QX,ZB,Z1,ZC,Z2,Qe,ZE,Qp,ZK,Qi,ZY,ZT,Qs,Zt,Z7,Q4,Q1,Z6,ZS,QD,ZU,Qw,QC,QA,Qn,Qj,Z5,ZN,Qu,Qk,Qr,Qx,Qo,QF,QH,↓Ja,QE,↓g_r,Q3,Bool.not_true,Bool.not_false,Bool.false_eq_true,Bool.true_eq_false,reduceIte,List.tail_cons,List.headD_cons,decide_true,decide_false,cond_true,cond_false,Nat.beq_refl,Q8,QV,QJ,QO,Q7,Q6,QT,QW,Q2,QQ,Qz,Qt,QB,ZL,List.replicate,ZA,Zz,ZI,ZF,ZG,QS,ZZ,ZX,Qy,hb,e,h2',hoi,oneCell,hw,tly]
  have g1 : (H.set q (tly (os.set i ns[i])))[id]?=some (tly ns):=by rw [Zdd hq];exact h1
  obtain ⟨H2,e2,g2,b2⟩:=Zch (m:=m) (r:=r) hl hq d (i+1) (os:=os.set i ns[i]) (H:=H.set q (tly (os.set i ns[i]))) (by omega) (by omega) (by simpa using ho) (fun j hj=>by
   by_cases hji : i=j
   ·subst hji
    rw [List.getElem?_set_self (by omega),List.getElem?_eq_getElem hi']
   ·rw [List.getElem?_set_ne hji];exact heq j (by omega)) g1 (Jk h2)
  exact ⟨H2,(YI hr).trans e2,g2,But.set.trans b2⟩
theorem Zc4 {n id : Nat} {ns : List Int} {H : Zb} (h : H[id]?=some (tly ns)) (hl : ns.length=16) : ∃ H',R (n+3) QR [pt id] H=some (.agg (ns.map iv).toArray,H')∧HLe H H':=by
 have hid:=QY h
 have hz : tly Ze=.cells [iv 0,iv 0,iv 0,iv 0,iv 0,iv 0,iv 0,iv 0,iv 0,iv 0,iv 0,iv 0,iv 0,iv 0,iv 0,iv 0] 1 false false:=rfl
 obtain ⟨H2,e,g,b⟩:=Zch (m:=n) (id:=id) (q:=H.length+1) (r:=pt H.length) hl (by omega) 16 0 (os:=Ze) (H:=H++[tly Ze]++[tly Ze]) (by omega) (by omega) rfl (fun j hj=>by omega)
  (Yp (Yp h)) (by
   have : H.length+1=(H++[tly Ze]).length:=by simp
   rw [this];exact QK)
 have g0 : H2[H.length]?=some (tly Ze):=by rw [b _ (by omega)];exact Yp QK
 refine ⟨H2.set H.length (tly ns),?_,fun i o hi=>?_⟩
 ·rw [R,W3 rfl]
  have g' : H2[H.length+1]?=some (.cells (ns.map iv) 1 false false):=g
  have g0' : H2[H.length]?=some (.cells (Ze.map iv) 1 false false):=g0
  have hzl : Ze.length=16:=rfl
  have e':=e
  rw [hz] at e'
  have hsp : splice (Ze.map iv) (ns.map iv) 0=ns.map iv:=by
   unfold splice
   rw [List.drop_eq_nil_of_le (by simp [Ze,hl])];simp
  have hall : (ns.map iv).all oneCell=true:=by simp [oneCell]
  have hlen : (H++[tly Ze]).length=H.length+1:=by simp
  have s1 : ∀ z,alc 1 (.agg #[.int .i64 0,.int .i64 0,.int .i64 0,.int .i64 0,.int .i64 0,.int .i64 0,.int .i64 0,.int .i64 0,.int .i64 0,.int .i64 0,.int .i64 0,.int .i64 0,.int .i64 0,.int .i64 0,.int .i64 0,.int .i64 0]) z=some (pt z.length,z++[tly Ze]):=fun z=>rfl
  have s2 : ldA 16 (pt (H.length+1)) H2=some (.agg (ns.map iv).toArray,H2):=by
   rw [Z1,g',ZE,if_pos (by simp [hl])]
   simp [List.take_of_length_le,hl]
  have s3 : stA 16 (pt H.length) (.agg (ns.map iv).toArray) H2=some (undef,H2.set H.length (tly ns)):=by
   rw [Z2,g0',ZK,if_pos ⟨by simp [Ze],by simp [hl],by simpa using hall⟩,show (ns.map iv).toArray.toList=ns.map iv from by simp,hsp]
   rfl
  have s4 : ldA 16 (pt H.length) (H2.set H.length (tly ns))=some (.agg (ns.map iv).toArray,H2.set H.length (tly ns)):=by
   rw [Z1,Jk g0]
   unfold tly
   rw [ZE,if_pos (by simp [hl])]
   simp [List.take_of_length_le,hl]
  rw [show ((0 : Nat) : Int)=0 from rfl] at e
  unfold Qc
  rw [Za (s1 H),Za (s1 _),hlen,WH e]
  rw [ZL,QJ,Za s2,Za s3,Za s4]
  rfl
 ·have:=QY hi
  rw [List.getElem?_set_ne (by omega),b i (by omega)]
  exact Yp (Yp hi)
def Zdb (a : Int) (ns : List Int) : Int:=ns.foldl (fun s x=>IntKind.i64.wrap (s+x)) a
theorem ZbI {n : Nat} {ns : List Int} {H : Zb} (hl : ns.length=16) : ∀ (d i : Nat) {a : Int},16 - i=d→i≤16→
  Qb (c3 (Qh.l1 (R n))) [iv a,.agg (ns.map iv).toArray,iv i] H=some (.ext 0 [iv (Zdb a (ns.drop i))],H)
 | 0,i,a,hd,hi=>by
  have : i=16:=by omega
  subst this
  refine YA ?_
  have : ns.drop 16=[]:=List.drop_eq_nil_of_le (by omega)
  simp [Qh.l1,↓Zm,Zn,↓ZH,Zx,Zv,Zu,↓Zj,QG,ZR,QX,ZB,Z1,ZC,Z2,Qe,ZE,Qp,ZK,Qi,ZY,ZT,Qs,Zt,Z7,Q4,Q1,Z6,ZS,QD,ZU,Qw,QC,QA,Qn,Qj,Z5,ZN,Qu,Qk,Qr,Qx,Qo,QF,QH,↓Ja,QE,↓g_r,Q3,Bool.not_true,Bool.not_false,Bool.false_eq_true,Bool.true_eq_false,reduceIte,List.tail_cons,List.headD_cons,decide_true,decide_false,cond_true,cond_false,Nat.beq_refl,Q8,QV,QJ,QO,Q7,Q6,QT,QW,Q2,QQ,Qz,Qt,QB,ZL,List.replicate,ZA,Zz,ZI,ZF,ZG,QS,ZZ,ZX,Qy,this,Zdb]
 | d+1,i,a,hd,hi=>by
  have hi' : i < ns.length:=by omega
  have hb : (i : Int) < 16:=by omega
  have hw : IntKind.i64.wrap ((i : Int)+1)=((i+1 : Nat) : Int):=by rw [w64 (by omega) (by omega)];simp
  have hr : Qh.l1 (R n) (iv a) (.agg (ns.map iv).toArray) (iv i) H=some (.nrm [iv (IntKind.i64.wrap (a+ns[i])),.agg (ns.map iv).toArray,iv ((i+1 : Nat) : Int)],H):=by
   simp [Qh.l1,↓Zm,Zn,↓ZH,Zx,Zv,Zu,↓Zj,QG,ZR,QX,ZB,Z1,ZC,Z2,Qe,ZE,Qp,ZK,Qi,ZY,ZT,Qs,Zt,Z7,Q4,Q1,Z6,ZS,QD,ZU,Qw,QC,QA,Qn,Qj,Z5,ZN,Qu,Qk,Qr,Qx,Qo,QF,QH,↓Ja,QE,↓g_r,Q3,Bool.not_true,Bool.not_false,Bool.false_eq_true,Bool.true_eq_false,reduceIte,List.tail_cons,List.headD_cons,decide_true,decide_false,cond_true,cond_false,Nat.beq_refl,Q8,QV,QJ,QO,Q7,Q6,QT,QW,Q2,QQ,Qz,Qt,QB,ZL,List.replicate,ZA,Zz,ZI,ZF,ZG,QS,ZZ,ZX,Qy,Zc7,hb,hi',hw]
  refine (YI hr).trans ?_
  rw [ZbI hl d (i+1) (by omega) (by omega)]
  rw [List.drop_eq_getElem_cons hi']
  rfl
theorem Zfn {n id : Nat} {ns : List Int} {H : Zb} (h : H[id]?=some (tly ns)) (hl : ns.length=16) : ∃ H',R (n+4) JY [pt id] H=some (iv (Zdb 0 ns),H')∧HLe H H':=by
 obtain ⟨H1,e,k⟩:=Zc4 (n:=n) h hl
 refine ⟨H1,?_,k⟩
 rw [R,W2 rfl]
 have e2:=ZbI (n:=n+3) (H:=H1) hl 16 0 (a:=0) (by omega) (by omega)
 rw [show ((0 : Nat) : Int)=0 from rfl,List.drop_zero] at e2
 unfold Qh
 rw [Za e,WH e2]
 rfl
end Go.Proofs.Ytfefblgkfdaekaa.A

namespace Go.Proofs.Ytfefblgkfdaekaa.A
set_option linter.unusedVariables false
set_option linter.unusedSimpArgs false
open Go.Proofs Go.Proofs.Ytfefblgkfdaekaa
variable {H H' H0 : Zb} {n q : Nat} {k y : Int} {ns os : List Int}
abbrev Z9 (ns : List Int) : Value:=.agg (ns.map iv).toArray
theorem HLe.put {H0 X : Zb} (h : HLe H0 X) {b : Nat} {o : Zo} (hb : H0.length≤b) : HLe H0 (X.set b o):=fun i v hi=>by
 have h1:=QY hi
 rw [List.getElem?_set_ne (by omega)]
 exact h i v hi
theorem Zbg : alc 1 (Z9 ns) H=some (pt H.length,H++[tly ns]):=by
 unfold alc ZdR
 have e : (Z9 ns).cells.toList=ns.map iv:=by simp [Value.cells,Z9]
 rw [e,if_pos (by simp [oneCell])]
 rfl
theorem WY : alc 1 (.agg #[.int .i64 0,.int .i64 0,.int .i64 0,.int .i64 0,.int .i64 0,.int .i64 0,.int .i64 0,.int .i64 0,.int .i64 0,.int .i64 0,.int .i64 0,.int .i64 0,.int .i64 0,.int .i64 0,.int .i64 0,.int .i64 0]) H=some (pt H.length,H++[tly Ze]):=rfl
theorem Y8 (h : H[q]?=some (tly ns)) (hl : ns.length=16) : ldA 16 (pt q) H=some (Z9 ns,H):=by
 unfold tly at h
 rw [Z1,h,ZE,if_pos (by simp [hl])]
 simp [List.take_of_length_le,hl,Z9]
theorem Zbk (h : H[q]?=some (tly os)) (ho : os.length=16) (hl : ns.length=16) : stA 16 (pt q) (Z9 ns) H=some (undef,H.set q (tly ns)):=by
 unfold tly at h
 have hall : (ns.map iv).all oneCell=true:=by simp [oneCell]
 have hsp : splice (os.map iv) (ns.map iv) 0=ns.map iv:=by
  unfold splice
  rw [List.drop_eq_nil_of_le (by simp [ho,hl])];simp
 rw [Z2,h,ZK,if_pos ⟨by simp [ho],by simp [hl],by simpa using hall⟩,show (ns.map iv).toArray.toList=ns.map iv from by simp,hsp]
 rfl
theorem Zba (hk : inT k) : J3 16 1 (pt q) (iv k) H=some (pa q k.toNat,H):=by
 unfold inT at hk
 rw [ZS,if_pos ⟨by omega,by omega⟩]
 simp
theorem ldk (h : H[q]?=some (tly ns)) (hl : ns.length=16) (hk : inT k) : ld1 (pa q k.toNat) H=some (iv (Zw ns k),H):=
 JS h (by rw [List.getElem?_map,Y2 hl hk];rfl)
theorem stk (h : H[q]?=some (tly ns)) (hl : ns.length=16) (hk : inT k) : st1 (pa q k.toNat) (iv y) H=some (undef,H.set q (tly (ns.set k.toNat y))):=by
 have hk' : k.toNat < ns.length:=by unfold inT at hk;omega
 have:=Ze2 (v:=iv y) h (by simpa using hk') rfl
 rw [this]
 unfold tly
 rw [List.map_set]
theorem KH {K : Value→M Value} : bind (bop .int .lss (iv k) (Value.int .i64 0)) (fun a=>bind (JJ a false 2 (bind (bop .int .gtr (iv k) (Value.int .i64 15)) fun b=>ret [iv k,b])) (c2 fun _ c=>bind (pick a (Value.bool true) c) K)) H=K (.bool (decide ¬ inT k)) H:=by
 rw [Za ZN]
 unfold inT
 by_cases h1 : k < 0
 ·rw [decide_eq_true h1,Za (show JJ (.bool true) false 2 _ H=some ([J4,J4],H) from rfl),QJ,Za Zt,decide_eq_true (by omega)]
  rfl
 ·rw [decide_eq_false h1,ZaY,KQ,Za Qk,KS,QJ,Za Zt]
  have : decide (k > 15)=decide ¬ (0≤k∧k < 16):=by rw [decide_eq_decide];omega
  rw [this]
  rfl
theorem ZaH (hl : ns.length=16) : R (n+1) Qg [Z9 ns,iv k] H=some (iv (Zw ns k),H++[tly ns]):=by
 rw [R,Zcc rfl]
 unfold Wa
 rw [Za Zbg]
 refine KH.trans ?_
 by_cases hk : inT k
 ·rw [decide_eq_false (fun h=>h hk),Zj,if_neg (by simp),Za (Zba hk),Za (ldk QK hl hk)]
  rfl
 ·rw [decide_eq_true hk,Zj,if_pos rfl]
  unfold Zw
  rw [if_neg hk]
  rfl
theorem Ke : Ze.length=16:=rfl
theorem Zdl {b : Bool} (hl : ns.length=16) : ∃ H',R (n+1) Jh [Z9 ns,iv k,iv y,.bool b] H=some (.tuple #[Z9 (if inT k∧b=true then ns.set k.toNat y else ns),.bool (decide (inT k∧b=true))],H')∧HLe H H':=by
 have g1 : (H++[tly ns]++[tly Ze])[H.length]?=some (tly ns):=Yp QK
 have g2 : (H++[tly ns]++[tly Ze])[(H++[tly ns]).length]?=some (tly Ze):=QK
 have k1 : HLe H (H++[tly ns]++[tly Ze]):=(HLe.app _ _).trans (.app _ _)
 have hne : H.length≠(H++[tly ns]).length:=by simp
 have hle : H.length≤(H++[tly ns]).length:=by simp
 have z2 : alc 1 (.agg #[.int .i64 0,.int .i64 0,.int .i64 0,.int .i64 0,.int .i64 0,.int .i64 0,.int .i64 0,.int .i64 0,.int .i64 0,.int .i64 0,.int .i64 0,.int .i64 0,.int .i64 0,.int .i64 0,.int .i64 0,.int .i64 0]) (H++[tly ns])=_:=WY
 generalize H++[tly ns]++[tly Ze]=H2 at g1 g2 k1 z2
 generalize (H++[tly ns]).length=q2 at g2 hne hle z2
 have no : ∃ H',bind (ldA 16 (pt H.length)) (fun v20x10=>bind (stA 16 (pt q2) v20x10) fun _=>bind (ldA 16 (pt q2)) fun vrx11=>ret (Value.tuple #[vrx11,(Value.bool false)])) H2=some (.tuple #[Z9 ns,.bool false],H')∧HLe H H':=by
  refine ⟨H2.set q2 (tly ns),?_,k1.put hle⟩
  rw [Za (Y8 g1 hl),Za (Zbk g2 Ke hl),Za (Y8 (Jk g2) hl)]
  rfl
 rw [R,ZbY rfl]
 unfold KY
 rw [Za Zbg,Za z2]
 by_cases hk : inT k
 ·cases b with
  | true=>
   have g3 : (H2.set H.length (tly (ns.set k.toNat y)))[H.length]?=some (tly (ns.set k.toNat y)):=Jk g1
   have g4 : (H2.set H.length (tly (ns.set k.toNat y)))[q2]?=some (tly Ze):=by rw [List.getElem?_set_ne hne];exact g2
   have hl3 : (ns.set k.toNat y).length=16:=by simpa using hl
   refine ⟨(H2.set H.length (tly (ns.set k.toNat y))).set q2 (tly (ns.set k.toNat y)),KH.trans ?_,(k1.put (b:=H.length) (Nat.le_refl _)).put hle⟩
   rw [decide_eq_false (fun h=>h hk),ZaY,KQ,Za Z7,KS,QJ,Za Zt]
   rw [show cond false (Value.bool true) (Value.bool (!true))=.bool false from rfl,Zj,if_neg (by simp),Za (Zba hk),Za (stk g1 hl hk),Za (Y8 g3 hl3),Za (Zbk g4 Ke hl3),Za (Y8 (Jk g4) hl3),if_pos ⟨hk,rfl⟩,decide_eq_true ⟨hk,rfl⟩]
   rfl
  | false=>
   obtain ⟨H',e,k2⟩:=no
   refine ⟨H',KH.trans ?_,k2⟩
   rw [decide_eq_false (fun h=>h hk),ZaY,KQ,Za Z7,KS,QJ,Za Zt]
   rw [show cond false (Value.bool true) (Value.bool (!false))=.bool true from rfl,Zj,if_pos rfl,if_neg (fun h=>by cases h.2),decide_eq_false (fun h=>by cases h.2)]
   exact e
 ·obtain ⟨H',e,k2⟩:=no
  refine ⟨H',KH.trans ?_,k2⟩
  rw [decide_eq_true hk,Za (show JJ (.bool true) false 2 _ H2=some ([J4,J4],H2) from rfl),QJ,Za Zt]
  rw [show cond true (Value.bool true) J4=.bool true from rfl,Zj,if_pos rfl,if_neg (fun h=>hk h.1),decide_eq_false (fun h=>hk h.1)]
  exact e
theorem Ze3 (hl : ns.length=16) : ∃ H',R (n+1) J8 [Z9 ns,iv k,iv y] H=some (.tuple #[Z9 (if inT k then ns.set k.toNat (IntKind.i64.wrap (Zw ns k+y)) else ns),iv (if inT k then IntKind.i64.wrap (Zw ns k+y) else 0)],H')∧HLe H H':=by
 have g1 : (H++[tly ns]++[tly Ze])[H.length]?=some (tly ns):=Yp QK
 have g2 : (H++[tly ns]++[tly Ze])[(H++[tly ns]).length]?=some (tly Ze):=QK
 have k1 : HLe H (H++[tly ns]++[tly Ze]):=(HLe.app _ _).trans (.app _ _)
 have hne : H.length≠(H++[tly ns]).length:=by simp
 have hle : H.length≤(H++[tly ns]).length:=by simp
 have z2 : alc 1 (.agg #[.int .i64 0,.int .i64 0,.int .i64 0,.int .i64 0,.int .i64 0,.int .i64 0,.int .i64 0,.int .i64 0,.int .i64 0,.int .i64 0,.int .i64 0,.int .i64 0,.int .i64 0,.int .i64 0,.int .i64 0,.int .i64 0]) (H++[tly ns])=_:=WY
 generalize H++[tly ns]++[tly Ze]=H2 at g1 g2 k1 z2
 generalize (H++[tly ns]).length=q2 at g2 hne hle z2
 rw [R,Zce rfl]
 unfold K8
 rw [Za Zbg,Za z2]
 by_cases hk : inT k
 ·generalize hx : IntKind.i64.wrap (Zw ns k+y)=x
  have g3 : (H2.set H.length (tly (ns.set k.toNat x)))[H.length]?=some (tly (ns.set k.toNat x)):=Jk g1
  have g4 : (H2.set H.length (tly (ns.set k.toNat x)))[q2]?=some (tly Ze):=by rw [List.getElem?_set_ne hne];exact g2
  have hl3 : (ns.set k.toNat x).length=16:=by simpa using hl
  have g5 : ((H2.set H.length (tly (ns.set k.toNat x))).set q2 (tly (ns.set k.toNat x)))[H.length]?=some (tly (ns.set k.toNat x)):=by rw [List.getElem?_set_ne (Ne.symm hne)];exact g3
  refine ⟨(H2.set H.length (tly (ns.set k.toNat x))).set q2 (tly (ns.set k.toNat x)),KH.trans ?_,(k1.put (b:=H.length) (Nat.le_refl _)).put hle⟩
  have hg : Zw (ns.set k.toNat x) k=x:=Zb1 hl hk
  have l3:=ldk g3 hl3 hk
  have l5:=ldk g5 hl3 hk
  rw [hg] at l3 l5
  rw [decide_eq_false (fun h=>h hk),Zj,if_neg (by simp),Za (Zba hk),Za (ldk g1 hl hk),Za ZU,hx,Za (Zba hk),Za (stk g1 hl hk),Za (Y8 g3 hl3),Za (Zba hk),Za l3,Za (Zbk g4 Ke hl3),Za l5,Zr,Za (Y8 (Jk g4) hl3),if_pos hk,if_pos hk]
  rfl
 ·refine ⟨H2.set q2 (tly ns),KH.trans ?_,k1.put hle⟩
  rw [decide_eq_true hk,Zj,if_pos rfl,Za (Y8 g1 hl),Za (Zbk g2 Ke hl),Za (Y8 (Jk g2) hl),if_neg hk,if_neg hk]
  rfl
theorem ZcG {c : Nat} (hl : ns.length=16) (h0 : H0.length≤c) : ∀ (d i : Nat) {os : List Int} {H : Zb},16 - i=d→i≤16→os.length=16→(∀ j,j < i→os[j]?=ns[j]?)→HLe H0 H→H[c]?=some (tly os)→
  ∃ H',Qb (c3 (Z3.l1 (R (n+2)))) [pt c,Z9 ns,iv i] H=some (.ext 0 [pt c],H')∧H'[c]?=some (tly ns)∧HLe H0 H'
 | 0,i,os,H,hd,hi,ho,heq,hle,h2=>by
  have : i=16:=by omega
  subst this
  have : os=ns:=by
   apply List.ext_getElem?
   intro j
   rcases Nat.lt_or_ge j 16 with hj | hj
   ·exact heq j hj
   ·rw [List.getElem?_eq_none (by omega),List.getElem?_eq_none (by omega)]
  subst this
  refine ⟨H,YA ?_,h2,hle⟩
  rw [QO]
  unfold Z3.l1
  rw [Za ZN,Zj,if_neg (by decide)]
  rfl
 | d+1,i,os,H,hd,hi,ho,heq,hle,h2=>by
  have hi' : i < ns.length:=by omega
  have hio : i < os.length:=by omega
  have hb : (i : Int) < 16:=by omega
  have e1 : ixv false 16 1 (Z9 ns) (iv i) H=some (iv ns[i],H):=by
   rw [Zc7,if_pos ⟨by omega,hb⟩]
   simp [hi']
  have e2:=ZeB (n:=n) (y:=ns[i]) h2 (List.getElem?_eq_getElem hio)
  have hin : inT (i : Int):=⟨by omega,hb⟩
  have e3:=Zba (q:=c) (H:=H) hin
  obtain ⟨H',e,g,k⟩:=ZcG hl h0 d (i+1) (os:=os.set i ns[i]) (H:=H.set c (tly (os.set i ns[i]))) (by omega) (by omega) (by simpa using ho) (fun j hj=>by
   by_cases hji : i=j
   ·subst hji
    rw [List.getElem?_set_self (by omega),List.getElem?_eq_getElem hi']
   ·rw [List.getElem?_set_ne hji];exact heq j (by omega)) (hle.put h0) (Jk h2)
  refine ⟨H',(YI ?_).trans e,g,k⟩
  rw [QO]
  unfold Z3.l1
  rw [Za ZN,Zj,if_pos (by simpa using hb),Za e1,Za ZR,Za QS,Za e3]
  rw [show ((i : Int)).toNat=i by omega]
  rw [Za e2,Za ZU,ZdT (by omega)]
  rfl
theorem ZeH {tq : Nat} (h : H[tq]?=some (tly ns)) (hl : ns.length=16) : ∃ H',R (n+4) Jl [pt tq] H=some (pt H.length,H')∧H'[H.length]?=some (tly ns)∧HLe H H':=by
 have e1 : R (n+3) J5 [] H=_:=Zdz (n+2) H
 have g1 : (H++[tly Ze])[H.length]?=some (tly Ze):=QK
 have k1 : HLe H (H++[tly Ze]):=.app _ _
 generalize H++[tly Ze]=H1 at e1 g1 k1
 obtain ⟨H2,e2,k2⟩:=Zc4 (n:=n) (k1 _ _ h) hl
 obtain ⟨H3,e3,g3,k3⟩:=ZcG (n:=n+1) (c:=H.length) (H0:=H) hl (Nat.le_refl _) 16 0 (os:=Ze) (H:=H2) rfl (by omega) rfl (fun j hj=>by omega) (k1.trans k2) (k2 _ _ g1)
 have e3 : Qb (c3 (Z3.l1 (R (n+3)))) [pt H.length,Z9 ns,.int .i64 0] H2=_:=e3
 refine ⟨H3,?_,g3,k3⟩
 rw [R,WL rfl]
 unfold Z3
 rw [Za e1,Za e2,WH e3,ZL,QV]
 rfl
theorem ZbX : ∀ (l : List Int),eqF (List.replicate l.length .int) (l.map iv) (l.map iv)=some true
 | []=>rfl
 | x :: l=>by
  have:=ZbX l
  simp only [List.length_cons,List.replicate_succ,List.map_cons,eqF]
  simp [this]
theorem Zfo (hl : ns.length=16) : bop (.flat [.int,.int,.int,.int,.int,.int,.int,.int,.int,.int,.int,.int,.int,.int,.int,.int]) .neq (Z9 ns) (Z9 ns) H=some (.bool false,H):=by
 have h1 : eqv (.flat (List.replicate 16 .int)) (Z9 ns) (Z9 ns)=some true:=by
  have h2:=ZbX ns
  rw [hl] at h2
  unfold eqv Z9
  simp only [List.size_toArray,List.length_map,hl,List.length_replicate,Nat.beq_refl,Bool.and_self,cond_true]
  simpa using h2
 have h1 : eqv (.flat [.int,.int,.int,.int,.int,.int,.int,.int,.int,.int,.int,.int,.int,.int,.int,.int]) (Z9 ns) (Z9 ns)=some true:=h1
 unfold bop
 simp only [h1]
 rfl
theorem ZcF {x1 tq wq sl x4 x5 : Value} (hl : ns.length=16) : ∀ (d i : Nat) {a : Int},16 - i=d→i≤16→
  Qb (c9 (Zh.l2 (R n))) [x1,tq,wq,iv a,sl,x4,x5,Z9 ns,iv i] H=some (.ext 3 [x1,tq,wq,iv (Zdb a (ns.drop i)),sl,x4,x5],H)
 | 0,i,a,hd,hi=>by
  have : i=16:=by omega
  subst this
  have hn : ns.drop 16=[]:=List.drop_eq_nil_of_le (by omega)
  refine YA ?_
  rw [QQ]
  unfold Zh.l2
  rw [Za ZN,Zj,if_neg (by decide),hn]
  rfl
 | d+1,i,a,hd,hi=>by
  have hi' : i < ns.length:=by omega
  have hb : (i : Int) < 16:=by omega
  have e1 : ixv false 16 1 (Z9 ns) (iv i) H=some (iv ns[i],H):=by
   rw [Zc7,if_pos ⟨by omega,hb⟩]
   simp [hi']
  have ih:=ZcF (x1:=x1) (tq:=tq) (wq:=wq) (sl:=sl) (x4:=x4) (x5:=x5) hl d (i+1) (a:=IntKind.i64.wrap (a+ns[i])) (by omega) (by omega)
  rw [List.drop_eq_getElem_cons hi']
  refine (YI ?_).trans ih
  rw [QQ]
  unfold Zh.l2
  rw [Za ZN,Zj,if_pos (by simpa using hb),Za e1,Za ZU,Za ZU,ZdT (by omega)]
  rfl
end Go.Proofs.Ytfefblgkfdaekaa.A

namespace Go.Proofs.Ytfefblgkfdaekaa.A
set_option linter.unusedVariables false
set_option linter.unusedSimpArgs false
open Go.Proofs Go.Proofs.Ytfefblgkfdaekaa
structure Kw where
 kd : Nat
 at_ : Int
 x : Int
 y : Int
def Kw.cells (r : Kw) : List Value:=[.int .u8 r.kd,iv r.at_,iv r.x,iv r.y]
variable {H H' H0 X : Zb} {n tq wq a : Nat} {ns os : List Int} {r : Kw} {rs : List Kw} {sl : Value}
structure TS (H0 H : Zb) (tq wq : Nat) (ns : List Int) : Prop where
 le : HLe H0 H
 t : H[tq]?=some (tly ns)
 w : H[wq]?=some (tly ns)
 l : ns.length=16
 t0 : H0.length≤tq
 w0 : H0.length≤wq
 ne : tq≠wq
theorem TS.mono (h : TS H0 H tq wq ns) (hl : HLe H H') : TS H0 H' tq wq ns:=⟨h.le.trans hl,hl _ _ h.t,hl _ _ h.w,h.l,h.t0,h.w0,h.ne⟩
theorem ZcR (h : TS H0 X tq wq ns) (ho : os.length=16) : ∃ X3 X4 X5,alc 1 (.agg #[.int .i64 0,.int .i64 0,.int .i64 0,.int .i64 0,.int .i64 0,.int .i64 0,.int .i64 0,.int .i64 0,.int .i64 0,.int .i64 0,.int .i64 0,.int .i64 0,.int .i64 0,.int .i64 0,.int .i64 0,.int .i64 0]) X=some (pt X.length,X3)∧HLe X X3∧stA 16 (pt X.length) (Z9 os) X3=some (undef,X4)∧ldA 16 (pt X.length) X4=some (Z9 os,X4)∧stA 16 (pt wq) (Z9 os) X4=some (undef,X5)∧
  X5[wq]?=some (tly os)∧(∀ j,j < X.length→j≠wq→X5[j]?=X[j]?)∧HLe H0 X5:=by
 have d3 : (X++[tly Ze])[X.length]?=some (tly Ze):=QK
 have hw:=QY h.w
 have k3 : HLe X (X++[tly Ze]):=.app _ _
 have w3:=k3 _ _ h.w
 have w4 : ((X++[tly Ze]).set X.length (tly os))[wq]?=some (tly ns):=by rw [List.getElem?_set_ne (by omega)];exact w3
 refine ⟨X++[tly Ze],(X++[tly Ze]).set X.length (tly os),((X++[tly Ze]).set X.length (tly os)).set wq (tly os),rfl,k3,Zbk d3 Ke ho,Y8 (Jk d3) ho,Zbk w4 h.l ho,Jk w4,fun j hj hn=>?_,((h.le.trans k3).put (by have:=h.le.len;omega)).put h.w0⟩
 rw [List.getElem?_set_ne (fun e=>hn e.symm),List.getElem?_set_ne (by omega),List.getElem?_append_left hj]
theorem TS.set (h : TS H0 X tq wq ns) {X5 : Zb} (hw : X5[wq]?=some (tly os)) (hk : ∀ j,j < X.length→j≠wq→X5[j]?=X[j]?) (hl : HLe H0 X5) (ho : os.length=16) : X5[tq]?=some (tly ns)∧TS H0 (X5.set tq (tly os)) tq wq os:=by
 have ht : X5[tq]?=some (tly ns):=by rw [hk _ (QY h.t) h.ne];exact h.t
 exact ⟨ht,hl.put h.t0,Jk ht,by rw [List.getElem?_set_ne h.ne];exact hw,ho,h.t0,h.w0,h.ne⟩
theorem eq4 {k j : Nat} : bop .int .eql (.int .u8 (k : Int)) (.int .u8 (j : Int)) X=some (.bool (decide (k=j)),X):=by
 rw [Qj]
 have hq : ((k : Int)==(j : Int))=decide (k=j):=by
  rw [Bool.eq_iff_iff,beq_iff_eq,decide_eq_true_iff]
  omega
 rw [hq]
theorem Zff {y1 y3 y4 y5 : Value} (h : TS H0 X tq wq ns) (hr : X[a]?=some (.cells r.cells 1 false false)) (hat : a≠tq) (haw : a≠wq) : ∃ X' ns',TS H0 X' tq wq ns'∧∀ K : List Value→M Out,(bind (bop .int .eql (Value.int .u8 (r.kd % 4 : Nat)) (Value.int .u8 0)) fun v62x18=>
 jn (cnd v62x18
 (bind (ldA 16 (pt wq)) fun v64x19=>
 bind (fa 1 (pt a)) fun v65x20=>
 bind (ld1 v65x20) fun v66x21=>
 bind (fa 2 (pt a)) fun v67x22=>
 bind (ld1 v67x22) fun v68x23=>
 bind ((R (n+4)) J8 [v64x19,v66x21,v68x23]) fun v69x24=>
 bind (Jp v69x24 0) fun v70x25=>
 bind (Jp v69x24 1) fun v71x26=>
 bind (alc 1 (.agg #[.int .i64 0,.int .i64 0,.int .i64 0,.int .i64 0,.int .i64 0,.int .i64 0,.int .i64 0,.int .i64 0,.int .i64 0,.int .i64 0,.int .i64 0,.int .i64 0,.int .i64 0,.int .i64 0,.int .i64 0,.int .i64 0])) fun v9x27=>
 bind (stA 16 v9x27 v70x25) fun _=>
 bind (ldA 16 v9x27) fun v72x28=>
 bind (stA 16 (pt wq) v72x28) fun _=>
 bind (fa 1 (pt a)) fun v73x29=>
 bind (ld1 v73x29) fun v74x30=>
 bind (fa 2 (pt a)) fun v75x31=>
 bind (ld1 v75x31) fun v76x32=>
 bind ((R (n+4)) ZJ [(pt tq),v74x30,v76x32]) fun v77x33=>
 bind (bop .int .neq v77x33 v71x26) fun v79x34=>
 cnd v79x34
 (ret (Out.ret (Value.bool false)))
 (ret (Out.nrm [y1,(pt tq),(pt wq),y3,y4,y5])))
 (bind (bop .int .eql (Value.int .u8 (r.kd % 4 : Nat)) (Value.int .u8 1)) fun v81x35=>
 jn (cnd v81x35
 (bind (ldA 16 (pt wq)) fun v83x36=>
 bind (fa 1 (pt a)) fun v84x37=>
 bind (ld1 v84x37) fun v85x38=>
 bind (fa 2 (pt a)) fun v86x39=>
 bind (ld1 v86x39) fun v87x40=>
 bind (ldA 16 (pt wq)) fun v88x41=>
 bind (fa 1 (pt a)) fun v89x42=>
 bind (ld1 v89x42) fun v90x43=>
 bind (fa 2 (pt a)) fun v92x44=>
 bind (ld1 v92x44) fun v93x45=>
 bind ((R (n+4)) Qg [v88x41,v90x43]) fun v91x46=>
 bind (ld1 v92x44) fun u_47=>same u_47 v93x45 <|
 bind (ld1 v86x39) fun u_48=>same u_48 v87x40 <|
 bind (ld1 v84x37) fun u_49=>same u_49 v85x38 <|
 bind (ldA 16 (pt wq)) fun u_50=>same u_50 v83x36 <|
 bind (bop .int .lss v91x46 v93x45) fun v94x51=>
 bind ((R (n+4)) Jh [v83x36,v85x38,v87x40,v94x51]) fun v95x52=>
 bind (Jp v95x52 0) fun v96x53=>
 bind (Jp v95x52 1) fun v97x54=>
 bind (alc 1 (.agg #[.int .i64 0,.int .i64 0,.int .i64 0,.int .i64 0,.int .i64 0,.int .i64 0,.int .i64 0,.int .i64 0,.int .i64 0,.int .i64 0,.int .i64 0,.int .i64 0,.int .i64 0,.int .i64 0,.int .i64 0,.int .i64 0])) fun v11x55=>
 bind (ld1 v92x44) fun u_56=>same u_56 v93x45 <|
 bind (ld1 v89x42) fun u_57=>same u_57 v90x43 <|
 bind (ldA 16 (pt wq)) fun u_58=>same u_58 v88x41 <|
 bind (ld1 v86x39) fun u_59=>same u_59 v87x40 <|
 bind (ld1 v84x37) fun u_60=>same u_60 v85x38 <|
 bind (ldA 16 (pt wq)) fun u_61=>same u_61 v83x36 <|
 bind (stA 16 v11x55 v96x53) fun _=>
 bind (ldA 16 v11x55) fun v98x62=>
 bind (stA 16 (pt wq) v98x62) fun _=>
 bind (fa 1 (pt a)) fun v99x63=>
 bind (ld1 v99x63) fun v100x64=>
 bind (fa 2 (pt a)) fun v101x65=>
 bind (ld1 v101x65) fun v102x66=>
 bind ((R (n+4)) ZV [(pt tq),v100x64,v102x66]) fun v103x67=>
 bind (bop .bool .neq v103x67 v97x54) fun v105x68=>
 cnd v105x68
 (ret (Out.ret (Value.bool false)))
 (ret (Out.nrm [y1,(pt tq),(pt wq),y3,y4,y5])))
 (bind (bop .int .eql (Value.int .u8 (r.kd % 4 : Nat)) (Value.int .u8 2)) fun v107x69=>
 jn (cnd v107x69
 (bind (ldA 16 (pt wq)) fun v109x70=>
 bind (fa 1 (pt a)) fun v110x71=>
 bind (ld1 v110x71) fun v111x72=>
 bind (fa 3 (pt a)) fun v112x73=>
 bind (ld1 v112x73) fun v113x74=>
 bind (ldA 16 (pt wq)) fun v114x75=>
 bind (fa 1 (pt a)) fun v115x76=>
 bind (ld1 v115x76) fun v116x77=>
 bind (fa 2 (pt a)) fun v118x78=>
 bind (ld1 v118x78) fun v119x79=>
 bind ((R (n+4)) Qg [v114x75,v116x77]) fun v117x80=>
 bind (ld1 v118x78) fun u_81=>same u_81 v119x79 <|
 bind (ld1 v112x73) fun u_82=>same u_82 v113x74 <|
 bind (ld1 v110x71) fun u_83=>same u_83 v111x72 <|
 bind (ldA 16 (pt wq)) fun u_84=>same u_84 v109x70 <|
 bind (bop .int .eql v117x80 v119x79) fun v120x85=>
 bind ((R (n+4)) Jh [v109x70,v111x72,v113x74,v120x85]) fun v121x86=>
 bind (Jp v121x86 0) fun v122x87=>
 bind (Jp v121x86 1) fun v123x88=>
 bind (alc 1 (.agg #[.int .i64 0,.int .i64 0,.int .i64 0,.int .i64 0,.int .i64 0,.int .i64 0,.int .i64 0,.int .i64 0,.int .i64 0,.int .i64 0,.int .i64 0,.int .i64 0,.int .i64 0,.int .i64 0,.int .i64 0,.int .i64 0])) fun v13x89=>
 bind (ld1 v118x78) fun u_90=>same u_90 v119x79 <|
 bind (ld1 v115x76) fun u_91=>same u_91 v116x77 <|
 bind (ldA 16 (pt wq)) fun u_92=>same u_92 v114x75 <|
 bind (ld1 v112x73) fun u_93=>same u_93 v113x74 <|
 bind (ld1 v110x71) fun u_94=>same u_94 v111x72 <|
 bind (ldA 16 (pt wq)) fun u_95=>same u_95 v109x70 <|
 bind (stA 16 v13x89 v122x87) fun _=>
 bind (ldA 16 v13x89) fun v124x96=>
 bind (stA 16 (pt wq) v124x96) fun _=>
 bind (fa 1 (pt a)) fun v125x97=>
 bind (ld1 v125x97) fun v126x98=>
 bind (fa 2 (pt a)) fun v127x99=>
 bind (ld1 v127x99) fun v128x100=>
 bind (fa 3 (pt a)) fun v129x101=>
 bind (ld1 v129x101) fun v130x102=>
 bind ((R (n+4)) QN [(pt tq),v126x98,v128x100,v130x102]) fun v131x103=>
 bind (bop .bool .neq v131x103 v123x88) fun v133x104=>
 cnd v133x104
 (ret (Out.ret (Value.bool false)))
 (ret (Out.nrm [y1,(pt tq),(pt wq),y3,y4,y5])))
 (bind ((R (n+4)) Jl [(pt tq)]) fun v36x105=>
 bind (fa 1 (pt a)) fun v38x106=>
 bind (ld1 v38x106) fun v39x107=>
 bind ((R (n+4)) ZJ [v36x105,v39x107,(Value.int .i64 1)]) fun v40x108=>
 bind (fa 1 (pt a)) fun v42x109=>
 bind (ld1 v42x109) fun v43x110=>
 bind (ldA 16 (pt wq)) fun v45x111=>
 bind (fa 1 (pt a)) fun v46x112=>
 bind (ld1 v46x112) fun v47x113=>
 bind ((R (n+4)) Qf [v36x105,v43x110]) fun v44x114=>
 bind (ld1 v46x112) fun u_115=>same u_115 v47x113 <|
 bind (ldA 16 (pt wq)) fun u_116=>same u_116 v45x111 <|
 bind ((R (n+4)) Qg [v45x111,v47x113]) fun v48x117=>
 bind (bop .int .add v48x117 (Value.int .i64 1)) fun v49x118=>
 bind (bop .int .neq v44x114 v49x118) fun v50x119=>
 bind (Z0 v50x119 true (fa 1 (pt a))) fun v52x120=>
 bind (Z0 v50x119 true (ld1 v52x120)) fun v53x121=>
 bind (Z0 v50x119 true (bop .int .geq v53x121 (Value.int .i64 0))) fun v54x122=>
 bind (pick v50x119 v54x122 (Value.bool false)) fun v55x123=>
 bind (Z0 v55x123 true (fa 1 (pt a))) fun v57x124=>
 bind (Z0 v55x123 true (ld1 v57x124)) fun v58x125=>
 bind (Z0 v55x123 true (bop .int .lss v58x125 (Value.int .i64 16))) fun v59x126=>
 bind (pick v55x123 v59x126 (Value.bool false)) fun v60x127=>
 cnd v60x127
 (ret (Out.ret (Value.bool false)))
 (ret (Out.nrm [y1,(pt tq),(pt wq),y3,y4,y5])))) (c6 fun q128_0 q128_1 q128_2 q128_3 q128_4 q128_5=>
 ret (Out.nrm [q128_0,q128_1,q128_2,q128_3,q128_4,q128_5])) noX Qy)) (c6 fun q130_0 q130_1 q130_2 q130_3 q130_4 q130_5=>
 ret (Out.nrm [q130_0,q130_1,q130_2,q130_3,q130_4,q130_5])) noX Qy)) K noX Qy) X=K [y1,pt tq,pt wq,y3,y4,y5] X':=by
 have c1 : ∀ {Z : Zb},HLe X Z→ld1 (pa a 1) Z=some (iv r.at_,Z):=fun {Z} hz=>JS (o:=1) (hz _ _ hr) rfl
 have c2 : ∀ {Z : Zb},HLe X Z→ld1 (pa a 2) Z=some (iv r.x,Z):=fun {Z} hz=>JS (o:=2) (hz _ _ hr) rfl
 have c3 : ∀ {Z : Zb},HLe X Z→ld1 (pa a 3) Z=some (iv r.y,Z):=fun {Z} hz=>JS (o:=3) (hz _ _ hr) rfl
 have e1 : ∀ {Z : Zb},fa 1 (pt a) Z=some (pa a 1,Z):=fun {Z}=>rfl
 have e2 : ∀ {Z : Zb},fa 2 (pt a) Z=some (pa a 2,Z):=fun {Z}=>rfl
 have e3 : ∀ {Z : Zb},fa 3 (pt a) Z=some (pa a 3,Z):=fun {Z}=>rfl
 have lw : ∀ {Z : Zb},HLe X Z→ldA 16 (pt wq) Z=some (Z9 ns,Z):=fun {Z} hz=>Y8 (hz _ _ h.w) h.l
 have q0 : bop .int .eql (.int .u8 (r.kd % 4 : Nat)) (.int .u8 0) X=_:=eq4 (j:=0)
 have q1 : bop .int .eql (.int .u8 (r.kd % 4 : Nat)) (.int .u8 1) X=_:=eq4 (j:=1)
 have q2 : bop .int .eql (.int .u8 (r.kd % 4 : Nat)) (.int .u8 2) X=_:=eq4 (j:=2)
 have nb : ∀ {Z : Zb} {b : Bool},bop .bool .neq (.bool b) (.bool b) Z=some (.bool false,Z):=fun {Z b}=>by rw [Qo];simp
 have ni : ∀ {Z : Zb} {x : Int},bop .int .neq (iv x) (iv x) Z=some (.bool false,Z):=fun {Z x}=>by rw [Z5];simp
 by_cases k0 : r.kd % 4=0
 ·obtain ⟨X2,f2,k2⟩:=Ze3 (n:=n+3) (k:=r.at_) (y:=r.x) (H:=X) h.l
  have f2 : R (n+4) J8 [Z9 ns,iv r.at_,iv r.x] X=_:=f2
  generalize ho : (if inT r.at_ then ns.set r.at_.toNat (IntKind.i64.wrap (Zw ns r.at_+r.x)) else ns)=os at f2
  have hol : os.length=16:=by rw [← ho];split <;> simp [h.l]
  obtain ⟨X3,X4,X5,g1,g2,g3,g4,g5,g6,g7,g8⟩:=ZcR (h.mono k2) hol
  obtain ⟨t5,T6⟩:=(h.mono k2).set g6 g7 g8 hol
  have a5 : X5[a]?=some (.cells r.cells 1 false false):=by rw [g7 _ (QY (k2 _ _ hr)) haw];exact k2 _ _ hr
  have f6:=ZcU (n:=n+1) (k:=r.at_) (y:=r.x) t5 h.l
  have f6 : R (n+4) ZJ [pt tq,iv r.at_,iv r.x] X5=_:=f6
  have fin : ∃ X6,R (n+4) ZJ [pt tq,iv r.at_,iv r.x] X5=some (iv (if inT r.at_ then IntKind.i64.wrap (Zw ns r.at_+r.x) else 0),X6)∧TS H0 X6 tq wq os:=by
   by_cases hk : inT r.at_
   ·rw [if_pos hk] at f6 ho ⊢
    rw [← ho]
    rw [← ho] at T6
    exact ⟨_,f6,T6⟩
   ·rw [if_neg hk] at f6 ho ⊢
    refine ⟨X5,f6,?_⟩
    rw [← ho] at g6 ⊢
    exact ⟨g8,t5,g6,h.l,h.t0,h.w0,h.ne⟩
  obtain ⟨X6,f7,T7⟩:=fin
  refine ⟨X6,os,T7,fun K=>?_⟩
  rw [Za q0,decide_eq_true k0]
  refine (Yu (vs:=[y1,pt tq,pt wq,y3,y4,y5]) (H':=X6) ?_)
  rw [Zj,if_pos rfl,Za (lw (.refl _)),Za e1,Za (c1 (.refl _)),Za e2,Za (c2 (.refl _)),Za f2,Za ZA,Za Zz,Za g1,Za g3,Za g4,Za g5,Za e1,Za (JS (o:=1) a5 rfl),Za e2,Za (JS (o:=2) a5 rfl),Za f7,Za ni]
  rfl
 by_cases k1 : r.kd % 4=1
 ·have f1 : R (n+4) Qg [Z9 ns,iv r.at_] X=_:=ZaH (n:=n+3) h.l
  have m1 : HLe X (X++[tly ns]):=.app _ _
  generalize X++[tly ns]=X1 at f1 m1
  have q5 : bop .int .lss (iv (Zw ns r.at_)) (iv r.x) X1=some (.bool (decide (Zw ns r.at_ < r.x)),X1):=ZN
  obtain ⟨X2,f2,k2⟩:=Zdl (n:=n+3) (k:=r.at_) (y:=r.x) (b:=decide (Zw ns r.at_ < r.x)) (H:=X1) h.l
  have f2 : R (n+4) Jh [Z9 ns,iv r.at_,iv r.x,.bool (decide (Zw ns r.at_ < r.x))] X1=_:=f2
  have m2:=m1.trans k2
  have hb : (inT r.at_∧decide (Zw ns r.at_ < r.x)=true)=(inT r.at_∧Zw ns r.at_ < r.x):=by rw [decide_eq_true_iff]
  simp only [hb] at f2
  generalize ho : (if inT r.at_∧Zw ns r.at_ < r.x then ns.set r.at_.toNat r.x else ns)=os at f2
  have hol : os.length=16:=by rw [← ho];split <;> simp [h.l]
  obtain ⟨X3,X4,X5,g1,g2,g3,g4,g5,g6,g7,g8⟩:=ZcR (h.mono m2) hol
  obtain ⟨t5,T6⟩:=(h.mono m2).set g6 g7 g8 hol
  have m3:=m2.trans g2
  have a5 : X5[a]?=some (.cells r.cells 1 false false):=by rw [g7 _ (QY (m2 _ _ hr)) haw];exact m2 _ _ hr
  have f6 : R (n+4) ZV [pt tq,iv r.at_,iv r.x] X5=_:=Zbb (n:=n+1) (k:=r.at_) (y:=r.x) t5 h.l
  have fin : ∃ X6,R (n+4) ZV [pt tq,iv r.at_,iv r.x] X5=some (.bool (decide (inT r.at_∧Zw ns r.at_ < r.x)),X6)∧TS H0 X6 tq wq os:=by
   by_cases hk : inT r.at_∧Zw ns r.at_ < r.x
   ·rw [if_pos hk] at f6 ho
    rw [decide_eq_true hk]
    rw [← ho]
    rw [← ho] at T6
    exact ⟨_,f6,T6⟩
   ·rw [if_neg hk] at f6 ho
    rw [decide_eq_false hk]
    refine ⟨X5,f6,?_⟩
    rw [← ho] at g6 ⊢
    exact ⟨g8,t5,g6,h.l,h.t0,h.w0,h.ne⟩
  obtain ⟨X6,f7,T7⟩:=fin
  refine ⟨X6,os,T7,fun K=>?_⟩
  rw [Za q0,decide_eq_false k0]
  refine (Yu (vs:=[y1,pt tq,pt wq,y3,y4,y5]) (H':=X6) ?_)
  rw [Zj,if_neg (by simp),Za q1,decide_eq_true k1]
  refine (Yu (vs:=[y1,pt tq,pt wq,y3,y4,y5]) (H':=X6) ?_).trans rfl
  rw [Zj,if_pos rfl,Za (lw (.refl _)),Za e1,Za (c1 (.refl _)),Za e2,Za (c2 (.refl _)),Za (lw (.refl _)),Za e1,Za (c1 (.refl _)),Za e2,Za (c2 (.refl _)),Za f1,Za (c2 m1),Zr,Za (c2 m1),Zr,Za (c1 m1),Zr,Za (lw m1),Zr,Za q5,Za f2,Za ZA,Za Zz,Za g1]
  rw [Za (c2 m3),Zr,Za (c1 m3),Zr,Za (lw m3),Zr,Za (c2 m3),Zr,Za (c1 m3),Zr,Za (lw m3),Zr,Za g3,Za g4,Za g5,Za e1,Za (JS (o:=1) a5 rfl),Za e2,Za (JS (o:=2) a5 rfl),Za f7,Za nb]
  rfl
 by_cases k2' : r.kd % 4=2
 ·have f1 : R (n+4) Qg [Z9 ns,iv r.at_] X=_:=ZaH (n:=n+3) h.l
  have m1 : HLe X (X++[tly ns]):=.app _ _
  generalize X++[tly ns]=X1 at f1 m1
  have q5 : bop .int .eql (iv (Zw ns r.at_)) (iv r.x) X1=some (.bool (decide (Zw ns r.at_=r.x)),X1):=by
   rw [Qj]
   rfl
  obtain ⟨X2,f2,k2⟩:=Zdl (n:=n+3) (k:=r.at_) (y:=r.y) (b:=decide (Zw ns r.at_=r.x)) (H:=X1) h.l
  have f2 : R (n+4) Jh [Z9 ns,iv r.at_,iv r.y,.bool (decide (Zw ns r.at_=r.x))] X1=_:=f2
  have m2:=m1.trans k2
  have hb : (inT r.at_∧decide (Zw ns r.at_=r.x)=true)=(inT r.at_∧Zw ns r.at_=r.x):=by rw [decide_eq_true_iff]
  simp only [hb] at f2
  generalize ho : (if inT r.at_∧Zw ns r.at_=r.x then ns.set r.at_.toNat r.y else ns)=os at f2
  have hol : os.length=16:=by rw [← ho];split <;> simp [h.l]
  obtain ⟨X3,X4,X5,g1,g2,g3,g4,g5,g6,g7,g8⟩:=ZcR (h.mono m2) hol
  obtain ⟨t5,T6⟩:=(h.mono m2).set g6 g7 g8 hol
  have m3:=m2.trans g2
  have a5 : X5[a]?=some (.cells r.cells 1 false false):=by rw [g7 _ (QY (m2 _ _ hr)) haw];exact m2 _ _ hr
  have f6 : R (n+4) QN [pt tq,iv r.at_,iv r.x,iv r.y] X5=_:=Ze9 (n:=n+1) (k:=r.at_) (x:=r.x) (y:=r.y) t5 h.l
  have fin : ∃ X6,R (n+4) QN [pt tq,iv r.at_,iv r.x,iv r.y] X5=some (.bool (decide (inT r.at_∧Zw ns r.at_=r.x)),X6)∧TS H0 X6 tq wq os:=by
   by_cases hk : inT r.at_∧Zw ns r.at_=r.x
   ·rw [if_pos hk] at f6 ho
    rw [decide_eq_true hk]
    rw [← ho]
    rw [← ho] at T6
    exact ⟨_,f6,T6⟩
   ·rw [if_neg hk] at f6 ho
    rw [decide_eq_false hk]
    refine ⟨X5,f6,?_⟩
    rw [← ho] at g6 ⊢
    exact ⟨g8,t5,g6,h.l,h.t0,h.w0,h.ne⟩
  obtain ⟨X6,f7,T7⟩:=fin
  refine ⟨X6,os,T7,fun K=>?_⟩
  rw [Za q0,decide_eq_false k0]
  refine (Yu (vs:=[y1,pt tq,pt wq,y3,y4,y5]) (H':=X6) ?_)
  rw [Zj,if_neg (by simp),Za q1,decide_eq_false k1]
  refine (Yu (vs:=[y1,pt tq,pt wq,y3,y4,y5]) (H':=X6) ?_).trans rfl
  rw [Zj,if_neg (by simp),Za q2,decide_eq_true k2']
  refine (Yu (vs:=[y1,pt tq,pt wq,y3,y4,y5]) (H':=X6) ?_).trans rfl
  rw [Zj,if_pos rfl,Za (lw (.refl _)),Za e1,Za (c1 (.refl _)),Za e3,Za (c3 (.refl _)),Za (lw (.refl _)),Za e1,Za (c1 (.refl _)),Za e2,Za (c2 (.refl _)),Za f1,Za (c2 m1),Zr,Za (c3 m1),Zr,Za (c1 m1),Zr,Za (lw m1),Zr,Za q5,Za f2,Za ZA,Za Zz,Za g1]
  rw [Za (c2 m3),Zr,Za (c1 m3),Zr,Za (lw m3),Zr,Za (c3 m3),Zr,Za (c1 m3),Zr,Za (lw m3),Zr,Za g3,Za g4,Za g5,Za e1,Za (JS (o:=1) a5 rfl),Za e2,Za (JS (o:=2) a5 rfl),Za e3,Za (JS (o:=3) a5 rfl),Za f7,Za nb]
  rfl
 ·obtain ⟨X1,f1,g1,m1⟩:=ZeH (n:=n) h.t h.l
  have hc : H0.length≤X.length:=h.le.len
  have htl:=QY h.t
  have hwl:=QY h.w
  have hal:=QY hr
  have f2 : R (n+4) ZJ [pt X.length,iv r.at_,iv 1] X1=_:=ZcU (n:=n+1) (k:=r.at_) (y:=1) g1 h.l
  have fin : ∃ X2 v cs,R (n+4) ZJ [pt X.length,iv r.at_,iv 1] X1=some (iv v,X2)∧X2[X.length]?=some (tly cs)∧cs.length=16∧HLe X X2∧(inT r.at_→Zw cs r.at_=IntKind.i64.wrap (Zw ns r.at_+1)):=by
   by_cases hk : inT r.at_
   ·rw [if_pos hk] at f2
    exact ⟨_,_,ns.set r.at_.toNat (IntKind.i64.wrap (Zw ns r.at_+1)),f2,Jk g1,by simp [h.l],m1.put (Nat.le_refl _),fun _=>Zb1 h.l hk⟩
   ·rw [if_neg hk] at f2
    exact ⟨_,_,ns,f2,g1,h.l,m1,fun hh=>absurd hh hk⟩
  obtain ⟨X2,v,cs,f3,g3,hcl,m2,hv⟩:=fin
  have f4 : R (n+4) Qf [pt X.length,iv r.at_] X2=_:=Zc9 (n:=n+1) (k:=r.at_) g3 hcl
  have f5 : R (n+4) Qg [Z9 ns,iv r.at_] X2=_:=ZaH (n:=n+3) h.l
  have m3 : HLe X (X2++[tly ns]):=m2.trans (.app _ _)
  generalize X2++[tly ns]=X3 at f5 m3
  refine ⟨X3,ns,h.mono m3,fun K=>?_⟩
  rw [Za q0,decide_eq_false k0]
  refine (Yu (vs:=[y1,pt tq,pt wq,y3,y4,y5]) (H':=X3) ?_)
  rw [Zj,if_neg (by simp),Za q1,decide_eq_false k1]
  refine (Yu (vs:=[y1,pt tq,pt wq,y3,y4,y5]) (H':=X3) ?_).trans rfl
  rw [Zj,if_neg (by simp),Za q2,decide_eq_false k2']
  refine (Yu (vs:=[y1,pt tq,pt wq,y3,y4,y5]) (H':=X3) ?_).trans rfl
  rw [Zj,if_neg (by simp),Za f1,Za e1,Za (c1 m1),Za f3,Za e1,Za (c1 m2),Za (lw m2),Za e1,Za (c1 m2),Za f4,Za (c1 m2),Zr,Za (lw m2),Zr,Za f5,Za ZU,Za Z5]
  by_cases hk : inT r.at_
  ·rw [hv hk,show (IntKind.i64.wrap (Zw ns r.at_+1) !=IntKind.i64.wrap (Zw ns r.at_+1))=false from by simp]
   rfl
  ·generalize (Zw cs r.at_ !=IntKind.i64.wrap (Zw ns r.at_+1))=d
   cases d with
   | false=>
    rfl
   | true=>
    rw [QU,Za e1,QU,Za (c1 m3),QU,Za Qr,Za Zt]
    rw [show cond true (Value.bool (decide (r.at_≥0))) (Value.bool false)=.bool (decide (r.at_≥0)) from rfl]
    by_cases h0 : r.at_≥0
    ·have h16 : ¬ r.at_ < 16:=fun hh=>hk ⟨h0,hh⟩
     rw [decide_eq_true h0,QU,Za e1,QU,Za (c1 m3),QU,Za ZN,decide_eq_false h16,Za Zt]
     rfl
    ·rw [decide_eq_false h0]
     rfl
theorem ZdW {z : Int} {i : Nat} (h : TS H0 H tq wq ns) (hR : SlN 4 H0 sl (rs.map Kw.cells)) (hi : i < rs.length) (hn : rs.length≤60) : ∃ H' ns',TS H0 H' tq wq ns'∧Zh.l1 (R (n+4)) (iv z) (pt tq) (pt wq) sl (iv rs.length) (iv i) H=some (.nrm [iv z,pt tq,pt wq,sl,iv rs.length,iv ((i+1 : Nat) : Int)],H'):=by
 have hlt : (i : Int) < rs.length:=by omega
 have hg:=List.getElem?_eq_getElem hi
 generalize rs[i]=r at hg
 have hgr : (rs.map Kw.cells)[i]?=some r.cells:=by rw [List.getElem?_map,hg];rfl
 have hft : ∀ K : Value→M Out,bind (ixa 4 sl (iv i)) (fun p=>bind (ldA 4 p) fun v=>bind (alc 1 (.agg #[.int .u8 0,.int .i64 0,.int .i64 0,.int .i64 0])) fun q=>bind (stA 4 q v) fun _=>K q) H=K (pt H.length) (H++[.cells r.cells 1 false false]):=fun K=>by
  rw [(hR.mono h.le).fetch hgr (by omega) .i64]
  exact Zfi (n:=4) (zs:=[.int .u8 0,.int .i64 0,.int .i64 0,.int .i64 0]) (r:=r.cells) rfl rfl rfl rfl
 have k1 : HLe H (H++[Zo.cells r.cells 1 false false]):=.app _ _
 have c1 : (H++[Zo.cells r.cells 1 false false])[H.length]?=some (.cells r.cells 1 false false):=QK
 have hal:=QY h.t
 have hwl:=QY h.w
 generalize H++[Zo.cells r.cells 1 false false]=X at hft k1 c1
 obtain ⟨X1,os,T1,e1⟩:=Zff (n:=n) (a:=H.length) (y1:=iv z) (y3:=sl) (y4:=iv rs.length) (y5:=iv i) (h.mono k1) c1 (by omega) (by omega)
 have l1 : ∀ {Z : Zb},HLe X1 Z→ldA 16 (pt wq) Z=some (Z9 os,Z):=fun {Z} hz=>Y8 (hz _ _ T1.w) T1.l
 have e2:=ZcF (n:=n+4) (H:=X1) (x1:=iv z) (tq:=pt tq) (wq:=pt wq) (sl:=sl) (x4:=iv rs.length) (x5:=iv i) T1.l 16 0 (a:=0) rfl (by omega)
 rw [List.drop_zero] at e2
 have e2 : Qb (c9 (Zh.l2 (R (n+4)))) [iv z,pt tq,pt wq,.int .i64 0,sl,iv rs.length,iv i,Z9 os,.int .i64 0] X1=_:=e2
 obtain ⟨X2,e3,k2⟩:=Zc4 (n:=n+1) T1.t T1.l
 have e3 : R (n+4) QR [pt tq] X1=_:=e3
 obtain ⟨X3,e4,k3⟩:=Zfn (n:=n) (k2 _ _ T1.t) T1.l
 have k13:=k2.trans k3
 have e5 : R (n+4) Qf [pt tq,iv z] X3=_:=Zc9 (n:=n+1) (k:=z) (k13 _ _ T1.t) T1.l
 have e6 : R (n+4) Qg [Z9 os,iv z] X3=_:=ZaH (n:=n+3) T1.l
 have k4 : HLe X3 (X3++[tly os]):=.app _ _
 have ni : ∀ {Z : Zb} {x : Int},bop .int .neq (iv x) (iv x) Z=some (.bool false,Z):=fun {Z x}=>by rw [Z5];simp
 have w1 : bop .int .rem (.int .u8 (r.kd : Int)) (.int .u8 4) X=some (.int .u8 (r.kd % 4 : Nat),X):=by
  rw [Qn,if_neg (by decide),Int.tmod_eq_emod_of_nonneg (by omega)]
  have hq : ((r.kd : Int) % 4)=((r.kd % 4 : Nat) : Int):=by omega
  rw [hq]
 refine ⟨X3++[tly os],os,(T1.mono k13).mono k4,?_⟩
 unfold Zh.l1
 rw [Za ZN,Zj,if_pos (by simpa using hlt),hft,Za QS,Za (show ld1 (pa H.length 0) X=some (.int .u8 r.kd,X) from JS (o:=0) c1 rfl),Za w1]
 refine (e1 _).trans ?_
 rw [QT,Za (l1 (.refl _)),WH e2,ZL,QW,Za (l1 (.refl _)),Za e3,Za (l1 k2),Zr,Za (Zfo T1.l)]
 rw [QU,KS,QU,Za e4,QU,Za ni,Za Zt]
 rw [show cond false (Value.bool true) (Value.bool false)=.bool false from rfl]
 rw [QU,KS,QU,Za (l1 k13),QU,KS,QU,Za e5,QU,Za (l1 k13),Zr,QU,Za e6,QU,Za ni,Za Zt]
 rw [show cond false (Value.bool true) (Value.bool false)=.bool false from rfl,Zj,if_neg (by simp),Za ZU,ZdT (by omega)]
 rfl
theorem Zen {z : Int} (hR : SlN 4 H0 sl (rs.map Kw.cells)) (hn : rs.length≤60) : ∀ (t i : Nat) (ns : List Int) (H : Zb),rs.length - i=t→i≤rs.length→TS H0 H tq wq ns→
  ∃ H',Qb (c6 (Zh.l1 (R (n+4)))) [iv z,pt tq,pt wq,sl,iv rs.length,iv i] H=some (.ext 0 [],H')
 | 0,i,ns,H,ht,hi,h=>by
  have : i=rs.length:=by omega
  subst this
  refine ⟨H,YA ?_⟩
  rw [QT]
  unfold Zh.l1
  rw [Za ZN,Zj,if_neg (by simp)]
  rfl
 | t+1,i,ns,H,ht,hi,h=>by
  obtain ⟨H1,os,T1,e1⟩:=ZdW (n:=n) (z:=z) (i:=i) h hR (by omega) hn
  obtain ⟨H2,e2⟩:=Zen hR hn t (i+1) os H1 (by omega) (by omega) T1
  exact ⟨H2,(YI e1).trans e2⟩
theorem ZeF {z : Int} (hR : SlN 4 H sl (rs.map Kw.cells)) : ∃ H',R (n+5) JF [sl,iv z] H=some (.bool true,H'):=by
 obtain ⟨H1,e1,k1⟩:=Zb7 n H
 have hl : ∀ Z,KA sl Z=some (iv rs.length,Z):=fun Z=>by have:=hR.len (H':=Z);rwa [List.length_map] at this
 rw [R,Wk rfl]
 unfold Zh
 rw [Za e1,Za Z7,show (!true)=false from rfl,ZaY,KQ,Za (hl H1),KQ,Za Qk,KS,QO,Za Zt]
 by_cases hn : rs.length≤60
 ·have g1 : (H1++[tly Ze])[H1.length]?=some (tly Ze):=QK
  have T0 : TS H1 (H1++[tly Ze]++[tly Ze]) H1.length (H1++[tly Ze]).length Ze:=⟨(HLe.app _ _).trans (.app _ _),Yp QK,QK,rfl,Nat.le_refl _,by simp,by simp⟩
  obtain ⟨H2,e2⟩:=Zen (n:=n) (z:=z) (hR.mono k1) hn rs.length 0 Ze _ (by omega) (by omega) T0
  have e2 : Qb (c6 (Zh.l1 (R (n+4)))) [iv z,pt H1.length,pt (H1++[tly Ze]).length,sl,iv rs.length,.int .i64 0] (H1++[tly Ze]++[tly Ze])=_:=e2
  rw [decide_eq_false (show ¬ ((rs.length : Int) > 60) by omega),show cond false (Value.bool true) (Value.bool false)=.bool false from rfl,Zj,if_neg (by simp),Za WY,Za WY,Za (hl _),WH e2,ZL]
  exact ⟨H2,rfl⟩
 ·obtain ⟨H2,e2,_⟩:=Zb7 n H1
  rw [decide_eq_true (show ((rs.length : Int) > 60) by omega),show cond false (Value.bool true) (Value.bool true)=.bool true from rfl,Zj,if_pos rfl,Za e2]
  exact ⟨H2,rfl⟩
abbrev tActT : Ty:=.struct (.pair (.int .u8) (.pair (.int .i64) (.pair (.int .i64) (.pair (.int .i64) .unit))))
theorem ZeR {x : tActT.den} {H : Zb} {cs : List Value} (hw : tActT.wf x) (h : Rd tActT x H cs) : ∃ r : Kw,cs=r.cells∧True:=by
 obtain ⟨kd,at_,x,y,u⟩:=x
 obtain ⟨h1,h2,h3,h4,h5⟩:=h
 obtain ⟨w1,_⟩:=hw
 have w1:=Zfl w1
 have h1 : cs.take 1=[.int .u8 kd]:=h1
 have h2 : (cs.drop 1).take 1=[.int .i64 at_]:=h2
 have h3 : ((cs.drop 1).drop 1).take 1=[.int .i64 x]:=h3
 have h4 : (((cs.drop 1).drop 1).drop 1).take 1=[.int .i64 y]:=h4
 have h5 : (((cs.drop 1).drop 1).drop 1).drop 1=[]:=h5
 match cs,h1,h2,h3,h4,h5 with
 | [c1,c2,c3,c4],h1,h2,h3,h4,_=>
  have e1 : c1=.int .u8 kd:=by simpa using h1
  have e2 : c2=.int .i64 at_:=by simpa using h2
  have e3 : c3=.int .i64 x:=by simpa using h3
  have e4 : c4=.int .i64 y:=by simpa using h4
  refine ⟨⟨Int.toNat kd,at_,x,y⟩,?_,trivial⟩
  have : Value.int .u8 kd=Value.int .u8 ((Int.toNat kd : Nat) : Int):=by rw [Int.toNat_of_nonneg w1.1]
  rw [e1,e2,e3,e4,this]
  rfl
theorem law_TallyPlays : ∀ (xs : Ins [.slc tActT,.int .i64]) (H : Zb) (vs : List Value),ZbA [.slc tActT,.int .i64] xs→ZbE [.slc tActT,.int .i64] xs H vs→∃ n H',R n JF vs H=some (.bool true,H'):=by
 intro xs H vs hwf hrd
 obtain ⟨l,z,_⟩:=xs
 obtain ⟨hl,_,_⟩:=hwf
 obtain ⟨c1,_,rfl,hc1,h1,c2,_,rfl,hc2,h2,rfl⟩:=hrd
 obtain ⟨a,rfl⟩ : ∃ a,c1=[a]:=by
  match c1,hc1 with
  | [a],_=>exact ⟨a,rfl⟩
 have h2 : c2=[.int .i64 z]:=h2
 subst h2
 obtain ⟨rows,g1,g2,g3,g4⟩:=ZeT hl h1
 obtain ⟨rs,g5,g6⟩:=Za3 (f:=Kw.cells) (Q:=fun _ _=>True) (rows:=rows) fun r hr=>by
  obtain ⟨y,hy,hr⟩:=g2 r hr
  exact ZeR hy hr
 subst g5
 obtain ⟨H',e⟩:=ZeF (n:=0) (z:=z) g1
 exact ⟨5,H',e⟩
end Go.Proofs.Ytfefblgkfdaekaa.A

