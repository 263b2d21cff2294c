/- What the law MigrateBytes needs (part 4). -/
import Derived.Test.YtedkoimihknggaaGreatDoorZMigrateBytes3
namespace Go.Proofs.YtedkoimihknggaaGreatDoor.A
set_option linter.unusedVariables false
set_option linter.unusedSimpArgs false
open Go.Proofs Go.Proofs.YtedkoimihknggaaGreatDoor
abbrev u8v (b : UInt8) : Value:=.int .u8 b.toNat
def Ky (b : UInt8) : Bool:=decide (97≤b.toNat) && decide (b.toNat≤122)
def ZbF (b : UInt8) : Bool:=decide (48≤b.toNat) && decide (b.toNat≤57)
def ZeW (b : UInt8) : Bool:=Ky b || (ZbF b || (decide (b.toNat=45) || decide (b.toNat=46)))
def ZjL (b : UInt8) : Bool:=ZbF b || (decide (97≤b.toNat) && decide (b.toNat≤102))
def KR (b : UInt8) : Bool:=Ky b || ZbF b
def ZB (s : List UInt8) : Bool:=decide (1≤s.length) && decide (s.length≤12) && s.all ZeW && Ky (s.getD 0 0) && KR (s.getD (s.length - 1) 0)
def KW (s : List UInt8) : Bool:=decide (1≤s.length) && decide (s.length≤12) && s.all ZjL
section
variable {H : Zd} {n : Nat} {b : UInt8} {s : List UInt8}
theorem WK {i : Nat} {x : UInt8} (hi : s[i]?=some x) (q : IntKind) (H : Zd) : ixs (strv s) (.int q i) H=some (u8v x,H):=by
 have hlt : i < s.length:=(List.getElem?_eq_some_iff.1 hi).1
 have hx : s[i]=x:=(List.getElem?_eq_some_iff.1 hi).2
 have hs : i < (⟨s.toArray⟩ : ByteArray).size:=by simpa [ByteArray.size] using hlt
 unfold ixs strv
 simp only [Int.toNat_natCast]
 rw [if_pos (by omega),getElem?_pos (⟨s.toArray⟩ : ByteArray) i hs]
 have : (⟨s.toArray⟩ : ByteArray)[i]=x:=by rw [← hx];rfl
 rw [this]
theorem Zhs : R (n+1) YA [u8v b] H=some (.bool (Ky b),H):=by
 rw [R,Zoa rfl]
 unfold Ky
 by_cases h1 : (97 : Int)≤b.toNat
 ·have h1' : 97≤b.toNat:=by omega
  by_cases h2 : (b.toNat : Int)≤122
  ·have h2' : b.toNat≤122:=by omega
   simp [ZbI,↓Qa,Z8,↓QG,Qk,Qm,Ql,↓Zb,JR,Zv,Yh,Qj,Ju,Qv,Jv,Je,QO,JE,QP,QX,QZ,Q0,Qi,Zh,ZY,Yi,Ys,Jf,Q4,JQ,Zt,Qr,JD,JI,JG,ZA,Zq,Zg,Q8,ZF,Qz,JT,JN,JA,JK,↓YI,JU,↓g_r,YD,Bool.not_true,Bool.not_false,Bool.false_eq_true,Bool.true_eq_false,reduceIte,List.tail_cons,List.headD_cons,decide_true,decide_false,cond_true,cond_false,Nat.beq_refl,KC,Jy,ZP,ZX,ZC,ZU,Jx,Yn,YG,YR,J2,Yu,Yt,Zu,List.replicate,Zo,Zn,QM,QL,QN,Zi,QD,ZM,Ji,h1,h2,h1',h2']
  ·have h2' : ¬ b.toNat≤122:=by omega
   simp [ZbI,↓Qa,Z8,↓QG,Qk,Qm,Ql,↓Zb,JR,Zv,Yh,Qj,Ju,Qv,Jv,Je,QO,JE,QP,QX,QZ,Q0,Qi,Zh,ZY,Yi,Ys,Jf,Q4,JQ,Zt,Qr,JD,JI,JG,ZA,Zq,Zg,Q8,ZF,Qz,JT,JN,JA,JK,↓YI,JU,↓g_r,YD,Bool.not_true,Bool.not_false,Bool.false_eq_true,Bool.true_eq_false,reduceIte,List.tail_cons,List.headD_cons,decide_true,decide_false,cond_true,cond_false,Nat.beq_refl,KC,Jy,ZP,ZX,ZC,ZU,Jx,Yn,YG,YR,J2,Yu,Yt,Zu,List.replicate,Zo,Zn,QM,QL,QN,Zi,QD,ZM,Ji,h1,h2,h1',h2']
 ·have h1' : ¬ 97≤b.toNat:=by omega
  simp [ZbI,↓Qa,Z8,↓QG,Qk,Qm,Ql,↓Zb,JR,Zv,Yh,Qj,Ju,Qv,Jv,Je,QO,JE,QP,QX,QZ,Q0,Qi,Zh,ZY,Yi,Ys,Jf,Q4,JQ,Zt,Qr,JD,JI,JG,ZA,Zq,Zg,Q8,ZF,Qz,JT,JN,JA,JK,↓YI,JU,↓g_r,YD,Bool.not_true,Bool.not_false,Bool.false_eq_true,Bool.true_eq_false,reduceIte,List.tail_cons,List.headD_cons,decide_true,decide_false,cond_true,cond_false,Nat.beq_refl,KC,Jy,ZP,ZX,ZC,ZU,Jx,Yn,YG,YR,J2,Yu,Yt,Zu,List.replicate,Zo,Zn,QM,QL,QN,Zi,QD,ZM,Ji,h1,h1']
theorem Zj6 : R (n+1) YV [u8v b] H=some (.bool (ZbF b),H):=by
 rw [R,Zpf rfl]
 unfold ZbF
 by_cases h1 : (48 : Int)≤b.toNat
 ·have h1' : 48≤b.toNat:=by omega
  by_cases h2 : (b.toNat : Int)≤57
  ·have h2' : b.toNat≤57:=by omega
   simp [Zcj,↓Qa,Z8,↓QG,Qk,Qm,Ql,↓Zb,JR,Zv,Yh,Qj,Ju,Qv,Jv,Je,QO,JE,QP,QX,QZ,Q0,Qi,Zh,ZY,Yi,Ys,Jf,Q4,JQ,Zt,Qr,JD,JI,JG,ZA,Zq,Zg,Q8,ZF,Qz,JT,JN,JA,JK,↓YI,JU,↓g_r,YD,Bool.not_true,Bool.not_false,Bool.false_eq_true,Bool.true_eq_false,reduceIte,List.tail_cons,List.headD_cons,decide_true,decide_false,cond_true,cond_false,Nat.beq_refl,KC,Jy,ZP,ZX,ZC,ZU,Jx,Yn,YG,YR,J2,Yu,Yt,Zu,List.replicate,Zo,Zn,QM,QL,QN,Zi,QD,ZM,Ji,h1,h2,h1',h2']
  ·have h2' : ¬ b.toNat≤57:=by omega
   simp [Zcj,↓Qa,Z8,↓QG,Qk,Qm,Ql,↓Zb,JR,Zv,Yh,Qj,Ju,Qv,Jv,Je,QO,JE,QP,QX,QZ,Q0,Qi,Zh,ZY,Yi,Ys,Jf,Q4,JQ,Zt,Qr,JD,JI,JG,ZA,Zq,Zg,Q8,ZF,Qz,JT,JN,JA,JK,↓YI,JU,↓g_r,YD,Bool.not_true,Bool.not_false,Bool.false_eq_true,Bool.true_eq_false,reduceIte,List.tail_cons,List.headD_cons,decide_true,decide_false,cond_true,cond_false,Nat.beq_refl,KC,Jy,ZP,ZX,ZC,ZU,Jx,Yn,YG,YR,J2,Yu,Yt,Zu,List.replicate,Zo,Zn,QM,QL,QN,Zi,QD,ZM,Ji,h1,h2,h1',h2']
 ·have h1' : ¬ 48≤b.toNat:=by omega
  simp [Zcj,↓Qa,Z8,↓QG,Qk,Qm,Ql,↓Zb,JR,Zv,Yh,Qj,Ju,Qv,Jv,Je,QO,JE,QP,QX,QZ,Q0,Qi,Zh,ZY,Yi,Ys,Jf,Q4,JQ,Zt,Qr,JD,JI,JG,ZA,Zq,Zg,Q8,ZF,Qz,JT,JN,JA,JK,↓YI,JU,↓g_r,YD,Bool.not_true,Bool.not_false,Bool.false_eq_true,Bool.true_eq_false,reduceIte,List.tail_cons,List.headD_cons,decide_true,decide_false,cond_true,cond_false,Nat.beq_refl,KC,Jy,ZP,ZX,ZC,ZU,Jx,Yn,YG,YR,J2,Yu,Yt,Zu,List.replicate,Zo,Zn,QM,QL,QN,Zi,QD,ZM,Ji,h1,h1']
theorem Zk0 {a b : Nat} : ((a : Int)==(b : Int))=decide (a=b):=by
 rw [Bool.eq_iff_iff,beq_iff_eq,decide_eq_true_eq];omega
theorem Zy7 : R (n+2) Zdx [u8v b] H=some (.bool (ZeW b),H):=by
 have e1 : run Tryz.prog np lvs (n+1) YA [u8v b] H=some (.bool (Ky b),H):=Zhs
 have e2 : run Tryz.prog np lvs (n+1) YV [u8v b] H=some (.bool (ZbF b),H):=Zj6
 have q1 : ((b.toNat : Int)==45)=decide (b.toNat=45):=Zk0 (b:=45)
 have q2 : ((b.toNat : Int)==46)=decide (b.toNat=46):=Zk0 (b:=46)
 rw [R,ZqR rfl]
 unfold ZeW
 generalize Ky b=p at e1 ⊢
 generalize ZbF b=q at e2 ⊢
 cases p <;> cases q <;> cases h3 : decide (b.toNat=45) <;> simp [ZgR,↓Qa,Z8,↓QG,Qk,Qm,Ql,↓Zb,JR,Zv,Yh,Qj,Ju,Qv,Jv,Je,QO,JE,QP,QX,QZ,Q0,Qi,Zh,ZY,Yi,Ys,Jf,Q4,JQ,Zt,Qr,JD,JI,JG,ZA,Zq,Zg,Q8,ZF,Qz,JT,JN,JA,JK,↓YI,JU,↓g_r,YD,Bool.not_true,Bool.not_false,Bool.false_eq_true,Bool.true_eq_false,reduceIte,List.tail_cons,List.headD_cons,decide_true,decide_false,cond_true,cond_false,Nat.beq_refl,KC,Jy,ZP,ZX,ZC,ZU,Jx,Yn,YG,YR,J2,Yu,Yt,Zu,List.replicate,Zo,Zn,QM,QL,QN,Zi,QD,ZM,Ji,e1,e2,q1,q2,h3] <;> (cases h4 : decide (b.toNat=46) <;> simp_all)
theorem Zzv : R (n+2) Zcd [u8v b] H=some (.bool (ZjL b),H):=by
 have e2 : run Tryz.prog np lvs (n+1) YV [u8v b] H=some (.bool (ZbF b),H):=Zj6
 rw [R,ZpI rfl]
 unfold ZjL
 generalize ZbF b=q at e2 ⊢
 cases q
 ·by_cases h1 : (97 : Int)≤b.toNat
  ·have h1' : 97≤b.toNat:=by omega
   by_cases h2 : (b.toNat : Int)≤102
   ·have h2' : b.toNat≤102:=by omega
    simp [Za7,↓Qa,Z8,↓QG,Qk,Qm,Ql,↓Zb,JR,Zv,Yh,Qj,Ju,Qv,Jv,Je,QO,JE,QP,QX,QZ,Q0,Qi,Zh,ZY,Yi,Ys,Jf,Q4,JQ,Zt,Qr,JD,JI,JG,ZA,Zq,Zg,Q8,ZF,Qz,JT,JN,JA,JK,↓YI,JU,↓g_r,YD,Bool.not_true,Bool.not_false,Bool.false_eq_true,Bool.true_eq_false,reduceIte,List.tail_cons,List.headD_cons,decide_true,decide_false,cond_true,cond_false,Nat.beq_refl,KC,Jy,ZP,ZX,ZC,ZU,Jx,Yn,YG,YR,J2,Yu,Yt,Zu,List.replicate,Zo,Zn,QM,QL,QN,Zi,QD,ZM,Ji,e2,h1,h2,h1',h2']
   ·have h2' : ¬ b.toNat≤102:=by omega
    simp [Za7,↓Qa,Z8,↓QG,Qk,Qm,Ql,↓Zb,JR,Zv,Yh,Qj,Ju,Qv,Jv,Je,QO,JE,QP,QX,QZ,Q0,Qi,Zh,ZY,Yi,Ys,Jf,Q4,JQ,Zt,Qr,JD,JI,JG,ZA,Zq,Zg,Q8,ZF,Qz,JT,JN,JA,JK,↓YI,JU,↓g_r,YD,Bool.not_true,Bool.not_false,Bool.false_eq_true,Bool.true_eq_false,reduceIte,List.tail_cons,List.headD_cons,decide_true,decide_false,cond_true,cond_false,Nat.beq_refl,KC,Jy,ZP,ZX,ZC,ZU,Jx,Yn,YG,YR,J2,Yu,Yt,Zu,List.replicate,Zo,Zn,QM,QL,QN,Zi,QD,ZM,Ji,e2,h1,h2,h1',h2']
  ·have h1' : ¬ 97≤b.toNat:=by omega
   simp [Za7,↓Qa,Z8,↓QG,Qk,Qm,Ql,↓Zb,JR,Zv,Yh,Qj,Ju,Qv,Jv,Je,QO,JE,QP,QX,QZ,Q0,Qi,Zh,ZY,Yi,Ys,Jf,Q4,JQ,Zt,Qr,JD,JI,JG,ZA,Zq,Zg,Q8,ZF,Qz,JT,JN,JA,JK,↓YI,JU,↓g_r,YD,Bool.not_true,Bool.not_false,Bool.false_eq_true,Bool.true_eq_false,reduceIte,List.tail_cons,List.headD_cons,decide_true,decide_false,cond_true,cond_false,Nat.beq_refl,KC,Jy,ZP,ZX,ZC,ZU,Jx,Yn,YG,YR,J2,Yu,Yt,Zu,List.replicate,Zo,Zn,QM,QL,QN,Zi,QD,ZM,Ji,e2,h1,h1']
 ·simp [Za7,↓Qa,Z8,↓QG,Qk,Qm,Ql,↓Zb,JR,Zv,Yh,Qj,Ju,Qv,Jv,Je,QO,JE,QP,QX,QZ,Q0,Qi,Zh,ZY,Yi,Ys,Jf,Q4,JQ,Zt,Qr,JD,JI,JG,ZA,Zq,Zg,Q8,ZF,Qz,JT,JN,JA,JK,↓YI,JU,↓g_r,YD,Bool.not_true,Bool.not_false,Bool.false_eq_true,Bool.true_eq_false,reduceIte,List.tail_cons,List.headD_cons,decide_true,decide_false,cond_true,cond_false,Nat.beq_refl,KC,Jy,ZP,ZX,ZC,ZU,Jx,Yn,YG,YR,J2,Yu,Yt,Zu,List.replicate,Zo,Zn,QM,QL,QN,Zi,QD,ZM,Ji,e2]
theorem Zuj {f : Value} {p : UInt8→Bool} (hf : ∀ (b : UInt8) (H : Zd),Kh (R n) f [u8v b] H=some (.bool (p b),H)) (hs : s.length≤1000000000) : ∀ (t k : Nat),s.length - k=t→k≤s.length→
  Zj (c4 (Wp.l1 (R n))) [strv s,f,iv s.length,iv k] H=some (if (s.drop k).all p then .ext 0 [] else .ret (.bool false),H)
 | 0,k,ht,hk=>by
  have : k=s.length:=by omega
  subst this
  rw [List.drop_length]
  refine ZD ?_
  simp [Wp.l1,↓Qa,Z8,↓QG,Qk,Qm,Ql,↓Zb,JR,Zv,Yh,Qj,Ju,Qv,Jv,Je,QO,JE,QP,QX,QZ,Q0,Qi,Zh,ZY,Yi,Ys,Jf,Q4,JQ,Zt,Qr,JD,JI,JG,ZA,Zq,Zg,Q8,ZF,Qz,JT,JN,JA,JK,↓YI,JU,↓g_r,YD,Bool.not_true,Bool.not_false,Bool.false_eq_true,Bool.true_eq_false,reduceIte,List.tail_cons,List.headD_cons,decide_true,decide_false,cond_true,cond_false,Nat.beq_refl,KC,Jy,ZP,ZX,ZC,ZU,Jx,Yn,YG,YR,J2,Yu,Yt,Zu,List.replicate,Zo,Zn,QM,QL,QN,Zi,QD,ZM,Ji]
 | t+1,k,ht,hk=>by
  have hkl : k < s.length:=by omega
  have hlt : (k : Int) < s.length:=by omega
  have hg:=List.getElem?_eq_getElem hkl
  have hd:=List.drop_eq_getElem_cons hkl
  generalize s[k]=b at hg hd
  have x1:=WK hg .i64 H
  have ih:=Zuj hf hs t (k+1) (by omega) (by omega)
  rw [hd,List.all_cons]
  cases hp : p b
  ·refine Qc ?_
   have e:=hf b H
   rw [hp] at e
   rw [ZC]
   unfold Wp.l1
   rw [Za Zg,Zb,if_pos (by simpa using hlt),Za x1,Za e,Za ZY,Zb,if_pos (by rfl)]
   rfl
  ·rw [Bool.true_and]
   refine (Zr ?_).trans ih
   have e:=hf b H
   rw [hp] at e
   rw [ZC]
   unfold Wp.l1
   rw [Za Zg,Zb,if_pos (by simpa using hlt),Za x1,Za e,Za ZY,Zb,if_neg (by simp),Za Zt,Qh (by omega)]
   rfl
theorem Ztn {f : Value} {p : UInt8→Bool} (hf : ∀ (b : UInt8) (H : Zd),Kh (R n) f [u8v b] H=some (.bool (p b),H)) (hs : s.length≤1000000000) : R (n+1) KB [strv s,f] H=some (.bool (s.all p),H):=by
 have e:=Zuj (H:=H) hf hs s.length 0 (by omega) (by omega)
 rw [List.drop_zero] at e
 have e : Zj (c4 (Wp.l1 (R n))) [strv s,f,iv s.length,.int .i64 0] H=_:=e
 rw [R,Zsk rfl]
 unfold Wp
 rw [Za ZM]
 cases h : s.all p
 ·rw [h] at e
  rw [QI e];rfl
 ·rw [h] at e
  rw [ZO e,Zu];rfl
theorem Zp2 {g : Nat} {args : List Value} (hy : Nat.blt g Zay=true:=by rfl) : Kh (R n) (.func (.func g) #[] #[]) args=R n g args:=by
 have : Kh (R n) (.func (.func g) #[] #[]) args=R n g ([]++(args++[])):=by
  simp only [Kh,hy,cond_true]
 rw [this];simp
theorem Zvu (hs : s.length≤1000000000) : R (n+3) KB [strv s,.func (.func Zdx) #[] #[]] H=some (.bool (s.all ZeW),H):=
 Ztn (fun b H=>by rw [Zp2];exact Zy7) hs
theorem ZwC (hs : s.length≤1000000000) : R (n+3) KB [strv s,.func (.func Zcd) #[] #[]] H=some (.bool (s.all ZjL),H):=
 Ztn (fun b H=>by rw [Zp2];exact Zzv) hs
theorem ZcT : bop .str .eql (strv s) (.string ⟨#[]⟩) H=some (.bool (decide (s.length=0)),H):=by
 have:=Zd1 (H:=H) (a:=s) (b:=[])
 have h : (s==[])=decide (s.length=0):=by cases s <;> simp
 rw [h] at this
 exact this
theorem Zo0 : R (n+4) WC [strv s] H=some (.bool (ZB s),H):=by
 rw [R,ZnZ rfl]
 unfold ZB
 by_cases h0 : s.length=0
 ·have h1 : ¬ 1≤s.length:=by omega
  unfold ZbL
  rw [Za ZcT,decide_eq_true h0]
  simp [↓Qa,Z8,↓QG,Qk,Qm,Ql,↓Zb,JR,Zv,Yh,Qj,Ju,Qv,Jv,Je,QO,JE,QP,QX,QZ,Q0,Qi,Zh,ZY,Yi,Ys,Jf,Q4,JQ,Zt,Qr,JD,JI,JG,ZA,Zq,Zg,Q8,ZF,Qz,JT,JN,JA,JK,↓YI,JU,↓g_r,YD,Bool.not_true,Bool.not_false,Bool.false_eq_true,Bool.true_eq_false,reduceIte,List.tail_cons,List.headD_cons,decide_true,decide_false,cond_true,cond_false,Nat.beq_refl,KC,Jy,ZP,ZX,ZC,ZU,Jx,Yn,YG,YR,J2,Yu,Yt,Zu,List.replicate,Zo,Zn,QM,QL,QN,Zi,QD,ZM,Ji,h1]
 ·have h1 : 1≤s.length:=by omega
  by_cases h12 : s.length≤12
  ·have e1 : run Tryz.prog np lvs (n+3) KB [strv s,.func (.func Zdx) #[] #[]] H=some (.bool (s.all ZeW),H):=Zvu (by omega)
   have g0 : s[0]?=some (s.getD 0 0):=by rw [List.getElem?_eq_getElem (by omega)];simp [List.getD_eq_getElem?_getD,List.getElem?_eq_getElem (show 0 < s.length by omega)]
   have gl : s[s.length - 1]?=some (s.getD (s.length - 1) 0):=by rw [List.getElem?_eq_getElem (by omega)];simp [List.getD_eq_getElem?_getD,List.getElem?_eq_getElem (show s.length - 1 < s.length by omega)]
   have x0 : ixs (strv s) (.int .i64 0) H=some (u8v (s.getD 0 0),H):=WK g0 .i64 H
   have xl:=WK gl .i64 H
   have wl:=Zj5 (k:=s.length) (by omega) (by omega)
   generalize s.getD 0 0=b0 at x0
   generalize s.getD (s.length - 1) 0=bl at xl
   have e2 : run Tryz.prog np lvs (n+3) YA [u8v b0] H=some (.bool (Ky b0),H):=Zhs
   have e3 : run Tryz.prog np lvs (n+3) YA [u8v bl] H=some (.bool (Ky bl),H):=Zhs
   have e4 : run Tryz.prog np lvs (n+3) YV [u8v bl] H=some (.bool (ZbF bl),H):=Zj6
   have q1 : bop .int .gtr (iv s.length) (.int .i64 12) H=some (.bool false,H):=by rw [ZF,decide_eq_false (by omega)]
   unfold ZbL
   rw [Za ZcT,decide_eq_false h0,decide_eq_true h1,decide_eq_true h12]
   rw [ZK,Zf,Za ZM,Zf,Za q1,ZQ,ZX,Za Zh]
   simp only [cond_false]
   rw [ZK,Zf,Za x0,Zf,Za e2,Zf,Za ZY,ZQ,ZC,Za Zh]
   simp only [cond_false]
   cases hb0 : Ky b0
   ·simp [↓Qa,Z8,↓QG,Qk,Qm,Ql,↓Zb,JR,Zv,Yh,Qj,Ju,Qv,Jv,Je,QO,JE,QP,QX,QZ,Q0,Qi,Zh,ZY,Yi,Ys,Jf,Q4,JQ,Zt,Qr,JD,JI,JG,ZA,Zq,Zg,Q8,ZF,Qz,JT,JN,JA,JK,↓YI,JU,↓g_r,YD,Bool.not_true,Bool.not_false,Bool.false_eq_true,Bool.true_eq_false,reduceIte,List.tail_cons,List.headD_cons,decide_true,decide_false,cond_true,cond_false,Nat.beq_refl,KC,Jy,ZP,ZX,ZC,ZU,Jx,Yn,YG,YR,J2,Yu,Yt,Zu,List.replicate,Zo,Zn,QM,QL,QN,Zi,QD,ZM,Ji]
   ·simp only [Bool.not_true]
    rw [ZK,Zf,Za e1,Zf,Za ZY,ZQ,ZX,Za Zh]
    simp only [cond_false]
    cases hall : s.all ZeW
    ·simp [↓Qa,Z8,↓QG,Qk,Qm,Ql,↓Zb,JR,Zv,Yh,Qj,Ju,Qv,Jv,Je,QO,JE,QP,QX,QZ,Q0,Qi,Zh,ZY,Yi,Ys,Jf,Q4,JQ,Zt,Qr,JD,JI,JG,ZA,Zq,Zg,Q8,ZF,Qz,JT,JN,JA,JK,↓YI,JU,↓g_r,YD,Bool.not_true,Bool.not_false,Bool.false_eq_true,Bool.true_eq_false,reduceIte,List.tail_cons,List.headD_cons,decide_true,decide_false,cond_true,cond_false,Nat.beq_refl,KC,Jy,ZP,ZX,ZC,ZU,Jx,Yn,YG,YR,J2,Yu,Yt,Zu,List.replicate,Zo,Zn,QM,QL,QN,Zi,QD,ZM,Ji]
    ·simp only [Bool.not_true]
     rw [Zb,if_neg (by simp),Za ZM,Za Qr,wl,Za xl,Za e3]
     unfold KR
     cases hl : Ky bl
     ·rw [ZK,Zf,Za e4,ZQ,ZP,Za Zh]
      simp [ret]
     ·simp [↓Qa,Z8,↓QG,Qk,Qm,Ql,↓Zb,JR,Zv,Yh,Qj,Ju,Qv,Jv,Je,QO,JE,QP,QX,QZ,Q0,Qi,Zh,ZY,Yi,Ys,Jf,Q4,JQ,Zt,Qr,JD,JI,JG,ZA,Zq,Zg,Q8,ZF,Qz,JT,JN,JA,JK,↓YI,JU,↓g_r,YD,Bool.not_true,Bool.not_false,Bool.false_eq_true,Bool.true_eq_false,reduceIte,List.tail_cons,List.headD_cons,decide_true,decide_false,cond_true,cond_false,Nat.beq_refl,KC,Jy,ZP,ZX,ZC,ZU,Jx,Yn,YG,YR,J2,Yu,Yt,Zu,List.replicate,Zo,Zn,QM,QL,QN,Zi,QD,ZM,Ji]
  ·have q1 : bop .int .gtr (iv s.length) (.int .i64 12) H=some (.bool true,H):=by rw [ZF,decide_eq_true (by omega)]
   unfold ZbL
   rw [Za ZcT,decide_eq_false h0]
   rw [ZK,Zf,Za ZM,Zf,Za q1,ZQ,ZX,Za Zh]
   simp [↓Qa,Z8,↓QG,Qk,Qm,Ql,↓Zb,JR,Zv,Yh,Qj,Ju,Qv,Jv,Je,QO,JE,QP,QX,QZ,Q0,Qi,Zh,ZY,Yi,Ys,Jf,Q4,JQ,Zt,Qr,JD,JI,JG,ZA,Zq,Zg,Q8,ZF,Qz,JT,JN,JA,JK,↓YI,JU,↓g_r,YD,Bool.not_true,Bool.not_false,Bool.false_eq_true,Bool.true_eq_false,reduceIte,List.tail_cons,List.headD_cons,decide_true,decide_false,cond_true,cond_false,Nat.beq_refl,KC,Jy,ZP,ZX,ZC,ZU,Jx,Yn,YG,YR,J2,Yu,Yt,Zu,List.replicate,Zo,Zn,QM,QL,QN,Zi,QD,ZM,Ji,h12]
def Z7 (s : List UInt8) : Int:=if ZB s then 0 else 10
def Yz (s : List UInt8) : Int:=if KW s then 0 else 4
theorem ZdH : R (n+5) JM [strv s] H=some (iv (Z7 s),H):=by
 have e1 : run Tryz.prog np lvs (n+4) WC [strv s] H=some (.bool (ZB s),H):=Zo0
 rw [R,Zrt rfl]
 unfold Z7
 generalize ZB s=q at e1 ⊢
 cases q <;> simp [ZhB,↓Qa,Z8,↓QG,Qk,Qm,Ql,↓Zb,JR,Zv,Yh,Qj,Ju,Qv,Jv,Je,QO,JE,QP,QX,QZ,Q0,Qi,Zh,ZY,Yi,Ys,Jf,Q4,JQ,Zt,Qr,JD,JI,JG,ZA,Zq,Zg,Q8,ZF,Qz,JT,JN,JA,JK,↓YI,JU,↓g_r,YD,Bool.not_true,Bool.not_false,Bool.false_eq_true,Bool.true_eq_false,reduceIte,List.tail_cons,List.headD_cons,decide_true,decide_false,cond_true,cond_false,Nat.beq_refl,KC,Jy,ZP,ZX,ZC,ZU,Jx,Yn,YG,YR,J2,Yu,Yt,Zu,List.replicate,Zo,Zn,QM,QL,QN,Zi,QD,ZM,Ji,e1]
theorem Zs9 : R (n+4) ZbP [strv s] H=some (iv (Yz s),H):=by
 have e1 : s.length≤12→run Tryz.prog np lvs (n+3) KB [strv s,.func (.func Zcd) #[] #[]] H=some (.bool (s.all ZjL),H):=fun h12=>ZwC (by omega)
 rw [R,ZqP rfl]
 unfold Yz KW Zhf
 rw [Za ZcT]
 by_cases h0 : s.length=0
 ·have h1 : ¬ 1≤s.length:=by omega
  rw [decide_eq_true h0]
  simp [↓Qa,Z8,↓QG,Qk,Qm,Ql,↓Zb,JR,Zv,Yh,Qj,Ju,Qv,Jv,Je,QO,JE,QP,QX,QZ,Q0,Qi,Zh,ZY,Yi,Ys,Jf,Q4,JQ,Zt,Qr,JD,JI,JG,ZA,Zq,Zg,Q8,ZF,Qz,JT,JN,JA,JK,↓YI,JU,↓g_r,YD,Bool.not_true,Bool.not_false,Bool.false_eq_true,Bool.true_eq_false,reduceIte,List.tail_cons,List.headD_cons,decide_true,decide_false,cond_true,cond_false,Nat.beq_refl,KC,Jy,ZP,ZX,ZC,ZU,Jx,Yn,YG,YR,J2,Yu,Yt,Zu,List.replicate,Zo,Zn,QM,QL,QN,Zi,QD,ZM,Ji,h1]
 ·have h1 : 1≤s.length:=by omega
  rw [decide_eq_false h0,ZK,Zf,Za ZM]
  by_cases h12 : s.length≤12
  ·have q1 : bop .int .gtr (iv s.length) (.int .i64 12) H=some (.bool false,H):=by rw [ZF,decide_eq_false (by omega)]
   rw [Zf,Za q1,ZQ,ZX,Za Zh]
   simp only [cond_false]
   rw [ZK,Zf,Za (e1 h12),Zf,Za ZY,ZQ,ZC,Za Zh]
   cases s.all ZjL <;> simp [↓Qa,Z8,↓QG,Qk,Qm,Ql,↓Zb,JR,Zv,Yh,Qj,Ju,Qv,Jv,Je,QO,JE,QP,QX,QZ,Q0,Qi,Zh,ZY,Yi,Ys,Jf,Q4,JQ,Zt,Qr,JD,JI,JG,ZA,Zq,Zg,Q8,ZF,Qz,JT,JN,JA,JK,↓YI,JU,↓g_r,YD,Bool.not_true,Bool.not_false,Bool.false_eq_true,Bool.true_eq_false,reduceIte,List.tail_cons,List.headD_cons,decide_true,decide_false,cond_true,cond_false,Nat.beq_refl,KC,Jy,ZP,ZX,ZC,ZU,Jx,Yn,YG,YR,J2,Yu,Yt,Zu,List.replicate,Zo,Zn,QM,QL,QN,Zi,QD,ZM,Ji,h12,h1]
  ·have q1 : bop .int .gtr (iv s.length) (.int .i64 12) H=some (.bool true,H):=by rw [ZF,decide_eq_true (by omega)]
   rw [Zf,Za q1,ZQ,ZX,Za Zh]
   simp [↓Qa,Z8,↓QG,Qk,Qm,Ql,↓Zb,JR,Zv,Yh,Qj,Ju,Qv,Jv,Je,QO,JE,QP,QX,QZ,Q0,Qi,Zh,ZY,Yi,Ys,Jf,Q4,JQ,Zt,Qr,JD,JI,JG,ZA,Zq,Zg,Q8,ZF,Qz,JT,JN,JA,JK,↓YI,JU,↓g_r,YD,Bool.not_true,Bool.not_false,Bool.false_eq_true,Bool.true_eq_false,reduceIte,List.tail_cons,List.headD_cons,decide_true,decide_false,cond_true,cond_false,Nat.beq_refl,KC,Jy,ZP,ZX,ZC,ZU,Jx,Yn,YG,YR,J2,Yu,Yt,Zu,List.replicate,Zo,Zn,QM,QL,QN,Zi,QD,ZM,Ji,h12]
theorem ZgC {a b : UInt8} : ((a.toNat : Int)==(b.toNat : Int))=(a==b):=by
 rw [Bool.eq_iff_iff,beq_iff_eq,beq_iff_eq,Int.ofNat_inj,UInt8.toNat_inj]
theorem Zxc {t : List UInt8} (ht : t.length≤1000000) : ∀ (d k : Nat),t.length - k=d→k≤t.length→
  Zj (c3 (Wm.l1 (R n))) [u8v b,strv t,iv k] H=some (if (t.drop k).any (·==b) then .ret (.bool true) else .ext 0 [],H)
 | 0,k,hd,hk=>by
  have : k=t.length:=by omega
  subst this
  rw [List.drop_length]
  refine ZD ?_
  rw [ZX]
  unfold Wm.l1
  rw [Za ZM,Za Zg,Zb,if_neg (by simp)]
  rfl
 | d+1,k,hd,hk=>by
  have hkl : k < t.length:=by omega
  have hlt : (k : Int) < t.length:=by omega
  have hg:=List.getElem?_eq_getElem hkl
  have hdr:=List.drop_eq_getElem_cons hkl
  generalize t[k]=c at hg hdr
  have x1:=WK hg .i64 H
  have ih:=Zxc ht d (k+1) (by omega) (by omega)
  rw [hdr,List.any_cons]
  cases hc : c==b
  ·rw [Bool.false_or]
   refine (Zr ?_).trans ih
   rw [ZX]
   unfold Wm.l1
   rw [Za ZM,Za Zg,Zb,if_pos (by simpa using hlt),Za x1,Za ZA,ZgC,hc,Zb,if_neg (by simp),Za Zt,Qh (by omega)]
   rfl
  ·refine Qc ?_
   rw [ZX]
   unfold Wm.l1
   rw [Za ZM,Za Zg,Zb,if_pos (by simpa using hlt),Za x1,Za ZA,ZgC,hc,Zb,if_pos rfl]
   rfl
theorem Ztp {t : List UInt8} (ht : t.length≤1000000) : R (n+1) Wq [u8v b,strv t] H=some (.bool (t.any (·==b)),H):=by
 have e:=Zxc (n:=n) (H:=H) (b:=b) ht t.length 0 (by omega) (by omega)
 rw [List.drop_zero] at e
 have e : Zj (c3 (Wm.l1 (R n))) [u8v b,strv t,.int .i64 0] H=_:=e
 rw [R,Zr0 rfl]
 unfold Wm
 cases h : t.any (·==b)
 ·rw [h] at e
  rw [ZO e,Zu];rfl
 ·rw [h] at e
  rw [QI e];rfl
theorem Zw8 {t : List UInt8} (ht : t.length≤1000000) (hs : s.length≤1000000000) : ∀ (d k : Nat),s.length - k=d→k≤s.length→
  Zj (c3 (Wo.l1 (R (n+1)))) [strv s,strv t,iv k] H=some (if (s.drop k).all (fun b=>t.any (·==b)) then .ext 0 [] else .ret (.bool false),H)
 | 0,k,hd,hk=>by
  have : k=s.length:=by omega
  subst this
  rw [List.drop_length]
  refine ZD ?_
  rw [ZX]
  unfold Wo.l1
  rw [Za ZM,Za Zg,Zb,if_neg (by simp)]
  rfl
 | d+1,k,hd,hk=>by
  have hkl : k < s.length:=by omega
  have hlt : (k : Int) < s.length:=by omega
  have hg:=List.getElem?_eq_getElem hkl
  have hdr:=List.drop_eq_getElem_cons hkl
  generalize s[k]=c at hg hdr
  have x1:=WK hg .i64 H
  have e1:=Ztp (n:=n) (b:=c) (H:=H) ht
  have ih:=Zw8 ht hs d (k+1) (by omega) (by omega)
  rw [hdr,List.all_cons]
  cases hc : t.any (·==c)
  ·rw [hc] at e1
   refine Qc ?_
   rw [ZX]
   unfold Wo.l1
   rw [Za ZM,Za Zg,Zb,if_pos (by simpa using hlt),Za x1,Za e1,Za ZY,Zb,if_pos (by rfl)]
   rfl
  ·rw [hc] at e1
   rw [Bool.true_and]
   refine (Zr ?_).trans ih
   rw [ZX]
   unfold Wo.l1
   rw [Za ZM,Za Zg,Zb,if_pos (by simpa using hlt),Za x1,Za e1,Za ZY,Zb,if_neg (by simp),Za Zt,Qh (by omega)]
   rfl
theorem ZyJ {t : List UInt8} {p : UInt8→Bool} (ht : t.length≤1000000) (hs : s.length≤1000000000) (hp : ∀ b,t.any (·==b)=p b) : R (n+2) Zbq [strv s,strv t] H=some (.bool (s.all p),H):=by
 have e:=Zw8 (n:=n) (H:=H) ht hs s.length 0 (by omega) (by omega)
 rw [List.drop_zero] at e
 rw [show (fun b=>t.any (·==b))=p from funext hp] at e
 have e : Zj (c3 (Wo.l1 (R (n+1)))) [strv s,strv t,.int .i64 0] H=_:=e
 rw [R,Zso rfl]
 unfold Wo
 cases h : s.all p
 ·rw [h] at e
  rw [QI e];rfl
 ·rw [h] at e
  rw [ZO e,Zu];rfl
def Zfp : List UInt8:=[97,98,99,100,101,102,103,104,105,106,107,108,109,110,111,112,113,114,115,116,117,118,119,120,121,122]
def Zqm : List UInt8:=[97,98,99,100,101,102,103,104,105,106,107,108,109,110,111,112,113,114,115,116,117,118,119,120,121,122,48,49,50,51,52,53,54,55,56,57]
def Zvo : List UInt8:=[97,98,99,100,101,102,103,104,105,106,107,108,109,110,111,112,113,114,115,116,117,118,119,120,121,122,48,49,50,51,52,53,54,55,56,57,45,46]
def ZyO : List UInt8:=[48,49,50,51,52,53,54,55,56,57,97,98,99,100,101,102]
theorem Zgr {p : UInt8→Prop} (h : ∀ n : Nat,n < 256→p (UInt8.ofNat n)) (b : UInt8) : p b:=by
 have:=h b.toNat b.toNat_lt
 rwa [UInt8.ofNat_toNat] at this
theorem ZtR : ∀ b,Zfp.any (·==b)=Ky b:=Zgr (by decide+kernel)
theorem ZqN : ∀ b,Zqm.any (·==b)=KR b:=Zgr (by decide+kernel)
theorem ZwV : ∀ b,Zvo.any (·==b)=ZeW b:=Zgr (by decide+kernel)
theorem Zzg : ∀ b,ZyO.any (·==b)=ZjL b:=Zgr (by decide+kernel)
theorem ZmD : R (n+3) Za1 [strv s] H=some (.bool (KW s),H):=by
 have e1 : s.length≤12→run Tryz.prog np lvs (n+2) Zbq [strv s,strv ZyO] H=some (.bool (s.all ZjL),H):=fun h12=>ZyJ (by decide) (by omega) Zzg
 rw [R,Zpm rfl]
 unfold KW Zgh
 rw [Za ZM]
 by_cases h1 : 1≤s.length
 ·have q1 : bop .int .geq (iv s.length) (.int .i64 1) H=some (.bool true,H):=by rw [Qz,decide_eq_true (by omega)]
  rw [Za q1,ZK,Zf,Za ZM]
  by_cases h12 : s.length≤12
  ·have q2 : bop .int .leq (iv s.length) (.int .i64 12) H=some (.bool true,H):=by rw [Q8,decide_eq_true (by omega)]
   rw [Zf,Za q2,ZQ,ZX,Za Zh]
   simp only [cond_true]
   rw [ZK,Zf]
   refine (Za (e1 h12)).trans ?_
   rw [ZQ,ZP,Za Zh,decide_eq_true h12,decide_eq_true h1]
   rfl
  ·have q2 : bop .int .leq (iv s.length) (.int .i64 12) H=some (.bool false,H):=by rw [Q8,decide_eq_false (by omega)]
   rw [Zf,Za q2,ZQ,ZX,Za Zh]
   simp [↓Qa,Z8,↓QG,Qk,Qm,Ql,↓Zb,JR,Zv,Yh,Qj,Ju,Qv,Jv,Je,QO,JE,QP,QX,QZ,Q0,Qi,Zh,ZY,Yi,Ys,Jf,Q4,JQ,Zt,Qr,JD,JI,JG,ZA,Zq,Zg,Q8,ZF,Qz,JT,JN,JA,JK,↓YI,JU,↓g_r,YD,Bool.not_true,Bool.not_false,Bool.false_eq_true,Bool.true_eq_false,reduceIte,List.tail_cons,List.headD_cons,decide_true,decide_false,cond_true,cond_false,Nat.beq_refl,KC,Jy,ZP,ZX,ZC,ZU,Jx,Yn,YG,YR,J2,Yu,Yt,Zu,List.replicate,Zo,Zn,QM,QL,QN,Zi,QD,ZM,Ji,h12]
 ·have q1 : bop .int .geq (iv s.length) (.int .i64 1) H=some (.bool false,H):=by rw [Qz,decide_eq_false (by omega)]
  rw [Za q1]
  simp [↓Qa,Z8,↓QG,Qk,Qm,Ql,↓Zb,JR,Zv,Yh,Qj,Ju,Qv,Jv,Je,QO,JE,QP,QX,QZ,Q0,Qi,Zh,ZY,Yi,Ys,Jf,Q4,JQ,Zt,Qr,JD,JI,JG,ZA,Zq,Zg,Q8,ZF,Qz,JT,JN,JA,JK,↓YI,JU,↓g_r,YD,Bool.not_true,Bool.not_false,Bool.false_eq_true,Bool.true_eq_false,reduceIte,List.tail_cons,List.headD_cons,decide_true,decide_false,cond_true,cond_false,Nat.beq_refl,KC,Jy,ZP,ZX,ZC,ZU,Jx,Yn,YG,YR,J2,Yu,Yt,Zu,List.replicate,Zo,Zn,QM,QL,QN,Zi,QD,ZM,Ji,h1]
theorem Zc5 : R (n+3) YB [strv s] H=some (.bool (ZB s),H):=by
 have e1 : s.length≤12→run Tryz.prog np lvs (n+2) Zbq [strv s,strv Zvo] H=some (.bool (s.all ZeW),H):=fun h12=>ZyJ (by decide) (by omega) ZwV
 rw [R,Zpp rfl]
 unfold ZB Zgg
 rw [Za ZM]
 by_cases h1 : 1≤s.length
 ·have q1 : bop .int .geq (iv s.length) (.int .i64 1) H=some (.bool true,H):=by rw [Qz,decide_eq_true (by omega)]
  rw [Za q1,ZK,Zf]
  by_cases h12 : s.length≤12
  ·have q2 : bop .int .leq (iv s.length) (.int .i64 12) H=some (.bool true,H):=by rw [Q8,decide_eq_true (by omega)]
   have g0 : s[0]?=some (s.getD 0 0):=by rw [List.getElem?_eq_getElem (by omega)];simp [List.getD_eq_getElem?_getD,List.getElem?_eq_getElem (show 0 < s.length by omega)]
   have gl : s[s.length - 1]?=some (s.getD (s.length - 1) 0):=by rw [List.getElem?_eq_getElem (by omega)];simp [List.getD_eq_getElem?_getD,List.getElem?_eq_getElem (show s.length - 1 < s.length by omega)]
   have x0 : ixs (strv s) (.int .i64 0) H=some (u8v (s.getD 0 0),H):=WK g0 .i64 H
   have xl:=WK gl .i64 H
   have wl:=Zj5 (k:=s.length) (by omega) (by omega)
   generalize s.getD 0 0=b0 at x0
   generalize s.getD (s.length - 1) 0=bl at xl
   have e2 : run Tryz.prog np lvs (n+2) Wq [u8v b0,strv Zfp] H=some (.bool (Ky b0),H):=by rw [← ZtR];exact Ztp (by decide)
   have e3 : run Tryz.prog np lvs (n+2) Wq [u8v bl,strv Zqm] H=some (.bool (KR bl),H):=by rw [← ZqN];exact Ztp (by decide)
   rw [Za q2,ZQ,ZP,Za Zh]
   simp only [cond_true]
   rw [ZK,Zf]
   refine (Za (e1 h12)).trans ?_
   rw [ZQ,ZP,Za Zh,decide_eq_true h12,decide_eq_true h1]
   simp only [cond_true]
   cases hall : s.all ZeW
   ·simp [↓Qa,Z8,↓QG,Qk,Qm,Ql,↓Zb,JR,Zv,Yh,Qj,Ju,Qv,Jv,Je,QO,JE,QP,QX,QZ,Q0,Qi,Zh,ZY,Yi,Ys,Jf,Q4,JQ,Zt,Qr,JD,JI,JG,ZA,Zq,Zg,Q8,ZF,Qz,JT,JN,JA,JK,↓YI,JU,↓g_r,YD,Bool.not_true,Bool.not_false,Bool.false_eq_true,Bool.true_eq_false,reduceIte,List.tail_cons,List.headD_cons,decide_true,decide_false,cond_true,cond_false,Nat.beq_refl,KC,Jy,ZP,ZX,ZC,ZU,Jx,Yn,YG,YR,J2,Yu,Yt,Zu,List.replicate,Zo,Zn,QM,QL,QN,Zi,QD,ZM,Ji]
   ·rw [ZK,Zf,Za x0,Zf]
    refine (Za e2).trans ?_
    rw [ZQ,ZX,Za Zh]
    simp only [cond_true]
    cases hb : Ky b0
    ·simp [↓Qa,Z8,↓QG,Qk,Qm,Ql,↓Zb,JR,Zv,Yh,Qj,Ju,Qv,Jv,Je,QO,JE,QP,QX,QZ,Q0,Qi,Zh,ZY,Yi,Ys,Jf,Q4,JQ,Zt,Qr,JD,JI,JG,ZA,Zq,Zg,Q8,ZF,Qz,JT,JN,JA,JK,↓YI,JU,↓g_r,YD,Bool.not_true,Bool.not_false,Bool.false_eq_true,Bool.true_eq_false,reduceIte,List.tail_cons,List.headD_cons,decide_true,decide_false,cond_true,cond_false,Nat.beq_refl,KC,Jy,ZP,ZX,ZC,ZU,Jx,Yn,YG,YR,J2,Yu,Yt,Zu,List.replicate,Zo,Zn,QM,QL,QN,Zi,QD,ZM,Ji]
    ·rw [ZK,Zf,Za Qr,wl,Zf,Za xl,Zf]
     refine (Za e3).trans ?_
     rw [ZQ,ZU,Za Zh]
     rfl
  ·have q2 : bop .int .leq (iv s.length) (.int .i64 12) H=some (.bool false,H):=by rw [Q8,decide_eq_false (by omega)]
   rw [Za q2,ZQ,ZP,Za Zh]
   simp [↓Qa,Z8,↓QG,Qk,Qm,Ql,↓Zb,JR,Zv,Yh,Qj,Ju,Qv,Jv,Je,QO,JE,QP,QX,QZ,Q0,Qi,Zh,ZY,Yi,Ys,Jf,Q4,JQ,Zt,Qr,JD,JI,JG,ZA,Zq,Zg,Q8,ZF,Qz,JT,JN,JA,JK,↓YI,JU,↓g_r,YD,Bool.not_true,Bool.not_false,Bool.false_eq_true,Bool.true_eq_false,reduceIte,List.tail_cons,List.headD_cons,decide_true,decide_false,cond_true,cond_false,Nat.beq_refl,KC,Jy,ZP,ZX,ZC,ZU,Jx,Yn,YG,YR,J2,Yu,Yt,Zu,List.replicate,Zo,Zn,QM,QL,QN,Zi,QD,ZM,Ji,h12]
 ·have q1 : bop .int .geq (iv s.length) (.int .i64 1) H=some (.bool false,H):=by rw [Qz,decide_eq_false (by omega)]
  rw [Za q1]
  simp [↓Qa,Z8,↓QG,Qk,Qm,Ql,↓Zb,JR,Zv,Yh,Qj,Ju,Qv,Jv,Je,QO,JE,QP,QX,QZ,Q0,Qi,Zh,ZY,Yi,Ys,Jf,Q4,JQ,Zt,Qr,JD,JI,JG,ZA,Zq,Zg,Q8,ZF,Qz,JT,JN,JA,JK,↓YI,JU,↓g_r,YD,Bool.not_true,Bool.not_false,Bool.false_eq_true,Bool.true_eq_false,reduceIte,List.tail_cons,List.headD_cons,decide_true,decide_false,cond_true,cond_false,Nat.beq_refl,KC,Jy,ZP,ZX,ZC,ZU,Jx,Yn,YG,YR,J2,Yu,Yt,Zu,List.replicate,Zo,Zn,QM,QL,QN,Zi,QD,ZM,Ji,h1]
end
end Go.Proofs.YtedkoimihknggaaGreatDoor.A

namespace Go.Proofs.YtedkoimihknggaaGreatDoor.A
set_option linter.unusedVariables false
set_option linter.unusedSimpArgs false
open Go.Proofs Go.Proofs.YtedkoimihknggaaGreatDoor
abbrev Yr:=List (List UInt8 × List UInt8)
structure Dir (H : Zd) (d b : Nat) (m : Yr) : Prop where
 c : H[d]?=some (.cells [.map (some b)] 1 false false)
 g : Ya strv H b m
 len : ∀ p∈m,p.1.length≤12
 few : m.length≤12
section
variable {H H' : Zd} {n d b p q : Nat} {m : Yr} {k s : List UInt8}
theorem Zng {v : Value} (h : oneCell v=true) (hc : v.cells=#[v]) (H : Zd) : alc 1 v H=some (pt H.length,H++[.cells [v] 1 false false]):=by
 rw [QX]
 simp [hc,h]
theorem ZeB {v : Value} {e : Nat} {g ro : Bool} (h : H[p]?=some (.cells [v] e g ro)) : ld1 (pt p) H=some (v,H):=ZN h rfl
theorem Zy9 {g : Nat} {bs args : List Value} (hy : Nat.blt g Zay=true:=by rfl) : Kh (R n) (.func (.func g) #[] bs.toArray) args=R n g (args++bs):=by
 have : Kh (R n) (.func (.func g) #[] bs.toArray) args=R n g ([]++(args++bs.toArray.toList)):=by
  simp only [Kh,hy,cond_true]
 rw [this];simp
theorem Dir.lt (h : Dir H d b m) : d < H.length∧b < H.length:=⟨Z5 h.c,h.g.lt⟩
theorem Dir.keep (h : Dir H d b m) (h1 : H'[d]?=H[d]?) (h2 : H'[b]?=H[b]?) : Dir H' d b m:=⟨by rw [h1];exact h.c,h.g.keep h2,h.len,h.few⟩
theorem Dir.hle (h : Dir H d b m) (hl : HLe H H') : Dir H' d b m:=⟨hl _ _ h.c,h.g.hle hl,h.len,h.few⟩
theorem Dir.step {o1 o2 : List Nat} (h : Dir H d b m) (hs : Zw o1 H o2 H') (h1 : d∉o1) (h2 : b∉o1) : Dir H' d b m:=h.keep (hs.keep d h.lt.1 h1) (hs.keep b h.lt.2 h2)
theorem Dir.ne (h : Dir H d b m) : d≠b:=fun e=>by
 subst e
 obtain ⟨es,_,h1⟩:=h.g.ex
 rw [h.c] at h1
 rcases h1 with ⟨_,h1,_⟩ | h1 <;> cases h1
theorem Zwk : ∃ H' d b,R (n+1) Zdd [] H=some (pt d,H')∧Dir H' d b []∧HLe H H'∧H.length≤d∧H.length≤b:=by
 obtain ⟨H1,e1,g1,l1⟩:=ZpO (α:=List UInt8) (enc:=strv) H
 have e2 : bld (.agg #[.map none]) [(0,1,.map (some H.length))] H1=some (.agg #[.map (some H.length)],H1):=by simp [↓Qa,Z8,↓QG,Qk,Qm,Ql,↓Zb,JR,Zv,Yh,Qj,Ju,Qv,Jv,Je,QO,JE,QP,QX,QZ,Q0,Qi,Zh,ZY,Yi,Ys,Jf,Q4,JQ,Zt,Qr,JD,JI,JG,ZA,Zq,Zg,Q8,ZF,Qz,JT,JN,JA,JK,↓YI,JU,↓g_r,YD,Yv,KK,splice,Value.cells]
 have e3 : alc 1 (.agg #[.map (some H.length)]) H1=some (pt H1.length,H1++[.cells [.map (some H.length)] 1 false false]):=by
  rw [QX];simp [Value.cells,oneCell]
 refine ⟨H1++[.cells [.map (some H.length)] 1 false false],H1.length,H.length,?_,⟨Zm,g1.hle (.app _ _),by simp,by simp⟩,l1.trans (.app _ _),l1.len,Nat.le_refl _⟩
 rw [R,Zrb rfl]
 unfold Zhz
 rw [Za e1,Za e2,Za e3]
 rfl
end
end Go.Proofs.YtedkoimihknggaaGreatDoor.A

namespace Go.Proofs.YtedkoimihknggaaGreatDoor.A
set_option linter.unusedVariables false
set_option linter.unusedSimpArgs false
section
variable {α : Type} {k k' : List UInt8} {v : α} {m : List (List UInt8 × α)}
theorem Zd3 : ∀ {m m' : List (List UInt8 × α)},Zk k (m++m')=(Zk k m).or (Zk k m')
 | [],m'=>rfl
 | p :: m,m'=>by
  simp only [List.cons_append,Zk]
  split
  ·rfl
  ·exact Zd3
theorem WD (h : k'≠k) : Zk k' (JB k v m)=Zk k' m:=by
 unfold JB
 split
 ·have : ∀ m : List (List UInt8 × α),Zk k' (m.map fun p=>if p.1=k then (k,v) else p)=Zk k' m:=by
   intro m
   induction m with
   | nil=>rfl
   | cons p m ih=>
    simp only [List.map_cons,Zk]
    by_cases hp : p.1=k
    ·rw [if_pos hp,if_neg (Ne.symm h),if_neg (fun e=>h (e.symm.trans hp)),ih]
    ·rw [if_neg hp,ih]
  exact this m
 ·rw [Zd3]
  have : Zk k' [(k,v)]=none:=by simp [Zk,Ne.symm h]
  rw [this];cases Zk k' m <;> rfl
theorem ZaD : Zk k (JB k v m)=some v:=by
 unfold JB
 split
 ·rename_i hs
  have : ∀ m : List (List UInt8 × α),(Zk k m).isSome=true→Zk k (m.map fun p=>if p.1=k then (k,v) else p)=some v:=by
   intro m
   induction m with
   | nil=>intro h;cases h
   | cons p m ih=>
    intro h
    simp only [List.map_cons,Zk] at h ⊢
    by_cases hp : p.1=k
    ·simp [hp]
    ·rw [if_neg hp] at h
     rw [if_neg hp,if_neg hp];exact ih h
  exact this m hs
 ·rename_i hs
  rw [Zd3]
  have : Zk k m=none:=by cases e : Zk k m <;> simp_all
  rw [this];simp [Zk]
theorem Zeu : Zk k (Zbc k m)=none:=by
 rw [Zem]
 intro p hp
 simpa [Zbc] using (List.mem_filter.1 hp).2
theorem WE (h : k'≠k) : Zk k' (Zbc k m)=Zk k' m:=by
 unfold Zbc
 induction m with
 | nil=>rfl
 | cons p m ih=>
  rw [List.filter_cons]
  by_cases hp : p.1=k
  ·rw [if_neg (by simp [hp]),ih]
   simp only [Zk]
   rw [if_neg (fun e=>h (e.symm.trans hp))]
  ·rw [if_pos (by simpa using hp)]
   simp only [Zk]
   rw [ih]
theorem ZqD (hn : (m.map (·.1)).Nodup) (h : (Zk k m).isSome=true) : (Zbc k m).length=m.length - 1:=by
 obtain ⟨v,hv⟩:=Option.isSome_iff_exists.1 h
 obtain ⟨j,hj⟩:=Zwt hv
 rw [← Zfw hn hj,List.length_eraseIdx,if_pos (List.getElem?_eq_some_iff.1 hj).1]
end
end Go.Proofs.YtedkoimihknggaaGreatDoor.A

namespace Go.Proofs.YtedkoimihknggaaGreatDoor.A
set_option linter.unusedVariables false
set_option linter.unusedSimpArgs false
open Go.Proofs Go.Proofs.YtedkoimihknggaaGreatDoor
section
variable {H H' : Zd} {n d b p q : Nat} {m : Yr} {k s : List UInt8}
theorem Zbo {H : Zd} {a c : Zc} : (H++[a]++[c])[H.length]?=some a:=by simp [List.getElem?_append]
theorem Zy1 {H : Zd} {a c : Zc} : (H++[a]++[c])[H.length+1]?=some c:=by simp [List.getElem?_append]
theorem Zg5 {α : Type} {m : List (List UInt8 × α)} {v : α} : (JB k v m).length=if (Zk k m).isSome then m.length else m.length+1:=by
 unfold JB
 split <;> simp
theorem ZaI (h : ZB k=true) : k.length≤12:=by
 unfold ZB at h
 simp only [Bool.and_eq_true,decide_eq_true_eq] at h
 exact h.1.1.1.2
theorem Zew : Z7 k=0↔ZB k=true:=by unfold Z7;split <;> simp_all
theorem Zqp : Yz s=0↔KW s=true:=by unfold Yz;split <;> simp_all
theorem Zfo {g : Nat} {mm : List Value→M Value} {args : List Value} (hp : np g=some mm) (hy : Nat.blt g Zay=true:=by rfl) : run Tryz.prog np lvs (n+1) g args=mm args:=by
 unfold run
 simp only [hy,hp,cond_true]
theorem Zxp (h : Dir H d b m) : ∃ v q H',R (n+2) Zbh [pt d] H=some (v,H')∧Zs H' v ((Qs (m.map (·.1))).map strv) q∧HLe H H'∧∀ j∈q,H.length≤j:=by
 have e1 : run Tryz.prog np lvs (n+1) Jt [.map (some b)] H=some (.func (.func ZjJ) #[] #[pt H.length],H++[.cells [.map (some b)] 1 false false]):=by
  rw [ZaS rfl]
  unfold Yq
  rw [Za (Zng rfl rfl _)]
  rfl
 have l1 : HLe H (H++[.cells [.map (some b)] 1 false false]):=.app _ _
 obtain ⟨v,q,H2,e2,r2,l2,o2⟩:=(h.g.hle l1).keys (gks:=Zff) (gc:=Qx) (gk:=ZjJ) (c:=H.length) (by decide) Zm (Nat.le_trans h.few (by decide)) (fun p hp=>Nat.le_trans (h.len p hp) (by decide))
 have e2' : run Tryz.prog np lvs (n+1) QF [.func (.func ZjJ) #[] #[pt H.length],.func (.func Qx) #[] #[]] (H++[.cells [.map (some b)] 1 false false])=some (v,H2):=by
  rw [Zfo (show np QF=some (Zce Zff Qx) from rfl)]
  exact e2
 refine ⟨v,q,H2,?_,r2,l1.trans l2,fun j hj=>Nat.le_trans l1.len (o2 j hj)⟩
 rw [R,Zkn rfl]
 unfold Zdf
 rw [Za Zv,Za Zi,Za (ZeB h.c),Za e1,Za e2']
 rfl
end
end Go.Proofs.YtedkoimihknggaaGreatDoor.A

namespace Go.Proofs.YtedkoimihknggaaGreatDoor.A
set_option linter.unusedVariables false
set_option linter.unusedSimpArgs false
open Go.Proofs Go.Proofs.YtedkoimihknggaaGreatDoor
section
variable {H H' : Zd} {n : Nat} {s pre : List UInt8}
theorem Zmn {k : Nat} (hk : k≤s.length) : sls (strv s) none (some (iv k)) H=some (strv (s.take k),H):=by
 have h1 : (⟨s.toArray⟩ : ByteArray).size=s.length:=by simp [ByteArray.size]
 have h2 : (⟨s.toArray⟩ : ByteArray).extract 0 k=⟨(s.take k).toArray⟩:=by
  apply ByteArray.ext
  rw [ByteArray.data_extract]
  simp
 have hb : bnd (some (iv k)) s.length=some k:=by simp [bnd]
 have hb0 : bnd none 0=some 0:=rfl
 unfold strv sls
 simp only [h1,hb,hb0]
 rw [if_pos ⟨Nat.zero_le _,hk⟩,h2]
section
variable {f v : Value} {p : List UInt8→Bool} {l : List (List UInt8)} {q : List Nat} {Q : Zd→Prop}
theorem J9 {ss : List (List UInt8)} {i : Nat} {x : List UInt8} (h : ss[i]?=some x) : (ss.map strv)[i]?=some (strv x):=by rw [List.getElem?_map,h];rfl
theorem ZyN (hr : Zs H v (l.map strv) q) (hl : l.length≤1000000) (hf : ∀ s∈l,Kh (R n) f [strv s] H=some (.bool (p s),H)) : ∀ (t k : Nat),l.length - k=t→k≤l.length→
  Zj (c4 (ZG.l1 (R n))) [v,f,iv l.length,iv k] H=some (match (l.drop k).findIdx? p with | some i=>.ret (iv (k+i : Nat)) | none=>.ext 0 [],H)
 | 0,k,ht,hk=>by
  have : k=l.length:=by omega
  subst this
  rw [List.drop_length]
  refine ZD ?_
  rw [ZC]
  unfold ZG.l1
  rw [Za Zg,Zb,if_neg (by simp)]
  rfl
 | t+1,k,ht,hk=>by
  have hkl : k < l.length:=by omega
  have hlt : (k : Int) < l.length:=by omega
  have hg:=List.getElem?_eq_getElem hkl
  have hm : l[k]∈l:=List.getElem_mem hkl
  have hd:=List.drop_eq_getElem_cons hkl
  generalize l[k]=x at hg hd hm
  have x1:=hr.ix (i:=k) (by simpa using hkl) .i64 H
  have x2:=hr.ldx (J9 hg)
  have x3:=hf x hm
  have ih:=ZyN hr hl hf t (k+1) (by omega) (by omega)
  rw [hd,List.findIdx?_cons]
  cases hp : p x
  ·rw [hp] at x3
   refine (Zr ?_).trans (ih.trans ?_)
   ·rw [ZC]
    unfold ZG.l1
    rw [Za Zg,Zb,if_pos (by simpa using hlt),Za x1,Za x2,Za x3,Zb,if_neg (by simp),Za Zt,Qh (by omega)]
    rfl
   ·cases (l.drop (k+1)).findIdx? p with
    | none=>rfl
    | some i=>simp only [Bool.false_eq_true,if_false,Option.map_some];rw [show k+1+i=k+(i+1) by omega]
  ·rw [hp] at x3
   refine Qc ?_
   rw [ZC]
   unfold ZG.l1
   rw [Za Zg,Zb,if_pos (by simpa using hlt),Za x1,Za x2,Za x3,Zb,if_pos rfl]
   rfl
theorem ZhZ : ∀ {l : List (List UInt8)},(match l.findIdx? p with | some i=>l.filter (fun s=>!p s)=l.take i++(l.drop (i+1)).filter (fun s=>!p s)∧i < l.length | none=>l.filter (fun s=>!p s)=l)
 | []=>by simp
 | x :: l=>by
  have ih:=ZhZ (l:=l)
  rw [List.findIdx?_cons]
  cases hp : p x
  ·simp only [Bool.false_eq_true,if_false]
   cases h : l.findIdx? p with
   | none=>rw [h] at ih;simp [hp];simpa using ih
   | some i=>rw [h] at ih;simp [hp,ih.1,ih.2]
  ·simp [hp]
theorem ZyT (k : Nat) : reps k (Value.string ⟨#[]⟩).cells.toList=List.replicate k (strv []):=by
 induction k with
 | zero=>rfl
 | succ k ih=>
  unfold reps at ih ⊢
  rw [List.replicate_succ,List.flatten_cons,ih];rfl
theorem Zvj {cs : List (List UInt8)} {i : Nat} (hr : Zs H v (cs.map strv) q) (hi : i < cs.length) : ∃ a H' v',slv 1 v (some (iv i)) none none H=some (a,H)∧clr (.string ⟨#[]⟩) 1 a H=some (.tuple #[],H')∧slv 1 v none (some (iv i)) none H'=some (v',H')∧Zs H' v' ((cs.take i).map strv) q∧Zw q H q H':=by
 rcases hr with ⟨h1,_,_⟩ | ⟨sid,rest,g,rfl,rfl,hid⟩
 ·simp at h1;simp [h1] at hi
 ·rw [List.length_map] at *
  have b1 : bnd (some (iv i)) 0=some i:=by simp [bnd]
  have b1' : bnd (some (iv i)) cs.length=some i:=by simp [bnd]
  have b2 : ∀ k,bnd none k=some k:=fun _=>rfl
  have hsp : splice (cs.map strv++rest) (List.replicate (cs.length - i) (strv [])) i=(cs.take i).map strv++(List.replicate (cs.length - i) (strv [])++rest):=by
   unfold splice
   rw [List.length_replicate,Nat.add_sub_cancel' (Nat.le_of_lt hi),List.take_append_of_le_length (by simp;omega),List.drop_append_of_le_length (by simp),List.drop_eq_nil_of_le (by simp),List.map_take]
   simp
  refine ⟨.slice (some ⟨sid,0+i * 1,none⟩) (cs.length - i) (cs.length+rest.length - i),H.set sid (.cells ((cs.take i).map strv++(List.replicate (cs.length - i) (strv [])++rest)) 1 g false),.slice (some ⟨sid,0,none⟩) i (cs.length+rest.length),?_,?_,?_,?_,⟨by simp,fun j hj hn=>List.getElem?_set_ne (fun e=>hn (by simp [e])),fun j hj=>.inl hj⟩⟩
  ·simp only [slv,hid,b1,b2]
   rw [if_pos ⟨trivial,by omega,by omega,Nat.le_refl _⟩,if_neg (by omega)]
  ·simp only [clr]
   rw [if_neg (by omega)]
   simp only [hid]
   rw [if_pos ⟨trivial,by simp;omega⟩,ZyT]
   rw [Nat.zero_add,Nat.mul_one,hsp]
  ·simp only [slv,ZI hid,b1',b2]
   rw [if_pos ⟨trivial,by omega,by omega,Nat.le_refl _⟩,if_neg (by omega)]
   simp
  ·have hl : ((cs.take i).map strv).length=i:=by simp;omega
   refine .inr ⟨sid,List.replicate (cs.length - i) (strv [])++rest,g,?_,rfl,ZI hid⟩
   rw [hl]
   simp;omega
end
end
end Go.Proofs.YtedkoimihknggaaGreatDoor.A

namespace Go.Proofs.YtedkoimihknggaaGreatDoor.A
set_option linter.unusedVariables false
set_option linter.unusedSimpArgs false
open Go.Proofs Go.Proofs.YtedkoimihknggaaGreatDoor
def usr (u : List UInt8 × List UInt8) : List Value:=[strv u.1,strv u.2,strv [],.bool false,.slice none 0 0]
def ZaQ (m : Yr) : Yr:=(Qs (m.map (·.1))).map fun k=>(k,(Zk k m).getD [])
section
variable {H H' : Zd} {n d b : Nat} {m : Yr} {pre : List UInt8}
theorem Zwn {k : List UInt8} (hk : k∈Qs (m.map (·.1))) : k∈m.map (·.1):=(List.mem_mergeSort).1 hk
theorem Zwx (h : Dir H d b m) : (Qs (m.map (·.1))).length≤12:=by
 rw [ZjA,List.length_map];exact h.few
theorem Zgz {k s : List UInt8} {H : Zd} : bld (.agg #[.string ⟨#[]⟩,.string ⟨#[]⟩,.string ⟨#[]⟩,.bool false,.slice none 0 0]) [(0,1,strv k),(1,1,strv s)] H=some (.agg (usr (k,s)).toArray,H):=by
 simp [↓Qa,Z8,↓QG,Qk,Qm,Ql,↓Zb,JR,Zv,Yh,Qj,Ju,Qv,Jv,Je,QO,JE,QP,QX,QZ,Q0,Qi,Zh,ZY,Yi,Ys,Jf,Q4,JQ,Zt,Qr,JD,JI,JG,ZA,Zq,Zg,Q8,ZF,Qz,JT,JN,JA,JK,↓YI,JU,↓g_r,YD,Yv,KK,splice,Value.cells,strv,usr,oneCell]
theorem ZbY (u : List UInt8 × List UInt8) : (usr u).length=5:=rfl
theorem ZnK (u : List UInt8 × List UInt8) : (usr u).all oneCell=true:=rfl
theorem Zs8 {v : Value} {q0 : List Nat} {ks : List (List UInt8)} (h : Dir H d b m) (hr : Zs H v (ks.map strv) q0) (hk : ks.length≤1000) (hH0 : ∀ j∈q0,j < H.length) : ∀ (t k : Nat) (sl : Value) (q : List Nat) (X : Zd),ks.length - k=t→k≤ks.length→HLe H X→(∀ j∈q,H.length≤j)→Qu 5 X sl ((ks.take k).map fun k=>usr (k,(Zk k m).getD [])) q→
  ∃ X' sl' q',Zj (c5 (YZ.l1 (R n))) [pt d,sl,v,iv ks.length,iv k] X=some (.ext 0 [sl'],X')∧Qu 5 X' sl' (ks.map fun k=>usr (k,(Zk k m).getD [])) q'∧HLe H X'∧(∀ j∈q',H.length≤j)
 | 0,k,sl,q,X,ht,hkl,hl,hq,hn=>by
  have : k=ks.length:=by omega
  subst this
  rw [List.take_length] at hn
  refine ⟨X,sl,q,ZD ?_,hn,hl,hq⟩
  rw [ZU]
  unfold YZ.l1
  rw [Za Zg,Zb,if_neg (by simp)]
  rfl
 | t+1,k,sl,q,X,ht,hkl,hl,hq,hn=>by
  have hlt : k < ks.length:=by omega
  have hlt' : (k : Int) < ks.length:=by omega
  have hg:=List.getElem?_eq_getElem hlt
  have htk:=List.take_succ_eq_append_getElem hlt
  generalize ks[k]=x at hg htk
  have hX:=h.hle hl
  have hrx : Zs X v (ks.map strv) q0:=hr.keep fun j hj=>hl.step.keep j (hH0 j hj) (by simp)
  have x1:=hrx.ix (i:=k) (by simpa using hlt) .i64 X
  have x2:=hrx.ldx (J9 hg)
  have x3:=hX.g.lkp (k:=x) (z:=.string ⟨#[]⟩) (ok:=false)
  have x3 : lkp .str (.string ⟨#[]⟩) false (.map (some b)) (strv x) X=some (strv ((Zk x m).getD []),X):=by
   rw [x3];cases Zk x m <;> rfl
  have x4:=Znd (es:=5) (z:=.agg #[.string ⟨#[]⟩,.string ⟨#[]⟩,.string ⟨#[]⟩,.bool false,.slice none 0 0]) (H:=X) rfl (ZbY (x,(Zk x m).getD [])) (ZnK _)
  have l1 : HLe X (X++[Zc.cells (usr (x,(Zk x m).getD [])) 5 false false]):=.app _ _
  have s1 : SlN 5 (X++[Zc.cells (usr (x,(Zk x m).getD [])) 5 false false]) (.slice (some ⟨X.length,0,none⟩) 1 1) [usr (x,(Zk x m).getD [])]:=SlN.whole (rows:=[usr (x,(Zk x m).getD [])]) (c:=1) (e:=5) (g:=false) (ro:=false) (by rw [Zm];simp) (by simp [ZbY])
  generalize X++[Zc.cells (usr (x,(Zk x m).getD [])) 5 false false]=X1 at x4 l1 s1
  have hn1 : Qu 5 X1 sl _ q:=hn.keep fun j hj=>l1.step.keep j (hn.lt j hj) (by simp)
  obtain ⟨sl',X2,q',x5,hn2,s2⟩:=hn1.push (b:=80) s1 (ZbY _) (by simp;omega) (by simp;omega)
  have hm:=(hl.trans l1).more s2 hq
  rw [← List.map_singleton (f:=fun k=>usr (k,(Zk k m).getD [])),← List.map_append,← htk] at hn2
  obtain ⟨X',sl2,q2,e,r⟩:=Zs8 h hr hk hH0 t (k+1) sl' q' X2 (by omega) (by omega) hm.1 hm.2 hn2
  refine ⟨X',sl2,q2,(Zr ?_).trans e,r⟩
  rw [ZU]
  unfold YZ.l1
  rw [Za Zg,Zb,if_pos (by simpa using hlt'),Za x1,Za x2,Za Zv,Za Zi,Za (ZeB hX.c),Za x3,Za Zgz,Za x4,Za x5,Za Zt,Qh (by omega)]
  rfl
theorem ZvV (h : Dir H d b m) : ∃ v q H',R (n+3) ZaV [pt d] H=some (v,H')∧Qu 5 H' v ((ZaQ m).map usr) q∧HLe H H'∧∀ j∈q,H.length≤j:=by
 obtain ⟨v,q,H1,e1,r1,l1,o1⟩:=Zxp (n:=n) h
 have hfew:=Zwx h
 obtain ⟨H2,sl,q2,e2,r2,l2,o2⟩:=Zs8 (n:=n+2) (h.hle l1) r1 (by omega) (fun j hj=>r1.lt j hj) (Qs (m.map (·.1))).length 0 (.slice none 0 0) [] H1 rfl (by omega) (.refl _) (by simp) Qu.nil
 have e2 : Zj (c5 (YZ.l1 (R (n+2)))) [pt d,.slice none 0 0,v,iv (Qs (m.map (·.1))).length,.int .i64 0] H1=_:=e2
 have hlen : ZH v H1=some (iv (Qs (m.map (·.1))).length,H1):=by have:=r1.rd.len (H':=H1);simpa using this
 refine ⟨sl,q2,H2,?_,by unfold ZaQ;rw [List.map_map];exact r2,l1.trans l2,fun j hj=>Nat.le_trans l1.len (o2 j hj)⟩
 rw [R,Znk rfl]
 unfold YZ
 refine (Za e1).trans ?_
 rw [Za hlen,ZO e2,Zu]
 rfl
end
end Go.Proofs.YtedkoimihknggaaGreatDoor.A

namespace Go.Proofs.YtedkoimihknggaaGreatDoor.A
set_option linter.unusedVariables false
set_option linter.unusedSimpArgs false
open Go.Proofs Go.Proofs.YtedkoimihknggaaGreatDoor
section
variable {H : Zd} {n : Nat}
end
end Go.Proofs.YtedkoimihknggaaGreatDoor.A

namespace Go.Proofs.YtedkoimihknggaaGreatDoor.A
set_option linter.unusedVariables false
set_option linter.unusedSimpArgs false
open Go.Proofs Go.Proofs.YtedkoimihknggaaGreatDoor
abbrev Ent:=List UInt8 × List UInt8
def Zfy (l : Yr) : Prop:=l.Pairwise fun a b=>a.1 < b.1
theorem ZvZ : ∀ {l l' : Yr},Zfy l→Zfy l'→(∀ x,x∈l↔x∈l')→l=l':=by
 intro l l' h h' hm
 have nd : ∀ {l : Yr},Zfy l→l.Nodup:=fun h=>by
  rw [List.nodup_iff_pairwise_ne]
  refine List.Pairwise.imp ?_ h
  rintro a b hab rfl
  exact List.lt_irrefl _ hab
 have hp : l.Perm l':=(List.perm_ext_iff_of_nodup (nd h) (nd h')).2 hm
 refine List.Perm.eq_of_pairwise (le:=fun a b=>a.1 < b.1) (fun a b _ _ h1 h2=>absurd h2 (List.lt_asymm h1)) (show l.Pairwise (fun a b : Ent=>a.1 < b.1) from h) (show l'.Pairwise (fun a b : Ent=>a.1 < b.1) from h') hp
section
variable {m : Yr} {k s : List UInt8} {x : Ent}
theorem Zu6 (hn : (m.map (·.1)).Nodup) : x∈ZaQ m↔Zk x.1 m=some x.2:=by
 unfold ZaQ
 rw [List.mem_map]
 constructor
 ·rintro ⟨k,hk,rfl⟩
  have hk:=Zwn hk
  obtain ⟨p,hp,rfl⟩:=List.mem_map.1 hk
  have : Zk p.1 m=some p.2:=Zaf hn hp
  simp [this]
 ·intro h
  refine ⟨x.1,List.mem_mergeSort.2 (List.mem_map.2 ⟨_,Zae h,rfl⟩),?_⟩
  rw [h];rfl
theorem Zt9 (hn : (m.map (·.1)).Nodup) : Zfy (ZaQ m):=by
 have hk : (Qs (m.map (·.1))).Pairwise (· < ·):=by
  have tr : ∀ a b c : List UInt8,leB a b=true→leB b c=true→leB a c=true:=fun a b c h1 h2=>by simp only [leB,decide_eq_true_eq] at *;exact List.le_trans h1 h2
  have to : ∀ a b : List UInt8,(leB a b || leB b a)=true:=fun a b=>by simp only [leB,Bool.or_eq_true,decide_eq_true_eq];exact List.le_total a b
  have h1:=List.pairwise_mergeSort tr to (m.map (·.1))
  have h2 : (Qs (m.map (·.1))).Pairwise (·≠·):=List.nodup_iff_pairwise_ne.1 ((List.mergeSort_perm _ _).nodup_iff.2 hn)
  refine (h1.and h2).imp fun {a b} h=>?_
  have h3 : a≤b:=by have:=h.1;simpa [leB] using this
  rcases ZgN a b with h4 | h4 | h4
  ·exact h4
  ·exact absurd h4 h.2
  ·exact absurd h4 h3
 unfold Zfy ZaQ
 rw [List.pairwise_map]
 exact hk
end
end Go.Proofs.YtedkoimihknggaaGreatDoor.A

namespace Go.Proofs.YtedkoimihknggaaGreatDoor.A
set_option linter.unusedVariables false
set_option linter.unusedSimpArgs false
open Go.Proofs Go.Proofs.YtedkoimihknggaaGreatDoor
def GV (H : Zd) (gv : Value) (gs : List (List UInt8)) : Prop:=
 (gs=[]∧(gv=.slice none 0 0∨gv=.slice (some ⟨0,0,some 1⟩) 0 0))∨
 ∃ id rest,gv=.slice (some ⟨id,0,none⟩) gs.length (gs.length+rest.length)∧H[id]?=some (.cells (gs.map strv++rest) 1 false true)
section
variable {H H' X : Zd} {n p : Nat} {gv : Value} {gs : List (List UInt8)}
theorem GV.mono (h : GV H gv gs) (hl : HLe H H') : GV H' gv gs:=by
 rcases h with h | ⟨id,rest,h1,h2⟩
 ·exact .inl h
 ·exact .inr ⟨id,rest,h1,hl _ _ h2⟩
theorem GV.sl (h : GV H gv gs) : Sl H gv (gs.map strv):=by
 rcases h with ⟨rfl,rfl | rfl⟩ | ⟨id,rest,rfl,h2⟩
 ·exact Sl.nil
 ·exact ⟨_,_,rfl,(fun e=>by cases e),rfl⟩
 ·refine ⟨some ⟨id,0,none⟩,gs.length+rest.length,by rw [List.length_map],(fun e=>by cases e),?_⟩
  simp only [Qq,h2]
  rw [if_pos (by simp)]
  simp
theorem GV.len (h : GV H gv gs) : ZH gv H'=some (iv gs.length,H'):=by
 have:=h.sl.len (H':=H')
 rwa [List.length_map] at this
theorem GV.one (h : GV H gv gs) : oneCell gv=true:=by
 rcases h with ⟨_,rfl | rfl⟩ | ⟨id,rest,rfl,_⟩ <;> rfl
structure Zp where
 nm : List UInt8
 hs : List UInt8
 ml : List UInt8
 ds : Bool
 gv : Value
 gs : List (List UInt8)
abbrev Zp.cells (u : Zp) : List Value:=[strv u.nm,strv u.hs,strv u.ml,.bool u.ds,u.gv]
def Zp.ok (H : Zd) (u : Zp) : Prop:=GV H u.gv u.gs
theorem Zp.all {u : Zp} (h : u.ok H) : u.cells.all oneCell=true:=by
 have:=GV.one h
 simp only [Zp.cells,List.all_cons,this];rfl
def Users (H : Zd) (sl : Value) (us : List Zp) : Prop:=SlN 5 H sl (us.map Zp.cells)∧∀ u∈us,u.ok H
variable {sl : Value} {us : List Zp}
theorem Users.mono (h : Users H sl us) (hl : HLe H H') : Users H' sl us:=⟨h.1.mono hl,fun u hu=>(h.2 u hu).mono hl⟩
theorem Users.len (h : Users H sl us) : ZH sl H'=some (iv us.length,H'):=by
 have:=h.1.len (H':=H')
 rwa [List.length_map] at this
theorem Users.fetch {β : Type} {k : Value→M β} (h : Users H sl us) {j : Nat} {u : Zp} (hj : us[j]?=some u) :
  bind (ixa 5 sl (iv j)) (fun p=>bind (ldA 5 p) fun v=>bind (alc 1 (.agg #[.string ⟨#[]⟩,.string ⟨#[]⟩,.string ⟨#[]⟩,.bool false,.slice none 0 0])) fun q=>bind (stA 5 q v) fun _=>k q) H=k (pt H.length) (H++[.cells u.cells 1 false false]):=by
 have hr : (us.map Zp.cells)[j]?=some u.cells:=by rw [List.getElem?_map,hj];rfl
 rw [h.1.fetch hr (by omega) .i64]
 exact ZbW (n:=5) (zs:=[.string ⟨#[]⟩,.string ⟨#[]⟩,.string ⟨#[]⟩,.bool false,.slice none 0 0]) (r:=u.cells) rfl rfl rfl (Zp.all (h.2 u (List.mem_of_getElem? hj)))
theorem Zxh {u : Zp} (h : u.ok X) : alc 1 (.agg u.cells.toArray) X=some (pt X.length,X++[.cells u.cells 1 false false]):=by
 rw [QX]
 exact if_pos (show u.cells.toArray.toList.all oneCell=true by simpa using Zp.all h)
end
end Go.Proofs.YtedkoimihknggaaGreatDoor.A

namespace Go.Proofs.YtedkoimihknggaaGreatDoor.A
set_option linter.unusedVariables false
set_option linter.unusedSimpArgs false
open Go.Proofs Go.Proofs.YtedkoimihknggaaGreatDoor
def Zgt (u : Zp) : Bool:=(u.ml==[]) && (!u.ds && decide (u.gs.length=0))
def ZaH (u : Zp) : Int:=if ZB u.nm then (if KW u.hs then (if Zgt u then 0 else 12) else 4) else 10
def Kq : List Zp→Int
 | []=>0
 | u :: l=>if ZaH u=0 then Kq l else ZaH u
def Ze4 (u : Zp) : Ent:=(u.nm,u.hs)
def WT : Option (List UInt8)→List Zp→Bool
 | _,[]=>true
 | p,u :: l=>(match p with | none=>true | some p=>decide (p < u.nm)) && WT (some u.nm) l
def K2 (us : List Zp) (k : Nat) : Option (List UInt8):=if k=0 then none else (us[k - 1]?).map (·.nm)
section
variable {H0 H X : Zd} {n p : Nat} {u : Zp} {us : List Zp} {sl : Value}
theorem Zoy {β : Type} {K : Value→M β} (hc : X[p]?=some (.cells u.cells 1 false false)) (hg : GV X u.gv u.gs) :
  bind (bop .str .neq (strv u.ml) (.string ⟨#[]⟩)) (fun v35=>bind (ZT v35 false 2 (bind (fa 3 (pt p)) fun a=>bind (ld1 a) fun b=>ret [a,b])) (c2 fun _ q=>bind (pick v35 (Value.bool true) q) fun v39=>bind (ZT v39 false 4 (bind (fa 4 (pt p)) fun a=>bind (ld1 a) fun b=>bind (ZH b) fun c=>bind (bop .int .gtr c (Value.int .i64 0)) fun d=>ret [a,b,c,d])) (c4 fun _ _ _ q=>bind (pick v39 (Value.bool true) q) K))) X=K (.bool (!Zgt u)) X:=by
 have a0 : ∀ f x,u.cells[f]?=some x→ld1 (pa p f) X=some (x,X):=fun f x h=>ZN hc h
 have q1 : bop .str .neq (strv u.ml) (.string ⟨#[]⟩) X=some (.bool (!(u.ml==[])),X):=Zbf (b:=[])
 have hl : decide ((u.gs.length : Int) > 0)=!decide (u.gs.length=0):=by by_cases h : u.gs.length=0 <;> simp [h] <;> omega
 unfold Zgt
 rw [Za q1]
 cases u.ml==[]
 ·simp only [Bool.not_false]
  rw [Za (g_r.trans (if_neg (by simp)))]
  simp only [List.replicate]
  rw [ZP,Za Zh]
  simp only [cond_true]
  rw [Za (g_r.trans (if_neg (by simp)))]
  simp only [List.replicate]
  rw [ZC,Za Zh]
  rfl
 ·simp only [Bool.not_true]
  rw [ZK,Zf,Za Zi,Zf,Za (a0 3 _ rfl),ZQ,ZP,Za Zh]
  simp only [cond_false]
  cases u.ds
  ·rw [ZK,Zf,Za Zi,Zf,Za (a0 4 _ rfl),Zf,Za hg.len,Zf,Za ZF,ZQ,ZC,Za Zh,hl]
   simp
  ·rw [Za (g_r.trans (if_neg (by simp)))]
   simp only [List.replicate]
   rw [ZC,Za Zh]
   rfl
theorem Zob {a c : Int} {v : Value} (hs : Sl X v [iv a,iv c]) : R (n+1) Wr [v] X=some (iv (if a=0 then c else a),X):=by
 have e1 : ZH v X=some (iv 2,X):=hs.len
 have x1 : ixa 1 v (.int .i64 0) X=some (ixp v 0,X):=hs.ix (i:=0) (by simp) .i64 X
 have x2:=hs.ldx (i:=0) (v:=iv a) rfl
 have x3 : ixa 1 v (.int .i64 1) X=some (ixp v 1,X):=hs.ix (i:=1) (by simp) .i64 X
 have x4:=hs.ldx (i:=1) (v:=iv c) rfl
 have w1 : IntKind.i64.wrap (0+1)=1:=w64 (by omega) (by omega)
 have w2 : IntKind.i64.wrap (1+1)=2:=w64 (by omega) (by omega)
 rw [R,ZpG rfl]
 unfold JF
 rw [Za e1]
 by_cases ha : a=0
 ·rw [if_pos ha]
  have s1 : c3 (JF.l1 (run Tryz.prog np lvs n)) [v,iv 2,.int .i64 0] X=some (.nrm [v,iv 2,.int .i64 1],X):=by
   rw [ZX]
   unfold JF.l1
   rw [Za Zg,Zb,if_pos (by decide),Za x1,Za x2,Za Zq,Zb,if_neg (by simp [ha]),Za Zt,w1]
   rfl
  by_cases hc : c=0
  ·have s2 : c3 (JF.l1 (run Tryz.prog np lvs n)) [v,iv 2,.int .i64 1] X=some (.nrm [v,iv 2,.int .i64 2],X):=by
    rw [ZX]
    unfold JF.l1
    rw [Za Zg,Zb,if_pos (by decide),Za x3,Za x4,Za Zq,Zb,if_neg (by simp [hc]),Za Zt,w2]
    rfl
   have s3 : c3 (JF.l1 (run Tryz.prog np lvs n)) [v,iv 2,.int .i64 2] X=some (.ext 0 [],X):=by
    rw [ZX]
    unfold JF.l1
    rw [Za Zg,Zb,if_neg (by decide)]
    rfl
   rw [ZO ((Zr s1).trans ((Zr s2).trans (ZD s3))),Zu,hc]
   rfl
  ·have s2 : c3 (JF.l1 (run Tryz.prog np lvs n)) [v,iv 2,.int .i64 1] X=some (.ret (iv c),X):=by
    rw [ZX]
    unfold JF.l1
    rw [Za Zg,Zb,if_pos (by decide),Za x3,Za x4,Za Zq,Zb,if_pos (by simp [hc])]
    rfl
   rw [QI ((Zr s1).trans (Qc s2))]
   rfl
 ·rw [if_neg ha]
  have s1 : c3 (JF.l1 (run Tryz.prog np lvs n)) [v,iv 2,.int .i64 0] X=some (.ret (iv a),X):=by
   rw [ZX]
   unfold JF.l1
   rw [Za Zg,Zb,if_pos (by decide),Za x1,Za x2,Za Zq,Zb,if_pos (by simp [ha])]
   rfl
  rw [QI (Qc s1)]
  rfl
theorem Zts {a c : Int} (H : Zd) : bsl 1 2 (.int .i64 0) [(0,1,iv a),(1,1,iv c)] H=some (.slice (some ⟨H.length,0,none⟩) 2 2,H++[.cells [iv a,iv c] 1 false false]):=rfl
theorem ZkK (h : u.ok X) : ∃ X',R (n+6) Ye [iv 1,.agg u.cells.toArray] X=some (iv (ZaH u),X')∧HLe X X':=by
 have e1:=Zxh h
 have k1 : HLe X (X++[.cells u.cells 1 false false]):=.app _ _
 have c1 : (X++[Zc.cells u.cells 1 false false])[X.length]?=some (.cells u.cells 1 false false):=Zm
 generalize X++[Zc.cells u.cells 1 false false]=X1 at e1 k1 c1
 generalize X.length=p at e1 c1
 have a0 : ∀ f x,u.cells[f]?=some x→ld1 (pa p f) X1=some (x,X1):=fun f x h=>ZN c1 h
 have e2 : run Tryz.prog np lvs (n+5) JM [strv u.nm] X1=some (iv (Z7 u.nm),X1):=ZdH
 have e3 : run Tryz.prog np lvs (n+5) ZbP [strv u.hs] X1=some (iv (Yz u.hs),X1):=Zs9 (n:=n+1)
 have e4:=Zts (a:=Z7 u.nm) (c:=Yz u.hs) X1
 have k2 : HLe X1 (X1++[.cells [iv (Z7 u.nm),iv (Yz u.hs)] 1 false false]):=.app _ _
 have s4 : Sl (X1++[.cells [iv (Z7 u.nm),iv (Yz u.hs)] 1 false false]) (.slice (some ⟨X1.length,0,none⟩) 2 2) [iv (Z7 u.nm),iv (Yz u.hs)]:=Sl.one (c:=2) Zm
 generalize X1++[Zc.cells [iv (Z7 u.nm),iv (Yz u.hs)] 1 false false]=X2 at e4 k2 s4
 generalize (Value.slice (some ⟨X1.length,0,none⟩) 2 2)=sv at e4 s4
 have e5 : run Tryz.prog np lvs (n+5) Wr [sv] X2=_:=Zob s4
 have c2:=k2 _ _ c1
 have hg : GV X2 u.gv u.gs:=GV.mono (GV.mono h k1) k2
 have b0 : ∀ f x,u.cells[f]?=some x→ld1 (pa p f) X2=some (x,X2):=fun f x h=>ZN c2 h
 have q1 : bop .int .neq (iv 1) (.int .i64 1) X1=some (.bool false,X1):=by rw [Zq];rfl
 have q2 : bop .int .eql (iv 1) (.int .i64 2) X2=some (.bool false,X2):=by rw [ZA];rfl
 refine ⟨X2,?_,k1.trans k2⟩
 rw [R,ZhN rfl]
 unfold W9
 rw [Za e1,Za q1,Za (g_r.trans (if_neg (by simp)))]
 simp only [List.replicate]
 rw [ZP,Za Zh]
 simp only [cond_false]
 rw [Zb,if_neg (by simp),Za Zi,Za (a0 0 _ rfl),Za Zi,Za (a0 1 _ rfl),Za e2,Za (a0 1 _ rfl),Qn,Za e3,Za e4,Za e5,Za Zq]
 unfold ZaH
 cases hn : ZB u.nm
 ·have : Z7 u.nm=10:=by unfold Z7;rw [hn];rfl
  rw [this]
  simp [Zb,ret]
 ·have h0 : Z7 u.nm=0:=Zew.2 hn
  rw [h0]
  cases hs : KW u.hs
  ·have : Yz u.hs=4:=by unfold Yz;rw [hs];rfl
   rw [this]
   simp [Zb,ret]
  ·have h1 : Yz u.hs=0:=Zqp.2 hs
   rw [h1]
   simp only [if_true]
   rw [Zb,if_neg (by simp),Za q2,Zb,if_neg (by simp),Za Zi,Za (b0 2 _ rfl)]
   refine (Zoy c2 hg).trans ?_
   cases Zgt u
   ·simp [Zb,ret]
   ·simp [Zb,ret]
theorem Zl0 (h : u.ok X) : ∃ X',R (n+4) WH [iv 1,.agg u.cells.toArray] X=some (iv (ZaH u),X')∧HLe X X':=by
 have e1:=Zxh h
 have k1 : HLe X (X++[.cells u.cells 1 false false]):=.app _ _
 have c1 : (X++[Zc.cells u.cells 1 false false])[X.length]?=some (.cells u.cells 1 false false):=Zm
 generalize X++[Zc.cells u.cells 1 false false]=X1 at e1 k1 c1
 generalize X.length=p at e1 c1
 have a0 : ∀ f x,u.cells[f]?=some x→ld1 (pa p f) X1=some (x,X1):=fun f x h=>ZN c1 h
 have e2 : run Tryz.prog np lvs (n+3) YB [strv u.nm] X1=some (.bool (ZB u.nm),X1):=Zc5
 have e3 : run Tryz.prog np lvs (n+3) Za1 [strv u.hs] X1=some (.bool (KW u.hs),X1):=ZmD
 have hg : GV X1 u.gv u.gs:=GV.mono h k1
 have q1 : bop .int .lss (iv 1) (.int .i64 1) X1=some (.bool false,X1):=by rw [Zg];rfl
 have q3 : bop .int .gtr (iv 1) (.int .i64 2) X1=some (.bool false,X1):=by rw [ZF];rfl
 have q2 : bop .int .eql (iv 1) (.int .i64 1) X1=some (.bool true,X1):=by rw [ZA];rfl
 refine ⟨X1,?_,k1⟩
 rw [R,Zgu rfl]
 unfold QE ZaH
 rw [Za e1,Za q1,ZK,Zf,Za q3,ZQ,ZP,Za Zh]
 simp only [cond_false]
 rw [Zb,if_neg (by simp),Za Zi,Za (a0 0 _ rfl),Za e2,Za ZY]
 cases hn : ZB u.nm
 ·simp [Zb,ret]
 ·rw [Zb,if_neg (by simp),Za Zi,Za (a0 1 _ rfl),Za e3,Za ZY]
  cases hs : KW u.hs
  ·simp [Zb,ret]
  ·rw [Zb,if_neg (by simp),Za q2,Zb,if_pos rfl,Za Zi,Za (a0 2 _ rfl)]
   simp only [if_true]
   refine (Zoy c1 hg).trans ?_
   cases Zgt u
   ·simp [Zb,ret]
   ·simp [Zb,ret]
theorem Zzl {a c : List UInt8} {H : Zd} : bop .str .lss (strv a) (strv c) H=some (.bool (decide (a < c)),H):=by
 rw [← bytesLess_eq]
 show (sop .lss (⟨a.toArray⟩ : ByteArray) (⟨c.toArray⟩ : ByteArray)).map (·,H)=_
 unfold sop
 rw [Kz,Kz]
 rfl
theorem ZpS {a c : List UInt8} {H : Zd} : bop .str .geq (strv a) (strv c) H=some (.bool (!decide (a < c)),H):=by
 rw [← bytesLess_eq]
 show (sop .geq (⟨a.toArray⟩ : ByteArray) (⟨c.toArray⟩ : ByteArray)).map (·,H)=_
 unfold sop
 rw [Kz,Kz]
 rfl
theorem Zzi {a c : List UInt8} {H : Zd} : bop .str .gtr (strv a) (strv c) H=some (.bool (decide (c < a)),H):=by
 have h : (!(Op.bytesLess a c || a==c))=decide (c < a):=by
  rw [bytesLess_eq,Bool.eq_iff_iff]
  simp only [Bool.not_eq_true',Bool.or_eq_false_iff,decide_eq_false_iff_not,beq_eq_false_iff_ne,decide_eq_true_eq]
  constructor
  ·rintro ⟨h1,h2⟩
   rcases ZgN a c with h4 | h4 | h4
   ·exact absurd h4 h1
   ·exact absurd h4 h2
   ·exact h4
  ·intro h
   exact ⟨List.lt_asymm h,by rintro rfl;exact List.lt_irrefl _ h⟩
 rw [← h]
 show (sop .gtr (⟨a.toArray⟩ : ByteArray) (⟨c.toArray⟩ : ByteArray)).map (·,H)=_
 unfold sop
 rw [Kz,Kz]
 rfl
theorem Zs2 {a : List UInt8} : R (n+1) Y9 [strv a] X=some (.bool false,X):=by
 rw [R,ZiQ rfl]
 unfold Zcz
 rw [Za Zbf]
 simp [ret]
theorem ZoL {a c : List UInt8} : R (n+3) Qx [strv a,strv c] X=some (iv (Zb7 a c),X):=by
 have e0 : run Tryz.prog np lvs (n+1) Y9 [strv a] X=_:=Zs2
 have e1 : run Tryz.prog np lvs (n+1) Y9 [strv c] X=_:=Zs2
 have e2 : run Tryz.prog np lvs (n+2) WV [strv a,strv c] X=some (iv (Zb7 a c),X):=by
  rw [Zhh rfl]
  unfold Zbt Zb7
  rw [Za e0,Za e1,Zb,if_neg (by simp),Zb,if_neg (by simp),Za Zzl,Zb]
  by_cases h1 : a < c
  ·rw [if_pos (by simpa using h1),if_pos h1];rfl
  ·rw [if_neg (by simpa using h1),Za Zzi,Zb,if_neg h1]
   by_cases h2 : c < a
   ·rw [if_pos (by simpa using h2),if_pos h2];rfl
   ·rw [if_neg (by simpa using h2),if_neg h2];rfl
 rw [R,ZmF rfl]
 unfold ZeE
 rw [Za e2]
 rfl
theorem ZsF {a c : List UInt8} : decide (Zb7 a c≥0)=!decide (a < c):=by
 unfold Zb7
 by_cases h1 : a < c
 ·simp [h1]
 ·by_cases h2 : c < a <;> simp [h1,h2]
end
end Go.Proofs.YtedkoimihknggaaGreatDoor.A

namespace Go.Proofs.YtedkoimihknggaaGreatDoor.A
set_option linter.unusedVariables false
set_option linter.unusedSimpArgs false
open Go.Proofs Go.Proofs.YtedkoimihknggaaGreatDoor
section
variable {H0 H X : Zd} {n p d b : Nat} {u : Zp} {us : List Zp} {sl dv : Value}
theorem ZuP (hn : us.length≤1000) (hA : Users H0 sl us) : ∀ (t k : Nat) (X : Zd),us.length - k=t→k≤us.length→HLe H0 X→
  ∃ X',Zj (c5 (Q9.l1 (R (n+6)))) [sl,dv,sl,iv us.length,iv k] X=some (if Kq (us.drop k)=0 then .ext 0 [sl,dv] else .ret (.tuple #[.pointer none,iv (Kq (us.drop k))]),X')∧HLe H0 X'
 | 0,k,X,ht,hk,hle=>by
  have : k=us.length:=by omega
  subst this
  rw [List.drop_length]
  refine ⟨X,ZD ?_,hle⟩
  rw [ZU]
  unfold Q9.l1
  rw [Za Zg,Zb,if_neg (by simp)]
  rfl
 | t+1,k,X,ht,hk,hle=>by
  have hkl : k < us.length:=by omega
  have hlt : (k : Int) < us.length:=by omega
  have hg:=List.getElem?_eq_getElem hkl
  have hd:=List.drop_eq_getElem_cons hkl
  generalize us[k]=u at hg hd
  have hf:=fun {K : Value→M Out}=>(hA.mono hle).fetch (k:=K) hg
  have hok:=(hA.mono hle).2 u (List.mem_of_getElem? hg)
  have g1 : (X++[Zc.cells u.cells 1 false false])[X.length]?=some (.cells u.cells 1 false false):=Zm
  have k1 : HLe X (X++[Zc.cells u.cells 1 false false]):=.app _ _
  generalize X++[Zc.cells u.cells 1 false false]=X1 at g1 k1 hf
  have e1 : ldA 5 (pt X.length) X1=some (.agg u.cells.toArray,X1):=ZE (n:=5) g1 rfl
  obtain ⟨X2,e2,k2⟩:=ZkK (n:=n) (u:=u) (X:=X1) (GV.mono hok k1)
  have hb : c5 (Q9.l1 (R (n+6))) [sl,dv,sl,iv us.length,iv k] X=some (if ZaH u=0 then .nrm [sl,dv,sl,iv us.length,iv ((k+1 : Nat) : Int)] else .ret (.tuple #[.pointer none,iv (ZaH u)]),X2):=by
   rw [ZU]
   unfold Q9.l1
   have e2 : R (n+6) Ye [.int .i64 1,.agg u.cells.toArray] X1=_:=e2
   rw [Za Zg,Zb,if_pos (by simpa using hlt),hf,Za e1,Za e2,Za Zq,Zb]
   by_cases h : ZaH u=0
   ·rw [if_neg (by simp [h]),if_pos h,Za Zt,Qh (by omega)];rfl
   ·rw [if_pos (by simp [h]),if_neg h];rfl
  rw [hd]
  unfold Kq
  by_cases h : ZaH u=0
  ·rw [if_pos h] at hb
   simp only [if_pos h]
   obtain ⟨X3,e3,k3⟩:=ZuP hn hA t (k+1) X2 (by omega) (by omega) (hle.trans (k1.trans k2))
   exact ⟨X3,(Zr hb).trans e3,k3⟩
  ·rw [if_neg h] at hb
   simp only [if_neg h]
   exact ⟨X2,Qc hb,hle.trans (k1.trans k2)⟩
theorem Zs5 (hn : us.length≤1000) (hA : Users H0 sl us) : ∀ (t k : Nat) (X : Zd),us.length - k=t→k≤us.length→HLe H0 X→
  ∃ X',Zj (c5 (Qb.l1 (R (n+4)))) [sl,iv 1,sl,iv us.length,iv k] X=some (if Kq (us.drop k)=0 then .ext 0 [sl] else .ret (iv (Kq (us.drop k))),X')∧HLe H0 X'
 | 0,k,X,ht,hk,hle=>by
  have : k=us.length:=by omega
  subst this
  rw [List.drop_length]
  refine ⟨X,ZD ?_,hle⟩
  rw [ZU]
  unfold Qb.l1
  rw [Za Zg,Zb,if_neg (by simp)]
  rfl
 | t+1,k,X,ht,hk,hle=>by
  have hkl : k < us.length:=by omega
  have hlt : (k : Int) < us.length:=by omega
  have hg:=List.getElem?_eq_getElem hkl
  have hd:=List.drop_eq_getElem_cons hkl
  generalize us[k]=u at hg hd
  have hf:=fun {K : Value→M Out}=>(hA.mono hle).fetch (k:=K) hg
  have hok:=(hA.mono hle).2 u (List.mem_of_getElem? hg)
  have g1 : (X++[Zc.cells u.cells 1 false false])[X.length]?=some (.cells u.cells 1 false false):=Zm
  have k1 : HLe X (X++[Zc.cells u.cells 1 false false]):=.app _ _
  generalize X++[Zc.cells u.cells 1 false false]=X1 at g1 k1 hf
  have e1 : ldA 5 (pt X.length) X1=some (.agg u.cells.toArray,X1):=ZE (n:=5) g1 rfl
  obtain ⟨X2,e2,k2⟩:=Zl0 (n:=n) (u:=u) (X:=X1) (GV.mono hok k1)
  have hb : c5 (Qb.l1 (R (n+4))) [sl,iv 1,sl,iv us.length,iv k] X=some (if ZaH u=0 then .nrm [sl,iv 1,sl,iv us.length,iv ((k+1 : Nat) : Int)] else .ret (iv (ZaH u)),X2):=by
   rw [ZU]
   unfold Qb.l1
   rw [Za Zg,Zb,if_pos (by simpa using hlt),hf,Za e1,Za e2,Za Zq,Zb]
   by_cases h : ZaH u=0
   ·rw [if_neg (by simp [h]),if_pos h,Za Zt,Qh (by omega)];rfl
   ·rw [if_pos (by simp [h]),if_neg h];rfl
  rw [hd]
  unfold Kq
  by_cases h : ZaH u=0
  ·rw [if_pos h] at hb
   simp only [if_pos h]
   obtain ⟨X3,e3,k3⟩:=Zs5 hn hA t (k+1) X2 (by omega) (by omega) (hle.trans (k1.trans k2))
   exact ⟨X3,(Zr hb).trans e3,k3⟩
  ·rw [if_neg h] at hb
   simp only [if_neg h]
   exact ⟨X2,Qc hb,hle.trans (k1.trans k2)⟩
theorem Users.nmAt (hA : Users X sl us) {i : Nat} (hi : us[i]?=some u) : ∃ id o,ixa 5 sl (iv i) X=some (pa id o,X)∧ld1 (pa id (o+0)) X=some (strv u.nm,X):=by
 obtain ⟨id,o,cs,e,g,ro,e1,e2,e3,e4,_⟩:=hA.1.at (i:=i) (r:=u.cells) (by rw [List.getElem?_map,hi];rfl) (by omega) .i64
 refine ⟨id,o,e1 X,?_⟩
 rw [Qj,e2,Je]
 have : cs[o+0]?=some (strv u.nm):=by
  have h0 : ((cs.drop o).take 5)[0]?=some (strv u.nm):=by rw [e3];rfl
  rw [List.getElem?_take,if_pos (by omega),List.getElem?_drop] at h0
  exact h0
 rw [this];rfl
def upB (prev : Option (List UInt8)) (u : Zp) : Bool:=match prev with | none=>true | some p=>decide (p < u.nm)
theorem Zci {p : Option (List UInt8)} {l : List Zp} : WT p (u :: l)=(upB p u && WT (some u.nm) l):=rfl
theorem Ze3 {k : Nat} (hk : us[k]?=some u) : K2 us (k+1)=some u.nm:=by
 unfold K2
 rw [if_neg (by omega),Nat.add_sub_cancel,hk];rfl
theorem ZhJ : K2 us 0=none:=rfl
def ZpL (m : Yr) (p : Option (List UInt8)) : Prop:=Zfy m∧∀ x∈m,∃ q,p=some q∧x.1≤q
theorem ZpL.put {m : Yr} {p : Option (List UInt8)} (h : ZpL m p) (hu : upB p u=true) : JB u.nm u.hs m=m++[Ze4 u]∧ZpL (m++[Ze4 u]) (some u.nm):=by
 have hlt : ∀ x∈m,x.1 < u.nm:=fun x hx=>by
  obtain ⟨q,rfl,h2⟩:=h.2 x hx
  have h3 : q < u.nm:=by simpa [upB] using hu
  exact List.lt_of_le_of_lt h2 h3
 have hn : Zk u.nm m=none:=Zem.2 fun x hx e=>by
  have:=hlt x hx
  rw [e] at this
  exact List.lt_irrefl _ this
 refine ⟨by unfold JB;rw [hn];rfl,List.pairwise_append.2 ⟨h.1,by simp,fun a ha c hc=>?_⟩,fun x hx=>⟨u.nm,rfl,?_⟩⟩
 ·have : c=Ze4 u:=by simpa using hc
  subst this
  exact hlt a ha
 ·rcases List.mem_append.1 hx with hx | hx
  ·exact List.le_of_lt (hlt x hx)
  ·have : x=Ze4 u:=by simpa using hx
   subst this
   exact List.le_refl _
theorem ZvH (hn : us.length≤1000) (hA : Users H0 sl us) (hb : H0.length≤b) : ∀ (t k : Nat) (m : Yr) (X : Zd),us.length - k=t→k≤us.length→HLe H0 X→X[d]?=some (.cells [.map (some b)] 1 false false)→Ya strv X b m→ZpL m (K2 us k)→d≠b→
  ∃ X',Zj (c5 (Q9.l2 (R (n+6)))) [sl,pt d,sl,iv us.length,iv k] X=some (if WT (K2 us k) (us.drop k) then .ext 2 [sl,pt d] else .ret (.tuple #[.pointer none,iv 9]),X')∧HLe H0 X'∧
   (WT (K2 us k) (us.drop k)=true→X'[d]?=some (.cells [.map (some b)] 1 false false)∧Ya strv X' b (m++(us.drop k).map Ze4)∧Zfy (m++(us.drop k).map Ze4))
 | 0,k,m,X,ht,hk,hle,hc,hm,hL,hdb=>by
  have : k=us.length:=by omega
  subst this
  rw [List.drop_length]
  refine ⟨X,ZD ?_,hle,fun _=>⟨hc,by simpa using hm,by simpa using hL.1⟩⟩
  rw [ZU]
  unfold Q9.l2
  rw [Za Zg,Zb,if_neg (by simp)]
  rfl
 | t+1,k,m,X,ht,hk,hle,hc,hm,hL,hdb=>by
  have hkl : k < us.length:=by omega
  have hlt : (k : Int) < us.length:=by omega
  have hg:=List.getElem?_eq_getElem hkl
  have hd:=List.drop_eq_getElem_cons hkl
  generalize us[k]=u at hg hd
  have hf:=fun {K : Value→M Out}=>(hA.mono hle).fetch (k:=K) hg
  have g1 : (X++[Zc.cells u.cells 1 false false])[X.length]?=some (.cells u.cells 1 false false):=Zm
  have k1 : HLe X (X++[Zc.cells u.cells 1 false false]):=.app _ _
  generalize X++[Zc.cells u.cells 1 false false]=X1 at g1 k1 hf
  generalize X.length=p at g1 hf
  have a0 : ∀ f x,u.cells[f]?=some x→ld1 (pa p f) X1=some (x,X1):=fun f x h=>ZN g1 h
  have hA1:=(hA.mono hle).mono k1
  have hcmp : ∀ K : Value→M Out,
    bind (bop .int .gtr (iv k) (Value.int .i64 0)) (fun v31x18=>bind (ZJ v31x18 true (ret sl)) fun v33x19=>bind (ZJ v31x18 true (ret (iv k))) fun v34x20=>bind (ZJ v31x18 true (bop .int .sub v34x20 (Value.int .i64 1))) fun v35x21=>bind (ZJ v31x18 true (ixa 5 v33x19 v35x21)) fun v36x22=>bind (ZJ v31x18 true (fa 0 v36x22)) fun v37x23=>bind (ZJ v31x18 true (ld1 v37x23)) fun v38x24=>bind (ZJ v31x18 true (fa 0 (pt p))) fun v39x25=>bind (ZJ v31x18 true (ld1 v39x25)) fun v40x26=>bind (ZJ v31x18 true (R (n+6) Qx [v38x24,v40x26])) fun v41x27=>bind (ZJ v31x18 true (bop .int .geq v41x27 (Value.int .i64 0))) fun v42x28=>bind (pick v31x18 v42x28 (Value.bool false)) K) X1=K (.bool (!upB (K2 us k) u)) X1:=fun K=>by
   by_cases h0 : k=0
   ·subst h0
    have q1 : bop .int .gtr (iv (0 : Nat)) (Value.int .i64 0) X1=some (.bool false,X1):=by rw [ZF];rfl
    rw [Za q1]
    iterate 10 rw [ZlC (by rfl)]
    rw [Za Zh]
    rfl
   ·have q1 : bop .int .gtr (iv k) (Value.int .i64 0) X1=some (.bool true,X1):=by rw [ZF,decide_eq_true (by omega)]
    obtain ⟨v,hv⟩ : ∃ v,us[k - 1]?=some v:=⟨_,List.getElem?_eq_getElem (by omega)⟩
    obtain ⟨id,o,x1,x2⟩:=hA1.nmAt hv
    have e3 : R (n+6) Qx [strv v.nm,strv u.nm] X1=_:=ZoL (n:=n+3)
    have hp : upB (K2 us k) u=decide (v.nm < u.nm):=by unfold K2 upB;rw [if_neg h0,hv];rfl
    rw [Za q1,Q5,ZQ,Q5,ZQ,Q5,Za Qr,Zj5 (by omega) (by omega),Q5,Za x1,Q5,Za Yh,Q5,Za x2,Q5,Za Zi,Q5,Za (a0 0 _ rfl),Q5,Za e3,Q5,Za Qz,ZsF,Za Zh,hp]
    rfl
  rw [hd,Zci]
  cases hup : upB (K2 us k) u
  ·rw [hup] at hcmp
   refine ⟨X1,Qc ?_,hle.trans k1,fun h=>by cases h⟩
   rw [ZU]
   unfold Q9.l2
   rw [Za Zg,Zb,if_pos (by simpa using hlt),hf]
   refine (hcmp _).trans ?_
   rw [Zb,if_pos (by rfl)]
   rfl
  ·rw [hup] at hcmp
   obtain ⟨hput,hL2⟩:=hL.put hup
   have hm1:=hm.hle k1
   obtain ⟨X2,e2,m2,s2,_⟩:=hm1.mup (k:=u.nm) (v:=u.hs)
   rw [hput] at m2
   have hc2:=s2.get (k1 _ _ hc) (by simp [hdb])
   have hle2:=(hle.trans k1).more s2 (by simpa using hb)
   obtain ⟨X3,e3,k3,h3⟩:=ZvH hn hA hb t (k+1) _ X2 (by omega) (by omega) hle2.1 hc2 m2 (by rw [Ze3 hg];exact hL2) hdb
   rw [Ze3 hg] at e3 h3
   refine ⟨X3,(Zr ?_).trans e3,k3,fun h=>by simpa using h3 (by simpa using h)⟩
   rw [ZU]
   unfold Q9.l2
   rw [Za Zg,Zb,if_pos (by simpa using hlt),hf]
   refine (hcmp _).trans ?_
   rw [Zb,if_neg (by simp),Za Zv,Za Zi,Za (ZeB (k1 _ _ hc)),Za Zi,Za (a0 0 _ rfl),Za Zi,Za (a0 1 _ rfl),Za e2,Za Zt,Qh (by omega)]
   rfl
theorem Zsz (hn : us.length≤1000) (hA : Users H0 sl us) : ∀ (t k : Nat) (X : Zd),us.length - k=t→k≤us.length→HLe H0 X→
  ∃ X',Zj (c4 (Qb.l2 (R n))) [sl,sl,iv us.length,iv k] X=some (if WT (K2 us k) (us.drop k) then .ext 2 [sl] else .ret (iv 9),X')∧HLe H0 X'
 | 0,k,X,ht,hk,hle=>by
  have : k=us.length:=by omega
  subst this
  rw [List.drop_length]
  refine ⟨X,ZD ?_,hle⟩
  rw [ZC]
  unfold Qb.l2
  rw [Za Zg,Zb,if_neg (by simp)]
  rfl
 | t+1,k,X,ht,hk,hle=>by
  have hkl : k < us.length:=by omega
  have hlt : (k : Int) < us.length:=by omega
  have hg:=List.getElem?_eq_getElem hkl
  have hd:=List.drop_eq_getElem_cons hkl
  generalize us[k]=u at hg hd
  have hf:=fun {K : Value→M Out}=>(hA.mono hle).fetch (k:=K) hg
  have g1 : (X++[Zc.cells u.cells 1 false false])[X.length]?=some (.cells u.cells 1 false false):=Zm
  have k1 : HLe X (X++[Zc.cells u.cells 1 false false]):=.app _ _
  generalize X++[Zc.cells u.cells 1 false false]=X1 at g1 k1 hf
  generalize X.length=p at g1 hf
  have a0 : ∀ f x,u.cells[f]?=some x→ld1 (pa p f) X1=some (x,X1):=fun f x h=>ZN g1 h
  have hA1:=(hA.mono hle).mono k1
  have hcmp : ∀ K : Value→M Out,
    bind (bop .int .gtr (iv k) (Value.int .i64 0)) (fun v31x17=>bind (ZJ v31x17 true (ret sl)) fun v33x18=>bind (ZJ v31x17 true (ret (iv k))) fun v34x19=>bind (ZJ v31x17 true (bop .int .sub v34x19 (Value.int .i64 1))) fun v35x20=>bind (ZJ v31x17 true (ixa 5 v33x18 v35x20)) fun v36x21=>bind (ZJ v31x17 true (fa 0 v36x21)) fun v37x22=>bind (ZJ v31x17 true (ld1 v37x22)) fun v38x23=>bind (ZJ v31x17 true (fa 0 (pt p))) fun v39x24=>bind (ZJ v31x17 true (ld1 v39x24)) fun v40x25=>bind (ZJ v31x17 true (bop .str .geq v38x23 v40x25)) fun v41x26=>bind (pick v31x17 v41x26 (Value.bool false)) K) X1=K (.bool (!upB (K2 us k) u)) X1:=fun K=>by
   by_cases h0 : k=0
   ·subst h0
    have q1 : bop .int .gtr (iv (0 : Nat)) (Value.int .i64 0) X1=some (.bool false,X1):=by rw [ZF];rfl
    rw [Za q1]
    iterate 9 rw [ZlC (by rfl)]
    rw [Za Zh]
    rfl
   ·have q1 : bop .int .gtr (iv k) (Value.int .i64 0) X1=some (.bool true,X1):=by rw [ZF,decide_eq_true (by omega)]
    obtain ⟨v,hv⟩ : ∃ v,us[k - 1]?=some v:=⟨_,List.getElem?_eq_getElem (by omega)⟩
    obtain ⟨id,o,x1,x2⟩:=hA1.nmAt hv
    have hp : upB (K2 us k) u=decide (v.nm < u.nm):=by unfold K2 upB;rw [if_neg h0,hv];rfl
    rw [Za q1,Q5,ZQ,Q5,ZQ,Q5,Za Qr,Zj5 (by omega) (by omega),Q5,Za x1,Q5,Za Yh,Q5,Za x2,Q5,Za Zi,Q5,Za (a0 0 _ rfl),Q5,Za ZpS,Za Zh,hp]
    rfl
  rw [hd,Zci]
  cases hup : upB (K2 us k) u
  ·rw [hup] at hcmp
   refine ⟨X1,Qc ?_,hle.trans k1⟩
   rw [ZC]
   unfold Qb.l2
   rw [Za Zg,Zb,if_pos (by simpa using hlt),hf]
   refine (hcmp _).trans ?_
   rw [Zb,if_pos (by rfl)]
   rfl
  ·rw [hup] at hcmp
   obtain ⟨X3,e3,k3⟩:=Zsz hn hA t (k+1) X1 (by omega) (by omega) (hle.trans k1)
   rw [Ze3 hg] at e3
   refine ⟨X3,(Zr ?_).trans e3,k3⟩
   rw [ZC]
   unfold Qb.l2
   rw [Za Zg,Zb,if_pos (by simpa using hlt),hf]
   refine (hcmp _).trans ?_
   rw [Zb,if_neg (by simp),Za Zt,Qh (by omega)]
   rfl
def ofE (us : List Zp) : Int:=if Kq us=0 then (if WT none us then (if 12 < us.length then 7 else 0) else 9) else Kq us
theorem Zyg (hn : us.length≤1000) (hA : Users X sl us) : ∃ X',R (n+5) W6 [sl,iv 1] X=some (iv (ofE us),X')∧HLe X X':=by
 obtain ⟨X1,e1,k1⟩:=Zs5 (n:=n) hn hA us.length 0 X (by omega) (by omega) (.refl _)
 rw [List.drop_zero] at e1
 have e1 : Zj (c5 (Qb.l1 (R (n+4)))) [sl,iv 1,sl,iv us.length,.int .i64 0] X=_:=e1
 have f1 : ∀ r X',Qb (R (n+4)) sl (iv 1) X=some (r,X')→R (n+5) W6 [sl,iv 1] X=some (r,X'):=fun r X' hr=>by rw [R,ZkP rfl];exact hr
 unfold ofE
 by_cases h1 : Kq us=0
 ·rw [if_pos h1] at e1
  rw [if_pos h1]
  obtain ⟨X2,e2,k2⟩:=Zsz (n:=n+4) hn (hA.mono k1) us.length 0 X1 (by omega) (by omega) (.refl _)
  rw [List.drop_zero,ZhJ] at e2
  have e2 : Zj (c4 (Qb.l2 (R (n+4)))) [sl,sl,iv us.length,.int .i64 0] X1=_:=e2
  refine ⟨X2,f1 _ _ ?_,k1.trans k2⟩
  unfold Qb
  rw [Za hA.len,ZO e1,Zu,Jy,Za hA.len]
  cases h2 : WT none us
  ·rw [h2] at e2
   rw [QI e2];rfl
  ·rw [h2] at e2
   rw [ZO e2,Zu,Jy,Za hA.len,Za ZF,Zb]
   by_cases h3 : 12 < us.length
   ·rw [if_pos (by simp;omega),if_pos rfl,if_pos h3];rfl
   ·rw [if_neg (by simp;omega),if_pos rfl,if_neg h3];rfl
 ·rw [if_neg h1] at e1
  rw [if_neg h1]
  refine ⟨X1,f1 _ _ ?_,k1⟩
  unfold Qb
  rw [Za hA.len,QI e1]
  rfl
theorem Zly : ∀ {us : List Zp},Kq us=0→∀ u∈us,ZaH u=0
 | [],_,u,hu=>by cases hu
 | v :: l,h,u,hu=>by
  unfold Kq at h
  by_cases h1 : ZaH v=0
  ·rw [if_pos h1] at h
   rcases List.mem_cons.1 hu with rfl | hu
   ·exact h1
   ·exact Zly h u hu
  ·rw [if_neg h1] at h;exact absurd h h1
theorem Zzp (hn : us.length≤1000) (hA : Users X sl us) : ∃ X' dv,R (n+7) ZcQ [sl] X=some (.tuple #[dv,iv (ofE us)],X')∧HLe X X'∧
  (ofE us≠0→dv=.pointer none)∧(ofE us=0→∃ d b,dv=pt d∧Dir X' d b (us.map Ze4)∧Zfy (us.map Ze4)∧X.length≤d∧X.length≤b):=by
 obtain ⟨X0,d,b,e0,D0,k0,o1,o2⟩:=Zwk (n:=n+5) (H:=X)
 have e0 : R (n+6) Zdd [] X=_:=e0
 have hA0:=hA.mono k0
 obtain ⟨X1,e1,k1⟩:=ZuP (n:=n) (dv:=pt d) hn hA0 us.length 0 X0 (by omega) (by omega) (.refl _)
 rw [List.drop_zero] at e1
 have e1 : Zj (c5 (Q9.l1 (R (n+6)))) [sl,pt d,sl,iv us.length,.int .i64 0] X0=_:=e1
 have f1 : ∀ r X',Q9 (R (n+6)) sl X=some (r,X')→R (n+7) ZcQ [sl] X=some (r,X'):=fun r X' hr=>by rw [R,ZrT rfl];exact hr
 have D1:=D0.hle k1
 unfold ofE
 by_cases h1 : Kq us=0
 ·rw [if_pos h1] at e1
  rw [if_pos h1]
  obtain ⟨X2,e2,k2,h2⟩:=ZvH (n:=n) hn hA o2 us.length 0 [] X1 (by omega) (by omega) (k0.trans k1) D1.c D1.g ⟨List.Pairwise.nil,by simp⟩ D1.ne
  rw [List.drop_zero,ZhJ] at e2 h2
  have e2 : Zj (c5 (Q9.l2 (R (n+6)))) [sl,pt d,sl,iv us.length,.int .i64 0] X1=_:=e2
  cases hr : WT none us
  ·rw [hr] at e2
   refine ⟨X2,.pointer none,f1 _ _ ?_,k2,fun _=>rfl,fun h=>by simp at h⟩
   unfold Q9
   rw [Za e0,Za hA.len,ZO e1,Zu,ZP,Za hA.len,QI e2]
   rfl
  ·rw [hr] at e2
   obtain ⟨hc,hm,hR⟩:=h2 hr
   rw [List.nil_append] at hm hR
   by_cases h3 : 12 < us.length
   ·refine ⟨X2,.pointer none,f1 _ _ ?_,k2,fun _=>rfl,fun h=>by simp [h3] at h⟩
    unfold Q9
    rw [Za e0,Za hA.len,ZO e1,Zu,ZP,Za hA.len,ZO e2,Zu,ZP,Za hA.len,Za ZF,Zb,if_pos (by simp;omega),if_pos rfl,if_pos h3]
    rfl
   ·refine ⟨X2,pt d,f1 _ _ ?_,k2,fun h=>by simp [h3] at h,fun _=>⟨d,b,rfl,⟨hc,hm,fun p hp=>?_,by simpa using h3⟩,hR,o1,o2⟩⟩
    ·unfold Q9
     rw [Za e0,Za hA.len,ZO e1,Zu,ZP,Za hA.len,ZO e2,Zu,ZP,Za hA.len,Za ZF,Zb,if_neg (by simp;omega),if_pos rfl,if_neg h3]
     rfl
    ·obtain ⟨u,hu,rfl⟩:=List.mem_map.1 hp
     have he:=Zly h1 u hu
     unfold ZaH at he
     refine ZaI ?_
     cases hn : ZB u.nm
     ·rw [hn] at he;simp at he
     ·exact hn
 ·rw [if_neg h1] at e1
  rw [if_neg h1]
  refine ⟨X1,.pointer none,f1 _ _ ?_,k0.trans k1,fun _=>rfl,fun h=>absurd h h1⟩
  unfold Q9
  rw [Za e0,Za hA.len,QI e1]
  rfl
end
end Go.Proofs.YtedkoimihknggaaGreatDoor.A

namespace Go.Proofs.YtedkoimihknggaaGreatDoor.A
set_option linter.unusedVariables false
set_option linter.unusedSimpArgs false
open Go.Proofs Go.Proofs.YtedkoimihknggaaGreatDoor
abbrev YS:=List UInt8 × List UInt8 × List UInt8 × Bool × List (List UInt8)
def ZW (u : Zp) : YS:=(u.nm,u.hs,u.ml,u.ds,u.gs)
section
variable {H0 H X : Zd} {n p p1 p2 d b : Nat} {u w : Zp} {us ws : List Zp} {a c : Value}
theorem Zyy {u : Zp} (h : oneCell u.gv=true) : alc 1 (.agg u.cells.toArray) X=some (pt X.length,X++[.cells u.cells 1 false false]):=by
 rw [QX]
 exact if_pos (show u.cells.toArray.toList.all oneCell=true by simp only [Zp.cells,List.all_cons,h];rfl)
def QV (H : Zd) (sl : Value) (us : List Zp) : Prop:=SlN 5 H sl (us.map Zp.cells)∧∀ u∈us,Sl H u.gv (u.gs.map strv)∧oneCell u.gv=true∧u.gs.length≤1000000
theorem QV.mono (h : QV H a us) (hl : HLe H X) : QV X a us:=⟨h.1.mono hl,fun u hu=>⟨(h.2 u hu).1.mono hl,(h.2 u hu).2⟩⟩
theorem Users.s (h : Users H a us) (hb : ∀ u∈us,u.gs.length≤1000000) : QV H a us:=⟨h.1,fun u hu=>⟨GV.sl (h.2 u hu),GV.one (h.2 u hu),hb u hu⟩⟩
end
end Go.Proofs.YtedkoimihknggaaGreatDoor.A

namespace Go.Proofs.YtedkoimihknggaaGreatDoor.A
set_option linter.unusedVariables false
set_option linter.unusedSimpArgs false
open Go.Proofs Go.Proofs.YtedkoimihknggaaGreatDoor
section
variable {H H' : Zd} {n d b p q : Nat} {m : Yr} {k s : List UInt8}
end
end Go.Proofs.YtedkoimihknggaaGreatDoor.A

namespace Go.Proofs.YtedkoimihknggaaGreatDoor.A
set_option linter.unusedVariables false
set_option linter.unusedSimpArgs false
open Go.Proofs Go.Proofs.YtedkoimihknggaaGreatDoor
structure Zli where
 kd : Nat
 nm : List UInt8
 hs : List UInt8
abbrev Zli.cells (a : Zli) : List Value:=[.int .u8 a.kd,strv a.nm,strv a.hs]
def ZhF (H : Zd) (sl : Value) (ac : List Zli) : Prop:=SlN 3 H sl (ac.map Zli.cells)∧∀ a∈ac,a.kd≤255
section
variable {H H' : Zd} {sl : Value} {ac : List Zli} {n : Nat}
theorem ZhF.len (h : ZhF H sl ac) : ZH sl H'=some (iv ac.length,H'):=by
 have:=h.1.len (H':=H')
 rwa [List.length_map] at this
theorem ZhF.mono (h : ZhF H sl ac) (hl : HLe H H') : ZhF H' sl ac:=⟨h.1.mono hl,h.2⟩
theorem ZhF.fetch {β : Type} {k : Value→M β} (h : ZhF H sl ac) {j : Nat} {a : Zli} (hj : ac[j]?=some a) :
  bind (ixa 3 sl (iv j)) (fun p=>bind (ldA 3 p) fun v=>bind (alc 1 (.agg #[.int .u8 0,.string ⟨#[]⟩,.string ⟨#[]⟩])) fun q=>bind (stA 3 q v) fun _=>k q) H=k (pt H.length) (H++[.cells a.cells 1 false false]):=by
 have hr : (ac.map Zli.cells)[j]?=some a.cells:=by rw [List.getElem?_map,hj];rfl
 rw [h.1.fetch hr (by omega) .i64]
 exact ZbW (n:=3) (zs:=[.int .u8 0,.string ⟨#[]⟩,.string ⟨#[]⟩]) (r:=a.cells) rfl rfl rfl rfl
end
end Go.Proofs.YtedkoimihknggaaGreatDoor.A

namespace Go.Proofs.YtedkoimihknggaaGreatDoor.A
set_option linter.unusedVariables false
set_option linter.unusedSimpArgs false
open Go.Proofs Go.Proofs.YtedkoimihknggaaGreatDoor
section
variable {H : Zd} {n : Nat} {f v : Value} {p : List UInt8→Bool} {l : List (List UInt8)} {q : List Nat} {Q : Zd→Prop}
theorem HLe.stepq {X X' : Zd} (h : HLe X X') : Zw q X q X':=h.step.more (by simp) (fun j hj=>.inl hj)
theorem ZsG (hl : l.length≤1000000) (hQ : ∀ X X',Q X→HLe X X'→Q X') (hf : ∀ X,Q X→∀ s∈l,∃ X',Kh (R n) f [strv s] X=some (.bool (p s),X')∧HLe X X') : ∀ (t k : Nat) (X : Zd),l.length - k=t→k≤l.length→Q X→Zs X v (l.map strv) q→
  ∃ X',Zj (c4 (ZG.l1 (R n))) [v,f,iv l.length,iv k] X=some (match (l.drop k).findIdx? p with | some i=>.ret (iv (k+i : Nat)) | none=>.ext 0 [],X')∧HLe X X'
 | 0,k,X,ht,hk,hq,hr=>by
  have : k=l.length:=by omega
  subst this
  rw [List.drop_length]
  refine ⟨X,ZD ?_,.refl _⟩
  rw [ZC]
  unfold ZG.l1
  rw [Za Zg,Zb,if_neg (by simp)]
  rfl
 | t+1,k,X,ht,hk,hq,hr=>by
  have hkl : k < l.length:=by omega
  have hlt : (k : Int) < l.length:=by omega
  have hg:=List.getElem?_eq_getElem hkl
  have hm : l[k]∈l:=List.getElem_mem hkl
  have hd:=List.drop_eq_getElem_cons hkl
  generalize l[k]=x at hg hd hm
  have x1:=hr.ix (i:=k) (by simpa using hkl) .i64 X
  have x2:=hr.ldx (J9 hg)
  obtain ⟨X1,x3,l1⟩:=hf X hq x hm
  obtain ⟨X2,ih,l2⟩:=ZsG hl hQ hf t (k+1) X1 (by omega) (by omega) (hQ _ _ hq l1) (hr.step l1.step (by simp))
  rw [hd,List.findIdx?_cons]
  cases hp : p x
  ·rw [hp] at x3
   refine ⟨X2,(Zr ?_).trans (ih.trans ?_),l1.trans l2⟩
   ·rw [ZC]
    unfold ZG.l1
    rw [Za Zg,Zb,if_pos (by simpa using hlt),Za x1,Za x2,Za x3,Zb,if_neg (by simp),Za Zt,Qh (by omega)]
    rfl
   ·cases (l.drop (k+1)).findIdx? p with
    | none=>rfl
    | some i=>simp only [Bool.false_eq_true,if_false,Option.map_some];rw [show k+1+i=k+(i+1) by omega]
  ·rw [hp] at x3
   refine ⟨X1,Qc ?_,l1⟩
   rw [ZC]
   unfold ZG.l1
   rw [Za Zg,Zb,if_pos (by simpa using hlt),Za x1,Za x2,Za x3,Zb,if_pos rfl]
   rfl
theorem Zvb (hr : Zs H v (l.map strv) q) (hl : l.length≤1000000) (hQ : ∀ X X',Q X→HLe X X'→Q X') (hf : ∀ X,Q X→∀ s∈l,∃ X',Kh (R n) f [strv s] X=some (.bool (p s),X')∧HLe X X') (h0 : Q H) :
  ∃ H',R (n+1) JJ [v,f] H=some (match l.findIdx? p with | some i=>iv i | none=>iv (-1),H')∧HLe H H':=by
 obtain ⟨H',e,le⟩:=ZsG hl hQ hf l.length 0 H (by omega) (by omega) h0 hr
 rw [List.drop_zero] at e
 have e : Zj (c4 (ZG.l1 (R n))) [v,f,iv l.length,.int .i64 0] H=_:=e
 have hlen : ZH v H=some (iv l.length,H):=by have:=hr.rd.len (H':=H);simpa using this
 refine ⟨H',?_,le⟩
 rw [R,Zc0 rfl]
 unfold ZG
 rw [Za hlen]
 cases h : l.findIdx? p with
 | none=>rw [h] at e;rw [ZO e,Zu];rfl
 | some i=>
  rw [h] at e
  rw [QI e]
  simp [ret]
theorem ZnD (hl : l.length≤1000000) (hQ : ∀ X X',Q X→Zw q X q X'→Q X') (hf : ∀ X,Q X→∀ s∈l,∃ X',Kh (R n) f [strv s] X=some (.bool (p s),X')∧HLe X X') : ∀ (t j i : Nat) (cs : List (List UInt8)) (X : Zd),l.length - j=t→j≤l.length→i≤j→cs.length=l.length→cs.drop j=l.drop j→Zs X v (cs.map strv) q→Q X→
  ∃ (X' : Zd) (cs' : List (List UInt8)),Zj (c4 (Z6.l1 (R n))) [v,f,iv i,iv j] X=some (.ext 0 [v,iv (i+((l.drop j).filter fun s=>!p s).length : Nat)],X')∧Zs X' v (cs'.map strv) q∧cs'.length=l.length∧
   cs'.take (i+((l.drop j).filter fun s=>!p s).length)=cs.take i++(l.drop j).filter (fun s=>!p s)∧Zw q X q X'
 | 0,j,i,cs,X,ht,hj,hi,hc,hd,hr,hq=>by
  have : j=l.length:=by omega
  subst this
  rw [List.drop_length]
  have hlen : ZH v X=some (iv l.length,X):=by have:=hr.rd.len (H':=X);simpa [hc] using this
  refine ⟨X,cs,ZD ?_,hr,hc,by simp,.refl _ _⟩
  rw [ZC]
  unfold Z6.l1
  rw [Za hlen,Za Zg,Zb,if_neg (by simp)]
  rfl
 | t+1,j,i,cs,X,ht,hj,hi,hc,hd,hr,hq=>by
  have hjl : j < l.length:=by omega
  have hlt : (j : Int) < l.length:=by omega
  have hg:=List.getElem?_eq_getElem hjl
  have hm : l[j]∈l:=List.getElem_mem hjl
  have hdl:=List.drop_eq_getElem_cons hjl
  generalize l[j]=x at hg hdl hm
  have hgc : cs[j]?=some x:=by
   have h1 : (cs.drop j)[0]?=(l.drop j)[0]?:=by rw [hd]
   simpa [hg] using h1
  have hlen : ZH v X=some (iv l.length,X):=by have:=hr.rd.len (H':=X);simpa [hc] using this
  have x1:=hr.ix (i:=j) (by simpa [hc] using hjl) .i64 X
  have x2:=hr.ldx (J9 hgc)
  obtain ⟨Y,x3,ly⟩:=hf X hq x hm
  have hqy:=hQ _ _ hq (ly.stepq (q:=q))
  have hry:=hr.step ly.step (by simp)
  have hd1 : cs.drop (j+1)=l.drop (j+1):=by
   rw [← List.drop_drop,hd,List.drop_drop]
  rw [hdl,List.filter_cons]
  cases hp : p x
  ·rw [hp] at x3
   have x4:=hry.ix (i:=i) (by simp [hc];omega) .i64 Y
   obtain ⟨X1,x5,r1,s1,_⟩:=hry.stx (i:=i) (u:=strv x) (by simp [hc];omega) rfl
   have hset : (cs.map strv).set i (strv x)=(cs.set i x).map strv:=by rw [List.map_set]
   rw [hset] at r1
   obtain ⟨X',cs',e,r',hc',ht',s'⟩:=ZnD hl hQ hf t (j+1) (i+1) (cs.set i x) X1 (by omega) (by omega) (by omega) (by simpa using hc) (by rw [List.drop_set_of_lt (by omega)];exact hd1) r1 (hQ _ _ hqy s1)
   have hn : i+1+((l.drop (j+1)).filter fun s=>!p s).length=i+(((l.drop (j+1)).filter fun s=>!p s).length+1):=by omega
   rw [hn] at e ht'
   simp only [Bool.not_false,if_true,List.length_cons]
   refine ⟨X',cs',(Zr ?_).trans e,r',hc',?_,(ly.stepq.trans s1).trans s'⟩
   ·rw [ZC]
    unfold Z6.l1
    rw [Za hlen,Za Zg,Zb,if_pos (by simpa using hlt),Za x1,Za x2,Za x3,Za ZY]
    refine (Qf (vs:=[v,f,iv ((i+1 : Nat) : Int),iv j]) (H':=X1) ?_).trans ?_
    ·rw [Zb,if_pos (by rfl),Za x4,Za x5,Za Zt,Qh (by omega)];rfl
    ·rw [ZC,Za Zt,Qh (by omega)];rfl
   ·rw [ht']
    have : (cs.set i x).take (i+1)=cs.take i++[x]:=by
     have hil : i < (cs.set i x).length:=by simp [hc];omega
     rw [List.take_succ_eq_append_getElem hil,List.take_set_of_le (Nat.le_refl _)]
     simp
    rw [this];simp
  ·rw [hp] at x3
   obtain ⟨X',cs',e,r',hc',ht',s'⟩:=ZnD hl hQ hf t (j+1) i cs Y (by omega) (by omega) (by omega) hc hd1 hry hqy
   simp only [Bool.not_true,Bool.false_eq_true,if_false]
   refine ⟨X',cs',(Zr ?_).trans e,r',hc',ht',ly.stepq.trans s'⟩
   rw [ZC]
   unfold Z6.l1
   rw [Za hlen,Za Zg,Zb,if_pos (by simpa using hlt),Za x1,Za x2,Za x3,Za ZY]
   refine (Qf (vs:=[v,f,iv i,iv j]) (H':=Y) ?_).trans ?_
   ·rw [Zb,if_neg (by simp)];rfl
   ·rw [ZC,Za Zt,Qh (by omega)];rfl
theorem Zpw (hr : Zs H v (l.map strv) q) (hl : l.length≤1000000) (hQ : ∀ X X',Q X→Zw q X q X'→Q X') (hf : ∀ X,Q X→∀ s∈l,∃ X',Kh (R n) f [strv s] X=some (.bool (p s),X')∧HLe X X') (hf1 : ∀ X,Q X→∀ s∈l,∃ X',Kh (R (n+1)) f [strv s] X=some (.bool (p s),X')∧HLe X X') (h0 : Q H) :
  ∃ H' v',R (n+2) QY [v,f] H=some (v',H')∧Zs H' v' ((l.filter fun s=>!p s).map strv) q∧Zw q H q H':=by
 obtain ⟨Y,e1,ly⟩:=Zvb hr hl (fun X X' hq hx=>hQ X X' hq hx.stepq) hf h0
 have e1 : run Tryz.prog np lvs (n+1) JJ [v,f] H=_:=e1
 have hry:=hr.step ly.step (by simp)
 have hqy:=hQ _ _ h0 (ly.stepq (q:=q))
 have hfi:=ZhZ (p:=p) (l:=l)
 have hrun : R (n+2) QY [v,f] H=Z6 (R (n+1)) v f H:=by rw [R,ZcE rfl]
 rw [hrun]
 unfold Z6
 cases h : l.findIdx? p with
 | none=>
  rw [h] at e1 hfi
  refine ⟨Y,v,?_,by rw [hfi];exact hry,ly.stepq⟩
  rw [Za e1,Za ZA,Zb,if_pos (by simp)]
  rfl
 | some i=>
  rw [h] at e1 hfi
  simp only at e1 hfi
  obtain ⟨X',cs',e2,r2,hc2,ht2,s2⟩:=ZnD (n:=n+1) hl hQ hf1 (l.length - (i+1)) (i+1) i l Y rfl (by omega) (by omega) rfl rfl hry hqy
  have hle : ((l.drop (i+1)).filter fun s=>!p s).length≤l.length - (i+1):=by
   have:=List.length_filter_le (fun s=>!p s) (l.drop (i+1))
   simpa using this
  obtain ⟨a,X2,v',a1,a2,a3,a4,a5⟩:=Zvj r2 (i:=i+((l.drop (i+1)).filter fun s=>!p s).length) (by omega)
  refine ⟨X2,v',?_,by rw [hfi.1,← ht2];exact a4,(ly.stepq.trans s2).trans a5⟩
  rw [Za e1,Za ZA,Zb,if_neg (by simp),Za Zt,Qh (by omega),ZO e2,Zu,ZP,Za a1,Za a2,Za a3]
  rfl
end
abbrev Tx:=List UInt8
def Asc (l : List Tx) : Prop:=l.Pairwise (· < ·)
theorem Zm3 {a : Tx} : ¬ a < a:=List.lt_irrefl a
theorem ZsY : ∀ {l l' : List Tx},Asc l→Asc l'→(∀ x,x∈l↔x∈l')→l=l'
 | [],[],_,_,_=>rfl
 | [],b :: l',_,_,h=>by have:=(h b).2 (by simp);cases this
 | a :: l,[],_,_,h=>by have:=(h a).1 (by simp);cases this
 | a :: l,b :: l',h1,h2,h=>by
  obtain ⟨a1,a2⟩:=List.pairwise_cons.1 h1
  obtain ⟨b1,b2⟩:=List.pairwise_cons.1 h2
  have hab : a=b:=by
   rcases List.mem_cons.1 ((h a).1 (by simp)) with e | e
   ·exact e
   ·rcases List.mem_cons.1 ((h b).2 (by simp)) with e' | e'
    ·exact e'.symm
    ·exact absurd (List.lt_trans (b1 a e) (a1 b e')) Zm3
  subst hab
  congr 1
  refine ZsY a2 b2 fun x=>⟨fun hx=>?_,fun hx=>?_⟩
  ·rcases List.mem_cons.1 ((h x).1 (List.mem_cons_of_mem _ hx)) with e | e
   ·subst e;exact absurd (a1 _ hx) Zm3
   ·exact e
  ·rcases List.mem_cons.1 ((h x).2 (List.mem_cons_of_mem _ hx)) with e | e
   ·subst e;exact absurd (b1 _ hx) Zm3
   ·exact e
theorem ZjS {l : List Tx} (hn : l.Nodup) : Asc (Qs l):=by
 have h1 : (Qs l).Pairwise (fun a b=>leB a b=true):=List.pairwise_mergeSort (fun a b c h h'=>by
  simp only [leB,decide_eq_true_eq] at *
  exact List.le_trans h h') (fun a b=>by
  simp only [leB,Bool.or_eq_true,decide_eq_true_eq]
  exact List.le_total a b) l
 have h2 : (Qs l).Nodup:=((List.mergeSort_perm l _).nodup_iff).2 hn
 unfold Asc
 have h3:=h1.and h2
 refine h3.imp fun {a b} h=>?_
 obtain ⟨h4,h5⟩:=h
 simp only [leB,decide_eq_true_eq] at h4
 exact Decidable.byContradiction fun h6=>h5 (List.le_antisymm h4 (List.not_lt.1 h6))
theorem Zbv {l : List Tx} {x : Tx} : x∈Qs l↔x∈l:=List.mem_mergeSort
structure Is (l : List Tx) (p : Tx→Prop) : Prop where
 asc : Asc l
 mem : ∀ x,x∈l↔p x
theorem Is.uniq {l l' : List Tx} {p p' : Tx→Prop} (h : Is l p) (h' : Is l' p') (hp : ∀ x,p x↔p' x) : l=l':=ZsY h.asc h'.asc fun x=>(h.mem x).trans ((hp x).trans (h'.mem x).symm)
theorem Is.nil {l : List Tx} {p : Tx→Prop} (h : Is l p) : l=[]↔∀ x,¬ p x:=by
 constructor
 ·rintro rfl x hx;have:=(h.mem x).2 hx;cases this
 ·intro hx;exact List.eq_nil_iff_forall_not_mem.2 fun x hm=>hx x ((h.mem x).1 hm)
theorem Asc.filter {l : List Tx} (h : Asc l) (p : Tx→Bool) : Asc (l.filter p):=List.Pairwise.filter p h
end Go.Proofs.YtedkoimihknggaaGreatDoor.A
namespace Go.Proofs.YtedkoimihknggaaGreatDoor.A
set_option linter.unusedVariables false
set_option linter.unusedSimpArgs false
open Go.Proofs Go.Proofs.YtedkoimihknggaaGreatDoor
abbrev ZyD (s : Nat) : Value:=.map (some s)
abbrev ZpM (_ : Unit) : Value:=.agg #[]
abbrev Zhy:=List (Tx × Nat)
abbrev ZvS:=List (Tx × Unit)
abbrev Mem:=Tx→Tx→Bool
abbrev YC (o : Nat) (G : Zhy) : List Nat:=o :: G.map (·.2)
abbrev Js (G : Zhy) : List Tx:=G.map (·.1)
structure Grp (X : Zd) (g o : Nat) (G : Zhy) (mem : Mem) (c : Nat) : Prop where
 cell : X[g]?=some (.cells [.map (some o)] 1 false false)
 mo : Ya ZyD X o G
 ms : ∀ p∈G,∃ S : ZvS,Ya ZpM X p.2 S∧(∀ n,(Zk n S).isSome=mem p.1 n)∧S.length≤c∧∀ q∈S,ZB q.1=true
 out : ∀ k n,mem k n=true→(Zk k G).isSome=true
 nod : (YC o G).Nodup
 ok : ∀ p∈G,ZB p.1=true
 few : G.length≤6
theorem ZhH {α : Type} {k : Tx} : ∀ {m : List (Tx × α)},(Zk k m).isSome=decide (k∈m.map (·.1))
 | []=>rfl
 | p :: m=>by
  simp only [Zk,List.map_cons,List.mem_cons]
  by_cases h : p.1=k
  ·rw [if_pos h];simp [h]
  ·rw [if_neg h,ZhH]
   have : k≠p.1:=Ne.symm h
   simp [this]
section
variable {X X' : Zd} {n g o c c' : Nat} {G : Zhy} {mem mem' : Mem} {k m s t : Tx}
theorem Grp.isMap (h : Grp X g o G mem c) {j : Nat} (hj : j∈YC o G) : j < X.length∧∀ cs es gr ro,X[j]?≠some (.cells cs es gr ro):=by
 have key : ∀ {α : Type} {enc : α→Value} {id : Nat} {mm : List (Tx × α)},Ya enc X id mm→id < X.length∧∀ cs es gr ro,X[id]?≠some (.cells cs es gr ro):=fun hm=>⟨hm.lt,fun cs es gr ro e=>by
  obtain ⟨es',_,h1 | h1⟩:=hm.ex
  ·obtain ⟨clk,h1,_⟩:=h1;rw [e] at h1;cases h1
  ·rw [e] at h1;cases h1⟩
 rcases List.mem_cons.1 hj with rfl | hj
 ·exact key h.mo
 ·obtain ⟨p,hp,rfl⟩:=List.mem_map.1 hj
  obtain ⟨S,hS,_⟩:=h.ms p hp
  exact key hS
theorem Grp.gnot (h : Grp X g o G mem c) : g∉YC o G:=fun hj=>(h.isMap hj).2 _ _ _ _ h.cell
theorem Grp.glt (h : Grp X g o G mem c) : g < X.length:=Z5 h.cell
theorem Grp.step {o1 o2 : List Nat} (h : Grp X g o G mem c) (hs : Zw o1 X o2 X') (hg : g∉o1) (ho : ∀ j∈YC o G,j∉o1) : Grp X' g o G mem c:=
 ⟨hs.get h.cell hg,h.mo.step hs (ho o (by simp)),fun p hp=>by
  obtain ⟨S,h1,h2⟩:=h.ms p hp
  exact ⟨S,h1.step hs (ho p.2 (List.mem_cons_of_mem _ (List.mem_map.2 ⟨p,hp,rfl⟩))),h2⟩,h.out,h.nod,h.ok,h.few⟩
theorem Grp.hle (h : Grp X g o G mem c) (hl : HLe X X') : Grp X' g o G mem c:=h.step hl.step (by simp) (by simp)
theorem Grp.more (h : Grp X g o G mem c) (hc : c≤c') (hm : ∀ k n,mem' k n=mem k n) : Grp X g o G mem' c':=
 ⟨h.cell,h.mo,fun p hp=>by
  obtain ⟨S,h1,h2,h3,h4⟩:=h.ms p hp
  exact ⟨S,h1,fun n=>(h2 n).trans (hm _ _).symm,Nat.le_trans h3 hc,h4⟩,fun k n hk=>h.out k n (by rw [← hm];exact hk),h.nod,h.ok,h.few⟩
theorem Grp.ldo (h : Grp X g o G mem c) : ld1 (pt g) X=some (.map (some o),X):=ZeB h.cell
theorem Grp.upd (h : Grp X g o G mem c) {id : Nat} {S' : ZvS} (hk : Zk k G=some id) (hm : Ya ZpM X' id S') (hs : Zw [id] X [id] X') (hn : ∀ q∈S',ZB q.1=true) (hc : S'.length≤c') (hcc : c≤c')
  (hmem : ∀ k' n,mem' k' n=if k'=k then (Zk n S').isSome else mem k' n) : Grp X' g o G mem' c':=by
 have hpm:=Zae hk
 have hnod:=h.nod
 simp only [List.nodup_cons] at hnod
 have hidm : id∈G.map (·.2):=List.mem_map.2 ⟨_,hpm,rfl⟩
 have hido : o≠id:=fun e=>hnod.1 (e ▸ hidm)
 have hidg : g≠id:=fun e=>h.gnot (e ▸ List.mem_cons_of_mem _ hidm)
 refine ⟨hs.get h.cell (by simpa using hidg),h.mo.step hs (by simpa using hido),fun p hp=>?_,fun k' n hk'=>?_,h.nod,h.ok,h.few⟩
 ·by_cases hpid : p.2=id
  ·have hpk : p.1=k:=by
    have h1 : Zk p.1 G=some p.2:=Zaf h.mo.nod hp
    have hinj : ∀ (G : Zhy),(G.map (·.2)).Nodup→p∈G→(k,id)∈G→p=(k,id):=by
     intro G hG h1 h2
     induction G with
     | nil=>cases h1
     | cons a G ih=>
      simp only [List.map_cons,List.nodup_cons,List.mem_map,not_exists,not_and] at hG
      rcases List.mem_cons.1 h1 with e1 | e1
      ·rcases List.mem_cons.1 h2 with e2 | e2
       ·rw [e1,e2]
       ·exact absurd (by rw [← e1];exact hpid.symm) (hG.1 _ e2)
      ·rcases List.mem_cons.1 h2 with e2 | e2
       ·exact absurd (by rw [← e2];exact hpid) (hG.1 _ e1)
       ·exact ih hG.2 e1 e2
    rw [hinj G hnod.2 hp hpm]
   exact ⟨S',by rw [hpid];exact hm,fun n=>by rw [hmem,if_pos hpk],hc,hn⟩
  ·obtain ⟨S,h1,h2,h3,h4⟩:=h.ms p hp
   have hpk : p.1≠k:=fun e=>hpid (by
    have h5 : Zk p.1 G=some p.2:=Zaf h.mo.nod hp
    rw [e,hk] at h5;exact (Option.some.inj h5).symm)
   exact ⟨S,h1.step hs (by simpa using hpid),fun n=>by rw [hmem,if_neg hpk];exact h2 n,Nat.le_trans h3 hcc,h4⟩
 ·rw [hmem] at hk'
  by_cases e : k'=k
  ·rw [e,hk];rfl
  ·rw [if_neg e] at hk';exact h.out k' n hk'
theorem Grp.step1 (h : Grp X g o G mem c) {id : Nat} (hk : Zk k G=some id) (hs : Zw [id] X [id] X') : Zw (YC o G) X (YC o G) X':=
 hs.more (fun j hj=>by
  have hj : j=id:=by simpa using hj
  subst hj
  exact List.mem_cons_of_mem _ (List.mem_map.2 ⟨_,Zae hk,rfl⟩)) (fun j hj=>.inl hj)
theorem Grp.set (h : Grp X g o G mem c) {id : Nat} (hk : Zk k G=some id) : ∃ S : ZvS,Ya ZpM X id S∧(∀ n,(Zk n S).isSome=mem k n)∧S.length≤c∧∀ q∈S,ZB q.1=true:=h.ms _ (Zae hk)
theorem Grp.key (h : Grp X g o G mem c) : (Zk k G).isSome=decide (k∈Js G):=ZhH
theorem ZoZ {v : Value} {l : List Tx} (hl : l.length≤1000) (hs : Sl X v (l.map strv)) : ∀ (t j : Nat),l.length - j=t→j≤l.length→
  Zj (c3 (Ku.l1 (R (n+5)))) [v,iv l.length,iv j] X=some (if (l.drop j).all ZB then .ext 0 [] else .ret (iv 10),X)
 | 0,j,ht,hj=>by
  rw [List.drop_eq_nil_of_le (by omega)]
  refine ZD ?_
  rw [ZX,show j=l.length by omega]
  unfold Ku.l1
  rw [Za Zg,Zb,if_neg (by simp)]
  rfl
 | t+1,j,ht,hj=>by
  have hkl : j < l.length:=by omega
  have hlt : (j : Int) < l.length:=by omega
  have hg:=List.getElem?_eq_getElem hkl
  have hd:=List.drop_eq_getElem_cons hkl
  generalize l[j]=x at hg hd
  have x1:=hs.ix (i:=j) (by simpa using hkl) .i64 X
  have x2:=hs.ldx (J9 hg)
  have x3 : R (n+5) JM [strv x] X=some (iv (Z7 x),X):=ZdH
  rw [hd,List.all_cons]
  cases hx : ZB x
  ·refine Qc ?_
   rw [ZX]
   unfold Ku.l1
   rw [Za Zg,Zb,if_pos (by simpa using hlt),Za x1,Za x2,Za x3,show Z7 x=10 by unfold Z7;rw [hx];rfl,Za Zq,Zb,if_pos (by simp)]
   rfl
  ·refine (Zr ?_).trans (ZoZ hl hs t (j+1) (by omega) (by omega))
   rw [ZX]
   unfold Ku.l1
   rw [Za Zg,Zb,if_pos (by simpa using hlt),Za x1,Za x2,Za x3,show Z7 x=0 by unfold Z7;rw [hx];rfl,Za Zq,Zb,if_neg (by simp),Za Zt,Qh (by omega)]
   rfl
def ZlM (l : List Tx) : Int:=if l.all ZB then 0 else 10
theorem ZvT {v : Value} {l : List Tx} (hl : l.length≤1000) (hs : Sl X v (l.map strv)) : R (n+6) Zbr [v] X=some (iv (ZlM l),X):=by
 have e:=ZoZ (n:=n) hl hs l.length 0 (by omega) (by omega)
 rw [show iv ((0 : Nat) : Int)=.int .i64 0 from rfl,List.drop_zero] at e
 have hlen : ZH v X=some (iv l.length,X):=by have:=hs.len (H':=X);simpa using this
 rw [R,Zn8 rfl]
 unfold Ku ZlM
 rw [Za hlen]
 by_cases h : l.all ZB=true
 ·rw [if_pos h] at e ⊢
  rw [ZO e,Zu];rfl
 ·rw [if_neg h] at e ⊢
  rw [QI e];rfl
def JZ (k : Tx) (ms : List Tx) (K : List Tx) : Int:=if (k :: ms).all ZB then (if k∈K then 0 else 8) else 10
theorem Zs1 (h : Grp X g o G mem c) {mv : Value} {ms : List Tx} (hml : ms.length≤5)
  (hrow : ∃ w X1 v X2,bsl 1 1 (.string ⟨#[]⟩) [(0,1,strv k)] X=some (w,X1)∧app 1 16 w mv X1=some (v,X2)∧Sl X2 v ((k :: ms).map strv)∧HLe X X2) :
  ∃ X',R (n+7) YL [pt g,strv k,mv] X=some (.tuple #[.map (if JZ k ms (Js G)=0 then Zk k G else none),iv (JZ k ms (Js G))],X')∧HLe X X':=by
 obtain ⟨w,X1,v,X2,e1,e2,s2,l2⟩:=hrow
 have e3 : R (n+6) Zbr [v] X2=_:=ZvT (n:=n) (l:=k :: ms) (by simp;omega) s2
 have h2:=h.hle l2
 refine ⟨X2,?_,l2⟩
 rw [R,Zia rfl]
 unfold Zb1 JZ
 rw [Za e1,Za e2,Za e3]
 unfold ZlM
 by_cases hn : (k :: ms).all ZB=true
 ·rw [if_pos hn,if_pos hn]
  have e4:=h2.mo.lkp (k:=k) (z:=.map none) (ok:=true)
  have hkey:=h2.key (k:=k)
  rw [Za Zq,Zb,if_neg (by simp),Za Zv,Za Zi,Za h2.ldo]
  cases hk : Zk k G with
  | none=>
   rw [hk] at e4 hkey
   have hnk : ¬ k∈Js G:=by simpa using hkey.symm
   rw [if_neg hnk,if_neg (by decide)]
   simp only [cond_true] at e4
   rw [Za e4,Za Zo,Za Zn,Za ZY,Zb,if_pos (by rfl)]
   rfl
  | some id=>
   rw [hk] at e4 hkey
   have hnk : k∈Js G:=by simpa using hkey.symm
   rw [if_pos hnk,if_pos rfl]
   simp only [cond_true] at e4
   rw [Za e4,Za Zo,Za Zn,Za ZY,Zb,if_neg (by simp)]
   rfl
 ·rw [if_neg hn,if_neg hn,Za Zq,Zb,if_pos (by rfl)]
  rfl
theorem Ztv {x : Tx} {H : Zd} : bsl 1 1 (.string ⟨#[]⟩) [(0,1,strv x)] H=some (.slice (some ⟨H.length,0,none⟩) 1 1,H++[.cells [strv x] 1 false false]):=ZqF rfl rfl rfl
theorem Zm4 {x : Tx} {H : Zd} : Zs (H++[.cells [strv x] 1 false false]) (.slice (some ⟨H.length,0,none⟩) 1 1) ([x].map strv) [H.length]:=.inr ⟨H.length,[],false,rfl,rfl,by rw [Zm];rfl⟩
theorem ZxD {b : Nat} {sl : Value} {vs : List Value} {q : List Nat} (h : Zs X sl vs q) : app 1 b sl (.slice none 0 0) X=some (sl,X):=by
 rcases h with ⟨rfl,rfl,rfl⟩ | ⟨sid,rest,gr,rfl,rfl,hid⟩
 ·rfl
 ·unfold app
  simp only [Qq,flen,hid,Nat.add_zero,Nat.le_add_right,if_true]
theorem ZwX (h : Grp X g o G mem c) : ∃ X',R (n+7) YL [pt g,strv k,.slice none 0 0] X=some (.tuple #[.map (if JZ k [] (Js G)=0 then Zk k G else none),iv (JZ k [] (Js G))],X')∧HLe X X':=
 Zs1 h (by simp) ⟨_,_,_,_,Ztv,ZxD Zm4,Zm4.rd,.app _ _⟩
theorem ZvL (h : Grp X g o G mem c) {mv : Value} (hm : Sl X mv [strv m]) : ∃ X',R (n+7) YL [pt g,strv k,mv] X=some (.tuple #[.map (if JZ k [m] (Js G)=0 then Zk k G else none),iv (JZ k [m] (Js G))],X')∧HLe X X':=by
 have l1 : HLe X (X++[.cells [strv k] 1 false false]):=.app _ _
 obtain ⟨v,X2,q,e2,r2,s2,_⟩:=(Zm4 (x:=k) (H:=X)).push (b:=16) (hm.mono l1) (by simp) (by simp)
 have l2:=(l1.more s2 (by simp)).1
 exact Zs1 h (by simp) ⟨_,_,_,_,Ztv,e2,r2.rd,l2⟩
theorem Zy3 : ∃ X' g o,R (n+1) Ze9 [] X=some (pt g,X')∧Grp X' g o [] (fun _ _=>false) 0∧HLe X X'∧X.length≤g∧X.length≤o:=by
 obtain ⟨H1,e1,g1,l1⟩:=ZpO (α:=Nat) (enc:=ZyD) X
 have e2 : bld (.agg #[.map none]) [(0,1,.map (some X.length))] H1=some (.agg #[.map (some X.length)],H1):=by simp [↓Qa,Z8,↓QG,Qk,Qm,Ql,↓Zb,JR,Zv,Yh,Qj,Ju,Qv,Jv,Je,QO,JE,QP,QX,QZ,Q0,Qi,Zh,ZY,Yi,Ys,Jf,Q4,JQ,Zt,Qr,JD,JI,JG,ZA,Zq,Zg,Q8,ZF,Qz,JT,JN,JA,JK,↓YI,JU,↓g_r,YD,Yv,KK,splice,Value.cells]
 have e3 : alc 1 (.agg #[.map (some X.length)]) H1=some (pt H1.length,H1++[.cells [.map (some X.length)] 1 false false]):=by
  rw [QX];simp [Value.cells,oneCell]
 refine ⟨H1++[.cells [.map (some X.length)] 1 false false],H1.length,X.length,?_,⟨Zm,g1.hle (.app _ _),by simp,by simp,by simp,by simp,by simp⟩,l1.trans (.app _ _),l1.len,Nat.le_refl _⟩
 rw [R,Zrr rfl]
 unfold ZgW
 rw [Za e1,Za e2,Za e3]
 rfl
def KJ (k : Tx) (K : List Tx) : Int:=if ZB k then (if k∈K then 9 else if 6≤K.length then 7 else 0) else 10
def Zhj (k : Tx) (K : List Tx) : List Tx:=if KJ k K=0 then K++[k] else K
theorem Zx9 (h : Grp X g o G mem c) : ∃ X' G',R (n+8) YK [pt g,strv k] X=some (iv (KJ k (Js G)),X')∧Grp X' g o G' mem c∧Js G'=Zhj k (Js G)∧Zw (YC o G) X (YC o G') X':=by
 obtain ⟨X1,e1,l1⟩:=ZwX (n:=n) (k:=k) h
 have h1:=h.hle l1
 have f1 : ∀ r X',Yg (R (n+7)) (pt g) (strv k) X=some (r,X')→R (n+8) YK [pt g,strv k] X=some (r,X'):=fun r X' hr=>by rw [R,Zih rfl];exact hr
 have same : ∀ e,KJ k (Js G)=e→e≠0→(Yg (R (n+7)) (pt g) (strv k) X=some (iv e,X1))→∃ X' G',R (n+8) YK [pt g,strv k] X=some (iv (KJ k (Js G)),X')∧Grp X' g o G' mem c∧Js G'=Zhj k (Js G)∧Zw (YC o G) X (YC o G') X':=fun e he hne hr=>by
  refine ⟨X1,G,by rw [he];exact f1 _ _ hr,h1,?_,l1.stepq⟩
  unfold Zhj;rw [if_neg (by rw [he];exact hne)]
 cases hn : ZB k
 ·have hE : KJ k (Js G)=10:=by unfold KJ;rw [hn];rfl
  have hF : JZ k [] (Js G)=10:=by unfold JZ;simp [hn]
  rw [hF] at e1
  refine same _ hE (by decide) ?_
  unfold Yg
  rw [Za e1,Za Zo,Za Zn,Za ZA,Zb,if_neg (by decide),Za Zq,Zb,if_pos (by decide)]
  rfl
 ·by_cases hk : k∈Js G
  ·have hE : KJ k (Js G)=9:=by unfold KJ;rw [hn,if_pos rfl,if_pos hk]
   have hF : JZ k [] (Js G)=0:=by unfold JZ;simp [hn,hk]
   rw [hF] at e1
   refine same _ hE (by decide) ?_
   unfold Yg
   rw [Za e1,Za Zo,Za Zn,Za ZA,Zb,if_pos (by decide)]
   rfl
  ·have hF : JZ k [] (Js G)=8:=by unfold JZ;simp [hn,hk]
   rw [hF] at e1
   have hkl : (Js G).length=G.length:=by simp
   by_cases hl : 6≤(Js G).length
   ·have hE : KJ k (Js G)=7:=by unfold KJ;rw [hn,if_pos rfl,if_neg hk,if_pos hl]
    refine same _ hE (by decide) ?_
    unfold Yg
    rw [Za e1,Za Zo,Za Zn,Za ZA,Zb,if_neg (by decide),Za Zq,Zb,if_neg (by decide),Za Zv,Za Zi,Za h1.ldo,Za h1.mo.len,Za Qz,Zb,if_pos (by simp;omega)]
    rfl
   ·have hE : KJ k (Js G)=0:=by unfold KJ;rw [hn,if_pos rfl,if_neg hk,if_neg hl]
    obtain ⟨X2,e2,m2,l2⟩:=ZpO (α:=Unit) (enc:=ZpM) X1
    have h2:=h1.hle l2
    have hkn : Zk k G=none:=by
     have:=h.key (k:=k)
     cases ha : Zk k G with
     | none=>rfl
     | some v=>rw [ha] at this;exact absurd (by simpa using this.symm) hk
    obtain ⟨X3,e3,m3,s3,len3⟩:=h2.mo.mup (k:=k) (v:=X1.length)
    have ha : JB k X1.length G=G++[(k,X1.length)]:=by unfold JB;rw [hkn];rfl
    rw [ha] at m3
    have hlt : ∀ j∈YC o G,j < X1.length:=fun j hj=>(h1.isMap hj).1
    refine ⟨X3,G++[(k,X1.length)],?_,?_,?_,?_⟩
    ·rw [hE]
     refine f1 _ _ ?_
     unfold Yg
     rw [Za e1,Za Zo,Za Zn,Za ZA,Zb,if_neg (by decide),Za Zq,Zb,if_neg (by decide),Za Zv,Za Zi,Za h1.ldo,Za h1.mo.len,Za Qz,Zb,if_neg (by simp;omega),Za Zv,Za Zi,Za h1.ldo,Za e2,Za e3]
     rfl
    ·have hgo : g≠o:=fun e=>h.gnot (by rw [e];simp)
     have hoid : ∀ p∈G,p.2≠o:=fun p hp e=>by
      have:=h.nod
      simp only [List.nodup_cons] at this
      exact this.1 (List.mem_map.2 ⟨p,hp,e⟩)
     refine ⟨s3.get h2.cell (by simpa using hgo),m3,fun p hp=>?_,fun k' n' hk'=>?_,?_,fun p hp=>?_,by simp;omega⟩
     ·rcases List.mem_append.1 hp with hp | hp
      ·obtain ⟨S,h5,h6⟩:=h2.ms p hp
       exact ⟨S,h5.step s3 (by simpa using hoid p hp),h6⟩
      ·have : p=(k,X1.length):=by simpa using hp
       subst this
       refine ⟨[],m2.step s3 (by have:=hlt o (by simp);simp;omega),fun n'=>?_,Nat.zero_le _,by simp⟩
       cases hb : mem k n' with
       | false=>rfl
       | true=>have:=h.out k n' hb;rw [hkn] at this;cases this
     ·rw [Zd3]
      have:=h.out k' n' hk'
      cases hg : Zk k' G with
      | none=>rw [hg] at this;cases this
      | some v=>rfl
     ·have : YC o (G++[(k,X1.length)])=YC o G++[X1.length]:=by simp
      rw [this,List.nodup_append]
      refine ⟨h.nod,by simp,fun a ha b hb e=>?_⟩
      have:=hlt a ha
      have hb : b=X1.length:=by simpa using hb
      omega
     ·rcases List.mem_append.1 hp with hp | hp
      ·exact h.ok p hp
      ·have : p=(k,X1.length):=by simpa using hp
       subst this;exact hn
    ·unfold Zhj;rw [if_pos hE];simp
    ·have s:=(l1.trans l2).stepq (q:=YC o G)
     have s:=s.trans (s3.more (o2:=YC o G) (o2':=YC o G) (by simp) (fun j hj=>.inl hj))
     refine ⟨s.len,s.keep,fun j hj=>?_⟩
     ·have : YC o (G++[(k,X1.length)])=YC o G++[X1.length]:=by simp
      rw [this] at hj
      rcases List.mem_append.1 hj with hj | hj
      ·exact .inl hj
      ·have hj : j=X1.length:=by simpa using hj
       exact .inr (by rw [hj];exact l1.len)
def ZnH (k : Tx) (K : List Tx) : Int:=if ZB k then (if k∈K then 0 else 8) else 10
def Zzx (k : Tx) (K : List Tx) : List Tx:=if ZnH k K=0 then K.filter (fun x=>decide (x≠k)) else K
def ZnV (k : Tx) (mem : Mem) : Mem:=fun k' n=>mem k' n && !(k'==k)
end
end Go.Proofs.YtedkoimihknggaaGreatDoor.A
namespace Go.Proofs.YtedkoimihknggaaGreatDoor.A
set_option linter.unusedVariables false
set_option linter.unusedSimpArgs false
open Go.Proofs Go.Proofs.YtedkoimihknggaaGreatDoor
theorem Zqq {α : Type} {k : Tx} {v : α} {m : List (Tx × α)} {q : Tx × α} (h : q∈JB k v m) : q=(k,v)∨q∈m:=by
 unfold JB at h
 split at h
 ·obtain ⟨p,hp,rfl⟩:=List.mem_map.1 h
  by_cases e : p.1=k
  ·rw [if_pos e];exact .inl rfl
  ·rw [if_neg e];exact .inr hp
 ·rcases List.mem_append.1 h with h | h
  ·exact .inr h
  ·exact .inl (by simpa using h)
section
variable {X X' : Zd} {n g o c c' : Nat} {G : Zhy} {mem mem' : Mem} {k m s t : Tx}
def ZdK (k m : Tx) (K : List Tx) (mem : Mem) : Int:=if JZ k [m] K=0 then (if mem k m then 9 else 0) else JZ k [m] K
def Zwo (k m : Tx) (K : List Tx) (mem : Mem) : Int:=if JZ k [m] K=0 then (if mem k m then 0 else 12) else JZ k [m] K
def ZmE (k m : Tx) (mem : Mem) : Mem:=fun k' n=>mem k' n || (k'==k && n==m)
def Zzb (k m : Tx) (mem : Mem) : Mem:=fun k' n=>mem k' n && !(k'==k && n==m)
theorem ZtJ {k m : Tx} {K : List Tx} (h : JZ k [m] K=0) : ZB k=true∧ZB m=true∧k∈K:=by
 unfold JZ at h
 by_cases h1 : (k :: [m]).all ZB=true
 ·rw [if_pos h1] at h
  simp only [List.all_cons,List.all_nil,Bool.and_true,Bool.and_eq_true] at h1
  by_cases h2 : k∈K
  ·exact ⟨h1.1,h1.2,h2⟩
  ·rw [if_neg h2] at h;cases h
 ·rw [if_neg h1] at h;cases h
theorem ZzL {H : Zd} : bld (.agg #[]) [] H=some (.agg #[],H):=by simp [↓Qa,Z8,↓QG,Qk,Qm,Ql,↓Zb,JR,Zv,Yh,Qj,Ju,Qv,Jv,Je,QO,JE,QP,QX,QZ,Q0,Qi,Zh,ZY,Yi,Ys,Jf,Q4,JQ,Zt,Qr,JD,JI,JG,ZA,Zq,Zg,Q8,ZF,Qz,JT,JN,JA,JK,↓YI,JU,↓g_r,YD,Yv,KK,splice,Value.cells]
theorem Grp.has (h : Grp X g o G mem c) (hk : k∈Js G) : ∃ id,Zk k G=some id:=by
 have:=h.key (k:=k)
 cases ha : Zk k G with
 | none=>rw [ha] at this;exact absurd hk (by simpa using this.symm)
 | some v=>exact ⟨v,rfl⟩
theorem ZxJ (h : Grp X g o G mem c) : ∃ X',R (n+8) Kw [pt g,strv k,strv m] X=some (iv (ZdK k m (Js G) mem),X')∧Grp X' g o G (if ZdK k m (Js G) mem=0 then ZmE k m mem else mem) (c+1)∧Zw (YC o G) X (YC o G) X':=by
 have l0 : HLe X (X++[.cells [strv m] 1 false false]):=.app _ _
 have s0:=(Zm4 (x:=m) (H:=X)).rd
 have e0:=Ztv (x:=m) (H:=X)
 generalize X++[Zc.cells [strv m] 1 false false]=X0 at l0 s0 e0
 obtain ⟨X1,e1,l1⟩:=ZvL (n:=n) (k:=k) (m:=m) (h.hle l0) s0
 have l01:=l0.trans l1
 have h1:=h.hle l01
 have f1 : ∀ r X',Kx (R (n+7)) (pt g) (strv k) (strv m) X=some (r,X')→R (n+8) Kw [pt g,strv k,strv m] X=some (r,X'):=fun r X' hr=>by rw [R,Zik rfl];exact hr
 unfold ZdK
 by_cases hE : JZ k [m] (Js G)=0
 ·rw [hE] at e1 ⊢
  rw [if_pos rfl] at e1 ⊢
  obtain ⟨b1,b2,b3⟩:=ZtJ hE
  obtain ⟨id,hid⟩:=h.has b3
  rw [hid] at e1
  obtain ⟨S,m1,m2,m3,m4⟩:=h1.set hid
  have e2:=m1.lkp (k:=m) (z:=.agg #[]) (ok:=true)
  have l2 : HLe X1 (X1++[.cells [] 1 false false]):=.app _ _
  have hbox:=fun {K : Value→M Value}=>ZbW (k:=K) (zs:=[]) (r:=[]) (n:=0) (H:=X1) rfl rfl rfl rfl
  have h2:=h1.hle l2
  have m1:=m1.hle l2
  generalize X1++[Zc.cells [] 1 false false]=X2 at hbox l2 h2 m1
  have hmm:=m2 m
  cases hg : Zk m S with
  | some u=>
   rw [hg] at hmm e2
   have hmm : mem k m=true:=hmm.symm
   rw [if_pos hmm,if_neg (by decide)]
   refine ⟨X2,f1 _ _ ?_,h2.more (Nat.le_succ _) (fun _ _=>rfl),(l01.trans l2).stepq⟩
   unfold Kx
   simp only [cond_true] at e2
   rw [Za e0,Za e1,Za Zo,Za Zn,Za Zq,Zb,if_neg (by decide),Za e2,Za Zo,Za Zn]
   refine hbox.trans ?_
   rw [Zb,if_pos rfl]
   rfl
  | none=>
   rw [hg] at hmm e2
   have hmm : mem k m=false:=hmm.symm
   rw [if_neg (by simp [hmm]),if_pos rfl]
   simp only [cond_true] at e2
   obtain ⟨X3,e3,m5,s3,_⟩:=m1.mup (k:=m) (v:=())
   have hlen : (JB m () S).length≤c+1:=by rw [Zg5,hg];simp;omega
   refine ⟨X3,f1 _ _ ?_,h2.upd hid m5 s3 (fun q hq=>?_) hlen (Nat.le_succ _) (fun k' n'=>?_),(l01.trans l2).stepq.trans (h2.step1 hid s3)⟩
   ·unfold Kx
    rw [Za e0,Za e1,Za Zo,Za Zn,Za Zq,Zb,if_neg (by decide),Za e2,Za Zo,Za Zn]
    refine hbox.trans ?_
    rw [Zb,if_neg (by simp),Za ZzL,Za e3]
    rfl
   ·rcases Zqq hq with rfl | hq
    ·exact b2
    ·exact m4 q hq
   ·unfold ZmE
    by_cases hk : k'=k
    ·subst hk
     rw [if_pos rfl]
     by_cases hn : n'=m
     ·subst hn;rw [ZaD];simp
     ·rw [WD hn,m2];simp [hn]
    ·rw [if_neg hk];simp [hk]
 ·rw [if_neg hE,if_neg hE]
  refine ⟨X1,f1 _ _ ?_,h1.more (Nat.le_succ _) (fun _ _=>rfl),l01.stepq⟩
  unfold Kx
  rw [Za e0,Za e1,Za Zo,Za Zn,Za Zq,Zb,if_pos (by simpa using hE)]
  rfl
theorem Zud (h : Grp X g o G mem c) : ∃ v q X',R (n+3) Y5 [pt g] X=some (v,X')∧Zs X' v ((Qs (Js G)).map strv) q∧HLe X X'∧∀ j∈q,X.length≤j:=by
 have e1 : R (n+1) Q2 [.map (some o)] X=some (.func (.func JV) #[] #[pt X.length],X++[.cells [.map (some o)] 1 false false]):=by
  rw [R,Zaj rfl]
  unfold JY
  rw [Za (Zng rfl rfl _)]
  rfl
 have l1 : HLe X (X++[.cells [.map (some o)] 1 false false]):=.app _ _
 obtain ⟨v,q,X2,e2,r2,l2,o2⟩:=(h.mo.hle l1).keys (gks:=Zff) (gc:=Qx) (gk:=JV) (c:=X.length) (by decide) Zm (Nat.le_trans h.few (by decide)) (fun p hp=>Nat.le_trans (ZaI (h.ok p hp)) (by decide))
 have e2' : R (n+1) QF [.func (.func JV) #[] #[pt X.length],.func (.func Qx) #[] #[]] (X++[.cells [.map (some o)] 1 false false])=some (v,X2):=by
  rw [R,Zfo (show np QF=some (Zce Zff Qx) from rfl)]
  exact e2
 have e3 : R (n+2) K3 [.map (some o)] X=some (v,X2):=by
  rw [R,ZfO rfl]
  unfold Zax
  rw [Za e1,Za e2']
  rfl
 refine ⟨v,q,X2,?_,r2,l1.trans l2,fun j hj=>Nat.le_trans l1.len (o2 j hj)⟩
 rw [R,ZjR rfl]
 unfold Zcy
 rw [Za Zv,Za Zi,Za h.ldo,Za e3]
 rfl
theorem ZcL {l : List Tx} : (Qs l).length=l.length:=List.length_mergeSort l
def ofL (m : Tx) (K : List Tx) (mem : Mem) : List Tx:=(Qs K).filter fun k=>mem k m
theorem Zqx {K : List Tx} (hn : K.Nodup) : Is (ofL m K mem) (fun k=>k∈K∧mem k m=true):=⟨(ZjS hn).filter _,fun x=>by unfold ofL;rw [List.mem_filter,Zbv]⟩
theorem Zok {K : List Tx} : (ofL m K mem).length≤K.length:=by
 unfold ofL
 have:=List.length_filter_le (fun k=>mem k m) (Qs K)
 rwa [ZcL] at this
theorem Zyx {b1 b2 : Nat} (h : Grp X g o G mem c) (h1 : X[b1]?=some (.cells [pt g] 1 false false)) (h2 : X[b2]?=some (.cells [strv m] 1 false false)) (hk : k∈Js G) :
  ∃ X',R (n+1) Kb [strv k,pt b1,pt b2] X=some (.bool (!mem k m),X')∧HLe X X':=by
 obtain ⟨id,hid⟩:=h.has hk
 obtain ⟨S,m1,m2,m3,m4⟩:=h.set hid
 have e2 : lkp .str (.map none) false (.map (some o)) (strv k) X=some (.map (some id),X):=by rw [h.mo.lkp,hid];rfl
 have e3 : lkp .str (.agg #[]) true (.map (some id)) (strv m) X=some (.tuple #[.agg #[],.bool (mem k m)],X):=by
  rw [m1.lkp,← m2 m]
  cases Zk m S <;> rfl
 have l2 : HLe X (X++[.cells [] 1 false false]):=.app _ _
 have e4 : alc 1 (.agg #[]) X=some (pt X.length,X++[.cells [] 1 false false]):=Zcq (vs:=[]) rfl
 have a4 : (X++[Zc.cells [] 1 false false])[X.length]?=some (.cells [] 1 false false):=Zm
 have e5 : stA 0 (pt X.length) (.agg #[]) (X++[Zc.cells [] 1 false false])=some (undef,(X++[Zc.cells [] 1 false false]).set X.length (.cells [] 1 false false)):=Ja (vs:=[]) a4 rfl rfl rfl
 rw [ZxL] at e5
 have h':=h.hle l2
 have m1':=m1.hle l2
 have b1':=l2 _ _ h1
 have b2':=l2 _ _ h2
 generalize X++[Zc.cells [] 1 false false]=X2 at l2 e4 e5 h' m1' b1' b2'
 have e2' : lkp .str (.map none) false (.map (some o)) (strv k) X2=some (.map (some id),X2):=by rw [h'.mo.lkp,hid];rfl
 have e3' : lkp .str (.agg #[]) true (.map (some id)) (strv m) X2=some (.tuple #[.agg #[],.bool (mem k m)],X2):=by
  rw [m1'.lkp,← m2 m]
  cases Zk m S <;> rfl
 refine ⟨X2,?_,l2⟩
 rw [R,Ziy rfl]
 unfold ZcJ
 rw [Za (ZeB h1),Za Zv,Za Zi,Za h.ldo,Za e2,Za (ZeB h2),Za e3,Za Zo,Za Zn,Za e4,Za e3',Qn,Za (ZeB b2'),Qn,Za e2',Qn]
 refine (Za h'.ldo).trans ?_
 rw [Qn,Za (ZeB b1'),Qn,Za e5,Za ZY]
 rfl
theorem Zzz (h : Grp X g o G mem c) : ∃ v q X',R (n+4) W0 [pt g,strv m] X=some (v,X')∧Zs X' v ((ofL m (Js G) mem).map strv) q∧HLe X X'∧∀ j∈q,X.length≤j:=by
 have e1:=Zng (v:=pt g) rfl rfl X
 have l1 : HLe X (X++[Zc.cells [pt g] 1 false false]):=.app _ _
 have c1 : (X++[Zc.cells [pt g] 1 false false])[X.length]?=some (.cells [pt g] 1 false false):=Zm
 generalize X++[Zc.cells [pt g] 1 false false]=X1 at e1 l1 c1
 have e2:=Zng (v:=strv m) rfl rfl X1
 have l2 : HLe X1 (X1++[Zc.cells [strv m] 1 false false]):=.app _ _
 have c2 : (X1++[Zc.cells [strv m] 1 false false])[X1.length]?=some (.cells [strv m] 1 false false):=Zm
 generalize X1++[Zc.cells [strv m] 1 false false]=X2 at e2 l2 c2
 have c1:=l2 _ _ c1
 have h2:=h.hle (l1.trans l2)
 obtain ⟨v,q,X3,e3,r3,l3,o3⟩:=Zud (n:=n) h2
 have e3 : R (n+3) Y5 [pt g] X2=_:=e3
 have l123:=(l1.trans l2).trans l3
 have hq : ∀ j∈q,j∉YC o G∧j≠g∧j≠X.length∧j≠X1.length:=fun j hj=>by
  have:=o3 j hj
  have a1:=Z5 c1
  have a2:=Z5 c2
  have a3:=h2.glt
  exact ⟨fun hm=>by have:=(h2.isMap hm).1;omega,by omega,by omega,by omega⟩
 have hkeep : ∀ Y Y',(Grp Y g o G mem c∧Y[X.length]?=some (.cells [pt g] 1 false false)∧Y[X1.length]?=some (.cells [strv m] 1 false false))→Zw q Y q Y'→(Grp Y' g o G mem c∧Y'[X.length]?=some (.cells [pt g] 1 false false)∧Y'[X1.length]?=some (.cells [strv m] 1 false false)):=fun Y Y' ⟨a1,a2,a3⟩ hs=>
  ⟨a1.step hs (fun hm=>(hq g hm).2.1 rfl) (fun j hj hm=>(hq j hm).1 hj),hs.get a2 (fun hm=>(hq _ hm).2.2.1 rfl),hs.get a3 (fun hm=>(hq _ hm).2.2.2 rfl)⟩
 have hf : ∀ i Y,(Grp Y g o G mem c∧Y[X.length]?=some (.cells [pt g] 1 false false)∧Y[X1.length]?=some (.cells [strv m] 1 false false))→∀ s∈Qs (Js G),∃ Y',Kh (R (i+1)) (.func (.func Kb) #[] #[pt X.length,pt X1.length]) [strv s] Y=some (.bool (!mem s m),Y')∧HLe Y Y':=fun i Y ⟨a1,a2,a3⟩ s hs=>by
  obtain ⟨Y',e,l⟩:=Zyx (n:=i) a1 a2 a3 (Zbv.1 hs)
  refine ⟨Y',?_,l⟩
  have:=Zy9 (n:=i+1) (g:=Kb) (bs:=[pt X.length,pt X1.length]) (args:=[strv s])
  exact (congrFun this Y).trans e
 obtain ⟨X4,v',e4,r4,s4⟩:=Zpw (n:=n+1) (p:=fun s=>!mem s m) (f:=.func (.func Kb) #[] #[pt X.length,pt X1.length]) (Q:=fun Y=>Grp Y g o G mem c∧Y[X.length]?=some (.cells [pt g] 1 false false)∧Y[X1.length]?=some (.cells [strv m] 1 false false)) r3 (by rw [ZcL];have:=h.few;simp;omega) hkeep (hf n) (hf (n+1)) ⟨h2.hle l3,l3 _ _ c1,l3 _ _ c2⟩
 have e4 : R (n+3) QY [v,.func (.func Kb) #[] #[pt X.length,pt X1.length]] X3=_:=e4
 have hm:=l123.more s4 (fun j hj=>Nat.le_trans (l1.trans l2).len (o3 j hj))
 refine ⟨v',q,X4,?_,by simpa [ofL] using r4,hm.1,hm.2⟩
 rw [R,ZkB rfl]
 unfold Zdi
 rw [Za e1,Za e2,Za (ZeB c1),Za e3,Za e4]
 rfl
end
end Go.Proofs.YtedkoimihknggaaGreatDoor.A
namespace Go.Proofs.YtedkoimihknggaaGreatDoor.A
set_option linter.unusedVariables false
set_option linter.unusedSimpArgs false
open Go.Proofs Go.Proofs.YtedkoimihknggaaGreatDoor
section
variable {X X' : Zd} {n g o c c' : Nat} {G : Zhy} {mem mem' : Mem} {k m s t : Tx}
def ZyH (m : Tx) (mem : Mem) : Mem:=fun k n=>mem k n && !(n==m)
theorem Ya.move {α : Type} {enc : α→Value} {id id' : Nat} {mm : List (Tx × α)} (h : Ya enc X id mm) (he : X'[id']?=X[id]?) : Ya enc X' id' mm:=by
 obtain ⟨es,h1,h2⟩:=h.ex
 exact ⟨⟨es,h1,by rw [he];exact h2⟩,h.nod⟩
end
end Go.Proofs.YtedkoimihknggaaGreatDoor.A

namespace Go.Proofs.YtedkoimihknggaaGreatDoor.A
set_option linter.unusedVariables false
set_option linter.unusedSimpArgs false
open Go.Proofs Go.Proofs.YtedkoimihknggaaGreatDoor
def KD (b : UInt8) : UInt8:=if decide (65≤b.toNat) && decide (b.toNat≤90) then UInt8.ofNat (b.toNat+32) else b
def QH (s : List UInt8) : List UInt8:=s.map KD
theorem Zwf : ∀ b : UInt8,(decide (65≤b.toNat) && decide (b.toNat≤90))=true→IntKind.u8.wrap (IntKind.u8.wrap ((b.toNat : Int)+97) - 65)=(KD b).toNat:=Zgr (by decide+kernel)
section
variable {H X : Zd} {n : Nat} {s : List UInt8}
theorem ZyQ {cs : List UInt8} {k : Nat} {b : UInt8} (h : cs[k]?=some b) : (u8s cs)[k]?=some (u8v b):=by unfold u8s;rw [List.getElem?_map,h];rfl
theorem Zyj {cs : List UInt8} {k : Nat} {b : UInt8} : (u8s cs).set k (u8v b)=u8s (cs.set k b):=by unfold u8s;rw [List.map_set]
theorem Zzo : s2b (strv s) H=some (.slice (some ⟨H.length,0,none⟩) s.length s.length,H++[.cells (u8s s) 1 true false]):=by
 unfold s2b strv Zjf
 simp [ByteArray.size]
theorem Zoh {v : Value} {q : List Nat} (hs : s.length≤1000000) : ∀ (t k : Nat) (cs : List UInt8) (X : Zd),s.length - k=t→k≤s.length→cs.length=s.length→cs.take k=(s.take k).map KD→cs.drop k=s.drop k→Zs X v (u8s cs) q→
  ∃ X',Zj (c4 (KN.l1 (R n))) [v,v,iv s.length,iv k] X=some (.ext 0 [v],X')∧Zs X' v (u8s (QH s)) q∧Zw q X q X'
 | 0,k,cs,X,ht,hk,hl,h1,h2,hr=>by
  have : k=s.length:=by omega
  subst this
  have : cs=QH s:=by
   rw [List.take_of_length_le (by omega),List.take_of_length_le (by omega)] at h1
   exact h1
  subst this
  refine ⟨X,ZD ?_,hr,.refl _ _⟩
  rw [ZC]
  unfold KN.l1
  rw [Za Zg,Zb,if_neg (by simp)]
  rfl
 | t+1,k,cs,X,ht,hk,hl,h1,h2,hr=>by
  have hkl : k < s.length:=by omega
  have hlt : (k : Int) < s.length:=by omega
  have hg:=List.getElem?_eq_getElem hkl
  have htk:=List.take_succ_eq_append_getElem hkl
  have hdk:=List.drop_eq_getElem_cons hkl
  generalize s[k]=b at hg htk hdk
  have hgc : cs[k]?=some b:=by
   have h3 : (cs.drop k)[0]?=(s.drop k)[0]?:=by rw [h2]
   simpa [hg] using h3
  have hul : (u8s cs).length=s.length:=by rw [QB,hl]
  have x1:=hr.ix (i:=k) (by omega) .i64 X
  have x2:=hr.ldx (ZyQ hgc)
  have hd1 : cs.drop (k+1)=s.drop (k+1):=by rw [← List.drop_drop,h2,List.drop_drop]
  have htc : cs.take (k+1)=cs.take k++[b]:=by
   have:=List.take_succ_eq_append_getElem (show k < cs.length by omega)
   rw [this,(List.getElem?_eq_some_iff.1 hgc).2]
  have hpk : ∀ (K : Value→M Out),bind (bop .int .geq (u8v b) (Value.int .u8 65)) (fun v16x6=>bind (ZT v16x6 true 2 (bind (bop .int .leq (u8v b) (Value.int .u8 90)) fun v19x7=>ret [u8v b,v19x7])) (c2 fun _ q8_1=>bind (pick v16x6 q8_1 (Value.bool false)) K)) X=K (.bool (decide (65≤b.toNat) && decide (b.toNat≤90))) X:=fun K=>by
   have e1 : decide ((b.toNat : Int)≥65)=decide (65≤b.toNat):=by rw [decide_eq_decide];omega
   have e2 : decide ((b.toNat : Int)≤90)=decide (b.toNat≤90):=by rw [decide_eq_decide];omega
   rw [Za Qz,e1]
   cases decide (65≤b.toNat)
   ·rw [Za (g_r.trans (if_neg (by simp)))]
    simp only [List.replicate]
    rw [ZP,Za Zh]
    rfl
   ·rw [ZK,Zf,Za Q8,ZQ,ZP,Za Zh,e2]
    rfl
  cases hup : (decide (65≤b.toNat) && decide (b.toNat≤90))
  ·have hfb : KD b=b:=by unfold KD;rw [hup];rfl
   rw [hup] at hpk
   obtain ⟨X',e,r',s'⟩:=Zoh hs t (k+1) cs X (by omega) (by omega) hl (by rw [htc,h1,htk,List.map_append,List.map_singleton,hfb]) hd1 hr
   refine ⟨X',(Zr ?_).trans e,r',s'⟩
   rw [ZC]
   unfold KN.l1
   rw [Za Zg,Zb,if_pos (by simpa using hlt),Za x1,Za x2]
   refine (hpk _).trans ?_
   refine (Qf (vs:=[v,v,iv s.length,iv k]) (H':=X) ?_).trans ?_
   ·rw [Zb,if_neg (by simp)];rfl
   ·rw [ZC,Za Zt,Qh (by omega)];rfl
  ·have hfu:=Zwf b hup
   rw [hup] at hpk
   obtain ⟨X1,x3,r1,s1,_⟩:=hr.stx (i:=k) (u:=u8v (KD b)) (by omega) rfl
   rw [Zyj] at r1
   obtain ⟨X',e,r',s'⟩:=Zoh hs t (k+1) (cs.set k (KD b)) X1 (by omega) (by omega) (by simpa using hl) (by
    have h5 : k < (cs.set k (KD b)).length:=by simp;omega
    rw [List.take_succ_eq_append_getElem h5,List.take_set_of_le (Nat.le_refl _),h1,htk,List.map_append]
    simp) (by rw [List.drop_set_of_lt (by omega)];exact hd1) r1
   refine ⟨X',(Zr ?_).trans e,r',s1.trans s'⟩
   rw [ZC]
   unfold KN.l1
   rw [Za Zg,Zb,if_pos (by simpa using hlt),Za x1,Za x2]
   refine (hpk _).trans ?_
   refine (Qf (vs:=[v,v,iv s.length,iv k]) (H':=X1) ?_).trans ?_
   ·rw [Zb,if_pos rfl,Za Zt,Za Qr,hfu,Za x1,Za x3];rfl
   ·rw [ZC,Za Zt,Qh (by omega)];rfl
theorem ZyX (hs : s.length≤1000000) : ∃ H',R (n+1) Zdn [strv s] H=some (strv (QH s),H')∧HLe H H':=by
 have e1:=Zzo (s:=s) (H:=H)
 have k1 : HLe H (H++[.cells (u8s s) 1 true false]):=.app _ _
 have r1 : Zs (H++[.cells (u8s s) 1 true false]) (.slice (some ⟨H.length,0,none⟩) s.length s.length) (u8s s) [H.length]:=.inr ⟨H.length,[],true,by rw [QB];rfl,rfl,by rw [Zm,List.append_nil]⟩
 have hnl : ∀ j∈[H.length],H.length≤j:=by simp
 generalize H++[Zc.cells (u8s s) 1 true false]=H1 at e1 k1 r1
 obtain ⟨H2,e2,r2,s2⟩:=Zoh (n:=n) hs s.length 0 s H1 (by omega) (by omega) rfl rfl rfl r1
 have e2 : Zj (c4 (KN.l1 (R n))) [.slice (some ⟨H.length,0,none⟩) s.length s.length,.slice (some ⟨H.length,0,none⟩) s.length s.length,iv s.length,.int .i64 0] H1=_:=e2
 refine ⟨H2,?_,(k1.more s2 hnl).1⟩
 rw [R,ZrE rfl]
 unfold KN
 have hl : ZH (.slice (some ⟨H.length,0,none⟩) s.length s.length) H1=some (iv s.length,H1):=rfl
 rw [Za e1,Za hl,ZO e2,Zu,Jy,Za (Zd6 r2.rd)]
 rfl
def ZaX : List UInt8:=[65,66,67,68,69,70,71,72,73,74,75,76,77,78,79,80,81,82,83,84,85,86,87,88,89,90]
theorem Zt6 : ∀ k < 26,∀ b,ZaX[k]?=some b→Zfp[k]?=some (KD b):=by
 intro k hk b hb
 have : ∀ k < 26,(ZaX[k]?).map KD=Zfp[k]?:=by decide
 rw [← this k hk,hb];rfl
theorem Zws : ∀ b : UInt8,(if ZaX.contains b then KD b else b)=KD b:=Zgr (by decide+kernel)
theorem ZuS {i j : Nat} (hij : i≤j) (hj : j≤s.length) : sls (strv s) (some (iv i)) (some (iv j)) H=some (strv ((s.take j).drop i),H):=by
 have h1 : (⟨s.toArray⟩ : ByteArray).size=s.length:=by simp [ByteArray.size]
 have h2 : (⟨s.toArray⟩ : ByteArray).extract i j=⟨((s.take j).drop i).toArray⟩:=by
  apply ByteArray.ext
  rw [ByteArray.data_extract]
  simp [List.drop_take]
 have hb : ∀ k : Nat,∀ d,bnd (some (iv k)) d=some k:=fun k d=>by simp [bnd]
 unfold strv sls
 simp only [h1,hb]
 rw [if_pos ⟨hij,hj⟩,h2]
theorem Zxi {i : Nat} (hi : i≤s.length) : sls (strv s) (some (iv i)) none H=some (strv (s.drop i),H):=by
 have h1 : (⟨s.toArray⟩ : ByteArray).size=s.length:=by simp [ByteArray.size]
 have h2 : (⟨s.toArray⟩ : ByteArray).extract i s.length=⟨(s.drop i).toArray⟩:=by
  apply ByteArray.ext
  rw [ByteArray.data_extract]
  simp [List.take_of_length_le]
 have hb : ∀ k : Nat,∀ d,bnd (some (iv k)) d=some k:=fun k d=>by simp [bnd]
 have hb0 : ∀ d,bnd none d=some d:=fun _=>rfl
 unfold strv sls
 simp only [h1,hb,hb0]
 rw [if_pos ⟨hi,Nat.le_refl _⟩,h2]
theorem Zuu {k : Nat} {b : UInt8} (h : s[k]?=some b) : (s.take (k+1)).drop k=[b]:=by
 have hk:=(List.getElem?_eq_some_iff.1 h).1
 rw [List.take_succ_eq_append_getElem hk,(List.getElem?_eq_some_iff.1 h).2,List.drop_append_of_le_length (by rw [List.length_take];omega),List.drop_eq_nil_of_le (by rw [List.length_take];omega)]
 rfl
theorem Zir {i : Nat} {b : UInt8} (hi : s[i]?=some b) (hs : s.length≤1000000) : ∀ (t k : Nat) (cur : UInt8) (z1 : Value),26 - k=t→k≤26→
  Zj (c6 (Jq.l2 (R n))) [strv s,strv ZaX,z1,iv i,strv [cur],iv k] X=some (.ext 2 [strv s,strv ZaX,z1,iv i,strv [if (ZaX.drop k).contains b then KD b else cur]],X)
 | 0,k,cur,z1,ht,hk=>by
  have : k=26:=by omega
  subst this
  refine ZD ?_
  rw [Jx]
  unfold Jq.l2
  rw [Za Zg,Zb,if_neg (by decide)]
  rfl
 | t+1,k,cur,z1,ht,hk=>by
  have hkl : k < ZaX.length:=by show k < 26;omega
  have hlt : (k : Int) < 26:=by omega
  have hg:=List.getElem?_eq_getElem hkl
  have hd:=List.drop_eq_getElem_cons hkl
  generalize ZaX[k]=g at hg hd
  have x1:=WK hi .i64 X
  have x2:=WK hg .i64 X
  have hgf:=Zt6 k (by omega) g hg
  rw [hd,List.contains_cons]
  by_cases hb : b=g
  ·subst hb
   have e3 : sls (strv Zfp) (some (iv k)) (some (iv ((k+1 : Nat) : Int))) X=some (strv [KD b],X):=by
    rw [ZuS (by omega) (by show k+1≤26;omega),Zuu hgf]
   have e3 : sls (.string ⟨#[97,98,99,100,101,102,103,104,105,106,107,108,109,110,111,112,113,114,115,116,117,118,119,120,121,122]⟩) (some (iv k)) (some (iv ((k+1 : Nat) : Int))) X=some (strv [KD b],X):=e3
   refine (Zr ?_).trans ((Zir hi hs t (k+1) (KD b) z1 (by omega) (by omega)).trans (by simp))
   rw [Jx]
   unfold Jq.l2
   rw [Za Zg,Zb,if_pos (by simpa using hlt),Za x1,Za x2,Za ZA,ZgC]
   refine (Qf (vs:=[strv s,strv ZaX,z1,iv i,strv [KD b],iv k]) (H':=X) ?_).trans ?_
   ·rw [Zb,if_pos (by simp),Za Zt,Qh (by omega),Za e3];rfl
   ·rw [Jx,Za Zt,Qh (by omega)];rfl
  ·have hbf : (b==g)=false:=beq_eq_false_iff_ne.2 hb
   rw [hbf,Bool.false_or]
   refine (Zr ?_).trans (Zir hi hs t (k+1) cur z1 (by omega) (by omega))
   rw [Jx]
   unfold Jq.l2
   rw [Za Zg,Zb,if_pos (by simpa using hlt),Za x1,Za x2,Za ZA,ZgC,hbf]
   refine (Qf (vs:=[strv s,strv ZaX,z1,iv i,strv [cur],iv k]) (H':=X) ?_).trans ?_
   ·rw [Zb,if_neg (by simp)];rfl
   ·rw [Jx,Za Zt,Qh (by omega)];rfl
theorem ZoP (hs : s.length≤1000000) : ∀ (t k : Nat),s.length - k=t→k≤s.length→
  Zj (c4 (Jq.l1 (R n))) [strv s,strv ZaX,strv ((s.take k).map KD),iv k] X=some (.ext 0 [strv (QH s)],X)
 | 0,k,ht,hk=>by
  have : k=s.length:=by omega
  subst this
  rw [List.take_length]
  refine ZD ?_
  rw [ZC]
  unfold Jq.l1
  rw [Za ZM,Za Zg,Zb,if_neg (by simp)]
  rfl
 | t+1,k,ht,hk=>by
  have hkl : k < s.length:=by omega
  have hlt : (k : Int) < s.length:=by omega
  have hg:=List.getElem?_eq_getElem hkl
  have htk:=List.take_succ_eq_append_getElem hkl
  generalize s[k]=b at hg htk
  have e1 : sls (strv s) (some (iv k)) (some (iv ((k+1 : Nat) : Int))) X=some (strv [b],X):=by rw [ZuS (by omega) (by omega),Zuu hg]
  have e2:=Zir (n:=n) (X:=X) hg hs 26 0 b (strv ((s.take k).map KD)) rfl (by omega)
  rw [List.drop_zero,Zws] at e2
  have e2 : Zj (c6 (Jq.l2 (R n))) [strv s,strv ZaX,strv ((s.take k).map KD),iv k,strv [b],.int .i64 0] X=_:=e2
  have e3:=QD (a:=(s.take k).map KD) (b:=[KD b]) (H:=X) (by simp;omega)
  refine (Zr ?_).trans (ZoP hs t (k+1) (by omega) (by omega))
  rw [ZC]
  unfold Jq.l1
  rw [Za ZM,Za Zg,Zb,if_pos (by simpa using hlt),Za Zt,Qh (by omega),Za e1,ZO e2,Zu,ZU,Za e3,Za Zt,Qh (by omega),htk,List.map_append]
  rfl
theorem ZvF (hs : s.length≤1000000) : R (n+1) Zcf [strv s] H=some (strv (QH s),H):=by
 have e:=ZoP (n:=n) (X:=H) hs s.length 0 (by omega) (by omega)
 have e : Zj (c4 (Jq.l1 (R n))) [strv s,.string ⟨#[65,66,67,68,69,70,71,72,73,74,75,76,77,78,79,80,81,82,83,84,85,86,87,88,89,90]⟩,.string ⟨#[]⟩,.int .i64 0] H=_:=e
 rw [R,Zo5 rfl]
 unfold Jq
 rw [ZO e,Zu]
 rfl
end
end Go.Proofs.YtedkoimihknggaaGreatDoor.A
namespace Go.Proofs.YtedkoimihknggaaGreatDoor.A
set_option linter.unusedVariables false
set_option linter.unusedSimpArgs false
open Go.Proofs Go.Proofs.YtedkoimihknggaaGreatDoor
def Qp (c : UInt8) : List UInt8→List (List UInt8)
 | []=>[[]]
 | b :: l=>if b=c then [] :: Qp c l else match Qp c l with
  | h :: t=>(b :: h) :: t
  | []=>[[b]]
theorem Zet {c : UInt8} : ∀ {s : List UInt8},Qp c s≠[]
 | []=>by simp [Qp]
 | b :: s=>by
  unfold Qp
  split
  ·simp
  ·split <;> simp
theorem Zmo {c : UInt8} : ∀ {s : List UInt8},c∉s→Qp c s=[s]
 | [],_=>rfl
 | b :: s,h=>by
  simp only [List.mem_cons,not_or] at h
  unfold Qp
  rw [if_neg (Ne.symm h.1),Zmo h.2]
theorem ZiN {c : UInt8} : ∀ {s : List UInt8},c∈s→Qp c s=s.takeWhile (· !=c) :: Qp c (s.drop ((s.takeWhile (· !=c)).length+1))
 | [],h=>by cases h
 | b :: s,h=>by
  rw [show Qp c (b :: s)=(if b=c then [] :: Qp c s else match Qp c s with | h :: t=>(b :: h) :: t | []=>[[b]]) from rfl]
  by_cases hb : b=c
  ·subst hb
   rw [if_pos rfl]
   simp
  ·rw [if_neg hb]
   have hm : c∈s:=by
    rcases List.mem_cons.1 h with h | h
    ·exact absurd h.symm hb
    ·exact h
   rw [ZiN hm]
   have h2 : (b !=c)=true:=by simp [hb]
   simp [List.takeWhile_cons,h2]
theorem Zc7 {c : UInt8} : ∀ {s : List UInt8},(Qp c s).length=s.count c+1
 | []=>rfl
 | b :: s=>by
  have ih:=Zc7 (c:=c) (s:=s)
  unfold Qp
  by_cases hb : b=c
  ·subst hb
   rw [if_pos rfl,List.length_cons,ih,List.count_cons_self]
  ·rw [if_neg hb,List.count_cons_of_ne (by simpa using hb)]
   cases h : Qp c s with
   | nil=>exact absurd h Zet
   | cons a t=>rw [h] at ih;simpa using ih
theorem Zwe {c : UInt8} : ∀ {s : List UInt8},c∈s→s.count c=(s.drop ((s.takeWhile (· !=c)).length+1)).count c+1:=by
 intro s h
 have h1:=Zc7 (c:=c) (s:=s)
 rw [ZiN h,List.length_cons,Zc7] at h1
 omega
def Zgl (l : List UInt8) : Bool:=!(l==[]) && l.all KR
def Wl (f : List UInt8) : List UInt8:=if 64∈f then f.drop ((f.takeWhile (· !=64)).length+1) else []
def okM (f : List UInt8) : Bool:=decide (64∈f) && (ZB (f.takeWhile (· !=64)) && (decide (2≤(Qp 46 (Wl f)).length) && (Qp 46 (Wl f)).all Zgl))
def Wk (s : List UInt8) : Bool:=decide (s.length≤20) && okM (QH s)
def ZaP : List UInt8→Nat→Nat→Option (Nat × Nat)
 | [],st,lg=>some (st,lg)
 | c :: l,st,lg=>if c=46 then (if lg=0 then none else ZaP l (st+1) 0) else if KR c then ZaP l st (lg+1) else none
def ZfI (l : List UInt8) (st lg : Nat) : Bool:=match ZaP l st lg with
 | some (a,b)=>decide (a≠0) && decide (b≠0)
 | none=>false
def ZdW (lg : Nat) : List (List UInt8)→Bool
 | h :: t=>(h.all KR && decide (lg+h.length≠0)) && t.all Zgl
 | []=>false
theorem Zn9 : ∀ (l : List UInt8) (st lg : Nat),ZfI l st lg=(decide (st+(Qp 46 l).length≠1) && ZdW lg (Qp 46 l))
 | [],st,lg=>by simp [ZfI,ZaP,Qp,ZdW]
 | c :: l,st,lg=>by
  unfold ZfI ZaP Qp
  by_cases hc : c=46
  ·rw [if_pos hc,if_pos hc]
   by_cases hl : lg=0
   ·simp [hl,ZdW]
   ·rw [if_neg hl]
    have ih:=Zn9 l (st+1) 0
    unfold ZfI at ih
    rw [ih]
    have hne:=Zet (c:=46) (s:=l)
    cases hsp : Qp 46 l with
    | nil=>exact absurd hsp hne
    | cons h t=>
     have h1 : decide (st+1+(h :: t).length≠1)=true:=by simp;omega
     have h2 : decide (st+([] :: h :: t).length≠1)=true:=by simp;omega
     rw [h1,h2]
     simp only [ZdW,List.all_nil,List.all_cons,Zgl,List.length_nil,Nat.zero_add,Nat.add_zero,Bool.true_and]
     have h3 : decide (lg≠0)=true:=by simp [hl]
     rw [h3,Bool.true_and]
     have h4 : (!(h==[]))=decide (h.length≠0):=by cases h <;> simp
     rw [h4,Bool.and_comm (h.all KR)]
  ·rw [if_neg hc,if_neg hc]
   cases hsp : Qp 46 l with
   | nil=>exact absurd hsp Zet
   | cons h t=>
    cases ha : KR c
    ·simp [ZdW,ha]
    ·have ih:=Zn9 l st (lg+1)
     unfold ZfI at ih
     simp only [if_true]
     rw [ih,hsp]
     have e : ∀ x : Nat,lg+1+x=lg+(x+1):=fun x=>by omega
     simp [ZdW,ha,e]
theorem Zv2 {l : List UInt8} : ZfI l 0 0=(decide (2≤(Qp 46 l).length) && (Qp 46 l).all Zgl):=by
 rw [Zn9]
 cases hsp : Qp 46 l with
 | nil=>exact absurd hsp Zet
 | cons h t=>
  have h1 : decide (0+(h :: t).length≠1)=decide (2≤(h :: t).length):=by
   rw [decide_eq_decide]
   have : (h :: t).length=t.length+1:=rfl
   omega
  rw [h1]
  have h4 : (!(h==[]))=decide (h.length≠0):=by cases h <;> simp
  simp only [ZdW,List.all_cons,Zgl,Nat.zero_add,h4]
  rw [Bool.and_comm (h.all KR)]
section
variable {H X : Zd} {n : Nat} {s : List UInt8} {c : UInt8}
theorem Zxx {args : List Value} : run Tryz.prog np lvs (n+1) J6 args=Zg1 args:=Zfo (show np J6=some Zg1 from rfl)
theorem Zxy {args : List Value} : run Tryz.prog np lvs (n+1) YE args=Zhp args:=Zfo (show np YE=some Zhp from rfl)
theorem ZqO : R (n+3) Q1 [strv s,strv [c]] H=some (iv (Go.Lib.indexByte s c),H):=by
 have e1 : run Tryz.prog np lvs (n+2) Jz [strv s,u8v c] H=some (iv (Go.Lib.indexByte s c),H):=by
  have e0 : run Tryz.prog np lvs (n+1) J6 [strv s,u8v c] H=some (iv (Go.Lib.indexByte s c),H):=by rw [Zxx];exact Zyw
  rw [ZcK rfl]
  unfold Kt
  rw [Za e0]
  rfl
 have q0 : bop .int .eql (iv [c].length) (.int .i64 0) H=some (.bool false,H):=by rw [ZA];rfl
 have q1 : bop .int .eql (iv [c].length) (.int .i64 1) H=some (.bool true,H):=by rw [ZA];rfl
 have x1 : ixs (strv [c]) (.int .i64 0) H=some (u8v c,H):=WK (s:=[c]) (i:=0) rfl .i64 H
 rw [R,ZdR rfl]
 unfold J7
 rw [Za ZM,Za q0,ZK,Zf,Za Zd1,ZQ,ZX,Za Zh]
 simp only [cond_false]
 by_cases h : s=[c]
 ·subst h
  rw [Zb,if_pos (by simp)]
  unfold Go.Lib.indexByte
  simp [ret]
 ·rw [Zb,if_neg (by simp;exact fun e=>h e.symm),Za q1,Zb,if_pos rfl,Za x1,Za e1]
  rfl
theorem ZwO : R (n+4) Ws [strv s,strv [c]] H=some (iv (Go.Lib.indexByte s c),H):=by
 have e1 : run Tryz.prog np lvs (n+3) Q1 [strv s,strv [c]] H=_:=ZqO
 rw [R,ZlA rfl]
 unfold ZdP
 rw [Za e1]
 rfl
theorem ZxY : R (n+2) Zav [strv s,strv [c]] H=some (iv (s.count c),H):=by
 have e0 : run Tryz.prog np lvs (n+1) YE [strv s,u8v c] H=some (iv (s.count c),H):=by rw [Zxy];exact Zza
 have q0 : bop .int .eql (iv [c].length) (.int .i64 0) H=some (.bool false,H):=by rw [ZA];rfl
 have q1 : bop .int .eql (iv [c].length) (.int .i64 1) H=some (.bool true,H):=by rw [ZA];rfl
 have x1 : ixs (strv [c]) (.int .i64 0) H=some (u8v c,H):=WK (s:=[c]) (i:=0) rfl .i64 H
 rw [R,Zlg rfl]
 unfold Zaq
 rw [Za ZM,Za q0,Zb,if_neg (by simp),Za ZM,Za q1,Zb,if_pos rfl,Za x1,Za e0]
 rfl
theorem Zmb {s : List UInt8} {c : UInt8} (h : c∈s) : (s.takeWhile (· !=c)).length < s.length:=by
 rcases Nat.lt_or_ge (s.takeWhile (· !=c)).length s.length with h1 | h1
 ·exact h1
 ·have h2 : s.takeWhile (· !=c)=s:=by
   have:=List.takeWhile_prefix (p:=(· !=c)) (l:=s)
   exact this.eq_of_length (by have:=this.length_le;omega)
  have h3:=List.all_eq_true.1 (List.all_takeWhile (p:=(· !=c)) (l:=s)) c (by rw [h2];exact h)
  simp at h3
theorem ZnG {s : List UInt8} {p : UInt8→Bool} : s.take (s.takeWhile p).length=s.takeWhile p:=
 (List.prefix_iff_eq_take.1 (List.takeWhile_prefix p)).symm
theorem ZzE (hs : s.length≤1000000) : R (n+5) WG [strv s,strv [c]] H=some (if c∈s then .tuple #[strv (s.takeWhile (· !=c)),strv (s.drop ((s.takeWhile (· !=c)).length+1)),.bool true] else .tuple #[strv s,strv [],.bool false],H):=by
 have e1 : run Tryz.prog np lvs (n+3) Q1 [strv s,strv [c]] H=_:=ZqO
 have e2 : run Tryz.prog np lvs (n+4) Kr [strv s,strv [c]] H=some (if c∈s then .tuple #[strv (s.takeWhile (· !=c)),strv (s.drop ((s.takeWhile (· !=c)).length+1)),.bool true] else .tuple #[strv s,strv [],.bool false],H):=by
  rw [ZeD rfl]
  unfold WB
  rw [Za e1,ZdV,Za Qz,Zb]
  by_cases h : c∈s
  ·have hl:=Zmb h
   have w : IntKind.i64.wrap (((s.takeWhile (· !=c)).length : Int)+(([c] : List UInt8).length : Nat))=(((s.takeWhile (· !=c)).length+1 : Nat) : Int):=Qh (by omega)
   rw [if_pos h,if_pos (by simp),Za (Zmn (by omega)),ZnG,Za ZM,Za Zt,w,Za (Zxi (by omega)),if_pos h]
   rfl
  ·rw [if_neg h,if_neg (by decide),if_neg h]
   rfl
 rw [R,Zns rfl]
 unfold Zfh
 rw [Za e2]
 by_cases h : c∈s
 ·rw [if_pos h];rfl
 ·rw [if_neg h];rfl
theorem ZrG {v : Value} {q : List Nat} {N : Nat} (hN : N≤1000001) : ∀ (t i : Nat) (s : List UInt8) (cs : List (List UInt8)) (X : Zd),N - 1 - i=t→i < N→s.length≤1000000→s.count c+1+i=N→cs.length=N→Zs X v (cs.map strv) q→
  ∃ (X' : Zd) (s' : List UInt8) (cs' : List (List UInt8)),Zj (c6 (JL.l1 (R (n+4)))) [strv s,strv [c],iv 0,iv ((N - 1 : Nat) : Int),v,iv i] X=some (.ext 0 [strv s',v,iv ((N - 1 : Nat) : Int)],X')∧Zs X' v (cs'.map strv) q∧cs'.length=N∧cs'.take (N - 1)++[s']=cs.take i++Qp c s∧Zw q X q X'
 | 0,i,s,cs,X,ht,hi,hs,hc,hl,hr=>by
  have hi2 : i=N - 1:=by omega
  subst hi2
  have hcs : c∉s:=by
   intro h
   have:=List.count_pos_iff.2 h
   omega
  refine ⟨X,s,cs,ZD ?_,hr,hl,by rw [Zmo hcs],.refl _ _⟩
  rw [Jx]
  unfold JL.l1
  rw [Za Zg,Zb,if_neg (by simp)]
  rfl
 | t+1,i,s,cs,X,ht,hi,hs,hc,hl,hr=>by
  have hlt : (i : Int) < ((N - 1 : Nat) : Int):=by omega
  have hcs : c∈s:=List.count_pos_iff.1 (by omega)
  have htl:=Zmb hcs
  have hct:=Zwe hcs
  have e1 : R (n+4) Ws [strv s,strv [c]] X=_:=ZwO
  rw [ZdV,if_pos hcs] at e1
  have w0 : IntKind.i64.wrap (((s.takeWhile (· !=c)).length : Int)+0)=((s.takeWhile (· !=c)).length : Int):=by rw [Int.add_zero];exact w64 (by omega) (by omega)
  have w : IntKind.i64.wrap (((s.takeWhile (· !=c)).length : Int)+(([c] : List UInt8).length : Nat))=(((s.takeWhile (· !=c)).length+1 : Nat) : Int):=Qh (by omega)
  have x1:=hr.ix (i:=i) (by simp;omega) .i64 X
  obtain ⟨X1,x2,r1,s1,_⟩:=hr.stx (i:=i) (u:=strv (s.takeWhile (· !=c))) (by simp;omega) rfl
  rw [show (cs.map strv).set i (strv (s.takeWhile (· !=c)))=(cs.set i (s.takeWhile (· !=c))).map strv from by rw [List.map_set]] at r1
  obtain ⟨X',s',cs',e2,r2,l2,h2,s2⟩:=ZrG hN t (i+1) (s.drop ((s.takeWhile (· !=c)).length+1)) (cs.set i (s.takeWhile (· !=c))) X1 (by omega) (by omega) (by simp;omega) (by omega) (by simpa using hl) r1
  refine ⟨X',s',cs',(Zr ?_).trans e2,r2,l2,?_,s1.trans s2⟩
  ·have q1 : bop .int .lss (iv ((s.takeWhile (· !=c)).length : Nat)) (.int .i64 0) X=some (.bool false,X):=by rw [Zg,decide_eq_false (by omega)]
   rw [Jx]
   unfold JL.l1
   rw [Za Zg,Zb,if_pos (by simpa using hlt),Za e1,Za q1,Zb,if_neg (by simp),Za Zt,w0,Za (Zmn (by omega)),ZnG,Za x1,Za x2,Za ZM,Za Zt,w,Za (Zxi (by omega)),Za Zt,Qh (by omega)]
   rfl
  ·have h5 : i < (cs.set i (s.takeWhile (· !=c))).length:=by simp;omega
   rw [h2,ZiN hcs,List.take_succ_eq_append_getElem h5,List.take_set_of_le (Nat.le_refl _)]
   simp
theorem ZxI (hs : s.length≤1000000) : ∃ X' v q,R (n+6) Zas [strv s,strv [c]] X=some (v,X')∧Zs X' v ((Qp c s).map strv) q∧HLe X X':=by
 have hcl : s.count c≤s.length:=List.count_le_length
 have e0 : run Tryz.prog np lvs (n+4) Zav [strv s,strv [c]] X=_:=ZxY (n:=n+2)
 have w1 : IntKind.i64.wrap ((s.count c : Int)+1)=((s.count c+1 : Nat) : Int):=Qh (by omega)
 have w2 : IntKind.i64.wrap ((s.length : Int)+1)=((s.length+1 : Nat) : Int):=Qh (by omega)
 have q0 : bop .int .eql (.int .i64 (-1)) (.int .i64 0) X=some (.bool false,X):=by rw [ZA];rfl
 have q1 : bop .str .eql (strv [c]) (.string ⟨#[]⟩) X=some (.bool false,X):=Zd1 (b:=[])
 have q2 : bop .int .lss (.int .i64 (-1)) (.int .i64 0) X=some (.bool true,X):=by rw [Zg];rfl
 have hm : mxi false (iv ((s.count c+1 : Nat) : Int)) (iv ((s.length+1 : Nat) : Int)) X=some (iv ((s.count c+1 : Nat) : Int),X):=by rw [Ys,if_neg (by omega)]
 have e1:=Zzn (k:=s.count c+1) (b:=16) (z:=.string ⟨#[]⟩) (H:=X) rfl (by omega) (by omega)
 have k1 : HLe X (X++[.cells (List.replicate (s.count c+1) (Value.string ⟨#[]⟩)) 1 false false]):=.app _ _
 have r1 : Zs (X++[.cells (List.replicate (s.count c+1) (Value.string ⟨#[]⟩)) 1 false false]) (.slice (some ⟨X.length,0,none⟩) (s.count c+1) (s.count c+1)) ((List.replicate (s.count c+1) ([] : List UInt8)).map strv) [X.length]:=by
  rw [List.map_replicate]
  exact Zs.new Zm
 have ho : ∀ j∈[X.length],X.length≤j:=by simp
 generalize X++[Zc.cells (List.replicate (s.count c+1) (Value.string ⟨#[]⟩)) 1 false false]=X1 at e1 k1 r1
 generalize hv : Value.slice (some ⟨X.length,0,none⟩) (s.count c+1) (s.count c+1)=v at e1 r1
 have w3 : IntKind.i64.wrap (((s.count c+1 : Nat) : Int) - 1)=((s.count c+1 - 1 : Nat) : Int):=Zj5 (by omega) (by omega)
 obtain ⟨X2,s',cs',e2,r2,l2,h2,s2⟩:=ZrG (n:=n) (c:=c) (N:=s.count c+1) (by omega) (s.count c+1 - 1 - 0) 0 s _ X1 rfl (by omega) hs (by omega) (by simp) r1
 have e2 : Zj (c6 (JL.l1 (R (n+4)))) [strv s,strv [c],.int .i64 0,iv ((s.count c+1 - 1 : Nat) : Int),v,.int .i64 0] X1=_:=e2
 have x1:=r2.ix (i:=s.count c+1 - 1) (by simp;omega) .i64 X2
 obtain ⟨X3,x2,r3,s3,_⟩:=r2.stx (i:=s.count c+1 - 1) (u:=strv s') (by simp;omega) rfl
 have hfin : (cs'.set (s.count c+1 - 1) s')=Qp c s:=by
  have h6 : s.count c+1 - 1 < cs'.length:=by omega
  rw [← List.take_append_drop (s.count c+1 - 1) (cs'.set (s.count c+1 - 1) s'),List.take_set_of_le (Nat.le_refl _),List.drop_set]
  rw [if_neg (by omega),Nat.sub_self]
  have hd : (cs'.drop (s.count c+1 - 1)).length=1:=by simp;omega
  obtain ⟨a,ha⟩:=List.length_eq_one_iff.1 hd
  rw [ha,List.set_cons_zero,h2]
  rfl
 rw [show (cs'.map strv).set (s.count c+1 - 1) (strv s')=(cs'.set (s.count c+1 - 1) s').map strv from by rw [List.map_set],hfin] at r3
 have hlen : ((Qp c s).map strv).length=s.count c+1:=by rw [List.length_map,Zc7]
 have x3 : ∃ v',slv 1 v none (some (iv ((s.count c+1 : Nat) : Int))) none X3=some (v',X3)∧Zs X3 v' ((Qp c s).map strv) [X.length]:=by
  rcases r3 with ⟨h,_,_⟩ | ⟨sid,rest,g,h1,h3,h4⟩
  ·rw [h] at hlen;simp at hlen
  ·rw [hlen] at h1
   refine ⟨.slice (some ⟨sid,0,none⟩) (s.count c+1) (s.count c+1+rest.length),?_,.inr ⟨sid,rest,g,by rw [hlen],h3,h4⟩⟩
   have b1 : bnd (some (iv ((s.count c+1 : Nat) : Int))) (s.count c+1)=some (s.count c+1):=by simp [bnd];omega
   have b2 : ∀ d,bnd none d=some d:=fun _=>rfl
   rw [h1]
   simp only [slv,h4,b1,b2]
   rw [if_pos ⟨trivial,by omega,by omega,Nat.le_refl _⟩,if_neg (by omega)]
   simp
 obtain ⟨v',x3,r4⟩:=x3
 have w4 : IntKind.i64.wrap (((s.count c+1 - 1 : Nat) : Int)+1)=((s.count c+1 : Nat) : Int):=by rw [Qh (by omega)];congr 1
 have e3 : run Tryz.prog np lvs (n+5) Zan [strv s,strv [c],.int .i64 0,.int .i64 (-1)] X=some (v',X3):=by
  rw [Zip rfl]
  unfold JL
  rw [Za q0,Zb,if_neg (by simp),Za q1,Zb,if_neg (by simp),Za q2]
  refine (Qf (vs:=[strv s,strv [c],.int .i64 0,iv ((s.count c+1 : Nat) : Int)]) (H':=X) ?_).trans ?_
  ·rw [Zb,if_pos rfl,Za e0,Za Zt,w1];rfl
  ·rw [ZC,Za ZM,Za Zt,w2,Za hm,Za e1,Za Qr,w3]
   refine (Qf (vs:=[strv s',v,iv ((s.count c+1 - 1 : Nat) : Int)]) (H':=X2) ?_).trans ?_
   ·rw [ZO e2,Zu,ZX];rfl
   ·rw [ZX,Za x1,Za x2,Za Zt,w4,Za x3];rfl
 refine ⟨X3,v',[X.length],?_,r4,(k1.more (s2.trans s3) ho).1⟩
 rw [R,Zlm rfl]
 unfold ZdL
 rw [Za e3]
 rfl
end
end Go.Proofs.YtedkoimihknggaaGreatDoor.A
namespace Go.Proofs.YtedkoimihknggaaGreatDoor.A
set_option linter.unusedVariables false
set_option linter.unusedSimpArgs false
open Go.Proofs Go.Proofs.YtedkoimihknggaaGreatDoor
section
variable {H X : Zd} {n : Nat} {s f : List UInt8} {c : UInt8}
theorem Zyh {b : UInt8} : R (n+2) Zco [u8v b] H=some (.bool (KR b),H):=by
 have e1 : run Tryz.prog np lvs (n+1) YA [u8v b] H=some (.bool (Ky b),H):=Zhs
 have e2 : run Tryz.prog np lvs (n+1) YV [u8v b] H=some (.bool (ZbF b),H):=Zj6
 rw [R,ZpJ rfl]
 unfold KR Zgi
 rw [Za e1]
 cases Ky b
 ·rw [ZK,Zf,Za e2,ZQ,ZP,Za Zh]
  rfl
 ·rw [Za (g_r.trans (if_neg (by simp)))]
  simp only [List.replicate]
  rw [ZP,Za Zh]
  rfl
theorem Zti (hs : s.length≤1000000000) : R (n+3) KB [strv s,.func (.func Zco) #[] #[]] H=some (.bool (s.all KR),H):=
 Ztn (fun b H=>by rw [Zp2];exact Zyh) hs
theorem Zva {v : Value} {q : List Nat} {ls : List (List UInt8)} (hl : ls.length≤1000) (hb : ∀ l∈ls,l.length≤1000000) (hr : Zs X v (ls.map strv) q) : ∀ (t k : Nat),ls.length - k=t→k≤ls.length→
  Zj (c4 (Y0.l1 (R (n+3)))) [strv f,v,iv ls.length,iv k] X=some (if (ls.drop k).all Zgl then .ext 0 [strv f] else .ret (.tuple #[strv [],iv 11]),X)
 | 0,k,ht,hk=>by
  have : k=ls.length:=by omega
  subst this
  rw [List.drop_length]
  refine ZD ?_
  rw [ZC]
  unfold Y0.l1
  rw [Za Zg,Zb,if_neg (by simp)]
  rfl
 | t+1,k,ht,hk=>by
  have hkl : k < ls.length:=by omega
  have hlt : (k : Int) < ls.length:=by omega
  have hg:=List.getElem?_eq_getElem hkl
  have hm:=List.getElem_mem hkl
  have hd:=List.drop_eq_getElem_cons hkl
  generalize ls[k]=l at hg hd hm
  have x1:=hr.ix (i:=k) (by simpa using hkl) .i64 X
  have x2:=hr.ldx (J9 hg)
  have e1 : R (n+3) KB [strv l,.func (.func Zco) #[] #[]] X=some (.bool (l.all KR),X):=Zti (Nat.le_trans (hb l hm) (by decide))
  have ih:=Zva hl hb hr t (k+1) (by omega) (by omega)
  have q1 : bop .str .eql (strv l) (.string ⟨#[]⟩) X=some (.bool (l==[]),X):=Zd1 (b:=[])
  have hb1 : c4 (Y0.l1 (R (n+3))) [strv f,v,iv ls.length,iv k] X=some (if Zgl l then .nrm [strv f,v,iv ls.length,iv ((k+1 : Nat) : Int)] else .ret (.tuple #[strv [],iv 11]),X):=by
   rw [ZC]
   unfold Y0.l1 Zgl
   rw [Za Zg,Zb,if_pos (by simpa using hlt),Za x1,Za x2,Za q1]
   cases l==[]
   ·rw [ZK,Zf,Za e1,Zf,Za ZY,ZQ,ZX,Za Zh]
    simp only [cond_false]
    cases l.all KR
    ·rw [Zb,if_pos (by rfl)];rfl
    ·rw [Zb,if_neg (by simp),Za Zt,Qh (by omega)];rfl
   ·rw [Za (g_r.trans (if_neg (by simp)))]
    simp only [List.replicate]
    rw [ZX,Za Zh]
    simp only [cond_true]
    rw [Zb,if_pos rfl]
    rfl
  rw [hd,List.all_cons]
  cases hlb : Zgl l
  ·rw [hlb] at hb1
   exact Qc hb1
  ·rw [hlb] at hb1
   rw [Bool.true_and]
   exact (Zr hb1).trans ih
theorem Zd5 {c : UInt8} : ∀ {s : List UInt8},∀ l∈Qp c s,l.length≤s.length
 | [],l,h=>by simp [Qp] at h;simp [h]
 | b :: s,l,h=>by
  rw [show Qp c (b :: s)=(if b=c then [] :: Qp c s else match Qp c s with | h :: t=>(b :: h) :: t | []=>[[b]]) from rfl] at h
  split at h
  ·rcases List.mem_cons.1 h with rfl | h
   ·simp
   ·have:=Zd5 l h
    simp;omega
  ·cases hsp : Qp c s with
   | nil=>exact absurd hsp Zet
   | cons a t=>
    rw [hsp] at h
    rcases List.mem_cons.1 h with rfl | h
    ·have:=Zd5 (c:=c) (s:=s) a (by rw [hsp];simp)
     simpa using this
    ·have:=Zd5 (c:=c) (s:=s) l (by rw [hsp];simp [h])
     simp;omega
theorem ZjN : (QH s).length=s.length:=by simp [QH]
theorem Zug : ∃ X',R (n+8) ZbO [strv s] X=some (.tuple #[strv (if Wk s then QH s else []),iv (if Wk s then 0 else 11)],X')∧HLe X X':=by
 have f1 : ∀ r X',Y0 (R (n+7)) (strv s) X=some (r,X')→R (n+8) ZbO [strv s] X=some (r,X'):=fun r X' hr=>by rw [R,Zp5 rfl];exact hr
 unfold Wk
 by_cases h20 : s.length≤20
 ·have q1 : bop .int .gtr (iv s.length) (.int .i64 20) X=some (.bool false,X):=by rw [ZF,decide_eq_false (by omega)]
  obtain ⟨X1,e1,k1⟩:=ZyX (n:=n+6) (s:=s) (H:=X) (by omega)
  have e1 : R (n+7) Zdn [strv s] X=_:=e1
  have hfl : (QH s).length≤20:=by rw [ZjN];exact h20
  generalize QH s=f at e1 hfl
  have e2 : R (n+7) WG [strv f,strv [64]] X1=_:=ZzE (n:=n+2) (c:=64) (by omega)
  obtain ⟨loc,e2'⟩ : ∃ loc : List UInt8,R (n+7) WG [strv f,strv [64]] X1=some (.tuple #[strv loc,strv (Wl f),.bool (decide (64∈f))],X1)∧(64∈f→loc=f.takeWhile (· !=64)):=by
   unfold Wl
   by_cases h : 64∈f
   ·rw [if_pos h] at e2
    exact ⟨_,by rw [e2,if_pos h,decide_eq_true h],fun _=>rfl⟩
   ·rw [if_neg h] at e2
    exact ⟨_,by rw [e2,if_neg h,decide_eq_false h],fun h2=>absurd h2 h⟩
  obtain ⟨e2',hloc⟩:=e2'
  have hdl : (Wl f).length≤20:=by unfold Wl;split <;> simp;omega
  obtain ⟨X2,v,q,e3,r3,k3⟩:=ZxI (n:=n+1) (c:=46) (s:=Wl f) (X:=X1) (by omega)
  have e3 : R (n+7) Zas [strv (Wl f),.string ⟨#[46]⟩] X1=_:=e3
  have e2'' : R (n+7) WG [strv f,.string ⟨#[64]⟩] X1=_:=e2'
  have hcl : (Wl f).count 46≤(Wl f).length:=List.count_le_length
  have hsl:=Zc7 (c:=46) (s:=Wl f)
  have hl : ZH v X2=some (iv (Qp 46 (Wl f)).length,X2):=by have:=r3.rd.len (H':=X2);rwa [List.length_map] at this
  have e4 : R (n+7) WC [strv loc] X2=some (.bool (ZB loc),X2):=Zo0 (n:=n+3)
  have e5:=Zva (n:=n+4) (f:=f) (ls:=Qp 46 (Wl f)) (by omega) (fun l h=>Nat.le_trans (Zd5 l h) (by omega)) r3 (Qp 46 (Wl f)).length 0 (by omega) (by omega)
  rw [List.drop_zero] at e5
  have e5 : Zj (c4 (Y0.l1 (R (n+7)))) [strv f,v,iv (Qp 46 (Wl f)).length,.int .i64 0] X2=_:=e5
  refine ⟨X2,f1 _ _ ?_,k1.trans k3⟩
  unfold Y0
  rw [Za ZM,Za q1,Zb,if_neg (by simp),Za e1,Za e2'']
  have t0 : Zz (.tuple #[strv loc,strv (Wl f),.bool (decide (64∈f))]) 0 X1=some (strv loc,X1):=rfl
  have t1 : Zz (.tuple #[strv loc,strv (Wl f),.bool (decide (64∈f))]) 1 X1=some (strv (Wl f),X1):=rfl
  have t2 : Zz (.tuple #[strv loc,strv (Wl f),.bool (decide (64∈f))]) 2 X1=some (.bool (decide (64∈f)),X1):=rfl
  rw [Za t0,Za t1,Za t2,Za e3,Za ZY]
  unfold okM
  rw [decide_eq_true h20]
  by_cases h : 64∈f
  ·rw [decide_eq_true h,← hloc h]
   simp only [Bool.not_true,Bool.true_and]
   rw [ZK,Zf,Za e4,Zf,Za ZY,ZQ,ZX,Za Zh]
   simp only [cond_false]
   cases ZB loc
   ·simp only [Bool.not_false,Bool.false_and]
    rw [Za (g_r.trans (if_neg (by simp)))]
    simp only [List.replicate]
    rw [ZX,Za Zh]
    simp only [cond_true]
    rw [Zb,if_pos rfl]
    rfl
   ·simp only [Bool.not_true,Bool.true_and]
    rw [ZK,Zf,Za hl,Zf,Za Zg,ZQ,ZX,Za Zh]
    simp only [cond_false]
    by_cases h2 : 2≤(Qp 46 (Wl f)).length
    ·rw [decide_eq_false (by omega),Zb,if_neg (by simp),Za hl,decide_eq_true h2,Bool.true_and]
     cases ha : (Qp 46 (Wl f)).all Zgl
     ·rw [ha] at e5
      rw [QI e5]
      rfl
     ·rw [ha] at e5
      rw [ZO e5,Zu]
      rfl
    ·rw [decide_eq_true (by omega),Zb,if_pos rfl,decide_eq_false h2]
     rfl
  ·rw [decide_eq_false h]
   simp only [Bool.not_false,Bool.false_and,Bool.and_false]
   rw [Za (g_r.trans (if_neg (by simp)))]
   simp only [List.replicate]
   rw [ZX,Za Zh]
   simp only [cond_true]
   rw [Za (g_r.trans (if_neg (by simp)))]
   simp only [List.replicate]
   rw [ZX,Za Zh]
   simp only [cond_true]
   rw [Zb,if_pos rfl]
   rfl
 ·have q1 : bop .int .gtr (iv s.length) (.int .i64 20) X=some (.bool true,X):=by rw [ZF,decide_eq_true (by omega)]
  refine ⟨X,f1 _ _ ?_,.refl _⟩
  unfold Y0
  rw [Za ZM,Za q1,Zb,if_pos rfl,decide_eq_false h20]
  rfl
theorem Zzj {i : Nat} (hi : i < (f.takeWhile (· !=c)).length) : ∃ x,f[i]?=some x∧x≠c:=by
 have h1 : (f.takeWhile (· !=c))[i]?=f[i]?:=by
  conv=>rhs;rw [← List.takeWhile_append_dropWhile (p:=(· !=c)) (l:=f)]
  rw [List.getElem?_append_left hi]
 have h2:=List.getElem?_eq_getElem hi
 have hm:=List.getElem_mem hi
 generalize (f.takeWhile (· !=c))[i]=x at h2 hm
 refine ⟨x,by rw [← h1,h2],?_⟩
 have:=List.all_eq_true.1 (List.all_takeWhile (p:=(· !=c)) (l:=f)) x hm
 simpa using this
theorem Zvi : ∀ {f : List UInt8},c∈f→f[(f.takeWhile (· !=c)).length]?=some c
 | [],h=>by cases h
 | b :: f,h=>by
  by_cases hb : b=c
  ·subst hb;simp
  ·have hm : c∈f:=by
    rcases List.mem_cons.1 h with h | h
    ·exact absurd h.symm hb
    ·exact h
   have ih:=Zvi hm
   have h2 : (b !=c)=true:=by simp [hb]
   rw [List.takeWhile_cons,h2]
   simpa using ih
theorem Zp7 : ∀ {f : List UInt8},c∉f→(f.takeWhile (· !=c)).length=f.length
 | [],_=>rfl
 | b :: f,h=>by
  simp only [List.mem_cons,not_or] at h
  have h2 : (b !=c)=true:=by simp [Ne.symm h.1]
  rw [List.takeWhile_cons,h2]
  simpa using Zp7 h.2
theorem Zxj (hf : f.length≤1000000) : ∀ (t k : Nat),(f.takeWhile (· !=64)).length - k=t→k≤(f.takeWhile (· !=64)).length→
  Zj (c2 (QR.l1 (R n))) [strv f,iv k] X=some (.ext 0 [strv f,iv (f.takeWhile (· !=64)).length],X)
 | 0,k,ht,hk=>by
  have : k=(f.takeWhile (· !=64)).length:=by omega
  subst this
  refine ZD ?_
  rw [ZP]
  unfold QR.l1
  rw [Za ZM,Za Zg]
  by_cases h : 64∈f
  ·have hl:=Zmb h
   have x1:=WK (Zvi h) .i64 X
   have q1 : bop .int .neq (u8v 64) (.int .u8 64) X=some (.bool false,X):=by rw [Zq];rfl
   rw [decide_eq_true (by omega),ZK,Zf,Za x1,Zf,Za q1,ZQ,ZC,Za Zh]
   simp only [cond_true]
   rw [Zb,if_neg (by simp)]
   rfl
  ·have hl:=Zp7 h
   rw [decide_eq_false (by omega),Za (g_r.trans (if_neg (by simp)))]
   simp only [List.replicate]
   rw [ZC,Za Zh]
   simp only [cond_false]
   rw [Zb,if_neg (by simp)]
   rfl
 | t+1,k,ht,hk=>by
  have hkt : k < (f.takeWhile (· !=64)).length:=by omega
  have hle : (f.takeWhile (· !=64)).length≤f.length:=(List.takeWhile_prefix _).length_le
  obtain ⟨x,hx,hne⟩:=Zzj hkt
  have x1:=WK hx .i64 X
  have q1 : bop .int .neq (u8v x) (.int .u8 64) X=some (.bool true,X):=by
   have:=ZgC (a:=x) (b:=64)
   have h2 : (x==64)=false:=beq_eq_false_iff_ne.2 hne
   rw [h2] at this
   rw [Zq]
   have h3 : ((x.toNat : Int)==64)=false:=this
   simp only [bne,h3];rfl
  refine (Zr ?_).trans (Zxj hf t (k+1) (by omega) (by omega))
  rw [ZP]
  unfold QR.l1
  rw [Za ZM,Za Zg,decide_eq_true (by omega),ZK,Zf,Za x1,Zf,Za q1,ZQ,ZC,Za Zh]
  simp only [cond_true]
  rw [Zb,if_pos rfl,Za Zt,Qh (by omega)]
  rfl
theorem Zof (hf : f.length≤1000000) : ∀ (t k st lg : Nat),f.length - k=t→k≤f.length→st≤k→lg≤k→
  Zj (c4 (QR.l2 (R (n+1)))) [strv f,iv st,iv lg,iv k] X=some (match ZaP (f.drop k) st lg with | some (a,b)=>.ext 2 [strv f,iv a,iv b] | none=>.ret (.tuple #[strv [],.bool false]),X)
 | 0,k,st,lg,ht,hk,h1,h2=>by
  have : k=f.length:=by omega
  subst this
  rw [List.drop_length]
  refine ZD ?_
  rw [ZC]
  unfold QR.l2
  rw [Za ZM,Za Zg,Zb,if_neg (by simp)]
  rfl
 | t+1,k,st,lg,ht,hk,h1,h2=>by
  have hkl : k < f.length:=by omega
  have hlt : (k : Int) < f.length:=by omega
  have hg:=List.getElem?_eq_getElem hkl
  have hd:=List.drop_eq_getElem_cons hkl
  generalize f[k]=x at hg hd
  have x1:=WK hg .i64 X
  have q1 : bop .int .eql (u8v x) (.int .u8 46) X=some (.bool (x==46),X):=by
   rw [ZA]
   congr 2
   exact congrArg Value.bool (ZgC (a:=x) (b:=46))
  have e1 : R (n+1) Wq [u8v x,.string ⟨#[97,98,99,100,101,102,103,104,105,106,107,108,109,110,111,112,113,114,115,116,117,118,119,120,121,122,48,49,50,51,52,53,54,55,56,57]⟩] X=some (.bool (KR x),X):=by
   rw [← ZqN]
   exact Ztp (t:=Zqm) (by decide)
  rw [hd]
  by_cases hx : x=46
  ·subst hx
   by_cases hl : lg=0
   ·subst hl
    refine (Qc (v:=.tuple #[strv [],.bool false]) (H':=X) ?_).trans (by simp [ZaP])
    rw [ZC]
    unfold QR.l2
    rw [Za ZM,Za Zg,Zb,if_pos (by simpa using hlt),Za x1,Za q1]
    refine (QI (v:=.tuple #[strv [],.bool false]) (H':=X) ?_).trans rfl
    rw [Zb,if_pos (by simp),Za ZA,Zb,if_pos (by rfl)]
    rfl
   ·have hs : ZaP (46 :: f.drop (k+1)) st lg=ZaP (f.drop (k+1)) (st+1) 0:=by simp [ZaP,hl]
    rw [hs]
    refine (Zr ?_).trans (Zof hf t (k+1) (st+1) 0 (by omega) (by omega) (by omega) (by omega))
    rw [ZC]
    unfold QR.l2
    rw [Za ZM,Za Zg,Zb,if_pos (by simpa using hlt),Za x1,Za q1]
    refine (Qf (vs:=[strv f,iv ((st+1 : Nat) : Int),iv (0 : Nat),iv k]) (H':=X) ?_).trans ?_
    ·rw [Zb,if_pos (by simp),Za ZA,Zb,if_neg (by simp;omega),Za Zt,Qh (by omega)];rfl
    ·rw [ZC,Za Zt,Qh (by omega)];rfl
  ·have hxf : (x==46)=false:=beq_eq_false_iff_ne.2 hx
   rw [hxf] at q1
   cases ha : KR x
   ·rw [ha] at e1
    refine (Qc (v:=.tuple #[strv [],.bool false]) (H':=X) ?_).trans (by simp [ZaP,hx,ha])
    rw [ZC]
    unfold QR.l2
    rw [Za ZM,Za Zg,Zb,if_pos (by simpa using hlt),Za x1,Za q1]
    refine (QI (v:=.tuple #[strv [],.bool false]) (H':=X) ?_).trans rfl
    rw [Zb,if_neg (by simp),Za x1,Za e1,Za ZY,Zb,if_pos (by rfl)]
    rfl
   ·rw [ha] at e1
    have hs : ZaP (x :: f.drop (k+1)) st lg=ZaP (f.drop (k+1)) st (lg+1):=by simp [ZaP,hx,ha]
    rw [hs]
    refine (Zr ?_).trans (Zof hf t (k+1) st (lg+1) (by omega) (by omega) (by omega) (by omega))
    rw [ZC]
    unfold QR.l2
    rw [Za ZM,Za Zg,Zb,if_pos (by simpa using hlt),Za x1,Za q1]
    refine (Qf (vs:=[strv f,iv st,iv ((lg+1 : Nat) : Int),iv k]) (H':=X) ?_).trans ?_
    ·rw [Zb,if_neg (by simp),Za x1,Za e1,Za ZY,Zb,if_neg (by simp),Za Zt,Qh (by omega)];rfl
    ·rw [ZC,Za Zt,Qh (by omega)];rfl
theorem ZuI : R (n+4) Zac [strv s] X=some (.tuple #[strv (if Wk s then QH s else []),.bool (Wk s)],X):=by
 have f1 : ∀ r,QR (R (n+3)) (strv s) X=r→R (n+4) Zac [strv s] X=r:=fun r hr=>by rw [R,Zpk rfl];exact hr
 refine f1 _ ?_
 unfold Wk QR
 by_cases h20 : s.length≤20
 ·have q1 : bop .int .gtr (iv s.length) (.int .i64 20) X=some (.bool false,X):=by rw [ZF,decide_eq_false (by omega)]
  have e1 : R (n+3) Zcf [strv s] X=some (strv (QH s),X):=ZvF (n:=n+2) (by omega)
  have hfl : (QH s).length≤20:=by rw [ZjN];exact h20
  generalize QH s=f at e1 hfl
  have e2:=Zxj (n:=n+3) (X:=X) (f:=f) (by omega) (f.takeWhile (· !=64)).length 0 (by omega) (by omega)
  have e2 : Zj (c2 (QR.l1 (R (n+3)))) [strv f,.int .i64 0] X=_:=e2
  have hle : (f.takeWhile (· !=64)).length≤f.length:=(List.takeWhile_prefix _).length_le
  rw [Za ZM,Za q1,Zb,if_neg (by simp),Za e1,ZO e2,Zu,ZP,Za ZM,Za ZA,decide_eq_true h20]
  unfold okM
  by_cases h : 64∈f
  ·have hl:=Zmb h
   have hne : (((f.takeWhile (· !=64)).length : Int)==(f.length : Int))=false:=by rw [beq_eq_false_iff_ne];omega
   have e3 : R (n+3) YB [strv (f.takeWhile (· !=64))] X=some (.bool (ZB (f.takeWhile (· !=64))),X):=Zc5
   rw [hne,ZK,Zf,Za (Zmn (by omega)),ZnG,Zf,Za e3,Zf,Za ZY,ZQ,ZU,Za Zh,decide_eq_true h]
   simp only [cond_false,Bool.true_and]
   cases ZB (f.takeWhile (· !=64))
   ·rw [Zb,if_pos (by rfl)];rfl
   ·have hdm : Wl f=f.drop ((f.takeWhile (· !=64)).length+1):=by unfold Wl;rw [if_pos h]
    have e4:=Zof (n:=n+2) (X:=X) (f:=f) (by omega) (f.length - ((f.takeWhile (· !=64)).length+1)) ((f.takeWhile (· !=64)).length+1) 0 0 rfl (by omega) (by omega) (by omega)
    have e4 : Zj (c4 (QR.l2 (R (n+3)))) [strv f,.int .i64 0,.int .i64 0,iv (((f.takeWhile (· !=64)).length+1 : Nat) : Int)] X=_:=e4
    rw [← hdm] at e4
    rw [Zb,if_neg (by simp),Za Zt,Qh (by omega),Bool.true_and,← Zv2]
    unfold ZfI
    cases hsc : ZaP (Wl f) 0 0 with
    | none=>
     rw [hsc] at e4
     rw [QI e4]
     rfl
    | some p=>
     obtain ⟨a,b⟩:=p
     rw [hsc] at e4
     rw [ZO e4,Zu,ZX,Za ZA]
     by_cases ha : a=0
     ·subst ha
      have q2 : (((0 : Nat) : Int)==0)=true:=rfl
      rw [q2,Za (g_r.trans (if_neg (by simp)))]
      simp only [List.replicate]
      rw [ZP,Za Zh]
      simp only [cond_true]
      rw [Zb,if_pos rfl]
      rfl
     ·have q2 : (((a : Nat) : Int)==0)=false:=by rw [beq_eq_false_iff_ne];omega
      rw [q2,ZK,Zf,Za ZA,ZQ,ZP,Za Zh]
      simp only [cond_false]
      by_cases hb : b=0
      ·subst hb
       rw [Zb,if_pos (by rfl)]
       simp [ret]
       rfl
      ·have q3 : (((b : Nat) : Int)==0)=false:=by rw [beq_eq_false_iff_ne];omega
       rw [q3,Zb,if_neg (by simp)]
       simp [ret,ha,hb]
  ·have hl:=Zp7 h
   have hne : (((f.takeWhile (· !=64)).length : Int)==(f.length : Int))=true:=by rw [hl];simp
   rw [hne,Za (g_r.trans (if_neg (by simp))),decide_eq_false h]
   simp only [List.replicate]
   rw [ZU,Za Zh]
   simp only [cond_true]
   rw [Zb,if_pos rfl]
   rfl
 ·have q1 : bop .int .gtr (iv s.length) (.int .i64 20) X=some (.bool true,X):=by rw [ZF,decide_eq_true (by omega)]
  rw [Za ZM,Za q1,Zb,if_pos rfl,decide_eq_false h20]
  rfl
end
end Go.Proofs.YtedkoimihknggaaGreatDoor.A

namespace Go.Proofs.YtedkoimihknggaaGreatDoor.A
set_option linter.unusedVariables false
set_option linter.unusedSimpArgs false
structure WO {α : Type} (enc : α→Value) (H : Zd) (id : Nat) (m : List (List UInt8 × α)) : Prop where
 ex : ∃ es clk,es.map kv=m.map (fun p=>(strv p.1,enc p.2))∧H[id]?=some (.map es clk)∧ZaU es clk
 nod : (m.map (·.1)).Nodup
section
variable {α : Type} {enc : α→Value} {H H' : Zd} {id : Nat} {m : List (List UInt8 × α)} {k : List UInt8} {v : α} {z : Value}
theorem WO.g (h : WO enc H id m) : Ya enc H id m:=by
 obtain ⟨es,clk,h1,h2,h3⟩:=h.ex
 exact ⟨⟨es,h1,.inl ⟨clk,h2,h3⟩⟩,h.nod⟩
theorem WO.lt (h : WO enc H id m) : id < H.length:=h.g.lt
theorem WO.keep (h : WO enc H id m) (hk : H'[id]?=H[id]?) : WO enc H' id m:=by
 obtain ⟨es,clk,h1,h2,h3⟩:=h.ex
 exact ⟨⟨es,clk,h1,by rw [hk];exact h2,h3⟩,h.nod⟩
theorem WO.hle (h : WO enc H id m) (hl : HLe H H') : WO enc H' id m:=h.keep (hl.step.keep id h.lt (by simp))
theorem WO.step {o1 o2 : List Nat} (h : WO enc H id m) (hs : Zw o1 H o2 H') (hn : id∉o1) : WO enc H' id m:=h.keep (hs.keep id h.lt hn)
theorem Zxk (H : Zd) : ∃ H',mkm H=some (.map (some H.length),H')∧WO enc H' H.length ([] : List (List UInt8 × α))∧HLe H H'∧H'.length=H.length+1:=
 ⟨_,rfl,⟨⟨[],0,rfl,Zm,⟨by simp,by simp⟩⟩,by simp⟩,.app _ _,by simp⟩
theorem WO.mde (h : WO enc H id m) : ∃ H',A.mde .str (.map (some id)) (strv k) H=some (.tuple #[],H')∧WO enc H' id (Zbc k m)∧Zw [id] H [id] H'∧H'.length=H.length:=by
 obtain ⟨es,clk,h1,h2,hs⟩:=h.ex
 have hst : ∀ o,Zw [id] H [id] (H.set id o):=fun o=>⟨by simp,fun j hj hn=>List.getElem?_set_ne (fun e=>hn (by simp [e])),fun j hj=>.inl hj⟩
 have hnod:=ZtL (k:=k) h.nod
 rcases ZgP (k:=k) 0 h1 with ⟨h3,h4⟩ | ⟨j,v0,h3,h4,h5⟩
 ·refine ⟨H,?_,by rw [Zum h3];exact h,.refl _ _,rfl⟩
  unfold A.mde
  simp only [h2,Za3,cond_true,h4]
 ·have ha : Zbc k m=m.eraseIdx j:=(Zfw h.nod h3).symm
  rw [ha] at hnod ⊢
  rw [Nat.zero_add] at h5
  have hm : (es.eraseIdx j).map kv=(m.eraseIdx j).map fun p=>(strv p.1,enc p.2):=by
   have hg : ∀ {β γ : Type} (f : β→γ) (l : List β) (j : Nat),(l.eraseIdx j).map f=(l.map f).eraseIdx j:=fun f l j=>by
    rw [List.eraseIdx_eq_take_drop_succ,List.eraseIdx_eq_take_drop_succ,List.map_append,List.map_take,List.map_drop]
   rw [hg,hg,h1]
  refine ⟨H.set id (.map (es.eraseIdx j) clk),?_,⟨⟨_,clk,hm,ZI h2,⟨fun e he=>hs.lt e ((List.eraseIdx_sublist es j).subset he),((List.eraseIdx_sublist es j).map _).nodup hs.nod⟩⟩,hnod⟩,hst _,by simp⟩
  unfold A.mde;simp only [h2,Za3,cond_true,h5]
theorem ZhS {es : List (Value × Value × Nat)} {j : Nat} {e : Value × Value × Nat} (hn : (es.map (·.2.2)).Nodup) (hj : es[j]?=some e) : es.findIdx? (fun x=>(x.2.2 : Int)==(e.2.2 : Nat))=some j:=by
 rw [List.findIdx?_eq_some_iff_getElem]
 have hlt:=(List.getElem?_eq_some_iff.1 hj).1
 have he:=(List.getElem?_eq_some_iff.1 hj).2
 refine ⟨hlt,by rw [he];simp,fun i hi=>?_⟩
 have hil : i < es.length:=by omega
 simp only [Bool.not_eq_true,beq_eq_false_iff_ne,ne_eq]
 intro h
 have h2 : es[i].2.2=e.2.2:=by omega
 have hp:=List.pairwise_iff_getElem.1 (List.nodup_iff_pairwise_ne.1 hn) i j (by simpa using hil) (by simpa using hlt) hi
 rw [List.getElem_map,List.getElem_map,he] at hp
 exact hp h2
theorem WO.put (h : WO enc H id m) : ∃ t st H1 H2,men .str z (.map (some id)) (strv k) H=some (t,H1)∧Zz t 1 H1=some (st,H1)∧ens (.map (some id)) st (enc v) H1=some (undef,H2)∧WO enc H2 id (JB k v m)∧Zw [id] H [id] H1∧Zw [id] H [id] H2∧H2.length=H.length:=by
 obtain ⟨es,clk,h1,h2,hs⟩:=h.ex
 have hst : ∀ o,Zw [id] H [id] (H.set id o):=fun o=>⟨by simp,fun j hj hn=>List.getElem?_set_ne (fun e=>hn (by simp [e])),fun j hj=>.inl hj⟩
 have hst2 : ∀ o o',Zw [id] H [id] ((H.set id o).set id o'):=fun o o'=>⟨by simp,fun j hj hn=>by rw [List.getElem?_set_ne (fun e=>hn (by simp [e])),List.getElem?_set_ne (fun e=>hn (by simp [e]))],fun j hj=>.inl hj⟩
 have hnod:=ZmA (k:=k) (v:=v) h.nod
 rcases ZgP (k:=k) 0 h1 with ⟨h3,h4⟩ | ⟨j,v0,h3,h4,h5⟩
 ·have ha : JB k v m=m++[(k,v)]:=by unfold JB;rw [h3];rfl
  rw [ha] at hnod ⊢
  have hS : ZaU (es++[(strv k,z,clk)]) (clk+1):=⟨fun e he=>by
   rcases List.mem_append.1 he with he | he
   ·have:=hs.lt e he;omega
   ·have : e=(strv k,z,clk):=by simpa using he
    rw [this];exact Nat.lt_succ_self _,by
   rw [List.map_append,List.nodup_append]
   refine ⟨hs.nod,by simp,fun a ha b hb=>?_⟩
   have hb : b=clk:=by simpa using hb
   obtain ⟨e,he,rfl⟩:=List.mem_map.1 ha
   have:=hs.lt e he;omega⟩
  have hlen : es.length=m.length:=by have:=congrArg List.length h1;simpa using this
  have hget : (es++[(strv k,z,clk)])[es.length]?=some (strv k,z,clk):=by simp
  have hfi:=ZhS hS.nod hget
  have hgk : ((es++[(strv k,z,clk)]).map kv)[es.length]?=some (strv k,z):=by rw [List.getElem?_map,hget];rfl
  refine ⟨.tuple #[z,.int .i64 (clk : Nat)],.int .i64 (clk : Nat),H.set id (.map (es++[(strv k,z,clk)]) (clk+1)),(H.set id (.map (es++[(strv k,z,clk)]) (clk+1))).set id (.map (Yp (es++[(strv k,z,clk)]) es.length (enc v)) (clk+1)),?_,rfl,?_,⟨⟨_,clk+1,?_,ZI (ZI h2),Zj9 hS⟩,hnod⟩,hst _,hst2 _ _,by simp⟩
  ·unfold men;simp only [h2,Za3,cond_true,h4]
  ·unfold ens
   simp only [ZI h2,hfi]
  ·rw [Zg6 hgk,List.map_append,h1,List.map_append]
   have : es.length=(m.map fun p=>(strv p.1,enc p.2)).length:=by rw [List.length_map,hlen]
   rw [this]
   simp [kv]
 ·have ha : JB k v m=m.set j (k,v):=by unfold JB;rw [h4];exact (ZhD h.nod h3).symm
  rw [ha] at hnod ⊢
  rw [Nat.zero_add] at h5
  have hget : (es.map kv)[j]?=some (strv k,enc v0):=by rw [h1,List.getElem?_map,h3];rfl
  obtain ⟨e,he,hek⟩ : ∃ e,es[j]?=some e∧kv e=(strv k,enc v0):=by
   rw [List.getElem?_map] at hget
   cases hh : es[j]? with
   | none=>rw [hh] at hget;cases hget
   | some e=>rw [hh] at hget;exact ⟨e,rfl,by simpa using hget⟩
  have hfi:=ZhS hs.nod he
  have hgd : (es.getD j (undef,undef,0)).2.2=e.2.2:=by rw [List.getD_eq_getElem?_getD,he];rfl
  refine ⟨.tuple #[enc v0,.int .i64 (e.2.2 : Nat)],.int .i64 (e.2.2 : Nat),H,H.set id (.map (Yp es j (enc v)) clk),?_,rfl,?_,⟨⟨_,clk,?_,ZI h2,Zj9 hs⟩,hnod⟩,.refl _ _,hst _,by simp⟩
  ·unfold men;simp only [h2,Za3,cond_true,h5,hgd]
  ·unfold ens
   simp only [h2,hfi]
  ·rw [Zg6 hget,h1,List.map_set]
end
end Go.Proofs.YtedkoimihknggaaGreatDoor.A

namespace Go.Proofs.YtedkoimihknggaaGreatDoor.A
set_option linter.unusedVariables false
set_option linter.unusedSimpArgs false
open Go.Proofs Go.Proofs.YtedkoimihknggaaGreatDoor
structure Inv (OW OF : Yr) : Prop where
 inv : ∀ k v,Zk k OF=some v↔Zk v OW=some k
 same : OW.length=OF.length
 lens : ∀ p∈OF,p.1≠[]∧p.1.length≤12∧p.2≠[]∧p.2.length≤20
def ZbT (k : List UInt8) (OW OF : Yr) : Yr:=match Zk k OF with
 | some m=>Zbc m OW
 | none=>OW
def W1 (k : List UInt8) (OF : Yr) : Yr:=match Zk k OF with
 | some _=>Zbc k OF
 | none=>OF
section
variable {OW OF : Yr} {k f : List UInt8}
theorem Inv.drop (h : Inv OW OF) (n1 : (OW.map (·.1)).Nodup) (n2 : (OF.map (·.1)).Nodup) : Inv (ZbT k OW OF) (W1 k OF):=by
 unfold ZbT W1
 cases hk : Zk k OF with
 | none=>exact h
 | some m=>
  have hm:=(h.inv k m).1 hk
  refine ⟨fun j v=>?_,?_,fun p hp=>h.lens p (List.mem_filter.1 hp).1⟩
  ·by_cases hj : j=k
   ·subst hj
    rw [Zeu]
    constructor
    ·intro e;cases e
    ·intro e
     by_cases hv : v=m
     ·subst hv;rw [Zeu] at e;cases e
     ·rw [WE hv,← h.inv] at e
      rw [hk] at e
      exact absurd (Option.some.inj e).symm hv
   ·rw [WE hj]
    by_cases hv : v=m
    ·subst hv
     rw [Zeu,h.inv,hm]
     constructor
     ·intro e;exact absurd (Option.some.inj e).symm hj
     ·intro e;cases e
    ·rw [WE hv,h.inv]
  ·rw [ZqD n1 (by rw [hm];rfl),ZqD n2 (by rw [hk];rfl),h.same]
theorem Inv.put (h : Inv OW OF) (h1 : Zk f OW=none) (h2 : Zk k OF=none) (hk : k≠[]∧k.length≤12) (hf : f≠[]∧f.length≤20) : Inv (JB f k OW) (JB k f OF):=by
 refine ⟨fun j v=>?_,?_,fun p hp=>?_⟩
 ·by_cases hj : j=k
  ·subst hj
   rw [ZaD]
   by_cases hv : v=f
   ·subst hv;rw [ZaD];simp
   ·rw [WD hv,← h.inv,h2]
    constructor
    ·intro e;exact absurd (Option.some.inj e).symm hv
    ·intro e;cases e
  ·rw [WD hj]
   by_cases hv : v=f
   ·subst hv
    rw [ZaD,h.inv,h1]
    constructor
    ·intro e;cases e
    ·intro e;exact absurd (Option.some.inj e).symm hj
   ·rw [WD hv,h.inv]
 ·rw [Zg5,Zg5,h1,h2,h.same]
 ·unfold JB at hp
  rw [h2] at hp
  simp only [Option.isSome_none,Bool.false_eq_true,if_false,List.mem_append,List.mem_singleton] at hp
  rcases hp with hp | rfl
  ·exact h.lens p hp
  ·exact ⟨hk.1,hk.2,hf.1,hf.2⟩
theorem ZeT : Zk k (W1 k OF)=none:=by
 unfold W1
 cases hk : Zk k OF with
 | none=>exact hk
 | some m=>exact Zeu
theorem ZtH (h : Inv OW OF) (hf : ∀ w,Zk f OW=some w→w=k) : Zk f (ZbT k OW OF)=none:=by
 unfold ZbT
 cases hk : Zk k OF with
 | none=>
  cases ho : Zk f OW with
  | none=>rfl
  | some w=>
   have:=hf w ho
   subst this
   rw [← h.inv,hk] at ho
   cases ho
 | some m=>
  by_cases hm : f=m
  ·subst hm;exact Zeu
  ·simp only
   rw [WE hm]
   cases ho : Zk f OW with
   | none=>rfl
   | some w=>
    have:=hf w ho
    subst this
    rw [← h.inv,hk] at ho
    exact absurd (Option.some.inj ho).symm hm
theorem Zhe {j : List UInt8} (hj : j≠k) : Zk j (W1 k OF)=Zk j OF:=by
 unfold W1
 cases hk : Zk k OF with
 | none=>rfl
 | some m=>exact WE hj
def Zaz (k m : List UInt8) (OW : Yr) : Int:=
 if ZB k then (if m=[] then 0 else if Wk m then (match Zk (QH m) OW with
  | some w=>if w=k then 0 else 9
  | none=>0) else 11) else 10
def Zv7 (k m : List UInt8) (OW OF : Yr) : Yr:=if Zaz k m OW=0 then (if m=[] then ZbT k OW OF else JB (QH m) k (ZbT k OW OF)) else OW
def Zhm (k m : List UInt8) (OW OF : Yr) : Yr:=if Zaz k m OW=0 then (if m=[] then W1 k OF else JB k (QH m) (W1 k OF)) else OF
theorem Zyn (h : ZB k=true) : k≠[]∧k.length≤12:=by
 refine ⟨?_,ZaI h⟩
 rintro rfl
 revert h;decide
theorem ZgB {m : List UInt8} (h : Wk m=true) : QH m≠[]∧(QH m).length≤20:=by
 unfold Wk at h
 simp only [Bool.and_eq_true,decide_eq_true_eq] at h
 refine ⟨fun e=>?_,by rw [ZjN];exact h.1⟩
 have h2:=h.2
 rw [e] at h2
 revert h2;decide
end
structure Idx (X : Zd) (x o a : Nat) (OW OF : Yr) : Prop where
 c : X[x]?=some (.cells [.map (some o),.map (some a)] 1 false false)
 ow : WO strv X o OW
 of : WO strv X a OF
 ne : o≠a
 inv : Inv OW OF
section
variable {X X' : Zd} {n x o a : Nat} {OW OF : Yr} {k m : List UInt8}
theorem Idx.not (h : Idx X x o a OW OF) : x≠o∧x≠a:=by
 constructor
 ·rintro rfl
  obtain ⟨es,clk,_,h2,_⟩:=h.ow.ex
  rw [h.c] at h2;cases h2
 ·rintro rfl
  obtain ⟨es,clk,_,h2,_⟩:=h.of.ex
  rw [h.c] at h2;cases h2
theorem Idx.hle (h : Idx X x o a OW OF) (hl : HLe X X') : Idx X' x o a OW OF:=⟨hl _ _ h.c,h.ow.hle hl,h.of.hle hl,h.ne,h.inv⟩
theorem Idx.lt (h : Idx X x o a OW OF) : x < X.length∧o < X.length∧a < X.length:=⟨Z5 h.c,h.ow.lt,h.of.lt⟩
theorem Idx.step {o1 o2 : List Nat} (h : Idx X x o a OW OF) (hs : Zw o1 X o2 X') (h1 : x∉o1) (h2 : o∉o1) (h3 : a∉o1) : Idx X' x o a OW OF:=
 ⟨hs.get h.c h1,h.ow.step hs h2,h.of.step hs h3,h.ne,h.inv⟩
theorem Idx.l0 (h : Idx X x o a OW OF) : ld1 (pa x 0) X=some (.map (some o),X):=ZN h.c rfl
theorem Idx.l1 (h : Idx X x o a OW OF) : ld1 (pa x 1) X=some (.map (some a),X):=ZN h.c rfl
theorem ZwJ {id : Nat} {mm : Yr} (h : Ya strv X id mm) : lkp .str (.string ⟨#[]⟩) true (.map (some id)) (strv k) X=some (.tuple #[strv ((Zk k mm).getD []),.bool (Zk k mm).isSome],X):=by
 rw [h.lkp]
 cases Zk k mm <;> rfl
theorem Zw.mono2 {o1 o2 : List Nat} (h : Zw o1 X o1 X') (hs : ∀ j∈o1,j∈o2) : Zw o2 X o2 X':=h.more hs (fun j hj=>.inl hj)
theorem Zy0 : ∃ X' x o a,R (n+1) ZfX [] X=some (pt x,X')∧Idx X' x o a [] []∧HLe X X'∧X.length≤x∧X.length≤o∧X.length≤a:=by
 obtain ⟨X1,e1,g1,l1,n1⟩:=Zxk (α:=List UInt8) (enc:=strv) X
 obtain ⟨X2,e2,g2,l2,n2⟩:=Zxk (α:=List UInt8) (enc:=strv) X1
 have e3 : bld (.agg #[.map none,.map none]) [(0,1,.map (some X.length)),(1,1,.map (some X1.length))] X2=some (.agg #[.map (some X.length),.map (some X1.length)],X2):=by simp [↓Qa,Z8,↓QG,Qk,Qm,Ql,↓Zb,JR,Zv,Yh,Qj,Ju,Qv,Jv,Je,QO,JE,QP,QX,QZ,Q0,Qi,Zh,ZY,Yi,Ys,Jf,Q4,JQ,Zt,Qr,JD,JI,JG,ZA,Zq,Zg,Q8,ZF,Qz,JT,JN,JA,JK,↓YI,JU,↓g_r,YD,Yv,KK,splice,Value.cells]
 have e4 : alc 1 (.agg #[.map (some X.length),.map (some X1.length)]) X2=some (pt X2.length,X2++[.cells [.map (some X.length),.map (some X1.length)] 1 false false]):=by
  rw [QX];simp [Value.cells,oneCell]
 refine ⟨X2++[.cells [.map (some X.length),.map (some X1.length)] 1 false false],X2.length,X.length,X1.length,?_,⟨Zm,(g1.hle l2).hle (.app _ _),g2.hle (.app _ _),by omega,⟨fun k v=>by simp [Zk],rfl,by simp⟩⟩,(l1.trans l2).trans (.app _ _),by omega,Nat.le_refl _,by omega⟩
 rw [R,Zr1 rfl]
 unfold ZiC
 rw [Za e1,Za e2,Za e3,Za e4]
 rfl
theorem ZsR (h : Idx X x o a OW OF) : ∃ X',R (n+1) YN [pt x,strv k] X=some (.bool (Zk k OF).isSome,X')∧Idx X' x o a (ZbT k OW OF) (W1 k OF)∧Zw [o,a] X [o,a] X':=by
 have e1:=ZwJ (k:=k) h.of.g
 have f1 : ∀ r X',WW (R n) (pt x) (strv k) X=some (r,X')→R (n+1) YN [pt x,strv k] X=some (r,X'):=fun r X' hr=>by rw [R,Zkf rfl];exact hr
 cases hk : Zk k OF with
 | none=>
  rw [hk] at e1
  simp only [Option.isSome_none,Option.getD_none] at e1 ⊢
  have hi : Idx X x o a (ZbT k OW OF) (W1 k OF):=by unfold ZbT W1;rw [hk];exact h
  refine ⟨X,f1 _ _ ?_,hi,.refl _ _⟩
  unfold WW
  rw [Za Zv,Za Zi,Za h.l1,Za e1,Za Zo,Za Zn]
  refine (Qf (vs:=[.bool false]) (H':=X) ?_).trans rfl
  rw [Zb,if_neg (by simp)]
  rfl
 | some mm=>
  rw [hk] at e1
  simp only [Option.isSome_some,Option.getD_some] at e1 ⊢
  obtain ⟨X1,e2,m2,s2,_⟩:=h.ow.mde (k:=mm)
  have of1:=h.of.step s2 (by simp [Ne.symm h.ne])
  have c1:=s2.get h.c (by simp [h.not.1])
  obtain ⟨X2,e3,m3,s3,_⟩:=of1.mde (k:=k)
  have s12:=(s2.mono2 (o2:=[o,a]) (by simp)).trans (s3.mono2 (o2:=[o,a]) (by simp))
  have hinv:=h.inv.drop (k:=k) h.ow.nod h.of.nod
  have hi : Idx X2 x o a (ZbT k OW OF) (W1 k OF):=by
   unfold ZbT W1 at hinv ⊢
   rw [hk] at hinv ⊢
   exact ⟨s3.get c1 (by simp [h.not.2]),m2.step s3 (by simp [h.ne]),m3,h.ne,hinv⟩
  refine ⟨X2,f1 _ _ ?_,hi,s12⟩
  have l0' : ld1 (pa x 0) X=some (.map (some o),X):=h.l0
  have l1' : ld1 (pa x 1) X1=some (.map (some a),X1):=ZN c1 rfl
  unfold WW
  rw [Za Zv,Za Zi,Za h.l1,Za e1,Za Zo,Za Zn]
  refine (Qf (vs:=[.bool true]) (H':=X2) ?_).trans rfl
  rw [Zb,if_pos rfl,Za Zv,Za Zi,Za l0']
  refine (Za e2).trans ?_
  rw [Za Zv,Za Zi,Za l1',Za e3]
  rfl
theorem ZvU {f : List UInt8} (h : Idx X x o a OW OF) (h1 : Zk f OW=none) (h2 : Zk k OF=none) (hk : k≠[]∧k.length≤12) (hf : f≠[]∧f.length≤20) :
  ∃ X',(∀ K : M Value,bind (men .str (.string ⟨#[]⟩) (.map (some o)) (strv f)) (fun v60=>bind (Zz v60 1) fun v61=>bind (ens (.map (some o)) v61 (strv k)) fun _=>bind (men .str (.string ⟨#[]⟩) (.map (some a)) (strv k)) fun v62=>bind (Zz v62 1) fun v63=>bind (ens (.map (some a)) v63 (strv f)) fun _=>K) X=K X')∧Idx X' x o a (JB f k OW) (JB k f OF)∧Zw [o,a] X [o,a] X':=by
 obtain ⟨t1,st1,Y1,Y2,e1,e2,e3,m1,_,s1,_⟩:=h.ow.put (k:=f) (v:=k) (z:=.string ⟨#[]⟩)
 have of1:=h.of.step s1 (by simp [Ne.symm h.ne])
 have c1:=s1.get h.c (by simp [h.not.1])
 obtain ⟨t2,st2,Z1,Z2,e4,e5,e6,m2,_,s2,_⟩:=of1.put (k:=k) (v:=f) (z:=.string ⟨#[]⟩)
 refine ⟨Z2,fun K=>?_,⟨s2.get c1 (by simp [h.not.2]),m1.step s2 (by simp [h.ne]),m2,h.ne,h.inv.put h1 h2 hk hf⟩,(s1.mono2 (o2:=[o,a]) (by simp)).trans (s2.mono2 (o2:=[o,a]) (by simp))⟩
 rw [Za e1,Za e2,Za e3,Za e4,Za e5,Za e6]
theorem Zyt (h : Idx X x o a OW OF) : ∃ X',R (n+9) Kd [pt x,strv k,strv m] X=some (iv (Zaz k m OW),X')∧Idx X' x o a (Zv7 k m OW OF) (Zhm k m OW OF)∧Zw [o,a] X [o,a] X':=by
 have f1 : ∀ r X',Kc (R (n+8)) (pt x) (strv k) (strv m) X=some (r,X')→R (n+9) Kd [pt x,strv k,strv m] X=some (r,X'):=fun r X' hr=>by rw [R,ZlX rfl];exact hr
 have e1 : R (n+8) JM [strv k] X=some (iv (Z7 k),X):=ZdH (n:=n+3)
 have q1 : bop .str .eql (strv m) (.string ⟨#[]⟩) X=some (.bool (m==[]),X):=Zd1 (b:=[])
 unfold Zaz Zv7 Zhm Zaz
 cases hn : ZB k
 ·have he : Z7 k=10:=by unfold Z7;rw [hn];rfl
  refine ⟨X,f1 _ _ ?_,by simpa using h,.refl _ _⟩
  unfold Kc
  rw [Za e1,he,Za Zq,Zb,if_pos (by rfl)]
  rfl
 ·have he : Z7 k=0:=Zew.2 hn
  by_cases hm0 : m=[]
  ·obtain ⟨X1,e2,i2,s2⟩:=ZsR (n:=n+7) (k:=k) h
   have e2 : R (n+8) YN [pt x,strv k] X=_:=e2
   refine ⟨X1,f1 _ _ ?_,by simpa [hm0] using i2,s2⟩
   unfold Kc
   rw [Za e1,he,Za Zq,Zb,if_neg (by decide),Za q1,Zb,if_pos (by simp [hm0]),Za e2]
   simp [hm0,ret]
  ·obtain ⟨X1,e2,k2⟩:=Zug (n:=n) (s:=m) (X:=X)
   have h1:=h.hle k2
   have ks:=k2.step.more (o2:=[o,a]) (o2':=[o,a]) (by simp) (fun j hj=>.inl hj)
   cases hmb : Wk m
   ·rw [hmb] at e2
    refine ⟨X1,f1 _ _ ?_,by simpa [hm0] using h1,ks⟩
    unfold Kc
    rw [Za e1,he,Za Zq,Zb,if_neg (by decide),Za q1,Zb,if_neg (by simpa using hm0),Za e2,Za Zo,Za Zn]
    have q3 : bop .int .neq (iv (if false=true then 0 else 11)) (.int .i64 0) X1=some (.bool true,X1):=by rw [Zq];rfl
    rw [Za q3,Zb,if_pos rfl]
    simp [hm0,ret]
   ·rw [hmb] at e2
    simp only [if_true] at e2
    have e3:=ZwJ (k:=QH m) h1.ow.g
    have hfm:=ZgB hmb
    have hkn:=Zyn hn
    have q3 : bop .int .neq (iv 0) (.int .i64 0) X1=some (.bool false,X1):=by rw [Zq];rfl
    simp only [if_true,if_neg hm0]
    have hgo : (∀ w,Zk (QH m) OW=some w→w=k)→∃ X',R (n+9) Kd [pt x,strv k,strv m] X=some (iv 0,X')∧Idx X' x o a (JB (QH m) k (ZbT k OW OF)) (JB k (QH m) (W1 k OF))∧Zw [o,a] X [o,a] X':=fun hw=>by
     obtain ⟨X2,e4,i4,s4⟩:=ZsR (n:=n+7) (k:=k) h1
     have e4 : R (n+8) YN [pt x,strv k] X1=_:=e4
     obtain ⟨X3,e5,i5,s5⟩:=ZvU (k:=k) (f:=QH m) i4 (ZtH h.inv hw) ZeT hkn hfm
     refine ⟨X3,f1 _ _ ?_,i5,(ks.trans s4).trans s5⟩
     unfold Kc
     rw [Za e1,he,Za Zq,Zb,if_neg (by decide),Za q1,Zb,if_neg (by simpa using hm0),Za e2,Za Zo,Za Zn,Za q3,Zb,if_neg (by simp),Za Zv,Za Zi,Za h1.l0,Za e3,Za Zo,Za Zn]
     cases ho : Zk (QH m) OW with
     | none=>
      simp only [Option.isSome_none]
      rw [Za (g_r.trans (if_neg (by simp)))]
      simp only [List.replicate]
      rw [ZX,Za Zh]
      simp only [cond_false]
      rw [Zb,if_neg (by simp),Za e4,Za Zv,Za Zi,Za i4.l0,Za Zv,Za Zi,Za i4.l1]
      exact e5 _
     | some w=>
      have:=hw w ho
      subst this
      have q4 : bop .str .neq (strv w) (strv w) X1=some (.bool false,X1):=by rw [Zbf];simp
      simp only [Option.isSome_some,Option.getD_some]
      rw [ZK,Zf,Za q4,ZQ,ZX,Za Zh]
      simp only [cond_true]
      rw [Zb,if_neg (by simp),Za e4,Za Zv,Za Zi,Za i4.l0,Za Zv,Za Zi,Za i4.l1]
      exact e5 _
    cases ho : Zk (QH m) OW with
    | none=>simpa using hgo (fun w hw=>by rw [ho] at hw;cases hw)
    | some w=>
     by_cases hw : w=k
     ·simpa [hw] using hgo (fun w' hw'=>by rw [ho] at hw';cases hw';exact hw)
     ·simp only [if_neg hw]
      refine ⟨X1,f1 _ _ ?_,by simpa using h1,ks⟩
      have q4 : bop .str .neq (strv w) (strv k) X1=some (.bool true,X1):=by rw [Zbf,beq_eq_false_iff_ne.2 hw];rfl
      rw [ho] at e3
      simp only [Option.isSome_some,Option.getD_some] at e3
      unfold Kc
      rw [Za e1,he,Za Zq,Zb,if_neg (by decide),Za q1,Zb,if_neg (by simpa using hm0),Za e2,Za Zo,Za Zn,Za q3,Zb,if_neg (by simp),Za Zv,Za Zi,Za h1.l0,Za e3,Za Zo,Za Zn,ZK,Zf,Za q4,ZQ,ZX,Za Zh]
      simp only [cond_true]
      rw [Zb,if_pos rfl]
      rfl
theorem ZzD (h : Idx X x o a OW OF) : R (n+1) ZaZ [pt x,strv k] X=some (.tuple #[strv ((Zk k OF).getD []),.bool (Zk k OF).isSome],X):=by
 have e1:=ZwJ (k:=k) h.of.g
 rw [R,Zm0 rfl]
 unfold Zey
 rw [Za Zv,Za Zi,Za h.l1,Za e1,Za Zo,Za Zn]
 rfl
end
end Go.Proofs.YtedkoimihknggaaGreatDoor.A
namespace Go.Proofs.YtedkoimihknggaaGreatDoor.A
set_option linter.unusedVariables false
set_option linter.unusedSimpArgs false
open Go.Proofs Go.Proofs.YtedkoimihknggaaGreatDoor
section
variable {H X X' : Zd} {n x o a : Nat} {OW OF : Yr} {k m : List UInt8}
end
end Go.Proofs.YtedkoimihknggaaGreatDoor.A
namespace Go.Proofs.YtedkoimihknggaaGreatDoor.A
set_option linter.unusedVariables false
set_option linter.unusedSimpArgs false
open Go.Proofs Go.Proofs.YtedkoimihknggaaGreatDoor
section
variable {n : Nat}
variable {X : Zd} {x o a : Nat} {OW OF : Yr}
end
end Go.Proofs.YtedkoimihknggaaGreatDoor.A

namespace Go.Proofs.YtedkoimihknggaaGreatDoor.A
set_option linter.unusedVariables false
set_option linter.unusedSimpArgs false
open Go.Proofs Go.Proofs.YtedkoimihknggaaGreatDoor
abbrev Acc:=Tx × Bool
def Zb2 (p : Acc) : Value:=.agg #[strv p.1,.bool p.2]
abbrev AMp:=List (Tx × Acc)
structure NSt where
 A : AMp
 OW : Yr
 OF : Yr
 K : List Tx
 mem : Mem
structure Kn (s : NSt) : Prop where
 nm : ∀ p∈s.A,ZB p.1=true∧KW p.2.1=true
 few : s.A.length≤12
 ofA : ∀ n,(Zk n s.OF).isSome=true→(Zk n s.A).isSome=true
 memA : ∀ k n,s.mem k n=true→(Zk n s.A).isSome=true
 good : ∀ n m,Zk n s.OF=some m→Wk m=true∧QH m=m
structure NR where
 b : Nat
 x : Nat
 o : Nat
 a : Nat
 g : Nat
 o2 : Nat
 G : Zhy
def NR.own (r : NR) : List Nat:=r.b :: r.o :: r.a :: YC r.o2 r.G
structure ND0 (X : Zd) (d : Nat) (r : NR) (s : NSt) (c : Nat) : Prop where
 cell : X[d]?=some (.cells [.map (some r.b),pt r.x,pt r.g] 1 false false)
 m : Ya Zb2 X r.b s.A
 ix : Idx X r.x r.o r.a s.OW s.OF
 gr : Grp X r.g r.o2 r.G s.mem c
 ks : Js r.G=s.K
 dis : r.b≠r.o∧r.b≠r.a∧r.b∉YC r.o2 r.G∧r.o∉YC r.o2 r.G∧r.a∉YC r.o2 r.G
structure ND (X : Zd) (d : Nat) (r : NR) (s : NSt) (c : Nat) : Prop extends ND0 X d r s c where
 inv : Kn s
def Zak (s : NSt) (n : Tx) (p : Acc) : YS:=(n,p.1,(Zk n s.OF).getD [],p.2,ofL n s.K s.mem)
def YF (s : NSt) (n : Tx) : Option YS:=(Zk n s.A).map (Zak s n)
def ZaM (n : Tx) (A : AMp) : Int:=if ZB n then (if (Zk n A).isSome then 0 else 8) else 10
theorem Zy8 {n : Tx} {A : AMp} (h : ZaM n A=0) : ZB n=true∧∃ p,Zk n A=some p:=by
 unfold ZaM at h
 cases hn : ZB n
 ·rw [hn] at h;simp at h
 ·rw [hn] at h
  cases ha : Zk n A with
  | none=>rw [ha] at h;simp at h
  | some p=>exact ⟨rfl,p,rfl⟩
section
variable {X X' : Zd} {n d c : Nat} {r : NR} {s : NSt} {k : Tx}
theorem Ya.isMap {α : Type} {enc : α→Value} {id : Nat} {mm : List (Tx × α)} (hm : Ya enc X id mm) : id < X.length∧∀ cs es gr ro,X[id]?≠some (.cells cs es gr ro):=⟨hm.lt,fun cs es gr ro e=>by
 obtain ⟨es',_,h1 | h1⟩:=hm.ex
 ·obtain ⟨clk,h1,_⟩:=h1;rw [e] at h1;cases h1
 ·rw [e] at h1;cases h1⟩
theorem ND0.isMap (h : ND0 X d r s c) {j : Nat} (hj : j∈r.own) : j < X.length∧∀ cs es gr ro,X[j]?≠some (.cells cs es gr ro):=by
 unfold NR.own at hj
 rcases List.mem_cons.1 hj with rfl | hj
 ·exact h.m.isMap
 ·rcases List.mem_cons.1 hj with rfl | hj
  ·exact h.ix.ow.g.isMap
  ·rcases List.mem_cons.1 hj with rfl | hj
   ·exact h.ix.of.g.isMap
   ·exact h.gr.isMap hj
theorem ND0.dnot (h : ND0 X d r s c) : d∉r.own:=fun hj=>(h.isMap hj).2 _ _ _ _ h.cell
theorem ND0.xnot (h : ND0 X d r s c) : r.x∉r.own:=fun hj=>(h.isMap hj).2 _ _ _ _ h.ix.c
theorem ND0.gnot (h : ND0 X d r s c) : r.g∉r.own:=fun hj=>(h.isMap hj).2 _ _ _ _ h.gr.cell
theorem ND0.step {o1 o2 : List Nat} (h : ND0 X d r s c) (hs : Zw o1 X o2 X') (hd : d∉o1) (hx : r.x∉o1) (hg : r.g∉o1) (ho : ∀ j∈r.own,j∉o1) : ND0 X' d r s c:=
 ⟨hs.get h.cell hd,h.m.step hs (ho _ (by simp [NR.own])),h.ix.step hs hx (ho _ (by simp [NR.own])) (ho _ (by simp [NR.own])),h.gr.step hs hg (fun j hj=>ho j (by
  unfold NR.own
  exact List.mem_cons_of_mem _ (List.mem_cons_of_mem _ (List.mem_cons_of_mem _ hj)))),h.ks,h.dis⟩
theorem ND0.hle (h : ND0 X d r s c) (hl : HLe X X') : ND0 X' d r s c:=h.step hl.step (by simp) (by simp) (by simp) (by simp)
theorem ND0.l0 (h : ND0 X d r s c) : ld1 (pa d 0) X=some (.map (some r.b),X):=ZN h.cell rfl
theorem ND0.l1 (h : ND0 X d r s c) : ld1 (pa d 1) X=some (pt r.x,X):=ZN h.cell rfl
theorem ND0.l2 (h : ND0 X d r s c) : ld1 (pa d 2) X=some (pt r.g,X):=ZN h.cell rfl
theorem ND.step {o1 o2 : List Nat} (h : ND X d r s c) (hs : Zw o1 X o2 X') (hd : d∉o1) (hx : r.x∉o1) (hg : r.g∉o1) (ho : ∀ j∈r.own,j∉o1) : ND X' d r s c:=⟨h.toND0.step hs hd hx hg ho,h.inv⟩
theorem ND.hle (h : ND X d r s c) (hl : HLe X X') : ND X' d r s c:=⟨h.toND0.hle hl,h.inv⟩
def CLe (X X' : Zd) : Prop:=∀ (i : Nat) (cs : List Value) (es : Nat) (g ro : Bool),X[i]?=some (Zc.cells cs es g ro)→X'[i]?=some (Zc.cells cs es g ro)
theorem CLe.trans {Y : Zd} (h : CLe X X') (h' : CLe X' Y) : CLe X Y:=fun i cs es g ro hi=>h' i _ _ _ _ (h i _ _ _ _ hi)
theorem Zw.cle {o1 o2 : List Nat} (hs : Zw o1 X o2 X') (hm : ∀ j∈o1,∀ cs es g ro,X[j]?≠some (Zc.cells cs es g ro)) : CLe X X':=fun i cs es g ro hi=>hs.get hi fun hj=>hm i hj _ _ _ _ hi
theorem ND0.cle {o2 : List Nat} (h : ND0 X d r s c) (hs : Zw r.own X o2 X') : CLe X X':=hs.cle fun j hj=>(h.isMap hj).2
theorem Sl.cle {sl : Value} {vs : List Value} (h : Sl X sl vs) (hc : CLe X X') : Sl X' sl vs:=by
 obtain ⟨a,c,rfl,h0,h⟩:=h
 refine ⟨a,c,rfl,h0,?_⟩
 unfold Qq at h ⊢
 split at h
 ·exact h
 ·rename_i id o n x _
  split at h
  ·rename_i cs es g ro hid
   simp only [hc _ _ _ _ _ hid];exact h
  ·cases h
 ·exact h
 ·rename_i e;cases e
 ·cases h
theorem ZzI {k : Tx} {t : Bool} {H : Zd} : bld (.agg #[.string ⟨#[]⟩,.bool false]) [(0,1,strv k),(1,1,.bool t)] H=some (Zb2 (k,t),H):=by
 simp [bld,KK,Value.cells,Yv,strv,splice,Zb2]
theorem ZxA (X : Zd) : Kn ⟨[],[],[],[],fun _ _=>false⟩:=⟨by simp,by simp,by simp [Zk],by simp,by simp [Zk]⟩
theorem ZyG : ∃ X' d r,R (n+2) Zdq [] X=some (pt d,X')∧ND X' d r ⟨[],[],[],[],fun _ _=>false⟩ 0∧HLe X X'∧X.length≤d∧∀ j∈r.own,X.length≤j:=by
 obtain ⟨X1,e1,m1,k1⟩:=ZpO (α:=Acc) (enc:=Zb2) X
 have hl1 : X.length < X1.length:=m1.lt
 obtain ⟨X2,x,o,a,e2,i2,k2,o21,o22,o23⟩:=Zy0 (n:=n) (X:=X1)
 obtain ⟨X3,g,o2,e3,g3,k3,o31,o32⟩:=Zy3 (n:=n) (X:=X2)
 have hi:=i2.lt
 have e4 : bld (.agg #[.map none,.pointer none,.pointer none]) [(0,1,.map (some X.length)),(1,1,pt x),(2,1,pt g)] X3=some (.agg #[.map (some X.length),pt x,pt g],X3):=by
  simp [bld,KK,Value.cells,Yv,splice]
 have e5 : alc 1 (.agg #[.map (some X.length),pt x,pt g]) X3=some (pt X3.length,X3++[.cells [.map (some X.length),pt x,pt g] 1 false false]):=Zcq (vs:=[.map (some X.length),pt x,pt g]) rfl
 have k4 : HLe X3 (X3++[Zc.cells [.map (some X.length),pt x,pt g] 1 false false]):=.app _ _
 refine ⟨_,X3.length,⟨X.length,x,o,a,g,o2,[]⟩,?_,⟨⟨Zm,((m1.hle k2).hle k3).hle k4,(i2.hle k3).hle k4,g3.hle k4,rfl,⟨by simp only;omega,by simp only;omega,?_,?_,?_⟩⟩,ZxA X⟩,((k1.trans k2).trans k3).trans k4,?_,?_⟩
 ·rw [R,ZpW rfl]
  unfold Zhw
  rw [Za e1,Za e2,Za e3,Za e4,Za e5]
  rfl
 ·simp only [YC,List.map_nil,List.mem_singleton]
  have:=k2.len;omega
 ·simp only [YC,List.map_nil,List.mem_singleton]
  omega
 ·simp only [YC,List.map_nil,List.mem_singleton]
  omega
 ·have:=k1.len;have:=k2.len;have:=k3.len;omega
 ·intro j hj
  have:=k1.len;have:=k2.len
  simp only [NR.own,YC,List.map_nil,List.mem_cons,List.not_mem_nil,or_false] at hj
  omega
theorem Zyc (h : ND X d r s c) : ∃ X',R (n+6) Zaw [pt d,strv k] X=some (.tuple #[Zb2 (if ZB k then (Zk k s.A).getD ([],false) else ([],false)),iv (ZaM k s.A)],X')∧HLe X X':=by
 have one : ∀ p : Acc,([strv p.1,.bool p.2] : List Value).all oneCell=true:=fun _=>rfl
 have z1 : alc 1 (.agg #[.string ⟨#[]⟩,.bool false]) X=some (pt X.length,X++[.cells [strv [],.bool false] 1 false false]):=Zcq (vs:=[strv [],.bool false]) rfl
 have k1 : HLe X (X++[Zc.cells [strv [],.bool false] 1 false false]):=.app _ _
 have c1 : (X++[Zc.cells [strv [],.bool false] 1 false false])[X.length]?=some (.cells [strv [],.bool false] 1 false false):=Zm
 have ll1 : X.length < (X++[Zc.cells [strv [],.bool false] 1 false false]).length:=by simp
 generalize X++[Zc.cells [strv [],.bool false] 1 false false]=X1 at z1 k1 c1 ll1
 have h1:=h.hle k1
 have e1 : R (n+5) JM [strv k] X1=_:=ZdH
 have f1 : ∀ v X',Wt (R (n+5)) (pt d) (strv k) X=some (v,X')→R (n+6) Zaw [pt d,strv k] X=some (v,X'):=fun v X' hr=>by rw [R,Zlr rfl];exact hr
 have fin : ∀ (p : Acc) (Y : Zd) (K : Value→M Value),Y[X.length]?=some (.cells [strv [],.bool false] 1 false false)→bind (stA 2 (pt X.length) (Zb2 p)) (fun _=>bind (ldA 2 (pt X.length)) K) Y=K (Zb2 p) (Y.set X.length (.cells [strv p.1,.bool p.2] 1 false false)):=fun p Y K hY=>by
  have w:=Ja (vs:=[strv p.1,.bool p.2]) (n:=2) hY rfl rfl rfl
  have w : stA 2 (pt X.length) (Zb2 p) Y=_:=w
  have l : ldA 2 (pt X.length) (Y.set X.length (.cells [strv p.1,.bool p.2] 1 false false))=some (Zb2 p,_):=ZE (n:=2) (ZI hY) rfl
  rw [Za w,Za l]
 have put : ∀ {Y : Zd} {o : Zc},HLe X Y→HLe X (Y.set X.length o):=fun hl i v hi=>by
  have:=Z5 hi
  rw [List.getElem?_set_ne (by omega)]
  exact hl i v hi
 cases hnm : ZB k
 ·have he : ZaM k s.A=10:=by unfold ZaM;rw [hnm];rfl
  have q1 : bop .int .neq (iv (Z7 k)) (.int .i64 0) X1=some (.bool true,X1):=by rw [Zq];unfold Z7;rw [hnm];rfl
  have zb : bld (.agg #[.string ⟨#[]⟩,.bool false]) [] X1=some (Zb2 ([],false),X1):=rfl
  rw [he]
  refine ⟨X1.set X.length (.cells [strv [],.bool false] 1 false false),f1 _ _ ?_,put k1⟩
  unfold Wt
  rw [Za z1,Za e1,Za q1,Zb,if_pos rfl,Za zb]
  refine (fin _ _ _ c1).trans ?_
  rw [show Z7 k=10 by unfold Z7;rw [hnm];rfl]
  rfl
 ·have q1 : bop .int .neq (iv (Z7 k)) (.int .i64 0) X1=some (.bool false,X1):=by rw [Zq];unfold Z7;rw [hnm];rfl
  have e2 : lkp .str (.agg #[.string ⟨#[]⟩,.bool false]) true (.map (some r.b)) (strv k) X1=some (.tuple #[Zb2 ((Zk k s.A).getD ([],false)),.bool (Zk k s.A).isSome],X1):=by
   rw [h1.m.lkp]
   cases Zk k s.A <;> rfl
  generalize hv : (Zk k s.A).getD ([],false)=p at e2
  have z2 : ∀ K : Value→M Value,bind (alc 1 (.agg #[.string ⟨#[]⟩,.bool false])) (fun q=>bind (stA 2 q (Zb2 p)) fun _=>K q) X1=K (pt X1.length) (X1++[.cells [strv p.1,.bool p.2] 1 false false]):=fun K=>ZbW (n:=2) (zs:=[strv [],.bool false]) (r:=[strv p.1,.bool p.2]) rfl rfl rfl rfl
  have k2 : HLe X1 (X1++[Zc.cells [strv p.1,.bool p.2] 1 false false]):=.app _ _
  have c2 : (X1++[Zc.cells [strv p.1,.bool p.2] 1 false false])[X1.length]?=some (.cells [strv p.1,.bool p.2] 1 false false):=Zm
  have c12:=k2 _ _ c1
  generalize X1++[Zc.cells [strv p.1,.bool p.2] 1 false false]=X2 at z2 k2 c2 c12
  have d2 : ldA 2 (pt X1.length) X2=some (Zb2 p,X2):=ZE (n:=2) c2 rfl
  have zb : bld (.agg #[.string ⟨#[]⟩,.bool false]) [] X2=some (Zb2 ([],false),X2):=rfl
  cases hs : (Zk k s.A).isSome
  ·have he : ZaM k s.A=8:=by unfold ZaM;rw [hnm,hs];rfl
   have hp : p=([],false):=by
    rw [← hv]
    cases ha : Zk k s.A with
    | none=>rfl
    | some v=>rw [ha] at hs;cases hs
   rw [hs] at e2
   rw [he]
   refine ⟨X2.set X.length (.cells [strv [],.bool false] 1 false false),f1 _ _ ?_,put (k1.trans k2)⟩
   unfold Wt
   rw [Za z1,Za e1,Za q1,Zb,if_neg (by simp),Za Zv,Za Zi,Za h1.l0,Za e2,Za Zo,Za Zn,z2,Za ZY,Zb,if_pos (by rfl),Za zb]
   refine (fin _ _ _ c12).trans ?_
   rw [hp]
   rfl
  ·have he : ZaM k s.A=0:=by unfold ZaM;rw [hnm,hs];rfl
   rw [hs] at e2
   rw [he]
   refine ⟨X2.set X.length (.cells [strv p.1,.bool p.2] 1 false false),f1 _ _ ?_,put (k1.trans k2)⟩
   unfold Wt
   rw [Za z1,Za e1,Za q1,Zb,if_neg (by simp),Za Zv,Za Zi,Za h1.l0,Za e2,Za Zo,Za Zn,z2,Za ZY,Zb,if_neg (by simp),Za d2]
   exact fin _ _ _ c12
theorem Zu4 (h : ND X d r s c) : ∃ u q X',R (n+7) WI [pt d,strv k] X=some (.tuple #[.agg u.cells.toArray,iv (ZaM k s.A)],X')∧Zs X' u.gv (u.gs.map strv) q∧(∀ j∈q,X.length≤j)∧HLe X X'∧u.gs.length≤6∧
  ZW u=if ZaM k s.A=0 then Zak s k ((Zk k s.A).getD ([],false)) else ([],[],[],false,[]):=by
 have z1 : alc 1 (.agg #[.string ⟨#[]⟩,.string ⟨#[]⟩,.string ⟨#[]⟩,.bool false,.slice none 0 0]) X=some (pt X.length,X++[.cells (usr ([],[])) 1 false false]):=Zcq (vs:=usr ([],[])) rfl
 have k1 : HLe X (X++[Zc.cells (usr ([],[])) 1 false false]):=.app _ _
 have c1 : (X++[Zc.cells (usr ([],[])) 1 false false])[X.length]?=some (.cells (usr ([],[])) 1 false false):=Zm
 generalize X++[Zc.cells (usr ([],[])) 1 false false]=X1 at z1 k1 c1
 obtain ⟨X2,e2,k2⟩:=Zyc (n:=n) (k:=k) (h.hle k1)
 have f1 : ∀ v X',Ww (R (n+6)) (pt d) (strv k) X=some (v,X')→R (n+7) WI [pt d,strv k] X=some (v,X'):=fun v X' hr=>by rw [R,ZjP rfl];exact hr
 generalize hp : (if ZB k then (Zk k s.A).getD ([],false) else ([],false))=p at e2
 have z2 : ∀ K : Value→M Value,bind (alc 1 (.agg #[.string ⟨#[]⟩,.bool false])) (fun q=>bind (stA 2 q (Zb2 p)) fun _=>K q) X2=K (pt X2.length) (X2++[.cells [strv p.1,.bool p.2] 1 false false]):=fun K=>ZbW (n:=2) (zs:=[strv [],.bool false]) (r:=[strv p.1,.bool p.2]) rfl rfl rfl rfl
 have k3 : HLe X2 (X2++[Zc.cells [strv p.1,.bool p.2] 1 false false]):=.app _ _
 have c3 : (X2++[Zc.cells [strv p.1,.bool p.2] 1 false false])[X2.length]?=some (.cells [strv p.1,.bool p.2] 1 false false):=Zm
 have hlx : X.length < X2.length:=by have:=Z5 c1;have:=k2.len;omega
 generalize X2++[Zc.cells [strv p.1,.bool p.2] 1 false false]=X3 at z2 k3 c3
 have c13:=k3 _ _ (k2 _ _ c1)
 have k13:=(k1.trans k2).trans k3
 have put : ∀ {Y : Zd} {o : Zc},HLe X Y→HLe X (Y.set X.length o):=fun hl i v hi=>by
  have:=Z5 hi
  rw [List.getElem?_set_ne (by omega)]
  exact hl i v hi
 by_cases he : ZaM k s.A=0
 ·obtain ⟨hnm,q0,hq0⟩:=Zy8 he
  have hpq : p=q0:=by rw [← hp,hnm,hq0];rfl
  subst hpq
  have q1 : bop .int .neq (iv (ZaM k s.A)) (.int .i64 0) X3=some (.bool false,X3):=by rw [Zq,he];rfl
  have h3:=h.hle k13
  have e4 : R (n+6) ZaZ [pt r.x,strv k] X3=_:=ZzD (n:=n+5) h3.ix
  have a0 : ∀ Y,HLe X3 Y→ld1 (pa X2.length 0) Y=some (strv p.1,Y):=fun Y hl=>ZN (hl _ _ c3) rfl
  have a1 : ∀ Y,HLe X3 Y→ld1 (pa X2.length 1) Y=some (.bool p.2,Y):=fun Y hl=>ZN (hl _ _ c3) rfl
  obtain ⟨gv,q,X4,e5,r5,k5,o5⟩:=Zzz (n:=n+2) (m:=k) h3.gr
  have e5 : R (n+6) W0 [pt r.g,strv k] X3=_:=e5
  rw [h.ks] at r5
  have hfew : (ofL k s.K s.mem).length≤6:=by
   have h1:=Zok (m:=k) (K:=s.K) (mem:=s.mem)
   have h2:=h.gr.few
   have h3 : s.K.length=r.G.length:=by rw [← h.ks];simp
   omega
  have hone:=r5.one
  have zb : bld (.agg #[.string ⟨#[]⟩,.string ⟨#[]⟩,.string ⟨#[]⟩,.bool false,.slice none 0 0]) [(0,1,strv k),(1,1,strv p.1),(2,1,strv ((Zk k s.OF).getD [])),(3,1,.bool p.2),(4,1,gv)] X4=some (.agg (Zp.cells ⟨k,p.1,(Zk k s.OF).getD [],p.2,gv,ofL k s.K s.mem⟩).toArray,X4):=by
   obtain ⟨ga,gn,gc,hgv⟩ : ∃ a n c,gv=.slice a n c:=by
    rcases r5 with ⟨_,_,h⟩ | ⟨_,_,_,h,_,_⟩
    ·exact ⟨_,_,_,h⟩
    ·exact ⟨_,_,_,h⟩
   rw [hgv]
   simp [bld,KK,Value.cells,Yv,strv,splice,Zp.cells]
  have c14:=k5 _ _ c13
  have w4:=Ja (vs:=Zp.cells ⟨k,p.1,(Zk k s.OF).getD [],p.2,gv,ofL k s.K s.mem⟩) (n:=5) c14 rfl rfl (by simp only [Zp.cells,List.all_cons,hone.1];rfl)
  have d4 : ldA 5 (pt X.length) (X4.set X.length (.cells (Zp.cells ⟨k,p.1,(Zk k s.OF).getD [],p.2,gv,ofL k s.K s.mem⟩) 1 false false))=some (.agg (Zp.cells ⟨k,p.1,(Zk k s.OF).getD [],p.2,gv,ofL k s.K s.mem⟩).toArray,_):=ZE (n:=5) (ZI c14) rfl
  refine ⟨⟨k,p.1,(Zk k s.OF).getD [],p.2,gv,ofL k s.K s.mem⟩,q,X4.set X.length (.cells (Zp.cells ⟨k,p.1,(Zk k s.OF).getD [],p.2,gv,ofL k s.K s.mem⟩) 1 false false),f1 _ _ ?_,r5.keep fun j hj=>List.getElem?_set_ne (fun e=>?_),fun j hj=>Nat.le_trans k13.len (o5 j hj),put (k13.trans k5),hfew,?_⟩
  ·unfold Ww
   rw [Za z1,Za e2,Za Zo,Za Zn,z2,Za q1,Zb,if_neg (by simp),Za Zv,Za Zi,Za h3.l1,Za e4,Za Zo,Za Zn,Za Zi,Za (a0 _ (.refl _)),Za Zi,Za (a1 _ (.refl _)),Za Zv,Za Zi,Za h3.l2,Za e5,Za (a1 _ k5),Qn,Za (a0 _ k5),Qn,Za zb,Za w4,Za d4,he]
   rfl
  ·have:=o5 j hj
   have:=Z5 c13
   omega
  ·rw [if_pos he,hq0]
   rfl
 ·have q1 : bop .int .neq (iv (ZaM k s.A)) (.int .i64 0) X3=some (.bool true,X3):=by rw [Zq];simp [he]
  have zb : bld (.agg #[.string ⟨#[]⟩,.string ⟨#[]⟩,.string ⟨#[]⟩,.bool false,.slice none 0 0]) [] X3=some (.agg (usr ([],[])).toArray,X3):=rfl
  have w3:=Ja (vs:=usr ([],[])) (n:=5) c13 rfl rfl rfl
  have d3 : ldA 5 (pt X.length) (X3.set X.length (.cells (usr ([],[])) 1 false false))=some (.agg (usr ([],[])).toArray,_):=ZE (n:=5) (ZI c13) rfl
  refine ⟨⟨[],[],[],false,.slice none 0 0,[]⟩,[],X3.set X.length (.cells (usr ([],[])) 1 false false),f1 _ _ ?_,Zs.nil,by simp,put k13,Nat.zero_le _,by rw [if_neg he];rfl⟩
  unfold Ww
  rw [Za z1,Za e2,Za Zo,Za Zn,z2,Za q1,Zb,if_pos rfl,Za zb,Za w3,Za d3]
  rfl
theorem ZyK (h : ND X d r s c) : R (n+1) ZaW [pt d] X=some (iv s.A.length,X):=by
 rw [R,ZmM rfl]
 unfold ZeC
 rw [Za Zv,Za Zi,Za h.l0,Za h.m.len]
 rfl
theorem ZuZ (h : ND X d r s c) : ∃ v q X',R (n+4) Wv [pt d] X=some (v,X')∧Zs X' v ((Qs s.K).map strv) q∧HLe X X'∧∀ j∈q,X.length≤j:=by
 obtain ⟨v,q,X',e,r1,l,o⟩:=Zud (n:=n) h.gr
 have e : R (n+3) Y5 [pt r.g] X=_:=e
 rw [h.ks] at r1
 refine ⟨v,q,X',?_,r1,l,o⟩
 rw [R,ZjH rfl]
 unfold ZcD
 rw [Za Zv,Za Zi,Za h.l2,Za e]
 rfl
abbrev Zbj (s : NSt) : List Tx:=s.A.map (·.1)
theorem ZwP (h : ND X d r s c) : ∃ v q X',R (n+2) WX [pt d] X=some (v,X')∧Zs X' v ((Qs (Zbj s)).map strv) q∧HLe X X'∧∀ j∈q,X.length≤j:=by
 have e1 : run Tryz.prog np lvs (n+1) QA [.map (some r.b)] X=some (.func (.func Q6) #[] #[pt X.length],X++[.cells [.map (some r.b)] 1 false false]):=by
  rw [Wa rfl]
  unfold Jb
  rw [Za (Zng rfl rfl _)]
  rfl
 have l1 : HLe X (X++[.cells [.map (some r.b)] 1 false false]):=.app _ _
 obtain ⟨v,q,H2,e2,r2,l2,o2⟩:=(h.m.hle l1).keys (gks:=Zff) (gc:=Qx) (gk:=Q6) (c:=X.length) (by decide) Zm (Nat.le_trans h.inv.few (by decide)) (fun p hp=>Nat.le_trans (ZaI (h.inv.nm p hp).1) (by decide))
 have e2' : run Tryz.prog np lvs (n+1) QF [.func (.func Q6) #[] #[pt X.length],.func (.func Qx) #[] #[]] (X++[.cells [.map (some r.b)] 1 false false])=some (v,H2):=by
  rw [Zfo (show np QF=some (Zce Zff Qx) from rfl)]
  exact e2
 refine ⟨v,q,H2,?_,r2,l1.trans l2,fun j hj=>Nat.le_trans l1.len (o2 j hj)⟩
 rw [R,ZkG rfl]
 unfold Zc4
 rw [Za Zv,Za Zi,Za h.l0,Za e1,Za e2']
 rfl
theorem Zs.own_of {v : Value} {vs : List Value} {q : List Nat} (h : Zs X v vs q) {i : Nat} (hi : A.own1 v=some i) : i∈q:=by
 rcases h with ⟨_,rfl,rfl⟩ | ⟨sid,rest,g,rfl,rfl,_⟩
 ·cases hi
 ·cases hi;simp
structure K0 (X0 X : Zd) (sl : Value) (us : List Zp) (q : List Nat) : Prop where
 r : Qu 5 X sl (us.map Zp.cells) q
 o : ∀ j∈q,X0.length≤j
 u : ∀ w∈us,∃ qu,Zs X w.gv (w.gs.map strv) qu∧(∀ j∈qu,X0.length≤j∧j∉q)∧w.gs.length≤100000
 un : ∀ a∈us,∀ b∈us,∀ i,own1 a.gv=some i→own1 b.gv=some i→a=b
theorem K0.us {X0 X : Zd} {sl : Value} {us : List Zp} {q : List Nat} (h : K0 X0 X sl us q) : QV X sl us:=⟨h.r.rd,fun w hw=>by
 obtain ⟨qu,h1,_,h2⟩:=h.u w hw
 exact ⟨h1.rd,h1.one.1,by omega⟩⟩
theorem K0.hle {X0 X Y : Zd} {sl : Value} {us : List Zp} {q : List Nat} (h : K0 X0 X sl us q) (hl : HLe X Y) : K0 X0 Y sl us q:=
 ⟨h.r.step hl.step (by simp),h.o,fun w hw=>by
  obtain ⟨qu,h1,h2,h3⟩:=h.u w hw
  exact ⟨qu,h1.step hl.step (by simp),h2,h3⟩,h.un⟩
theorem K0.push0 {X0 : Zd} {sl : Value} {us : List Zp} {q qu : List Nat} {w : Zp} (h : K0 X0 X sl us q) (hl : us.length≤1000) (hr : Zs X w.gv (w.gs.map strv) qu) (hq : ∀ j∈qu,X0.length≤j∧j∉q) (h6 : w.gs.length≤100000) (hfr : ∀ a∈us,∀ i,own1 a.gv=some i→i∉qu) (hX : X0.length≤X.length) :
  ∃ x X1 sl' X2 q',bsl 5 1 (.agg #[.string ⟨#[]⟩,.string ⟨#[]⟩,.string ⟨#[]⟩,.bool false,.slice none 0 0]) [(0,5,.agg w.cells.toArray)] X=some (x,X1)∧app 5 80 sl x X1=some (sl',X2)∧K0 X0 X2 sl' (us++[w]) q'∧Zw q X q' X2:=by
 have hone : w.cells.all oneCell=true:=by simp only [Zp.cells,List.all_cons,hr.one.1];rfl
 have x4:=Znd (es:=5) (z:=.agg #[.string ⟨#[]⟩,.string ⟨#[]⟩,.string ⟨#[]⟩,.bool false,.slice none 0 0]) (H:=X) rfl (show w.cells.length=5 from rfl) hone
 have l1 : HLe X (X++[Zc.cells w.cells 5 false false]):=.app _ _
 have s1 : SlN 5 (X++[Zc.cells w.cells 5 false false]) (.slice (some ⟨X.length,0,none⟩) 1 1) [w.cells]:=SlN.whole (rows:=[w.cells]) (c:=1) (e:=5) (g:=false) (ro:=false) (by rw [Zm];simp) (by simp)
 generalize X++[Zc.cells w.cells 5 false false]=X1 at x4 l1 s1
 have h1:=h.hle l1
 obtain ⟨sl',X2,q',x5,hn2,s2⟩:=h1.r.push (b:=80) s1 rfl (by simp;omega) (by simp;omega)
 have hX1:=l1.len
 have hm2 : ∀ j∈q',X0.length≤j:=fun j hj=>by
  rcases s2.own j hj with h2 | h2
  ·exact h.o j h2
  ·omega
 rw [← List.map_singleton (f:=Zp.cells),← List.map_append] at hn2
 have hnew : ∀ (v : Zp) (qv : List Nat),Zs X1 v.gv (v.gs.map strv) qv→(∀ j∈qv,X0.length≤j∧j∉q)→Zs X2 v.gv (v.gs.map strv) qv∧∀ j∈qv,X0.length≤j∧j∉q':=fun v qv hv hj=>⟨hv.step s2 (fun j hm=>(hj j hm).2),fun j hm=>⟨(hj j hm).1,fun hq=>by
  rcases s2.own j hq with h2 | h2
  ·exact (hj j hm).2 h2
  ·have:=hv.lt j hm;omega⟩⟩
 refine ⟨_,X1,sl',X2,q',x4,x5,⟨hn2,hm2,fun v hv=>?_,fun a ha b hb i hai hbi=>?_⟩,l1.stepq.trans s2⟩
 ·rcases List.mem_append.1 hv with hv | hv
  ·obtain ⟨qv,a1,a2,a3⟩:=h1.u v hv
   obtain ⟨b1,b2⟩:=hnew v qv a1 a2
   exact ⟨qv,b1,b2,a3⟩
  ·have hv : v=w:=by simpa using hv
   subst hv
   obtain ⟨b1,b2⟩:=hnew v qu (hr.step l1.step (by simp)) hq
   exact ⟨qu,b1,b2,h6⟩
 ·rcases List.mem_append.1 ha with ha | ha <;> rcases List.mem_append.1 hb with hb | hb
  ·exact h.un a ha b hb i hai hbi
  ·have hb : b=w:=by simpa using hb
   rw [hb] at hbi
   exact absurd (hr.own_of hbi) (hfr a ha i hai)
  ·have ha : a=w:=by simpa using ha
   rw [ha] at hai
   exact absurd (hr.own_of hai) (hfr b hb i hbi)
  ·have ha : a=w:=by simpa using ha
   have hb : b=w:=by simpa using hb
   rw [ha,hb]
theorem K0.push {X0 : Zd} {sl : Value} {us : List Zp} {q qu : List Nat} {w : Zp} (h : K0 X0 X sl us q) (hl : us.length≤1000) (hr : Zs X w.gv (w.gs.map strv) qu) (hq : ∀ j∈qu,X0.length≤j∧j∉q) (h6 : w.gs.length≤100000) (hfr : ∀ a∈us,∀ i,own1 a.gv=some i→i∉qu) (hle : HLe X0 X) :
  ∃ x X1 sl' X2 q',bsl 5 1 (.agg #[.string ⟨#[]⟩,.string ⟨#[]⟩,.string ⟨#[]⟩,.bool false,.slice none 0 0]) [(0,5,.agg w.cells.toArray)] X=some (x,X1)∧app 5 80 sl x X1=some (sl',X2)∧K0 X0 X2 sl' (us++[w]) q'∧HLe X0 X2:=by
 obtain ⟨x,X1,sl',X2,q',a,b,c,e⟩:=h.push0 hl hr hq h6 hfr hle.len
 exact ⟨x,X1,sl',X2,q',a,b,c,(hle.more e h.o).1⟩
theorem ZsA {v : Value} {q0 : List Nat} {ks : List Tx} {X0 : Zd} (h : ND X0 d r s c) (hr : Zs X0 v (ks.map strv) q0) (hk : ks.length≤100) (hK : ∀ k∈ks,ZaM k s.A=0) : ∀ (t j : Nat) (sl : Value) (q : List Nat) (us : List Zp) (X : Zd),ks.length - j=t→j≤ks.length→us.length≤j→HLe X0 X→K0 X0 X sl us q→
  ∃ X' sl' q' us',Zj (c5 (YY.l1 (R (n+7)))) [pt d,sl,v,iv ks.length,iv j] X=some (.ext 0 [sl'],X')∧K0 X0 X' sl' (us++us') q'∧us'.map ZW=(ks.drop j).map (fun k=>Zak s k ((Zk k s.A).getD ([],false)))∧HLe X0 X'
 | 0,j,sl,q,us,X,ht,hj,hu,hl,ho=>by
  have : j=ks.length:=by omega
  subst this
  rw [List.drop_length]
  refine ⟨X,sl,q,[],ZD ?_,by rw [List.append_nil];exact ho,rfl,hl⟩
  rw [ZU]
  unfold YY.l1
  rw [Za Zg,Zb,if_neg (by simp)]
  rfl
 | t+1,j,sl,q,us,X,ht,hj,hu,hl,ho=>by
  have hjl : j < ks.length:=by omega
  have hlt : (j : Int) < ks.length:=by omega
  have hg:=List.getElem?_eq_getElem hjl
  have hd:=List.drop_eq_getElem_cons hjl
  generalize ks[j]=k at hg hd
  have hrx:=hr.step hl.step (by simp)
  have x1:=hrx.ix (i:=j) (by simpa using hjl) .i64 X
  have x2:=hrx.ldx (J9 hg)
  have he:=hK k (List.mem_of_getElem? hg)
  obtain ⟨w,qw,X1,e1,r1,o1,l1,h6,hkey⟩:=Zu4 (n:=n) (k:=k) (h.hle hl)
  rw [if_pos he] at hkey
  rw [he] at e1
  have ho1:=ho.hle l1
  have hone : w.cells.all oneCell=true:=by simp only [Zp.cells,List.all_cons,r1.one.1];rfl
  have z2 : ∀ K : Value→M Out,bind (alc 1 (.agg #[.string ⟨#[]⟩,.string ⟨#[]⟩,.string ⟨#[]⟩,.bool false,.slice none 0 0])) (fun p=>bind (stA 5 p (.agg w.cells.toArray)) fun _=>K p) X1=K (pt X1.length) (X1++[.cells w.cells 1 false false]):=fun K=>ZbW (n:=5) (zs:=[.string ⟨#[]⟩,.string ⟨#[]⟩,.string ⟨#[]⟩,.bool false,.slice none 0 0]) (r:=w.cells) rfl rfl rfl hone
  have k2 : HLe X1 (X1++[Zc.cells w.cells 1 false false]):=.app _ _
  have c2 : (X1++[Zc.cells w.cells 1 false false])[X1.length]?=some (.cells w.cells 1 false false):=Zm
  generalize X1++[Zc.cells w.cells 1 false false]=X2 at z2 k2 c2
  have d2 : ldA 5 (pt X1.length) X2=some (.agg w.cells.toArray,X2):=ZE (n:=5) c2 rfl
  have hq : ∀ i∈qw,X0.length≤i∧i∉q:=fun i hi=>by
   have h1:=o1 i hi
   have h2:=hl.len
   exact ⟨by omega,fun hm=>by have:=ho.r.lt i hm;omega⟩
  obtain ⟨y,X3,sl',X4,q',a1,a2,ho4,l4⟩:=(ho1.hle k2).push (by omega) (r1.step k2.step (by simp)) hq (by omega) (fun a ha i hi hm=>by obtain ⟨qa,b1,_,_⟩:=ho.u a ha;have h1:=b1.lt i (b1.own_of hi);have h2:=o1 i hm;omega) ((hl.trans l1).trans k2)
  obtain ⟨X5,sl5,q5,us5,e5,o5,u5,l5⟩:=ZsA h hr hk hK t (j+1) sl' q' (us++[w]) X4 (by omega) (by omega) (by rw [List.length_append,List.length_singleton];omega) l4 ho4
  refine ⟨X5,sl5,q5,w :: us5,(Zr ?_).trans e5,by rw [List.append_assoc] at o5;exact o5,?_,l5⟩
  ·rw [ZU]
   unfold YY.l1
   rw [Za Zg,Zb,if_pos (by simpa using hlt),Za x1,Za x2,Za e1,Za Zo,Za Zn,z2,Za d2,Za a1,Za a2,Za Zt,Qh (by omega)]
   rfl
  ·rw [hd,List.map_cons,List.map_cons,u5,hkey]
def allK (s : NSt) : List YS:=(Qs (Zbj s)).map fun k=>Zak s k ((Zk k s.A).getD ([],false))
theorem Zwm (h : ∀ p∈s.A,ZB p.1=true) {k : Tx} (hk : k∈Zbj s) : ZaM k s.A=0:=by
 obtain ⟨p,hp,rfl⟩:=List.mem_map.1 hk
 unfold ZaM
 rw [h p hp,ZhH,decide_eq_true (List.mem_map.2 ⟨p,hp,rfl⟩)]
 rfl
theorem ZyR (h : ND X d r s c) : ∃ v q us X',R (n+8) ZaR [pt d] X=some (v,X')∧K0 X X' v us q∧us.map ZW=allK s∧HLe X X':=by
 obtain ⟨v,q,X1,e1,r1,l1,o1⟩:=ZwP (n:=n+5) h
 have e1 : R (n+7) WX [pt d] X=_:=e1
 have hfew : (Qs (Zbj s)).length≤12:=by
  rw [ZcL]
  have:=h.inv.few
  simpa using this
 obtain ⟨X2,sl,q2,us,e2,o2,u2,l2⟩:=ZsA (n:=n) (h.hle l1) r1 (by omega) (fun k hk=>Zwm (fun p hp=>(h.inv.nm p hp).1) (Zbv.1 hk)) (Qs (Zbj s)).length 0 (.slice none 0 0) [] [] X1 (by omega) (by omega) (Nat.le_refl _) (.refl _) ⟨Qu.nil,by simp,by simp,by simp⟩
 have e2 : Zj (c5 (YY.l1 (R (n+7)))) [pt d,.slice none 0 0,v,iv (Qs (Zbj s)).length,.int .i64 0] X1=_:=e2
 rw [List.nil_append] at o2
 rw [List.drop_zero] at u2
 have hlen : ZH v X1=some (iv (Qs (Zbj s)).length,X1):=by have:=r1.rd.len (H':=X1);simpa using this
 have hx:=l1.len
 refine ⟨sl,q2,us,X2,?_,⟨o2.r,fun j hj=>Nat.le_trans hx (o2.o j hj),fun w hw=>?_,o2.un⟩,u2,l1.trans l2⟩
 ·rw [R,Zl2 rfl]
  unfold YY
  rw [Za e1,Za hlen,ZO e2,Zu]
  rfl
 ·obtain ⟨qu,a1,a2,a3⟩:=o2.u w hw
  exact ⟨qu,a1,fun j hj=>⟨Nat.le_trans hx (a2 j hj).1,(a2 j hj).2⟩,a3⟩
end
end Go.Proofs.YtedkoimihknggaaGreatDoor.A
namespace Go.Proofs.YtedkoimihknggaaGreatDoor.A
set_option linter.unusedVariables false
set_option linter.unusedSimpArgs false
open Go.Proofs Go.Proofs.YtedkoimihknggaaGreatDoor
def Zn6 (k h : Tx) (A : AMp) : Int:=if ZB k then (if KW h then (if (Zk k A).isSome then 9 else if 12≤A.length then 7 else 0) else 4) else 10
def ZsV (k h : Tx) (s : NSt) : NSt:=if Zn6 k h s.A=0 then { s with A:=JB k (h,false) s.A } else s
def Zs0 (k : Tx) (s : NSt) : NSt:=if ZaM k s.A=0 then { s with A:=Zbc k s.A,OW:=ZbT k s.OW s.OF,OF:=W1 k s.OF,mem:=ZyH k s.mem } else s
def Zzk (g : Tx) (s : NSt) : NSt:={ s with K:=Zhj g s.K }
def ZzF (g : Tx) (s : NSt) : NSt:={ s with K:=Zzx g s.K,mem:=if ZnH g s.K=0 then ZnV g s.mem else s.mem }
def Zs6 (g k : Tx) (A : AMp) : Int:=if ZB g then ZaM k A else 10
def ZxO (g k : Tx) (s : NSt) : Int:=if Zs6 g k s.A=0 then Zwo g k s.K s.mem else Zs6 g k s.A
def Zuv (g k : Tx) (s : NSt) : NSt:=if ZxO g k s=0 then { s with mem:=Zzb g k s.mem } else s
theorem Zef {α : Type} {k j : Tx} {v : α} {m : List (Tx × α)} (h : (Zk j m).isSome=true∨j=k) : (Zk j (JB k v m)).isSome=true:=by
 by_cases e : j=k
 ·rw [e,ZaD];rfl
 ·rw [WD e];exact h.resolve_right e
theorem Kn.putA {s : NSt} (h : Kn s) {k : Tx} {v : Acc} (hk : ZB k=true) (hv : KW v.1=true) (hl : (Zk k s.A).isSome=true∨s.A.length < 12) : Kn { s with A:=JB k v s.A } where
 nm p hp:=by
  rcases Zqq hp with rfl | hp
  ·exact ⟨hk,hv⟩
  ·exact h.nm p hp
 few:=by
  show (JB k v s.A).length≤12
  rw [Zg5]
  have:=h.few
  split
  ·exact this
  ·rename_i hn
   rcases hl with h1 | h1
   ·exact absurd h1 hn
   ·omega
 ofA n hn:=Zef (.inl (h.ofA n hn))
 memA g n hn:=Zef (.inl (h.memA g n hn))
 good:=h.good
theorem Zu0 {k h : Tx} {A : AMp} (he : Zn6 k h A=0) : ZB k=true∧KW h=true∧Zk k A=none∧A.length < 12:=by
 unfold Zn6 at he
 cases h1 : ZB k <;> cases h2 : KW h <;> rw [h1,h2] at he <;> try simp at he
 by_cases h3 : (Zk k A).isSome=true
 ·rw [if_pos h3] at he;simp at he
 ·rw [if_neg h3] at he
  by_cases h4 : 12≤A.length
  ·rw [if_pos h4] at he;simp at he
  ·exact ⟨rfl,rfl,by simpa using h3,by omega⟩
theorem Kn.create {s : NSt} (h : Kn s) (k x : Tx) : Kn (ZsV k x s):=by
 unfold ZsV
 split
 ·rename_i he
  obtain ⟨h1,h2,h3,h4⟩:=Zu0 he
  exact h.putA h1 h2 (.inr h4)
 ·exact h
theorem Kn.delete {s : NSt} (h : Kn s) (k : Tx) : Kn (Zs0 k s):=by
 unfold Zs0
 split
 ·exact {
   nm:=fun p hp=>h.nm p (List.mem_filter.1 hp).1
   few:=Nat.le_trans (List.length_filter_le _ _) h.few
   ofA:=fun n hn=>by
    have hne : n≠k:=fun e=>by rw [e,ZeT] at hn;cases hn
    show (Zk n (Zbc k s.A)).isSome=true
    rw [WE hne]
    rw [Zhe hne] at hn
    exact h.ofA n hn
   memA:=fun g n hn=>by
    have hn : (s.mem g n && !(n==k))=true:=hn
    simp only [Bool.and_eq_true,Bool.not_eq_true',beq_eq_false_iff_ne] at hn
    show (Zk n (Zbc k s.A)).isSome=true
    rw [WE hn.2]
    exact h.memA g n hn.1
   good:=fun n m hn=>by
    have hne : n≠k:=fun e=>by
     have hn : Zk n (W1 k s.OF)=some m:=hn
     rw [e,ZeT] at hn;cases hn
    have hn : Zk n (W1 k s.OF)=some m:=hn
    rw [Zhe hne] at hn
    exact h.good n m hn }
 ·exact h
theorem ZjX {k m : Tx} {OW OF : Yr} (he : Zaz k m OW=0) (n : Tx) : Zk n (Zhm k m OW OF)=if n=k then (if m=[] then none else some (QH m)) else Zk n OF:=by
 unfold Zhm
 rw [if_pos he]
 by_cases hm : m=[]
 ·rw [if_pos hm,if_pos hm]
  by_cases hn : n=k
  ·rw [if_pos hn,hn,ZeT]
  ·rw [if_neg hn,Zhe hn]
 ·rw [if_neg hm,if_neg hm]
  by_cases hn : n=k
  ·rw [if_pos hn,hn,ZaD]
  ·rw [if_neg hn,WD hn,Zhe hn]
theorem Kn.ofN {s : NSt} (h : Kn s) {t : Tx} (ht : Zk t s.A=none) : Zk t s.OF=none:=by
 cases ho : Zk t s.OF with
 | none=>rfl
 | some v=>
  have:=h.ofA t (by rw [ho];rfl)
  rw [ht] at this;cases this
theorem Kn.memN {s : NSt} (h : Kn s) {t : Tx} (ht : Zk t s.A=none) (g : Tx) : s.mem g t=false:=by
 cases ho : s.mem g t with
 | false=>rfl
 | true=>
  have:=h.memA g t ho
  rw [ht] at this;cases this
theorem Kn.make {s : NSt} (h : Kn s) (g : Tx) : Kn (Zzk g s):=⟨h.nm,h.few,h.ofA,h.memA,h.good⟩
theorem Kn.drop {s : NSt} (h : Kn s) (g : Tx) : Kn (ZzF g s):=by
 refine ⟨h.nm,h.few,h.ofA,fun k n hn=>?_,h.good⟩
 have hn : (if ZnH g s.K=0 then ZnV g s.mem else s.mem) k n=true:=hn
 split at hn
 ·unfold ZnV at hn
  simp only [Bool.and_eq_true] at hn
  exact h.memA k n hn.1
 ·exact h.memA k n hn
theorem Kn.leave {s : NSt} (h : Kn s) (g k : Tx) : Kn (Zuv g k s):=by
 unfold Zuv
 split
 ·refine ⟨h.nm,h.few,h.ofA,fun j n hn=>?_,h.good⟩
  have hn : (s.mem j n && !(j==g && n==k))=true:=hn
  simp only [Bool.and_eq_true] at hn
  exact h.memA j n hn.1
 ·exact h
end Go.Proofs.YtedkoimihknggaaGreatDoor.A
namespace Go.Proofs.YtedkoimihknggaaGreatDoor.A
set_option linter.unusedVariables false
set_option linter.unusedSimpArgs false
open Go.Proofs Go.Proofs.YtedkoimihknggaaGreatDoor
section
variable {X X' : Zd} {n d c c' : Nat} {r : NR} {s : NSt} {k h m t o g : Tx}
theorem NR.mem_b (r : NR) : r.b∈r.own:=by simp [NR.own]
theorem NR.mem_o (r : NR) : r.o∈r.own:=by simp [NR.own]
theorem NR.mem_a (r : NR) : r.a∈r.own:=by simp [NR.own]
theorem NR.mem_g (r : NR) : ∀ j∈YC r.o2 r.G,j∈r.own:=fun j hj=>by
 unfold NR.own
 exact List.mem_cons_of_mem _ (List.mem_cons_of_mem _ (List.mem_cons_of_mem _ hj))
theorem ND0.setA (hd : ND0 X d r s c) {A' : AMp} (m' : Ya Zb2 X' r.b A') (hs : Zw [r.b] X [r.b] X') : ND0 X' d r { s with A:=A' } c∧Zw r.own X r.own X':=by
 obtain ⟨h1,h2,h3,_,_⟩:=hd.dis
 have nb : ∀ {j},j∉r.own→j∉[r.b]:=fun hj e=>hj (by rw [List.mem_singleton.1 e];exact r.mem_b)
 refine ⟨⟨hs.get hd.cell (nb hd.dnot),m',hd.ix.step hs (nb hd.xnot) (by simpa using Ne.symm h1) (by simpa using Ne.symm h2),hd.gr.step hs (nb hd.gnot) (fun j hj e=>h3 ?_),hd.ks,hd.dis⟩,hs.mono2 (by simpa using r.mem_b)⟩
 rw [← List.mem_singleton.1 e];exact hj
theorem ND0.setI (hd : ND0 X d r s c) {OW' OF' : Yr} (i' : Idx X' r.x r.o r.a OW' OF') (hs : Zw [r.o,r.a] X [r.o,r.a] X') : ND0 X' d r { s with OW:=OW',OF:=OF' } c∧Zw r.own X r.own X':=by
 obtain ⟨h1,h2,h3,h4,h5⟩:=hd.dis
 have no : ∀ j∈[r.o,r.a],j∈r.own:=fun j hj=>by
  simp only [List.mem_cons,List.not_mem_nil,or_false] at hj
  rcases hj with rfl | rfl
  ·exact r.mem_o
  ·exact r.mem_a
 refine ⟨⟨hs.get hd.cell (fun e=>hd.dnot (no _ e)),hd.m.step hs (by simp [h1,h2]),i',hd.gr.step hs (fun e=>hd.gnot (no _ e)) (fun j hj e=>?_),hd.ks,hd.dis⟩,hs.mono2 no⟩
 simp only [List.mem_cons,List.not_mem_nil,or_false] at e
 rcases e with rfl | rfl
 ·exact h4 hj
 ·exact h5 hj
theorem ND0.setG (hd : ND0 X d r s c) {G' : Zhy} {mem' : Mem} {K' : List Tx} (g' : Grp X' r.g r.o2 G' mem' c') (hs : Zw (YC r.o2 r.G) X (YC r.o2 G') X') (hk : Js G'=K') : ND0 X' d { r with G:=G' } { s with K:=K',mem:=mem' } c'∧Zw r.own X (NR.own { r with G:=G' }) X':=by
 obtain ⟨h1,h2,h3,h4,h5⟩:=hd.dis
 have hb:=hd.isMap r.mem_b
 have ho:=hd.isMap r.mem_o
 have ha:=hd.isMap r.mem_a
 have new : ∀ j,j < X.length→j∉YC r.o2 r.G→j∉YC r.o2 G':=fun j hj hn hm=>by
  rcases hs.own j hm with e | e
  ·exact hn e
  ·omega
 refine ⟨⟨hs.get hd.cell (fun e=>hd.dnot (r.mem_g _ e)),hd.m.step hs h3,hd.ix.step hs (fun e=>hd.xnot (r.mem_g _ e)) h4 h5,g',hk,⟨h1,h2,new _ hb.1 h3,new _ ho.1 h4,new _ ha.1 h5⟩⟩,hs.more r.mem_g (fun j hj=>?_)⟩
 unfold NR.own at hj ⊢
 rcases List.mem_cons.1 hj with rfl | hj
 ·exact .inl (by simp)
 ·rcases List.mem_cons.1 hj with rfl | hj
  ·exact .inl (by simp)
  ·rcases List.mem_cons.1 hj with rfl | hj
   ·exact .inl (by simp)
   ·exact .inr (.inl hj)
theorem ND0.box (hd : ND0 X d r s c) {p : Nat} {X2 : Zd} {ob : Zc} (hle : HLe X X2) (hp : X.length≤p) : ND0 (X2.set p ob) d r s c:=by
 have hs : Zw [] X [] (X2.set p ob):=⟨by rw [List.length_set];exact hle.len,fun j hj hn=>by
  rw [List.getElem?_set_ne (by omega)]
  exact hle.step.keep j hj (by simp),fun j hj=>by cases hj⟩
 exact hd.step hs (by simp) (by simp) (by simp) (by simp)
end
end Go.Proofs.YtedkoimihknggaaGreatDoor.A

namespace Go.Proofs.YtedkoimihknggaaGreatDoor.A
set_option linter.unusedVariables false
set_option linter.unusedSimpArgs false
open Go.Proofs Go.Proofs.YtedkoimihknggaaGreatDoor
section
variable {X X' H0 : Zd} {n : Nat} {v : Value} {l : List Tx} {x s : Tx}
theorem ZzC {sl : Value} {rows : List Tx} {q : List Nat} {u : Tx} (hr : Zs X sl (rows.map strv) q) (hl : rows.length≤100000) (hq : ∀ j∈q,H0.length≤j) (h0 : HLe H0 X) :
  ∃ w X1 sl' X2 q',bsl 1 1 (.string ⟨#[]⟩) [(0,1,strv u)] X=some (w,X1)∧app 1 16 sl w X1=some (sl',X2)∧Zs X2 sl' ((rows++[u]).map strv) q'∧HLe H0 X2∧(∀ j∈q',H0.length≤j)∧Zw q X q' X2:=by
 have l1 : HLe X (X++[.cells [strv u] 1 false false]):=.app _ _
 have s1:=(Zm4 (x:=u) (H:=X)).rd
 have e1:=Ztv (x:=u) (H:=X)
 generalize X++[Zc.cells [strv u] 1 false false]=X1 at l1 s1 e1
 have hr1:=hr.step l1.step (by simp)
 obtain ⟨sl',X2,q',x5,hn2,s2,_⟩:=hr1.push (b:=16) s1 (by simp;omega) (by simp;omega)
 have hm:=(h0.trans l1).more s2 hq
 exact ⟨_,X1,sl',X2,q',e1,x5,by rw [List.map_append];exact hn2,hm.1,hm.2,(l1.step.more (by simp) (fun j hj=>.inl hj)).trans s2⟩
end
end Go.Proofs.YtedkoimihknggaaGreatDoor.A
namespace Go.Proofs.YtedkoimihknggaaGreatDoor.A
set_option linter.unusedVariables false
set_option linter.unusedSimpArgs false
open Go.Proofs Go.Proofs.YtedkoimihknggaaGreatDoor
abbrev Pr:=Tx × Tx
def prG (u : Pr) : List Value:=[strv u.1,strv u.2]
structure RG (X : Zd) (nv mv : Value) (N : List Tx) (M : List Pr) : Prop where
 n : ∃ q,Zs X nv (N.map strv) q
 m : ∃ q,Qu 2 X mv (M.map prG) q
section
variable {X X' H0 : Zd} {n : Nat} {v nv mv z1 z2 z3 z4 : Value} {N l : List Tx} {M : List Pr} {x s t k m : Tx}
theorem RG.hle (h : RG X nv mv N M) (hl : HLe X X') : RG X' nv mv N M:=⟨h.n.elim fun q h=>⟨q,h.step hl.step (by simp)⟩,h.m.elim fun q h=>⟨q,h.step hl.step (by simp)⟩⟩
theorem RG.sn (h : RG X nv mv N M) : Sl X nv (N.map strv):=h.n.elim fun q h=>h.rd
theorem RG.sm (h : RG X nv mv N M) : SlN 2 X mv (M.map prG):=h.m.elim fun q h=>h.rd
theorem RG.one (h : RG X nv mv N M) : ([nv,mv].all oneCell)=true∧nv.cells=#[nv]∧mv.cells=#[mv]:=by
 obtain ⟨q,hn⟩:=h.n
 obtain ⟨q',hm⟩:=h.m
 exact ⟨by simp [hn.one.1,hm.one.1],hn.one.2,hm.one.2⟩
theorem RG.lenM (h : RG X nv mv N M) (Y : Zd) : ZH mv Y=some (iv M.length,Y):=by have:=h.sm.len (H':=Y);simpa using this
theorem RG.box (h : RG X nv mv N M) (Y : Zd) : alc 1 (.agg #[nv,mv]) Y=some (pt Y.length,Y++[.cells [nv,mv] 1 false false]):=Zcq (vs:=[nv,mv]) h.one.1
theorem ZzQ (Y : Zd) : alc 1 (.agg #[.slice none 0 0,.slice none 0 0]) Y=some (pt Y.length,Y++[.cells [.slice none 0 0,.slice none 0 0] 1 false false]):=Zcq (vs:=[.slice none 0 0,.slice none 0 0]) rfl
theorem Qu.isS {es : Nat} {vs : List (List Value)} {q : List Nat} (h : Qu es X v vs q) : ∃ a n c,v=.slice a n c:=by
 rcases h with ⟨_,_,rfl⟩ | ⟨sid,rest,r,gr,rfl,_,_⟩
 ·exact ⟨_,_,_,rfl⟩
 ·exact ⟨_,_,_,rfl⟩
theorem ZmC (h : RG X nv mv N M) : ∃ X2,(∀ {β : Type} (K : Value→Value→A.M β),bind (alc 1 (.agg #[nv,mv])) (fun a=>bind (alc 1 (.agg #[.slice none 0 0,.slice none 0 0])) fun b=>K a b) X=K (pt X.length) (pt (X.length+1)) X2)∧X2[X.length]?=some (.cells [nv,mv] 1 false false)∧X2[X.length+1]?=some (.cells [.slice none 0 0,.slice none 0 0] 1 false false)∧HLe X X2∧X2.length=X.length+2:=by
 refine ⟨X++[.cells [nv,mv] 1 false false]++[.cells [.slice none 0 0,.slice none 0 0] 1 false false],fun K=>?_,Zbo,Zy1,(HLe.app _ _).trans (.app _ _),by simp⟩
 rw [Za (h.box X),Za (ZzQ _)]
 simp
theorem fin {b1 b2 : Nat} {a1 a2 c1 c2 : Value} (h1 : X[b1]?=some (.cells [a1,a2] 1 false false)) (h2 : X[b2]?=some (.cells [c1,c2] 1 false false)) (hn : b1≠b2) (ho : ([a1,a2].all oneCell)=true) {β : Type} (K : Value→A.M β) :
  bind (ldA 2 (pt b1)) (fun v=>bind (stA 2 (pt b2) v) fun _=>bind (ldA 2 (pt b2)) K) X=K (.agg #[a1,a2]) (X.set b2 (.cells [a1,a2] 1 false false)):=by
 have e1 : ldA 2 (pt b1) X=some (.agg #[a1,a2],X):=ZE h1 rfl
 have e2 : stA 2 (pt b2) (.agg #[a1,a2]) X=some (undef,X.set b2 (.cells [a1,a2] 1 false false)):=Ja (vs:=[a1,a2]) h2 rfl rfl ho
 have e3 : ldA 2 (pt b2) (X.set b2 (.cells [a1,a2] 1 false false))=some (.agg #[a1,a2],X.set b2 (.cells [a1,a2] 1 false false)):=ZE (ZI h2) rfl
 rw [Za e1,Za e2,Za e3]
theorem Zs.setB {vs : List Value} {q : List Nat} {b : Nat} {o : Zc} (h : Zs X v vs q) (hb : b∉q) : Zs (X.set b o) v vs q:=h.keep fun j hj=>List.getElem?_set_ne fun e=>hb (by rw [e];exact hj)
theorem Qu.setB {es : Nat} {vs : List (List Value)} {q : List Nat} {b : Nat} {o : Zc} (h : Qu es X v vs q) (hb : b∉q) : Qu es (X.set b o) v vs q:=h.keep fun j hj=>List.getElem?_set_ne fun e=>hb (by rw [e];exact hj)
end
end Go.Proofs.YtedkoimihknggaaGreatDoor.A
namespace Go.Proofs.YtedkoimihknggaaGreatDoor.A
set_option linter.unusedVariables false
set_option linter.unusedSimpArgs false
open Go.Proofs Go.Proofs.YtedkoimihknggaaGreatDoor
section
variable {X X' H0 : Zd} {n : Nat} {v nv mv z1 z2 z3 z4 : Value} {N l K : List Tx} {M : List Pr} {mem : Mem} {x s t k m : Tx}
end
end Go.Proofs.YtedkoimihknggaaGreatDoor.A
namespace Go.Proofs.YtedkoimihknggaaGreatDoor.A
set_option linter.unusedVariables false
set_option linter.unusedSimpArgs false
open Go.Proofs Go.Proofs.YtedkoimihknggaaGreatDoor
section
variable {X X' H0 : Zd} {n : Nat} {v nv mv z1 z2 z3 z4 : Value} {N l K : List Tx} {M : List Pr} {mem : Mem} {x s t k m : Tx}
end
end Go.Proofs.YtedkoimihknggaaGreatDoor.A

namespace Go.Proofs.YtedkoimihknggaaGreatDoor.A
set_option linter.unusedVariables false
set_option linter.unusedSimpArgs false
open Go.Proofs Go.Proofs.YtedkoimihknggaaGreatDoor
def Zdo (l : List Zp) : Prop:=l.Pairwise fun a b=>a.nm < b.nm
section
variable {x : Zp} {k s : List UInt8}
def ZbZ (u : Zp) : List Zp→Bool→List Zp
 | [],_=>[]
 | v :: l,done=>(if !done && decide (u.nm≤v.nm) then [u] else [])++((if v.nm≠u.nm then [v] else [])++ZbZ u l (done || decide (u.nm≤v.nm)))
def ZaJ (u : Zp) : List Zp→Bool→Bool
 | [],done=>done
 | v :: l,done=>ZaJ u l (done || decide (u.nm≤v.nm))
def putU (u : Zp) (l : List Zp) : List Zp:=ZbZ u l false++if ZaJ u l false then [] else [u]
theorem Zjw {u : Zp} : ∀ {l : List Zp},ZbZ u l true=l.filter fun v=>decide (v.nm≠u.nm)
 | []=>rfl
 | v :: l=>by
  unfold ZbZ
  rw [Bool.true_or,Zjw,List.filter_cons]
  by_cases h : v.nm=u.nm <;> simp [h]
theorem ZhT {u : Zp} : ∀ {l : List Zp},ZaJ u l true=true
 | []=>rfl
 | v :: l=>by unfold ZaJ;rw [Bool.true_or,ZhT]
theorem Zje {u v : Zp} {l : List Zp} : putU u (v :: l)=if u.nm≤v.nm then u :: (v :: l).filter (fun v=>decide (v.nm≠u.nm)) else v :: putU u l:=by
 have e1 : ZbZ u (v :: l) false=(if !false && decide (u.nm≤v.nm) then [u] else [])++((if v.nm≠u.nm then [v] else [])++ZbZ u l (false || decide (u.nm≤v.nm))):=rfl
 have e2 : ZaJ u (v :: l) false=ZaJ u l (false || decide (u.nm≤v.nm)):=rfl
 unfold putU
 rw [e1,e2]
 by_cases h : u.nm≤v.nm
 ·rw [if_pos h]
  simp only [h,decide_true,Bool.or_true,Zjw,ZhT,Bool.not_false,Bool.and_self,if_true,List.filter_cons]
  by_cases h2 : v.nm=u.nm <;> simp [h2]
 ·rw [if_neg h]
  have h2 : v.nm≠u.nm:=fun e=>h (by rw [e];exact List.le_refl _)
  simp [h,h2]
theorem ZfB {u : Zp} : ∀ {l : List Zp},x∈putU u l↔x=u∨(x∈l∧x.nm≠u.nm)
 | []=>by simp [putU,ZbZ,ZaJ]
 | v :: l=>by
  rw [Zje]
  by_cases h : u.nm≤v.nm
  ·rw [if_pos h,List.mem_cons,List.mem_filter];simp
  ·have h2 : v.nm≠u.nm:=fun e=>h (by rw [e];exact List.le_refl _)
   rw [if_neg h,List.mem_cons,ZfB,List.mem_cons]
   constructor
   ·rintro (rfl | h | h)
    ·exact .inr ⟨.inl rfl,h2⟩
    ·exact .inl h
    ·exact .inr ⟨.inr h.1,h.2⟩
   ·rintro (h | ⟨h | h,h3⟩)
    ·exact .inr (.inl h)
    ·exact .inl h
    ·exact .inr (.inr ⟨h,h3⟩)
theorem Zow {u : Zp} : ∀ {l : List Zp},Zdo l→Zdo (putU u l)
 | [],_=>by simp [putU,ZbZ,ZaJ,Zdo]
 | v :: l,hr=>by
  have hr2 : (∀ a∈l,v.nm < a.nm)∧Zdo l:=by simpa [Zdo] using hr
  rw [Zje]
  by_cases h : u.nm≤v.nm
  ·rw [if_pos h]
   refine List.pairwise_cons.2 ⟨fun a ha=>?_,List.Pairwise.filter _ hr⟩
   obtain ⟨h1,h2⟩:=List.mem_filter.1 ha
   have h2 : a.nm≠u.nm:=by simpa using h2
   have h3 : u.nm≤a.nm:=by
    rcases List.mem_cons.1 h1 with rfl | h1
    ·exact h
    ·exact List.le_trans h (List.le_of_lt (hr2.1 a h1))
   rcases ZgN u.nm a.nm with h4 | h4 | h4
   ·exact h4
   ·exact absurd h4.symm h2
   ·exact absurd h4 h3
  ·rw [if_neg h]
   refine List.pairwise_cons.2 ⟨fun a ha=>?_,Zow hr2.2⟩
   rcases ZfB.1 ha with rfl | ⟨h1,_⟩
   ·rcases ZgN v.nm a.nm with h4 | h4 | h4
    ·exact h4
    ·exact absurd (by rw [h4];exact List.le_refl _) h
    ·exact absurd (List.le_of_lt h4) h
   ·exact hr2.1 a h1
end
section
variable {H0 H X : Zd} {n d b : Nat} {ws : List Zp} {k s : List UInt8} {wv : Value}
theorem ZoQ {u : Zp} (h : oneCell u.gv=true) : u.cells.all oneCell=true:=by simp only [Zp.cells,List.all_cons,h];rfl
theorem ZcM {β : Type} {k : Value→M β} {sl : Value} {us : List Zp} (h : SlN 5 H sl (us.map Zp.cells)) {j : Nat} {u : Zp} (ho : oneCell u.gv=true) (hj : us[j]?=some u) :
  bind (ixa 5 sl (iv j)) (fun p=>bind (ldA 5 p) fun v=>bind (alc 1 (.agg #[.string ⟨#[]⟩,.string ⟨#[]⟩,.string ⟨#[]⟩,.bool false,.slice none 0 0])) fun q=>bind (stA 5 q v) fun _=>k q) H=k (pt H.length) (H++[.cells u.cells 1 false false]):=by
 have hr : (us.map Zp.cells)[j]?=some u.cells:=by rw [List.getElem?_map,hj];rfl
 rw [h.fetch hr (by omega) .i64]
 exact ZbW (n:=5) (zs:=[.string ⟨#[]⟩,.string ⟨#[]⟩,.string ⟨#[]⟩,.bool false,.slice none 0 0]) (r:=u.cells) rfl rfl rfl (ZoQ ho)
theorem Zzm {a c : List UInt8} {H : Zd} : bop .str .leq (strv a) (strv c) H=some (.bool (decide (a≤c)),H):=by
 have h : (Op.bytesLess a c || a==c)=decide (a≤c):=by
  rw [bytesLess_eq,Bool.eq_iff_iff]
  simp only [Bool.or_eq_true,decide_eq_true_eq,beq_iff_eq]
  constructor
  ·rintro (h | h)
   ·exact List.le_of_lt h
   ·rw [h];exact List.le_refl _
  ·intro h
   rcases ZgN a c with h4 | h4 | h4
   ·exact .inl h4
   ·exact .inr h4
   ·exact absurd h4 h
 rw [← h]
 show (sop .leq (⟨a.toArray⟩ : ByteArray) (⟨c.toArray⟩ : ByteArray)).map (·,H)=_
 unfold sop
 rw [Kz,Kz]
 rfl
end
end Go.Proofs.YtedkoimihknggaaGreatDoor.A
namespace Go.Proofs.YtedkoimihknggaaGreatDoor.A
set_option linter.unusedVariables false
set_option linter.unusedSimpArgs false
open Go.Proofs Go.Proofs.YtedkoimihknggaaGreatDoor
structure Zyu (s : NSt) : Prop where
 nod : s.K.Nodup
 out : ∀ k n,s.mem k n=true→k∈s.K
 few : s.K.length≤6
structure ROK (s : NSt) (us : List Zp) : Prop where
 rise : Zdo us
 look : ∀ key : YS,key∈us.map ZW↔YF s key.1=some key
section
variable {X : Zd} {d c : Nat} {r : NR} {s s' : NSt} {us ws : List Zp} {u : Zp} {k h m n o t g : Tx} {key : YS}
theorem ND0.kn (hd : ND0 X d r s c) : Zyu s:=⟨by rw [← hd.ks];exact hd.gr.mo.nod,fun k n hk=>by
 have:=hd.gr.out k n hk
 rw [ZhH,decide_eq_true_eq] at this
 rw [← hd.ks];exact this,by rw [← hd.ks,List.length_map];exact hd.gr.few⟩
theorem Zad : key∈us.map ZW↔∃ u∈us,ZW u=key:=List.mem_map
theorem ROK.put (h : ROK s us) (h1 : YF s' u.nm=some (ZW u)) (h2 : ∀ n,n≠u.nm→YF s' n=YF s n) : ROK s' (putU u us):=by
 refine ⟨Zow h.rise,fun key=>?_⟩
 rw [Zad]
 constructor
 ·rintro ⟨v,hv,rfl⟩
  rcases ZfB.1 hv with rfl | ⟨hv,hne⟩
  ·exact h1
  ·have:=(h.look (ZW v)).1 (Zad.2 ⟨v,hv,rfl⟩)
   rw [show (ZW v).1=v.nm from rfl] at this ⊢
   rw [h2 _ hne];exact this
 ·intro hk
  by_cases e : key.1=u.nm
  ·rw [e,h1] at hk
   exact ⟨u,ZfB.2 (.inl rfl),Option.some.inj hk⟩
  ·rw [h2 _ e] at hk
   obtain ⟨v,hv,rfl⟩:=Zad.1 ((h.look key).2 hk)
   exact ⟨v,ZfB.2 (.inr ⟨hv,e⟩),rfl⟩
theorem ROK.drop (h : ROK s us) (h1 : YF s' k=none) (h2 : ∀ n,n≠k→YF s' n=YF s n) : ROK s' (us.filter fun v=>decide (v.nm≠k)):=by
 refine ⟨List.Pairwise.filter _ h.rise,fun key=>?_⟩
 rw [Zad]
 constructor
 ·rintro ⟨v,hv,rfl⟩
  obtain ⟨hv,hne⟩:=List.mem_filter.1 hv
  have hne : v.nm≠k:=by simpa using hne
  have:=(h.look (ZW v)).1 (Zad.2 ⟨v,hv,rfl⟩)
  rw [show (ZW v).1=v.nm from rfl] at this ⊢
  rw [h2 _ hne];exact this
 ·intro hk
  have e : key.1≠k:=fun e=>by rw [e,h1] at hk;cases hk
  rw [h2 _ e] at hk
  obtain ⟨v,hv,rfl⟩:=Zad.1 ((h.look key).2 hk)
  exact ⟨v,List.mem_filter.2 ⟨hv,decide_eq_true e⟩,rfl⟩
theorem ROK.at (h : ROK s us) (hu : u∈us) : YF s u.nm=some (ZW u):=(h.look (ZW u)).1 (Zad.2 ⟨u,hu,rfl⟩)
theorem Zdo.nodup (h : Zdo us) : (us.map (·.nm)).Nodup:=by
 unfold Zdo at h
 rw [List.nodup_iff_pairwise_ne,List.pairwise_map]
 refine h.imp ?_
 intro a b hab e
 rw [e] at hab
 exact Zm3 hab
theorem ROK.len (h : ROK s us) (hn : (Zbj s).Nodup) : us.length=s.A.length:=by
 have hp : (us.map (·.nm)).Perm (Zbj s):=(List.perm_ext_iff_of_nodup h.rise.nodup hn).2 fun x=>by
  rw [List.mem_map,List.mem_map]
  constructor
  ·rintro ⟨v,hv,rfl⟩
   have:=h.at hv
   unfold YF at this
   cases ha : Zk v.nm s.A with
   | none=>rw [ha] at this;cases this
   | some p=>exact ⟨_,Zae ha,rfl⟩
  ·rintro ⟨p,hp,rfl⟩
   have ha : Zk p.1 s.A=some p.2:=Zaf hn hp
   obtain ⟨v,hv,he⟩:=Zad.1 ((h.look (Zak s p.1 p.2)).2 (by
    show YF s p.1=_
    unfold YF;rw [ha];rfl))
   exact ⟨v,hv,congrArg (·.1) he⟩
 have:=hp.length_eq
 simpa using this
theorem Zw5 : ∀ {l l' : List YS},l.Pairwise (fun a b=>a.1 < b.1)→l'.Pairwise (fun a b=>a.1 < b.1)→(∀ x,x∈l↔x∈l')→l=l':=by
 intro l l' h h' hm
 have nd : ∀ {l : List YS},l.Pairwise (fun a b=>a.1 < b.1)→l.Nodup:=fun h=>by
  rw [List.nodup_iff_pairwise_ne]
  refine List.Pairwise.imp ?_ h
  rintro a b hab rfl
  exact List.lt_irrefl _ hab
 have hp : l.Perm l':=(List.perm_ext_iff_of_nodup (nd h) (nd h')).2 hm
 exact List.Perm.eq_of_pairwise (le:=fun a b=>a.1 < b.1) (fun a b _ _ h1 h2=>absurd h2 (List.lt_asymm h1)) h h' hp
theorem ZoM (hn : (Zbj s).Nodup) : (allK s).Pairwise fun a b=>a.1 < b.1:=by
 unfold allK
 rw [List.pairwise_map]
 exact ZjS hn
theorem Zqd (hn : (Zbj s).Nodup) : key∈allK s↔YF s key.1=some key:=by
 unfold allK
 rw [List.mem_map]
 constructor
 ·rintro ⟨k,hk,rfl⟩
  obtain ⟨p,hp,rfl⟩:=List.mem_map.1 (Zbv.1 hk)
  have ha : Zk p.1 s.A=some p.2:=Zaf hn hp
  show YF s p.1=_
  unfold YF
  rw [ha];rfl
 ·intro hk
  unfold YF at hk
  cases ha : Zk key.1 s.A with
  | none=>rw [ha] at hk;cases hk
  | some p=>
   rw [ha] at hk
   refine ⟨key.1,Zbv.2 (List.mem_map.2 ⟨_,Zae ha,rfl⟩),?_⟩
   rw [ha]
   exact Option.some.inj hk
theorem ROK.all (h : ROK s us) (hn : (Zbj s).Nodup) : us.map ZW=allK s:=by
 refine Zw5 ?_ (ZoM hn) fun key=>(h.look key).trans (Zqd hn).symm
 rw [List.pairwise_map]
 exact h.rise
end
end Go.Proofs.YtedkoimihknggaaGreatDoor.A
namespace Go.Proofs.YtedkoimihknggaaGreatDoor.A
set_option linter.unusedVariables false
set_option linter.unusedSimpArgs false
open Go.Proofs Go.Proofs.YtedkoimihknggaaGreatDoor
def UOK (X : Zd) (u : Zp) : Prop:=Sl X u.gv (u.gs.map strv)∧oneCell u.gv=true∧u.gs.length≤1000000
structure RD (X : Zd) (uv gv : Value) (s : NSt) : Prop where
 ex : ∃ us,QV X uv us∧ROK s us
 n : ∃ q N,Zs X gv (N.map strv) q∧Is N (·∈s.K)
structure ZlE (s : NSt) : Prop where
 i : Kn s
 k : Zyu s
 n : (Zbj s).Nodup
 x : Inv s.OW s.OF
theorem ND.pinv {X : Zd} {d c : Nat} {r : NR} {s : NSt} (h : ND X d r s c) : ZlE s:=⟨h.inv,h.toND0.kn,h.m.nod,h.ix.inv⟩
def ZzR (k h : List UInt8) : Zp:=⟨k,h,[],false,.slice none 0 0,[]⟩
abbrev Zw1 : Zp:=ZzR [] []
section
variable {X X' Y H0 : Zd} {n : Nat} {uv gv v : Value} {us : List Zp} {s : NSt} {k h m o t g : Tx} {u w : Zp} {β : Type}
theorem UOK.hle (h : UOK X u) (hl : HLe X X') : UOK X' u:=⟨h.1.mono hl,h.2⟩
theorem QV.ok (h : QV X uv us) (hu : u∈us) : UOK X u:=h.2 u hu
theorem QV.one (h : QV X uv us) : oneCell uv=true:=h.1.one.1
theorem Zs.hle {vs : List Value} {q : List Nat} (h : Zs X v vs q) (hl : HLe X X') : Zs X' v vs q:=h.step hl.step (by simp)
theorem RD.hle (h : RD X uv gv s) (hl : HLe X X') : RD X' uv gv s:=⟨h.ex.imp fun us ⟨a,b⟩=>⟨a.mono hl,b⟩,h.n.imp fun q ⟨N,a,b⟩=>⟨N,a.hle hl,b⟩⟩
abbrev zD : Value:=.agg #[.slice none 0 0,.slice none 0 0]
abbrev zU : Value:=.agg #[.string ⟨#[]⟩,.string ⟨#[]⟩,.string ⟨#[]⟩,.bool false,.slice none 0 0]
end
end Go.Proofs.YtedkoimihknggaaGreatDoor.A
namespace Go.Proofs.YtedkoimihknggaaGreatDoor.A
set_option linter.unusedVariables false
set_option linter.unusedSimpArgs false
open Go.Proofs Go.Proofs.YtedkoimihknggaaGreatDoor
section
variable {X X' Y H0 : Zd} {n : Nat} {uv gv v : Value} {us : List Zp} {s : NSt} {k h m o t g : Tx} {u w : Zp} {β : Type}
def ZeA (v : Value) : Prop:=∃ a n c,v=.slice a n c
theorem ZeA.one (h : ZeA v) : oneCell v=true:=by
 obtain ⟨a,n,c,rfl⟩:=h;rfl
theorem ZnI {x : Tx} (h : ZeA (strv x)) : False:=by
 obtain ⟨a,n,c,h⟩:=h
 cases h
theorem Sl.setD {l : List Tx} {b : Nat} {c1 c2 d1 d2 : Value} (h : Sl Y v (l.map strv)) (hb : Y[b]?=some (.cells [c1,c2] 1 false false)) (i1 : ZeA c1) (i2 : ZeA c2) : Sl (Y.set b (.cells [d1,d2] 1 false false)) v (l.map strv):=by
 by_cases ho : own1 v=some b
 ·obtain ⟨a,c,rfl,h0,hf⟩:=h
  unfold own1 at ho
  split at ho
  ·rename_i id o n x e
   cases e
   cases ho
   have hl : l=[]:=by
    unfold Qq at hf
    simp only [hb] at hf
    split at hf
    ·have hf:=Option.some.inj hf
     cases l with
     | nil=>rfl
     | cons y l=>
      have hm : strv y∈([c1,c2].drop o).take ((List.map strv (y :: l)).length * 1):=by rw [hf];simp
      have hm:=List.mem_of_mem_drop (List.mem_of_mem_take hm)
      simp only [List.mem_cons,List.not_mem_nil,or_false] at hm
      rcases hm with hm | hm
      ·rw [← hm] at i1;exact (ZnI i1).elim
      ·rw [← hm] at i2;exact (ZnI i2).elim
    ·cases hf
   subst hl
   refine ⟨_,c,rfl,(fun e=>by cases e),?_⟩
   unfold Qq at hf ⊢
   simp only [hb,ZI hb] at hf ⊢
   split at hf
   ·rename_i hle
    rw [if_pos (by simpa using hle)]
    simp
   ·cases hf
  ·cases ho
 ·exact h.keep fun id hid=>List.getElem?_set_ne (fun e=>ho (by rw [hid,e]))
theorem SlN.setD {rows : List (List Value)} {b : Nat} {c1 c2 d1 d2 : Value} (h : SlN 5 Y v rows) (hb : Y[b]?=some (.cells [c1,c2] 1 false false)) : SlN 5 (Y.set b (.cells [d1,d2] 1 false false)) v rows:=by
 by_cases ho : own1 v=some b
 ·obtain ⟨a,c,rfl,h0,hf,hr⟩:=h
  unfold own1 at ho
  split at ho
  ·rename_i id o n x e
   cases e
   cases ho
   unfold Qq at hf
   simp only [hb] at hf
   split at hf
   ·rename_i hle
    have hl : rows.length=0:=by
     simp only [List.length_cons,List.length_nil] at hle
     omega
    have hl : rows=[]:=List.eq_nil_of_length_eq_zero hl
    subst hl
    refine ⟨_,c,rfl,(fun e=>by cases e),?_,hr⟩
    unfold Qq
    simp only [ZI hb]
    rw [if_pos (by simpa using hle)]
    simp
   ·cases hf
  ·cases ho
 ·exact h.keep fun id hid=>List.getElem?_set_ne (fun e=>ho (by rw [hid,e]))
theorem QV.setD {b : Nat} {c1 c2 d1 d2 : Value} (h : QV Y v us) (hb : Y[b]?=some (.cells [c1,c2] 1 false false)) (i1 : ZeA c1) (i2 : ZeA c2) : QV (Y.set b (.cells [d1,d2] 1 false false)) v us:=
 ⟨h.1.setD hb,fun u hu=>⟨(h.2 u hu).1.setD hb i1 i2,(h.2 u hu).2⟩⟩
theorem Zs.setD {l : List Tx} {q : List Nat} {b : Nat} {c1 c2 d1 d2 : Value} (h : Zs Y v (l.map strv) q) (hb : Y[b]?=some (.cells [c1,c2] 1 false false)) (i1 : ZeA c1) (i2 : ZeA c2) : Zs (Y.set b (.cells [d1,d2] 1 false false)) v (l.map strv) q:=by
 rcases h with ⟨h1,rfl,rfl⟩ | ⟨sid,rest,gr,rfl,rfl,hid⟩
 ·exact .inl ⟨h1,rfl,rfl⟩
 ·by_cases e : b=sid
  ·subst e
   rw [hb] at hid
   injection hid with hid
   injection hid with hc h2 h3 h4
   cases l with
   | nil=>
    have hc : [c1,c2]=rest:=by simpa using hc
    subst hc
    exact .inr ⟨b,[d1,d2],gr,rfl,rfl,by rw [ZI hb,h3];rfl⟩
   | cons y l=>
    rw [List.map_cons,List.cons_append] at hc
    injection hc with hc _
    rw [hc] at i1
    exact (ZnI i1).elim
  ·exact .inr ⟨sid,rest,gr,rfl,rfl,(List.getElem?_set_ne e).trans hid⟩
theorem ZzN : ZeA (.slice none 0 0):=⟨_,_,_,rfl⟩
theorem RD.back (hR : RD X uv gv s) {s' : NSt} (hl : HLe X X') (he : s'=s) : RD X' uv gv s':=by rw [he];exact hR.hle hl
end
end Go.Proofs.YtedkoimihknggaaGreatDoor.A
namespace Go.Proofs.YtedkoimihknggaaGreatDoor.A
set_option linter.unusedVariables false
set_option linter.unusedSimpArgs false
open Go.Proofs Go.Proofs.YtedkoimihknggaaGreatDoor
section
variable {X X' Y H0 : Zd} {n : Nat} {uv gv v : Value} {us : List Zp} {s : NSt} {k h m o t g x : Tx} {u w : Zp} {β : Type} {l : List Tx}
theorem Zp1 (hl : l.length≤1000000) (hs : Sl X v (l.map strv)) : ∀ (t j : Nat),l.length - j=t→j≤l.length→
  Zj (c4 (Wf.l1 (R n))) [strv x,v,iv l.length,iv j] X=some (if x∈l.drop j then .ret (.bool true) else .ext 0 [],X)
 | 0,j,ht,hj=>by
  rw [List.drop_eq_nil_of_le (by omega)]
  refine ZD ?_
  rw [ZC,show j=l.length by omega]
  unfold Wf.l1
  rw [Za Zg,Zb,if_neg (by simp)]
  rfl
 | t+1,j,ht,hj=>by
  have hkl : j < l.length:=by omega
  have hlt : (j : Int) < l.length:=by omega
  have hg:=List.getElem?_eq_getElem hkl
  have hd:=List.drop_eq_getElem_cons hkl
  generalize l[j]=y at hg hd
  have x1:=hs.ix (i:=j) (by simpa using hkl) .i64 X
  have x2:=hs.ldx (J9 hg)
  have x3 : bop .str .eql (strv y) (strv x) X=some (.bool (y==x),X):=Zd1
  rw [hd]
  by_cases hyx : y=x
  ·rw [if_pos (by simp [hyx])]
   refine Qc ?_
   rw [ZC]
   unfold Wf.l1
   rw [Za Zg,Zb,if_pos (by simpa using hlt),Za x1,Za x2,Za x3,Zb,if_pos (by simpa using hyx)]
   rfl
  ·have : (x∈y :: l.drop (j+1))↔x∈l.drop (j+1):=by simp [Ne.symm hyx]
   simp only [this]
   refine (Zr ?_).trans (Zp1 hl hs t (j+1) (by omega) (by omega))
   rw [ZC]
   unfold Wf.l1
   rw [Za Zg,Zb,if_pos (by simpa using hlt),Za x1,Za x2,Za x3,Zb,if_neg (by simpa using hyx),Za Zt,Qh (by omega)]
   rfl
theorem Zye (hl : l.length≤1000000) (hs : Sl X v (l.map strv)) : R (n+1) Ze2 [v,strv x] X=some (.bool (decide (x∈l)),X):=by
 have e:=Zp1 (n:=n) (x:=x) hl hs l.length 0 (by omega) (by omega)
 rw [show iv ((0 : Nat) : Int)=.int .i64 0 from rfl,List.drop_zero] at e
 have hlen : ZH v X=some (iv l.length,X):=by have:=hs.len (H':=X);simpa using this
 rw [R,ZqL rfl]
 unfold Wf
 rw [Za hlen]
 by_cases h : x∈l
 ·rw [if_pos h] at e
  rw [QI e,decide_eq_true h];rfl
 ·rw [if_neg h] at e
  rw [ZO e,Zu,decide_eq_false h];rfl
end
end Go.Proofs.YtedkoimihknggaaGreatDoor.A
namespace Go.Proofs.YtedkoimihknggaaGreatDoor.A
set_option linter.unusedVariables false
set_option linter.unusedSimpArgs false
open Go.Proofs Go.Proofs.YtedkoimihknggaaGreatDoor
section
variable {X X' Y H0 : Zd} {n : Nat} {uv gv v : Value} {us : List Zp} {s s' : NSt} {k h m o t g x : Tx} {u w : Zp} {β : Type} {l : List Tx}
theorem ROK.gs (hO : ROK s us) (hP : ZlE s) (hu : u∈us) : u.gs=ofL u.nm s.K s.mem∧u.gs.length≤6:=by
 have hat:=hO.at hu
 unfold YF at hat
 cases ha : Zk u.nm s.A with
 | none=>rw [ha] at hat;cases hat
 | some p=>
  rw [ha] at hat
  have h1 : u.gs=ofL u.nm s.K s.mem:=congrArg (·.2.2.2.2) (Option.some.inj hat).symm
  refine ⟨h1,?_⟩
  rw [h1]
  exact Nat.le_trans Zok hP.k.few
end
end Go.Proofs.YtedkoimihknggaaGreatDoor.A
namespace Go.Proofs.YtedkoimihknggaaGreatDoor.A
set_option linter.unusedVariables false
set_option linter.unusedSimpArgs false
open Go.Proofs Go.Proofs.YtedkoimihknggaaGreatDoor
section
variable {X X' Y H0 : Zd} {n : Nat} {uv gv v : Value} {us : List Zp} {s s' : NSt} {k h m o t g x : Tx} {u w : Zp} {β : Type} {l : List Tx}
end
end Go.Proofs.YtedkoimihknggaaGreatDoor.A

namespace Go.Proofs.YtedkoimihknggaaGreatDoor.A
set_option linter.unusedVariables false
set_option linter.unusedSimpArgs false
open Go.Proofs Go.Proofs.YtedkoimihknggaaGreatDoor
def ZbC (m : Tx) : Bool:=m==[] || (Wk m && QH m==m)
def Jn : List Tx→Bool
 | a :: b :: l=>decide (a < b) && Jn (b :: l)
 | _=>true
def Zc3 (gs : List Tx) : Int:=if 6 < gs.length then 7 else if gs.all ZB then (if Jn gs then 0 else 9) else 10
def QT (u : Zp) : Int:=if ZB u.nm then (if KW u.hs then (if ZbC u.ml then Zc3 u.gs else 11) else 4) else 10
section
variable {X X' H H0 : Zd} {n p : Nat} {v sl : Value} {l gs : List Tx} {m : Tx} {u : Zp}
theorem ZbB {a b : Tx} : Jn (a :: b :: l)=(decide (a < b) && Jn (b :: l)):=rfl
theorem ZmS (hl : l.length≤1000000) (hs : Sl X v (l.map strv)) : ∀ (t j : Nat),l.length - j=t→j≤l.length→
  Zj (c4 (Jh.l1 (R (n+5)))) [v,v,iv l.length,iv j] X=some (if (l.drop j).all ZB then .ext 0 [v] else .ret (iv 10),X)
 | 0,j,ht,hj=>by
  rw [List.drop_eq_nil_of_le (by omega)]
  refine ZD ?_
  rw [ZC,show j=l.length by omega]
  unfold Jh.l1
  rw [Za Zg,Zb,if_neg (by simp)]
  rfl
 | t+1,j,ht,hj=>by
  have hkl : j < l.length:=by omega
  have hlt : (j : Int) < l.length:=by omega
  have hg:=List.getElem?_eq_getElem hkl
  have hd:=List.drop_eq_getElem_cons hkl
  generalize l[j]=y at hg hd
  have x1:=hs.ix (i:=j) (by simpa using hkl) .i64 X
  have x2:=hs.ldx (J9 hg)
  have e1 : R (n+5) JM [strv y] X=some (iv (Z7 y),X):=ZdH
  rw [hd,List.all_cons]
  cases hn : ZB y
  ·have he : Z7 y=10:=by unfold Z7;rw [hn];rfl
   rw [he] at e1
   refine Qc ?_
   rw [ZC]
   unfold Jh.l1
   rw [Za Zg,Zb,if_pos (by simpa using hlt),Za x1,Za x2,Za e1,Za Zq,Zb,if_pos (by simp)]
   rfl
  ·have he : Z7 y=0:=Zew.2 hn
   rw [he] at e1
   rw [Bool.true_and]
   refine (Zr ?_).trans (ZmS hl hs t (j+1) (by omega) (by omega))
   rw [ZC]
   unfold Jh.l1
   rw [Za Zg,Zb,if_pos (by simpa using hlt),Za x1,Za x2,Za e1,Za Zq,Zb,if_neg (by simp),Za Zt,Qh (by omega)]
   rfl
theorem ZoE (hl : l.length≤1000000) (hs : Sl X v (l.map strv)) : ∀ (t j : Nat),l.length - j=t→1≤j→(j≤l.length∨j=1)→
  Zj (c2 (Jh.l2 (R n))) [v,iv j] X=some (if Jn (l.drop (j - 1)) then .ext 2 [] else .ret (iv 9),X)
 | 0,j,ht,hj,hj2=>by
  have hr : Jn (l.drop (j - 1))=true:=by
   have h1 : (l.drop (j - 1)).length≤1:=by rw [List.length_drop];omega
   match l.drop (j - 1),h1 with
   | [],_=>rfl
   | [a],_=>rfl
  have hlen : ZH v X=some (iv l.length,X):=by have:=hs.len (H':=X);simpa using this
  rw [hr]
  refine ZD ?_
  rw [ZP]
  unfold Jh.l2
  rw [Za hlen,Za Zg,Zb,if_neg (by simp;omega)]
  rfl
 | t+1,j,ht,hj,hj2=>by
  have hkl : j < l.length:=by omega
  have hlt : (j : Int) < l.length:=by omega
  have hlen : ZH v X=some (iv l.length,X):=by have:=hs.len (H':=X);simpa using this
  have hk0 : j - 1 < l.length:=by omega
  have hg:=List.getElem?_eq_getElem hkl
  have hg0:=List.getElem?_eq_getElem hk0
  have hd:=List.drop_eq_getElem_cons hkl
  have hd0:=List.drop_eq_getElem_cons hk0
  rw [show j - 1+1=j by omega,hd] at hd0
  generalize l[j]=y at hg hd hd0
  generalize l[j - 1]=y0 at hg0 hd0
  have x1:=hs.ix (i:=j) (by simpa using hkl) .i64 X
  have x2:=hs.ldx (J9 hg)
  have x3:=hs.ix (i:=j - 1) (by simpa using hk0) .i64 X
  have x4:=hs.ldx (J9 hg0)
  have w0 : IntKind.i64.wrap ((j : Int) - 1)=((j - 1 : Nat) : Int):=by rw [w64 (by omega) (by omega)];omega
  have q1 : bop .str .geq (strv y0) (strv y) X=some (.bool (!decide (y0 < y)),X):=ZpS
  rw [hd0,ZbB]
  by_cases hy : y0 < y
  ·rw [decide_eq_true hy] at q1 ⊢
   rw [Bool.true_and,← hd]
   have ih:=ZoE hl hs t (j+1) (by omega) (by omega) (by omega)
   rw [Nat.add_sub_cancel] at ih
   refine (Zr ?_).trans ih
   rw [ZP]
   unfold Jh.l2
   rw [Za hlen,Za Zg,Zb,if_pos (by simpa using hlt),Za Qr,w0,Za x3,Za x4,Za x1,Za x2,Za q1,Zb,if_neg (by simp),Za Zt,Qh (by omega)]
   rfl
  ·rw [decide_eq_false hy] at q1 ⊢
   refine Qc ?_
   rw [ZP]
   unfold Jh.l2
   rw [Za hlen,Za Zg,Zb,if_pos (by simpa using hlt),Za Qr,w0,Za x3,Za x4,Za x1,Za x2,Za q1,Zb,if_pos (by simp)]
   rfl
theorem ZrH (hl : l.length≤1000000) (hs : Sl X v (l.map strv)) : R (n+6) ZbM [v] X=some (iv (Zc3 l),X):=by
 have hlen : ZH v X=some (iv l.length,X):=by have:=hs.len (H':=X);simpa using this
 have e1:=ZmS (n:=n) hl hs l.length 0 (by omega) (by omega)
 have e2:=ZoE (n:=n+5) hl hs (l.length - 1) 1 rfl (Nat.le_refl _) (.inr rfl)
 rw [show iv ((0 : Nat) : Int)=.int .i64 0 from rfl,List.drop_zero] at e1
 rw [show iv ((1 : Nat) : Int)=.int .i64 1 from rfl,Nat.sub_self,List.drop_zero] at e2
 rw [R,Zn3 rfl]
 unfold Jh Zc3
 rw [Za hlen]
 by_cases h6 : 6 < l.length
 ·rw [Za ZF,Zb,if_pos (by simp;omega),if_pos h6];rfl
 ·rw [Za ZF,Zb,if_neg (by simp;omega),if_neg h6,Za hlen]
  cases ha : l.all ZB
  ·rw [ha] at e1
   rw [QI e1];rfl
  ·rw [ha] at e1
   rw [ZO e1,Zu,Jy]
   cases hr : Jn l
   ·rw [hr] at e2
    rw [QI e2];rfl
   ·rw [hr] at e2
    rw [ZO e2,Zu];rfl
theorem ZtD : ∃ X',R (n+9) Zdm [strv m] X=some (iv (if ZbC m then 0 else 11),X')∧HLe X X':=by
 have f1 : ∀ r X',Zc9 (R (n+8)) (strv m) X=some (r,X')→R (n+9) Zdm [strv m] X=some (r,X'):=fun r X' hr=>by rw [R,Zqh rfl];exact hr
 have q1 : bop .str .eql (strv m) (.string ⟨#[]⟩) X=some (.bool (m==[]),X):=Zd1 (b:=[])
 unfold ZbC
 by_cases hm : m=[]
 ·refine ⟨X,f1 _ _ ?_,.refl _⟩
  unfold Zc9
  rw [Za q1,Zb,if_pos (by simpa using hm)]
  simp [hm,ret]
 ·have hmb : (m==[])=false:=by simpa using hm
  obtain ⟨X1,e1,k1⟩:=Zug (n:=n) (s:=m) (X:=X)
  refine ⟨X1,f1 _ _ ?_,k1⟩
  unfold Zc9
  rw [hmb] at q1 ⊢
  rw [Za q1,Zb,if_neg (by simp),Za e1,Za Zo,Za Zn]
  cases hb : Wk m
  ·have q2 : bop .int .neq (iv 11) (.int .i64 0) X1=some (.bool true,X1):=by rw [Zq];rfl
   simp only [Bool.false_eq_true,if_false,Bool.false_and,Bool.or_false]
   rw [Za q2,Za (g_r.trans (if_neg (by simp)))]
   simp only [List.replicate]
   rw [ZX,Za Zh]
   simp only [cond_true]
   rw [Zb,if_pos rfl]
   rfl
  ·have q2 : bop .int .neq (iv 0) (.int .i64 0) X1=some (.bool false,X1):=by rw [Zq];rfl
   have q3 : bop .str .neq (strv (QH m)) (strv m) X1=some (.bool (!(QH m==m)),X1):=Zbf
   simp only [if_true,Bool.true_and,Bool.false_or]
   rw [Za q2,ZK,Zf,Za q3,ZQ,ZX,Za Zh]
   simp only [cond_false]
   cases hf : QH m==m
   ·rw [Zb,if_pos (by rfl)];rfl
   ·rw [Zb,if_neg (by simp)];rfl
theorem UOK.cells1 (h : UOK X u) : alc 1 (.agg u.cells.toArray) X=some (pt X.length,X++[.cells u.cells 1 false false]):=Zyy h.2.1
theorem Zfq (h : UOK X u) : ∃ X',R (n+10) Ye [iv 2,.agg u.cells.toArray] X=some (iv (QT u),X')∧HLe X X':=by
 have e1:=h.cells1
 have k1 : HLe X (X++[.cells u.cells 1 false false]):=.app _ _
 have c1 : (X++[Zc.cells u.cells 1 false false])[X.length]?=some (.cells u.cells 1 false false):=Zm
 generalize X++[Zc.cells u.cells 1 false false]=X1 at e1 k1 c1
 generalize X.length=p at e1 c1
 have a0 : ∀ Y,HLe X1 Y→∀ f x,u.cells[f]?=some x→ld1 (pa p f) Y=some (x,Y):=fun Y hl f x h=>ZN (hl _ _ c1) h
 have e2 : R (n+9) JM [strv u.nm] X1=some (iv (Z7 u.nm),X1):=ZdH (n:=n+4)
 have e3 : R (n+9) ZbP [strv u.hs] X1=some (iv (Yz u.hs),X1):=Zs9 (n:=n+5)
 have b2:=Zts (a:=Z7 u.nm) (c:=Yz u.hs) X1
 have k2 : HLe X1 (X1++[Zc.cells [iv (Z7 u.nm),iv (Yz u.hs)] 1 false false]):=.app _ _
 have s2 : Sl (X1++[Zc.cells [iv (Z7 u.nm),iv (Yz u.hs)] 1 false false]) (.slice (some ⟨X1.length,0,none⟩) 2 2) [iv (Z7 u.nm),iv (Yz u.hs)]:=Sl.one (vs:=[iv (Z7 u.nm),iv (Yz u.hs)]) (es:=1) (g:=false) (ro:=false) Zm
 generalize X1++[Zc.cells [iv (Z7 u.nm),iv (Yz u.hs)] 1 false false]=X2 at b2 k2 s2
 generalize X1.length=p2 at b2 s2
 have e4 : R (n+9) Wr [.slice (some ⟨p2,0,none⟩) 2 2] X2=_:=Zob (n:=n+8) s2
 have q1 : bop .int .neq (iv 2) (.int .i64 1) X1=some (.bool true,X1):=by rw [Zq];rfl
 have q2 : bop .int .neq (iv 2) (.int .i64 2) X1=some (.bool false,X1):=by rw [Zq];rfl
 have q3 : bop .int .eql (iv 2) (.int .i64 2) X2=some (.bool true,X2):=by rw [ZA];rfl
 have f1 : ∀ r X',W9 (R (n+9)) (iv 2) (.agg u.cells.toArray) X=some (r,X')→R (n+10) Ye [iv 2,.agg u.cells.toArray] X=some (r,X'):=fun r X' hr=>by rw [R,ZhN rfl];exact hr
 have hpre : ∀ K : Value→M Value,bind (alc 1 (.agg u.cells.toArray)) (fun v3=>bind (bop .int .neq (iv 2) (.int .i64 1)) fun v7=>bind (ZT v7 true 2 (bind (bop .int .neq (iv 2) (.int .i64 2)) fun v10=>ret [iv 2,v10])) (c2 fun _ q=>bind (pick v7 q (.bool false)) fun v11=>cnd v11 (ret (.int .i64 6)) (K v3))) X=K (pt p) X1:=fun K=>by
  rw [Za e1,Za q1,ZK,Zf,Za q2,ZQ,ZP,Za Zh]
  simp only [cond_true]
  rw [Zb,if_neg (by simp)]
 unfold QT
 cases hn : ZB u.nm
 ·have h0 : Z7 u.nm=10:=by unfold Z7;rw [hn];rfl
  refine ⟨X2,f1 _ _ ?_,k1.trans k2⟩
  unfold W9
  refine (hpre _).trans ?_
  rw [Za Zi,Za (a0 _ (.refl _) 0 _ rfl),Za Zi,Za (a0 _ (.refl _) 1 _ rfl),Za e2,Za (a0 _ (.refl _) 1 _ rfl),Qn,Za e3,Za b2,Za e4,h0,Za Zq,Zb,if_pos (by simp)]
  rfl
 ·have h0 : Z7 u.nm=0:=Zew.2 hn
  cases hs : KW u.hs
  ·have h1 : Yz u.hs=4:=by unfold Yz;rw [hs];rfl
   refine ⟨X2,f1 _ _ ?_,k1.trans k2⟩
   unfold W9
   refine (hpre _).trans ?_
   rw [Za Zi,Za (a0 _ (.refl _) 0 _ rfl),Za Zi,Za (a0 _ (.refl _) 1 _ rfl),Za e2,Za (a0 _ (.refl _) 1 _ rfl),Qn,Za e3,Za b2,Za e4,h0,h1,Za Zq,Zb,if_pos (by simp)]
   rfl
  ·have h1 : Yz u.hs=0:=Zqp.2 hs
   have k12:=k1.trans k2
   have s4:=(h.hle k12).1
   have hl6:=h.2.2
   obtain ⟨X3,e5,k3⟩:=ZtD (n:=n) (m:=u.ml) (X:=X2)
   have e6 : R (n+9) ZbM [u.gv] X3=_:=ZrH (n:=n+3) hl6 (s4.mono k3)
   have b7:=Zts (a:=if ZbC u.ml then 0 else 11) (c:=Zc3 u.gs) X3
   have k7 : HLe X3 (X3++[Zc.cells [iv (if ZbC u.ml then 0 else 11),iv (Zc3 u.gs)] 1 false false]):=.app _ _
   have s7 : Sl (X3++[Zc.cells [iv (if ZbC u.ml then 0 else 11),iv (Zc3 u.gs)] 1 false false]) (.slice (some ⟨X3.length,0,none⟩) 2 2) [iv (if ZbC u.ml then 0 else 11),iv (Zc3 u.gs)]:=Sl.one (vs:=[iv (if ZbC u.ml then 0 else 11),iv (Zc3 u.gs)]) (es:=1) (g:=false) (ro:=false) Zm
   generalize X3++[Zc.cells [iv (if ZbC u.ml then 0 else 11),iv (Zc3 u.gs)] 1 false false]=X7 at b7 k7 s7
   generalize X3.length=p7 at b7 s7
   have e8 : R (n+9) Wr [.slice (some ⟨p7,0,none⟩) 2 2] X7=_:=Zob (n:=n+8) s7
   refine ⟨X7,f1 _ _ ?_,(k12.trans k3).trans k7⟩
   unfold W9
   refine (hpre _).trans ?_
   rw [Za Zi,Za (a0 _ (.refl _) 0 _ rfl),Za Zi,Za (a0 _ (.refl _) 1 _ rfl),Za e2,Za (a0 _ (.refl _) 1 _ rfl),Qn,Za e3,Za b2,Za e4,h0,h1,Za Zq,Zb,if_neg (by simp),Za q3,Zb,if_pos rfl,Za Zi,Za (a0 _ k2 2 _ rfl),Za Zi,Za (a0 _ k2 4 _ rfl),Za e5,Za (a0 _ (k2.trans k3) 4 _ rfl),Qn,Za e6,Za b7,Za e8]
   cases hm : ZbC u.ml <;> simp [ret]
theorem ZuJ (hl : l.length≤1000000) (hs : Sl X v (l.map strv)) : ∀ (t j : Nat),l.length - j=t→j≤l.length→
  Zj (c4 (QE.l1 (R (n+3)))) [pt p,v,iv l.length,iv j] X=some (if (l.drop j).all ZB then .ext 0 [pt p] else .ret (iv 10),X)
 | 0,j,ht,hj=>by
  rw [List.drop_eq_nil_of_le (by omega)]
  refine ZD ?_
  rw [ZC,show j=l.length by omega]
  unfold QE.l1
  rw [Za Zg,Zb,if_neg (by simp)]
  rfl
 | t+1,j,ht,hj=>by
  have hkl : j < l.length:=by omega
  have hlt : (j : Int) < l.length:=by omega
  have hg:=List.getElem?_eq_getElem hkl
  have hd:=List.drop_eq_getElem_cons hkl
  generalize l[j]=y at hg hd
  have x1:=hs.ix (i:=j) (by simpa using hkl) .i64 X
  have x2:=hs.ldx (J9 hg)
  have e1 : R (n+3) YB [strv y] X=some (.bool (ZB y),X):=Zc5
  rw [hd,List.all_cons]
  cases hn : ZB y
  ·rw [hn] at e1
   refine Qc ?_
   rw [ZC]
   unfold QE.l1
   rw [Za Zg,Zb,if_pos (by simpa using hlt),Za x1,Za x2,Za e1,Za ZY,Zb,if_pos (by rfl)]
   rfl
  ·rw [hn] at e1
   rw [Bool.true_and]
   refine (Zr ?_).trans (ZuJ hl hs t (j+1) (by omega) (by omega))
   rw [ZC]
   unfold QE.l1
   rw [Za Zg,Zb,if_pos (by simpa using hlt),Za x1,Za x2,Za e1,Za ZY,Zb,if_neg (by simp),Za Zt,Qh (by omega)]
   rfl
theorem Zzt {a c : Tx} {H : Zd} : bop .str .leq (strv a) (strv c) H=some (.bool (!decide (c < a)),H):=by
 rw [Zzm]
 congr 3
 rw [Bool.eq_iff_iff]
 simp [List.not_lt]
def JH (l : List Tx) (j : Nat) : Bool:=if j=0 then Jn l else Jn (l.drop (j - 1))
theorem ZuH {gv : Value} (hl : u.gs.length≤1000000) (hs : Sl X u.gv (u.gs.map strv)) (c1 : X[p]?=some (.cells u.cells 1 false false)) : ∀ (t j : Nat),u.gs.length - j=t→j≤u.gs.length→
  Zj (c4 (QE.l2 (R n))) [pt p,u.gv,iv u.gs.length,iv j] X=some (if JH u.gs j then .ext 2 [] else .ret (iv 9),X)
 | 0,j,ht,hj=>by
  have hr : JH u.gs j=true:=by
   unfold JH
   by_cases h0 : j=0
   ·rw [if_pos h0]
    have : u.gs=[]:=List.eq_nil_of_length_eq_zero (by omega)
    rw [this];rfl
   ·rw [if_neg h0]
    have h1 : (u.gs.drop (j - 1)).length≤1:=by rw [List.length_drop];omega
    match u.gs.drop (j - 1),h1 with
    | [],_=>rfl
    | [a],_=>rfl
  rw [hr]
  refine ZD ?_
  rw [ZC,show j=u.gs.length by omega]
  unfold QE.l2
  rw [Za Zg,Zb,if_neg (by simp)]
  rfl
 | t+1,j,ht,hj=>by
  have hkl : j < u.gs.length:=by omega
  have hlt : (j : Int) < u.gs.length:=by omega
  have hg:=List.getElem?_eq_getElem hkl
  have hd:=List.drop_eq_getElem_cons hkl
  have x1:=hs.ix (i:=j) (by simpa using hkl) .i64 X
  have x2:=hs.ldx (J9 hg)
  have ih:=ZuH (gv:=gv) hl hs c1 t (j+1) (by omega) (by omega)
  by_cases h0 : j=0
  ·subst h0
   have q0 : bop .int .gtr (iv ((0 : Nat) : Int)) (.int .i64 0) X=some (.bool false,X):=by rw [ZF];rfl
   have hr : JH u.gs 0=JH u.gs (0+1):=by unfold JH;simp
   rw [hr]
   refine (Zr ?_).trans ih
   rw [ZC]
   unfold QE.l2
   rw [Za Zg,Zb,if_pos (by simpa using hlt),Za x1,Za x2,Za q0,Za (g_r.trans (if_neg (by simp)))]
   simp only [List.replicate]
   rw [YG,Za Zh]
   simp only [cond_false]
   rw [Zb,if_neg (by simp),Za Zt,Qh (by omega)]
   rfl
  ·have hk0 : j - 1 < u.gs.length:=by omega
   have hg0:=List.getElem?_eq_getElem hk0
   have hd0:=List.drop_eq_getElem_cons hk0
   rw [show j - 1+1=j by omega,hd] at hd0
   have hr1 : JH u.gs (j+1)=Jn (u.gs.drop j):=by unfold JH;simp
   have hr0 : JH u.gs j=Jn (u.gs.drop (j - 1)):=by unfold JH;rw [if_neg h0]
   rw [hr1,hd] at ih
   rw [hr0,hd0,ZbB]
   generalize u.gs[j]=y at x1 x2 hg hd hd0 ih
   generalize u.gs[j - 1]=y0 at hg0 hd0
   have x3:=hs.ix (i:=j - 1) (by simpa using hk0) .i64 X
   have x4:=hs.ldx (J9 hg0)
   have w0 : IntKind.i64.wrap ((j : Int) - 1)=((j - 1 : Nat) : Int):=by rw [w64 (by omega) (by omega)];omega
   have q0 : bop .int .gtr (iv j) (.int .i64 0) X=some (.bool true,X):=by rw [ZF,decide_eq_true (by omega)]
   have q1 : bop .str .leq (strv y) (strv y0) X=some (.bool (!decide (y0 < y)),X):=Zzt
   have a4 : ld1 (pa p 4) X=some (u.gv,X):=ZN c1 rfl
   by_cases hy : y0 < y
   ·rw [decide_eq_true hy] at q1 ⊢
    rw [Bool.true_and]
    refine (Zr ?_).trans ih
    rw [ZC]
    unfold QE.l2
    rw [Za Zg,Zb,if_pos (by simpa using hlt),Za x1,Za x2,Za q0,ZK,Zf,Za Zi,Zf,Za a4,Zf,Za Qr,w0,Zf,Za x3,Zf,Za x4,Zf,Za q1,ZQ,YG,Za Zh]
    simp only [cond_true,Bool.not_true]
    rw [Zb,if_neg (by simp),Za Zt,Qh (by omega)]
    rfl
   ·rw [decide_eq_false hy] at q1 ⊢
    refine Qc ?_
    rw [ZC]
    unfold QE.l2
    rw [Za Zg,Zb,if_pos (by simpa using hlt),Za x1,Za x2,Za q0,ZK,Zf,Za Zi,Zf,Za a4,Zf,Za Qr,w0,Zf,Za x3,Zf,Za x4,Zf,Za q1,ZQ,YG,Za Zh]
    simp only [cond_true,Bool.not_false]
    rw [Zb,if_pos rfl]
    rfl
theorem ZkY (h : UOK X u) : ∃ X',R (n+5) WH [iv 2,.agg u.cells.toArray] X=some (iv (QT u),X')∧HLe X X':=by
 have e1:=h.cells1
 have k1 : HLe X (X++[.cells u.cells 1 false false]):=.app _ _
 have cc : (X++[Zc.cells u.cells 1 false false])[X.length]?=some (.cells u.cells 1 false false):=Zm
 generalize X++[Zc.cells u.cells 1 false false]=X1 at e1 k1 cc
 generalize X.length=p at e1 cc
 have a0 : ∀ f x,u.cells[f]?=some x→ld1 (pa p f) X1=some (x,X1):=fun f x h=>ZN cc h
 have e2 : R (n+4) YB [strv u.nm] X1=some (.bool (ZB u.nm),X1):=Zc5
 have e3 : R (n+4) Za1 [strv u.hs] X1=some (.bool (KW u.hs),X1):=ZmD
 have e4 : R (n+4) Zac [strv u.ml] X1=_:=ZuI (n:=n)
 have hu:=h.hle k1
 have hlen : ZH u.gv X1=some (iv u.gs.length,X1):=by have:=hu.1.len (H':=X1);simpa using this
 have q1 : bop .int .lss (iv 2) (.int .i64 1) X1=some (.bool false,X1):=by rw [Zg];rfl
 have q3 : bop .int .gtr (iv 2) (.int .i64 2) X1=some (.bool false,X1):=by rw [ZF];rfl
 have q2 : bop .int .eql (iv 2) (.int .i64 1) X1=some (.bool false,X1):=by rw [ZA];rfl
 have q5 : bop .str .neq (strv u.ml) (.string ⟨#[]⟩) X1=some (.bool (!(u.ml==[])),X1):=Zbf (b:=[])
 have q6 : bop .str .neq (strv (QH u.ml)) (strv u.ml) X1=some (.bool (!(QH u.ml==u.ml)),X1):=Zbf
 have l1:=ZuJ (n:=n+1) (p:=p) h.2.2 hu.1 u.gs.length 0 (by omega) (by omega)
 have l2:=ZuH (n:=n+4) (gv:=u.gv) h.2.2 hu.1 cc u.gs.length 0 (by omega) (by omega)
 rw [show iv ((0 : Nat) : Int)=.int .i64 0 from rfl,List.drop_zero] at l1
 rw [show iv ((0 : Nat) : Int)=.int .i64 0 from rfl,show JH u.gs 0=Jn u.gs from by unfold JH;simp] at l2
 have hgr : (c1 fun q42_0=>
   bind (fa 4 q42_0) fun v57x43=>bind (ld1 v57x43) fun v58x44=>bind (ZH v58x44) fun v59x45=>bind (bop .int .gtr v59x45 (Value.int .i64 6)) fun v60x46=>
   cnd v60x46 (ret (Value.int .i64 7))
   (bind (fa 4 q42_0) fun v61x47=>bind (ld1 v61x47) fun v62x48=>bind (ZH v62x48) fun v63x49=>
   jn (Zj (c4 (QE.l1 (R (n+4)))) [q42_0,v62x48,v63x49,(Value.int .i64 0)]) noN (xk 0 (c1 fun q57_0=>
   bind (fa 4 q57_0) fun v72x58=>bind (ld1 v72x58) fun v73x59=>bind (ZH v73x59) fun v74x60=>
   jn (Zj (c4 (QE.l2 (R (n+4)))) [q57_0,v73x59,v74x60,(Value.int .i64 0)]) noN (xk 2 (c0 (ret (Value.int .i64 0))) noX) ret) noX) ret)) [pt p] X1=some (iv (Zc3 u.gs),X1):=by
  unfold Zc3
  rw [Jy,Za Zi,Za (a0 4 _ rfl),Za hlen]
  by_cases h6 : 6 < u.gs.length
  ·rw [Za ZF,Zb,if_pos (by simp;omega),if_pos h6];rfl
  ·rw [Za ZF,Zb,if_neg (by simp;omega),if_neg h6,Za Zi,Za (a0 4 _ rfl),Za hlen]
   cases ha : u.gs.all ZB
   ·rw [ha] at l1
    rw [QI l1];rfl
   ·rw [ha] at l1
    rw [ZO l1,Zu,Jy,Za Zi,Za (a0 4 _ rfl),Za hlen]
    cases hr : Jn u.gs
    ·rw [hr] at l2
     rw [QI l2];rfl
    ·rw [hr] at l2
     rw [ZO l2,Zu];rfl
 refine ⟨X1,?_,k1⟩
 rw [R,Zgu rfl]
 unfold QE QT
 rw [Za e1,Za q1,ZK,Zf,Za q3,ZQ,ZP,Za Zh]
 simp only [cond_false]
 rw [Zb,if_neg (by simp),Za Zi,Za (a0 0 _ rfl),Za e2,Za ZY]
 cases hn : ZB u.nm
 ·rw [Zb,if_pos (by rfl)];rfl
 rw [Zb,if_neg (by simp),Za Zi,Za (a0 1 _ rfl),Za e3,Za ZY]
 cases hs : KW u.hs
 ·rw [Zb,if_pos (by rfl)];rfl
 rw [Zb,if_neg (by simp),Za q2,Zb,if_neg (by simp),Za Zi,Za (a0 2 _ rfl),Za q5]
 simp only [if_true]
 unfold ZbC
 by_cases hm : u.ml=[]
 ·have hmb : (u.ml==[])=true:=by simpa using hm
  rw [hmb]
  refine (Qf (vs:=[pt p]) (H':=X1) ?_).trans ?_
  ·rw [Zb,if_neg (by simp)];rfl
  ·exact hgr
 ·have hmb : (u.ml==[])=false:=by simpa using hm
  rw [hmb]
  cases hb : Wk u.ml
  ·rw [hb] at e4
   rw [if_neg (by simp)]
   refine QI ?_
   rw [Zb,if_pos (by rfl),Za Zi,Za (a0 2 _ rfl),Za e4,Za Zo,Za Zn,Za ZY]
   simp only [Bool.not_false]
   rw [Za (g_r.trans (if_neg (by simp)))]
   simp only [List.replicate]
   rw [ZC,Za Zh]
   simp only [cond_true]
   rw [Zb,if_pos rfl]
   rfl
  ·rw [hb] at e4
   have e4 : R (n+4) Zac [strv u.ml] X1=some (.tuple #[strv (QH u.ml),.bool true],X1):=e4
   cases hf : QH u.ml==u.ml
   ·rw [hf] at q6
    rw [if_neg (by simp)]
    refine QI ?_
    rw [Zb,if_pos (by rfl),Za Zi,Za (a0 2 _ rfl),Za e4,Za Zo,Za Zn,Za ZY]
    simp only [Bool.not_true]
    rw [ZK,Zf,Za Zi,Zf,Za (a0 2 _ rfl),Zf,Za q6,ZQ,ZC,Za Zh]
    simp only [cond_false,Bool.not_false]
    rw [Zb,if_pos rfl]
    rfl
   ·rw [hf] at q6
    rw [if_pos (by simp)]
    refine (Qf (vs:=[pt p]) (H':=X1) ?_).trans ?_
    ·rw [Zb,if_pos (by rfl),Za Zi,Za (a0 2 _ rfl),Za e4,Za Zo,Za Zn,Za ZY]
     simp only [Bool.not_true]
     rw [ZK,Zf,Za Zi,Zf,Za (a0 2 _ rfl),Zf,Za q6,ZQ,ZC,Za Zh]
     simp only [cond_false,Bool.not_true]
     rw [Zb,if_neg (by simp)]
     rfl
    ·exact hgr
end
end Go.Proofs.YtedkoimihknggaaGreatDoor.A

