/- What the law FolioMost needs (part 4). -/
import Derived.Test.YtedkoimihknggaaGreatDoorZFolioMost3
namespace Go.Proofs.YtedkoimihknggaaGreatDoor.A
set_option linter.unusedVariables false
set_option linter.unusedSimpArgs false
open Go.Proofs Go.Proofs.YtedkoimihknggaaGreatDoor
abbrev u8v (b : UInt8) : Value:=.int .u8 b.toNat
def Y8 (b : UInt8) : Bool:=decide (97≤b.toNat) && decide (b.toNat≤122)
def WR (b : UInt8) : Bool:=decide (48≤b.toNat) && decide (b.toNat≤57)
def ZgR (b : UInt8) : Bool:=Y8 b || (WR b || (decide (b.toNat=45) || decide (b.toNat=46)))
def Zj1 (b : UInt8) : Bool:=WR b || (decide (97≤b.toNat) && decide (b.toNat≤102))
def Zcc (b : UInt8) : Bool:=Y8 b || WR b
def Zw (s : List UInt8) : Bool:=decide (1≤s.length) && decide (s.length≤12) && s.all ZgR && Y8 (s.getD 0 0) && Zcc (s.getD (s.length - 1) 0)
def Za2 (s : List UInt8) : Bool:=decide (1≤s.length) && decide (s.length≤12) && s.all Zj1
section
variable {H : Zb} {n : Nat} {b : UInt8} {s : List UInt8}
theorem ZjB {i : Nat} {x : UInt8} (hi : s[i]?=some x) (q : IntKind) (H : Zb) : ixs (strv s) (.int q i) H=some (u8v x,H):=by
 have hlt : i < s.length:=(List.getElem?_eq_some_iff.1 hi).1
 have hx : s[i]=x:=(List.getElem?_eq_some_iff.1 hi).2
 have hs : i < (⟨s.toArray⟩ : ByteArray).size:=by simpa [ByteArray.size] using hlt
 unfold ixs strv
 simp only [Int.toNat_natCast]
 rw [if_pos (by omega),getElem?_pos (⟨s.toArray⟩ : ByteArray) i hs]
 have : (⟨s.toArray⟩ : ByteArray)[i]=x:=by rw [← hx];rfl
 rw [this]
theorem ZeP : R (n+1) Jw [u8v b] H=some (.bool (Y8 b),H):=by
 rw [R,Zj8 rfl]
 unfold Y8
 by_cases h1 : (97 : Int)≤b.toNat
 ·have h1' : 97≤b.toNat:=by omega
  by_cases h2 : (b.toNat : Int)≤122
  ·have h2' : b.toNat≤122:=by omega
   simp [WW,↓ZY,ZZ,↓QB,Qd,Qe,Qc,↓Zd,JW,Zt,YG,Qk,Jt,Qm,Js,Jr,QI,JA,QH,QX,QZ,Q1,QF,ZC,Qa,YM,Ym,Jg,Jd,JV,ZD,QR,JS,JU,JH,Qi,Zr,Zm,JB,QG,QN,JQ,JT,JL,JI,↓YR,JY,↓g_r,YQ,Bool.not_true,Bool.not_false,Bool.false_eq_true,Bool.true_eq_false,reduceIte,List.tail_cons,List.headD_cons,decide_true,decide_false,cond_true,cond_false,Nat.beq_refl,Ko,Yw,QU,Z3,ZW,JP,YH,YO,YL,Kq,Yo,Yn,Yp,ZG,List.replicate,Zu,Zv,Q5,Q6,Q4,Zz,Jf,ZU,ZN,h1,h2,h1',h2']
  ·have h2' : ¬ b.toNat≤122:=by omega
   simp [WW,↓ZY,ZZ,↓QB,Qd,Qe,Qc,↓Zd,JW,Zt,YG,Qk,Jt,Qm,Js,Jr,QI,JA,QH,QX,QZ,Q1,QF,ZC,Qa,YM,Ym,Jg,Jd,JV,ZD,QR,JS,JU,JH,Qi,Zr,Zm,JB,QG,QN,JQ,JT,JL,JI,↓YR,JY,↓g_r,YQ,Bool.not_true,Bool.not_false,Bool.false_eq_true,Bool.true_eq_false,reduceIte,List.tail_cons,List.headD_cons,decide_true,decide_false,cond_true,cond_false,Nat.beq_refl,Ko,Yw,QU,Z3,ZW,JP,YH,YO,YL,Kq,Yo,Yn,Yp,ZG,List.replicate,Zu,Zv,Q5,Q6,Q4,Zz,Jf,ZU,ZN,h1,h2,h1',h2']
 ·have h1' : ¬ 97≤b.toNat:=by omega
  simp [WW,↓ZY,ZZ,↓QB,Qd,Qe,Qc,↓Zd,JW,Zt,YG,Qk,Jt,Qm,Js,Jr,QI,JA,QH,QX,QZ,Q1,QF,ZC,Qa,YM,Ym,Jg,Jd,JV,ZD,QR,JS,JU,JH,Qi,Zr,Zm,JB,QG,QN,JQ,JT,JL,JI,↓YR,JY,↓g_r,YQ,Bool.not_true,Bool.not_false,Bool.false_eq_true,Bool.true_eq_false,reduceIte,List.tail_cons,List.headD_cons,decide_true,decide_false,cond_true,cond_false,Nat.beq_refl,Ko,Yw,QU,Z3,ZW,JP,YH,YO,YL,Kq,Yo,Yn,Yp,ZG,List.replicate,Zu,Zv,Q5,Q6,Q4,Zz,Jf,ZU,ZN,h1,h1']
theorem ZgU : R (n+1) JO [u8v b] H=some (.bool (WR b),H):=by
 rw [R,ZlF rfl]
 unfold WR
 by_cases h1 : (48 : Int)≤b.toNat
 ·have h1' : 48≤b.toNat:=by omega
  by_cases h2 : (b.toNat : Int)≤57
  ·have h2' : b.toNat≤57:=by omega
   simp [Zal,↓ZY,ZZ,↓QB,Qd,Qe,Qc,↓Zd,JW,Zt,YG,Qk,Jt,Qm,Js,Jr,QI,JA,QH,QX,QZ,Q1,QF,ZC,Qa,YM,Ym,Jg,Jd,JV,ZD,QR,JS,JU,JH,Qi,Zr,Zm,JB,QG,QN,JQ,JT,JL,JI,↓YR,JY,↓g_r,YQ,Bool.not_true,Bool.not_false,Bool.false_eq_true,Bool.true_eq_false,reduceIte,List.tail_cons,List.headD_cons,decide_true,decide_false,cond_true,cond_false,Nat.beq_refl,Ko,Yw,QU,Z3,ZW,JP,YH,YO,YL,Kq,Yo,Yn,Yp,ZG,List.replicate,Zu,Zv,Q5,Q6,Q4,Zz,Jf,ZU,ZN,h1,h2,h1',h2']
  ·have h2' : ¬ b.toNat≤57:=by omega
   simp [Zal,↓ZY,ZZ,↓QB,Qd,Qe,Qc,↓Zd,JW,Zt,YG,Qk,Jt,Qm,Js,Jr,QI,JA,QH,QX,QZ,Q1,QF,ZC,Qa,YM,Ym,Jg,Jd,JV,ZD,QR,JS,JU,JH,Qi,Zr,Zm,JB,QG,QN,JQ,JT,JL,JI,↓YR,JY,↓g_r,YQ,Bool.not_true,Bool.not_false,Bool.false_eq_true,Bool.true_eq_false,reduceIte,List.tail_cons,List.headD_cons,decide_true,decide_false,cond_true,cond_false,Nat.beq_refl,Ko,Yw,QU,Z3,ZW,JP,YH,YO,YL,Kq,Yo,Yn,Yp,ZG,List.replicate,Zu,Zv,Q5,Q6,Q4,Zz,Jf,ZU,ZN,h1,h2,h1',h2']
 ·have h1' : ¬ 48≤b.toNat:=by omega
  simp [Zal,↓ZY,ZZ,↓QB,Qd,Qe,Qc,↓Zd,JW,Zt,YG,Qk,Jt,Qm,Js,Jr,QI,JA,QH,QX,QZ,Q1,QF,ZC,Qa,YM,Ym,Jg,Jd,JV,ZD,QR,JS,JU,JH,Qi,Zr,Zm,JB,QG,QN,JQ,JT,JL,JI,↓YR,JY,↓g_r,YQ,Bool.not_true,Bool.not_false,Bool.false_eq_true,Bool.true_eq_false,reduceIte,List.tail_cons,List.headD_cons,decide_true,decide_false,cond_true,cond_false,Nat.beq_refl,Ko,Yw,QU,Z3,ZW,JP,YH,YO,YL,Kq,Yo,Yn,Yp,ZG,List.replicate,Zu,Zv,Q5,Q6,Q4,Zz,Jf,ZU,ZN,h1,h1']
theorem ZhQ {a b : Nat} : ((a : Int)==(b : Int))=decide (a=b):=by
 rw [Bool.eq_iff_iff,beq_iff_eq,decide_eq_true_eq];omega
theorem Zs1 : R (n+2) Zbj [u8v b] H=some (.bool (ZgR b),H):=by
 have e1 : run Tryz.prog np lvs (n+1) Jw [u8v b] H=some (.bool (Y8 b),H):=ZeP
 have e2 : run Tryz.prog np lvs (n+1) JO [u8v b] H=some (.bool (WR b),H):=ZgU
 have q1 : ((b.toNat : Int)==45)=decide (b.toNat=45):=ZhQ (b:=45)
 have q2 : ((b.toNat : Int)==46)=decide (b.toNat=46):=ZhQ (b:=46)
 rw [R,ZmB rfl]
 unfold ZgR
 generalize Y8 b=p at e1 ⊢
 generalize WR b=q at e2 ⊢
 cases p <;> cases q <;> cases h3 : decide (b.toNat=45) <;> simp [ZeG,↓ZY,ZZ,↓QB,Qd,Qe,Qc,↓Zd,JW,Zt,YG,Qk,Jt,Qm,Js,Jr,QI,JA,QH,QX,QZ,Q1,QF,ZC,Qa,YM,Ym,Jg,Jd,JV,ZD,QR,JS,JU,JH,Qi,Zr,Zm,JB,QG,QN,JQ,JT,JL,JI,↓YR,JY,↓g_r,YQ,Bool.not_true,Bool.not_false,Bool.false_eq_true,Bool.true_eq_false,reduceIte,List.tail_cons,List.headD_cons,decide_true,decide_false,cond_true,cond_false,Nat.beq_refl,Ko,Yw,QU,Z3,ZW,JP,YH,YO,YL,Kq,Yo,Yn,Yp,ZG,List.replicate,Zu,Zv,Q5,Q6,Q4,Zz,Jf,ZU,ZN,e1,e2,q1,q2,h3] <;> (cases h4 : decide (b.toNat=46) <;> simp_all)
theorem ZtG : R (n+2) Zar [u8v b] H=some (.bool (Zj1 b),H):=by
 have e2 : run Tryz.prog np lvs (n+1) JO [u8v b] H=some (.bool (WR b),H):=ZgU
 rw [R,Zlw rfl]
 unfold Zj1
 generalize WR b=q at e2 ⊢
 cases q
 ·by_cases h1 : (97 : Int)≤b.toNat
  ·have h1' : 97≤b.toNat:=by omega
   by_cases h2 : (b.toNat : Int)≤102
   ·have h2' : b.toNat≤102:=by omega
    simp [Wy,↓ZY,ZZ,↓QB,Qd,Qe,Qc,↓Zd,JW,Zt,YG,Qk,Jt,Qm,Js,Jr,QI,JA,QH,QX,QZ,Q1,QF,ZC,Qa,YM,Ym,Jg,Jd,JV,ZD,QR,JS,JU,JH,Qi,Zr,Zm,JB,QG,QN,JQ,JT,JL,JI,↓YR,JY,↓g_r,YQ,Bool.not_true,Bool.not_false,Bool.false_eq_true,Bool.true_eq_false,reduceIte,List.tail_cons,List.headD_cons,decide_true,decide_false,cond_true,cond_false,Nat.beq_refl,Ko,Yw,QU,Z3,ZW,JP,YH,YO,YL,Kq,Yo,Yn,Yp,ZG,List.replicate,Zu,Zv,Q5,Q6,Q4,Zz,Jf,ZU,ZN,e2,h1,h2,h1',h2']
   ·have h2' : ¬ b.toNat≤102:=by omega
    simp [Wy,↓ZY,ZZ,↓QB,Qd,Qe,Qc,↓Zd,JW,Zt,YG,Qk,Jt,Qm,Js,Jr,QI,JA,QH,QX,QZ,Q1,QF,ZC,Qa,YM,Ym,Jg,Jd,JV,ZD,QR,JS,JU,JH,Qi,Zr,Zm,JB,QG,QN,JQ,JT,JL,JI,↓YR,JY,↓g_r,YQ,Bool.not_true,Bool.not_false,Bool.false_eq_true,Bool.true_eq_false,reduceIte,List.tail_cons,List.headD_cons,decide_true,decide_false,cond_true,cond_false,Nat.beq_refl,Ko,Yw,QU,Z3,ZW,JP,YH,YO,YL,Kq,Yo,Yn,Yp,ZG,List.replicate,Zu,Zv,Q5,Q6,Q4,Zz,Jf,ZU,ZN,e2,h1,h2,h1',h2']
  ·have h1' : ¬ 97≤b.toNat:=by omega
   simp [Wy,↓ZY,ZZ,↓QB,Qd,Qe,Qc,↓Zd,JW,Zt,YG,Qk,Jt,Qm,Js,Jr,QI,JA,QH,QX,QZ,Q1,QF,ZC,Qa,YM,Ym,Jg,Jd,JV,ZD,QR,JS,JU,JH,Qi,Zr,Zm,JB,QG,QN,JQ,JT,JL,JI,↓YR,JY,↓g_r,YQ,Bool.not_true,Bool.not_false,Bool.false_eq_true,Bool.true_eq_false,reduceIte,List.tail_cons,List.headD_cons,decide_true,decide_false,cond_true,cond_false,Nat.beq_refl,Ko,Yw,QU,Z3,ZW,JP,YH,YO,YL,Kq,Yo,Yn,Yp,ZG,List.replicate,Zu,Zv,Q5,Q6,Q4,Zz,Jf,ZU,ZN,e2,h1,h1']
 ·simp [Wy,↓ZY,ZZ,↓QB,Qd,Qe,Qc,↓Zd,JW,Zt,YG,Qk,Jt,Qm,Js,Jr,QI,JA,QH,QX,QZ,Q1,QF,ZC,Qa,YM,Ym,Jg,Jd,JV,ZD,QR,JS,JU,JH,Qi,Zr,Zm,JB,QG,QN,JQ,JT,JL,JI,↓YR,JY,↓g_r,YQ,Bool.not_true,Bool.not_false,Bool.false_eq_true,Bool.true_eq_false,reduceIte,List.tail_cons,List.headD_cons,decide_true,decide_false,cond_true,cond_false,Nat.beq_refl,Ko,Yw,QU,Z3,ZW,JP,YH,YO,YL,Kq,Yo,Yn,Yp,ZG,List.replicate,Zu,Zv,Q5,Q6,Q4,Zz,Jf,ZU,ZN,e2]
theorem Zqz {f : Value} {p : UInt8→Bool} (hf : ∀ (b : UInt8) (H : Zb),Qg (R n) f [u8v b] H=some (.bool (p b),H)) (hs : s.length≤1000000000) : ∀ (t k : Nat),s.length - k=t→k≤s.length→
  Zf (c4 (YZ.l1 (R n))) [strv s,f,iv s.length,iv k] H=some (if (s.drop k).all p then .ext 0 [] else .ret (.bool false),H)
 | 0,k,ht,hk=>by
  have : k=s.length:=by omega
  subst this
  rw [List.drop_length]
  refine Qb ?_
  simp [YZ.l1,↓ZY,ZZ,↓QB,Qd,Qe,Qc,↓Zd,JW,Zt,YG,Qk,Jt,Qm,Js,Jr,QI,JA,QH,QX,QZ,Q1,QF,ZC,Qa,YM,Ym,Jg,Jd,JV,ZD,QR,JS,JU,JH,Qi,Zr,Zm,JB,QG,QN,JQ,JT,JL,JI,↓YR,JY,↓g_r,YQ,Bool.not_true,Bool.not_false,Bool.false_eq_true,Bool.true_eq_false,reduceIte,List.tail_cons,List.headD_cons,decide_true,decide_false,cond_true,cond_false,Nat.beq_refl,Ko,Yw,QU,Z3,ZW,JP,YH,YO,YL,Kq,Yo,Yn,Yp,ZG,List.replicate,Zu,Zv,Q5,Q6,Q4,Zz,Jf,ZU,ZN]
 | t+1,k,ht,hk=>by
  have hkl : k < s.length:=by omega
  have hlt : (k : Int) < s.length:=by omega
  have hg:=List.getElem?_eq_getElem hkl
  have hd:=List.drop_eq_getElem_cons hkl
  generalize s[k]=b at hg hd
  have x1:=ZjB hg .i64 H
  have ih:=Zqz hf hs t (k+1) (by omega) (by omega)
  rw [hd,List.all_cons]
  cases hp : p b
  ·refine JF ?_
   have e:=hf b H
   rw [hp] at e
   rw [ZW]
   unfold YZ.l1
   rw [Za Zm,Zd,if_pos (by simpa using hlt),Za x1,Za e,Za Qa,Zd,if_pos (by rfl)]
   rfl
  ·rw [Bool.true_and]
   refine (ZO ?_).trans ih
   have e:=hf b H
   rw [hp] at e
   rw [ZW]
   unfold YZ.l1
   rw [Za Zm,Zd,if_pos (by simpa using hlt),Za x1,Za e,Za Qa,Zd,if_neg (by simp),Za ZD,J5 (by omega)]
   rfl
theorem Zpg {f : Value} {p : UInt8→Bool} (hf : ∀ (b : UInt8) (H : Zb),Qg (R n) f [u8v b] H=some (.bool (p b),H)) (hs : s.length≤1000000000) : R (n+1) Yl [strv s,f] H=some (.bool (s.all p),H):=by
 have e:=Zqz (H:=H) hf hs s.length 0 (by omega) (by omega)
 rw [List.drop_zero] at e
 have e : Zf (c4 (YZ.l1 (R n))) [strv s,f,iv s.length,.int .i64 0] H=_:=e
 rw [R,Zn3 rfl]
 unfold YZ
 rw [Za ZU]
 cases h : s.all p
 ·rw [h] at e
  rw [Ke e];rfl
 ·rw [h] at e
  rw [Q0 e,ZG];rfl
theorem ZmF {g : Nat} {args : List Value} (hy : Nat.blt g Wb=true:=by rfl) : Qg (R n) (.func (.func g) #[] #[]) args=R n g args:=by
 have : Qg (R n) (.func (.func g) #[] #[]) args=R n g ([]++(args++[])):=by
  simp only [Qg,hy,cond_true]
 rw [this];simp
theorem Zqh (hs : s.length≤1000000000) : R (n+3) Yl [strv s,.func (.func Zbj) #[] #[]] H=some (.bool (s.all ZgR),H):=
 Zpg (fun b H=>by rw [ZmF];exact Zs1) hs
theorem ZrC (hs : s.length≤1000000000) : R (n+3) Yl [strv s,.func (.func Zar) #[] #[]] H=some (.bool (s.all Zj1),H):=
 Zpg (fun b H=>by rw [ZmF];exact ZtG) hs
theorem ZgX : bop .str .eql (strv s) (.string ⟨#[]⟩) H=some (.bool (decide (s.length=0)),H):=by
 have:=Zee (H:=H) (a:=s) (b:=[])
 have h : (s==[])=decide (s.length=0):=by cases s <;> simp
 rw [h] at this
 exact this
theorem ZkX : R (n+4) Kj [strv s] H=some (.bool (Zw s),H):=by
 rw [R,ZkA rfl]
 unfold Zw
 by_cases h0 : s.length=0
 ·have h1 : ¬ 1≤s.length:=by omega
  unfold WO
  rw [Za ZgX,decide_eq_true h0]
  simp [↓ZY,ZZ,↓QB,Qd,Qe,Qc,↓Zd,JW,Zt,YG,Qk,Jt,Qm,Js,Jr,QI,JA,QH,QX,QZ,Q1,QF,ZC,Qa,YM,Ym,Jg,Jd,JV,ZD,QR,JS,JU,JH,Qi,Zr,Zm,JB,QG,QN,JQ,JT,JL,JI,↓YR,JY,↓g_r,YQ,Bool.not_true,Bool.not_false,Bool.false_eq_true,Bool.true_eq_false,reduceIte,List.tail_cons,List.headD_cons,decide_true,decide_false,cond_true,cond_false,Nat.beq_refl,Ko,Yw,QU,Z3,ZW,JP,YH,YO,YL,Kq,Yo,Yn,Yp,ZG,List.replicate,Zu,Zv,Q5,Q6,Q4,Zz,Jf,ZU,ZN,h1]
 ·have h1 : 1≤s.length:=by omega
  by_cases h12 : s.length≤12
  ·have e1 : run Tryz.prog np lvs (n+3) Yl [strv s,.func (.func Zbj) #[] #[]] H=some (.bool (s.all ZgR),H):=Zqh (by omega)
   have g0 : s[0]?=some (s.getD 0 0):=by rw [List.getElem?_eq_getElem (by omega)];simp [List.getD_eq_getElem?_getD,List.getElem?_eq_getElem (show 0 < s.length by omega)]
   have gl : s[s.length - 1]?=some (s.getD (s.length - 1) 0):=by rw [List.getElem?_eq_getElem (by omega)];simp [List.getD_eq_getElem?_getD,List.getElem?_eq_getElem (show s.length - 1 < s.length by omega)]
   have x0 : ixs (strv s) (.int .i64 0) H=some (u8v (s.getD 0 0),H):=ZjB g0 .i64 H
   have xl:=ZjB gl .i64 H
   have wl:=ZrI (k:=s.length) (by omega) (by omega)
   generalize s.getD 0 0=b0 at x0
   generalize s.getD (s.length - 1) 0=bl at xl
   have e2 : run Tryz.prog np lvs (n+3) Jw [u8v b0] H=some (.bool (Y8 b0),H):=ZeP
   have e3 : run Tryz.prog np lvs (n+3) Jw [u8v bl] H=some (.bool (Y8 bl),H):=ZeP
   have e4 : run Tryz.prog np lvs (n+3) JO [u8v bl] H=some (.bool (WR bl),H):=ZgU
   have q1 : bop .int .gtr (iv s.length) (.int .i64 12) H=some (.bool false,H):=by rw [QG,decide_eq_false (by omega)]
   unfold WO
   rw [Za ZgX,decide_eq_false h0,decide_eq_true h1,decide_eq_true h12]
   rw [Yf,ZX,Za ZU,ZX,Za q1,YI,Z3,Za ZC]
   simp only [cond_false]
   rw [Yf,ZX,Za x0,ZX,Za e2,ZX,Za Qa,YI,ZW,Za ZC]
   simp only [cond_false]
   cases hb0 : Y8 b0
   ·simp [↓ZY,ZZ,↓QB,Qd,Qe,Qc,↓Zd,JW,Zt,YG,Qk,Jt,Qm,Js,Jr,QI,JA,QH,QX,QZ,Q1,QF,ZC,Qa,YM,Ym,Jg,Jd,JV,ZD,QR,JS,JU,JH,Qi,Zr,Zm,JB,QG,QN,JQ,JT,JL,JI,↓YR,JY,↓g_r,YQ,Bool.not_true,Bool.not_false,Bool.false_eq_true,Bool.true_eq_false,reduceIte,List.tail_cons,List.headD_cons,decide_true,decide_false,cond_true,cond_false,Nat.beq_refl,Ko,Yw,QU,Z3,ZW,JP,YH,YO,YL,Kq,Yo,Yn,Yp,ZG,List.replicate,Zu,Zv,Q5,Q6,Q4,Zz,Jf,ZU,ZN]
   ·simp only [Bool.not_true]
    rw [Yf,ZX,Za e1,ZX,Za Qa,YI,Z3,Za ZC]
    simp only [cond_false]
    cases hall : s.all ZgR
    ·simp [↓ZY,ZZ,↓QB,Qd,Qe,Qc,↓Zd,JW,Zt,YG,Qk,Jt,Qm,Js,Jr,QI,JA,QH,QX,QZ,Q1,QF,ZC,Qa,YM,Ym,Jg,Jd,JV,ZD,QR,JS,JU,JH,Qi,Zr,Zm,JB,QG,QN,JQ,JT,JL,JI,↓YR,JY,↓g_r,YQ,Bool.not_true,Bool.not_false,Bool.false_eq_true,Bool.true_eq_false,reduceIte,List.tail_cons,List.headD_cons,decide_true,decide_false,cond_true,cond_false,Nat.beq_refl,Ko,Yw,QU,Z3,ZW,JP,YH,YO,YL,Kq,Yo,Yn,Yp,ZG,List.replicate,Zu,Zv,Q5,Q6,Q4,Zz,Jf,ZU,ZN]
    ·simp only [Bool.not_true]
     rw [Zd,if_neg (by simp),Za ZU,Za QR,wl,Za xl,Za e3]
     unfold Zcc
     cases hl : Y8 bl
     ·rw [Yf,ZX,Za e4,YI,QU,Za ZC]
      simp [ret]
     ·simp [↓ZY,ZZ,↓QB,Qd,Qe,Qc,↓Zd,JW,Zt,YG,Qk,Jt,Qm,Js,Jr,QI,JA,QH,QX,QZ,Q1,QF,ZC,Qa,YM,Ym,Jg,Jd,JV,ZD,QR,JS,JU,JH,Qi,Zr,Zm,JB,QG,QN,JQ,JT,JL,JI,↓YR,JY,↓g_r,YQ,Bool.not_true,Bool.not_false,Bool.false_eq_true,Bool.true_eq_false,reduceIte,List.tail_cons,List.headD_cons,decide_true,decide_false,cond_true,cond_false,Nat.beq_refl,Ko,Yw,QU,Z3,ZW,JP,YH,YO,YL,Kq,Yo,Yn,Yp,ZG,List.replicate,Zu,Zv,Q5,Q6,Q4,Zz,Jf,ZU,ZN]
  ·have q1 : bop .int .gtr (iv s.length) (.int .i64 12) H=some (.bool true,H):=by rw [QG,decide_eq_true (by omega)]
   unfold WO
   rw [Za ZgX,decide_eq_false h0]
   rw [Yf,ZX,Za ZU,ZX,Za q1,YI,Z3,Za ZC]
   simp [↓ZY,ZZ,↓QB,Qd,Qe,Qc,↓Zd,JW,Zt,YG,Qk,Jt,Qm,Js,Jr,QI,JA,QH,QX,QZ,Q1,QF,ZC,Qa,YM,Ym,Jg,Jd,JV,ZD,QR,JS,JU,JH,Qi,Zr,Zm,JB,QG,QN,JQ,JT,JL,JI,↓YR,JY,↓g_r,YQ,Bool.not_true,Bool.not_false,Bool.false_eq_true,Bool.true_eq_false,reduceIte,List.tail_cons,List.headD_cons,decide_true,decide_false,cond_true,cond_false,Nat.beq_refl,Ko,Yw,QU,Z3,ZW,JP,YH,YO,YL,Kq,Yo,Yn,Yp,ZG,List.replicate,Zu,Zv,Q5,Q6,Q4,Zz,Jf,ZU,ZN,h12]
def ZL (s : List UInt8) : Int:=if Zw s then 0 else 10
def KD (s : List UInt8) : Int:=if Za2 s then 0 else 4
theorem ZcN : R (n+5) QM [strv s] H=some (iv (ZL s),H):=by
 have e1 : run Tryz.prog np lvs (n+4) Kj [strv s] H=some (.bool (Zw s),H):=ZkX
 rw [R,Zmi rfl]
 unfold ZL
 generalize Zw s=q at e1 ⊢
 cases q <;> simp [Zeg,↓ZY,ZZ,↓QB,Qd,Qe,Qc,↓Zd,JW,Zt,YG,Qk,Jt,Qm,Js,Jr,QI,JA,QH,QX,QZ,Q1,QF,ZC,Qa,YM,Ym,Jg,Jd,JV,ZD,QR,JS,JU,JH,Qi,Zr,Zm,JB,QG,QN,JQ,JT,JL,JI,↓YR,JY,↓g_r,YQ,Bool.not_true,Bool.not_false,Bool.false_eq_true,Bool.true_eq_false,reduceIte,List.tail_cons,List.headD_cons,decide_true,decide_false,cond_true,cond_false,Nat.beq_refl,Ko,Yw,QU,Z3,ZW,JP,YH,YO,YL,Kq,Yo,Yn,Yp,ZG,List.replicate,Zu,Zv,Q5,Q6,Q4,Zz,Jf,ZU,ZN,e1]
theorem Zsx : R (n+4) Za5 [strv s] H=some (iv (KD s),H):=by
 have e1 : s.length≤12→run Tryz.prog np lvs (n+3) Yl [strv s,.func (.func Zar) #[] #[]] H=some (.bool (s.all Zj1),H):=fun h12=>ZrC (by omega)
 rw [R,Znj rfl]
 unfold KD Za2 ZeF
 rw [Za ZgX]
 by_cases h0 : s.length=0
 ·have h1 : ¬ 1≤s.length:=by omega
  rw [decide_eq_true h0]
  simp [↓ZY,ZZ,↓QB,Qd,Qe,Qc,↓Zd,JW,Zt,YG,Qk,Jt,Qm,Js,Jr,QI,JA,QH,QX,QZ,Q1,QF,ZC,Qa,YM,Ym,Jg,Jd,JV,ZD,QR,JS,JU,JH,Qi,Zr,Zm,JB,QG,QN,JQ,JT,JL,JI,↓YR,JY,↓g_r,YQ,Bool.not_true,Bool.not_false,Bool.false_eq_true,Bool.true_eq_false,reduceIte,List.tail_cons,List.headD_cons,decide_true,decide_false,cond_true,cond_false,Nat.beq_refl,Ko,Yw,QU,Z3,ZW,JP,YH,YO,YL,Kq,Yo,Yn,Yp,ZG,List.replicate,Zu,Zv,Q5,Q6,Q4,Zz,Jf,ZU,ZN,h1]
 ·have h1 : 1≤s.length:=by omega
  rw [decide_eq_false h0,Yf,ZX,Za ZU]
  by_cases h12 : s.length≤12
  ·have q1 : bop .int .gtr (iv s.length) (.int .i64 12) H=some (.bool false,H):=by rw [QG,decide_eq_false (by omega)]
   rw [ZX,Za q1,YI,Z3,Za ZC]
   simp only [cond_false]
   rw [Yf,ZX,Za (e1 h12),ZX,Za Qa,YI,ZW,Za ZC]
   cases s.all Zj1 <;> simp [↓ZY,ZZ,↓QB,Qd,Qe,Qc,↓Zd,JW,Zt,YG,Qk,Jt,Qm,Js,Jr,QI,JA,QH,QX,QZ,Q1,QF,ZC,Qa,YM,Ym,Jg,Jd,JV,ZD,QR,JS,JU,JH,Qi,Zr,Zm,JB,QG,QN,JQ,JT,JL,JI,↓YR,JY,↓g_r,YQ,Bool.not_true,Bool.not_false,Bool.false_eq_true,Bool.true_eq_false,reduceIte,List.tail_cons,List.headD_cons,decide_true,decide_false,cond_true,cond_false,Nat.beq_refl,Ko,Yw,QU,Z3,ZW,JP,YH,YO,YL,Kq,Yo,Yn,Yp,ZG,List.replicate,Zu,Zv,Q5,Q6,Q4,Zz,Jf,ZU,ZN,h12,h1]
  ·have q1 : bop .int .gtr (iv s.length) (.int .i64 12) H=some (.bool true,H):=by rw [QG,decide_eq_true (by omega)]
   rw [ZX,Za q1,YI,Z3,Za ZC]
   simp [↓ZY,ZZ,↓QB,Qd,Qe,Qc,↓Zd,JW,Zt,YG,Qk,Jt,Qm,Js,Jr,QI,JA,QH,QX,QZ,Q1,QF,ZC,Qa,YM,Ym,Jg,Jd,JV,ZD,QR,JS,JU,JH,Qi,Zr,Zm,JB,QG,QN,JQ,JT,JL,JI,↓YR,JY,↓g_r,YQ,Bool.not_true,Bool.not_false,Bool.false_eq_true,Bool.true_eq_false,reduceIte,List.tail_cons,List.headD_cons,decide_true,decide_false,cond_true,cond_false,Nat.beq_refl,Ko,Yw,QU,Z3,ZW,JP,YH,YO,YL,Kq,Yo,Yn,Yp,ZG,List.replicate,Zu,Zv,Q5,Q6,Q4,Zz,Jf,ZU,ZN,h12]
theorem ZsR {p : UInt8→Prop} (h : ∀ n : Nat,n < 256→p (UInt8.ofNat n)) (b : UInt8) : p b:=by
 have:=h b.toNat b.toNat_lt
 rwa [UInt8.ofNat_toNat] at this
end
end Go.Proofs.YtedkoimihknggaaGreatDoor.A

namespace Go.Proofs.YtedkoimihknggaaGreatDoor.A
set_option linter.unusedVariables false
set_option linter.unusedSimpArgs false
open Go.Proofs Go.Proofs.YtedkoimihknggaaGreatDoor
abbrev YF:=List (List UInt8 × List UInt8)
structure Dir (H : Zb) (d b : Nat) (m : YF) : Prop where
 c : H[d]?=some (.cells [.map (some b)] 1 false false)
 g : Q9 strv H b m
 len : ∀ p∈m,p.1.length≤12
 few : m.length≤12
section
variable {H H' : Zb} {n d b p q : Nat} {m : YF} {k s : List UInt8}
theorem Zl6 {v : Value} (h : oneCell v=true) (hc : v.cells=#[v]) (H : Zb) : alc 1 v H=some (pt H.length,H++[.cells [v] 1 false false]):=by
 rw [QX]
 simp [hc,h]
theorem ZeN {v : Value} {e : Nat} {g ro : Bool} (h : H[p]?=some (.cells [v] e g ro)) : ld1 (pt p) H=some (v,H):=Yg h rfl
theorem ZpS {g : Nat} {bs args : List Value} (hy : Nat.blt g Wb=true:=by rfl) : Qg (R n) (.func (.func g) #[] bs.toArray) args=R n g (args++bs):=by
 have : Qg (R n) (.func (.func g) #[] bs.toArray) args=R n g ([]++(args++bs.toArray.toList)):=by
  simp only [Qg,hy,cond_true]
 rw [this];simp
theorem Dir.lt (h : Dir H d b m) : d < H.length∧b < H.length:=⟨Je h.c,h.g.lt⟩
theorem Dir.keep (h : Dir H d b m) (h1 : H'[d]?=H[d]?) (h2 : H'[b]?=H[b]?) : Dir H' d b m:=⟨by rw [h1];exact h.c,h.g.keep h2,h.len,h.few⟩
theorem Dir.hle (h : Dir H d b m) (hl : HLe H H') : Dir H' d b m:=⟨hl _ _ h.c,h.g.hle hl,h.len,h.few⟩
theorem Dir.step {o1 o2 : List Nat} (h : Dir H d b m) (hs : Zq o1 H o2 H') (h1 : d∉o1) (h2 : b∉o1) : Dir H' d b m:=h.keep (hs.keep d h.lt.1 h1) (hs.keep b h.lt.2 h2)
theorem Dir.ne (h : Dir H d b m) : d≠b:=fun e=>by
 subst e
 obtain ⟨es,_,h1⟩:=h.g.ex
 rw [h.c] at h1
 rcases h1 with ⟨_,h1,_⟩ | h1 <;> cases h1
end
end Go.Proofs.YtedkoimihknggaaGreatDoor.A

namespace Go.Proofs.YtedkoimihknggaaGreatDoor.A
set_option linter.unusedVariables false
set_option linter.unusedSimpArgs false
section
variable {α : Type} {k k' : List UInt8} {v : α} {m : List (List UInt8 × α)}
theorem ZbM : ∀ {m m' : List (List UInt8 × α)},Zg k (m++m')=(Zg k m).or (Zg k m')
 | [],m'=>rfl
 | p :: m,m'=>by
  simp only [List.cons_append,Zg]
  split
  ·rfl
  ·exact ZbM
theorem Ka (h : k'≠k) : Zg k' (QK k v m)=Zg k' m:=by
 unfold QK
 split
 ·have : ∀ m : List (List UInt8 × α),Zg k' (m.map fun p=>if p.1=k then (k,v) else p)=Zg k' m:=by
   intro m
   induction m with
   | nil=>rfl
   | cons p m ih=>
    simp only [List.map_cons,Zg]
    by_cases hp : p.1=k
    ·rw [if_pos hp,if_neg (Ne.symm h),if_neg (fun e=>h (e.symm.trans hp)),ih]
    ·rw [if_neg hp,ih]
  exact this m
 ·rw [ZbM]
  have : Zg k' [(k,v)]=none:=by simp [Zg,Ne.symm h]
  rw [this];cases Zg k' m <;> rfl
theorem Wf : Zg k (QK k v m)=some v:=by
 unfold QK
 split
 ·rename_i hs
  have : ∀ m : List (List UInt8 × α),(Zg k m).isSome=true→Zg k (m.map fun p=>if p.1=k then (k,v) else p)=some v:=by
   intro m
   induction m with
   | nil=>intro h;cases h
   | cons p m ih=>
    intro h
    simp only [List.map_cons,Zg] at h ⊢
    by_cases hp : p.1=k
    ·simp [hp]
    ·rw [if_neg hp] at h
     rw [if_neg hp,if_neg hp];exact ih h
  exact this m hs
 ·rename_i hs
  rw [ZbM]
  have : Zg k m=none:=by cases e : Zg k m <;> simp_all
  rw [this];simp [Zg]
theorem ZbV : Zg k (K4 k m)=none:=by
 rw [Zdx]
 intro p hp
 simpa [K4] using (List.mem_filter.1 hp).2
theorem Kf (h : k'≠k) : Zg k' (K4 k m)=Zg k' m:=by
 unfold K4
 induction m with
 | nil=>rfl
 | cons p m ih=>
  rw [List.filter_cons]
  by_cases hp : p.1=k
  ·rw [if_neg (by simp [hp]),ih]
   simp only [Zg]
   rw [if_neg (fun e=>h (e.symm.trans hp))]
  ·rw [if_pos (by simpa using hp)]
   simp only [Zg]
   rw [ih]
theorem Znl (hn : (m.map (·.1)).Nodup) (h : (Zg k m).isSome=true) : (K4 k m).length=m.length - 1:=by
 obtain ⟨v,hv⟩:=Option.isSome_iff_exists.1 h
 obtain ⟨j,hj⟩:=ZqM hv
 rw [← Za4 hn hj,List.length_eraseIdx,if_pos (List.getElem?_eq_some_iff.1 hj).1]
end
end Go.Proofs.YtedkoimihknggaaGreatDoor.A

namespace Go.Proofs.YtedkoimihknggaaGreatDoor.A
set_option linter.unusedVariables false
set_option linter.unusedSimpArgs false
open Go.Proofs Go.Proofs.YtedkoimihknggaaGreatDoor
section
variable {H H' : Zb} {n d b p q : Nat} {m : YF} {k s : List UInt8}
theorem ZeB {α : Type} {m : List (List UInt8 × α)} {v : α} : (QK k v m).length=if (Zg k m).isSome then m.length else m.length+1:=by
 unfold QK
 split <;> simp
theorem WM (h : Zw k=true) : k.length≤12:=by
 unfold Zw at h
 simp only [Bool.and_eq_true,decide_eq_true_eq] at h
 exact h.1.1.1.2
theorem Zdy : ZL k=0↔Zw k=true:=by unfold ZL;split <;> simp_all
theorem Zrd : KD s=0↔Za2 s=true:=by unfold KD;split <;> simp_all
theorem ZeU {g : Nat} {mm : List Value→M Value} {args : List Value} (hp : np g=some mm) (hy : Nat.blt g Wb=true:=by rfl) : run Tryz.prog np lvs (n+1) g args=mm args:=by
 unfold run
 simp only [hy,hp,cond_true]
end
end Go.Proofs.YtedkoimihknggaaGreatDoor.A

namespace Go.Proofs.YtedkoimihknggaaGreatDoor.A
set_option linter.unusedVariables false
set_option linter.unusedSimpArgs false
open Go.Proofs Go.Proofs.YtedkoimihknggaaGreatDoor
section
variable {H H' : Zb} {n : Nat} {s pre : List UInt8}
theorem ZoK {k : Nat} (hk : k≤s.length) : sls (strv s) none (some (iv k)) H=some (strv (s.take k),H):=by
 have h1 : (⟨s.toArray⟩ : ByteArray).size=s.length:=by simp [ByteArray.size]
 have h2 : (⟨s.toArray⟩ : ByteArray).extract 0 k=⟨(s.take k).toArray⟩:=by
  apply ByteArray.ext
  rw [ByteArray.data_extract]
  simp
 have hb : bnd (some (iv k)) s.length=some k:=by simp [bnd]
 have hb0 : bnd none 0=some 0:=rfl
 unfold strv sls
 simp only [h1,hb,hb0]
 rw [if_pos ⟨Nat.zero_le _,hk⟩,h2]
section
variable {f v : Value} {p : List UInt8→Bool} {l : List (List UInt8)} {q : List Nat} {Q : Zb→Prop}
theorem YE {ss : List (List UInt8)} {i : Nat} {x : List UInt8} (h : ss[i]?=some x) : (ss.map strv)[i]?=some (strv x):=by rw [List.getElem?_map,h];rfl
theorem Ztf (hr : Zn H v (l.map strv) q) (hl : l.length≤1000000) (hf : ∀ s∈l,Qg (R n) f [strv s] H=some (.bool (p s),H)) : ∀ (t k : Nat),l.length - k=t→k≤l.length→
  Zf (c4 (Zp.l1 (R n))) [v,f,iv l.length,iv k] H=some (match (l.drop k).findIdx? p with | some i=>.ret (iv (k+i : Nat)) | none=>.ext 0 [],H)
 | 0,k,ht,hk=>by
  have : k=l.length:=by omega
  subst this
  rw [List.drop_length]
  refine Qb ?_
  rw [ZW]
  unfold Zp.l1
  rw [Za Zm,Zd,if_neg (by simp)]
  rfl
 | t+1,k,ht,hk=>by
  have hkl : k < l.length:=by omega
  have hlt : (k : Int) < l.length:=by omega
  have hg:=List.getElem?_eq_getElem hkl
  have hm : l[k]∈l:=List.getElem_mem hkl
  have hd:=List.drop_eq_getElem_cons hkl
  generalize l[k]=x at hg hd hm
  have x1:=hr.ix (i:=k) (by simpa using hkl) .i64 H
  have x2:=hr.ldx (YE hg)
  have x3:=hf x hm
  have ih:=Ztf hr hl hf t (k+1) (by omega) (by omega)
  rw [hd,List.findIdx?_cons]
  cases hp : p x
  ·rw [hp] at x3
   refine (ZO ?_).trans (ih.trans ?_)
   ·rw [ZW]
    unfold Zp.l1
    rw [Za Zm,Zd,if_pos (by simpa using hlt),Za x1,Za x2,Za x3,Zd,if_neg (by simp),Za ZD,J5 (by omega)]
    rfl
   ·cases (l.drop (k+1)).findIdx? p with
    | none=>rfl
    | some i=>simp only [Bool.false_eq_true,if_false,Option.map_some];rw [show k+1+i=k+(i+1) by omega]
  ·rw [hp] at x3
   refine JF ?_
   rw [ZW]
   unfold Zp.l1
   rw [Za Zm,Zd,if_pos (by simpa using hlt),Za x1,Za x2,Za x3,Zd,if_pos rfl]
   rfl
theorem Ze7 : ∀ {l : List (List UInt8)},(match l.findIdx? p with | some i=>l.filter (fun s=>!p s)=l.take i++(l.drop (i+1)).filter (fun s=>!p s)∧i < l.length | none=>l.filter (fun s=>!p s)=l)
 | []=>by simp
 | x :: l=>by
  have ih:=Ze7 (l:=l)
  rw [List.findIdx?_cons]
  cases hp : p x
  ·simp only [Bool.false_eq_true,if_false]
   cases h : l.findIdx? p with
   | none=>rw [h] at ih;simp [hp];simpa using ih
   | some i=>rw [h] at ih;simp [hp,ih.1,ih.2]
  ·simp [hp]
theorem Zs0 (k : Nat) : reps k (Value.string ⟨#[]⟩).cells.toList=List.replicate k (strv []):=by
 induction k with
 | zero=>rfl
 | succ k ih=>
  unfold reps at ih ⊢
  rw [List.replicate_succ,List.flatten_cons,ih];rfl
theorem ZqC {cs : List (List UInt8)} {i : Nat} (hr : Zn H v (cs.map strv) q) (hi : i < cs.length) : ∃ a H' v',slv 1 v (some (iv i)) none none H=some (a,H)∧clr (.string ⟨#[]⟩) 1 a H=some (.tuple #[],H')∧slv 1 v none (some (iv i)) none H'=some (v',H')∧Zn H' v' ((cs.take i).map strv) q∧Zq q H q H':=by
 rcases hr with ⟨h1,_,_⟩ | ⟨sid,rest,g,rfl,rfl,hid⟩
 ·simp at h1;simp [h1] at hi
 ·rw [List.length_map] at *
  have b1 : bnd (some (iv i)) 0=some i:=by simp [bnd]
  have b1' : bnd (some (iv i)) cs.length=some i:=by simp [bnd]
  have b2 : ∀ k,bnd none k=some k:=fun _=>rfl
  have hsp : splice (cs.map strv++rest) (List.replicate (cs.length - i) (strv [])) i=(cs.take i).map strv++(List.replicate (cs.length - i) (strv [])++rest):=by
   unfold splice
   rw [List.length_replicate,Nat.add_sub_cancel' (Nat.le_of_lt hi),List.take_append_of_le_length (by simp;omega),List.drop_append_of_le_length (by simp),List.drop_eq_nil_of_le (by simp),List.map_take]
   simp
  refine ⟨.slice (some ⟨sid,0+i * 1,none⟩) (cs.length - i) (cs.length+rest.length - i),H.set sid (.cells ((cs.take i).map strv++(List.replicate (cs.length - i) (strv [])++rest)) 1 g false),.slice (some ⟨sid,0,none⟩) i (cs.length+rest.length),?_,?_,?_,?_,⟨by simp,fun j hj hn=>List.getElem?_set_ne (fun e=>hn (by simp [e])),fun j hj=>.inl hj⟩⟩
  ·simp only [slv,hid,b1,b2]
   rw [if_pos ⟨trivial,by omega,by omega,Nat.le_refl _⟩,if_neg (by omega)]
  ·simp only [clr]
   rw [if_neg (by omega)]
   simp only [hid]
   rw [if_pos ⟨trivial,by simp;omega⟩,Zs0]
   rw [Nat.zero_add,Nat.mul_one,hsp]
  ·simp only [slv,Qu hid,b1',b2]
   rw [if_pos ⟨trivial,by omega,by omega,Nat.le_refl _⟩,if_neg (by omega)]
   simp
  ·have hl : ((cs.take i).map strv).length=i:=by simp;omega
   refine .inr ⟨sid,List.replicate (cs.length - i) (strv [])++rest,g,?_,rfl,Qu hid⟩
   rw [hl]
   simp;omega
end
end
end Go.Proofs.YtedkoimihknggaaGreatDoor.A

namespace Go.Proofs.YtedkoimihknggaaGreatDoor.A
set_option linter.unusedVariables false
set_option linter.unusedSimpArgs false
open Go.Proofs Go.Proofs.YtedkoimihknggaaGreatDoor
def usr (u : List UInt8 × List UInt8) : List Value:=[strv u.1,strv u.2,strv [],.bool false,.slice none 0 0]
section
variable {H H' : Zb} {n d b : Nat} {m : YF} {pre : List UInt8}
end
end Go.Proofs.YtedkoimihknggaaGreatDoor.A

namespace Go.Proofs.YtedkoimihknggaaGreatDoor.A
set_option linter.unusedVariables false
set_option linter.unusedSimpArgs false
open Go.Proofs Go.Proofs.YtedkoimihknggaaGreatDoor
section
variable {H : Zb} {n : Nat}
end
end Go.Proofs.YtedkoimihknggaaGreatDoor.A

namespace Go.Proofs.YtedkoimihknggaaGreatDoor.A
set_option linter.unusedVariables false
set_option linter.unusedSimpArgs false
open Go.Proofs Go.Proofs.YtedkoimihknggaaGreatDoor
abbrev Ent:=List UInt8 × List UInt8
section
variable {m : YF} {k s : List UInt8} {x : Ent}
end
end Go.Proofs.YtedkoimihknggaaGreatDoor.A

namespace Go.Proofs.YtedkoimihknggaaGreatDoor.A
set_option linter.unusedVariables false
set_option linter.unusedSimpArgs false
open Go.Proofs Go.Proofs.YtedkoimihknggaaGreatDoor
def GV (H : Zb) (gv : Value) (gs : List (List UInt8)) : Prop:=
 (gs=[]∧(gv=.slice none 0 0∨gv=.slice (some ⟨0,0,some 1⟩) 0 0))∨
 ∃ id rest,gv=.slice (some ⟨id,0,none⟩) gs.length (gs.length+rest.length)∧H[id]?=some (.cells (gs.map strv++rest) 1 false true)
section
variable {H H' X : Zb} {n p : Nat} {gv : Value} {gs : List (List UInt8)}
theorem GV.mono (h : GV H gv gs) (hl : HLe H H') : GV H' gv gs:=by
 rcases h with h | ⟨id,rest,h1,h2⟩
 ·exact .inl h
 ·exact .inr ⟨id,rest,h1,hl _ _ h2⟩
theorem GV.sl (h : GV H gv gs) : Sl H gv (gs.map strv):=by
 rcases h with ⟨rfl,rfl | rfl⟩ | ⟨id,rest,rfl,h2⟩
 ·exact Sl.nil
 ·exact ⟨_,_,rfl,(fun e=>by cases e),rfl⟩
 ·refine ⟨some ⟨id,0,none⟩,gs.length+rest.length,by rw [List.length_map],(fun e=>by cases e),?_⟩
  simp only [ZT,h2]
  rw [if_pos (by simp)]
  simp
theorem GV.len (h : GV H gv gs) : Zk gv H'=some (iv gs.length,H'):=by
 have:=h.sl.len (H':=H')
 rwa [List.length_map] at this
theorem GV.one (h : GV H gv gs) : oneCell gv=true:=by
 rcases h with ⟨_,rfl | rfl⟩ | ⟨id,rest,rfl,_⟩ <;> rfl
theorem GV.cut (h : GV H gv gs) {k : Nat} (hk : k≤gs.length) : ∃ sv,slv 1 gv none (some (iv k)) none H=some (sv,H)∧Sl H sv ((gs.take k).map strv):=by
 have b1 : ∀ d,bnd (some (iv k)) d=some k:=fun d=>by simp [bnd]
 have b2 : ∀ d,bnd none d=some d:=fun _=>rfl
 rcases h with ⟨rfl,h⟩ | ⟨id,rest,rfl,h2⟩
 ·have hk0 : k=0:=by simpa using hk
  subst hk0
  rcases h with rfl | rfl
  ·exact ⟨_,rfl,Sl.nil⟩
  ·exact ⟨_,rfl,⟨_,_,rfl,(fun e=>by cases e),rfl⟩⟩
 ·by_cases h0 : gs.length+rest.length=0
  ·have hk0 : k=0:=by omega
   subst hk0
   refine ⟨.slice (some ⟨id,0,some (bif false then 1 else 0)⟩) 0 0,?_,⟨_,_,rfl,(fun e=>by cases e),rfl⟩⟩
   simp only [slv,h2,b1,b2]
   rw [if_pos ⟨trivial,by omega,by omega,Nat.le_refl _⟩,if_pos (by omega)]
  ·refine ⟨.slice (some ⟨id,0,none⟩) k (gs.length+rest.length),?_,?_⟩
   ·simp only [slv,h2,b1,b2]
    rw [if_pos ⟨trivial,by omega,by omega,Nat.le_refl _⟩,if_neg (by omega)]
    simp
   ·have hl : ((gs.take k).map strv).length=k:=by simp;omega
    refine ⟨some ⟨id,0,none⟩,gs.length+rest.length,by rw [hl],(fun e=>by cases e),?_⟩
    simp only [ZT,h2]
    rw [if_pos (by simp;omega),List.drop_zero,Nat.mul_one,List.take_append_of_le_length (by simpa using hk),List.map_take]
structure Zh where
 nm : List UInt8
 hs : List UInt8
 ml : List UInt8
 ds : Bool
 gv : Value
 gs : List (List UInt8)
abbrev Zh.cells (u : Zh) : List Value:=[strv u.nm,strv u.hs,strv u.ml,.bool u.ds,u.gv]
def Zh.ok (H : Zb) (u : Zh) : Prop:=GV H u.gv u.gs
theorem Zh.all {u : Zh} (h : u.ok H) : u.cells.all oneCell=true:=by
 have:=GV.one h
 simp only [Zh.cells,List.all_cons,this];rfl
def Users (H : Zb) (sl : Value) (us : List Zh) : Prop:=SlN 5 H sl (us.map Zh.cells)∧∀ u∈us,u.ok H
variable {sl : Value} {us : List Zh}
theorem Users.mono (h : Users H sl us) (hl : HLe H H') : Users H' sl us:=⟨h.1.mono hl,fun u hu=>(h.2 u hu).mono hl⟩
theorem Users.len (h : Users H sl us) : Zk sl H'=some (iv us.length,H'):=by
 have:=h.1.len (H':=H')
 rwa [List.length_map] at this
theorem Users.fetch {β : Type} {k : Value→M β} (h : Users H sl us) {j : Nat} {u : Zh} (hj : us[j]?=some u) :
  bind (ixa 5 sl (iv j)) (fun p=>bind (ldA 5 p) fun v=>bind (alc 1 (.agg #[.string ⟨#[]⟩,.string ⟨#[]⟩,.string ⟨#[]⟩,.bool false,.slice none 0 0])) fun q=>bind (stA 5 q v) fun _=>k q) H=k (pt H.length) (H++[.cells u.cells 1 false false]):=by
 have hr : (us.map Zh.cells)[j]?=some u.cells:=by rw [List.getElem?_map,hj];rfl
 rw [h.1.fetch hr (by omega) .i64]
 exact Zdp (n:=5) (zs:=[.string ⟨#[]⟩,.string ⟨#[]⟩,.string ⟨#[]⟩,.bool false,.slice none 0 0]) (r:=u.cells) rfl rfl rfl (Zh.all (h.2 u (List.mem_of_getElem? hj)))
end
end Go.Proofs.YtedkoimihknggaaGreatDoor.A

namespace Go.Proofs.YtedkoimihknggaaGreatDoor.A
set_option linter.unusedVariables false
set_option linter.unusedSimpArgs false
open Go.Proofs Go.Proofs.YtedkoimihknggaaGreatDoor
section
variable {H0 H X : Zb} {n p : Nat} {u : Zh} {us : List Zh} {sl : Value}
theorem ZoF {a c : Int} {v : Value} (hs : Sl X v [iv a,iv c]) : R (n+1) KL [v] X=some (iv (if a=0 then c else a),X):=by
 have e1 : Zk v X=some (iv 2,X):=hs.len
 have x1 : ixa 1 v (.int .i64 0) X=some (ixp v 0,X):=hs.ix (i:=0) (by simp) .i64 X
 have x2:=hs.ldx (i:=0) (v:=iv a) rfl
 have x3 : ixa 1 v (.int .i64 1) X=some (ixp v 1,X):=hs.ix (i:=1) (by simp) .i64 X
 have x4:=hs.ldx (i:=1) (v:=iv c) rfl
 have w1 : IntKind.i64.wrap (0+1)=1:=w64 (by omega) (by omega)
 have w2 : IntKind.i64.wrap (1+1)=2:=w64 (by omega) (by omega)
 rw [R,Zly rfl]
 unfold QE
 rw [Za e1]
 by_cases ha : a=0
 ·rw [if_pos ha]
  have s1 : c3 (QE.l1 (run Tryz.prog np lvs n)) [v,iv 2,.int .i64 0] X=some (.nrm [v,iv 2,.int .i64 1],X):=by
   rw [Z3]
   unfold QE.l1
   rw [Za Zm,Zd,if_pos (by decide),Za x1,Za x2,Za Zr,Zd,if_neg (by simp [ha]),Za ZD,w1]
   rfl
  by_cases hc : c=0
  ·have s2 : c3 (QE.l1 (run Tryz.prog np lvs n)) [v,iv 2,.int .i64 1] X=some (.nrm [v,iv 2,.int .i64 2],X):=by
    rw [Z3]
    unfold QE.l1
    rw [Za Zm,Zd,if_pos (by decide),Za x3,Za x4,Za Zr,Zd,if_neg (by simp [hc]),Za ZD,w2]
    rfl
   have s3 : c3 (QE.l1 (run Tryz.prog np lvs n)) [v,iv 2,.int .i64 2] X=some (.ext 0 [],X):=by
    rw [Z3]
    unfold QE.l1
    rw [Za Zm,Zd,if_neg (by decide)]
    rfl
   rw [Q0 ((ZO s1).trans ((ZO s2).trans (Qb s3))),ZG,hc]
   rfl
  ·have s2 : c3 (QE.l1 (run Tryz.prog np lvs n)) [v,iv 2,.int .i64 1] X=some (.ret (iv c),X):=by
    rw [Z3]
    unfold QE.l1
    rw [Za Zm,Zd,if_pos (by decide),Za x3,Za x4,Za Zr,Zd,if_pos (by simp [hc])]
    rfl
   rw [Ke ((ZO s1).trans (JF s2))]
   rfl
 ·rw [if_neg ha]
  have s1 : c3 (QE.l1 (run Tryz.prog np lvs n)) [v,iv 2,.int .i64 0] X=some (.ret (iv a),X):=by
   rw [Z3]
   unfold QE.l1
   rw [Za Zm,Zd,if_pos (by decide),Za x1,Za x2,Za Zr,Zd,if_pos (by simp [ha])]
   rfl
  rw [Ke (JF s1)]
  rfl
theorem ZrK {a c : Int} (H : Zb) : bsl 1 2 (.int .i64 0) [(0,1,iv a),(1,1,iv c)] H=some (.slice (some ⟨H.length,0,none⟩) 2 2,H++[.cells [iv a,iv c] 1 false false]):=rfl
theorem ZtT {a c : List UInt8} {H : Zb} : bop .str .lss (strv a) (strv c) H=some (.bool (decide (a < c)),H):=by
 rw [← bytesLess_eq]
 show (sop .lss (⟨a.toArray⟩ : ByteArray) (⟨c.toArray⟩ : ByteArray)).map (·,H)=_
 unfold sop
 rw [Y4,Y4]
 rfl
theorem ZtA {a c : List UInt8} {H : Zb} : bop .str .geq (strv a) (strv c) H=some (.bool (!decide (a < c)),H):=by
 rw [← bytesLess_eq]
 show (sop .geq (⟨a.toArray⟩ : ByteArray) (⟨c.toArray⟩ : ByteArray)).map (·,H)=_
 unfold sop
 rw [Y4,Y4]
 rfl
theorem ZtP {a c : List UInt8} {H : Zb} : bop .str .gtr (strv a) (strv c) H=some (.bool (decide (c < a)),H):=by
 have h : (!(Op.bytesLess a c || a==c))=decide (c < a):=by
  rw [bytesLess_eq,Bool.eq_iff_iff]
  simp only [Bool.not_eq_true',Bool.or_eq_false_iff,decide_eq_false_iff_not,beq_eq_false_iff_ne,decide_eq_true_eq]
  constructor
  ·rintro ⟨h1,h2⟩
   rcases Zjg a c with h4 | h4 | h4
   ·exact absurd h4 h1
   ·exact absurd h4 h2
   ·exact h4
  ·intro h
   exact ⟨List.lt_asymm h,by rintro rfl;exact List.lt_irrefl _ h⟩
 rw [← h]
 show (sop .gtr (⟨a.toArray⟩ : ByteArray) (⟨c.toArray⟩ : ByteArray)).map (·,H)=_
 unfold sop
 rw [Y4,Y4]
 rfl
theorem Zok {a : List UInt8} : R (n+1) J4 [strv a] X=some (.bool false,X):=by
 rw [R,Zfz rfl]
 unfold ZaB
 rw [Za Zl4]
 simp [ret]
theorem ZqE {a c : List UInt8} : R (n+3) QC [strv a,strv c] X=some (iv (Zag a c),X):=by
 have e0 : run Tryz.prog np lvs (n+1) J4 [strv a] X=_:=Zok
 have e1 : run Tryz.prog np lvs (n+1) J4 [strv c] X=_:=Zok
 have e2 : run Tryz.prog np lvs (n+2) Kx [strv a,strv c] X=some (iv (Zag a c),X):=by
  rw [ZeV rfl]
  unfold WL Zag
  rw [Za e0,Za e1,Zd,if_neg (by simp),Zd,if_neg (by simp),Za ZtT,Zd]
  by_cases h1 : a < c
  ·rw [if_pos (by simpa using h1),if_pos h1];rfl
  ·rw [if_neg (by simpa using h1),Za ZtP,Zd,if_neg h1]
   by_cases h2 : c < a
   ·rw [if_pos (by simpa using h2),if_pos h2];rfl
   ·rw [if_neg (by simpa using h2),if_neg h2];rfl
 rw [R,ZjO rfl]
 unfold Zci
 rw [Za e2]
 rfl
theorem Zr9 {a c : List UInt8} : decide (Zag a c≥0)=!decide (a < c):=by
 unfold Zag
 by_cases h1 : a < c
 ·simp [h1]
 ·by_cases h2 : c < a <;> simp [h1,h2]
end
end Go.Proofs.YtedkoimihknggaaGreatDoor.A

namespace Go.Proofs.YtedkoimihknggaaGreatDoor.A
set_option linter.unusedVariables false
set_option linter.unusedSimpArgs false
open Go.Proofs Go.Proofs.YtedkoimihknggaaGreatDoor
section
variable {H0 H X : Zb} {n p d b : Nat} {u : Zh} {us : List Zh} {sl dv : Value}
end
end Go.Proofs.YtedkoimihknggaaGreatDoor.A

namespace Go.Proofs.YtedkoimihknggaaGreatDoor.A
set_option linter.unusedVariables false
set_option linter.unusedSimpArgs false
open Go.Proofs Go.Proofs.YtedkoimihknggaaGreatDoor
abbrev KJ:=List UInt8 × List UInt8 × List UInt8 × Bool × List (List UInt8)
def QS (u : Zh) : KJ:=(u.nm,u.hs,u.ml,u.ds,u.gs)
section
variable {H0 H X : Zb} {n p p1 p2 d b : Nat} {u w : Zh} {us ws : List Zh} {a c : Value}
theorem Zs5 {u : Zh} (h : oneCell u.gv=true) : alc 1 (.agg u.cells.toArray) X=some (pt X.length,X++[.cells u.cells 1 false false]):=by
 rw [QX]
 exact if_pos (show u.cells.toArray.toList.all oneCell=true by simp only [Zh.cells,List.all_cons,h];rfl)
def J7 (H : Zb) (sl : Value) (us : List Zh) : Prop:=SlN 5 H sl (us.map Zh.cells)∧∀ u∈us,Sl H u.gv (u.gs.map strv)∧oneCell u.gv=true∧u.gs.length≤1000000
theorem J7.mono (h : J7 H a us) (hl : HLe H X) : J7 X a us:=⟨h.1.mono hl,fun u hu=>⟨(h.2 u hu).1.mono hl,(h.2 u hu).2⟩⟩
theorem Users.s (h : Users H a us) (hb : ∀ u∈us,u.gs.length≤1000000) : J7 H a us:=⟨h.1,fun u hu=>⟨GV.sl (h.2 u hu),GV.one (h.2 u hu),hb u hu⟩⟩
end
end Go.Proofs.YtedkoimihknggaaGreatDoor.A

namespace Go.Proofs.YtedkoimihknggaaGreatDoor.A
set_option linter.unusedVariables false
set_option linter.unusedSimpArgs false
open Go.Proofs Go.Proofs.YtedkoimihknggaaGreatDoor
section
variable {H H' : Zb} {n d b p q : Nat} {m : YF} {k s : List UInt8}
end
end Go.Proofs.YtedkoimihknggaaGreatDoor.A

namespace Go.Proofs.YtedkoimihknggaaGreatDoor.A
set_option linter.unusedVariables false
set_option linter.unusedSimpArgs false
open Go.Proofs Go.Proofs.YtedkoimihknggaaGreatDoor
structure ZiH where
 kd : Nat
 nm : List UInt8
 hs : List UInt8
abbrev ZiH.cells (a : ZiH) : List Value:=[.int .u8 a.kd,strv a.nm,strv a.hs]
def ZeA (H : Zb) (sl : Value) (ac : List ZiH) : Prop:=SlN 3 H sl (ac.map ZiH.cells)∧∀ a∈ac,a.kd≤255
section
variable {H H' : Zb} {sl : Value} {ac : List ZiH} {n : Nat}
theorem ZeA.len (h : ZeA H sl ac) : Zk sl H'=some (iv ac.length,H'):=by
 have:=h.1.len (H':=H')
 rwa [List.length_map] at this
theorem ZeA.mono (h : ZeA H sl ac) (hl : HLe H H') : ZeA H' sl ac:=⟨h.1.mono hl,h.2⟩
theorem ZeA.fetch {β : Type} {k : Value→M β} (h : ZeA H sl ac) {j : Nat} {a : ZiH} (hj : ac[j]?=some a) :
  bind (ixa 3 sl (iv j)) (fun p=>bind (ldA 3 p) fun v=>bind (alc 1 (.agg #[.int .u8 0,.string ⟨#[]⟩,.string ⟨#[]⟩])) fun q=>bind (stA 3 q v) fun _=>k q) H=k (pt H.length) (H++[.cells a.cells 1 false false]):=by
 have hr : (ac.map ZiH.cells)[j]?=some a.cells:=by rw [List.getElem?_map,hj];rfl
 rw [h.1.fetch hr (by omega) .i64]
 exact Zdp (n:=3) (zs:=[.int .u8 0,.string ⟨#[]⟩,.string ⟨#[]⟩]) (r:=a.cells) rfl rfl rfl rfl
end
end Go.Proofs.YtedkoimihknggaaGreatDoor.A

namespace Go.Proofs.YtedkoimihknggaaGreatDoor.A
set_option linter.unusedVariables false
set_option linter.unusedSimpArgs false
open Go.Proofs Go.Proofs.YtedkoimihknggaaGreatDoor
section
variable {H : Zb} {n : Nat} {f v : Value} {p : List UInt8→Bool} {l : List (List UInt8)} {q : List Nat} {Q : Zb→Prop}
theorem HLe.stepq {X X' : Zb} (h : HLe X X') : Zq q X q X':=h.step.more (by simp) (fun j hj=>.inl hj)
theorem Zov (hl : l.length≤1000000) (hQ : ∀ X X',Q X→HLe X X'→Q X') (hf : ∀ X,Q X→∀ s∈l,∃ X',Qg (R n) f [strv s] X=some (.bool (p s),X')∧HLe X X') : ∀ (t k : Nat) (X : Zb),l.length - k=t→k≤l.length→Q X→Zn X v (l.map strv) q→
  ∃ X',Zf (c4 (Zp.l1 (R n))) [v,f,iv l.length,iv k] X=some (match (l.drop k).findIdx? p with | some i=>.ret (iv (k+i : Nat)) | none=>.ext 0 [],X')∧HLe X X'
 | 0,k,X,ht,hk,hq,hr=>by
  have : k=l.length:=by omega
  subst this
  rw [List.drop_length]
  refine ⟨X,Qb ?_,.refl _⟩
  rw [ZW]
  unfold Zp.l1
  rw [Za Zm,Zd,if_neg (by simp)]
  rfl
 | t+1,k,X,ht,hk,hq,hr=>by
  have hkl : k < l.length:=by omega
  have hlt : (k : Int) < l.length:=by omega
  have hg:=List.getElem?_eq_getElem hkl
  have hm : l[k]∈l:=List.getElem_mem hkl
  have hd:=List.drop_eq_getElem_cons hkl
  generalize l[k]=x at hg hd hm
  have x1:=hr.ix (i:=k) (by simpa using hkl) .i64 X
  have x2:=hr.ldx (YE hg)
  obtain ⟨X1,x3,l1⟩:=hf X hq x hm
  obtain ⟨X2,ih,l2⟩:=Zov hl hQ hf t (k+1) X1 (by omega) (by omega) (hQ _ _ hq l1) (hr.step l1.step (by simp))
  rw [hd,List.findIdx?_cons]
  cases hp : p x
  ·rw [hp] at x3
   refine ⟨X2,(ZO ?_).trans (ih.trans ?_),l1.trans l2⟩
   ·rw [ZW]
    unfold Zp.l1
    rw [Za Zm,Zd,if_pos (by simpa using hlt),Za x1,Za x2,Za x3,Zd,if_neg (by simp),Za ZD,J5 (by omega)]
    rfl
   ·cases (l.drop (k+1)).findIdx? p with
    | none=>rfl
    | some i=>simp only [Bool.false_eq_true,if_false,Option.map_some];rw [show k+1+i=k+(i+1) by omega]
  ·rw [hp] at x3
   refine ⟨X1,JF ?_,l1⟩
   rw [ZW]
   unfold Zp.l1
   rw [Za Zm,Zd,if_pos (by simpa using hlt),Za x1,Za x2,Za x3,Zd,if_pos rfl]
   rfl
theorem ZpY (hr : Zn H v (l.map strv) q) (hl : l.length≤1000000) (hQ : ∀ X X',Q X→HLe X X'→Q X') (hf : ∀ X,Q X→∀ s∈l,∃ X',Qg (R n) f [strv s] X=some (.bool (p s),X')∧HLe X X') (h0 : Q H) :
  ∃ H',R (n+1) QJ [v,f] H=some (match l.findIdx? p with | some i=>iv i | none=>iv (-1),H')∧HLe H H':=by
 obtain ⟨H',e,le⟩:=Zov hl hQ hf l.length 0 H (by omega) (by omega) h0 hr
 rw [List.drop_zero] at e
 have e : Zf (c4 (Zp.l1 (R n))) [v,f,iv l.length,.int .i64 0] H=_:=e
 have hlen : Zk v H=some (iv l.length,H):=by have:=hr.rd.len (H':=H);simpa using this
 refine ⟨H',?_,le⟩
 rw [R,ZaU rfl]
 unfold Zp
 rw [Za hlen]
 cases h : l.findIdx? p with
 | none=>rw [h] at e;rw [Q0 e,ZG];rfl
 | some i=>
  rw [h] at e
  rw [Ke e]
  simp [ret]
theorem Zj2 (hl : l.length≤1000000) (hQ : ∀ X X',Q X→Zq q X q X'→Q X') (hf : ∀ X,Q X→∀ s∈l,∃ X',Qg (R n) f [strv s] X=some (.bool (p s),X')∧HLe X X') : ∀ (t j i : Nat) (cs : List (List UInt8)) (X : Zb),l.length - j=t→j≤l.length→i≤j→cs.length=l.length→cs.drop j=l.drop j→Zn X v (cs.map strv) q→Q X→
  ∃ (X' : Zb) (cs' : List (List UInt8)),Zf (c4 (ZB.l1 (R n))) [v,f,iv i,iv j] X=some (.ext 0 [v,iv (i+((l.drop j).filter fun s=>!p s).length : Nat)],X')∧Zn X' v (cs'.map strv) q∧cs'.length=l.length∧
   cs'.take (i+((l.drop j).filter fun s=>!p s).length)=cs.take i++(l.drop j).filter (fun s=>!p s)∧Zq q X q X'
 | 0,j,i,cs,X,ht,hj,hi,hc,hd,hr,hq=>by
  have : j=l.length:=by omega
  subst this
  rw [List.drop_length]
  have hlen : Zk v X=some (iv l.length,X):=by have:=hr.rd.len (H':=X);simpa [hc] using this
  refine ⟨X,cs,Qb ?_,hr,hc,by simp,.refl _ _⟩
  rw [ZW]
  unfold ZB.l1
  rw [Za hlen,Za Zm,Zd,if_neg (by simp)]
  rfl
 | t+1,j,i,cs,X,ht,hj,hi,hc,hd,hr,hq=>by
  have hjl : j < l.length:=by omega
  have hlt : (j : Int) < l.length:=by omega
  have hg:=List.getElem?_eq_getElem hjl
  have hm : l[j]∈l:=List.getElem_mem hjl
  have hdl:=List.drop_eq_getElem_cons hjl
  generalize l[j]=x at hg hdl hm
  have hgc : cs[j]?=some x:=by
   have h1 : (cs.drop j)[0]?=(l.drop j)[0]?:=by rw [hd]
   simpa [hg] using h1
  have hlen : Zk v X=some (iv l.length,X):=by have:=hr.rd.len (H':=X);simpa [hc] using this
  have x1:=hr.ix (i:=j) (by simpa [hc] using hjl) .i64 X
  have x2:=hr.ldx (YE hgc)
  obtain ⟨Y,x3,ly⟩:=hf X hq x hm
  have hqy:=hQ _ _ hq (ly.stepq (q:=q))
  have hry:=hr.step ly.step (by simp)
  have hd1 : cs.drop (j+1)=l.drop (j+1):=by
   rw [← List.drop_drop,hd,List.drop_drop]
  rw [hdl,List.filter_cons]
  cases hp : p x
  ·rw [hp] at x3
   have x4:=hry.ix (i:=i) (by simp [hc];omega) .i64 Y
   obtain ⟨X1,x5,r1,s1,_⟩:=hry.stx (i:=i) (u:=strv x) (by simp [hc];omega) rfl
   have hset : (cs.map strv).set i (strv x)=(cs.set i x).map strv:=by rw [List.map_set]
   rw [hset] at r1
   obtain ⟨X',cs',e,r',hc',ht',s'⟩:=Zj2 hl hQ hf t (j+1) (i+1) (cs.set i x) X1 (by omega) (by omega) (by omega) (by simpa using hc) (by rw [List.drop_set_of_lt (by omega)];exact hd1) r1 (hQ _ _ hqy s1)
   have hn : i+1+((l.drop (j+1)).filter fun s=>!p s).length=i+(((l.drop (j+1)).filter fun s=>!p s).length+1):=by omega
   rw [hn] at e ht'
   simp only [Bool.not_false,if_true,List.length_cons]
   refine ⟨X',cs',(ZO ?_).trans e,r',hc',?_,(ly.stepq.trans s1).trans s'⟩
   ·rw [ZW]
    unfold ZB.l1
    rw [Za hlen,Za Zm,Zd,if_pos (by simpa using hlt),Za x1,Za x2,Za x3,Za Qa]
    refine (Wq (vs:=[v,f,iv ((i+1 : Nat) : Int),iv j]) (H':=X1) ?_).trans ?_
    ·rw [Zd,if_pos (by rfl),Za x4,Za x5,Za ZD,J5 (by omega)];rfl
    ·rw [ZW,Za ZD,J5 (by omega)];rfl
   ·rw [ht']
    have : (cs.set i x).take (i+1)=cs.take i++[x]:=by
     have hil : i < (cs.set i x).length:=by simp [hc];omega
     rw [List.take_succ_eq_append_getElem hil,List.take_set_of_le (Nat.le_refl _)]
     simp
    rw [this];simp
  ·rw [hp] at x3
   obtain ⟨X',cs',e,r',hc',ht',s'⟩:=Zj2 hl hQ hf t (j+1) i cs Y (by omega) (by omega) (by omega) hc hd1 hry hqy
   simp only [Bool.not_true,Bool.false_eq_true,if_false]
   refine ⟨X',cs',(ZO ?_).trans e,r',hc',ht',ly.stepq.trans s'⟩
   rw [ZW]
   unfold ZB.l1
   rw [Za hlen,Za Zm,Zd,if_pos (by simpa using hlt),Za x1,Za x2,Za x3,Za Qa]
   refine (Wq (vs:=[v,f,iv i,iv j]) (H':=Y) ?_).trans ?_
   ·rw [Zd,if_neg (by simp)];rfl
   ·rw [ZW,Za ZD,J5 (by omega)];rfl
theorem Zlx (hr : Zn H v (l.map strv) q) (hl : l.length≤1000000) (hQ : ∀ X X',Q X→Zq q X q X'→Q X') (hf : ∀ X,Q X→∀ s∈l,∃ X',Qg (R n) f [strv s] X=some (.bool (p s),X')∧HLe X X') (hf1 : ∀ X,Q X→∀ s∈l,∃ X',Qg (R (n+1)) f [strv s] X=some (.bool (p s),X')∧HLe X X') (h0 : Q H) :
  ∃ H' v',R (n+2) Z8 [v,f] H=some (v',H')∧Zn H' v' ((l.filter fun s=>!p s).map strv) q∧Zq q H q H':=by
 obtain ⟨Y,e1,ly⟩:=ZpY hr hl (fun X X' hq hx=>hQ X X' hq hx.stepq) hf h0
 have e1 : run Tryz.prog np lvs (n+1) QJ [v,f] H=_:=e1
 have hry:=hr.step ly.step (by simp)
 have hqy:=hQ _ _ h0 (ly.stepq (q:=q))
 have hfi:=Ze7 (p:=p) (l:=l)
 have hrun : R (n+2) Z8 [v,f] H=ZB (R (n+1)) v f H:=by rw [R,ZaI rfl]
 rw [hrun]
 unfold ZB
 cases h : l.findIdx? p with
 | none=>
  rw [h] at e1 hfi
  refine ⟨Y,v,?_,by rw [hfi];exact hry,ly.stepq⟩
  rw [Za e1,Za Qi,Zd,if_pos (by simp)]
  rfl
 | some i=>
  rw [h] at e1 hfi
  simp only at e1 hfi
  obtain ⟨X',cs',e2,r2,hc2,ht2,s2⟩:=Zj2 (n:=n+1) hl hQ hf1 (l.length - (i+1)) (i+1) i l Y rfl (by omega) (by omega) rfl rfl hry hqy
  have hle : ((l.drop (i+1)).filter fun s=>!p s).length≤l.length - (i+1):=by
   have:=List.length_filter_le (fun s=>!p s) (l.drop (i+1))
   simpa using this
  obtain ⟨a,X2,v',a1,a2,a3,a4,a5⟩:=ZqC r2 (i:=i+((l.drop (i+1)).filter fun s=>!p s).length) (by omega)
  refine ⟨X2,v',?_,by rw [hfi.1,← ht2];exact a4,(ly.stepq.trans s2).trans a5⟩
  rw [Za e1,Za Qi,Zd,if_neg (by simp),Za ZD,J5 (by omega),Q0 e2,ZG,QU,Za a1,Za a2,Za a3]
  rfl
end
abbrev Tx:=List UInt8
def Asc (l : List Tx) : Prop:=l.Pairwise (· < ·)
theorem Zf5 {a : Tx} : ¬ a < a:=List.lt_irrefl a
theorem ZkJ : ∀ {l l' : List Tx},Asc l→Asc l'→(∀ x,x∈l↔x∈l')→l=l'
 | [],[],_,_,_=>rfl
 | [],b :: l',_,_,h=>by have:=(h b).2 (by simp);cases this
 | a :: l,[],_,_,h=>by have:=(h a).1 (by simp);cases this
 | a :: l,b :: l',h1,h2,h=>by
  obtain ⟨a1,a2⟩:=List.pairwise_cons.1 h1
  obtain ⟨b1,b2⟩:=List.pairwise_cons.1 h2
  have hab : a=b:=by
   rcases List.mem_cons.1 ((h a).1 (by simp)) with e | e
   ·exact e
   ·rcases List.mem_cons.1 ((h b).2 (by simp)) with e' | e'
    ·exact e'.symm
    ·exact absurd (List.lt_trans (b1 a e) (a1 b e')) Zf5
  subst hab
  congr 1
  refine ZkJ a2 b2 fun x=>⟨fun hx=>?_,fun hx=>?_⟩
  ·rcases List.mem_cons.1 ((h x).1 (List.mem_cons_of_mem _ hx)) with e | e
   ·subst e;exact absurd (a1 _ hx) Zf5
   ·exact e
  ·rcases List.mem_cons.1 ((h x).2 (List.mem_cons_of_mem _ hx)) with e | e
   ·subst e;exact absurd (b1 _ hx) Zf5
   ·exact e
theorem Zdu {l : List Tx} (hn : l.Nodup) : Asc (Z0 l):=by
 have h1 : (Z0 l).Pairwise (fun a b=>leB a b=true):=List.pairwise_mergeSort (fun a b c h h'=>by
  simp only [leB,decide_eq_true_eq] at *
  exact List.le_trans h h') (fun a b=>by
  simp only [leB,Bool.or_eq_true,decide_eq_true_eq]
  exact List.le_total a b) l
 have h2 : (Z0 l).Nodup:=((List.mergeSort_perm l _).nodup_iff).2 hn
 unfold Asc
 have h3:=h1.and h2
 refine h3.imp fun {a b} h=>?_
 obtain ⟨h4,h5⟩:=h
 simp only [leB,decide_eq_true_eq] at h4
 exact Decidable.byContradiction fun h6=>h5 (List.le_antisymm h4 (List.not_lt.1 h6))
theorem Wg {l : List Tx} {x : Tx} : x∈Z0 l↔x∈l:=List.mem_mergeSort
structure Is (l : List Tx) (p : Tx→Prop) : Prop where
 asc : Asc l
 mem : ∀ x,x∈l↔p x
theorem Is.uniq {l l' : List Tx} {p p' : Tx→Prop} (h : Is l p) (h' : Is l' p') (hp : ∀ x,p x↔p' x) : l=l':=ZkJ h.asc h'.asc fun x=>(h.mem x).trans ((hp x).trans (h'.mem x).symm)
theorem Is.nil {l : List Tx} {p : Tx→Prop} (h : Is l p) : l=[]↔∀ x,¬ p x:=by
 constructor
 ·rintro rfl x hx;have:=(h.mem x).2 hx;cases this
 ·intro hx;exact List.eq_nil_iff_forall_not_mem.2 fun x hm=>hx x ((h.mem x).1 hm)
theorem Asc.nodup {l : List Tx} (h : Asc l) : l.Nodup:=h.imp fun {a b} hab e=>by subst e;exact Zf5 hab
theorem Asc.filter {l : List Tx} (h : Asc l) (p : Tx→Bool) : Asc (l.filter p):=List.Pairwise.filter p h
end Go.Proofs.YtedkoimihknggaaGreatDoor.A
namespace Go.Proofs.YtedkoimihknggaaGreatDoor.A
set_option linter.unusedVariables false
set_option linter.unusedSimpArgs false
open Go.Proofs Go.Proofs.YtedkoimihknggaaGreatDoor
abbrev ZsU (s : Nat) : Value:=.map (some s)
abbrev ZlY (_ : Unit) : Value:=.agg #[]
abbrev ZeK:=List (Tx × Nat)
abbrev Zre:=List (Tx × Unit)
abbrev Mem:=Tx→Tx→Bool
abbrev Jy (o : Nat) (G : ZeK) : List Nat:=o :: G.map (·.2)
abbrev Qz (G : ZeK) : List Tx:=G.map (·.1)
structure Grp (X : Zb) (g o : Nat) (G : ZeK) (mem : Mem) (c : Nat) : Prop where
 cell : X[g]?=some (.cells [.map (some o)] 1 false false)
 mo : Q9 ZsU X o G
 ms : ∀ p∈G,∃ S : Zre,Q9 ZlY X p.2 S∧(∀ n,(Zg n S).isSome=mem p.1 n)∧S.length≤c∧∀ q∈S,Zw q.1=true
 out : ∀ k n,mem k n=true→(Zg k G).isSome=true
 nod : (Jy o G).Nodup
 ok : ∀ p∈G,Zw p.1=true
 few : G.length≤6
theorem Zeq {α : Type} {k : Tx} : ∀ {m : List (Tx × α)},(Zg k m).isSome=decide (k∈m.map (·.1))
 | []=>rfl
 | p :: m=>by
  simp only [Zg,List.map_cons,List.mem_cons]
  by_cases h : p.1=k
  ·rw [if_pos h];simp [h]
  ·rw [if_neg h,Zeq]
   have : k≠p.1:=Ne.symm h
   simp [this]
section
variable {X X' : Zb} {n g o c c' : Nat} {G : ZeK} {mem mem' : Mem} {k m s t : Tx}
theorem Grp.isMap (h : Grp X g o G mem c) {j : Nat} (hj : j∈Jy o G) : j < X.length∧∀ cs es gr ro,X[j]?≠some (.cells cs es gr ro):=by
 have key : ∀ {α : Type} {enc : α→Value} {id : Nat} {mm : List (Tx × α)},Q9 enc X id mm→id < X.length∧∀ cs es gr ro,X[id]?≠some (.cells cs es gr ro):=fun hm=>⟨hm.lt,fun cs es gr ro e=>by
  obtain ⟨es',_,h1 | h1⟩:=hm.ex
  ·obtain ⟨clk,h1,_⟩:=h1;rw [e] at h1;cases h1
  ·rw [e] at h1;cases h1⟩
 rcases List.mem_cons.1 hj with rfl | hj
 ·exact key h.mo
 ·obtain ⟨p,hp,rfl⟩:=List.mem_map.1 hj
  obtain ⟨S,hS,_⟩:=h.ms p hp
  exact key hS
theorem Grp.gnot (h : Grp X g o G mem c) : g∉Jy o G:=fun hj=>(h.isMap hj).2 _ _ _ _ h.cell
theorem Grp.glt (h : Grp X g o G mem c) : g < X.length:=Je h.cell
theorem Grp.step {o1 o2 : List Nat} (h : Grp X g o G mem c) (hs : Zq o1 X o2 X') (hg : g∉o1) (ho : ∀ j∈Jy o G,j∉o1) : Grp X' g o G mem c:=
 ⟨hs.get h.cell hg,h.mo.step hs (ho o (by simp)),fun p hp=>by
  obtain ⟨S,h1,h2⟩:=h.ms p hp
  exact ⟨S,h1.step hs (ho p.2 (List.mem_cons_of_mem _ (List.mem_map.2 ⟨p,hp,rfl⟩))),h2⟩,h.out,h.nod,h.ok,h.few⟩
theorem Grp.hle (h : Grp X g o G mem c) (hl : HLe X X') : Grp X' g o G mem c:=h.step hl.step (by simp) (by simp)
theorem Grp.more (h : Grp X g o G mem c) (hc : c≤c') (hm : ∀ k n,mem' k n=mem k n) : Grp X g o G mem' c':=
 ⟨h.cell,h.mo,fun p hp=>by
  obtain ⟨S,h1,h2,h3,h4⟩:=h.ms p hp
  exact ⟨S,h1,fun n=>(h2 n).trans (hm _ _).symm,Nat.le_trans h3 hc,h4⟩,fun k n hk=>h.out k n (by rw [← hm];exact hk),h.nod,h.ok,h.few⟩
theorem Grp.ldo (h : Grp X g o G mem c) : ld1 (pt g) X=some (.map (some o),X):=ZeN h.cell
theorem Grp.upd (h : Grp X g o G mem c) {id : Nat} {S' : Zre} (hk : Zg k G=some id) (hm : Q9 ZlY X' id S') (hs : Zq [id] X [id] X') (hn : ∀ q∈S',Zw q.1=true) (hc : S'.length≤c') (hcc : c≤c')
  (hmem : ∀ k' n,mem' k' n=if k'=k then (Zg n S').isSome else mem k' n) : Grp X' g o G mem' c':=by
 have hpm:=WZ hk
 have hnod:=h.nod
 simp only [List.nodup_cons] at hnod
 have hidm : id∈G.map (·.2):=List.mem_map.2 ⟨_,hpm,rfl⟩
 have hido : o≠id:=fun e=>hnod.1 (e ▸ hidm)
 have hidg : g≠id:=fun e=>h.gnot (e ▸ List.mem_cons_of_mem _ hidm)
 refine ⟨hs.get h.cell (by simpa using hidg),h.mo.step hs (by simpa using hido),fun p hp=>?_,fun k' n hk'=>?_,h.nod,h.ok,h.few⟩
 ·by_cases hpid : p.2=id
  ·have hpk : p.1=k:=by
    have h1 : Zg p.1 G=some p.2:=Zap h.mo.nod hp
    have hinj : ∀ (G : ZeK),(G.map (·.2)).Nodup→p∈G→(k,id)∈G→p=(k,id):=by
     intro G hG h1 h2
     induction G with
     | nil=>cases h1
     | cons a G ih=>
      simp only [List.map_cons,List.nodup_cons,List.mem_map,not_exists,not_and] at hG
      rcases List.mem_cons.1 h1 with e1 | e1
      ·rcases List.mem_cons.1 h2 with e2 | e2
       ·rw [e1,e2]
       ·exact absurd (by rw [← e1];exact hpid.symm) (hG.1 _ e2)
      ·rcases List.mem_cons.1 h2 with e2 | e2
       ·exact absurd (by rw [← e2];exact hpid) (hG.1 _ e1)
       ·exact ih hG.2 e1 e2
    rw [hinj G hnod.2 hp hpm]
   exact ⟨S',by rw [hpid];exact hm,fun n=>by rw [hmem,if_pos hpk],hc,hn⟩
  ·obtain ⟨S,h1,h2,h3,h4⟩:=h.ms p hp
   have hpk : p.1≠k:=fun e=>hpid (by
    have h5 : Zg p.1 G=some p.2:=Zap h.mo.nod hp
    rw [e,hk] at h5;exact (Option.some.inj h5).symm)
   exact ⟨S,h1.step hs (by simpa using hpid),fun n=>by rw [hmem,if_neg hpk];exact h2 n,Nat.le_trans h3 hcc,h4⟩
 ·rw [hmem] at hk'
  by_cases e : k'=k
  ·rw [e,hk];rfl
  ·rw [if_neg e] at hk';exact h.out k' n hk'
theorem Grp.step1 (h : Grp X g o G mem c) {id : Nat} (hk : Zg k G=some id) (hs : Zq [id] X [id] X') : Zq (Jy o G) X (Jy o G) X':=
 hs.more (fun j hj=>by
  have hj : j=id:=by simpa using hj
  subst hj
  exact List.mem_cons_of_mem _ (List.mem_map.2 ⟨_,WZ hk,rfl⟩)) (fun j hj=>.inl hj)
theorem Grp.set (h : Grp X g o G mem c) {id : Nat} (hk : Zg k G=some id) : ∃ S : Zre,Q9 ZlY X id S∧(∀ n,(Zg n S).isSome=mem k n)∧S.length≤c∧∀ q∈S,Zw q.1=true:=h.ms _ (WZ hk)
theorem Grp.key (h : Grp X g o G mem c) : (Zg k G).isSome=decide (k∈Qz G):=Zeq
theorem Zk6 {v : Value} {l : List Tx} (hl : l.length≤1000) (hs : Sl X v (l.map strv)) : ∀ (t j : Nat),l.length - j=t→j≤l.length→
  Zf (c3 (Ye.l1 (R (n+5)))) [v,iv l.length,iv j] X=some (if (l.drop j).all Zw then .ext 0 [] else .ret (iv 10),X)
 | 0,j,ht,hj=>by
  rw [List.drop_eq_nil_of_le (by omega)]
  refine Qb ?_
  rw [Z3,show j=l.length by omega]
  unfold Ye.l1
  rw [Za Zm,Zd,if_neg (by simp)]
  rfl
 | t+1,j,ht,hj=>by
  have hkl : j < l.length:=by omega
  have hlt : (j : Int) < l.length:=by omega
  have hg:=List.getElem?_eq_getElem hkl
  have hd:=List.drop_eq_getElem_cons hkl
  generalize l[j]=x at hg hd
  have x1:=hs.ix (i:=j) (by simpa using hkl) .i64 X
  have x2:=hs.ldx (YE hg)
  have x3 : R (n+5) QM [strv x] X=some (iv (ZL x),X):=ZcN
  rw [hd,List.all_cons]
  cases hx : Zw x
  ·refine JF ?_
   rw [Z3]
   unfold Ye.l1
   rw [Za Zm,Zd,if_pos (by simpa using hlt),Za x1,Za x2,Za x3,show ZL x=10 by unfold ZL;rw [hx];rfl,Za Zr,Zd,if_pos (by simp)]
   rfl
  ·refine (ZO ?_).trans (Zk6 hl hs t (j+1) (by omega) (by omega))
   rw [Z3]
   unfold Ye.l1
   rw [Za Zm,Zd,if_pos (by simpa using hlt),Za x1,Za x2,Za x3,show ZL x=0 by unfold ZL;rw [hx];rfl,Za Zr,Zd,if_neg (by simp),Za ZD,J5 (by omega)]
   rfl
def Zin (l : List Tx) : Int:=if l.all Zw then 0 else 10
theorem ZqU {v : Value} {l : List Tx} (hl : l.length≤1000) (hs : Sl X v (l.map strv)) : R (n+6) K1 [v] X=some (iv (Zin l),X):=by
 have e:=Zk6 (n:=n) hl hs l.length 0 (by omega) (by omega)
 rw [show iv ((0 : Nat) : Int)=.int .i64 0 from rfl,List.drop_zero] at e
 have hlen : Zk v X=some (iv l.length,X):=by have:=hs.len (H':=X);simpa using this
 rw [R,ZkP rfl]
 unfold Ye Zin
 rw [Za hlen]
 by_cases h : l.all Zw=true
 ·rw [if_pos h] at e ⊢
  rw [Q0 e,ZG];rfl
 ·rw [if_neg h] at e ⊢
  rw [Ke e];rfl
def Q3 (k : Tx) (ms : List Tx) (K : List Tx) : Int:=if (k :: ms).all Zw then (if k∈K then 0 else 8) else 10
theorem Zox (h : Grp X g o G mem c) {mv : Value} {ms : List Tx} (hml : ms.length≤5)
  (hrow : ∃ w X1 v X2,bsl 1 1 (.string ⟨#[]⟩) [(0,1,strv k)] X=some (w,X1)∧app 1 16 w mv X1=some (v,X2)∧Sl X2 v ((k :: ms).map strv)∧HLe X X2) :
  ∃ X',R (n+7) JC [pt g,strv k,mv] X=some (.tuple #[.map (if Q3 k ms (Qz G)=0 then Zg k G else none),iv (Q3 k ms (Qz G))],X')∧HLe X X':=by
 obtain ⟨w,X1,v,X2,e1,e2,s2,l2⟩:=hrow
 have e3 : R (n+6) K1 [v] X2=_:=ZqU (n:=n) (l:=k :: ms) (by simp;omega) s2
 have h2:=h.hle l2
 refine ⟨X2,?_,l2⟩
 rw [R,Zfh rfl]
 unfold Zab Q3
 rw [Za e1,Za e2,Za e3]
 unfold Zin
 by_cases hn : (k :: ms).all Zw=true
 ·rw [if_pos hn,if_pos hn]
  have e4:=h2.mo.lkp (k:=k) (z:=.map none) (ok:=true)
  have hkey:=h2.key (k:=k)
  rw [Za Zr,Zd,if_neg (by simp),Za Zt,Za Zz,Za h2.ldo]
  cases hk : Zg k G with
  | none=>
   rw [hk] at e4 hkey
   have hnk : ¬ k∈Qz G:=by simpa using hkey.symm
   rw [if_neg hnk,if_neg (by decide)]
   simp only [cond_true] at e4
   rw [Za e4,Za Zu,Za Zv,Za Qa,Zd,if_pos (by rfl)]
   rfl
  | some id=>
   rw [hk] at e4 hkey
   have hnk : k∈Qz G:=by simpa using hkey.symm
   rw [if_pos hnk,if_pos rfl]
   simp only [cond_true] at e4
   rw [Za e4,Za Zu,Za Zv,Za Qa,Zd,if_neg (by simp)]
   rfl
 ·rw [if_neg hn,if_neg hn,Za Zr,Zd,if_pos (by rfl)]
  rfl
theorem Zo1 {x : Tx} {H : Zb} : bsl 1 1 (.string ⟨#[]⟩) [(0,1,strv x)] H=some (.slice (some ⟨H.length,0,none⟩) 1 1,H++[.cells [strv x] 1 false false]):=Zpu rfl rfl rfl
theorem Zjl {x : Tx} {H : Zb} : Zn (H++[.cells [strv x] 1 false false]) (.slice (some ⟨H.length,0,none⟩) 1 1) ([x].map strv) [H.length]:=.inr ⟨H.length,[],false,rfl,rfl,by rw [ZM];rfl⟩
theorem ZsP {b : Nat} {sl : Value} {vs : List Value} {q : List Nat} (h : Zn X sl vs q) : app 1 b sl (.slice none 0 0) X=some (sl,X):=by
 rcases h with ⟨rfl,rfl,rfl⟩ | ⟨sid,rest,gr,rfl,rfl,hid⟩
 ·rfl
 ·unfold app
  simp only [ZT,flen,hid,Nat.add_zero,Nat.le_add_right,if_true]
theorem Zq3 (h : Grp X g o G mem c) : ∃ X',R (n+7) JC [pt g,strv k,.slice none 0 0] X=some (.tuple #[.map (if Q3 k [] (Qz G)=0 then Zg k G else none),iv (Q3 k [] (Qz G))],X')∧HLe X X':=
 Zox h (by simp) ⟨_,_,_,_,Zo1,ZsP Zjl,Zjl.rd,.app _ _⟩
theorem ZrB (h : Grp X g o G mem c) {mv : Value} (hm : Sl X mv [strv m]) : ∃ X',R (n+7) JC [pt g,strv k,mv] X=some (.tuple #[.map (if Q3 k [m] (Qz G)=0 then Zg k G else none),iv (Q3 k [m] (Qz G))],X')∧HLe X X':=by
 have l1 : HLe X (X++[.cells [strv k] 1 false false]):=.app _ _
 obtain ⟨v,X2,q,e2,r2,s2,_⟩:=(Zjl (x:=k) (H:=X)).push (b:=16) (hm.mono l1) (by simp) (by simp)
 have l2:=(l1.more s2 (by simp)).1
 exact Zox h (by simp) ⟨_,_,_,_,Zo1,e2,r2.rd,l2⟩
theorem Ztd : ∃ X' g o,R (n+1) ZcB [] X=some (pt g,X')∧Grp X' g o [] (fun _ _=>false) 0∧HLe X X'∧X.length≤g∧X.length≤o:=by
 obtain ⟨H1,e1,g1,l1⟩:=ZoP (α:=Nat) (enc:=ZsU) X
 have e2 : bld (.agg #[.map none]) [(0,1,.map (some X.length))] H1=some (.agg #[.map (some X.length)],H1):=by simp [↓ZY,ZZ,↓QB,Qd,Qe,Qc,↓Zd,JW,Zt,YG,Qk,Jt,Qm,Js,Jr,QI,JA,QH,QX,QZ,Q1,QF,ZC,Qa,YM,Ym,Jg,Jd,JV,ZD,QR,JS,JU,JH,Qi,Zr,Zm,JB,QG,QN,JQ,JT,JL,JI,↓YR,JY,↓g_r,YQ,Yz,K5,splice,Value.cells]
 have e3 : alc 1 (.agg #[.map (some X.length)]) H1=some (pt H1.length,H1++[.cells [.map (some X.length)] 1 false false]):=by
  rw [QX];simp [Value.cells,oneCell]
 refine ⟨H1++[.cells [.map (some X.length)] 1 false false],H1.length,X.length,?_,⟨ZM,g1.hle (.app _ _),by simp,by simp,by simp,by simp,by simp⟩,l1.trans (.app _ _),l1.len,Nat.le_refl _⟩
 rw [R,Zm3 rfl]
 unfold Zel
 rw [Za e1,Za e2,Za e3]
 rfl
def Yr (k : Tx) (K : List Tx) : Int:=if Zw k then (if k∈K then 9 else if 6≤K.length then 7 else 0) else 10
def Zd9 (k : Tx) (K : List Tx) : List Tx:=if Yr k K=0 then K++[k] else K
theorem Zsl (h : Grp X g o G mem c) : ∃ X' G',R (n+8) JE [pt g,strv k] X=some (iv (Yr k (Qz G)),X')∧Grp X' g o G' mem c∧Qz G'=Zd9 k (Qz G)∧Zq (Jy o G) X (Jy o G') X':=by
 obtain ⟨X1,e1,l1⟩:=Zq3 (n:=n) (k:=k) h
 have h1:=h.hle l1
 have f1 : ∀ r X',Ji (R (n+7)) (pt g) (strv k) X=some (r,X')→R (n+8) JE [pt g,strv k] X=some (r,X'):=fun r X' hr=>by rw [R,Zfs rfl];exact hr
 have same : ∀ e,Yr k (Qz G)=e→e≠0→(Ji (R (n+7)) (pt g) (strv k) X=some (iv e,X1))→∃ X' G',R (n+8) JE [pt g,strv k] X=some (iv (Yr k (Qz G)),X')∧Grp X' g o G' mem c∧Qz G'=Zd9 k (Qz G)∧Zq (Jy o G) X (Jy o G') X':=fun e he hne hr=>by
  refine ⟨X1,G,by rw [he];exact f1 _ _ hr,h1,?_,l1.stepq⟩
  unfold Zd9;rw [if_neg (by rw [he];exact hne)]
 cases hn : Zw k
 ·have hE : Yr k (Qz G)=10:=by unfold Yr;rw [hn];rfl
  have hF : Q3 k [] (Qz G)=10:=by unfold Q3;simp [hn]
  rw [hF] at e1
  refine same _ hE (by decide) ?_
  unfold Ji
  rw [Za e1,Za Zu,Za Zv,Za Qi,Zd,if_neg (by decide),Za Zr,Zd,if_pos (by decide)]
  rfl
 ·by_cases hk : k∈Qz G
  ·have hE : Yr k (Qz G)=9:=by unfold Yr;rw [hn,if_pos rfl,if_pos hk]
   have hF : Q3 k [] (Qz G)=0:=by unfold Q3;simp [hn,hk]
   rw [hF] at e1
   refine same _ hE (by decide) ?_
   unfold Ji
   rw [Za e1,Za Zu,Za Zv,Za Qi,Zd,if_pos (by decide)]
   rfl
  ·have hF : Q3 k [] (Qz G)=8:=by unfold Q3;simp [hn,hk]
   rw [hF] at e1
   have hkl : (Qz G).length=G.length:=by simp
   by_cases hl : 6≤(Qz G).length
   ·have hE : Yr k (Qz G)=7:=by unfold Yr;rw [hn,if_pos rfl,if_neg hk,if_pos hl]
    refine same _ hE (by decide) ?_
    unfold Ji
    rw [Za e1,Za Zu,Za Zv,Za Qi,Zd,if_neg (by decide),Za Zr,Zd,if_neg (by decide),Za Zt,Za Zz,Za h1.ldo,Za h1.mo.len,Za QN,Zd,if_pos (by simp;omega)]
    rfl
   ·have hE : Yr k (Qz G)=0:=by unfold Yr;rw [hn,if_pos rfl,if_neg hk,if_neg hl]
    obtain ⟨X2,e2,m2,l2⟩:=ZoP (α:=Unit) (enc:=ZlY) X1
    have h2:=h1.hle l2
    have hkn : Zg k G=none:=by
     have:=h.key (k:=k)
     cases ha : Zg k G with
     | none=>rfl
     | some v=>rw [ha] at this;exact absurd (by simpa using this.symm) hk
    obtain ⟨X3,e3,m3,s3,len3⟩:=h2.mo.mup (k:=k) (v:=X1.length)
    have ha : QK k X1.length G=G++[(k,X1.length)]:=by unfold QK;rw [hkn];rfl
    rw [ha] at m3
    have hlt : ∀ j∈Jy o G,j < X1.length:=fun j hj=>(h1.isMap hj).1
    refine ⟨X3,G++[(k,X1.length)],?_,?_,?_,?_⟩
    ·rw [hE]
     refine f1 _ _ ?_
     unfold Ji
     rw [Za e1,Za Zu,Za Zv,Za Qi,Zd,if_neg (by decide),Za Zr,Zd,if_neg (by decide),Za Zt,Za Zz,Za h1.ldo,Za h1.mo.len,Za QN,Zd,if_neg (by simp;omega),Za Zt,Za Zz,Za h1.ldo,Za e2,Za e3]
     rfl
    ·have hgo : g≠o:=fun e=>h.gnot (by rw [e];simp)
     have hoid : ∀ p∈G,p.2≠o:=fun p hp e=>by
      have:=h.nod
      simp only [List.nodup_cons] at this
      exact this.1 (List.mem_map.2 ⟨p,hp,e⟩)
     refine ⟨s3.get h2.cell (by simpa using hgo),m3,fun p hp=>?_,fun k' n' hk'=>?_,?_,fun p hp=>?_,by simp;omega⟩
     ·rcases List.mem_append.1 hp with hp | hp
      ·obtain ⟨S,h5,h6⟩:=h2.ms p hp
       exact ⟨S,h5.step s3 (by simpa using hoid p hp),h6⟩
      ·have : p=(k,X1.length):=by simpa using hp
       subst this
       refine ⟨[],m2.step s3 (by have:=hlt o (by simp);simp;omega),fun n'=>?_,Nat.zero_le _,by simp⟩
       cases hb : mem k n' with
       | false=>rfl
       | true=>have:=h.out k n' hb;rw [hkn] at this;cases this
     ·rw [ZbM]
      have:=h.out k' n' hk'
      cases hg : Zg k' G with
      | none=>rw [hg] at this;cases this
      | some v=>rfl
     ·have : Jy o (G++[(k,X1.length)])=Jy o G++[X1.length]:=by simp
      rw [this,List.nodup_append]
      refine ⟨h.nod,by simp,fun a ha b hb e=>?_⟩
      have:=hlt a ha
      have hb : b=X1.length:=by simpa using hb
      omega
     ·rcases List.mem_append.1 hp with hp | hp
      ·exact h.ok p hp
      ·have : p=(k,X1.length):=by simpa using hp
       subst this;exact hn
    ·unfold Zd9;rw [if_pos hE];simp
    ·have s:=(l1.trans l2).stepq (q:=Jy o G)
     have s:=s.trans (s3.more (o2:=Jy o G) (o2':=Jy o G) (by simp) (fun j hj=>.inl hj))
     refine ⟨s.len,s.keep,fun j hj=>?_⟩
     ·have : Jy o (G++[(k,X1.length)])=Jy o G++[X1.length]:=by simp
      rw [this] at hj
      rcases List.mem_append.1 hj with hj | hj
      ·exact .inl hj
      ·have hj : j=X1.length:=by simpa using hj
       exact .inr (by rw [hj];exact l1.len)
def Zkc (k : Tx) (K : List Tx) : Int:=if Zw k then (if k∈K then 0 else 8) else 10
def ZtS (k : Tx) (K : List Tx) : List Tx:=if Zkc k K=0 then K.filter (fun x=>decide (x≠k)) else K
def Zko (k : Tx) (mem : Mem) : Mem:=fun k' n=>mem k' n && !(k'==k)
end
end Go.Proofs.YtedkoimihknggaaGreatDoor.A
namespace Go.Proofs.YtedkoimihknggaaGreatDoor.A
set_option linter.unusedVariables false
set_option linter.unusedSimpArgs false
open Go.Proofs Go.Proofs.YtedkoimihknggaaGreatDoor
theorem ZmP {α : Type} {k : Tx} {v : α} {m : List (Tx × α)} {q : Tx × α} (h : q∈QK k v m) : q=(k,v)∨q∈m:=by
 unfold QK at h
 split at h
 ·obtain ⟨p,hp,rfl⟩:=List.mem_map.1 h
  by_cases e : p.1=k
  ·rw [if_pos e];exact .inl rfl
  ·rw [if_neg e];exact .inr hp
 ·rcases List.mem_append.1 h with h | h
  ·exact .inr h
  ·exact .inl (by simpa using h)
section
variable {X X' : Zb} {n g o c c' : Nat} {G : ZeK} {mem mem' : Mem} {k m s t : Tx}
def ZbI (k m : Tx) (K : List Tx) (mem : Mem) : Int:=if Q3 k [m] K=0 then (if mem k m then 9 else 0) else Q3 k [m] K
def ZrF (k m : Tx) (K : List Tx) (mem : Mem) : Int:=if Q3 k [m] K=0 then (if mem k m then 0 else 12) else Q3 k [m] K
def Zje (k m : Tx) (mem : Mem) : Mem:=fun k' n=>mem k' n || (k'==k && n==m)
def Zs2 (k m : Tx) (mem : Mem) : Mem:=fun k' n=>mem k' n && !(k'==k && n==m)
theorem Zpa {k m : Tx} {K : List Tx} (h : Q3 k [m] K=0) : Zw k=true∧Zw m=true∧k∈K:=by
 unfold Q3 at h
 by_cases h1 : (k :: [m]).all Zw=true
 ·rw [if_pos h1] at h
  simp only [List.all_cons,List.all_nil,Bool.and_true,Bool.and_eq_true] at h1
  by_cases h2 : k∈K
  ·exact ⟨h1.1,h1.2,h2⟩
  ·rw [if_neg h2] at h;cases h
 ·rw [if_neg h1] at h;cases h
theorem ZtW {H : Zb} : bld (.agg #[]) [] H=some (.agg #[],H):=by simp [↓ZY,ZZ,↓QB,Qd,Qe,Qc,↓Zd,JW,Zt,YG,Qk,Jt,Qm,Js,Jr,QI,JA,QH,QX,QZ,Q1,QF,ZC,Qa,YM,Ym,Jg,Jd,JV,ZD,QR,JS,JU,JH,Qi,Zr,Zm,JB,QG,QN,JQ,JT,JL,JI,↓YR,JY,↓g_r,YQ,Yz,K5,splice,Value.cells]
theorem Grp.has (h : Grp X g o G mem c) (hk : k∈Qz G) : ∃ id,Zg k G=some id:=by
 have:=h.key (k:=k)
 cases ha : Zg k G with
 | none=>rw [ha] at this;exact absurd hk (by simpa using this.symm)
 | some v=>exact ⟨v,rfl⟩
theorem ZsJ (h : Grp X g o G mem c) : ∃ X',R (n+8) Yj [pt g,strv k,strv m] X=some (iv (ZbI k m (Qz G) mem),X')∧Grp X' g o G (if ZbI k m (Qz G) mem=0 then Zje k m mem else mem) (c+1)∧Zq (Jy o G) X (Jy o G) X':=by
 have l0 : HLe X (X++[.cells [strv m] 1 false false]):=.app _ _
 have s0:=(Zjl (x:=m) (H:=X)).rd
 have e0:=Zo1 (x:=m) (H:=X)
 generalize X++[Zi.cells [strv m] 1 false false]=X0 at l0 s0 e0
 obtain ⟨X1,e1,l1⟩:=ZrB (n:=n) (k:=k) (m:=m) (h.hle l0) s0
 have l01:=l0.trans l1
 have h1:=h.hle l01
 have f1 : ∀ r X',Yk (R (n+7)) (pt g) (strv k) (strv m) X=some (r,X')→R (n+8) Yj [pt g,strv k,strv m] X=some (r,X'):=fun r X' hr=>by rw [R,Zft rfl];exact hr
 unfold ZbI
 by_cases hE : Q3 k [m] (Qz G)=0
 ·rw [hE] at e1 ⊢
  rw [if_pos rfl] at e1 ⊢
  obtain ⟨b1,b2,b3⟩:=Zpa hE
  obtain ⟨id,hid⟩:=h.has b3
  rw [hid] at e1
  obtain ⟨S,m1,m2,m3,m4⟩:=h1.set hid
  have e2:=m1.lkp (k:=m) (z:=.agg #[]) (ok:=true)
  have l2 : HLe X1 (X1++[.cells [] 1 false false]):=.app _ _
  have hbox:=fun {K : Value→M Value}=>Zdp (k:=K) (zs:=[]) (r:=[]) (n:=0) (H:=X1) rfl rfl rfl rfl
  have h2:=h1.hle l2
  have m1:=m1.hle l2
  generalize X1++[Zi.cells [] 1 false false]=X2 at hbox l2 h2 m1
  have hmm:=m2 m
  cases hg : Zg m S with
  | some u=>
   rw [hg] at hmm e2
   have hmm : mem k m=true:=hmm.symm
   rw [if_pos hmm,if_neg (by decide)]
   refine ⟨X2,f1 _ _ ?_,h2.more (Nat.le_succ _) (fun _ _=>rfl),(l01.trans l2).stepq⟩
   unfold Yk
   simp only [cond_true] at e2
   rw [Za e0,Za e1,Za Zu,Za Zv,Za Zr,Zd,if_neg (by decide),Za e2,Za Zu,Za Zv]
   refine hbox.trans ?_
   rw [Zd,if_pos rfl]
   rfl
  | none=>
   rw [hg] at hmm e2
   have hmm : mem k m=false:=hmm.symm
   rw [if_neg (by simp [hmm]),if_pos rfl]
   simp only [cond_true] at e2
   obtain ⟨X3,e3,m5,s3,_⟩:=m1.mup (k:=m) (v:=())
   have hlen : (QK m () S).length≤c+1:=by rw [ZeB,hg];simp;omega
   refine ⟨X3,f1 _ _ ?_,h2.upd hid m5 s3 (fun q hq=>?_) hlen (Nat.le_succ _) (fun k' n'=>?_),(l01.trans l2).stepq.trans (h2.step1 hid s3)⟩
   ·unfold Yk
    rw [Za e0,Za e1,Za Zu,Za Zv,Za Zr,Zd,if_neg (by decide),Za e2,Za Zu,Za Zv]
    refine hbox.trans ?_
    rw [Zd,if_neg (by simp),Za ZtW,Za e3]
    rfl
   ·rcases ZmP hq with rfl | hq
    ·exact b2
    ·exact m4 q hq
   ·unfold Zje
    by_cases hk : k'=k
    ·subst hk
     rw [if_pos rfl]
     by_cases hn : n'=m
     ·subst hn;rw [Wf];simp
     ·rw [Ka hn,m2];simp [hn]
    ·rw [if_neg hk];simp [hk]
 ·rw [if_neg hE,if_neg hE]
  refine ⟨X1,f1 _ _ ?_,h1.more (Nat.le_succ _) (fun _ _=>rfl),l01.stepq⟩
  unfold Yk
  rw [Za e0,Za e1,Za Zu,Za Zv,Za Zr,Zd,if_pos (by simpa using hE)]
  rfl
theorem ZqA (h : Grp X g o G mem c) : ∃ v q X',R (n+3) J2 [pt g] X=some (v,X')∧Zn X' v ((Z0 (Qz G)).map strv) q∧HLe X X'∧∀ j∈q,X.length≤j:=by
 have e1 : R (n+1) Qh [.map (some o)] X=some (.func (.func QW) #[] #[pt X.length],X++[.cells [.map (some o)] 1 false false]):=by
  rw [R,KS rfl]
  unfold QY
  rw [Za (Zl6 rfl rfl _)]
  rfl
 have l1 : HLe X (X++[.cells [.map (some o)] 1 false false]):=.app _ _
 obtain ⟨v,q,X2,e2,r2,l2,o2⟩:=(h.mo.hle l1).keys (gks:=ZgA) (gc:=QC) (gk:=QW) (c:=X.length) (by decide) ZM (Nat.le_trans h.few (by decide)) (fun p hp=>Nat.le_trans (WM (h.ok p hp)) (by decide))
 have e2' : R (n+1) QT [.func (.func QW) #[] #[pt X.length],.func (.func QC) #[] #[]] (X++[.cells [.map (some o)] 1 false false])=some (v,X2):=by
  rw [R,ZeU (show np QT=some (Za6 ZgA QC) from rfl)]
  exact e2
 have e3 : R (n+2) YJ [.map (some o)] X=some (v,X2):=by
  rw [R,Zdg rfl]
  unfold KZ
  rw [Za e1,Za e2']
  rfl
 refine ⟨v,q,X2,?_,r2,l1.trans l2,fun j hj=>Nat.le_trans l1.len (o2 j hj)⟩
 rw [R,ZfI rfl]
 unfold ZaA
 rw [Za Zt,Za Zz,Za h.ldo,Za e3]
 rfl
theorem WK {l : List Tx} : (Z0 l).length=l.length:=List.length_mergeSort l
def ofL (m : Tx) (K : List Tx) (mem : Mem) : List Tx:=(Z0 K).filter fun k=>mem k m
theorem Znm {K : List Tx} (hn : K.Nodup) : Is (ofL m K mem) (fun k=>k∈K∧mem k m=true):=⟨(Zdu hn).filter _,fun x=>by unfold ofL;rw [List.mem_filter,Wg]⟩
theorem Zj3 {K : List Tx} : (ofL m K mem).length≤K.length:=by
 unfold ofL
 have:=List.length_filter_le (fun k=>mem k m) (Z0 K)
 rwa [WK] at this
theorem Zts {b1 b2 : Nat} (h : Grp X g o G mem c) (h1 : X[b1]?=some (.cells [pt g] 1 false false)) (h2 : X[b2]?=some (.cells [strv m] 1 false false)) (hk : k∈Qz G) :
  ∃ X',R (n+1) J1 [strv k,pt b1,pt b2] X=some (.bool (!mem k m),X')∧HLe X X':=by
 obtain ⟨id,hid⟩:=h.has hk
 obtain ⟨S,m1,m2,m3,m4⟩:=h.set hid
 have e2 : lkp .str (.map none) false (.map (some o)) (strv k) X=some (.map (some id),X):=by rw [h.mo.lkp,hid];rfl
 have e3 : lkp .str (.agg #[]) true (.map (some id)) (strv m) X=some (.tuple #[.agg #[],.bool (mem k m)],X):=by
  rw [m1.lkp,← m2 m]
  cases Zg m S <;> rfl
 have l2 : HLe X (X++[.cells [] 1 false false]):=.app _ _
 have e4 : alc 1 (.agg #[]) X=some (pt X.length,X++[.cells [] 1 false false]):=ZgN (vs:=[]) rfl
 have a4 : (X++[Zi.cells [] 1 false false])[X.length]?=some (.cells [] 1 false false):=ZM
 have e5 : stA 0 (pt X.length) (.agg #[]) (X++[Zi.cells [] 1 false false])=some (undef,(X++[Zi.cells [] 1 false false]).set X.length (.cells [] 1 false false)):=ZfD (vs:=[]) a4 rfl rfl rfl
 rw [ZrY] at e5
 have h':=h.hle l2
 have m1':=m1.hle l2
 have b1':=l2 _ _ h1
 have b2':=l2 _ _ h2
 generalize X++[Zi.cells [] 1 false false]=X2 at l2 e4 e5 h' m1' b1' b2'
 have e2' : lkp .str (.map none) false (.map (some o)) (strv k) X2=some (.map (some id),X2):=by rw [h'.mo.lkp,hid];rfl
 have e3' : lkp .str (.agg #[]) true (.map (some id)) (strv m) X2=some (.tuple #[.agg #[],.bool (mem k m)],X2):=by
  rw [m1'.lkp,← m2 m]
  cases Zg m S <;> rfl
 refine ⟨X2,?_,l2⟩
 rw [R,ZfA rfl]
 unfold ZaE
 rw [Za (ZeN h1),Za Zt,Za Zz,Za h.ldo,Za e2,Za (ZeN h2),Za e3,Za Zu,Za Zv,Za e4,Za e3',Q2,Za (ZeN b2'),Q2,Za e2',Q2]
 refine (Za h'.ldo).trans ?_
 rw [Q2,Za (ZeN b1'),Q2,Za e5,Za Qa]
 rfl
theorem ZtK (h : Grp X g o G mem c) : ∃ v q X',R (n+4) JJ [pt g,strv m] X=some (v,X')∧Zn X' v ((ofL m (Qz G) mem).map strv) q∧HLe X X'∧∀ j∈q,X.length≤j:=by
 have e1:=Zl6 (v:=pt g) rfl rfl X
 have l1 : HLe X (X++[Zi.cells [pt g] 1 false false]):=.app _ _
 have c1 : (X++[Zi.cells [pt g] 1 false false])[X.length]?=some (.cells [pt g] 1 false false):=ZM
 generalize X++[Zi.cells [pt g] 1 false false]=X1 at e1 l1 c1
 have e2:=Zl6 (v:=strv m) rfl rfl X1
 have l2 : HLe X1 (X1++[Zi.cells [strv m] 1 false false]):=.app _ _
 have c2 : (X1++[Zi.cells [strv m] 1 false false])[X1.length]?=some (.cells [strv m] 1 false false):=ZM
 generalize X1++[Zi.cells [strv m] 1 false false]=X2 at e2 l2 c2
 have c1:=l2 _ _ c1
 have h2:=h.hle (l1.trans l2)
 obtain ⟨v,q,X3,e3,r3,l3,o3⟩:=ZqA (n:=n) h2
 have e3 : R (n+3) J2 [pt g] X2=_:=e3
 have l123:=(l1.trans l2).trans l3
 have hq : ∀ j∈q,j∉Jy o G∧j≠g∧j≠X.length∧j≠X1.length:=fun j hj=>by
  have:=o3 j hj
  have a1:=Je c1
  have a2:=Je c2
  have a3:=h2.glt
  exact ⟨fun hm=>by have:=(h2.isMap hm).1;omega,by omega,by omega,by omega⟩
 have hkeep : ∀ Y Y',(Grp Y g o G mem c∧Y[X.length]?=some (.cells [pt g] 1 false false)∧Y[X1.length]?=some (.cells [strv m] 1 false false))→Zq q Y q Y'→(Grp Y' g o G mem c∧Y'[X.length]?=some (.cells [pt g] 1 false false)∧Y'[X1.length]?=some (.cells [strv m] 1 false false)):=fun Y Y' ⟨a1,a2,a3⟩ hs=>
  ⟨a1.step hs (fun hm=>(hq g hm).2.1 rfl) (fun j hj hm=>(hq j hm).1 hj),hs.get a2 (fun hm=>(hq _ hm).2.2.1 rfl),hs.get a3 (fun hm=>(hq _ hm).2.2.2 rfl)⟩
 have hf : ∀ i Y,(Grp Y g o G mem c∧Y[X.length]?=some (.cells [pt g] 1 false false)∧Y[X1.length]?=some (.cells [strv m] 1 false false))→∀ s∈Z0 (Qz G),∃ Y',Qg (R (i+1)) (.func (.func J1) #[] #[pt X.length,pt X1.length]) [strv s] Y=some (.bool (!mem s m),Y')∧HLe Y Y':=fun i Y ⟨a1,a2,a3⟩ s hs=>by
  obtain ⟨Y',e,l⟩:=Zts (n:=i) a1 a2 a3 (Wg.1 hs)
  refine ⟨Y',?_,l⟩
  have:=ZpS (n:=i+1) (g:=J1) (bs:=[pt X.length,pt X1.length]) (args:=[strv s])
  exact (congrFun this Y).trans e
 obtain ⟨X4,v',e4,r4,s4⟩:=Zlx (n:=n+1) (p:=fun s=>!mem s m) (f:=.func (.func J1) #[] #[pt X.length,pt X1.length]) (Q:=fun Y=>Grp Y g o G mem c∧Y[X.length]?=some (.cells [pt g] 1 false false)∧Y[X1.length]?=some (.cells [strv m] 1 false false)) r3 (by rw [WK];have:=h.few;simp;omega) hkeep (hf n) (hf (n+1)) ⟨h2.hle l3,l3 _ _ c1,l3 _ _ c2⟩
 have e4 : R (n+3) Z8 [v,.func (.func J1) #[] #[pt X.length,pt X1.length]] X3=_:=e4
 have hm:=l123.more s4 (fun j hj=>Nat.le_trans (l1.trans l2).len (o3 j hj))
 refine ⟨v',q,X4,?_,by simpa [ofL] using r4,hm.1,hm.2⟩
 rw [R,Zhg rfl]
 unfold Zbl
 rw [Za e1,Za e2,Za (ZeN c1),Za e3,Za e4]
 rfl
end
end Go.Proofs.YtedkoimihknggaaGreatDoor.A
namespace Go.Proofs.YtedkoimihknggaaGreatDoor.A
set_option linter.unusedVariables false
set_option linter.unusedSimpArgs false
open Go.Proofs Go.Proofs.YtedkoimihknggaaGreatDoor
section
variable {X X' : Zb} {n g o c c' : Nat} {G : ZeK} {mem mem' : Mem} {k m s t : Tx}
def Ztg (m : Tx) (mem : Mem) : Mem:=fun k n=>mem k n && !(n==m)
theorem Q9.move {α : Type} {enc : α→Value} {id id' : Nat} {mm : List (Tx × α)} (h : Q9 enc X id mm) (he : X'[id']?=X[id]?) : Q9 enc X' id' mm:=by
 obtain ⟨es,h1,h2⟩:=h.ex
 exact ⟨⟨es,h1,by rw [he];exact h2⟩,h.nod⟩
end
end Go.Proofs.YtedkoimihknggaaGreatDoor.A

namespace Go.Proofs.YtedkoimihknggaaGreatDoor.A
set_option linter.unusedVariables false
set_option linter.unusedSimpArgs false
open Go.Proofs Go.Proofs.YtedkoimihknggaaGreatDoor
def Zdh (b : UInt8) : UInt8:=if decide (65≤b.toNat) && decide (b.toNat≤90) then UInt8.ofNat (b.toNat+32) else b
def QA (s : List UInt8) : List UInt8:=s.map Zdh
theorem Zrt : ∀ b : UInt8,(decide (65≤b.toNat) && decide (b.toNat≤90))=true→IntKind.u8.wrap (IntKind.u8.wrap ((b.toNat : Int)+97) - 65)=(Zdh b).toNat:=ZsR (by decide+kernel)
section
variable {H X : Zb} {n : Nat} {s : List UInt8}
theorem Ztt {cs : List UInt8} {k : Nat} {b : UInt8} (h : cs[k]?=some b) : (u8s cs)[k]?=some (u8v b):=by unfold u8s;rw [List.getElem?_map,h];rfl
theorem ZrX {cs : List UInt8} {k : Nat} {b : UInt8} : (u8s cs).set k (u8v b)=u8s (cs.set k b):=by unfold u8s;rw [List.map_set]
theorem ZtI : s2b (strv s) H=some (.slice (some ⟨H.length,0,none⟩) s.length s.length,H++[.cells (u8s s) 1 true false]):=by
 unfold s2b strv ZgG
 simp [ByteArray.size]
theorem Zj5 {v : Value} {q : List Nat} (hs : s.length≤1000000) : ∀ (t k : Nat) (cs : List UInt8) (X : Zb),s.length - k=t→k≤s.length→cs.length=s.length→cs.take k=(s.take k).map Zdh→cs.drop k=s.drop k→Zn X v (u8s cs) q→
  ∃ X',Zf (c4 (YB.l1 (R n))) [v,v,iv s.length,iv k] X=some (.ext 0 [v],X')∧Zn X' v (u8s (QA s)) q∧Zq q X q X'
 | 0,k,cs,X,ht,hk,hl,h1,h2,hr=>by
  have : k=s.length:=by omega
  subst this
  have : cs=QA s:=by
   rw [List.take_of_length_le (by omega),List.take_of_length_le (by omega)] at h1
   exact h1
  subst this
  refine ⟨X,Qb ?_,hr,.refl _ _⟩
  rw [ZW]
  unfold YB.l1
  rw [Za Zm,Zd,if_neg (by simp)]
  rfl
 | t+1,k,cs,X,ht,hk,hl,h1,h2,hr=>by
  have hkl : k < s.length:=by omega
  have hlt : (k : Int) < s.length:=by omega
  have hg:=List.getElem?_eq_getElem hkl
  have htk:=List.take_succ_eq_append_getElem hkl
  have hdk:=List.drop_eq_getElem_cons hkl
  generalize s[k]=b at hg htk hdk
  have hgc : cs[k]?=some b:=by
   have h3 : (cs.drop k)[0]?=(s.drop k)[0]?:=by rw [h2]
   simpa [hg] using h3
  have hul : (u8s cs).length=s.length:=by rw [Yy,hl]
  have x1:=hr.ix (i:=k) (by omega) .i64 X
  have x2:=hr.ldx (Ztt hgc)
  have hd1 : cs.drop (k+1)=s.drop (k+1):=by rw [← List.drop_drop,h2,List.drop_drop]
  have htc : cs.take (k+1)=cs.take k++[b]:=by
   have:=List.take_succ_eq_append_getElem (show k < cs.length by omega)
   rw [this,(List.getElem?_eq_some_iff.1 hgc).2]
  have hpk : ∀ (K : Value→M Out),bind (bop .int .geq (u8v b) (Value.int .u8 65)) (fun v16x6=>bind (Zx v16x6 true 2 (bind (bop .int .leq (u8v b) (Value.int .u8 90)) fun v19x7=>ret [u8v b,v19x7])) (c2 fun _ q8_1=>bind (pick v16x6 q8_1 (Value.bool false)) K)) X=K (.bool (decide (65≤b.toNat) && decide (b.toNat≤90))) X:=fun K=>by
   have e1 : decide ((b.toNat : Int)≥65)=decide (65≤b.toNat):=by rw [decide_eq_decide];omega
   have e2 : decide ((b.toNat : Int)≤90)=decide (b.toNat≤90):=by rw [decide_eq_decide];omega
   rw [Za QN,e1]
   cases decide (65≤b.toNat)
   ·rw [Za (g_r.trans (if_neg (by simp)))]
    simp only [List.replicate]
    rw [QU,Za ZC]
    rfl
   ·rw [Yf,ZX,Za JB,YI,QU,Za ZC,e2]
    rfl
  cases hup : (decide (65≤b.toNat) && decide (b.toNat≤90))
  ·have hfb : Zdh b=b:=by unfold Zdh;rw [hup];rfl
   rw [hup] at hpk
   obtain ⟨X',e,r',s'⟩:=Zj5 hs t (k+1) cs X (by omega) (by omega) hl (by rw [htc,h1,htk,List.map_append,List.map_singleton,hfb]) hd1 hr
   refine ⟨X',(ZO ?_).trans e,r',s'⟩
   rw [ZW]
   unfold YB.l1
   rw [Za Zm,Zd,if_pos (by simpa using hlt),Za x1,Za x2]
   refine (hpk _).trans ?_
   refine (Wq (vs:=[v,v,iv s.length,iv k]) (H':=X) ?_).trans ?_
   ·rw [Zd,if_neg (by simp)];rfl
   ·rw [ZW,Za ZD,J5 (by omega)];rfl
  ·have hfu:=Zrt b hup
   rw [hup] at hpk
   obtain ⟨X1,x3,r1,s1,_⟩:=hr.stx (i:=k) (u:=u8v (Zdh b)) (by omega) rfl
   rw [ZrX] at r1
   obtain ⟨X',e,r',s'⟩:=Zj5 hs t (k+1) (cs.set k (Zdh b)) X1 (by omega) (by omega) (by simpa using hl) (by
    have h5 : k < (cs.set k (Zdh b)).length:=by simp;omega
    rw [List.take_succ_eq_append_getElem h5,List.take_set_of_le (Nat.le_refl _),h1,htk,List.map_append]
    simp) (by rw [List.drop_set_of_lt (by omega)];exact hd1) r1
   refine ⟨X',(ZO ?_).trans e,r',s1.trans s'⟩
   rw [ZW]
   unfold YB.l1
   rw [Za Zm,Zd,if_pos (by simpa using hlt),Za x1,Za x2]
   refine (hpk _).trans ?_
   refine (Wq (vs:=[v,v,iv s.length,iv k]) (H':=X1) ?_).trans ?_
   ·rw [Zd,if_pos rfl,Za ZD,Za QR,hfu,Za x1,Za x3];rfl
   ·rw [ZW,Za ZD,J5 (by omega)];rfl
theorem Ztu (hs : s.length≤1000000) : ∃ H',R (n+1) Za8 [strv s] H=some (strv (QA s),H')∧HLe H H':=by
 have e1:=ZtI (s:=s) (H:=H)
 have k1 : HLe H (H++[.cells (u8s s) 1 true false]):=.app _ _
 have r1 : Zn (H++[.cells (u8s s) 1 true false]) (.slice (some ⟨H.length,0,none⟩) s.length s.length) (u8s s) [H.length]:=.inr ⟨H.length,[],true,by rw [Yy];rfl,rfl,by rw [ZM,List.append_nil]⟩
 have hnl : ∀ j∈[H.length],H.length≤j:=by simp
 generalize H++[Zi.cells (u8s s) 1 true false]=H1 at e1 k1 r1
 obtain ⟨H2,e2,r2,s2⟩:=Zj5 (n:=n) hs s.length 0 s H1 (by omega) (by omega) rfl rfl rfl r1
 have e2 : Zf (c4 (YB.l1 (R n))) [.slice (some ⟨H.length,0,none⟩) s.length s.length,.slice (some ⟨H.length,0,none⟩) s.length s.length,iv s.length,.int .i64 0] H1=_:=e2
 refine ⟨H2,?_,(k1.more s2 hnl).1⟩
 rw [R,ZmZ rfl]
 unfold YB
 have hl : Zk (.slice (some ⟨H.length,0,none⟩) s.length s.length) H1=some (iv s.length,H1):=rfl
 rw [Za e1,Za hl,Q0 e2,ZG,Yw,Za (ZoQ r2.rd)]
 rfl
theorem ZrN {i : Nat} (hi : i≤s.length) : sls (strv s) (some (iv i)) none H=some (strv (s.drop i),H):=by
 have h1 : (⟨s.toArray⟩ : ByteArray).size=s.length:=by simp [ByteArray.size]
 have h2 : (⟨s.toArray⟩ : ByteArray).extract i s.length=⟨(s.drop i).toArray⟩:=by
  apply ByteArray.ext
  rw [ByteArray.data_extract]
  simp [List.take_of_length_le]
 have hb : ∀ k : Nat,∀ d,bnd (some (iv k)) d=some k:=fun k d=>by simp [bnd]
 have hb0 : ∀ d,bnd none d=some d:=fun _=>rfl
 unfold strv sls
 simp only [h1,hb,hb0]
 rw [if_pos ⟨hi,Nat.le_refl _⟩,h2]
end
end Go.Proofs.YtedkoimihknggaaGreatDoor.A
namespace Go.Proofs.YtedkoimihknggaaGreatDoor.A
set_option linter.unusedVariables false
set_option linter.unusedSimpArgs false
open Go.Proofs Go.Proofs.YtedkoimihknggaaGreatDoor
def Z9 (c : UInt8) : List UInt8→List (List UInt8)
 | []=>[[]]
 | b :: l=>if b=c then [] :: Z9 c l else match Z9 c l with
  | h :: t=>(b :: h) :: t
  | []=>[[b]]
theorem Zlm {c : UInt8} : ∀ {s : List UInt8},Z9 c s≠[]
 | []=>by simp [Z9]
 | b :: s=>by
  unfold Z9
  split
  ·simp
  ·split <;> simp
theorem ZjM {c : UInt8} : ∀ {s : List UInt8},c∉s→Z9 c s=[s]
 | [],_=>rfl
 | b :: s,h=>by
  simp only [List.mem_cons,not_or] at h
  unfold Z9
  rw [if_neg (Ne.symm h.1),ZjM h.2]
theorem ZfF {c : UInt8} : ∀ {s : List UInt8},c∈s→Z9 c s=s.takeWhile (· !=c) :: Z9 c (s.drop ((s.takeWhile (· !=c)).length+1))
 | [],h=>by cases h
 | b :: s,h=>by
  rw [show Z9 c (b :: s)=(if b=c then [] :: Z9 c s else match Z9 c s with | h :: t=>(b :: h) :: t | []=>[[b]]) from rfl]
  by_cases hb : b=c
  ·subst hb
   rw [if_pos rfl]
   simp
  ·rw [if_neg hb]
   have hm : c∈s:=by
    rcases List.mem_cons.1 h with h | h
    ·exact absurd h.symm hb
    ·exact h
   rw [ZfF hm]
   have h2 : (b !=c)=true:=by simp [hb]
   simp [List.takeWhile_cons,h2]
theorem Za9 {c : UInt8} : ∀ {s : List UInt8},(Z9 c s).length=s.count c+1
 | []=>rfl
 | b :: s=>by
  have ih:=Za9 (c:=c) (s:=s)
  unfold Z9
  by_cases hb : b=c
  ·subst hb
   rw [if_pos rfl,List.length_cons,ih,List.count_cons_self]
  ·rw [if_neg hb,List.count_cons_of_ne (by simpa using hb)]
   cases h : Z9 c s with
   | nil=>exact absurd h Zlm
   | cons a t=>rw [h] at ih;simpa using ih
theorem Zq4 {c : UInt8} : ∀ {s : List UInt8},c∈s→s.count c=(s.drop ((s.takeWhile (· !=c)).length+1)).count c+1:=by
 intro s h
 have h1:=Za9 (c:=c) (s:=s)
 rw [ZfF h,List.length_cons,Za9] at h1
 omega
def Zkd (l : List UInt8) : Bool:=!(l==[]) && l.all Zcc
def KI (f : List UInt8) : List UInt8:=if 64∈f then f.drop ((f.takeWhile (· !=64)).length+1) else []
def okM (f : List UInt8) : Bool:=decide (64∈f) && (Zw (f.takeWhile (· !=64)) && (decide (2≤(Z9 46 (KI f)).length) && (Z9 46 (KI f)).all Zkd))
def Wj (s : List UInt8) : Bool:=decide (s.length≤20) && okM (QA s)
section
variable {H X : Zb} {n : Nat} {s : List UInt8} {c : UInt8}
theorem Zr6 {args : List Value} : run Tryz.prog np lvs (n+1) Q8 args=ZeI args:=ZeU (show np Q8=some ZeI from rfl)
theorem ZrU {args : List Value} : run Tryz.prog np lvs (n+1) Jz args=Zex args:=ZeU (show np Jz=some Zex from rfl)
theorem Zmj : R (n+3) Qf [strv s,strv [c]] H=some (iv (Go.Lib.indexByte s c),H):=by
 have e1 : run Tryz.prog np lvs (n+2) QD [strv s,u8v c] H=some (iv (Go.Lib.indexByte s c),H):=by
  have e0 : run Tryz.prog np lvs (n+1) Q8 [strv s,u8v c] H=some (iv (Go.Lib.indexByte s c),H):=by rw [Zr6];exact Ztc
  rw [Zay rfl]
  unfold Yd
  rw [Za e0]
  rfl
 have q0 : bop .int .eql (iv [c].length) (.int .i64 0) H=some (.bool false,H):=by rw [Qi];rfl
 have q1 : bop .int .eql (iv [c].length) (.int .i64 1) H=some (.bool true,H):=by rw [Qi];rfl
 have x1 : ixs (strv [c]) (.int .i64 0) H=some (u8v c,H):=ZjB (s:=[c]) (i:=0) rfl .i64 H
 rw [R,ZbB rfl]
 unfold Jc
 rw [Za ZU,Za q0,Yf,ZX,Za Zee,YI,Z3,Za ZC]
 simp only [cond_false]
 by_cases h : s=[c]
 ·subst h
  rw [Zd,if_pos (by simp)]
  unfold Go.Lib.indexByte
  simp [ret]
 ·rw [Zd,if_neg (by simp;exact fun e=>h e.symm),Za q1,Zd,if_pos rfl,Za x1,Za e1]
  rfl
theorem ZqP : R (n+4) Y7 [strv s,strv [c]] H=some (iv (Go.Lib.indexByte s c),H):=by
 have e1 : run Tryz.prog np lvs (n+3) Qf [strv s,strv [c]] H=_:=Zmj
 rw [R,ZiA rfl]
 unfold Zbz
 rw [Za e1]
 rfl
theorem Zsm : R (n+2) K3 [strv s,strv [c]] H=some (iv (s.count c),H):=by
 have e0 : run Tryz.prog np lvs (n+1) Jz [strv s,u8v c] H=some (iv (s.count c),H):=by rw [ZrU];exact ZsX
 have q0 : bop .int .eql (iv [c].length) (.int .i64 0) H=some (.bool false,H):=by rw [Qi];rfl
 have q1 : bop .int .eql (iv [c].length) (.int .i64 1) H=some (.bool true,H):=by rw [Qi];rfl
 have x1 : ixs (strv [c]) (.int .i64 0) H=some (u8v c,H):=ZjB (s:=[c]) (i:=0) rfl .i64 H
 rw [R,Zil rfl]
 unfold K7
 rw [Za ZU,Za q0,Zd,if_neg (by simp),Za ZU,Za q1,Zd,if_pos rfl,Za x1,Za e0]
 rfl
theorem ZpT {s : List UInt8} {c : UInt8} (h : c∈s) : (s.takeWhile (· !=c)).length < s.length:=by
 rcases Nat.lt_or_ge (s.takeWhile (· !=c)).length s.length with h1 | h1
 ·exact h1
 ·have h2 : s.takeWhile (· !=c)=s:=by
   have:=List.takeWhile_prefix (p:=(· !=c)) (l:=s)
   exact this.eq_of_length (by have:=this.length_le;omega)
  have h3:=List.all_eq_true.1 (List.all_takeWhile (p:=(· !=c)) (l:=s)) c (by rw [h2];exact h)
  simp at h3
theorem ZoI {s : List UInt8} {p : UInt8→Bool} : s.take (s.takeWhile p).length=s.takeWhile p:=
 (List.prefix_iff_eq_take.1 (List.takeWhile_prefix p)).symm
theorem ZtL (hs : s.length≤1000000) : R (n+5) Kd [strv s,strv [c]] H=some (if c∈s then .tuple #[strv (s.takeWhile (· !=c)),strv (s.drop ((s.takeWhile (· !=c)).length+1)),.bool true] else .tuple #[strv s,strv [],.bool false],H):=by
 have e1 : run Tryz.prog np lvs (n+3) Qf [strv s,strv [c]] H=_:=Zmj
 have e2 : run Tryz.prog np lvs (n+4) Yi [strv s,strv [c]] H=some (if c∈s then .tuple #[strv (s.takeWhile (· !=c)),strv (s.drop ((s.takeWhile (· !=c)).length+1)),.bool true] else .tuple #[strv s,strv [],.bool false],H):=by
  rw [Zck rfl]
  unfold Kg
  rw [Za e1,ZbL,Za QN,Zd]
  by_cases h : c∈s
  ·have hl:=ZpT h
   have w : IntKind.i64.wrap (((s.takeWhile (· !=c)).length : Int)+(([c] : List UInt8).length : Nat))=(((s.takeWhile (· !=c)).length+1 : Nat) : Int):=J5 (by omega)
   rw [if_pos h,if_pos (by simp),Za (ZoK (by omega)),ZoI,Za ZU,Za ZD,w,Za (ZrN (by omega)),if_pos h]
   rfl
  ·rw [if_neg h,if_neg (by decide),if_neg h]
   rfl
 rw [R,ZkB rfl]
 unfold ZcY
 rw [Za e2]
 by_cases h : c∈s
 ·rw [if_pos h];rfl
 ·rw [if_neg h];rfl
theorem Zm1 {v : Value} {q : List Nat} {N : Nat} (hN : N≤1000001) : ∀ (t i : Nat) (s : List UInt8) (cs : List (List UInt8)) (X : Zb),N - 1 - i=t→i < N→s.length≤1000000→s.count c+1+i=N→cs.length=N→Zn X v (cs.map strv) q→
  ∃ (X' : Zb) (s' : List UInt8) (cs' : List (List UInt8)),Zf (c6 (QQ.l1 (R (n+4)))) [strv s,strv [c],iv 0,iv ((N - 1 : Nat) : Int),v,iv i] X=some (.ext 0 [strv s',v,iv ((N - 1 : Nat) : Int)],X')∧Zn X' v (cs'.map strv) q∧cs'.length=N∧cs'.take (N - 1)++[s']=cs.take i++Z9 c s∧Zq q X q X'
 | 0,i,s,cs,X,ht,hi,hs,hc,hl,hr=>by
  have hi2 : i=N - 1:=by omega
  subst hi2
  have hcs : c∉s:=by
   intro h
   have:=List.count_pos_iff.2 h
   omega
  refine ⟨X,s,cs,Qb ?_,hr,hl,by rw [ZjM hcs],.refl _ _⟩
  rw [YH]
  unfold QQ.l1
  rw [Za Zm,Zd,if_neg (by simp)]
  rfl
 | t+1,i,s,cs,X,ht,hi,hs,hc,hl,hr=>by
  have hlt : (i : Int) < ((N - 1 : Nat) : Int):=by omega
  have hcs : c∈s:=List.count_pos_iff.1 (by omega)
  have htl:=ZpT hcs
  have hct:=Zq4 hcs
  have e1 : R (n+4) Y7 [strv s,strv [c]] X=_:=ZqP
  rw [ZbL,if_pos hcs] at e1
  have w0 : IntKind.i64.wrap (((s.takeWhile (· !=c)).length : Int)+0)=((s.takeWhile (· !=c)).length : Int):=by rw [Int.add_zero];exact w64 (by omega) (by omega)
  have w : IntKind.i64.wrap (((s.takeWhile (· !=c)).length : Int)+(([c] : List UInt8).length : Nat))=(((s.takeWhile (· !=c)).length+1 : Nat) : Int):=J5 (by omega)
  have x1:=hr.ix (i:=i) (by simp;omega) .i64 X
  obtain ⟨X1,x2,r1,s1,_⟩:=hr.stx (i:=i) (u:=strv (s.takeWhile (· !=c))) (by simp;omega) rfl
  rw [show (cs.map strv).set i (strv (s.takeWhile (· !=c)))=(cs.set i (s.takeWhile (· !=c))).map strv from by rw [List.map_set]] at r1
  obtain ⟨X',s',cs',e2,r2,l2,h2,s2⟩:=Zm1 hN t (i+1) (s.drop ((s.takeWhile (· !=c)).length+1)) (cs.set i (s.takeWhile (· !=c))) X1 (by omega) (by omega) (by simp;omega) (by omega) (by simpa using hl) r1
  refine ⟨X',s',cs',(ZO ?_).trans e2,r2,l2,?_,s1.trans s2⟩
  ·have q1 : bop .int .lss (iv ((s.takeWhile (· !=c)).length : Nat)) (.int .i64 0) X=some (.bool false,X):=by rw [Zm,decide_eq_false (by omega)]
   rw [YH]
   unfold QQ.l1
   rw [Za Zm,Zd,if_pos (by simpa using hlt),Za e1,Za q1,Zd,if_neg (by simp),Za ZD,w0,Za (ZoK (by omega)),ZoI,Za x1,Za x2,Za ZU,Za ZD,w,Za (ZrN (by omega)),Za ZD,J5 (by omega)]
   rfl
  ·have h5 : i < (cs.set i (s.takeWhile (· !=c))).length:=by simp;omega
   rw [h2,ZfF hcs,List.take_succ_eq_append_getElem h5,List.take_set_of_le (Nat.le_refl _)]
   simp
theorem ZrR (hs : s.length≤1000000) : ∃ X' v q,R (n+6) Wa [strv s,strv [c]] X=some (v,X')∧Zn X' v ((Z9 c s).map strv) q∧HLe X X':=by
 have hcl : s.count c≤s.length:=List.count_le_length
 have e0 : run Tryz.prog np lvs (n+4) K3 [strv s,strv [c]] X=_:=Zsm (n:=n+2)
 have w1 : IntKind.i64.wrap ((s.count c : Int)+1)=((s.count c+1 : Nat) : Int):=J5 (by omega)
 have w2 : IntKind.i64.wrap ((s.length : Int)+1)=((s.length+1 : Nat) : Int):=J5 (by omega)
 have q0 : bop .int .eql (.int .i64 (-1)) (.int .i64 0) X=some (.bool false,X):=by rw [Qi];rfl
 have q1 : bop .str .eql (strv [c]) (.string ⟨#[]⟩) X=some (.bool false,X):=Zee (b:=[])
 have q2 : bop .int .lss (.int .i64 (-1)) (.int .i64 0) X=some (.bool true,X):=by rw [Zm];rfl
 have hm : mxi false (iv ((s.count c+1 : Nat) : Int)) (iv ((s.length+1 : Nat) : Int)) X=some (iv ((s.count c+1 : Nat) : Int),X):=by rw [Ym,if_neg (by omega)]
 have e1:=ZtJ (k:=s.count c+1) (b:=16) (z:=.string ⟨#[]⟩) (H:=X) rfl (by omega) (by omega)
 have k1 : HLe X (X++[.cells (List.replicate (s.count c+1) (Value.string ⟨#[]⟩)) 1 false false]):=.app _ _
 have r1 : Zn (X++[.cells (List.replicate (s.count c+1) (Value.string ⟨#[]⟩)) 1 false false]) (.slice (some ⟨X.length,0,none⟩) (s.count c+1) (s.count c+1)) ((List.replicate (s.count c+1) ([] : List UInt8)).map strv) [X.length]:=by
  rw [List.map_replicate]
  exact Zn.new ZM
 have ho : ∀ j∈[X.length],X.length≤j:=by simp
 generalize X++[Zi.cells (List.replicate (s.count c+1) (Value.string ⟨#[]⟩)) 1 false false]=X1 at e1 k1 r1
 generalize hv : Value.slice (some ⟨X.length,0,none⟩) (s.count c+1) (s.count c+1)=v at e1 r1
 have w3 : IntKind.i64.wrap (((s.count c+1 : Nat) : Int) - 1)=((s.count c+1 - 1 : Nat) : Int):=ZrI (by omega) (by omega)
 obtain ⟨X2,s',cs',e2,r2,l2,h2,s2⟩:=Zm1 (n:=n) (c:=c) (N:=s.count c+1) (by omega) (s.count c+1 - 1 - 0) 0 s _ X1 rfl (by omega) hs (by omega) (by simp) r1
 have e2 : Zf (c6 (QQ.l1 (R (n+4)))) [strv s,strv [c],.int .i64 0,iv ((s.count c+1 - 1 : Nat) : Int),v,.int .i64 0] X1=_:=e2
 have x1:=r2.ix (i:=s.count c+1 - 1) (by simp;omega) .i64 X2
 obtain ⟨X3,x2,r3,s3,_⟩:=r2.stx (i:=s.count c+1 - 1) (u:=strv s') (by simp;omega) rfl
 have hfin : (cs'.set (s.count c+1 - 1) s')=Z9 c s:=by
  have h6 : s.count c+1 - 1 < cs'.length:=by omega
  rw [← List.take_append_drop (s.count c+1 - 1) (cs'.set (s.count c+1 - 1) s'),List.take_set_of_le (Nat.le_refl _),List.drop_set]
  rw [if_neg (by omega),Nat.sub_self]
  have hd : (cs'.drop (s.count c+1 - 1)).length=1:=by simp;omega
  obtain ⟨a,ha⟩:=List.length_eq_one_iff.1 hd
  rw [ha,List.set_cons_zero,h2]
  rfl
 rw [show (cs'.map strv).set (s.count c+1 - 1) (strv s')=(cs'.set (s.count c+1 - 1) s').map strv from by rw [List.map_set],hfin] at r3
 have hlen : ((Z9 c s).map strv).length=s.count c+1:=by rw [List.length_map,Za9]
 have x3 : ∃ v',slv 1 v none (some (iv ((s.count c+1 : Nat) : Int))) none X3=some (v',X3)∧Zn X3 v' ((Z9 c s).map strv) [X.length]:=by
  rcases r3 with ⟨h,_,_⟩ | ⟨sid,rest,g,h1,h3,h4⟩
  ·rw [h] at hlen;simp at hlen
  ·rw [hlen] at h1
   refine ⟨.slice (some ⟨sid,0,none⟩) (s.count c+1) (s.count c+1+rest.length),?_,.inr ⟨sid,rest,g,by rw [hlen],h3,h4⟩⟩
   have b1 : bnd (some (iv ((s.count c+1 : Nat) : Int))) (s.count c+1)=some (s.count c+1):=by simp [bnd];omega
   have b2 : ∀ d,bnd none d=some d:=fun _=>rfl
   rw [h1]
   simp only [slv,h4,b1,b2]
   rw [if_pos ⟨trivial,by omega,by omega,Nat.le_refl _⟩,if_neg (by omega)]
   simp
 obtain ⟨v',x3,r4⟩:=x3
 have w4 : IntKind.i64.wrap (((s.count c+1 - 1 : Nat) : Int)+1)=((s.count c+1 : Nat) : Int):=by rw [J5 (by omega)];congr 1
 have e3 : run Tryz.prog np lvs (n+5) KT [strv s,strv [c],.int .i64 0,.int .i64 (-1)] X=some (v',X3):=by
  rw [Zff rfl]
  unfold QQ
  rw [Za q0,Zd,if_neg (by simp),Za q1,Zd,if_neg (by simp),Za q2]
  refine (Wq (vs:=[strv s,strv [c],.int .i64 0,iv ((s.count c+1 : Nat) : Int)]) (H':=X) ?_).trans ?_
  ·rw [Zd,if_pos rfl,Za e0,Za ZD,w1];rfl
  ·rw [ZW,Za ZU,Za ZD,w2,Za hm,Za e1,Za QR,w3]
   refine (Wq (vs:=[strv s',v,iv ((s.count c+1 - 1 : Nat) : Int)]) (H':=X2) ?_).trans ?_
   ·rw [Q0 e2,ZG,Z3];rfl
   ·rw [Z3,Za x1,Za x2,Za ZD,w4,Za x3];rfl
 refine ⟨X3,v',[X.length],?_,r4,(k1.more (s2.trans s3) ho).1⟩
 rw [R,Ziy rfl]
 unfold ZbF
 rw [Za e3]
 rfl
end
end Go.Proofs.YtedkoimihknggaaGreatDoor.A
namespace Go.Proofs.YtedkoimihknggaaGreatDoor.A
set_option linter.unusedVariables false
set_option linter.unusedSimpArgs false
open Go.Proofs Go.Proofs.YtedkoimihknggaaGreatDoor
section
variable {H X : Zb} {n : Nat} {s f : List UInt8} {c : UInt8}
theorem ZsN {b : UInt8} : R (n+2) Zaq [u8v b] H=some (.bool (Zcc b),H):=by
 have e1 : run Tryz.prog np lvs (n+1) Jw [u8v b] H=some (.bool (Y8 b),H):=ZeP
 have e2 : run Tryz.prog np lvs (n+1) JO [u8v b] H=some (.bool (WR b),H):=ZgU
 rw [R,ZlA rfl]
 unfold Zcc ZdM
 rw [Za e1]
 cases Y8 b
 ·rw [Yf,ZX,Za e2,YI,QU,Za ZC]
  rfl
 ·rw [Za (g_r.trans (if_neg (by simp)))]
  simp only [List.replicate]
  rw [QU,Za ZC]
  rfl
theorem ZoX (hs : s.length≤1000000000) : R (n+3) Yl [strv s,.func (.func Zaq) #[] #[]] H=some (.bool (s.all Zcc),H):=
 Zpg (fun b H=>by rw [ZmF];exact ZsN) hs
theorem ZpJ {v : Value} {q : List Nat} {ls : List (List UInt8)} (hl : ls.length≤1000) (hb : ∀ l∈ls,l.length≤1000000) (hr : Zn X v (ls.map strv) q) : ∀ (t k : Nat),ls.length - k=t→k≤ls.length→
  Zf (c4 (JX.l1 (R (n+3)))) [strv f,v,iv ls.length,iv k] X=some (if (ls.drop k).all Zkd then .ext 0 [strv f] else .ret (.tuple #[strv [],iv 11]),X)
 | 0,k,ht,hk=>by
  have : k=ls.length:=by omega
  subst this
  rw [List.drop_length]
  refine Qb ?_
  rw [ZW]
  unfold JX.l1
  rw [Za Zm,Zd,if_neg (by simp)]
  rfl
 | t+1,k,ht,hk=>by
  have hkl : k < ls.length:=by omega
  have hlt : (k : Int) < ls.length:=by omega
  have hg:=List.getElem?_eq_getElem hkl
  have hm:=List.getElem_mem hkl
  have hd:=List.drop_eq_getElem_cons hkl
  generalize ls[k]=l at hg hd hm
  have x1:=hr.ix (i:=k) (by simpa using hkl) .i64 X
  have x2:=hr.ldx (YE hg)
  have e1 : R (n+3) Yl [strv l,.func (.func Zaq) #[] #[]] X=some (.bool (l.all Zcc),X):=ZoX (Nat.le_trans (hb l hm) (by decide))
  have ih:=ZpJ hl hb hr t (k+1) (by omega) (by omega)
  have q1 : bop .str .eql (strv l) (.string ⟨#[]⟩) X=some (.bool (l==[]),X):=Zee (b:=[])
  have hb1 : c4 (JX.l1 (R (n+3))) [strv f,v,iv ls.length,iv k] X=some (if Zkd l then .nrm [strv f,v,iv ls.length,iv ((k+1 : Nat) : Int)] else .ret (.tuple #[strv [],iv 11]),X):=by
   rw [ZW]
   unfold JX.l1 Zkd
   rw [Za Zm,Zd,if_pos (by simpa using hlt),Za x1,Za x2,Za q1]
   cases l==[]
   ·rw [Yf,ZX,Za e1,ZX,Za Qa,YI,Z3,Za ZC]
    simp only [cond_false]
    cases l.all Zcc
    ·rw [Zd,if_pos (by rfl)];rfl
    ·rw [Zd,if_neg (by simp),Za ZD,J5 (by omega)];rfl
   ·rw [Za (g_r.trans (if_neg (by simp)))]
    simp only [List.replicate]
    rw [Z3,Za ZC]
    simp only [cond_true]
    rw [Zd,if_pos rfl]
    rfl
  rw [hd,List.all_cons]
  cases hlb : Zkd l
  ·rw [hlb] at hb1
   exact JF hb1
  ·rw [hlb] at hb1
   rw [Bool.true_and]
   exact (ZO hb1).trans ih
theorem ZbR {c : UInt8} : ∀ {s : List UInt8},∀ l∈Z9 c s,l.length≤s.length
 | [],l,h=>by simp [Z9] at h;simp [h]
 | b :: s,l,h=>by
  rw [show Z9 c (b :: s)=(if b=c then [] :: Z9 c s else match Z9 c s with | h :: t=>(b :: h) :: t | []=>[[b]]) from rfl] at h
  split at h
  ·rcases List.mem_cons.1 h with rfl | h
   ·simp
   ·have:=ZbR l h
    simp;omega
  ·cases hsp : Z9 c s with
   | nil=>exact absurd hsp Zlm
   | cons a t=>
    rw [hsp] at h
    rcases List.mem_cons.1 h with rfl | h
    ·have:=ZbR (c:=c) (s:=s) a (by rw [hsp];simp)
     simpa using this
    ·have:=ZbR (c:=c) (s:=s) l (by rw [hsp];simp [h])
     simp;omega
theorem Zlj : (QA s).length=s.length:=by simp [QA]
theorem Zp7 : ∃ X',R (n+8) W0 [strv s] X=some (.tuple #[strv (if Wj s then QA s else []),iv (if Wj s then 0 else 11)],X')∧HLe X X':=by
 have f1 : ∀ r X',JX (R (n+7)) (strv s) X=some (r,X')→R (n+8) W0 [strv s] X=some (r,X'):=fun r X' hr=>by rw [R,Zmk rfl];exact hr
 unfold Wj
 by_cases h20 : s.length≤20
 ·have q1 : bop .int .gtr (iv s.length) (.int .i64 20) X=some (.bool false,X):=by rw [QG,decide_eq_false (by omega)]
  obtain ⟨X1,e1,k1⟩:=Ztu (n:=n+6) (s:=s) (H:=X) (by omega)
  have e1 : R (n+7) Za8 [strv s] X=_:=e1
  have hfl : (QA s).length≤20:=by rw [Zlj];exact h20
  generalize QA s=f at e1 hfl
  have e2 : R (n+7) Kd [strv f,strv [64]] X1=_:=ZtL (n:=n+2) (c:=64) (by omega)
  obtain ⟨loc,e2'⟩ : ∃ loc : List UInt8,R (n+7) Kd [strv f,strv [64]] X1=some (.tuple #[strv loc,strv (KI f),.bool (decide (64∈f))],X1)∧(64∈f→loc=f.takeWhile (· !=64)):=by
   unfold KI
   by_cases h : 64∈f
   ·rw [if_pos h] at e2
    exact ⟨_,by rw [e2,if_pos h,decide_eq_true h],fun _=>rfl⟩
   ·rw [if_neg h] at e2
    exact ⟨_,by rw [e2,if_neg h,decide_eq_false h],fun h2=>absurd h2 h⟩
  obtain ⟨e2',hloc⟩:=e2'
  have hdl : (KI f).length≤20:=by unfold KI;split <;> simp;omega
  obtain ⟨X2,v,q,e3,r3,k3⟩:=ZrR (n:=n+1) (c:=46) (s:=KI f) (X:=X1) (by omega)
  have e3 : R (n+7) Wa [strv (KI f),.string ⟨#[46]⟩] X1=_:=e3
  have e2'' : R (n+7) Kd [strv f,.string ⟨#[64]⟩] X1=_:=e2'
  have hcl : (KI f).count 46≤(KI f).length:=List.count_le_length
  have hsl:=Za9 (c:=46) (s:=KI f)
  have hl : Zk v X2=some (iv (Z9 46 (KI f)).length,X2):=by have:=r3.rd.len (H':=X2);rwa [List.length_map] at this
  have e4 : R (n+7) Kj [strv loc] X2=some (.bool (Zw loc),X2):=ZkX (n:=n+3)
  have e5:=ZpJ (n:=n+4) (f:=f) (ls:=Z9 46 (KI f)) (by omega) (fun l h=>Nat.le_trans (ZbR l h) (by omega)) r3 (Z9 46 (KI f)).length 0 (by omega) (by omega)
  rw [List.drop_zero] at e5
  have e5 : Zf (c4 (JX.l1 (R (n+7)))) [strv f,v,iv (Z9 46 (KI f)).length,.int .i64 0] X2=_:=e5
  refine ⟨X2,f1 _ _ ?_,k1.trans k3⟩
  unfold JX
  rw [Za ZU,Za q1,Zd,if_neg (by simp),Za e1,Za e2'']
  have t0 : Zl (.tuple #[strv loc,strv (KI f),.bool (decide (64∈f))]) 0 X1=some (strv loc,X1):=rfl
  have t1 : Zl (.tuple #[strv loc,strv (KI f),.bool (decide (64∈f))]) 1 X1=some (strv (KI f),X1):=rfl
  have t2 : Zl (.tuple #[strv loc,strv (KI f),.bool (decide (64∈f))]) 2 X1=some (.bool (decide (64∈f)),X1):=rfl
  rw [Za t0,Za t1,Za t2,Za e3,Za Qa]
  unfold okM
  rw [decide_eq_true h20]
  by_cases h : 64∈f
  ·rw [decide_eq_true h,← hloc h]
   simp only [Bool.not_true,Bool.true_and]
   rw [Yf,ZX,Za e4,ZX,Za Qa,YI,Z3,Za ZC]
   simp only [cond_false]
   cases Zw loc
   ·simp only [Bool.not_false,Bool.false_and]
    rw [Za (g_r.trans (if_neg (by simp)))]
    simp only [List.replicate]
    rw [Z3,Za ZC]
    simp only [cond_true]
    rw [Zd,if_pos rfl]
    rfl
   ·simp only [Bool.not_true,Bool.true_and]
    rw [Yf,ZX,Za hl,ZX,Za Zm,YI,Z3,Za ZC]
    simp only [cond_false]
    by_cases h2 : 2≤(Z9 46 (KI f)).length
    ·rw [decide_eq_false (by omega),Zd,if_neg (by simp),Za hl,decide_eq_true h2,Bool.true_and]
     cases ha : (Z9 46 (KI f)).all Zkd
     ·rw [ha] at e5
      rw [Ke e5]
      rfl
     ·rw [ha] at e5
      rw [Q0 e5,ZG]
      rfl
    ·rw [decide_eq_true (by omega),Zd,if_pos rfl,decide_eq_false h2]
     rfl
  ·rw [decide_eq_false h]
   simp only [Bool.not_false,Bool.false_and,Bool.and_false]
   rw [Za (g_r.trans (if_neg (by simp)))]
   simp only [List.replicate]
   rw [Z3,Za ZC]
   simp only [cond_true]
   rw [Za (g_r.trans (if_neg (by simp)))]
   simp only [List.replicate]
   rw [Z3,Za ZC]
   simp only [cond_true]
   rw [Zd,if_pos rfl]
   rfl
 ·have q1 : bop .int .gtr (iv s.length) (.int .i64 20) X=some (.bool true,X):=by rw [QG,decide_eq_true (by omega)]
  refine ⟨X,f1 _ _ ?_,.refl _⟩
  unfold JX
  rw [Za ZU,Za q1,Zd,if_pos rfl,decide_eq_false h20]
  rfl
end
end Go.Proofs.YtedkoimihknggaaGreatDoor.A

namespace Go.Proofs.YtedkoimihknggaaGreatDoor.A
set_option linter.unusedVariables false
set_option linter.unusedSimpArgs false
structure Kp {α : Type} (enc : α→Value) (H : Zb) (id : Nat) (m : List (List UInt8 × α)) : Prop where
 ex : ∃ es clk,es.map kv=m.map (fun p=>(strv p.1,enc p.2))∧H[id]?=some (.map es clk)∧Ws es clk
 nod : (m.map (·.1)).Nodup
section
variable {α : Type} {enc : α→Value} {H H' : Zb} {id : Nat} {m : List (List UInt8 × α)} {k : List UInt8} {v : α} {z : Value}
theorem Kp.g (h : Kp enc H id m) : Q9 enc H id m:=by
 obtain ⟨es,clk,h1,h2,h3⟩:=h.ex
 exact ⟨⟨es,h1,.inl ⟨clk,h2,h3⟩⟩,h.nod⟩
theorem Kp.lt (h : Kp enc H id m) : id < H.length:=h.g.lt
theorem Kp.keep (h : Kp enc H id m) (hk : H'[id]?=H[id]?) : Kp enc H' id m:=by
 obtain ⟨es,clk,h1,h2,h3⟩:=h.ex
 exact ⟨⟨es,clk,h1,by rw [hk];exact h2,h3⟩,h.nod⟩
theorem Kp.hle (h : Kp enc H id m) (hl : HLe H H') : Kp enc H' id m:=h.keep (hl.step.keep id h.lt (by simp))
theorem Kp.step {o1 o2 : List Nat} (h : Kp enc H id m) (hs : Zq o1 H o2 H') (hn : id∉o1) : Kp enc H' id m:=h.keep (hs.keep id h.lt hn)
theorem ZrL (H : Zb) : ∃ H',mkm H=some (.map (some H.length),H')∧Kp enc H' H.length ([] : List (List UInt8 × α))∧HLe H H'∧H'.length=H.length+1:=
 ⟨_,rfl,⟨⟨[],0,rfl,ZM,⟨by simp,by simp⟩⟩,by simp⟩,.app _ _,by simp⟩
theorem Kp.mde (h : Kp enc H id m) : ∃ H',A.mde .str (.map (some id)) (strv k) H=some (.tuple #[],H')∧Kp enc H' id (K4 k m)∧Zq [id] H [id] H'∧H'.length=H.length:=by
 obtain ⟨es,clk,h1,h2,hs⟩:=h.ex
 have hst : ∀ o,Zq [id] H [id] (H.set id o):=fun o=>⟨by simp,fun j hj hn=>List.getElem?_set_ne (fun e=>hn (by simp [e])),fun j hj=>.inl hj⟩
 have hnod:=ZjG (k:=k) h.nod
 rcases ZcP (k:=k) 0 h1 with ⟨h3,h4⟩ | ⟨j,v0,h3,h4,h5⟩
 ·refine ⟨H,?_,by rw [ZkW h3];exact h,.refl _ _,rfl⟩
  unfold A.mde
  simp only [h2,Y5,cond_true,h4]
 ·have ha : K4 k m=m.eraseIdx j:=(Za4 h.nod h3).symm
  rw [ha] at hnod ⊢
  rw [Nat.zero_add] at h5
  have hm : (es.eraseIdx j).map kv=(m.eraseIdx j).map fun p=>(strv p.1,enc p.2):=by
   have hg : ∀ {β γ : Type} (f : β→γ) (l : List β) (j : Nat),(l.eraseIdx j).map f=(l.map f).eraseIdx j:=fun f l j=>by
    rw [List.eraseIdx_eq_take_drop_succ,List.eraseIdx_eq_take_drop_succ,List.map_append,List.map_take,List.map_drop]
   rw [hg,hg,h1]
  refine ⟨H.set id (.map (es.eraseIdx j) clk),?_,⟨⟨_,clk,hm,Qu h2,⟨fun e he=>hs.lt e ((List.eraseIdx_sublist es j).subset he),((List.eraseIdx_sublist es j).map _).nodup hs.nod⟩⟩,hnod⟩,hst _,by simp⟩
  unfold A.mde;simp only [h2,Y5,cond_true,h5]
theorem ZeX {es : List (Value × Value × Nat)} {j : Nat} {e : Value × Value × Nat} (hn : (es.map (·.2.2)).Nodup) (hj : es[j]?=some e) : es.findIdx? (fun x=>(x.2.2 : Int)==(e.2.2 : Nat))=some j:=by
 rw [List.findIdx?_eq_some_iff_getElem]
 have hlt:=(List.getElem?_eq_some_iff.1 hj).1
 have he:=(List.getElem?_eq_some_iff.1 hj).2
 refine ⟨hlt,by rw [he];simp,fun i hi=>?_⟩
 have hil : i < es.length:=by omega
 simp only [Bool.not_eq_true,beq_eq_false_iff_ne,ne_eq]
 intro h
 have h2 : es[i].2.2=e.2.2:=by omega
 have hp:=List.pairwise_iff_getElem.1 (List.nodup_iff_pairwise_ne.1 hn) i j (by simpa using hil) (by simpa using hlt) hi
 rw [List.getElem_map,List.getElem_map,he] at hp
 exact hp h2
theorem Kp.put (h : Kp enc H id m) : ∃ t st H1 H2,men .str z (.map (some id)) (strv k) H=some (t,H1)∧Zl t 1 H1=some (st,H1)∧ens (.map (some id)) st (enc v) H1=some (undef,H2)∧Kp enc H2 id (QK k v m)∧Zq [id] H [id] H1∧Zq [id] H [id] H2∧H2.length=H.length:=by
 obtain ⟨es,clk,h1,h2,hs⟩:=h.ex
 have hst : ∀ o,Zq [id] H [id] (H.set id o):=fun o=>⟨by simp,fun j hj hn=>List.getElem?_set_ne (fun e=>hn (by simp [e])),fun j hj=>.inl hj⟩
 have hst2 : ∀ o o',Zq [id] H [id] ((H.set id o).set id o'):=fun o o'=>⟨by simp,fun j hj hn=>by rw [List.getElem?_set_ne (fun e=>hn (by simp [e])),List.getElem?_set_ne (fun e=>hn (by simp [e]))],fun j hj=>.inl hj⟩
 have hnod:=ZjC (k:=k) (v:=v) h.nod
 rcases ZcP (k:=k) 0 h1 with ⟨h3,h4⟩ | ⟨j,v0,h3,h4,h5⟩
 ·have ha : QK k v m=m++[(k,v)]:=by unfold QK;rw [h3];rfl
  rw [ha] at hnod ⊢
  have hS : Ws (es++[(strv k,z,clk)]) (clk+1):=⟨fun e he=>by
   rcases List.mem_append.1 he with he | he
   ·have:=hs.lt e he;omega
   ·have : e=(strv k,z,clk):=by simpa using he
    rw [this];exact Nat.lt_succ_self _,by
   rw [List.map_append,List.nodup_append]
   refine ⟨hs.nod,by simp,fun a ha b hb=>?_⟩
   have hb : b=clk:=by simpa using hb
   obtain ⟨e,he,rfl⟩:=List.mem_map.1 ha
   have:=hs.lt e he;omega⟩
  have hlen : es.length=m.length:=by have:=congrArg List.length h1;simpa using this
  have hget : (es++[(strv k,z,clk)])[es.length]?=some (strv k,z,clk):=by simp
  have hfi:=ZeX hS.nod hget
  have hgk : ((es++[(strv k,z,clk)]).map kv)[es.length]?=some (strv k,z):=by rw [List.getElem?_map,hget];rfl
  refine ⟨.tuple #[z,.int .i64 (clk : Nat)],.int .i64 (clk : Nat),H.set id (.map (es++[(strv k,z,clk)]) (clk+1)),(H.set id (.map (es++[(strv k,z,clk)]) (clk+1))).set id (.map (Jp (es++[(strv k,z,clk)]) es.length (enc v)) (clk+1)),?_,rfl,?_,⟨⟨_,clk+1,?_,Qu (Qu h2),ZgO hS⟩,hnod⟩,hst _,hst2 _ _,by simp⟩
  ·unfold men;simp only [h2,Y5,cond_true,h4]
  ·unfold ens
   simp only [Qu h2,hfi]
  ·rw [ZeJ hgk,List.map_append,h1,List.map_append]
   have : es.length=(m.map fun p=>(strv p.1,enc p.2)).length:=by rw [List.length_map,hlen]
   rw [this]
   simp [kv]
 ·have ha : QK k v m=m.set j (k,v):=by unfold QK;rw [h4];exact (ZeQ h.nod h3).symm
  rw [ha] at hnod ⊢
  rw [Nat.zero_add] at h5
  have hget : (es.map kv)[j]?=some (strv k,enc v0):=by rw [h1,List.getElem?_map,h3];rfl
  obtain ⟨e,he,hek⟩ : ∃ e,es[j]?=some e∧kv e=(strv k,enc v0):=by
   rw [List.getElem?_map] at hget
   cases hh : es[j]? with
   | none=>rw [hh] at hget;cases hget
   | some e=>rw [hh] at hget;exact ⟨e,rfl,by simpa using hget⟩
  have hfi:=ZeX hs.nod he
  have hgd : (es.getD j (undef,undef,0)).2.2=e.2.2:=by rw [List.getD_eq_getElem?_getD,he];rfl
  refine ⟨.tuple #[enc v0,.int .i64 (e.2.2 : Nat)],.int .i64 (e.2.2 : Nat),H,H.set id (.map (Jp es j (enc v)) clk),?_,rfl,?_,⟨⟨_,clk,?_,Qu h2,ZgO hs⟩,hnod⟩,.refl _ _,hst _,by simp⟩
  ·unfold men;simp only [h2,Y5,cond_true,h5,hgd]
  ·unfold ens
   simp only [h2,hfi]
  ·rw [ZeJ hget,h1,List.map_set]
end
end Go.Proofs.YtedkoimihknggaaGreatDoor.A

namespace Go.Proofs.YtedkoimihknggaaGreatDoor.A
set_option linter.unusedVariables false
set_option linter.unusedSimpArgs false
open Go.Proofs Go.Proofs.YtedkoimihknggaaGreatDoor
structure Inv (OW OF : YF) : Prop where
 inv : ∀ k v,Zg k OF=some v↔Zg v OW=some k
 same : OW.length=OF.length
 lens : ∀ p∈OF,p.1≠[]∧p.1.length≤12∧p.2≠[]∧p.2.length≤20
def W1 (k : List UInt8) (OW OF : YF) : YF:=match Zg k OF with
 | some m=>K4 m OW
 | none=>OW
def KA (k : List UInt8) (OF : YF) : YF:=match Zg k OF with
 | some _=>K4 k OF
 | none=>OF
section
variable {OW OF : YF} {k f : List UInt8}
theorem Inv.drop (h : Inv OW OF) (n1 : (OW.map (·.1)).Nodup) (n2 : (OF.map (·.1)).Nodup) : Inv (W1 k OW OF) (KA k OF):=by
 unfold W1 KA
 cases hk : Zg k OF with
 | none=>exact h
 | some m=>
  have hm:=(h.inv k m).1 hk
  refine ⟨fun j v=>?_,?_,fun p hp=>h.lens p (List.mem_filter.1 hp).1⟩
  ·by_cases hj : j=k
   ·subst hj
    rw [ZbV]
    constructor
    ·intro e;cases e
    ·intro e
     by_cases hv : v=m
     ·subst hv;rw [ZbV] at e;cases e
     ·rw [Kf hv,← h.inv] at e
      rw [hk] at e
      exact absurd (Option.some.inj e).symm hv
   ·rw [Kf hj]
    by_cases hv : v=m
    ·subst hv
     rw [ZbV,h.inv,hm]
     constructor
     ·intro e;exact absurd (Option.some.inj e).symm hj
     ·intro e;cases e
    ·rw [Kf hv,h.inv]
  ·rw [Znl n1 (by rw [hm];rfl),Znl n2 (by rw [hk];rfl),h.same]
theorem Inv.put (h : Inv OW OF) (h1 : Zg f OW=none) (h2 : Zg k OF=none) (hk : k≠[]∧k.length≤12) (hf : f≠[]∧f.length≤20) : Inv (QK f k OW) (QK k f OF):=by
 refine ⟨fun j v=>?_,?_,fun p hp=>?_⟩
 ·by_cases hj : j=k
  ·subst hj
   rw [Wf]
   by_cases hv : v=f
   ·subst hv;rw [Wf];simp
   ·rw [Ka hv,← h.inv,h2]
    constructor
    ·intro e;exact absurd (Option.some.inj e).symm hv
    ·intro e;cases e
  ·rw [Ka hj]
   by_cases hv : v=f
   ·subst hv
    rw [Wf,h.inv,h1]
    constructor
    ·intro e;cases e
    ·intro e;exact absurd (Option.some.inj e).symm hj
   ·rw [Ka hv,h.inv]
 ·rw [ZeB,ZeB,h1,h2,h.same]
 ·unfold QK at hp
  rw [h2] at hp
  simp only [Option.isSome_none,Bool.false_eq_true,if_false,List.mem_append,List.mem_singleton] at hp
  rcases hp with hp | rfl
  ·exact h.lens p hp
  ·exact ⟨hk.1,hk.2,hf.1,hf.2⟩
theorem ZcH : Zg k (KA k OF)=none:=by
 unfold KA
 cases hk : Zg k OF with
 | none=>exact hk
 | some m=>exact ZbV
theorem Zo2 (h : Inv OW OF) (hf : ∀ w,Zg f OW=some w→w=k) : Zg f (W1 k OW OF)=none:=by
 unfold W1
 cases hk : Zg k OF with
 | none=>
  cases ho : Zg f OW with
  | none=>rfl
  | some w=>
   have:=hf w ho
   subst this
   rw [← h.inv,hk] at ho
   cases ho
 | some m=>
  by_cases hm : f=m
  ·subst hm;exact ZbV
  ·simp only
   rw [Kf hm]
   cases ho : Zg f OW with
   | none=>rfl
   | some w=>
    have:=hf w ho
    subst this
    rw [← h.inv,hk] at ho
    exact absurd (Option.some.inj ho).symm hm
theorem ZeM {j : List UInt8} (hj : j≠k) : Zg j (KA k OF)=Zg j OF:=by
 unfold KA
 cases hk : Zg k OF with
 | none=>rfl
 | some m=>exact Kf hj
def K9 (k m : List UInt8) (OW : YF) : Int:=
 if Zw k then (if m=[] then 0 else if Wj m then (match Zg (QA m) OW with
  | some w=>if w=k then 0 else 9
  | none=>0) else 11) else 10
def Zrk (k m : List UInt8) (OW OF : YF) : YF:=if K9 k m OW=0 then (if m=[] then W1 k OW OF else QK (QA m) k (W1 k OW OF)) else OW
def Zev (k m : List UInt8) (OW OF : YF) : YF:=if K9 k m OW=0 then (if m=[] then KA k OF else QK k (QA m) (KA k OF)) else OF
theorem ZsD (h : Zw k=true) : k≠[]∧k.length≤12:=by
 refine ⟨?_,WM h⟩
 rintro rfl
 revert h;decide
theorem ZdS {m : List UInt8} (h : Wj m=true) : QA m≠[]∧(QA m).length≤20:=by
 unfold Wj at h
 simp only [Bool.and_eq_true,decide_eq_true_eq] at h
 refine ⟨fun e=>?_,by rw [Zlj];exact h.1⟩
 have h2:=h.2
 rw [e] at h2
 revert h2;decide
end
structure Idx (X : Zb) (x o a : Nat) (OW OF : YF) : Prop where
 c : X[x]?=some (.cells [.map (some o),.map (some a)] 1 false false)
 ow : Kp strv X o OW
 of : Kp strv X a OF
 ne : o≠a
 inv : Inv OW OF
section
variable {X X' : Zb} {n x o a : Nat} {OW OF : YF} {k m : List UInt8}
theorem Idx.not (h : Idx X x o a OW OF) : x≠o∧x≠a:=by
 constructor
 ·rintro rfl
  obtain ⟨es,clk,_,h2,_⟩:=h.ow.ex
  rw [h.c] at h2;cases h2
 ·rintro rfl
  obtain ⟨es,clk,_,h2,_⟩:=h.of.ex
  rw [h.c] at h2;cases h2
theorem Idx.hle (h : Idx X x o a OW OF) (hl : HLe X X') : Idx X' x o a OW OF:=⟨hl _ _ h.c,h.ow.hle hl,h.of.hle hl,h.ne,h.inv⟩
theorem Idx.lt (h : Idx X x o a OW OF) : x < X.length∧o < X.length∧a < X.length:=⟨Je h.c,h.ow.lt,h.of.lt⟩
theorem Idx.step {o1 o2 : List Nat} (h : Idx X x o a OW OF) (hs : Zq o1 X o2 X') (h1 : x∉o1) (h2 : o∉o1) (h3 : a∉o1) : Idx X' x o a OW OF:=
 ⟨hs.get h.c h1,h.ow.step hs h2,h.of.step hs h3,h.ne,h.inv⟩
theorem Idx.l0 (h : Idx X x o a OW OF) : ld1 (pa x 0) X=some (.map (some o),X):=Yg h.c rfl
theorem Idx.l1 (h : Idx X x o a OW OF) : ld1 (pa x 1) X=some (.map (some a),X):=Yg h.c rfl
theorem ZqS {id : Nat} {mm : YF} (h : Q9 strv X id mm) : lkp .str (.string ⟨#[]⟩) true (.map (some id)) (strv k) X=some (.tuple #[strv ((Zg k mm).getD []),.bool (Zg k mm).isSome],X):=by
 rw [h.lkp]
 cases Zg k mm <;> rfl
theorem Zq.mono2 {o1 o2 : List Nat} (h : Zq o1 X o1 X') (hs : ∀ j∈o1,j∈o2) : Zq o2 X o2 X':=h.more hs (fun j hj=>.inl hj)
theorem Zs8 : ∃ X' x o a,R (n+1) ZdD [] X=some (pt x,X')∧Idx X' x o a [] []∧HLe X X'∧X.length≤x∧X.length≤o∧X.length≤a:=by
 obtain ⟨X1,e1,g1,l1,n1⟩:=ZrL (α:=List UInt8) (enc:=strv) X
 obtain ⟨X2,e2,g2,l2,n2⟩:=ZrL (α:=List UInt8) (enc:=strv) X1
 have e3 : bld (.agg #[.map none,.map none]) [(0,1,.map (some X.length)),(1,1,.map (some X1.length))] X2=some (.agg #[.map (some X.length),.map (some X1.length)],X2):=by simp [↓ZY,ZZ,↓QB,Qd,Qe,Qc,↓Zd,JW,Zt,YG,Qk,Jt,Qm,Js,Jr,QI,JA,QH,QX,QZ,Q1,QF,ZC,Qa,YM,Ym,Jg,Jd,JV,ZD,QR,JS,JU,JH,Qi,Zr,Zm,JB,QG,QN,JQ,JT,JL,JI,↓YR,JY,↓g_r,YQ,Yz,K5,splice,Value.cells]
 have e4 : alc 1 (.agg #[.map (some X.length),.map (some X1.length)]) X2=some (pt X2.length,X2++[.cells [.map (some X.length),.map (some X1.length)] 1 false false]):=by
  rw [QX];simp [Value.cells,oneCell]
 refine ⟨X2++[.cells [.map (some X.length),.map (some X1.length)] 1 false false],X2.length,X.length,X1.length,?_,⟨ZM,(g1.hle l2).hle (.app _ _),g2.hle (.app _ _),by omega,⟨fun k v=>by simp [Zg],rfl,by simp⟩⟩,(l1.trans l2).trans (.app _ _),by omega,Nat.le_refl _,by omega⟩
 rw [R,ZnW rfl]
 unfold ZfY
 rw [Za e1,Za e2,Za e3,Za e4]
 rfl
theorem Zoi (h : Idx X x o a OW OF) : ∃ X',R (n+1) JK [pt x,strv k] X=some (.bool (Zg k OF).isSome,X')∧Idx X' x o a (W1 k OW OF) (KA k OF)∧Zq [o,a] X [o,a] X':=by
 have e1:=ZqS (k:=k) h.of.g
 have f1 : ∀ r X',KB (R n) (pt x) (strv k) X=some (r,X')→R (n+1) JK [pt x,strv k] X=some (r,X'):=fun r X' hr=>by rw [R,Zhd rfl];exact hr
 cases hk : Zg k OF with
 | none=>
  rw [hk] at e1
  simp only [Option.isSome_none,Option.getD_none] at e1 ⊢
  have hi : Idx X x o a (W1 k OW OF) (KA k OF):=by unfold W1 KA;rw [hk];exact h
  refine ⟨X,f1 _ _ ?_,hi,.refl _ _⟩
  unfold KB
  rw [Za Zt,Za Zz,Za h.l1,Za e1,Za Zu,Za Zv]
  refine (Wq (vs:=[.bool false]) (H':=X) ?_).trans rfl
  rw [Zd,if_neg (by simp)]
  rfl
 | some mm=>
  rw [hk] at e1
  simp only [Option.isSome_some,Option.getD_some] at e1 ⊢
  obtain ⟨X1,e2,m2,s2,_⟩:=h.ow.mde (k:=mm)
  have of1:=h.of.step s2 (by simp [Ne.symm h.ne])
  have c1:=s2.get h.c (by simp [h.not.1])
  obtain ⟨X2,e3,m3,s3,_⟩:=of1.mde (k:=k)
  have s12:=(s2.mono2 (o2:=[o,a]) (by simp)).trans (s3.mono2 (o2:=[o,a]) (by simp))
  have hinv:=h.inv.drop (k:=k) h.ow.nod h.of.nod
  have hi : Idx X2 x o a (W1 k OW OF) (KA k OF):=by
   unfold W1 KA at hinv ⊢
   rw [hk] at hinv ⊢
   exact ⟨s3.get c1 (by simp [h.not.2]),m2.step s3 (by simp [h.ne]),m3,h.ne,hinv⟩
  refine ⟨X2,f1 _ _ ?_,hi,s12⟩
  have l0' : ld1 (pa x 0) X=some (.map (some o),X):=h.l0
  have l1' : ld1 (pa x 1) X1=some (.map (some a),X1):=Yg c1 rfl
  unfold KB
  rw [Za Zt,Za Zz,Za h.l1,Za e1,Za Zu,Za Zv]
  refine (Wq (vs:=[.bool true]) (H':=X2) ?_).trans rfl
  rw [Zd,if_pos rfl,Za Zt,Za Zz,Za l0']
  refine (Za e2).trans ?_
  rw [Za Zt,Za Zz,Za l1',Za e3]
  rfl
theorem Zq8 {f : List UInt8} (h : Idx X x o a OW OF) (h1 : Zg f OW=none) (h2 : Zg k OF=none) (hk : k≠[]∧k.length≤12) (hf : f≠[]∧f.length≤20) :
  ∃ X',(∀ K : M Value,bind (men .str (.string ⟨#[]⟩) (.map (some o)) (strv f)) (fun v60=>bind (Zl v60 1) fun v61=>bind (ens (.map (some o)) v61 (strv k)) fun _=>bind (men .str (.string ⟨#[]⟩) (.map (some a)) (strv k)) fun v62=>bind (Zl v62 1) fun v63=>bind (ens (.map (some a)) v63 (strv f)) fun _=>K) X=K X')∧Idx X' x o a (QK f k OW) (QK k f OF)∧Zq [o,a] X [o,a] X':=by
 obtain ⟨t1,st1,Y1,Y2,e1,e2,e3,m1,_,s1,_⟩:=h.ow.put (k:=f) (v:=k) (z:=.string ⟨#[]⟩)
 have of1:=h.of.step s1 (by simp [Ne.symm h.ne])
 have c1:=s1.get h.c (by simp [h.not.1])
 obtain ⟨t2,st2,Z1,Z2,e4,e5,e6,m2,_,s2,_⟩:=of1.put (k:=k) (v:=f) (z:=.string ⟨#[]⟩)
 refine ⟨Z2,fun K=>?_,⟨s2.get c1 (by simp [h.not.2]),m1.step s2 (by simp [h.ne]),m2,h.ne,h.inv.put h1 h2 hk hf⟩,(s1.mono2 (o2:=[o,a]) (by simp)).trans (s2.mono2 (o2:=[o,a]) (by simp))⟩
 rw [Za e1,Za e2,Za e3,Za e4,Za e5,Za e6]
theorem Zti (h : Idx X x o a OW OF) : ∃ X',R (n+9) J9 [pt x,strv k,strv m] X=some (iv (K9 k m OW),X')∧Idx X' x o a (Zrk k m OW OF) (Zev k m OW OF)∧Zq [o,a] X [o,a] X':=by
 have f1 : ∀ r X',Ya (R (n+8)) (pt x) (strv k) (strv m) X=some (r,X')→R (n+9) J9 [pt x,strv k,strv m] X=some (r,X'):=fun r X' hr=>by rw [R,Ziu rfl];exact hr
 have e1 : R (n+8) QM [strv k] X=some (iv (ZL k),X):=ZcN (n:=n+3)
 have q1 : bop .str .eql (strv m) (.string ⟨#[]⟩) X=some (.bool (m==[]),X):=Zee (b:=[])
 unfold K9 Zrk Zev K9
 cases hn : Zw k
 ·have he : ZL k=10:=by unfold ZL;rw [hn];rfl
  refine ⟨X,f1 _ _ ?_,by simpa using h,.refl _ _⟩
  unfold Ya
  rw [Za e1,he,Za Zr,Zd,if_pos (by rfl)]
  rfl
 ·have he : ZL k=0:=Zdy.2 hn
  by_cases hm0 : m=[]
  ·obtain ⟨X1,e2,i2,s2⟩:=Zoi (n:=n+7) (k:=k) h
   have e2 : R (n+8) JK [pt x,strv k] X=_:=e2
   refine ⟨X1,f1 _ _ ?_,by simpa [hm0] using i2,s2⟩
   unfold Ya
   rw [Za e1,he,Za Zr,Zd,if_neg (by decide),Za q1,Zd,if_pos (by simp [hm0]),Za e2]
   simp [hm0,ret]
  ·obtain ⟨X1,e2,k2⟩:=Zp7 (n:=n) (s:=m) (X:=X)
   have h1:=h.hle k2
   have ks:=k2.step.more (o2:=[o,a]) (o2':=[o,a]) (by simp) (fun j hj=>.inl hj)
   cases hmb : Wj m
   ·rw [hmb] at e2
    refine ⟨X1,f1 _ _ ?_,by simpa [hm0] using h1,ks⟩
    unfold Ya
    rw [Za e1,he,Za Zr,Zd,if_neg (by decide),Za q1,Zd,if_neg (by simpa using hm0),Za e2,Za Zu,Za Zv]
    have q3 : bop .int .neq (iv (if false=true then 0 else 11)) (.int .i64 0) X1=some (.bool true,X1):=by rw [Zr];rfl
    rw [Za q3,Zd,if_pos rfl]
    simp [hm0,ret]
   ·rw [hmb] at e2
    simp only [if_true] at e2
    have e3:=ZqS (k:=QA m) h1.ow.g
    have hfm:=ZdS hmb
    have hkn:=ZsD hn
    have q3 : bop .int .neq (iv 0) (.int .i64 0) X1=some (.bool false,X1):=by rw [Zr];rfl
    simp only [if_true,if_neg hm0]
    have hgo : (∀ w,Zg (QA m) OW=some w→w=k)→∃ X',R (n+9) J9 [pt x,strv k,strv m] X=some (iv 0,X')∧Idx X' x o a (QK (QA m) k (W1 k OW OF)) (QK k (QA m) (KA k OF))∧Zq [o,a] X [o,a] X':=fun hw=>by
     obtain ⟨X2,e4,i4,s4⟩:=Zoi (n:=n+7) (k:=k) h1
     have e4 : R (n+8) JK [pt x,strv k] X1=_:=e4
     obtain ⟨X3,e5,i5,s5⟩:=Zq8 (k:=k) (f:=QA m) i4 (Zo2 h.inv hw) ZcH hkn hfm
     refine ⟨X3,f1 _ _ ?_,i5,(ks.trans s4).trans s5⟩
     unfold Ya
     rw [Za e1,he,Za Zr,Zd,if_neg (by decide),Za q1,Zd,if_neg (by simpa using hm0),Za e2,Za Zu,Za Zv,Za q3,Zd,if_neg (by simp),Za Zt,Za Zz,Za h1.l0,Za e3,Za Zu,Za Zv]
     cases ho : Zg (QA m) OW with
     | none=>
      simp only [Option.isSome_none]
      rw [Za (g_r.trans (if_neg (by simp)))]
      simp only [List.replicate]
      rw [Z3,Za ZC]
      simp only [cond_false]
      rw [Zd,if_neg (by simp),Za e4,Za Zt,Za Zz,Za i4.l0,Za Zt,Za Zz,Za i4.l1]
      exact e5 _
     | some w=>
      have:=hw w ho
      subst this
      have q4 : bop .str .neq (strv w) (strv w) X1=some (.bool false,X1):=by rw [Zl4];simp
      simp only [Option.isSome_some,Option.getD_some]
      rw [Yf,ZX,Za q4,YI,Z3,Za ZC]
      simp only [cond_true]
      rw [Zd,if_neg (by simp),Za e4,Za Zt,Za Zz,Za i4.l0,Za Zt,Za Zz,Za i4.l1]
      exact e5 _
    cases ho : Zg (QA m) OW with
    | none=>simpa using hgo (fun w hw=>by rw [ho] at hw;cases hw)
    | some w=>
     by_cases hw : w=k
     ·simpa [hw] using hgo (fun w' hw'=>by rw [ho] at hw';cases hw';exact hw)
     ·simp only [if_neg hw]
      refine ⟨X1,f1 _ _ ?_,by simpa using h1,ks⟩
      have q4 : bop .str .neq (strv w) (strv k) X1=some (.bool true,X1):=by rw [Zl4,beq_eq_false_iff_ne.2 hw];rfl
      rw [ho] at e3
      simp only [Option.isSome_some,Option.getD_some] at e3
      unfold Ya
      rw [Za e1,he,Za Zr,Zd,if_neg (by decide),Za q1,Zd,if_neg (by simpa using hm0),Za e2,Za Zu,Za Zv,Za q3,Zd,if_neg (by simp),Za Zt,Za Zz,Za h1.l0,Za e3,Za Zu,Za Zv,Yf,ZX,Za q4,YI,Z3,Za ZC]
      simp only [cond_true]
      rw [Zd,if_pos rfl]
      rfl
theorem Ztz (h : Idx X x o a OW OF) : R (n+1) Wt [pt x,strv k] X=some (.tuple #[strv ((Zg k OF).getD []),.bool (Zg k OF).isSome],X):=by
 have e1:=ZqS (k:=k) h.of.g
 rw [R,Zjq rfl]
 unfold Zcm
 rw [Za Zt,Za Zz,Za h.l1,Za e1,Za Zu,Za Zv]
 rfl
end
end Go.Proofs.YtedkoimihknggaaGreatDoor.A
namespace Go.Proofs.YtedkoimihknggaaGreatDoor.A
set_option linter.unusedVariables false
set_option linter.unusedSimpArgs false
open Go.Proofs Go.Proofs.YtedkoimihknggaaGreatDoor
section
variable {H X X' : Zb} {n x o a : Nat} {OW OF : YF} {k m : List UInt8}
end
end Go.Proofs.YtedkoimihknggaaGreatDoor.A
namespace Go.Proofs.YtedkoimihknggaaGreatDoor.A
set_option linter.unusedVariables false
set_option linter.unusedSimpArgs false
open Go.Proofs Go.Proofs.YtedkoimihknggaaGreatDoor
section
variable {n : Nat}
variable {X : Zb} {x o a : Nat} {OW OF : YF}
end
end Go.Proofs.YtedkoimihknggaaGreatDoor.A

namespace Go.Proofs.YtedkoimihknggaaGreatDoor.A
set_option linter.unusedVariables false
set_option linter.unusedSimpArgs false
open Go.Proofs Go.Proofs.YtedkoimihknggaaGreatDoor
abbrev Acc:=Tx × Bool
def Zad (p : Acc) : Value:=.agg #[strv p.1,.bool p.2]
abbrev AMp:=List (Tx × Acc)
structure NSt where
 A : AMp
 OW : YF
 OF : YF
 K : List Tx
 mem : Mem
structure Ys (s : NSt) : Prop where
 nm : ∀ p∈s.A,Zw p.1=true∧Za2 p.2.1=true
 few : s.A.length≤12
 ofA : ∀ n,(Zg n s.OF).isSome=true→(Zg n s.A).isSome=true
 memA : ∀ k n,s.mem k n=true→(Zg n s.A).isSome=true
 good : ∀ n m,Zg n s.OF=some m→Wj m=true∧QA m=m
structure NR where
 b : Nat
 x : Nat
 o : Nat
 a : Nat
 g : Nat
 o2 : Nat
 G : ZeK
def NR.own (r : NR) : List Nat:=r.b :: r.o :: r.a :: Jy r.o2 r.G
structure ND0 (X : Zb) (d : Nat) (r : NR) (s : NSt) (c : Nat) : Prop where
 cell : X[d]?=some (.cells [.map (some r.b),pt r.x,pt r.g] 1 false false)
 m : Q9 Zad X r.b s.A
 ix : Idx X r.x r.o r.a s.OW s.OF
 gr : Grp X r.g r.o2 r.G s.mem c
 ks : Qz r.G=s.K
 dis : r.b≠r.o∧r.b≠r.a∧r.b∉Jy r.o2 r.G∧r.o∉Jy r.o2 r.G∧r.a∉Jy r.o2 r.G
structure ND (X : Zb) (d : Nat) (r : NR) (s : NSt) (c : Nat) : Prop extends ND0 X d r s c where
 inv : Ys s
def KU (s : NSt) (n : Tx) (p : Acc) : KJ:=(n,p.1,(Zg n s.OF).getD [],p.2,ofL n s.K s.mem)
def Jn (s : NSt) (n : Tx) : Option KJ:=(Zg n s.A).map (KU s n)
def Wi (n : Tx) (A : AMp) : Int:=if Zw n then (if (Zg n A).isSome then 0 else 8) else 10
theorem ZsS {n : Tx} {A : AMp} (h : Wi n A=0) : Zw n=true∧∃ p,Zg n A=some p:=by
 unfold Wi at h
 cases hn : Zw n
 ·rw [hn] at h;simp at h
 ·rw [hn] at h
  cases ha : Zg n A with
  | none=>rw [ha] at h;simp at h
  | some p=>exact ⟨rfl,p,rfl⟩
section
variable {X X' : Zb} {n d c : Nat} {r : NR} {s : NSt} {k : Tx}
theorem Q9.isMap {α : Type} {enc : α→Value} {id : Nat} {mm : List (Tx × α)} (hm : Q9 enc X id mm) : id < X.length∧∀ cs es gr ro,X[id]?≠some (.cells cs es gr ro):=⟨hm.lt,fun cs es gr ro e=>by
 obtain ⟨es',_,h1 | h1⟩:=hm.ex
 ·obtain ⟨clk,h1,_⟩:=h1;rw [e] at h1;cases h1
 ·rw [e] at h1;cases h1⟩
theorem ND0.isMap (h : ND0 X d r s c) {j : Nat} (hj : j∈r.own) : j < X.length∧∀ cs es gr ro,X[j]?≠some (.cells cs es gr ro):=by
 unfold NR.own at hj
 rcases List.mem_cons.1 hj with rfl | hj
 ·exact h.m.isMap
 ·rcases List.mem_cons.1 hj with rfl | hj
  ·exact h.ix.ow.g.isMap
  ·rcases List.mem_cons.1 hj with rfl | hj
   ·exact h.ix.of.g.isMap
   ·exact h.gr.isMap hj
theorem ND0.dnot (h : ND0 X d r s c) : d∉r.own:=fun hj=>(h.isMap hj).2 _ _ _ _ h.cell
theorem ND0.xnot (h : ND0 X d r s c) : r.x∉r.own:=fun hj=>(h.isMap hj).2 _ _ _ _ h.ix.c
theorem ND0.gnot (h : ND0 X d r s c) : r.g∉r.own:=fun hj=>(h.isMap hj).2 _ _ _ _ h.gr.cell
theorem ND0.step {o1 o2 : List Nat} (h : ND0 X d r s c) (hs : Zq o1 X o2 X') (hd : d∉o1) (hx : r.x∉o1) (hg : r.g∉o1) (ho : ∀ j∈r.own,j∉o1) : ND0 X' d r s c:=
 ⟨hs.get h.cell hd,h.m.step hs (ho _ (by simp [NR.own])),h.ix.step hs hx (ho _ (by simp [NR.own])) (ho _ (by simp [NR.own])),h.gr.step hs hg (fun j hj=>ho j (by
  unfold NR.own
  exact List.mem_cons_of_mem _ (List.mem_cons_of_mem _ (List.mem_cons_of_mem _ hj)))),h.ks,h.dis⟩
theorem ND0.hle (h : ND0 X d r s c) (hl : HLe X X') : ND0 X' d r s c:=h.step hl.step (by simp) (by simp) (by simp) (by simp)
theorem ND0.l0 (h : ND0 X d r s c) : ld1 (pa d 0) X=some (.map (some r.b),X):=Yg h.cell rfl
theorem ND0.l1 (h : ND0 X d r s c) : ld1 (pa d 1) X=some (pt r.x,X):=Yg h.cell rfl
theorem ND0.l2 (h : ND0 X d r s c) : ld1 (pa d 2) X=some (pt r.g,X):=Yg h.cell rfl
theorem ND.step {o1 o2 : List Nat} (h : ND X d r s c) (hs : Zq o1 X o2 X') (hd : d∉o1) (hx : r.x∉o1) (hg : r.g∉o1) (ho : ∀ j∈r.own,j∉o1) : ND X' d r s c:=⟨h.toND0.step hs hd hx hg ho,h.inv⟩
theorem ND.hle (h : ND X d r s c) (hl : HLe X X') : ND X' d r s c:=⟨h.toND0.hle hl,h.inv⟩
def CLe (X X' : Zb) : Prop:=∀ (i : Nat) (cs : List Value) (es : Nat) (g ro : Bool),X[i]?=some (Zi.cells cs es g ro)→X'[i]?=some (Zi.cells cs es g ro)
theorem CLe.refl (X : Zb) : CLe X X:=fun _ _ _ _ _ h=>h
theorem CLe.trans {Y : Zb} (h : CLe X X') (h' : CLe X' Y) : CLe X Y:=fun i cs es g ro hi=>h' i _ _ _ _ (h i _ _ _ _ hi)
theorem Zq.cle {o1 o2 : List Nat} (hs : Zq o1 X o2 X') (hm : ∀ j∈o1,∀ cs es g ro,X[j]?≠some (Zi.cells cs es g ro)) : CLe X X':=fun i cs es g ro hi=>hs.get hi fun hj=>hm i hj _ _ _ _ hi
theorem ND0.cle {o2 : List Nat} (h : ND0 X d r s c) (hs : Zq r.own X o2 X') : CLe X X':=hs.cle fun j hj=>(h.isMap hj).2
theorem Sl.cle {sl : Value} {vs : List Value} (h : Sl X sl vs) (hc : CLe X X') : Sl X' sl vs:=by
 obtain ⟨a,c,rfl,h0,h⟩:=h
 refine ⟨a,c,rfl,h0,?_⟩
 unfold ZT at h ⊢
 split at h
 ·exact h
 ·rename_i id o n x _
  split at h
  ·rename_i cs es g ro hid
   simp only [hc _ _ _ _ _ hid];exact h
  ·cases h
 ·exact h
 ·rename_i e;cases e
 ·cases h
theorem ZtV {k : Tx} {t : Bool} {H : Zb} : bld (.agg #[.string ⟨#[]⟩,.bool false]) [(0,1,strv k),(1,1,.bool t)] H=some (Zad (k,t),H):=by
 simp [bld,K5,Value.cells,Yz,strv,splice,Zad]
theorem Zsc (X : Zb) : Ys ⟨[],[],[],[],fun _ _=>false⟩:=⟨by simp,by simp,by simp [Zg],by simp,by simp [Zg]⟩
theorem ZpB : ∃ X' d r,R (n+2) YW [] X=some (pt d,X')∧ND X' d r ⟨[],[],[],[],fun _ _=>false⟩ 0∧HLe X X'∧X.length≤d∧∀ j∈r.own,X.length≤j:=by
 obtain ⟨X1,e1,m1,k1⟩:=ZoP (α:=Acc) (enc:=Zad) X
 have hl1 : X.length < X1.length:=m1.lt
 obtain ⟨X2,x,o,a,e2,i2,k2,o21,o22,o23⟩:=Zs8 (n:=n) (X:=X1)
 obtain ⟨X3,g,o2,e3,g3,k3,o31,o32⟩:=Ztd (n:=n) (X:=X2)
 have hi:=i2.lt
 have e4 : bld (.agg #[.map none,.pointer none,.pointer none]) [(0,1,.map (some X.length)),(1,1,pt x),(2,1,pt g)] X3=some (.agg #[.map (some X.length),pt x,pt g],X3):=by
  simp [bld,K5,Value.cells,Yz,splice]
 have e5 : alc 1 (.agg #[.map (some X.length),pt x,pt g]) X3=some (pt X3.length,X3++[.cells [.map (some X.length),pt x,pt g] 1 false false]):=ZgN (vs:=[.map (some X.length),pt x,pt g]) rfl
 have k4 : HLe X3 (X3++[Zi.cells [.map (some X.length),pt x,pt g] 1 false false]):=.app _ _
 refine ⟨_,X3.length,⟨X.length,x,o,a,g,o2,[]⟩,?_,⟨⟨ZM,((m1.hle k2).hle k3).hle k4,(i2.hle k3).hle k4,g3.hle k4,rfl,⟨by simp only;omega,by simp only;omega,?_,?_,?_⟩⟩,Zsc X⟩,((k1.trans k2).trans k3).trans k4,?_,?_⟩
 ·rw [R,Znd rfl]
  unfold Zep
  rw [Za e1,Za e2,Za e3,Za e4,Za e5]
  rfl
 ·simp only [Jy,List.map_nil,List.mem_singleton]
  have:=k2.len;omega
 ·simp only [Jy,List.map_nil,List.mem_singleton]
  omega
 ·simp only [Jy,List.map_nil,List.mem_singleton]
  omega
 ·have:=k1.len;have:=k2.len;have:=k3.len;omega
 ·intro j hj
  have:=k1.len;have:=k2.len
  simp only [NR.own,Jy,List.map_nil,List.mem_cons,List.not_mem_nil,or_false] at hj
  omega
theorem Zsw (h : ND X d r s c) : ∃ X',R (n+6) K0 [pt d,strv k] X=some (.tuple #[Zad (if Zw k then (Zg k s.A).getD ([],false) else ([],false)),iv (Wi k s.A)],X')∧HLe X X':=by
 have one : ∀ p : Acc,([strv p.1,.bool p.2] : List Value).all oneCell=true:=fun _=>rfl
 have z1 : alc 1 (.agg #[.string ⟨#[]⟩,.bool false]) X=some (pt X.length,X++[.cells [strv [],.bool false] 1 false false]):=ZgN (vs:=[strv [],.bool false]) rfl
 have k1 : HLe X (X++[Zi.cells [strv [],.bool false] 1 false false]):=.app _ _
 have c1 : (X++[Zi.cells [strv [],.bool false] 1 false false])[X.length]?=some (.cells [strv [],.bool false] 1 false false):=ZM
 have ll1 : X.length < (X++[Zi.cells [strv [],.bool false] 1 false false]).length:=by simp
 generalize X++[Zi.cells [strv [],.bool false] 1 false false]=X1 at z1 k1 c1 ll1
 have h1:=h.hle k1
 have e1 : R (n+5) QM [strv k] X1=_:=ZcN
 have f1 : ∀ v X',Y6 (R (n+5)) (pt d) (strv k) X=some (v,X')→R (n+6) K0 [pt d,strv k] X=some (v,X'):=fun v X' hr=>by rw [R,Zib rfl];exact hr
 have fin : ∀ (p : Acc) (Y : Zb) (K : Value→M Value),Y[X.length]?=some (.cells [strv [],.bool false] 1 false false)→bind (stA 2 (pt X.length) (Zad p)) (fun _=>bind (ldA 2 (pt X.length)) K) Y=K (Zad p) (Y.set X.length (.cells [strv p.1,.bool p.2] 1 false false)):=fun p Y K hY=>by
  have w:=ZfD (vs:=[strv p.1,.bool p.2]) (n:=2) hY rfl rfl rfl
  have w : stA 2 (pt X.length) (Zad p) Y=_:=w
  have l : ldA 2 (pt X.length) (Y.set X.length (.cells [strv p.1,.bool p.2] 1 false false))=some (Zad p,_):=Zat (n:=2) (Qu hY) rfl
  rw [Za w,Za l]
 have put : ∀ {Y : Zb} {o : Zi},HLe X Y→HLe X (Y.set X.length o):=fun hl i v hi=>by
  have:=Je hi
  rw [List.getElem?_set_ne (by omega)]
  exact hl i v hi
 cases hnm : Zw k
 ·have he : Wi k s.A=10:=by unfold Wi;rw [hnm];rfl
  have q1 : bop .int .neq (iv (ZL k)) (.int .i64 0) X1=some (.bool true,X1):=by rw [Zr];unfold ZL;rw [hnm];rfl
  have zb : bld (.agg #[.string ⟨#[]⟩,.bool false]) [] X1=some (Zad ([],false),X1):=rfl
  rw [he]
  refine ⟨X1.set X.length (.cells [strv [],.bool false] 1 false false),f1 _ _ ?_,put k1⟩
  unfold Y6
  rw [Za z1,Za e1,Za q1,Zd,if_pos rfl,Za zb]
  refine (fin _ _ _ c1).trans ?_
  rw [show ZL k=10 by unfold ZL;rw [hnm];rfl]
  rfl
 ·have q1 : bop .int .neq (iv (ZL k)) (.int .i64 0) X1=some (.bool false,X1):=by rw [Zr];unfold ZL;rw [hnm];rfl
  have e2 : lkp .str (.agg #[.string ⟨#[]⟩,.bool false]) true (.map (some r.b)) (strv k) X1=some (.tuple #[Zad ((Zg k s.A).getD ([],false)),.bool (Zg k s.A).isSome],X1):=by
   rw [h1.m.lkp]
   cases Zg k s.A <;> rfl
  generalize hv : (Zg k s.A).getD ([],false)=p at e2
  have z2 : ∀ K : Value→M Value,bind (alc 1 (.agg #[.string ⟨#[]⟩,.bool false])) (fun q=>bind (stA 2 q (Zad p)) fun _=>K q) X1=K (pt X1.length) (X1++[.cells [strv p.1,.bool p.2] 1 false false]):=fun K=>Zdp (n:=2) (zs:=[strv [],.bool false]) (r:=[strv p.1,.bool p.2]) rfl rfl rfl rfl
  have k2 : HLe X1 (X1++[Zi.cells [strv p.1,.bool p.2] 1 false false]):=.app _ _
  have c2 : (X1++[Zi.cells [strv p.1,.bool p.2] 1 false false])[X1.length]?=some (.cells [strv p.1,.bool p.2] 1 false false):=ZM
  have c12:=k2 _ _ c1
  generalize X1++[Zi.cells [strv p.1,.bool p.2] 1 false false]=X2 at z2 k2 c2 c12
  have d2 : ldA 2 (pt X1.length) X2=some (Zad p,X2):=Zat (n:=2) c2 rfl
  have zb : bld (.agg #[.string ⟨#[]⟩,.bool false]) [] X2=some (Zad ([],false),X2):=rfl
  cases hs : (Zg k s.A).isSome
  ·have he : Wi k s.A=8:=by unfold Wi;rw [hnm,hs];rfl
   have hp : p=([],false):=by
    rw [← hv]
    cases ha : Zg k s.A with
    | none=>rfl
    | some v=>rw [ha] at hs;cases hs
   rw [hs] at e2
   rw [he]
   refine ⟨X2.set X.length (.cells [strv [],.bool false] 1 false false),f1 _ _ ?_,put (k1.trans k2)⟩
   unfold Y6
   rw [Za z1,Za e1,Za q1,Zd,if_neg (by simp),Za Zt,Za Zz,Za h1.l0,Za e2,Za Zu,Za Zv,z2,Za Qa,Zd,if_pos (by rfl),Za zb]
   refine (fin _ _ _ c12).trans ?_
   rw [hp]
   rfl
  ·have he : Wi k s.A=0:=by unfold Wi;rw [hnm,hs];rfl
   rw [hs] at e2
   rw [he]
   refine ⟨X2.set X.length (.cells [strv p.1,.bool p.2] 1 false false),f1 _ _ ?_,put (k1.trans k2)⟩
   unfold Y6
   rw [Za z1,Za e1,Za q1,Zd,if_neg (by simp),Za Zt,Za Zz,Za h1.l0,Za e2,Za Zu,Za Zv,z2,Za Qa,Zd,if_neg (by simp),Za d2]
   exact fin _ _ _ c12
theorem ZpX (h : ND X d r s c) : ∃ u q X',R (n+7) Yv [pt d,strv k] X=some (.tuple #[.agg u.cells.toArray,iv (Wi k s.A)],X')∧Zn X' u.gv (u.gs.map strv) q∧(∀ j∈q,X.length≤j)∧HLe X X'∧u.gs.length≤6∧
  QS u=if Wi k s.A=0 then KU s k ((Zg k s.A).getD ([],false)) else ([],[],[],false,[]):=by
 have z1 : alc 1 (.agg #[.string ⟨#[]⟩,.string ⟨#[]⟩,.string ⟨#[]⟩,.bool false,.slice none 0 0]) X=some (pt X.length,X++[.cells (usr ([],[])) 1 false false]):=ZgN (vs:=usr ([],[])) rfl
 have k1 : HLe X (X++[Zi.cells (usr ([],[])) 1 false false]):=.app _ _
 have c1 : (X++[Zi.cells (usr ([],[])) 1 false false])[X.length]?=some (.cells (usr ([],[])) 1 false false):=ZM
 generalize X++[Zi.cells (usr ([],[])) 1 false false]=X1 at z1 k1 c1
 obtain ⟨X2,e2,k2⟩:=Zsw (n:=n) (k:=k) (h.hle k1)
 have f1 : ∀ v X',Ki (R (n+6)) (pt d) (strv k) X=some (v,X')→R (n+7) Yv [pt d,strv k] X=some (v,X'):=fun v X' hr=>by rw [R,Zfv rfl];exact hr
 generalize hp : (if Zw k then (Zg k s.A).getD ([],false) else ([],false))=p at e2
 have z2 : ∀ K : Value→M Value,bind (alc 1 (.agg #[.string ⟨#[]⟩,.bool false])) (fun q=>bind (stA 2 q (Zad p)) fun _=>K q) X2=K (pt X2.length) (X2++[.cells [strv p.1,.bool p.2] 1 false false]):=fun K=>Zdp (n:=2) (zs:=[strv [],.bool false]) (r:=[strv p.1,.bool p.2]) rfl rfl rfl rfl
 have k3 : HLe X2 (X2++[Zi.cells [strv p.1,.bool p.2] 1 false false]):=.app _ _
 have c3 : (X2++[Zi.cells [strv p.1,.bool p.2] 1 false false])[X2.length]?=some (.cells [strv p.1,.bool p.2] 1 false false):=ZM
 have hlx : X.length < X2.length:=by have:=Je c1;have:=k2.len;omega
 generalize X2++[Zi.cells [strv p.1,.bool p.2] 1 false false]=X3 at z2 k3 c3
 have c13:=k3 _ _ (k2 _ _ c1)
 have k13:=(k1.trans k2).trans k3
 have put : ∀ {Y : Zb} {o : Zi},HLe X Y→HLe X (Y.set X.length o):=fun hl i v hi=>by
  have:=Je hi
  rw [List.getElem?_set_ne (by omega)]
  exact hl i v hi
 by_cases he : Wi k s.A=0
 ·obtain ⟨hnm,q0,hq0⟩:=ZsS he
  have hpq : p=q0:=by rw [← hp,hnm,hq0];rfl
  subst hpq
  have q1 : bop .int .neq (iv (Wi k s.A)) (.int .i64 0) X3=some (.bool false,X3):=by rw [Zr,he];rfl
  have h3:=h.hle k13
  have e4 : R (n+6) Wt [pt r.x,strv k] X3=_:=Ztz (n:=n+5) h3.ix
  have a0 : ∀ Y,HLe X3 Y→ld1 (pa X2.length 0) Y=some (strv p.1,Y):=fun Y hl=>Yg (hl _ _ c3) rfl
  have a1 : ∀ Y,HLe X3 Y→ld1 (pa X2.length 1) Y=some (.bool p.2,Y):=fun Y hl=>Yg (hl _ _ c3) rfl
  obtain ⟨gv,q,X4,e5,r5,k5,o5⟩:=ZtK (n:=n+2) (m:=k) h3.gr
  have e5 : R (n+6) JJ [pt r.g,strv k] X3=_:=e5
  rw [h.ks] at r5
  have hfew : (ofL k s.K s.mem).length≤6:=by
   have h1:=Zj3 (m:=k) (K:=s.K) (mem:=s.mem)
   have h2:=h.gr.few
   have h3 : s.K.length=r.G.length:=by rw [← h.ks];simp
   omega
  have hone:=r5.one
  have zb : bld (.agg #[.string ⟨#[]⟩,.string ⟨#[]⟩,.string ⟨#[]⟩,.bool false,.slice none 0 0]) [(0,1,strv k),(1,1,strv p.1),(2,1,strv ((Zg k s.OF).getD [])),(3,1,.bool p.2),(4,1,gv)] X4=some (.agg (Zh.cells ⟨k,p.1,(Zg k s.OF).getD [],p.2,gv,ofL k s.K s.mem⟩).toArray,X4):=by
   obtain ⟨ga,gn,gc,hgv⟩ : ∃ a n c,gv=.slice a n c:=by
    rcases r5 with ⟨_,_,h⟩ | ⟨_,_,_,h,_,_⟩
    ·exact ⟨_,_,_,h⟩
    ·exact ⟨_,_,_,h⟩
   rw [hgv]
   simp [bld,K5,Value.cells,Yz,strv,splice,Zh.cells]
  have c14:=k5 _ _ c13
  have w4:=ZfD (vs:=Zh.cells ⟨k,p.1,(Zg k s.OF).getD [],p.2,gv,ofL k s.K s.mem⟩) (n:=5) c14 rfl rfl (by simp only [Zh.cells,List.all_cons,hone.1];rfl)
  have d4 : ldA 5 (pt X.length) (X4.set X.length (.cells (Zh.cells ⟨k,p.1,(Zg k s.OF).getD [],p.2,gv,ofL k s.K s.mem⟩) 1 false false))=some (.agg (Zh.cells ⟨k,p.1,(Zg k s.OF).getD [],p.2,gv,ofL k s.K s.mem⟩).toArray,_):=Zat (n:=5) (Qu c14) rfl
  refine ⟨⟨k,p.1,(Zg k s.OF).getD [],p.2,gv,ofL k s.K s.mem⟩,q,X4.set X.length (.cells (Zh.cells ⟨k,p.1,(Zg k s.OF).getD [],p.2,gv,ofL k s.K s.mem⟩) 1 false false),f1 _ _ ?_,r5.keep fun j hj=>List.getElem?_set_ne (fun e=>?_),fun j hj=>Nat.le_trans k13.len (o5 j hj),put (k13.trans k5),hfew,?_⟩
  ·unfold Ki
   rw [Za z1,Za e2,Za Zu,Za Zv,z2,Za q1,Zd,if_neg (by simp),Za Zt,Za Zz,Za h3.l1,Za e4,Za Zu,Za Zv,Za Zz,Za (a0 _ (.refl _)),Za Zz,Za (a1 _ (.refl _)),Za Zt,Za Zz,Za h3.l2,Za e5,Za (a1 _ k5),Q2,Za (a0 _ k5),Q2,Za zb,Za w4,Za d4,he]
   rfl
  ·have:=o5 j hj
   have:=Je c13
   omega
  ·rw [if_pos he,hq0]
   rfl
 ·have q1 : bop .int .neq (iv (Wi k s.A)) (.int .i64 0) X3=some (.bool true,X3):=by rw [Zr];simp [he]
  have zb : bld (.agg #[.string ⟨#[]⟩,.string ⟨#[]⟩,.string ⟨#[]⟩,.bool false,.slice none 0 0]) [] X3=some (.agg (usr ([],[])).toArray,X3):=rfl
  have w3:=ZfD (vs:=usr ([],[])) (n:=5) c13 rfl rfl rfl
  have d3 : ldA 5 (pt X.length) (X3.set X.length (.cells (usr ([],[])) 1 false false))=some (.agg (usr ([],[])).toArray,_):=Zat (n:=5) (Qu c13) rfl
  refine ⟨⟨[],[],[],false,.slice none 0 0,[]⟩,[],X3.set X.length (.cells (usr ([],[])) 1 false false),f1 _ _ ?_,Zn.nil,by simp,put k13,Nat.zero_le _,by rw [if_neg he];rfl⟩
  unfold Ki
  rw [Za z1,Za e2,Za Zu,Za Zv,z2,Za q1,Zd,if_pos rfl,Za zb,Za w3,Za d3]
  rfl
theorem Zs4 (h : ND X d r s c) : R (n+1) Wr [pt d] X=some (iv s.A.length,X):=by
 rw [R,Zi6 rfl]
 unfold Zch
 rw [Za Zt,Za Zz,Za h.l0,Za h.m.len]
 rfl
theorem ZpK (h : ND X d r s c) : ∃ v q X',R (n+4) Kc [pt d] X=some (v,X')∧Zn X' v ((Z0 s.K).map strv) q∧HLe X X'∧∀ j∈q,X.length≤j:=by
 obtain ⟨v,q,X',e,r1,l,o⟩:=ZqA (n:=n) h.gr
 have e : R (n+3) J2 [pt r.g] X=_:=e
 rw [h.ks] at r1
 refine ⟨v,q,X',?_,r1,l,o⟩
 rw [R,Zgm rfl]
 unfold ZaC
 rw [Za Zt,Za Zz,Za h.l2,Za e]
 rfl
abbrev Wn (s : NSt) : List Tx:=s.A.map (·.1)
theorem Zrg (h : ND X d r s c) : ∃ v q X',R (n+2) Kt [pt d] X=some (v,X')∧Zn X' v ((Z0 (Wn s)).map strv) q∧HLe X X'∧∀ j∈q,X.length≤j:=by
 have e1 : run Tryz.prog np lvs (n+1) ZR [.map (some r.b)] X=some (.func (.func Ql) #[] #[pt X.length],X++[.cells [.map (some r.b)] 1 false false]):=by
  rw [YT rfl]
  unfold Qo
  rw [Za (Zl6 rfl rfl _)]
  rfl
 have l1 : HLe X (X++[.cells [.map (some r.b)] 1 false false]):=.app _ _
 obtain ⟨v,q,H2,e2,r2,l2,o2⟩:=(h.m.hle l1).keys (gks:=ZgA) (gc:=QC) (gk:=Ql) (c:=X.length) (by decide) ZM (Nat.le_trans h.inv.few (by decide)) (fun p hp=>Nat.le_trans (WM (h.inv.nm p hp).1) (by decide))
 have e2' : run Tryz.prog np lvs (n+1) QT [.func (.func Ql) #[] #[pt X.length],.func (.func QC) #[] #[]] (X++[.cells [.map (some r.b)] 1 false false])=some (v,H2):=by
  rw [ZeU (show np QT=some (Za6 ZgA QC) from rfl)]
  exact e2
 refine ⟨v,q,H2,?_,r2,l1.trans l2,fun j hj=>Nat.le_trans l1.len (o2 j hj)⟩
 rw [R,Zg0 rfl]
 unfold Zbf
 rw [Za Zt,Za Zz,Za h.l0,Za e1,Za e2']
 rfl
theorem Zn.own_of {v : Value} {vs : List Value} {q : List Nat} (h : Zn X v vs q) {i : Nat} (hi : A.own1 v=some i) : i∈q:=by
 rcases h with ⟨_,rfl,rfl⟩ | ⟨sid,rest,g,rfl,rfl,_⟩
 ·cases hi
 ·cases hi;simp
structure WS (X0 X : Zb) (sl : Value) (us : List Zh) (q : List Nat) : Prop where
 r : JG 5 X sl (us.map Zh.cells) q
 o : ∀ j∈q,X0.length≤j
 u : ∀ w∈us,∃ qu,Zn X w.gv (w.gs.map strv) qu∧(∀ j∈qu,X0.length≤j∧j∉q)∧w.gs.length≤100000
 un : ∀ a∈us,∀ b∈us,∀ i,own1 a.gv=some i→own1 b.gv=some i→a=b
theorem WS.us {X0 X : Zb} {sl : Value} {us : List Zh} {q : List Nat} (h : WS X0 X sl us q) : J7 X sl us:=⟨h.r.rd,fun w hw=>by
 obtain ⟨qu,h1,_,h2⟩:=h.u w hw
 exact ⟨h1.rd,h1.one.1,by omega⟩⟩
theorem WS.hle {X0 X Y : Zb} {sl : Value} {us : List Zh} {q : List Nat} (h : WS X0 X sl us q) (hl : HLe X Y) : WS X0 Y sl us q:=
 ⟨h.r.step hl.step (by simp),h.o,fun w hw=>by
  obtain ⟨qu,h1,h2,h3⟩:=h.u w hw
  exact ⟨qu,h1.step hl.step (by simp),h2,h3⟩,h.un⟩
theorem WS.push0 {X0 : Zb} {sl : Value} {us : List Zh} {q qu : List Nat} {w : Zh} (h : WS X0 X sl us q) (hl : us.length≤1000) (hr : Zn X w.gv (w.gs.map strv) qu) (hq : ∀ j∈qu,X0.length≤j∧j∉q) (h6 : w.gs.length≤100000) (hfr : ∀ a∈us,∀ i,own1 a.gv=some i→i∉qu) (hX : X0.length≤X.length) :
  ∃ x X1 sl' X2 q',bsl 5 1 (.agg #[.string ⟨#[]⟩,.string ⟨#[]⟩,.string ⟨#[]⟩,.bool false,.slice none 0 0]) [(0,5,.agg w.cells.toArray)] X=some (x,X1)∧app 5 80 sl x X1=some (sl',X2)∧WS X0 X2 sl' (us++[w]) q'∧Zq q X q' X2:=by
 have hone : w.cells.all oneCell=true:=by simp only [Zh.cells,List.all_cons,hr.one.1];rfl
 have x4:=ZrJ (es:=5) (z:=.agg #[.string ⟨#[]⟩,.string ⟨#[]⟩,.string ⟨#[]⟩,.bool false,.slice none 0 0]) (H:=X) rfl (show w.cells.length=5 from rfl) hone
 have l1 : HLe X (X++[Zi.cells w.cells 5 false false]):=.app _ _
 have s1 : SlN 5 (X++[Zi.cells w.cells 5 false false]) (.slice (some ⟨X.length,0,none⟩) 1 1) [w.cells]:=SlN.whole (rows:=[w.cells]) (c:=1) (e:=5) (g:=false) (ro:=false) (by rw [ZM];simp) (by simp)
 generalize X++[Zi.cells w.cells 5 false false]=X1 at x4 l1 s1
 have h1:=h.hle l1
 obtain ⟨sl',X2,q',x5,hn2,s2⟩:=h1.r.push (b:=80) s1 rfl (by simp;omega) (by simp;omega)
 have hX1:=l1.len
 have hm2 : ∀ j∈q',X0.length≤j:=fun j hj=>by
  rcases s2.own j hj with h2 | h2
  ·exact h.o j h2
  ·omega
 rw [← List.map_singleton (f:=Zh.cells),← List.map_append] at hn2
 have hnew : ∀ (v : Zh) (qv : List Nat),Zn X1 v.gv (v.gs.map strv) qv→(∀ j∈qv,X0.length≤j∧j∉q)→Zn X2 v.gv (v.gs.map strv) qv∧∀ j∈qv,X0.length≤j∧j∉q':=fun v qv hv hj=>⟨hv.step s2 (fun j hm=>(hj j hm).2),fun j hm=>⟨(hj j hm).1,fun hq=>by
  rcases s2.own j hq with h2 | h2
  ·exact (hj j hm).2 h2
  ·have:=hv.lt j hm;omega⟩⟩
 refine ⟨_,X1,sl',X2,q',x4,x5,⟨hn2,hm2,fun v hv=>?_,fun a ha b hb i hai hbi=>?_⟩,l1.stepq.trans s2⟩
 ·rcases List.mem_append.1 hv with hv | hv
  ·obtain ⟨qv,a1,a2,a3⟩:=h1.u v hv
   obtain ⟨b1,b2⟩:=hnew v qv a1 a2
   exact ⟨qv,b1,b2,a3⟩
  ·have hv : v=w:=by simpa using hv
   subst hv
   obtain ⟨b1,b2⟩:=hnew v qu (hr.step l1.step (by simp)) hq
   exact ⟨qu,b1,b2,h6⟩
 ·rcases List.mem_append.1 ha with ha | ha <;> rcases List.mem_append.1 hb with hb | hb
  ·exact h.un a ha b hb i hai hbi
  ·have hb : b=w:=by simpa using hb
   rw [hb] at hbi
   exact absurd (hr.own_of hbi) (hfr a ha i hai)
  ·have ha : a=w:=by simpa using ha
   rw [ha] at hai
   exact absurd (hr.own_of hai) (hfr b hb i hbi)
  ·have ha : a=w:=by simpa using ha
   have hb : b=w:=by simpa using hb
   rw [ha,hb]
theorem WS.push {X0 : Zb} {sl : Value} {us : List Zh} {q qu : List Nat} {w : Zh} (h : WS X0 X sl us q) (hl : us.length≤1000) (hr : Zn X w.gv (w.gs.map strv) qu) (hq : ∀ j∈qu,X0.length≤j∧j∉q) (h6 : w.gs.length≤100000) (hfr : ∀ a∈us,∀ i,own1 a.gv=some i→i∉qu) (hle : HLe X0 X) :
  ∃ x X1 sl' X2 q',bsl 5 1 (.agg #[.string ⟨#[]⟩,.string ⟨#[]⟩,.string ⟨#[]⟩,.bool false,.slice none 0 0]) [(0,5,.agg w.cells.toArray)] X=some (x,X1)∧app 5 80 sl x X1=some (sl',X2)∧WS X0 X2 sl' (us++[w]) q'∧HLe X0 X2:=by
 obtain ⟨x,X1,sl',X2,q',a,b,c,e⟩:=h.push0 hl hr hq h6 hfr hle.len
 exact ⟨x,X1,sl',X2,q',a,b,c,(hle.more e h.o).1⟩
theorem Zow {v : Value} {q0 : List Nat} {ks : List Tx} {X0 : Zb} (h : ND X0 d r s c) (hr : Zn X0 v (ks.map strv) q0) (hk : ks.length≤100) (hK : ∀ k∈ks,Wi k s.A=0) : ∀ (t j : Nat) (sl : Value) (q : List Nat) (us : List Zh) (X : Zb),ks.length - j=t→j≤ks.length→us.length≤j→HLe X0 X→WS X0 X sl us q→
  ∃ X' sl' q' us',Zf (c5 (JZ.l1 (R (n+7)))) [pt d,sl,v,iv ks.length,iv j] X=some (.ext 0 [sl'],X')∧WS X0 X' sl' (us++us') q'∧us'.map QS=(ks.drop j).map (fun k=>KU s k ((Zg k s.A).getD ([],false)))∧HLe X0 X'
 | 0,j,sl,q,us,X,ht,hj,hu,hl,ho=>by
  have : j=ks.length:=by omega
  subst this
  rw [List.drop_length]
  refine ⟨X,sl,q,[],Qb ?_,by rw [List.append_nil];exact ho,rfl,hl⟩
  rw [JP]
  unfold JZ.l1
  rw [Za Zm,Zd,if_neg (by simp)]
  rfl
 | t+1,j,sl,q,us,X,ht,hj,hu,hl,ho=>by
  have hjl : j < ks.length:=by omega
  have hlt : (j : Int) < ks.length:=by omega
  have hg:=List.getElem?_eq_getElem hjl
  have hd:=List.drop_eq_getElem_cons hjl
  generalize ks[j]=k at hg hd
  have hrx:=hr.step hl.step (by simp)
  have x1:=hrx.ix (i:=j) (by simpa using hjl) .i64 X
  have x2:=hrx.ldx (YE hg)
  have he:=hK k (List.mem_of_getElem? hg)
  obtain ⟨w,qw,X1,e1,r1,o1,l1,h6,hkey⟩:=ZpX (n:=n) (k:=k) (h.hle hl)
  rw [if_pos he] at hkey
  rw [he] at e1
  have ho1:=ho.hle l1
  have hone : w.cells.all oneCell=true:=by simp only [Zh.cells,List.all_cons,r1.one.1];rfl
  have z2 : ∀ K : Value→M Out,bind (alc 1 (.agg #[.string ⟨#[]⟩,.string ⟨#[]⟩,.string ⟨#[]⟩,.bool false,.slice none 0 0])) (fun p=>bind (stA 5 p (.agg w.cells.toArray)) fun _=>K p) X1=K (pt X1.length) (X1++[.cells w.cells 1 false false]):=fun K=>Zdp (n:=5) (zs:=[.string ⟨#[]⟩,.string ⟨#[]⟩,.string ⟨#[]⟩,.bool false,.slice none 0 0]) (r:=w.cells) rfl rfl rfl hone
  have k2 : HLe X1 (X1++[Zi.cells w.cells 1 false false]):=.app _ _
  have c2 : (X1++[Zi.cells w.cells 1 false false])[X1.length]?=some (.cells w.cells 1 false false):=ZM
  generalize X1++[Zi.cells w.cells 1 false false]=X2 at z2 k2 c2
  have d2 : ldA 5 (pt X1.length) X2=some (.agg w.cells.toArray,X2):=Zat (n:=5) c2 rfl
  have hq : ∀ i∈qw,X0.length≤i∧i∉q:=fun i hi=>by
   have h1:=o1 i hi
   have h2:=hl.len
   exact ⟨by omega,fun hm=>by have:=ho.r.lt i hm;omega⟩
  obtain ⟨y,X3,sl',X4,q',a1,a2,ho4,l4⟩:=(ho1.hle k2).push (by omega) (r1.step k2.step (by simp)) hq (by omega) (fun a ha i hi hm=>by obtain ⟨qa,b1,_,_⟩:=ho.u a ha;have h1:=b1.lt i (b1.own_of hi);have h2:=o1 i hm;omega) ((hl.trans l1).trans k2)
  obtain ⟨X5,sl5,q5,us5,e5,o5,u5,l5⟩:=Zow h hr hk hK t (j+1) sl' q' (us++[w]) X4 (by omega) (by omega) (by rw [List.length_append,List.length_singleton];omega) l4 ho4
  refine ⟨X5,sl5,q5,w :: us5,(ZO ?_).trans e5,by rw [List.append_assoc] at o5;exact o5,?_,l5⟩
  ·rw [JP]
   unfold JZ.l1
   rw [Za Zm,Zd,if_pos (by simpa using hlt),Za x1,Za x2,Za e1,Za Zu,Za Zv,z2,Za d2,Za a1,Za a2,Za ZD,J5 (by omega)]
   rfl
  ·rw [hd,List.map_cons,List.map_cons,u5,hkey]
def allK (s : NSt) : List KJ:=(Z0 (Wn s)).map fun k=>KU s k ((Zg k s.A).getD ([],false))
theorem ZqL (h : ∀ p∈s.A,Zw p.1=true) {k : Tx} (hk : k∈Wn s) : Wi k s.A=0:=by
 obtain ⟨p,hp,rfl⟩:=List.mem_map.1 hk
 unfold Wi
 rw [h p hp,Zeq,decide_eq_true (List.mem_map.2 ⟨p,hp,rfl⟩)]
 rfl
theorem Ztk (h : ND X d r s c) : ∃ v q us X',R (n+8) Wu [pt d] X=some (v,X')∧WS X X' v us q∧us.map QS=allK s∧HLe X X':=by
 obtain ⟨v,q,X1,e1,r1,l1,o1⟩:=Zrg (n:=n+5) h
 have e1 : R (n+7) Kt [pt d] X=_:=e1
 have hfew : (Z0 (Wn s)).length≤12:=by
  rw [WK]
  have:=h.inv.few
  simpa using this
 obtain ⟨X2,sl,q2,us,e2,o2,u2,l2⟩:=Zow (n:=n) (h.hle l1) r1 (by omega) (fun k hk=>ZqL (fun p hp=>(h.inv.nm p hp).1) (Wg.1 hk)) (Z0 (Wn s)).length 0 (.slice none 0 0) [] [] X1 (by omega) (by omega) (Nat.le_refl _) (.refl _) ⟨JG.nil,by simp,by simp,by simp⟩
 have e2 : Zf (c5 (JZ.l1 (R (n+7)))) [pt d,.slice none 0 0,v,iv (Z0 (Wn s)).length,.int .i64 0] X1=_:=e2
 rw [List.nil_append] at o2
 rw [List.drop_zero] at u2
 have hlen : Zk v X1=some (iv (Z0 (Wn s)).length,X1):=by have:=r1.rd.len (H':=X1);simpa using this
 have hx:=l1.len
 refine ⟨sl,q2,us,X2,?_,⟨o2.r,fun j hj=>Nat.le_trans hx (o2.o j hj),fun w hw=>?_,o2.un⟩,u2,l1.trans l2⟩
 ·rw [R,ZjN rfl]
  unfold JZ
  rw [Za e1,Za hlen,Q0 e2,ZG]
  rfl
 ·obtain ⟨qu,a1,a2,a3⟩:=o2.u w hw
  exact ⟨qu,a1,fun j hj=>⟨Nat.le_trans hx (a2 j hj).1,(a2 j hj).2⟩,a3⟩
end
end Go.Proofs.YtedkoimihknggaaGreatDoor.A
namespace Go.Proofs.YtedkoimihknggaaGreatDoor.A
set_option linter.unusedVariables false
set_option linter.unusedSimpArgs false
open Go.Proofs Go.Proofs.YtedkoimihknggaaGreatDoor
def Zkg (k h : Tx) (A : AMp) : Int:=if Zw k then (if Za2 h then (if (Zg k A).isSome then 9 else if 12≤A.length then 7 else 0) else 4) else 10
def Zoe (k h : Tx) (s : NSt) : NSt:=if Zkg k h s.A=0 then { s with A:=QK k (h,false) s.A } else s
def Zos (k : Tx) (s : NSt) : NSt:=if Wi k s.A=0 then { s with A:=K4 k s.A,OW:=W1 k s.OW s.OF,OF:=KA k s.OF,mem:=Ztg k s.mem } else s
def ZtF (g : Tx) (s : NSt) : NSt:={ s with K:=Zd9 g s.K }
def ZtN (g : Tx) (s : NSt) : NSt:={ s with K:=ZtS g s.K,mem:=if Zkc g s.K=0 then Zko g s.mem else s.mem }
def ZoB (g k : Tx) (A : AMp) : Int:=if Zw g then Wi k A else 10
def Zsu (g k : Tx) (s : NSt) : Int:=if ZoB g k s.A=0 then ZrF g k s.K s.mem else ZoB g k s.A
def Zp2 (g k : Tx) (s : NSt) : NSt:=if Zsu g k s=0 then { s with mem:=Zs2 g k s.mem } else s
theorem Zb5 {α : Type} {k j : Tx} {v : α} {m : List (Tx × α)} (h : (Zg j m).isSome=true∨j=k) : (Zg j (QK k v m)).isSome=true:=by
 by_cases e : j=k
 ·rw [e,Wf];rfl
 ·rw [Ka e];exact h.resolve_right e
theorem Ys.putA {s : NSt} (h : Ys s) {k : Tx} {v : Acc} (hk : Zw k=true) (hv : Za2 v.1=true) (hl : (Zg k s.A).isSome=true∨s.A.length < 12) : Ys { s with A:=QK k v s.A } where
 nm p hp:=by
  rcases ZmP hp with rfl | hp
  ·exact ⟨hk,hv⟩
  ·exact h.nm p hp
 few:=by
  show (QK k v s.A).length≤12
  rw [ZeB]
  have:=h.few
  split
  ·exact this
  ·rename_i hn
   rcases hl with h1 | h1
   ·exact absurd h1 hn
   ·omega
 ofA n hn:=Zb5 (.inl (h.ofA n hn))
 memA g n hn:=Zb5 (.inl (h.memA g n hn))
 good:=h.good
theorem Zqj {k h : Tx} {A : AMp} (he : Zkg k h A=0) : Zw k=true∧Za2 h=true∧Zg k A=none∧A.length < 12:=by
 unfold Zkg at he
 cases h1 : Zw k <;> cases h2 : Za2 h <;> rw [h1,h2] at he <;> try simp at he
 by_cases h3 : (Zg k A).isSome=true
 ·rw [if_pos h3] at he;simp at he
 ·rw [if_neg h3] at he
  by_cases h4 : 12≤A.length
  ·rw [if_pos h4] at he;simp at he
  ·exact ⟨rfl,rfl,by simpa using h3,by omega⟩
theorem Ys.create {s : NSt} (h : Ys s) (k x : Tx) : Ys (Zoe k x s):=by
 unfold Zoe
 split
 ·rename_i he
  obtain ⟨h1,h2,h3,h4⟩:=Zqj he
  exact h.putA h1 h2 (.inr h4)
 ·exact h
theorem Ys.delete {s : NSt} (h : Ys s) (k : Tx) : Ys (Zos k s):=by
 unfold Zos
 split
 ·exact {
   nm:=fun p hp=>h.nm p (List.mem_filter.1 hp).1
   few:=Nat.le_trans (List.length_filter_le _ _) h.few
   ofA:=fun n hn=>by
    have hne : n≠k:=fun e=>by rw [e,ZcH] at hn;cases hn
    show (Zg n (K4 k s.A)).isSome=true
    rw [Kf hne]
    rw [ZeM hne] at hn
    exact h.ofA n hn
   memA:=fun g n hn=>by
    have hn : (s.mem g n && !(n==k))=true:=hn
    simp only [Bool.and_eq_true,Bool.not_eq_true',beq_eq_false_iff_ne] at hn
    show (Zg n (K4 k s.A)).isSome=true
    rw [Kf hn.2]
    exact h.memA g n hn.1
   good:=fun n m hn=>by
    have hne : n≠k:=fun e=>by
     have hn : Zg n (KA k s.OF)=some m:=hn
     rw [e,ZcH] at hn;cases hn
    have hn : Zg n (KA k s.OF)=some m:=hn
    rw [ZeM hne] at hn
    exact h.good n m hn }
 ·exact h
theorem ZgV {k m : Tx} {OW OF : YF} (he : K9 k m OW=0) (n : Tx) : Zg n (Zev k m OW OF)=if n=k then (if m=[] then none else some (QA m)) else Zg n OF:=by
 unfold Zev
 rw [if_pos he]
 by_cases hm : m=[]
 ·rw [if_pos hm,if_pos hm]
  by_cases hn : n=k
  ·rw [if_pos hn,hn,ZcH]
  ·rw [if_neg hn,ZeM hn]
 ·rw [if_neg hm,if_neg hm]
  by_cases hn : n=k
  ·rw [if_pos hn,hn,Wf]
  ·rw [if_neg hn,Ka hn,ZeM hn]
theorem Ys.memN {s : NSt} (h : Ys s) {t : Tx} (ht : Zg t s.A=none) (g : Tx) : s.mem g t=false:=by
 cases ho : s.mem g t with
 | false=>rfl
 | true=>
  have:=h.memA g t ho
  rw [ht] at this;cases this
theorem Ys.make {s : NSt} (h : Ys s) (g : Tx) : Ys (ZtF g s):=⟨h.nm,h.few,h.ofA,h.memA,h.good⟩
theorem Ys.drop {s : NSt} (h : Ys s) (g : Tx) : Ys (ZtN g s):=by
 refine ⟨h.nm,h.few,h.ofA,fun k n hn=>?_,h.good⟩
 have hn : (if Zkc g s.K=0 then Zko g s.mem else s.mem) k n=true:=hn
 split at hn
 ·unfold Zko at hn
  simp only [Bool.and_eq_true] at hn
  exact h.memA k n hn.1
 ·exact h.memA k n hn
theorem Ys.leave {s : NSt} (h : Ys s) (g k : Tx) : Ys (Zp2 g k s):=by
 unfold Zp2
 split
 ·refine ⟨h.nm,h.few,h.ofA,fun j n hn=>?_,h.good⟩
  have hn : (s.mem j n && !(j==g && n==k))=true:=hn
  simp only [Bool.and_eq_true] at hn
  exact h.memA j n hn.1
 ·exact h
end Go.Proofs.YtedkoimihknggaaGreatDoor.A
namespace Go.Proofs.YtedkoimihknggaaGreatDoor.A
set_option linter.unusedVariables false
set_option linter.unusedSimpArgs false
open Go.Proofs Go.Proofs.YtedkoimihknggaaGreatDoor
section
variable {X X' : Zb} {n d c c' : Nat} {r : NR} {s : NSt} {k h m t o g : Tx}
theorem NR.mem_b (r : NR) : r.b∈r.own:=by simp [NR.own]
theorem NR.mem_o (r : NR) : r.o∈r.own:=by simp [NR.own]
theorem NR.mem_a (r : NR) : r.a∈r.own:=by simp [NR.own]
theorem NR.mem_g (r : NR) : ∀ j∈Jy r.o2 r.G,j∈r.own:=fun j hj=>by
 unfold NR.own
 exact List.mem_cons_of_mem _ (List.mem_cons_of_mem _ (List.mem_cons_of_mem _ hj))
theorem ND0.more (hd : ND0 X d r s c) (hc : c≤c') : ND0 X d r s c':=⟨hd.cell,hd.m,hd.ix,hd.gr.more hc (fun _ _=>rfl),hd.ks,hd.dis⟩
theorem ND0.setA (hd : ND0 X d r s c) {A' : AMp} (m' : Q9 Zad X' r.b A') (hs : Zq [r.b] X [r.b] X') : ND0 X' d r { s with A:=A' } c∧Zq r.own X r.own X':=by
 obtain ⟨h1,h2,h3,_,_⟩:=hd.dis
 have nb : ∀ {j},j∉r.own→j∉[r.b]:=fun hj e=>hj (by rw [List.mem_singleton.1 e];exact r.mem_b)
 refine ⟨⟨hs.get hd.cell (nb hd.dnot),m',hd.ix.step hs (nb hd.xnot) (by simpa using Ne.symm h1) (by simpa using Ne.symm h2),hd.gr.step hs (nb hd.gnot) (fun j hj e=>h3 ?_),hd.ks,hd.dis⟩,hs.mono2 (by simpa using r.mem_b)⟩
 rw [← List.mem_singleton.1 e];exact hj
theorem ND0.setI (hd : ND0 X d r s c) {OW' OF' : YF} (i' : Idx X' r.x r.o r.a OW' OF') (hs : Zq [r.o,r.a] X [r.o,r.a] X') : ND0 X' d r { s with OW:=OW',OF:=OF' } c∧Zq r.own X r.own X':=by
 obtain ⟨h1,h2,h3,h4,h5⟩:=hd.dis
 have no : ∀ j∈[r.o,r.a],j∈r.own:=fun j hj=>by
  simp only [List.mem_cons,List.not_mem_nil,or_false] at hj
  rcases hj with rfl | rfl
  ·exact r.mem_o
  ·exact r.mem_a
 refine ⟨⟨hs.get hd.cell (fun e=>hd.dnot (no _ e)),hd.m.step hs (by simp [h1,h2]),i',hd.gr.step hs (fun e=>hd.gnot (no _ e)) (fun j hj e=>?_),hd.ks,hd.dis⟩,hs.mono2 no⟩
 simp only [List.mem_cons,List.not_mem_nil,or_false] at e
 rcases e with rfl | rfl
 ·exact h4 hj
 ·exact h5 hj
theorem ND0.setG (hd : ND0 X d r s c) {G' : ZeK} {mem' : Mem} {K' : List Tx} (g' : Grp X' r.g r.o2 G' mem' c') (hs : Zq (Jy r.o2 r.G) X (Jy r.o2 G') X') (hk : Qz G'=K') : ND0 X' d { r with G:=G' } { s with K:=K',mem:=mem' } c'∧Zq r.own X (NR.own { r with G:=G' }) X':=by
 obtain ⟨h1,h2,h3,h4,h5⟩:=hd.dis
 have hb:=hd.isMap r.mem_b
 have ho:=hd.isMap r.mem_o
 have ha:=hd.isMap r.mem_a
 have new : ∀ j,j < X.length→j∉Jy r.o2 r.G→j∉Jy r.o2 G':=fun j hj hn hm=>by
  rcases hs.own j hm with e | e
  ·exact hn e
  ·omega
 refine ⟨⟨hs.get hd.cell (fun e=>hd.dnot (r.mem_g _ e)),hd.m.step hs h3,hd.ix.step hs (fun e=>hd.xnot (r.mem_g _ e)) h4 h5,g',hk,⟨h1,h2,new _ hb.1 h3,new _ ho.1 h4,new _ ha.1 h5⟩⟩,hs.more r.mem_g (fun j hj=>?_)⟩
 unfold NR.own at hj ⊢
 rcases List.mem_cons.1 hj with rfl | hj
 ·exact .inl (by simp)
 ·rcases List.mem_cons.1 hj with rfl | hj
  ·exact .inl (by simp)
  ·rcases List.mem_cons.1 hj with rfl | hj
   ·exact .inl (by simp)
   ·exact .inr (.inl hj)
theorem ND0.box (hd : ND0 X d r s c) {p : Nat} {X2 : Zb} {ob : Zi} (hle : HLe X X2) (hp : X.length≤p) : ND0 (X2.set p ob) d r s c:=by
 have hs : Zq [] X [] (X2.set p ob):=⟨by rw [List.length_set];exact hle.len,fun j hj hn=>by
  rw [List.getElem?_set_ne (by omega)]
  exact hle.step.keep j hj (by simp),fun j hj=>by cases hj⟩
 exact hd.step hs (by simp) (by simp) (by simp) (by simp)
end
end Go.Proofs.YtedkoimihknggaaGreatDoor.A

namespace Go.Proofs.YtedkoimihknggaaGreatDoor.A
set_option linter.unusedVariables false
set_option linter.unusedSimpArgs false
open Go.Proofs Go.Proofs.YtedkoimihknggaaGreatDoor
section
variable {X X' H0 : Zb} {n : Nat} {v : Value} {l : List Tx} {x s : Tx}
theorem ZtE {sl : Value} {rows : List Tx} {q : List Nat} {u : Tx} (hr : Zn X sl (rows.map strv) q) (hl : rows.length≤100000) (hq : ∀ j∈q,H0.length≤j) (h0 : HLe H0 X) :
  ∃ w X1 sl' X2 q',bsl 1 1 (.string ⟨#[]⟩) [(0,1,strv u)] X=some (w,X1)∧app 1 16 sl w X1=some (sl',X2)∧Zn X2 sl' ((rows++[u]).map strv) q'∧HLe H0 X2∧(∀ j∈q',H0.length≤j)∧Zq q X q' X2:=by
 have l1 : HLe X (X++[.cells [strv u] 1 false false]):=.app _ _
 have s1:=(Zjl (x:=u) (H:=X)).rd
 have e1:=Zo1 (x:=u) (H:=X)
 generalize X++[Zi.cells [strv u] 1 false false]=X1 at l1 s1 e1
 have hr1:=hr.step l1.step (by simp)
 obtain ⟨sl',X2,q',x5,hn2,s2,_⟩:=hr1.push (b:=16) s1 (by simp;omega) (by simp;omega)
 have hm:=(h0.trans l1).more s2 hq
 exact ⟨_,X1,sl',X2,q',e1,x5,by rw [List.map_append];exact hn2,hm.1,hm.2,(l1.step.more (by simp) (fun j hj=>.inl hj)).trans s2⟩
end
end Go.Proofs.YtedkoimihknggaaGreatDoor.A
namespace Go.Proofs.YtedkoimihknggaaGreatDoor.A
set_option linter.unusedVariables false
set_option linter.unusedSimpArgs false
open Go.Proofs Go.Proofs.YtedkoimihknggaaGreatDoor
abbrev Pr:=Tx × Tx
def prG (u : Pr) : List Value:=[strv u.1,strv u.2]
structure RG (X : Zb) (nv mv : Value) (N : List Tx) (M : List Pr) : Prop where
 n : ∃ q,Zn X nv (N.map strv) q
 m : ∃ q,JG 2 X mv (M.map prG) q
section
variable {X X' H0 : Zb} {n : Nat} {v nv mv z1 z2 z3 z4 : Value} {N l : List Tx} {M : List Pr} {x s t k m : Tx}
theorem RG.hle (h : RG X nv mv N M) (hl : HLe X X') : RG X' nv mv N M:=⟨h.n.elim fun q h=>⟨q,h.step hl.step (by simp)⟩,h.m.elim fun q h=>⟨q,h.step hl.step (by simp)⟩⟩
theorem RG.sn (h : RG X nv mv N M) : Sl X nv (N.map strv):=h.n.elim fun q h=>h.rd
theorem RG.sm (h : RG X nv mv N M) : SlN 2 X mv (M.map prG):=h.m.elim fun q h=>h.rd
theorem RG.one (h : RG X nv mv N M) : ([nv,mv].all oneCell)=true∧nv.cells=#[nv]∧mv.cells=#[mv]:=by
 obtain ⟨q,hn⟩:=h.n
 obtain ⟨q',hm⟩:=h.m
 exact ⟨by simp [hn.one.1,hm.one.1],hn.one.2,hm.one.2⟩
theorem RG.lenM (h : RG X nv mv N M) (Y : Zb) : Zk mv Y=some (iv M.length,Y):=by have:=h.sm.len (H':=Y);simpa using this
theorem RG.box (h : RG X nv mv N M) (Y : Zb) : alc 1 (.agg #[nv,mv]) Y=some (pt Y.length,Y++[.cells [nv,mv] 1 false false]):=ZgN (vs:=[nv,mv]) h.one.1
theorem fin {b1 b2 : Nat} {a1 a2 c1 c2 : Value} (h1 : X[b1]?=some (.cells [a1,a2] 1 false false)) (h2 : X[b2]?=some (.cells [c1,c2] 1 false false)) (hn : b1≠b2) (ho : ([a1,a2].all oneCell)=true) {β : Type} (K : Value→A.M β) :
  bind (ldA 2 (pt b1)) (fun v=>bind (stA 2 (pt b2) v) fun _=>bind (ldA 2 (pt b2)) K) X=K (.agg #[a1,a2]) (X.set b2 (.cells [a1,a2] 1 false false)):=by
 have e1 : ldA 2 (pt b1) X=some (.agg #[a1,a2],X):=Zat h1 rfl
 have e2 : stA 2 (pt b2) (.agg #[a1,a2]) X=some (undef,X.set b2 (.cells [a1,a2] 1 false false)):=ZfD (vs:=[a1,a2]) h2 rfl rfl ho
 have e3 : ldA 2 (pt b2) (X.set b2 (.cells [a1,a2] 1 false false))=some (.agg #[a1,a2],X.set b2 (.cells [a1,a2] 1 false false)):=Zat (Qu h2) rfl
 rw [Za e1,Za e2,Za e3]
theorem Zn.setB {vs : List Value} {q : List Nat} {b : Nat} {o : Zi} (h : Zn X v vs q) (hb : b∉q) : Zn (X.set b o) v vs q:=h.keep fun j hj=>List.getElem?_set_ne fun e=>hb (by rw [e];exact hj)
theorem JG.setB {es : Nat} {vs : List (List Value)} {q : List Nat} {b : Nat} {o : Zi} (h : JG es X v vs q) (hb : b∉q) : JG es (X.set b o) v vs q:=h.keep fun j hj=>List.getElem?_set_ne fun e=>hb (by rw [e];exact hj)
end
end Go.Proofs.YtedkoimihknggaaGreatDoor.A
namespace Go.Proofs.YtedkoimihknggaaGreatDoor.A
set_option linter.unusedVariables false
set_option linter.unusedSimpArgs false
open Go.Proofs Go.Proofs.YtedkoimihknggaaGreatDoor
section
variable {X X' H0 : Zb} {n : Nat} {v nv mv z1 z2 z3 z4 : Value} {N l K : List Tx} {M : List Pr} {mem : Mem} {x s t k m : Tx}
end
end Go.Proofs.YtedkoimihknggaaGreatDoor.A
namespace Go.Proofs.YtedkoimihknggaaGreatDoor.A
set_option linter.unusedVariables false
set_option linter.unusedSimpArgs false
open Go.Proofs Go.Proofs.YtedkoimihknggaaGreatDoor
section
variable {X X' H0 : Zb} {n : Nat} {v nv mv z1 z2 z3 z4 : Value} {N l K : List Tx} {M : List Pr} {mem : Mem} {x s t k m : Tx}
end
end Go.Proofs.YtedkoimihknggaaGreatDoor.A

namespace Go.Proofs.YtedkoimihknggaaGreatDoor.A
set_option linter.unusedVariables false
set_option linter.unusedSimpArgs false
open Go.Proofs Go.Proofs.YtedkoimihknggaaGreatDoor
def Zbh (l : List Zh) : Prop:=l.Pairwise fun a b=>a.nm < b.nm
section
variable {x : Zh} {k s : List UInt8}
def W4 (u : Zh) : List Zh→Bool→List Zh
 | [],_=>[]
 | v :: l,done=>(if !done && decide (u.nm≤v.nm) then [u] else [])++((if v.nm≠u.nm then [v] else [])++W4 u l (done || decide (u.nm≤v.nm)))
def Wk (u : Zh) : List Zh→Bool→Bool
 | [],done=>done
 | v :: l,done=>Wk u l (done || decide (u.nm≤v.nm))
def ZdP (u : Zh) (l : List Zh) : List Zh:=W4 u l false++if Wk u l false then [] else [u]
theorem Zgn {u : Zh} : ∀ {l : List Zh},W4 u l true=l.filter fun v=>decide (v.nm≠u.nm)
 | []=>rfl
 | v :: l=>by
  unfold W4
  rw [Bool.true_or,Zgn,List.filter_cons]
  by_cases h : v.nm=u.nm <;> simp [h]
theorem Ze5 {u : Zh} : ∀ {l : List Zh},Wk u l true=true
 | []=>rfl
 | v :: l=>by unfold Wk;rw [Bool.true_or,Ze5]
theorem Zgl {u v : Zh} {l : List Zh} : ZdP u (v :: l)=if u.nm≤v.nm then u :: (v :: l).filter (fun v=>decide (v.nm≠u.nm)) else v :: ZdP u l:=by
 have e1 : W4 u (v :: l) false=(if !false && decide (u.nm≤v.nm) then [u] else [])++((if v.nm≠u.nm then [v] else [])++W4 u l (false || decide (u.nm≤v.nm))):=rfl
 have e2 : Wk u (v :: l) false=Wk u l (false || decide (u.nm≤v.nm)):=rfl
 unfold ZdP
 rw [e1,e2]
 by_cases h : u.nm≤v.nm
 ·rw [if_pos h]
  simp only [h,decide_true,Bool.or_true,Zgn,Ze5,Bool.not_false,Bool.and_self,if_true,List.filter_cons]
  by_cases h2 : v.nm=u.nm <;> simp [h2]
 ·rw [if_neg h]
  have h2 : v.nm≠u.nm:=fun e=>h (by rw [e];exact List.le_refl _)
  simp [h,h2]
theorem Zdb {u : Zh} : ∀ {l : List Zh},x∈ZdP u l↔x=u∨(x∈l∧x.nm≠u.nm)
 | []=>by simp [ZdP,W4,Wk]
 | v :: l=>by
  rw [Zgl]
  by_cases h : u.nm≤v.nm
  ·rw [if_pos h,List.mem_cons,List.mem_filter];simp
  ·have h2 : v.nm≠u.nm:=fun e=>h (by rw [e];exact List.le_refl _)
   rw [if_neg h,List.mem_cons,Zdb,List.mem_cons]
   constructor
   ·rintro (rfl | h | h)
    ·exact .inr ⟨.inl rfl,h2⟩
    ·exact .inl h
    ·exact .inr ⟨.inr h.1,h.2⟩
   ·rintro (h | ⟨h | h,h3⟩)
    ·exact .inr (.inl h)
    ·exact .inl h
    ·exact .inr (.inr ⟨h,h3⟩)
theorem Zlb {u : Zh} : ∀ {l : List Zh},Zbh l→Zbh (ZdP u l)
 | [],_=>by simp [ZdP,W4,Wk,Zbh]
 | v :: l,hr=>by
  have hr2 : (∀ a∈l,v.nm < a.nm)∧Zbh l:=by simpa [Zbh] using hr
  rw [Zgl]
  by_cases h : u.nm≤v.nm
  ·rw [if_pos h]
   refine List.pairwise_cons.2 ⟨fun a ha=>?_,List.Pairwise.filter _ hr⟩
   obtain ⟨h1,h2⟩:=List.mem_filter.1 ha
   have h2 : a.nm≠u.nm:=by simpa using h2
   have h3 : u.nm≤a.nm:=by
    rcases List.mem_cons.1 h1 with rfl | h1
    ·exact h
    ·exact List.le_trans h (List.le_of_lt (hr2.1 a h1))
   rcases Zjg u.nm a.nm with h4 | h4 | h4
   ·exact h4
   ·exact absurd h4.symm h2
   ·exact absurd h4 h3
  ·rw [if_neg h]
   refine List.pairwise_cons.2 ⟨fun a ha=>?_,Zlb hr2.2⟩
   rcases Zdb.1 ha with rfl | ⟨h1,_⟩
   ·rcases Zjg v.nm a.nm with h4 | h4 | h4
    ·exact h4
    ·exact absurd (by rw [h4];exact List.le_refl _) h
    ·exact absurd (List.le_of_lt h4) h
   ·exact hr2.1 a h1
end
section
variable {H0 H X : Zb} {n d b : Nat} {ws : List Zh} {k s : List UInt8} {wv : Value}
theorem ZpQ {u : Zh} (h : oneCell u.gv=true) : u.cells.all oneCell=true:=by simp only [Zh.cells,List.all_cons,h];rfl
theorem Zki {β : Type} {k : Value→M β} {sl : Value} {us : List Zh} (h : SlN 5 H sl (us.map Zh.cells)) {j : Nat} {u : Zh} (ho : oneCell u.gv=true) (hj : us[j]?=some u) :
  bind (ixa 5 sl (iv j)) (fun p=>bind (ldA 5 p) fun v=>bind (alc 1 (.agg #[.string ⟨#[]⟩,.string ⟨#[]⟩,.string ⟨#[]⟩,.bool false,.slice none 0 0])) fun q=>bind (stA 5 q v) fun _=>k q) H=k (pt H.length) (H++[.cells u.cells 1 false false]):=by
 have hr : (us.map Zh.cells)[j]?=some u.cells:=by rw [List.getElem?_map,hj];rfl
 rw [h.fetch hr (by omega) .i64]
 exact Zdp (n:=5) (zs:=[.string ⟨#[]⟩,.string ⟨#[]⟩,.string ⟨#[]⟩,.bool false,.slice none 0 0]) (r:=u.cells) rfl rfl rfl (ZpQ ho)
end
end Go.Proofs.YtedkoimihknggaaGreatDoor.A
namespace Go.Proofs.YtedkoimihknggaaGreatDoor.A
set_option linter.unusedVariables false
set_option linter.unusedSimpArgs false
open Go.Proofs Go.Proofs.YtedkoimihknggaaGreatDoor
structure ZsV (s : NSt) : Prop where
 nod : s.K.Nodup
 out : ∀ k n,s.mem k n=true→k∈s.K
 few : s.K.length≤6
structure ROK (s : NSt) (us : List Zh) : Prop where
 rise : Zbh us
 look : ∀ key : KJ,key∈us.map QS↔Jn s key.1=some key
section
variable {X : Zb} {d c : Nat} {r : NR} {s s' : NSt} {us ws : List Zh} {u : Zh} {k h m n o t g : Tx} {key : KJ}
theorem ND0.kn (hd : ND0 X d r s c) : ZsV s:=⟨by rw [← hd.ks];exact hd.gr.mo.nod,fun k n hk=>by
 have:=hd.gr.out k n hk
 rw [Zeq,decide_eq_true_eq] at this
 rw [← hd.ks];exact this,by rw [← hd.ks,List.length_map];exact hd.gr.few⟩
theorem KH : key∈us.map QS↔∃ u∈us,QS u=key:=List.mem_map
theorem ROK.put (h : ROK s us) (h1 : Jn s' u.nm=some (QS u)) (h2 : ∀ n,n≠u.nm→Jn s' n=Jn s n) : ROK s' (ZdP u us):=by
 refine ⟨Zlb h.rise,fun key=>?_⟩
 rw [KH]
 constructor
 ·rintro ⟨v,hv,rfl⟩
  rcases Zdb.1 hv with rfl | ⟨hv,hne⟩
  ·exact h1
  ·have:=(h.look (QS v)).1 (KH.2 ⟨v,hv,rfl⟩)
   rw [show (QS v).1=v.nm from rfl] at this ⊢
   rw [h2 _ hne];exact this
 ·intro hk
  by_cases e : key.1=u.nm
  ·rw [e,h1] at hk
   exact ⟨u,Zdb.2 (.inl rfl),Option.some.inj hk⟩
  ·rw [h2 _ e] at hk
   obtain ⟨v,hv,rfl⟩:=KH.1 ((h.look key).2 hk)
   exact ⟨v,Zdb.2 (.inr ⟨hv,e⟩),rfl⟩
theorem ROK.drop (h : ROK s us) (h1 : Jn s' k=none) (h2 : ∀ n,n≠k→Jn s' n=Jn s n) : ROK s' (us.filter fun v=>decide (v.nm≠k)):=by
 refine ⟨List.Pairwise.filter _ h.rise,fun key=>?_⟩
 rw [KH]
 constructor
 ·rintro ⟨v,hv,rfl⟩
  obtain ⟨hv,hne⟩:=List.mem_filter.1 hv
  have hne : v.nm≠k:=by simpa using hne
  have:=(h.look (QS v)).1 (KH.2 ⟨v,hv,rfl⟩)
  rw [show (QS v).1=v.nm from rfl] at this ⊢
  rw [h2 _ hne];exact this
 ·intro hk
  have e : key.1≠k:=fun e=>by rw [e,h1] at hk;cases hk
  rw [h2 _ e] at hk
  obtain ⟨v,hv,rfl⟩:=KH.1 ((h.look key).2 hk)
  exact ⟨v,List.mem_filter.2 ⟨hv,decide_eq_true e⟩,rfl⟩
theorem ROK.same (h : ROK s us) (h2 : ∀ n,Jn s' n=Jn s n) : ROK s' us:=⟨h.rise,fun key=>by rw [h2];exact h.look key⟩
theorem ROK.at (h : ROK s us) (hu : u∈us) : Jn s u.nm=some (QS u):=(h.look (QS u)).1 (KH.2 ⟨u,hu,rfl⟩)
theorem Zbh.nodup (h : Zbh us) : (us.map (·.nm)).Nodup:=by
 unfold Zbh at h
 rw [List.nodup_iff_pairwise_ne,List.pairwise_map]
 refine h.imp ?_
 intro a b hab e
 rw [e] at hab
 exact Zf5 hab
theorem ROK.len (h : ROK s us) (hn : (Wn s).Nodup) : us.length=s.A.length:=by
 have hp : (us.map (·.nm)).Perm (Wn s):=(List.perm_ext_iff_of_nodup h.rise.nodup hn).2 fun x=>by
  rw [List.mem_map,List.mem_map]
  constructor
  ·rintro ⟨v,hv,rfl⟩
   have:=h.at hv
   unfold Jn at this
   cases ha : Zg v.nm s.A with
   | none=>rw [ha] at this;cases this
   | some p=>exact ⟨_,WZ ha,rfl⟩
  ·rintro ⟨p,hp,rfl⟩
   have ha : Zg p.1 s.A=some p.2:=Zap hn hp
   obtain ⟨v,hv,he⟩:=KH.1 ((h.look (KU s p.1 p.2)).2 (by
    show Jn s p.1=_
    unfold Jn;rw [ha];rfl))
   exact ⟨v,hv,congrArg (·.1) he⟩
 have:=hp.length_eq
 simpa using this
theorem Zrs : ∀ {l l' : List KJ},l.Pairwise (fun a b=>a.1 < b.1)→l'.Pairwise (fun a b=>a.1 < b.1)→(∀ x,x∈l↔x∈l')→l=l':=by
 intro l l' h h' hm
 have nd : ∀ {l : List KJ},l.Pairwise (fun a b=>a.1 < b.1)→l.Nodup:=fun h=>by
  rw [List.nodup_iff_pairwise_ne]
  refine List.Pairwise.imp ?_ h
  rintro a b hab rfl
  exact List.lt_irrefl _ hab
 have hp : l.Perm l':=(List.perm_ext_iff_of_nodup (nd h) (nd h')).2 hm
 exact List.Perm.eq_of_pairwise (le:=fun a b=>a.1 < b.1) (fun a b _ _ h1 h2=>absurd h2 (List.lt_asymm h1)) h h' hp
theorem Zlo (hn : (Wn s).Nodup) : (allK s).Pairwise fun a b=>a.1 < b.1:=by
 unfold allK
 rw [List.pairwise_map]
 exact Zdu hn
theorem Zmf (hn : (Wn s).Nodup) : key∈allK s↔Jn s key.1=some key:=by
 unfold allK
 rw [List.mem_map]
 constructor
 ·rintro ⟨k,hk,rfl⟩
  obtain ⟨p,hp,rfl⟩:=List.mem_map.1 (Wg.1 hk)
  have ha : Zg p.1 s.A=some p.2:=Zap hn hp
  show Jn s p.1=_
  unfold Jn
  rw [ha];rfl
 ·intro hk
  unfold Jn at hk
  cases ha : Zg key.1 s.A with
  | none=>rw [ha] at hk;cases hk
  | some p=>
   rw [ha] at hk
   refine ⟨key.1,Wg.2 (List.mem_map.2 ⟨_,WZ ha,rfl⟩),?_⟩
   rw [ha]
   exact Option.some.inj hk
theorem ROK.all (h : ROK s us) (hn : (Wn s).Nodup) : us.map QS=allK s:=by
 refine Zrs ?_ (Zlo hn) fun key=>(h.look key).trans (Zmf hn).symm
 rw [List.pairwise_map]
 exact h.rise
end
end Go.Proofs.YtedkoimihknggaaGreatDoor.A
namespace Go.Proofs.YtedkoimihknggaaGreatDoor.A
set_option linter.unusedVariables false
set_option linter.unusedSimpArgs false
open Go.Proofs Go.Proofs.YtedkoimihknggaaGreatDoor
def UOK (X : Zb) (u : Zh) : Prop:=Sl X u.gv (u.gs.map strv)∧oneCell u.gv=true∧u.gs.length≤1000000
structure RD (X : Zb) (uv gv : Value) (s : NSt) : Prop where
 ex : ∃ us,J7 X uv us∧ROK s us
 n : ∃ q N,Zn X gv (N.map strv) q∧Is N (·∈s.K)
structure Zix (s : NSt) : Prop where
 i : Ys s
 k : ZsV s
 n : (Wn s).Nodup
 x : Inv s.OW s.OF
theorem ND.pinv {X : Zb} {d c : Nat} {r : NR} {s : NSt} (h : ND X d r s c) : Zix s:=⟨h.inv,h.toND0.kn,h.m.nod,h.ix.inv⟩
section
variable {X X' Y H0 : Zb} {n : Nat} {uv gv v : Value} {us : List Zh} {s : NSt} {k h m o t g : Tx} {u w : Zh} {β : Type}
theorem UOK.hle (h : UOK X u) (hl : HLe X X') : UOK X' u:=⟨h.1.mono hl,h.2⟩
theorem J7.ok (h : J7 X uv us) (hu : u∈us) : UOK X u:=h.2 u hu
theorem J7.one (h : J7 X uv us) : oneCell uv=true:=h.1.one.1
theorem Zn.hle {vs : List Value} {q : List Nat} (h : Zn X v vs q) (hl : HLe X X') : Zn X' v vs q:=h.step hl.step (by simp)
theorem RD.hle (h : RD X uv gv s) (hl : HLe X X') : RD X' uv gv s:=⟨h.ex.imp fun us ⟨a,b⟩=>⟨a.mono hl,b⟩,h.n.imp fun q ⟨N,a,b⟩=>⟨N,a.hle hl,b⟩⟩
theorem HLe.putB (h : HLe H0 X) {b : Nat} {o : Zi} (hb : H0.length≤b) : HLe H0 (X.set b o):=fun i v hi=>by
 have:=Je hi
 rw [List.getElem?_set_ne (by omega)]
 exact h i v hi
end
end Go.Proofs.YtedkoimihknggaaGreatDoor.A
namespace Go.Proofs.YtedkoimihknggaaGreatDoor.A
set_option linter.unusedVariables false
set_option linter.unusedSimpArgs false
open Go.Proofs Go.Proofs.YtedkoimihknggaaGreatDoor
section
variable {X X' Y H0 : Zb} {n : Nat} {uv gv v : Value} {us : List Zh} {s : NSt} {k h m o t g : Tx} {u w : Zh} {β : Type}
def Zde (v : Value) : Prop:=∃ a n c,v=.slice a n c
theorem Zde.one (h : Zde v) : oneCell v=true:=by
 obtain ⟨a,n,c,rfl⟩:=h;rfl
theorem Zky {x : Tx} (h : Zde (strv x)) : False:=by
 obtain ⟨a,n,c,h⟩:=h
 cases h
theorem Sl.setD {l : List Tx} {b : Nat} {c1 c2 d1 d2 : Value} (h : Sl Y v (l.map strv)) (hb : Y[b]?=some (.cells [c1,c2] 1 false false)) (i1 : Zde c1) (i2 : Zde c2) : Sl (Y.set b (.cells [d1,d2] 1 false false)) v (l.map strv):=by
 by_cases ho : own1 v=some b
 ·obtain ⟨a,c,rfl,h0,hf⟩:=h
  unfold own1 at ho
  split at ho
  ·rename_i id o n x e
   cases e
   cases ho
   have hl : l=[]:=by
    unfold ZT at hf
    simp only [hb] at hf
    split at hf
    ·have hf:=Option.some.inj hf
     cases l with
     | nil=>rfl
     | cons y l=>
      have hm : strv y∈([c1,c2].drop o).take ((List.map strv (y :: l)).length * 1):=by rw [hf];simp
      have hm:=List.mem_of_mem_drop (List.mem_of_mem_take hm)
      simp only [List.mem_cons,List.not_mem_nil,or_false] at hm
      rcases hm with hm | hm
      ·rw [← hm] at i1;exact (Zky i1).elim
      ·rw [← hm] at i2;exact (Zky i2).elim
    ·cases hf
   subst hl
   refine ⟨_,c,rfl,(fun e=>by cases e),?_⟩
   unfold ZT at hf ⊢
   simp only [hb,Qu hb] at hf ⊢
   split at hf
   ·rename_i hle
    rw [if_pos (by simpa using hle)]
    simp
   ·cases hf
  ·cases ho
 ·exact h.keep fun id hid=>List.getElem?_set_ne (fun e=>ho (by rw [hid,e]))
theorem SlN.setD {rows : List (List Value)} {b : Nat} {c1 c2 d1 d2 : Value} (h : SlN 5 Y v rows) (hb : Y[b]?=some (.cells [c1,c2] 1 false false)) : SlN 5 (Y.set b (.cells [d1,d2] 1 false false)) v rows:=by
 by_cases ho : own1 v=some b
 ·obtain ⟨a,c,rfl,h0,hf,hr⟩:=h
  unfold own1 at ho
  split at ho
  ·rename_i id o n x e
   cases e
   cases ho
   unfold ZT at hf
   simp only [hb] at hf
   split at hf
   ·rename_i hle
    have hl : rows.length=0:=by
     simp only [List.length_cons,List.length_nil] at hle
     omega
    have hl : rows=[]:=List.eq_nil_of_length_eq_zero hl
    subst hl
    refine ⟨_,c,rfl,(fun e=>by cases e),?_,hr⟩
    unfold ZT
    simp only [Qu hb]
    rw [if_pos (by simpa using hle)]
    simp
   ·cases hf
  ·cases ho
 ·exact h.keep fun id hid=>List.getElem?_set_ne (fun e=>ho (by rw [hid,e]))
theorem J7.setD {b : Nat} {c1 c2 d1 d2 : Value} (h : J7 Y v us) (hb : Y[b]?=some (.cells [c1,c2] 1 false false)) (i1 : Zde c1) (i2 : Zde c2) : J7 (Y.set b (.cells [d1,d2] 1 false false)) v us:=
 ⟨h.1.setD hb,fun u hu=>⟨(h.2 u hu).1.setD hb i1 i2,(h.2 u hu).2⟩⟩
theorem Zn.setD {l : List Tx} {q : List Nat} {b : Nat} {c1 c2 d1 d2 : Value} (h : Zn Y v (l.map strv) q) (hb : Y[b]?=some (.cells [c1,c2] 1 false false)) (i1 : Zde c1) (i2 : Zde c2) : Zn (Y.set b (.cells [d1,d2] 1 false false)) v (l.map strv) q:=by
 rcases h with ⟨h1,rfl,rfl⟩ | ⟨sid,rest,gr,rfl,rfl,hid⟩
 ·exact .inl ⟨h1,rfl,rfl⟩
 ·by_cases e : b=sid
  ·subst e
   rw [hb] at hid
   injection hid with hid
   injection hid with hc h2 h3 h4
   cases l with
   | nil=>
    have hc : [c1,c2]=rest:=by simpa using hc
    subst hc
    exact .inr ⟨b,[d1,d2],gr,rfl,rfl,by rw [Qu hb,h3];rfl⟩
   | cons y l=>
    rw [List.map_cons,List.cons_append] at hc
    injection hc with hc _
    rw [hc] at i1
    exact (Zky i1).elim
  ·exact .inr ⟨sid,rest,gr,rfl,rfl,(List.getElem?_set_ne e).trans hid⟩
theorem RD.back (hR : RD X uv gv s) {s' : NSt} (hl : HLe X X') (he : s'=s) : RD X' uv gv s':=by rw [he];exact hR.hle hl
theorem RD.users (hR : RD X uv gv s) {s' : NSt} {uv' : Value} {us' : List Zh} (hl : HLe X X') (hU : J7 X' uv' us') (hO : ROK s' us') (hK : s'.K=s.K) : RD X' uv' gv s':=⟨⟨us',hU,hO⟩,by rw [hK];exact (hR.hle hl).n⟩
end
end Go.Proofs.YtedkoimihknggaaGreatDoor.A
namespace Go.Proofs.YtedkoimihknggaaGreatDoor.A
set_option linter.unusedVariables false
set_option linter.unusedSimpArgs false
open Go.Proofs Go.Proofs.YtedkoimihknggaaGreatDoor
section
variable {X X' Y H0 : Zb} {n : Nat} {uv gv v : Value} {us : List Zh} {s : NSt} {k h m o t g x : Tx} {u w : Zh} {β : Type} {l : List Tx}
end
end Go.Proofs.YtedkoimihknggaaGreatDoor.A
namespace Go.Proofs.YtedkoimihknggaaGreatDoor.A
set_option linter.unusedVariables false
set_option linter.unusedSimpArgs false
open Go.Proofs Go.Proofs.YtedkoimihknggaaGreatDoor
section
variable {X X' Y H0 : Zb} {n : Nat} {uv gv v : Value} {us : List Zh} {s s' : NSt} {k h m o t g x : Tx} {u w : Zh} {β : Type} {l : List Tx}
theorem ROK.gs (hO : ROK s us) (hP : Zix s) (hu : u∈us) : u.gs=ofL u.nm s.K s.mem∧u.gs.length≤6:=by
 have hat:=hO.at hu
 unfold Jn at hat
 cases ha : Zg u.nm s.A with
 | none=>rw [ha] at hat;cases hat
 | some p=>
  rw [ha] at hat
  have h1 : u.gs=ofL u.nm s.K s.mem:=congrArg (·.2.2.2.2) (Option.some.inj hat).symm
  refine ⟨h1,?_⟩
  rw [h1]
  exact Nat.le_trans Zj3 hP.k.few
end
end Go.Proofs.YtedkoimihknggaaGreatDoor.A
namespace Go.Proofs.YtedkoimihknggaaGreatDoor.A
set_option linter.unusedVariables false
set_option linter.unusedSimpArgs false
open Go.Proofs Go.Proofs.YtedkoimihknggaaGreatDoor
section
variable {X X' Y H0 : Zb} {n : Nat} {uv gv v : Value} {us : List Zh} {s s' : NSt} {k h m o t g x : Tx} {u w : Zh} {β : Type} {l : List Tx}
end
end Go.Proofs.YtedkoimihknggaaGreatDoor.A

namespace Go.Proofs.YtedkoimihknggaaGreatDoor.A
set_option linter.unusedVariables false
set_option linter.unusedSimpArgs false
open Go.Proofs Go.Proofs.YtedkoimihknggaaGreatDoor
def Zaa (m : Tx) : Bool:=m==[] || (Wj m && QA m==m)
def Yb : List Tx→Bool
 | a :: b :: l=>decide (a < b) && Yb (b :: l)
 | _=>true
def Zcl (gs : List Tx) : Int:=if 6 < gs.length then 7 else if gs.all Zw then (if Yb gs then 0 else 9) else 10
def QO (u : Zh) : Int:=if Zw u.nm then (if Za2 u.hs then (if Zaa u.ml then Zcl u.gs else 11) else 4) else 10
section
variable {X X' H H0 : Zb} {n p : Nat} {v sl : Value} {l gs : List Tx} {m : Tx} {u : Zh}
theorem ZdF {a b : Tx} : Yb (a :: b :: l)=(decide (a < b) && Yb (b :: l)):=rfl
theorem ZiS (hl : l.length≤1000000) (hs : Sl X v (l.map strv)) : ∀ (t j : Nat),l.length - j=t→j≤l.length→
  Zf (c4 (Qr.l1 (R (n+5)))) [v,v,iv l.length,iv j] X=some (if (l.drop j).all Zw then .ext 0 [v] else .ret (iv 10),X)
 | 0,j,ht,hj=>by
  rw [List.drop_eq_nil_of_le (by omega)]
  refine Qb ?_
  rw [ZW,show j=l.length by omega]
  unfold Qr.l1
  rw [Za Zm,Zd,if_neg (by simp)]
  rfl
 | t+1,j,ht,hj=>by
  have hkl : j < l.length:=by omega
  have hlt : (j : Int) < l.length:=by omega
  have hg:=List.getElem?_eq_getElem hkl
  have hd:=List.drop_eq_getElem_cons hkl
  generalize l[j]=y at hg hd
  have x1:=hs.ix (i:=j) (by simpa using hkl) .i64 X
  have x2:=hs.ldx (YE hg)
  have e1 : R (n+5) QM [strv y] X=some (iv (ZL y),X):=ZcN
  rw [hd,List.all_cons]
  cases hn : Zw y
  ·have he : ZL y=10:=by unfold ZL;rw [hn];rfl
   rw [he] at e1
   refine JF ?_
   rw [ZW]
   unfold Qr.l1
   rw [Za Zm,Zd,if_pos (by simpa using hlt),Za x1,Za x2,Za e1,Za Zr,Zd,if_pos (by simp)]
   rfl
  ·have he : ZL y=0:=Zdy.2 hn
   rw [he] at e1
   rw [Bool.true_and]
   refine (ZO ?_).trans (ZiS hl hs t (j+1) (by omega) (by omega))
   rw [ZW]
   unfold Qr.l1
   rw [Za Zm,Zd,if_pos (by simpa using hlt),Za x1,Za x2,Za e1,Za Zr,Zd,if_neg (by simp),Za ZD,J5 (by omega)]
   rfl
theorem Zla (hl : l.length≤1000000) (hs : Sl X v (l.map strv)) : ∀ (t j : Nat),l.length - j=t→1≤j→(j≤l.length∨j=1)→
  Zf (c2 (Qr.l2 (R n))) [v,iv j] X=some (if Yb (l.drop (j - 1)) then .ext 2 [] else .ret (iv 9),X)
 | 0,j,ht,hj,hj2=>by
  have hr : Yb (l.drop (j - 1))=true:=by
   have h1 : (l.drop (j - 1)).length≤1:=by rw [List.length_drop];omega
   match l.drop (j - 1),h1 with
   | [],_=>rfl
   | [a],_=>rfl
  have hlen : Zk v X=some (iv l.length,X):=by have:=hs.len (H':=X);simpa using this
  rw [hr]
  refine Qb ?_
  rw [QU]
  unfold Qr.l2
  rw [Za hlen,Za Zm,Zd,if_neg (by simp;omega)]
  rfl
 | t+1,j,ht,hj,hj2=>by
  have hkl : j < l.length:=by omega
  have hlt : (j : Int) < l.length:=by omega
  have hlen : Zk v X=some (iv l.length,X):=by have:=hs.len (H':=X);simpa using this
  have hk0 : j - 1 < l.length:=by omega
  have hg:=List.getElem?_eq_getElem hkl
  have hg0:=List.getElem?_eq_getElem hk0
  have hd:=List.drop_eq_getElem_cons hkl
  have hd0:=List.drop_eq_getElem_cons hk0
  rw [show j - 1+1=j by omega,hd] at hd0
  generalize l[j]=y at hg hd hd0
  generalize l[j - 1]=y0 at hg0 hd0
  have x1:=hs.ix (i:=j) (by simpa using hkl) .i64 X
  have x2:=hs.ldx (YE hg)
  have x3:=hs.ix (i:=j - 1) (by simpa using hk0) .i64 X
  have x4:=hs.ldx (YE hg0)
  have w0 : IntKind.i64.wrap ((j : Int) - 1)=((j - 1 : Nat) : Int):=by rw [w64 (by omega) (by omega)];omega
  have q1 : bop .str .geq (strv y0) (strv y) X=some (.bool (!decide (y0 < y)),X):=ZtA
  rw [hd0,ZdF]
  by_cases hy : y0 < y
  ·rw [decide_eq_true hy] at q1 ⊢
   rw [Bool.true_and,← hd]
   have ih:=Zla hl hs t (j+1) (by omega) (by omega) (by omega)
   rw [Nat.add_sub_cancel] at ih
   refine (ZO ?_).trans ih
   rw [QU]
   unfold Qr.l2
   rw [Za hlen,Za Zm,Zd,if_pos (by simpa using hlt),Za QR,w0,Za x3,Za x4,Za x1,Za x2,Za q1,Zd,if_neg (by simp),Za ZD,J5 (by omega)]
   rfl
  ·rw [decide_eq_false hy] at q1 ⊢
   refine JF ?_
   rw [QU]
   unfold Qr.l2
   rw [Za hlen,Za Zm,Zd,if_pos (by simpa using hlt),Za QR,w0,Za x3,Za x4,Za x1,Za x2,Za q1,Zd,if_pos (by simp)]
   rfl
theorem ZmO (hl : l.length≤1000000) (hs : Sl X v (l.map strv)) : R (n+6) WU [v] X=some (iv (Zcl l),X):=by
 have hlen : Zk v X=some (iv l.length,X):=by have:=hs.len (H':=X);simpa using this
 have e1:=ZiS (n:=n) hl hs l.length 0 (by omega) (by omega)
 have e2:=Zla (n:=n+5) hl hs (l.length - 1) 1 rfl (Nat.le_refl _) (.inr rfl)
 rw [show iv ((0 : Nat) : Int)=.int .i64 0 from rfl,List.drop_zero] at e1
 rw [show iv ((1 : Nat) : Int)=.int .i64 1 from rfl,Nat.sub_self,List.drop_zero] at e2
 rw [R,Zkl rfl]
 unfold Qr Zcl
 rw [Za hlen]
 by_cases h6 : 6 < l.length
 ·rw [Za QG,Zd,if_pos (by simp;omega),if_pos h6];rfl
 ·rw [Za QG,Zd,if_neg (by simp;omega),if_neg h6,Za hlen]
  cases ha : l.all Zw
  ·rw [ha] at e1
   rw [Ke e1];rfl
  ·rw [ha] at e1
   rw [Q0 e1,ZG,Yw]
   cases hr : Yb l
   ·rw [hr] at e2
    rw [Ke e2];rfl
   ·rw [hr] at e2
    rw [Q0 e2,ZG];rfl
theorem Zpr : ∃ X',R (n+9) Zbc [strv m] X=some (iv (if Zaa m then 0 else 11),X')∧HLe X X':=by
 have f1 : ∀ r X',Za1 (R (n+8)) (strv m) X=some (r,X')→R (n+9) Zbc [strv m] X=some (r,X'):=fun r X' hr=>by rw [R,Znf rfl];exact hr
 have q1 : bop .str .eql (strv m) (.string ⟨#[]⟩) X=some (.bool (m==[]),X):=Zee (b:=[])
 unfold Zaa
 by_cases hm : m=[]
 ·refine ⟨X,f1 _ _ ?_,.refl _⟩
  unfold Za1
  rw [Za q1,Zd,if_pos (by simpa using hm)]
  simp [hm,ret]
 ·have hmb : (m==[])=false:=by simpa using hm
  obtain ⟨X1,e1,k1⟩:=Zp7 (n:=n) (s:=m) (X:=X)
  refine ⟨X1,f1 _ _ ?_,k1⟩
  unfold Za1
  rw [hmb] at q1 ⊢
  rw [Za q1,Zd,if_neg (by simp),Za e1,Za Zu,Za Zv]
  cases hb : Wj m
  ·have q2 : bop .int .neq (iv 11) (.int .i64 0) X1=some (.bool true,X1):=by rw [Zr];rfl
   simp only [Bool.false_eq_true,if_false,Bool.false_and,Bool.or_false]
   rw [Za q2,Za (g_r.trans (if_neg (by simp)))]
   simp only [List.replicate]
   rw [Z3,Za ZC]
   simp only [cond_true]
   rw [Zd,if_pos rfl]
   rfl
  ·have q2 : bop .int .neq (iv 0) (.int .i64 0) X1=some (.bool false,X1):=by rw [Zr];rfl
   have q3 : bop .str .neq (strv (QA m)) (strv m) X1=some (.bool (!(QA m==m)),X1):=Zl4
   simp only [if_true,Bool.true_and,Bool.false_or]
   rw [Za q2,Yf,ZX,Za q3,YI,Z3,Za ZC]
   simp only [cond_false]
   cases hf : QA m==m
   ·rw [Zd,if_pos (by rfl)];rfl
   ·rw [Zd,if_neg (by simp)];rfl
theorem UOK.cells1 (h : UOK X u) : alc 1 (.agg u.cells.toArray) X=some (pt X.length,X++[.cells u.cells 1 false false]):=Zs5 h.2.1
theorem ZfC (h : UOK X u) : ∃ X',R (n+10) KM [iv 2,.agg u.cells.toArray] X=some (iv (QO u),X')∧HLe X X':=by
 have e1:=h.cells1
 have k1 : HLe X (X++[.cells u.cells 1 false false]):=.app _ _
 have c1 : (X++[Zi.cells u.cells 1 false false])[X.length]?=some (.cells u.cells 1 false false):=ZM
 generalize X++[Zi.cells u.cells 1 false false]=X1 at e1 k1 c1
 generalize X.length=p at e1 c1
 have a0 : ∀ Y,HLe X1 Y→∀ f x,u.cells[f]?=some x→ld1 (pa p f) Y=some (x,Y):=fun Y hl f x h=>Yg (hl _ _ c1) h
 have e2 : R (n+9) QM [strv u.nm] X1=some (iv (ZL u.nm),X1):=ZcN (n:=n+4)
 have e3 : R (n+9) Za5 [strv u.hs] X1=some (iv (KD u.hs),X1):=Zsx (n:=n+5)
 have b2:=ZrK (a:=ZL u.nm) (c:=KD u.hs) X1
 have k2 : HLe X1 (X1++[Zi.cells [iv (ZL u.nm),iv (KD u.hs)] 1 false false]):=.app _ _
 have s2 : Sl (X1++[Zi.cells [iv (ZL u.nm),iv (KD u.hs)] 1 false false]) (.slice (some ⟨X1.length,0,none⟩) 2 2) [iv (ZL u.nm),iv (KD u.hs)]:=Sl.one (vs:=[iv (ZL u.nm),iv (KD u.hs)]) (es:=1) (g:=false) (ro:=false) ZM
 generalize X1++[Zi.cells [iv (ZL u.nm),iv (KD u.hs)] 1 false false]=X2 at b2 k2 s2
 generalize X1.length=p2 at b2 s2
 have e4 : R (n+9) KL [.slice (some ⟨p2,0,none⟩) 2 2] X2=_:=ZoF (n:=n+8) s2
 have q1 : bop .int .neq (iv 2) (.int .i64 1) X1=some (.bool true,X1):=by rw [Zr];rfl
 have q2 : bop .int .neq (iv 2) (.int .i64 2) X1=some (.bool false,X1):=by rw [Zr];rfl
 have q3 : bop .int .eql (iv 2) (.int .i64 2) X2=some (.bool true,X2):=by rw [Qi];rfl
 have f1 : ∀ r X',Wv (R (n+9)) (iv 2) (.agg u.cells.toArray) X=some (r,X')→R (n+10) KM [iv 2,.agg u.cells.toArray] X=some (r,X'):=fun r X' hr=>by rw [R,ZlC rfl];exact hr
 have hpre : ∀ K : Value→M Value,bind (alc 1 (.agg u.cells.toArray)) (fun v3=>bind (bop .int .neq (iv 2) (.int .i64 1)) fun v7=>bind (Zx v7 true 2 (bind (bop .int .neq (iv 2) (.int .i64 2)) fun v10=>ret [iv 2,v10])) (c2 fun _ q=>bind (pick v7 q (.bool false)) fun v11=>cnd v11 (ret (.int .i64 6)) (K v3))) X=K (pt p) X1:=fun K=>by
  rw [Za e1,Za q1,Yf,ZX,Za q2,YI,QU,Za ZC]
  simp only [cond_true]
  rw [Zd,if_neg (by simp)]
 unfold QO
 cases hn : Zw u.nm
 ·have h0 : ZL u.nm=10:=by unfold ZL;rw [hn];rfl
  refine ⟨X2,f1 _ _ ?_,k1.trans k2⟩
  unfold Wv
  refine (hpre _).trans ?_
  rw [Za Zz,Za (a0 _ (.refl _) 0 _ rfl),Za Zz,Za (a0 _ (.refl _) 1 _ rfl),Za e2,Za (a0 _ (.refl _) 1 _ rfl),Q2,Za e3,Za b2,Za e4,h0,Za Zr,Zd,if_pos (by simp)]
  rfl
 ·have h0 : ZL u.nm=0:=Zdy.2 hn
  cases hs : Za2 u.hs
  ·have h1 : KD u.hs=4:=by unfold KD;rw [hs];rfl
   refine ⟨X2,f1 _ _ ?_,k1.trans k2⟩
   unfold Wv
   refine (hpre _).trans ?_
   rw [Za Zz,Za (a0 _ (.refl _) 0 _ rfl),Za Zz,Za (a0 _ (.refl _) 1 _ rfl),Za e2,Za (a0 _ (.refl _) 1 _ rfl),Q2,Za e3,Za b2,Za e4,h0,h1,Za Zr,Zd,if_pos (by simp)]
   rfl
  ·have h1 : KD u.hs=0:=Zrd.2 hs
   have k12:=k1.trans k2
   have s4:=(h.hle k12).1
   have hl6:=h.2.2
   obtain ⟨X3,e5,k3⟩:=Zpr (n:=n) (m:=u.ml) (X:=X2)
   have e6 : R (n+9) WU [u.gv] X3=_:=ZmO (n:=n+3) hl6 (s4.mono k3)
   have b7:=ZrK (a:=if Zaa u.ml then 0 else 11) (c:=Zcl u.gs) X3
   have k7 : HLe X3 (X3++[Zi.cells [iv (if Zaa u.ml then 0 else 11),iv (Zcl u.gs)] 1 false false]):=.app _ _
   have s7 : Sl (X3++[Zi.cells [iv (if Zaa u.ml then 0 else 11),iv (Zcl u.gs)] 1 false false]) (.slice (some ⟨X3.length,0,none⟩) 2 2) [iv (if Zaa u.ml then 0 else 11),iv (Zcl u.gs)]:=Sl.one (vs:=[iv (if Zaa u.ml then 0 else 11),iv (Zcl u.gs)]) (es:=1) (g:=false) (ro:=false) ZM
   generalize X3++[Zi.cells [iv (if Zaa u.ml then 0 else 11),iv (Zcl u.gs)] 1 false false]=X7 at b7 k7 s7
   generalize X3.length=p7 at b7 s7
   have e8 : R (n+9) KL [.slice (some ⟨p7,0,none⟩) 2 2] X7=_:=ZoF (n:=n+8) s7
   refine ⟨X7,f1 _ _ ?_,(k12.trans k3).trans k7⟩
   unfold Wv
   refine (hpre _).trans ?_
   rw [Za Zz,Za (a0 _ (.refl _) 0 _ rfl),Za Zz,Za (a0 _ (.refl _) 1 _ rfl),Za e2,Za (a0 _ (.refl _) 1 _ rfl),Q2,Za e3,Za b2,Za e4,h0,h1,Za Zr,Zd,if_neg (by simp),Za q3,Zd,if_pos rfl,Za Zz,Za (a0 _ k2 2 _ rfl),Za Zz,Za (a0 _ k2 4 _ rfl),Za e5,Za (a0 _ (k2.trans k3) 4 _ rfl),Q2,Za e6,Za b7,Za e8]
   cases hm : Zaa u.ml <;> simp [ret]
end
end Go.Proofs.YtedkoimihknggaaGreatDoor.A

namespace Go.Proofs.YtedkoimihknggaaGreatDoor.A
set_option linter.unusedVariables false
set_option linter.unusedSimpArgs false
open Go.Proofs Go.Proofs.YtedkoimihknggaaGreatDoor
def Jx : List Zh→Int
 | []=>0
 | u :: l=>if QO u=0 then Jx l else QO u
def Zis (us : List Zh) : Int:=if Jx us=0 then (if Yb (us.map (·.nm)) then (if 12 < us.length then 7 else 0) else 9) else Jx us
def W9 (us : List Zh) (gs : List Tx) : Int:=if Zis us=0 then (if gs.all Zw then (if Yb gs then (if 6 < gs.length then 7 else 0) else 9) else 10) else Zis us
def ZbT (gs : List Tx) (prev : List Zh) (u : Zh) : Int:=if u.gs.all (fun g=>decide (g∈gs)) then (if u.ml≠[]∧prev.any (fun v=>u.ml==v.ml)=true then 9 else 0) else 8
def Kl (gs : List Tx) : List Zh→List Zh→Int
 | _,[]=>0
 | prev,u :: l=>if ZbT gs prev u=0 then Kl gs (prev++[u]) l else ZbT gs prev u
def KC (us : List Zh) (gs : List Tx) : Int:=if W9 us gs=0 then Kl gs [] us else W9 us gs
section
variable {X X' H H0 : Zb} {n p d b : Nat} {v sl gv : Value} {l gs : List Tx} {m : Tx} {u : Zh} {us : List Zh}
theorem ZbD : ∀ {l : List Tx},Yb l=true→l.Pairwise (· < ·)
 | [],_=>List.Pairwise.nil
 | [a],_=>by simp
 | a :: b :: l,h=>by
  rw [ZdF,Bool.and_eq_true,decide_eq_true_eq] at h
  have ih:=ZbD h.2
  refine List.Pairwise.cons (fun x hx=>?_) ih
  rcases List.mem_cons.1 hx with rfl | hx
  ·exact h.1
  ·exact List.lt_trans h.1 ((List.pairwise_cons.1 ih).1 x hx)
theorem Zgu : ∀ {us : List Zh},Jx us=0→∀ u∈us,QO u=0
 | [],_,_,h=>by simp at h
 | w :: us,h,u,hu=>by
  unfold Jx at h
  by_cases hw : QO w=0
  ·rw [if_pos hw] at h
   rcases List.mem_cons.1 hu with rfl | hu
   ·exact hw
   ·exact Zgu h u hu
  ·rw [if_neg hw] at h;exact absurd h hw
theorem ZhO {k : Nat} (hl : l.length≤1000000) (hs : Sl X v (l.map strv)) : R (n+4) Yc [v,iv k] X=some (iv (if Yb l then (if k < l.length then 7 else 0) else 9),X):=by
 have hlen : Zk v X=some (iv l.length,X):=by have:=hs.len (H':=X);simpa using this
 have lp : ∀ (t j : Nat),l.length - j=t→1≤j→(j≤l.length∨j=1)→Zf (c3 (YA.l1 (R (n+3)))) [v,iv k,iv j] X=some (if Yb (l.drop (j - 1)) then .ext 0 [v,iv k] else .ret (iv 9),X):=by
  intro t
  induction t with
  | zero=>
   intro j ht hj hj2
   have hr : Yb (l.drop (j - 1))=true:=by
    have h1 : (l.drop (j - 1)).length≤1:=by rw [List.length_drop];omega
    match l.drop (j - 1),h1 with
    | [],_=>rfl
    | [a],_=>rfl
   rw [hr]
   refine Qb ?_
   rw [Z3]
   unfold YA.l1
   rw [Za hlen,Za Zm,Zd,if_neg (by simp;omega)]
   rfl
  | succ t ih=>
   intro j ht hj hj2
   have hkl : j < l.length:=by omega
   have hlt : (j : Int) < l.length:=by omega
   have hk0 : j - 1 < l.length:=by omega
   have hg:=List.getElem?_eq_getElem hkl
   have hg0:=List.getElem?_eq_getElem hk0
   have hd:=List.drop_eq_getElem_cons hkl
   have hd0:=List.drop_eq_getElem_cons hk0
   rw [show j - 1+1=j by omega,hd] at hd0
   generalize l[j]=y at hg hd hd0
   generalize l[j - 1]=y0 at hg0 hd0
   have x1:=hs.ix (i:=j) (by simpa using hkl) .i64 X
   have x2:=hs.ldx (YE hg)
   have x3:=hs.ix (i:=j - 1) (by simpa using hk0) .i64 X
   have x4:=hs.ldx (YE hg0)
   have w0 : IntKind.i64.wrap ((j : Int) - 1)=((j - 1 : Nat) : Int):=by rw [w64 (by omega) (by omega)];omega
   have e1 : R (n+3) QC [strv y0,strv y] X=some (iv (Zag y0 y),X):=ZqE (n:=n)
   have q1 : bop .int .geq (iv (Zag y0 y)) (.int .i64 0) X=some (.bool (!decide (y0 < y)),X):=by rw [QN,Zr9]
   rw [hd0,ZdF]
   by_cases hy : y0 < y
   ·rw [decide_eq_true hy] at q1 ⊢
    rw [Bool.true_and,← hd]
    have ih:=ih (j+1) (by omega) (by omega) (by omega)
    rw [Nat.add_sub_cancel] at ih
    refine (ZO ?_).trans ih
    rw [Z3]
    unfold YA.l1
    rw [Za hlen,Za Zm,Zd,if_pos (by simpa using hlt),Za QR,w0,Za x3,Za x4,Za x1,Za x2,Za e1,Za q1,Zd,if_neg (by simp),Za ZD,J5 (by omega)]
    rfl
   ·rw [decide_eq_false hy] at q1 ⊢
    refine JF ?_
    rw [Z3]
    unfold YA.l1
    rw [Za hlen,Za Zm,Zd,if_pos (by simpa using hlt),Za QR,w0,Za x3,Za x4,Za x1,Za x2,Za e1,Za q1,Zd,if_pos (by simp)]
    rfl
 have e1:=lp (l.length - 1) 1 rfl (Nat.le_refl _) (.inr rfl)
 rw [show iv ((1 : Nat) : Int)=.int .i64 1 from rfl,Nat.sub_self,List.drop_zero] at e1
 rw [R,ZlQ rfl]
 unfold YA
 cases hr : Yb l
 ·rw [hr] at e1
  rw [Ke e1];rfl
 ·rw [hr] at e1
  rw [Q0 e1,ZG,QU,Za hlen,Za QG,Zd]
  by_cases h : k < l.length
  ·rw [if_pos (by simp;omega),if_pos h];rfl
  ·rw [if_neg (by simp;omega),if_neg h];rfl
theorem Zmy (hn : us.length≤1000) (hA : J7 H0 sl us) : ∀ (t j : Nat) (nv : Value) (q : List Nat) (acc : List Tx) (X : Zb),us.length - j=t→j≤us.length→acc.length≤j→HLe H0 X→(∀ i∈q,H0.length≤i)→Zn X nv (acc.map strv) q→
  ∃ X' o,Zf (c5 (Z7.l1 (R (n+10)))) [gv,nv,sl,iv us.length,iv j] X=some (o,X')∧HLe H0 X'∧(if Jx (us.drop j)=0 then ∃ nv' q',o=.ext 0 [gv,nv']∧Zn X' nv' ((acc++(us.drop j).map (·.nm)).map strv) q' else o=.ret (iv (Jx (us.drop j))))
 | 0,j,nv,q,acc,X,ht,hj,ha,hle,hq,hr=>by
  rw [List.drop_eq_nil_of_le (by omega)]
  refine ⟨X,.ext 0 [gv,nv],Qb ?_,hle,?_⟩
  ·rw [JP,show j=us.length by omega]
   unfold Z7.l1
   rw [Za Zm,Zd,if_neg (by simp)]
   rfl
  ·rw [if_pos (show Jx []=0 from rfl)]
   exact ⟨nv,q,rfl,by simpa using hr⟩
 | t+1,j,nv,q,acc,X,ht,hj,ha,hle,hq,hr=>by
  have hjl : j < us.length:=by omega
  have hlt : (j : Int) < us.length:=by omega
  have hg:=List.getElem?_eq_getElem hjl
  have hd:=List.drop_eq_getElem_cons hjl
  generalize us[j]=u at hg hd
  have hok:=(hA.mono hle).ok (List.mem_of_getElem? hg)
  have hf:=fun {K : Value→M Out}=>Zki (k:=K) (hA.mono hle).1 hok.2.1 hg
  have g1 : (X++[Zi.cells u.cells 1 false false])[X.length]?=some (.cells u.cells 1 false false):=ZM
  have k1 : HLe X (X++[Zi.cells u.cells 1 false false]):=.app _ _
  generalize X++[Zi.cells u.cells 1 false false]=X1 at g1 k1 hf
  generalize X.length=p at g1 hf
  have d1 : ldA 5 (pt p) X1=some (.agg u.cells.toArray,X1):=Zat (n:=5) g1 rfl
  obtain ⟨X2,e2,k2⟩:=ZfC (n:=n) (hok.hle k1)
  have k12:=k1.trans k2
  have le2:=hle.trans k12
  rw [hd]
  unfold Jx
  by_cases he : QO u=0
  ·rw [he] at e2
   simp only [if_pos he]
   have q2 : bop .int .neq (iv 0) (.int .i64 0) X2=some (.bool false,X2):=by rw [Zr];rfl
   have l0 : ld1 (pa p 0) X2=some (strv u.nm,X2):=Yg (k2 _ _ g1) rfl
   have x4:=Zpu (es:=1) (z:=.string ⟨#[]⟩) (v:=strv u.nm) (H:=X2) rfl rfl rfl
   have k3 : HLe X2 (X2++[Zi.cells [strv u.nm] 1 false false]):=.app _ _
   have s3 : Sl (X2++[Zi.cells [strv u.nm] 1 false false]) (.slice (some ⟨X2.length,0,none⟩) 1 1) [strv u.nm]:=Sl.one (c:=1) ZM
   generalize X2++[Zi.cells [strv u.nm] 1 false false]=X3 at x4 k3 s3
   have hr3 : Zn X3 nv _ q:=hr.step (k12.trans k3).step (by simp)
   obtain ⟨nv',X4,q',x5,hr4,s4,_⟩:=hr3.push (b:=16) s3 (by simp;omega) (by simp;omega)
   have hm:=(le2.trans k3).more s4 hq
   have hr4' : Zn X4 nv' ((acc++[u.nm]).map strv) q':=by rw [List.map_append];exact hr4
   obtain ⟨X5,o5,e5,k5,h5⟩:=Zmy hn hA t (j+1) nv' q' (acc++[u.nm]) X4 (by omega) (by omega) (by simp;omega) hm.1 hm.2 hr4'
   refine ⟨X5,o5,(ZO ?_).trans e5,k5,by simpa using h5⟩
   rw [JP]
   unfold Z7.l1
   rw [Za Zm,Zd,if_pos (by simpa using hlt),hf,Za d1,Za e2,Za q2,Zd,if_neg (by simp),Za Zz,Za l0,Za x4,Za x5,Za ZD,J5 (by omega)]
   rfl
  ·simp only [if_neg he]
   have q2 : bop .int .neq (iv (QO u)) (.int .i64 0) X2=some (.bool true,X2):=by rw [Zr];simp [he]
   refine ⟨X2,_,JF (v:=iv (QO u)) ?_,le2,rfl⟩
   rw [JP]
   unfold Z7.l1
   rw [Za Zm,Zd,if_pos (by simpa using hlt),hf,Za d1,Za e2,Za q2,Zd,if_pos rfl]
   rfl
theorem Zm7 (hl : l.length≤1000000) (hs : Sl X v (l.map strv)) : ∀ (t j : Nat),l.length - j=t→j≤l.length→
  Zf (c4 (Z7.l2 (R (n+5)))) [v,v,iv l.length,iv j] X=some (if (l.drop j).all Zw then .ext 2 [v] else .ret (iv 10),X)
 | 0,j,ht,hj=>by
  rw [List.drop_eq_nil_of_le (by omega)]
  refine Qb ?_
  rw [ZW,show j=l.length by omega]
  unfold Z7.l2
  rw [Za Zm,Zd,if_neg (by simp)]
  rfl
 | t+1,j,ht,hj=>by
  have hkl : j < l.length:=by omega
  have hlt : (j : Int) < l.length:=by omega
  have hg:=List.getElem?_eq_getElem hkl
  have hd:=List.drop_eq_getElem_cons hkl
  generalize l[j]=y at hg hd
  have x1:=hs.ix (i:=j) (by simpa using hkl) .i64 X
  have x2:=hs.ldx (YE hg)
  have e1 : R (n+5) QM [strv y] X=some (iv (ZL y),X):=ZcN
  rw [hd,List.all_cons]
  cases hn : Zw y
  ·have he : ZL y=10:=by unfold ZL;rw [hn];rfl
   rw [he] at e1
   refine JF ?_
   rw [ZW]
   unfold Z7.l2
   rw [Za Zm,Zd,if_pos (by simpa using hlt),Za x1,Za x2,Za e1,Za Zr,Zd,if_pos (by simp)]
   rfl
  ·have he : ZL y=0:=Zdy.2 hn
   rw [he] at e1
   rw [Bool.true_and]
   refine (ZO ?_).trans (Zm7 hl hs t (j+1) (by omega) (by omega))
   rw [ZW]
   unfold Z7.l2
   rw [Za Zm,Zd,if_pos (by simpa using hlt),Za x1,Za x2,Za e1,Za Zr,Zd,if_neg (by simp),Za ZD,J5 (by omega)]
   rfl
theorem Zma (hn : us.length≤1000) (hl : gs.length≤1000000) (hA : J7 X sl us) (hs : Sl X gv (gs.map strv)) : ∃ X',R (n+11) WX [sl,gv] X=some (iv (W9 us gs),X')∧HLe X X':=by
 obtain ⟨X1,o,e1,k1,h1⟩:=Zmy (n:=n) (gv:=gv) hn hA us.length 0 (.slice none 0 0) [] [] X (by omega) (by omega) (by simp) (.refl _) (by simp) Zn.nil
 rw [List.drop_zero] at h1
 have e1 : Zf (c5 (Z7.l1 (R (n+10)))) [gv,.slice none 0 0,sl,iv us.length,.int .i64 0] X=_:=e1
 have hlen : Zk sl X=some (iv us.length,X):=by have:=hA.1.len (H':=X);rwa [List.length_map] at this
 have f1 : ∀ r X',Z7 (R (n+10)) sl gv X=some (r,X')→R (n+11) WX [sl,gv] X=some (r,X'):=fun r X' hr=>by rw [R,ZkK rfl];exact hr
 refine ⟨X1,f1 _ _ ?_,k1⟩
 unfold Z7 W9 Zis
 rw [Za hlen]
 by_cases hf : Jx us=0
 ·rw [if_pos hf] at h1
  simp only [if_pos hf]
  obtain ⟨nv,q,rfl,hr⟩:=h1
  rw [List.nil_append] at hr
  have e2 : R (n+10) Yc [nv,iv 12] X1=_:=ZhO (n:=n+6) (k:=12) (l:=us.map (·.nm)) (by rw [List.length_map];omega) hr.rd
  have hs1:=hs.mono k1
  have hgl : Zk gv X1=some (iv gs.length,X1):=by have:=hs1.len (H':=X1);simpa using this
  have e3:=Zm7 (n:=n+5) hl hs1 gs.length 0 (by omega) (by omega)
  rw [show iv ((0 : Nat) : Int)=.int .i64 0 from rfl,List.drop_zero] at e3
  have e4 : R (n+10) Yc [gv,iv 6] X1=_:=ZhO (n:=n+6) (k:=6) hl hs1
  rw [List.length_map] at e2
  rw [Q0 e1,ZG,QU]
  cases hr1 : Yb (us.map (·.nm))
  ·rw [hr1] at e2
   have e2 : R (n+10) Yc [nv,iv 12] X1=some (iv 9,X1):=e2
   rw [Za e2,Za Zr,Zd,if_pos (by simp)]
   rfl
  ·rw [hr1] at e2
   simp only [if_true] at e2 ⊢
   by_cases h12 : 12 < us.length
   ·rw [if_pos h12] at e2 ⊢
    have e2 : R (n+10) Yc [nv,iv 12] X1=some (iv 7,X1):=e2
    rw [Za e2,Za Zr,Zd,if_pos (by simp)]
    rfl
   ·rw [if_neg h12] at e2 ⊢
    have e2 : R (n+10) Yc [nv,iv 12] X1=some (iv 0,X1):=e2
    rw [Za e2,Za Zr,Zd,if_neg (by simp),Za hgl,if_pos rfl]
    cases ha : gs.all Zw
    ·rw [ha] at e3
     rw [Ke e3];rfl
    ·rw [ha] at e3
     rw [Q0 e3,ZG,Yw,Za e4]
     rfl
 ·rw [if_neg hf] at h1
  simp only [if_neg hf]
  subst h1
  rw [Ke e1]
  rfl
end
end Go.Proofs.YtedkoimihknggaaGreatDoor.A

namespace Go.Proofs.YtedkoimihknggaaGreatDoor.A
set_option linter.unusedVariables false
set_option linter.unusedSimpArgs false
open Go.Proofs Go.Proofs.YtedkoimihknggaaGreatDoor
structure Za7 where
 kd : Nat
 a : Tx
 b : Tx
 is : Bool
abbrev Za7.cells (a : Za7) : List Value:=[.int .u8 a.kd,strv a.a,strv a.b,.bool a.is]
abbrev zNA : Value:=.agg #[.int .u8 0,.string ⟨#[]⟩,.string ⟨#[]⟩,.bool false]
def Zez (H : Zb) (sl : Value) (ac : List Za7) : Prop:=SlN 4 H sl (ac.map Za7.cells)∧∀ a∈ac,a.kd≤255
section
variable {H H' X X' : Zb} {sl : Value} {ac : List Za7} {n d c : Nat} {s : NSt} {r : NR} {m : Tx}
theorem Zez.len (h : Zez H sl ac) : Zk sl H'=some (iv ac.length,H'):=by
 have:=h.1.len (H':=H')
 rwa [List.length_map] at this
theorem Zez.mono (h : Zez H sl ac) (hl : HLe H H') : Zez H' sl ac:=⟨h.1.mono hl,h.2⟩
theorem Zez.fetch {β : Type} {k : Value→M β} (h : Zez H sl ac) {j : Nat} {a : Za7} (hj : ac[j]?=some a) :
  bind (ixa 4 sl (iv j)) (fun p=>bind (ldA 4 p) fun v=>bind (alc 1 zNA) fun q=>bind (stA 4 q v) fun _=>k q) H=k (pt H.length) (H++[.cells a.cells 1 false false]):=by
 have hr : (ac.map Za7.cells)[j]?=some a.cells:=by rw [List.getElem?_map,hj];rfl
 rw [h.1.fetch hr (by omega) .i64]
 exact Zdp (n:=4) (zs:=[.int .u8 0,.string ⟨#[]⟩,.string ⟨#[]⟩,.bool false]) (r:=a.cells) rfl rfl rfl rfl
end
end Go.Proofs.YtedkoimihknggaaGreatDoor.A
namespace Go.Proofs.YtedkoimihknggaaGreatDoor.A
set_option linter.unusedVariables false
set_option linter.unusedSimpArgs false
open Go.Proofs Go.Proofs.YtedkoimihknggaaGreatDoor
section
variable {X X' Y Y1 Y2 Y3 H0 : Zb} {n d c c' b1 b2 b3 : Nat} {r r' : NR} {uv gv uv' gv' v : Value} {s s' : NSt} {u : Za7} {e : Int}
theorem RD.setB {b : Nat} {c1 c2 d1 d2 : Value} (h : RD Y uv gv s) (hb : Y[b]?=some (.cells [c1,c2] 1 false false)) (i1 : Zde c1) (i2 : Zde c2) : RD (Y.set b (.cells [d1,d2] 1 false false)) uv gv s:=
 ⟨h.ex.imp fun us ⟨a,b⟩=>⟨a.setD hb i1 i2,b⟩,h.n.imp fun q ⟨N,a,b⟩=>⟨N,a.setD hb i1 i2,b⟩⟩
theorem ND.more (hd : ND X d r s c) (h : c≤c') : ND X d r s c':=⟨hd.toND0.more h,hd.inv⟩
end
end Go.Proofs.YtedkoimihknggaaGreatDoor.A
namespace Go.Proofs.YtedkoimihknggaaGreatDoor.A
set_option linter.unusedVariables false
set_option linter.unusedSimpArgs false
open Go.Proofs Go.Proofs.YtedkoimihknggaaGreatDoor
section
variable {X X' Y Y1 Y2 Y3 H H0 : Zb} {n d c c' b1 b2 b3 w : Nat} {r r' : NR} {uv gv uv' gv' v sl : Value} {s s' : NSt} {u : Za7} {e : Int} {ac : List Za7}
structure NL (H X : Zb) (d : Nat) (r : NR) (s : NSt) (uv gv : Value) (w c : Nat) : Prop where
 le : HLe H X
 nd : ND X d r s c
 rd : RD X uv gv s
 own : ∀ i∈r.own,H.length≤i
 w : X[w]?=some (.cells [uv,gv] 1 false false)
theorem NL.hle (h : NL H X d r s uv gv w c) (hl : HLe X X') : NL H X' d r s uv gv w c:=⟨h.le.trans hl,h.nd.hle hl,h.rd.hle hl,h.own,hl _ _ h.w⟩
end
end Go.Proofs.YtedkoimihknggaaGreatDoor.A

namespace Go.Proofs.YtedkoimihknggaaGreatDoor.A
set_option linter.unusedVariables false
set_option linter.unusedSimpArgs false
open Go.Proofs Go.Proofs.YtedkoimihknggaaGreatDoor
section
variable {H : Zb} {n : Nat} {s : List UInt8}
end
end Go.Proofs.YtedkoimihknggaaGreatDoor.A

namespace Go.Proofs.YtedkoimihknggaaGreatDoor.A
set_option linter.unusedVariables false
set_option linter.unusedSimpArgs false
open Go.Proofs Go.Proofs.YtedkoimihknggaaGreatDoor
section
variable {X X' Y H H0 : Zb} {n d c w : Nat} {r : NR} {uv gv sl wv : Value} {s : NSt} {us ws : List Zh} {k m g pre : Tx} {q0 : List Nat}
theorem Zp6 (hO : ROK s us) (hP : Zix s) (hm : Wj m=true) : (us.find? fun u=>u.ml==QA m).map (·.nm)=Zg (QA m) s.OW:=by
 have hat : ∀ u∈us,u.ml=QA m↔Zg (QA m) s.OW=some u.nm:=fun u hu=>by
  have h1:=hO.at hu
  unfold Jn at h1
  cases ha : Zg u.nm s.A with
  | none=>rw [ha] at h1;cases h1
  | some p=>
   rw [ha] at h1
   have h2 : KU s u.nm p=QS u:=Option.some.inj h1
   have h3 : (Zg u.nm s.OF).getD []=u.ml:=congrArg (·.2.2.1) h2
   rw [← hP.x.inv,← h3]
   cases ho : Zg u.nm s.OF with
   | none=>exact ⟨fun h=>absurd h.symm (ZdS hm).1,fun h=>by cases h⟩
   | some v=>exact ⟨fun h=>by rw [← h];rfl,fun h=>by cases h;rfl⟩
 cases hf : us.find? fun u=>u.ml==QA m with
 | some u=>
  have h1:=List.find?_some hf
  have h2:=List.mem_of_find?_eq_some hf
  exact ((hat u h2).1 (by simpa using h1)).symm
 | none=>
  rw [List.find?_eq_none] at hf
  cases hw : Zg (QA m) s.OW with
  | none=>rfl
  | some x=>
   have h1:=(hP.x.inv _ _).2 hw
   have h2:=hP.i.ofA x (by rw [h1];rfl)
   obtain ⟨p,hp⟩:=Option.isSome_iff_exists.1 h2
   have h3 : Jn s x=some (KU s x p):=by unfold Jn;rw [hp];rfl
   obtain ⟨u,hu,hk⟩:=KH.1 ((hO.look (KU s x p)).2 h3)
   have hn : u.nm=x:=congrArg (·.1) hk
   have:=(hat u hu).2 (by rw [hn];exact hw)
   exact absurd (by simpa using this) (hf u hu)
end
end Go.Proofs.YtedkoimihknggaaGreatDoor.A

namespace Go.Proofs.YtedkoimihknggaaGreatDoor.A
set_option linter.unusedVariables false
set_option linter.unusedSimpArgs false
open Go.Proofs Go.Proofs.YtedkoimihknggaaGreatDoor
def YN (ps : List Tx) (k : Tx) (mem : Mem) : Mem:=fun g n=>mem g n || (decide (g∈ps) && n==k)
section
variable {X X' X0 H H0 : Zb} {n p d b c i : Nat} {r : NR} {s : NSt} {v sl gv ugv zl : Value} {l gs : List Tx} {m k g : Tx} {u : Zh} {us prev : List Zh}
theorem Zk4 {i : Nat} (hg : us[i]?=some u) : us.take (i+1)=us.take i++[u]:=by
 rw [List.take_add_one,hg];rfl
end
end Go.Proofs.YtedkoimihknggaaGreatDoor.A

namespace Go.Proofs.YtedkoimihknggaaGreatDoor.A
set_option linter.unusedVariables false
set_option linter.unusedSimpArgs false
open Go.Proofs Go.Proofs.YtedkoimihknggaaGreatDoor
section
variable {X X' X0 H H0 : Zb} {n p d b c i : Nat} {r : NR} {s : NSt} {v sl gv ugv zl : Value} {l gs : List Tx} {m k g : Tx} {u : Zh} {us prev : List Zh}
def nGs (gs : List Tx) : NSt:=⟨[],[],[],gs,fun _ _=>false⟩
theorem ZrW (hr : Yb gs=true) (hn : gs.all Zw=true) (h6 : gs.length≤6) {j : Nat} (hg : gs[j]?=some g) : Yr g (gs.take j)=0∧Zd9 g (gs.take j)=gs.take (j+1):=by
 have hj : j < gs.length:=(List.getElem?_eq_some_iff.1 hg).1
 have hgm:=List.mem_of_getElem? hg
 have h1 : Zw g=true:=List.all_eq_true.1 hn g hgm
 have hd:=List.drop_eq_getElem_cons hj
 have hge : gs[j]=g:=by have:=List.getElem?_eq_getElem hj;rw [hg] at this;exact (Option.some.inj this).symm
 have hp:=ZbD hr
 rw [← List.take_append_drop j gs,List.pairwise_append,hd,hge] at hp
 have h2 : g∉gs.take j:=fun hm=>List.lt_irrefl g (hp.2.2 g hm g (by simp))
 have hl : (gs.take j).length=j:=by rw [List.length_take];omega
 have h0 : Yr g (gs.take j)=0:=by
  unfold Yr
  rw [h1,if_pos rfl,if_neg h2,hl,if_neg (by omega)]
 refine ⟨h0,?_⟩
 unfold Zd9
 rw [if_pos h0,List.take_add_one,hg]
 rfl
theorem Zqt (hs : Sl X0 gv (gs.map strv)) (hr : Yb gs=true) (hn : gs.all Zw=true) (h6 : gs.length≤6) : ∀ (t j : Nat) (r : NR) (X : Zb),gs.length - j=t→j≤gs.length→HLe X0 X→ND X d r (nGs (gs.take j)) 0→(∀ i∈r.own,X0.length≤i)→
  ∃ X' r',Zf (c5 (Z4.l1 (R (n+11)))) [sl,pt d,gv,iv gs.length,iv j] X=some (.ext 0 [sl,pt d],X')∧HLe X0 X'∧ND X' d r' (nGs gs) 0∧∀ i∈r'.own,X0.length≤i
 | 0,j,r,X,ht,hj,hle,hd,ho=>by
  have hj : j=gs.length:=by omega
  subst hj
  rw [List.take_length] at hd
  refine ⟨X,r,Qb ?_,hle,hd,ho⟩
  rw [JP]
  unfold Z4.l1
  rw [Za Zm,Zd,if_neg (by simp)]
  rfl
 | t+1,j,r,X,ht,hj,hle,hd,ho=>by
  have hkl : j < gs.length:=by omega
  have hlt : (j : Int) < gs.length:=by omega
  have hg:=List.getElem?_eq_getElem hkl
  generalize gs[j]=g at hg
  have x1:=(hs.mono hle).ix (i:=j) (by simpa using hkl) .i64 X
  have x2:=(hs.mono hle).ldx (YE hg)
  obtain ⟨m1,m2⟩:=ZrW hr hn h6 hg
  obtain ⟨X1,G',e1,g1,k1,s1⟩:=Zsl (n:=n+3) (k:=g) hd.gr
  have e1 : R (n+11) JE [pt r.g,strv g] X=_:=e1
  rw [hd.ks] at e1 k1
  rw [show (nGs (gs.take j)).K=gs.take j from rfl,m2] at k1
  obtain ⟨d1,t1⟩:=hd.toND0.setG g1 s1 k1
  have hm:=hle.more t1 ho
  have hd1 : ND X1 d { r with G:=G' } (nGs (gs.take (j+1))) 0:=⟨d1,⟨by simp [nGs],by simp [nGs],by simp [nGs,Zg],by simp [nGs],by simp [nGs,Zg]⟩⟩
  obtain ⟨X2,r2,e2,k2,h2,o2⟩:=Zqt hs hr hn h6 t (j+1) _ X1 (by omega) (by omega) hm.1 hd1 hm.2
  refine ⟨X2,r2,(ZO ?_).trans e2,k2,h2,o2⟩
  rw [JP]
  unfold Z4.l1
  rw [Za Zm,Zd,if_pos (by simpa using hlt),Za x1,Za x2,Za Zt,Za Zz,Za hd.l2,Za e1,Za ZD,J5 (by omega)]
  rfl
theorem Zq9 {mem : Mem} : YN [] k mem=mem:=by
 funext g n
 unfold YN
 simp
theorem Zqb {mem : Mem} {ps : List Tx} : Zje g k (YN ps k mem)=YN (ps++[g]) k mem:=by
 funext g' n
 unfold Zje YN
 by_cases h1 : g'∈ps <;> by_cases h2 : g'=g <;> cases mem g' n <;> cases hn : n==k <;> simp [h1,h2,hn]
theorem ZpC (hnm : Zw u.nm=true) (hall : u.gs.all Zw=true) (hasc : Yb u.gs=true) (hl : u.gs.length≤6) (hfree : ∀ g,s.mem g u.nm=false) (hK : s.K=gs) {z1 z2 z3 : Value} : ∀ (t j : Nat) (c : Nat) (X : Zb),u.gs.length - j=t→j≤u.gs.length→ND0 X d r { s with mem:=YN (u.gs.take j) u.nm s.mem } c→X[b]?=some (.cells u.cells 1 false false)→Sl X ugv (u.gs.map strv)→
  ∃ X',Zf (c8 (Z4.l3 (R (n+11)))) [pt d,pt b,z1,z2,z3,ugv,iv u.gs.length,iv j] X=some (if (u.gs.drop j).all (fun g=>decide (g∈gs)) then .ext 4 [pt d,pt b,z1,z2,z3] else .ret (.tuple #[.pointer none,iv 8]),X')∧Zq r.own X r.own X'∧((u.gs.drop j).all (fun g=>decide (g∈gs))=true→∃ c',ND0 X' d r { s with mem:=YN u.gs u.nm s.mem } c')
 | 0,j,c,X,ht,hj,hd,hb,hs=>by
  have hj : j=u.gs.length:=by omega
  subst hj
  rw [List.take_length] at hd
  rw [List.drop_length]
  refine ⟨X,Qb ?_,.refl _ _,fun _=>⟨c,hd⟩⟩
  rw [YL]
  unfold Z4.l3
  rw [Za Zm,Zd,if_neg (by simp)]
  rfl
 | t+1,j,c,X,ht,hj,hd,hb,hs=>by
  have hkl : j < u.gs.length:=by omega
  have hlt : (j : Int) < u.gs.length:=by omega
  have hg:=List.getElem?_eq_getElem hkl
  have hdr:=List.drop_eq_getElem_cons hkl
  have hsn:=take_snocT hg
  generalize u.gs[j]=g at hg hdr hsn
  have x1:=hs.ix (i:=j) (by simpa using hkl) .i64 X
  have x2:=hs.ldx (YE hg)
  have l0 : ld1 (pa b 0) X=some (strv u.nm,X):=Yg hb rfl
  obtain ⟨X1,e1,g1,s1⟩:=ZsJ (n:=n+3) (k:=g) (m:=u.nm) hd.gr
  have e1 : R (n+11) Yj [pt r.g,strv g,strv u.nm] X=_:=e1
  rw [hd.ks] at e1 g1
  have hKs : ({ s with mem:=YN (u.gs.take j) u.nm s.mem } : NSt).K=gs:=hK
  rw [hKs] at e1 g1
  have hgn : Zw g=true:=List.all_eq_true.1 hall g (List.mem_of_getElem? hg)
  have hgt : g∉u.gs.take j:=by
   have hp:=ZbD hasc
   rw [← List.take_append_drop j u.gs,List.pairwise_append,hdr] at hp
   exact fun hm=>List.lt_irrefl g (hp.2.2 g hm g (by simp))
  have hmf : YN (u.gs.take j) u.nm s.mem g u.nm=false:=by
   unfold YN
   rw [hfree]
   simp [hgt]
  have hfd : Q3 g [u.nm] gs=if g∈gs then 0 else 8:=by
   unfold Q3
   simp [hgn,hnm]
  rw [hdr,List.all_cons]
  by_cases hgm : g∈gs
  ·rw [if_pos hgm] at hfd
   have hE : ZbI g u.nm gs (YN (u.gs.take j) u.nm s.mem)=0:=by
    unfold ZbI
    rw [hfd,if_pos rfl,hmf];rfl
   rw [hE] at e1
   rw [show ({ s with mem:=YN (u.gs.take j) u.nm s.mem } : NSt).mem=YN (u.gs.take j) u.nm s.mem from rfl,hE,if_pos rfl,Zqb,← hsn] at g1
   obtain ⟨d1,t1⟩:=hd.setG g1 s1 hd.ks
   have hc1:=hd.cle t1
   rw [decide_eq_true hgm,Bool.true_and]
   have d1' : ND0 X1 d r { s with mem:=YN (u.gs.take (j+1)) u.nm s.mem } (c+1):=d1
   obtain ⟨X2,e2,t2,h2⟩:=ZpC hnm hall hasc hl hfree hK t (j+1) (c+1) X1 (by omega) (by omega) d1' (hc1 _ _ _ _ _ hb) (hs.cle hc1)
   refine ⟨X2,(ZO ?_).trans e2,Zq.trans t1 t2,h2⟩
   rw [YL]
   unfold Z4.l3
   rw [Za Zm,Zd,if_pos (by simpa using hlt),Za x1,Za x2,Za Zt,Za Zz,Za hd.l2,Za Zz,Za l0,Za e1,Za Zr,Zd,if_neg (by simp),Za ZD,J5 (by omega)]
   rfl
  ·rw [if_neg hgm] at hfd
   have hE : ZbI g u.nm gs (YN (u.gs.take j) u.nm s.mem)=8:=by
    unfold ZbI
    rw [hfd,if_neg (by simp)]
   rw [hE] at e1
   obtain ⟨d1,t1⟩:=hd.setG g1 s1 hd.ks
   rw [decide_eq_false hgm,Bool.false_and]
   refine ⟨X1,JF ?_,t1,fun h=>by cases h⟩
   rw [YL]
   unfold Z4.l3
   rw [Za Zm,Zd,if_pos (by simpa using hlt),Za x1,Za x2,Za Zt,Za Zz,Za hd.l2,Za Zz,Za l0,Za e1,Za Zr,Zd,if_pos (by simp)]
   rfl
where
 take_snocT {l : List Tx} {j : Nat} {h : j < l.length} (hg : l[j]?=some l[j]) : l.take (j+1)=l.take j++[l[j]]:=by
  rw [List.take_add_one,hg];rfl
theorem Zlc : ∀ {us : List Zh},(∀ v∈us,v.nm < u.nm)→ZdP u us=us++[u]
 | [],_=>by simp [ZdP,W4,Wk]
 | v :: us,h=>by
  rw [Zgl,if_neg (fun hle=>(List.not_lt.2 hle) (h v (by simp))),Zlc fun w hw=>h w (by simp [hw])]
  rfl
theorem ZrH (hO : ROK s prev) (hP : Zix s) (hm : Wj m=true) (hf : QA m=m) : prev.any (fun w=>m==w.ml)=(Zg m s.OW).isSome:=by
 have h1:=Zp6 hO hP hm
 rw [hf] at h1
 rw [← h1,Option.isSome_map,List.isSome_find?]
 congr 1
 funext w
 exact BEq.comm
def addN (u : Zh) (s : NSt) : NSt:={ A:=QK u.nm (u.hs,u.ds) s.A,OW:=Zrk u.nm u.ml s.OW s.OF,OF:=Zev u.nm u.ml s.OW s.OF,K:=s.K,mem:=YN u.gs u.nm s.mem }
theorem ZgM (h : Zaa m=true) : m=[]∨(Wj m=true∧QA m=m):=by
 unfold Zaa at h
 simpa using h
theorem ZcQ (h : QO u=0) : Zw u.nm=true∧Za2 u.hs=true∧Zaa u.ml=true∧u.gs.length≤6∧u.gs.all Zw=true∧Yb u.gs=true:=by
 unfold QO at h
 split at h
 ·rename_i h1
  split at h
  ·rename_i h2
   split at h
   ·rename_i h3
    unfold Zcl at h
    split at h
    ·exact absurd h (by decide)
    ·rename_i h6
     split at h
     ·rename_i h4
      split at h
      ·rename_i h5
       exact ⟨h1,h2,h3,by omega,h4,h5⟩
      ·exact absurd h (by decide)
     ·exact absurd h (by decide)
   ·exact absurd h (by decide)
  ·exact absurd h (by decide)
 ·exact absurd h (by decide)
theorem Zr7 (hO : ROK s prev) (hP : Zix s) (hu : QO u=0) (hA : Zg u.nm s.A=none) : K9 u.nm u.ml s.OW=if u.ml≠[]∧prev.any (fun w=>u.ml==w.ml)=true then 9 else 0:=by
 obtain ⟨h1,_,h3,_,_,_⟩:=ZcQ hu
 unfold K9
 rw [h1,if_pos rfl]
 rcases ZgM h3 with hm | ⟨hm,hf⟩
 ·rw [if_pos hm,if_neg (fun h=>h.1 hm)]
 ·have hne : u.ml≠[]:=by have:=(ZdS hm).1;rwa [hf] at this
  rw [if_neg hne,hm,if_pos rfl,hf,ZrH hO hP hm hf]
  cases hw : Zg u.ml s.OW with
  | none=>simp
  | some w=>
   have hww : w≠u.nm:=fun e=>by
    subst e
    have:=hP.i.ofA u.nm (by rw [(hP.x.inv u.nm u.ml).2 hw];rfl)
    rw [hA] at this;cases this
   simp [hww,hne]
theorem ZqO (hi : Ys s) (hu : QO u=0) (hgs : ∀ g∈u.gs,g∈s.K) (hk : s.K.Nodup) (hA : Zg u.nm s.A=none) (hfree : ∀ g,s.mem g u.nm=false) (he : K9 u.nm u.ml s.OW=0) (x : Tx) : Jn (addN u s) x=if x=u.nm then some (QS u) else Jn s x:=by
 obtain ⟨h1,h2,h3,h4,h5,h6⟩:=ZcQ hu
 by_cases hx : x=u.nm
 ·rw [if_pos hx,hx]
  unfold Jn
  show (Zg u.nm (QK u.nm (u.hs,u.ds) s.A)).map _=_
  rw [Wf]
  show some (KU _ u.nm (u.hs,u.ds))=_
  unfold KU QS
  show some (u.nm,u.hs,(Zg u.nm (Zev u.nm u.ml s.OW s.OF)).getD [],u.ds,ofL u.nm s.K (YN u.gs u.nm s.mem))=_
  rw [ZgV he,if_pos rfl]
  have hg : ofL u.nm s.K (YN u.gs u.nm s.mem)=u.gs:=by
   refine (Znm hk).uniq ⟨ZbD h6,fun y=>Iff.rfl⟩ fun y=>?_
   unfold YN
   rw [hfree]
   simp
   exact hgs y
  rw [hg]
  rcases ZgM h3 with hm | ⟨hm,hf⟩
  ·rw [if_pos hm,hm];rfl
  ·have hne : u.ml≠[]:=by have:=(ZdS hm).1;rwa [hf] at this
   rw [if_neg hne,hf];rfl
 ·rw [if_neg hx]
  unfold Jn
  show (Zg x (QK u.nm (u.hs,u.ds) s.A)).map _=_
  rw [Ka hx]
  cases Zg x s.A with
  | none=>rfl
  | some p=>
   show some (KU _ x p)=some (KU s x p)
   unfold KU
   show some (x,p.1,(Zg x (Zev u.nm u.ml s.OW s.OF)).getD [],p.2,ofL x s.K (YN u.gs u.nm s.mem))=_
   rw [ZgV he,if_neg hx]
   have : ofL x s.K (YN u.gs u.nm s.mem)=ofL x s.K s.mem:=by
    unfold ofL YN
    refine List.filter_congr fun g _=>?_
    simp [hx]
   rw [this]
theorem Ys.add (hi : Ys s) (hu : QO u=0) (hA : s.A.length < 12) (he : K9 u.nm u.ml s.OW=0) : Ys (addN u s):=by
 obtain ⟨h1,h2,h3,h4,h5,h6⟩:=ZcQ hu
 have p1:=hi.putA (k:=u.nm) (v:=(u.hs,u.ds)) h1 h2 (.inr hA)
 refine ⟨p1.nm,p1.few,fun x hx=>?_,fun g x hx=>?_,fun x y hx=>?_⟩
 ·have hx : (Zg x (Zev u.nm u.ml s.OW s.OF)).isSome=true:=hx
  rw [ZgV he] at hx
  by_cases e : x=u.nm
  ·show (Zg x (QK u.nm (u.hs,u.ds) s.A)).isSome=true
   rw [e,Wf];rfl
  ·rw [if_neg e] at hx
   exact Zb5 (.inl (hi.ofA x hx))
 ·have hx : YN u.gs u.nm s.mem g x=true:=hx
  unfold YN at hx
  rw [Bool.or_eq_true] at hx
  rcases hx with hx | hx
  ·exact Zb5 (.inl (hi.memA g x hx))
  ·rw [Bool.and_eq_true,beq_iff_eq] at hx
   exact Zb5 (.inr hx.2)
 ·have hx : Zg x (Zev u.nm u.ml s.OW s.OF)=some y:=hx
  rw [ZgV he] at hx
  by_cases e : x=u.nm
  ·rw [if_pos e] at hx
   rcases ZgM h3 with hm | ⟨hm,hf⟩
   ·rw [if_pos hm] at hx;cases hx
   ·have hne : u.ml≠[]:=by have:=(ZdS hm).1;rwa [hf] at this
    rw [if_neg hne,hf] at hx
    cases hx
    exact ⟨hm,hf⟩
  ·rw [if_neg e] at hx
   exact hi.good x y hx
structure OfS (X0 X : Zb) (d : Nat) (r : NR) (s : NSt) (c : Nat) (gs : List Tx) (prev : List Zh) : Prop where
 le : HLe X0 X
 nd : ND X d r s c
 own : ∀ i∈r.own,X0.length≤i
 K : s.K=gs
 ok : ROK s prev
theorem ZpW (hn : us.length≤12) (hA : J7 X0 sl us) (h2 : ∀ u∈us,QO u=0) (hris : Yb (us.map (·.nm))=true) : ∀ (t i : Nat) (s : NSt) (c : Nat) (X : Zb),us.length - i=t→i≤us.length→OfS X0 X d r s c gs (us.take i)→
  ∃ X' o,Zf (c4 (Z4.l2 (R (n+11)))) [pt d,sl,iv us.length,iv i] X=some (o,X')∧HLe X0 X'∧(if Kl gs (us.take i) (us.drop i)=0 then o=.ext 2 [pt d]∧∃ s' c',OfS X0 X' d r s' c' gs us else o=.ret (.tuple #[.pointer none,iv (Kl gs (us.take i) (us.drop i))]))
 | 0,i,s,c,X,ht,hi,hS=>by
  have hi : i=us.length:=by omega
  subst hi
  rw [List.take_length] at hS
  rw [List.drop_length,List.take_length]
  refine ⟨X,.ext 2 [pt d],Qb ?_,hS.le,?_⟩
  ·rw [ZW]
   unfold Z4.l2
   rw [Za Zm,Zd,if_neg (by simp)]
   rfl
  ·rw [if_pos (show Kl gs us []=0 from by unfold Kl;rfl)]
   exact ⟨rfl,s,c,hS⟩
 | t+1,i,s,c,X,ht,hi,hS=>by
  have hjl : i < us.length:=by omega
  have hlt : (i : Int) < us.length:=by omega
  have hg:=List.getElem?_eq_getElem hjl
  have hdr:=List.drop_eq_getElem_cons hjl
  generalize us[i]=u at hg hdr
  have hum:=List.mem_of_getElem? hg
  have hu:=h2 u hum
  obtain ⟨u1,u2,u3,u4,u5,u6⟩:=ZcQ hu
  have hP:=hS.nd.pinv
  have hrp : ∀ v∈us.take i,v.nm < u.nm:=fun v hv=>by
   have hp:=ZbD hris
   rw [← List.take_append_drop i us,hdr,List.map_append,List.pairwise_append] at hp
   exact hp.2.2 v.nm (List.mem_map.2 ⟨v,hv,rfl⟩) u.nm (by simp)
  have hlen:=hS.ok.len hP.n
  have hlt' : (us.take i).length=i:=by rw [List.length_take];omega
  have hnone : Zg u.nm s.A=none:=by
   cases ha : Zg u.nm s.A with
   | none=>rfl
   | some p=>
    have h3 : Jn s u.nm=some (KU s u.nm p):=by unfold Jn;rw [ha];rfl
    obtain ⟨v,hv,hk⟩:=KH.1 ((hS.ok.look (KU s u.nm p)).2 h3)
    have hvn : v.nm=u.nm:=congrArg (·.1) hk
    have:=hrp v hv
    rw [hvn] at this
    exact absurd this (List.lt_irrefl _)
  have hfree:=hP.i.memN hnone
  have hok:=(hA.mono hS.le).ok hum
  have hf:=fun {K : Value→M Out}=>Zki (k:=K) (hA.mono hS.le).1 hok.2.1 hg
  have g1 : (X++[Zi.cells u.cells 1 false false])[X.length]?=some (.cells u.cells 1 false false):=ZM
  have k1 : HLe X (X++[Zi.cells u.cells 1 false false]):=.app _ _
  generalize X++[Zi.cells u.cells 1 false false]=X1 at g1 k1 hf
  generalize X.length=b at g1 hf
  have d1:=hS.nd.hle k1
  have ok1:=hok.hle k1
  have a0 : ∀ f x,u.cells[f]?=some x→ld1 (pa b f) X1=some (x,X1):=fun f x h=>Yg g1 h
  obtain ⟨X2,e2,m2,s2,_⟩:=d1.m.mup (k:=u.nm) (v:=(u.hs,u.ds))
  obtain ⟨d2,t2⟩:=d1.toND0.setA m2 s2
  have c2:=d1.toND0.cle t2
  have g2:=c2 _ _ _ _ _ g1
  have a4 : ld1 (pa b 4) X2=some (u.gv,X2):=Yg g2 rfl
  have hs2:=ok1.1.cle c2
  have hul : Zk u.gv X2=some (iv u.gs.length,X2):=by have:=hs2.len (H':=X2);simpa using this
  have d2' : ND0 X2 d r { ({ s with A:=QK u.nm (u.hs,u.ds) s.A } : NSt) with mem:=YN (u.gs.take 0) u.nm s.mem } c:=by
   rw [List.take_zero,Zq9];exact d2
  obtain ⟨X3,e3,t3,h3⟩:=ZpC (n:=n) (s:={ s with A:=QK u.nm (u.hs,u.ds) s.A }) (gs:=gs) (z1:=sl) (z2:=iv us.length) (z3:=iv i) u1 u5 u6 u4 hfree hS.K u.gs.length 0 c X2 (by omega) (by omega) d2' g2 hs2
  rw [show iv ((0 : Nat) : Int)=.int .i64 0 from rfl,List.drop_zero] at e3
  rw [List.drop_zero] at h3
  obtain ⟨q1,q2⟩:=(hS.le.trans k1).more (t2.trans t3) hS.own
  have hbody : ∀ o Z,jn (Zf (c8 (Z4.l3 (R (n+11)))) [pt d,pt b,sl,iv us.length,iv i,u.gv,iv u.gs.length,(Value.int .i64 0)]) noN (xk 4 (c5 fun q45_0 q45_1 q45_2 q45_3 q45_4=>
    bind (Ja q45_0) fun v73x46=>bind (fa 1 v73x46) fun v74x47=>bind (ld1 v74x47) fun v75x48=>bind (fa 0 q45_1) fun v76x49=>bind (ld1 v76x49) fun v77x50=>bind (fa 2 q45_1) fun v78x51=>bind (ld1 v78x51) fun v79x52=>
    bind (R (n+11) J9 [v75x48,v77x50,v79x52]) fun v80x53=>bind (bop .int .neq v80x53 (Value.int .i64 0)) fun v82x54=>
    cnd v82x54 (ret (.ret (Value.tuple #[(Value.pointer none),v80x53]))) (bind (bop .int .add q45_4 (Value.int .i64 1)) fun v84x55=>ret (.nrm [q45_0,q45_2,q45_3,v84x55]))) noX) ZN X2=some (o,Z)→c4 (Z4.l2 (R (n+11))) [pt d,sl,iv us.length,iv i] X=some (o,Z):=fun o Z h=>by
   rw [ZW]
   unfold Z4.l2
   rw [Za Zm,Zd,if_pos (by simpa using hlt),hf,Za Zt,Za Zz,Za d1.l0,Za Zz,Za (a0 0 _ rfl),Za Zz,Za (a0 1 _ rfl),Za Zz,Za (a0 3 _ rfl),Za ZtV,Za e2,Za Zz,Za a4,Za hul]
   exact h
  rw [hdr]
  unfold Kl ZbT
  cases ha : u.gs.all fun g=>decide (g∈gs)
  ·rw [ha] at e3
   simp only [Bool.false_eq_true,if_false]
   exact ⟨X3,_,JF (hbody _ _ ((Ke e3).trans rfl)),q1,rfl⟩
  ·rw [ha] at e3
   simp only [if_true]
   obtain ⟨c3,d3⟩:=h3 ha
   have c23:=d2.cle t3
   have g3:=c23 _ _ _ _ _ g2
   have l0 : ld1 (pa b 0) X3=some (strv u.nm,X3):=Yg g3 rfl
   have l2 : ld1 (pa b 2) X3=some (strv u.ml,X3):=Yg g3 rfl
   obtain ⟨X4,e4,i4,s4⟩:=Zti (n:=n+2) (k:=u.nm) (m:=u.ml) d3.ix
   have e4 : R (n+11) J9 [pt r.x,strv u.nm,strv u.ml] X3=some (iv (K9 u.nm u.ml s.OW),X4):=e4
   obtain ⟨d4,t4⟩:=d3.setI i4 s4
   obtain ⟨q3,q4⟩:=q1.more t4 q2
   have hE:=Zr7 hS.ok hP hu hnone
   by_cases hp : u.ml≠[]∧(us.take i).any (fun w=>u.ml==w.ml)=true
   ·rw [if_pos hp] at hE
    simp only [if_pos hp]
    rw [hE] at e4
    refine ⟨X4,_,JF (hbody (.ret (.tuple #[.pointer none,iv 9])) X4 ?_),q3,rfl⟩
    rw [Q0 e3,ZG,JP,Za Zt,Za Zz,Za d3.l1,Za Zz,Za l0,Za Zz,Za l2,Za e4,Za Zr,Zd,if_pos (by simp)]
    rfl
   ·rw [if_neg hp] at hE
    simp only [if_neg hp,if_true]
    rw [hE] at e4
    have hgs : ∀ g∈u.gs,g∈s.K:=fun g hgm=>by
     rw [hS.K]
     simpa using List.all_eq_true.1 ha g hgm
    have hadd:=ZqO hP.i hu hgs hP.k.nod hnone hfree hE
    have hd4 : ND X4 d r (addN u s) c3:=⟨d4,hP.i.add hu (by omega) hE⟩
    have hok4 : ROK (addN u s) (us.take (i+1)):=by
     rw [Zk4 hg,← Zlc hrp]
     exact hS.ok.put (by rw [hadd,if_pos rfl]) (fun x hx=>by rw [hadd,if_neg hx])
    obtain ⟨X5,o5,e5,k5,h5⟩:=ZpW hn hA h2 hris t (i+1) (addN u s) c3 X4 (by omega) (by omega) ⟨q3,hd4,q4,hS.K,hok4⟩
    rw [Zk4 hg] at h5
    refine ⟨X5,o5,(ZO (hbody _ X4 ?_)).trans e5,k5,h5⟩
    rw [Q0 e3,ZG,JP,Za Zt,Za Zz,Za d3.l1,Za Zz,Za l0,Za Zz,Za l2,Za e4,Za Zr,Zd,if_neg (by simp),Za ZD,J5 (by omega)]
    rfl
theorem Zm2 (h : W9 us gs=0) : Jx us=0∧Yb (us.map (·.nm))=true∧us.length≤12∧gs.all Zw=true∧Yb gs=true∧gs.length≤6:=by
 unfold W9 Zis at h
 by_cases h1 : Jx us=0
 ·simp only [if_pos h1] at h
  cases h2 : Yb (us.map (·.nm))
  ·rw [h2] at h;simp at h
  ·rw [h2] at h
   by_cases h3 : 12 < us.length
   ·simp [h3] at h
   ·cases h4 : gs.all Zw <;> cases h5 : Yb gs <;> rw [h4,h5] at h <;> by_cases h6 : 6 < gs.length <;> simp [h3,h6] at h
    exact ⟨h1,rfl,by omega,rfl,rfl,by omega⟩
 ·simp only [if_neg h1] at h
  exact absurd h h1
theorem ZpM (hn : us.length≤1000) (hl : gs.length≤1000000) (hA : J7 X sl us) (hs : Sl X gv (gs.map strv)) : ∃ X',HLe X X'∧(if KC us gs=0 then ∃ d r s c,R (n+12) Kz [sl,gv] X=some (.tuple #[pt d,iv 0],X')∧OfS X X' d r s c gs us else R (n+12) Kz [sl,gv] X=some (.tuple #[.pointer none,iv (KC us gs)],X')):=by
 obtain ⟨X1,e1,k1⟩:=Zma (n:=n) hn hl hA hs
 have f1 : ∀ r X',Z4 (R (n+11)) sl gv X=some (r,X')→R (n+12) Kz [sl,gv] X=some (r,X'):=fun r X' hr=>by rw [R,ZnE rfl];exact hr
 unfold KC
 by_cases hc : W9 us gs=0
 ·obtain ⟨c1,c2,c3,c4,c5,c6⟩:=Zm2 hc
  rw [hc] at e1
  simp only [if_pos hc]
  have q1 : bop .int .neq (iv 0) (.int .i64 0) X1=some (.bool false,X1):=by rw [Zr];rfl
  obtain ⟨X2,d,r,e2,D2,l2,o1,o2⟩:=ZpB (n:=n+9) (X:=X1)
  have e2 : R (n+11) YW [] X1=_:=e2
  have k2:=k1.trans l2
  have hgn : Zk gv X2=some (iv gs.length,X2):=by have:=hs.len (H':=X2);simpa using this
  obtain ⟨X3,r3,e3,k3,D3,o3⟩:=Zqt (n:=n) (sl:=sl) hs c5 c4 c6 gs.length 0 r X2 (by omega) (by omega) k2 D2 (fun i hi=>Nat.le_trans k1.len (o2 i hi))
  rw [show iv ((0 : Nat) : Int)=.int .i64 0 from rfl] at e3
  have hlen : Zk sl X3=some (iv us.length,X3):=by have:=hA.1.len (H':=X3);rwa [List.length_map] at this
  have hS : OfS X X3 d r3 (nGs gs) 0 gs (us.take 0):=⟨k3,D3,o3,rfl,⟨List.Pairwise.nil,fun key=>by simp [Jn,nGs,Zg]⟩⟩
  obtain ⟨X4,o,e4,k4,h4⟩:=ZpW (n:=n) c3 hA (Zgu c1) c2 us.length 0 (nGs gs) 0 X3 (by omega) (by omega) hS
  rw [show iv ((0 : Nat) : Int)=.int .i64 0 from rfl] at e4
  rw [List.take_zero,List.drop_zero] at h4
  refine ⟨X4,k4,?_⟩
  by_cases hz : Kl gs [] us=0
  ·rw [if_pos hz] at h4 ⊢
   obtain ⟨rfl,s',c',hS'⟩:=h4
   refine ⟨d,r3,s',c',f1 _ _ ?_,hS'⟩
   unfold Z4
   rw [Za e1,Za q1,Zd,if_neg (by simp),Za e2,Za hgn,Q0 e3,ZG,QU,Za hlen,Q0 e4,ZG]
   rfl
  ·rw [if_neg hz] at h4 ⊢
   subst h4
   refine f1 _ _ ?_
   unfold Z4
   rw [Za e1,Za q1,Zd,if_neg (by simp),Za e2,Za hgn,Q0 e3,ZG,QU,Za hlen,Ke e4]
   rfl
 ·simp only [if_neg hc]
  have q1 : bop .int .neq (iv (W9 us gs)) (.int .i64 0) X1=some (.bool true,X1):=by rw [Zr];simp [hc]
  refine ⟨X1,k1,f1 _ _ ?_⟩
  unfold Z4
  rw [Za e1,Za q1,Zd,if_pos rfl]
  rfl
theorem Zmp {us ws : List Zh} (h : us.map QS=ws.map QS) : KC us gs=KC ws gs:=by
 have hrest : ∀ (l l' p p' : List Zh),l.map QS=l'.map QS→p.map QS=p'.map QS→Kl gs p l=Kl gs p' l':=by
  intro l
  induction l with
  | nil=>
   intro l' p p' hl hp
   cases l' with
   | nil=>unfold Kl;rfl
   | cons a b=>simp at hl
  | cons u l ih=>
   intro l' p p' hl hp
   cases l' with
   | nil=>simp at hl
   | cons w l'=>
    rw [List.map_cons,List.map_cons,List.cons.injEq] at hl
    have hg : u.gs=w.gs:=congrArg (·.2.2.2.2) hl.1
    have hm : u.ml=w.ml:=congrArg (·.2.2.1) hl.1
    have hany : p.any (fun v=>u.ml==v.ml)=p'.any (fun v=>w.ml==v.ml):=by
     have h1 : ∀ (p : List Zh) (m : Tx),p.any (fun v=>m==v.ml)=(p.map QS).any (fun v=>m==v.2.2.1):=fun p m=>by
      rw [List.any_map];rfl
     rw [h1,h1,hp,hm]
    have hpe : ZbT gs p u=ZbT gs p' w:=by
     unfold ZbT
     rw [hg,hm]
     rw [hm] at hany
     rw [hany]
    unfold Kl
    rw [hpe,ih l' (p++[u]) (p'++[w]) hl.2 (by rw [List.map_append,List.map_append,hp,List.map_singleton,List.map_singleton,hl.1])]
 have hfirst : ∀ (l l' : List Zh),l.map QS=l'.map QS→Jx l=Jx l':=by
  intro l
  induction l with
  | nil=>
   intro l' hl
   cases l' with
   | nil=>rfl
   | cons a b=>simp at hl
  | cons u l ih=>
   intro l' hl
   cases l' with
   | nil=>simp at hl
   | cons w l'=>
    rw [List.map_cons,List.map_cons,List.cons.injEq] at hl
    have he : QO u=QO w:=by
     have h1 : u.nm=w.nm:=congrArg (·.1) hl.1
     have h2 : u.hs=w.hs:=congrArg (·.2.1) hl.1
     have h3 : u.ml=w.ml:=congrArg (·.2.2.1) hl.1
     have h4 : u.gs=w.gs:=congrArg (·.2.2.2.2) hl.1
     unfold QO
     rw [h1,h2,h3,h4]
    unfold Jx
    rw [he,ih l' hl.2]
 have hnm : us.map (·.nm)=ws.map (·.nm):=by
  have h1:=congrArg (List.map (·.1)) h
  rw [List.map_map,List.map_map] at h1
  exact h1
 have hlen : us.length=ws.length:=by
  have h1:=congrArg List.length h
  rwa [List.length_map,List.length_map] at h1
 unfold KC W9 Zis
 rw [hfirst us ws h,hnm,hlen,hrest us ws [] [] h rfl]
end
end Go.Proofs.YtedkoimihknggaaGreatDoor.A

namespace Go.Proofs.YtedkoimihknggaaGreatDoor.A
set_option linter.unusedVariables false
set_option linter.unusedSimpArgs false
open Go.Proofs Go.Proofs.YtedkoimihknggaaGreatDoor
def le (x : Nat) : Nat→List UInt8
 | 0=>[]
 | k+1=>UInt8.ofNat (x % 256) :: le (x / 256) k
theorem Wp : ∀ {k x : Nat},(le x k).length=k
 | 0,_=>rfl
 | k+1,x=>by unfold le;rw [List.length_cons,Wp]
def txt (s : List UInt8) : List UInt8:=le s.length 2++s
theorem Zsv (a b : List UInt8) : u8s (a++b)=u8s a++u8s b:=by simp [u8s]
section
variable {H X : Zb} {n p : Nat} {sl x v : Value} {vs ws : List Value} {own : List Nat} {bs s : List UInt8}
theorem Zn.addN {b : Nat} (h : Zn H sl vs own) (hf : ZT 1 H x=some ws) (hn : A.flen x=ws.length) (hb : (vs.length+ws.length) * b≤140737488355328) (hb0 : vs.length+ws.length≤140737488355328) :
  ∃ sl' H' own',app 1 b sl x H=some (sl',H')∧Zn H' sl' (vs++ws) own'∧Zq own H own' H':=by
 by_cases h0 : ws.length=0
 ·have hw : ws=[]:=List.eq_nil_of_length_eq_zero h0
  subst hw
  refine ⟨sl,H,own,?_,by simpa using h,.refl _ _⟩
  rcases h with ⟨rfl,rfl,rfl⟩ | ⟨sid,rest,gr,rfl,rfl,hid⟩
  ·unfold app
   rw [hf]
   simp [hn]
  ·unfold app
   rw [hf]
   simp [hn,hid]
 rcases h with ⟨rfl,rfl,rfl⟩ | ⟨sid,rest,gr,rfl,rfl,hid⟩
 ·refine ⟨_,H++[.cells ws 1 true false],[H.length],?_,.inr ⟨H.length,[],true,rfl,rfl,by simp⟩,⟨by simp,fun j hj _=>List.getElem?_append_left hj,by simp⟩⟩
  unfold app
  rw [hf]
  simp only [hn]
  simp only [List.length_nil,Nat.zero_add] at hb hb0
  rw [if_neg h0,if_pos ⟨hb0,hb⟩]
  simp
 ·have hlt:=Je hid
  by_cases hc : ws.length≤rest.length
  ·have hsp : splice (vs++rest) ws vs.length=vs++(ws++rest.drop ws.length):=by
    unfold splice
    rw [List.take_left,List.drop_append,List.drop_eq_nil_of_le (by omega),List.nil_append,Nat.add_sub_cancel_left,List.append_assoc]
   have hset : (H.set sid (.cells (vs++(ws++rest.drop ws.length)) 1 gr false))[sid]?=some (.cells (vs++(ws++rest.drop ws.length)) 1 gr false):=Qu hid
   refine ⟨.slice (some ⟨sid,0,none⟩) (vs.length+ws.length) (vs.length+rest.length),H.set sid (.cells (vs++(ws++rest.drop ws.length)) 1 gr false),[sid],?_,.inr ⟨sid,rest.drop ws.length,gr,?_,rfl,by rw [hset,List.append_assoc]⟩,⟨by simp,fun j hj hn=>List.getElem?_set_ne (fun e=>hn (by simp [e])),by simp⟩⟩
   ·unfold app
    rw [hf]
    simp only [hn,hid,if_true,Nat.mul_one,Nat.zero_add]
    rw [if_pos (by omega),if_neg h0,if_pos ⟨trivial,by rw [List.length_append];omega⟩,hsp]
   ·rw [List.length_append,List.length_drop]
    congr 1;omega
  ·have hold : ((vs++rest).drop 0).take vs.length=vs:=by rw [List.drop_zero,List.take_left]
   have happ : app 1 b (.slice (some ⟨sid,0,none⟩) vs.length (vs.length+rest.length)) x H=some (.slice (some ⟨H.length,0,none⟩) (vs.length+ws.length) (vs.length+ws.length),(bif gr then H.set sid (.view vs 1 H.length) else H)++[.cells (vs++ws) 1 true false]):=by
    unfold app
    rw [hf]
    simp only [hn,hid,if_true,Nat.mul_one,Nat.zero_add]
    rw [if_neg (by omega),if_pos ⟨by simp,by rw [List.length_append];omega,hb0,hb⟩,hold]
    rfl
   have hnew : ((bif gr then H.set sid (.view vs 1 H.length) else H)++[.cells (vs++ws) 1 true false])[H.length]?=some (.cells (vs++ws) 1 true false):=by
    rw [List.getElem?_append_right (by cases gr <;> simp)]
    cases gr <;> simp
   refine ⟨_,_,[H.length],happ,.inr ⟨H.length,[],true,by simp,rfl,by rw [hnew,List.append_nil]⟩,⟨?_,fun j hj hn=>?_,by simp⟩⟩
   ·cases gr <;> simp
   ·rw [List.getElem?_append_left (by cases gr <;> simpa using hj)]
    cases gr
    ·rfl
    ·exact List.getElem?_set_ne (fun e=>hn (by simp [e]))
structure Wtr (H : Zb) (p : Nat) (bs : List UInt8) (own : List Nat) : Prop where
 o : ∃ sl,H[p]?=some (.cells [sl] 1 false false)∧Zn H sl (u8s bs) own
 ne : p∉own
theorem Wtr.lt (h : Wtr H p bs own) : ∀ j∈p :: own,j < H.length:=by
 obtain ⟨sl,hc,hr⟩:=h.o
 intro j hj
 rcases List.mem_cons.1 hj with rfl | hj
 ·exact Je hc
 ·exact hr.lt j hj
theorem Wtr.keep (h : Wtr H p bs own) (hk : ∀ j∈p :: own,X[j]?=H[j]?) : Wtr X p bs own:=by
 obtain ⟨sl,hc,hr⟩:=h.o
 exact ⟨⟨sl,by rw [hk p (by simp)];exact hc,hr.keep fun j hj=>hk j (by simp [hj])⟩,h.ne⟩
theorem Wtr.step {o1 o2 : List Nat} (h : Wtr H p bs own) (hs : Zq o1 H o2 X) (hn : ∀ j∈p :: own,j∉o1) : Wtr X p bs own:=
 h.keep fun j hj=>hs.keep j (h.lt j hj) (hn j hj)
theorem Wtr.hle (h : Wtr H p bs own) (hl : HLe H X) : Wtr X p bs own:=h.step hl.step (by simp)
theorem Wtr.put {own' : List Nat} {bs' : List UInt8} (h : Wtr H p bs own) (hr : Zn X sl (u8s bs') own') (hs : Zq own H own' X) : ∃ X',st1 (pt p) sl X=some (undef,X')∧Wtr X' p bs' own'∧Zq (p :: own) H (p :: own') X':=by
 obtain ⟨sl0,hc,hr0⟩:=h.o
 have hc1 : X[p]?=some (.cells [sl0] 1 false false):=hs.get hc h.ne
 have hne : p∉own':=fun hm=>by
  rcases hs.own p hm with h1 | h1
  ·exact h.ne h1
  ·have:=Je hc;omega
 have e1 : st1 (pt p) sl X=some (undef,X.set p (.cells [sl] 1 false false)):=ZpZ (o:=0) hc1 (by simp) hr.one.1
 refine ⟨_,e1,⟨⟨sl,Qu hc1,hr.keep fun j hj=>List.getElem?_set_ne (fun e=>hne (by rw [e];exact hj))⟩,hne⟩,?_⟩
 have s1 : Zq [p] X [p] (X.set p (.cells [sl] 1 false false)):=⟨by simp,fun j hj hn=>List.getElem?_set_ne (fun e=>hn (by simp [e])),fun j hj=>.inl hj⟩
 refine (hs.more (o2:=p :: own) (o2':=p :: own') (by simp+contextual) ?_).trans (s1.more (by simp) (fun j hj=>.inl hj))
 intro j hj
 rcases List.mem_cons.1 hj with rfl | hj
 ·exact .inl (by simp)
 ·exact .inr (.inl hj)
theorem ZoZ (x : Nat) : ((UInt8.ofNat (x % 256)).toNat : Int)=(x : Int) % 256:=by
 rw [UInt8.toNat_ofNat']
 omega
theorem Zqf {N : Nat} (hN : N≤1000) : ∀ (t k x : Nat) (bs : List UInt8) (own : List Nat) (H : Zb),N - k=t→k≤N→x < 18446744073709551616→bs.length+t≤1000000000000→Wtr H p bs own→
  ∃ H' own',Zf (c4 (Jb.l1 (R n))) [pt p,.int .u64 x,iv N,iv k] H=some (.ext 0 [pt p],H')∧Wtr H' p (bs++le x t) own'∧Zq (p :: own) H (p :: own') H'
 | 0,k,x,bs,own,H,ht,hk,hx,hb,h=>by
  have : k=N:=by omega
  subst this
  refine ⟨H,own,Qb ?_,by simpa [le] using h,.refl _ _⟩
  rw [ZW]
  unfold Jb.l1
  rw [Za Zm,Zd,if_neg (by simp)]
  rfl
 | t+1,k,x,bs,own,H,ht,hk,hx,hb,h=>by
  have hlt : (k : Int) < N:=by omega
  obtain ⟨sl,hc,hr⟩:=h.o
  have e1 : bsl 1 1 (.int .u8 0) [(0,1,.int .u8 ((UInt8.ofNat (x % 256)).toNat))] H=some (.slice (some ⟨H.length,0,none⟩) 1 1,H++[.cells [.int .u8 ((UInt8.ofNat (x % 256)).toNat)] 1 false false]):=Zpu rfl rfl rfl
  have k1 : HLe H (H++[Zi.cells [.int .u8 ((UInt8.ofNat (x % 256)).toNat)] 1 false false]):=.app _ _
  have s1 : Sl (H++[Zi.cells [.int .u8 ((UInt8.ofNat (x % 256)).toNat)] 1 false false]) (.slice (some ⟨H.length,0,none⟩) 1 1) [.int .u8 ((UInt8.ofNat (x % 256)).toNat)]:=Sl.one (vs:=[.int .u8 ((UInt8.ofNat (x % 256)).toNat)]) ZM
  generalize H++[Zi.cells [.int .u8 ((UInt8.ofNat (x % 256)).toNat)] 1 false false]=X1 at e1 k1 s1
  have h1:=h.hle k1
  have hr1 : Zn X1 sl (u8s bs) own:=hr.step k1.step (by simp)
  have hl : (u8s bs).length=bs.length:=Yy bs
  obtain ⟨sl',X2,own',e2,r2,st2,_⟩:=hr1.push (b:=1) s1 (by omega) (by omega)
  rw [show u8s bs++[.int .u8 ((UInt8.ofNat (x % 256)).toNat)]=u8s (bs++[UInt8.ofNat (x % 256)]) from by simp [u8s]] at r2
  obtain ⟨X3,e3,w3,st3⟩:=h1.put r2 st2
  have hx2 : x / 256 < 18446744073709551616:=by omega
  obtain ⟨H',own2,e4,w4,st4⟩:=Zqf hN t (k+1) (x / 256) (bs++[UInt8.ofNat (x % 256)]) own' X3 (by omega) (by omega) hx2 (by rw [List.length_append,List.length_singleton];omega) w3
  have c1 : cvi .u8 (.int .u64 x) H=some (.int .u8 ((UInt8.ofNat (x % 256)).toNat),H):=by rw [QF,wu8,ZoZ]
  have c2 : ∀ Y,bop .int .shr (.int .u64 x) (.int .u64 8) Y=some (.int .u64 ((x / 256 : Nat) : Int),Y):=fun Y=>by
   rw [Ztx,if_neg (by decide)]
   congr 3
   rw [show (2 : Int) ^ min (8 : Int).toNat IntKind.u64.bits=256 from rfl]
   rw [Int.fdiv_eq_ediv_of_nonneg _ (by decide)]
   omega
  have c3 : ld1 (pt p) H=some (sl,H):=ZeN hc
  refine ⟨H',own2,(ZO ?_).trans e4,?_,(k1.step.more (by simp) (fun j hj=>.inl hj)).trans (st3.trans st4)⟩
  ·rw [ZW]
   unfold Jb.l1
   rw [Za Zm,Zd,if_pos (by simpa using hlt),Za Zt,Za Zz,Za c3,Za c1,Za e1,Za e2,Za Zt,Za Zz,Za e3,Za (c2 _),Za ZD,J5 (by omega)]
   rfl
  ·rw [List.append_assoc] at w4
   exact w4
theorem ZpH {N x : Nat} (hN : N≤1000) (hx : x < 18446744073709551616) (hb : bs.length+N≤1000000000000) (h : Wtr H p bs own) : ∃ H' own',R (n+1) J0 [pt p,.int .u64 x,iv N] H=some (pt p,H')∧Wtr H' p (bs++le x N) own'∧Zq (p :: own) H (p :: own') H':=by
 obtain ⟨H',own',e,w,s⟩:=Zqf (n:=n) hN N 0 x bs own H (by omega) (by omega) hx hb h
 have e : Zf (c4 (Jb.l1 (R n))) [pt p,.int .u64 x,iv N,.int .i64 0] H=_:=e
 refine ⟨H',own',?_,w,s⟩
 rw [R,ZfW rfl]
 unfold Jb
 rw [Q0 e,ZG]
 rfl
theorem Zop {x : Nat} (hx : x < 256) (hb : bs.length≤100000000000) (h : Wtr H p bs own) : ∃ H' own',R (n+2) Qv [pt p,.int .u8 x] H=some (pt p,H')∧Wtr H' p (bs++le x 1) own'∧Zq (p :: own) H (p :: own') H':=by
 obtain ⟨H',own',e,w,s⟩:=ZpH (n:=n) (N:=1) (x:=x) (by omega) (by omega) (by omega) h
 have e : R (n+1) J0 [pt p,.int .u64 x,.int .i64 1] H=_:=e
 have c1 : cvi .u64 (.int .u8 x) H=some (.int .u64 x,H):=by rw [QF,Zrq,Int.emod_eq_of_lt (by omega) (by omega)]
 refine ⟨H',own',?_,w,s⟩
 rw [R,Zfi rfl]
 unfold Zaj
 rw [Za c1,Za e]
 rfl
theorem ZmM {x : Nat} (hx : x < 65536) (hb : bs.length≤100000000000) (h : Wtr H p bs own) : ∃ H' own',R (n+2) Q7 [pt p,.int .u16 x] H=some (pt p,H')∧Wtr H' p (bs++le x 2) own'∧Zq (p :: own) H (p :: own') H':=by
 obtain ⟨H',own',e,w,s⟩:=ZpH (n:=n) (N:=2) (x:=x) (by omega) (by omega) (by omega) h
 have e : R (n+1) J0 [pt p,.int .u64 x,.int .i64 2] H=_:=e
 have c1 : cvi .u64 (.int .u16 x) H=some (.int .u64 x,H):=by rw [QF,Zrq,Int.emod_eq_of_lt (by omega) (by omega)]
 refine ⟨H',own',?_,w,s⟩
 rw [R,Zgj rfl]
 unfold ZaD
 rw [Za c1,Za e]
 rfl
theorem ZrG (n : Int) : IntKind.u16.wrap n=n % 65536:=by simp [IntKind.wrap,IntKind.bits,IntKind.signed]
theorem Ztr : ZT 1 H (strv s)=some (u8s s):=by
 unfold strv ZT
 rfl
theorem Zra : A.flen (strv s)=(u8s s).length:=by
 rw [Yy]
 unfold strv A.flen
 exact ZkM
theorem ZgT (hs : s.length≤65535) (hb : bs.length≤1000000000) (h : Wtr H p bs own) : ∃ H' own',R (n+3) Qw [pt p,strv s] H=some (pt p,H')∧Wtr H' p (bs++txt s) own'∧Zq (p :: own) H (p :: own') H':=by
 obtain ⟨H1,q1,e1,w1,s1⟩:=ZmM (n:=n) (x:=s.length) (by omega) (by omega) h
 obtain ⟨sl,hc,hr⟩:=w1.o
 have hl2 : (u8s (bs++le s.length 2)).length=bs.length+2:=by rw [Yy,List.length_append,Wp]
 have hl3 : (u8s s).length=s.length:=Yy s
 obtain ⟨sl',H2,q2,e2,r2,s2⟩:=hr.addN (b:=1) (x:=strv s) Ztr Zra (by omega) (by omega)
 rw [← Zsv,List.append_assoc] at r2
 obtain ⟨H3,e3,w3,s3⟩:=w1.put r2 s2
 have c0 : mxi false (iv s.length) (.int .i64 65535) H=some (iv s.length,H):=by rw [Ym,if_neg (by omega)]
 have c1 : sls (strv s) none (some (iv s.length)) H=some (strv s,H):=by
  have:=ZoK (s:=s) (k:=s.length) (H:=H) (Nat.le_refl _)
  rwa [List.take_length] at this
 have c2 : cvi .u16 (iv s.length) H=some (.int .u16 s.length,H):=by rw [QF,ZrG,Int.emod_eq_of_lt (by omega) (by omega)]
 have c3 : ld1 (pt p) H1=some (sl,H1):=ZeN hc
 refine ⟨H3,q2,?_,w3,s1.trans s3⟩
 rw [R,Zfr rfl]
 unfold Zae
 rw [Za ZU,Za c0,Za c1,Za ZU,Za c2,Za e1,Za Zt,Za Zz,Za c3,Za e2,Za Zt,Za Zz,Za e3]
 rfl
theorem Zr2 {b : Value} {bs : List UInt8} (hb : Sl H b (u8s bs)) (hp : bs.length≤140737488355328) :
  ∃ v q H',R (n+1) Za0 [b] H=some (v,H')∧Zn H' v (u8s bs) q∧HLe H H'∧∀ j∈q,H.length≤j:=by
 rw [R,Zkh rfl]
 rcases hb.isnil (H':=H) with ⟨rfl,hp0,e⟩ | e
 ·refine ⟨.slice none 0 0,[],H,?_,by rw [hp0];exact Zn.nil,.refl _,by simp⟩
  unfold Zbg
  rw [Za e]
  rfl
 ·have hb2 : Sl (H++[.cells [] 1 false false]) b (u8s bs):=hb.mono (.app _ _)
  obtain ⟨sl',H',own',e2,hr,hle,ho⟩:=Ztp (b:=1) hb2 (by rw [Yy];omega) (by rw [Yy];omega) (s:=.slice (some ⟨H.length,0,none⟩) 0 0) (.inr ⟨H.length,false,rfl,ZM,rfl⟩)
  refine ⟨sl',own',H',?_,hr,(HLe.app _ _).trans hle,fun j hj=>?_⟩
  ·unfold Zbg
   rw [Za e,Zd,if_neg (by simp),Za ZtX,Za e2]
   rfl
  ·rcases ho j hj with h | ⟨_,h⟩
   ·simp at h;omega
   ·cases h;exact Nat.le_refl _
theorem Zrx (hb : bs.length≤1000000000) (h : Wtr H p bs own) : ∃ v q H',R (n+2) J8 [pt p] H=some (v,H')∧Zn H' v (u8s bs) q∧HLe H H'∧∀ j∈q,H.length≤j:=by
 obtain ⟨sl,hc,hr⟩:=h.o
 obtain ⟨v,q,H',e,r,l,o⟩:=Zr2 (n:=n) hr.rd (by omega)
 refine ⟨v,q,H',?_,r,l,o⟩
 rw [R,ZeT rfl]
 unfold WT
 rw [Za Zt,Za Zz,Za (ZeN hc),Za e]
 rfl
theorem ZsM : bld (.agg #[.slice none 0 0]) [] H=some (.agg #[.slice none 0 0],H)∧alc 1 (.agg #[.slice none 0 0]) H=some (pt H.length,H++[.cells [.slice none 0 0] 1 false false])∧Wtr (H++[.cells [.slice none 0 0] 1 false false]) H.length [] []:=
 ⟨rfl,rfl,⟨⟨.slice none 0 0,ZM,Zn.nil⟩,by simp⟩⟩
end
end Go.Proofs.YtedkoimihknggaaGreatDoor.A
namespace Go.Proofs.YtedkoimihknggaaGreatDoor.A
set_option linter.unusedVariables false
set_option linter.unusedSimpArgs false
open Go.Proofs Go.Proofs.YtedkoimihknggaaGreatDoor
abbrev RSt:=Nat × List UInt8
def RB (H : Zb) (sl : Value) (bs : List UInt8) : Prop:=
 (bs=[]∧(sl=.slice none 0 0∨∃ id o j,sl=.slice (some ⟨id,o,some j⟩) 0 0))∨
 ∃ id o c cs g ro,sl=.slice (some ⟨id,o,none⟩) bs.length c∧bs.length≤c∧H[id]?=some (.cells cs 1 g ro)∧o+bs.length≤cs.length∧(cs.drop o).take bs.length=u8s bs
def Rdr (H : Zb) (p : Nat) (s : RSt) : Prop:=
 ∃ sl,H[p]?=some (.cells [sl,iv s.1] 1 false false)∧RB H sl s.2∧(∀ j,own1 sl=some j→j < p)∧(s.1≠0→s.2=[])
section
variable {H X : Zb} {n p : Nat} {sl x v : Value} {vs ws : List Value} {own : List Nat} {bs : List UInt8} {s : RSt}
theorem RB.rd (h : RB H sl bs) : Sl H sl (u8s bs):=by
 rcases h with ⟨rfl,rfl | ⟨id,o,j,rfl⟩⟩ | ⟨id,o,c,cs,g,ro,rfl,h1,h2,h3,h4⟩
 ·exact Sl.nil
 ·exact ⟨_,_,rfl,(fun e=>by cases e),rfl⟩
 ·refine ⟨_,c,by rw [Yy],(fun e=>by cases e),?_⟩
  unfold ZT
  simp only [h2,Nat.mul_one]
  rw [if_pos h3,h4]
theorem RB.one (h : RB H sl bs) : oneCell sl=true:=by
 rcases h with ⟨rfl,rfl | ⟨id,o,j,rfl⟩⟩ | ⟨id,o,c,cs,g,ro,rfl,_⟩ <;> rfl
theorem RB.keep (h : RB H sl bs) (hk : ∀ j,own1 sl=some j→X[j]?=H[j]?) : RB X sl bs:=by
 rcases h with h | ⟨id,o,c,cs,g,ro,rfl,h1,h2,h3,h4⟩
 ·exact .inl h
 ·exact .inr ⟨id,o,c,cs,g,ro,rfl,h1,by rw [hk id rfl];exact h2,h3,h4⟩
theorem RB.cut (h : RB H sl bs) {k : Nat} (hk : k≤bs.length) : ∃ a b,slv 1 sl none (some (iv k)) none H=some (a,H)∧slv 1 sl (some (iv k)) none none H=some (b,H)∧RB H a (bs.take k)∧RB H b (bs.drop k)∧(∀ j,own1 a=some j→own1 sl=some j)∧(∀ j,own1 b=some j→own1 sl=some j):=by
 have b1 : ∀ d,bnd (some (iv k)) d=some k:=fun d=>by simp [bnd]
 have b2 : ∀ d,bnd none d=some d:=fun _=>rfl
 rcases h with ⟨rfl,h⟩ | ⟨id,o,c,cs,g,ro,rfl,h1,h2,h3,h4⟩
 ·have hk0 : k=0:=by simpa using hk
  subst hk0
  rcases h with rfl | ⟨id,o,j,rfl⟩
  ·exact ⟨_,_,rfl,rfl,.inl ⟨rfl,.inl rfl⟩,.inl ⟨rfl,.inl rfl⟩,fun _ h=>h,fun _ h=>h⟩
  ·exact ⟨_,_,rfl,rfl,.inl ⟨rfl,.inr ⟨_,_,_,rfl⟩⟩,.inl ⟨rfl,.inr ⟨_,_,_,rfl⟩⟩,fun _ h=>h,fun _ h=>h⟩
 ·have hA : ∃ a,slv 1 (.slice (some ⟨id,o,none⟩) bs.length c) none (some (iv k)) none H=some (a,H)∧RB H a (bs.take k)∧(∀ j,own1 a=some j→some id=some j):=by
   by_cases h0 : c=0
   ·have hb : bs=[]:=List.eq_nil_of_length_eq_zero (by omega)
    subst hb
    refine ⟨.slice (some ⟨id,o,some (bif g then 1 else 0)⟩) 0 0,?_,.inl ⟨List.take_nil,.inr ⟨_,_,_,rfl⟩⟩,fun j h=>by cases h⟩
    have hk0 : k=0:=by simpa using hk
    subst hk0
    simp only [slv,h2,b1,b2]
    rw [if_pos ⟨trivial,by omega,by omega,Nat.le_refl _⟩,if_pos (by omega)]
   ·have hl : (bs.take k).length=k:=by simp;omega
    refine ⟨.slice (some ⟨id,o,none⟩) k c,?_,.inr ⟨id,o,c,cs,g,ro,by rw [hl],by omega,h2,by omega,?_⟩,fun j h=>h⟩
    ·simp only [slv,h2,b1,b2]
     rw [if_pos ⟨trivial,by omega,by omega,Nat.le_refl _⟩,if_neg (by omega)]
     simp
    ·have:=congrArg (List.take k) h4
     rw [List.take_take,Nat.min_eq_left hk] at this
     rw [hl,this]
     simp [u8s,List.map_take]
  have hB : ∃ b,slv 1 (.slice (some ⟨id,o,none⟩) bs.length c) (some (iv k)) none none H=some (b,H)∧RB H b (bs.drop k)∧(∀ j,own1 b=some j→some id=some j):=by
   by_cases h0 : c=k
   ·have hb : bs.drop k=[]:=List.drop_eq_nil_of_le (by omega)
    refine ⟨.slice (some ⟨id,o,some (bif g then 1 else 0)⟩) 0 0,?_,.inl ⟨hb,.inr ⟨_,_,_,rfl⟩⟩,fun j h=>by cases h⟩
    simp only [slv,h2,b1,b2]
    rw [if_pos ⟨trivial,by omega,by omega,Nat.le_refl _⟩,if_pos (by omega)]
   ·have hl : (bs.drop k).length=bs.length - k:=by simp
    refine ⟨.slice (some ⟨id,o+k,none⟩) (bs.length - k) (c - k),?_,.inr ⟨id,o+k,c - k,cs,g,ro,by rw [hl],by omega,h2,by omega,?_⟩,fun j h=>h⟩
    ·simp only [slv,h2,b1,b2]
     rw [if_pos ⟨trivial,by omega,by omega,Nat.le_refl _⟩,if_neg (by omega)]
     simp
    ·have:=congrArg (List.drop k) h4
     rw [List.drop_take,List.drop_drop] at this
     rw [hl,this]
     simp [u8s,List.map_drop]
  obtain ⟨a,a1,a2,a3⟩:=hA
  obtain ⟨b,c1,c2,c3⟩:=hB
  exact ⟨a,b,a1,c1,a2,c2,a3,c3⟩
theorem Rdr.lt (h : Rdr H p s) : p < H.length:=by
 obtain ⟨sl,hc,_⟩:=h
 exact Je hc
theorem Rdr.other {a : Nat} {o : Zi} (h : Rdr H p s) (ha : p < a) : Rdr (H.set a o) p s:=by
 obtain ⟨sl,h1,h2,h3,h4⟩:=h
 exact ⟨sl,(List.getElem?_set_ne (by omega)).trans h1,h2.keep fun j hj=>List.getElem?_set_ne (by have:=h3 j hj;omega),h3,h4⟩
theorem Rdr.hle (h : Rdr H p s) (hl : HLe H X) : Rdr X p s:=by
 obtain ⟨sl,hc,hr,hn,h0⟩:=h
 refine ⟨sl,hl _ _ hc,hr.keep fun j hj=>?_,hn,h0⟩
 rcases hr with ⟨_,rfl | ⟨id,o,k,rfl⟩⟩ | ⟨id,o,c,cs,g,ro,rfl,h1,h2,h3,h4⟩
 ·cases hj
 ·cases hj
 ·cases hj
  rw [h2,hl _ _ h2]
def Zo9 (s : RSt) : Nat:=if s.1=0 then (if s.2=[] then 0 else 3) else s.1
end
end Go.Proofs.YtedkoimihknggaaGreatDoor.A

namespace Go.Proofs.YtedkoimihknggaaGreatDoor.A
set_option linter.unusedVariables false
set_option linter.unusedSimpArgs false
open Go.Proofs Go.Proofs.YtedkoimihknggaaGreatDoor
def Zri (e : Ent) : Zh:=⟨e.1,e.2,[],false,.slice none 0 0,[]⟩
theorem Zst (e : Ent) (H : Zb) : (Zri e).ok H:=.inl ⟨rfl,.inl rfl⟩
theorem Zol {k : List UInt8} (h : Za2 k=true) : k.length≤12:=by
 unfold Za2 at h
 simp only [Bool.and_eq_true,decide_eq_true_eq] at h
 exact h.1.2
theorem ZaL {s : List UInt8} : (txt s).length=s.length+2:=by unfold txt;rw [List.length_append,Wp];omega
section
variable {H X : Zb} {n p d b : Nat} {sl x v : Value} {own q : List Nat} {bs : List UInt8} {m : List Ent} {e : Ent}
theorem JG.users (hr : JG 5 H v (m.map usr) q) : Users H v (m.map Zri):=
 ⟨by have h:=hr.rd;rw [List.map_map];exact h,fun u hu=>by obtain ⟨e,_,rfl⟩:=List.mem_map.1 hu;exact Zst e H⟩
end
end Go.Proofs.YtedkoimihknggaaGreatDoor.A
namespace Go.Proofs.YtedkoimihknggaaGreatDoor.A
set_option linter.unusedVariables false
set_option linter.unusedSimpArgs false
open Go.Proofs Go.Proofs.YtedkoimihknggaaGreatDoor
section
variable {H X : Zb} {n p d b : Nat} {sl x v : Value} {own q : List Nat} {bs : List UInt8} {m : List Ent} {e : Ent} {s : RSt}
theorem Rdr.step {o1 o2 : List Nat} (h : Rdr H p s) (hs : Zq o1 H o2 X) (hn : ∀ j∈o1,p < j) : Rdr X p s:=by
 obtain ⟨sl,h1,h2,h3,h4⟩:=h
 refine ⟨sl,hs.get h1 fun hm=>Nat.lt_irrefl _ (hn _ hm),h2.keep fun j hj=>hs.keep j ?_ fun hm=>?_,h3,h4⟩
 ·have:=h3 j hj;have:=Je h1;omega
 ·have:=h3 j hj;have:=hn j hm;omega
end
end Go.Proofs.YtedkoimihknggaaGreatDoor.A
namespace Go.Proofs.YtedkoimihknggaaGreatDoor.A
set_option linter.unusedVariables false
set_option linter.unusedSimpArgs false
open Go.Proofs Go.Proofs.YtedkoimihknggaaGreatDoor
section
variable {H0 H X : Zb} {n p d b : Nat} {u w : Zh} {us ws : List Zh} {sl a c v : Value} {bs : List UInt8} {m : List Ent}
end
end Go.Proofs.YtedkoimihknggaaGreatDoor.A

namespace Go.Proofs.YtedkoimihknggaaGreatDoor.A
set_option linter.unusedVariables false
set_option linter.unusedSimpArgs false
open Go.Proofs Go.Proofs.YtedkoimihknggaaGreatDoor
section
variable {H0 H X : Zb} {n p d b : Nat} {a c v : Value} {bs s : List UInt8} {β : Type} {K : Value→M β}
end
end Go.Proofs.YtedkoimihknggaaGreatDoor.A

namespace Go.Proofs.YtedkoimihknggaaGreatDoor.A
set_option linter.unusedVariables false
set_option linter.unusedSimpArgs false
open Go.Proofs Go.Proofs.YtedkoimihknggaaGreatDoor
section
variable {H0 H X : Zb} {n p d b : Nat} {a c v : Value} {bs : List UInt8} {β : Type} {K : Value→M β} {s : RSt}
end
end Go.Proofs.YtedkoimihknggaaGreatDoor.A

namespace Go.Proofs.YtedkoimihknggaaGreatDoor.A
set_option linter.unusedVariables false
set_option linter.unusedSimpArgs false
open Go.Proofs Go.Proofs.YtedkoimihknggaaGreatDoor
section
variable {H0 H X : Zb} {n p d b : Nat} {a c v : Value} {bs : List UInt8} {s : RSt} {q : List Nat}
theorem JG.us {m : List Ent} (h : JG 5 H v (m.map usr) q) : J7 H v (m.map Zri):=h.users.s (fun u hu=>by obtain ⟨e,_,rfl⟩:=List.mem_map.1 hu;exact Nat.zero_le _)
end
end Go.Proofs.YtedkoimihknggaaGreatDoor.A

namespace Go.Proofs.YtedkoimihknggaaGreatDoor.A
set_option linter.unusedVariables false
set_option maxRecDepth 100000
set_option linter.unusedSimpArgs false
open Go.Proofs Go.Proofs.YtedkoimihknggaaGreatDoor
def Zgk (b : Bool) : List UInt8:=le (if b then 1 else 0) 1
def Zh1 (l : List Tx) : List UInt8:=le l.length 2++(l.map txt).flatten
def Zkr (k : KJ) : List UInt8:=txt k.1++(txt k.2.1++(txt k.2.2.1++(Zgk k.2.2.2.1++Zh1 k.2.2.2.2)))
def Zca (l : List KJ) : List UInt8:=(l.map Zkr).flatten
def Zea (K : List Tx) (ks : List KJ) : List UInt8:=le 2 1++(Zh1 K++(le ks.length 2++Zca ks))
def uOf (k : KJ) : Zh:=⟨k.1,k.2.1,k.2.2.1,k.2.2.2.1,.slice none 0 0,k.2.2.2.2⟩
def Zii (k : KJ) : Nat:=(QO (uOf k)).toNat
def ofK (ks : List KJ) (gs : List Tx) : Nat:=(KC (ks.map uOf) gs).toNat
section
variable {s : RSt} {k : KJ} {ks : List KJ} {l K : List Tx} {r t : List UInt8} {us : List Zh}
theorem Zq5 (k : KJ) : QS (uOf k)=k:=rfl
theorem Zkw (ks : List KJ) : (ks.map uOf).map QS=ks:=by
 rw [List.map_map]
 exact (List.map_congr_left fun a _=>Zq5 a).trans (List.map_id ks)
theorem Zh2 {u : Zh} : 0≤QO u∧QO u≤12:=by
 unfold QO Zcl
 repeat' split
 all_goals exact ⟨by decide,by decide⟩
theorem Zqv {u w : Zh} (h : QS u=QS w) : QO u=QO w:=by
 have h1 : u.nm=w.nm:=congrArg (·.1) h
 have h2 : u.hs=w.hs:=congrArg (·.2.1) h
 have h3 : u.ml=w.ml:=congrArg (·.2.2.1) h
 have h4 : u.gs=w.gs:=congrArg (·.2.2.2.2) h
 unfold QO
 rw [h1,h2,h3,h4]
theorem Zou {u : Zh} : QO u=Zii (QS u):=by
 unfold Zii
 rw [Int.toNat_of_nonneg Zh2.1]
 exact Zqv rfl
theorem Zjv : ∀ {us : List Zh},0≤Jx us
 | []=>Int.le_refl _
 | u :: us=>by
  unfold Jx
  split
  ·exact Zjv
  ·exact Zh2.1
theorem Zrv {gs : List Tx} {p : List Zh} {u : Zh} : 0≤ZbT gs p u:=by
 unfold ZbT
 repeat' split
 all_goals decide
theorem ZmD {gs : List Tx} : ∀ {us p : List Zh},0≤Kl gs p us
 | [],p=>by unfold Kl;exact Int.le_refl _
 | u :: us,p=>by
  unfold Kl
  split
  ·exact ZmD
  ·exact Zrv
theorem Zsr : 0≤W9 us l:=by
 unfold W9 Zis
 have:=Zjv (us:=us)
 repeat' split
 all_goals first | exact this | decide
theorem Zia : 0≤KC us l:=by
 unfold KC
 split
 ·exact ZmD
 ·exact Zsr
theorem ZsI : KC us l=ofK (us.map QS) l:=by
 unfold ofK
 rw [Int.toNat_of_nonneg Zia]
 exact Zmp (Zkw _).symm
theorem Zom {m : Tx} (h : Zaa m=true) : m.length≤20:=by
 rcases ZgM h with h | ⟨h,_⟩
 ·rw [h];decide
 ·unfold Wj at h
  rw [Bool.and_eq_true,decide_eq_true_eq] at h
  exact h.1
structure Zi0 (k : KJ) : Prop where
 n : k.1.length≤12
 h : k.2.1.length≤12
 m : k.2.2.1.length≤20
 g : k.2.2.2.2.length≤6
 gs : ∀ x∈k.2.2.2.2,x.length≤12
theorem ZrO (h : Zii k=0) : Zi0 k:=by
 have h0 : QO (uOf k)=0:=by
  have:=Zh2 (u:=uOf k)
  unfold Zii at h
  omega
 obtain ⟨h1,h2,h3,h4,h5,_⟩:=ZcQ h0
 exact ⟨WM h1,Zol h2,Zom h3,h4,fun x hx=>WM (List.all_eq_true.1 h5 x hx)⟩
theorem Zty (h : ofK ks l=0) : (∀ k∈ks,Zii k=0)∧ks.length≤12∧l.length≤6∧(∀ x∈l,x.length≤12)∧Yb l=true∧l.all Zw=true:=by
 have h0 : KC (ks.map uOf) l=0:=by
  have:=Zia (us:=ks.map uOf) (l:=l)
  unfold ofK at h
  omega
 have hc : W9 (ks.map uOf) l=0:=by
  unfold KC at h0
  by_cases hc : W9 (ks.map uOf) l=0
  ·exact hc
  ·rw [if_neg hc] at h0;exact h0
 obtain ⟨h1,_,h3,h4,h5,h6⟩:=Zm2 hc
 rw [List.length_map] at h3
 refine ⟨fun k hk=>?_,h3,h6,fun x hx=>WM (List.all_eq_true.1 h4 x hx),h5,h4⟩
 have:=Zgu h1 (uOf k) (List.mem_map.2 ⟨k,hk,rfl⟩)
 unfold Zii
 rw [this];rfl
theorem Zf4 {b : Nat} : ∀ {l : List Tx},(∀ x∈l,x.length≤b)→((l.map txt).flatten).length≤l.length * (b+2)
 | [],_=>by simp
 | x :: l,h=>by
  have h1:=h x (by simp)
  have h2:=Zf4 (b:=b) (l:=l) fun y hy=>h y (by simp [hy])
  rw [List.map_cons,List.flatten_cons,List.length_append,ZaL,List.length_cons,Nat.add_mul]
  omega
theorem ZhZ {b : Nat} (h : ∀ x∈l,x.length≤b) : (Zh1 l).length≤2+l.length * (b+2):=by
 unfold Zh1
 rw [List.length_append,Wp]
 have:=Zf4 h
 omega
theorem ZjU (b : Bool) : (Zgk b).length=1:=by unfold Zgk;rw [Wp]
theorem Znc (h : Zi0 k) : (Zkr k).length≤137:=by
 unfold Zkr
 rw [List.length_append,List.length_append,List.length_append,List.length_append,ZaL,ZaL,ZaL,ZjU]
 have h1:=ZhZ h.gs
 have h2:=h.g
 have:=h.n
 have:=h.h
 have:=h.m
 have h3 : k.2.2.2.2.length * (12+2)≤6 * (12+2):=Nat.mul_le_mul_right _ h2
 omega
theorem ZiR : ∀ {ks : List KJ},(∀ k∈ks,Zi0 k)→(Zca ks).length≤ks.length * 137
 | [],_=>by simp [Zca]
 | k :: ks,h=>by
  have h1:=Znc (h k (by simp))
  have h2:=ZiR (ks:=ks) fun y hy=>h y (by simp [hy])
  unfold Zca at h2 ⊢
  rw [List.map_cons,List.flatten_cons,List.length_append,List.length_cons,Nat.add_mul]
  omega
theorem ZqX (h : ∀ k∈ks,Zi0 k) (hn : ks.length≤12) (hl : l.length≤6) (hx : ∀ x∈l,x.length≤12) : (Zea l ks).length≤1733:=by
 unfold Zea
 rw [List.length_append,List.length_append,List.length_append,Wp,Wp]
 have h1:=ZhZ hx
 have h2:=ZiR h
 have h3 : l.length * (12+2)≤6 * (12+2):=Nat.mul_le_mul_right _ hl
 have h4 : ks.length * 137≤12 * 137:=Nat.mul_le_mul_right _ hn
 omega
end
end Go.Proofs.YtedkoimihknggaaGreatDoor.A

