/- What the law MigrateBytes needs (part 6). -/
import Derived.Test.YtedkoimihknggaaGreatDoorZMigrateBytes5
namespace Go.Proofs.YtedkoimihknggaaGreatDoor.A
set_option linter.unusedVariables false
set_option maxRecDepth 100000
set_option linter.unusedSimpArgs false
open Go.Proofs Go.Proofs.YtedkoimihknggaaGreatDoor
abbrev uZ : Zp:=⟨[],[],[],false,.slice none 0 0,[]⟩
structure B5 (H X : Zd) (P1 P2 P3 P4 P5 : Nat) (s : RSt) (u : Zp) : Prop where
 b1 : X[P1]?=some (.cells (RR s) 1 false false)
 b2 : X[P2]?=some (.cells (RR (0,[])) 1 false false)
 b3 : X[P3]?=some (.cells uZ.cells 1 false false)
 b4 : X[P4]?=some (.cells uZ.cells 1 false false)
 b5 : X[P5]?=some (.cells u.cells 1 false false)
 le : HLe H X
 o : H.length≤P1∧P1 < P2∧P2 < P3∧P3 < P4∧P4 < P5
section
variable {H0 H X X' : Zd} {n p d b M L P1 P2 P3 P4 P5 i : Nat} {a c v : Value} {bs : List UInt8} {s s' : RSt} {u u' : Zp}
theorem B5.hle (h : B5 H X P1 P2 P3 P4 P5 s u) (hl : HLe X X') : B5 H X' P1 P2 P3 P4 P5 s u:=⟨hl _ _ h.b1,hl _ _ h.b2,hl _ _ h.b3,hl _ _ h.b4,hl _ _ h.b5,h.le.trans hl,h.o⟩
theorem B5.putR (h : B5 H X P1 P2 P3 P4 P5 s u) (s' : RSt) : ∃ X',stA 2 (pt P1) (.agg (RR s').toArray) X=some (undef,X')∧B5 H X' P1 P2 P3 P4 P5 s' u∧X.length=X'.length∧∀ j,P5 < j→X'[j]?=X[j]?:=by
 have ho:=h.o
 refine ⟨_,Ja (vs:=RR s') (n:=2) h.b1 rfl rfl (ZL _),⟨ZI h.b1,(List.getElem?_set_ne (by omega)).trans h.b2,(List.getElem?_set_ne (by omega)).trans h.b3,(List.getElem?_set_ne (by omega)).trans h.b4,(List.getElem?_set_ne (by omega)).trans h.b5,h.le.put (by omega),ho⟩,by simp,fun j hj=>List.getElem?_set_ne (by omega)⟩
theorem B5.putU (h : B5 H X P1 P2 P3 P4 P5 s u) (hi : i < 5) (hv : oneCell v=true) (hu : u.cells.set i v=u'.cells) : ∃ X',st1 (pa P5 i) v X=some (undef,X')∧B5 H X' P1 P2 P3 P4 P5 s u'∧X.length=X'.length∧∀ j,P5 < j→X'[j]?=X[j]?:=by
 have ho:=h.o
 have w:=W8 (o:=i) h.b5 (by simpa using hi) hv
 rw [hu] at w
 refine ⟨_,w,⟨(List.getElem?_set_ne (by omega)).trans h.b1,(List.getElem?_set_ne (by omega)).trans h.b2,(List.getElem?_set_ne (by omega)).trans h.b3,(List.getElem?_set_ne (by omega)).trans h.b4,ZI h.b5,h.le.put (by omega),ho⟩,by simp,fun j hj=>List.getElem?_set_ne (by omega)⟩
theorem B5.d1 (h : B5 H X P1 P2 P3 P4 P5 s u) : ldA 2 (pt P1) X=some (.agg (RR s).toArray,X):=ZE (n:=2) h.b1 rfl
theorem B5.d5 (h : B5 H X P1 P2 P3 P4 P5 s u) : ldA 5 (pt P5) X=some (.agg u.cells.toArray,X):=ZE (n:=5) h.b5 rfl
theorem Zl7 (hv : oneCell u.gv=true) : u.cells.all oneCell=true:=by simp only [Zp.cells,List.all_cons,hv];rfl
theorem B5.fin (h : B5 H X P1 P2 P3 P4 P5 s u) {Q : Nat} (hQ : Q=P4∨Q=P5) (bQ : X[Q]?=some (.cells u'.cells 1 false false)) (hv : oneCell u'.gv=true) : ∃ X',(bind (ldA 2 (pt P1)) fun y54=>bind (ldA 5 (pt Q)) fun y55=>bind (stA 2 (pt P2) y54) fun _=>bind (ldA 5 (pt Q)) fun u_56=>same u_56 y55 <| bind (stA 5 (pt P3) y55) fun _=>bind (ldA 2 (pt P2)) fun y57=>bind (ldA 5 (pt P3)) fun y58=>ret (Value.tuple #[y57,y58])) X=some (.tuple #[.agg (RR s).toArray,.agg u'.cells.toArray],X')∧HLe H X'∧∀ j,P5 < j→X'[j]?=X[j]?:=by
 have ho:=h.o
 have we:=Ja (vs:=RR s) (n:=2) h.b2 rfl rfl (ZL _)
 have x1 : ldA 5 (pt Q) X=some (.agg u'.cells.toArray,X):=ZE (n:=5) bQ rfl
 have x2 : ldA 5 (pt Q) (X.set P2 (.cells (RR s) 1 false false))=some (.agg u'.cells.toArray,_):=ZE (n:=5) ((List.getElem?_set_ne (by omega)).trans bQ) rfl
 have c3 : (X.set P2 (.cells (RR s) 1 false false))[P3]?=some (.cells uZ.cells 1 false false):=(List.getElem?_set_ne (by omega)).trans h.b3
 have x3:=Ja (vs:=u'.cells) (n:=5) c3 rfl rfl (Zl7 hv)
 have x4 : ldA 2 (pt P2) ((X.set P2 (.cells (RR s) 1 false false)).set P3 (.cells u'.cells 1 false false))=some (.agg (RR s).toArray,_):=ZE (n:=2) ((List.getElem?_set_ne (by omega)).trans (ZI h.b2)) rfl
 have x5 : ldA 5 (pt P3) ((X.set P2 (.cells (RR s) 1 false false)).set P3 (.cells u'.cells 1 false false))=some (.agg u'.cells.toArray,_):=ZE (n:=5) (ZI c3) rfl
 refine ⟨(X.set P2 (.cells (RR s) 1 false false)).set P3 (.cells u'.cells 1 false false),?_,(h.le.put (by omega)).put (by omega),fun j hj=>(List.getElem?_set_ne (by omega)).trans (List.getElem?_set_ne (by omega))⟩
 rw [Za h.d1,Za x1,Za we,Za x2,Qn,Za x3,Za x4,Za x5]
 rfl
theorem Zxz (hl : s.2.length≤1000000000) (ho : okR s) : ∃ u q H',R (n+6) Wi [.agg (RR s).toArray,iv 2] H=some (.tuple #[.agg (RR (Zcv s).2).toArray,.agg (Zp.cells u).toArray],H')∧ZW u=(Zcv s).1∧Zs H' u.gv (u.gs.map strv) q∧(∀ j∈q,H.length≤j)∧u.gs.length≤65535∧HLe H H'∧okR (Zcv s).2∧(Zcv s).2.2.length≤s.2.length:=by
 have U0 : uZ.cells.all oneCell=true:=rfl
 have z1:=bx (X:=H) (ZL s)
 have k1 : HLe H (H++[Zc.cells (RR s) 1 false false]):=.app _ _
 have g1 : (H++[Zc.cells (RR s) 1 false false])[H.length]?=some (.cells (RR s) 1 false false):=Zm
 generalize H++[Zc.cells (RR s) 1 false false]=X1 at z1 k1 g1
 have z2:=bx (X:=X1) (ZL (0,[]))
 have k2 : HLe X1 (X1++[Zc.cells (RR (0,[])) 1 false false]):=.app _ _
 have g2 : (X1++[Zc.cells (RR (0,[])) 1 false false])[X1.length]?=some (.cells (RR (0,[])) 1 false false):=Zm
 generalize X1++[Zc.cells (RR (0,[])) 1 false false]=X2 at z2 k2 g2
 have z3:=bx (X:=X2) U0
 have k3 : HLe X2 (X2++[Zc.cells uZ.cells 1 false false]):=.app _ _
 have g3 : (X2++[Zc.cells uZ.cells 1 false false])[X2.length]?=some (.cells uZ.cells 1 false false):=Zm
 generalize X2++[Zc.cells uZ.cells 1 false false]=X3 at z3 k3 g3
 have z4:=fun {K : Value→A.M Value}=>Zcs (H:=X3) (n:=5) (zs:=uZ.cells) (r:=uZ.cells) (K:=K) rfl rfl U0 U0
 have k4 : HLe X3 (X3++[Zc.cells uZ.cells 1 false false]):=.app _ _
 have g4 : (X3++[Zc.cells uZ.cells 1 false false])[X3.length]?=some (.cells uZ.cells 1 false false):=Zm
 generalize X3++[Zc.cells uZ.cells 1 false false]=X4 at z4 k4 g4
 have z5:=fun {K : Value→A.M Value}=>Zcs (H:=X4) (n:=5) (zs:=uZ.cells) (r:=uZ.cells) (K:=K) rfl rfl U0 U0
 have k5 : HLe X4 (X4++[Zc.cells uZ.cells 1 false false]):=.app _ _
 have g5 : (X4++[Zc.cells uZ.cells 1 false false])[X4.length]?=some (.cells uZ.cells 1 false false):=Zm
 generalize X4++[Zc.cells uZ.cells 1 false false]=X5 at z5 k5 g5
 have l1:=Z5 g1
 have l2:=Z5 g2
 have l3:=Z5 g3
 have l4:=Z5 g4
 have dz : ldA 5 (pt X3.length) X4=some (.agg uZ.cells.toArray,X4):=ZE (n:=5) g4 rfl
 have B : B5 H X5 H.length X1.length X2.length X3.length X4.length s uZ:=⟨k5 _ _ (k4 _ _ (k3 _ _ (k2 _ _ g1))),k5 _ _ (k4 _ _ (k3 _ _ g2)),k5 _ _ (k4 _ _ g3),k5 _ _ g4,g5,(((k1.trans k2).trans k3).trans k4).trans k5,⟨Nat.le_refl _,l1,l2,l3,l4⟩⟩
 generalize hP1 : H.length=P1 at z1 B
 generalize X1.length=P2 at z2 B
 generalize X2.length=P3 at z3 B
 generalize X3.length=P4 at z4 dz B
 generalize X4.length=P5 at z5 B
 have zb : bld (.agg #[.string ⟨#[]⟩,.string ⟨#[]⟩,.string ⟨#[]⟩,.bool false,.slice none 0 0]) [] X3=some (.agg uZ.cells.toArray,X3):=rfl
 have q1 : bop .int .lss (iv 2) (.int .i64 1) X4=some (.bool false,X4):=by rw [Zg];rfl
 have q2 : bop .int .gtr (iv 2) (.int .i64 2) X4=some (.bool false,X4):=by rw [ZF];rfl
 unfold Zcv Zho
 simp only
 obtain ⟨X6,e6,k6⟩:=ZeS (n:=n+1) (M:=65535) (H:=X5) (by omega) hl ho
 have e6 : R (n+5) Qt [.agg (RR s).toArray,.int .i64 65535] X5=_:=e6
 have ho1 : okR (ZV 65535 s).2:=Zby ho
 have hl1 : (ZV 65535 s).2.2.length≤s.2.length:=ZfA
 generalize ZV 65535 s=T at e6 ho1 hl1 ⊢
 obtain ⟨nm,s1⟩:=T
 simp only at e6 ho1 hl1 ⊢
 obtain ⟨X7,w6,B7,_,_⟩:=(B.hle k6).putR s1
 obtain ⟨X8,w7,B8,_,_⟩:=B7.putU (i:=0) (v:=strv nm) (u':=⟨nm,[],[],false,.slice none 0 0,[]⟩) (by omega) rfl rfl
 obtain ⟨X9,e9,k9⟩:=ZeS (n:=n+1) (M:=65535) (s:=s1) (H:=X8) (by omega) (by omega) ho1
 have e9 : R (n+5) Qt [.agg (RR s1).toArray,.int .i64 65535] X8=_:=e9
 have ho2 : okR (ZV 65535 s1).2:=Zby ho1
 have hl2 : (ZV 65535 s1).2.2.length≤s1.2.length:=ZfA
 generalize ZV 65535 s1=T at e9 ho2 hl2 ⊢
 obtain ⟨hs,s2⟩:=T
 simp only at e9 ho2 hl2 ⊢
 obtain ⟨Xa,w9,Ba,_,_⟩:=(B8.hle k9).putR s2
 obtain ⟨Xb,wa,Bb,_,_⟩:=Ba.putU (i:=1) (v:=strv hs) (u':=⟨nm,hs,[],false,.slice none 0 0,[]⟩) (by omega) rfl rfl
 have q3 : bop .int .eql (iv 2) (.int .i64 2) Xb=some (.bool true,Xb):=by rw [ZA];rfl
 obtain ⟨Xc,ec,kc⟩:=ZeS (n:=n+1) (M:=65535) (s:=s2) (H:=Xb) (by omega) (by omega) ho2
 have ec : R (n+5) Qt [.agg (RR s2).toArray,.int .i64 65535] Xb=_:=ec
 have ho3 : okR (ZV 65535 s2).2:=Zby ho2
 have hl3 : (ZV 65535 s2).2.2.length≤s2.2.length:=ZfA
 generalize ZV 65535 s2=T at ec ho3 hl3 ⊢
 obtain ⟨ml,s3⟩:=T
 simp only at ec ho3 hl3 ⊢
 obtain ⟨Xd,wc,Bd,_,_⟩:=(Bb.hle kc).putR s3
 obtain ⟨Xe,wd,Be,_,_⟩:=Bd.putU (i:=2) (v:=strv ml) (u':=⟨nm,hs,ml,false,.slice none 0 0,[]⟩) (by omega) rfl rfl
 obtain ⟨Xf,ef,kf⟩:=Zr6 (n:=n+1) (s:=s3) (H:=Xe) (by omega) ho3
 have ef : R (n+5) K5 [.agg (RR s3).toArray] Xe=_:=ef
 have ho4 : okR (KQ s3).2:=Zul ho3
 have hl4 : (KQ s3).2.2.length≤s3.2.length:=ZvR
 generalize KQ s3=T at ef ho4 hl4 ⊢
 obtain ⟨ds,s4⟩:=T
 simp only at ef ho4 hl4 ⊢
 obtain ⟨Xg,wf,Bg,_,_⟩:=(Be.hle kf).putR s4
 obtain ⟨Xh,wg,Bh,_,_⟩:=Bg.putU (i:=3) (v:=.bool ds) (u':=⟨nm,hs,ml,ds,.slice none 0 0,[]⟩) (by omega) rfl rfl
 obtain ⟨Xi,gv,q,ei,ki,ri,oi⟩:=ZoT (n:=n) (M:=65535) (L:=65535) (s:=s4) (H:=Xh) (by omega) (by omega) (by omega) ho4
 have ei : R (n+5) KA [.agg (RR s4).toArray,.int .i64 65535,.int .i64 65535] Xh=_:=ei
 have ho5 : okR (KM 65535 65535 s4).2:=ZsB ho4
 have hl5 : (KM 65535 65535 s4).2.2.length≤s4.2.length:=ZuW
 have hg5 : (KM 65535 65535 s4).1.length≤65535:=Zhl
 have hP5 : P5 < Xh.length:=Z5 Bh.b5
 generalize KM 65535 65535 s4=T at ei ri ho5 hl5 hg5 ⊢
 obtain ⟨gs,s5⟩:=T
 simp only at ei ri ho5 hl5 hg5 ⊢
 obtain ⟨Xj,wi,Bj,_,kj⟩:=(Bh.hle ki).putR s5
 obtain ⟨Xk,wj,Bk,_,kk⟩:=Bj.putU (i:=4) (v:=gv) (u':=⟨nm,hs,ml,ds,gv,gs⟩) (by omega) ri.one.1 rfl
 have hq : ∀ j∈q,P5 < j:=fun j hj=>by have:=oi j hj;omega
 have rk : Zs Xk gv (gs.map strv) q:=(ri.keep fun j hj=>kj j (hq j hj)).keep fun j hj=>kk j (hq j hj)
 have hok : UOK Xk ⟨nm,hs,ml,ds,gv,gs⟩:=⟨rk.rd,ri.one.1,by show gs.length≤1000000;omega⟩
 obtain ⟨Xl,el,kl⟩:=ZkY (n:=n) hok
 have hke : QT ⟨nm,hs,ml,ds,gv,gs⟩=K6 (nm,hs,ml,ds,gs):=Zfc
 rw [hke] at el
 have Bl:=Bk.hle kl
 have hek:=ZsU (k:=(nm,hs,ml,ds,gs))
 obtain ⟨Xm,em,km⟩:=ZgD (n:=n+4) (H:=Xl) (s:=s5) (e:=K6 (nm,hs,ml,ds,gs)) (by omega)
 have em : R (n+5) Jp [.agg (RR s5).toArray,iv (K6 (nm,hs,ml,ds,gs))] Xl=_:=em
 have ho6 : okR (Z3 (K6 (nm,hs,ml,ds,gs)) s5):=Zfz ho5
 have hl6 : (Z3 (K6 (nm,hs,ml,ds,gs)) s5).2.length≤s5.2.length:=Zot
 generalize Z3 (K6 (nm,hs,ml,ds,gs)) s5=s6 at em ho6 hl6 ⊢
 obtain ⟨Xn,wm,Bn,_,kn⟩:=(Bl.hle km).putR s6
 have rn : Zs Xn gv (gs.map strv) q:=((rk.step kl.step (by simp)).step km.step (by simp)).keep fun j hj=>kn j (hq j hj)
 have an : ld1 (pa P1 1) Xn=some (iv s6.1,Xn):=ZN Bn.b1 rfl
 have qn : bop .int .neq (iv s6.1) (.int .i64 0) Xn=some (.bool (s6.1 !=0),Xn):=by rw [Zq,YX]
 have z3 : alc 1 (.agg #[.string ⟨#[]⟩,.string ⟨#[]⟩,.string ⟨#[]⟩,.bool false,.slice none 0 0]) X2=some (pt P3,X3):=z3
 have z4 : ∀ {K : Value→A.M Value},bind (alc 1 (.agg #[.string ⟨#[]⟩,.string ⟨#[]⟩,.string ⟨#[]⟩,.bool false,.slice none 0 0])) (fun q=>bind (stA 5 q (.agg uZ.cells.toArray)) fun _=>K q) X3=K (pt P4) X4:=z4
 have z5 : ∀ {K : Value→A.M Value},bind (alc 1 (.agg #[.string ⟨#[]⟩,.string ⟨#[]⟩,.string ⟨#[]⟩,.bool false,.slice none 0 0])) (fun q=>bind (stA 5 q (.agg uZ.cells.toArray)) fun _=>K q) X4=K (pt P5) X5:=z5
 have z2 : alc 1 (.agg #[.string ⟨#[]⟩,.int .i64 0]) X1=some (pt P2,X2):=z2
 have pre : ∀ r H',((bind (fa 1 (pt P1)) fun y51=>bind (ld1 y51) fun y52=>bind (bop .int .neq y52 (Value.int .i64 0)) fun y53=>
   cnd y53
   (bind (ldA 2 (pt P1)) fun y54=>bind (ldA 5 (pt P4)) fun y55=>bind (stA 2 (pt P2) y54) fun _=>bind (ldA 5 (pt P4)) fun u_56=>same u_56 y55 <| bind (stA 5 (pt P3) y55) fun _=>bind (ldA 2 (pt P2)) fun y57=>bind (ldA 5 (pt P3)) fun y58=>ret (Value.tuple #[y57,y58]))
   (bind (ldA 2 (pt P1)) fun y54=>bind (ldA 5 (pt P5)) fun y55=>bind (stA 2 (pt P2) y54) fun _=>bind (ldA 5 (pt P5)) fun u_56=>same u_56 y55 <| bind (stA 5 (pt P3) y55) fun _=>bind (ldA 2 (pt P2)) fun y57=>bind (ldA 5 (pt P3)) fun y58=>ret (Value.tuple #[y57,y58])))) Xn=some (r,H')→R (n+6) Wi [.agg (RR s).toArray,iv 2] H=some (r,H'):=fun r H' hr=>by
  rw [R,Zi9 rfl]
  unfold Ze5
  rw [Za z1,Za z2,Za z3,Za zb,z4,Za q1,ZK,Zf,Za q2,ZQ,ZP,Za Zh]
  simp only [cond_false]
  rw [Zb,if_neg (by simp),Za dz,z5,Za B.d1,Za e6,Za Zo,Za Zn,Za w6,Za Zi,Za w7,Za B8.d1,Za e9,Za Zo,Za Zn,Za w9,Za Zi,Za wa,Za q3]
  refine (Qf (vs:=[iv 2,pt P1,pt P2,pt P3,pt P4,pt P5]) (H':=Xk) ?_).trans ?_
  ·rw [Zb,if_pos rfl,Za Bb.d1,Za ec,Za Zo,Za Zn,Za wc,Za Zi,Za wd,Za Be.d1,Za ef,Za Zo,Za Zn,Za wf,Za Zi,Za wg,Za Bh.d1,Za ei,Za Zo,Za Zn,Za wi,Za Zi,Za wj]
   rfl
  ·rw [Jx,Za Bk.d1,Za Bk.d5,Za el,Za Bl.d1,Qn,Za em,Za wm]
   exact hr
 by_cases h0 : s6.1=0
 ·rw [if_pos h0]
  obtain ⟨Xo,eo,ko,kko⟩:=Bn.fin (Q:=P5) (.inr rfl) Bn.b5 ri.one.1
  refine ⟨⟨nm,hs,ml,ds,gv,gs⟩,q,Xo,pre _ _ ?_,rfl,rn.keep fun j hj=>kko j (hq j hj),fun j hj=>?_,hg5,ko,ho6,by omega⟩
  ·rw [Za Zi,Za an,Za qn,Zb,if_neg (by simp [h0])]
   exact eo
  ·have:=hq j hj
   have:=Bn.o
   omega
 ·rw [if_neg h0]
  obtain ⟨Xo,eo,ko,kko⟩:=Bn.fin (Q:=P4) (.inl rfl) (u':=uZ) Bn.b4 rfl
  refine ⟨uZ,[],Xo,pre _ _ ?_,rfl,Zs.nil,by simp,by simp,ko,ho6,by omega⟩
  rw [Za Zi,Za an,Za qn,Zb,if_pos (by simp [h0])]
  exact eo
end
end Go.Proofs.YtedkoimihknggaaGreatDoor.A

namespace Go.Proofs.YtedkoimihknggaaGreatDoor.A
set_option linter.unusedVariables false
set_option maxRecDepth 100000
set_option linter.unusedSimpArgs false
open Go.Proofs Go.Proofs.YtedkoimihknggaaGreatDoor
theorem Qu.headF {es : Nat} {X : Zd} {w : Value} {rows : List (List Value)} {q : List Nat} (h : Qu es X w rows q) (he : 0 < es) {i : Nat} (hi : i≤rows.length) : ∃ v,(∀ X',HLe X X'→slv es w none (some (iv i)) none X'=some (v,X'))∧SlN es X v (rows.take i):=by
 rcases h with ⟨rfl,rfl,rfl⟩ | ⟨sid,rest,r,g,rfl,rfl,hid,hr,hx⟩
 ·have : i=0:=by simpa using hi
  subst this
  exact ⟨.slice none 0 0,fun _ _=>rfl,SlN.nil⟩
 ·have hb : bnd (some (iv i)) rows.length=some i:=by simp [bnd]
  have hb0 : ∀ d,bnd none d=some d:=fun _=>rfl
  have hl : (rows.take i).length=i:=by rw [List.length_take];omega
  have hxt : ∀ y∈rows.take i,y.length=es:=fun y hy=>hx y (List.mem_of_mem_take hy)
  by_cases h0 : rows.length+r=0
  ·have hi0 : i=0:=by omega
   subst hi0
   refine ⟨.slice (some ⟨sid,0,some (bif g then 1 else 0)⟩) 0 0,fun X' hl'=>?_,⟨_,_,rfl,(fun e=>by cases e),rfl,by simp⟩⟩
   simp only [slv,hl' _ _ hid,hb,hb0]
   rw [if_pos ⟨trivial,by omega,by omega,by omega⟩,if_pos h0]
  ·refine ⟨.slice (some ⟨sid,0+0 * es,none⟩) (i - 0) (rows.length+r - 0),fun X' hl'=>?_,?_⟩
   ·simp only [slv,hl' _ _ hid,hb,hb0]
    rw [if_pos ⟨trivial,by omega,by omega,by omega⟩,if_neg h0]
   ·rw [Nat.zero_mul,Nat.add_zero,Nat.sub_zero,Nat.sub_zero]
    refine ⟨some ⟨sid,0,none⟩,rows.length+r,by rw [hl],(fun e=>by cases e),?_,hxt⟩
    unfold Qq
    simp only [hid]
    have hfl:=ZaN hx
    have hft:=ZaN hxt
    rw [hl] at hft
    have hle : i * es≤rows.length * es:=Nat.mul_le_mul_right _ hi
    rw [if_pos (by rw [List.length_append,hfl];omega),List.drop_zero]
    have hs : rows.flatten=(rows.take i).flatten++(rows.drop i).flatten:=by rw [← List.flatten_append,List.take_append_drop]
    rw [hs,List.append_assoc,← hft,List.take_left]
theorem K0.cut {X0 X : Zd} {sl : Value} {us : List Zp} {q : List Nat} (h : K0 X0 X sl us q) : Zua X sl us:=fun k hk=>by
 obtain ⟨v,h1,h2⟩:=h.r.headF (by omega) (i:=k) (by rw [List.length_map];exact hk)
 exact ⟨v,h1,by rw [List.map_take];exact h2⟩
section
variable {H0 H X X' X0 : Zd} {n p d b P1 P2 P3 : Nat} {v sl gv : Value} {bs : List UInt8} {s : RSt} {q : List Nat} {us : List Zp}
theorem ZrF {N : Nat} {z1 z2 z3 : Value} (hN : N≤12) (hp : p < X0.length) : ∀ (t j : Nat) (s : RSt) (sl : Value) (q : List Nat) (acc : List Zp) (X : Zd),N - j=t→j≤N→acc.length≤j→X0.length≤X.length→okR s→s.2.length≤1000000000→K0 X0 X sl acc q→X[p]?=some (.cells (RR s) 1 false false)→
  ∃ X' sl' q' us,Zj (c7 (Yc.l1 (R (n+6)))) [z1,z2,pt p,z3,sl,.int .u64 N,.int .u64 j] X=some (.ext 0 [z1,z2,pt p,z3,sl'],X')∧K0 X0 X' sl' (acc++us) q'∧us.map ZW=(Wg t s).1∧X'[p]?=some (.cells (RR (Wg t s).2) 1 false false)∧okR (Wg t s).2∧Zw (p :: q) X (p :: q') X'
 | 0,j,s,sl,q,acc,X,ht,hj,ha,hX,ho,hb,hO,hc=>by
  refine ⟨X,sl,q,[],ZD ?_,by rw [List.append_nil];exact hO,rfl,hc,ho,.refl _ _⟩
  rw [Yn,show j=N by omega]
  unfold Yc.l1
  rw [Za Zg,Zb,if_neg (by simp)]
  rfl
 | t+1,j,s,sl,q,acc,X,ht,hj,ha,hX,ho,hb,hO,hc=>by
  have hlt : (j : Int) < N:=by omega
  have d1 : ldA 2 (pt p) X=some (.agg (RR s).toArray,X):=ZE (n:=2) hc rfl
  obtain ⟨u,qu,X1,e1,k1,r1,o1,gl1,l1,ho1,hb1⟩:=Zxz (n:=n) (H:=X) hb ho
  have e1 : R (n+6) Wi [.agg (RR s).toArray,.int .i64 2] X=_:=e1
  unfold Wg
  generalize Zcv s=G at e1 k1 ho1 hb1 ⊢
  obtain ⟨k,s'⟩:=G
  simp only at e1 k1 ho1 hb1 ⊢
  have hc1:=l1 _ _ hc
  have hO1:=hO.hle l1
  have z4 : alc 1 (.agg #[.string ⟨#[]⟩,.int .i64 0]) X1=some (pt X1.length,X1++[.cells (RR (0,[])) 1 false false]):=bx (ZL (0,[]))
  have z5 : alc 1 (.agg #[.string ⟨#[]⟩,.string ⟨#[]⟩,.string ⟨#[]⟩,.bool false,.slice none 0 0]) (X1++[.cells (RR (0,[])) 1 false false])=some (pt (X1++[Zc.cells (RR (0,[])) 1 false false]).length,X1++[.cells (RR (0,[])) 1 false false]++[.cells uZ.cells 1 false false]):=bx (vs:=uZ.cells) rfl
  have k2 : HLe X1 (X1++[Zc.cells (RR (0,[])) 1 false false]++[Zc.cells uZ.cells 1 false false]):=(HLe.app _ _).trans (.app _ _)
  have c4 : (X1++[Zc.cells (RR (0,[])) 1 false false]++[Zc.cells uZ.cells 1 false false])[X1.length]?=some (.cells (RR (0,[])) 1 false false):=Zbo
  have c5 : (X1++[Zc.cells (RR (0,[])) 1 false false]++[Zc.cells uZ.cells 1 false false])[(X1++[Zc.cells (RR (0,[])) 1 false false]).length]?=some (.cells uZ.cells 1 false false):=Zm
  have hx1 : X1.length < (X1++[Zc.cells (RR (0,[])) 1 false false]).length:=by simp
  generalize X1++[Zc.cells (RR (0,[])) 1 false false]++[Zc.cells uZ.cells 1 false false]=X2 at z5 k2 c4 c5
  generalize (X1++[Zc.cells (RR (0,[])) 1 false false]).length=b5 at z5 c5 hx1
  have w4:=Ja (vs:=RR s') (n:=2) c4 rfl rfl (ZL _)
  have w5:=Ja (vs:=u.cells) (n:=5) ((List.getElem?_set_ne (a:=Zc.cells (RR s') 1 false false) (show X1.length≠b5 by omega)).trans c5) rfl rfl (Zl7 r1.one.1)
  have c4' : ((X2.set X1.length (.cells (RR s') 1 false false)).set b5 (.cells u.cells 1 false false))[X1.length]?=some (.cells (RR s') 1 false false):=(List.getElem?_set_ne (by omega)).trans (ZI c4)
  have c5' : ((X2.set X1.length (.cells (RR s') 1 false false)).set b5 (.cells u.cells 1 false false))[b5]?=some (.cells u.cells 1 false false):=ZI ((List.getElem?_set_ne (by omega)).trans c5)
  have k3 : HLe X1 ((X2.set X1.length (.cells (RR s') 1 false false)).set b5 (.cells u.cells 1 false false)):=(k2.put (Nat.le_refl _)).put (by omega)
  generalize (X2.set X1.length (.cells (RR s') 1 false false)).set b5 (.cells u.cells 1 false false)=X3 at w5 c4' c5' k3
  have d4 : ldA 2 (pt X1.length) X3=some (.agg (RR s').toArray,X3):=ZE (n:=2) c4' rfl
  have hpX:=Z5 hc1
  have w6:=Ja (vs:=RR s') (n:=2) (k3 _ _ hc1) rfl rfl (ZL _)
  have hc6:=ZI (b:=Zc.cells (RR s') 1 false false) (k3 _ _ hc1)
  have d6 : ldA 5 (pt b5) (X3.set p (.cells (RR s') 1 false false))=some (.agg u.cells.toArray,_):=ZE (n:=5) ((List.getElem?_set_ne (by omega)).trans c5') rfl
  have s6 : Zw [p] X3 [p] (X3.set p (.cells (RR s') 1 false false)):=⟨by simp,fun i hi hn=>List.getElem?_set_ne (fun e=>hn (by simp [e])),fun i hi=>.inl hi⟩
  have hO6:=(hO1.hle k3).step s6 (fun j hj hm=>by simp only [List.mem_singleton] at hm;omega)
  have r6 : Zs (X3.set p (.cells (RR s') 1 false false)) u.gv (u.gs.map strv) qu:=(r1.step k3.step (by simp)).keep fun i hi=>List.getElem?_set_ne (by have:=o1 i hi;have:=Z5 hc;omega)
  have hl6 : X1.length≤(X3.set p (.cells (RR s') 1 false false)).length:=by rw [List.length_set];exact k3.len
  have s06 : Zw [p] X [p] (X3.set p (.cells (RR s') 1 false false)):=(l1.trans k3).stepq.trans s6
  generalize X3.set p (.cells (RR s') 1 false false)=X6 at w6 hc6 d6 s6 hO6 r6 hl6 s06
  have hXX:=l1.len
  obtain ⟨x,X7,sl',X8,q',a1,a2,ho3,s3⟩:=hO6.push0 (w:=u) (by omega) r6 (fun i hi=>⟨by have:=o1 i hi;omega,fun hm=>by have:=hO.r.lt i hm;have:=o1 i hi;omega⟩) (by omega) (fun a ha i hi hm=>by obtain ⟨qa,b1,_,_⟩:=hO.u a ha;have h1:=b1.lt i (b1.own_of hi);have h2:=o1 i hm;omega) (by omega)
  have hc8:=s3.get hc6 (fun hm=>by have:=hO.o _ hm;omega)
  have h8:=s3.len
  obtain ⟨X9,sl9,q9,us9,e9,ho9,k9,hc9,okk,s9⟩:=ZrF hN hp t (j+1) s' sl' q' (acc++[u]) X8 (by omega) (by omega) (by rw [List.length_append,List.length_singleton];omega) (by omega) ho1 (by omega) ho3 hc8
  refine ⟨X9,sl9,q9,u :: us9,(Zr ?_).trans e9,by rw [List.append_assoc] at ho9;exact ho9,by rw [List.map_cons,k1,k9],hc9,okk,?_⟩
  ·have qa : bop .int .add (.int .u64 j) (.int .u64 1) X8=some (.int .u64 ((j+1 : Nat) : Int),X8):=by rw [Zt,Zds,Int.emod_eq_of_lt (by omega) (by omega)];rfl
   rw [Yn]
   unfold Yc.l1
   rw [Za Zg,Zb,if_pos (by simpa using hlt),Za d1,Za e1,Za Zo,Za Zn,Za z4,Za z5,Za w4,Za w5,Za d4,Za w6,Za d6,Za a1,Za a2,Za qa]
   rfl
  ·have b1 : Zw (p :: q) X (p :: q) X6:=s06.more (fun i hi=>by simp at hi;simp [hi]) (fun i hi=>.inl hi)
   have b2 : Zw (p :: q) X6 (p :: q') X8:=s3.more (fun i hi=>List.mem_cons_of_mem _ hi) (fun i hi=>by
    rcases List.mem_cons.1 hi with rfl | hi
    ·exact .inl (by simp)
    ·exact .inr (.inl hi))
   exact (b1.trans b2).trans s9
end
end Go.Proofs.YtedkoimihknggaaGreatDoor.A

namespace Go.Proofs.YtedkoimihknggaaGreatDoor.A
set_option linter.unusedVariables false
set_option maxRecDepth 100000
set_option linter.unusedSimpArgs false
open Go.Proofs Go.Proofs.YtedkoimihknggaaGreatDoor
structure Ans (X : Zd) (wv : Value) (r : Nat × (List Tx × List YS)) : Prop where
 one : ∃ uv gv,wv=.agg #[uv,gv]∧oneCell uv=true∧oneCell gv=true
 ok : r.1=0→∃ uv gv us,wv=.agg #[uv,gv]∧QV X uv us∧us.map ZW=r.2.2∧Sl X gv (r.2.1.map strv)
theorem Ans.no {X : Zd} {r : Nat × (List Tx × List YS)} (h : r.1≠0) : Ans X (.agg #[.slice none 0 0,.slice none 0 0]) r:=⟨⟨_,_,rfl,rfl,rfl⟩,fun h0=>absurd h0 h⟩
noncomputable def Zw3 : List Value→A.M Value:=c5 fun q66_0 q66_1 q66_2 q66_3 q66_4=>
 bind (fa 1 q66_2) fun y67=>
 bind (ld1 y67) fun y68=>
 bind (bop .int .neq y68 (Value.int .i64 0)) fun y69=>
 cnd y69
 (bind (ldA 2 q66_1) fun y70=>
 bind (fa 1 q66_2) fun y71=>
 bind (ld1 y71) fun y72=>
 bind (stA 2 q66_0 y70) fun _=>
 bind (ld1 y71) fun u_73=>same u_73 y72 <|
 bind (ldA 2 q66_0) fun y74=>
 ret (Value.tuple #[y74,y72]))
 (bind (bld (.agg #[.slice none 0 0,.slice none 0 0]) [(0,1,q66_4),(1,1,q66_3)]) fun y75=>
 bind (stA 2 q66_0 y75) fun _=>
 bind (ldA 2 q66_0) fun y76=>
 ret (Value.tuple #[y76,(Value.int .i64 0)]))
noncomputable def ZtX : List Value→A.M Value:=c5 fun q56_0 q56_1 q56_2 q56_3 q56_4=>
 bind (fa 1 q56_2) fun y57=>
 bind (ld1 y57) fun y58=>
 bind (bop .int .eql y58 (Value.int .i64 0)) fun y59=>
 bind (ZT y59 true 3 (bind (fa 0 q56_2) fun y60=>
 bind (ld1 y60) fun y61=>
 bind (bop .str .neq y61 (Value.string ⟨#[]⟩)) fun y62=>
 ret [y60,y61,y62])) (c3 fun _ _ q63_2=>
 bind (pick y59 q63_2 (Value.bool false)) fun y64=>
 jn (cnd y64
 (bind (fa 1 q56_2) fun y65=>
 bind (st1 y65 (Value.int .i64 3)) fun _=>
 ret (.nrm [q56_0,q56_1,q56_2,q56_3,q56_4]))
 (ret (.nrm [q56_0,q56_1,q56_2,q56_3,q56_4]))) Zw3 noX ret)
noncomputable def Zrl (Γ : Ze) : List Value→A.M Value:=c5 fun q50_0 q50_1 q50_2 q50_3 q50_4=>
 bind (fa 1 q50_2) fun y51=>
 bind (ld1 y51) fun y52=>
 bind (bop .int .eql y52 (Value.int .i64 0)) fun y53=>
 jn (cnd y53
 (bind (Γ ZcN [q50_4,q50_3]) fun y54=>
 bind (fa 1 q50_2) fun y55=>
 bind (st1 y55 y54) fun _=>
 ret (.nrm [q50_0,q50_1,q50_2,q50_3,q50_4]))
 (ret (.nrm [q50_0,q50_1,q50_2,q50_3,q50_4]))) ZtX noX ret
noncomputable def t12 (Γ : Ze) : List Value→A.M Value:=c5 fun q28_0 q28_1 q28_2 q28_3 q28_4=>
 bind (fa 1 q28_2) fun y29=>
 bind (ld1 y29) fun y30=>
 bind (bop .int .neq y30 (Value.int .i64 0)) fun y31=>
 cnd y31
 (bind (ldA 2 q28_1) fun y32=>
 bind (fa 1 q28_2) fun y33=>
 bind (ld1 y33) fun y34=>
 bind (stA 2 q28_0 y32) fun _=>
 bind (ld1 y33) fun u_35=>same u_35 y34 <|
 bind (ldA 2 q28_0) fun y36=>
 ret (Value.tuple #[y36,y34]))
 (jn (Zj (c7 (Yc.l1 Γ)) [q28_0,q28_1,q28_2,q28_3,(Value.slice none 0 0),q28_4,(Value.int .u64 0)]) noN (xk 0 (Zrl Γ) noX) ret)
section
variable {H0 H X X' X0 : Zd} {n p d b p2 p4 p5 : Nat} {v sl gv : Value} {bs : List UInt8} {s : RSt} {q : List Nat} {us : List Zp}
theorem Zlu {e : Nat} (h2 : X[p2]?=some (.cells [.slice none 0 0,.slice none 0 0] 1 false false)) (h4 : X[p4]?=some (.cells [.slice none 0 0,.slice none 0 0] 1 false false)) (h5 : X[p5]?=some (.cells [v,iv e] 1 false false)) (h25 : p2≠p5) (h24 : p2≠p4) :
  (bind (ldA 2 (pt p4)) fun y32=>bind (fa 1 (pt p5)) fun y33=>bind (ld1 y33) fun y34=>bind (stA 2 (pt p2) y32) fun _=>bind (ld1 y33) fun u_35=>same u_35 y34 <| bind (ldA 2 (pt p2)) fun y36=>ret (Value.tuple #[y36,y34])) X=some (.tuple #[.agg #[.slice none 0 0,.slice none 0 0],iv e],X.set p2 (.cells [.slice none 0 0,.slice none 0 0] 1 false false)):=by
 have d4 : ldA 2 (pt p4) X=some (.agg #[.slice none 0 0,.slice none 0 0],X):=ZE (n:=2) h4 rfl
 have a5 : ld1 (pa p5 1) X=some (iv e,X):=ZN h5 rfl
 have w2 : stA 2 (pt p2) (.agg #[.slice none 0 0,.slice none 0 0]) X=_:=Ja (vs:=[.slice none 0 0,.slice none 0 0]) (n:=2) h2 rfl rfl rfl
 have a6 : ld1 (pa p5 1) (X.set p2 (.cells [.slice none 0 0,.slice none 0 0] 1 false false))=some (iv e,_):=ZN ((List.getElem?_set_ne h25).trans h5) rfl
 have d6 : ldA 2 (pt p2) (X.set p2 (.cells [.slice none 0 0,.slice none 0 0] 1 false false))=some (.agg #[.slice none 0 0,.slice none 0 0],_):=ZE (n:=2) (ZI h2) rfl
 rw [Za d4,Za Zi,Za a5,Za w2,Za a6,Qn,Za d6]
 rfl
theorem Zs.isS2 {vs : List Value} (h : Zs X v vs q) : ∃ a n c,v=.slice a n c:=by
 obtain ⟨a,c,rfl,_⟩:=h.rd
 exact ⟨_,_,_,rfl⟩
theorem K0.keepN {Y : Zd} (h : K0 X0 X sl us q) (hk : ∀ j,X0.length≤j→Y[j]?=X[j]?) : K0 X0 Y sl us q:=
 ⟨h.r.keep fun j hj=>hk j (h.o j hj),h.o,fun w hw=>by
  obtain ⟨qu,h1,h2,h3⟩:=h.u w hw
  exact ⟨qu,h1.keep fun j hj=>hk j (h2 j hj).1,h2,h3⟩,h.un⟩
theorem Zuc {S : Tx} {e : Nat} (h2 : X[p2]?=some (.cells [.slice none 0 0,.slice none 0 0] 1 false false)) (h4 : X[p4]?=some (.cells [.slice none 0 0,.slice none 0 0] 1 false false)) (h5 : X[p5]?=some (.cells [strv S,iv e] 1 false false)) (h25 : p2≠p5) (h24 : p2≠p4) (hs1 : ∃ a n c,sl=.slice a n c) (hs2 : ∃ a n c,gv=.slice a n c) :
  ∃ zs,zs.all oneCell=true∧Zw3 [pt p2,pt p4,pt p5,gv,sl] X=some (.tuple #[if e=0 then .agg #[sl,gv] else .agg #[.slice none 0 0,.slice none 0 0],iv e],X.set p2 (.cells zs 1 false false)):=by
 have a5 : ld1 (pa p5 1) X=some (iv e,X):=ZN h5 rfl
 have q5 : bop .int .neq (iv e) (.int .i64 0) X=some (.bool (e !=0),X):=by rw [Zq,YX]
 unfold Zw3
 by_cases he : e=0
 ·obtain ⟨a1,b1,c1,rfl⟩:=hs1
  obtain ⟨a2,b2,c2,rfl⟩:=hs2
  have zb : bld zD [(0,1,.slice a1 b1 c1),(1,1,.slice a2 b2 c2)] X=some (.agg #[.slice a1 b1 c1,.slice a2 b2 c2],X):=by
   simp [bld,KK,Value.cells,Yv,splice]
  refine ⟨[.slice a1 b1 c1,.slice a2 b2 c2],rfl,?_⟩
  rw [ZU,Za Zi,Za a5,Za q5,Zb,if_neg (by simp [he]),if_pos he,Za zb]
  subst he
  exact YQ (vs:=[.slice a1 b1 c1,.slice a2 b2 c2]) h2 rfl rfl rfl
 ·refine ⟨[.slice none 0 0,.slice none 0 0],rfl,?_⟩
  rw [ZU,Za Zi,Za a5,Za q5,Zb,if_pos (by simp [he]),if_neg he]
  exact Zlu h2 h4 h5 h25 h24
theorem Zvt {S : Tx} {e : Nat} (h2 : X[p2]?=some (.cells [.slice none 0 0,.slice none 0 0] 1 false false)) (h4 : X[p4]?=some (.cells [.slice none 0 0,.slice none 0 0] 1 false false)) (h5 : X[p5]?=some (.cells [strv S,iv e] 1 false false)) (h25 : p2 < p5) (h24 : p2 < p4) (h45 : p4≠p5) (hs1 : ∃ a n c,sl=.slice a n c) (hs2 : ∃ a n c,gv=.slice a n c) (hH : HLe H X) (hp : H.length≤p2) :
  ∃ X',ZtX [pt p2,pt p4,pt p5,gv,sl] X=some (.tuple #[if (if e=0∧S≠[] then 3 else e)=0 then .agg #[sl,gv] else .agg #[.slice none 0 0,.slice none 0 0],iv ((if e=0∧S≠[] then 3 else e : Nat))],X')∧HLe H X'∧∀ j,j≠p2→j≠p5→X'[j]?=X[j]?:=by
 have a5 : ld1 (pa p5 1) X=some (iv e,X):=ZN h5 rfl
 have a0 : ld1 (pa p5 0) X=some (strv S,X):=ZN h5 rfl
 have q5 : bop .int .eql (iv e) (.int .i64 0) X=some (.bool (e==0),X):=by rw [ZA,Wb]
 have q4 : bop .str .neq (strv S) (.string ⟨#[]⟩) X=some (.bool (decide (S≠[])),X):=by
  have:=Zbf (a:=S) (b:=[]) (H:=X)
  rw [show (strv [] : Value)=.string ⟨#[]⟩ from rfl] at this
  rw [this]
  by_cases h : S=[] <;> simp [h]
 have hgate : ∀ K : Value→A.M Value,bind (ZT (Value.bool (e==0)) true 3 (bind (fa 0 (pt p5)) fun y60=>bind (ld1 y60) fun y61=>bind (bop .str .neq y61 (Value.string ⟨#[]⟩)) fun y62=>ret [y60,y61,y62])) (c3 fun _ _ q63_2=>bind (pick (Value.bool (e==0)) q63_2 (Value.bool false)) K) X=K (.bool (decide (e=0∧S≠[]))) X:=fun K=>by
  by_cases h0 : e=0
  ·rw [show (e==0)=true from by simp [h0],ZK,Zf,Za Zi,Zf,Za a0,Zf,Za q4,ZQ,ZX,Za Zh]
   simp [h0]
  ·rw [show (e==0)=false from by simp [h0],Za (g_r.trans (if_neg (by simp)))]
   simp only [List.replicate]
   rw [ZX,Za Zh]
   simp [h0]
 unfold ZtX
 by_cases hc : e=0∧S≠[]
 ·rw [if_pos hc]
  have w : st1 (pa p5 1) (iv 3) X=some (undef,X.set p5 (.cells [strv S,iv 3] 1 false false)):=W8 (o:=1) h5 (by simp) rfl
  obtain ⟨zs,hz,e6⟩:=Zuc (sl:=sl) (gv:=gv) (e:=3) ((List.getElem?_set_ne (by omega)).trans h2) ((List.getElem?_set_ne (by omega)).trans h4) (ZI (b:=Zc.cells [strv S,iv ((3 : Nat) : Int)] 1 false false) h5) (by omega) (by omega) hs1 hs2
  refine ⟨(X.set p5 (.cells [strv S,iv ((3 : Nat) : Int)] 1 false false)).set p2 (.cells zs 1 false false),?_,(hH.put (by omega)).put hp,fun j h1 h2=>(List.getElem?_set_ne (by omega)).trans (List.getElem?_set_ne (by omega))⟩
  rw [ZU,Za Zi,Za a5,Za q5]
  refine (hgate _).trans ?_
  refine (Qf (vs:=[pt p2,pt p4,pt p5,gv,sl]) (H':=X.set p5 (.cells [strv S,iv 3] 1 false false)) ?_).trans e6
  rw [decide_eq_true hc,Zb,if_pos rfl,Za Zi,Za w]
  rfl
 ·rw [if_neg hc]
  obtain ⟨zs,hz,e6⟩:=Zuc (sl:=sl) (gv:=gv) h2 h4 h5 (by omega) (by omega) hs1 hs2
  refine ⟨X.set p2 (.cells zs 1 false false),?_,hH.put hp,fun j h1 h2=>List.getElem?_set_ne (by omega)⟩
  rw [ZU,Za Zi,Za a5,Za q5]
  refine (hgate _).trans ?_
  refine (Qf (vs:=[pt p2,pt p4,pt p5,gv,sl]) (H':=X) ?_).trans e6
  rw [decide_eq_false hc,Zb,if_neg (by simp)]
  rfl
theorem Zsg (hb : bs.length≤1000000000) : ∃ wv X',R (n+8) Wn [strv bs] X=some (.tuple #[wv,iv (Kg bs).1],X')∧HLe X X'∧Ans X' wv (Kg bs):=by
 have f1 : ∀ r H',Yc (R (n+7)) (strv bs) X=some (r,H')→R (n+8) Wn [strv bs] X=some (r,H'):=fun r H' hr=>by rw [R,Zph rfl];exact hr
 have D0 : ([Value.slice none 0 0,Value.slice none 0 0]).all oneCell=true:=rfl
 have z1 : alc 1 (.agg #[.slice none 0 0,.slice none 0 0]) X=some (pt X.length,X++[.cells [.slice none 0 0,.slice none 0 0] 1 false false]):=bx (vs:=[.slice none 0 0,.slice none 0 0]) D0
 have k1 : HLe X (X++[Zc.cells [.slice none 0 0,.slice none 0 0] 1 false false]):=.app _ _
 have g1 : (X++[Zc.cells [.slice none 0 0,.slice none 0 0] 1 false false])[X.length]?=some (.cells [.slice none 0 0,.slice none 0 0] 1 false false):=Zm
 generalize X++[Zc.cells [.slice none 0 0,.slice none 0 0] 1 false false]=X1 at z1 k1 g1
 have zb : bld (.agg #[.slice none 0 0,.slice none 0 0]) [] X1=some (.agg #[.slice none 0 0,.slice none 0 0],X1):=rfl
 have z2:=fun {K : Value→A.M Value}=>Zcs (H:=X1) (n:=2) (zs:=[.slice none 0 0,.slice none 0 0]) (r:=[.slice none 0 0,.slice none 0 0]) (K:=K) rfl rfl D0 D0
 have k2 : HLe X1 (X1++[Zc.cells [.slice none 0 0,.slice none 0 0] 1 false false]):=.app _ _
 have g2 : (X1++[Zc.cells [.slice none 0 0,.slice none 0 0] 1 false false])[X1.length]?=some (.cells [.slice none 0 0,.slice none 0 0] 1 false false):=Zm
 generalize X1++[Zc.cells [.slice none 0 0,.slice none 0 0] 1 false false]=X2 at z2 k2 g2
 have h24:=Z5 g1
 have h2:=k2 _ _ g1
 have k12:=k1.trans k2
 generalize hP : X.length=p2 at z1 h24 h2
 generalize X1.length=p4 at z2 g2 h24
 have z2 : ∀ {K : Value→A.M Value},bind (alc 1 (.agg #[.slice none 0 0,.slice none 0 0])) (fun q=>bind (stA 2 q (.agg #[.slice none 0 0,.slice none 0 0])) fun _=>K q) X1=K (pt p4) X2:=z2
 have fin0 : ∀ e : Nat,(bind (ldA 2 (pt p4)) fun y5=>bind (stA 2 (pt p2) y5) fun _=>bind (ldA 2 (pt p2)) fun y6=>ret (Value.tuple #[y6,iv e])) X2=some (.tuple #[.agg #[.slice none 0 0,.slice none 0 0],iv e],X2.set p2 (.cells [.slice none 0 0,.slice none 0 0] 1 false false)):=fun e=>by
  have d4 : ldA 2 (pt p4) X2=some (.agg #[.slice none 0 0,.slice none 0 0],X2):=ZE (n:=2) g2 rfl
  rw [Za d4]
  exact YQ (vs:=[.slice none 0 0,.slice none 0 0]) h2 rfl rfl D0
 cases bs with
 | nil=>
  have q1 : bop .str .eql (strv []) (.string ⟨#[]⟩) X2=some (.bool true,X2):=ZcT
  rw [ZuD]
  refine ⟨_,X2.set p2 (.cells [.slice none 0 0,.slice none 0 0] 1 false false),f1 _ _ ?_,k12.put (by omega),Ans.no (by simp)⟩
  unfold Yc
  rw [Za z1,Za zb,z2,Za q1,Zb,if_pos rfl]
  exact fin0 2
 | cons x l=>
  have q1 : bop .str .eql (strv (x :: l)) (.string ⟨#[]⟩) X2=some (.bool false,X2):=by rw [ZcT,decide_eq_false (by simp)]
  have x1 : ixs (strv (x :: l)) (.int .i64 0) X2=some (u8v x,X2):=WK (i:=0) rfl .i64 X2
  have q2 : bop .int .neq (u8v x) (.int .u8 2) X2=some (.bool (decide (x.toNat≠2)),X2):=by
   rw [Zq,show ((x.toNat : Int) !=2)=decide (x.toNat≠2) from by rw [Bool.eq_iff_iff,decide_eq_true_eq,bne_iff_ne];omega]
  by_cases hx : x.toNat=2
  rotate_left
  ·rw [decide_eq_true hx] at q2
   rw [ZwI hx]
   refine ⟨_,X2.set p2 (.cells [.slice none 0 0,.slice none 0 0] 1 false false),f1 _ _ ?_,k12.put (by omega),Ans.no (by simp)⟩
   unfold Yc
   rw [Za z1,Za zb,z2,Za q1,Zb,if_neg (by simp),Za x1,Za q2,Zb,if_pos rfl]
   exact fin0 6
  rw [decide_eq_false (fun h=>h hx)] at q2
  rw [ZuG hx]
  have z3 : sls (strv (x :: l)) (some (.int .i64 1)) none X2=some (strv l,X2):=ZtB (k:=1) (by simp)
  have zc : bld (.agg #[.string ⟨#[]⟩,.int .i64 0]) [(0,1,strv l)] X2=some (.agg (RR (0,l)).toArray,X2):=by
   simp [bld,KK,Value.cells,Yv,strv,splice]
  have hbl : ((0,l) : RSt).2.length≤1000000000:=by
   simp only [List.length_cons] at hb ⊢
   omega
  have ho0 : okR (0,l):=fun h=>absurd rfl h
  obtain ⟨X3,gv,qg,e3,k3,r3,o3⟩:=ZoT (n:=n+2) (M:=6) (L:=12) (H:=X2) (by omega) (by omega) hbl ho0
  have e3 : R (n+7) KA [.agg (RR (0,l)).toArray,.int .i64 6,.int .i64 12] X2=_:=e3
  have ho1 : okR (KM 6 12 (0,l)).2:=ZsB ho0
  have hl1 : (KM 6 12 (0,l)).2.2.length≤((0,l) : RSt).2.length:=ZuW
  have hg1 : (KM 6 12 (0,l)).1.length≤65535:=Zhl
  unfold Zma
  generalize ((0,l) : RSt)=s0 at zc e3 r3 ho1 hl1 hbl hg1 ⊢
  simp only
  generalize KM 6 12 s0=G at e3 r3 ho1 hl1 hg1 ⊢
  obtain ⟨gl,s1⟩:=G
  simp only at e3 r3 ho1 hl1 hg1 ⊢
  have z4:=fun {K : Value→A.M Value}=>Zcs (H:=X3) (n:=2) (zs:=RR (0,[])) (r:=RR s1) (K:=K) rfl rfl (ZL _) (ZL _)
  have k4 : HLe X3 (X3++[Zc.cells (RR s1) 1 false false]):=.app _ _
  have g5 : (X3++[Zc.cells (RR s1) 1 false false])[X3.length]?=some (.cells (RR s1) 1 false false):=Zm
  have h2:=k4 _ _ (k3 _ _ h2)
  have g4:=k4 _ _ (k3 _ _ g2)
  have h45 : p4 < X3.length:=Z5 (k3 _ _ g2)
  have r4:=r3.step k4.step (by simp)
  have hk4:=(k12.trans k3).trans k4
  have hqg : ∀ i∈qg,i < X3.length∧p4 < i:=fun i hi=>⟨r3.lt i hi,by have:=o3 i hi;have:=Z5 g2;omega⟩
  generalize X3++[Zc.cells (RR s1) 1 false false]=X4 at z4 k4 g5 h2 g4 r4 hk4
  generalize X3.length=p5 at z4 g5 h45 hqg
  have z4 : ∀ {K : Value→A.M Value},bind (alc 1 (.agg #[.string ⟨#[]⟩,.int .i64 0])) (fun q=>bind (stA 2 q (.agg (RR s1).toArray)) fun _=>K q) X3=K (pt p5) X4:=z4
  have d5 : ldA 2 (pt p5) X4=some (.agg (RR s1).toArray,X4):=ZE (n:=2) g5 rfl
  obtain ⟨X5,e5,k5⟩:=ZgO (n:=n+4) (H:=X4) (k:=2) (s:=s1) (by omega) (by omega) ho1
  have e5 : R (n+7) Q7 [.agg (RR s1).toArray,.int .i64 2] X4=_:=e5
  have ho2 : okR (Z0 2 s1).2:=ZbV ho1
  have hl2 : (Z0 2 s1).2.2.length≤s1.2.length:=Zck
  have hbad:=ZdO (k:=2) ho1
  have hnl:=WR (k:=2) (s:=s1)
  generalize Z0 2 s1=N at e5 ho2 hl2 hbad hnl ⊢
  obtain ⟨nv,s2⟩:=N
  simp only at e5 ho2 hl2 hbad hnl ⊢
  have w5:=Ja (vs:=RR s2) (n:=2) (k5 _ _ g5) rfl rfl (ZL _)
  have hk6 : HLe X (X5.set p5 (.cells (RR s2) 1 false false)):=(hk4.trans k5).put (by omega)
  have g5:=ZI (b:=Zc.cells (RR s2) 1 false false) (k5 _ _ g5)
  have h2:=(List.getElem?_set_ne (a:=Zc.cells (RR s2) 1 false false) (show p5≠p2 by omega)).trans (k5 _ _ h2)
  have g4:=(List.getElem?_set_ne (a:=Zc.cells (RR s2) 1 false false) (show p5≠p4 by omega)).trans (k5 _ _ g4)
  have r6:=(r4.step k5.step (by simp)).keep (H':=X5.set p5 (.cells (RR s2) 1 false false)) fun i hi=>List.getElem?_set_ne (by have:=hqg i hi;omega)
  generalize X5.set p5 (.cells (RR s2) 1 false false)=X6 at w5 hk6 g5 h2 g4 r6
  have a6 : ld1 (pa p5 1) X6=some (iv s2.1,X6):=ZN g5 rfl
  have q6 : bop .int .eql (iv s2.1) (.int .i64 0) X6=some (.bool (s2.1==0),X6):=by rw [ZA,Wb]
  have q7 : bop .int .gtr (.int .u64 nv) (.int .u64 12) X6=some (.bool (decide (nv > 12)),X6):=by
   rw [ZF,show decide ((nv : Int) > 12)=decide (nv > 12) from by rw [decide_eq_decide];omega]
  have hgate : ∀ K : Value→A.M Value,bind (ZT (Value.bool (s2.1==0)) true 2 (bind (bop .int .gtr (.int .u64 nv) (Value.int .u64 12)) fun v20=>ret [.int .u64 nv,v20])) (c2 fun _ q6=>bind (pick (Value.bool (s2.1==0)) q6 (Value.bool false)) K) X6=K (.bool (decide (nv > 12))) X6:=fun K=>by
   by_cases h0 : s2.1=0
   ·rw [show (s2.1==0)=true from by simp [h0],ZK,Zf,Za q7,ZQ,ZP,Za Zh]
    rfl
   ·rw [show (s2.1==0)=false from by simp [h0],Za (g_r.trans (if_neg (by simp)))]
    simp only [List.replicate]
    rw [ZP,Za Zh,hbad h0]
    rfl
  have pre : ∀ r H',(jn (cnd (Value.bool (decide (nv > 12)))
    (bind (fa 1 (pt p5)) fun y27=>bind (st1 y27 (Value.int .i64 7)) fun _=>ret (.nrm [pt p2,pt p4,pt p5,gv,.int .u64 nv]))
    (ret (.nrm [pt p2,pt p4,pt p5,gv,.int .u64 nv]))) (t12 (R (n+7))) noX ret) X6=some (r,H')→R (n+8) Wn [strv (x :: l)] X=some (r,H'):=fun r H' hr=>f1 _ _ (by
   unfold Yc
   rw [Za z1,Za zb,z2,Za q1,Zb,if_neg (by simp),Za x1,Za q2,Zb,if_neg (by simp),Za z3,Za zc,Za e3,Za Zo,Za Zn,z4,Za d5,Za e5,Za Zo,Za Zn,Za w5,Za Zi,Za a6,Za q6]
   refine (hgate _).trans ?_
   exact hr)
  have h24' : p2≠p4:=by omega
  have h25' : p2≠p5:=by omega
  by_cases hn : nv > 12
  ·have h0 : s2.1=0:=Decidable.byContradiction fun h=>by have:=hbad h;omega
   rw [if_pos hn,ZgT h0 (by omega)]
   unfold Wg
   simp only
   rw [if_pos (by omega)]
   have w7 : st1 (pa p5 1) (.int .i64 7) X6=some (undef,X6.set p5 (.cells [strv s2.2,iv ((7 : Nat) : Int)] 1 false false)):=W8 (o:=1) g5 (by simp) rfl
   have g7:=ZI (b:=Zc.cells [strv s2.2,iv ((7 : Nat) : Int)] 1 false false) g5
   have h27:=(List.getElem?_set_ne (a:=Zc.cells [strv s2.2,iv ((7 : Nat) : Int)] 1 false false) (show p5≠p2 by omega)).trans h2
   have h47:=(List.getElem?_set_ne (a:=Zc.cells [strv s2.2,iv ((7 : Nat) : Int)] 1 false false) (show p5≠p4 by omega)).trans g4
   have hk7 : HLe X (X6.set p5 (.cells [strv s2.2,iv ((7 : Nat) : Int)] 1 false false)):=hk6.put (by omega)
   generalize X6.set p5 (.cells [strv s2.2,iv ((7 : Nat) : Int)] 1 false false)=X7 at w7 g7 h27 h47 hk7
   have a7 : ld1 (pa p5 1) X7=some (iv ((7 : Nat) : Int),X7):=ZN g7 rfl
   have q8 : bop .int .neq (iv ((7 : Nat) : Int)) (.int .i64 0) X7=some (.bool true,X7):=by rw [Zq];rfl
   refine ⟨_,X7.set p2 (.cells [.slice none 0 0,.slice none 0 0] 1 false false),pre _ _ ?_,hk7.put (by omega),Ans.no (by simp)⟩
   refine (Qf (vs:=[pt p2,pt p4,pt p5,gv,.int .u64 nv]) (H':=X7) ?_).trans ?_
   ·rw [decide_eq_true hn,Zb,if_pos rfl,Za Zi,Za w7];rfl
   ·unfold t12
    rw [ZU,Za Zi,Za a7,Za q8,Zb,if_pos rfl]
    exact Zlu h27 h47 g7 h25' h24'
  ·rw [if_neg hn]
   simp only
   have q8 : bop .int .neq (iv s2.1) (.int .i64 0) X6=some (.bool (s2.1 !=0),X6):=by rw [Zq,YX]
   have pre2 : ∀ r H',t12 (R (n+7)) [pt p2,pt p4,pt p5,gv,.int .u64 nv] X6=some (r,H')→R (n+8) Wn [strv (x :: l)] X=some (r,H'):=fun r H' hr=>pre _ _ (by
    refine (Qf (vs:=[pt p2,pt p4,pt p5,gv,.int .u64 nv]) (H':=X6) ?_).trans hr
    rw [decide_eq_false hn,Zb,if_neg (by simp)];rfl)
   by_cases h0 : s2.1=0
   rotate_left
   ·have hnv : nv=0:=hbad h0
    subst hnv
    unfold Wg
    simp only
    rw [if_pos h0]
    refine ⟨_,X6.set p2 (.cells [.slice none 0 0,.slice none 0 0] 1 false false),pre2 _ _ ?_,hk6.put (by omega),Ans.no (by simpa using h0)⟩
    unfold t12
    rw [ZU,Za Zi,Za a6,Za q8,Zb,if_pos (by simp [h0])]
    exact Zlu h2 g4 g5 h25' h24'
   ·obtain ⟨X7,sl,q,us,e7,hO7,k7,g7,ho7,s7⟩:=ZrF (n:=n+1) (X0:=X6) (p:=p5) (z1:=pt p2) (z2:=pt p4) (z3:=gv) (N:=nv) (by omega) (Z5 g5) nv 0 s2 (.slice none 0 0) [] [] X6 (by omega) (by omega) (Nat.le_refl _) (Nat.le_refl _) ho2 (by omega) ⟨Qu.nil,by simp,by simp,by simp⟩ g5
    have e7 : Zj (c7 (Yc.l1 (R (n+7)))) [pt p2,pt p4,pt p5,gv,.slice none 0 0,.int .u64 nv,.int .u64 0] X6=_:=e7
    rw [List.nil_append] at hO7
    have h27:=s7.get h2 (by simp;omega)
    have h47:=s7.get g4 (by simp;omega)
    have r7:=r6.step s7 (fun i hi hm=>by have : i=p5:=(by simpa using hm);have:=hqg i hi;omega)
    have hk7:=(hk6.more s7 (fun j hj=>by have : j=p5:=(by simpa using hj);omega)).1
    have hs1 : ∃ a n c,sl=.slice a n c:=hO7.r.isS
    have hs2 : ∃ a n c,gv=.slice a n c:=r7.isS2
    have hone1:=hO7.r.one.1
    have hone2:=r7.one.1
    have hlus : us.length≤12:=by
     have:=congrArg List.length k7
     rw [List.length_map,Zjg] at this
     omega
    generalize Wg nv s2=U at k7 g7 ⊢
    obtain ⟨ul,s3⟩:=U
    simp only at k7 g7 ⊢
    subst k7
    have a7 : ld1 (pa p5 1) X7=some (iv s3.1,X7):=ZN g7 rfl
    have q9 : bop .int .eql (iv s3.1) (.int .i64 0) X7=some (.bool (s3.1==0),X7):=by rw [ZA,Wb]
    have pre3 : ∀ r H',Zrl (R (n+7)) [pt p2,pt p4,pt p5,gv,sl] X7=some (r,H')→R (n+8) Wn [strv (x :: l)] X=some (r,H'):=fun r H' hr=>pre2 _ _ (by
     unfold t12
     rw [ZU,Za Zi,Za a6,Za q8,Zb,if_neg (by simp [h0]),ZO e7,Zu]
     exact hr)
    by_cases h3 : s3.1≠0
    ·rw [if_pos h3]
     obtain ⟨X8,e8,k8,_⟩:=Zvt (H:=X) (sl:=sl) (gv:=gv) (e:=s3.1) (S:=s3.2) h27 h47 g7 (by omega) (by omega) (by omega) hs1 hs2 hk7 (by omega)
     rw [if_neg (fun h : s3.1=0∧s3.2≠[]=>h3 h.1),if_neg h3] at e8
     refine ⟨_,X8,pre3 _ _ ?_,k8,Ans.no h3⟩
     unfold Zrl
     rw [ZU,Za Zi,Za a7,Za q9]
     refine (Qf (vs:=[pt p2,pt p4,pt p5,gv,sl]) (H':=X7) ?_).trans e8
     rw [Zb,if_neg (by simp [h3])];rfl
    ·rw [if_neg h3]
     have h3 : s3.1=0:=Decidable.of_not_not h3
     obtain ⟨X8,e8,k8⟩:=ZuO (n:=n) (us:=us) (gs:=gl) (by omega) (by omega) hO7.us hO7.cut r7.rd
     rw [ZjZ] at e8
     have w8 : st1 (pa p5 1) (iv (ofK (us.map ZW) gl)) X8=some (undef,X8.set p5 (.cells [strv s3.2,iv (ofK (us.map ZW) gl)] 1 false false)):=W8 (o:=1) (k8 _ _ g7) (by simp) rfl
     have g9:=ZI (b:=Zc.cells [strv s3.2,iv (ofK (us.map ZW) gl)] 1 false false) (k8 _ _ g7)
     have h29:=(List.getElem?_set_ne (a:=Zc.cells [strv s3.2,iv (ofK (us.map ZW) gl)] 1 false false) (show p5≠p2 by omega)).trans (k8 _ _ h27)
     have h49:=(List.getElem?_set_ne (a:=Zc.cells [strv s3.2,iv (ofK (us.map ZW) gl)] 1 false false) (show p5≠p4 by omega)).trans (k8 _ _ h47)
     have hk9 : HLe X (X8.set p5 (.cells [strv s3.2,iv (ofK (us.map ZW) gl)] 1 false false)):=(hk7.trans k8).put (by omega)
     have s9 : ∀ j,j≠p5→(X8.set p5 (.cells [strv s3.2,iv (ofK (us.map ZW) gl)] 1 false false))[j]?=X8[j]?:=fun j hj=>List.getElem?_set_ne (by omega)
     generalize X8.set p5 (.cells [strv s3.2,iv (ofK (us.map ZW) gl)] 1 false false)=X9 at w8 g9 h29 h49 hk9 s9
     obtain ⟨Xa,ea,ka,keep⟩:=Zvt (H:=X) (sl:=sl) (gv:=gv) (e:=ofK (us.map ZW) gl) (S:=s3.2) h29 h49 g9 (by omega) (by omega) (by omega) hs1 hs2 hk9 (by omega)
     have run : Zrl (R (n+7)) [pt p2,pt p4,pt p5,gv,sl] X7=ZtX [pt p2,pt p4,pt p5,gv,sl] X9:=by
      unfold Zrl
      rw [ZU,Za Zi,Za a7,Za q9]
      refine (Qf (vs:=[pt p2,pt p4,pt p5,gv,sl]) (H':=X9) ?_)
      rw [Zb,if_pos (by simp [h3]),Za e8,Za Zi,Za w8];rfl
     rw [← run] at ea
     by_cases hE : ofK (us.map ZW) gl≠0
     ·rw [if_neg (fun h : ofK (us.map ZW) gl=0∧s3.2≠[]=>hE h.1),if_neg hE] at ea
      rw [if_pos hE]
      exact ⟨_,Xa,pre3 _ _ ea,ka,Ans.no hE⟩
     ·rw [if_neg hE]
      have hE : ofK (us.map ZW) gl=0:=Decidable.of_not_not hE
      by_cases hS : s3.2≠[]
      ·rw [if_pos (show ofK (us.map ZW) gl=0∧s3.2≠[] from ⟨hE,hS⟩),if_neg (show ¬ (3 : Nat)=0 by omega)] at ea
       rw [if_pos hS]
       exact ⟨_,Xa,pre3 _ _ ea,ka,Ans.no (by simp)⟩
      ·rw [if_neg (fun h : ofK (us.map ZW) gl=0∧s3.2≠[]=>hS h.2),if_pos hE,hE] at ea
       rw [if_neg hS]
       have hkeep : ∀ j,j≠p2→j≠p5→Xa[j]?=X8[j]?:=fun j h1 h2=>(keep j h1 h2).trans (s9 j h2)
       have ha : Zs Xa gv (gl.map strv) qg:=(r7.step k8.step (by simp)).keep fun j hj=>hkeep j (by have:=hqg j hj;omega) (by have:=hqg j hj;omega)
       have hOa:=(hO7.hle k8).keepN (Y:=Xa) (fun j hj=>hkeep j (by have:=Z5 h2;omega) (by have:=Z5 g5;omega))
       exact ⟨_,Xa,pre3 _ _ ea,ka,⟨_,_,rfl,hone1,hone2⟩,fun _=>⟨_,_,us,rfl,hOa.us,rfl,ha.rd⟩⟩
end
end Go.Proofs.YtedkoimihknggaaGreatDoor.A

namespace Go.Proofs.YtedkoimihknggaaGreatDoor.A
set_option linter.unusedVariables false
set_option linter.unusedSimpArgs false
open Go.Proofs Go.Proofs.YtedkoimihknggaaGreatDoor
section
variable {X X' H H0 : Zd} {n d c w : Nat} {r : NR} {uv gv sl : Value} {s : NSt} {u : Zc2} {ac : List Zc2}
end
end Go.Proofs.YtedkoimihknggaaGreatDoor.A

namespace Go.Proofs.YtedkoimihknggaaGreatDoor.A
set_option linter.unusedVariables false
set_option maxRecDepth 100000
set_option linter.unusedSimpArgs false
open Go.Proofs Go.Proofs.YtedkoimihknggaaGreatDoor
section
variable {X X' H H0 : Zd} {n d c w : Nat} {r : NR} {uv gv sl : Value} {s : NSt} {u : Zc2} {ac : List Zc2}
theorem Zto {K : List Tx} {ks : List YS} : schemaS (Zb6 K ks)=2:=rfl
end
end Go.Proofs.YtedkoimihknggaaGreatDoor.A

namespace Go.Proofs.YtedkoimihknggaaGreatDoor.A
set_option linter.unusedVariables false
set_option maxRecDepth 100000
set_option linter.unusedSimpArgs false
open Go.Proofs Go.Proofs.YtedkoimihknggaaGreatDoor
section
variable {X X' H H0 : Zd} {n d : Nat} {a : Value} {bs : List UInt8}
end
end Go.Proofs.YtedkoimihknggaaGreatDoor.A

namespace Go.Proofs.YtedkoimihknggaaGreatDoor.A
set_option linter.unusedVariables false
set_option linter.unusedSimpArgs false
open Go.Proofs Go.Proofs.YtedkoimihknggaaGreatDoor
def kOf (e : Ent) : YS:=(e.1,e.2,[],false,[])
section
variable {X X' H H0 : Zd} {n d b : Nat} {v sl gv : Value} {m : List Ent} {e : Ent} {q : List Nat}
theorem Zhd (h : Wx e=0) : QT (J8 e)=0:=by
 have h1 : ZB e.1=true∧KW e.2=true:=by
  unfold Wx at h
  cases h2 : ZB e.1 with
  | false=>rw [h2] at h;simp at h
  | true=>
   cases h3 : KW e.2 with
   | false=>rw [h2,h3] at h;simp at h
   | true=>exact ⟨rfl,rfl⟩
 unfold QT J8
 rw [h1.1,h1.2]
 rfl
theorem ZkL : ∀ {us : List Zp},(∀ u∈us,QT u=0)→Jm us=0
 | [],_=>rfl
 | u :: us,h=>by
  unfold Jm
  rw [h u (by simp),if_pos rfl]
  exact ZkL fun w hw=>h w (by simp [hw])
theorem Zxa (hE : ∀ e∈m,Wx e=0) (hR : Jn (m.map (·.1))=true) (hn : m.length≤12) : WJ (m.map J8) []=0:=by
 have h1 : Jm (m.map J8)=0:=ZkL fun u hu=>by
  obtain ⟨e,he,rfl⟩:=List.mem_map.1 hu
  exact Zhd (hE e he)
 have h2 : (m.map J8).map (·.nm)=m.map (·.1):=by rw [List.map_map];rfl
 have h3 : ZdG (m.map J8)=0:=by
  unfold ZdG
  rw [if_pos h1,h2,hR,List.length_map,if_pos rfl,if_neg (show ¬ 12 < m.length by omega)]
 have h4 : Zbb (m.map J8) []=0:=by
  unfold Zbb
  rw [if_pos h3]
  rfl
 unfold WJ
 rw [if_pos h4]
 refine Znu fun i u hu=>?_
 obtain ⟨e,_,rfl⟩:=List.mem_map.1 (List.mem_of_getElem? hu)
 unfold Zcr
 rw [if_pos (by rfl),if_neg (fun h=>h.1 rfl)]
theorem Zwu : ∃ X',R (n+1) Zhi [.agg (usr e).toArray] X=some (.agg (usr e).toArray,X')∧HLe X X':=by
 have z1 : alc 1 (.agg (usr e).toArray) X=some (pt X.length,X++[.cells (usr e) 1 false false]):=bx (vs:=usr e) rfl
 have k1 : HLe X (X++[Zc.cells (usr e) 1 false false]):=.app _ _
 have g1 : (X++[Zc.cells (usr e) 1 false false])[X.length]?=some (.cells (usr e) 1 false false):=Zm
 generalize X++[Zc.cells (usr e) 1 false false]=X1 at z1 k1 g1
 have z2 : alc 1 zU X1=some (pt X1.length,X1++[.cells (usr ([],[])) 1 false false]):=bx (vs:=usr ([],[])) rfl
 have k2 : HLe X1 (X1++[Zc.cells (usr ([],[])) 1 false false]):=.app _ _
 have g2 : (X1++[Zc.cells (usr ([],[])) 1 false false])[X1.length]?=some (.cells (usr ([],[])) 1 false false):=Zm
 have g1':=k2 _ _ g1
 have hl:=k1.len
 generalize X1++[Zc.cells (usr ([],[])) 1 false false]=X2 at z2 k2 g2 g1'
 have a0 : ld1 (pa X.length 0) X2=some (strv e.1,X2):=ZN g1' rfl
 have a1 : ld1 (pa X.length 1) X2=some (strv e.2,X2):=ZN g1' rfl
 have zb:=Zgz (k:=e.1) (s:=e.2) (H:=X2)
 refine ⟨X2.set X1.length (.cells (usr e) 1 false false),?_,(k1.trans k2).put hl⟩
 rw [R,ZtI rfl]
 unfold Zls
 rw [Za z1,Za z2,Za Zi,Za a0,Za Zi,Za a1,Za zb]
 exact YQ (vs:=usr e) g2 rfl rfl rfl
theorem Zw7 {rows : List (List Value)} {r : List Value} (hr : Qu 5 X sl rows q) (hn : rows.length≤1000) (h5 : r.length=5) (h1 : r.all oneCell=true) : ∃ w X1 sl' X2 q',bsl 5 1 zU [(0,5,.agg r.toArray)] X=some (w,X1)∧app 5 80 sl w X1=some (sl',X2)∧Qu 5 X2 sl' (rows++[r]) q'∧Zw q X q' X2:=by
 have x4:=Znd (es:=5) (z:=zU) (H:=X) rfl h5 h1
 have l1 : HLe X (X++[Zc.cells r 5 false false]):=.app _ _
 have s1 : SlN 5 (X++[Zc.cells r 5 false false]) (.slice (some ⟨X.length,0,none⟩) 1 1) [r]:=SlN.whole (rows:=[r]) (c:=1) (e:=5) (g:=false) (ro:=false) (by rw [Zm];simp) (by simpa using h5)
 generalize X++[Zc.cells r 5 false false]=X1 at x4 l1 s1
 obtain ⟨sl',X2,q',x5,hn2,s2⟩:=(hr.step l1.step (by simp)).push (b:=80) s1 h5 (by omega) (by omega)
 exact ⟨_,X1,sl',X2,q',x4,x5,hn2,l1.stepq.trans s2⟩
theorem Zxb (hn : m.length≤100) (hs : SlN 5 H0 v (m.map usr)) : ∀ (t j : Nat) (sl : Value) (q : List Nat) (X : Zd),m.length - j=t→j≤m.length→HLe H0 X→(∀ i∈q,H0.length≤i)→Qu 5 X sl ((m.take j).map usr) q→
  ∃ X' sl' q',Zj (c4 (KP.l1 (R (n+1)))) [sl,v,iv m.length,iv j] X=some (.ext 0 [sl'],X')∧Qu 5 X' sl' (m.map usr) q'∧HLe H0 X'∧∀ i∈q',H0.length≤i
 | 0,j,sl,q,X,ht,hj,hle,hq,hr=>by
  have hj : j=m.length:=by omega
  subst hj
  rw [List.take_length] at hr
  refine ⟨X,sl,q,ZD ?_,hr,hle,hq⟩
  rw [ZC]
  unfold KP.l1
  rw [Za Zg,Zb,if_neg (by simp)]
  rfl
 | t+1,j,sl,q,X,ht,hj,hle,hq,hr=>by
  have hkl : j < m.length:=by omega
  have hlt : (j : Int) < m.length:=by omega
  have hg:=List.getElem?_eq_getElem hkl
  have htk : m.take (j+1)=m.take j++[m[j]]:=by rw [List.take_add_one,hg];rfl
  generalize m[j]=e at hg htk
  have hf:=fun {K : Value→A.M Out}=>(hs.mono hle).fetch (k:=K) (r:=usr e) (i:=j) (by rw [List.getElem?_map,hg];rfl) (by omega) .i64
  have z4 : ∀ K : Value→A.M Out,bind (alc 1 zU) (fun q=>bind (stA 5 q (.agg (usr e).toArray)) fun _=>K q) X=K (pt X.length) (X++[.cells (usr e) 1 false false]):=fun K=>ZbW (n:=5) (zs:=usr ([],[])) (r:=usr e) rfl rfl rfl rfl
  have k1 : HLe X (X++[Zc.cells (usr e) 1 false false]):=.app _ _
  have g1 : (X++[Zc.cells (usr e) 1 false false])[X.length]?=some (.cells (usr e) 1 false false):=Zm
  generalize X++[Zc.cells (usr e) 1 false false]=X1 at z4 k1 g1
  have d1 : ldA 5 (pt X.length) X1=some (.agg (usr e).toArray,X1):=ZE (n:=5) g1 rfl
  obtain ⟨X2,e2,k2⟩:=Zwu (n:=n) (e:=e) (X:=X1)
  have hr2:=hr.step (k1.trans k2).step (by simp)
  obtain ⟨w,X3,sl',X4,q',e3,e4,r4,s4⟩:=Zw7 (r:=usr e) hr2 (by rw [List.length_map,List.length_take];omega) rfl rfl
  have hm:=(hle.trans (k1.trans k2)).more s4 hq
  rw [← List.map_singleton (f:=usr),← List.map_append,← htk] at r4
  obtain ⟨X5,sl5,q5,e5,r5,k5,o5⟩:=Zxb hn hs t (j+1) sl' q' X4 (by omega) (by omega) hm.1 hm.2 r4
  refine ⟨X5,sl5,q5,(Zr ?_).trans e5,r5,k5,o5⟩
  rw [ZC]
  unfold KP.l1
  rw [Za Zg,Zb,if_pos (by simpa using hlt),hf,z4,Za d1,Za e2,Za e3,Za e4,Za Zt,Qh (by omega)]
  rfl
theorem Zx8 {m : Yr} (h : Dir X d b m) (hE : ∀ e∈ZaQ m,Wx e=0) (hR : Jn ((ZaQ m).map (·.1))=true) (hn : (ZaQ m).length≤12) : ∃ X' d' r s c,R (n+13) Zd0 [pt d] X=some (pt d',X')∧HLe X X'∧OfS X X' d' r s c [] ((ZaQ m).map J8):=by
 obtain ⟨v,q,X1,e1,r1,k1,o1⟩:=ZvV (n:=n+9) h
 have e1 : R (n+12) ZaV [pt d] X=_:=e1
 have hl : ZH v X1=some (iv (ZaQ m).length,X1):=by have:=r1.rd.len (H':=X1);rwa [List.length_map] at this
 obtain ⟨X2,sl,q2,e2,r2,k2,o2⟩:=Zxb (n:=n+11) (H0:=X1) (by omega) r1.rd (ZaQ m).length 0 (.slice none 0 0) [] X1 (by omega) (by omega) (.refl _) (by simp) Qu.nil
 have e2 : Zj (c4 (KP.l1 (R (n+12)))) [.slice none 0 0,v,iv (ZaQ m).length,.int .i64 0] X1=_:=e2
 obtain ⟨X3,k3,h3⟩:=Zox (n:=n) (us:=(ZaQ m).map J8) (gs:=[]) (by rw [List.length_map];omega) (by simp) r2.us (Zs.nil (H:=X2)).rd
 rw [if_pos (Zxa hE hR hn)] at h3
 obtain ⟨d',r,s,c,e3,hS⟩:=h3
 have hle:=(k1.trans k2).trans k3
 refine ⟨X3,d',r,s,c,?_,hle,⟨hle,hS.nd,fun i hi=>Nat.le_trans (k1.trans k2).len (hS.own i hi),hS.K,hS.ok⟩⟩
 rw [R,ZpF rfl]
 unfold KP
 have q0 : bop .ptr .eql (pt d) (.pointer none) X=some (.bool false,X):=JA
 rw [Za q0,Zb,if_neg (by simp),Za e1,Za hl,ZO e2,Zu,Jy,Za e3,Za Zo,Za Zn]
 rfl
theorem Zw0 {r : NR} {s : NSt} {c d' : Nat} (hS : OfS X X' d' r s c [] (m.map J8)) : Zb6 (Qs s.K) (A.allK s)=Zb6 [] (m.map kOf):=by
 have h1 : Qs s.K=[]:=by rw [hS.K];exact List.eq_nil_of_length_eq_zero (by rw [ZcL];rfl)
 have h2:=hS.ok.all hS.nd.pinv.n
 rw [h1,← h2,List.map_map]
 rfl
end
end Go.Proofs.YtedkoimihknggaaGreatDoor.A

namespace Go.Proofs.YtedkoimihknggaaGreatDoor.A
set_option linter.unusedVariables false
set_option linter.unusedSimpArgs false
open Go.Proofs Go.Proofs.YtedkoimihknggaaGreatDoor
def Zcb (bs : List UInt8) : Nat × List UInt8:=
 if schemaS bs=2 then ((Kg bs).1,if (Kg bs).1=0 then bs else []) else ((Jk bs).1,if (Jk bs).1=0 then Zb6 [] ((Jk bs).2.map kOf) else [])
section
variable {X X' H H0 : Zd} {n d b : Nat} {v sl gv bv : Value} {m : List Ent} {e : Ent} {q : List Nat} {bs : List UInt8}
theorem Zus (hR : Zfy m) : Jn (m.map (·.1))=true:=Zfm (List.pairwise_map.2 hR)
theorem Zg4 (hs : Sl X bv (u8s bs)) (hb : bs.length≤100000000) : ∃ v X',R (n+14) Yd [bv] X=some (.tuple #[v,iv (Zcb bs).1],X')∧HLe X X'∧Sl X' v (u8s (Zcb bs).2):=by
 have e0 : R (n+13) K1 [bv] X=some (iv (schemaS bs),X):=Zru (n:=n+12) hs hb
 have q0 : bop .int .eql (iv (schemaS bs)) (.int .i64 2) X=some (.bool (decide (schemaS bs=2)),X):=by
  rw [ZA,show ((schemaS bs : Int)==2)=decide (schemaS bs=2) from by rw [Bool.eq_iff_iff,decide_eq_true_eq,beq_iff_eq];omega]
 have f1 : ∀ r X',KH (R (n+13)) bv X=some (r,X')→R (n+14) Yd [bv] X=some (r,X'):=fun r X' hr=>by rw [R,ZlN rfl];exact hr
 have ZzN : Sl X (.slice none 0 0) (u8s []):=(Zs.nil (H:=X)).rd
 unfold Zcb
 by_cases h2 : schemaS bs=2
 ·rw [if_pos h2]
  rw [decide_eq_true h2] at q0
  obtain ⟨dv,X1,e1,k1,_,_⟩:=Zsc (n:=n) hs hb
  have q1 : bop .int .neq (iv (Kg bs).1) (.int .i64 0) X1=some (.bool ((Kg bs).1 !=0),X1):=by rw [Zq,YX]
  by_cases h0 : (Kg bs).1=0
  ·obtain ⟨v,q,X2,e2,r2,k2,_⟩:=Zoo (n:=n+12) (hs.mono k1) (by omega)
   have e2 : R (n+13) Wz [bv] X1=_:=e2
   refine ⟨v,X2,f1 _ _ ?_,k1.trans k2,by simp only [if_pos h0];exact r2.rd⟩
   unfold KH
   rw [Za e0,Za q0,Zb,if_pos rfl,Za e1,Za Zo,Za Zn,Za q1,Zb,if_neg (by simp [h0]),Za e2]
   simp only [h0]
   rfl
  ·refine ⟨.slice none 0 0,X1,f1 _ _ ?_,k1,by simp only [if_neg h0];exact (Zs.nil (H:=X1)).rd⟩
   unfold KH
   rw [Za e0,Za q0,Zb,if_pos rfl,Za e1,Za Zo,Za Zn,Za q1,Zb,if_pos (by simp [h0])]
   rfl
 ·rw [if_neg h2]
  rw [decide_eq_false h2] at q0
  obtain ⟨dv,X1,e1,k1,hz,hok⟩:=Ztt (n:=n+5) hs hb
  have e1 : R (n+13) ZaK [bv] X=_:=e1
  have q1 : bop .int .neq (iv (Jk bs).1) (.int .i64 0) X1=some (.bool ((Jk bs).1 !=0),X1):=by rw [Zq,YX]
  by_cases h0 : (Jk bs).1=0
  ·obtain ⟨d,b,rfl,D,R1,hof⟩:=hok h0
   have hss:=ZuA D.g.nod R1
   obtain ⟨g1,g2⟩:=ZpK hof
   obtain ⟨X2,d',r,s,c,e2,k2,hS⟩:=Zx8 (n:=n) D (by rw [hss];exact g1) (by rw [hss];exact Zus R1) (by rw [hss];exact g2)
   rw [hss] at hS
   obtain ⟨w,q,X3,e3,r3,k3,_⟩:=Zq5 (n:=n+1) hS.nd
   have e3 : R (n+13) ZbA [pt d'] X2=_:=e3
   rw [Zw0 hS] at r3
   refine ⟨w,X3,f1 _ _ ?_,(k1.trans k2).trans k3,by simp only [if_pos h0];exact r3.rd⟩
   unfold KH
   rw [Za e0,Za q0,Zb,if_neg (by simp),Za e1,Za Zo,Za Zn,Za q1,Zb,if_neg (by simp [h0]),Za e2,Za e3]
   simp only [h0]
   rfl
  ·refine ⟨.slice none 0 0,X1,f1 _ _ ?_,k1,by simp only [if_neg h0];exact (Zs.nil (H:=X1)).rd⟩
   unfold KH
   rw [Za e0,Za q0,Zb,if_neg (by simp),Za e1,Za Zo,Za Zn,Za q1,Zb,if_pos (by simp [h0])]
   rfl
theorem ZsM {b2 : Value} (hn : m.length≤100) (hs : SlN 5 H0 v (m.map usr)) : ∀ (t j : Nat) (sl : Value) (q : List Nat) (X : Zd),m.length - j=t→j≤m.length→HLe H0 X→(∀ i∈q,H0.length≤i)→Qu 5 X sl ((m.take j).map usr) q→
  ∃ X' sl' q',Zj (c5 (W5.l1 (R n))) [b2,sl,v,iv m.length,iv j] X=some (.ext 0 [b2,sl'],X')∧Qu 5 X' sl' (m.map usr) q'∧HLe H0 X'∧∀ i∈q',H0.length≤i
 | 0,j,sl,q,X,ht,hj,hle,hq,hr=>by
  have hj : j=m.length:=by omega
  subst hj
  rw [List.take_length] at hr
  refine ⟨X,sl,q,ZD ?_,hr,hle,hq⟩
  rw [ZU]
  unfold W5.l1
  rw [Za Zg,Zb,if_neg (by simp)]
  rfl
 | t+1,j,sl,q,X,ht,hj,hle,hq,hr=>by
  have hkl : j < m.length:=by omega
  have hlt : (j : Int) < m.length:=by omega
  have hg:=List.getElem?_eq_getElem hkl
  have htk : m.take (j+1)=m.take j++[m[j]]:=by rw [List.take_add_one,hg];rfl
  generalize m[j]=e at hg htk
  have hf:=fun {K : Value→A.M Out}=>(hs.mono hle).fetch (k:=K) (r:=usr e) (i:=j) (by rw [List.getElem?_map,hg];rfl) (by omega) .i64
  have z4 : ∀ K : Value→A.M Out,bind (alc 1 zU) (fun q=>bind (stA 5 q (.agg (usr e).toArray)) fun _=>K q) X=K (pt X.length) (X++[.cells (usr e) 1 false false]):=fun K=>ZbW (n:=5) (zs:=usr ([],[])) (r:=usr e) rfl rfl rfl rfl
  have k1 : HLe X (X++[Zc.cells (usr e) 1 false false]):=.app _ _
  have g1 : (X++[Zc.cells (usr e) 1 false false])[X.length]?=some (.cells (usr e) 1 false false):=Zm
  generalize X++[Zc.cells (usr e) 1 false false]=X1 at z4 k1 g1
  have a0 : ld1 (pa X.length 0) X1=some (strv e.1,X1):=ZN g1 rfl
  have a1 : ld1 (pa X.length 1) X1=some (strv e.2,X1):=ZN g1 rfl
  have zb:=Zgz (k:=e.1) (s:=e.2) (H:=X1)
  have hr2:=hr.step k1.step (by simp)
  obtain ⟨w,X3,sl',X4,q',e3,e4,r4,s4⟩:=Zw7 (r:=usr e) hr2 (by rw [List.length_map,List.length_take];omega) rfl rfl
  have hm:=(hle.trans k1).more s4 hq
  rw [← List.map_singleton (f:=usr),← List.map_append,← htk] at r4
  obtain ⟨X5,sl5,q5,e5,r5,k5,o5⟩:=ZsM hn hs t (j+1) sl' q' X4 (by omega) (by omega) hm.1 hm.2 r4
  refine ⟨X5,sl5,q5,(Zr ?_).trans e5,r5,k5,o5⟩
  rw [ZU]
  unfold W5.l1
  rw [Za Zg,Zb,if_pos (by simpa using hlt),hf,z4,Za Zi,Za a0,Za Zi,Za a1,Za zb,Za e3,Za e4,Za Zt,Qh (by omega)]
  rfl
theorem Zzf (hn : m.length≤100) (hs : SlN 5 X v (m.map usr)) : ∃ sl q X',R (n+1) Zex [v] X=some (.agg #[sl,.slice none 0 0],X')∧Qu 5 X' sl (m.map usr) q∧HLe X X':=by
 have z1 : alc 1 zD X=some (pt X.length,X++[.cells [.slice none 0 0,.slice none 0 0] 1 false false]):=bx (vs:=[.slice none 0 0,.slice none 0 0]) rfl
 have k1 : HLe X (X++[Zc.cells [.slice none 0 0,.slice none 0 0] 1 false false]):=.app _ _
 have g1 : (X++[Zc.cells [.slice none 0 0,.slice none 0 0] 1 false false])[X.length]?=some (.cells [.slice none 0 0,.slice none 0 0] 1 false false):=Zm
 generalize X++[Zc.cells [.slice none 0 0,.slice none 0 0] 1 false false]=X1 at z1 k1 g1
 have hl : ZH v X1=some (iv m.length,X1):=by have:=hs.len (H':=X1);rwa [List.length_map] at this
 obtain ⟨X2,sl,q2,e2,r2,k2,o2⟩:=ZsM (n:=n) (b2:=pt X.length) hn (hs.mono k1) m.length 0 (.slice none 0 0) [] X1 (by omega) (by omega) (.refl _) (by simp) Qu.nil
 have e2 : Zj (c5 (W5.l1 (R n))) [pt X.length,.slice none 0 0,v,iv m.length,.int .i64 0] X1=_:=e2
 have g2:=k2 _ _ g1
 have hlt:=Z5 g1
 have ho:=r2.one
 have hX:=(k1.trans k2)
 have r3 : Qu 5 (X2.set X.length (.cells [sl,.slice none 0 0] 1 false false)) sl (m.map usr) q2:=r2.keep fun i hi=>List.getElem?_set_ne (by have:=o2 i hi;omega)
 have hsl:=r2.isS
 refine ⟨sl,q2,X2.set X.length (.cells [sl,.slice none 0 0] 1 false false),?_,r3,hX.put (Nat.le_refl _)⟩
 have zb : bld zD [(0,1,sl)] X2=some (.agg #[sl,.slice none 0 0],X2):=by
  obtain ⟨a,k,c,rfl⟩:=hsl
  simp [bld,KK,Value.cells,Yv,splice]
 rw [R,ZrP rfl]
 unfold W5
 rw [Za z1,Za hl,ZO e2,Zu,ZP,Za zb]
 exact YQ (vs:=[sl,.slice none 0 0]) g2 rfl rfl (by simp only [List.all_cons,ho.1];rfl)
theorem Zrp (hb : bs.length≤1000000000) : ∃ X',R (n+9) Zap [strv bs] X=some (.tuple #[strv (Zcb bs).2,iv (Zcb bs).1],X')∧HLe X X':=by
 have f1 : ∀ r X',Zar (R (n+8)) (strv bs) X=some (r,X')→R (n+9) Zap [strv bs] X=some (r,X'):=fun r X' hr=>by rw [R,Zoi rfl];exact hr
 have hgate : ∀ K : Value→A.M Value,bind (bop .str .neq (strv bs) (Value.string ⟨#[]⟩)) (fun v9x1=>bind (ZT v9x1 true 3 (bind (ixs (strv bs) (Value.int .i64 0)) fun v12x2=>bind (bop .int .eql v12x2 (Value.int .u8 2)) fun v13x3=>ret [strv bs,v12x2,v13x3])) (c3 fun _ _ q4_2=>bind (pick v9x1 q4_2 (Value.bool false)) K)) X=K (.bool (decide (schemaS bs=2))) X:=fun K=>by
  cases bs with
  | nil=>
   have q : bop .str .neq (strv []) (.string ⟨#[]⟩) X=some (.bool false,X):=by
    have:=Zbf (a:=[]) (b:=[]) (H:=X)
    exact this
   rw [Za q,Za (g_r.trans (if_neg (by simp)))]
   simp only [List.replicate]
   rw [ZX,Za Zh]
   rfl
  | cons x l=>
   have q : bop .str .neq (strv (x :: l)) (.string ⟨#[]⟩) X=some (.bool true,X):=by
    have:=Zbf (a:=x :: l) (b:=[]) (H:=X)
    exact this
   have x1 : ixs (strv (x :: l)) (.int .i64 0) X=some (u8v x,X):=WK (i:=0) rfl .i64 X
   have hsch : (schemaS (x :: l)=2)↔x.toNat=2:=by
    unfold schemaS
    simp only
    split <;> omega
   have q2 : bop .int .eql (u8v x) (.int .u8 2) X=some (.bool (decide (schemaS (x :: l)=2)),X):=by
    rw [ZA,show ((x.toNat : Int)==2)=decide (schemaS (x :: l)=2) from by rw [Bool.eq_iff_iff,decide_eq_true_eq,beq_iff_eq,hsch];omega]
   rw [Za q,ZK,Zf,Za x1,Zf,Za q2,ZQ,ZX,Za Zh]
   rfl
 unfold Zcb
 by_cases h2 : schemaS bs=2
 ·rw [if_pos h2]
  rw [decide_eq_true h2] at hgate
  obtain ⟨wv,X1,e1,k1,A1⟩:=Zsg (n:=n) (X:=X) hb
  obtain ⟨uv,gv,rfl,o1,o2⟩:=A1.one
  have z2 : ∀ K : Value→A.M Value,bind (alc 1 zD) (fun q=>bind (stA 2 q (.agg #[uv,gv])) fun _=>K q) X1=K (pt X1.length) (X1++[.cells [uv,gv] 1 false false]):=fun K=>ZbW (n:=2) (zs:=[.slice none 0 0,.slice none 0 0]) (r:=[uv,gv]) rfl rfl rfl (by simp only [List.all_cons,o1,o2];rfl)
  have k2 : HLe X1 (X1++[Zc.cells [uv,gv] 1 false false]):=.app _ _
  generalize X1++[Zc.cells [uv,gv] 1 false false]=X2 at z2 k2
  have q1 : bop .int .neq (iv (Kg bs).1) (.int .i64 0) X2=some (.bool ((Kg bs).1 !=0),X2):=by rw [Zq,YX]
  refine ⟨X2,f1 _ _ ?_,k1.trans k2⟩
  unfold Zar
  refine (hgate _).trans ?_
  rw [Zb,if_pos rfl,Za e1,Za Zo,Za Zn,z2,Za q1,Zb]
  by_cases h0 : (Kg bs).1=0
  ·rw [if_neg (by simp [h0]),if_pos h0,h0]
   rfl
  ·rw [if_pos (by simp [h0]),if_neg h0]
   rfl
 ·rw [if_neg h2]
  rw [decide_eq_false h2] at hgate
  obtain ⟨lv,X1,e1,k1,U1⟩:=Zu7 (n:=n+1) (H:=X) hb
  have e1 : R (n+8) Za0 [strv bs] X=_:=e1
  have q1 : bop .int .neq (iv (Jk bs).1) (.int .i64 0) X1=some (.bool ((Jk bs).1 !=0),X1):=by rw [Zq,YX]
  by_cases h0 : (Jk bs).1=0
  ·obtain ⟨_,hof⟩:=Zha h0
   obtain ⟨g1,g2⟩:=ZpK hof
   have hU : SlN 5 X1 lv ((Jk bs).2.map usr):=by
    have:=U1.1
    rw [List.map_map] at this
    exact this
   obtain ⟨sl,q,X2,e2,r2,k2⟩:=Zzf (n:=n+7) (by omega) hU
   have e2 : R (n+8) Zex [lv] X1=_:=e2
   obtain ⟨X3,e3,k3⟩:=Zwb (n:=n+2) (us:=(Jk bs).2.map J8) (N:=[]) (by rw [List.length_map];omega) r2.us (fun u hu=>by
    obtain ⟨e,he,rfl⟩:=List.mem_map.1 hu
    refine ZmG ?_
    have h1:=Zhd (g1 e he)
    rw [Zfc] at h1
    omega) (Zs.nil (H:=X2)).rd (by simp) (by simp) r2.one.1 rfl
   have e3 : R (n+8) Zcn [.agg #[sl,.slice none 0 0]] X2=_:=e3
   refine ⟨X3,f1 _ _ ?_,(k1.trans k2).trans k3⟩
   unfold Zar
   refine (hgate _).trans ?_
   rw [Zb,if_neg (by simp),Za e1,Za Zo,Za Zn,Za q1,Zb,if_neg (by simp [h0]),Za e2,Za e3,if_pos h0,h0,List.map_map]
   rfl
  ·refine ⟨X1,f1 _ _ ?_,k1⟩
   unfold Zar
   refine (hgate _).trans ?_
   rw [Zb,if_neg (by simp),Za e1,Za Zo,Za Zn,Za q1,Zb,if_pos (by simp [h0]),if_neg h0]
   rfl
theorem Zup (h : (Zcb bs).1=0) : Zcb (Zcb bs).2=(0,(Zcb bs).2)∧schemaS (Zcb bs).2=2:=by
 unfold Zcb at h ⊢
 by_cases h2 : schemaS bs=2
 ·rw [if_pos h2] at h
  have h : (Kg bs).1=0:=h
  rw [if_pos h2]
  simp only [if_pos h]
  rw [if_pos h2,h]
  exact ⟨rfl,h2⟩
 ·rw [if_neg h2] at h
  have h : (Jk bs).1=0:=h
  rw [if_neg h2]
  simp only [if_pos h]
  have hs : schemaS (Zb6 [] ((Jk bs).2.map kOf))=2:=Zto
  obtain ⟨_,hof⟩:=Zha h
  obtain ⟨g1,g2⟩:=ZpK hof
  have hris : Jn ((Jk bs).2.map (·.1))=true:=by
   have h3 : ofE ((Jk bs).2.map J8)=0:=by rw [ZmT,hof];rfl
   unfold ofE at h3
   by_cases h1 : Kq ((Jk bs).2.map J8)=0
   ·rw [if_pos h1] at h3
    by_cases h4 : WT none ((Jk bs).2.map J8)=true
    ·rw [ZkO,List.map_map] at h4
     exact h4
    ·rw [if_neg h4] at h3
     exact absurd h3 (by decide)
   ·rw [if_neg h1] at h3
    exact absurd h3 h1
  have hoe:=Zxa g1 hris g2
  rw [ZjZ,List.map_map] at hoe
  have hok : ofK ((Jk bs).2.map kOf) []=0:=by
   have : ofK ((Jk bs).2.map (ZW ∘ J8)) []=0:=by omega
   exact this
  have hrd:=Zvw hok
  rw [if_pos hs,hrd]
  exact ⟨rfl,hs⟩
end
end Go.Proofs.YtedkoimihknggaaGreatDoor.A

namespace Go.Proofs.YtedkoimihknggaaGreatDoor.A
set_option linter.unusedVariables false
set_option linter.unusedSimpArgs false
open Go.Proofs Go.Proofs.YtedkoimihknggaaGreatDoor
section
variable {X X' H H0 : Zd} {n : Nat} {a : Value} {bs : List UInt8}
theorem Zyq (h : bs.length≤900) : (Zcb bs).2.length≤1733:=by
 unfold Zcb
 by_cases h2 : schemaS bs=2
 ·rw [if_pos h2]
  simp only
  split
  ·omega
  ·simp
 ·rw [if_neg h2]
  simp only
  split
  ·rename_i h0
   obtain ⟨_,hof⟩:=Zha h0
   obtain ⟨g1,g2⟩:=ZpK hof
   refine Zre (fun k hk=>?_) (by rw [List.length_map];exact g2) (by simp) (by simp)
   obtain ⟨e,he,rfl⟩:=List.mem_map.1 hk
   refine ZmG ?_
   have h1:=Zhd (g1 e he)
   rw [Zfc] at h1
   have h1 : (K6 (kOf e) : Int)=0:=h1
   omega
  ·simp
theorem Zyp {vs : List Value} {k : Nat} (h : vs.length=k) : Sl (X++[.cells vs 1 false false]) (.slice (some ⟨X.length,0,none⟩) k k) vs:=by
 subst h
 exact Zs.rd (own:=[X.length]) (.inr ⟨X.length,[],false,rfl,rfl,by rw [Zm];simp⟩)
theorem ZoO : ∃ H',R (n+15) ZbH [] H=some (.bool true,H')∧HLe H H':=by
 have z1 : bsl 1 3 (.int .u8 0) [(0,1,(Value.int .u8 1)),(1,1,(Value.int .u8 0)),(2,1,(Value.int .u8 0))] H=some (.slice (some ⟨H.length,0,none⟩) 3 3,H++[.cells (u8s [1,0,0]) 1 false false]):=rfl
 have k1 : HLe H (H++[Zc.cells (u8s [1,0,0]) 1 false false]):=.app _ _
 have s1 : Sl (H++[Zc.cells (u8s [1,0,0]) 1 false false]) (.slice (some ⟨H.length,0,none⟩) 3 3) (u8s [1,0,0]):=Zyp rfl
 generalize H++[Zc.cells (u8s [1,0,0]) 1 false false]=X1 at z1 k1 s1
 obtain ⟨v,X2,e2,k2,s2⟩:=Zg4 (n:=n) s1 (by simp)
 have hm : Zcb [1,0,0]=(0,[2,0,0,0,0]):=by decide
 rw [hm] at e2 s2
 have q1 : bop .int .eql (iv ((0 : Nat) : Int)) (.int .i64 0) X2=some (.bool true,X2):=by rw [ZA];rfl
 have q2 : bop .str .eql (strv [2,0,0,0,0]) (.string ⟨#[2,0,0,0,0]⟩) X2=some (.bool true,X2):=Zd1 (b:=[2,0,0,0,0])
 refine ⟨X2,?_,k1.trans k2⟩
 rw [R,ZnQ rfl]
 unfold ZfC
 rw [Za z1,Za e2,Za Zo,Za Zn,Za q1,ZK,Zf,Za (Zd6 s2),Zf,Za q2,ZQ,ZX,Za Zh]
 rfl
theorem ZuK (hA : Sl H a (u8s bs)) (hn : bs.length≤9223372036854775807) : ∃ H',R (n+16) YP [a] H=some (.bool true,H'):=by
 obtain ⟨H1,e1,k1⟩:=ZoO (n:=n) (H:=H)
 obtain ⟨H1',e1',_⟩:=ZoO (n:=n) (H:=H1)
 have hs:=hA.mono k1
 have hl : ZH a H1=some (iv bs.length,H1):=by have:=hs.len (H':=H1);rwa [QB] at this
 have f1 : ∀ v H',KE (R (n+15)) a H=some (v,H')→R (n+16) YP [a] H=some (v,H'):=fun v H' hr=>by rw [R,ZgE rfl];exact hr
 by_cases h900 : bs.length≤900
 rotate_left
 ·have q1 : bop .int .gtr (iv bs.length) (.int .i64 900) H1=some (.bool true,H1):=by rw [ZF,decide_eq_true (by omega)]
  refine ⟨H1',f1 _ _ ?_⟩
  unfold KE
  rw [Za e1,Za ZY]
  simp only [Bool.not_true]
  rw [ZK,Zf,Za hl,Zf,Za q1,ZQ,ZX,Za Zh]
  simp only [cond_false]
  rw [Zb,if_pos rfl,Za e1']
  rfl
 have q1 : bop .int .gtr (iv bs.length) (.int .i64 900) H1=some (.bool false,H1):=by rw [ZF,decide_eq_false (by omega)]
 have z2:=Zy4 (es:=1) (z:=.int .u8 0) (H:=H1)
 have k2 : HLe H1 (H1++[Zc.cells [] 1 false false]):=.app _ _
 have c2 : (H1++[Zc.cells [] 1 false false])[H1.length]?=some (.cells [] 1 false false):=Zm
 generalize H1++[Zc.cells [] 1 false false]=X2 at z2 k2 c2
 obtain ⟨ov,X3,oq,e3,r3,k3,_⟩:=Zuq (b:=1) (hs.mono k2) (by rw [QB];omega) (by rw [QB];omega) (s:=.slice (some ⟨H1.length,0,none⟩) 0 0) (.inr ⟨H1.length,false,rfl,c2,rfl⟩)
 obtain ⟨xv,X4,e4,k4,s4⟩:=Zg4 (n:=n+1) r3.rd (by omega)
 have e4 : R (n+15) Yd [ov] X3=_:=e4
 have hs4:=((hs.mono k2).mono k3).mono k4
 have t4:=Zd6 hs4
 obtain ⟨X5,e5,k5⟩:=Zrp (n:=n+6) (X:=X4) (bs:=bs) (by omega)
 have e5 : R (n+15) Zap [strv bs] X4=_:=e5
 have hag:=Zup (bs:=bs)
 have hln:=Zyq h900
 generalize Zcb bs=r at e4 e5 s4 hag hln
 obtain ⟨e,w⟩:=r
 simp only at e4 e5 s4 hag hln
 have s5:=s4.mono k5
 have q5 : bop .str .neq (strv w) (strv w) X5=some (.bool false,X5):=by rw [Zbf];simp
 have q6 : bop .int .neq (iv e) (iv e) X5=some (.bool false,X5):=by rw [Zq];simp
 have to5:=Zd6 ((r3.rd.mono k4).mono k5)
 have t5:=Zd6 (hs4.mono k5)
 have q7 : bop .str .neq (strv bs) (strv bs) X5=some (.bool false,X5):=by rw [Zbf];simp
 have q8 : bop .int .neq (iv e) (.int .i64 0) X5=some (.bool (e !=0),X5):=by rw [Zq,YX]
 have pre : ∀ r H',(cnd (.bool (e !=0)) (ret (Value.bool true))
   (bind (R (n+15) Yd [xv]) fun v52x28=>
   bind (Zz v52x28 0) fun v53x29=>
   bind (Zz v52x28 1) fun v54x30=>
   bind (bop .int .eql v54x30 (Value.int .i64 0)) fun v56x31=>
   bind (ZT v56x31 true 5 (bind (b2s v53x29) fun v59x32=>
   bind (b2s xv) fun v61x33=>
   bind (bop .str .eql v59x32 v61x33) fun v62x34=>
   ret [v53x29,v59x32,xv,v61x33,v62x34])) (c5 fun _ _ _ _ q35_4=>
   bind (pick v56x31 q35_4 (Value.bool false)) fun v63x36=>
   bind (ZT v63x36 true 3 (bind (R (n+15) K1 [xv]) fun v66x37=>
   bind (bop .int .eql v66x37 (Value.int .i64 2)) fun v67x38=>
   ret [xv,v66x37,v67x38])) (c3 fun _ _ q39_2=>
   bind (pick v63x36 q39_2 (Value.bool false)) fun v68x40=>
   ret v68x40)))) X5=some (r,H')→R (n+16) YP [a] H=some (r,H'):=fun r H' hr=>f1 _ _ (by
  unfold KE
  rw [Za e1,Za ZY]
  simp only [Bool.not_true]
  rw [ZK,Zf,Za hl,Zf,Za q1,ZQ,ZX,Za Zh]
  simp only [cond_false]
  rw [Zb,if_neg (by simp),Za z2,Za e3,Za e4,Za Zo,Za Zn,Za t4,Za e5,Za Zo,Za Zn,Za (Zd6 s5),Za q5,ZK,Zf,Za q6,ZQ,ZX,Za Zh]
  simp only [cond_false]
  rw [ZK,Zf,Za to5,Zf,Za t5,Zf,Za q7,ZQ,ZU,Za Zh]
  simp only [cond_false]
  rw [Zb,if_neg (by simp),Za q8]
  exact hr)
 by_cases he : e=0
 ·obtain ⟨h1,h2⟩:=hag he
  obtain ⟨yv,X6,e6,k6,s6⟩:=Zg4 (n:=n+1) s5 (by omega)
  have e6 : R (n+15) Yd [xv] X5=_:=e6
  rw [h1] at e6 s6
  have q9 : bop .int .eql (iv ((0 : Nat) : Int)) (.int .i64 0) X6=some (.bool true,X6):=by rw [ZA];rfl
  have s56:=s5.mono k6
  have q10 : bop .str .eql (strv w) (strv w) X6=some (.bool true,X6):=by rw [Zd1];simp
  have e7 : R (n+15) K1 [xv] X6=some (iv (schemaS w),X6):=Zru (n:=n+14) s56 (by omega)
  rw [h2] at e7
  have q11 : bop .int .eql (iv ((2 : Nat) : Int)) (.int .i64 2) X6=some (.bool true,X6):=by rw [ZA];rfl
  refine ⟨X6,pre _ _ ?_⟩
  rw [Zb,if_neg (by simp [he]),Za e6,Za Zo,Za Zn,Za q9,ZK,Zf,Za (Zd6 s6),Zf,Za (Zd6 s56),Zf,Za q10,ZQ,ZU,Za Zh]
  simp only [cond_true]
  rw [ZK,Zf,Za e7,Zf,Za q11,ZQ,ZX,Za Zh]
  rfl
 ·refine ⟨X5,pre _ _ ?_⟩
  rw [Zb,if_pos (by simp [he])]
  rfl
theorem law_MigrateBytes : ∀ (xs : Ins [.slc (.int .u8)]) (H : Zd) (vs : List Value),ZpP [.slc (.int .u8)] xs→ZfZ [.slc (.int .u8)] xs H vs→∃ n H',R n YP vs H=some (.bool true,H'):=by
 intro xs H vs hwf hrd
 obtain ⟨l,_⟩:=xs
 obtain ⟨hl,_⟩:=hwf
 obtain ⟨c1,_,rfl,hc1,h1,rfl⟩:=hrd
 obtain ⟨a,rfl⟩ : ∃ a,c1=[a]:=by
  match c1,hc1 with
  | [a],_=>exact ⟨a,rfl⟩
 obtain ⟨bs,hs,hn⟩:=Zuw hl h1
 obtain ⟨H',e⟩:=ZuK (n:=0) hs hn
 exact ⟨16,H',e⟩
end
end Go.Proofs.YtedkoimihknggaaGreatDoor.A

