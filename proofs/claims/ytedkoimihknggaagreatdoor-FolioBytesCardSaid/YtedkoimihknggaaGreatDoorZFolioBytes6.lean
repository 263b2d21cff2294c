/- What the law FolioBytes needs (part 6). -/
import Derived.Test.YtedkoimihknggaaGreatDoorZFolioBytes5
namespace Go.Proofs.YtedkoimihknggaaGreatDoor.A
set_option linter.unusedVariables false
set_option linter.unusedSimpArgs false
open Go.Proofs Go.Proofs.YtedkoimihknggaaGreatDoor
abbrev nActT : Ty:=.struct (.pair (.int .u8) (.pair .str (.pair .str (.pair .bool .unit))))
structure Zcm where
 kd : Nat
 a : Tx
 b : Tx
 is : Bool
abbrev Zcm.cells (a : Zcm) : List Value:=[.int .u8 a.kd,strv a.a,strv a.b,.bool a.is]
abbrev zNA : Value:=.agg #[.int .u8 0,.string ⟨#[]⟩,.string ⟨#[]⟩,.bool false]
theorem ZBs {x : nActT.den} {H : Zd} {cs : List Value} (hw : nActT.wf x) (h : Rd nActT x H cs) : ∃ a : Zcm,cs=a.cells∧a.kd≤255:=by
 obtain ⟨k,s,t,b,u⟩:=x
 obtain ⟨h1,h2,h3,h4,h5⟩:=h
 obtain ⟨w1,_⟩:=hw
 have h1 : cs.take 1=[.int .u8 k]:=h1
 have h2 : (cs.drop 1).take 1=[.string s]:=h2
 have h3 : ((cs.drop 1).drop 1).take 1=[.string t]:=h3
 have h4 : (((cs.drop 1).drop 1).drop 1).take 1=[.bool b]:=h4
 have h5 : (((cs.drop 1).drop 1).drop 1).drop 1=[]:=h5
 match cs,h1,h2,h3,h4,h5 with
 | [c1,c2,c3,c4],h1,h2,h3,h4,_=>
  have w1:=ZCx w1
  have key : ∀ (q : IntKind) (z : Int),0≤z→[Value.int q z]=[Value.int q (z.toNat : Nat)]:=fun q z hz=>by rw [Int.toNat_of_nonneg hz]
  refine ⟨⟨Int.toNat k,ByteArray.data s |>.toList,ByteArray.data t |>.toList,b⟩,?_,?_⟩
  ·have e20 : c2=.string s:=by simpa using h2
   have e30 : c3=.string t:=by simpa using h3
   have e40 : c4=.bool b:=by simpa using h4
   have e1 : [c1]=[Value.int .u8 (Int.toNat k : Nat)]:=Eq.trans (by simpa using h1) (key .u8 k w1.1)
   have e1 : c1=Value.int .u8 (Int.toNat k : Nat):=by simpa using e1
   have e2 : c2=strv (ByteArray.data s).toList:=e20.trans (ZvK s)
   have e3 : c3=strv (ByteArray.data t).toList:=e30.trans (ZvK t)
   rw [e1,e2,e3,e40]
  ·have : ∀ z : Int,0≤z∧z≤255→z.toNat≤255:=fun z hz=>by omega
   exact this k w1
def ZcR (H : Zd) (sl : Value) (ac : List Zcm) : Prop:=SlN 4 H sl (ac.map Zcm.cells)∧∀ a∈ac,a.kd≤255
theorem Zzf {x : (Ty.slc nActT).den} {H : Zd} {v : Value} (hwf : (Ty.slc nActT).wf x) (h : Rd (.slc nActT) x H [v]) : ∃ ac,ZcR H v ac∧ac.length≤9223372036854775807:=by
 obtain ⟨rows,h1,h2,h3,h4⟩:=ZAy hwf h
 obtain ⟨ac,h5,h6⟩:=Zqk (f:=Zcm.cells) (Q:=fun _ a=>a.kd≤255) (rows:=rows) fun r hr=>by
  obtain ⟨y,hy,hr⟩:=h2 r hr
  exact ZBs hy hr
 subst h5
 exact ⟨ac,⟨h1,h6⟩,by simpa using h3⟩
section
variable {H H' X X' : Zd} {sl : Value} {ac : List Zcm} {n d c : Nat} {s : NSt} {r : NR} {m : Tx}
theorem ZcR.len (h : ZcR H sl ac) : Zw sl H'=some (iv ac.length,H'):=by
 have:=h.1.len (H':=H')
 rwa [List.length_map] at this
theorem ZcR.mono (h : ZcR H sl ac) (hl : HLe H H') : ZcR H' sl ac:=⟨h.1.mono hl,h.2⟩
theorem ZcR.fetch {β : Type} {k : Value→M β} (h : ZcR H sl ac) {j : Nat} {a : Zcm} (hj : ac[j]?=some a) :
  bind (ixa 4 sl (iv j)) (fun p=>bind (ldA 4 p) fun v=>bind (alc 1 zNA) fun q=>bind (stA 4 q v) fun _=>k q) H=k (pt H.length) (H++[.cells a.cells 1 false false]):=by
 have hr : (ac.map Zcm.cells)[j]?=some a.cells:=by rw [List.getElem?_map,hj];rfl
 rw [h.1.fetch hr (by omega) .i64]
 exact Zar (n:=4) (zs:=[.int .u8 0,.string ⟨#[]⟩,.string ⟨#[]⟩,.bool false]) (r:=a.cells) rfl rfl rfl rfl
def Zn7 (a : Zcm) : Bool:=decide (a.a.length≤50) && decide (a.b.length≤50)
theorem Zwe {H0 : Zd} (h : ZcR H0 sl ac) (hn : ac.length≤9223372036854775807) : ∀ (t j : Nat) {X : Zd},ac.length - j=t→j≤ac.length→HLe H0 X→
  ∃ X',Zi (c4 (WI.l1 (R n))) [sl,sl,iv ac.length,iv j] X=some (if (ac.drop j).all Zn7 then .ext 0 [sl] else .ret (.bool false),X')∧HLe H0 X'
 | 0,j,X,ht,hj,hle=>by
  have : j=ac.length:=by omega
  subst this
  rw [List.drop_length]
  refine ⟨X,ZL ?_,hle⟩
  rw [ZI]
  unfold WI.l1
  rw [Za Zl,Zb,if_neg (by simp)]
  rfl
 | t+1,j,X,ht,hj,hle=>by
  have hjn : j < ac.length:=by omega
  have hlt : (j : Int) < ac.length:=by omega
  have hja:=List.getElem?_eq_getElem hjn
  have hd:=List.drop_eq_getElem_cons hjn
  generalize ac[j]=a at hja hd
  have g1 : (X++[Ze.cells a.cells 1 false false])[X.length]?=some (.cells a.cells 1 false false):=ZB
  have l1 : ld1 (pa X.length 1) (X++[.cells a.cells 1 false false])=some (strv a.a,X++[.cells a.cells 1 false false]):=Zv g1 rfl
  have l2 : ld1 (pa X.length 2) (X++[.cells a.cells 1 false false])=some (strv a.b,X++[.cells a.cells 1 false false]):=Zv g1 rfl
  have hf:=fun {K : Value→M Out}=>(h.mono hle).fetch (k:=K) hja
  have k1:=hle.trans (HLe.app X [.cells a.cells 1 false false])
  generalize X++[Ze.cells a.cells 1 false false]=X1 at g1 l1 l2 k1 hf
  obtain ⟨X2,e2,k2⟩:=Zwe h hn t (j+1) (by omega) (by omega) k1
  rw [hd,List.all_cons]
  have hb : WI.l1 (R n) sl sl (iv ac.length) (iv j) X=some (if Zn7 a then .nrm [sl,sl,iv ac.length,iv ((j+1 : Nat) : Int)] else .ret (.bool false),X1):=by
   unfold WI.l1
   rw [Za Zl,Zb,if_pos (by simpa using hlt),hf,Za YI,Za l1,Za ZN,Za Qg]
   unfold Zn7
   by_cases h1 : a.a.length≤50
   ·have h1' : ¬ ((a.a.length : Int) > 50):=by omega
    rw [decide_eq_false h1',Z4,Zo,Za YI,Zo,Za l2,Zo,Za ZN,Zo,Za Qg,Z6,ZI,Za Zm,decide_eq_true h1]
    simp only [cond_false]
    by_cases h2 : a.b.length≤50
    ·have h2' : ¬ ((a.b.length : Int) > 50):=by omega
     rw [decide_eq_false h2',Zb,if_neg (by simp),Za ZC,Qd (by omega),decide_eq_true h2]
     rfl
    ·have h2' : ((a.b.length : Int) > 50):=by omega
     rw [decide_eq_true h2',Zb,if_pos rfl,decide_eq_false h2]
     rfl
   ·have h1' : ((a.a.length : Int) > 50):=by omega
    rw [decide_eq_true h1',Za (g_r.trans (if_neg (by simp)))]
    simp only [List.replicate]
    rw [ZI,Za Zm]
    simp only [cond_true]
    rw [Zb,if_pos rfl,decide_eq_false h1]
    rfl
  cases hfa : Zn7 a
  ·rw [hfa] at hb
   exact ⟨X1,QW hb,k1⟩
  ·rw [hfa] at hb
   exact ⟨X2,(ZA hb).trans e2,k2⟩
theorem ZBY (h : ZcR H sl ac) (hn : ac.length≤9223372036854775807) : ∃ H',R (n+1) Zao [sl] H=some (.bool (ac.all Zn7 && decide (ac.length≤60)),H')∧HLe H H':=by
 obtain ⟨H',e,k⟩:=Zwe (n:=n) h hn ac.length 0 (by omega) (by omega) (.refl _)
 rw [List.drop_zero] at e
 have e : Zi (c4 (WI.l1 (R n))) [sl,sl,iv ac.length,.int .i64 0] H=_:=e
 refine ⟨H',?_,k⟩
 rw [R,Zut rfl]
 unfold WI
 rw [Za h.len]
 cases hf : ac.all Zn7
 ·rw [hf] at e
  rw [Yl e];rfl
 ·rw [hf] at e
  rw [ZY e,ZG,Yq,Za h.len,Za Q7]
  simp [ret,decide_eq_decide]
  omega
end
end Go.Proofs.YtedkoimihknggaaGreatDoor.A
namespace Go.Proofs.YtedkoimihknggaaGreatDoor.A
set_option linter.unusedVariables false
set_option linter.unusedSimpArgs false
open Go.Proofs Go.Proofs.YtedkoimihknggaaGreatDoor
def YP (u : Zcm) (s : NSt) : NSt:=
 match u.kd % 11 with
 | 0=>KU u.a u.b s
 | 1=>Kb u.a s
 | 2=>YH u.a u.b s
 | 3=>Q6 u.a u.b s
 | 4=>Yo u.a u.is s
 | 5=>Wm u.a u.b s
 | 6=>Zjp u.a s
 | 7=>ZfK u.a s
 | 8=>Za1 u.a u.b s
 | 9=>Ws u.a u.b s
 | _=>s
section
variable {X X' Y Y1 Y2 Y3 H0 : Zd} {n d c c' b1 b2 b3 : Nat} {r r' : NR} {uv gv uv' gv' v : Value} {s s' : NSt} {u : Zcm} {e : Int}
theorem RD.setB {b : Nat} {c1 c2 d1 d2 : Value} (h : RD Y uv gv s) (hb : Y[b]?=some (.cells [c1,c2] 1 false false)) (i1 : Wr c1) (i2 : Wr c2) : RD (Y.set b (.cells [d1,d2] 1 false false)) uv gv s:=
 ⟨h.ex.imp fun us ⟨a,b⟩=>⟨a.setD hb i1 i2,b⟩,h.n.imp fun q ⟨N,a,b⟩=>⟨N,a.setD hb i1 i2,b⟩⟩
structure ZfB (X X' : Zd) (d : Nat) (r r' : NR) (s' : NSt) (uv' gv' : Value) (c : Nat) : Prop where
 nd : ND X' d r' s' (c+1)
 rd : RD X' uv' gv' s'
 st : Zz r.own X r'.own X'
structure DoB (X Y : Zd) (b1 b2 b3 : Nat) (u : Zcm) (uv gv : Value) : Prop where
 le : HLe X Y
 h1 : Y[b1]?=some (.cells [uv,gv] 1 false false)
 h2 : Y[b2]?=some (.cells u.cells 1 false false)
 h3 : Y[b3]?=some (.cells [.slice none 0 0,.slice none 0 0] 1 false false)
 b : X.length≤b1∧b1 < b2∧b2 < b3
theorem Zdc (hR : RD X uv gv s) : ∃ b1 b2 b3 Y,(∀ {β : Type} (K : Value→Value→Value→Value→M β),bind (alc 1 (.agg #[uv,gv])) (fun v4=>bind (alc 1 (.agg u.cells.toArray)) fun v5=>bind (alc 1 zD) fun v6=>bind (fa 0 v5) fun v11=>bind (ld1 v11) fun v12=>bind (bop .int .rem v12 (Value.int .u8 11)) fun v13=>K v4 v5 v6 v13) X=K (pt b1) (pt b2) (pt b3) (.int .u8 ((u.kd % 11 : Nat) : Int)) Y)∧DoB X Y b1 b2 b3 u uv gv:=by
 have z1 : alc 1 (.agg #[uv,gv]) X=some (pt X.length,X++[.cells [uv,gv] 1 false false]):=Kz (vs:=[uv,gv]) (by simp only [List.all_cons,hR.oneU,hR.oneG];rfl)
 have k1 : HLe X (X++[Ze.cells [uv,gv] 1 false false]):=.app _ _
 have c1 : (X++[Ze.cells [uv,gv] 1 false false])[X.length]?=some (.cells [uv,gv] 1 false false):=ZB
 generalize X++[Ze.cells [uv,gv] 1 false false]=X1 at z1 k1 c1
 have z2 : alc 1 (.agg u.cells.toArray) X1=some (pt X1.length,X1++[.cells u.cells 1 false false]):=Kz (vs:=u.cells) rfl
 have k2 : HLe X1 (X1++[Ze.cells u.cells 1 false false]):=.app _ _
 have c2 : (X1++[Ze.cells u.cells 1 false false])[X1.length]?=some (.cells u.cells 1 false false):=ZB
 generalize X1++[Ze.cells u.cells 1 false false]=X2 at z2 k2 c2
 have z3 : alc 1 zD X2=some (pt X2.length,X2++[.cells [.slice none 0 0,.slice none 0 0] 1 false false]):=Kz (vs:=[.slice none 0 0,.slice none 0 0]) rfl
 have k3 : HLe X2 (X2++[Ze.cells [.slice none 0 0,.slice none 0 0] 1 false false]):=.app _ _
 have c3 : (X2++[Ze.cells [.slice none 0 0,.slice none 0 0] 1 false false])[X2.length]?=some (.cells [.slice none 0 0,.slice none 0 0] 1 false false):=ZB
 generalize X2++[Ze.cells [.slice none 0 0,.slice none 0 0] 1 false false]=X3 at z3 k3 c3
 have a0 : ld1 (pa X1.length 0) X3=some (.int .u8 u.kd,X3):=Zv (k3 _ _ c2) rfl
 have hmod : (u.kd : Int).tmod 11=((u.kd % 11 : Nat) : Int):=by rw [Int.tmod_eq_emod_of_nonneg (by omega)];omega
 have x0 : bop .int .rem (.int .u8 u.kd) (.int .u8 11) X3=some (.int .u8 ((u.kd % 11 : Nat) : Int),X3):=by rw [JQ,if_neg (by omega),hmod]
 refine ⟨X.length,X1.length,X2.length,X3,fun {β} K=>by rw [Za z1,Za z2,Za z3,Za Zh,Za a0,Za x0],(k1.trans k2).trans k3,k3 _ _ (k2 _ _ c1),k3 _ _ c2,c3,Nat.le_refl _,Qz c1,Qz c2⟩
theorem ZdL (hd : ND X d r s c) (hR : RD X uv gv s) (hB : DoB X Y b1 b2 b3 u uv gv) (hl : HLe Y Y1) (rd : RD Y1 uv' gv' s') : ∃ Y2,stA 2 (pt b1) (.agg #[uv',gv']) Y1=some (undef,Y2)∧ND Y2 d r s c∧RD Y2 uv' gv' s'∧Y2[b1]?=some (.cells [uv',gv'] 1 false false)∧Y2[b2]?=some (.cells u.cells 1 false false)∧Y2[b3]?=some (.cells [.slice none 0 0,.slice none 0 0] 1 false false)∧HLe X Y2:=by
 obtain ⟨hb1,hb2,hb3⟩:=hB.b
 have g1:=hl _ _ hB.h1
 obtain ⟨iu,ig⟩:=hR.isSl
 have hal : ([uv',gv'].all oneCell)=true:=by simp only [List.all_cons,rd.oneU,rd.oneG];rfl
 have w1:=WR (vs:=[uv',gv']) (n:=2) g1 rfl rfl hal
 exact ⟨Y1.set b1 (.cells [uv',gv'] 1 false false),w1,⟨hd.toND0.box (hB.le.trans hl) hb1,hd.inv⟩,rd.setB g1 iu ig,ZP g1,(List.getElem?_set_ne (by omega)).trans (hl _ _ hB.h2),(List.getElem?_set_ne (by omega)).trans (hl _ _ hB.h3),(hB.le.trans hl).putB hb1⟩
theorem Zc2 (hd : ND0 X d r s c) (hl : HLe X Y2) (rd : RD Y2 uv' gv' s') (c1 : Y2[b1]?=some (.cells [uv',gv'] 1 false false)) (c3 : Y2[b3]?=some (.cells [.slice none 0 0,.slice none 0 0] 1 false false)) (hb : X.length≤b1∧b1 < b2∧b2 < b3) (hd2 : ND0 Y2 d r s c) (hst : Zz r.own Y2 r'.own Y3) (hd3 : ND Y3 d r' s' (c+1)) :
  ∃ X',(c4 fun q160_0 q160_1 q160_2 q160_3=>
   bind (ldA 2 q160_0) fun v184x161=>
   bind (bop .int .eql q160_2 q160_3) fun v187x162=>
   bind (stA 2 q160_1 v184x161) fun _=>
   bind (ldA 2 q160_1) fun vrx163=>
   ret (Value.tuple #[vrx163,v187x162])) [pt b1,pt b3,iv e,iv e] Y3=some (.tuple #[.agg #[uv',gv'],.bool true],X')∧ZfB X X' d r r' s' uv' gv' c:=by
 have hc:=hd2.cle hst
 have c1':=hc _ _ _ _ _ c1
 have c3':=hc _ _ _ _ _ c3
 have rd3:=rd.cle hc
 have hal : ([uv',gv'].all oneCell)=true:=by simp only [List.all_cons,rd.oneU,rd.oneG];rfl
 have d1 : ldA 2 (pt b1) Y3=some (.agg #[uv',gv'],Y3):=ZT (n:=2) c1' rfl
 have q : bop .int .eql (iv e) (iv e) Y3=some (.bool true,Y3):=by rw [ZD];simp
 have w1:=WR (vs:=[uv',gv']) (n:=2) c3' rfl rfl hal
 have w1 : stA 2 (pt b3) (.agg #[uv',gv']) Y3=_:=w1
 have d2 : ldA 2 (pt b3) (Y3.set b3 (.cells [uv',gv'] 1 false false))=some (.agg #[uv',gv'],_):=ZT (n:=2) (ZP c3') rfl
 have hs : Zz r.own X r'.own Y3:=hl.stepq.trans hst
 refine ⟨Y3.set b3 (.cells [uv',gv'] 1 false false),by rw [ZI,Za d1,Za q,Za w1,Za d2];rfl,?_,rd3.setB c3' WT WT,?_⟩
 ·refine hd3.step (o1:=[b3]) (o2:=[b3]) ⟨by simp,fun i hi hn=>List.getElem?_set_ne (fun e=>hn (by simp [e])),fun i hi=>.inl hi⟩ ?_ ?_ ?_ ?_
  ·rw [List.mem_singleton]
   intro e
   have:=hd.dlt
   omega
  ·rw [List.mem_singleton]
   intro e
   have h:=hd3.ix.c
   rw [e,c3'] at h
   cases h
  ·rw [List.mem_singleton]
   intro e
   have h:=hd3.gr.cell
   rw [e,c3'] at h
   cases h
  ·intro j hj hm
   rw [List.mem_singleton] at hm
   subst hm
   exact (hd3.isMap hj).2 _ _ _ _ c3'
 ·exact ⟨by rw [List.length_set];exact hs.len,fun j hj hn=>(List.getElem?_set_ne (by omega)).trans (hs.keep j hj hn),hs.own⟩
theorem ZQ {a b f g : Value} {m : M Out} (h : m Y=some (.nrm [a,b,f,g],X')) : jn m (c4 fun q0 q1 q2 q3=>ret (.nrm [q0,q1,q2,q3])) noX ZW Y=some (.nrm [a,b,f,g],X'):=
 (ZR h).trans rfl
theorem ND.more (hd : ND X d r s c) (h : c≤c') : ND X d r s c':=⟨hd.toND0.more h,hd.inv⟩
theorem Zyh (hd : ND X d r s c) (hR : RD X uv gv s) (hk : u.kd % 11=0) : ∃ X' r' uv' gv',R (n+12) J0 [pt d,.agg #[uv,gv],.agg u.cells.toArray] X=some (.tuple #[.agg #[uv',gv'],.bool true],X')∧ZfB X X' d r r' (YP u s) uv' gv' c:=by
 obtain ⟨b1,b2,b3,Y,z,hB⟩:=Zdc (u:=u) hR
 obtain ⟨Y1,uv',e1,rd1,l1⟩:=ZvF (n:=n+5) (k:=u.a) (h:=u.b) (hR.hle hB.le) hd.pinv
 have e1 : R (n+11) Zcn [.agg #[uv,gv],strv u.a,strv u.b] Y=_:=e1
 obtain ⟨Y2,w1,hd2,rd2,c1,c2,c3,l2⟩:=ZdL hd hR hB l1 rd1
 obtain ⟨Y3,e2,hd3,st3⟩:=Zrz (n:=n+1) (k:=u.a) (h:=u.b) hd2
 have e2 : R (n+11) Y6 [pt d,strv u.a,strv u.b] Y2=_:=e2
 obtain ⟨X',e3,hA⟩:=Zc2 (e:=QS u.a u.b s.A) hd.toND0 l2 rd2 c1 c3 hB.b hd2.toND0 st3 (hd3.more (by omega))
 have hn : YP u s=KU u.a u.b s:=by unfold YP;rw [hk];first | done | rfl
 rw [hn]
 refine ⟨X',r,uv',gv,?_,hA⟩
 have dA : ldA 2 (pt b1) Y=some (.agg #[uv,gv],Y):=ZT (n:=2) hB.h1 rfl
 have ya : ld1 (pa b2 1) Y=some (strv u.a,Y):=Zv hB.h2 rfl
 have xa : ld1 (pa b2 1) Y2=some (strv u.a,Y2):=Zv c2 rfl
 have yb : ld1 (pa b2 2) Y=some (strv u.b,Y):=Zv hB.h2 rfl
 have xb : ld1 (pa b2 2) Y2=some (strv u.b,Y2):=Zv c2 rfl
 have q : ∀ j : Int,bop .int .eql (.int .u8 ((0 : Nat) : Int)) (.int .u8 j) Y=some (.bool (decide (((0 : Nat) : Int)=j)),Y):=fun j=>by rw [ZD];rfl
 rw [R,Kt rfl]
 unfold KP
 refine (z _).trans ?_
 rw [hk,Za (q 0)]
 refine (ZR (vs:=[pt b1,pt b3,iv (QS u.a u.b s.A),iv (QS u.a u.b s.A)]) (H':=Y3) ?_).trans e3
 rw [Zb,if_pos (by decide),Za dA,Za Zh,Za ya,Za Zh,Za yb,Za e1,Za Zu,Za Zt,Za w1,Za Zh,Za xa,Za Zh,Za xb,Za e2]
 rfl
theorem ZxJ (hd : ND X d r s c) (hR : RD X uv gv s) (hk : u.kd % 11=1) : ∃ X' r' uv' gv',R (n+12) J0 [pt d,.agg #[uv,gv],.agg u.cells.toArray] X=some (.tuple #[.agg #[uv',gv'],.bool true],X')∧ZfB X X' d r r' (YP u s) uv' gv' c:=by
 obtain ⟨b1,b2,b3,Y,z,hB⟩:=Zdc (u:=u) hR
 obtain ⟨Y1,uv',e1,rd1,l1⟩:=Zvk (n:=n+5) (k:=u.a) (hR.hle hB.le) hd.pinv
 have e1 : R (n+11) Zcu [.agg #[uv,gv],strv u.a] Y=_:=e1
 obtain ⟨Y2,w1,hd2,rd2,c1,c2,c3,l2⟩:=ZdL hd hR hB l1 rd1
 obtain ⟨Y3,e2,hd3,st3⟩:=Zrs (n:=n+1) (k:=u.a) hd2
 have e2 : R (n+11) YW [pt d,strv u.a] Y2=_:=e2
 obtain ⟨X',e3,hA⟩:=Zc2 (e:=Zr u.a s.A) hd.toND0 l2 rd2 c1 c3 hB.b hd2.toND0 st3 (hd3.more (by omega))
 have hn : YP u s=Kb u.a s:=by unfold YP;rw [hk];first | done | rfl
 rw [hn]
 refine ⟨X',r,uv',gv,?_,hA⟩
 have dA : ldA 2 (pt b1) Y=some (.agg #[uv,gv],Y):=ZT (n:=2) hB.h1 rfl
 have ya : ld1 (pa b2 1) Y=some (strv u.a,Y):=Zv hB.h2 rfl
 have xa : ld1 (pa b2 1) Y2=some (strv u.a,Y2):=Zv c2 rfl
 have q : ∀ j : Int,bop .int .eql (.int .u8 ((1 : Nat) : Int)) (.int .u8 j) Y=some (.bool (decide (((1 : Nat) : Int)=j)),Y):=fun j=>by rw [ZD];rfl
 rw [R,Kt rfl]
 unfold KP
 refine (z _).trans ?_
 rw [hk,Za (q 0)]
 refine (ZR (vs:=[pt b1,pt b3,iv (Zr u.a s.A),iv (Zr u.a s.A)]) (H':=Y3) ?_).trans e3
 rw [Zb,if_neg (by decide),Za (q 1)]
 refine ZQ ?_
 rw [Zb,if_pos (by decide),Za dA,Za Zh,Za ya,Za e1,Za Zu,Za Zt,Za w1,Za Zh,Za xa,Za e2]
 rfl
theorem Zxx (hd : ND X d r s c) (hR : RD X uv gv s) (hk : u.kd % 11=2) : ∃ X' r' uv' gv',R (n+12) J0 [pt d,.agg #[uv,gv],.agg u.cells.toArray] X=some (.tuple #[.agg #[uv',gv'],.bool true],X')∧ZfB X X' d r r' (YP u s) uv' gv' c:=by
 obtain ⟨b1,b2,b3,Y,z,hB⟩:=Zdc (u:=u) hR
 obtain ⟨Y1,uv',e1,rd1,l1⟩:=Zuc (n:=n+5) (k:=u.a) (h:=u.b) (hR.hle hB.le) hd.pinv
 have e1 : R (n+11) ZaI [.agg #[uv,gv],strv u.a,strv u.b] Y=_:=e1
 obtain ⟨Y2,w1,hd2,rd2,c1,c2,c3,l2⟩:=ZdL hd hR hB l1 rd1
 obtain ⟨Y3,e2,hd3,st3⟩:=Zxh (n:=n+1) (k:=u.a) (h:=u.b) hd2
 have e2 : R (n+11) Wi [pt d,strv u.a,strv u.b] Y2=_:=e2
 obtain ⟨X',e3,hA⟩:=Zc2 (e:=QD u.a u.b s.A) hd.toND0 l2 rd2 c1 c3 hB.b hd2.toND0 st3 (hd3.more (by omega))
 have hn : YP u s=YH u.a u.b s:=by unfold YP;rw [hk];first | done | rfl
 rw [hn]
 refine ⟨X',r,uv',gv,?_,hA⟩
 have dA : ldA 2 (pt b1) Y=some (.agg #[uv,gv],Y):=ZT (n:=2) hB.h1 rfl
 have ya : ld1 (pa b2 1) Y=some (strv u.a,Y):=Zv hB.h2 rfl
 have xa : ld1 (pa b2 1) Y2=some (strv u.a,Y2):=Zv c2 rfl
 have yb : ld1 (pa b2 2) Y=some (strv u.b,Y):=Zv hB.h2 rfl
 have xb : ld1 (pa b2 2) Y2=some (strv u.b,Y2):=Zv c2 rfl
 have q : ∀ j : Int,bop .int .eql (.int .u8 ((2 : Nat) : Int)) (.int .u8 j) Y=some (.bool (decide (((2 : Nat) : Int)=j)),Y):=fun j=>by rw [ZD];rfl
 rw [R,Kt rfl]
 unfold KP
 refine (z _).trans ?_
 rw [hk,Za (q 0)]
 refine (ZR (vs:=[pt b1,pt b3,iv (QD u.a u.b s.A),iv (QD u.a u.b s.A)]) (H':=Y3) ?_).trans e3
 rw [Zb,if_neg (by decide),Za (q 1)]
 refine ZQ ?_
 rw [Zb,if_neg (by decide),Za (q 2)]
 refine ZQ ?_
 rw [Zb,if_pos (by decide),Za dA,Za Zh,Za ya,Za Zh,Za yb,Za e1,Za Zu,Za Zt,Za w1,Za Zh,Za xa,Za Zh,Za xb,Za e2]
 rfl
theorem Zw6 (hd : ND X d r s c) (hR : RD X uv gv s) (hk : u.kd % 11=3) : ∃ X' r' uv' gv',R (n+12) J0 [pt d,.agg #[uv,gv],.agg u.cells.toArray] X=some (.tuple #[.agg #[uv',gv'],.bool true],X')∧ZfB X X' d r r' (YP u s) uv' gv' c:=by
 obtain ⟨b1,b2,b3,Y,z,hB⟩:=Zdc (u:=u) hR
 obtain ⟨Y1,uv',e1,rd1,l1⟩:=Zs0 (n:=n+5) (k:=u.a) (m:=u.b) (hR.hle hB.le) hd.pinv
 have e1 : R (n+11) ZaF [.agg #[uv,gv],strv u.a,strv u.b] Y=_:=e1
 obtain ⟨Y2,w1,hd2,rd2,c1,c2,c3,l2⟩:=ZdL hd hR hB l1 rd1
 obtain ⟨Y3,e2,hd3,st3⟩:=Zo2 (n:=n+1) (k:=u.a) (m:=u.b) hd2
 have e2 : R (n+11) YF [pt d,strv u.a,strv u.b] Y2=_:=e2
 obtain ⟨X',e3,hA⟩:=Zc2 (e:=QV u.a u.b s) hd.toND0 l2 rd2 c1 c3 hB.b hd2.toND0 st3 (hd3.more (by omega))
 have hn : YP u s=Q6 u.a u.b s:=by unfold YP;rw [hk];first | done | rfl
 rw [hn]
 refine ⟨X',r,uv',gv,?_,hA⟩
 have dA : ldA 2 (pt b1) Y=some (.agg #[uv,gv],Y):=ZT (n:=2) hB.h1 rfl
 have ya : ld1 (pa b2 1) Y=some (strv u.a,Y):=Zv hB.h2 rfl
 have xa : ld1 (pa b2 1) Y2=some (strv u.a,Y2):=Zv c2 rfl
 have yb : ld1 (pa b2 2) Y=some (strv u.b,Y):=Zv hB.h2 rfl
 have xb : ld1 (pa b2 2) Y2=some (strv u.b,Y2):=Zv c2 rfl
 have q : ∀ j : Int,bop .int .eql (.int .u8 ((3 : Nat) : Int)) (.int .u8 j) Y=some (.bool (decide (((3 : Nat) : Int)=j)),Y):=fun j=>by rw [ZD];rfl
 rw [R,Kt rfl]
 unfold KP
 refine (z _).trans ?_
 rw [hk,Za (q 0)]
 refine (ZR (vs:=[pt b1,pt b3,iv (QV u.a u.b s),iv (QV u.a u.b s)]) (H':=Y3) ?_).trans e3
 rw [Zb,if_neg (by decide),Za (q 1)]
 refine ZQ ?_
 rw [Zb,if_neg (by decide),Za (q 2)]
 refine ZQ ?_
 rw [Zb,if_neg (by decide),Za (q 3)]
 refine ZQ ?_
 rw [Zb,if_pos (by decide),Za dA,Za Zh,Za ya,Za Zh,Za yb,Za e1,Za Zu,Za Zt,Za w1,Za Zh,Za xa,Za Zh,Za xb,Za e2]
 rfl
theorem ZwO (hd : ND X d r s c) (hR : RD X uv gv s) (hk : u.kd % 11=4) : ∃ X' r' uv' gv',R (n+12) J0 [pt d,.agg #[uv,gv],.agg u.cells.toArray] X=some (.tuple #[.agg #[uv',gv'],.bool true],X')∧ZfB X X' d r r' (YP u s) uv' gv' c:=by
 obtain ⟨b1,b2,b3,Y,z,hB⟩:=Zdc (u:=u) hR
 obtain ⟨Y1,uv',e1,rd1,l1⟩:=ZtB (n:=n+5) (k:=u.a) (b:=u.is) (hR.hle hB.le) hd.pinv
 have e1 : R (n+11) ZaL [.agg #[uv,gv],strv u.a,.bool u.is] Y=_:=e1
 obtain ⟨Y2,w1,hd2,rd2,c1,c2,c3,l2⟩:=ZdL hd hR hB l1 rd1
 obtain ⟨Y3,e2,hd3,st3⟩:=ZwI (n:=n+1) (k:=u.a) (b:=u.is) hd2
 have e2 : R (n+11) Wj [pt d,strv u.a,.bool u.is] Y2=_:=e2
 obtain ⟨X',e3,hA⟩:=Zc2 (e:=J1 u.a u.is s.A) hd.toND0 l2 rd2 c1 c3 hB.b hd2.toND0 st3 (hd3.more (by omega))
 have hn : YP u s=Yo u.a u.is s:=by unfold YP;rw [hk];first | done | rfl
 rw [hn]
 refine ⟨X',r,uv',gv,?_,hA⟩
 have dA : ldA 2 (pt b1) Y=some (.agg #[uv,gv],Y):=ZT (n:=2) hB.h1 rfl
 have ya : ld1 (pa b2 1) Y=some (strv u.a,Y):=Zv hB.h2 rfl
 have xa : ld1 (pa b2 1) Y2=some (strv u.a,Y2):=Zv c2 rfl
 have yis : ld1 (pa b2 3) Y=some (.bool u.is,Y):=Zv hB.h2 rfl
 have xis : ld1 (pa b2 3) Y2=some (.bool u.is,Y2):=Zv c2 rfl
 have q : ∀ j : Int,bop .int .eql (.int .u8 ((4 : Nat) : Int)) (.int .u8 j) Y=some (.bool (decide (((4 : Nat) : Int)=j)),Y):=fun j=>by rw [ZD];rfl
 rw [R,Kt rfl]
 unfold KP
 refine (z _).trans ?_
 rw [hk,Za (q 0)]
 refine (ZR (vs:=[pt b1,pt b3,iv (J1 u.a u.is s.A),iv (J1 u.a u.is s.A)]) (H':=Y3) ?_).trans e3
 rw [Zb,if_neg (by decide),Za (q 1)]
 refine ZQ ?_
 rw [Zb,if_neg (by decide),Za (q 2)]
 refine ZQ ?_
 rw [Zb,if_neg (by decide),Za (q 3)]
 refine ZQ ?_
 rw [Zb,if_neg (by decide),Za (q 4)]
 refine ZQ ?_
 rw [Zb,if_pos (by decide),Za dA,Za Zh,Za ya,Za Zh,Za yis,Za e1,Za Zu,Za Zt,Za w1,Za Zh,Za xa,Za Zh,Za xis,Za e2]
 rfl
theorem Zyp (hd : ND X d r s c) (hR : RD X uv gv s) (hk : u.kd % 11=5) : ∃ X' r' uv' gv',R (n+12) J0 [pt d,.agg #[uv,gv],.agg u.cells.toArray] X=some (.tuple #[.agg #[uv',gv'],.bool true],X')∧ZfB X X' d r r' (YP u s) uv' gv' c:=by
 obtain ⟨b1,b2,b3,Y,z,hB⟩:=Zdc (u:=u) hR
 obtain ⟨Y1,uv',e1,rd1,l1⟩:=Zvz (n:=n+5) (o:=u.a) (t:=u.b) (hR.hle hB.le) hd.pinv
 have e1 : R (n+11) Zba [.agg #[uv,gv],strv u.a,strv u.b] Y=_:=e1
 obtain ⟨Y2,w1,hd2,rd2,c1,c2,c3,l2⟩:=ZdL hd hR hB l1 rd1
 obtain ⟨Y3,e2,hd3,st3⟩:=Zyc (n:=n+1) (o:=u.a) (t:=u.b) hd2
 have e2 : R (n+11) WA [pt d,strv u.a,strv u.b] Y2=_:=e2
 obtain ⟨X',e3,hA⟩:=Zc2 (e:=JS u.a u.b s.A) hd.toND0 l2 rd2 c1 c3 hB.b hd2.toND0 st3 (hd3.more (by omega))
 have hn : YP u s=Wm u.a u.b s:=by unfold YP;rw [hk];first | done | rfl
 rw [hn]
 refine ⟨X',r,uv',gv,?_,hA⟩
 have dA : ldA 2 (pt b1) Y=some (.agg #[uv,gv],Y):=ZT (n:=2) hB.h1 rfl
 have ya : ld1 (pa b2 1) Y=some (strv u.a,Y):=Zv hB.h2 rfl
 have xa : ld1 (pa b2 1) Y2=some (strv u.a,Y2):=Zv c2 rfl
 have yb : ld1 (pa b2 2) Y=some (strv u.b,Y):=Zv hB.h2 rfl
 have xb : ld1 (pa b2 2) Y2=some (strv u.b,Y2):=Zv c2 rfl
 have q : ∀ j : Int,bop .int .eql (.int .u8 ((5 : Nat) : Int)) (.int .u8 j) Y=some (.bool (decide (((5 : Nat) : Int)=j)),Y):=fun j=>by rw [ZD];rfl
 rw [R,Kt rfl]
 unfold KP
 refine (z _).trans ?_
 rw [hk,Za (q 0)]
 refine (ZR (vs:=[pt b1,pt b3,iv (JS u.a u.b s.A),iv (JS u.a u.b s.A)]) (H':=Y3) ?_).trans e3
 rw [Zb,if_neg (by decide),Za (q 1)]
 refine ZQ ?_
 rw [Zb,if_neg (by decide),Za (q 2)]
 refine ZQ ?_
 rw [Zb,if_neg (by decide),Za (q 3)]
 refine ZQ ?_
 rw [Zb,if_neg (by decide),Za (q 4)]
 refine ZQ ?_
 rw [Zb,if_neg (by decide),Za (q 5)]
 refine ZQ ?_
 rw [Zb,if_pos (by decide),Za dA,Za Zh,Za ya,Za Zh,Za yb,Za e1,Za Zu,Za Zt,Za w1,Za Zh,Za xa,Za Zh,Za xb,Za e2]
 rfl
theorem ZAB (hd : ND X d r s c) (hR : RD X uv gv s) (hk : u.kd % 11=6) : ∃ X' r' uv' gv',R (n+12) J0 [pt d,.agg #[uv,gv],.agg u.cells.toArray] X=some (.tuple #[.agg #[uv',gv'],.bool true],X')∧ZfB X X' d r r' (YP u s) uv' gv' c:=by
 obtain ⟨b1,b2,b3,Y,z,hB⟩:=Zdc (u:=u) hR
 obtain ⟨Y1,gv',e1,rd1,l1⟩:=ZyO (n:=n+5) (g:=u.a) (hR.hle hB.le) hd.pinv
 have e1 : R (n+11) ZaP [.agg #[uv,gv],strv u.a] Y=_:=e1
 obtain ⟨Y2,w1,hd2,rd2,c1,c2,c3,l2⟩:=ZdL hd hR hB l1 rd1
 obtain ⟨Y3,r',e2,hd3,st3⟩:=ZBr (n:=n+1) (g:=u.a) hd2
 have e2 : R (n+11) Wt [pt d,strv u.a] Y2=_:=e2
 obtain ⟨X',e3,hA⟩:=Zc2 (e:=QN u.a s.K) hd.toND0 l2 rd2 c1 c3 hB.b hd2.toND0 st3 (hd3.more (by omega))
 have hn : YP u s=Zjp u.a s:=by unfold YP;rw [hk];first | done | rfl
 rw [hn]
 refine ⟨X',r',uv,gv',?_,hA⟩
 have dA : ldA 2 (pt b1) Y=some (.agg #[uv,gv],Y):=ZT (n:=2) hB.h1 rfl
 have ya : ld1 (pa b2 1) Y=some (strv u.a,Y):=Zv hB.h2 rfl
 have xa : ld1 (pa b2 1) Y2=some (strv u.a,Y2):=Zv c2 rfl
 have q : ∀ j : Int,bop .int .eql (.int .u8 ((6 : Nat) : Int)) (.int .u8 j) Y=some (.bool (decide (((6 : Nat) : Int)=j)),Y):=fun j=>by rw [ZD];rfl
 rw [R,Kt rfl]
 unfold KP
 refine (z _).trans ?_
 rw [hk,Za (q 0)]
 refine (ZR (vs:=[pt b1,pt b3,iv (QN u.a s.K),iv (QN u.a s.K)]) (H':=Y3) ?_).trans e3
 rw [Zb,if_neg (by decide),Za (q 1)]
 refine ZQ ?_
 rw [Zb,if_neg (by decide),Za (q 2)]
 refine ZQ ?_
 rw [Zb,if_neg (by decide),Za (q 3)]
 refine ZQ ?_
 rw [Zb,if_neg (by decide),Za (q 4)]
 refine ZQ ?_
 rw [Zb,if_neg (by decide),Za (q 5)]
 refine ZQ ?_
 rw [Zb,if_neg (by decide),Za (q 6)]
 refine ZQ ?_
 rw [Zb,if_pos (by decide),Za dA,Za Zh,Za ya,Za e1,Za Zu,Za Zt,Za w1,Za Zh,Za xa,Za e2]
 rfl
theorem ZAD (hd : ND X d r s c) (hR : RD X uv gv s) (hk : u.kd % 11=7) : ∃ X' r' uv' gv',R (n+12) J0 [pt d,.agg #[uv,gv],.agg u.cells.toArray] X=some (.tuple #[.agg #[uv',gv'],.bool true],X')∧ZfB X X' d r r' (YP u s) uv' gv' c:=by
 obtain ⟨b1,b2,b3,Y,z,hB⟩:=Zdc (u:=u) hR
 obtain ⟨Y1,uv',gv',e1,rd1,l1⟩:=Zys (n:=n+5) (g:=u.a) (hR.hle hB.le) hd.pinv
 have e1 : R (n+11) Wy [.agg #[uv,gv],strv u.a] Y=_:=e1
 obtain ⟨Y2,w1,hd2,rd2,c1,c2,c3,l2⟩:=ZdL hd hR hB l1 rd1
 obtain ⟨Y3,r',e2,hd3,st3⟩:=ZvZ (n:=n+1) (g:=u.a) hd2
 have e2 : R (n+11) YJ [pt d,strv u.a] Y2=_:=e2
 obtain ⟨X',e3,hA⟩:=Zc2 (e:=QR u.a s.K) hd.toND0 l2 rd2 c1 c3 hB.b hd2.toND0 st3 (hd3.more (by omega))
 have hn : YP u s=ZfK u.a s:=by unfold YP;rw [hk];first | done | rfl
 rw [hn]
 refine ⟨X',r',uv',gv',?_,hA⟩
 have dA : ldA 2 (pt b1) Y=some (.agg #[uv,gv],Y):=ZT (n:=2) hB.h1 rfl
 have ya : ld1 (pa b2 1) Y=some (strv u.a,Y):=Zv hB.h2 rfl
 have xa : ld1 (pa b2 1) Y2=some (strv u.a,Y2):=Zv c2 rfl
 have q : ∀ j : Int,bop .int .eql (.int .u8 ((7 : Nat) : Int)) (.int .u8 j) Y=some (.bool (decide (((7 : Nat) : Int)=j)),Y):=fun j=>by rw [ZD];rfl
 rw [R,Kt rfl]
 unfold KP
 refine (z _).trans ?_
 rw [hk,Za (q 0)]
 refine (ZR (vs:=[pt b1,pt b3,iv (QR u.a s.K),iv (QR u.a s.K)]) (H':=Y3) ?_).trans e3
 rw [Zb,if_neg (by decide),Za (q 1)]
 refine ZQ ?_
 rw [Zb,if_neg (by decide),Za (q 2)]
 refine ZQ ?_
 rw [Zb,if_neg (by decide),Za (q 3)]
 refine ZQ ?_
 rw [Zb,if_neg (by decide),Za (q 4)]
 refine ZQ ?_
 rw [Zb,if_neg (by decide),Za (q 5)]
 refine ZQ ?_
 rw [Zb,if_neg (by decide),Za (q 6)]
 refine ZQ ?_
 rw [Zb,if_neg (by decide),Za (q 7)]
 refine ZQ ?_
 rw [Zb,if_pos (by decide),Za dA,Za Zh,Za ya,Za e1,Za Zu,Za Zt,Za w1,Za Zh,Za xa,Za e2]
 rfl
theorem ZA1 (hd : ND X d r s c) (hR : RD X uv gv s) (hk : u.kd % 11=8) : ∃ X' r' uv' gv',R (n+12) J0 [pt d,.agg #[uv,gv],.agg u.cells.toArray] X=some (.tuple #[.agg #[uv',gv'],.bool true],X')∧ZfB X X' d r r' (YP u s) uv' gv' c:=by
 obtain ⟨b1,b2,b3,Y,z,hB⟩:=Zdc (u:=u) hR
 obtain ⟨Y1,uv',e1,rd1,l1⟩:=ZxP (n:=n+5) (g:=u.a) (k:=u.b) (hR.hle hB.le) hd.pinv
 have e1 : R (n+11) Zcy [.agg #[uv,gv],strv u.a,strv u.b] Y=_:=e1
 obtain ⟨Y2,w1,hd2,rd2,c1,c2,c3,l2⟩:=ZdL hd hR hB l1 rd1
 obtain ⟨Y3,e2,hd3,st3⟩:=ZBH (n:=n) (g:=u.a) (k:=u.b) hd2
 have e2 : R (n+11) ZaD [pt d,strv u.a,strv u.b] Y2=_:=e2
 obtain ⟨X',e3,hA⟩:=Zc2 (e:=K5 u.a u.b s) hd.toND0 l2 rd2 c1 c3 hB.b hd2.toND0 st3 (hd3.more (by omega))
 have hn : YP u s=Za1 u.a u.b s:=by unfold YP;rw [hk];first | done | rfl
 rw [hn]
 refine ⟨X',r,uv',gv,?_,hA⟩
 have dA : ldA 2 (pt b1) Y=some (.agg #[uv,gv],Y):=ZT (n:=2) hB.h1 rfl
 have ya : ld1 (pa b2 1) Y=some (strv u.a,Y):=Zv hB.h2 rfl
 have xa : ld1 (pa b2 1) Y2=some (strv u.a,Y2):=Zv c2 rfl
 have yb : ld1 (pa b2 2) Y=some (strv u.b,Y):=Zv hB.h2 rfl
 have xb : ld1 (pa b2 2) Y2=some (strv u.b,Y2):=Zv c2 rfl
 have q : ∀ j : Int,bop .int .eql (.int .u8 ((8 : Nat) : Int)) (.int .u8 j) Y=some (.bool (decide (((8 : Nat) : Int)=j)),Y):=fun j=>by rw [ZD];rfl
 rw [R,Kt rfl]
 unfold KP
 refine (z _).trans ?_
 rw [hk,Za (q 0)]
 refine (ZR (vs:=[pt b1,pt b3,iv (K5 u.a u.b s),iv (K5 u.a u.b s)]) (H':=Y3) ?_).trans e3
 rw [Zb,if_neg (by decide),Za (q 1)]
 refine ZQ ?_
 rw [Zb,if_neg (by decide),Za (q 2)]
 refine ZQ ?_
 rw [Zb,if_neg (by decide),Za (q 3)]
 refine ZQ ?_
 rw [Zb,if_neg (by decide),Za (q 4)]
 refine ZQ ?_
 rw [Zb,if_neg (by decide),Za (q 5)]
 refine ZQ ?_
 rw [Zb,if_neg (by decide),Za (q 6)]
 refine ZQ ?_
 rw [Zb,if_neg (by decide),Za (q 7)]
 refine ZQ ?_
 rw [Zb,if_neg (by decide),Za (q 8)]
 refine ZQ ?_
 rw [Zb,if_pos (by decide),Za dA,Za Zh,Za ya,Za Zh,Za yb,Za e1,Za Zu,Za Zt,Za w1,Za Zh,Za xa,Za Zh,Za xb,Za e2]
 rfl
theorem ZzQ (hd : ND X d r s c) (hR : RD X uv gv s) (hk : u.kd % 11=9) : ∃ X' r' uv' gv',R (n+12) J0 [pt d,.agg #[uv,gv],.agg u.cells.toArray] X=some (.tuple #[.agg #[uv',gv'],.bool true],X')∧ZfB X X' d r r' (YP u s) uv' gv' c:=by
 obtain ⟨b1,b2,b3,Y,z,hB⟩:=Zdc (u:=u) hR
 obtain ⟨Y1,uv',e1,rd1,l1⟩:=Zw1 (n:=n+5) (g:=u.a) (k:=u.b) (hR.hle hB.le) hd.pinv
 have e1 : R (n+11) ZbY [.agg #[uv,gv],strv u.a,strv u.b] Y=_:=e1
 obtain ⟨Y2,w1,hd2,rd2,c1,c2,c3,l2⟩:=ZdL hd hR hB l1 rd1
 obtain ⟨Y3,e2,hd3,st3⟩:=Zz8 (n:=n) (g:=u.a) (k:=u.b) hd2
 have e2 : R (n+11) WZ [pt d,strv u.a,strv u.b] Y2=_:=e2
 obtain ⟨X',e3,hA⟩:=Zc2 (e:=Kq u.a u.b s) hd.toND0 l2 rd2 c1 c3 hB.b hd2.toND0 st3 (hd3.more (by omega))
 have hn : YP u s=Ws u.a u.b s:=by unfold YP;rw [hk];first | done | rfl
 rw [hn]
 refine ⟨X',r,uv',gv,?_,hA⟩
 have dA : ldA 2 (pt b1) Y=some (.agg #[uv,gv],Y):=ZT (n:=2) hB.h1 rfl
 have ya : ld1 (pa b2 1) Y=some (strv u.a,Y):=Zv hB.h2 rfl
 have xa : ld1 (pa b2 1) Y2=some (strv u.a,Y2):=Zv c2 rfl
 have yb : ld1 (pa b2 2) Y=some (strv u.b,Y):=Zv hB.h2 rfl
 have xb : ld1 (pa b2 2) Y2=some (strv u.b,Y2):=Zv c2 rfl
 have q : ∀ j : Int,bop .int .eql (.int .u8 ((9 : Nat) : Int)) (.int .u8 j) Y=some (.bool (decide (((9 : Nat) : Int)=j)),Y):=fun j=>by rw [ZD];rfl
 rw [R,Kt rfl]
 unfold KP
 refine (z _).trans ?_
 rw [hk,Za (q 0)]
 refine (ZR (vs:=[pt b1,pt b3,iv (Kq u.a u.b s),iv (Kq u.a u.b s)]) (H':=Y3) ?_).trans e3
 rw [Zb,if_neg (by decide),Za (q 1)]
 refine ZQ ?_
 rw [Zb,if_neg (by decide),Za (q 2)]
 refine ZQ ?_
 rw [Zb,if_neg (by decide),Za (q 3)]
 refine ZQ ?_
 rw [Zb,if_neg (by decide),Za (q 4)]
 refine ZQ ?_
 rw [Zb,if_neg (by decide),Za (q 5)]
 refine ZQ ?_
 rw [Zb,if_neg (by decide),Za (q 6)]
 refine ZQ ?_
 rw [Zb,if_neg (by decide),Za (q 7)]
 refine ZQ ?_
 rw [Zb,if_neg (by decide),Za (q 8)]
 refine ZQ ?_
 rw [Zb,if_neg (by decide),Za (q 9)]
 refine ZQ ?_
 rw [Zb,if_pos (by decide),Za dA,Za Zh,Za ya,Za Zh,Za yb,Za e1,Za Zu,Za Zt,Za w1,Za Zh,Za xa,Za Zh,Za xb,Za e2]
 rfl
end
end Go.Proofs.YtedkoimihknggaaGreatDoor.A
namespace Go.Proofs.YtedkoimihknggaaGreatDoor.A
set_option linter.unusedVariables false
set_option linter.unusedSimpArgs false
open Go.Proofs Go.Proofs.YtedkoimihknggaaGreatDoor
section
variable {X X' Y Y1 Y2 Y3 H H0 : Zd} {n d c c' b1 b2 b3 w : Nat} {r r' : NR} {uv gv uv' gv' v sl : Value} {s s' : NSt} {u : Zcm} {e : Int} {ac : List Zcm}
theorem ZuS {a c : Value} {l : List (List UInt8)} (hu : l.length≤1000) (ha : Sl X a (l.map strv)) (hc : Sl X c (l.map strv)) : ∀ (t j : Nat),l.length - j=t→j≤l.length→
  Zi (c4 (Yv.l1 (R n))) [a,c,iv l.length,iv j] X=some (.ext 0 [],X)
 | 0,j,ht,hj=>by
  have : j=l.length:=by omega
  subst this
  refine ZL ?_
  rw [ZI]
  unfold Yv.l1
  rw [Za Zl,Zb,if_neg (by simp)]
  rfl
 | t+1,j,ht,hj=>by
  have hjl : j < l.length:=by omega
  have hlt : (j : Int) < l.length:=by omega
  have hg:=List.getElem?_eq_getElem hjl
  generalize l[j]=x at hg
  have x1:=ha.ix (i:=j) (by simpa using hjl) .i64 X
  have x2:=ha.ldx (Yb hg)
  have x3:=hc.ix (i:=j) (by simpa using hjl) .i64 X
  have x4:=hc.ldx (Yb hg)
  have q0 : bop .str .neq (strv x) (strv x) X=some (.bool false,X):=by rw [W0];simp
  refine (ZA ?_).trans (ZuS hu ha hc t (j+1) (by omega) (by omega))
  rw [ZI]
  unfold Yv.l1
  rw [Za Zl,Zb,if_pos (by simpa using hlt),Za x1,Za x2,Za x3,Za x4,Za q0,Zb,if_neg (by simp),Za ZC,Qd (by omega)]
  rfl
theorem Zvm {a c : Value} {l : List (List UInt8)} (hu : l.length≤1000) (ha : Sl X a (l.map strv)) (hc : Sl X c (l.map strv)) : R (n+1) WB [a,c] X=some (.bool true,X):=by
 have e:=ZuS (n:=n) hu ha hc l.length 0 (by omega) (by omega)
 have e : Zi (c4 (Yv.l1 (R n))) [a,c,iv l.length,.int .i64 0] X=_:=e
 have h1:=ha.len (H':=X)
 have h2:=hc.len (H':=X)
 rw [List.length_map] at h1 h2
 rw [R,Zl6 rfl]
 unfold Yv
 rw [Za h1,Za h2,Za Zq,Zb,if_neg (by simp),Za h1,ZY e,ZG]
 rfl
theorem ZAU (hd : ND X d r s c) (hR : RD X uv gv s) (hk : u.kd % 11=10) : ∃ X' r' uv' gv',R (n+12) J0 [pt d,.agg #[uv,gv],.agg u.cells.toArray] X=some (.tuple #[.agg #[uv',gv'],.bool true],X')∧ZfB X X' d r r' (YP u s) uv' gv' c:=by
 obtain ⟨b1,b2,b3,Y,z,hB⟩:=Zdc (u:=u) hR
 have hdY:=hd.hle hB.le
 obtain ⟨Y1,d',r',e1,D1,l1,p1,p2⟩:=ZAM (n:=n+7) hdY
 have e1 : R (n+11) ZbT [pt d] Y=_:=e1
 obtain ⟨Y2,e2,D2,s2⟩:=Zrz (n:=n+1) (k:=u.a) (h:=[49]) D1
 have e2 : R (n+11) Y6 [pt d',strv u.a,.string ⟨#[49]⟩] Y1=_:=e2
 obtain ⟨Y3,e3,D3,s3⟩:=Zrs (n:=n+1) (k:=[97,110,110]) D2
 have e3 : R (n+11) YW [pt d',.string ⟨#[97,110,110]⟩] Y2=_:=e3
 obtain ⟨Y4,r'',e4,D4,s4⟩:=ZvZ (n:=n+1) (g:=[100,101,118]) D3
 have e4 : R (n+11) YJ [pt d',.string ⟨#[100,101,118]⟩] Y3=_:=e4
 obtain ⟨Y5,e5,D5,s5⟩:=Zo2 (n:=n+1) (k:=[98,111,98]) (m:=[113,64,113,46,113]) D4
 have e5 : R (n+11) YF [pt d',.string ⟨#[98,111,98]⟩,.string ⟨#[113,64,113,46,113]⟩] Y4=_:=e5
 have hl5:=(l1.more (((s2.trans s3).trans s4).trans s5) p2).1
 have hX5:=hB.le.trans hl5
 obtain ⟨X',e6,hA⟩:=Zc2 (e:=0) hd.toND0 hX5 (hR.hle hX5) (hl5 _ _ hB.h1) (hl5 _ _ hB.h3) hB.b (hd.hle hX5).toND0 (HLe.refl Y5).stepq ((hd.hle hX5).more (by omega))
 have hn : YP u s=s:=by unfold YP;rw [hk];first | done | rfl
 rw [hn]
 refine ⟨X',r,uv,gv,?_,hA⟩
 have ya : ld1 (pa b2 1) Y1=some (strv u.a,Y1):=Zv (l1 _ _ hB.h2) rfl
 have q : ∀ j : Int,bop .int .eql (.int .u8 ((10 : Nat) : Int)) (.int .u8 j) Y=some (.bool (decide (((10 : Nat) : Int)=j)),Y):=fun j=>by rw [ZD];rfl
 rw [R,Kt rfl]
 unfold KP
 refine (z _).trans ?_
 rw [hk,Za (q 0)]
 refine (ZR (vs:=[pt b1,pt b3,iv 0,iv 0]) (H':=Y5) ?_).trans e6
 rw [Zb,if_neg (by decide),Za (q 1)]
 refine ZQ ?_
 rw [Zb,if_neg (by decide),Za (q 2)]
 refine ZQ ?_
 rw [Zb,if_neg (by decide),Za (q 3)]
 refine ZQ ?_
 rw [Zb,if_neg (by decide),Za (q 4)]
 refine ZQ ?_
 rw [Zb,if_neg (by decide),Za (q 5)]
 refine ZQ ?_
 rw [Zb,if_neg (by decide),Za (q 6)]
 refine ZQ ?_
 rw [Zb,if_neg (by decide),Za (q 7)]
 refine ZQ ?_
 rw [Zb,if_neg (by decide),Za (q 8)]
 refine ZQ ?_
 rw [Zb,if_neg (by decide),Za (q 9)]
 refine ZQ ?_
 rw [Zb,if_neg (by decide),Za e1,Za Zh,Za ya,Za e2,Za e3,Za e4,Za e5]
 rfl
theorem ZCI (hd : ND X d r s c) (hR : RD X uv gv s) : ∃ X' r' uv' gv',R (n+12) J0 [pt d,.agg #[uv,gv],.agg u.cells.toArray] X=some (.tuple #[.agg #[uv',gv'],.bool true],X')∧ZfB X X' d r r' (YP u s) uv' gv' c:=by
 have h11 : u.kd % 11 < 11:=Nat.mod_lt _ (by decide)
 rcases (by omega : u.kd % 11=0∨u.kd % 11=1∨u.kd % 11=2∨u.kd % 11=3∨u.kd % 11=4∨u.kd % 11=5∨u.kd % 11=6∨u.kd % 11=7∨u.kd % 11=8∨u.kd % 11=9∨u.kd % 11=10) with h | h | h | h | h | h | h | h | h | h | h
 ·exact Zyh hd hR h
 ·exact ZxJ hd hR h
 ·exact Zxx hd hR h
 ·exact Zw6 hd hR h
 ·exact ZwO hd hR h
 ·exact Zyp hd hR h
 ·exact ZAB hd hR h
 ·exact ZAD hd hR h
 ·exact ZA1 hd hR h
 ·exact ZzQ hd hR h
 ·exact ZAU hd hR h
theorem Zz1 {us : List Zj} {N : List Tx} (hd : ND X d r s c) (U : Qc X uv us) (O : ROK s us) (hN : Sl X gv (N.map strv)) (iN : Is N (·∈s.K)) (o1 : oneCell uv=true) (o2 : oneCell gv=true) : ∃ X',R (n+9) ZcE [pt d,.agg #[uv,gv]] X=some (.bool true,X')∧HLe X X':=by
 have z1 : alc 1 (.agg #[uv,gv]) X=some (pt X.length,X++[.cells [uv,gv] 1 false false]):=Kz (vs:=[uv,gv]) (by simp only [List.all_cons,o1,o2];rfl)
 have k1 : HLe X (X++[Ze.cells [uv,gv] 1 false false]):=.app _ _
 have c1 : (X++[Ze.cells [uv,gv] 1 false false])[X.length]?=some (.cells [uv,gv] 1 false false):=ZB
 generalize X++[Ze.cells [uv,gv] 1 false false]=X1 at z1 k1 c1
 have U1:=U.mono k1
 have hd1:=hd.hle k1
 have a0 : ∀ Y,HLe X1 Y→ld1 (pa X.length 0) Y=some (uv,Y):=fun Y hl=>Zv (hl _ _ c1) rfl
 have a1 : ∀ Y,HLe X1 Y→ld1 (pa X.length 1) Y=some (gv,Y):=fun Y hl=>Zv (hl _ _ c1) rfl
 have hlen : Zw uv X1=some (iv us.length,X1):=by have:=U1.1.len (H':=X1);rwa [List.length_map] at this
 have e1 : R (n+8) W8 [pt d] X1=some (iv s.A.length,X1):=Zy1 (n:=n+7) hd1
 have hl:=O.len hd.m.nod
 have hfew:=hd.inv.few
 have q1 : bop .int .eql (iv s.A.length) (iv us.length) X1=some (.bool true,X1):=by rw [ZD,hl];simp
 obtain ⟨v,q2,us2,X2,e2,w2,k2,l2⟩:=ZyV (n:=n) hd1
 have hu2 : us2.length≤1000000:=by
  have h1 : us2.map ZF=us.map ZF:=k2.trans (O.all hd.m.nod).symm
  have h2:=congrArg List.length h1
  rw [List.length_map,List.length_map] at h2
  omega
 obtain ⟨X3,e3,l3⟩:=ZxH (n:=n+6) hu2 (by omega) w2.us (U1.mono l2)
 rw [decide_eq_true (k2.trans (O.all hd.m.nod).symm)] at e3
 have e3 : R (n+8) KD [v,uv] X2=_:=e3
 have k13:=l2.trans l3
 obtain ⟨v4,q4,X4,e4,r4,l4,o4⟩:=ZrT (n:=n+4) (hd1.hle k13)
 have e4 : R (n+8) KG [pt d] X3=_:=e4
 have hasc:=hd.gr.keysAsc
 rw [hd.ks] at hasc
 have hNk : N=Qp s.K:=iN.uniq ⟨hasc,fun x=>WN⟩ fun _=>Iff.rfl
 have hN4:=hN.mono ((k1.trans k13).trans l4)
 rw [hNk] at hN4
 have hk6 : (Qp s.K).length≤1000:=by rw [Zb8];have:=hd.toND0.kn.few;omega
 have e5 : R (n+8) WB [v4,gv] X4=_:=Zvm (n:=n+7) hk6 r4.rd hN4
 refine ⟨X4,?_,(k1.trans k13).trans l4⟩
 rw [R,Zsu rfl]
 unfold Ziq
 rw [Za z1,Za Zh,Za (a0 _ (.refl _)),Za hlen,Za e1,Za (a0 _ (.refl _)),Qq,Za q1,Jc,Z6,Jc,Za Zh,Jc,Za (a0 _ (.refl _)),Jc,Za e2,Jc,Za (a0 _ l2),Qq,Jc,Za e3,Za Zm]
 simp only [cond_true]
 rw [Jc,Z6,Jc,Za Zh,Jc,Za (a1 _ k13),Jc,Za e4,Jc,Za (a1 _ (k13.trans l4)),Qq,Jc,Za e5,Za Zm]
 rfl
theorem ND.setBox (hd : ND X d r s c) {ob : Ze} (hw : X[w]?=some (.cells [uv,gv] 1 false false)) (iu : Wr uv) (ig : Wr gv) : ND (X.set w ob) d r s c:=by
 obtain ⟨a1,n1,c1,rfl⟩:=iu
 obtain ⟨a2,n2,c2,rfl⟩:=ig
 refine hd.step (o1:=[w]) (o2:=[w]) ⟨by simp,fun i hi hn=>List.getElem?_set_ne (fun e=>hn (by simp [e])),fun i hi=>.inl hi⟩ ?_ ?_ ?_ ?_
 ·rw [List.mem_singleton]
  intro e
  have h:=hd.cell
  rw [e,hw] at h
  cases h
 ·rw [List.mem_singleton]
  intro e
  have h:=hd.ix.c
  rw [e,hw] at h
  cases h
 ·rw [List.mem_singleton]
  intro e
  have h:=hd.gr.cell
  rw [e,hw] at h
  cases h
 ·intro j hj hm
  rw [List.mem_singleton] at hm
  subst hm
  exact (hd.isMap hj).2 _ _ _ _ hw
structure NL (H X : Zd) (d : Nat) (r : NR) (s : NSt) (uv gv : Value) (w c : Nat) : Prop where
 le : HLe H X
 nd : ND X d r s c
 rd : RD X uv gv s
 own : ∀ i∈r.own,H.length≤i
 w : X[w]?=some (.cells [uv,gv] 1 false false)
theorem NL.hle (h : NL H X d r s uv gv w c) (hl : HLe X X') : NL H X' d r s uv gv w c:=⟨h.le.trans hl,h.nd.hle hl,h.rd.hle hl,h.own,hl _ _ h.w⟩
theorem ZBK (hA : ZcR H sl ac) (hw0 : H.length≤w) {j : Nat} (hja : ac[j]?=some u) (h : NL H X d r s uv gv w c) :
  ∃ X' r' uv' gv',(∀ {β : Type} (K : Value→M β),bind (ixa 4 sl (iv j)) (fun p=>bind (ldA 4 p) fun v=>bind (alc 1 zNA) fun q=>bind (stA 4 q v) fun _=>bind (ldA 2 (pt w)) fun v25=>bind (ldA 4 q) fun v26=>bind (R (n+12) J0 [pt d,v25,v26]) fun v27=>bind (Zn v27 0) fun v28=>bind (Zn v27 1) fun v29=>bind (stA 2 (pt w) v28) fun _=>K v29) X=K (.bool true) X')∧NL H X' d r' (YP u s) uv' gv' w (c+1):=by
 have g1 : (X++[Ze.cells u.cells 1 false false])[X.length]?=some (.cells u.cells 1 false false):=ZB
 have hf:=fun {β : Type} {K : Value→M β}=>(hA.mono h.le).fetch (k:=K) hja
 have k1 : HLe X (X++[Ze.cells u.cells 1 false false]):=.app _ _
 generalize X++[Ze.cells u.cells 1 false false]=X1 at g1 k1 hf
 have h1:=h.hle k1
 have d1 : ldA 2 (pt w) X1=some (.agg #[uv,gv],X1):=ZT h1.w rfl
 have d2 : ldA 4 (pt X.length) X1=some (.agg u.cells.toArray,X1):=ZT g1 rfl
 obtain ⟨X2,r',uv',gv',e2,hF⟩:=ZCI (n:=n) (u:=u) h1.nd h1.rd
 have hc:=h1.nd.toND0.cle hF.st
 have hw2:=hc _ _ _ _ _ h1.w
 obtain ⟨hm1,hm2⟩:=h1.le.more hF.st h1.own
 obtain ⟨iu,ig⟩:=h1.rd.isSl
 have hal : ([uv',gv'].all oneCell)=true:=by simp only [List.all_cons,hF.rd.oneU,hF.rd.oneG];rfl
 have w1 : stA 2 (pt w) (.agg #[uv',gv']) X2=some (undef,X2.set w (.cells [uv',gv'] 1 false false)):=WR (vs:=[uv',gv']) hw2 rfl rfl hal
 refine ⟨X2.set w (.cells [uv',gv'] 1 false false),r',uv',gv',fun {β} K=>?_,⟨hm1.setN hw0,hF.nd.setBox hw2 iu ig,hF.rd.setB hw2 iu ig,hm2,ZP hw2⟩⟩
 refine hf.trans ?_
 rw [Za d1,Za d2,Za e2,Za Zu,Za Zt,Za w1]
end
end Go.Proofs.YtedkoimihknggaaGreatDoor.A

namespace Go.Proofs.YtedkoimihknggaaGreatDoor.A
set_option linter.unusedVariables false
set_option linter.unusedSimpArgs false
open Go.Proofs Go.Proofs.YtedkoimihknggaaGreatDoor
section
variable {H : Zd} {n : Nat} {s : List UInt8}
end
end Go.Proofs.YtedkoimihknggaaGreatDoor.A

namespace Go.Proofs.YtedkoimihknggaaGreatDoor.A
set_option linter.unusedVariables false
set_option linter.unusedSimpArgs false
open Go.Proofs Go.Proofs.YtedkoimihknggaaGreatDoor
section
variable {X X' Y H H0 : Zd} {n d c w : Nat} {r : NR} {uv gv sl wv : Value} {s : NSt} {us ws : List Zj} {k m g pre : Tx} {q0 : List Nat}
theorem ZyE (hO : ROK s us) (hP : WU s) (hm : QA m=true) : (us.find? fun u=>u.ml==Z7 m).map (·.nm)=Zf (Z7 m) s.OW:=by
 have hat : ∀ u∈us,u.ml=Z7 m↔Zf (Z7 m) s.OW=some u.nm:=fun u hu=>by
  have h1:=hO.at hu
  unfold ZO at h1
  cases ha : Zf u.nm s.A with
  | none=>rw [ha] at h1;cases h1
  | some p=>
   rw [ha] at h1
   have h2 : Qf s u.nm p=ZF u:=Option.some.inj h1
   have h3 : (Zf u.nm s.OF).getD []=u.ml:=congrArg (·.2.2.1) h2
   rw [← hP.x.inv,← h3]
   cases ho : Zf u.nm s.OF with
   | none=>exact ⟨fun h=>absurd h.symm (Zhb hm).1,fun h=>by cases h⟩
   | some v=>exact ⟨fun h=>by rw [← h];rfl,fun h=>by cases h;rfl⟩
 cases hf : us.find? fun u=>u.ml==Z7 m with
 | some u=>
  have h1:=List.find?_some hf
  have h2:=List.mem_of_find?_eq_some hf
  exact ((hat u h2).1 (by simpa using h1)).symm
 | none=>
  rw [List.find?_eq_none] at hf
  cases hw : Zf (Z7 m) s.OW with
  | none=>rfl
  | some x=>
   have h1:=(hP.x.inv _ _).2 hw
   have h2:=hP.i.ofA x (by rw [h1];rfl)
   obtain ⟨p,hp⟩:=Option.isSome_iff_exists.1 h2
   have h3 : ZO s x=some (Qf s x p):=by unfold ZO;rw [hp];rfl
   obtain ⟨u,hu,hk⟩:=KJ.1 ((hO.look (Qf s x p)).2 h3)
   have hn : u.nm=x:=congrArg (·.1) hk
   have:=(hat u hu).2 (by rw [hn];exact hw)
   exact absurd (by simpa using this) (hf u hu)
end
end Go.Proofs.YtedkoimihknggaaGreatDoor.A

namespace Go.Proofs.YtedkoimihknggaaGreatDoor.A
set_option linter.unusedVariables false
set_option linter.unusedSimpArgs false
open Go.Proofs Go.Proofs.YtedkoimihknggaaGreatDoor
def W6 (ps : List Tx) (k : Tx) (mem : Mem) : Mem:=fun g n=>mem g n || (decide (g∈ps) && n==k)
section
variable {X X' X0 H H0 : Zd} {n p d b c i : Nat} {r : NR} {s : NSt} {v sl gv ugv zl : Value} {l gs : List Tx} {m k g : Tx} {u : Zj} {us prev : List Zj}
theorem ZrN {i : Nat} (hg : us[i]?=some u) : us.take (i+1)=us.take i++[u]:=by
 rw [List.take_add_one,hg];rfl
end
end Go.Proofs.YtedkoimihknggaaGreatDoor.A

namespace Go.Proofs.YtedkoimihknggaaGreatDoor.A
set_option linter.unusedVariables false
set_option linter.unusedSimpArgs false
open Go.Proofs Go.Proofs.YtedkoimihknggaaGreatDoor
section
variable {X X' X0 H H0 : Zd} {n p d b c i : Nat} {r : NR} {s : NSt} {v sl gv ugv zl : Value} {l gs : List Tx} {m k g : Tx} {u : Zj} {us prev : List Zj}
def nGs (gs : List Tx) : NSt:=⟨[],[],[],gs,fun _ _=>false⟩
theorem ZBj (hr : Wf gs=true) (hn : gs.all Zp=true) (h6 : gs.length≤6) {j : Nat} (hg : gs[j]?=some g) : QN g (gs.take j)=0∧ZcQ g (gs.take j)=gs.take (j+1):=by
 have hj : j < gs.length:=(List.getElem?_eq_some_iff.1 hg).1
 have hgm:=List.mem_of_getElem? hg
 have h1 : Zp g=true:=List.all_eq_true.1 hn g hgm
 have hd:=List.drop_eq_getElem_cons hj
 have hge : gs[j]=g:=by have:=List.getElem?_eq_getElem hj;rw [hg] at this;exact (Option.some.inj this).symm
 have hp:=Zhe hr
 rw [← List.take_append_drop j gs,List.pairwise_append,hd,hge] at hp
 have h2 : g∉gs.take j:=fun hm=>List.lt_irrefl g (hp.2.2 g hm g (by simp))
 have hl : (gs.take j).length=j:=by rw [List.length_take];omega
 have h0 : QN g (gs.take j)=0:=by
  unfold QN
  rw [h1,if_pos rfl,if_neg h2,hl,if_neg (by omega)]
 refine ⟨h0,?_⟩
 unfold ZcQ
 rw [if_pos h0,List.take_add_one,hg]
 rfl
theorem Zy3 (hs : Sl X0 gv (gs.map strv)) (hr : Wf gs=true) (hn : gs.all Zp=true) (h6 : gs.length≤6) : ∀ (t j : Nat) (r : NR) (X : Zd),gs.length - j=t→j≤gs.length→HLe X0 X→ND X d r (nGs (gs.take j)) 0→(∀ i∈r.own,X0.length≤i)→
  ∃ X' r',Zi (c5 (QQ.l1 (R (n+11)))) [sl,pt d,gv,iv gs.length,iv j] X=some (.ext 0 [sl,pt d],X')∧HLe X0 X'∧ND X' d r' (nGs gs) 0∧∀ i∈r'.own,X0.length≤i
 | 0,j,r,X,ht,hj,hle,hd,ho=>by
  have hj : j=gs.length:=by omega
  subst hj
  rw [List.take_length] at hd
  refine ⟨X,r,ZL ?_,hle,hd,ho⟩
  rw [Qi]
  unfold QQ.l1
  rw [Za Zl,Zb,if_neg (by simp)]
  rfl
 | t+1,j,r,X,ht,hj,hle,hd,ho=>by
  have hkl : j < gs.length:=by omega
  have hlt : (j : Int) < gs.length:=by omega
  have hg:=List.getElem?_eq_getElem hkl
  generalize gs[j]=g at hg
  have x1:=(hs.mono hle).ix (i:=j) (by simpa using hkl) .i64 X
  have x2:=(hs.mono hle).ldx (Yb hg)
  obtain ⟨m1,m2⟩:=ZBj hr hn h6 hg
  obtain ⟨X1,G',e1,g1,k1,s1⟩:=Zwr (n:=n+3) (k:=g) hd.gr
  have e1 : R (n+11) Yh [pt r.g,strv g] X=_:=e1
  rw [hd.ks] at e1 k1
  rw [show (nGs (gs.take j)).K=gs.take j from rfl,m2] at k1
  obtain ⟨d1,t1⟩:=hd.toND0.setG g1 s1 k1
  have hm:=hle.more t1 ho
  have hd1 : ND X1 d { r with G:=G' } (nGs (gs.take (j+1))) 0:=⟨d1,⟨by simp [nGs],by simp [nGs],by simp [nGs,Zf],by simp [nGs],by simp [nGs,Zf]⟩⟩
  obtain ⟨X2,r2,e2,k2,h2,o2⟩:=Zy3 hs hr hn h6 t (j+1) _ X1 (by omega) (by omega) hm.1 hd1 hm.2
  refine ⟨X2,r2,(ZA ?_).trans e2,k2,h2,o2⟩
  rw [Qi]
  unfold QQ.l1
  rw [Za Zl,Zb,if_pos (by simpa using hlt),Za x1,Za x2,Za Zs,Za Zh,Za hd.l2,Za e1,Za ZC,Qd (by omega)]
  rfl
theorem ZAi {mem : Mem} : W6 [] k mem=mem:=by
 funext g n
 unfold W6
 simp
theorem ZxA {mem : Mem} {ps : List Tx} : Zct g k (W6 ps k mem)=W6 (ps++[g]) k mem:=by
 funext g' n
 unfold Zct W6
 by_cases h1 : g'∈ps <;> by_cases h2 : g'=g <;> cases mem g' n <;> cases hn : n==k <;> simp [h1,h2,hn]
theorem ZxT (hnm : Zp u.nm=true) (hall : u.gs.all Zp=true) (hasc : Wf u.gs=true) (hl : u.gs.length≤6) (hfree : ∀ g,s.mem g u.nm=false) (hK : s.K=gs) {z1 z2 z3 : Value} : ∀ (t j : Nat) (c : Nat) (X : Zd),u.gs.length - j=t→j≤u.gs.length→ND0 X d r { s with mem:=W6 (u.gs.take j) u.nm s.mem } c→X[b]?=some (.cells u.cells 1 false false)→Sl X ugv (u.gs.map strv)→
  ∃ X',Zi (c8 (QQ.l3 (R (n+11)))) [pt d,pt b,z1,z2,z3,ugv,iv u.gs.length,iv j] X=some (if (u.gs.drop j).all (fun g=>decide (g∈gs)) then .ext 4 [pt d,pt b,z1,z2,z3] else .ret (.tuple #[.pointer none,iv 8]),X')∧Zz r.own X r.own X'∧((u.gs.drop j).all (fun g=>decide (g∈gs))=true→∃ c',ND0 X' d r { s with mem:=W6 u.gs u.nm s.mem } c')
 | 0,j,c,X,ht,hj,hd,hb,hs=>by
  have hj : j=u.gs.length:=by omega
  subst hj
  rw [List.take_length] at hd
  rw [List.drop_length]
  refine ⟨X,ZL ?_,.refl _ _,fun _=>⟨c,hd⟩⟩
  rw [Y9]
  unfold QQ.l3
  rw [Za Zl,Zb,if_neg (by simp)]
  rfl
 | t+1,j,c,X,ht,hj,hd,hb,hs=>by
  have hkl : j < u.gs.length:=by omega
  have hlt : (j : Int) < u.gs.length:=by omega
  have hg:=List.getElem?_eq_getElem hkl
  have hdr:=List.drop_eq_getElem_cons hkl
  have hsn:=take_snocT hg
  generalize u.gs[j]=g at hg hdr hsn
  have x1:=hs.ix (i:=j) (by simpa using hkl) .i64 X
  have x2:=hs.ldx (Yb hg)
  have l0 : ld1 (pa b 0) X=some (strv u.nm,X):=Zv hb rfl
  obtain ⟨X1,e1,g1,s1⟩:=ZvW (n:=n+3) (k:=g) (m:=u.nm) hd.gr
  have e1 : R (n+11) YD [pt r.g,strv g,strv u.nm] X=_:=e1
  rw [hd.ks] at e1 g1
  have hKs : ({ s with mem:=W6 (u.gs.take j) u.nm s.mem } : NSt).K=gs:=hK
  rw [hKs] at e1 g1
  have hgn : Zp g=true:=List.all_eq_true.1 hall g (List.mem_of_getElem? hg)
  have hgt : g∉u.gs.take j:=by
   have hp:=Zhe hasc
   rw [← List.take_append_drop j u.gs,List.pairwise_append,hdr] at hp
   exact fun hm=>List.lt_irrefl g (hp.2.2 g hm g (by simp))
  have hmf : W6 (u.gs.take j) u.nm s.mem g u.nm=false:=by
   unfold W6
   rw [hfree]
   simp [hgt]
  have hfd : Jd g [u.nm] gs=if g∈gs then 0 else 8:=by
   unfold Jd
   simp [hgn,hnm]
  rw [hdr,List.all_cons]
  by_cases hgm : g∈gs
  ·rw [if_pos hgm] at hfd
   have hE : ZaJ g u.nm gs (W6 (u.gs.take j) u.nm s.mem)=0:=by
    unfold ZaJ
    rw [hfd,if_pos rfl,hmf];rfl
   rw [hE] at e1
   rw [show ({ s with mem:=W6 (u.gs.take j) u.nm s.mem } : NSt).mem=W6 (u.gs.take j) u.nm s.mem from rfl,hE,if_pos rfl,ZxA,← hsn] at g1
   obtain ⟨d1,t1⟩:=hd.setG g1 s1 hd.ks
   have hc1:=hd.cle t1
   rw [decide_eq_true hgm,Bool.true_and]
   have d1' : ND0 X1 d r { s with mem:=W6 (u.gs.take (j+1)) u.nm s.mem } (c+1):=d1
   obtain ⟨X2,e2,t2,h2⟩:=ZxT hnm hall hasc hl hfree hK t (j+1) (c+1) X1 (by omega) (by omega) d1' (hc1 _ _ _ _ _ hb) (hs.cle hc1)
   refine ⟨X2,(ZA ?_).trans e2,Zz.trans t1 t2,h2⟩
   rw [Y9]
   unfold QQ.l3
   rw [Za Zl,Zb,if_pos (by simpa using hlt),Za x1,Za x2,Za Zs,Za Zh,Za hd.l2,Za Zh,Za l0,Za e1,Za Zq,Zb,if_neg (by simp),Za ZC,Qd (by omega)]
   rfl
  ·rw [if_neg hgm] at hfd
   have hE : ZaJ g u.nm gs (W6 (u.gs.take j) u.nm s.mem)=8:=by
    unfold ZaJ
    rw [hfd,if_neg (by simp)]
   rw [hE] at e1
   obtain ⟨d1,t1⟩:=hd.setG g1 s1 hd.ks
   rw [decide_eq_false hgm,Bool.false_and]
   refine ⟨X1,QW ?_,t1,fun h=>by cases h⟩
   rw [Y9]
   unfold QQ.l3
   rw [Za Zl,Zb,if_pos (by simpa using hlt),Za x1,Za x2,Za Zs,Za Zh,Za hd.l2,Za Zh,Za l0,Za e1,Za Zq,Zb,if_pos (by simp)]
   rfl
where
 take_snocT {l : List Tx} {j : Nat} {h : j < l.length} (hg : l[j]?=some l[j]) : l.take (j+1)=l.take j++[l[j]]:=by
  rw [List.take_add_one,hg];rfl
theorem Zrp : ∀ {us : List Zj},(∀ v∈us,v.nm < u.nm)→Zcl u us=us++[u]
 | [],_=>by simp [Zcl,Kn,Wb]
 | v :: us,h=>by
  rw [Zk1,if_neg (fun hle=>(List.not_lt.2 hle) (h v (by simp))),Zrp fun w hw=>h w (by simp [hw])]
  rfl
theorem ZzW (hO : ROK s prev) (hP : WU s) (hm : QA m=true) (hf : Z7 m=m) : prev.any (fun w=>m==w.ml)=(Zf m s.OW).isSome:=by
 have h1:=ZyE hO hP hm
 rw [hf] at h1
 rw [← h1,Option.isSome_map,List.isSome_find?]
 congr 1
 funext w
 exact BEq.comm
def addN (u : Zj) (s : NSt) : NSt:={ A:=Qv u.nm (u.hs,u.ds) s.A,OW:=Zn4 u.nm u.ml s.OW s.OF,OF:=Zdf u.nm u.ml s.OW s.OF,K:=s.K,mem:=W6 u.gs u.nm s.mem }
theorem ZmC (h : ZdG m=true) : m=[]∨(QA m=true∧Z7 m=m):=by
 unfold ZdG at h
 simpa using h
theorem Zg7 (h : Yi u=0) : Zp u.nm=true∧WC u.hs=true∧ZdG u.ml=true∧u.gs.length≤6∧u.gs.all Zp=true∧Wf u.gs=true:=by
 unfold Yi at h
 split at h
 ·rename_i h1
  split at h
  ·rename_i h2
   split at h
   ·rename_i h3
    unfold Zgp at h
    split at h
    ·exact absurd h (by decide)
    ·rename_i h6
     split at h
     ·rename_i h4
      split at h
      ·rename_i h5
       exact ⟨h1,h2,h3,by omega,h4,h5⟩
      ·exact absurd h (by decide)
     ·exact absurd h (by decide)
   ·exact absurd h (by decide)
  ·exact absurd h (by decide)
 ·exact absurd h (by decide)
theorem ZBb (hO : ROK s prev) (hP : WU s) (hu : Yi u=0) (hA : Zf u.nm s.A=none) : YR u.nm u.ml s.OW=if u.ml≠[]∧prev.any (fun w=>u.ml==w.ml)=true then 9 else 0:=by
 obtain ⟨h1,_,h3,_,_,_⟩:=Zg7 hu
 unfold YR
 rw [h1,if_pos rfl]
 rcases ZmC h3 with hm | ⟨hm,hf⟩
 ·rw [if_pos hm,if_neg (fun h=>h.1 hm)]
 ·have hne : u.ml≠[]:=by have:=(Zhb hm).1;rwa [hf] at this
  rw [if_neg hne,hm,if_pos rfl,hf,ZzW hO hP hm hf]
  cases hw : Zf u.ml s.OW with
  | none=>simp
  | some w=>
   have hww : w≠u.nm:=fun e=>by
    subst e
    have:=hP.i.ofA u.nm (by rw [(hP.x.inv u.nm u.ml).2 hw];rfl)
    rw [hA] at this;cases this
   simp [hww,hne]
theorem ZzG (hi : JH s) (hu : Yi u=0) (hgs : ∀ g∈u.gs,g∈s.K) (hk : s.K.Nodup) (hA : Zf u.nm s.A=none) (hfree : ∀ g,s.mem g u.nm=false) (he : YR u.nm u.ml s.OW=0) (x : Tx) : ZO (addN u s) x=if x=u.nm then some (ZF u) else ZO s x:=by
 obtain ⟨h1,h2,h3,h4,h5,h6⟩:=Zg7 hu
 by_cases hx : x=u.nm
 ·rw [if_pos hx,hx]
  unfold ZO
  show (Zf u.nm (Qv u.nm (u.hs,u.ds) s.A)).map _=_
  rw [KW]
  show some (Qf _ u.nm (u.hs,u.ds))=_
  unfold Qf ZF
  show some (u.nm,u.hs,(Zf u.nm (Zdf u.nm u.ml s.OW s.OF)).getD [],u.ds,ofL u.nm s.K (W6 u.gs u.nm s.mem))=_
  rw [Zer he,if_pos rfl]
  have hg : ofL u.nm s.K (W6 u.gs u.nm s.mem)=u.gs:=by
   refine (Zco hk).uniq ⟨Zhe h6,fun y=>Iff.rfl⟩ fun y=>?_
   unfold W6
   rw [hfree]
   simp
   exact hgs y
  rw [hg]
  rcases ZmC h3 with hm | ⟨hm,hf⟩
  ·rw [if_pos hm,hm];rfl
  ·have hne : u.ml≠[]:=by have:=(Zhb hm).1;rwa [hf] at this
   rw [if_neg hne,hf];rfl
 ·rw [if_neg hx]
  unfold ZO
  show (Zf x (Qv u.nm (u.hs,u.ds) s.A)).map _=_
  rw [Yy hx]
  cases Zf x s.A with
  | none=>rfl
  | some p=>
   show some (Qf _ x p)=some (Qf s x p)
   unfold Qf
   show some (x,p.1,(Zf x (Zdf u.nm u.ml s.OW s.OF)).getD [],p.2,ofL x s.K (W6 u.gs u.nm s.mem))=_
   rw [Zer he,if_neg hx]
   have : ofL x s.K (W6 u.gs u.nm s.mem)=ofL x s.K s.mem:=by
    unfold ofL W6
    refine List.filter_congr fun g _=>?_
    simp [hx]
   rw [this]
theorem JH.add (hi : JH s) (hu : Yi u=0) (hA : s.A.length < 12) (he : YR u.nm u.ml s.OW=0) : JH (addN u s):=by
 obtain ⟨h1,h2,h3,h4,h5,h6⟩:=Zg7 hu
 have p1:=hi.putA (k:=u.nm) (v:=(u.hs,u.ds)) h1 h2 (.inr hA)
 refine ⟨p1.nm,p1.few,fun x hx=>?_,fun g x hx=>?_,fun x y hx=>?_⟩
 ·have hx : (Zf x (Zdf u.nm u.ml s.OW s.OF)).isSome=true:=hx
  rw [Zer he] at hx
  by_cases e : x=u.nm
  ·show (Zf x (Qv u.nm (u.hs,u.ds) s.A)).isSome=true
   rw [e,KW];rfl
  ·rw [if_neg e] at hx
   exact Zbo (.inl (hi.ofA x hx))
 ·have hx : W6 u.gs u.nm s.mem g x=true:=hx
  unfold W6 at hx
  rw [Bool.or_eq_true] at hx
  rcases hx with hx | hx
  ·exact Zbo (.inl (hi.memA g x hx))
  ·rw [Bool.and_eq_true,beq_iff_eq] at hx
   exact Zbo (.inr hx.2)
 ·have hx : Zf x (Zdf u.nm u.ml s.OW s.OF)=some y:=hx
  rw [Zer he] at hx
  by_cases e : x=u.nm
  ·rw [if_pos e] at hx
   rcases ZmC h3 with hm | ⟨hm,hf⟩
   ·rw [if_pos hm] at hx;cases hx
   ·have hne : u.ml≠[]:=by have:=(Zhb hm).1;rwa [hf] at this
    rw [if_neg hne,hf] at hx
    cases hx
    exact ⟨hm,hf⟩
  ·rw [if_neg e] at hx
   exact hi.good x y hx
structure OfS (X0 X : Zd) (d : Nat) (r : NR) (s : NSt) (c : Nat) (gs : List Tx) (prev : List Zj) : Prop where
 le : HLe X0 X
 nd : ND X d r s c
 own : ∀ i∈r.own,X0.length≤i
 K : s.K=gs
 ok : ROK s prev
theorem ZxC (hn : us.length≤12) (hA : Qc X0 sl us) (h2 : ∀ u∈us,Yi u=0) (hris : Wf (us.map (·.nm))=true) : ∀ (t i : Nat) (s : NSt) (c : Nat) (X : Zd),us.length - i=t→i≤us.length→OfS X0 X d r s c gs (us.take i)→
  ∃ X' o,Zi (c4 (QQ.l2 (R (n+11)))) [pt d,sl,iv us.length,iv i] X=some (o,X')∧HLe X0 X'∧(if Za2 gs (us.take i) (us.drop i)=0 then o=.ext 2 [pt d]∧∃ s' c',OfS X0 X' d r s' c' gs us else o=.ret (.tuple #[.pointer none,iv (Za2 gs (us.take i) (us.drop i))]))
 | 0,i,s,c,X,ht,hi,hS=>by
  have hi : i=us.length:=by omega
  subst hi
  rw [List.take_length] at hS
  rw [List.drop_length,List.take_length]
  refine ⟨X,.ext 2 [pt d],ZL ?_,hS.le,?_⟩
  ·rw [ZI]
   unfold QQ.l2
   rw [Za Zl,Zb,if_neg (by simp)]
   rfl
  ·rw [if_pos (show Za2 gs us []=0 from by unfold Za2;rfl)]
   exact ⟨rfl,s,c,hS⟩
 | t+1,i,s,c,X,ht,hi,hS=>by
  have hjl : i < us.length:=by omega
  have hlt : (i : Int) < us.length:=by omega
  have hg:=List.getElem?_eq_getElem hjl
  have hdr:=List.drop_eq_getElem_cons hjl
  generalize us[i]=u at hg hdr
  have hum:=List.mem_of_getElem? hg
  have hu:=h2 u hum
  obtain ⟨u1,u2,u3,u4,u5,u6⟩:=Zg7 hu
  have hP:=hS.nd.pinv
  have hrp : ∀ v∈us.take i,v.nm < u.nm:=fun v hv=>by
   have hp:=Zhe hris
   rw [← List.take_append_drop i us,hdr,List.map_append,List.pairwise_append] at hp
   exact hp.2.2 v.nm (List.mem_map.2 ⟨v,hv,rfl⟩) u.nm (by simp)
  have hlen:=hS.ok.len hP.n
  have hlt' : (us.take i).length=i:=by rw [List.length_take];omega
  have hnone : Zf u.nm s.A=none:=by
   cases ha : Zf u.nm s.A with
   | none=>rfl
   | some p=>
    have h3 : ZO s u.nm=some (Qf s u.nm p):=by unfold ZO;rw [ha];rfl
    obtain ⟨v,hv,hk⟩:=KJ.1 ((hS.ok.look (Qf s u.nm p)).2 h3)
    have hvn : v.nm=u.nm:=congrArg (·.1) hk
    have:=hrp v hv
    rw [hvn] at this
    exact absurd this (List.lt_irrefl _)
  have hfree:=hP.i.memN hnone
  have hok:=(hA.mono hS.le).ok hum
  have hf:=fun {K : Value→M Out}=>Zdz (k:=K) (hA.mono hS.le).1 hok.2.1 hg
  have g1 : (X++[Ze.cells u.cells 1 false false])[X.length]?=some (.cells u.cells 1 false false):=ZB
  have k1 : HLe X (X++[Ze.cells u.cells 1 false false]):=.app _ _
  generalize X++[Ze.cells u.cells 1 false false]=X1 at g1 k1 hf
  generalize X.length=b at g1 hf
  have d1:=hS.nd.hle k1
  have ok1:=hok.hle k1
  have a0 : ∀ f x,u.cells[f]?=some x→ld1 (pa b f) X1=some (x,X1):=fun f x h=>Zv g1 h
  obtain ⟨X2,e2,m2,s2,_⟩:=d1.m.mup (k:=u.nm) (v:=(u.hs,u.ds))
  obtain ⟨d2,t2⟩:=d1.toND0.setA m2 s2
  have c2:=d1.toND0.cle t2
  have g2:=c2 _ _ _ _ _ g1
  have a4 : ld1 (pa b 4) X2=some (u.gv,X2):=Zv g2 rfl
  have hs2:=ok1.1.cle c2
  have hul : Zw u.gv X2=some (iv u.gs.length,X2):=by have:=hs2.len (H':=X2);simpa using this
  have d2' : ND0 X2 d r { ({ s with A:=Qv u.nm (u.hs,u.ds) s.A } : NSt) with mem:=W6 (u.gs.take 0) u.nm s.mem } c:=by
   rw [List.take_zero,ZAi];exact d2
  obtain ⟨X3,e3,t3,h3⟩:=ZxT (n:=n) (s:={ s with A:=Qv u.nm (u.hs,u.ds) s.A }) (gs:=gs) (z1:=sl) (z2:=iv us.length) (z3:=iv i) u1 u5 u6 u4 hfree hS.K u.gs.length 0 c X2 (by omega) (by omega) d2' g2 hs2
  rw [show iv ((0 : Nat) : Int)=.int .i64 0 from rfl,List.drop_zero] at e3
  rw [List.drop_zero] at h3
  obtain ⟨q1,q2⟩:=(hS.le.trans k1).more (t2.trans t3) hS.own
  have hbody : ∀ o Z,jn (Zi (c8 (QQ.l3 (R (n+11)))) [pt d,pt b,sl,iv us.length,iv i,u.gv,iv u.gs.length,(Value.int .i64 0)]) noN (xk 4 (c5 fun q45_0 q45_1 q45_2 q45_3 q45_4=>
    bind (Qa q45_0) fun v73x46=>bind (fa 1 v73x46) fun v74x47=>bind (ld1 v74x47) fun v75x48=>bind (fa 0 q45_1) fun v76x49=>bind (ld1 v76x49) fun v77x50=>bind (fa 2 q45_1) fun v78x51=>bind (ld1 v78x51) fun v79x52=>
    bind (R (n+11) Ke [v75x48,v77x50,v79x52]) fun v80x53=>bind (bop .int .neq v80x53 (Value.int .i64 0)) fun v82x54=>
    cnd v82x54 (ret (.ret (Value.tuple #[(Value.pointer none),v80x53]))) (bind (bop .int .add q45_4 (Value.int .i64 1)) fun v84x55=>ret (.nrm [q45_0,q45_2,q45_3,v84x55]))) noX) ZW X2=some (o,Z)→c4 (QQ.l2 (R (n+11))) [pt d,sl,iv us.length,iv i] X=some (o,Z):=fun o Z h=>by
   rw [ZI]
   unfold QQ.l2
   rw [Za Zl,Zb,if_pos (by simpa using hlt),hf,Za Zs,Za Zh,Za d1.l0,Za Zh,Za (a0 0 _ rfl),Za Zh,Za (a0 1 _ rfl),Za Zh,Za (a0 3 _ rfl),Za ZCT,Za e2,Za Zh,Za a4,Za hul]
   exact h
  rw [hdr]
  unfold Za2 ZfJ
  cases ha : u.gs.all fun g=>decide (g∈gs)
  ·rw [ha] at e3
   simp only [Bool.false_eq_true,if_false]
   exact ⟨X3,_,QW (hbody _ _ ((Yl e3).trans rfl)),q1,rfl⟩
  ·rw [ha] at e3
   simp only [if_true]
   obtain ⟨c3,d3⟩:=h3 ha
   have c23:=d2.cle t3
   have g3:=c23 _ _ _ _ _ g2
   have l0 : ld1 (pa b 0) X3=some (strv u.nm,X3):=Zv g3 rfl
   have l2 : ld1 (pa b 2) X3=some (strv u.ml,X3):=Zv g3 rfl
   obtain ⟨X4,e4,i4,s4⟩:=ZyL (n:=n+2) (k:=u.nm) (m:=u.ml) d3.ix
   have e4 : R (n+11) Ke [pt r.x,strv u.nm,strv u.ml] X3=some (iv (YR u.nm u.ml s.OW),X4):=e4
   obtain ⟨d4,t4⟩:=d3.setI i4 s4
   obtain ⟨q3,q4⟩:=q1.more t4 q2
   have hE:=ZBb hS.ok hP hu hnone
   by_cases hp : u.ml≠[]∧(us.take i).any (fun w=>u.ml==w.ml)=true
   ·rw [if_pos hp] at hE
    simp only [if_pos hp]
    rw [hE] at e4
    refine ⟨X4,_,QW (hbody (.ret (.tuple #[.pointer none,iv 9])) X4 ?_),q3,rfl⟩
    rw [ZY e3,ZG,Qi,Za Zs,Za Zh,Za d3.l1,Za Zh,Za l0,Za Zh,Za l2,Za e4,Za Zq,Zb,if_pos (by simp)]
    rfl
   ·rw [if_neg hp] at hE
    simp only [if_neg hp,if_true]
    rw [hE] at e4
    have hgs : ∀ g∈u.gs,g∈s.K:=fun g hgm=>by
     rw [hS.K]
     simpa using List.all_eq_true.1 ha g hgm
    have hadd:=ZzG hP.i hu hgs hP.k.nod hnone hfree hE
    have hd4 : ND X4 d r (addN u s) c3:=⟨d4,hP.i.add hu (by omega) hE⟩
    have hok4 : ROK (addN u s) (us.take (i+1)):=by
     rw [ZrN hg,← Zrp hrp]
     exact hS.ok.put (by rw [hadd,if_pos rfl]) (fun x hx=>by rw [hadd,if_neg hx])
    obtain ⟨X5,o5,e5,k5,h5⟩:=ZxC hn hA h2 hris t (i+1) (addN u s) c3 X4 (by omega) (by omega) ⟨q3,hd4,q4,hS.K,hok4⟩
    rw [ZrN hg] at h5
    refine ⟨X5,o5,(ZA (hbody _ X4 ?_)).trans e5,k5,h5⟩
    rw [ZY e3,ZG,Qi,Za Zs,Za Zh,Za d3.l1,Za Zh,Za l0,Za Zh,Za l2,Za e4,Za Zq,Zb,if_neg (by simp),Za ZC,Qd (by omega)]
    rfl
theorem ZyN (h : Zek us gs=0) : Ka us=0∧Wf (us.map (·.nm))=true∧us.length≤12∧gs.all Zp=true∧Wf gs=true∧gs.length≤6:=by
 unfold Zek ZnT at h
 by_cases h1 : Ka us=0
 ·simp only [if_pos h1] at h
  cases h2 : Wf (us.map (·.nm))
  ·rw [h2] at h;simp at h
  ·rw [h2] at h
   by_cases h3 : 12 < us.length
   ·simp [h3] at h
   ·cases h4 : gs.all Zp <;> cases h5 : Wf gs <;> rw [h4,h5] at h <;> by_cases h6 : 6 < gs.length <;> simp [h3,h6] at h
    exact ⟨h1,rfl,by omega,rfl,rfl,by omega⟩
 ·simp only [if_neg h1] at h
  exact absurd h h1
theorem ZyD (hn : us.length≤1000) (hl : gs.length≤1000000) (hA : Qc X sl us) (hs : Sl X gv (gs.map strv)) : ∃ X',HLe X X'∧(if ZcS us gs=0 then ∃ d r s c,R (n+12) Zbt [sl,gv] X=some (.tuple #[pt d,iv 0],X')∧OfS X X' d r s c gs us else R (n+12) Zbt [sl,gv] X=some (.tuple #[.pointer none,iv (ZcS us gs)],X')):=by
 obtain ⟨X1,e1,k1⟩:=Zux (n:=n) hn hl hA hs
 have f1 : ∀ r X',QQ (R (n+11)) sl gv X=some (r,X')→R (n+12) Zbt [sl,gv] X=some (r,X'):=fun r X' hr=>by rw [R,Zu6 rfl];exact hr
 unfold ZcS
 by_cases hc : Zek us gs=0
 ·obtain ⟨c1,c2,c3,c4,c5,c6⟩:=ZyN hc
  rw [hc] at e1
  simp only [if_pos hc]
  have q1 : bop .int .neq (iv 0) (.int .i64 0) X1=some (.bool false,X1):=by rw [Zq];rfl
  obtain ⟨X2,d,r,e2,D2,l2,o1,o2⟩:=Zui (n:=n+9) (X:=X1)
  have e2 : R (n+11) K3 [] X1=_:=e2
  have k2:=k1.trans l2
  have hgn : Zw gv X2=some (iv gs.length,X2):=by have:=hs.len (H':=X2);simpa using this
  obtain ⟨X3,r3,e3,k3,D3,o3⟩:=Zy3 (n:=n) (sl:=sl) hs c5 c4 c6 gs.length 0 r X2 (by omega) (by omega) k2 D2 (fun i hi=>Nat.le_trans k1.len (o2 i hi))
  rw [show iv ((0 : Nat) : Int)=.int .i64 0 from rfl] at e3
  have hlen : Zw sl X3=some (iv us.length,X3):=by have:=hA.1.len (H':=X3);rwa [List.length_map] at this
  have hS : OfS X X3 d r3 (nGs gs) 0 gs (us.take 0):=⟨k3,D3,o3,rfl,⟨List.Pairwise.nil,fun key=>by simp [ZO,nGs,Zf]⟩⟩
  obtain ⟨X4,o,e4,k4,h4⟩:=ZxC (n:=n) c3 hA (Zl1 c1) c2 us.length 0 (nGs gs) 0 X3 (by omega) (by omega) hS
  rw [show iv ((0 : Nat) : Int)=.int .i64 0 from rfl] at e4
  rw [List.take_zero,List.drop_zero] at h4
  refine ⟨X4,k4,?_⟩
  by_cases hz : Za2 gs [] us=0
  ·rw [if_pos hz] at h4 ⊢
   obtain ⟨rfl,s',c',hS'⟩:=h4
   refine ⟨d,r3,s',c',f1 _ _ ?_,hS'⟩
   unfold QQ
   rw [Za e1,Za q1,Zb,if_neg (by simp),Za e2,Za hgn,ZY e3,ZG,Qe,Za hlen,ZY e4,ZG]
   rfl
  ·rw [if_neg hz] at h4 ⊢
   subst h4
   refine f1 _ _ ?_
   unfold QQ
   rw [Za e1,Za q1,Zb,if_neg (by simp),Za e2,Za hgn,ZY e3,ZG,Qe,Za hlen,Yl e4]
   rfl
 ·simp only [if_neg hc]
  have q1 : bop .int .neq (iv (Zek us gs)) (.int .i64 0) X1=some (.bool true,X1):=by rw [Zq];simp [hc]
  refine ⟨X1,k1,f1 _ _ ?_⟩
  unfold QQ
  rw [Za e1,Za q1,Zb,if_pos rfl]
  rfl
theorem ZAa {us ws : List Zj} (h : us.map ZF=ws.map ZF) : ZcS us gs=ZcS ws gs:=by
 have hrest : ∀ (l l' p p' : List Zj),l.map ZF=l'.map ZF→p.map ZF=p'.map ZF→Za2 gs p l=Za2 gs p' l':=by
  intro l
  induction l with
  | nil=>
   intro l' p p' hl hp
   cases l' with
   | nil=>unfold Za2;rfl
   | cons a b=>simp at hl
  | cons u l ih=>
   intro l' p p' hl hp
   cases l' with
   | nil=>simp at hl
   | cons w l'=>
    rw [List.map_cons,List.map_cons,List.cons.injEq] at hl
    have hg : u.gs=w.gs:=congrArg (·.2.2.2.2) hl.1
    have hm : u.ml=w.ml:=congrArg (·.2.2.1) hl.1
    have hany : p.any (fun v=>u.ml==v.ml)=p'.any (fun v=>w.ml==v.ml):=by
     have h1 : ∀ (p : List Zj) (m : Tx),p.any (fun v=>m==v.ml)=(p.map ZF).any (fun v=>m==v.2.2.1):=fun p m=>by
      rw [List.any_map];rfl
     rw [h1,h1,hp,hm]
    have hpe : ZfJ gs p u=ZfJ gs p' w:=by
     unfold ZfJ
     rw [hg,hm]
     rw [hm] at hany
     rw [hany]
    unfold Za2
    rw [hpe,ih l' (p++[u]) (p'++[w]) hl.2 (by rw [List.map_append,List.map_append,hp,List.map_singleton,List.map_singleton,hl.1])]
 have hfirst : ∀ (l l' : List Zj),l.map ZF=l'.map ZF→Ka l=Ka l':=by
  intro l
  induction l with
  | nil=>
   intro l' hl
   cases l' with
   | nil=>rfl
   | cons a b=>simp at hl
  | cons u l ih=>
   intro l' hl
   cases l' with
   | nil=>simp at hl
   | cons w l'=>
    rw [List.map_cons,List.map_cons,List.cons.injEq] at hl
    have he : Yi u=Yi w:=by
     have h1 : u.nm=w.nm:=congrArg (·.1) hl.1
     have h2 : u.hs=w.hs:=congrArg (·.2.1) hl.1
     have h3 : u.ml=w.ml:=congrArg (·.2.2.1) hl.1
     have h4 : u.gs=w.gs:=congrArg (·.2.2.2.2) hl.1
     unfold Yi
     rw [h1,h2,h3,h4]
    unfold Ka
    rw [he,ih l' hl.2]
 have hnm : us.map (·.nm)=ws.map (·.nm):=by
  have h1:=congrArg (List.map (·.1)) h
  rw [List.map_map,List.map_map] at h1
  exact h1
 have hlen : us.length=ws.length:=by
  have h1:=congrArg List.length h
  rwa [List.length_map,List.length_map] at h1
 unfold ZcS Zek ZnT
 rw [hfirst us ws h,hnm,hlen,hrest us ws [] [] h rfl]
theorem ROK.keys {us ws : List Zj} (hO : ROK s us) (h : us.map ZF=ws.map ZF) : ROK s ws:=⟨by
 have h1:=congrArg (List.map (·.1)) h
 rw [List.map_map,List.map_map] at h1
 have h1 : us.map (·.nm)=ws.map (·.nm):=h1
 have h2 : (us.map (·.nm)).Pairwise (· < ·):=by rw [List.pairwise_map];exact hO.rise
 rw [h1,List.pairwise_map] at h2
 exact h2,fun key=>by rw [← h];exact hO.look key⟩
end
end Go.Proofs.YtedkoimihknggaaGreatDoor.A

namespace Go.Proofs.YtedkoimihknggaaGreatDoor.A
set_option linter.unusedVariables false
set_option linter.unusedSimpArgs false
open Go.Proofs Go.Proofs.YtedkoimihknggaaGreatDoor
def le (x : Nat) : Nat→List UInt8
 | 0=>[]
 | k+1=>UInt8.ofNat (x % 256) :: le (x / 256) k
theorem WO : ∀ {k x : Nat},(le x k).length=k
 | 0,_=>rfl
 | k+1,x=>by unfold le;rw [List.length_cons,WO]
def txt (s : List UInt8) : List UInt8:=le s.length 2++s
theorem ZBk (a b : List UInt8) : u8s (a++b)=u8s a++u8s b:=by simp [u8s]
section
variable {H X : Zd} {n p : Nat} {sl x v : Value} {vs ws : List Value} {own : List Nat} {bs s : List UInt8}
theorem Zx.addN {b : Nat} (h : Zx H sl vs own) (hf : QB 1 H x=some ws) (hn : A.flen x=ws.length) (hb : (vs.length+ws.length) * b≤140737488355328) (hb0 : vs.length+ws.length≤140737488355328) :
  ∃ sl' H' own',app 1 b sl x H=some (sl',H')∧Zx H' sl' (vs++ws) own'∧Zz own H own' H':=by
 by_cases h0 : ws.length=0
 ·have hw : ws=[]:=List.eq_nil_of_length_eq_zero h0
  subst hw
  refine ⟨sl,H,own,?_,by simpa using h,.refl _ _⟩
  rcases h with ⟨rfl,rfl,rfl⟩ | ⟨sid,rest,gr,rfl,rfl,hid⟩
  ·unfold app
   rw [hf]
   simp [hn]
  ·unfold app
   rw [hf]
   simp [hn,hid]
 rcases h with ⟨rfl,rfl,rfl⟩ | ⟨sid,rest,gr,rfl,rfl,hid⟩
 ·refine ⟨_,H++[.cells ws 1 true false],[H.length],?_,.inr ⟨H.length,[],true,rfl,rfl,by simp⟩,⟨by simp,fun j hj _=>List.getElem?_append_left hj,by simp⟩⟩
  unfold app
  rw [hf]
  simp only [hn]
  simp only [List.length_nil,Nat.zero_add] at hb hb0
  rw [if_neg h0,if_pos ⟨hb0,hb⟩]
  simp
 ·have hlt:=Qz hid
  by_cases hc : ws.length≤rest.length
  ·have hsp : splice (vs++rest) ws vs.length=vs++(ws++rest.drop ws.length):=by
    unfold splice
    rw [List.take_left,List.drop_append,List.drop_eq_nil_of_le (by omega),List.nil_append,Nat.add_sub_cancel_left,List.append_assoc]
   have hset : (H.set sid (.cells (vs++(ws++rest.drop ws.length)) 1 gr false))[sid]?=some (.cells (vs++(ws++rest.drop ws.length)) 1 gr false):=ZP hid
   refine ⟨.slice (some ⟨sid,0,none⟩) (vs.length+ws.length) (vs.length+rest.length),H.set sid (.cells (vs++(ws++rest.drop ws.length)) 1 gr false),[sid],?_,.inr ⟨sid,rest.drop ws.length,gr,?_,rfl,by rw [hset,List.append_assoc]⟩,⟨by simp,fun j hj hn=>List.getElem?_set_ne (fun e=>hn (by simp [e])),by simp⟩⟩
   ·unfold app
    rw [hf]
    simp only [hn,hid,if_true,Nat.mul_one,Nat.zero_add]
    rw [if_pos (by omega),if_neg h0,if_pos ⟨trivial,by rw [List.length_append];omega⟩,hsp]
   ·rw [List.length_append,List.length_drop]
    congr 1;omega
  ·have hold : ((vs++rest).drop 0).take vs.length=vs:=by rw [List.drop_zero,List.take_left]
   have happ : app 1 b (.slice (some ⟨sid,0,none⟩) vs.length (vs.length+rest.length)) x H=some (.slice (some ⟨H.length,0,none⟩) (vs.length+ws.length) (vs.length+ws.length),(bif gr then H.set sid (.view vs 1 H.length) else H)++[.cells (vs++ws) 1 true false]):=by
    unfold app
    rw [hf]
    simp only [hn,hid,if_true,Nat.mul_one,Nat.zero_add]
    rw [if_neg (by omega),if_pos ⟨by simp,by rw [List.length_append];omega,hb0,hb⟩,hold]
    rfl
   have hnew : ((bif gr then H.set sid (.view vs 1 H.length) else H)++[.cells (vs++ws) 1 true false])[H.length]?=some (.cells (vs++ws) 1 true false):=by
    rw [List.getElem?_append_right (by cases gr <;> simp)]
    cases gr <;> simp
   refine ⟨_,_,[H.length],happ,.inr ⟨H.length,[],true,by simp,rfl,by rw [hnew,List.append_nil]⟩,⟨?_,fun j hj hn=>?_,by simp⟩⟩
   ·cases gr <;> simp
   ·rw [List.getElem?_append_left (by cases gr <;> simpa using hj)]
    cases gr
    ·rfl
    ·exact List.getElem?_set_ne (fun e=>hn (by simp [e]))
structure Wtr (H : Zd) (p : Nat) (bs : List UInt8) (own : List Nat) : Prop where
 o : ∃ sl,H[p]?=some (.cells [sl] 1 false false)∧Zx H sl (u8s bs) own
 ne : p∉own
theorem Wtr.lt (h : Wtr H p bs own) : ∀ j∈p :: own,j < H.length:=by
 obtain ⟨sl,hc,hr⟩:=h.o
 intro j hj
 rcases List.mem_cons.1 hj with rfl | hj
 ·exact Qz hc
 ·exact hr.lt j hj
theorem Wtr.keep (h : Wtr H p bs own) (hk : ∀ j∈p :: own,X[j]?=H[j]?) : Wtr X p bs own:=by
 obtain ⟨sl,hc,hr⟩:=h.o
 exact ⟨⟨sl,by rw [hk p (by simp)];exact hc,hr.keep fun j hj=>hk j (by simp [hj])⟩,h.ne⟩
theorem Wtr.step {o1 o2 : List Nat} (h : Wtr H p bs own) (hs : Zz o1 H o2 X) (hn : ∀ j∈p :: own,j∉o1) : Wtr X p bs own:=
 h.keep fun j hj=>hs.keep j (h.lt j hj) (hn j hj)
theorem Wtr.hle (h : Wtr H p bs own) (hl : HLe H X) : Wtr X p bs own:=h.step hl.step (by simp)
theorem Wtr.put {own' : List Nat} {bs' : List UInt8} (h : Wtr H p bs own) (hr : Zx X sl (u8s bs') own') (hs : Zz own H own' X) : ∃ X',st1 (pt p) sl X=some (undef,X')∧Wtr X' p bs' own'∧Zz (p :: own) H (p :: own') X':=by
 obtain ⟨sl0,hc,hr0⟩:=h.o
 have hc1 : X[p]?=some (.cells [sl0] 1 false false):=hs.get hc h.ne
 have hne : p∉own':=fun hm=>by
  rcases hs.own p hm with h1 | h1
  ·exact h.ne h1
  ·have:=Qz hc;omega
 have e1 : st1 (pt p) sl X=some (undef,X.set p (.cells [sl] 1 false false)):=Kv (o:=0) hc1 (by simp) hr.one.1
 refine ⟨_,e1,⟨⟨sl,ZP hc1,hr.keep fun j hj=>List.getElem?_set_ne (fun e=>hne (by rw [e];exact hj))⟩,hne⟩,?_⟩
 have s1 : Zz [p] X [p] (X.set p (.cells [sl] 1 false false)):=⟨by simp,fun j hj hn=>List.getElem?_set_ne (fun e=>hn (by simp [e])),fun j hj=>.inl hj⟩
 refine (hs.more (o2:=p :: own) (o2':=p :: own') (by simp+contextual) ?_).trans (s1.more (by simp) (fun j hj=>.inl hj))
 intro j hj
 rcases List.mem_cons.1 hj with rfl | hj
 ·exact .inl (by simp)
 ·exact .inr (.inl hj)
theorem Zqm (x : Nat) : ((UInt8.ofNat (x % 256)).toNat : Int)=(x : Int) % 256:=by
 rw [UInt8.toNat_ofNat']
 omega
theorem ZyC {N : Nat} (hN : N≤1000) : ∀ (t k x : Nat) (bs : List UInt8) (own : List Nat) (H : Zd),N - k=t→k≤N→x < 18446744073709551616→bs.length+t≤1000000000000→Wtr H p bs own→
  ∃ H' own',Zi (c4 (Yr.l1 (R n))) [pt p,.int .u64 x,iv N,iv k] H=some (.ext 0 [pt p],H')∧Wtr H' p (bs++le x t) own'∧Zz (p :: own) H (p :: own') H'
 | 0,k,x,bs,own,H,ht,hk,hx,hb,h=>by
  have : k=N:=by omega
  subst this
  refine ⟨H,own,ZL ?_,by simpa [le] using h,.refl _ _⟩
  rw [ZI]
  unfold Yr.l1
  rw [Za Zl,Zb,if_neg (by simp)]
  rfl
 | t+1,k,x,bs,own,H,ht,hk,hx,hb,h=>by
  have hlt : (k : Int) < N:=by omega
  obtain ⟨sl,hc,hr⟩:=h.o
  have e1 : bsl 1 1 (.int .u8 0) [(0,1,.int .u8 ((UInt8.ofNat (x % 256)).toNat))] H=some (.slice (some ⟨H.length,0,none⟩) 1 1,H++[.cells [.int .u8 ((UInt8.ofNat (x % 256)).toNat)] 1 false false]):=Ztl rfl rfl rfl
  have k1 : HLe H (H++[Ze.cells [.int .u8 ((UInt8.ofNat (x % 256)).toNat)] 1 false false]):=.app _ _
  have s1 : Sl (H++[Ze.cells [.int .u8 ((UInt8.ofNat (x % 256)).toNat)] 1 false false]) (.slice (some ⟨H.length,0,none⟩) 1 1) [.int .u8 ((UInt8.ofNat (x % 256)).toNat)]:=Sl.one (vs:=[.int .u8 ((UInt8.ofNat (x % 256)).toNat)]) ZB
  generalize H++[Ze.cells [.int .u8 ((UInt8.ofNat (x % 256)).toNat)] 1 false false]=X1 at e1 k1 s1
  have h1:=h.hle k1
  have hr1 : Zx X1 sl (u8s bs) own:=hr.step k1.step (by simp)
  have hl : (u8s bs).length=bs.length:=Q8 bs
  obtain ⟨sl',X2,own',e2,r2,st2,_⟩:=hr1.push (b:=1) s1 (by omega) (by omega)
  rw [show u8s bs++[.int .u8 ((UInt8.ofNat (x % 256)).toNat)]=u8s (bs++[UInt8.ofNat (x % 256)]) from by simp [u8s]] at r2
  obtain ⟨X3,e3,w3,st3⟩:=h1.put r2 st2
  have hx2 : x / 256 < 18446744073709551616:=by omega
  obtain ⟨H',own2,e4,w4,st4⟩:=ZyC hN t (k+1) (x / 256) (bs++[UInt8.ofNat (x % 256)]) own' X3 (by omega) (by omega) hx2 (by rw [List.length_append,List.length_singleton];omega) w3
  have c1 : cvi .u8 (.int .u64 x) H=some (.int .u8 ((UInt8.ofNat (x % 256)).toNat),H):=by rw [Qx,wu8,Zqm]
  have c2 : ∀ Y,bop .int .shr (.int .u64 x) (.int .u64 8) Y=some (.int .u64 ((x / 256 : Nat) : Int),Y):=fun Y=>by
   rw [ZCB,if_neg (by decide)]
   congr 3
   rw [show (2 : Int) ^ min (8 : Int).toNat IntKind.u64.bits=256 from rfl]
   rw [Int.fdiv_eq_ediv_of_nonneg _ (by decide)]
   omega
  have c3 : ld1 (pt p) H=some (sl,H):=Zjq hc
  refine ⟨H',own2,(ZA ?_).trans e4,?_,(k1.step.more (by simp) (fun j hj=>.inl hj)).trans (st3.trans st4)⟩
  ·rw [ZI]
   unfold Yr.l1
   rw [Za Zl,Zb,if_pos (by simpa using hlt),Za Zs,Za Zh,Za c3,Za c1,Za e1,Za e2,Za Zs,Za Zh,Za e3,Za (c2 _),Za ZC,Qd (by omega)]
   rfl
  ·rw [List.append_assoc] at w4
   exact w4
theorem Zx1 {N x : Nat} (hN : N≤1000) (hx : x < 18446744073709551616) (hb : bs.length+N≤1000000000000) (h : Wtr H p bs own) : ∃ H' own',R (n+1) KK [pt p,.int .u64 x,iv N] H=some (pt p,H')∧Wtr H' p (bs++le x N) own'∧Zz (p :: own) H (p :: own') H':=by
 obtain ⟨H',own',e,w,s⟩:=ZyC (n:=n) hN N 0 x bs own H (by omega) (by omega) hx hb h
 have e : Zi (c4 (Yr.l1 (R n))) [pt p,.int .u64 x,iv N,.int .i64 0] H=_:=e
 refine ⟨H',own',?_,w,s⟩
 rw [R,ZlV rfl]
 unfold Yr
 rw [ZY e,ZG]
 rfl
theorem Zwg {x : Nat} (hx : x < 256) (hb : bs.length≤100000000000) (h : Wtr H p bs own) : ∃ H' own',R (n+2) JK [pt p,.int .u8 x] H=some (pt p,H')∧Wtr H' p (bs++le x 1) own'∧Zz (p :: own) H (p :: own') H':=by
 obtain ⟨H',own',e,w,s⟩:=Zx1 (n:=n) (N:=1) (x:=x) (by omega) (by omega) (by omega) h
 have e : R (n+1) KK [pt p,.int .u64 x,.int .i64 1] H=_:=e
 have c1 : cvi .u64 (.int .u8 x) H=some (.int .u64 x,H):=by rw [Qx,ZkQ,Int.emod_eq_of_lt (by omega) (by omega)]
 refine ⟨H',own',?_,w,s⟩
 rw [R,ZkB rfl]
 unfold ZdB
 rw [Za c1,Za e]
 rfl
theorem Zs8 {x : Nat} (hx : x < 65536) (hb : bs.length≤100000000000) (h : Wtr H p bs own) : ∃ H' own',R (n+2) Yw [pt p,.int .u16 x] H=some (pt p,H')∧Wtr H' p (bs++le x 2) own'∧Zz (p :: own) H (p :: own') H':=by
 obtain ⟨H',own',e,w,s⟩:=Zx1 (n:=n) (N:=2) (x:=x) (by omega) (by omega) (by omega) h
 have e : R (n+1) KK [pt p,.int .u64 x,.int .i64 2] H=_:=e
 have c1 : cvi .u64 (.int .u16 x) H=some (.int .u64 x,H):=by rw [Qx,ZkQ,Int.emod_eq_of_lt (by omega) (by omega)]
 refine ⟨H',own',?_,w,s⟩
 rw [R,Zla rfl]
 unfold Zec
 rw [Za c1,Za e]
 rfl
theorem ZwN (n : Int) : IntKind.u16.wrap n=n % 65536:=by simp [IntKind.wrap,IntKind.bits,IntKind.signed]
theorem ZCd : QB 1 H (strv s)=some (u8s s):=by
 unfold strv QB
 rfl
theorem Zzm : A.flen (strv s)=(u8s s).length:=by
 rw [Q8]
 unfold strv A.flen
 exact ZqM
theorem Zmz (hs : s.length≤65535) (hb : bs.length≤1000000000) (h : Wtr H p bs own) : ∃ H' own',R (n+3) JN [pt p,strv s] H=some (pt p,H')∧Wtr H' p (bs++txt s) own'∧Zz (p :: own) H (p :: own') H':=by
 obtain ⟨H1,q1,e1,w1,s1⟩:=Zs8 (n:=n) (x:=s.length) (by omega) (by omega) h
 obtain ⟨sl,hc,hr⟩:=w1.o
 have hl2 : (u8s (bs++le s.length 2)).length=bs.length+2:=by rw [Q8,List.length_append,WO]
 have hl3 : (u8s s).length=s.length:=Q8 s
 obtain ⟨sl',H2,q2,e2,r2,s2⟩:=hr.addN (b:=1) (x:=strv s) ZCd Zzm (by omega) (by omega)
 rw [← ZBk,List.append_assoc] at r2
 obtain ⟨H3,e3,w3,s3⟩:=w1.put r2 s2
 have c0 : mxi false (iv s.length) (.int .i64 65535) H=some (iv s.length,H):=by rw [YG,if_neg (by omega)]
 have c1 : sls (strv s) none (some (iv s.length)) H=some (strv s,H):=by
  have:=ZsJ (s:=s) (k:=s.length) (H:=H) (Nat.le_refl _)
  rwa [List.take_length] at this
 have c2 : cvi .u16 (iv s.length) H=some (.int .u16 s.length,H):=by rw [Qx,ZwN,Int.emod_eq_of_lt (by omega) (by omega)]
 have c3 : ld1 (pt p) H1=some (sl,H1):=Zjq hc
 refine ⟨H3,q2,?_,w3,s1.trans s3⟩
 rw [R,Zkt rfl]
 unfold ZdH
 rw [Za ZN,Za c0,Za c1,Za ZN,Za c2,Za e1,Za Zs,Za Zh,Za c3,Za e2,Za Zs,Za Zh,Za e3]
 rfl
theorem Zwq {b : Value} {bs : List UInt8} (hb : Sl H b (u8s bs)) (hp : bs.length≤140737488355328) :
  ∃ v q H',R (n+1) Zdi [b] H=some (v,H')∧Zx H' v (u8s bs) q∧HLe H H'∧∀ j∈q,H.length≤j:=by
 rw [R,ZqO rfl]
 rcases hb.isnil (H':=H) with ⟨rfl,hp0,e⟩ | e
 ·refine ⟨.slice none 0 0,[],H,?_,by rw [hp0];exact Zx.nil,.refl _,by simp⟩
  unfold ZeQ
  rw [Za e]
  rfl
 ·have hb2 : Sl (H++[.cells [] 1 false false]) b (u8s bs):=hb.mono (.app _ _)
  obtain ⟨sl',H',own',e2,hr,hle,ho⟩:=Zum (b:=1) hb2 (by rw [Q8];omega) (by rw [Q8];omega) (s:=.slice (some ⟨H.length,0,none⟩) 0 0) (.inr ⟨H.length,false,rfl,ZB,rfl⟩)
  refine ⟨sl',own',H',?_,hr,(HLe.app _ _).trans hle,fun j hj=>?_⟩
  ·unfold ZeQ
   rw [Za e,Zb,if_neg (by simp),Za ZzH,Za e2]
   rfl
  ·rcases ho j hj with h | ⟨_,h⟩
   ·simp at h;omega
   ·cases h;exact Nat.le_refl _
theorem Zzl (hb : bs.length≤1000000000) (h : Wtr H p bs own) : ∃ v q H',R (n+2) KR [pt p] H=some (v,H')∧Zx H' v (u8s bs) q∧HLe H H'∧∀ j∈q,H.length≤j:=by
 obtain ⟨sl,hc,hr⟩:=h.o
 obtain ⟨v,q,H',e,r,l,o⟩:=Zwq (n:=n) hr.rd (by omega)
 refine ⟨v,q,H',?_,r,l,o⟩
 rw [R,Zi8 rfl]
 unfold Zc8
 rw [Za Zs,Za Zh,Za (Zjq hc),Za e]
 rfl
theorem ZBm : bld (.agg #[.slice none 0 0]) [] H=some (.agg #[.slice none 0 0],H)∧alc 1 (.agg #[.slice none 0 0]) H=some (pt H.length,H++[.cells [.slice none 0 0] 1 false false])∧Wtr (H++[.cells [.slice none 0 0] 1 false false]) H.length [] []:=
 ⟨rfl,rfl,⟨⟨.slice none 0 0,ZB,Zx.nil⟩,by simp⟩⟩
end
end Go.Proofs.YtedkoimihknggaaGreatDoor.A
namespace Go.Proofs.YtedkoimihknggaaGreatDoor.A
set_option linter.unusedVariables false
set_option linter.unusedSimpArgs false
open Go.Proofs Go.Proofs.YtedkoimihknggaaGreatDoor
abbrev RSt:=Nat × List UInt8
def leN : List UInt8→Nat
 | []=>0
 | b :: l=>b.toNat+256 * leN l
def Za3 (e : Nat) (s : RSt) : RSt:=if s.1=0∧e≠0 then (e,[]) else s
def tkS (n : Nat) (s : RSt) : List UInt8 × RSt:=if n≤s.2.length then (s.2.take n,(s.1,s.2.drop n)) else ([],Za3 2 s)
def J2 (k : Nat) (s : RSt) : Nat × RSt:=(leN (tkS k s).1,(tkS k s).2)
def JB (most : Nat) (s : RSt) : Nat × RSt:=if (J2 2 s).1 > most then (0,Za3 3 (J2 2 s).2) else J2 2 s
def WF (most : Nat) (s : RSt) : List UInt8 × RSt:=tkS (JB most s).1 (JB most s).2
def RB (H : Zd) (sl : Value) (bs : List UInt8) : Prop:=
 (bs=[]∧(sl=.slice none 0 0∨∃ id o j,sl=.slice (some ⟨id,o,some j⟩) 0 0))∨
 ∃ id o c cs g ro,sl=.slice (some ⟨id,o,none⟩) bs.length c∧bs.length≤c∧H[id]?=some (.cells cs 1 g ro)∧o+bs.length≤cs.length∧(cs.drop o).take bs.length=u8s bs
def Rdr (H : Zd) (p : Nat) (s : RSt) : Prop:=
 ∃ sl,H[p]?=some (.cells [sl,iv s.1] 1 false false)∧RB H sl s.2∧(∀ j,own1 sl=some j→j < p)∧(s.1≠0→s.2=[])
theorem Zt2 : ∀ (l : List UInt8),leN l < 256 ^ l.length
 | []=>by decide
 | b :: l=>by
  have h1:=Zt2 l
  have h2 : b.toNat < 256:=b.toNat_lt
  rw [List.length_cons,Nat.pow_succ]
  unfold leN
  omega
theorem ZoC : ∀ (l : List UInt8) (b : UInt8),leN (l++[b])=leN l+b.toNat * 2 ^ (8 * l.length)
 | [],b=>by simp [leN]
 | a :: l,b=>by
  rw [List.cons_append]
  unfold leN
  rw [ZoC l b,List.length_cons,Nat.mul_add,show 8 * (l.length+1)=8 * l.length+8 by omega,Nat.pow_add]
  have : 256 * (b.toNat * 2 ^ (8 * l.length))=b.toNat * (2 ^ (8 * l.length) * 2 ^ 8):=by
   rw [← Nat.mul_assoc,Nat.mul_comm 256,Nat.mul_assoc,Nat.mul_comm 256]
  omega
section
variable {H X : Zd} {n p : Nat} {sl x v : Value} {vs ws : List Value} {own : List Nat} {bs : List UInt8} {s : RSt}
theorem RB.rd (h : RB H sl bs) : Sl H sl (u8s bs):=by
 rcases h with ⟨rfl,rfl | ⟨id,o,j,rfl⟩⟩ | ⟨id,o,c,cs,g,ro,rfl,h1,h2,h3,h4⟩
 ·exact Sl.nil
 ·exact ⟨_,_,rfl,(fun e=>by cases e),rfl⟩
 ·refine ⟨_,c,by rw [Q8],(fun e=>by cases e),?_⟩
  unfold QB
  simp only [h2,Nat.mul_one]
  rw [if_pos h3,h4]
theorem RB.one (h : RB H sl bs) : oneCell sl=true:=by
 rcases h with ⟨rfl,rfl | ⟨id,o,j,rfl⟩⟩ | ⟨id,o,c,cs,g,ro,rfl,_⟩ <;> rfl
theorem RB.keep (h : RB H sl bs) (hk : ∀ j,own1 sl=some j→X[j]?=H[j]?) : RB X sl bs:=by
 rcases h with h | ⟨id,o,c,cs,g,ro,rfl,h1,h2,h3,h4⟩
 ·exact .inl h
 ·exact .inr ⟨id,o,c,cs,g,ro,rfl,h1,by rw [hk id rfl];exact h2,h3,h4⟩
theorem Zx.rb {q : List Nat} (h : Zx H sl (u8s bs) q) : RB H sl bs:=by
 rcases h with ⟨h1,rfl,rfl⟩ | ⟨sid,rest,g,rfl,rfl,hid⟩
 ·refine .inl ⟨?_,.inl rfl⟩
  cases bs with
  | nil=>rfl
  | cons b l=>simp [u8s] at h1
 ·refine .inr ⟨sid,0,_,_,g,false,by rw [Q8],by first | omega | (rw [Q8];omega),hid,?_,?_⟩
  ·rw [List.length_append,Q8];omega
  ·rw [List.drop_zero,← Q8 bs,List.take_left]
theorem RB.cut (h : RB H sl bs) {k : Nat} (hk : k≤bs.length) : ∃ a b,slv 1 sl none (some (iv k)) none H=some (a,H)∧slv 1 sl (some (iv k)) none none H=some (b,H)∧RB H a (bs.take k)∧RB H b (bs.drop k)∧(∀ j,own1 a=some j→own1 sl=some j)∧(∀ j,own1 b=some j→own1 sl=some j):=by
 have b1 : ∀ d,bnd (some (iv k)) d=some k:=fun d=>by simp [bnd]
 have b2 : ∀ d,bnd none d=some d:=fun _=>rfl
 rcases h with ⟨rfl,h⟩ | ⟨id,o,c,cs,g,ro,rfl,h1,h2,h3,h4⟩
 ·have hk0 : k=0:=by simpa using hk
  subst hk0
  rcases h with rfl | ⟨id,o,j,rfl⟩
  ·exact ⟨_,_,rfl,rfl,.inl ⟨rfl,.inl rfl⟩,.inl ⟨rfl,.inl rfl⟩,fun _ h=>h,fun _ h=>h⟩
  ·exact ⟨_,_,rfl,rfl,.inl ⟨rfl,.inr ⟨_,_,_,rfl⟩⟩,.inl ⟨rfl,.inr ⟨_,_,_,rfl⟩⟩,fun _ h=>h,fun _ h=>h⟩
 ·have hA : ∃ a,slv 1 (.slice (some ⟨id,o,none⟩) bs.length c) none (some (iv k)) none H=some (a,H)∧RB H a (bs.take k)∧(∀ j,own1 a=some j→some id=some j):=by
   by_cases h0 : c=0
   ·have hb : bs=[]:=List.eq_nil_of_length_eq_zero (by omega)
    subst hb
    refine ⟨.slice (some ⟨id,o,some (bif g then 1 else 0)⟩) 0 0,?_,.inl ⟨List.take_nil,.inr ⟨_,_,_,rfl⟩⟩,fun j h=>by cases h⟩
    have hk0 : k=0:=by simpa using hk
    subst hk0
    simp only [slv,h2,b1,b2]
    rw [if_pos ⟨trivial,by omega,by omega,Nat.le_refl _⟩,if_pos (by omega)]
   ·have hl : (bs.take k).length=k:=by simp;omega
    refine ⟨.slice (some ⟨id,o,none⟩) k c,?_,.inr ⟨id,o,c,cs,g,ro,by rw [hl],by omega,h2,by omega,?_⟩,fun j h=>h⟩
    ·simp only [slv,h2,b1,b2]
     rw [if_pos ⟨trivial,by omega,by omega,Nat.le_refl _⟩,if_neg (by omega)]
     simp
    ·have:=congrArg (List.take k) h4
     rw [List.take_take,Nat.min_eq_left hk] at this
     rw [hl,this]
     simp [u8s,List.map_take]
  have hB : ∃ b,slv 1 (.slice (some ⟨id,o,none⟩) bs.length c) (some (iv k)) none none H=some (b,H)∧RB H b (bs.drop k)∧(∀ j,own1 b=some j→some id=some j):=by
   by_cases h0 : c=k
   ·have hb : bs.drop k=[]:=List.drop_eq_nil_of_le (by omega)
    refine ⟨.slice (some ⟨id,o,some (bif g then 1 else 0)⟩) 0 0,?_,.inl ⟨hb,.inr ⟨_,_,_,rfl⟩⟩,fun j h=>by cases h⟩
    simp only [slv,h2,b1,b2]
    rw [if_pos ⟨trivial,by omega,by omega,Nat.le_refl _⟩,if_pos (by omega)]
   ·have hl : (bs.drop k).length=bs.length - k:=by simp
    refine ⟨.slice (some ⟨id,o+k,none⟩) (bs.length - k) (c - k),?_,.inr ⟨id,o+k,c - k,cs,g,ro,by rw [hl],by omega,h2,by omega,?_⟩,fun j h=>h⟩
    ·simp only [slv,h2,b1,b2]
     rw [if_pos ⟨trivial,by omega,by omega,Nat.le_refl _⟩,if_neg (by omega)]
     simp
    ·have:=congrArg (List.drop k) h4
     rw [List.drop_take,List.drop_drop] at this
     rw [hl,this]
     simp [u8s,List.map_drop]
  obtain ⟨a,a1,a2,a3⟩:=hA
  obtain ⟨b,c1,c2,c3⟩:=hB
  exact ⟨a,b,a1,c1,a2,c2,a3,c3⟩
theorem Rdr.lt (h : Rdr H p s) : p < H.length:=by
 obtain ⟨sl,hc,_⟩:=h
 exact Qz hc
theorem Rdr.other {a : Nat} {o : Ze} (h : Rdr H p s) (ha : p < a) : Rdr (H.set a o) p s:=by
 obtain ⟨sl,h1,h2,h3,h4⟩:=h
 exact ⟨sl,(List.getElem?_set_ne (by omega)).trans h1,h2.keep fun j hj=>List.getElem?_set_ne (by have:=h3 j hj;omega),h3,h4⟩
theorem Rdr.hle (h : Rdr H p s) (hl : HLe H X) : Rdr X p s:=by
 obtain ⟨sl,hc,hr,hn,h0⟩:=h
 refine ⟨sl,hl _ _ hc,hr.keep fun j hj=>?_,hn,h0⟩
 rcases hr with ⟨_,rfl | ⟨id,o,k,rfl⟩⟩ | ⟨id,o,c,cs,g,ro,rfl,h1,h2,h3,h4⟩
 ·cases hj
 ·cases hj
 ·cases hj
  rw [h2,hl _ _ h2]
theorem Rdr.put {s' : RSt} {sl' : Value} (hc : H[p]?=some (.cells [x,v] 1 false false)) (hr : RB H sl' s'.2) (hn : ∀ j,own1 sl'=some j→j < p) (h0 : s'.1≠0→s'.2=[]) : Rdr (H.set p (.cells [sl',iv s'.1] 1 false false)) p s'∧Zz [p] H [p] (H.set p (.cells [sl',iv s'.1] 1 false false)):=
 ⟨⟨sl',ZP hc,hr.keep fun j hj=>List.getElem?_set_ne (fun e=>by have:=hn j hj;omega),hn,h0⟩,⟨by simp,fun j hj hm=>List.getElem?_set_ne (fun e=>hm (by simp [e])),fun j hj=>.inl hj⟩⟩
theorem ZkW {e : Nat} (he : e≤1000) (h : Rdr H p s) : ∃ H',R (n+1) Z5 [pt p,iv e] H=some (.tuple #[],H')∧Rdr H' p (Za3 e s)∧Zz [p] H [p] H':=by
 obtain ⟨sl,hc,hr,hn,h0⟩:=h
 have a1 : ld1 (pa p 1) H=some (iv s.1,H):=Zv hc rfl
 have f1 : ∀ H',Wk (R n) (pt p) (iv e) H=some (.tuple #[],H')→R (n+1) Z5 [pt p,iv e] H=some (.tuple #[],H'):=fun H' hr=>by rw [R,Zkr rfl];exact hr
 unfold Za3
 by_cases hs : s.1=0
 ·have q1 : bop .int .eql (iv s.1) (.int .i64 0) H=some (.bool true,H):=by rw [ZD,hs];rfl
  by_cases he0 : e=0
  ·have q2 : bop .int .neq (iv e) (.int .i64 0) H=some (.bool false,H):=by rw [Zq,he0];rfl
   rw [if_neg (by simp [he0])]
   refine ⟨H,f1 _ ?_,⟨sl,hc,hr,hn,h0⟩,.refl _ _⟩
   unfold Wk
   rw [Za Zs,Za Zh,Za a1,Za q1,Z4,Zo,Za q2,Z6,Qe,Za Zm]
   simp only [cond_true]
   refine (ZR (vs:=[]) (H':=H) ?_).trans ?_
   ·rw [Zb,if_neg (by simp)];rfl
   ·rfl
  ·have q2 : bop .int .neq (iv e) (.int .i64 0) H=some (.bool true,H):=by rw [Zq];simp [he0]
   rw [if_pos ⟨hs,he0⟩]
   have w1 : st1 (pa p 0) (.slice none 0 0) H=some (undef,H.set p (.cells [.slice none 0 0,iv s.1] 1 false false)):=Kv (o:=0) hc (by simp) rfl
   have c1 : (H.set p (.cells [.slice none 0 0,iv s.1] 1 false false))[p]?=some (.cells [.slice none 0 0,iv s.1] 1 false false):=ZP hc
   have w2 : st1 (pa p 1) (iv e) (H.set p (.cells [.slice none 0 0,iv s.1] 1 false false))=some (undef,(H.set p (.cells [.slice none 0 0,iv s.1] 1 false false)).set p (.cells [.slice none 0 0,iv e] 1 false false)):=Kv (o:=1) c1 (by simp) rfl
   rw [List.set_set] at w2
   have hp:=Rdr.put (s':=(e,[])) (sl':=.slice none 0 0) hc (.inl ⟨rfl,.inl rfl⟩) (by simp [own1]) (fun _=>rfl)
   refine ⟨_,f1 _ ?_,hp.1,hp.2⟩
   unfold Wk
   rw [Za Zs,Za Zh,Za a1,Za q1,Z4,Zo,Za q2,Z6,Qe,Za Zm]
   simp only [cond_true]
   refine (ZR (vs:=[]) (H':=H.set p (.cells [.slice none 0 0,iv e] 1 false false)) ?_).trans ?_
   ·rw [Zb,if_pos (by simp),Za Zs,Za Zh,Za w1,Za Zs,Za Zh,Za w2];rfl
   ·rfl
 ·have q1 : bop .int .eql (iv s.1) (.int .i64 0) H=some (.bool false,H):=by rw [ZD];simp [hs]
  rw [if_neg (by simp [hs])]
  refine ⟨H,f1 _ ?_,⟨sl,hc,hr,hn,h0⟩,.refl _ _⟩
  unfold Wk
  rw [Za Zs,Za Zh,Za a1,Za q1,Za (g_r.trans (if_neg (by simp)))]
  simp only [List.replicate]
  rw [Qe,Za Zm]
  simp only [cond_false]
  refine (ZR (vs:=[]) (H':=H) ?_).trans ?_
  ·rw [Zb,if_neg (by simp)];rfl
  ·rfl
theorem ZyP {k : Nat} (hk : k≤1000000000) (h : Rdr H p s) : ∃ v H',R (n+2) Ki [pt p,iv k] H=some (v,H')∧RB H' v (tkS k s).1∧Rdr H' p (tkS k s).2∧Zz [p] H [p] H':=by
 have h':=h
 obtain ⟨sl,hc,hr,hn,h0⟩:=h
 have a1 : ld1 (pa p 0) H=some (sl,H):=Zv hc rfl
 have hl : Zw sl H=some (iv s.2.length,H):=by have:=hr.rd.len (H':=H);rwa [Q8] at this
 have f1 : ∀ r H',Zab (R (n+1)) (pt p) (iv k) H=some (r,H')→R (n+2) Ki [pt p,iv k] H=some (r,H'):=fun r H' hr=>by rw [R,Zkv rfl];exact hr
 unfold tkS
 by_cases hle : k≤s.2.length
 ·rw [if_pos hle]
  obtain ⟨a,b,e1,e2,ra,rb,oa,ob⟩:=hr.cut hle
  have q1 : bop .int .gtr (iv k) (iv s.2.length) H=some (.bool false,H):=by rw [Qg,decide_eq_false (by omega)]
  have w1 : st1 (pa p 0) b H=some (undef,H.set p (.cells [b,iv s.1] 1 false false)):=Kv (o:=0) hc (by simp) rb.one
  have hp:=Rdr.put (s':=(s.1,s.2.drop k)) (sl':=b) hc rb (fun j e=>hn j (ob _ e)) (fun h=>by simp [h0 h])
  refine ⟨a,_,f1 _ _ ?_,ra.keep fun j hj=>List.getElem?_set_ne (fun e=>by have:=hn j (oa _ hj);omega),hp.1,hp.2⟩
  unfold Zab
  rw [Za Zs,Za Zh,Za a1,Za hl,Za q1,Zb,if_neg (by simp),Za Zs,Za Zh,Za a1,Za e1,Za Zs,Za Zh,Za a1,Za e2,Za Zs,Za Zh,Za w1]
  rfl
 ·rw [if_neg hle]
  have q1 : bop .int .gtr (iv k) (iv s.2.length) H=some (.bool true,H):=by rw [Qg,decide_eq_true (by omega)]
  obtain ⟨H',e2,r2,s2⟩:=ZkW (n:=n) (e:=2) (by omega) h'
  have e2 : R (n+1) Z5 [pt p,.int .i64 2] H=_:=e2
  refine ⟨.slice none 0 0,H',f1 _ _ ?_,.inl ⟨rfl,.inl rfl⟩,r2,s2⟩
  unfold Zab
  rw [Za Zs,Za Zh,Za a1,Za hl,Za q1,Zb,if_pos rfl,Za e2]
  rfl
theorem Zwb {bs : List UInt8} (hb : bs.length≤8) (hs : Sl X v (u8s bs)) : ∀ (t k : Nat),bs.length - k=t→k≤bs.length→
  Zi (c4 (Yt.l1 (R n))) [.int .u64 (leN (bs.take k)),v,iv bs.length,iv k] X=some (.ext 0 [.int .u64 (leN bs)],X)
 | 0,k,ht,hk=>by
  have : k=bs.length:=by omega
  subst this
  refine ZL ?_
  rw [ZI,List.take_length]
  unfold Yt.l1
  rw [Za Zl,Zb,if_neg (by simp)]
  rfl
 | t+1,k,ht,hk=>by
  have hkl : k < bs.length:=by omega
  have hlt : (k : Int) < bs.length:=by omega
  have hg:=List.getElem?_eq_getElem hkl
  have htk : bs.take (k+1)=bs.take k++[bs[k]]:=(List.take_append_getElem hkl).symm
  generalize bs[k]=b at hg htk
  have hkk : (u8s bs)[k]?=some (.int .u8 b.toNat):=by simp [u8s,hg]
  have x1:=hs.ix (i:=k) (by rw [Q8];exact hkl) .i64 X
  have x2:=hs.ldx hkk
  have hb2 : b.toNat < 256:=b.toNat_lt
  have hlen : (bs.take k).length=k:=by simp;omega
  have hpow : 2 ^ (8 * k)≤2 ^ 56:=Nat.pow_le_pow_right (by decide) (by omega)
  have hlt2 : leN (bs.take k) < 2 ^ (8 * k):=by
   have:=Zt2 (bs.take k)
   rw [hlen] at this
   rwa [Nat.pow_mul]
  have hprod : b.toNat * 2 ^ (8 * k)≤255 * 2 ^ 56:=Nat.mul_le_mul (by omega) hpow
  have c1 : cvi .u64 (.int .u8 b.toNat) X=some (.int .u64 b.toNat,X):=by rw [Qx,ZkQ,Int.emod_eq_of_lt (by omega) (by omega)]
  have c2 : bop .int .mul (.int .i64 8) (iv k) X=some (iv ((8 * k : Nat) : Int),X):=by rw [JY,w64 (by omega) (by omega)];simp
  have c3 : bop .int .shl (.int .u64 b.toNat) (iv ((8 * k : Nat) : Int)) X=some (.int .u64 ((b.toNat * 2 ^ (8 * k) : Nat) : Int),X):=by
   rw [ZCN,if_neg (by omega)]
   have hm : min ((8 * k : Nat) : Int).toNat IntKind.u64.bits=8 * k:=by
    rw [Int.toNat_natCast]
    show min (8 * k) 64=8 * k
    omega
   have hc : (b.toNat : Int) * 2 ^ (8 * k)=((b.toNat * 2 ^ (8 * k) : Nat) : Int):=by push_cast;rfl
   rw [hm,hc,ZkQ,Int.emod_eq_of_lt (by omega) (by omega)]
  have c4' : bop .int .or (.int .u64 (leN (bs.take k))) (.int .u64 ((b.toNat * 2 ^ (8 * k) : Nat) : Int)) X=some (.int .u64 (leN (bs.take (k+1))),X):=by
   rw [ZCR]
   have ho : ((BitVec.ofInt IntKind.u64.bits (leN (bs.take k) : Int) ||| BitVec.ofInt IntKind.u64.bits ((b.toNat * 2 ^ (8 * k) : Nat) : Int)).toNat)=leN (bs.take (k+1)):=by
    rw [BitVec.toNat_or,BitVec.ofInt_natCast,BitVec.ofInt_natCast,BitVec.toNat_ofNat,BitVec.toNat_ofNat]
    show leN (bs.take k) % 2 ^ 64 ||| (b.toNat * 2 ^ (8 * k)) % 2 ^ 64=_
    rw [Nat.mod_eq_of_lt (by omega),Nat.mod_eq_of_lt (by omega),htk,ZoC,hlen,Nat.or_comm,← Nat.shiftLeft_eq,← Nat.shiftLeft_add_eq_or_of_lt hlt2,Nat.add_comm]
   rw [ho]
   have : leN (bs.take (k+1)) < 2 ^ 64:=by
    rw [htk,ZoC,hlen];omega
   rw [ZkQ,Int.emod_eq_of_lt (by omega) (by omega)]
  refine (ZA ?_).trans (Zwb hb hs t (k+1) (by omega) (by omega))
  rw [ZI]
  unfold Yt.l1
  rw [Za Zl,Zb,if_pos (by simpa using hlt),Za x1,Za x2,Za c1,Za c2,Za c3,Za c4',Za ZC,Qd (by omega)]
  rfl
theorem ZvL {k : Nat} : (tkS k s).1.length≤k:=by
 unfold tkS
 split
 ·simp;omega
 ·exact Nat.zero_le _
theorem Zy5 {k : Nat} (hk : k≤8) (h : Rdr H p s) : ∃ H',R (n+3) KN [pt p,iv k] H=some (.int .u64 (J2 k s).1,H')∧Rdr H' p (J2 k s).2∧Zz [p] H [p] H':=by
 obtain ⟨v,H',e1,rb,r1,s1⟩:=ZyP (n:=n) (k:=k) (by omega) h
 have hl:=ZvL (k:=k) (s:=s)
 have e2 : Zw v H'=some (iv (tkS k s).1.length,H'):=by have:=rb.rd.len (H':=H');rwa [Q8] at this
 have e3:=Zwb (n:=n+2) (bs:=(tkS k s).1) (by omega) rb.rd (tkS k s).1.length 0 (by omega) (by omega)
 have e3 : Zi (c4 (Yt.l1 (R (n+2)))) [.int .u64 0,v,iv (tkS k s).1.length,.int .i64 0] H'=_:=e3
 refine ⟨H',?_,r1,s1⟩
 rw [R,Zlk rfl]
 unfold Yt
 rw [Za e1,Za e2,ZY e3,ZG]
 rfl
theorem Ziw {k : Nat} : (J2 k s).1 < 256 ^ k:=
 Nat.lt_of_lt_of_le (Zt2 _) (Nat.pow_le_pow_right (by decide) ZvL)
theorem ZxI (h : Rdr H p s) : ∃ H',R (n+4) Kj [pt p] H=some (.int .u8 (J2 1 s).1,H')∧Rdr H' p (J2 1 s).2∧Zz [p] H [p] H':=by
 obtain ⟨H',e,r,st⟩:=Zy5 (n:=n) (k:=1) (by omega) h
 have e : R (n+3) KN [pt p,.int .i64 1] H=_:=e
 have hl:=Ziw (s:=s) (k:=1)
 have c1 : cvi .u8 (.int .u64 (J2 1 s).1) H'=some (.int .u8 (J2 1 s).1,H'):=by rw [Qx,wu8,Int.emod_eq_of_lt (by omega) (by omega)]
 refine ⟨H',?_,r,st⟩
 rw [R,Zkl rfl]
 unfold ZdC
 rw [Za e,Za c1]
 rfl
theorem ZAo (h : Rdr H p s) : ∃ H',R (n+4) KM [pt p] H=some (.int .u16 (J2 2 s).1,H')∧Rdr H' p (J2 2 s).2∧Zz [p] H [p] H':=by
 obtain ⟨H',e,r,st⟩:=Zy5 (n:=n) (k:=2) (by omega) h
 have e : R (n+3) KN [pt p,.int .i64 2] H=_:=e
 have hl:=Ziw (s:=s) (k:=2)
 have c1 : cvi .u16 (.int .u64 (J2 2 s).1) H'=some (.int .u16 (J2 2 s).1,H'):=by rw [Qx,ZwN,Int.emod_eq_of_lt (by omega) (by omega)]
 refine ⟨H',?_,r,st⟩
 rw [R,Zml rfl]
 unfold Zeh
 rw [Za e,Za c1]
 rfl
theorem Zub {most : Nat} (hm : most≤1000000) (h : Rdr H p s) : ∃ H',R (n+5) YZ [pt p,iv most] H=some (iv (JB most s).1,H')∧Rdr H' p (JB most s).2∧Zz [p] H [p] H':=by
 obtain ⟨H1,e1,r1,s1⟩:=ZAo (n:=n) h
 have hl:=Ziw (s:=s) (k:=2)
 have c1 : cvi .i64 (.int .u16 (J2 2 s).1) H1=some (iv (J2 2 s).1,H1):=by rw [Qx,w64 (by omega) (by omega)]
 have c2 : mxi true (.int .i64 0) (iv most) H1=some (iv most,H1):=by
  rw [Y8]
  by_cases h0 : (most : Int) > 0
  ·rw [if_pos h0]
  ·rw [if_neg h0,show (most : Int)=0 by omega]
 have f1 : ∀ r H',WP (R (n+4)) (pt p) (iv most) H=some (r,H')→R (n+5) YZ [pt p,iv most] H=some (r,H'):=fun r H' hr=>by rw [R,ZjR rfl];exact hr
 unfold JB
 by_cases hg : (J2 2 s).1 > most
 ·rw [if_pos hg]
  have q1 : bop .int .gtr (iv (J2 2 s).1) (iv most) H1=some (.bool true,H1):=by rw [Qg,decide_eq_true (by omega)]
  obtain ⟨H2,e2,r2,s2⟩:=ZkW (n:=n+3) (e:=3) (by omega) r1
  have e2 : R (n+4) Z5 [pt p,.int .i64 3] H1=_:=e2
  refine ⟨H2,f1 _ _ ?_,r2,s1.trans s2⟩
  unfold WP
  rw [Za e1,Za c1,Za c2,Za q1,Zb,if_pos rfl,Za e2]
  rfl
 ·rw [if_neg hg]
  have q1 : bop .int .gtr (iv (J2 2 s).1) (iv most) H1=some (.bool false,H1):=by rw [Qg,decide_eq_false (by omega)]
  refine ⟨H1,f1 _ _ ?_,r1,s1⟩
  unfold WP
  rw [Za e1,Za c1,Za c2,Za q1,Zb,if_neg (by simp)]
  rfl
theorem Zmr {most : Nat} : (JB most s).1 < 65536:=by
 have hl:=Ziw (s:=s) (k:=2)
 unfold JB
 split
 ·show 0 < 65536
  decide
 ·exact hl
theorem ZoQ {most : Nat} (hm : most≤1000000) (h : Rdr H p s) : ∃ H',R (n+6) JL [pt p,iv most] H=some (strv (WF most s).1,H')∧Rdr H' p (WF most s).2∧Zz [p] H [p] H':=by
 obtain ⟨H1,e1,r1,s1⟩:=Zub (n:=n) hm h
 have hl:=Zmr (s:=s) (most:=most)
 obtain ⟨v,H2,e2,rb,r2,s2⟩:=ZyP (n:=n+3) (k:=(JB most s).1) (by omega) r1
 have e2 : R (n+5) Ki [pt p,iv (JB most s).1] H1=_:=e2
 refine ⟨H2,?_,r2,s1.trans s2⟩
 rw [R,ZkF rfl]
 unfold ZdA
 rw [Za e1,Za e2,Za (ZmA rb.rd)]
 rfl
theorem ZsO (h : Rdr H p s) : R (n+1) QK [pt p] H=some (iv s.1,H):=by
 obtain ⟨sl,hc,hr,hn,h0⟩:=h
 have a1 : ld1 (pa p 1) H=some (iv s.1,H):=Zv hc rfl
 rw [R,Zli rfl]
 unfold Zef
 rw [Za Zs,Za Zh,Za a1]
 rfl
def Zhp (s : RSt) : Nat:=if s.1=0 then (if s.2=[] then 0 else 3) else s.1
theorem ZCC (h : Rdr H p s) : R (n+1) KI [pt p] H=some (iv (Zhp s),H):=by
 obtain ⟨sl,hc,hr,hn,h0⟩:=h
 have a0 : ld1 (pa p 0) H=some (sl,H):=Zv hc rfl
 have a1 : ld1 (pa p 1) H=some (iv s.1,H):=Zv hc rfl
 have hl : Zw sl H=some (iv s.2.length,H):=by have:=hr.rd.len (H':=H);rwa [Q8] at this
 unfold Zhp
 rw [R,Zlc rfl]
 unfold Zeg
 by_cases hs : s.1=0
 ·have q1 : bop .int .eql (iv s.1) (.int .i64 0) H=some (.bool true,H):=by rw [ZD,hs];rfl
  rw [if_pos hs,Za Zs,Za Zh,Za a1,Za q1,Z4,Zo,Za Zs,Zo,Za Zh,Zo,Za a0,Zo,Za hl,Zo,Za Qg,Z6,Js,Za Zm]
  simp only [cond_true]
  rw [Zb]
  by_cases he : s.2=[]
  ·rw [if_neg (by simp [he]),if_pos he,Za Zs,Za Zh,Za a1,hs]
   rfl
  ·have : 0 < s.2.length:=List.length_pos_iff.2 he
   rw [if_pos (by simp;omega),if_neg he]
   rfl
 ·have q1 : bop .int .eql (iv s.1) (.int .i64 0) H=some (.bool false,H):=by rw [ZD];simp [hs]
  rw [if_neg hs,Za Zs,Za Zh,Za a1,Za q1,Za (g_r.trans (if_neg (by simp)))]
  simp only [List.replicate]
  rw [Js,Za Zm]
  simp only [cond_false]
  rw [Zb,if_neg (by simp),Za Zs,Za Zh,Za a1]
  rfl
theorem Zxa {b : Value} {bs : List UInt8} (hb : Sl H b (u8s bs)) (hp : bs.length≤140737488355328) : ∃ p H',R (n+2) Zet [b] H=some (pt p,H')∧Rdr H' p (0,bs)∧HLe H H'∧H.length≤p:=by
 obtain ⟨v,q,H1,e1,r1,l1,o1⟩:=Zwq (n:=n) hb hp
 have e2 : bld (.agg #[.slice none 0 0,.int .i64 0]) [(0,1,v)] H1=some (.agg #[v,iv 0],H1):=by
  rcases r1 with ⟨_,_,rfl⟩ | ⟨_,_,_,rfl,_,_⟩ <;> rfl
 have e3 : alc 1 (.agg #[v,iv 0]) H1=some (pt H1.length,H1++[.cells [v,iv 0] 1 false false]):=Kz (vs:=[v,iv 0]) (by rw [List.all_cons,r1.one.1];rfl)
 have hl:=l1.len
 refine ⟨H1.length,_,?_,⟨v,ZB,r1.rb.keep fun j hj=>?_,fun j e=>?_,fun h=>absurd rfl h⟩,l1.trans (.app _ _),hl⟩
 ·rw [R,Zvs rfl]
  unfold Zld
  rw [Za e1,Za e2,Za e3]
  rfl
 ·have:=r1.lt j (by rw [r1.own1 hj];simp)
  exact List.getElem?_append_left this
 ·exact r1.lt j (by rw [r1.own1 e];simp)
end
end Go.Proofs.YtedkoimihknggaaGreatDoor.A

namespace Go.Proofs.YtedkoimihknggaaGreatDoor.A
set_option linter.unusedVariables false
set_option linter.unusedSimpArgs false
open Go.Proofs Go.Proofs.YtedkoimihknggaaGreatDoor
def Zxl (e : Ent) : Zj:=⟨e.1,e.2,[],false,.slice none 0 0,[]⟩
theorem ZAN (e : Ent) (H : Zd) : (Zxl e).ok H:=.inl ⟨rfl,.inl rfl⟩
theorem ZvV {k : List UInt8} (h : WC k=true) : k.length≤12:=by
 unfold WC at h
 simp only [Bool.and_eq_true,decide_eq_true_eq] at h
 exact h.1.2
theorem YC {s : List UInt8} : (txt s).length=s.length+2:=by unfold txt;rw [List.length_append,WO];omega
section
variable {H X : Zd} {n p d b : Nat} {sl x v : Value} {own q : List Nat} {bs : List UInt8} {m : List Ent} {e : Ent}
theorem QY.users (hr : QY 5 H v (m.map usr) q) : Users H v (m.map Zxl):=
 ⟨by have h:=hr.rd;rw [List.map_map];exact h,fun u hu=>by obtain ⟨e,_,rfl⟩:=List.mem_map.1 hu;exact ZAN e H⟩
end
end Go.Proofs.YtedkoimihknggaaGreatDoor.A
namespace Go.Proofs.YtedkoimihknggaaGreatDoor.A
set_option linter.unusedVariables false
set_option linter.unusedSimpArgs false
open Go.Proofs Go.Proofs.YtedkoimihknggaaGreatDoor
def ofN (l : List Ent) : Nat:=(ofE (l.map Zxl)).toNat
theorem Zs5 (k : Nat) : ((k : Int)==0)=(k==0):=by rw [Bool.eq_iff_iff];simp
theorem Zmh (k : Nat) : ((k : Int) !=0)=(k !=0):=by rw [Bool.eq_iff_iff];simp
section
variable {H X : Zd} {n p d b : Nat} {sl x v : Value} {own q : List Nat} {bs : List UInt8} {m : List Ent} {e : Ent} {s : RSt}
theorem Rdr.step {o1 o2 : List Nat} (h : Rdr H p s) (hs : Zz o1 H o2 X) (hn : ∀ j∈o1,p < j) : Rdr X p s:=by
 obtain ⟨sl,h1,h2,h3,h4⟩:=h
 refine ⟨sl,hs.get h1 fun hm=>Nat.lt_irrefl _ (hn _ hm),h2.keep fun j hj=>hs.keep j ?_ fun hm=>?_,h3,h4⟩
 ·have:=h3 j hj;have:=Qz h1;omega
 ·have:=h3 j hj;have:=hn j hm;omega
end
end Go.Proofs.YtedkoimihknggaaGreatDoor.A
namespace Go.Proofs.YtedkoimihknggaaGreatDoor.A
set_option linter.unusedVariables false
set_option linter.unusedSimpArgs false
open Go.Proofs Go.Proofs.YtedkoimihknggaaGreatDoor
theorem ZxV : ∀ {k x : Nat},x < 256 ^ k→leN (le x k)=x
 | 0,x,h=>by
  have : x=0:=by simpa using h
  rw [this];rfl
 | k+1,x,h=>by
  unfold le leN
  have h2 : x / 256 < 256 ^ k:=by
   rw [Nat.pow_succ] at h
   exact Nat.div_lt_of_lt_mul (by rw [Nat.mul_comm];exact h)
  rw [ZxV h2,UInt8.toNat_ofNat']
  omega
theorem Zwo {a r : List UInt8} {k : Nat} (h : a.length=k) : tkS k (0,a++r)=(a,(0,r)):=by
 subst h
 unfold tkS
 simp only []
 rw [if_pos (by simp),List.take_left,List.drop_left]
theorem Zfv {k x : Nat} {r : List UInt8} (h : x < 256 ^ k) : J2 k (0,le x k++r)=(x,(0,r)):=by
 unfold J2
 rw [Zwo WO,ZxV h]
section
variable {H0 H X : Zd} {n p d b : Nat} {u w : Zj} {us ws : List Zj} {sl a c v : Value} {bs : List UInt8} {m : List Ent}
def Zv1 (bs : List UInt8) : Nat:=
 match bs with
 | []=>0
 | b :: _=>if b.toNat=1∨b.toNat=2 then b.toNat else 0
theorem ZAh (hs : Sl H sl (u8s bs)) (hb : bs.length≤100000000) : R (n+1) Zde [sl] H=some (iv (Zv1 bs),H):=by
 have hl : Zw sl H=some (iv bs.length,H):=by have:=hs.len (H':=H);rwa [Q8] at this
 rw [R,ZqB rfl]
 unfold Zhx
 cases bs with
 | nil=>
  rw [Za hl,Za Qg]
  have hz : decide ((([] : List UInt8).length : Int) > 0)=false:=rfl
  rw [hz,Za (g_r.trans (if_neg (by simp)))]
  simp only [List.replicate]
  rw [Qi,Za Y7]
  simp only [List.replicate]
  rw [ZI,Za (g_r.trans (if_neg (by simp)))]
  simp only [List.replicate]
  rw [Yq,Za Zm]
  simp only [cond_false]
  rw [Zb,if_neg (by simp)]
  rfl
 | cons x l=>
  have hz : decide (((x :: l).length : Int) > 0)=true:=by rw [decide_eq_true_eq,List.length_cons];omega
  have hk : (u8s (x :: l))[0]?=some (.int .u8 x.toNat):=rfl
  have x1:=hs.ix (i:=0) (by rw [Q8];simp) .i64 H
  have x1 : ixa 1 sl (.int .i64 0) H=some (ixp sl 0,H):=x1
  have x2:=hs.ldx hk
  have q1 : bop .int .eql (.int .u8 x.toNat) (.int .u8 1) H=some (.bool (decide (x.toNat=1)),H):=by
   rw [ZD,show ((x.toNat : Int)==1)=decide (x.toNat=1) from by rw [Bool.eq_iff_iff,decide_eq_true_eq,beq_iff_eq];omega]
  have q2 : bop .int .eql (.int .u8 x.toNat) (.int .u8 2) H=some (.bool (decide (x.toNat=2)),H):=by
   rw [ZD,show ((x.toNat : Int)==2)=decide (x.toNat=2) from by rw [Bool.eq_iff_iff,decide_eq_true_eq,beq_iff_eq];omega]
  have hx : x.toNat < 256:=x.toNat_lt
  have c3 : cvi .i64 (.int .u8 x.toNat) H=some (iv x.toNat,H):=by rw [Qx,w64 (by omega) (by omega)]
  rw [Za hl,Za Qg,hz,Z4,Zo,Za x1,Zo,Za x2,Zo,Za q1,Z6,Qi]
  unfold Zv1
  simp only []
  by_cases h1 : x.toNat=1
  ·rw [decide_eq_true h1,Za (g_r.trans (if_neg (by simp)))]
   simp only [List.replicate]
   rw [ZI,Z4,Zo,Za Zm,Z6,Yq,Za Zm]
   simp only [cond_true]
   rw [Zb,if_pos rfl,Za x1,Za x2,Za c3,if_pos (.inl h1)]
   rfl
  ·rw [decide_eq_false h1,Z4,Zo,Za x1,Zo,Za x2,Zo,Za q2,Z6,ZI,Z4,Zo,Za Zm,Z6,Yq,Za Zm]
   simp only [cond_true,cond_false]
   rw [Zb]
   by_cases h2 : x.toNat=2
   ·rw [if_pos (by simp [h2]),Za x1,Za x2,Za c3,if_pos (.inr h2)]
    rfl
   ·rw [if_neg (by simp [h2]),if_neg (by omega)]
    rfl
end
end Go.Proofs.YtedkoimihknggaaGreatDoor.A

namespace Go.Proofs.YtedkoimihknggaaGreatDoor.A
set_option linter.unusedVariables false
set_option linter.unusedSimpArgs false
open Go.Proofs Go.Proofs.YtedkoimihknggaaGreatDoor
section
variable {H0 H X : Zd} {n p d b : Nat} {a c v : Value} {bs s : List UInt8} {β : Type} {K : Value→M β}
theorem bx {vs : List Value} (h1 : vs.all oneCell=true) : alc 1 (.agg vs.toArray) X=some (pt X.length,X++[.cells vs 1 false false]):=Kz h1
theorem Zql {N : Nat} (hN : N≤8) : ∀ (t k x : Nat) (s : List UInt8) (H : Zd),N - k=t→k≤N→x < 18446744073709551616→s.length+t≤1000→
  ∃ H',Zi (c4 (Zah.l1 (R n))) [.int .u64 x,strv s,iv N,iv k] H=some (.ext 0 [strv (s++le x t)],H')∧HLe H H'
 | 0,k,x,s,H,ht,hk,hx,hs=>by
  refine ⟨H,ZL ?_,.refl _⟩
  rw [ZI]
  unfold Zah.l1
  rw [Za Zl,Zb,if_neg (by simp;omega)]
  unfold le
  rw [List.append_nil]
  rfl
 | t+1,k,x,s,H,ht,hk,hx,hs=>by
  have hlt : (k : Int) < N:=by omega
  have c1 : bop .int .rem (.int .u64 x) (.int .u64 256) H=some (.int .u64 ((x % 256 : Nat) : Int),H):=by
   rw [JQ,if_neg (by decide)]
   have : (x : Int).tmod 256=((x % 256 : Nat) : Int):=by rw [Int.tmod_eq_emod_of_nonneg (by omega)];omega
   rw [this]
  have c2 : cvi .u8 (.int .u64 ((x % 256 : Nat) : Int)) H=some (.int .u8 ((UInt8.ofNat (x % 256)).toNat),H):=by
   rw [Qx,wu8,Zqm]
   have : ((x % 256 : Nat) : Int) % 256=(x : Int) % 256:=by omega
   rw [this]
  have e1 : bsl 1 1 (.int .u8 0) [(0,1,.int .u8 ((UInt8.ofNat (x % 256)).toNat))] H=some (.slice (some ⟨H.length,0,none⟩) 1 1,H++[.cells [.int .u8 ((UInt8.ofNat (x % 256)).toNat)] 1 false false]):=Ztl rfl rfl rfl
  have k1 : HLe H (H++[Ze.cells [.int .u8 ((UInt8.ofNat (x % 256)).toNat)] 1 false false]):=.app _ _
  have s1 : Sl (H++[Ze.cells [.int .u8 ((UInt8.ofNat (x % 256)).toNat)] 1 false false]) (.slice (some ⟨H.length,0,none⟩) 1 1) (u8s [UInt8.ofNat (x % 256)]):=Sl.one (vs:=[.int .u8 ((UInt8.ofNat (x % 256)).toNat)]) ZB
  generalize H++[Ze.cells [.int .u8 ((UInt8.ofNat (x % 256)).toNat)] 1 false false]=X1 at e1 k1 s1
  have c3 : bop .str .add (strv s) (strv [UInt8.ofNat (x % 256)]) X1=some (strv (s++[UInt8.ofNat (x % 256)]),X1):=QM (by rw [List.length_singleton];omega)
  have c4' : bop .int .quo (.int .u64 x) (.int .u64 256) X1=some (.int .u64 ((x / 256 : Nat) : Int),X1):=by
   rw [JX,if_neg (by decide)]
   have : (x : Int).tdiv 256=((x / 256 : Nat) : Int):=by rw [Int.tdiv_eq_ediv_of_nonneg (by omega)];omega
   rw [this,ZkQ,Int.emod_eq_of_lt (by omega) (by omega)]
  have hx2 : x / 256 < 18446744073709551616:=by omega
  obtain ⟨H',e4,k4⟩:=Zql hN t (k+1) (x / 256) (s++[UInt8.ofNat (x % 256)]) X1 (by omega) (by omega) hx2 (by rw [List.length_append,List.length_singleton];omega)
  rw [List.append_assoc] at e4
  refine ⟨H',(ZA ?_).trans e4,k1.trans k4⟩
  rw [ZI]
  unfold Zah.l1
  rw [Za Zl,Zb,if_pos (by simpa using hlt),Za c1,Za c2,Za e1,Za (ZmA s1),Za c3,Za c4',Za ZC,Qd (by omega)]
  rfl
theorem Zud {N x : Nat} (hN : N≤8) (hx : x < 18446744073709551616) : ∃ H',R (n+1) Zal [.int .u64 x,iv N] H=some (strv (le x N),H')∧HLe H H':=by
 obtain ⟨H',e,k⟩:=Zql (n:=n) hN N 0 x [] H (by omega) (by omega) hx (by rw [List.length_nil];omega)
 have e : Zi (c4 (Zah.l1 (R n))) [.int .u64 x,.string ⟨#[]⟩,iv N,.int .i64 0] H=some (.ext 0 [strv (le x N)],H'):=e
 refine ⟨H',?_,k⟩
 rw [R,ZtS rfl]
 unfold Zah
 rw [ZY e,ZG]
 rfl
theorem ZzD {k : Nat} (h : k < 9223372036854775808) : cvi .u64 (iv k) H=some (.int .u64 k,H):=by rw [Qx,ZkQ,Int.emod_eq_of_lt (by omega) (by omega)]
theorem ZmF (hs : s.length≤1000000000) : ∃ H',R (n+2) K1 [strv s] H=some (strv (txt s),H')∧HLe H H':=by
 obtain ⟨H',e,k⟩:=Zud (n:=n) (N:=2) (x:=s.length) (H:=H) (by omega) (by omega)
 have e : R (n+1) Zal [.int .u64 s.length,.int .i64 2] H=_:=e
 have c3 : bop .str .add (strv (le s.length 2)) (strv s) H'=some (strv (txt s),H'):=QM (by rw [WO];omega)
 refine ⟨H',?_,k⟩
 rw [R,ZsG rfl]
 unfold Zit
 rw [Za ZN,Za (ZzD (by omega)),Za e,Za c3]
 rfl
end
end Go.Proofs.YtedkoimihknggaaGreatDoor.A

namespace Go.Proofs.YtedkoimihknggaaGreatDoor.A
set_option linter.unusedVariables false
set_option linter.unusedSimpArgs false
open Go.Proofs Go.Proofs.YtedkoimihknggaaGreatDoor
section
variable {H0 H X : Zd} {n p d b : Nat} {a c v : Value} {bs : List UInt8} {β : Type} {K : Value→M β} {s : RSt}
end
end Go.Proofs.YtedkoimihknggaaGreatDoor.A

namespace Go.Proofs.YtedkoimihknggaaGreatDoor.A
set_option linter.unusedVariables false
set_option linter.unusedSimpArgs false
open Go.Proofs Go.Proofs.YtedkoimihknggaaGreatDoor
section
variable {H0 H X : Zd} {n p d b : Nat} {a c v : Value} {bs : List UInt8} {s : RSt} {q : List Nat}
theorem QY.us {m : List Ent} (h : QY 5 H v (m.map usr) q) : Qc H v (m.map Zxl):=h.users.s (fun u hu=>by obtain ⟨e,_,rfl⟩:=List.mem_map.1 hu;exact Nat.zero_le _)
end
end Go.Proofs.YtedkoimihknggaaGreatDoor.A

namespace Go.Proofs.YtedkoimihknggaaGreatDoor.A
set_option linter.unusedVariables false
set_option maxRecDepth 100000
set_option linter.unusedSimpArgs false
open Go.Proofs Go.Proofs.YtedkoimihknggaaGreatDoor
def Zcs (b : Bool) : List UInt8:=le (if b then 1 else 0) 1
def ZcW (l : List Tx) : List UInt8:=le l.length 2++(l.map txt).flatten
def Zd2 (k : Wc) : List UInt8:=txt k.1++(txt k.2.1++(txt k.2.2.1++(Zcs k.2.2.2.1++ZcW k.2.2.2.2)))
def Kf (l : List Wc) : List UInt8:=(l.map Zd2).flatten
def Zda (K : List Tx) (ks : List Wc) : List UInt8:=le 2 1++(ZcW K++(le ks.length 2++Kf ks))
abbrev ZCV : Wc:=([],[],[],false,[])
def uOf (k : Wc) : Zj:=⟨k.1,k.2.1,k.2.2.1,k.2.2.2.1,.slice none 0 0,k.2.2.2.2⟩
def ZcM (k : Wc) : Nat:=(Yi (uOf k)).toNat
def ofK (ks : List Wc) (gs : List Tx) : Nat:=(ZcS (ks.map uOf) gs).toNat
def Zhs (s : RSt) : Bool × RSt:=((J2 1 s).1==1,if 1 < (J2 1 s).1 then Za3 4 (J2 1 s).2 else (J2 1 s).2)
def Wv (long : Nat) : Nat→RSt→List Tx × RSt
 | 0,s=>([],s)
 | k+1,s=>((WF long s).1 :: (Wv long k (WF long s).2).1,(Wv long k (WF long s).2).2)
def ZeC (most long : Nat) (s : RSt) : List Tx × RSt:=
 (if (Wv long (JB most s).1 (JB most s).2).2.1=0 then (Wv long (JB most s).1 (JB most s).2).1 else [],(Wv long (JB most s).1 (JB most s).2).2)
def Zmp (s : RSt) : Wc × RSt:=
 let a:=WF 65535 s
 let b:=WF 65535 a.2
 let c:=WF 65535 b.2
 let d:=Zhs c.2
 let e:=ZeC 65535 65535 d.2
 ((a.1,b.1,c.1,d.1,e.1),e.2)
def ZjO (s : RSt) : Wc × RSt:=(if (Za3 (ZcM (Zmp s).1) (Zmp s).2).1=0 then (Zmp s).1 else ZCV,Za3 (ZcM (Zmp s).1) (Zmp s).2)
def ZdY : Nat→RSt→List Wc × RSt
 | 0,s=>([],s)
 | k+1,s=>((ZjO s).1 :: (ZdY k (ZjO s).2).1,(ZdY k (ZjO s).2).2)
def ZwZ (s : RSt) : Nat × (List Tx × List Wc):=
 let g:=ZeC 6 12 s
 let n:=J2 2 g.2
 let m:=if n.1 > 12 then (0,Za3 7 n.2) else n
 let u:=ZdY m.1 m.2
 if u.2.1≠0 then (u.2.1,[],[]) else
 if ofK u.1 g.1≠0 then (ofK u.1 g.1,[],[]) else
 if u.2.2≠[] then (3,[],[]) else (0,g.1,u.1)
def Zh7 (bs : List UInt8) : Nat × (List Tx × List Wc):=
 let b:=J2 1 (0,bs)
 if b.2.1=0∧b.1≠2 then (6,[],[]) else ZwZ b.2
section
variable {s : RSt} {k : Wc} {ks : List Wc} {l K : List Tx} {r t : List UInt8} {us : List Zj}
theorem Zzd (k : Wc) : ZF (uOf k)=k:=rfl
theorem Zq6 (ks : List Wc) : (ks.map uOf).map ZF=ks:=by
 rw [List.map_map]
 exact (List.map_congr_left fun a _=>Zzd a).trans (List.map_id ks)
theorem Zjl {u : Zj} : 0≤Yi u∧Yi u≤12:=by
 unfold Yi Zgp
 repeat' split
 all_goals exact ⟨by decide,by decide⟩
theorem ZxG {u w : Zj} (h : ZF u=ZF w) : Yi u=Yi w:=by
 have h1 : u.nm=w.nm:=congrArg (·.1) h
 have h2 : u.hs=w.hs:=congrArg (·.2.1) h
 have h3 : u.ml=w.ml:=congrArg (·.2.2.1) h
 have h4 : u.gs=w.gs:=congrArg (·.2.2.2.2) h
 unfold Yi
 rw [h1,h2,h3,h4]
theorem ZqN {u : Zj} : Yi u=ZcM (ZF u):=by
 unfold ZcM
 rw [Int.toNat_of_nonneg Zjl.1]
 exact ZxG rfl
theorem ZAX : ZcM k≤12:=by
 unfold ZcM
 have:=Zjl (u:=uOf k)
 omega
theorem Zo7 : ∀ {us : List Zj},0≤Ka us
 | []=>Int.le_refl _
 | u :: us=>by
  unfold Ka
  split
  ·exact Zo7
  ·exact Zjl.1
theorem Zzv {gs : List Tx} {p : List Zj} {u : Zj} : 0≤ZfJ gs p u:=by
 unfold ZfJ
 repeat' split
 all_goals decide
theorem ZuG {gs : List Tx} : ∀ {us p : List Zj},0≤Za2 gs p us
 | [],p=>by unfold Za2;exact Int.le_refl _
 | u :: us,p=>by
  unfold Za2
  split
  ·exact ZuG
  ·exact Zzv
theorem ZBC : 0≤Zek us l:=by
 unfold Zek ZnT
 have:=Zo7 (us:=us)
 repeat' split
 all_goals first | exact this | decide
theorem Zuh : 0≤ZcS us l:=by
 unfold ZcS
 split
 ·exact ZuG
 ·exact ZBC
theorem Zv8 : ZcS us l=ofK (us.map ZF) l:=by
 unfold ofK
 rw [Int.toNat_of_nonneg Zuh]
 exact ZAa (Zq6 _).symm
theorem Zv2 {m : Tx} (h : ZdG m=true) : m.length≤20:=by
 rcases ZmC h with h | ⟨h,_⟩
 ·rw [h];decide
 ·unfold QA at h
  rw [Bool.and_eq_true,decide_eq_true_eq] at h
  exact h.1
structure ZgY (k : Wc) : Prop where
 n : k.1.length≤12
 h : k.2.1.length≤12
 m : k.2.2.1.length≤20
 g : k.2.2.2.2.length≤6
 gs : ∀ x∈k.2.2.2.2,x.length≤12
theorem Zp4 (h : ZcM k=0) : ZgY k:=by
 have h0 : Yi (uOf k)=0:=by
  have:=Zjl (u:=uOf k)
  unfold ZcM at h
  omega
 obtain ⟨h1,h2,h3,h4,h5,_⟩:=Zg7 h0
 exact ⟨Zci h1,ZvV h2,Zv2 h3,h4,fun x hx=>Zci (List.all_eq_true.1 h5 x hx)⟩
theorem Zw9 (h : ofK ks l=0) : (∀ k∈ks,ZcM k=0)∧ks.length≤12∧l.length≤6∧(∀ x∈l,x.length≤12)∧Wf l=true∧l.all Zp=true:=by
 have h0 : ZcS (ks.map uOf) l=0:=by
  have:=Zuh (us:=ks.map uOf) (l:=l)
  unfold ofK at h
  omega
 have hc : Zek (ks.map uOf) l=0:=by
  unfold ZcS at h0
  by_cases hc : Zek (ks.map uOf) l=0
  ·exact hc
  ·rw [if_neg hc] at h0;exact h0
 obtain ⟨h1,_,h3,h4,h5,h6⟩:=ZyN hc
 rw [List.length_map] at h3
 refine ⟨fun k hk=>?_,h3,h6,fun x hx=>Zci (List.all_eq_true.1 h4 x hx),h5,h4⟩
 have:=Zl1 h1 (uOf k) (List.mem_map.2 ⟨k,hk,rfl⟩)
 unfold ZcM
 rw [this];rfl
theorem Zmv {b : Nat} : ∀ {l : List Tx},(∀ x∈l,x.length≤b)→((l.map txt).flatten).length≤l.length * (b+2)
 | [],_=>by simp
 | x :: l,h=>by
  have h1:=h x (by simp)
  have h2:=Zmv (b:=b) (l:=l) fun y hy=>h y (by simp [hy])
  rw [List.map_cons,List.flatten_cons,List.length_append,YC,List.length_cons,Nat.add_mul]
  omega
theorem Zhk {b : Nat} (h : ∀ x∈l,x.length≤b) : (ZcW l).length≤2+l.length * (b+2):=by
 unfold ZcW
 rw [List.length_append,WO]
 have:=Zmv h
 omega
theorem Zg2 (b : Bool) : (Zcs b).length=1:=by unfold Zcs;rw [WO]
theorem Zoy (h : ZgY k) : (Zd2 k).length≤137:=by
 unfold Zd2
 rw [List.length_append,List.length_append,List.length_append,List.length_append,YC,YC,YC,Zg2]
 have h1:=Zhk h.gs
 have h2:=h.g
 have:=h.n
 have:=h.h
 have:=h.m
 have h3 : k.2.2.2.2.length * (12+2)≤6 * (12+2):=Nat.mul_le_mul_right _ h2
 omega
theorem Zi7 : ∀ {ks : List Wc},(∀ k∈ks,ZgY k)→(Kf ks).length≤ks.length * 137
 | [],_=>by simp [Kf]
 | k :: ks,h=>by
  have h1:=Zoy (h k (by simp))
  have h2:=Zi7 (ks:=ks) fun y hy=>h y (by simp [hy])
  unfold Kf at h2 ⊢
  rw [List.map_cons,List.flatten_cons,List.length_append,List.length_cons,Nat.add_mul]
  omega
theorem Zs6 (h : ∀ k∈ks,ZgY k) (hn : ks.length≤12) (hl : l.length≤6) (hx : ∀ x∈l,x.length≤12) : (Zda l ks).length≤1733:=by
 unfold Zda
 rw [List.length_append,List.length_append,List.length_append,WO,WO]
 have h1:=Zhk hx
 have h2:=Zi7 h
 have h3 : l.length * (12+2)≤6 * (12+2):=Nat.mul_le_mul_right _ hl
 have h4 : ks.length * 137≤12 * 137:=Nat.mul_le_mul_right _ hn
 omega
theorem Zh6 {t r : List UInt8} {most : Nat} (h : t.length≤most) (h2 : t.length≤65535) : WF most (0,txt t++r)=(t,(0,r)):=by
 have h1 : J2 2 (0,txt t++r)=(t.length,(0,t++r)):=by
  unfold txt
  rw [List.append_assoc]
  exact Zfv (by omega)
 unfold WF JB
 rw [h1]
 simp only []
 rw [if_neg (by omega)]
 exact Zwo rfl
theorem Zqi {long : Nat} : ∀ {l : List Tx} {r : List UInt8},(∀ x∈l,x.length≤long∧x.length≤65535)→Wv long l.length (0,(l.map txt).flatten++r)=(l,(0,r))
 | [],r,_=>rfl
 | x :: l,r,h=>by
  have h1:=h x (by simp)
  rw [List.length_cons]
  unfold Wv
  rw [List.map_cons,List.flatten_cons,List.append_assoc,Zh6 h1.1 h1.2,Zqi fun y hy=>h y (by simp [hy])]
theorem Zte {most long : Nat} (hm : l.length≤most) (h6 : l.length≤65535) (h : ∀ x∈l,x.length≤long∧x.length≤65535) : ZeC most long (0,ZcW l++r)=(l,(0,r)):=by
 have h1 : JB most (0,ZcW l++r)=(l.length,(0,(l.map txt).flatten++r)):=by
  unfold JB ZcW
  rw [List.append_assoc,Zfv (by omega)]
  simp only []
  rw [if_neg (by omega)]
 unfold ZeC
 rw [h1]
 simp only []
 rw [Zqi h]
 simp
theorem Zwy (b : Bool) : Zhs (0,Zcs b++r)=(b,(0,r)):=by
 unfold Zhs Zcs
 cases b
 ·rw [show (if false=true then 1 else 0)=0 from rfl,Zfv (by decide)]
  simp
 ·rw [show (if true=true then 1 else 0)=1 from rfl,Zfv (by decide)]
  simp
theorem ZAS : Za3 0 s=s:=by unfold Za3;rw [if_neg (fun h=>h.2 rfl)]
theorem Zzu (h : ZgY k) : Zmp (0,Zd2 k++r)=(k,(0,r)):=by
 have h1:=h.n
 have h2:=h.h
 have h3:=h.m
 have h4:=h.g
 unfold Zmp Zd2
 simp only [List.append_assoc]
 rw [Zh6 (by omega) (by omega)]
 simp only []
 rw [Zh6 (by omega) (by omega)]
 simp only []
 rw [Zh6 (by omega) (by omega)]
 simp only []
 rw [Zwy]
 simp only []
 rw [Zte (by omega) (by omega) (fun x hx=>by have:=h.gs x hx;omega)]
theorem Zzn (h : ZcM k=0) : ZjO (0,Zd2 k++r)=(k,(0,r)):=by
 unfold ZjO
 rw [Zzu (Zp4 h)]
 simp only [h,ZAS]
 simp
theorem ZrU : ∀ {ks : List Wc} {r : List UInt8},(∀ k∈ks,ZcM k=0)→ZdY ks.length (0,Kf ks++r)=(ks,(0,r))
 | [],r,_=>rfl
 | k :: ks,r,h=>by
  have ih:=ZrU (ks:=ks) (r:=r) fun y hy=>h y (by simp [hy])
  unfold Kf at ih ⊢
  rw [List.length_cons]
  unfold ZdY
  rw [List.map_cons,List.flatten_cons,List.append_assoc,Zzn (h k (by simp)),ih]
theorem Zx9 (h : ofK ks l=0) : Zh7 (Zda l ks)=(0,l,ks):=by
 obtain ⟨h1,h2,h3,h4,_,_⟩:=Zw9 h
 have e1 : J2 1 (0,Zda l ks)=(2,(0,ZcW l++(le ks.length 2++Kf ks))):=by
  unfold Zda
  exact Zfv (by decide)
 have e2 : ZeC 6 12 (0,ZcW l++(le ks.length 2++Kf ks))=(l,(0,le ks.length 2++Kf ks)):=Zte h3 (by omega) (fun x hx=>by have:=h4 x hx;omega)
 have e3 : J2 2 (0,le ks.length 2++Kf ks)=(ks.length,(0,Kf ks)):=Zfv (by omega)
 have e4 : ZdY ks.length (0,Kf ks)=(ks,(0,[])):=by
  have:=ZrU (r:=[]) h1
  rwa [List.append_nil] at this
 unfold Zh7
 rw [e1]
 simp only []
 rw [if_neg (fun h=>h.2 rfl)]
 unfold ZwZ
 rw [e2]
 simp only []
 rw [e3]
 simp only []
 rw [if_neg (show ¬ ks.length > 12 by omega)]
 simp only []
 rw [e4]
 simp [h]
end
end Go.Proofs.YtedkoimihknggaaGreatDoor.A

namespace Go.Proofs.YtedkoimihknggaaGreatDoor.A
set_option linter.unusedVariables false
set_option maxRecDepth 100000
set_option linter.unusedSimpArgs false
open Go.Proofs Go.Proofs.YtedkoimihknggaaGreatDoor
section
variable {H X X' : Zd} {n p d c : Nat} {r : NR} {s : NSt} {sl x v gv sv : Value} {own q : List Nat} {bs : List UInt8} {l : List Tx} {u : Zj} {us : List Zj}
theorem Zjc : ∀ {l : List Tx},l.Pairwise (· < ·)→Wf l=true
 | [],_=>rfl
 | [a],_=>rfl
 | a :: b :: l,h=>by
  rw [ZhQ,Bool.and_eq_true,decide_eq_true_eq]
  have h1:=List.pairwise_cons.1 h
  exact ⟨h1.1 b (by simp),Zjc h1.2⟩
theorem ND0.kname (hd : ND0 X d r s c) {k : Tx} (hk : k∈s.K) : Zp k=true:=by
 rw [← hd.ks] at hk
 obtain ⟨p,hp,rfl⟩:=List.mem_map.1 hk
 exact hd.gr.ok p hp
theorem Zmw (hO : ROK s us) (hP : WU s) (hN : ∀ k∈s.K,Zp k=true) (hu : u∈us) : Yi u=0∧(∀ g∈u.gs,g∈s.K)∧u.ml=(Zf u.nm s.OF).getD []:=by
 have hat:=hO.at hu
 unfold ZO at hat
 cases ha : Zf u.nm s.A with
 | none=>rw [ha] at hat;cases hat
 | some p=>
  rw [ha] at hat
  have hk : Qf s u.nm p=ZF u:=Option.some.inj hat
  have h1 : p.1=u.hs:=congrArg (·.2.1) hk
  have h2 : (Zf u.nm s.OF).getD []=u.ml:=congrArg (·.2.2.1) hk
  have h3 : ofL u.nm s.K s.mem=u.gs:=congrArg (·.2.2.2.2) hk
  have hnm:=hP.i.nm _ (W3 ha)
  have hin : ∀ g∈u.gs,g∈s.K:=fun g hg=>by
   rw [← h3] at hg
   exact (((Zco hP.k.nod).mem g).1 hg).1
  refine ⟨?_,hin,h2.symm⟩
  unfold Yi Zgp
  rw [show Zp u.nm=true from hnm.1,← h1,show WC p.1=true from hnm.2]
  have hm : ZdG u.ml=true:=by
   unfold ZdG
   rw [← h2]
   cases ho : Zf u.nm s.OF with
   | none=>rfl
   | some m=>
    obtain ⟨g1,g2⟩:=hP.i.good _ m ho
    show (m==[] || (QA m && Z7 m==m))=true
    rw [g1,g2]
    simp
  have hl : u.gs.length≤6:=by
   rw [← h3]
   exact Nat.le_trans ZfA hP.k.few
  have hall : u.gs.all Zp=true:=List.all_eq_true.2 fun g hg=>hN g (hin g hg)
  have hr : Wf u.gs=true:=by
   rw [← h3]
   exact Zjc (Zco hP.k.nod).asc
  rw [hm,hall,hr]
  simp only [if_true]
  rw [if_neg (by omega)]
theorem Zv0 {gs : List Tx} : ∀ {us prev : List Zj},(∀ (i : Nat) (u : Zj),us[i]?=some u→ZfJ gs (prev++us.take i) u=0)→Za2 gs prev us=0
 | [],prev,_=>by unfold Za2;rfl
 | u :: us,prev,h=>by
  have h0:=h 0 u rfl
  rw [List.take_zero,List.append_nil] at h0
  unfold Za2
  rw [if_pos h0]
  refine Zv0 fun i w hi=>?_
  have h1:=h (i+1) w (by simpa using hi)
  rw [List.take_succ_cons] at h1
  rwa [List.append_assoc]
theorem ZCl (hO : ROK s us) (hP : WU s) (hN : ∀ k∈s.K,Zp k=true) : ZcS us (Qp s.K)=0:=by
 have hlen:=hO.len hP.n
 have hfew:=hP.i.few
 have h1 : Ka us=0:=by
  have hall : ∀ u∈us,Yi u=0:=fun u hu=>(Zmw hO hP hN hu).1
  clear hO hlen
  induction us with
  | nil=>rfl
  | cons u us ih=>
   unfold Ka
   rw [if_pos (hall u (by simp))]
   exact ih fun w hw=>hall w (by simp [hw])
 have h2 : Wf (us.map (·.nm))=true:=by
  refine Zjc ?_
  rw [List.pairwise_map]
  exact hO.rise
 have h3 : (Qp s.K).all Zp=true:=List.all_eq_true.2 fun g hg=>hN g (WN.1 hg)
 have h4 : Wf (Qp s.K)=true:=Zjc (Zgf hP.k.nod)
 have h5 : (Qp s.K).length≤6:=by rw [Zb8];exact hP.k.few
 have hc : Zek us (Qp s.K)=0:=by
  unfold Zek ZnT
  have x1 : ¬ 12 < us.length:=by omega
  have x2 : ¬ 6 < (Qp s.K).length:=by omega
  rw [h1,h2,h3,h4]
  simp [x1,x2,hP.k.few]
 unfold ZcS
 rw [if_pos hc]
 refine Zv0 fun i u hi=>?_
 rw [List.nil_append]
 have hum:=List.mem_of_getElem? hi
 obtain ⟨_,hg,hm⟩:=Zmw hO hP hN hum
 unfold ZfJ
 have hall : (u.gs.all fun g=>decide (g∈Qp s.K))=true:=List.all_eq_true.2 fun g hgm=>by
  rw [decide_eq_true_eq]
  exact WN.2 (hg g hgm)
 rw [hall,if_pos rfl,if_neg]
 rintro ⟨hne,hany⟩
 obtain ⟨w,hw,hwe⟩:=List.any_eq_true.1 hany
 have hwm:=List.mem_of_mem_take hw
 obtain ⟨_,_,hm2⟩:=Zmw hO hP hN hwm
 have hwe : u.ml=w.ml:=by simpa using hwe
 have h6 : ∀ v : Zj,v.ml=(Zf v.nm s.OF).getD []→v.ml≠[]→Zf v.ml s.OW=some v.nm:=fun v hv hvne=>by
  cases ho : Zf v.nm s.OF with
  | none=>rw [ho] at hv;exact absurd hv hvne
  | some m=>
   rw [ho] at hv
   have hv : v.ml=m:=hv
   rw [hv]
   exact (hP.x.inv _ _).1 ho
 have h7:=h6 u hm hne
 have h8:=h6 w hm2 (by rw [← hwe];exact hne)
 rw [← hwe,h7] at h8
 have h9 : u.nm=w.nm:=Option.some.inj h8
 have hri:=hO.rise
 unfold Zd0 at hri
 rw [← List.take_append_drop i us,List.pairwise_append] at hri
 have hud : u∈us.drop i:=by
  have hil:=(List.getElem?_eq_some_iff.1 hi).1
  rw [List.drop_eq_getElem_cons hil]
  have:=List.getElem?_eq_getElem hil
  rw [hi] at this
  rw [← Option.some.inj this]
  simp
 have:=hri.2.2 w hw u hud
 rw [h9] at this
 exact absurd this (List.lt_irrefl _)
theorem ROK.allK (hn : (Zcb s).Nodup) : ROK s ((A.allK s).map uOf):=⟨by
 have h:=Zry hn
 unfold Zd0
 rw [List.pairwise_map]
 exact h,fun key=>by rw [Zq6];exact ZtA hn⟩
theorem ZxW (hd : ND X d r s c) : ofK (A.allK s) (Qp s.K)=0:=by
 have:=ZCl (ROK.allK hd.pinv.n) hd.pinv fun k hk=>hd.toND0.kname hk
 rw [Zv8,Zq6] at this
 omega
theorem Zzg {b : Bool} (hb : bs.length≤100000000000) (h : Wtr H p bs own) : ∃ H' own',R (n+3) WV [pt p,.bool b] H=some (pt p,H')∧Wtr H' p (bs++Zcs b) own'∧Zz (p :: own) H (p :: own') H':=by
 obtain ⟨H',own',e,w,s⟩:=Zwg (n:=n) (x:=if b then 1 else 0) (by cases b <;> decide) hb h
 refine ⟨H',own',?_,w,s⟩
 rw [R,Zjd rfl]
 unfold Zdn
 cases b
 ·have e : R (n+2) JK [pt p,.int .u8 0] H=_:=e
  rw [Zb,if_neg (by simp),Za e]
  rfl
 ·have e : R (n+2) JK [pt p,.int .u8 1] H=_:=e
  rw [Zb,if_pos rfl,Za e]
  rfl
theorem Zx.whole {vs : List Value} (h : Zx X v vs q) : ∃ sv,slv 1 v none (some (iv vs.length)) none X=some (sv,X)∧Sl X sv vs∧∀ j,A.own1 sv=some j→j∈q:=by
 have b1 : ∀ d,bnd (some (iv vs.length)) d=some vs.length:=fun d=>by simp [bnd]
 have b2 : ∀ d,bnd none d=some d:=fun _=>rfl
 rcases h with ⟨rfl,rfl,rfl⟩ | ⟨sid,rest,g,rfl,rfl,hid⟩
 ·exact ⟨.slice none 0 0,rfl,Sl.nil,fun j hj=>by cases hj⟩
 ·by_cases h0 : vs.length+rest.length=0
  ·have hv : vs=[]:=List.eq_nil_of_length_eq_zero (by omega)
   subst hv
   refine ⟨.slice (some ⟨sid,0,some (bif g then 1 else 0)⟩) 0 0,?_,⟨_,_,rfl,(fun e=>by cases e),rfl⟩,fun j hj=>by cases hj⟩
   simp only [slv,hid,b1,b2]
   rw [if_pos ⟨trivial,by omega,by omega,Nat.le_refl _⟩,if_pos (by omega)]
  ·refine ⟨.slice (some ⟨sid,0,none⟩) vs.length (vs.length+rest.length),?_,⟨some ⟨sid,0,none⟩,_,rfl,(fun e=>by cases e),?_⟩,fun j hj=>by cases hj;simp⟩
   ·simp only [slv,hid,b1,b2]
    rw [if_pos ⟨trivial,by omega,by omega,Nat.le_refl _⟩,if_neg (by omega)]
    simp
   ·simp only [QB,hid]
    rw [if_pos (by simp)]
    simp
theorem ZvS (hl : ∀ x∈l,x.length≤1000) (hn : l.length≤1000) : ∀ (t j : Nat) (bs : List UInt8) (own : List Nat) (X : Zd),l.length - j=t→j≤l.length→Sl X sv (l.map strv)→(∀ i,own1 sv=some i→i∉p :: own∧i < X.length)→bs.length+t * 1002≤100000000→Wtr X p bs own→
  ∃ X' own',Zi (c4 (YY.l1 (R (n+3)))) [pt p,sv,iv l.length,iv j] X=some (.ext 0 [pt p],X')∧Wtr X' p (bs++((l.drop j).map txt).flatten) own'∧Zz (p :: own) X (p :: own') X'
 | 0,j,bs,own,X,ht,hj,hs,hd,hb,h=>by
  rw [List.drop_eq_nil_of_le (by omega)]
  refine ⟨X,own,ZL ?_,by simpa using h,.refl _ _⟩
  rw [ZI,show j=l.length by omega]
  unfold YY.l1
  rw [Za Zl,Zb,if_neg (by simp)]
  rfl
 | t+1,j,bs,own,X,ht,hj,hs,hd,hb,h=>by
  have hkl : j < l.length:=by omega
  have hlt : (j : Int) < l.length:=by omega
  have hg:=List.getElem?_eq_getElem hkl
  have hdr:=List.drop_eq_getElem_cons hkl
  generalize l[j]=y at hg hdr
  have hy:=hl y (List.mem_of_getElem? hg)
  have x1:=hs.ix (i:=j) (by simpa using hkl) .i64 X
  have x2:=hs.ldx (Yb hg)
  obtain ⟨X1,own1',e1,w1,s1⟩:=Zmz (n:=n) (s:=y) (by omega) (by omega) h
  have hs1 : Sl X1 sv (l.map strv):=hs.keep fun i hi=>s1.keep i (hd i hi).2 (hd i hi).1
  have hd1 : ∀ i,A.own1 sv=some i→i∉p :: own1'∧i < X1.length:=fun i hi=>⟨fun hm=>by
   rcases s1.own i hm with h1 | h1
   ·exact (hd i hi).1 h1
   ·have:=(hd i hi).2;omega,Nat.lt_of_lt_of_le (hd i hi).2 s1.len⟩
  obtain ⟨X2,own2,e2,w2,s2⟩:=ZvS hl hn t (j+1) (bs++txt y) own1' X1 (by omega) (by omega) hs1 hd1 (by rw [List.length_append,YC];omega) w1
  refine ⟨X2,own2,(ZA ?_).trans e2,?_,s1.trans s2⟩
  ·rw [ZI]
   unfold YY.l1
   rw [Za Zl,Zb,if_pos (by simpa using hlt),Za x1,Za x2,Za e1,Za ZC,Qd (by omega)]
   rfl
  ·rw [hdr,List.map_cons,List.flatten_cons,← List.append_assoc]
   exact w2
theorem Zyb (hl : ∀ x∈l,x.length≤1000) (hn : l.length≤1000) (hr : Zx H gv (l.map strv) q) (hd : ∀ j∈q,j∉p :: own) (hb : bs.length≤10000000) (h : Wtr H p bs own) : ∃ H' own',R (n+4) KO [pt p,gv] H=some (pt p,H')∧Wtr H' p (bs++ZcW l) own'∧Zz (p :: own) H (p :: own') H':=by
 have hlen : Zw gv H=some (iv l.length,H):=by have:=hr.rd.len (H':=H);simpa using this
 have hm : mxi false (iv l.length) (.int .i64 65535) H=some (iv l.length,H):=by
  rw [YG,if_neg (by omega)]
 obtain ⟨sv,e1,s1,o1⟩:=hr.whole
 rw [List.length_map] at e1
 have hsl : ∀ Y,Zw sv Y=some (iv l.length,Y):=fun Y=>by have:=s1.len (H':=Y);simpa using this
 have c1 : cvi .u16 (iv l.length) H=some (.int .u16 l.length,H):=by rw [Qx,ZwN,Int.emod_eq_of_lt (by omega) (by omega)]
 obtain ⟨X1,own1',e2,w2,st2⟩:=Zs8 (n:=n+1) (x:=l.length) (by omega) (by omega) h
 have e2 : R (n+3) Yw [pt p,.int .u16 l.length] H=_:=e2
 have hs1 : Sl X1 sv (l.map strv):=s1.keep fun i hi=>st2.keep i (hr.lt i (o1 i hi)) (hd i (o1 i hi))
 have hd1 : ∀ i,A.own1 sv=some i→i∉p :: own1'∧i < X1.length:=fun i hi=>⟨fun hm=>by
  rcases st2.own i hm with h1 | h1
  ·exact hd i (o1 i hi) h1
  ·have:=hr.lt i (o1 i hi);omega,Nat.lt_of_lt_of_le (hr.lt i (o1 i hi)) st2.len⟩
 obtain ⟨X2,own2,e3,w3,st3⟩:=ZvS (n:=n) (p:=p) hl hn l.length 0 (bs++le l.length 2) own1' X1 (by omega) (by omega) hs1 hd1 (by rw [List.length_append,WO];omega) w2
 rw [show iv ((0 : Nat) : Int)=.int .i64 0 from rfl] at e3
 rw [List.drop_zero,List.append_assoc] at w3
 refine ⟨X2,own2,?_,w3,st2.trans st3⟩
 rw [R,Zlg rfl]
 unfold YY
 rw [Za hlen,Za hm,Za e1,Za (hsl _),Za c1,Za e2,Za (hsl _),ZY e3,ZG]
 rfl
theorem Zyu {u : Zj} : Zd2 (ZF u)=txt u.nm++(txt u.hs++(txt u.ml++(Zcs u.ds++ZcW u.gs))):=rfl
theorem Zdr {o1 o2 : List Nat} (hs : Zz o1 X o2 X') {q : List Nat} (hl : ∀ j∈q,j < X.length) (hd : ∀ j∈q,j∉o1) : ∀ j∈q,j∉o2:=fun j hj hm=>by
 rcases hs.own j hm with h1 | h1
 ·exact hd j hj h1
 ·have:=hl j hj;omega
theorem ZBa (he : Yi u=0) (hr : Zx H u.gv (u.gs.map strv) q) (hd : ∀ j∈q,j∉p :: own) (hb : bs.length≤1000000) (h : Wtr H p bs own) : ∃ H' own',R (n+11) ZfZ [pt p,iv 2,.agg u.cells.toArray] H=some (.bool true,H')∧Wtr H' p (bs++Zd2 (ZF u)) own'∧Zz (p :: own) H (p :: own') H':=by
 obtain ⟨b1,b2,b3,b4,b5,b6⟩:=Zg7 he
 have hnl:=Zci b1
 have hhl:=ZvV b2
 have hml:=Zv2 b3
 have hgl : ∀ x∈u.gs,x.length≤1000:=fun x hx=>by have:=Zci (List.all_eq_true.1 b5 x hx);omega
 have ok0 : UOK H u:=⟨hr.rd,hr.one.1,by omega⟩
 have e1:=ok0.cells1
 have k1 : HLe H (H++[.cells u.cells 1 false false]):=.app _ _
 have c1 : (H++[Ze.cells u.cells 1 false false])[H.length]?=some (.cells u.cells 1 false false):=ZB
 have hne : H.length∉p :: own:=fun hm=>Nat.lt_irrefl _ (h.lt _ hm)
 have hq1:=hr.lt
 generalize H++[Ze.cells u.cells 1 false false]=X1 at e1 k1 c1
 have d1 : ldA 5 (pt H.length) X1=some (.agg u.cells.toArray,X1):=ZT (n:=5) c1 rfl
 obtain ⟨X2,e2,k2⟩:=Zhf (n:=n) (ok0.hle k1)
 rw [he] at e2
 have c2:=k2 _ _ c1
 have k12:=k1.trans k2
 have q1 : bop .int .neq (iv 0) (.int .i64 0) X2=some (.bool false,X2):=by rw [Zq];rfl
 have w2:=h.hle k12
 have hr2:=hr.step k12.step (by simp)
 generalize H.length=w at e1 c1 hne d1 c2
 obtain ⟨X3,q3,e3,w3,s3⟩:=Zmz (n:=n+7) (s:=u.nm) (by omega) (by omega) w2
 have e3 : R (n+10) JN [pt p,strv u.nm] X2=_:=e3
 have c3:=s3.get c2 hne
 have hwl:=Qz c2
 have n3 : w∉p :: q3:=fun hm=>by
  rcases s3.own w hm with h1 | h1
  ·exact hne h1
  ·omega
 have l3 : (txt u.nm).length≤14:=by rw [YC];omega
 have l4 : (txt u.hs).length≤14:=by rw [YC];omega
 have l5 : (txt u.ml).length≤22:=by rw [YC];omega
 obtain ⟨X4,q4,e4,w4,s4⟩:=Zmz (n:=n+7) (s:=u.hs) (by omega) (by rw [List.length_append];omega) w3
 have e4 : R (n+10) JN [pt p,strv u.hs] X3=_:=e4
 have c4:=s4.get c3 n3
 have hwl3:=Qz c3
 have n4 : w∉p :: q4:=fun hm=>by
  rcases s4.own w hm with h1 | h1
  ·exact n3 h1
  ·omega
 obtain ⟨X5,q5,e5,w5,s5⟩:=Zmz (n:=n+7) (s:=u.ml) (by omega) (by rw [List.length_append,List.length_append];omega) w4
 have e5 : R (n+10) JN [pt p,strv u.ml] X4=_:=e5
 have c5:=s5.get c4 n4
 have hwl4:=Qz c4
 have n5 : w∉p :: q5:=fun hm=>by
  rcases s5.own w hm with h1 | h1
  ·exact n4 h1
  ·omega
 obtain ⟨X6,q6,e6,w6,s6⟩:=Zzg (n:=n+7) (b:=u.ds) (by rw [List.length_append,List.length_append,List.length_append];omega) w5
 have e6 : R (n+10) WV [pt p,.bool u.ds] X5=_:=e6
 have c6:=s6.get c5 n5
 have a2:=hr2.lt
 have r3:=hr2.step s3 hd
 have f3:=Zdr s3 a2 hd
 have r4:=r3.step s4 f3
 have f4:=Zdr s4 r3.lt f3
 have r5:=r4.step s5 f4
 have f5:=Zdr s5 r4.lt f4
 have r6:=r5.step s6 f5
 have f6:=Zdr s6 r5.lt f5
 obtain ⟨X7,q7,e7,w7,s7⟩:=Zyb (n:=n+6) hgl (by omega) r6 f6 (by rw [List.length_append,List.length_append,List.length_append,List.length_append,Zg2];omega) w6
 have e7 : R (n+10) KO [pt p,u.gv] X6=_:=e7
 have q2 : bop .int .eql (iv 2) (.int .i64 2) X4=some (.bool true,X4):=by rw [ZD];rfl
 have a : ∀ {Y : Zd},Y[w]?=some (.cells u.cells 1 false false)→∀ f x,u.cells[f]?=some x→ld1 (pa w f) Y=some (x,Y):=fun hY f x h=>Zv hY h
 refine ⟨X7,q7,?_,by rw [Zyu];simpa [List.append_assoc] using w7,(k12.stepq).trans ((((s3.trans s4).trans s5).trans s6).trans s7)⟩
 rw [R,Zvq rfl]
 unfold Zk3
 rw [Za e1,Za d1,Za e2,Za q1,Zb,if_neg (by simp),Za Zh,Za (a c2 0 _ rfl),Za Zh,Za (a c2 1 _ rfl),Za e3,Za (a c3 1 _ rfl),Qq,Za e4,Za q2]
 refine (ZR (vs:=[]) (H':=X7) ?_).trans ?_
 ·rw [Zb,if_pos rfl,Za Zh,Za (a c4 2 _ rfl),Za Zh,Za (a c4 3 _ rfl),Za Zh,Za (a c4 4 _ rfl),Za e5,Za (a c5 4 _ rfl),Qq,Za (a c5 3 _ rfl),Qq,Za e6,Za (a c6 4 _ rfl),Qq,Za e7]
  rfl
 ·rfl
theorem Zwc (hn : us.length≤100) (hE : ∀ u∈us,Yi u=0) : ∀ (t k : Nat) (bs : List UInt8) (own : List Nat) (X : Zd),us.length - k=t→k≤us.length→QY 5 X v (us.map Zj.cells) q→(∀ j∈q,j∉p :: own)→(∀ u∈us,∃ qu,Zx X u.gv (u.gs.map strv) qu∧∀ j∈qu,j∉p :: own)→bs.length+t * 137≤100000→Wtr X p bs own→
  ∃ X' own',Zi (c4 (K4.l1 (R (n+11)))) [pt p,v,iv us.length,iv k] X=some (.ext 0 [pt p],X')∧Wtr X' p (bs++Kf ((us.drop k).map ZF)) own'∧Zz (p :: own) X (p :: own') X'
 | 0,k,bs,own,X,ht,hk,hr,hd,hu,hb,h=>by
  rw [List.drop_eq_nil_of_le (by omega)]
  refine ⟨X,own,ZL ?_,by simpa [Kf] using h,.refl _ _⟩
  rw [ZI,show k=us.length by omega]
  unfold K4.l1
  rw [Za Zl,Zb,if_neg (by simp)]
  rfl
 | t+1,k,bs,own,X,ht,hk,hr,hd,hu,hb,h=>by
  have hkl : k < us.length:=by omega
  have hlt : (k : Int) < us.length:=by omega
  have hg:=List.getElem?_eq_getElem hkl
  have hdr:=List.drop_eq_getElem_cons hkl
  generalize us[k]=u at hg hdr
  have hum:=List.mem_of_getElem? hg
  have he:=hE u hum
  obtain ⟨qu,u1,u2⟩:=hu u hum
  have hf:=fun {K : Value→M Out}=>Zdz (k:=K) hr.rd u1.one.1 hg
  have k1 : HLe X (X++[Ze.cells u.cells 1 false false]):=.app _ _
  have c1 : (X++[Ze.cells u.cells 1 false false])[X.length]?=some (.cells u.cells 1 false false):=ZB
  generalize X++[Ze.cells u.cells 1 false false]=X1 at k1 c1 hf
  have d1 : ldA 5 (pt X.length) X1=some (.agg u.cells.toArray,X1):=ZT (n:=5) c1 rfl
  obtain ⟨X2,own2,e2,w2,s2⟩:=ZBa (n:=n) he (u1.step k1.step (by simp)) u2 (by omega) (h.hle k1)
  have hgk : ZgY (ZF u):=Zp4 (by rw [← Int.toNat_natCast (ZcM (ZF u)),← ZqN,he];rfl)
  have hel:=Zoy hgk
  have s12:=(k1.stepq (q:=p :: own)).trans s2
  have hu2 : ∀ u∈us,∃ qu,Zx X2 u.gv (u.gs.map strv) qu∧∀ j∈qu,j∉p :: own2:=fun w hw=>by
   obtain ⟨qw,w1,w2⟩:=hu w hw
   exact ⟨qw,w1.step s12 w2,Zdr s12 w1.lt w2⟩
  obtain ⟨X3,own3,e3,w3,s3⟩:=Zwc hn hE t (k+1) (bs++Zd2 (ZF u)) own2 X2 (by omega) (by omega) (hr.step s12 hd) (Zdr s12 hr.lt hd) hu2 (by rw [List.length_append];omega) w2
  refine ⟨X3,own3,(ZA ?_).trans e3,?_,s12.trans s3⟩
  ·rw [ZI]
   unfold K4.l1
   rw [Za Zl,Zb,if_pos (by simpa using hlt),hf,Za d1,Za e2,Za ZC,Qd (by omega)]
   rfl
  ·rw [hdr]
   unfold Kf at w3 ⊢
   rw [List.map_cons,List.map_cons,List.flatten_cons,← List.append_assoc]
   exact w3
theorem Zxb : R (n+1) QL [.pointer none] H=some (.slice none 0 0,H):=by
 have q0 : bop .ptr .eql (.pointer none) (.pointer none) H=some (.bool true,H):=by simp [bop,eqv]
 rw [R,ZiF rfl]
 unfold K4
 rw [Za q0,Zb,if_pos rfl]
 rfl
theorem Zk4 (hd : ND X d r s c) : ∃ v q H',R (n+12) QL [pt d] X=some (v,H')∧Zx H' v (u8s (Zda (Qp s.K) (A.allK s))) q∧HLe X H'∧∀ j∈q,X.length≤j:=by
 have hgood:=ZxW hd
 obtain ⟨g1,g2,g3,g4,_,_⟩:=Zw9 hgood
 have q0 : bop .ptr .eql (pt d) (.pointer none) X=some (.bool false,X):=JU
 obtain ⟨z1,z2,w0⟩:=ZBm (H:=X)
 have k0 : HLe X (X++[Ze.cells [.slice none 0 0] 1 false false]):=.app _ _
 generalize X++[Ze.cells [.slice none 0 0] 1 false false]=X0 at z2 w0 k0
 generalize hpp : X.length=p at z2 w0
 have hp : ∀ j∈[p],X.length≤j:=fun j hj=>by have : j=p:=(by simpa using hj);omega
 obtain ⟨X1,q1,e1,w1,s1⟩:=Zwg (n:=n+9) (x:=2) (by omega) (by simp) w0
 have e1 : R (n+11) JK [pt p,.int .u8 2] X0=_:=e1
 have m1:=k0.more s1 hp
 rw [List.nil_append] at w1
 obtain ⟨vg,qg,X2,e2,r2,l2,o2⟩:=ZrT (n:=n+7) (hd.hle m1.1)
 have e2 : R (n+11) KG [pt d] X1=_:=e2
 have w2:=w1.hle l2
 have m12:=m1.1.trans l2
 have dg : ∀ j∈qg,j∉p :: q1:=fun j hj hm=>by have:=o2 j hj;have:=w1.lt j hm;omega
 obtain ⟨X3,q3,e3,w3,s3⟩:=Zyb (n:=n+7) (l:=Qp s.K) (fun x hx=>by have:=g4 x hx;omega) (by omega) r2 dg (by rw [WO];omega) w2
 have e3 : R (n+11) KO [pt p,vg] X2=_:=e3
 have m3:=m12.more s3 m1.2
 have e4 : R (n+11) W8 [pt d] X3=some (iv s.A.length,X3):=Zy1 (n:=n+10) (hd.hle m3.1)
 have hfew:=hd.inv.few
 have c4 : cvi .u16 (iv s.A.length) X3=some (.int .u16 s.A.length,X3):=by rw [Qx,ZwN,Int.emod_eq_of_lt (by omega) (by omega)]
 have hlr:=Zhk (b:=12) g4
 have hlr2 : (Qp s.K).length * (12+2)≤6 * (12+2):=Nat.mul_le_mul_right _ g3
 obtain ⟨X4,q4,e5,w4,s4⟩:=Zs8 (n:=n+9) (x:=s.A.length) (by omega) (by rw [List.length_append,WO];omega) w3
 have e5 : R (n+11) Yw [pt p,.int .u16 s.A.length] X3=_:=e5
 have m4:=m3.1.more s4 m3.2
 obtain ⟨va,qa,us,X5,e6,o6,u6,l6⟩:=ZyV (n:=n+3) (hd.hle m4.1)
 have e6 : R (n+11) Zbd [pt d] X4=_:=e6
 have w5:=w4.hle l6
 have hlen : us.length=s.A.length:=by
  have h1:=congrArg List.length u6
  unfold A.allK at h1
  rw [List.length_map,List.length_map,Zb8] at h1
  simpa using h1
 have hla : Zw va X5=some (iv us.length,X5):=by have:=o6.r.rd.len (H':=X5);rwa [List.length_map] at this
 have hE : ∀ u∈us,Yi u=0:=fun u hu=>by
  have:=g1 (ZF u) (by rw [← u6];exact List.mem_map.2 ⟨u,hu,rfl⟩)
  rw [ZqN,this];rfl
 have da : ∀ j,X4.length≤j→j∉p :: q4:=fun j hj hm=>by have:=w4.lt j hm;omega
 obtain ⟨X6,q6,e7,w6,s6⟩:=Zwc (n:=n) (p:=p) (us:=us) (by omega) hE us.length 0 _ q4 X5 (by omega) (by omega) o6.r (fun j hj=>da j (o6.o j hj)) (fun u hu=>by
  obtain ⟨qu,a1,a2,_⟩:=o6.u u hu
  exact ⟨qu,a1,fun j hj=>da j (a2 j hj).1⟩) (by rw [List.length_append,List.length_append,WO,WO];omega) w5
 rw [show iv ((0 : Nat) : Int)=.int .i64 0 from rfl] at e7
 rw [List.drop_zero,u6] at w6
 have m6:=(m4.1.trans l6).more s6 m4.2
 have heq : le 2 1++ZcW (Qp s.K)++le s.A.length 2++Kf (A.allK s)=Zda (Qp s.K) (A.allK s):=by
  unfold Zda
  have : (A.allK s).length=s.A.length:=by rw [← u6,List.length_map,hlen]
  rw [this]
  simp [List.append_assoc]
 rw [heq] at w6
 have hel:=Zs6 (fun k hk=>Zp4 (g1 k hk)) g2 g3 g4
 obtain ⟨v,qv,X7,e8,r7,l7,o7⟩:=Zzl (n:=n+9) (by omega) w6
 have e8 : R (n+11) KR [pt p] X6=_:=e8
 refine ⟨v,qv,X7,?_,r7,m6.1.trans l7,fun j hj=>by have h1:=o7 j hj;have h2:=m6.1.len;omega⟩
 rw [R,ZiF rfl]
 unfold K4
 rw [Za q0,Zb,if_neg (by simp),Za z1,Za z2,Za e1,Za e2,Za e3,Za e4,Za c4,Za e5,Za e6,Za hla,ZY e7,ZG,Yq,Za e8]
 rfl
end
end Go.Proofs.YtedkoimihknggaaGreatDoor.A

namespace Go.Proofs.YtedkoimihknggaaGreatDoor.A
set_option linter.unusedVariables false
set_option maxRecDepth 100000
set_option linter.unusedSimpArgs false
open Go.Proofs Go.Proofs.YtedkoimihknggaaGreatDoor
section
variable {H X X' : Zd} {n p : Nat} {s : RSt} {sl v : Value} {q : List Nat} {l : List Tx}
theorem Zzc (h : Rdr H p s) : ∃ H',R (n+5) WW [pt p] H=some (.bool (Zhs s).1,H')∧Rdr H' p (Zhs s).2∧Zz [p] H [p] H':=by
 obtain ⟨H1,e1,r1,s1⟩:=ZxI (n:=n) h
 have q1 : bop .int .gtr (.int .u8 (J2 1 s).1) (.int .u8 1) H1=some (.bool (decide (1 < (J2 1 s).1)),H1):=by
  rw [Qg,show (decide (((J2 1 s).1 : Int) > 1))=decide (1 < (J2 1 s).1) from decide_eq_decide.2 (by omega)]
 have q2 : ∀ Y : Zd,bop .int .eql (.int .u8 (J2 1 s).1) (.int .u8 1) Y=some (.bool ((J2 1 s).1==1),Y):=fun Y=>by
  rw [ZD,show (((J2 1 s).1 : Int)==1)=((J2 1 s).1==1) from by rw [Bool.eq_iff_iff];simp;omega]
 unfold Zhs
 by_cases hc : 1 < (J2 1 s).1
 ·obtain ⟨H2,e2,r2,s2⟩:=ZkW (n:=n+3) (e:=4) (by omega) r1
  have e2 : R (n+4) Z5 [pt p,.int .i64 4] H1=_:=e2
  rw [if_pos hc]
  refine ⟨H2,?_,r2,s1.trans s2⟩
  rw [R,Ze7 rfl]
  unfold Zbh
  rw [Za e1,Za q1]
  refine (ZR (vs:=[.int .u8 (J2 1 s).1]) (H':=H2) ?_).trans ?_
  ·rw [decide_eq_true hc,Zb,if_pos rfl,Za e2];rfl
  ·rw [Yq,Za (q2 _)];rfl
 ·rw [if_neg hc]
  refine ⟨H1,?_,r1,s1⟩
  rw [R,Ze7 rfl]
  unfold Zbh
  rw [Za e1,Za q1]
  refine (ZR (vs:=[.int .u8 (J2 1 s).1]) (H':=H1) ?_).trans ?_
  ·rw [decide_eq_false hc,Zb,if_neg (by simp)];rfl
  ·rw [Yq,Za (q2 _)];rfl
theorem Zpg {long : Nat} : ∀ {k : Nat} {s : RSt},(Wv long k s).1.length=k
 | 0,s=>rfl
 | k+1,s=>by unfold Wv;rw [List.length_cons,Zpg]
theorem Zwa {N long : Nat} (hN : N≤100000) (hl : long≤1000000) : ∀ (t j : Nat) (s : RSt) (sl : Value) (q : List Nat) (acc : List Tx) (X : Zd),N - j=t→j≤N→acc.length≤j→Zx X sl (acc.map strv) q→(∀ i∈q,p < i)→Rdr X p s→
  ∃ X' sl' q',Zi (c5 (Ys.l1 (R (n+6)))) [pt p,iv long,sl,iv N,iv j] X=some (.ext 0 [pt p,sl'],X')∧Zx X' sl' ((acc++(Wv long t s).1).map strv) q'∧Rdr X' p (Wv long t s).2∧(∀ i∈q',p < i)∧Zz (p :: q) X (p :: q') X'
 | 0,j,s,sl,q,acc,X,ht,hj,ha,hr,hq,h=>by
  refine ⟨X,sl,q,ZL ?_,by simpa [Wv] using hr,h,hq,.refl _ _⟩
  rw [Qi,show j=N by omega]
  unfold Ys.l1
  rw [Za Zl,Zb,if_neg (by simp)]
  rfl
 | t+1,j,s,sl,q,acc,X,ht,hj,ha,hr,hq,h=>by
  have hlt : (j : Int) < N:=by omega
  obtain ⟨X1,e1,r1,s1⟩:=ZoQ (n:=n) hl h
  have hr1:=hr.step s1 (fun i hi hm=>by have:=hq i hi;simp only [List.mem_singleton] at hm;omega)
  have x4:=Ztl (es:=1) (z:=.string ⟨#[]⟩) (v:=strv (WF long s).1) (H:=X1) rfl rfl rfl
  have k2 : HLe X1 (X1++[Ze.cells [strv (WF long s).1] 1 false false]):=.app _ _
  have s2 : Sl (X1++[Ze.cells [strv (WF long s).1] 1 false false]) (.slice (some ⟨X1.length,0,none⟩) 1 1) [strv (WF long s).1]:=Sl.one (c:=1) ZB
  generalize X1++[Ze.cells [strv (WF long s).1] 1 false false]=X2 at x4 k2 s2
  have hr2:=hr1.step k2.step (by simp)
  obtain ⟨sl',X3,q',x5,hr3,s3,_⟩:=hr2.push (b:=16) s2 (by simp;omega) (by simp;omega)
  have hr3' : Zx X3 sl' ((acc++[(WF long s).1]).map strv) q':=by rw [List.map_append];exact hr3
  have hp1:=r1.lt
  have hp2:=(r1.hle k2).lt
  have hq3 : ∀ i∈q',p < i:=fun i hi=>by
   rcases s3.own i hi with h1 | h1
   ·exact hq i h1
   ·omega
  have r3:=(r1.hle k2).step s3 hq
  obtain ⟨X4,sl4,q4,e4,r4,d4,o4,st4⟩:=Zwa hN hl t (j+1) (WF long s).2 sl' q' (acc++[(WF long s).1]) X3 (by omega) (by omega) (by rw [List.length_append,List.length_singleton];omega) hr3' hq3 r3
  refine ⟨X4,sl4,q4,(ZA ?_).trans e4,by unfold Wv;simpa using r4,d4,o4,?_⟩
  ·rw [Qi]
   unfold Ys.l1
   rw [Za Zl,Zb,if_pos (by simpa using hlt),Za e1,Za x4,Za x5,Za ZC,Qd (by omega)]
   rfl
  ·refine Zz.trans ?_ st4
   have a1 : Zz (p :: q) X (p :: q) X1:=s1.more (by simp) (fun i hi=>.inl hi)
   have a2 : Zz (p :: q) X1 (p :: q) X2:=k2.stepq
   have a3 : Zz (p :: q) X2 (p :: q') X3:=s3.more (fun i hi=>List.mem_cons_of_mem _ hi) (fun i hi=>by
    rcases List.mem_cons.1 hi with rfl | hi
    ·exact .inl (by simp)
    ·exact .inr (.inl hi))
   exact (a1.trans a2).trans a3
theorem ZyK {most long : Nat} (hm : most≤1000000) (hl : long≤1000000) (h : Rdr H p s) : ∃ v q H',R (n+7) KH [pt p,iv most,iv long] H=some (v,H')∧Zx H' v ((ZeC most long s).1.map strv) q∧Rdr H' p (ZeC most long s).2∧(∀ j∈q,H.length≤j)∧Zz [p] H [p] H':=by
 obtain ⟨H1,e1,r1,s1⟩:=Zub (n:=n+1) hm h
 have e1 : R (n+6) YZ [pt p,iv most] H=_:=e1
 have hc:=Zmr (s:=s) (most:=most)
 obtain ⟨H2,sl,q,e2,r2,d2,o2,s2⟩:=Zwa (n:=n) (p:=p) (N:=(JB most s).1) (by omega) hl (JB most s).1 0 (JB most s).2 (.slice none 0 0) [] [] H1 (by omega) (by omega) (by simp) Zx.nil (by simp) r1
 rw [show iv ((0 : Nat) : Int)=.int .i64 0 from rfl] at e2
 rw [List.nil_append] at r2
 have hfresh : ∀ j∈q,H.length≤j:=fun j hj=>by
  rcases s2.own j (by simp [hj]) with h1 | h1
  ·simp only [List.mem_singleton] at h1
   have:=o2 j hj;omega
  ·exact Nat.le_trans s1.len h1
 have hst : Zz [p] H [p] H2:=⟨Nat.le_trans s1.len s2.len,fun j hj hn=>by
  have h1:=s1.keep j hj hn
  have h2 : j < H1.length:=Nat.lt_of_lt_of_le hj s1.len
  rw [s2.keep j h2 hn,h1],fun j hj=>.inl hj⟩
 have hcell : ∃ sv,H2[p]?=some (.cells [sv,iv (Wv long (JB most s).1 (JB most s).2).2.1] 1 false false):=by
  obtain ⟨sv,hcc,_⟩:=d2
  exact ⟨sv,hcc⟩
 obtain ⟨sv,hcc⟩:=hcell
 have a1 : ld1 (pa p 1) H2=some (iv (Wv long (JB most s).1 (JB most s).2).2.1,H2):=Zv hcc rfl
 have q1 : bop .int .neq (iv (Wv long (JB most s).1 (JB most s).2).2.1) (.int .i64 0) H2=some (.bool ((Wv long (JB most s).1 (JB most s).2).2.1 !=0),H2):=by rw [Zq,Zmh]
 unfold ZeC
 by_cases h0 : (Wv long (JB most s).1 (JB most s).2).2.1=0
 ·rw [if_pos h0]
  refine ⟨sl,q,H2,?_,r2,d2,hfresh,hst⟩
  rw [R,Zga rfl]
  unfold Ys
  rw [Za e1,ZY e2,ZG,Qe,Za Zs,Za Zh,Za a1,Za q1,Zb,if_neg (by simp [h0])]
  rfl
 ·rw [if_neg h0]
  refine ⟨.slice none 0 0,[],H2,?_,Zx.nil,d2,by simp,hst⟩
  rw [R,Zga rfl]
  unfold Ys
  rw [Za e1,ZY e2,ZG,Qe,Za Zs,Za Zh,Za a1,Za q1,Zb,if_pos (by simp [h0])]
  rfl
theorem Zt8 {most long : Nat} : (ZeC most long s).1.length≤65535:=by
 unfold ZeC
 have:=Zmr (s:=s) (most:=most)
 simp only []
 split
 ·rw [Zpg];omega
 ·simp
theorem ZBG (h : Rdr H p s) : ∃ u q H',R (n+11) Zdh [pt p,iv 2] H=some (.agg (Zj.cells u).toArray,H')∧ZF u=(ZjO s).1∧Zx H' u.gv (u.gs.map strv) q∧(∀ j∈q,H.length≤j)∧u.gs.length≤65535∧Rdr H' p (ZjO s).2∧Zz [p] H [p] H':=by
 have z0 : alc 1 zU H=some (pt H.length,H++[.cells (usr ([],[])) 1 false false]):=Kz (vs:=usr ([],[])) rfl
 have k0 : HLe H (H++[.cells (usr ([],[])) 1 false false]):=.app _ _
 have c0 : (H++[Ze.cells (usr ([],[])) 1 false false])[H.length]?=some (.cells (usr ([],[])) 1 false false):=ZB
 have hlt:=h.lt
 have hn0 : H.length≠p:=by omega
 generalize H++[Ze.cells (usr ([],[])) 1 false false]=X0 at z0 k0 c0
 have hlt4 : p < H.length:=hlt
 generalize hal : H.length=a at z0 c0 hn0 hlt4
 have q1 : bop .int .neq (iv 2) (.int .i64 1) X0=some (.bool true,X0):=by rw [Zq];rfl
 have q1' : bop .int .neq (iv 2) (.int .i64 2) X0=some (.bool false,X0):=by rw [Zq];rfl
 obtain ⟨X1,e1,r1,s1⟩:=ZoQ (n:=n+4) (most:=65535) (by omega) (h.hle k0)
 have e1 : R (n+10) JL [pt p,.int .i64 65535] X0=_:=e1
 obtain ⟨X2,e2,r2,s2⟩:=ZoQ (n:=n+4) (most:=65535) (by omega) r1
 have e2 : R (n+10) JL [pt p,.int .i64 65535] X1=_:=e2
 have c2:=(s1.trans s2).get c0 (by simpa using hn0)
 unfold ZjO Zmp
 simp only
 generalize WF 65535 s=T1 at e1 r1 e2 r2 ⊢
 obtain ⟨nm,t1⟩:=T1
 simp only at e1 r1 e2 r2 ⊢
 generalize WF 65535 t1=T2 at e2 r2 ⊢
 obtain ⟨hs,t2⟩:=T2
 simp only at e2 r2 ⊢
 have z3:=Zwn (k:=nm) (s:=hs) (H:=X2)
 have z4 : ∀ {β : Type} (K : Value→M β),bind (alc 1 zU) (fun q=>bind (stA 5 q (.agg (usr (nm,hs)).toArray)) fun _=>K q) X2=K (pt X2.length) (X2++[.cells (usr (nm,hs)) 1 false false]):=fun K=>Zar (n:=5) (zs:=[.string ⟨#[]⟩,.string ⟨#[]⟩,.string ⟨#[]⟩,.bool false,.slice none 0 0]) (r:=usr (nm,hs)) rfl rfl rfl rfl
 have k3 : HLe X2 (X2++[.cells (usr (nm,hs)) 1 false false]):=.app _ _
 have c3 : (X2++[Ze.cells (usr (nm,hs)) 1 false false])[X2.length]?=some (.cells (usr (nm,hs)) 1 false false):=ZB
 have hn3 : X2.length≠p:=by have:=r2.lt;omega
 have hac : a < X2.length:=Qz c2
 have hpc : p < X2.length:=r2.lt
 generalize X2++[Ze.cells (usr (nm,hs)) 1 false false]=X3 at z4 k3 c3
 generalize X2.length=c at z4 c3 hn3 hac hpc
 have r3:=r2.hle k3
 have c03:=k3 _ _ c2
 have q2 : bop .int .eql (iv 2) (.int .i64 2) X3=some (.bool true,X3):=by rw [ZD];rfl
 have s03 : Zz [p] H [p] X3:=(k0.stepq.trans (s1.trans s2)).trans k3.stepq
 obtain ⟨X4,e4,r4,s4⟩:=ZoQ (n:=n+4) (most:=65535) (by omega) r3
 have e4 : R (n+10) JL [pt p,.int .i64 65535] X3=_:=e4
 generalize WF 65535 t2=T3 at e4 r4 ⊢
 obtain ⟨ml,t3⟩:=T3
 simp only at e4 r4 ⊢
 obtain ⟨X5,e5,r5,s5⟩:=Zzc (n:=n+5) r4
 have e5 : R (n+10) WW [pt p] X4=_:=e5
 generalize Zhs t3=T4 at e5 r5 ⊢
 obtain ⟨ds,t4⟩:=T4
 simp only at e5 r5 ⊢
 obtain ⟨gv,q,X6,e6,g6,r6,o6,s6⟩:=ZyK (n:=n+3) (most:=65535) (long:=65535) (by omega) (by omega) r5
 have e6 : R (n+10) KH [pt p,.int .i64 65535,.int .i64 65535] X5=_:=e6
 have hgl:=Zt8 (most:=65535) (long:=65535) (s:=t4)
 generalize ZeC 65535 65535 t4=T5 at e6 g6 r6 hgl ⊢
 obtain ⟨gs,t5⟩:=T5
 simp only at e6 g6 r6 hgl ⊢
 have s46 : Zz [p] X3 [p] X6:=(s4.trans s5).trans s6
 have c36:=s46.get c3 (by simpa using hn3)
 have c06:=s46.get c03 (by simpa using hn0)
 have hq6 : ∀ j∈q,c < j:=fun j hj=>by
  have h1:=o6 j hj
  have h2:=Qz ((s4.trans s5).get c3 (by simpa using hn3))
  omega
 have w1 : st1 (pa c 2) (strv ml) X6=some (undef,X6.set c (.cells [strv nm,strv hs,strv ml,.bool false,.slice none 0 0] 1 false false)):=Kv (o:=2) c36 (by simp [usr]) rfl
 have w2 : st1 (pa c 3) (.bool ds) (X6.set c (.cells [strv nm,strv hs,strv ml,.bool false,.slice none 0 0] 1 false false))=some (undef,(X6.set c (.cells [strv nm,strv hs,strv ml,.bool false,.slice none 0 0] 1 false false)).set c (.cells [strv nm,strv hs,strv ml,.bool ds,.slice none 0 0] 1 false false)):=Kv (o:=3) (ZP c36) (by simp) rfl
 rw [List.set_set] at w2
 have w3 : st1 (pa c 4) gv (X6.set c (.cells [strv nm,strv hs,strv ml,.bool ds,.slice none 0 0] 1 false false))=some (undef,(X6.set c (.cells [strv nm,strv hs,strv ml,.bool ds,.slice none 0 0] 1 false false)).set c (.cells [strv nm,strv hs,strv ml,.bool ds,gv] 1 false false)):=Kv (o:=4) (ZP c36) (by simp) g6.one.1
 rw [List.set_set] at w3
 let u : Zj:=⟨nm,hs,ml,ds,gv,gs⟩
 have c37 : (X6.set c (.cells u.cells 1 false false))[c]?=some (.cells u.cells 1 false false):=ZP c36
 have c07 : (X6.set c (.cells u.cells 1 false false))[a]?=some (.cells (usr ([],[])) 1 false false):=(List.getElem?_set_ne (by omega)).trans c06
 have r7 : Rdr (X6.set c (.cells u.cells 1 false false)) p t5:=r6.other hpc
 have g7 : Zx (X6.set c (.cells u.cells 1 false false)) gv (gs.map strv) q:=g6.keep fun j hj=>List.getElem?_set_ne (by have:=hq6 j hj;omega)
 have s07 : Zz [p] H [p] (X6.set c (.cells u.cells 1 false false)):=by
  have h1:=s03.trans s46
  refine ⟨by rw [List.length_set];exact h1.len,fun j hj hm=>?_,fun j hj=>.inl hj⟩
  rw [List.getElem?_set_ne (by omega),h1.keep j hj hm]
 have w3 : st1 (pa c 4) gv (X6.set c (.cells [strv nm,strv hs,strv ml,.bool ds,.slice none 0 0] 1 false false))=some (undef,X6.set c (.cells u.cells 1 false false)):=w3
 generalize X6.set c (.cells u.cells 1 false false)=X7 at w3 c37 c07 r7 g7 s07
 have hoku : UOK X7 u:=⟨g7.rd,g7.one.1,by show gs.length≤1000000;omega⟩
 have f1 : ∀ v H',Zh0 (R (n+10)) (pt p) (iv 2) H=some (v,H')→R (n+11) Zdh [pt p,iv 2] H=some (v,H'):=fun v H' hr=>by rw [R,Znm rfl];exact hr
 have e8:=ZsO (n:=n+9) r7
 have e8 : R (n+10) QK [pt p] X7=some (iv t5.1,X7):=e8
 have hck : ((nm,hs,ml,ds,gs) : Wc)=ZF u:=rfl
 rw [hck]
 have hC : ∃ X8,(cnd (Value.bool (t5.1==0)) (bind (ldA 5 (pt c)) fun v36=>bind (R (n+10) WK [iv 2,v36]) fun v37=>bind (R (n+10) Z5 [pt p,v37]) fun v38=>ret (Out.nrm [pt p,pt a,pt c])) (ret (Out.nrm [pt p,pt a,pt c]))) X7=some (Out.nrm [pt p,pt a,pt c],X8)∧Rdr X8 p (Za3 (ZcM (ZF u)) t5)∧Zz [p] X7 [p] X8:=by
  by_cases h0 : t5.1=0
  ·have d3 : ldA 5 (pt c) X7=some (.agg u.cells.toArray,X7):=ZT (n:=5) c37 rfl
   obtain ⟨X8,e9,k9⟩:=Zhf (n:=n) hoku
   rw [ZqN] at e9
   obtain ⟨X9,e10,r10,s10⟩:=ZkW (n:=n+9) (e:=ZcM (ZF u)) (by have:=ZAX (k:=ZF u);omega) (r7.hle k9)
   have e10 : R (n+10) Z5 [pt p,iv (ZcM (ZF u))] X8=_:=e10
   refine ⟨X9,?_,r10,k9.stepq.trans s10⟩
   rw [Zb,if_pos (by simp [h0]),Za d3,Za e9,Za e10]
   rfl
  ·have hfs : Za3 (ZcM (ZF u)) t5=t5:=by unfold Za3;rw [if_neg (fun h=>h0 h.1)]
   rw [hfs]
   refine ⟨X7,?_,r7,.refl _ _⟩
   rw [Zb,if_neg (by simp [h0])]
   rfl
 obtain ⟨X8,e9,r9,s9⟩:=hC
 have e10:=ZsO (n:=n+9) r9
 have e10 : R (n+10) QK [pt p] X8=_:=e10
 have c38:=s9.get c37 (by simpa using hn3)
 have c08:=s9.get c07 (by simpa using hn0)
 have g8:=g7.step s9 (fun j hj hm=>by have:=hq6 j hj;simp only [List.mem_singleton] at hm;omega)
 have s08:=s07.trans s9
 have d4 : ldA 5 (pt c) X8=some (.agg u.cells.toArray,X8):=ZT (n:=5) c38 rfl
 have q3 : bop .int .eql (iv t5.1) (.int .i64 0) X7=some (.bool (t5.1==0),X7):=by rw [ZD,Zs5]
 generalize Za3 (ZcM (ZF u)) t5=r' at r9 e10 ⊢
 have q4 : bop .int .neq (iv r'.1) (.int .i64 0) X8=some (.bool (r'.1 !=0),X8):=by rw [Zq,Zmh]
 have hfin : ∀ (w : Zj),oneCell w.gv=true→(stA 5 (pt a) (.agg w.cells.toArray) X8=some (undef,X8.set a (.cells w.cells 1 false false))∧ldA 5 (pt a) (X8.set a (.cells w.cells 1 false false))=some (.agg w.cells.toArray,X8.set a (.cells w.cells 1 false false))∧Zz [p] H [p] (X8.set a (.cells w.cells 1 false false))∧Rdr (X8.set a (.cells w.cells 1 false false)) p r'):=fun w hw=>
  ⟨WR (vs:=w.cells) (n:=5) c08 rfl rfl (Zax hw),ZT (n:=5) (ZP c08) rfl,⟨by rw [List.length_set];exact s08.len,fun j hj hm=>by rw [List.getElem?_set_ne (by omega),s08.keep j hj hm],fun j hj=>.inl hj⟩,r9.other (by omega)⟩
 have hpre : ∀ o,(cnd (Value.bool (r'.1 !=0)) (bind (bld zU []) fun v42=>bind (stA 5 (pt a) v42) fun _=>bind (ldA 5 (pt a)) fun vr=>ret vr) (bind (ldA 5 (pt c)) fun v43=>bind (stA 5 (pt a) v43) fun _=>bind (ldA 5 (pt a)) fun vr=>ret vr)) X8=o→R (n+11) Zdh [pt p,iv 2] H=o:=fun o ho=>by
  rw [R,Znm rfl]
  unfold Zh0
  rw [Za z0,Za q1,Z4,Zo,Za q1',Z6,Qe,Za Zm]
  simp only [cond_true]
  rw [Zb,if_neg (by simp),Za e1,Za e2,Za z3,z4,Za q2]
  refine (ZR (vs:=[pt p,iv 2,pt a,pt c]) (H':=X7) ?_).trans ?_
  ·rw [Zb,if_pos rfl,Za e4,Za e5,Za e6,Za Zh,Za w1,Za Zh,Za w2,Za Zh,Za w3];rfl
  ·rw [ZI,Za e8,Za q3]
   refine (ZR e9).trans ?_
   rw [ZX,Za e10,Za q4]
   exact ho
 by_cases h0 : r'.1=0
 ·rw [if_pos h0]
  obtain ⟨f1',f2,f3,f4⟩:=hfin u g6.one.1
  refine ⟨u,q,_,hpre _ ?_,rfl,g8.keep fun j hj=>List.getElem?_set_ne (by have:=hq6 j hj;omega),fun j hj=>by have:=hq6 j hj;omega,hgl,f4,f3⟩
  rw [Zb,if_neg (by simp [h0]),Za d4,Za f1',Za f2]
  rfl
 ·rw [if_neg h0]
  obtain ⟨f1',f2,f3,f4⟩:=hfin Zhw rfl
  refine ⟨Zhw,[],_,hpre _ ?_,rfl,Zx.nil,by simp,by decide,f4,f3⟩
  have zb : bld zU [] X8=some (.agg Zhw.cells.toArray,X8):=rfl
  rw [Zb,if_pos (by simp [h0]),Za zb,Za f1',Za f2]
  rfl
end
end Go.Proofs.YtedkoimihknggaaGreatDoor.A

namespace Go.Proofs.YtedkoimihknggaaGreatDoor.A
set_option linter.unusedVariables false
set_option maxRecDepth 100000
set_option linter.unusedSimpArgs false
open Go.Proofs Go.Proofs.YtedkoimihknggaaGreatDoor
theorem ZbF.step {X0 X X' : Zd} {sl : Value} {us : List Zj} {q o1 o2 : List Nat} (h : ZbF X0 X sl us q) (hs : Zz o1 X o2 X') (hd : ∀ j,X0.length≤j→j∉o1) : ZbF X0 X' sl us q:=
 ⟨h.r.step hs fun j hj=>hd j (h.o j hj),h.o,fun w hw=>by
  obtain ⟨qu,h1,h2,h3⟩:=h.u w hw
  exact ⟨qu,h1.step hs fun j hj=>hd j (h2 j hj).1,h2,h3⟩,h.un⟩
section
variable {H X X' X0 : Zd} {n p : Nat} {s : RSt} {sl v vg bv : Value} {q qg : List Nat} {l gl : List Tx} {bs : List UInt8}
theorem Ztk {N : Nat} (hN : N≤12) (hp : p < X0.length) (hqg : ∀ j∈qg,j≠p∧j < X0.length) : ∀ (t j : Nat) (s : RSt) (sl : Value) (q : List Nat) (acc : List Zj) (X : Zd),N - j=t→j≤N→acc.length≤j→X0.length≤X.length→ZbF X0 X sl acc q→Zx X vg (gl.map strv) qg→Rdr X p s→
  ∃ X' sl' q' us,Zi (c5 (KY.l1 (R (n+12)))) [pt p,vg,sl,iv N,iv j] X=some (.ext 0 [pt p,vg,sl'],X')∧ZbF X0 X' sl' (acc++us) q'∧us.map ZF=(ZdY t s).1∧Zx X' vg (gl.map strv) qg∧Rdr X' p (ZdY t s).2∧Zz (p :: q) X (p :: q') X'
 | 0,j,s,sl,q,acc,X,ht,hj,ha,hX,ho,hg,h=>by
  refine ⟨X,sl,q,[],ZL ?_,by rw [List.append_nil];exact ho,rfl,hg,h,.refl _ _⟩
  rw [Qi,show j=N by omega]
  unfold KY.l1
  rw [Za Zl,Zb,if_neg (by simp)]
  rfl
 | t+1,j,s,sl,q,acc,X,ht,hj,ha,hX,ho,hg,h=>by
  have hlt : (j : Int) < N:=by omega
  obtain ⟨u,qu,X1,e1,k1,r1,o1,gl1,d1,s1⟩:=ZBG (n:=n+1) h
  have ho1:=ho.step s1 (fun j hj hm=>by simp only [List.mem_singleton] at hm;omega)
  have hg1:=hg.step s1 (fun j hj hm=>by simp only [List.mem_singleton] at hm;exact (hqg j hj).1 hm)
  obtain ⟨x,X2,sl',X3,q',a1,a2,ho3,s3⟩:=ho1.push0 (w:=u) (by omega) r1 (fun i hi=>⟨by have:=o1 i hi;omega,fun hm=>by have:=ho.r.lt i hm;have:=o1 i hi;omega⟩) (by omega) (fun a ha i hi hm=>by obtain ⟨qa,b1,_,_⟩:=ho.u a ha;have h1:=b1.lt i (b1.own_of hi);have h2:=o1 i hm;omega) (Nat.le_trans hX s1.len)
  have hg3:=hg1.step s3 (fun j hj hm=>by have:=ho.o j hm;have:=(hqg j hj).2;omega)
  have d3:=d1.step s3 (fun j hj=>by have:=ho.o j hj;omega)
  obtain ⟨X4,sl4,q4,us4,e4,ho4,k4,hg4,d4,s4⟩:=Ztk hN hp hqg t (j+1) (ZjO s).2 sl' q' (acc++[u]) X3 (by omega) (by omega) (by rw [List.length_append,List.length_singleton];omega) (Nat.le_trans hX (Nat.le_trans s1.len s3.len)) ho3 hg3 d3
  refine ⟨X4,sl4,q4,u :: us4,(ZA ?_).trans e4,by rw [List.append_assoc] at ho4;exact ho4,?_,hg4,d4,?_⟩
  ·rw [Qi]
   unfold KY.l1
   rw [Za Zl,Zb,if_pos (by simpa using hlt),Za e1,Za a1,Za a2,Za ZC,Qd (by omega)]
   rfl
  ·unfold ZdY
   rw [List.map_cons,k1,k4]
  ·have b1 : Zz (p :: q) X (p :: q) X1:=s1.more (fun i hi=>by simp at hi;simp [hi]) (fun i hi=>.inl hi)
   have b2 : Zz (p :: q) X1 (p :: q') X3:=s3.more (fun i hi=>List.mem_cons_of_mem _ hi) (fun i hi=>by
    rcases List.mem_cons.1 hi with rfl | hi
    ·exact .inl (by simp)
    ·exact .inr (.inl hi))
   exact (b1.trans b2).trans s4
theorem ZrI : ∀ (k : Nat) (s : RSt),(ZdY k s).1.length=k
 | 0,s=>rfl
 | k+1,s=>by unfold ZdY;rw [List.length_cons,ZrI]
theorem Zvd (hs : Sl X bv (u8s bs)) (hb : bs.length≤100000000) : ∃ dv X',R (n+13) ZbD [bv] X=some (.tuple #[dv,iv (Zh7 bs).1],X')∧HLe X X'∧((Zh7 bs).1≠0→dv=.pointer none)∧((Zh7 bs).1=0→∃ d r s c us,dv=pt d∧OfS X X' d r s c (Zh7 bs).2.1 us∧us.map ZF=(Zh7 bs).2.2):=by
 obtain ⟨p,X0,e0,r0,k0,hp0⟩:=Zxa (n:=n+10) hs (by omega)
 have e0 : R (n+12) Zet [bv] X=_:=e0
 obtain ⟨X1,e1,r1,s1⟩:=ZxI (n:=n+8) r0
 have e1 : R (n+12) Kj [pt p] X0=_:=e1
 have hpo : ∀ j∈[p],X.length≤j:=by simpa using hp0
 have m1:=k0.more s1 hpo
 have e2 : R (n+12) QK [pt p] X1=_:=ZsO (n:=n+11) r1
 have f1 : ∀ v X',KY (R (n+12)) bv X=some (v,X')→R (n+13) ZbD [bv] X=some (v,X'):=fun v X' hr=>by rw [R,Zkb rfl];exact hr
 unfold Zh7
 simp only
 generalize J2 1 (0,bs)=B at e1 r1 e2 ⊢
 obtain ⟨b0,t1⟩:=B
 simp only at e1 r1 e2 ⊢
 have q1 : bop .int .eql (iv t1.1) (.int .i64 0) X1=some (.bool (t1.1==0),X1):=by rw [ZD,Zs5]
 have q2 : bop .int .neq (.int .u8 b0) (.int .u8 2) X1=some (.bool (b0 !=2),X1):=by
  rw [Zq,show ((b0 : Int) !=2)=(b0 !=2) from by rw [Bool.eq_iff_iff];simp;omega]
 have hgate : ∀ K : Value→M Value,bind (ZJ (.bool (t1.1==0)) true 2 (bind (bop .int .neq (.int .u8 b0) (.int .u8 2)) fun v21=>ret [.int .u8 b0,v21])) (c2 fun _ q=>bind (pick (.bool (t1.1==0)) q (.bool false)) K) X1=K (.bool ((t1.1==0) && (b0 !=2))) X1:=fun K=>by
  cases t1.1==0
  ·rw [Za (g_r.trans (if_neg (by simp)))]
   simp only [List.replicate]
   rw [Qe,Za Zm]
   rfl
  ·rw [Z4,Zo,Za q2,Z6,Qe,Za Zm]
   rfl
 by_cases hbad : t1.1=0∧b0≠2
 ·rw [if_pos hbad]
  have hbb : ((t1.1==0) && (b0 !=2))=true:=by simp [hbad]
  rw [hbb] at hgate
  refine ⟨.pointer none,X1,f1 _ _ ?_,m1.1,fun _=>rfl,fun h=>absurd h (by simp)⟩
  unfold KY
  rw [Za e0,Za e1,Za e2,Za q1]
  refine (hgate _).trans ?_
  rw [Zb,if_pos rfl]
  rfl
 ·rw [if_neg hbad]
  have hbb : ((t1.1==0) && (b0 !=2))=false:=by
   cases h1 : (t1.1==0) <;> cases h2 : (b0 !=2) <;> simp at h1 h2 ⊢
   exact hbad ⟨h1,h2⟩
  rw [hbb] at hgate
  obtain ⟨vg,qg,X2,e3,g3,r3,o3,s3⟩:=ZyK (n:=n+5) (most:=6) (long:=12) (by omega) (by omega) r1
  have e3 : R (n+12) KH [pt p,.int .i64 6,.int .i64 12] X1=_:=e3
  obtain ⟨X3,e4,r4,s4⟩:=ZAo (n:=n+8) r3
  have e4 : R (n+12) KM [pt p] X2=_:=e4
  have m3:=m1.1.more (s3.trans s4) hpo
  have hpl:=r1.lt
  have hg4:=g3.step s4 (fun j hj hm=>by have:=o3 j hj;simp only [List.mem_singleton] at hm;omega)
  have hnl:=Ziw (s:=(ZeC 6 12 t1).2) (k:=2)
  have hrl : (ZeC 6 12 t1).1.length≤65535:=Zt8
  unfold ZwZ
  simp only
  generalize ZeC 6 12 t1=G at e3 g3 r3 e4 r4 hnl hg4 hrl ⊢
  obtain ⟨gl,t2⟩:=G
  simp only at e3 g3 r3 e4 r4 hnl hg4 hrl ⊢
  generalize J2 2 t2=N at e4 r4 hnl ⊢
  obtain ⟨nv,t3⟩:=N
  simp only at e4 r4 hnl ⊢
  have cI : cvi .i64 (.int .u16 nv) X3=some (iv nv,X3):=by rw [Qx,w64 (by omega) (by omega)]
  have q3 : bop .int .gtr (iv nv) (.int .i64 12) X3=some (.bool (decide (12 < nv)),X3):=by
   rw [Qg,show (decide ((nv : Int) > 12))=decide (12 < nv) from decide_eq_decide.2 (by omega)]
  have hM : ∃ X4,(cnd (Value.bool (decide (12 < nv))) (bind (R (n+12) Z5 [pt p,(Value.int .i64 7)]) fun v31=>ret (Out.nrm [pt p,vg,(Value.int .i64 0)])) (ret (Out.nrm [pt p,vg,iv nv]))) X3=some (Out.nrm [pt p,vg,iv ((if nv > 12 then ((0 : Nat),Za3 7 t3) else (nv,t3)).1 : Nat)],X4)∧Rdr X4 p (if nv > 12 then ((0 : Nat),Za3 7 t3) else (nv,t3)).2∧Zz [p] X3 [p] X4:=by
   by_cases h12 : nv > 12
   ·obtain ⟨X4,e5,r5,s5⟩:=ZkW (n:=n+11) (e:=7) (by omega) r4
    have e5 : R (n+12) Z5 [pt p,.int .i64 7] X3=_:=e5
    rw [if_pos h12]
    refine ⟨X4,?_,r5,s5⟩
    rw [decide_eq_true h12,Zb,if_pos rfl,Za e5]
    rfl
   ·rw [if_neg h12]
    refine ⟨X3,?_,r4,.refl _ _⟩
    rw [decide_eq_false h12,Zb,if_neg (by simp)]
    rfl
  obtain ⟨X4,e5,r5,s5⟩:=hM
  have hNle : (if nv > 12 then ((0 : Nat),Za3 7 t3) else (nv,t3)).1≤12:=by
   split
   ·simp
   ·simp only;omega
  generalize (if nv > 12 then ((0 : Nat),Za3 7 t3) else (nv,t3))=Mm at e5 r5 hNle ⊢
  obtain ⟨N,t4⟩:=Mm
  simp only at e5 r5 hNle ⊢
  have m4:=m3.1.more s5 hpo
  have hg5:=hg4.step s5 (fun j hj hm=>by have:=o3 j hj;simp only [List.mem_singleton] at hm;omega)
  have hp4:=r5.lt
  have hqg : ∀ j∈qg,j≠p∧j < X4.length:=fun j hj=>⟨by have:=o3 j hj;omega,hg5.lt j hj⟩
  obtain ⟨X5,sl,q,us,e6,ho6,k6,hg6,r6,s6⟩:=Ztk (n:=n) (X0:=X4) (vg:=vg) (gl:=gl) hNle hp4 hqg N 0 t4 (.slice none 0 0) [] [] X4 (by omega) (by omega) (by simp) (Nat.le_refl _) ⟨QY.nil,by simp,by simp,by simp⟩ hg5 r5
  rw [show iv ((0 : Nat) : Int)=.int .i64 0 from rfl] at e6
  rw [List.nil_append] at ho6
  have hlus : us.length≤12:=by
   have:=congrArg List.length k6
   rw [List.length_map,ZrI] at this
   omega
  have hown6 : ∀ j∈p :: q,X.length≤j:=fun j hj=>by
   rcases List.mem_cons.1 hj with rfl | hj
   ·exact hp0
   ·exact Nat.le_trans m4.1.len (ho6.o j hj)
  have m6 : HLe X X5:=(m4.1.more s6 hpo).1
  generalize ZdY N t4=U at k6 r6 ⊢
  obtain ⟨ul,t5⟩:=U
  simp only at k6 r6 ⊢
  subst k6
  have e7 : R (n+12) QK [pt p] X5=_:=ZsO (n:=n+11) r6
  have hpre : ∀ o,(bind (R (n+12) QK [pt p]) fun y21=>
    bind (bop .int .neq y21 (Value.int .i64 0)) fun y22=>
    cnd y22 (ret (Value.tuple #[(Value.pointer none),y21]))
    (bind (R (n+12) Zbt [sl,vg]) fun y23=>bind (Zn y23 0) fun y24=>bind (Zn y23 1) fun y25=>bind (bop .int .eql y25 (Value.int .i64 0)) fun y26=>
    jn (cnd y26 (bind (R (n+12) KI [pt p]) fun y27=>ret (.nrm [y24,y27])) (ret (.nrm [y24,y25]))) (c2 fun q28_0 q28_1=>
    bind (bop .int .neq q28_1 (Value.int .i64 0)) fun y29=>
    cnd y29 (ret (Value.tuple #[(Value.pointer none),q28_1])) (ret (Value.tuple #[q28_0,(Value.int .i64 0)]))) noX ret)) X5=o→R (n+13) ZbD [bv] X=o:=fun o ho=>by
   rw [R,Zkb rfl]
   unfold KY
   rw [Za e0,Za e1,Za e2,Za q1]
   refine (hgate _).trans ?_
   rw [Zb,if_neg (by simp),Za e3,Za e4,Za cI,Za q3]
   refine (ZR e5).trans ?_
   rw [ZX,ZY e6,ZG,ZX]
   exact ho
  by_cases h5 : t5.1≠0
  ·rw [if_pos h5]
   have q4 : bop .int .neq (iv t5.1) (.int .i64 0) X5=some (.bool true,X5):=by rw [Zq,Zmh];simp [h5]
   refine ⟨.pointer none,X5,hpre _ ?_,m6,fun _=>rfl,fun h=>absurd h h5⟩
   rw [Za e7,Za q4,Zb,if_pos rfl]
   rfl
  ·rw [if_neg h5]
   have h5 : t5.1=0:=Decidable.of_not_not h5
   have q4 : bop .int .neq (iv t5.1) (.int .i64 0) X5=some (.bool false,X5):=by rw [Zq,Zmh];simp [h5]
   obtain ⟨X6,k7,h7⟩:=ZyD (n:=n) (us:=us) (gs:=gl) (by omega) (by omega) ho6.us hg6.rd
   rw [Zv8] at h7
   have m7:=m6.trans k7
   by_cases hE : ofK (us.map ZF) gl≠0
   ·rw [if_pos hE]
    have hE' : ¬ ((ofK (us.map ZF) gl : Int)=0):=by omega
    rw [if_neg hE'] at h7
    have q5 : bop .int .eql (iv (ofK (us.map ZF) gl)) (.int .i64 0) X6=some (.bool false,X6):=by rw [ZD,Zs5];simp [hE]
    have q6 : bop .int .neq (iv (ofK (us.map ZF) gl)) (.int .i64 0) X6=some (.bool true,X6):=by rw [Zq,Zmh];simp [hE]
    refine ⟨.pointer none,X6,hpre _ ?_,m7,fun _=>rfl,fun h=>absurd h hE⟩
    rw [Za e7,Za q4,Zb,if_neg (by simp),Za h7,Za Zu,Za Zt,Za q5]
    refine (ZR (vs:=[.pointer none,iv (ofK (us.map ZF) gl)]) (H':=X6) ?_).trans ?_
    ·rw [Zb,if_neg (by simp)];rfl
    ·rw [Qe,Za q6,Zb,if_pos rfl];rfl
   ·rw [if_neg hE]
    have hE : ofK (us.map ZF) gl=0:=Decidable.of_not_not hE
    rw [if_pos (by rw [hE];rfl)] at h7
    obtain ⟨d,r,st,c,e8,hS⟩:=h7
    have q5 : bop .int .eql (iv 0) (.int .i64 0) X6=some (.bool true,X6):=by rw [ZD];rfl
    have e9 : R (n+12) KI [pt p] X6=some (iv (Zhp t5),X6):=ZCC (n:=n+11) (r6.hle k7)
    have hS' : OfS X X6 d r st c gl us:=⟨m7,hS.nd,fun i hi=>Nat.le_trans m6.len (hS.own i hi),hS.K,hS.ok⟩
    by_cases h6 : t5.2≠[]
    ·rw [if_pos h6]
     have he : Zhp t5=3:=by unfold Zhp;rw [if_pos h5,if_neg h6]
     rw [he] at e9
     have q6 : bop .int .neq (iv ((3 : Nat) : Int)) (.int .i64 0) X6=some (.bool true,X6):=by rw [Zq];rfl
     refine ⟨.pointer none,X6,hpre _ ?_,m7,fun _=>rfl,fun h=>absurd h (by simp)⟩
     rw [Za e7,Za q4,Zb,if_neg (by simp),Za e8,Za Zu,Za Zt,Za q5]
     refine (ZR (vs:=[pt d,iv ((3 : Nat) : Int)]) (H':=X6) ?_).trans ?_
     ·rw [Zb,if_pos rfl,Za e9];rfl
     ·rw [Qe,Za q6,Zb,if_pos rfl];rfl
    ·rw [if_neg h6]
     have h6 : t5.2=[]:=Decidable.of_not_not h6
     have he : Zhp t5=0:=by unfold Zhp;rw [if_pos h5,if_pos h6]
     rw [he] at e9
     have q6 : bop .int .neq (iv ((0 : Nat) : Int)) (.int .i64 0) X6=some (.bool false,X6):=by rw [Zq];rfl
     refine ⟨pt d,X6,hpre _ ?_,m7,fun h=>absurd rfl h,fun _=>⟨d,r,st,c,us,rfl,hS',rfl⟩⟩
     rw [Za e7,Za q4,Zb,if_neg (by simp),Za e8,Za Zu,Za Zt,Za q5]
     refine (ZR (vs:=[pt d,iv ((0 : Nat) : Int)]) (H':=X6) ?_).trans ?_
     ·rw [Zb,if_pos rfl,Za e9];rfl
     ·rw [Qe,Za q6,Zb,if_neg (by simp)];rfl
end
end Go.Proofs.YtedkoimihknggaaGreatDoor.A

namespace Go.Proofs.YtedkoimihknggaaGreatDoor.A
set_option linter.unusedVariables false
set_option maxRecDepth 100000
set_option linter.unusedSimpArgs false
open Go.Proofs Go.Proofs.YtedkoimihknggaaGreatDoor
section
variable {H X X' H0 : Zd} {n p : Nat} {sl v gv uv : Value} {l N : List Tx} {us : List Zj} {u : Zj} {b : Bool}
theorem Zv3 (hl : ∀ x∈l,x.length≤1000) (hs : Sl H0 gv (l.map strv)) (hn : l.length≤1000) : ∀ (t j : Nat) (s : List UInt8) (X : Zd),l.length - j=t→j≤l.length→s.length+t * 1002≤100000000→HLe H0 X→
  ∃ X',Zi (c4 (Zby.l1 (R (n+2)))) [strv s,gv,iv l.length,iv j] X=some (.ext 0 [strv (s++((l.drop j).map txt).flatten)],X')∧HLe H0 X'
 | 0,j,s,X,ht,hj,hb,hle=>by
  rw [List.drop_eq_nil_of_le (by omega)]
  refine ⟨X,ZL ?_,hle⟩
  rw [ZI,show j=l.length by omega]
  unfold Zby.l1
  rw [Za Zl,Zb,if_neg (by simp)]
  simp
  rfl
 | t+1,j,s,X,ht,hj,hb,hle=>by
  have hkl : j < l.length:=by omega
  have hlt : (j : Int) < l.length:=by omega
  have hg:=List.getElem?_eq_getElem hkl
  have hd:=List.drop_eq_getElem_cons hkl
  generalize l[j]=y at hg hd
  have hy:=hl y (List.mem_of_getElem? hg)
  have x1:=(hs.mono hle).ix (i:=j) (by simpa using hkl) .i64 X
  have x2:=(hs.mono hle).ldx (Yb hg)
  obtain ⟨X1,e1,k1⟩:=ZmF (n:=n) (s:=y) (H:=X) (by omega)
  have c3 : bop .str .add (strv s) (strv (txt y)) X1=some (strv (s++txt y),X1):=QM (by rw [YC];omega)
  obtain ⟨X2,e2,k2⟩:=Zv3 hl hs hn t (j+1) (s++txt y) X1 (by omega) (by omega) (by rw [List.length_append,YC];omega) (hle.trans k1)
  refine ⟨X2,(ZA ?_).trans (e2.trans ?_),k2⟩
  ·rw [ZI]
   unfold Zby.l1
   rw [Za Zl,Zb,if_pos (by simpa using hlt),Za x1,Za x2,Za e1,Za c3,Za ZC,Qd (by omega)]
   rfl
  ·rw [hd,List.map_cons,List.flatten_cons,← List.append_assoc]
theorem Zx3 (hl : ∀ x∈l,x.length≤1000) (hs : Sl H gv (l.map strv)) (hn : l.length≤1000) : ∃ H',R (n+3) Zdp [gv] H=some (strv (ZcW l),H')∧HLe H H':=by
 have hlen : ∀ Y,Zw gv Y=some (iv l.length,Y):=fun Y=>by have:=hs.len (H':=Y);simpa using this
 obtain ⟨X1,e1,k1⟩:=Zud (n:=n+1) (N:=2) (x:=l.length) (H:=H) (by omega) (by omega)
 have e1 : R (n+2) Zal [.int .u64 l.length,.int .i64 2] H=_:=e1
 obtain ⟨X2,e2,k2⟩:=Zv3 (n:=n) hl (hs.mono k1) hn l.length 0 (le l.length 2) X1 (by omega) (by omega) (by rw [WO];omega) (.refl _)
 rw [show iv ((0 : Nat) : Int)=.int .i64 0 from rfl,List.drop_zero] at e2
 refine ⟨X2,?_,k1.trans k2⟩
 rw [R,Ztn rfl]
 unfold Zby
 rw [Za (hlen _),Za (ZzD (by omega)),Za e1,Za (hlen _),ZY e2,ZG]
 rfl
theorem Zz0 : R (n+1) Zdk [.bool b] H=some (strv (Zcs b),H):=by
 rw [R,Zqq rfl]
 unfold Zhq
 cases b
 ·rw [Zb,if_neg (by simp)];rfl
 ·rw [Zb,if_pos rfl];rfl
theorem ZAg (hk : ZgY (ZF u)) (ok : UOK H u) : ∃ H',R (n+4) ZfI [iv 2,.agg u.cells.toArray] H=some (strv (Zd2 (ZF u)),H')∧HLe H H':=by
 have h1 : u.nm.length≤12:=hk.n
 have h2 : u.hs.length≤12:=hk.h
 have h3 : u.ml.length≤20:=hk.m
 have h4 : u.gs.length≤6:=hk.g
 have h5 : ∀ x∈u.gs,x.length≤12:=hk.gs
 have z1:=ok.cells1
 have k1 : HLe H (H++[Ze.cells u.cells 1 false false]):=.app _ _
 have c1 : (H++[Ze.cells u.cells 1 false false])[H.length]?=some (.cells u.cells 1 false false):=ZB
 generalize H++[Ze.cells u.cells 1 false false]=X1 at z1 k1 c1
 generalize H.length=w at z1 c1
 have a : ∀ Y,HLe X1 Y→∀ f x,u.cells[f]?=some x→ld1 (pa w f) Y=some (x,Y):=fun Y hl f x h=>Zv (hl _ _ c1) h
 obtain ⟨X2,e2,k2⟩:=ZmF (n:=n+1) (s:=u.nm) (H:=X1) (by omega)
 have e2 : R (n+3) K1 [strv u.nm] X1=_:=e2
 obtain ⟨X3,e3,k3⟩:=ZmF (n:=n+1) (s:=u.hs) (H:=X2) (by omega)
 have e3 : R (n+3) K1 [strv u.hs] X2=_:=e3
 have k13:=k2.trans k3
 have p3 : bop .str .add (strv (txt u.nm)) (strv (txt u.hs)) X3=some (strv (txt u.nm++txt u.hs),X3):=QM (by rw [YC,YC];omega)
 have q3 : bop .int .eql (iv 2) (.int .i64 2) X3=some (.bool true,X3):=by rw [ZD];rfl
 obtain ⟨X4,e4,k4⟩:=ZmF (n:=n+1) (s:=u.ml) (H:=X3) (by omega)
 have e4 : R (n+3) K1 [strv u.ml] X3=_:=e4
 have k14:=k13.trans k4
 have p4 : bop .str .add (strv (txt u.nm++txt u.hs)) (strv (txt u.ml)) X4=some (strv (txt u.nm++txt u.hs++txt u.ml),X4):=QM (by rw [List.length_append,YC,YC,YC];omega)
 have e5 : R (n+3) Zdk [.bool u.ds] X4=some (strv (Zcs u.ds),X4):=Zz0 (n:=n+2)
 have p5 : bop .str .add (strv (txt u.nm++txt u.hs++txt u.ml)) (strv (Zcs u.ds)) X4=some (strv (txt u.nm++txt u.hs++txt u.ml++Zcs u.ds),X4):=QM (by rw [List.length_append,List.length_append,YC,YC,YC,Zg2];omega)
 obtain ⟨X6,e6,k6⟩:=Zx3 (n:=n) (l:=u.gs) (H:=X4) (fun x hx=>by have:=h5 x hx;omega) (ok.hle (k1.trans k14)).1 (by omega)
 have hrl:=Zhk h5
 have h6 : u.gs.length * (12+2)≤6 * (12+2):=Nat.mul_le_mul_right _ h4
 have p6 : bop .str .add (strv (txt u.nm++txt u.hs++txt u.ml++Zcs u.ds)) (strv (ZcW u.gs)) X6=some (strv (Zd2 (ZF u)),X6):=by
  rw [QM (by rw [List.length_append,List.length_append,List.length_append,YC,YC,YC,Zg2];omega),Zyu]
  simp [List.append_assoc]
 refine ⟨X6,?_,(k1.trans k14).trans k6⟩
 rw [R,Zsh rfl]
 unfold Zip
 rw [Za z1,Za Zh,Za (a _ (.refl _) 0 _ rfl),Za Zh,Za (a _ (.refl _) 1 _ rfl),Za e2,Za (a _ k2 1 _ rfl),Qq,Za e3,Za p3,Za q3]
 refine (ZR (vs:=[strv (Zd2 (ZF u))]) (H':=X6) ?_).trans ?_
 ·rw [Zb,if_pos rfl,Za Zh,Za (a _ k13 2 _ rfl),Za Zh,Za (a _ k13 3 _ rfl),Za Zh,Za (a _ k13 4 _ rfl),Za e4,Za (a _ k14 4 _ rfl),Qq,Za (a _ k14 3 _ rfl),Qq,Za p4,Za e5,Za (a _ k14 4 _ rfl),Qq,Za p5,Za e6,Za p6]
  rfl
 ·rfl
theorem Zqe (hn : us.length≤1000) (hA : Qc H0 sl us) (hE : ∀ u∈us,ZgY (ZF u)) : ∀ (t k : Nat) (s : List UInt8) (X : Zd),us.length - k=t→k≤us.length→s.length+t * 137≤1000000→HLe H0 X→
  ∃ X',Zi (c5 (WS.l1 (R (n+4)))) [iv 2,strv s,sl,iv us.length,iv k] X=some (.ext 0 [strv (s++Kf ((us.drop k).map ZF))],X')∧HLe H0 X'
 | 0,k,s,X,ht,hk,hs,hle=>by
  rw [List.drop_eq_nil_of_le (by omega)]
  refine ⟨X,ZL ?_,hle⟩
  rw [Qi,show k=us.length by omega]
  unfold WS.l1
  rw [Za Zl,Zb,if_neg (by simp)]
  simp [Kf]
  rfl
 | t+1,k,s,X,ht,hk,hs,hle=>by
  have hkl : k < us.length:=by omega
  have hlt : (k : Int) < us.length:=by omega
  have hg:=List.getElem?_eq_getElem hkl
  have hd:=List.drop_eq_getElem_cons hkl
  generalize us[k]=u at hg hd
  have hm:=List.mem_of_getElem? hg
  have he:=hE u hm
  have hel:=Zoy he
  have hok:=(hA.mono hle).ok hm
  have hf:=fun {K : Value→M Out}=>Zdz (k:=K) (hA.mono hle).1 hok.2.1 hg
  have g1 : (X++[Ze.cells u.cells 1 false false])[X.length]?=some (.cells u.cells 1 false false):=ZB
  have k1 : HLe X (X++[Ze.cells u.cells 1 false false]):=.app _ _
  generalize X++[Ze.cells u.cells 1 false false]=X1 at g1 k1 hf
  have d1 : ldA 5 (pt X.length) X1=some (.agg u.cells.toArray,X1):=ZT (n:=5) g1 rfl
  obtain ⟨X2,e2,k2⟩:=ZAg (n:=n) he (hok.hle k1)
  have c3 : bop .str .add (strv s) (strv (Zd2 (ZF u))) X2=some (strv (s++Zd2 (ZF u)),X2):=QM (by omega)
  obtain ⟨X3,e3,k3⟩:=Zqe hn hA hE t (k+1) (s++Zd2 (ZF u)) X2 (by omega) (by omega) (by rw [List.length_append];omega) ((hle.trans k1).trans k2)
  refine ⟨X3,(ZA ?_).trans (e3.trans ?_),k3⟩
  ·rw [Qi]
   unfold WS.l1
   rw [Za Zl,Zb,if_pos (by simpa using hlt),hf,Za d1,Za e2,Za c3,Za ZC,Qd (by omega)]
   rfl
  ·rw [hd]
   simp [Kf]
theorem Zzq (hn : us.length≤12) (hA : Qc H uv us) (hE : ∀ u∈us,ZgY (ZF u)) (hs : Sl H gv (N.map strv)) (hl : ∀ x∈N,x.length≤12) (hN : N.length≤6) (o1 : oneCell uv=true) (o2 : oneCell gv=true) : ∃ H',R (n+6) ZdO [.agg #[uv,gv]] H=some (strv (Zda N (us.map ZF)),H')∧HLe H H':=by
 have z1 : alc 1 (.agg #[uv,gv]) H=some (pt H.length,H++[.cells [uv,gv] 1 false false]):=Kz (vs:=[uv,gv]) (by simp only [List.all_cons,o1,o2];rfl)
 have k1 : HLe H (H++[Ze.cells [uv,gv] 1 false false]):=.app _ _
 have c1 : (H++[Ze.cells [uv,gv] 1 false false])[H.length]?=some (.cells [uv,gv] 1 false false):=ZB
 generalize H++[Ze.cells [uv,gv] 1 false false]=X1 at z1 k1 c1
 generalize H.length=w at z1 c1
 have a0 : ∀ Y,HLe X1 Y→ld1 (pa w 0) Y=some (uv,Y):=fun Y hl=>Zv (hl _ _ c1) rfl
 have a1 : ld1 (pa w 1) X1=some (gv,X1):=Zv c1 rfl
 obtain ⟨X2,e2,k2⟩:=Zx3 (n:=n+2) (l:=N) (fun x hx=>by have:=hl x hx;omega) (hs.mono k1) (by omega)
 have e2 : R (n+5) Zdp [gv] X1=_:=e2
 have hrl:=Zhk hl
 have h6 : N.length * (12+2)≤6 * (12+2):=Nat.mul_le_mul_right _ hN
 have p2 : bop .str .add (.string ⟨#[2]⟩) (strv (ZcW N)) X2=some (strv ([2]++ZcW N),X2):=QM (a:=[2]) (by rw [List.length_singleton];omega)
 have hA2:=hA.mono (k1.trans k2)
 obtain ⟨X3,e3,k3⟩:=Zud (n:=n+3) (N:=2) (x:=us.length) (H:=X2) (by omega) (by omega)
 have e3 : R (n+4) Zal [.int .u64 us.length,.int .i64 2] X2=_:=e3
 obtain ⟨X4,e4,k4⟩:=Zqe (n:=n) (by omega) (hA2.mono k3) hE us.length 0 (le us.length 2) X3 (by omega) (by omega) (by rw [WO];omega) (.refl _)
 rw [show iv ((0 : Nat) : Int)=.int .i64 0 from rfl,List.drop_zero] at e4
 have hlen : ∀ Y,Zw uv Y=some (iv us.length,Y):=fun Y=>by have:=hA.1.len (H':=Y);rwa [List.length_map] at this
 have e5 : R (n+5) ZeF [iv 2,uv] X2=some (strv (le us.length 2++Kf (us.map ZF)),X4):=by
  rw [R,ZqI rfl]
  unfold WS
  rw [Za (hlen _),Za (ZzD (by omega)),Za e3,Za (hlen _),ZY e4,ZG]
  rfl
 have hub : (Kf (us.map ZF)).length≤us.length * 137:=by
  have:=Zi7 (ks:=us.map ZF) fun k hk=>by obtain ⟨u,hu,rfl⟩:=List.mem_map.1 hk;exact hE u hu
  rwa [List.length_map] at this
 have p5 : bop .str .add (strv ([2]++ZcW N)) (strv (le us.length 2++Kf (us.map ZF))) X4=some (strv (Zda N (us.map ZF)),X4):=by
  rw [QM (by rw [List.length_append,List.length_append,WO,List.length_singleton];omega)]
  unfold Zda
  rw [List.length_map,List.append_assoc]
  rfl
 refine ⟨X4,?_,((k1.trans k2).trans k3).trans k4⟩
 rw [R,ZsF rfl]
 unfold Zil
 rw [Za z1,Za Zh,Za a1,Za Zh,Za (a0 _ (.refl _)),Za e2,Za (a0 _ k2),Qq,Za p2,Za e5,Za p5]
 rfl
end
end Go.Proofs.YtedkoimihknggaaGreatDoor.A

namespace Go.Proofs.YtedkoimihknggaaGreatDoor.A
set_option linter.unusedVariables false
set_option linter.unusedSimpArgs false
open Go.Proofs Go.Proofs.YtedkoimihknggaaGreatDoor
section
variable {X X' H H0 : Zd} {n d c w : Nat} {r : NR} {uv gv sl : Value} {s : NSt} {u : Zcm} {ac : List Zcm}
theorem ZCg (K : Value→Value→A.M Value) : ∃ X' d r w,bind (R (n+12) K3 []) (fun v=>bind (alc 1 zD) fun b=>K v b) X=K (pt d) (pt w) X'∧NL X X' d r ⟨[],[],[],[],fun _ _=>false⟩ (.slice none 0 0) (.slice none 0 0) w 0∧X.length≤w:=by
 obtain ⟨X1,d,r,e1,D1,l1,o1,o2⟩:=Zui (n:=n+10) (X:=X)
 have e1 : R (n+12) K3 [] X=_:=e1
 have z3 : alc 1 zD X1=some (pt X1.length,X1++[.cells [.slice none 0 0,.slice none 0 0] 1 false false]):=Kz (vs:=[.slice none 0 0,.slice none 0 0]) rfl
 have k3 : HLe X1 (X1++[Ze.cells [.slice none 0 0,.slice none 0 0] 1 false false]):=.app _ _
 have c3 : (X1++[Ze.cells [.slice none 0 0,.slice none 0 0] 1 false false])[X1.length]?=some (.cells [.slice none 0 0,.slice none 0 0] 1 false false):=ZB
 refine ⟨_,d,r,X1.length,?_,⟨l1.trans k3,D1.hle k3,⟨⟨[],⟨SlN.nil,by simp⟩,⟨List.Pairwise.nil,fun key=>?_⟩⟩,⟨[],[],Zx.nil,⟨List.Pairwise.nil,by simp⟩⟩⟩,o2,c3⟩,l1.len⟩
 ·rw [Za e1,Za z3]
 ·unfold ZO
  simp [Zf]
end
end Go.Proofs.YtedkoimihknggaaGreatDoor.A

namespace Go.Proofs.YtedkoimihknggaaGreatDoor.A
set_option linter.unusedVariables false
set_option maxRecDepth 100000
set_option linter.unusedSimpArgs false
open Go.Proofs Go.Proofs.YtedkoimihknggaaGreatDoor
section
variable {X X' H H0 : Zd} {n d c w : Nat} {r : NR} {uv gv sl : Value} {s : NSt} {u : Zcm} {ac : List Zcm}
theorem ZAp {z1 : Value} (hA : ZcR H sl ac) (hn : ac.length≤9223372036854775807) (hw0 : H.length≤w) : ∀ (t j : Nat) (r : NR) (s : NSt) (uv gv : Value) (X : Zd),ac.length - j=t→j≤ac.length→NL H X d r s uv gv w j→
  ∃ X' r' s' uv' gv',Zi (c6 (Ky.l1 (R (n+12)))) [z1,pt d,pt w,sl,iv ac.length,iv j] X=some (.ext 0 [z1,pt d,pt w],X')∧NL H X' d r' s' uv' gv' w ac.length
 | 0,j,r,s,uv,gv,X,ht,hj,h=>by
  have hj : j=ac.length:=by omega
  subst hj
  refine ⟨X,r,s,uv,gv,ZL ?_,h⟩
  rw [Js]
  unfold Ky.l1
  rw [Za Zl,Zb,if_neg (by simp)]
  rfl
 | t+1,j,r,s,uv,gv,X,ht,hj,h=>by
  have hkl : j < ac.length:=by omega
  have hlt : (j : Int) < ac.length:=by omega
  have hja:=List.getElem?_eq_getElem hkl
  generalize ac[j]=u at hja
  obtain ⟨X2,r2,uv2,gv2,z,h2⟩:=ZBK (n:=n) hA hw0 hja h
  obtain ⟨X4,r4,s4,uv4,gv4,e4,h4⟩:=ZAp (z1:=z1) hA hn hw0 t (j+1) r2 (YP u s) uv2 gv2 X2 (by omega) (by omega) h2
  refine ⟨X4,r4,s4,uv4,gv4,(ZA ?_).trans e4,h4⟩
  rw [Js]
  unfold Ky.l1
  rw [Za Zl,Zb,if_pos (by simpa using hlt)]
  refine (z _).trans ?_
  rw [Za ZC,Qd (by omega)]
  rfl
theorem Zzk (hA : ZcR H sl ac) (hn : ac.length≤9223372036854775807) : ∃ X' d r s uv gv,R (n+13) Zbc [sl] H=some (.tuple #[pt d,.agg #[uv,gv]],X')∧HLe H X'∧ND X' d r s ac.length∧RD X' uv gv s∧∀ i∈r.own,H.length≤i:=by
 have z1 : alc 1 zD H=some (pt H.length,H++[.cells [.slice none 0 0,.slice none 0 0] 1 false false]):=Kz (vs:=[.slice none 0 0,.slice none 0 0]) rfl
 have k1 : HLe H (H++[Ze.cells [.slice none 0 0,.slice none 0 0] 1 false false]):=.app _ _
 have c1 : (H++[Ze.cells [.slice none 0 0,.slice none 0 0] 1 false false])[H.length]?=some (.cells [.slice none 0 0,.slice none 0 0] 1 false false):=ZB
 have hl1 : H.length < (H++[Ze.cells [.slice none 0 0,.slice none 0 0] 1 false false]).length:=by simp
 generalize H++[Ze.cells [.slice none 0 0,.slice none 0 0] 1 false false]=X1 at z1 k1 c1 hl1
 generalize hb : H.length=b at z1 c1 hl1
 obtain ⟨X2,d,r,w,z,hL,hw⟩:=ZCg (n:=n) (X:=X1) (fun v b'=>bind (Zw sl) fun l=>jn (Zi (c6 (Ky.l1 (R (n+12)))) [pt b,v,b',sl,l,(Value.int .i64 0)]) noN (xk 0 (c3 fun q16_0 q16_1 q16_2=>
  bind (ldA 2 q16_2) fun y17=>bind (stA 2 q16_0 y17) fun _=>bind (ldA 2 q16_0) fun y18=>ret (Value.tuple #[q16_1,y18])) noX) ret)
 have hA1:=hA.mono k1
 obtain ⟨X3,r3,s3,uv,gv,e3,h3⟩:=ZAp (n:=n) (z1:=pt b) hA1 hn hw ac.length 0 r _ _ _ X2 (by omega) (by omega) hL
 rw [show iv ((0 : Nat) : Int)=.int .i64 0 from rfl] at e3
 have c3:=h3.le _ _ c1
 have hal : ([uv,gv].all oneCell)=true:=by simp only [List.all_cons,h3.rd.oneU,h3.rd.oneG];rfl
 have d3 : ldA 2 (pt w) X3=some (.agg #[uv,gv],X3):=ZT h3.w rfl
 have w3:=WR (vs:=[uv,gv]) (n:=2) c3 rfl rfl hal
 have w3 : stA 2 (pt b) (.agg #[uv,gv]) X3=_:=w3
 have d4 : ldA 2 (pt b) (X3.set b (.cells [uv,gv] 1 false false))=some (.agg #[uv,gv],_):=ZT (n:=2) (ZP c3) rfl
 refine ⟨X3.set b (.cells [uv,gv] 1 false false),d,r3,s3,uv,gv,?_,(k1.trans h3.le).setN (by omega),h3.nd.setBox c3 WT WT,h3.rd.setB c3 WT WT,fun i hi=>by have:=h3.own i hi;omega⟩
 rw [R,ZpD rfl]
 unfold Ky
 rw [Za z1]
 refine z.trans ?_
 rw [Za hA1.len,ZY e3,ZG,ZX,Za d3,Za w3,Za d4]
 rfl
theorem ZrH : ∃ H',R (n+13) WM [] H=some (.bool true,H')∧HLe H H':=by
 obtain ⟨X1,d,r,e1,D1,l1,o1,o2⟩:=Zui (n:=n+10) (X:=H)
 have e1 : R (n+12) K3 [] H=_:=e1
 obtain ⟨v,q,X2,e2,r2,l2,_⟩:=Zk4 (n:=n) D1
 have hbs : Zda (Qp (⟨[],[],[],[],fun _ _=>false⟩ : NSt).K) (allK ⟨[],[],[],[],fun _ _=>false⟩)=[2,0,0,0,0]:=by
  have a1 : Qp ([] : List Tx)=[]:=List.eq_nil_of_length_eq_zero (by rw [Zb8];rfl)
  have a2 : allK (⟨[],[],[],[],fun _ _=>false⟩ : NSt)=[]:=by
   unfold allK
   have a3 : Qp (Zcb (⟨[],[],[],[],fun _ _=>false⟩ : NSt))=[]:=List.eq_nil_of_length_eq_zero (by rw [Zb8];rfl)
   rw [a3];rfl
  show Zda (Qp []) (allK _)=_
  rw [a1,a2];decide
 rw [hbs] at r2
 have q2 : bop .str .eql (strv [2,0,0,0,0]) (.string ⟨#[2,0,0,0,0]⟩) X2=some (.bool true,X2):=Zdw (b:=[2,0,0,0,0])
 refine ⟨X2,?_,l1.trans l2⟩
 rw [R,Zqo rfl]
 unfold Zhu
 rw [Za e1,Za e2,Za (ZmA r2.rd),Za q2]
 rfl
theorem Zvb : R (n+1) Zcx [] X=some (iv 1733,X):=by
 rw [R,Zr2 rfl]
 unfold Zig
 rfl
theorem Zpx (hA : ZcR H sl ac) (hn : ac.length≤9223372036854775807) : ∃ H',R (n+14) Zaf [sl] H=some (.bool true,H'):=by
 have f1 : ∀ r X',W9 (R (n+13)) sl H=some (r,X')→R (n+14) Zaf [sl] H=some (r,X'):=fun r X' hr=>by rw [R,Zkx rfl];exact hr
 obtain ⟨H1,e1,l1⟩:=ZrH (n:=n) (H:=H)
 obtain ⟨H2,e2,l2⟩:=ZBY (n:=n+12) (hA.mono l1) hn
 have e2 : R (n+13) Zao [sl] H1=_:=e2
 obtain ⟨H2',e2',l2'⟩:=ZrH (n:=n) (H:=H2)
 generalize hq : (ac.all Zn7 && decide (ac.length≤60))=fw at e2
 have step : ∀ {k : Value→A.M Value},bind (uop .not (.bool true)) (fun y2=>
   bind (ZJ y2 false 3 (bind (R (n+13) Zao [sl]) fun y3=>bind (uop .not y3) fun y4=>ret [sl,y3,y4])) (c3 fun _ _ q5_2=>
   bind (pick y2 (Value.bool true) q5_2) k)) H1=k (.bool (!fw)) H2:=fun {k}=>by
  rw [Za ZH]
  simp only [Bool.not_true]
  rw [Z4,Zo,Za e2,Zo,Za ZH,Z6,ZX,Za Zm]
  rfl
 cases fw
 ·refine ⟨H2',f1 _ _ ?_⟩
  unfold W9
  rw [Za e1]
  refine step.trans ?_
  rw [Zb,if_pos (by rfl),Za e2']
  rfl
 ·obtain ⟨X3,d,r,s,uv,gv,e3,l3,D3,R3,o3⟩:=Zzk (n:=n) (hA.mono (l1.trans l2)) hn
  have hal : ([uv,gv].all oneCell)=true:=by simp only [List.all_cons,R3.oneU,R3.oneG];rfl
  have z4 : ∀ K : Value→M Value,bind (alc 1 zD) (fun q=>bind (stA 2 q (.agg #[uv,gv])) fun _=>K q) X3=K (pt X3.length) (X3++[.cells [uv,gv] 1 false false]):=fun K=>Zar (n:=2) (zs:=[.slice none 0 0,.slice none 0 0]) (r:=[uv,gv]) rfl rfl rfl hal
  have k4 : HLe X3 (X3++[Ze.cells [uv,gv] 1 false false]):=.app _ _
  have b4 : (X3++[Ze.cells [uv,gv] 1 false false])[X3.length]?=some (.cells [uv,gv] 1 false false):=ZB
  generalize X3++[Ze.cells [uv,gv] 1 false false]=X4 at z4 k4 b4
  generalize X3.length=b at z4 b4
  have D4:=D3.hle k4
  have R4:=R3.hle k4
  have hP:=D4.pinv
  have hof:=ZxW D4
  obtain ⟨g1,g2,g3,g4,g5,_⟩:=Zw9 hof
  have hel:=Zs6 (fun k hk=>Zp4 (g1 k hk)) g2 g3 g4
  obtain ⟨v,q,X5,e5,r5,l5,o5⟩:=Zk4 (n:=n+1) D4
  have e5 : R (n+13) QL [pt d] X4=_:=e5
  obtain ⟨dv,X6,e6,l6,_,h6⟩:=Zvd (n:=n) r5.rd (by omega)
  rw [Zx9 hof] at e6 h6
  obtain ⟨d2,r2,s2,c2,us2,rfl,S2,k2⟩:=h6 rfl
  have k2 : us2.map ZF=allK s:=k2
  have hK2 : s2.K=Qp s.K:=S2.K
  have v6:=(r5.step l6.step (by simp)).rd
  have d6 : ldA 2 (pt b) X6=some (.agg #[uv,gv],X6):=ZT ((l5.trans l6) _ _ b4) rfl
  have R6:=(R4.hle l5).hle l6
  obtain ⟨us,U6,O6⟩:=R6.ex
  obtain ⟨qn,N,hN,iN⟩:=R6.n
  have hNk : N=Qp s.K:=iN.uniq ⟨Zgf hP.k.nod,fun x=>WN⟩ fun _=>Iff.rfl
  have hus : us.map ZF=allK s:=O6.all hP.n
  have hlus : us.length≤12:=by
   have:=O6.len hP.n
   have:=hP.i.few
   omega
  obtain ⟨X7,e7,l7⟩:=Zzq (n:=n+7) hlus U6 (fun u hu=>Zp4 (g1 _ (by rw [← hus];exact List.mem_map.2 ⟨u,hu,rfl⟩))) hN.rd (by rw [hNk];exact g4) (by rw [hNk];exact g3) R6.oneU R6.oneG
  rw [hNk,hus] at e7
  have e7 : R (n+13) ZdO [.agg #[uv,gv]] X6=_:=e7
  have v7:=v6.mono l7
  have q7 : bop .str .eql (strv (Zda (Qp s.K) (allK s))) (strv (Zda (Qp s.K) (allK s))) X7=some (.bool true,X7):=by rw [Zdw];simp
  have hvl : Zw v X7=some (iv (Zda (Qp s.K) (allK s)).length,X7):=by have:=v7.len (H':=X7);rwa [Q8] at this
  have e8 : R (n+13) Zcx [] X7=some (iv 1733,X7):=Zvb (n:=n+12)
  have q8 : bop .int .leq (iv (Zda (Qp s.K) (allK s)).length) (iv 1733) X7=some (.bool true,X7):=by rw [Q7,decide_eq_true (by omega)]
  have e9 : R (n+13) Zde [v] X7=some (iv 2,X7):=ZAh (n:=n+12) v7 (by omega)
  have q9 : bop .int .eql (iv 2) (.int .i64 2) X7=some (.bool true,X7):=by rw [ZD];rfl
  have q10 : bop .int .eql (iv ((0 : Nat) : Int)) (.int .i64 0) X7=some (.bool true,X7):=by rw [ZD];rfl
  have q11 : bop .ptr .neq (pt d2) (.pointer none) X7=some (.bool true,X7):=JZ
  have d7 : ldA 2 (pt b) X7=some (.agg #[uv,gv],X7):=ZT (((l5.trans l6).trans l7) _ _ b4) rfl
  obtain ⟨X8,e12,l12⟩:=Zz1 (n:=n+4) (S2.nd.hle l7) (U6.mono l7) (S2.ok.keys (k2.trans hus.symm)) ((hN.rd).mono l7) ⟨iN.asc,fun x=>by rw [iN.mem,hK2,WN]⟩ R6.oneU R6.oneG
  have e12 : R (n+13) ZcE [pt d2,.agg #[uv,gv]] X7=_:=e12
  have e13 : R (n+13) QL [.pointer none] X8=some (.slice none 0 0,X8):=Zxb (n:=n+12)
  have q13 : Zw (.slice none 0 0) X8=some (iv 0,X8):=rfl
  have q14 : bop .int .eql (iv 0) (.int .i64 0) X8=some (.bool true,X8):=by rw [ZD];rfl
  refine ⟨X8,f1 _ _ ?_⟩
  unfold W9
  rw [Za e1]
  refine step.trans ?_
  rw [Zb,if_neg (by simp),Za e3,Za Zu,Za Zt,z4,Za e5,Za e6,Za Zu,Za Zt,Za (ZmA v6),Za d6,Za e7,Za (ZmA v7),Qq,Za q7]
  rw [Jc,Z6,Jc,Za hvl,Jc,Za e8,Jc,Za q8,Za Zm]
  simp only [cond_true]
  rw [Jc,Z6,Jc,Za e9,Jc,Za q9,Za Zm]
  simp only [cond_true]
  rw [Jc,Z6,Jc,Za q10,Za Zm]
  simp only [cond_true]
  rw [Jc,Z6,Jc,Za q11,Za Zm]
  simp only [cond_true]
  rw [Jc,Z6,Jc,Za d7,Jc,Za e12,Za Zm]
  simp only [cond_true]
  rw [Jc,Za e13,Jc,Za q13,Jc,Za q14,Za Zm]
  rfl
theorem law_FolioBytes : ∀ (xs : Ins [.slc nActT]) (H : Zd) (vs : List Value),ZsQ [.slc nActT] xs→ZsS [.slc nActT] xs H vs→∃ n H',R n Zaf vs H=some (.bool true,H'):=by
 intro xs H vs hwf hrd
 obtain ⟨l,_⟩:=xs
 obtain ⟨hl,_⟩:=hwf
 obtain ⟨c1,_,rfl,hc1,h1,rfl⟩:=hrd
 obtain ⟨a,rfl⟩ : ∃ a,c1=[a]:=by
  match c1,hc1 with
  | [a],_=>exact ⟨a,rfl⟩
 obtain ⟨ac,hA,hn⟩:=Zzf hl h1
 obtain ⟨H',e⟩:=Zpx (n:=0) hA hn
 exact ⟨14,H',e⟩
end
end Go.Proofs.YtedkoimihknggaaGreatDoor.A

