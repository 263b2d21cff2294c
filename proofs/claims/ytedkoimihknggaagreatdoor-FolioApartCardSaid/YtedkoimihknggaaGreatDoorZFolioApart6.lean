/- What the law FolioApart needs (part 6). -/
import Derived.Test.YtedkoimihknggaaGreatDoorZFolioApart5
namespace Go.Proofs.YtedkoimihknggaaGreatDoor.A
set_option linter.unusedVariables false
set_option linter.unusedSimpArgs false
open Go.Proofs Go.Proofs.YtedkoimihknggaaGreatDoor
abbrev nActT : Ty:=.struct (.pair (.int .u8) (.pair .str (.pair .str (.pair .bool .unit))))
structure ZaX where
 kd : Nat
 a : Tx
 b : Tx
 is : Bool
abbrev ZaX.cells (a : ZaX) : List Value:=[.int .u8 a.kd,strv a.a,strv a.b,.bool a.is]
abbrev zNA : Value:=.agg #[.int .u8 0,.string ⟨#[]⟩,.string ⟨#[]⟩,.bool false]
theorem ZAS {x : nActT.den} {H : Zd} {cs : List Value} (hw : nActT.wf x) (h : Rd nActT x H cs) : ∃ a : ZaX,cs=a.cells∧a.kd≤255:=by
 obtain ⟨k,s,t,b,u⟩:=x
 obtain ⟨h1,h2,h3,h4,h5⟩:=h
 obtain ⟨w1,_⟩:=hw
 have h1 : cs.take 1=[.int .u8 k]:=h1
 have h2 : (cs.drop 1).take 1=[.string s]:=h2
 have h3 : ((cs.drop 1).drop 1).take 1=[.string t]:=h3
 have h4 : (((cs.drop 1).drop 1).drop 1).take 1=[.bool b]:=h4
 have h5 : (((cs.drop 1).drop 1).drop 1).drop 1=[]:=h5
 match cs,h1,h2,h3,h4,h5 with
 | [c1,c2,c3,c4],h1,h2,h3,h4,_=>
  have w1:=ZCh w1
  have key : ∀ (q : IntKind) (z : Int),0≤z→[Value.int q z]=[Value.int q (z.toNat : Nat)]:=fun q z hz=>by rw [Int.toNat_of_nonneg hz]
  refine ⟨⟨Int.toNat k,ByteArray.data s |>.toList,ByteArray.data t |>.toList,b⟩,?_,?_⟩
  ·have e20 : c2=.string s:=by simpa using h2
   have e30 : c3=.string t:=by simpa using h3
   have e40 : c4=.bool b:=by simpa using h4
   have e1 : [c1]=[Value.int .u8 (Int.toNat k : Nat)]:=Eq.trans (by simpa using h1) (key .u8 k w1.1)
   have e1 : c1=Value.int .u8 (Int.toNat k : Nat):=by simpa using e1
   have e2 : c2=strv (ByteArray.data s).toList:=e20.trans (ZvN s)
   have e3 : c3=strv (ByteArray.data t).toList:=e30.trans (ZvN t)
   rw [e1,e2,e3,e40]
  ·have : ∀ z : Int,0≤z∧z≤255→z.toNat≤255:=fun z hz=>by omega
   exact this k w1
def Zbr (H : Zd) (sl : Value) (ac : List ZaX) : Prop:=SlN 4 H sl (ac.map ZaX.cells)∧∀ a∈ac,a.kd≤255
theorem Zuf {x : (Ty.slc nActT).den} {H : Zd} {v : Value} (hwf : (Ty.slc nActT).wf x) (h : Rd (.slc nActT) x H [v]) : ∃ ac,Zbr H v ac∧ac.length≤9223372036854775807:=by
 obtain ⟨rows,h1,h2,h3,h4⟩:=ZAp hwf h
 obtain ⟨ac,h5,h6⟩:=ZpC (f:=ZaX.cells) (Q:=fun _ a=>a.kd≤255) (rows:=rows) fun r hr=>by
  obtain ⟨y,hy,hr⟩:=h2 r hr
  exact ZAS hy hr
 subst h5
 exact ⟨ac,⟨h1,h6⟩,by simpa using h3⟩
section
variable {H H' X X' : Zd} {sl : Value} {ac : List ZaX} {n d c : Nat} {s : NSt} {r : NR} {m : Tx}
theorem Zbr.len (h : Zbr H sl ac) : Zy sl H'=some (iv ac.length,H'):=by
 have:=h.1.len (H':=H')
 rwa [List.length_map] at this
theorem Zbr.mono (h : Zbr H sl ac) (hl : HLe H H') : Zbr H' sl ac:=⟨h.1.mono hl,h.2⟩
theorem Zbr.fetch {β : Type} {k : Value→M β} (h : Zbr H sl ac) {j : Nat} {a : ZaX} (hj : ac[j]?=some a) :
  bind (ixa 4 sl (iv j)) (fun p=>bind (ldA 4 p) fun v=>bind (alc 1 zNA) fun q=>bind (stA 4 q v) fun _=>k q) H=k (pt H.length) (H++[.cells a.cells 1 false false]):=by
 have hr : (ac.map ZaX.cells)[j]?=some a.cells:=by rw [List.getElem?_map,hj];rfl
 rw [h.1.fetch hr (by omega) .i64]
 exact Zao (n:=4) (zs:=[.int .u8 0,.string ⟨#[]⟩,.string ⟨#[]⟩,.bool false]) (r:=a.cells) rfl rfl rfl rfl
def ZkO (a : ZaX) : Bool:=decide (a.a.length≤50) && decide (a.b.length≤50)
theorem Zvw {H0 : Zd} (h : Zbr H0 sl ac) (hn : ac.length≤9223372036854775807) : ∀ (t j : Nat) {X : Zd},ac.length - j=t→j≤ac.length→HLe H0 X→
  ∃ X',Zi (c4 (WR.l1 (R n))) [sl,sl,iv ac.length,iv j] X=some (if (ac.drop j).all ZkO then .ext 0 [sl] else .ret (.bool false),X')∧HLe H0 X'
 | 0,j,X,ht,hj,hle=>by
  have : j=ac.length:=by omega
  subst this
  rw [List.drop_length]
  refine ⟨X,ZN ?_,hle⟩
  rw [ZJ]
  unfold WR.l1
  rw [Za Zk,Zb,if_neg (by simp)]
  rfl
 | t+1,j,X,ht,hj,hle=>by
  have hjn : j < ac.length:=by omega
  have hlt : (j : Int) < ac.length:=by omega
  have hja:=List.getElem?_eq_getElem hjn
  have hd:=List.drop_eq_getElem_cons hjn
  generalize ac[j]=a at hja hd
  have g1 : (X++[Zf.cells a.cells 1 false false])[X.length]?=some (.cells a.cells 1 false false):=ZC
  have l1 : ld1 (pa X.length 1) (X++[.cells a.cells 1 false false])=some (strv a.a,X++[.cells a.cells 1 false false]):=Zv g1 rfl
  have l2 : ld1 (pa X.length 2) (X++[.cells a.cells 1 false false])=some (strv a.b,X++[.cells a.cells 1 false false]):=Zv g1 rfl
  have hf:=fun {K : Value→M Out}=>(h.mono hle).fetch (k:=K) hja
  have k1:=hle.trans (HLe.app X [.cells a.cells 1 false false])
  generalize X++[Zf.cells a.cells 1 false false]=X1 at g1 l1 l2 k1 hf
  obtain ⟨X2,e2,k2⟩:=Zvw h hn t (j+1) (by omega) (by omega) k1
  rw [hd,List.all_cons]
  have hb : WR.l1 (R n) sl sl (iv ac.length) (iv j) X=some (if ZkO a then .nrm [sl,sl,iv ac.length,iv ((j+1 : Nat) : Int)] else .ret (.bool false),X1):=by
   unfold WR.l1
   rw [Za Zk,Zb,if_pos (by simpa using hlt),hf,Za YM,Za l1,Za ZP,Za Qk]
   unfold ZkO
   by_cases h1 : a.a.length≤50
   ·have h1' : ¬ ((a.a.length : Int) > 50):=by omega
    rw [decide_eq_false h1',Z8,Zp,Za YM,Zp,Za l2,Zp,Za ZP,Zp,Za Qk,Qb,ZJ,Za Zn,decide_eq_true h1]
    simp only [cond_false]
    by_cases h2 : a.b.length≤50
    ·have h2' : ¬ ((a.b.length : Int) > 50):=by omega
     rw [decide_eq_false h2',Zb,if_neg (by simp),Za ZB,Qi (by omega),decide_eq_true h2]
     rfl
    ·have h2' : ((a.b.length : Int) > 50):=by omega
     rw [decide_eq_true h2',Zb,if_pos rfl,decide_eq_false h2]
     rfl
   ·have h1' : ((a.a.length : Int) > 50):=by omega
    rw [decide_eq_true h1',Za (g_r.trans (if_neg (by simp)))]
    simp only [List.replicate]
    rw [ZJ,Za Zn]
    simp only [cond_true]
    rw [Zb,if_pos rfl,decide_eq_false h1]
    rfl
  cases hfa : ZkO a
  ·rw [hfa] at hb
   exact ⟨X1,QR hb,k1⟩
  ·rw [hfa] at hb
   exact ⟨X2,(ZA hb).trans e2,k2⟩
theorem ZxD (h : Zbr H sl ac) (hn : ac.length≤9223372036854775807) : ∃ H',R (n+1) WJ [sl] H=some (.bool (ac.all ZkO && decide (ac.length≤60)),H')∧HLe H H':=by
 obtain ⟨H',e,k⟩:=Zvw (n:=n) h hn ac.length 0 (by omega) (by omega) (.refl _)
 rw [List.drop_zero] at e
 have e : Zi (c4 (WR.l1 (R n))) [sl,sl,iv ac.length,.int .i64 0] H=_:=e
 refine ⟨H',?_,k⟩
 rw [R,ZsU rfl]
 unfold WR
 rw [Za h.len]
 cases hf : ac.all ZkO
 ·rw [hf] at e
  rw [Yh e];rfl
 ·rw [hf] at e
  rw [Z5 e,ZG,YT,Za h.len,Za Ja]
  simp [ret,decide_eq_decide]
  omega
end
end Go.Proofs.YtedkoimihknggaaGreatDoor.A
namespace Go.Proofs.YtedkoimihknggaaGreatDoor.A
set_option linter.unusedVariables false
set_option linter.unusedSimpArgs false
open Go.Proofs Go.Proofs.YtedkoimihknggaaGreatDoor
def JL (u : ZaX) (s : NSt) : NSt:=
 match u.kd % 11 with
 | 0=>Ky u.a u.b s
 | 1=>YW u.a s
 | 2=>YB u.a u.b s
 | 3=>QW u.a u.b s
 | 4=>J9 u.a u.is s
 | 5=>KZ u.a u.b s
 | 6=>ZhH u.a s
 | 7=>Ze5 u.a s
 | 8=>Zaq u.a u.b s
 | 9=>Wc u.a u.b s
 | _=>s
section
variable {X X' Y Y1 Y2 Y3 H0 : Zd} {n d c c' b1 b2 b3 : Nat} {r r' : NR} {uv gv uv' gv' v : Value} {s s' : NSt} {u : ZaX} {e : Int}
theorem RD.setB {b : Nat} {c1 c2 d1 d2 : Value} (h : RD Y uv gv s) (hb : Y[b]?=some (.cells [c1,c2] 1 false false)) (i1 : Wv c1) (i2 : Wv c2) : RD (Y.set b (.cells [d1,d2] 1 false false)) uv gv s:=
 ⟨h.ex.imp fun us ⟨a,b⟩=>⟨a.setD hb i1 i2,b⟩,h.n.imp fun q ⟨N,a,b⟩=>⟨N,a.setD hb i1 i2,b⟩⟩
structure Zfl (X X' : Zd) (d : Nat) (r r' : NR) (s' : NSt) (uv' gv' : Value) (c : Nat) : Prop where
 nd : ND X' d r' s' (c+1)
 rd : RD X' uv' gv' s'
 st : Zx r.own X r'.own X'
structure DoB (X Y : Zd) (b1 b2 b3 : Nat) (u : ZaX) (uv gv : Value) : Prop where
 le : HLe X Y
 h1 : Y[b1]?=some (.cells [uv,gv] 1 false false)
 h2 : Y[b2]?=some (.cells u.cells 1 false false)
 h3 : Y[b3]?=some (.cells [.slice none 0 0,.slice none 0 0] 1 false false)
 b : X.length≤b1∧b1 < b2∧b2 < b3
theorem Zdd (hR : RD X uv gv s) : ∃ b1 b2 b3 Y,(∀ {β : Type} (K : Value→Value→Value→Value→M β),bind (alc 1 (.agg #[uv,gv])) (fun v4=>bind (alc 1 (.agg u.cells.toArray)) fun v5=>bind (alc 1 zD) fun v6=>bind (fa 0 v5) fun v11=>bind (ld1 v11) fun v12=>bind (bop .int .rem v12 (Value.int .u8 11)) fun v13=>K v4 v5 v6 v13) X=K (pt b1) (pt b2) (pt b3) (.int .u8 ((u.kd % 11 : Nat) : Int)) Y)∧DoB X Y b1 b2 b3 u uv gv:=by
 have z1 : alc 1 (.agg #[uv,gv]) X=some (pt X.length,X++[.cells [uv,gv] 1 false false]):=K4 (vs:=[uv,gv]) (by simp only [List.all_cons,hR.oneU,hR.oneG];rfl)
 have k1 : HLe X (X++[Zf.cells [uv,gv] 1 false false]):=.app _ _
 have c1 : (X++[Zf.cells [uv,gv] 1 false false])[X.length]?=some (.cells [uv,gv] 1 false false):=ZC
 generalize X++[Zf.cells [uv,gv] 1 false false]=X1 at z1 k1 c1
 have z2 : alc 1 (.agg u.cells.toArray) X1=some (pt X1.length,X1++[.cells u.cells 1 false false]):=K4 (vs:=u.cells) rfl
 have k2 : HLe X1 (X1++[Zf.cells u.cells 1 false false]):=.app _ _
 have c2 : (X1++[Zf.cells u.cells 1 false false])[X1.length]?=some (.cells u.cells 1 false false):=ZC
 generalize X1++[Zf.cells u.cells 1 false false]=X2 at z2 k2 c2
 have z3 : alc 1 zD X2=some (pt X2.length,X2++[.cells [.slice none 0 0,.slice none 0 0] 1 false false]):=K4 (vs:=[.slice none 0 0,.slice none 0 0]) rfl
 have k3 : HLe X2 (X2++[Zf.cells [.slice none 0 0,.slice none 0 0] 1 false false]):=.app _ _
 have c3 : (X2++[Zf.cells [.slice none 0 0,.slice none 0 0] 1 false false])[X2.length]?=some (.cells [.slice none 0 0,.slice none 0 0] 1 false false):=ZC
 generalize X2++[Zf.cells [.slice none 0 0,.slice none 0 0] 1 false false]=X3 at z3 k3 c3
 have a0 : ld1 (pa X1.length 0) X3=some (.int .u8 u.kd,X3):=Zv (k3 _ _ c2) rfl
 have hmod : (u.kd : Int).tmod 11=((u.kd % 11 : Nat) : Int):=by rw [Int.tmod_eq_emod_of_nonneg (by omega)];omega
 have x0 : bop .int .rem (.int .u8 u.kd) (.int .u8 11) X3=some (.int .u8 ((u.kd % 11 : Nat) : Int),X3):=by rw [J2,if_neg (by omega),hmod]
 refine ⟨X.length,X1.length,X2.length,X3,fun {β} K=>by rw [Za z1,Za z2,Za z3,Za Zg,Za a0,Za x0],(k1.trans k2).trans k3,k3 _ _ (k2 _ _ c1),k3 _ _ c2,c3,Nat.le_refl _,Ql c1,Ql c2⟩
theorem ZdM (hd : ND X d r s c) (hR : RD X uv gv s) (hB : DoB X Y b1 b2 b3 u uv gv) (hl : HLe Y Y1) (rd : RD Y1 uv' gv' s') : ∃ Y2,stA 2 (pt b1) (.agg #[uv',gv']) Y1=some (undef,Y2)∧ND Y2 d r s c∧RD Y2 uv' gv' s'∧Y2[b1]?=some (.cells [uv',gv'] 1 false false)∧Y2[b2]?=some (.cells u.cells 1 false false)∧Y2[b3]?=some (.cells [.slice none 0 0,.slice none 0 0] 1 false false)∧HLe X Y2:=by
 obtain ⟨hb1,hb2,hb3⟩:=hB.b
 have g1:=hl _ _ hB.h1
 obtain ⟨iu,ig⟩:=hR.isSl
 have hal : ([uv',gv'].all oneCell)=true:=by simp only [List.all_cons,rd.oneU,rd.oneG];rfl
 have w1:=KW (vs:=[uv',gv']) (n:=2) g1 rfl rfl hal
 exact ⟨Y1.set b1 (.cells [uv',gv'] 1 false false),w1,⟨hd.toND0.box (hB.le.trans hl) hb1,hd.inv⟩,rd.setB g1 iu ig,ZM g1,(List.getElem?_set_ne (by omega)).trans (hl _ _ hB.h2),(List.getElem?_set_ne (by omega)).trans (hl _ _ hB.h3),(hB.le.trans hl).putB hb1⟩
theorem Zc7 (hd : ND0 X d r s c) (hl : HLe X Y2) (rd : RD Y2 uv' gv' s') (c1 : Y2[b1]?=some (.cells [uv',gv'] 1 false false)) (c3 : Y2[b3]?=some (.cells [.slice none 0 0,.slice none 0 0] 1 false false)) (hb : X.length≤b1∧b1 < b2∧b2 < b3) (hd2 : ND0 Y2 d r s c) (hst : Zx r.own Y2 r'.own Y3) (hd3 : ND Y3 d r' s' (c+1)) :
  ∃ X',(c4 fun q160_0 q160_1 q160_2 q160_3=>
   bind (ldA 2 q160_0) fun v184x161=>
   bind (bop .int .eql q160_2 q160_3) fun v187x162=>
   bind (stA 2 q160_1 v184x161) fun _=>
   bind (ldA 2 q160_1) fun vrx163=>
   ret (Value.tuple #[vrx163,v187x162])) [pt b1,pt b3,iv e,iv e] Y3=some (.tuple #[.agg #[uv',gv'],.bool true],X')∧Zfl X X' d r r' s' uv' gv' c:=by
 have hc:=hd2.cle hst
 have c1':=hc _ _ _ _ _ c1
 have c3':=hc _ _ _ _ _ c3
 have rd3:=rd.cle hc
 have hal : ([uv',gv'].all oneCell)=true:=by simp only [List.all_cons,rd.oneU,rd.oneG];rfl
 have d1 : ldA 2 (pt b1) Y3=some (.agg #[uv',gv'],Y3):=ZQ (n:=2) c1' rfl
 have q : bop .int .eql (iv e) (iv e) Y3=some (.bool true,Y3):=by rw [ZD];simp
 have w1:=KW (vs:=[uv',gv']) (n:=2) c3' rfl rfl hal
 have w1 : stA 2 (pt b3) (.agg #[uv',gv']) Y3=_:=w1
 have d2 : ldA 2 (pt b3) (Y3.set b3 (.cells [uv',gv'] 1 false false))=some (.agg #[uv',gv'],_):=ZQ (n:=2) (ZM c3') rfl
 have hs : Zx r.own X r'.own Y3:=hl.stepq.trans hst
 refine ⟨Y3.set b3 (.cells [uv',gv'] 1 false false),by rw [ZJ,Za d1,Za q,Za w1,Za d2];rfl,?_,rd3.setB c3' WS WS,?_⟩
 ·refine hd3.step (o1:=[b3]) (o2:=[b3]) ⟨by simp,fun i hi hn=>List.getElem?_set_ne (fun e=>hn (by simp [e])),fun i hi=>.inl hi⟩ ?_ ?_ ?_ ?_
  ·rw [List.mem_singleton]
   intro e
   have:=hd.dlt
   omega
  ·rw [List.mem_singleton]
   intro e
   have h:=hd3.ix.c
   rw [e,c3'] at h
   cases h
  ·rw [List.mem_singleton]
   intro e
   have h:=hd3.gr.cell
   rw [e,c3'] at h
   cases h
  ·intro j hj hm
   rw [List.mem_singleton] at hm
   subst hm
   exact (hd3.isMap hj).2 _ _ _ _ c3'
 ·exact ⟨by rw [List.length_set];exact hs.len,fun j hj hn=>(List.getElem?_set_ne (by omega)).trans (hs.keep j hj hn),hs.own⟩
theorem ZR {a b f g : Value} {m : M Out} (h : m Y=some (.nrm [a,b,f,g],X')) : jn m (c4 fun q0 q1 q2 q3=>ret (.nrm [q0,q1,q2,q3])) noX ZX Y=some (.nrm [a,b,f,g],X'):=
 (ZS h).trans rfl
theorem ND.more (hd : ND X d r s c) (h : c≤c') : ND X d r s c':=⟨hd.toND0.more h,hd.inv⟩
theorem Zxn (hd : ND X d r s c) (hR : RD X uv gv s) (hk : u.kd % 11=0) : ∃ X' r' uv' gv',R (n+12) Jh [pt d,.agg #[uv,gv],.agg u.cells.toArray] X=some (.tuple #[.agg #[uv',gv'],.bool true],X')∧Zfl X X' d r r' (JL u s) uv' gv' c:=by
 obtain ⟨b1,b2,b3,Y,z,hB⟩:=Zdd (u:=u) hR
 obtain ⟨Y1,uv',e1,rd1,l1⟩:=Zu0 (n:=n+5) (k:=u.a) (h:=u.b) (hR.hle hB.le) hd.pinv
 have e1 : R (n+11) Zcp [.agg #[uv,gv],strv u.a,strv u.b] Y=_:=e1
 obtain ⟨Y2,w1,hd2,rd2,c1,c2,c3,l2⟩:=ZdM hd hR hB l1 rd1
 obtain ⟨Y3,e2,hd3,st3⟩:=Zri (n:=n+1) (k:=u.a) (h:=u.b) hd2
 have e2 : R (n+11) Y8 [pt d,strv u.a,strv u.b] Y2=_:=e2
 obtain ⟨X',e3,hA⟩:=Zc7 (e:=QK u.a u.b s.A) hd.toND0 l2 rd2 c1 c3 hB.b hd2.toND0 st3 (hd3.more (by omega))
 have hn : JL u s=Ky u.a u.b s:=by unfold JL;rw [hk];first | done | rfl
 rw [hn]
 refine ⟨X',r,uv',gv,?_,hA⟩
 have dA : ldA 2 (pt b1) Y=some (.agg #[uv,gv],Y):=ZQ (n:=2) hB.h1 rfl
 have ya : ld1 (pa b2 1) Y=some (strv u.a,Y):=Zv hB.h2 rfl
 have xa : ld1 (pa b2 1) Y2=some (strv u.a,Y2):=Zv c2 rfl
 have yb : ld1 (pa b2 2) Y=some (strv u.b,Y):=Zv hB.h2 rfl
 have xb : ld1 (pa b2 2) Y2=some (strv u.b,Y2):=Zv c2 rfl
 have q : ∀ j : Int,bop .int .eql (.int .u8 ((0 : Nat) : Int)) (.int .u8 j) Y=some (.bool (decide (((0 : Nat) : Int)=j)),Y):=fun j=>by rw [ZD];rfl
 rw [R,KA rfl]
 unfold K3
 refine (z _).trans ?_
 rw [hk,Za (q 0)]
 refine (ZS (vs:=[pt b1,pt b3,iv (QK u.a u.b s.A),iv (QK u.a u.b s.A)]) (H':=Y3) ?_).trans e3
 rw [Zb,if_pos (by decide),Za dA,Za Zg,Za ya,Za Zg,Za yb,Za e1,Za Zt,Za Zs,Za w1,Za Zg,Za xa,Za Zg,Za xb,Za e2]
 rfl
theorem ZyH (hd : ND X d r s c) (hR : RD X uv gv s) (hk : u.kd % 11=1) : ∃ X' r' uv' gv',R (n+12) Jh [pt d,.agg #[uv,gv],.agg u.cells.toArray] X=some (.tuple #[.agg #[uv',gv'],.bool true],X')∧Zfl X X' d r r' (JL u s) uv' gv' c:=by
 obtain ⟨b1,b2,b3,Y,z,hB⟩:=Zdd (u:=u) hR
 obtain ⟨Y1,uv',e1,rd1,l1⟩:=Zvd (n:=n+5) (k:=u.a) (hR.hle hB.le) hd.pinv
 have e1 : R (n+11) Zcm [.agg #[uv,gv],strv u.a] Y=_:=e1
 obtain ⟨Y2,w1,hd2,rd2,c1,c2,c3,l2⟩:=ZdM hd hR hB l1 rd1
 obtain ⟨Y3,e2,hd3,st3⟩:=Zq8 (n:=n+1) (k:=u.a) hd2
 have e2 : R (n+11) Ka [pt d,strv u.a] Y2=_:=e2
 obtain ⟨X',e3,hA⟩:=Zc7 (e:=Zr u.a s.A) hd.toND0 l2 rd2 c1 c3 hB.b hd2.toND0 st3 (hd3.more (by omega))
 have hn : JL u s=YW u.a s:=by unfold JL;rw [hk];first | done | rfl
 rw [hn]
 refine ⟨X',r,uv',gv,?_,hA⟩
 have dA : ldA 2 (pt b1) Y=some (.agg #[uv,gv],Y):=ZQ (n:=2) hB.h1 rfl
 have ya : ld1 (pa b2 1) Y=some (strv u.a,Y):=Zv hB.h2 rfl
 have xa : ld1 (pa b2 1) Y2=some (strv u.a,Y2):=Zv c2 rfl
 have q : ∀ j : Int,bop .int .eql (.int .u8 ((1 : Nat) : Int)) (.int .u8 j) Y=some (.bool (decide (((1 : Nat) : Int)=j)),Y):=fun j=>by rw [ZD];rfl
 rw [R,KA rfl]
 unfold K3
 refine (z _).trans ?_
 rw [hk,Za (q 0)]
 refine (ZS (vs:=[pt b1,pt b3,iv (Zr u.a s.A),iv (Zr u.a s.A)]) (H':=Y3) ?_).trans e3
 rw [Zb,if_neg (by decide),Za (q 1)]
 refine ZR ?_
 rw [Zb,if_pos (by decide),Za dA,Za Zg,Za ya,Za e1,Za Zt,Za Zs,Za w1,Za Zg,Za xa,Za e2]
 rfl
theorem ZwH (hd : ND X d r s c) (hR : RD X uv gv s) (hk : u.kd % 11=2) : ∃ X' r' uv' gv',R (n+12) Jh [pt d,.agg #[uv,gv],.agg u.cells.toArray] X=some (.tuple #[.agg #[uv',gv'],.bool true],X')∧Zfl X X' d r r' (JL u s) uv' gv' c:=by
 obtain ⟨b1,b2,b3,Y,z,hB⟩:=Zdd (u:=u) hR
 obtain ⟨Y1,uv',e1,rd1,l1⟩:=ZsK (n:=n+5) (k:=u.a) (h:=u.b) (hR.hle hB.le) hd.pinv
 have e1 : R (n+11) ZaC [.agg #[uv,gv],strv u.a,strv u.b] Y=_:=e1
 obtain ⟨Y2,w1,hd2,rd2,c1,c2,c3,l2⟩:=ZdM hd hR hB l1 rd1
 obtain ⟨Y3,e2,hd3,st3⟩:=Zwj (n:=n+1) (k:=u.a) (h:=u.b) hd2
 have e2 : R (n+11) Wq [pt d,strv u.a,strv u.b] Y2=_:=e2
 obtain ⟨X',e3,hA⟩:=Zc7 (e:=Qt u.a u.b s.A) hd.toND0 l2 rd2 c1 c3 hB.b hd2.toND0 st3 (hd3.more (by omega))
 have hn : JL u s=YB u.a u.b s:=by unfold JL;rw [hk];first | done | rfl
 rw [hn]
 refine ⟨X',r,uv',gv,?_,hA⟩
 have dA : ldA 2 (pt b1) Y=some (.agg #[uv,gv],Y):=ZQ (n:=2) hB.h1 rfl
 have ya : ld1 (pa b2 1) Y=some (strv u.a,Y):=Zv hB.h2 rfl
 have xa : ld1 (pa b2 1) Y2=some (strv u.a,Y2):=Zv c2 rfl
 have yb : ld1 (pa b2 2) Y=some (strv u.b,Y):=Zv hB.h2 rfl
 have xb : ld1 (pa b2 2) Y2=some (strv u.b,Y2):=Zv c2 rfl
 have q : ∀ j : Int,bop .int .eql (.int .u8 ((2 : Nat) : Int)) (.int .u8 j) Y=some (.bool (decide (((2 : Nat) : Int)=j)),Y):=fun j=>by rw [ZD];rfl
 rw [R,KA rfl]
 unfold K3
 refine (z _).trans ?_
 rw [hk,Za (q 0)]
 refine (ZS (vs:=[pt b1,pt b3,iv (Qt u.a u.b s.A),iv (Qt u.a u.b s.A)]) (H':=Y3) ?_).trans e3
 rw [Zb,if_neg (by decide),Za (q 1)]
 refine ZR ?_
 rw [Zb,if_neg (by decide),Za (q 2)]
 refine ZR ?_
 rw [Zb,if_pos (by decide),Za dA,Za Zg,Za ya,Za Zg,Za yb,Za e1,Za Zt,Za Zs,Za w1,Za Zg,Za xa,Za Zg,Za xb,Za e2]
 rfl
theorem Zw7 (hd : ND X d r s c) (hR : RD X uv gv s) (hk : u.kd % 11=3) : ∃ X' r' uv' gv',R (n+12) Jh [pt d,.agg #[uv,gv],.agg u.cells.toArray] X=some (.tuple #[.agg #[uv',gv'],.bool true],X')∧Zfl X X' d r r' (JL u s) uv' gv' c:=by
 obtain ⟨b1,b2,b3,Y,z,hB⟩:=Zdd (u:=u) hR
 obtain ⟨Y1,uv',e1,rd1,l1⟩:=Zt7 (n:=n+5) (k:=u.a) (m:=u.b) (hR.hle hB.le) hd.pinv
 have e1 : R (n+11) ZaL [.agg #[uv,gv],strv u.a,strv u.b] Y=_:=e1
 obtain ⟨Y2,w1,hd2,rd2,c1,c2,c3,l2⟩:=ZdM hd hR hB l1 rd1
 obtain ⟨Y3,e2,hd3,st3⟩:=Zp0 (n:=n+1) (k:=u.a) (m:=u.b) hd2
 have e2 : R (n+11) YH [pt d,strv u.a,strv u.b] Y2=_:=e2
 obtain ⟨X',e3,hA⟩:=Zc7 (e:=QE u.a u.b s) hd.toND0 l2 rd2 c1 c3 hB.b hd2.toND0 st3 (hd3.more (by omega))
 have hn : JL u s=QW u.a u.b s:=by unfold JL;rw [hk];first | done | rfl
 rw [hn]
 refine ⟨X',r,uv',gv,?_,hA⟩
 have dA : ldA 2 (pt b1) Y=some (.agg #[uv,gv],Y):=ZQ (n:=2) hB.h1 rfl
 have ya : ld1 (pa b2 1) Y=some (strv u.a,Y):=Zv hB.h2 rfl
 have xa : ld1 (pa b2 1) Y2=some (strv u.a,Y2):=Zv c2 rfl
 have yb : ld1 (pa b2 2) Y=some (strv u.b,Y):=Zv hB.h2 rfl
 have xb : ld1 (pa b2 2) Y2=some (strv u.b,Y2):=Zv c2 rfl
 have q : ∀ j : Int,bop .int .eql (.int .u8 ((3 : Nat) : Int)) (.int .u8 j) Y=some (.bool (decide (((3 : Nat) : Int)=j)),Y):=fun j=>by rw [ZD];rfl
 rw [R,KA rfl]
 unfold K3
 refine (z _).trans ?_
 rw [hk,Za (q 0)]
 refine (ZS (vs:=[pt b1,pt b3,iv (QE u.a u.b s),iv (QE u.a u.b s)]) (H':=Y3) ?_).trans e3
 rw [Zb,if_neg (by decide),Za (q 1)]
 refine ZR ?_
 rw [Zb,if_neg (by decide),Za (q 2)]
 refine ZR ?_
 rw [Zb,if_neg (by decide),Za (q 3)]
 refine ZR ?_
 rw [Zb,if_pos (by decide),Za dA,Za Zg,Za ya,Za Zg,Za yb,Za e1,Za Zt,Za Zs,Za w1,Za Zg,Za xa,Za Zg,Za xb,Za e2]
 rfl
theorem ZwM (hd : ND X d r s c) (hR : RD X uv gv s) (hk : u.kd % 11=4) : ∃ X' r' uv' gv',R (n+12) Jh [pt d,.agg #[uv,gv],.agg u.cells.toArray] X=some (.tuple #[.agg #[uv',gv'],.bool true],X')∧Zfl X X' d r r' (JL u s) uv' gv' c:=by
 obtain ⟨b1,b2,b3,Y,z,hB⟩:=Zdd (u:=u) hR
 obtain ⟨Y1,uv',e1,rd1,l1⟩:=ZsP (n:=n+5) (k:=u.a) (b:=u.is) (hR.hle hB.le) hd.pinv
 have e1 : R (n+11) ZaK [.agg #[uv,gv],strv u.a,.bool u.is] Y=_:=e1
 obtain ⟨Y2,w1,hd2,rd2,c1,c2,c3,l2⟩:=ZdM hd hR hB l1 rd1
 obtain ⟨Y3,e2,hd3,st3⟩:=ZwE (n:=n+1) (k:=u.a) (b:=u.is) hd2
 have e2 : R (n+11) Wo [pt d,strv u.a,.bool u.is] Y2=_:=e2
 obtain ⟨X',e3,hA⟩:=Zc7 (e:=Jt u.a u.is s.A) hd.toND0 l2 rd2 c1 c3 hB.b hd2.toND0 st3 (hd3.more (by omega))
 have hn : JL u s=J9 u.a u.is s:=by unfold JL;rw [hk];first | done | rfl
 rw [hn]
 refine ⟨X',r,uv',gv,?_,hA⟩
 have dA : ldA 2 (pt b1) Y=some (.agg #[uv,gv],Y):=ZQ (n:=2) hB.h1 rfl
 have ya : ld1 (pa b2 1) Y=some (strv u.a,Y):=Zv hB.h2 rfl
 have xa : ld1 (pa b2 1) Y2=some (strv u.a,Y2):=Zv c2 rfl
 have yis : ld1 (pa b2 3) Y=some (.bool u.is,Y):=Zv hB.h2 rfl
 have xis : ld1 (pa b2 3) Y2=some (.bool u.is,Y2):=Zv c2 rfl
 have q : ∀ j : Int,bop .int .eql (.int .u8 ((4 : Nat) : Int)) (.int .u8 j) Y=some (.bool (decide (((4 : Nat) : Int)=j)),Y):=fun j=>by rw [ZD];rfl
 rw [R,KA rfl]
 unfold K3
 refine (z _).trans ?_
 rw [hk,Za (q 0)]
 refine (ZS (vs:=[pt b1,pt b3,iv (Jt u.a u.is s.A),iv (Jt u.a u.is s.A)]) (H':=Y3) ?_).trans e3
 rw [Zb,if_neg (by decide),Za (q 1)]
 refine ZR ?_
 rw [Zb,if_neg (by decide),Za (q 2)]
 refine ZR ?_
 rw [Zb,if_neg (by decide),Za (q 3)]
 refine ZR ?_
 rw [Zb,if_neg (by decide),Za (q 4)]
 refine ZR ?_
 rw [Zb,if_pos (by decide),Za dA,Za Zg,Za ya,Za Zg,Za yis,Za e1,Za Zt,Za Zs,Za w1,Za Zg,Za xa,Za Zg,Za xis,Za e2]
 rfl
theorem ZxL (hd : ND X d r s c) (hR : RD X uv gv s) (hk : u.kd % 11=5) : ∃ X' r' uv' gv',R (n+12) Jh [pt d,.agg #[uv,gv],.agg u.cells.toArray] X=some (.tuple #[.agg #[uv',gv'],.bool true],X')∧Zfl X X' d r r' (JL u s) uv' gv' c:=by
 obtain ⟨b1,b2,b3,Y,z,hB⟩:=Zdd (u:=u) hR
 obtain ⟨Y1,uv',e1,rd1,l1⟩:=ZuL (n:=n+5) (o:=u.a) (t:=u.b) (hR.hle hB.le) hd.pinv
 have e1 : R (n+11) Za7 [.agg #[uv,gv],strv u.a,strv u.b] Y=_:=e1
 obtain ⟨Y2,w1,hd2,rd2,c1,c2,c3,l2⟩:=ZdM hd hR hB l1 rd1
 obtain ⟨Y3,e2,hd3,st3⟩:=Zxk (n:=n+1) (o:=u.a) (t:=u.b) hd2
 have e2 : R (n+11) WC [pt d,strv u.a,strv u.b] Y2=_:=e2
 obtain ⟨X',e3,hA⟩:=Zc7 (e:=Jp u.a u.b s.A) hd.toND0 l2 rd2 c1 c3 hB.b hd2.toND0 st3 (hd3.more (by omega))
 have hn : JL u s=KZ u.a u.b s:=by unfold JL;rw [hk];first | done | rfl
 rw [hn]
 refine ⟨X',r,uv',gv,?_,hA⟩
 have dA : ldA 2 (pt b1) Y=some (.agg #[uv,gv],Y):=ZQ (n:=2) hB.h1 rfl
 have ya : ld1 (pa b2 1) Y=some (strv u.a,Y):=Zv hB.h2 rfl
 have xa : ld1 (pa b2 1) Y2=some (strv u.a,Y2):=Zv c2 rfl
 have yb : ld1 (pa b2 2) Y=some (strv u.b,Y):=Zv hB.h2 rfl
 have xb : ld1 (pa b2 2) Y2=some (strv u.b,Y2):=Zv c2 rfl
 have q : ∀ j : Int,bop .int .eql (.int .u8 ((5 : Nat) : Int)) (.int .u8 j) Y=some (.bool (decide (((5 : Nat) : Int)=j)),Y):=fun j=>by rw [ZD];rfl
 rw [R,KA rfl]
 unfold K3
 refine (z _).trans ?_
 rw [hk,Za (q 0)]
 refine (ZS (vs:=[pt b1,pt b3,iv (Jp u.a u.b s.A),iv (Jp u.a u.b s.A)]) (H':=Y3) ?_).trans e3
 rw [Zb,if_neg (by decide),Za (q 1)]
 refine ZR ?_
 rw [Zb,if_neg (by decide),Za (q 2)]
 refine ZR ?_
 rw [Zb,if_neg (by decide),Za (q 3)]
 refine ZR ?_
 rw [Zb,if_neg (by decide),Za (q 4)]
 refine ZR ?_
 rw [Zb,if_neg (by decide),Za (q 5)]
 refine ZR ?_
 rw [Zb,if_pos (by decide),Za dA,Za Zg,Za ya,Za Zg,Za yb,Za e1,Za Zt,Za Zs,Za w1,Za Zg,Za xa,Za Zg,Za xb,Za e2]
 rfl
theorem ZA6 (hd : ND X d r s c) (hR : RD X uv gv s) (hk : u.kd % 11=6) : ∃ X' r' uv' gv',R (n+12) Jh [pt d,.agg #[uv,gv],.agg u.cells.toArray] X=some (.tuple #[.agg #[uv',gv'],.bool true],X')∧Zfl X X' d r r' (JL u s) uv' gv' c:=by
 obtain ⟨b1,b2,b3,Y,z,hB⟩:=Zdd (u:=u) hR
 obtain ⟨Y1,gv',e1,rd1,l1⟩:=Zxp (n:=n+5) (g:=u.a) (hR.hle hB.le) hd.pinv
 have e1 : R (n+11) ZaO [.agg #[uv,gv],strv u.a] Y=_:=e1
 obtain ⟨Y2,w1,hd2,rd2,c1,c2,c3,l2⟩:=ZdM hd hR hB l1 rd1
 obtain ⟨Y3,r',e2,hd3,st3⟩:=ZAr (n:=n+1) (g:=u.a) hd2
 have e2 : R (n+11) Wy [pt d,strv u.a] Y2=_:=e2
 obtain ⟨X',e3,hA⟩:=Zc7 (e:=Qz u.a s.K) hd.toND0 l2 rd2 c1 c3 hB.b hd2.toND0 st3 (hd3.more (by omega))
 have hn : JL u s=ZhH u.a s:=by unfold JL;rw [hk];first | done | rfl
 rw [hn]
 refine ⟨X',r',uv,gv',?_,hA⟩
 have dA : ldA 2 (pt b1) Y=some (.agg #[uv,gv],Y):=ZQ (n:=2) hB.h1 rfl
 have ya : ld1 (pa b2 1) Y=some (strv u.a,Y):=Zv hB.h2 rfl
 have xa : ld1 (pa b2 1) Y2=some (strv u.a,Y2):=Zv c2 rfl
 have q : ∀ j : Int,bop .int .eql (.int .u8 ((6 : Nat) : Int)) (.int .u8 j) Y=some (.bool (decide (((6 : Nat) : Int)=j)),Y):=fun j=>by rw [ZD];rfl
 rw [R,KA rfl]
 unfold K3
 refine (z _).trans ?_
 rw [hk,Za (q 0)]
 refine (ZS (vs:=[pt b1,pt b3,iv (Qz u.a s.K),iv (Qz u.a s.K)]) (H':=Y3) ?_).trans e3
 rw [Zb,if_neg (by decide),Za (q 1)]
 refine ZR ?_
 rw [Zb,if_neg (by decide),Za (q 2)]
 refine ZR ?_
 rw [Zb,if_neg (by decide),Za (q 3)]
 refine ZR ?_
 rw [Zb,if_neg (by decide),Za (q 4)]
 refine ZR ?_
 rw [Zb,if_neg (by decide),Za (q 5)]
 refine ZR ?_
 rw [Zb,if_neg (by decide),Za (q 6)]
 refine ZR ?_
 rw [Zb,if_pos (by decide),Za dA,Za Zg,Za ya,Za e1,Za Zt,Za Zs,Za w1,Za Zg,Za xa,Za e2]
 rfl
theorem ZBb (hd : ND X d r s c) (hR : RD X uv gv s) (hk : u.kd % 11=7) : ∃ X' r' uv' gv',R (n+12) Jh [pt d,.agg #[uv,gv],.agg u.cells.toArray] X=some (.tuple #[.agg #[uv',gv'],.bool true],X')∧Zfl X X' d r r' (JL u s) uv' gv' c:=by
 obtain ⟨b1,b2,b3,Y,z,hB⟩:=Zdd (u:=u) hR
 obtain ⟨Y1,uv',gv',e1,rd1,l1⟩:=Zyi (n:=n+5) (g:=u.a) (hR.hle hB.le) hd.pinv
 have e1 : R (n+11) WI [.agg #[uv,gv],strv u.a] Y=_:=e1
 obtain ⟨Y2,w1,hd2,rd2,c1,c2,c3,l2⟩:=ZdM hd hR hB l1 rd1
 obtain ⟨Y3,r',e2,hd3,st3⟩:=ZvS (n:=n+1) (g:=u.a) hd2
 have e2 : R (n+11) YL [pt d,strv u.a] Y2=_:=e2
 obtain ⟨X',e3,hA⟩:=Zc7 (e:=QP u.a s.K) hd.toND0 l2 rd2 c1 c3 hB.b hd2.toND0 st3 (hd3.more (by omega))
 have hn : JL u s=Ze5 u.a s:=by unfold JL;rw [hk];first | done | rfl
 rw [hn]
 refine ⟨X',r',uv',gv',?_,hA⟩
 have dA : ldA 2 (pt b1) Y=some (.agg #[uv,gv],Y):=ZQ (n:=2) hB.h1 rfl
 have ya : ld1 (pa b2 1) Y=some (strv u.a,Y):=Zv hB.h2 rfl
 have xa : ld1 (pa b2 1) Y2=some (strv u.a,Y2):=Zv c2 rfl
 have q : ∀ j : Int,bop .int .eql (.int .u8 ((7 : Nat) : Int)) (.int .u8 j) Y=some (.bool (decide (((7 : Nat) : Int)=j)),Y):=fun j=>by rw [ZD];rfl
 rw [R,KA rfl]
 unfold K3
 refine (z _).trans ?_
 rw [hk,Za (q 0)]
 refine (ZS (vs:=[pt b1,pt b3,iv (QP u.a s.K),iv (QP u.a s.K)]) (H':=Y3) ?_).trans e3
 rw [Zb,if_neg (by decide),Za (q 1)]
 refine ZR ?_
 rw [Zb,if_neg (by decide),Za (q 2)]
 refine ZR ?_
 rw [Zb,if_neg (by decide),Za (q 3)]
 refine ZR ?_
 rw [Zb,if_neg (by decide),Za (q 4)]
 refine ZR ?_
 rw [Zb,if_neg (by decide),Za (q 5)]
 refine ZR ?_
 rw [Zb,if_neg (by decide),Za (q 6)]
 refine ZR ?_
 rw [Zb,if_neg (by decide),Za (q 7)]
 refine ZR ?_
 rw [Zb,if_pos (by decide),Za dA,Za Zg,Za ya,Za e1,Za Zt,Za Zs,Za w1,Za Zg,Za xa,Za e2]
 rfl
theorem ZAy (hd : ND X d r s c) (hR : RD X uv gv s) (hk : u.kd % 11=8) : ∃ X' r' uv' gv',R (n+12) Jh [pt d,.agg #[uv,gv],.agg u.cells.toArray] X=some (.tuple #[.agg #[uv',gv'],.bool true],X')∧Zfl X X' d r r' (JL u s) uv' gv' c:=by
 obtain ⟨b1,b2,b3,Y,z,hB⟩:=Zdd (u:=u) hR
 obtain ⟨Y1,uv',e1,rd1,l1⟩:=Zyp (n:=n+5) (g:=u.a) (k:=u.b) (hR.hle hB.le) hd.pinv
 have e1 : R (n+11) Zcw [.agg #[uv,gv],strv u.a,strv u.b] Y=_:=e1
 obtain ⟨Y2,w1,hd2,rd2,c1,c2,c3,l2⟩:=ZdM hd hR hB l1 rd1
 obtain ⟨Y3,e2,hd3,st3⟩:=ZAB (n:=n) (g:=u.a) (k:=u.b) hd2
 have e2 : R (n+11) ZaG [pt d,strv u.a,strv u.b] Y2=_:=e2
 obtain ⟨X',e3,hA⟩:=Zc7 (e:=Kl u.a u.b s) hd.toND0 l2 rd2 c1 c3 hB.b hd2.toND0 st3 (hd3.more (by omega))
 have hn : JL u s=Zaq u.a u.b s:=by unfold JL;rw [hk];first | done | rfl
 rw [hn]
 refine ⟨X',r,uv',gv,?_,hA⟩
 have dA : ldA 2 (pt b1) Y=some (.agg #[uv,gv],Y):=ZQ (n:=2) hB.h1 rfl
 have ya : ld1 (pa b2 1) Y=some (strv u.a,Y):=Zv hB.h2 rfl
 have xa : ld1 (pa b2 1) Y2=some (strv u.a,Y2):=Zv c2 rfl
 have yb : ld1 (pa b2 2) Y=some (strv u.b,Y):=Zv hB.h2 rfl
 have xb : ld1 (pa b2 2) Y2=some (strv u.b,Y2):=Zv c2 rfl
 have q : ∀ j : Int,bop .int .eql (.int .u8 ((8 : Nat) : Int)) (.int .u8 j) Y=some (.bool (decide (((8 : Nat) : Int)=j)),Y):=fun j=>by rw [ZD];rfl
 rw [R,KA rfl]
 unfold K3
 refine (z _).trans ?_
 rw [hk,Za (q 0)]
 refine (ZS (vs:=[pt b1,pt b3,iv (Kl u.a u.b s),iv (Kl u.a u.b s)]) (H':=Y3) ?_).trans e3
 rw [Zb,if_neg (by decide),Za (q 1)]
 refine ZR ?_
 rw [Zb,if_neg (by decide),Za (q 2)]
 refine ZR ?_
 rw [Zb,if_neg (by decide),Za (q 3)]
 refine ZR ?_
 rw [Zb,if_neg (by decide),Za (q 4)]
 refine ZR ?_
 rw [Zb,if_neg (by decide),Za (q 5)]
 refine ZR ?_
 rw [Zb,if_neg (by decide),Za (q 6)]
 refine ZR ?_
 rw [Zb,if_neg (by decide),Za (q 7)]
 refine ZR ?_
 rw [Zb,if_neg (by decide),Za (q 8)]
 refine ZR ?_
 rw [Zb,if_pos (by decide),Za dA,Za Zg,Za ya,Za Zg,Za yb,Za e1,Za Zt,Za Zs,Za w1,Za Zg,Za xa,Za Zg,Za xb,Za e2]
 rfl
theorem Zy9 (hd : ND X d r s c) (hR : RD X uv gv s) (hk : u.kd % 11=9) : ∃ X' r' uv' gv',R (n+12) Jh [pt d,.agg #[uv,gv],.agg u.cells.toArray] X=some (.tuple #[.agg #[uv',gv'],.bool true],X')∧Zfl X X' d r r' (JL u s) uv' gv' c:=by
 obtain ⟨b1,b2,b3,Y,z,hB⟩:=Zdd (u:=u) hR
 obtain ⟨Y1,uv',e1,rd1,l1⟩:=ZwO (n:=n+5) (g:=u.a) (k:=u.b) (hR.hle hB.le) hd.pinv
 have e1 : R (n+11) Zb2 [.agg #[uv,gv],strv u.a,strv u.b] Y=_:=e1
 obtain ⟨Y2,w1,hd2,rd2,c1,c2,c3,l2⟩:=ZdM hd hR hB l1 rd1
 obtain ⟨Y3,e2,hd3,st3⟩:=Zy8 (n:=n) (g:=u.a) (k:=u.b) hd2
 have e2 : R (n+11) W1 [pt d,strv u.a,strv u.b] Y2=_:=e2
 obtain ⟨X',e3,hA⟩:=Zc7 (e:=YG u.a u.b s) hd.toND0 l2 rd2 c1 c3 hB.b hd2.toND0 st3 (hd3.more (by omega))
 have hn : JL u s=Wc u.a u.b s:=by unfold JL;rw [hk];first | done | rfl
 rw [hn]
 refine ⟨X',r,uv',gv,?_,hA⟩
 have dA : ldA 2 (pt b1) Y=some (.agg #[uv,gv],Y):=ZQ (n:=2) hB.h1 rfl
 have ya : ld1 (pa b2 1) Y=some (strv u.a,Y):=Zv hB.h2 rfl
 have xa : ld1 (pa b2 1) Y2=some (strv u.a,Y2):=Zv c2 rfl
 have yb : ld1 (pa b2 2) Y=some (strv u.b,Y):=Zv hB.h2 rfl
 have xb : ld1 (pa b2 2) Y2=some (strv u.b,Y2):=Zv c2 rfl
 have q : ∀ j : Int,bop .int .eql (.int .u8 ((9 : Nat) : Int)) (.int .u8 j) Y=some (.bool (decide (((9 : Nat) : Int)=j)),Y):=fun j=>by rw [ZD];rfl
 rw [R,KA rfl]
 unfold K3
 refine (z _).trans ?_
 rw [hk,Za (q 0)]
 refine (ZS (vs:=[pt b1,pt b3,iv (YG u.a u.b s),iv (YG u.a u.b s)]) (H':=Y3) ?_).trans e3
 rw [Zb,if_neg (by decide),Za (q 1)]
 refine ZR ?_
 rw [Zb,if_neg (by decide),Za (q 2)]
 refine ZR ?_
 rw [Zb,if_neg (by decide),Za (q 3)]
 refine ZR ?_
 rw [Zb,if_neg (by decide),Za (q 4)]
 refine ZR ?_
 rw [Zb,if_neg (by decide),Za (q 5)]
 refine ZR ?_
 rw [Zb,if_neg (by decide),Za (q 6)]
 refine ZR ?_
 rw [Zb,if_neg (by decide),Za (q 7)]
 refine ZR ?_
 rw [Zb,if_neg (by decide),Za (q 8)]
 refine ZR ?_
 rw [Zb,if_neg (by decide),Za (q 9)]
 refine ZR ?_
 rw [Zb,if_pos (by decide),Za dA,Za Zg,Za ya,Za Zg,Za yb,Za e1,Za Zt,Za Zs,Za w1,Za Zg,Za xa,Za Zg,Za xb,Za e2]
 rfl
end
end Go.Proofs.YtedkoimihknggaaGreatDoor.A
namespace Go.Proofs.YtedkoimihknggaaGreatDoor.A
set_option linter.unusedVariables false
set_option linter.unusedSimpArgs false
open Go.Proofs Go.Proofs.YtedkoimihknggaaGreatDoor
section
variable {X X' Y Y1 Y2 Y3 H H0 : Zd} {n d c c' b1 b2 b3 w : Nat} {r r' : NR} {uv gv uv' gv' v sl : Value} {s s' : NSt} {u : ZaX} {e : Int} {ac : List ZaX}
theorem ZAT (hd : ND X d r s c) (hR : RD X uv gv s) (hk : u.kd % 11=10) : ∃ X' r' uv' gv',R (n+12) Jh [pt d,.agg #[uv,gv],.agg u.cells.toArray] X=some (.tuple #[.agg #[uv',gv'],.bool true],X')∧Zfl X X' d r r' (JL u s) uv' gv' c:=by
 obtain ⟨b1,b2,b3,Y,z,hB⟩:=Zdd (u:=u) hR
 have hdY:=hd.hle hB.le
 obtain ⟨Y1,d',r',e1,D1,l1,p1,p2⟩:=ZAH (n:=n+7) hdY
 have e1 : R (n+11) ZbX [pt d] Y=_:=e1
 obtain ⟨Y2,e2,D2,s2⟩:=Zri (n:=n+1) (k:=u.a) (h:=[49]) D1
 have e2 : R (n+11) Y8 [pt d',strv u.a,.string ⟨#[49]⟩] Y1=_:=e2
 obtain ⟨Y3,e3,D3,s3⟩:=Zq8 (n:=n+1) (k:=[97,110,110]) D2
 have e3 : R (n+11) Ka [pt d',.string ⟨#[97,110,110]⟩] Y2=_:=e3
 obtain ⟨Y4,r'',e4,D4,s4⟩:=ZvS (n:=n+1) (g:=[100,101,118]) D3
 have e4 : R (n+11) YL [pt d',.string ⟨#[100,101,118]⟩] Y3=_:=e4
 obtain ⟨Y5,e5,D5,s5⟩:=Zp0 (n:=n+1) (k:=[98,111,98]) (m:=[113,64,113,46,113]) D4
 have e5 : R (n+11) YH [pt d',.string ⟨#[98,111,98]⟩,.string ⟨#[113,64,113,46,113]⟩] Y4=_:=e5
 have hl5:=(l1.more (((s2.trans s3).trans s4).trans s5) p2).1
 have hX5:=hB.le.trans hl5
 obtain ⟨X',e6,hA⟩:=Zc7 (e:=0) hd.toND0 hX5 (hR.hle hX5) (hl5 _ _ hB.h1) (hl5 _ _ hB.h3) hB.b (hd.hle hX5).toND0 (HLe.refl Y5).stepq ((hd.hle hX5).more (by omega))
 have hn : JL u s=s:=by unfold JL;rw [hk];first | done | rfl
 rw [hn]
 refine ⟨X',r,uv,gv,?_,hA⟩
 have ya : ld1 (pa b2 1) Y1=some (strv u.a,Y1):=Zv (l1 _ _ hB.h2) rfl
 have q : ∀ j : Int,bop .int .eql (.int .u8 ((10 : Nat) : Int)) (.int .u8 j) Y=some (.bool (decide (((10 : Nat) : Int)=j)),Y):=fun j=>by rw [ZD];rfl
 rw [R,KA rfl]
 unfold K3
 refine (z _).trans ?_
 rw [hk,Za (q 0)]
 refine (ZS (vs:=[pt b1,pt b3,iv 0,iv 0]) (H':=Y5) ?_).trans e6
 rw [Zb,if_neg (by decide),Za (q 1)]
 refine ZR ?_
 rw [Zb,if_neg (by decide),Za (q 2)]
 refine ZR ?_
 rw [Zb,if_neg (by decide),Za (q 3)]
 refine ZR ?_
 rw [Zb,if_neg (by decide),Za (q 4)]
 refine ZR ?_
 rw [Zb,if_neg (by decide),Za (q 5)]
 refine ZR ?_
 rw [Zb,if_neg (by decide),Za (q 6)]
 refine ZR ?_
 rw [Zb,if_neg (by decide),Za (q 7)]
 refine ZR ?_
 rw [Zb,if_neg (by decide),Za (q 8)]
 refine ZR ?_
 rw [Zb,if_neg (by decide),Za (q 9)]
 refine ZR ?_
 rw [Zb,if_neg (by decide),Za e1,Za Zg,Za ya,Za e2,Za e3,Za e4,Za e5]
 rfl
theorem Zz5 (hd : ND X d r s c) (hR : RD X uv gv s) : ∃ X' r' uv' gv',R (n+12) Jh [pt d,.agg #[uv,gv],.agg u.cells.toArray] X=some (.tuple #[.agg #[uv',gv'],.bool true],X')∧Zfl X X' d r r' (JL u s) uv' gv' c:=by
 have h11 : u.kd % 11 < 11:=Nat.mod_lt _ (by decide)
 rcases (by omega : u.kd % 11=0∨u.kd % 11=1∨u.kd % 11=2∨u.kd % 11=3∨u.kd % 11=4∨u.kd % 11=5∨u.kd % 11=6∨u.kd % 11=7∨u.kd % 11=8∨u.kd % 11=9∨u.kd % 11=10) with h | h | h | h | h | h | h | h | h | h | h
 ·exact Zxn hd hR h
 ·exact ZyH hd hR h
 ·exact ZwH hd hR h
 ·exact Zw7 hd hR h
 ·exact ZwM hd hR h
 ·exact ZxL hd hR h
 ·exact ZA6 hd hR h
 ·exact ZBb hd hR h
 ·exact ZAy hd hR h
 ·exact Zy9 hd hR h
 ·exact ZAT hd hR h
theorem ND.setBox (hd : ND X d r s c) {ob : Zf} (hw : X[w]?=some (.cells [uv,gv] 1 false false)) (iu : Wv uv) (ig : Wv gv) : ND (X.set w ob) d r s c:=by
 obtain ⟨a1,n1,c1,rfl⟩:=iu
 obtain ⟨a2,n2,c2,rfl⟩:=ig
 refine hd.step (o1:=[w]) (o2:=[w]) ⟨by simp,fun i hi hn=>List.getElem?_set_ne (fun e=>hn (by simp [e])),fun i hi=>.inl hi⟩ ?_ ?_ ?_ ?_
 ·rw [List.mem_singleton]
  intro e
  have h:=hd.cell
  rw [e,hw] at h
  cases h
 ·rw [List.mem_singleton]
  intro e
  have h:=hd.ix.c
  rw [e,hw] at h
  cases h
 ·rw [List.mem_singleton]
  intro e
  have h:=hd.gr.cell
  rw [e,hw] at h
  cases h
 ·intro j hj hm
  rw [List.mem_singleton] at hm
  subst hm
  exact (hd.isMap hj).2 _ _ _ _ hw
structure NL (H X : Zd) (d : Nat) (r : NR) (s : NSt) (uv gv : Value) (w c : Nat) : Prop where
 le : HLe H X
 nd : ND X d r s c
 rd : RD X uv gv s
 own : ∀ i∈r.own,H.length≤i
 w : X[w]?=some (.cells [uv,gv] 1 false false)
theorem NL.hle (h : NL H X d r s uv gv w c) (hl : HLe X X') : NL H X' d r s uv gv w c:=⟨h.le.trans hl,h.nd.hle hl,h.rd.hle hl,h.own,hl _ _ h.w⟩
theorem ZBN (hA : Zbr H sl ac) (hw0 : H.length≤w) {j : Nat} (hja : ac[j]?=some u) (h : NL H X d r s uv gv w c) :
  ∃ X' r' uv' gv',(∀ {β : Type} (K : Value→M β),bind (ixa 4 sl (iv j)) (fun p=>bind (ldA 4 p) fun v=>bind (alc 1 zNA) fun q=>bind (stA 4 q v) fun _=>bind (ldA 2 (pt w)) fun v25=>bind (ldA 4 q) fun v26=>bind (R (n+12) Jh [pt d,v25,v26]) fun v27=>bind (Zm v27 0) fun v28=>bind (Zm v27 1) fun v29=>bind (stA 2 (pt w) v28) fun _=>K v29) X=K (.bool true) X')∧NL H X' d r' (JL u s) uv' gv' w (c+1):=by
 have g1 : (X++[Zf.cells u.cells 1 false false])[X.length]?=some (.cells u.cells 1 false false):=ZC
 have hf:=fun {β : Type} {K : Value→M β}=>(hA.mono h.le).fetch (k:=K) hja
 have k1 : HLe X (X++[Zf.cells u.cells 1 false false]):=.app _ _
 generalize X++[Zf.cells u.cells 1 false false]=X1 at g1 k1 hf
 have h1:=h.hle k1
 have d1 : ldA 2 (pt w) X1=some (.agg #[uv,gv],X1):=ZQ h1.w rfl
 have d2 : ldA 4 (pt X.length) X1=some (.agg u.cells.toArray,X1):=ZQ g1 rfl
 obtain ⟨X2,r',uv',gv',e2,hF⟩:=Zz5 (n:=n) (u:=u) h1.nd h1.rd
 have hc:=h1.nd.toND0.cle hF.st
 have hw2:=hc _ _ _ _ _ h1.w
 obtain ⟨hm1,hm2⟩:=h1.le.more hF.st h1.own
 obtain ⟨iu,ig⟩:=h1.rd.isSl
 have hal : ([uv',gv'].all oneCell)=true:=by simp only [List.all_cons,hF.rd.oneU,hF.rd.oneG];rfl
 have w1 : stA 2 (pt w) (.agg #[uv',gv']) X2=some (undef,X2.set w (.cells [uv',gv'] 1 false false)):=KW (vs:=[uv',gv']) hw2 rfl rfl hal
 refine ⟨X2.set w (.cells [uv',gv'] 1 false false),r',uv',gv',fun {β} K=>?_,⟨hm1.setN hw0,hF.nd.setBox hw2 iu ig,hF.rd.setB hw2 iu ig,hm2,ZM hw2⟩⟩
 refine hf.trans ?_
 rw [Za d1,Za d2,Za e2,Za Zt,Za Zs,Za w1]
end
end Go.Proofs.YtedkoimihknggaaGreatDoor.A

namespace Go.Proofs.YtedkoimihknggaaGreatDoor.A
set_option linter.unusedVariables false
set_option linter.unusedSimpArgs false
open Go.Proofs Go.Proofs.YtedkoimihknggaaGreatDoor
section
variable {H : Zd} {n : Nat} {s : List UInt8}
end
end Go.Proofs.YtedkoimihknggaaGreatDoor.A

namespace Go.Proofs.YtedkoimihknggaaGreatDoor.A
set_option linter.unusedVariables false
set_option linter.unusedSimpArgs false
open Go.Proofs Go.Proofs.YtedkoimihknggaaGreatDoor
section
variable {X X' Y H H0 : Zd} {n d c w : Nat} {r : NR} {uv gv sl wv : Value} {s : NSt} {us ws : List Zj} {k m g pre : Tx} {q0 : List Nat}
theorem Zxo (hO : ROK s us) (hP : J3 s) (hm : QB m=true) : (us.find? fun u=>u.ml==Z7 m).map (·.nm)=Ze (Z7 m) s.OW:=by
 have hat : ∀ u∈us,u.ml=Z7 m↔Ze (Z7 m) s.OW=some u.nm:=fun u hu=>by
  have h1:=hO.at hu
  unfold ZK at h1
  cases ha : Ze u.nm s.A with
  | none=>rw [ha] at h1;cases h1
  | some p=>
   rw [ha] at h1
   have h2 : Qe s u.nm p=ZI u:=Option.some.inj h1
   have h3 : (Ze u.nm s.OF).getD []=u.ml:=congrArg (·.2.2.1) h2
   rw [← hP.x.inv,← h3]
   cases ho : Ze u.nm s.OF with
   | none=>exact ⟨fun h=>absurd h.symm (ZgZ hm).1,fun h=>by cases h⟩
   | some v=>exact ⟨fun h=>by rw [← h];rfl,fun h=>by cases h;rfl⟩
 cases hf : us.find? fun u=>u.ml==Z7 m with
 | some u=>
  have h1:=List.find?_some hf
  have h2:=List.mem_of_find?_eq_some hf
  exact ((hat u h2).1 (by simpa using h1)).symm
 | none=>
  rw [List.find?_eq_none] at hf
  cases hw : Ze (Z7 m) s.OW with
  | none=>rfl
  | some x=>
   have h1:=(hP.x.inv _ _).2 hw
   have h2:=hP.i.ofA x (by rw [h1];rfl)
   obtain ⟨p,hp⟩:=Option.isSome_iff_exists.1 h2
   have h3 : ZK s x=some (Qe s x p):=by unfold ZK;rw [hp];rfl
   obtain ⟨u,hu,hk⟩:=KO.1 ((hO.look (Qe s x p)).2 h3)
   have hn : u.nm=x:=congrArg (·.1) hk
   have:=(hat u hu).2 (by rw [hn];exact hw)
   exact absurd (by simpa using this) (hf u hu)
end
end Go.Proofs.YtedkoimihknggaaGreatDoor.A

namespace Go.Proofs.YtedkoimihknggaaGreatDoor.A
set_option linter.unusedVariables false
set_option linter.unusedSimpArgs false
open Go.Proofs Go.Proofs.YtedkoimihknggaaGreatDoor
def W5 (ps : List Tx) (k : Tx) (mem : Mem) : Mem:=fun g n=>mem g n || (decide (g∈ps) && n==k)
section
variable {X X' X0 H H0 : Zd} {n p d b c i : Nat} {r : NR} {s : NSt} {v sl gv ugv zl : Value} {l gs : List Tx} {m k g : Tx} {u : Zj} {us prev : List Zj}
theorem Zrw {i : Nat} (hg : us[i]?=some u) : us.take (i+1)=us.take i++[u]:=by
 rw [List.take_add_one,hg];rfl
end
end Go.Proofs.YtedkoimihknggaaGreatDoor.A

namespace Go.Proofs.YtedkoimihknggaaGreatDoor.A
set_option linter.unusedVariables false
set_option linter.unusedSimpArgs false
open Go.Proofs Go.Proofs.YtedkoimihknggaaGreatDoor
section
variable {X X' X0 H H0 : Zd} {n p d b c i : Nat} {r : NR} {s : NSt} {v sl gv ugv zl : Value} {l gs : List Tx} {m k g : Tx} {u : Zj} {us prev : List Zj}
def nGs (gs : List Tx) : NSt:=⟨[],[],[],gs,fun _ _=>false⟩
theorem ZBl (hr : Wi gs=true) (hn : gs.all Zo=true) (h6 : gs.length≤6) {j : Nat} (hg : gs[j]?=some g) : Qz g (gs.take j)=0∧Zcf g (gs.take j)=gs.take (j+1):=by
 have hj : j < gs.length:=(List.getElem?_eq_some_iff.1 hg).1
 have hgm:=List.mem_of_getElem? hg
 have h1 : Zo g=true:=List.all_eq_true.1 hn g hgm
 have hd:=List.drop_eq_getElem_cons hj
 have hge : gs[j]=g:=by have:=List.getElem?_eq_getElem hj;rw [hg] at this;exact (Option.some.inj this).symm
 have hp:=Zhb hr
 rw [← List.take_append_drop j gs,List.pairwise_append,hd,hge] at hp
 have h2 : g∉gs.take j:=fun hm=>List.lt_irrefl g (hp.2.2 g hm g (by simp))
 have hl : (gs.take j).length=j:=by rw [List.length_take];omega
 have h0 : Qz g (gs.take j)=0:=by
  unfold Qz
  rw [h1,if_pos rfl,if_neg h2,hl,if_neg (by omega)]
 refine ⟨h0,?_⟩
 unfold Zcf
 rw [if_pos h0,List.take_add_one,hg]
 rfl
theorem ZxU (hs : Sl X0 gv (gs.map strv)) (hr : Wi gs=true) (hn : gs.all Zo=true) (h6 : gs.length≤6) : ∀ (t j : Nat) (r : NR) (X : Zd),gs.length - j=t→j≤gs.length→HLe X0 X→ND X d r (nGs (gs.take j)) 0→(∀ i∈r.own,X0.length≤i)→
  ∃ X' r',Zi (c5 (QV.l1 (R (n+11)))) [sl,pt d,gv,iv gs.length,iv j] X=some (.ext 0 [sl,pt d],X')∧HLe X0 X'∧ND X' d r' (nGs gs) 0∧∀ i∈r'.own,X0.length≤i
 | 0,j,r,X,ht,hj,hle,hd,ho=>by
  have hj : j=gs.length:=by omega
  subst hj
  rw [List.take_length] at hd
  refine ⟨X,r,ZN ?_,hle,hd,ho⟩
  rw [Qs]
  unfold QV.l1
  rw [Za Zk,Zb,if_neg (by simp)]
  rfl
 | t+1,j,r,X,ht,hj,hle,hd,ho=>by
  have hkl : j < gs.length:=by omega
  have hlt : (j : Int) < gs.length:=by omega
  have hg:=List.getElem?_eq_getElem hkl
  generalize gs[j]=g at hg
  have x1:=(hs.mono hle).ix (i:=j) (by simpa using hkl) .i64 X
  have x2:=(hs.mono hle).ldx (Yt hg)
  obtain ⟨m1,m2⟩:=ZBl hr hn h6 hg
  obtain ⟨X1,G',e1,g1,k1,s1⟩:=ZvE (n:=n+3) (k:=g) hd.gr
  have e1 : R (n+11) Yk [pt r.g,strv g] X=_:=e1
  rw [hd.ks] at e1 k1
  rw [show (nGs (gs.take j)).K=gs.take j from rfl,m2] at k1
  obtain ⟨d1,t1⟩:=hd.toND0.setG g1 s1 k1
  have hm:=hle.more t1 ho
  have hd1 : ND X1 d { r with G:=G' } (nGs (gs.take (j+1))) 0:=⟨d1,⟨by simp [nGs],by simp [nGs],by simp [nGs,Ze],by simp [nGs],by simp [nGs,Ze]⟩⟩
  obtain ⟨X2,r2,e2,k2,h2,o2⟩:=ZxU hs hr hn h6 t (j+1) _ X1 (by omega) (by omega) hm.1 hd1 hm.2
  refine ⟨X2,r2,(ZA ?_).trans e2,k2,h2,o2⟩
  rw [Qs]
  unfold QV.l1
  rw [Za Zk,Zb,if_pos (by simpa using hlt),Za x1,Za x2,Za Zu,Za Zg,Za hd.l2,Za e1,Za ZB,Qi (by omega)]
  rfl
theorem Zzm {mem : Mem} : W5 [] k mem=mem:=by
 funext g n
 unfold W5
 simp
theorem Zx4 {mem : Mem} {ps : List Tx} : ZaU g k (W5 ps k mem)=W5 (ps++[g]) k mem:=by
 funext g' n
 unfold ZaU W5
 by_cases h1 : g'∈ps <;> by_cases h2 : g'=g <;> cases mem g' n <;> cases hn : n==k <;> simp [h1,h2,hn]
theorem Zyr (hnm : Zo u.nm=true) (hall : u.gs.all Zo=true) (hasc : Wi u.gs=true) (hl : u.gs.length≤6) (hfree : ∀ g,s.mem g u.nm=false) (hK : s.K=gs) {z1 z2 z3 : Value} : ∀ (t j : Nat) (c : Nat) (X : Zd),u.gs.length - j=t→j≤u.gs.length→ND0 X d r { s with mem:=W5 (u.gs.take j) u.nm s.mem } c→X[b]?=some (.cells u.cells 1 false false)→Sl X ugv (u.gs.map strv)→
  ∃ X',Zi (c8 (QV.l3 (R (n+11)))) [pt d,pt b,z1,z2,z3,ugv,iv u.gs.length,iv j] X=some (if (u.gs.drop j).all (fun g=>decide (g∈gs)) then .ext 4 [pt d,pt b,z1,z2,z3] else .ret (.tuple #[.pointer none,iv 8]),X')∧Zx r.own X r.own X'∧((u.gs.drop j).all (fun g=>decide (g∈gs))=true→∃ c',ND0 X' d r { s with mem:=W5 u.gs u.nm s.mem } c')
 | 0,j,c,X,ht,hj,hd,hb,hs=>by
  have hj : j=u.gs.length:=by omega
  subst hj
  rw [List.take_length] at hd
  rw [List.drop_length]
  refine ⟨X,ZN ?_,.refl _ _,fun _=>⟨c,hd⟩⟩
  rw [Ki]
  unfold QV.l3
  rw [Za Zk,Zb,if_neg (by simp)]
  rfl
 | t+1,j,c,X,ht,hj,hd,hb,hs=>by
  have hkl : j < u.gs.length:=by omega
  have hlt : (j : Int) < u.gs.length:=by omega
  have hg:=List.getElem?_eq_getElem hkl
  have hdr:=List.drop_eq_getElem_cons hkl
  have hsn:=take_snocT hg
  generalize u.gs[j]=g at hg hdr hsn
  have x1:=hs.ix (i:=j) (by simpa using hkl) .i64 X
  have x2:=hs.ldx (Yt hg)
  have l0 : ld1 (pa b 0) X=some (strv u.nm,X):=Zv hb rfl
  obtain ⟨X1,e1,g1,s1⟩:=ZvH (n:=n+3) (k:=g) (m:=u.nm) hd.gr
  have e1 : R (n+11) YJ [pt r.g,strv g,strv u.nm] X=_:=e1
  rw [hd.ks] at e1 g1
  have hKs : ({ s with mem:=W5 (u.gs.take j) u.nm s.mem } : NSt).K=gs:=hK
  rw [hKs] at e1 g1
  have hgn : Zo g=true:=List.all_eq_true.1 hall g (List.mem_of_getElem? hg)
  have hgt : g∉u.gs.take j:=by
   have hp:=Zhb hasc
   rw [← List.take_append_drop j u.gs,List.pairwise_append,hdr] at hp
   exact fun hm=>List.lt_irrefl g (hp.2.2 g hm g (by simp))
  have hmf : W5 (u.gs.take j) u.nm s.mem g u.nm=false:=by
   unfold W5
   rw [hfree]
   simp [hgt]
  have hfd : QS g [u.nm] gs=if g∈gs then 0 else 8:=by
   unfold QS
   simp [hgn,hnm]
  rw [hdr,List.all_cons]
  by_cases hgm : g∈gs
  ·rw [if_pos hgm] at hfd
   have hE : W0 g u.nm gs (W5 (u.gs.take j) u.nm s.mem)=0:=by
    unfold W0
    rw [hfd,if_pos rfl,hmf];rfl
   rw [hE] at e1
   rw [show ({ s with mem:=W5 (u.gs.take j) u.nm s.mem } : NSt).mem=W5 (u.gs.take j) u.nm s.mem from rfl,hE,if_pos rfl,Zx4,← hsn] at g1
   obtain ⟨d1,t1⟩:=hd.setG g1 s1 hd.ks
   have hc1:=hd.cle t1
   rw [decide_eq_true hgm,Bool.true_and]
   have d1' : ND0 X1 d r { s with mem:=W5 (u.gs.take (j+1)) u.nm s.mem } (c+1):=d1
   obtain ⟨X2,e2,t2,h2⟩:=Zyr hnm hall hasc hl hfree hK t (j+1) (c+1) X1 (by omega) (by omega) d1' (hc1 _ _ _ _ _ hb) (hs.cle hc1)
   refine ⟨X2,(ZA ?_).trans e2,Zx.trans t1 t2,h2⟩
   rw [Ki]
   unfold QV.l3
   rw [Za Zk,Zb,if_pos (by simpa using hlt),Za x1,Za x2,Za Zu,Za Zg,Za hd.l2,Za Zg,Za l0,Za e1,Za Zq,Zb,if_neg (by simp),Za ZB,Qi (by omega)]
   rfl
  ·rw [if_neg hgm] at hfd
   have hE : W0 g u.nm gs (W5 (u.gs.take j) u.nm s.mem)=8:=by
    unfold W0
    rw [hfd,if_neg (by simp)]
   rw [hE] at e1
   obtain ⟨d1,t1⟩:=hd.setG g1 s1 hd.ks
   rw [decide_eq_false hgm,Bool.false_and]
   refine ⟨X1,QR ?_,t1,fun h=>by cases h⟩
   rw [Ki]
   unfold QV.l3
   rw [Za Zk,Zb,if_pos (by simpa using hlt),Za x1,Za x2,Za Zu,Za Zg,Za hd.l2,Za Zg,Za l0,Za e1,Za Zq,Zb,if_pos (by simp)]
   rfl
where
 take_snocT {l : List Tx} {j : Nat} {h : j < l.length} (hg : l[j]?=some l[j]) : l.take (j+1)=l.take j++[l[j]]:=by
  rw [List.take_add_one,hg];rfl
theorem Zq7 : ∀ {us : List Zj},(∀ v∈us,v.nm < u.nm)→putU u us=us++[u]
 | [],_=>by simp [putU,Kv,Wd]
 | v :: us,h=>by
  rw [ZlV,if_neg (fun hle=>(List.not_lt.2 hle) (h v (by simp))),Zq7 fun w hw=>h w (by simp [hw])]
  rfl
theorem Zza (hO : ROK s prev) (hP : J3 s) (hm : QB m=true) (hf : Z7 m=m) : prev.any (fun w=>m==w.ml)=(Ze m s.OW).isSome:=by
 have h1:=Zxo hO hP hm
 rw [hf] at h1
 rw [← h1,Option.isSome_map,List.isSome_find?]
 congr 1
 funext w
 exact BEq.comm
def addN (u : Zj) (s : NSt) : NSt:={ A:=Qr u.nm (u.hs,u.ds) s.A,OW:=Zig u.nm u.ml s.OW s.OF,OF:=ZbW u.nm u.ml s.OW s.OF,K:=s.K,mem:=W5 u.gs u.nm s.mem }
theorem Zmo (h : Zdv m=true) : m=[]∨(QB m=true∧Z7 m=m):=by
 unfold Zdv at h
 simpa using h
theorem Zg2 (h : Yn u=0) : Zo u.nm=true∧WB u.hs=true∧Zdv u.ml=true∧u.gs.length≤6∧u.gs.all Zo=true∧Wi u.gs=true:=by
 unfold Yn at h
 split at h
 ·rename_i h1
  split at h
  ·rename_i h2
   split at h
   ·rename_i h3
    unfold Zgf at h
    split at h
    ·exact absurd h (by decide)
    ·rename_i h6
     split at h
     ·rename_i h4
      split at h
      ·rename_i h5
       exact ⟨h1,h2,h3,by omega,h4,h5⟩
      ·exact absurd h (by decide)
     ·exact absurd h (by decide)
   ·exact absurd h (by decide)
  ·exact absurd h (by decide)
 ·exact absurd h (by decide)
theorem ZAE (hO : ROK s prev) (hP : J3 s) (hu : Yn u=0) (hA : Ze u.nm s.A=none) : Yp u.nm u.ml s.OW=if u.ml≠[]∧prev.any (fun w=>u.ml==w.ml)=true then 9 else 0:=by
 obtain ⟨h1,_,h3,_,_,_⟩:=Zg2 hu
 unfold Yp
 rw [h1,if_pos rfl]
 rcases Zmo h3 with hm | ⟨hm,hf⟩
 ·rw [if_pos hm,if_neg (fun h=>h.1 hm)]
 ·have hne : u.ml≠[]:=by have:=(ZgZ hm).1;rwa [hf] at this
  rw [if_neg hne,hm,if_pos rfl,hf,Zza hO hP hm hf]
  cases hw : Ze u.ml s.OW with
  | none=>simp
  | some w=>
   have hww : w≠u.nm:=fun e=>by
    subst e
    have:=hP.i.ofA u.nm (by rw [(hP.x.inv u.nm u.ml).2 hw];rfl)
    rw [hA] at this;cases this
   simp [hww,hne]
theorem Zzc (hi : JK s) (hu : Yn u=0) (hgs : ∀ g∈u.gs,g∈s.K) (hk : s.K.Nodup) (hA : Ze u.nm s.A=none) (hfree : ∀ g,s.mem g u.nm=false) (he : Yp u.nm u.ml s.OW=0) (x : Tx) : ZK (addN u s) x=if x=u.nm then some (ZI u) else ZK s x:=by
 obtain ⟨h1,h2,h3,h4,h5,h6⟩:=Zg2 hu
 by_cases hx : x=u.nm
 ·rw [if_pos hx,hx]
  unfold ZK
  show (Ze u.nm (Qr u.nm (u.hs,u.ds) s.A)).map _=_
  rw [Kb]
  show some (Qe _ u.nm (u.hs,u.ds))=_
  unfold Qe ZI
  show some (u.nm,u.hs,(Ze u.nm (ZbW u.nm u.ml s.OW s.OF)).getD [],u.ds,ofL u.nm s.K (W5 u.gs u.nm s.mem))=_
  rw [Zel he,if_pos rfl]
  have hg : ofL u.nm s.K (W5 u.gs u.nm s.mem)=u.gs:=by
   refine (Zcq hk).uniq ⟨Zhb h6,fun y=>Iff.rfl⟩ fun y=>?_
   unfold W5
   rw [hfree]
   simp
   exact hgs y
  rw [hg]
  rcases Zmo h3 with hm | ⟨hm,hf⟩
  ·rw [if_pos hm,hm];rfl
  ·have hne : u.ml≠[]:=by have:=(ZgZ hm).1;rwa [hf] at this
   rw [if_neg hne,hf];rfl
 ·rw [if_neg hx]
  unfold ZK
  show (Ze x (Qr u.nm (u.hs,u.ds) s.A)).map _=_
  rw [JZ hx]
  cases Ze x s.A with
  | none=>rfl
  | some p=>
   show some (Qe _ x p)=some (Qe s x p)
   unfold Qe
   show some (x,p.1,(Ze x (ZbW u.nm u.ml s.OW s.OF)).getD [],p.2,ofL x s.K (W5 u.gs u.nm s.mem))=_
   rw [Zel he,if_neg hx]
   have : ofL x s.K (W5 u.gs u.nm s.mem)=ofL x s.K s.mem:=by
    unfold ofL W5
    refine List.filter_congr fun g _=>?_
    simp [hx]
   rw [this]
theorem JK.add (hi : JK s) (hu : Yn u=0) (hA : s.A.length < 12) (he : Yp u.nm u.ml s.OW=0) : JK (addN u s):=by
 obtain ⟨h1,h2,h3,h4,h5,h6⟩:=Zg2 hu
 have p1:=hi.putA (k:=u.nm) (v:=(u.hs,u.ds)) h1 h2 (.inr hA)
 refine ⟨p1.nm,p1.few,fun x hx=>?_,fun g x hx=>?_,fun x y hx=>?_⟩
 ·have hx : (Ze x (ZbW u.nm u.ml s.OW s.OF)).isSome=true:=hx
  rw [Zel he] at hx
  by_cases e : x=u.nm
  ·show (Ze x (Qr u.nm (u.hs,u.ds) s.A)).isSome=true
   rw [e,Kb];rfl
  ·rw [if_neg e] at hx
   exact Zbo (.inl (hi.ofA x hx))
 ·have hx : W5 u.gs u.nm s.mem g x=true:=hx
  unfold W5 at hx
  rw [Bool.or_eq_true] at hx
  rcases hx with hx | hx
  ·exact Zbo (.inl (hi.memA g x hx))
  ·rw [Bool.and_eq_true,beq_iff_eq] at hx
   exact Zbo (.inr hx.2)
 ·have hx : Ze x (ZbW u.nm u.ml s.OW s.OF)=some y:=hx
  rw [Zel he] at hx
  by_cases e : x=u.nm
  ·rw [if_pos e] at hx
   rcases Zmo h3 with hm | ⟨hm,hf⟩
   ·rw [if_pos hm] at hx;cases hx
   ·have hne : u.ml≠[]:=by have:=(ZgZ hm).1;rwa [hf] at this
    rw [if_neg hne,hf] at hx
    cases hx
    exact ⟨hm,hf⟩
  ·rw [if_neg e] at hx
   exact hi.good x y hx
structure OfS (X0 X : Zd) (d : Nat) (r : NR) (s : NSt) (c : Nat) (gs : List Tx) (prev : List Zj) : Prop where
 le : HLe X0 X
 nd : ND X d r s c
 own : ∀ i∈r.own,X0.length≤i
 K : s.K=gs
 ok : ROK s prev
theorem ZyJ (hn : us.length≤12) (hA : Qg X0 sl us) (h2 : ∀ u∈us,Yn u=0) (hris : Wi (us.map (·.nm))=true) : ∀ (t i : Nat) (s : NSt) (c : Nat) (X : Zd),us.length - i=t→i≤us.length→OfS X0 X d r s c gs (us.take i)→
  ∃ X' o,Zi (c4 (QV.l2 (R (n+11)))) [pt d,sl,iv us.length,iv i] X=some (o,X')∧HLe X0 X'∧(if Za4 gs (us.take i) (us.drop i)=0 then o=.ext 2 [pt d]∧∃ s' c',OfS X0 X' d r s' c' gs us else o=.ret (.tuple #[.pointer none,iv (Za4 gs (us.take i) (us.drop i))]))
 | 0,i,s,c,X,ht,hi,hS=>by
  have hi : i=us.length:=by omega
  subst hi
  rw [List.take_length] at hS
  rw [List.drop_length,List.take_length]
  refine ⟨X,.ext 2 [pt d],ZN ?_,hS.le,?_⟩
  ·rw [ZJ]
   unfold QV.l2
   rw [Za Zk,Zb,if_neg (by simp)]
   rfl
  ·rw [if_pos (show Za4 gs us []=0 from by unfold Za4;rfl)]
   exact ⟨rfl,s,c,hS⟩
 | t+1,i,s,c,X,ht,hi,hS=>by
  have hjl : i < us.length:=by omega
  have hlt : (i : Int) < us.length:=by omega
  have hg:=List.getElem?_eq_getElem hjl
  have hdr:=List.drop_eq_getElem_cons hjl
  generalize us[i]=u at hg hdr
  have hum:=List.mem_of_getElem? hg
  have hu:=h2 u hum
  obtain ⟨u1,u2,u3,u4,u5,u6⟩:=Zg2 hu
  have hP:=hS.nd.pinv
  have hrp : ∀ v∈us.take i,v.nm < u.nm:=fun v hv=>by
   have hp:=Zhb hris
   rw [← List.take_append_drop i us,hdr,List.map_append,List.pairwise_append] at hp
   exact hp.2.2 v.nm (List.mem_map.2 ⟨v,hv,rfl⟩) u.nm (by simp)
  have hlen:=hS.ok.len hP.n
  have hlt' : (us.take i).length=i:=by rw [List.length_take];omega
  have hnone : Ze u.nm s.A=none:=by
   cases ha : Ze u.nm s.A with
   | none=>rfl
   | some p=>
    have h3 : ZK s u.nm=some (Qe s u.nm p):=by unfold ZK;rw [ha];rfl
    obtain ⟨v,hv,hk⟩:=KO.1 ((hS.ok.look (Qe s u.nm p)).2 h3)
    have hvn : v.nm=u.nm:=congrArg (·.1) hk
    have:=hrp v hv
    rw [hvn] at this
    exact absurd this (List.lt_irrefl _)
  have hfree:=hP.i.memN hnone
  have hok:=(hA.mono hS.le).ok hum
  have hf:=fun {K : Value→M Out}=>Zed (k:=K) (hA.mono hS.le).1 hok.2.1 hg
  have g1 : (X++[Zf.cells u.cells 1 false false])[X.length]?=some (.cells u.cells 1 false false):=ZC
  have k1 : HLe X (X++[Zf.cells u.cells 1 false false]):=.app _ _
  generalize X++[Zf.cells u.cells 1 false false]=X1 at g1 k1 hf
  generalize X.length=b at g1 hf
  have d1:=hS.nd.hle k1
  have ok1:=hok.hle k1
  have a0 : ∀ f x,u.cells[f]?=some x→ld1 (pa b f) X1=some (x,X1):=fun f x h=>Zv g1 h
  obtain ⟨X2,e2,m2,s2,_⟩:=d1.m.mup (k:=u.nm) (v:=(u.hs,u.ds))
  obtain ⟨d2,t2⟩:=d1.toND0.setA m2 s2
  have c2:=d1.toND0.cle t2
  have g2:=c2 _ _ _ _ _ g1
  have a4 : ld1 (pa b 4) X2=some (u.gv,X2):=Zv g2 rfl
  have hs2:=ok1.1.cle c2
  have hul : Zy u.gv X2=some (iv u.gs.length,X2):=by have:=hs2.len (H':=X2);simpa using this
  have d2' : ND0 X2 d r { ({ s with A:=Qr u.nm (u.hs,u.ds) s.A } : NSt) with mem:=W5 (u.gs.take 0) u.nm s.mem } c:=by
   rw [List.take_zero,Zzm];exact d2
  obtain ⟨X3,e3,t3,h3⟩:=Zyr (n:=n) (s:={ s with A:=Qr u.nm (u.hs,u.ds) s.A }) (gs:=gs) (z1:=sl) (z2:=iv us.length) (z3:=iv i) u1 u5 u6 u4 hfree hS.K u.gs.length 0 c X2 (by omega) (by omega) d2' g2 hs2
  rw [show iv ((0 : Nat) : Int)=.int .i64 0 from rfl,List.drop_zero] at e3
  rw [List.drop_zero] at h3
  obtain ⟨q1,q2⟩:=(hS.le.trans k1).more (t2.trans t3) hS.own
  have hbody : ∀ o Z,jn (Zi (c8 (QV.l3 (R (n+11)))) [pt d,pt b,sl,iv us.length,iv i,u.gv,iv u.gs.length,(Value.int .i64 0)]) noN (xk 4 (c5 fun q45_0 q45_1 q45_2 q45_3 q45_4=>
    bind (Qc q45_0) fun v73x46=>bind (fa 1 v73x46) fun v74x47=>bind (ld1 v74x47) fun v75x48=>bind (fa 0 q45_1) fun v76x49=>bind (ld1 v76x49) fun v77x50=>bind (fa 2 q45_1) fun v78x51=>bind (ld1 v78x51) fun v79x52=>
    bind (R (n+11) Kf [v75x48,v77x50,v79x52]) fun v80x53=>bind (bop .int .neq v80x53 (Value.int .i64 0)) fun v82x54=>
    cnd v82x54 (ret (.ret (Value.tuple #[(Value.pointer none),v80x53]))) (bind (bop .int .add q45_4 (Value.int .i64 1)) fun v84x55=>ret (.nrm [q45_0,q45_2,q45_3,v84x55]))) noX) ZX X2=some (o,Z)→c4 (QV.l2 (R (n+11))) [pt d,sl,iv us.length,iv i] X=some (o,Z):=fun o Z h=>by
   rw [ZJ]
   unfold QV.l2
   rw [Za Zk,Zb,if_pos (by simpa using hlt),hf,Za Zu,Za Zg,Za d1.l0,Za Zg,Za (a0 0 _ rfl),Za Zg,Za (a0 1 _ rfl),Za Zg,Za (a0 3 _ rfl),Za ZCE,Za e2,Za Zg,Za a4,Za hul]
   exact h
  rw [hdr]
  unfold Za4 ZfB
  cases ha : u.gs.all fun g=>decide (g∈gs)
  ·rw [ha] at e3
   simp only [Bool.false_eq_true,if_false]
   exact ⟨X3,_,QR (hbody _ _ ((Yh e3).trans rfl)),q1,rfl⟩
  ·rw [ha] at e3
   simp only [if_true]
   obtain ⟨c3,d3⟩:=h3 ha
   have c23:=d2.cle t3
   have g3:=c23 _ _ _ _ _ g2
   have l0 : ld1 (pa b 0) X3=some (strv u.nm,X3):=Zv g3 rfl
   have l2 : ld1 (pa b 2) X3=some (strv u.ml,X3):=Zv g3 rfl
   obtain ⟨X4,e4,i4,s4⟩:=Zxz (n:=n+2) (k:=u.nm) (m:=u.ml) d3.ix
   have e4 : R (n+11) Kf [pt r.x,strv u.nm,strv u.ml] X3=some (iv (Yp u.nm u.ml s.OW),X4):=e4
   obtain ⟨d4,t4⟩:=d3.setI i4 s4
   obtain ⟨q3,q4⟩:=q1.more t4 q2
   have hE:=ZAE hS.ok hP hu hnone
   by_cases hp : u.ml≠[]∧(us.take i).any (fun w=>u.ml==w.ml)=true
   ·rw [if_pos hp] at hE
    simp only [if_pos hp]
    rw [hE] at e4
    refine ⟨X4,_,QR (hbody (.ret (.tuple #[.pointer none,iv 9])) X4 ?_),q3,rfl⟩
    rw [Z5 e3,ZG,Qs,Za Zu,Za Zg,Za d3.l1,Za Zg,Za l0,Za Zg,Za l2,Za e4,Za Zq,Zb,if_pos (by simp)]
    rfl
   ·rw [if_neg hp] at hE
    simp only [if_neg hp,if_true]
    rw [hE] at e4
    have hgs : ∀ g∈u.gs,g∈s.K:=fun g hgm=>by
     rw [hS.K]
     simpa using List.all_eq_true.1 ha g hgm
    have hadd:=Zzc hP.i hu hgs hP.k.nod hnone hfree hE
    have hd4 : ND X4 d r (addN u s) c3:=⟨d4,hP.i.add hu (by omega) hE⟩
    have hok4 : ROK (addN u s) (us.take (i+1)):=by
     rw [Zrw hg,← Zq7 hrp]
     exact hS.ok.put (by rw [hadd,if_pos rfl]) (fun x hx=>by rw [hadd,if_neg hx])
    obtain ⟨X5,o5,e5,k5,h5⟩:=ZyJ hn hA h2 hris t (i+1) (addN u s) c3 X4 (by omega) (by omega) ⟨q3,hd4,q4,hS.K,hok4⟩
    rw [Zrw hg] at h5
    refine ⟨X5,o5,(ZA (hbody _ X4 ?_)).trans e5,k5,h5⟩
    rw [Z5 e3,ZG,Qs,Za Zu,Za Zg,Za d3.l1,Za Zg,Za l0,Za Zg,Za l2,Za e4,Za Zq,Zb,if_neg (by simp),Za ZB,Qi (by omega)]
    rfl
theorem ZxN (h : Zd9 us gs=0) : Kg us=0∧Wi (us.map (·.nm))=true∧us.length≤12∧gs.all Zo=true∧Wi gs=true∧gs.length≤6:=by
 unfold Zd9 ZnB at h
 by_cases h1 : Kg us=0
 ·simp only [if_pos h1] at h
  cases h2 : Wi (us.map (·.nm))
  ·rw [h2] at h;simp at h
  ·rw [h2] at h
   by_cases h3 : 12 < us.length
   ·simp [h3] at h
   ·cases h4 : gs.all Zo <;> cases h5 : Wi gs <;> rw [h4,h5] at h <;> by_cases h6 : 6 < gs.length <;> simp [h3,h6] at h
    exact ⟨h1,rfl,by omega,rfl,rfl,by omega⟩
 ·simp only [if_neg h1] at h
  exact absurd h h1
theorem Zx6 (hn : us.length≤1000) (hl : gs.length≤1000000) (hA : Qg X sl us) (hs : Sl X gv (gs.map strv)) : ∃ X',HLe X X'∧(if ZcL us gs=0 then ∃ d r s c,R (n+12) Zbf [sl,gv] X=some (.tuple #[pt d,iv 0],X')∧OfS X X' d r s c gs us else R (n+12) Zbf [sl,gv] X=some (.tuple #[.pointer none,iv (ZcL us gs)],X')):=by
 obtain ⟨X1,e1,k1⟩:=Zt4 (n:=n) hn hl hA hs
 have f1 : ∀ r X',QV (R (n+11)) sl gv X=some (r,X')→R (n+12) Zbf [sl,gv] X=some (r,X'):=fun r X' hr=>by rw [R,ZuZ rfl];exact hr
 unfold ZcL
 by_cases hc : Zd9 us gs=0
 ·obtain ⟨c1,c2,c3,c4,c5,c6⟩:=ZxN hc
  rw [hc] at e1
  simp only [if_pos hc]
  have q1 : bop .int .neq (iv 0) (.int .i64 0) X1=some (.bool false,X1):=by rw [Zq];rfl
  obtain ⟨X2,d,r,e2,D2,l2,o1,o2⟩:=Zs3 (n:=n+9) (X:=X1)
  have e2 : R (n+11) Wj [] X1=_:=e2
  have k2:=k1.trans l2
  have hgn : Zy gv X2=some (iv gs.length,X2):=by have:=hs.len (H':=X2);simpa using this
  obtain ⟨X3,r3,e3,k3,D3,o3⟩:=ZxU (n:=n) (sl:=sl) hs c5 c4 c6 gs.length 0 r X2 (by omega) (by omega) k2 D2 (fun i hi=>Nat.le_trans k1.len (o2 i hi))
  rw [show iv ((0 : Nat) : Int)=.int .i64 0 from rfl] at e3
  have hlen : Zy sl X3=some (iv us.length,X3):=by have:=hA.1.len (H':=X3);rwa [List.length_map] at this
  have hS : OfS X X3 d r3 (nGs gs) 0 gs (us.take 0):=⟨k3,D3,o3,rfl,⟨List.Pairwise.nil,fun key=>by simp [ZK,nGs,Ze]⟩⟩
  obtain ⟨X4,o,e4,k4,h4⟩:=ZyJ (n:=n) c3 hA (Zkz c1) c2 us.length 0 (nGs gs) 0 X3 (by omega) (by omega) hS
  rw [show iv ((0 : Nat) : Int)=.int .i64 0 from rfl] at e4
  rw [List.take_zero,List.drop_zero] at h4
  refine ⟨X4,k4,?_⟩
  by_cases hz : Za4 gs [] us=0
  ·rw [if_pos hz] at h4 ⊢
   obtain ⟨rfl,s',c',hS'⟩:=h4
   refine ⟨d,r3,s',c',f1 _ _ ?_,hS'⟩
   unfold QV
   rw [Za e1,Za q1,Zb,if_neg (by simp),Za e2,Za hgn,Z5 e3,ZG,Qf,Za hlen,Z5 e4,ZG]
   rfl
  ·rw [if_neg hz] at h4 ⊢
   subst h4
   refine f1 _ _ ?_
   unfold QV
   rw [Za e1,Za q1,Zb,if_neg (by simp),Za e2,Za hgn,Z5 e3,ZG,Qf,Za hlen,Yh e4]
   rfl
 ·simp only [if_neg hc]
  have q1 : bop .int .neq (iv (Zd9 us gs)) (.int .i64 0) X1=some (.bool true,X1):=by rw [Zq];simp [hc]
  refine ⟨X1,k1,f1 _ _ ?_⟩
  unfold QV
  rw [Za e1,Za q1,Zb,if_pos rfl]
  rfl
theorem ZzP {us ws : List Zj} (h : us.map ZI=ws.map ZI) : ZcL us gs=ZcL ws gs:=by
 have hrest : ∀ (l l' p p' : List Zj),l.map ZI=l'.map ZI→p.map ZI=p'.map ZI→Za4 gs p l=Za4 gs p' l':=by
  intro l
  induction l with
  | nil=>
   intro l' p p' hl hp
   cases l' with
   | nil=>unfold Za4;rfl
   | cons a b=>simp at hl
  | cons u l ih=>
   intro l' p p' hl hp
   cases l' with
   | nil=>simp at hl
   | cons w l'=>
    rw [List.map_cons,List.map_cons,List.cons.injEq] at hl
    have hg : u.gs=w.gs:=congrArg (·.2.2.2.2) hl.1
    have hm : u.ml=w.ml:=congrArg (·.2.2.1) hl.1
    have hany : p.any (fun v=>u.ml==v.ml)=p'.any (fun v=>w.ml==v.ml):=by
     have h1 : ∀ (p : List Zj) (m : Tx),p.any (fun v=>m==v.ml)=(p.map ZI).any (fun v=>m==v.2.2.1):=fun p m=>by
      rw [List.any_map];rfl
     rw [h1,h1,hp,hm]
    have hpe : ZfB gs p u=ZfB gs p' w:=by
     unfold ZfB
     rw [hg,hm]
     rw [hm] at hany
     rw [hany]
    unfold Za4
    rw [hpe,ih l' (p++[u]) (p'++[w]) hl.2 (by rw [List.map_append,List.map_append,hp,List.map_singleton,List.map_singleton,hl.1])]
 have hfirst : ∀ (l l' : List Zj),l.map ZI=l'.map ZI→Kg l=Kg l':=by
  intro l
  induction l with
  | nil=>
   intro l' hl
   cases l' with
   | nil=>rfl
   | cons a b=>simp at hl
  | cons u l ih=>
   intro l' hl
   cases l' with
   | nil=>simp at hl
   | cons w l'=>
    rw [List.map_cons,List.map_cons,List.cons.injEq] at hl
    have he : Yn u=Yn w:=by
     have h1 : u.nm=w.nm:=congrArg (·.1) hl.1
     have h2 : u.hs=w.hs:=congrArg (·.2.1) hl.1
     have h3 : u.ml=w.ml:=congrArg (·.2.2.1) hl.1
     have h4 : u.gs=w.gs:=congrArg (·.2.2.2.2) hl.1
     unfold Yn
     rw [h1,h2,h3,h4]
    unfold Kg
    rw [he,ih l' hl.2]
 have hnm : us.map (·.nm)=ws.map (·.nm):=by
  have h1:=congrArg (List.map (·.1)) h
  rw [List.map_map,List.map_map] at h1
  exact h1
 have hlen : us.length=ws.length:=by
  have h1:=congrArg List.length h
  rwa [List.length_map,List.length_map] at h1
 unfold ZcL Zd9 ZnB
 rw [hfirst us ws h,hnm,hlen,hrest us ws [] [] h rfl]
theorem ROK.keys {us ws : List Zj} (hO : ROK s us) (h : us.map ZI=ws.map ZI) : ROK s ws:=⟨by
 have h1:=congrArg (List.map (·.1)) h
 rw [List.map_map,List.map_map] at h1
 have h1 : us.map (·.nm)=ws.map (·.nm):=h1
 have h2 : (us.map (·.nm)).Pairwise (· < ·):=by rw [List.pairwise_map];exact hO.rise
 rw [h1,List.pairwise_map] at h2
 exact h2,fun key=>by rw [← h];exact hO.look key⟩
end
end Go.Proofs.YtedkoimihknggaaGreatDoor.A

namespace Go.Proofs.YtedkoimihknggaaGreatDoor.A
set_option linter.unusedVariables false
set_option linter.unusedSimpArgs false
open Go.Proofs Go.Proofs.YtedkoimihknggaaGreatDoor
def le (x : Nat) : Nat→List UInt8
 | 0=>[]
 | k+1=>UInt8.ofNat (x % 256) :: le (x / 256) k
theorem ZbQ : ∀ {k x : Nat},(le x k).length=k
 | 0,_=>rfl
 | k+1,x=>by unfold le;rw [List.length_cons,ZbQ]
def txt (s : List UInt8) : List UInt8:=le s.length 2++s
theorem ZBc (a b : List UInt8) : u8s (a++b)=u8s a++u8s b:=by simp [u8s]
section
variable {H X : Zd} {n p : Nat} {sl x v : Value} {vs ws : List Value} {own : List Nat} {bs s : List UInt8}
theorem Zw.addN {b : Nat} (h : Zw H sl vs own) (hf : QD 1 H x=some ws) (hn : A.flen x=ws.length) (hb : (vs.length+ws.length) * b≤140737488355328) (hb0 : vs.length+ws.length≤140737488355328) :
  ∃ sl' H' own',app 1 b sl x H=some (sl',H')∧Zw H' sl' (vs++ws) own'∧Zx own H own' H':=by
 by_cases h0 : ws.length=0
 ·have hw : ws=[]:=List.eq_nil_of_length_eq_zero h0
  subst hw
  refine ⟨sl,H,own,?_,by simpa using h,.refl _ _⟩
  rcases h with ⟨rfl,rfl,rfl⟩ | ⟨sid,rest,gr,rfl,rfl,hid⟩
  ·unfold app
   rw [hf]
   simp [hn]
  ·unfold app
   rw [hf]
   simp [hn,hid]
 rcases h with ⟨rfl,rfl,rfl⟩ | ⟨sid,rest,gr,rfl,rfl,hid⟩
 ·refine ⟨_,H++[.cells ws 1 true false],[H.length],?_,.inr ⟨H.length,[],true,rfl,rfl,by simp⟩,⟨by simp,fun j hj _=>List.getElem?_append_left hj,by simp⟩⟩
  unfold app
  rw [hf]
  simp only [hn]
  simp only [List.length_nil,Nat.zero_add] at hb hb0
  rw [if_neg h0,if_pos ⟨hb0,hb⟩]
  simp
 ·have hlt:=Ql hid
  by_cases hc : ws.length≤rest.length
  ·have hsp : splice (vs++rest) ws vs.length=vs++(ws++rest.drop ws.length):=by
    unfold splice
    rw [List.take_left,List.drop_append,List.drop_eq_nil_of_le (by omega),List.nil_append,Nat.add_sub_cancel_left,List.append_assoc]
   have hset : (H.set sid (.cells (vs++(ws++rest.drop ws.length)) 1 gr false))[sid]?=some (.cells (vs++(ws++rest.drop ws.length)) 1 gr false):=ZM hid
   refine ⟨.slice (some ⟨sid,0,none⟩) (vs.length+ws.length) (vs.length+rest.length),H.set sid (.cells (vs++(ws++rest.drop ws.length)) 1 gr false),[sid],?_,.inr ⟨sid,rest.drop ws.length,gr,?_,rfl,by rw [hset,List.append_assoc]⟩,⟨by simp,fun j hj hn=>List.getElem?_set_ne (fun e=>hn (by simp [e])),by simp⟩⟩
   ·unfold app
    rw [hf]
    simp only [hn,hid,if_true,Nat.mul_one,Nat.zero_add]
    rw [if_pos (by omega),if_neg h0,if_pos ⟨trivial,by rw [List.length_append];omega⟩,hsp]
   ·rw [List.length_append,List.length_drop]
    congr 1;omega
  ·have hold : ((vs++rest).drop 0).take vs.length=vs:=by rw [List.drop_zero,List.take_left]
   have happ : app 1 b (.slice (some ⟨sid,0,none⟩) vs.length (vs.length+rest.length)) x H=some (.slice (some ⟨H.length,0,none⟩) (vs.length+ws.length) (vs.length+ws.length),(bif gr then H.set sid (.view vs 1 H.length) else H)++[.cells (vs++ws) 1 true false]):=by
    unfold app
    rw [hf]
    simp only [hn,hid,if_true,Nat.mul_one,Nat.zero_add]
    rw [if_neg (by omega),if_pos ⟨by simp,by rw [List.length_append];omega,hb0,hb⟩,hold]
    rfl
   have hnew : ((bif gr then H.set sid (.view vs 1 H.length) else H)++[.cells (vs++ws) 1 true false])[H.length]?=some (.cells (vs++ws) 1 true false):=by
    rw [List.getElem?_append_right (by cases gr <;> simp)]
    cases gr <;> simp
   refine ⟨_,_,[H.length],happ,.inr ⟨H.length,[],true,by simp,rfl,by rw [hnew,List.append_nil]⟩,⟨?_,fun j hj hn=>?_,by simp⟩⟩
   ·cases gr <;> simp
   ·rw [List.getElem?_append_left (by cases gr <;> simpa using hj)]
    cases gr
    ·rfl
    ·exact List.getElem?_set_ne (fun e=>hn (by simp [e]))
structure Wtr (H : Zd) (p : Nat) (bs : List UInt8) (own : List Nat) : Prop where
 o : ∃ sl,H[p]?=some (.cells [sl] 1 false false)∧Zw H sl (u8s bs) own
 ne : p∉own
theorem Wtr.lt (h : Wtr H p bs own) : ∀ j∈p :: own,j < H.length:=by
 obtain ⟨sl,hc,hr⟩:=h.o
 intro j hj
 rcases List.mem_cons.1 hj with rfl | hj
 ·exact Ql hc
 ·exact hr.lt j hj
theorem Wtr.keep (h : Wtr H p bs own) (hk : ∀ j∈p :: own,X[j]?=H[j]?) : Wtr X p bs own:=by
 obtain ⟨sl,hc,hr⟩:=h.o
 exact ⟨⟨sl,by rw [hk p (by simp)];exact hc,hr.keep fun j hj=>hk j (by simp [hj])⟩,h.ne⟩
theorem Wtr.step {o1 o2 : List Nat} (h : Wtr H p bs own) (hs : Zx o1 H o2 X) (hn : ∀ j∈p :: own,j∉o1) : Wtr X p bs own:=
 h.keep fun j hj=>hs.keep j (h.lt j hj) (hn j hj)
theorem Wtr.hle (h : Wtr H p bs own) (hl : HLe H X) : Wtr X p bs own:=h.step hl.step (by simp)
theorem Wtr.put {own' : List Nat} {bs' : List UInt8} (h : Wtr H p bs own) (hr : Zw X sl (u8s bs') own') (hs : Zx own H own' X) : ∃ X',st1 (pt p) sl X=some (undef,X')∧Wtr X' p bs' own'∧Zx (p :: own) H (p :: own') X':=by
 obtain ⟨sl0,hc,hr0⟩:=h.o
 have hc1 : X[p]?=some (.cells [sl0] 1 false false):=hs.get hc h.ne
 have hne : p∉own':=fun hm=>by
  rcases hs.own p hm with h1 | h1
  ·exact h.ne h1
  ·have:=Ql hc;omega
 have e1 : st1 (pt p) sl X=some (undef,X.set p (.cells [sl] 1 false false)):=Kk (o:=0) hc1 (by simp) hr.one.1
 refine ⟨_,e1,⟨⟨sl,ZM hc1,hr.keep fun j hj=>List.getElem?_set_ne (fun e=>hne (by rw [e];exact hj))⟩,hne⟩,?_⟩
 have s1 : Zx [p] X [p] (X.set p (.cells [sl] 1 false false)):=⟨by simp,fun j hj hn=>List.getElem?_set_ne (fun e=>hn (by simp [e])),fun j hj=>.inl hj⟩
 refine (hs.more (o2:=p :: own) (o2':=p :: own') (by simp+contextual) ?_).trans (s1.more (by simp) (fun j hj=>.inl hj))
 intro j hj
 rcases List.mem_cons.1 hj with rfl | hj
 ·exact .inl (by simp)
 ·exact .inr (.inl hj)
theorem Zxc (x : Nat) : ((UInt8.ofNat (x % 256)).toNat : Int)=(x : Int) % 256:=by
 rw [UInt8.toNat_ofNat']
 omega
theorem Zxm {N : Nat} (hN : N≤1000) : ∀ (t k x : Nat) (bs : List UInt8) (own : List Nat) (H : Zd),N - k=t→k≤N→x < 18446744073709551616→bs.length+t≤1000000000000→Wtr H p bs own→
  ∃ H' own',Zi (c4 (YA.l1 (R n))) [pt p,.int .u64 x,iv N,iv k] H=some (.ext 0 [pt p],H')∧Wtr H' p (bs++le x t) own'∧Zx (p :: own) H (p :: own') H'
 | 0,k,x,bs,own,H,ht,hk,hx,hb,h=>by
  have : k=N:=by omega
  subst this
  refine ⟨H,own,ZN ?_,by simpa [le] using h,.refl _ _⟩
  rw [ZJ]
  unfold YA.l1
  rw [Za Zk,Zb,if_neg (by simp)]
  rfl
 | t+1,k,x,bs,own,H,ht,hk,hx,hb,h=>by
  have hlt : (k : Int) < N:=by omega
  obtain ⟨sl,hc,hr⟩:=h.o
  have e1 : bsl 1 1 (.int .u8 0) [(0,1,.int .u8 ((UInt8.ofNat (x % 256)).toNat))] H=some (.slice (some ⟨H.length,0,none⟩) 1 1,H++[.cells [.int .u8 ((UInt8.ofNat (x % 256)).toNat)] 1 false false]):=ZwW rfl rfl rfl
  have k1 : HLe H (H++[Zf.cells [.int .u8 ((UInt8.ofNat (x % 256)).toNat)] 1 false false]):=.app _ _
  have s1 : Sl (H++[Zf.cells [.int .u8 ((UInt8.ofNat (x % 256)).toNat)] 1 false false]) (.slice (some ⟨H.length,0,none⟩) 1 1) [.int .u8 ((UInt8.ofNat (x % 256)).toNat)]:=Sl.one (vs:=[.int .u8 ((UInt8.ofNat (x % 256)).toNat)]) ZC
  generalize H++[Zf.cells [.int .u8 ((UInt8.ofNat (x % 256)).toNat)] 1 false false]=X1 at e1 k1 s1
  have h1:=h.hle k1
  have hr1 : Zw X1 sl (u8s bs) own:=hr.step k1.step (by simp)
  have hl : (u8s bs).length=bs.length:=JX bs
  obtain ⟨sl',X2,own',e2,r2,st2,_⟩:=hr1.push (b:=1) s1 (by omega) (by omega)
  rw [show u8s bs++[.int .u8 ((UInt8.ofNat (x % 256)).toNat)]=u8s (bs++[UInt8.ofNat (x % 256)]) from by simp [u8s]] at r2
  obtain ⟨X3,e3,w3,st3⟩:=h1.put r2 st2
  have hx2 : x / 256 < 18446744073709551616:=by omega
  obtain ⟨H',own2,e4,w4,st4⟩:=Zxm hN t (k+1) (x / 256) (bs++[UInt8.ofNat (x % 256)]) own' X3 (by omega) (by omega) hx2 (by rw [List.length_append,List.length_singleton];omega) w3
  have c1 : cvi .u8 (.int .u64 x) H=some (.int .u8 ((UInt8.ofNat (x % 256)).toNat),H):=by rw [QH,wu8,Zxc]
  have c2 : ∀ Y,bop .int .shr (.int .u64 x) (.int .u64 8) Y=some (.int .u64 ((x / 256 : Nat) : Int),Y):=fun Y=>by
   rw [ZCt,if_neg (by decide)]
   congr 3
   rw [show (2 : Int) ^ min (8 : Int).toNat IntKind.u64.bits=256 from rfl]
   rw [Int.fdiv_eq_ediv_of_nonneg _ (by decide)]
   omega
  have c3 : ld1 (pt p) H=some (sl,H):=ZjD hc
  refine ⟨H',own2,(ZA ?_).trans e4,?_,(k1.step.more (by simp) (fun j hj=>.inl hj)).trans (st3.trans st4)⟩
  ·rw [ZJ]
   unfold YA.l1
   rw [Za Zk,Zb,if_pos (by simpa using hlt),Za Zu,Za Zg,Za c3,Za c1,Za e1,Za e2,Za Zu,Za Zg,Za e3,Za (c2 _),Za ZB,Qi (by omega)]
   rfl
  ·rw [List.append_assoc] at w4
   exact w4
theorem Zxi {N x : Nat} (hN : N≤1000) (hx : x < 18446744073709551616) (hb : bs.length+N≤1000000000000) (h : Wtr H p bs own) : ∃ H' own',R (n+1) KR [pt p,.int .u64 x,iv N] H=some (pt p,H')∧Wtr H' p (bs++le x N) own'∧Zx (p :: own) H (p :: own') H':=by
 obtain ⟨H',own',e,w,s⟩:=Zxm (n:=n) hN N 0 x bs own H (by omega) (by omega) hx hb h
 have e : Zi (c4 (YA.l1 (R n))) [pt p,.int .u64 x,iv N,.int .i64 0] H=_:=e
 refine ⟨H',own',?_,w,s⟩
 rw [R,ZlI rfl]
 unfold YA
 rw [Z5 e,ZG]
 rfl
theorem ZvL {x : Nat} (hx : x < 256) (hb : bs.length≤100000000000) (h : Wtr H p bs own) : ∃ H' own',R (n+2) JP [pt p,.int .u8 x] H=some (pt p,H')∧Wtr H' p (bs++le x 1) own'∧Zx (p :: own) H (p :: own') H':=by
 obtain ⟨H',own',e,w,s⟩:=Zxi (n:=n) (N:=1) (x:=x) (by omega) (by omega) (by omega) h
 have e : R (n+1) KR [pt p,.int .u64 x,.int .i64 1] H=_:=e
 have c1 : cvi .u64 (.int .u8 x) H=some (.int .u64 x,H):=by rw [QH,Zqd,Int.emod_eq_of_lt (by omega) (by omega)]
 refine ⟨H',own',?_,w,s⟩
 rw [R,Zkg rfl]
 unfold Zdy
 rw [Za c1,Za e]
 rfl
theorem ZsW {x : Nat} (hx : x < 65536) (hb : bs.length≤100000000000) (h : Wtr H p bs own) : ∃ H' own',R (n+2) Yx [pt p,.int .u16 x] H=some (pt p,H')∧Wtr H' p (bs++le x 2) own'∧Zx (p :: own) H (p :: own') H':=by
 obtain ⟨H',own',e,w,s⟩:=Zxi (n:=n) (N:=2) (x:=x) (by omega) (by omega) (by omega) h
 have e : R (n+1) KR [pt p,.int .u64 x,.int .i64 2] H=_:=e
 have c1 : cvi .u64 (.int .u16 x) H=some (.int .u64 x,H):=by rw [QH,Zqd,Int.emod_eq_of_lt (by omega) (by omega)]
 refine ⟨H',own',?_,w,s⟩
 rw [R,ZkW rfl]
 unfold Zd4
 rw [Za c1,Za e]
 rfl
theorem Zwp (n : Int) : IntKind.u16.wrap n=n % 65536:=by simp [IntKind.wrap,IntKind.bits,IntKind.signed]
theorem ZBT : QD 1 H (strv s)=some (u8s s):=by
 unfold strv QD
 rfl
theorem ZzL : A.flen (strv s)=(u8s s).length:=by
 rw [JX]
 unfold strv A.flen
 exact Zqb
theorem Zmi (hs : s.length≤65535) (hb : bs.length≤1000000000) (h : Wtr H p bs own) : ∃ H' own',R (n+3) JN [pt p,strv s] H=some (pt p,H')∧Wtr H' p (bs++txt s) own'∧Zx (p :: own) H (p :: own') H':=by
 obtain ⟨H1,q1,e1,w1,s1⟩:=ZsW (n:=n) (x:=s.length) (by omega) (by omega) h
 obtain ⟨sl,hc,hr⟩:=w1.o
 have hl2 : (u8s (bs++le s.length 2)).length=bs.length+2:=by rw [JX,List.length_append,ZbQ]
 have hl3 : (u8s s).length=s.length:=JX s
 obtain ⟨sl',H2,q2,e2,r2,s2⟩:=hr.addN (b:=1) (x:=strv s) ZBT ZzL (by omega) (by omega)
 rw [← ZBc,List.append_assoc] at r2
 obtain ⟨H3,e3,w3,s3⟩:=w1.put r2 s2
 have c0 : mxi false (iv s.length) (.int .i64 65535) H=some (iv s.length,H):=by rw [YN,if_neg (by omega)]
 have c1 : sls (strv s) none (some (iv s.length)) H=some (strv s,H):=by
  have:=Zst (s:=s) (k:=s.length) (H:=H) (Nat.le_refl _)
  rwa [List.take_length] at this
 have c2 : cvi .u16 (iv s.length) H=some (.int .u16 s.length,H):=by rw [QH,Zwp,Int.emod_eq_of_lt (by omega) (by omega)]
 have c3 : ld1 (pt p) H1=some (sl,H1):=ZjD hc
 refine ⟨H3,q2,?_,w3,s1.trans s3⟩
 rw [R,Zj4 rfl]
 unfold ZdB
 rw [Za ZP,Za c0,Za c1,Za ZP,Za c2,Za e1,Za Zu,Za Zg,Za c3,Za e2,Za Zu,Za Zg,Za e3]
 rfl
theorem ZvD {b : Value} {bs : List UInt8} (hb : Sl H b (u8s bs)) (hp : bs.length≤140737488355328) :
  ∃ v q H',R (n+1) Zc2 [b] H=some (v,H')∧Zw H' v (u8s bs) q∧HLe H H'∧∀ j∈q,H.length≤j:=by
 rw [R,Zqs rfl]
 rcases hb.isnil (H':=H) with ⟨rfl,hp0,e⟩ | e
 ·refine ⟨.slice none 0 0,[],H,?_,by rw [hp0];exact Zw.nil,.refl _,by simp⟩
  unfold ZeA
  rw [Za e]
  rfl
 ·have hb2 : Sl (H++[.cells [] 1 false false]) b (u8s bs):=hb.mono (.app _ _)
  obtain ⟨sl',H',own',e2,hr,hle,ho⟩:=ZsQ (b:=1) hb2 (by rw [JX];omega) (by rw [JX];omega) (s:=.slice (some ⟨H.length,0,none⟩) 0 0) (.inr ⟨H.length,false,rfl,ZC,rfl⟩)
  refine ⟨sl',own',H',?_,hr,(HLe.app _ _).trans hle,fun j hj=>?_⟩
  ·unfold ZeA
   rw [Za e,Zb,if_neg (by simp),Za ZyX,Za e2]
   rfl
  ·rcases ho j hj with h | ⟨_,h⟩
   ·simp at h;omega
   ·cases h;exact Nat.le_refl _
theorem ZzT (hb : bs.length≤1000000000) (h : Wtr H p bs own) : ∃ v q H',R (n+2) K2 [pt p] H=some (v,H')∧Zw H' v (u8s bs) q∧HLe H H'∧∀ j∈q,H.length≤j:=by
 obtain ⟨sl,hc,hr⟩:=h.o
 obtain ⟨v,q,H',e,r,l,o⟩:=ZvD (n:=n) hr.rd (by omega)
 refine ⟨v,q,H',?_,r,l,o⟩
 rw [R,Zi0 rfl]
 unfold ZcS
 rw [Za Zu,Za Zg,Za (ZjD hc),Za e]
 rfl
theorem ZAK : bld (.agg #[.slice none 0 0]) [] H=some (.agg #[.slice none 0 0],H)∧alc 1 (.agg #[.slice none 0 0]) H=some (pt H.length,H++[.cells [.slice none 0 0] 1 false false])∧Wtr (H++[.cells [.slice none 0 0] 1 false false]) H.length [] []:=
 ⟨rfl,rfl,⟨⟨.slice none 0 0,ZC,Zw.nil⟩,by simp⟩⟩
end
end Go.Proofs.YtedkoimihknggaaGreatDoor.A
namespace Go.Proofs.YtedkoimihknggaaGreatDoor.A
set_option linter.unusedVariables false
set_option linter.unusedSimpArgs false
open Go.Proofs Go.Proofs.YtedkoimihknggaaGreatDoor
abbrev RSt:=Nat × List UInt8
def leN : List UInt8→Nat
 | []=>0
 | b :: l=>b.toNat+256 * leN l
def Za3 (e : Nat) (s : RSt) : RSt:=if s.1=0∧e≠0 then (e,[]) else s
def tkS (n : Nat) (s : RSt) : List UInt8 × RSt:=if n≤s.2.length then (s.2.take n,(s.1,s.2.drop n)) else ([],Za3 2 s)
def J6 (k : Nat) (s : RSt) : Nat × RSt:=(leN (tkS k s).1,(tkS k s).2)
def JB (most : Nat) (s : RSt) : Nat × RSt:=if (J6 2 s).1 > most then (0,Za3 3 (J6 2 s).2) else J6 2 s
def WP (most : Nat) (s : RSt) : List UInt8 × RSt:=tkS (JB most s).1 (JB most s).2
def RB (H : Zd) (sl : Value) (bs : List UInt8) : Prop:=
 (bs=[]∧(sl=.slice none 0 0∨∃ id o j,sl=.slice (some ⟨id,o,some j⟩) 0 0))∨
 ∃ id o c cs g ro,sl=.slice (some ⟨id,o,none⟩) bs.length c∧bs.length≤c∧H[id]?=some (.cells cs 1 g ro)∧o+bs.length≤cs.length∧(cs.drop o).take bs.length=u8s bs
def Rdr (H : Zd) (p : Nat) (s : RSt) : Prop:=
 ∃ sl,H[p]?=some (.cells [sl,iv s.1] 1 false false)∧RB H sl s.2∧(∀ j,own1 sl=some j→j < p)∧(s.1≠0→s.2=[])
theorem Zuj : ∀ (l : List UInt8),leN l < 256 ^ l.length
 | []=>by decide
 | b :: l=>by
  have h1:=Zuj l
  have h2 : b.toNat < 256:=b.toNat_lt
  rw [List.length_cons,Nat.pow_succ]
  unfold leN
  omega
theorem ZnF : ∀ (l : List UInt8) (b : UInt8),leN (l++[b])=leN l+b.toNat * 2 ^ (8 * l.length)
 | [],b=>by simp [leN]
 | a :: l,b=>by
  rw [List.cons_append]
  unfold leN
  rw [ZnF l b,List.length_cons,Nat.mul_add,show 8 * (l.length+1)=8 * l.length+8 by omega,Nat.pow_add]
  have : 256 * (b.toNat * 2 ^ (8 * l.length))=b.toNat * (2 ^ (8 * l.length) * 2 ^ 8):=by
   rw [← Nat.mul_assoc,Nat.mul_comm 256,Nat.mul_assoc,Nat.mul_comm 256]
  omega
section
variable {H X : Zd} {n p : Nat} {sl x v : Value} {vs ws : List Value} {own : List Nat} {bs : List UInt8} {s : RSt}
theorem RB.rd (h : RB H sl bs) : Sl H sl (u8s bs):=by
 rcases h with ⟨rfl,rfl | ⟨id,o,j,rfl⟩⟩ | ⟨id,o,c,cs,g,ro,rfl,h1,h2,h3,h4⟩
 ·exact Sl.nil
 ·exact ⟨_,_,rfl,(fun e=>by cases e),rfl⟩
 ·refine ⟨_,c,by rw [JX],(fun e=>by cases e),?_⟩
  unfold QD
  simp only [h2,Nat.mul_one]
  rw [if_pos h3,h4]
theorem RB.one (h : RB H sl bs) : oneCell sl=true:=by
 rcases h with ⟨rfl,rfl | ⟨id,o,j,rfl⟩⟩ | ⟨id,o,c,cs,g,ro,rfl,_⟩ <;> rfl
theorem RB.keep (h : RB H sl bs) (hk : ∀ j,own1 sl=some j→X[j]?=H[j]?) : RB X sl bs:=by
 rcases h with h | ⟨id,o,c,cs,g,ro,rfl,h1,h2,h3,h4⟩
 ·exact .inl h
 ·exact .inr ⟨id,o,c,cs,g,ro,rfl,h1,by rw [hk id rfl];exact h2,h3,h4⟩
theorem Zw.rb {q : List Nat} (h : Zw H sl (u8s bs) q) : RB H sl bs:=by
 rcases h with ⟨h1,rfl,rfl⟩ | ⟨sid,rest,g,rfl,rfl,hid⟩
 ·refine .inl ⟨?_,.inl rfl⟩
  cases bs with
  | nil=>rfl
  | cons b l=>simp [u8s] at h1
 ·refine .inr ⟨sid,0,_,_,g,false,by rw [JX],by first | omega | (rw [JX];omega),hid,?_,?_⟩
  ·rw [List.length_append,JX];omega
  ·rw [List.drop_zero,← JX bs,List.take_left]
theorem RB.cut (h : RB H sl bs) {k : Nat} (hk : k≤bs.length) : ∃ a b,slv 1 sl none (some (iv k)) none H=some (a,H)∧slv 1 sl (some (iv k)) none none H=some (b,H)∧RB H a (bs.take k)∧RB H b (bs.drop k)∧(∀ j,own1 a=some j→own1 sl=some j)∧(∀ j,own1 b=some j→own1 sl=some j):=by
 have b1 : ∀ d,bnd (some (iv k)) d=some k:=fun d=>by simp [bnd]
 have b2 : ∀ d,bnd none d=some d:=fun _=>rfl
 rcases h with ⟨rfl,h⟩ | ⟨id,o,c,cs,g,ro,rfl,h1,h2,h3,h4⟩
 ·have hk0 : k=0:=by simpa using hk
  subst hk0
  rcases h with rfl | ⟨id,o,j,rfl⟩
  ·exact ⟨_,_,rfl,rfl,.inl ⟨rfl,.inl rfl⟩,.inl ⟨rfl,.inl rfl⟩,fun _ h=>h,fun _ h=>h⟩
  ·exact ⟨_,_,rfl,rfl,.inl ⟨rfl,.inr ⟨_,_,_,rfl⟩⟩,.inl ⟨rfl,.inr ⟨_,_,_,rfl⟩⟩,fun _ h=>h,fun _ h=>h⟩
 ·have hA : ∃ a,slv 1 (.slice (some ⟨id,o,none⟩) bs.length c) none (some (iv k)) none H=some (a,H)∧RB H a (bs.take k)∧(∀ j,own1 a=some j→some id=some j):=by
   by_cases h0 : c=0
   ·have hb : bs=[]:=List.eq_nil_of_length_eq_zero (by omega)
    subst hb
    refine ⟨.slice (some ⟨id,o,some (bif g then 1 else 0)⟩) 0 0,?_,.inl ⟨List.take_nil,.inr ⟨_,_,_,rfl⟩⟩,fun j h=>by cases h⟩
    have hk0 : k=0:=by simpa using hk
    subst hk0
    simp only [slv,h2,b1,b2]
    rw [if_pos ⟨trivial,by omega,by omega,Nat.le_refl _⟩,if_pos (by omega)]
   ·have hl : (bs.take k).length=k:=by simp;omega
    refine ⟨.slice (some ⟨id,o,none⟩) k c,?_,.inr ⟨id,o,c,cs,g,ro,by rw [hl],by omega,h2,by omega,?_⟩,fun j h=>h⟩
    ·simp only [slv,h2,b1,b2]
     rw [if_pos ⟨trivial,by omega,by omega,Nat.le_refl _⟩,if_neg (by omega)]
     simp
    ·have:=congrArg (List.take k) h4
     rw [List.take_take,Nat.min_eq_left hk] at this
     rw [hl,this]
     simp [u8s,List.map_take]
  have hB : ∃ b,slv 1 (.slice (some ⟨id,o,none⟩) bs.length c) (some (iv k)) none none H=some (b,H)∧RB H b (bs.drop k)∧(∀ j,own1 b=some j→some id=some j):=by
   by_cases h0 : c=k
   ·have hb : bs.drop k=[]:=List.drop_eq_nil_of_le (by omega)
    refine ⟨.slice (some ⟨id,o,some (bif g then 1 else 0)⟩) 0 0,?_,.inl ⟨hb,.inr ⟨_,_,_,rfl⟩⟩,fun j h=>by cases h⟩
    simp only [slv,h2,b1,b2]
    rw [if_pos ⟨trivial,by omega,by omega,Nat.le_refl _⟩,if_pos (by omega)]
   ·have hl : (bs.drop k).length=bs.length - k:=by simp
    refine ⟨.slice (some ⟨id,o+k,none⟩) (bs.length - k) (c - k),?_,.inr ⟨id,o+k,c - k,cs,g,ro,by rw [hl],by omega,h2,by omega,?_⟩,fun j h=>h⟩
    ·simp only [slv,h2,b1,b2]
     rw [if_pos ⟨trivial,by omega,by omega,Nat.le_refl _⟩,if_neg (by omega)]
     simp
    ·have:=congrArg (List.drop k) h4
     rw [List.drop_take,List.drop_drop] at this
     rw [hl,this]
     simp [u8s,List.map_drop]
  obtain ⟨a,a1,a2,a3⟩:=hA
  obtain ⟨b,c1,c2,c3⟩:=hB
  exact ⟨a,b,a1,c1,a2,c2,a3,c3⟩
theorem Rdr.lt (h : Rdr H p s) : p < H.length:=by
 obtain ⟨sl,hc,_⟩:=h
 exact Ql hc
theorem Rdr.other {a : Nat} {o : Zf} (h : Rdr H p s) (ha : p < a) : Rdr (H.set a o) p s:=by
 obtain ⟨sl,h1,h2,h3,h4⟩:=h
 exact ⟨sl,(List.getElem?_set_ne (by omega)).trans h1,h2.keep fun j hj=>List.getElem?_set_ne (by have:=h3 j hj;omega),h3,h4⟩
theorem Rdr.hle (h : Rdr H p s) (hl : HLe H X) : Rdr X p s:=by
 obtain ⟨sl,hc,hr,hn,h0⟩:=h
 refine ⟨sl,hl _ _ hc,hr.keep fun j hj=>?_,hn,h0⟩
 rcases hr with ⟨_,rfl | ⟨id,o,k,rfl⟩⟩ | ⟨id,o,c,cs,g,ro,rfl,h1,h2,h3,h4⟩
 ·cases hj
 ·cases hj
 ·cases hj
  rw [h2,hl _ _ h2]
theorem Rdr.put {s' : RSt} {sl' : Value} (hc : H[p]?=some (.cells [x,v] 1 false false)) (hr : RB H sl' s'.2) (hn : ∀ j,own1 sl'=some j→j < p) (h0 : s'.1≠0→s'.2=[]) : Rdr (H.set p (.cells [sl',iv s'.1] 1 false false)) p s'∧Zx [p] H [p] (H.set p (.cells [sl',iv s'.1] 1 false false)):=
 ⟨⟨sl',ZM hc,hr.keep fun j hj=>List.getElem?_set_ne (fun e=>by have:=hn j hj;omega),hn,h0⟩,⟨by simp,fun j hj hm=>List.getElem?_set_ne (fun e=>hm (by simp [e])),fun j hj=>.inl hj⟩⟩
theorem Zlj {e : Nat} (he : e≤1000) (h : Rdr H p s) : ∃ H',R (n+1) Z6 [pt p,iv e] H=some (.tuple #[],H')∧Rdr H' p (Za3 e s)∧Zx [p] H [p] H':=by
 obtain ⟨sl,hc,hr,hn,h0⟩:=h
 have a1 : ld1 (pa p 1) H=some (iv s.1,H):=Zv hc rfl
 have f1 : ∀ H',Ws (R n) (pt p) (iv e) H=some (.tuple #[],H')→R (n+1) Z6 [pt p,iv e] H=some (.tuple #[],H'):=fun H' hr=>by rw [R,Zkb rfl];exact hr
 unfold Za3
 by_cases hs : s.1=0
 ·have q1 : bop .int .eql (iv s.1) (.int .i64 0) H=some (.bool true,H):=by rw [ZD,hs];rfl
  by_cases he0 : e=0
  ·have q2 : bop .int .neq (iv e) (.int .i64 0) H=some (.bool false,H):=by rw [Zq,he0];rfl
   rw [if_neg (by simp [he0])]
   refine ⟨H,f1 _ ?_,⟨sl,hc,hr,hn,h0⟩,.refl _ _⟩
   unfold Ws
   rw [Za Zu,Za Zg,Za a1,Za q1,Z8,Zp,Za q2,Qb,Qf,Za Zn]
   simp only [cond_true]
   refine (ZS (vs:=[]) (H':=H) ?_).trans ?_
   ·rw [Zb,if_neg (by simp)];rfl
   ·rfl
  ·have q2 : bop .int .neq (iv e) (.int .i64 0) H=some (.bool true,H):=by rw [Zq];simp [he0]
   rw [if_pos ⟨hs,he0⟩]
   have w1 : st1 (pa p 0) (.slice none 0 0) H=some (undef,H.set p (.cells [.slice none 0 0,iv s.1] 1 false false)):=Kk (o:=0) hc (by simp) rfl
   have c1 : (H.set p (.cells [.slice none 0 0,iv s.1] 1 false false))[p]?=some (.cells [.slice none 0 0,iv s.1] 1 false false):=ZM hc
   have w2 : st1 (pa p 1) (iv e) (H.set p (.cells [.slice none 0 0,iv s.1] 1 false false))=some (undef,(H.set p (.cells [.slice none 0 0,iv s.1] 1 false false)).set p (.cells [.slice none 0 0,iv e] 1 false false)):=Kk (o:=1) c1 (by simp) rfl
   rw [List.set_set] at w2
   have hp:=Rdr.put (s':=(e,[])) (sl':=.slice none 0 0) hc (.inl ⟨rfl,.inl rfl⟩) (by simp [own1]) (fun _=>rfl)
   refine ⟨_,f1 _ ?_,hp.1,hp.2⟩
   unfold Ws
   rw [Za Zu,Za Zg,Za a1,Za q1,Z8,Zp,Za q2,Qb,Qf,Za Zn]
   simp only [cond_true]
   refine (ZS (vs:=[]) (H':=H.set p (.cells [.slice none 0 0,iv e] 1 false false)) ?_).trans ?_
   ·rw [Zb,if_pos (by simp),Za Zu,Za Zg,Za w1,Za Zu,Za Zg,Za w2];rfl
   ·rfl
 ·have q1 : bop .int .eql (iv s.1) (.int .i64 0) H=some (.bool false,H):=by rw [ZD];simp [hs]
  rw [if_neg (by simp [hs])]
  refine ⟨H,f1 _ ?_,⟨sl,hc,hr,hn,h0⟩,.refl _ _⟩
  unfold Ws
  rw [Za Zu,Za Zg,Za a1,Za q1,Za (g_r.trans (if_neg (by simp)))]
  simp only [List.replicate]
  rw [Qf,Za Zn]
  simp only [cond_false]
  refine (ZS (vs:=[]) (H':=H) ?_).trans ?_
  ·rw [Zb,if_neg (by simp)];rfl
  ·rfl
theorem Zxs {k : Nat} (hk : k≤1000000000) (h : Rdr H p s) : ∃ v H',R (n+2) Km [pt p,iv k] H=some (v,H')∧RB H' v (tkS k s).1∧Rdr H' p (tkS k s).2∧Zx [p] H [p] H':=by
 have h':=h
 obtain ⟨sl,hc,hr,hn,h0⟩:=h
 have a1 : ld1 (pa p 0) H=some (sl,H):=Zv hc rfl
 have hl : Zy sl H=some (iv s.2.length,H):=by have:=hr.rd.len (H':=H);rwa [JX] at this
 have f1 : ∀ r H',Zac (R (n+1)) (pt p) (iv k) H=some (r,H')→R (n+2) Km [pt p,iv k] H=some (r,H'):=fun r H' hr=>by rw [R,Zkh rfl];exact hr
 unfold tkS
 by_cases hle : k≤s.2.length
 ·rw [if_pos hle]
  obtain ⟨a,b,e1,e2,ra,rb,oa,ob⟩:=hr.cut hle
  have q1 : bop .int .gtr (iv k) (iv s.2.length) H=some (.bool false,H):=by rw [Qk,decide_eq_false (by omega)]
  have w1 : st1 (pa p 0) b H=some (undef,H.set p (.cells [b,iv s.1] 1 false false)):=Kk (o:=0) hc (by simp) rb.one
  have hp:=Rdr.put (s':=(s.1,s.2.drop k)) (sl':=b) hc rb (fun j e=>hn j (ob _ e)) (fun h=>by simp [h0 h])
  refine ⟨a,_,f1 _ _ ?_,ra.keep fun j hj=>List.getElem?_set_ne (fun e=>by have:=hn j (oa _ hj);omega),hp.1,hp.2⟩
  unfold Zac
  rw [Za Zu,Za Zg,Za a1,Za hl,Za q1,Zb,if_neg (by simp),Za Zu,Za Zg,Za a1,Za e1,Za Zu,Za Zg,Za a1,Za e2,Za Zu,Za Zg,Za w1]
  rfl
 ·rw [if_neg hle]
  have q1 : bop .int .gtr (iv k) (iv s.2.length) H=some (.bool true,H):=by rw [Qk,decide_eq_true (by omega)]
  obtain ⟨H',e2,r2,s2⟩:=Zlj (n:=n) (e:=2) (by omega) h'
  have e2 : R (n+1) Z6 [pt p,.int .i64 2] H=_:=e2
  refine ⟨.slice none 0 0,H',f1 _ _ ?_,.inl ⟨rfl,.inl rfl⟩,r2,s2⟩
  unfold Zac
  rw [Za Zu,Za Zg,Za a1,Za hl,Za q1,Zb,if_pos rfl,Za e2]
  rfl
theorem ZvJ {bs : List UInt8} (hb : bs.length≤8) (hs : Sl X v (u8s bs)) : ∀ (t k : Nat),bs.length - k=t→k≤bs.length→
  Zi (c4 (Yw.l1 (R n))) [.int .u64 (leN (bs.take k)),v,iv bs.length,iv k] X=some (.ext 0 [.int .u64 (leN bs)],X)
 | 0,k,ht,hk=>by
  have : k=bs.length:=by omega
  subst this
  refine ZN ?_
  rw [ZJ,List.take_length]
  unfold Yw.l1
  rw [Za Zk,Zb,if_neg (by simp)]
  rfl
 | t+1,k,ht,hk=>by
  have hkl : k < bs.length:=by omega
  have hlt : (k : Int) < bs.length:=by omega
  have hg:=List.getElem?_eq_getElem hkl
  have htk : bs.take (k+1)=bs.take k++[bs[k]]:=(List.take_append_getElem hkl).symm
  generalize bs[k]=b at hg htk
  have hkk : (u8s bs)[k]?=some (.int .u8 b.toNat):=by simp [u8s,hg]
  have x1:=hs.ix (i:=k) (by rw [JX];exact hkl) .i64 X
  have x2:=hs.ldx hkk
  have hb2 : b.toNat < 256:=b.toNat_lt
  have hlen : (bs.take k).length=k:=by simp;omega
  have hpow : 2 ^ (8 * k)≤2 ^ 56:=Nat.pow_le_pow_right (by decide) (by omega)
  have hlt2 : leN (bs.take k) < 2 ^ (8 * k):=by
   have:=Zuj (bs.take k)
   rw [hlen] at this
   rwa [Nat.pow_mul]
  have hprod : b.toNat * 2 ^ (8 * k)≤255 * 2 ^ 56:=Nat.mul_le_mul (by omega) hpow
  have c1 : cvi .u64 (.int .u8 b.toNat) X=some (.int .u64 b.toNat,X):=by rw [QH,Zqd,Int.emod_eq_of_lt (by omega) (by omega)]
  have c2 : bop .int .mul (.int .i64 8) (iv k) X=some (iv ((8 * k : Nat) : Int),X):=by rw [J0,w64 (by omega) (by omega)];simp
  have c3 : bop .int .shl (.int .u64 b.toNat) (iv ((8 * k : Nat) : Int)) X=some (.int .u64 ((b.toNat * 2 ^ (8 * k) : Nat) : Int),X):=by
   rw [ZCj,if_neg (by omega)]
   have hm : min ((8 * k : Nat) : Int).toNat IntKind.u64.bits=8 * k:=by
    rw [Int.toNat_natCast]
    show min (8 * k) 64=8 * k
    omega
   have hc : (b.toNat : Int) * 2 ^ (8 * k)=((b.toNat * 2 ^ (8 * k) : Nat) : Int):=by push_cast;rfl
   rw [hm,hc,Zqd,Int.emod_eq_of_lt (by omega) (by omega)]
  have c4' : bop .int .or (.int .u64 (leN (bs.take k))) (.int .u64 ((b.toNat * 2 ^ (8 * k) : Nat) : Int)) X=some (.int .u64 (leN (bs.take (k+1))),X):=by
   rw [ZCD]
   have ho : ((BitVec.ofInt IntKind.u64.bits (leN (bs.take k) : Int) ||| BitVec.ofInt IntKind.u64.bits ((b.toNat * 2 ^ (8 * k) : Nat) : Int)).toNat)=leN (bs.take (k+1)):=by
    rw [BitVec.toNat_or,BitVec.ofInt_natCast,BitVec.ofInt_natCast,BitVec.toNat_ofNat,BitVec.toNat_ofNat]
    show leN (bs.take k) % 2 ^ 64 ||| (b.toNat * 2 ^ (8 * k)) % 2 ^ 64=_
    rw [Nat.mod_eq_of_lt (by omega),Nat.mod_eq_of_lt (by omega),htk,ZnF,hlen,Nat.or_comm,← Nat.shiftLeft_eq,← Nat.shiftLeft_add_eq_or_of_lt hlt2,Nat.add_comm]
   rw [ho]
   have : leN (bs.take (k+1)) < 2 ^ 64:=by
    rw [htk,ZnF,hlen];omega
   rw [Zqd,Int.emod_eq_of_lt (by omega) (by omega)]
  refine (ZA ?_).trans (ZvJ hb hs t (k+1) (by omega) (by omega))
  rw [ZJ]
  unfold Yw.l1
  rw [Za Zk,Zb,if_pos (by simpa using hlt),Za x1,Za x2,Za c1,Za c2,Za c3,Za c4',Za ZB,Qi (by omega)]
  rfl
theorem ZvR {k : Nat} : (tkS k s).1.length≤k:=by
 unfold tkS
 split
 ·simp;omega
 ·exact Nat.zero_le _
theorem Zyu {k : Nat} (hk : k≤8) (h : Rdr H p s) : ∃ H',R (n+3) KH [pt p,iv k] H=some (.int .u64 (J6 k s).1,H')∧Rdr H' p (J6 k s).2∧Zx [p] H [p] H':=by
 obtain ⟨v,H',e1,rb,r1,s1⟩:=Zxs (n:=n) (k:=k) (by omega) h
 have hl:=ZvR (k:=k) (s:=s)
 have e2 : Zy v H'=some (iv (tkS k s).1.length,H'):=by have:=rb.rd.len (H':=H');rwa [JX] at this
 have e3:=ZvJ (n:=n+2) (bs:=(tkS k s).1) (by omega) rb.rd (tkS k s).1.length 0 (by omega) (by omega)
 have e3 : Zi (c4 (Yw.l1 (R (n+2)))) [.int .u64 0,v,iv (tkS k s).1.length,.int .i64 0] H'=_:=e3
 refine ⟨H',?_,r1,s1⟩
 rw [R,Zlg rfl]
 unfold Yw
 rw [Za e1,Za e2,Z5 e3,ZG]
 rfl
theorem Zir {k : Nat} : (J6 k s).1 < 256 ^ k:=
 Nat.lt_of_lt_of_le (Zuj _) (Nat.pow_le_pow_right (by decide) ZvR)
theorem Zx5 (h : Rdr H p s) : ∃ H',R (n+4) Ko [pt p] H=some (.int .u8 (J6 1 s).1,H')∧Rdr H' p (J6 1 s).2∧Zx [p] H [p] H':=by
 obtain ⟨H',e,r,st⟩:=Zyu (n:=n) (k:=1) (by omega) h
 have e : R (n+3) KH [pt p,.int .i64 1] H=_:=e
 have hl:=Zir (s:=s) (k:=1)
 have c1 : cvi .u8 (.int .u64 (J6 1 s).1) H'=some (.int .u8 (J6 1 s).1,H'):=by rw [QH,wu8,Int.emod_eq_of_lt (by omega) (by omega)]
 refine ⟨H',?_,r,st⟩
 rw [R,Zke rfl]
 unfold Zdu
 rw [Za e,Za c1]
 rfl
theorem ZzV (h : Rdr H p s) : ∃ H',R (n+4) KJ [pt p] H=some (.int .u16 (J6 2 s).1,H')∧Rdr H' p (J6 2 s).2∧Zx [p] H [p] H':=by
 obtain ⟨H',e,r,st⟩:=Zyu (n:=n) (k:=2) (by omega) h
 have e : R (n+3) KH [pt p,.int .i64 2] H=_:=e
 have hl:=Zir (s:=s) (k:=2)
 have c1 : cvi .u16 (.int .u64 (J6 2 s).1) H'=some (.int .u16 (J6 2 s).1,H'):=by rw [QH,Zwp,Int.emod_eq_of_lt (by omega) (by omega)]
 refine ⟨H',?_,r,st⟩
 rw [R,ZkN rfl]
 unfold Zec
 rw [Za e,Za c1]
 rfl
theorem ZtI {most : Nat} (hm : most≤1000000) (h : Rdr H p s) : ∃ H',R (n+5) Kc [pt p,iv most] H=some (iv (JB most s).1,H')∧Rdr H' p (JB most s).2∧Zx [p] H [p] H':=by
 obtain ⟨H1,e1,r1,s1⟩:=ZzV (n:=n) h
 have hl:=Zir (s:=s) (k:=2)
 have c1 : cvi .i64 (.int .u16 (J6 2 s).1) H1=some (iv (J6 2 s).1,H1):=by rw [QH,w64 (by omega) (by omega)]
 have c2 : mxi true (.int .i64 0) (iv most) H1=some (iv most,H1):=by
  rw [Y9]
  by_cases h0 : (most : Int) > 0
  ·rw [if_pos h0]
  ·rw [if_neg h0,show (most : Int)=0 by omega]
 have f1 : ∀ r H',WW (R (n+4)) (pt p) (iv most) H=some (r,H')→R (n+5) Kc [pt p,iv most] H=some (r,H'):=fun r H' hr=>by rw [R,Zi8 rfl];exact hr
 unfold JB
 by_cases hg : (J6 2 s).1 > most
 ·rw [if_pos hg]
  have q1 : bop .int .gtr (iv (J6 2 s).1) (iv most) H1=some (.bool true,H1):=by rw [Qk,decide_eq_true (by omega)]
  obtain ⟨H2,e2,r2,s2⟩:=Zlj (n:=n+3) (e:=3) (by omega) r1
  have e2 : R (n+4) Z6 [pt p,.int .i64 3] H1=_:=e2
  refine ⟨H2,f1 _ _ ?_,r2,s1.trans s2⟩
  unfold WW
  rw [Za e1,Za c1,Za c2,Za q1,Zb,if_pos rfl,Za e2]
  rfl
 ·rw [if_neg hg]
  have q1 : bop .int .gtr (iv (J6 2 s).1) (iv most) H1=some (.bool false,H1):=by rw [Qk,decide_eq_false (by omega)]
  refine ⟨H1,f1 _ _ ?_,r1,s1⟩
  unfold WW
  rw [Za e1,Za c1,Za c2,Za q1,Zb,if_neg (by simp)]
  rfl
theorem Zkt {most : Nat} : (JB most s).1 < 65536:=by
 have hl:=Zir (s:=s) (k:=2)
 unfold JB
 split
 ·show 0 < 65536
  decide
 ·exact hl
theorem Zpm {most : Nat} (hm : most≤1000000) (h : Rdr H p s) : ∃ H',R (n+6) JM [pt p,iv most] H=some (strv (WP most s).1,H')∧Rdr H' p (WP most s).2∧Zx [p] H [p] H':=by
 obtain ⟨H1,e1,r1,s1⟩:=ZtI (n:=n) hm h
 have hl:=Zkt (s:=s) (most:=most)
 obtain ⟨v,H2,e2,rb,r2,s2⟩:=Zxs (n:=n+3) (k:=(JB most s).1) (by omega) r1
 have e2 : R (n+5) Km [pt p,iv (JB most s).1] H1=_:=e2
 refine ⟨H2,?_,r2,s1.trans s2⟩
 rw [R,Zj8 rfl]
 unfold ZdA
 rw [Za e1,Za e2,Za (Ze6 rb.rd)]
 rfl
theorem Zsn (h : Rdr H p s) : R (n+1) QM [pt p] H=some (iv s.1,H):=by
 obtain ⟨sl,hc,hr,hn,h0⟩:=h
 have a1 : ld1 (pa p 1) H=some (iv s.1,H):=Zv hc rfl
 rw [R,ZkU rfl]
 unfold Zea
 rw [Za Zu,Za Zg,Za a1]
 rfl
def Zhi (s : RSt) : Nat:=if s.1=0 then (if s.2=[] then 0 else 3) else s.1
theorem ZCv (h : Rdr H p s) : R (n+1) KM [pt p] H=some (iv (Zhi s),H):=by
 obtain ⟨sl,hc,hr,hn,h0⟩:=h
 have a0 : ld1 (pa p 0) H=some (sl,H):=Zv hc rfl
 have a1 : ld1 (pa p 1) H=some (iv s.1,H):=Zv hc rfl
 have hl : Zy sl H=some (iv s.2.length,H):=by have:=hr.rd.len (H':=H);rwa [JX] at this
 unfold Zhi
 rw [R,Zl2 rfl]
 unfold Zd6
 by_cases hs : s.1=0
 ·have q1 : bop .int .eql (iv s.1) (.int .i64 0) H=some (.bool true,H):=by rw [ZD,hs];rfl
  rw [if_pos hs,Za Zu,Za Zg,Za a1,Za q1,Z8,Zp,Za Zu,Zp,Za Zg,Zp,Za a0,Zp,Za hl,Zp,Za Qk,Qb,Jw,Za Zn]
  simp only [cond_true]
  rw [Zb]
  by_cases he : s.2=[]
  ·rw [if_neg (by simp [he]),if_pos he,Za Zu,Za Zg,Za a1,hs]
   rfl
  ·have : 0 < s.2.length:=List.length_pos_iff.2 he
   rw [if_pos (by simp;omega),if_neg he]
   rfl
 ·have q1 : bop .int .eql (iv s.1) (.int .i64 0) H=some (.bool false,H):=by rw [ZD];simp [hs]
  rw [if_neg hs,Za Zu,Za Zg,Za a1,Za q1,Za (g_r.trans (if_neg (by simp)))]
  simp only [List.replicate]
  rw [Jw,Za Zn]
  simp only [cond_false]
  rw [Zb,if_neg (by simp),Za Zu,Za Zg,Za a1]
  rfl
theorem Zv9 {b : Value} {bs : List UInt8} (hb : Sl H b (u8s bs)) (hp : bs.length≤140737488355328) : ∃ p H',R (n+2) Zep [b] H=some (pt p,H')∧Rdr H' p (0,bs)∧HLe H H'∧H.length≤p:=by
 obtain ⟨v,q,H1,e1,r1,l1,o1⟩:=ZvD (n:=n) hb hp
 have e2 : bld (.agg #[.slice none 0 0,.int .i64 0]) [(0,1,v)] H1=some (.agg #[v,iv 0],H1):=by
  rcases r1 with ⟨_,_,rfl⟩ | ⟨_,_,_,rfl,_,_⟩ <;> rfl
 have e3 : alc 1 (.agg #[v,iv 0]) H1=some (pt H1.length,H1++[.cells [v,iv 0] 1 false false]):=K4 (vs:=[v,iv 0]) (by rw [List.all_cons,r1.one.1];rfl)
 have hl:=l1.len
 refine ⟨H1.length,_,?_,⟨v,ZC,r1.rb.keep fun j hj=>?_,fun j e=>?_,fun h=>absurd rfl h⟩,l1.trans (.app _ _),hl⟩
 ·rw [R,Zvl rfl]
  unfold ZkH
  rw [Za e1,Za e2,Za e3]
  rfl
 ·have:=r1.lt j (by rw [r1.own1 hj];simp)
  exact List.getElem?_append_left this
 ·exact r1.lt j (by rw [r1.own1 e];simp)
end
end Go.Proofs.YtedkoimihknggaaGreatDoor.A

namespace Go.Proofs.YtedkoimihknggaaGreatDoor.A
set_option linter.unusedVariables false
set_option linter.unusedSimpArgs false
open Go.Proofs Go.Proofs.YtedkoimihknggaaGreatDoor
def Zwm (e : Ent) : Zj:=⟨e.1,e.2,[],false,.slice none 0 0,[]⟩
theorem ZAJ (e : Ent) (H : Zd) : (Zwm e).ok H:=.inl ⟨rfl,.inl rfl⟩
theorem Zvu {k : List UInt8} (h : WB k=true) : k.length≤12:=by
 unfold WB at h
 simp only [Bool.and_eq_true,decide_eq_true_eq] at h
 exact h.1.2
theorem Zek {s : List UInt8} : (txt s).length=s.length+2:=by unfold txt;rw [List.length_append,ZbQ];omega
section
variable {H X : Zd} {n p d b : Nat} {sl x v : Value} {own q : List Nat} {bs : List UInt8} {m : List Ent} {e : Ent}
theorem QZ.users (hr : QZ 5 H v (m.map usr) q) : Users H v (m.map Zwm):=
 ⟨by have h:=hr.rd;rw [List.map_map];exact h,fun u hu=>by obtain ⟨e,_,rfl⟩:=List.mem_map.1 hu;exact ZAJ e H⟩
end
end Go.Proofs.YtedkoimihknggaaGreatDoor.A
namespace Go.Proofs.YtedkoimihknggaaGreatDoor.A
set_option linter.unusedVariables false
set_option linter.unusedSimpArgs false
open Go.Proofs Go.Proofs.YtedkoimihknggaaGreatDoor
def ofN (l : List Ent) : Nat:=(ofE (l.map Zwm)).toNat
theorem Ztm (k : Nat) : ((k : Int)==0)=(k==0):=by rw [Bool.eq_iff_iff];simp
theorem ZkS (k : Nat) : ((k : Int) !=0)=(k !=0):=by rw [Bool.eq_iff_iff];simp
section
variable {H X : Zd} {n p d b : Nat} {sl x v : Value} {own q : List Nat} {bs : List UInt8} {m : List Ent} {e : Ent} {s : RSt}
theorem Rdr.step {o1 o2 : List Nat} (h : Rdr H p s) (hs : Zx o1 H o2 X) (hn : ∀ j∈o1,p < j) : Rdr X p s:=by
 obtain ⟨sl,h1,h2,h3,h4⟩:=h
 refine ⟨sl,hs.get h1 fun hm=>Nat.lt_irrefl _ (hn _ hm),h2.keep fun j hj=>hs.keep j ?_ fun hm=>?_,h3,h4⟩
 ·have:=h3 j hj;have:=Ql h1;omega
 ·have:=h3 j hj;have:=hn j hm;omega
end
end Go.Proofs.YtedkoimihknggaaGreatDoor.A
namespace Go.Proofs.YtedkoimihknggaaGreatDoor.A
set_option linter.unusedVariables false
set_option linter.unusedSimpArgs false
open Go.Proofs Go.Proofs.YtedkoimihknggaaGreatDoor
theorem Zyj : ∀ {k x : Nat},x < 256 ^ k→leN (le x k)=x
 | 0,x,h=>by
  have : x=0:=by simpa using h
  rw [this];rfl
 | k+1,x,h=>by
  unfold le leN
  have h2 : x / 256 < 256 ^ k:=by
   rw [Nat.pow_succ] at h
   exact Nat.div_lt_of_lt_mul (by rw [Nat.mul_comm];exact h)
  rw [Zyj h2,UInt8.toNat_ofNat']
  omega
theorem ZvY {a r : List UInt8} {k : Nat} (h : a.length=k) : tkS k (0,a++r)=(a,(0,r)):=by
 subst h
 unfold tkS
 simp only []
 rw [if_pos (by simp),List.take_left,List.drop_left]
theorem Zfw {k x : Nat} {r : List UInt8} (h : x < 256 ^ k) : J6 k (0,le x k++r)=(x,(0,r)):=by
 unfold J6
 rw [ZvY ZbQ,Zyj h]
section
variable {H0 H X : Zd} {n p d b : Nat} {u w : Zj} {us ws : List Zj} {sl a c v : Value} {bs : List UInt8} {m : List Ent}
end
end Go.Proofs.YtedkoimihknggaaGreatDoor.A

namespace Go.Proofs.YtedkoimihknggaaGreatDoor.A
set_option linter.unusedVariables false
set_option linter.unusedSimpArgs false
open Go.Proofs Go.Proofs.YtedkoimihknggaaGreatDoor
section
variable {H0 H X : Zd} {n p d b : Nat} {a c v : Value} {bs s : List UInt8} {β : Type} {K : Value→M β}
theorem HLe.put {H0 X : Zd} (h : HLe H0 X) {b : Nat} {o : Zf} (hb : H0.length≤b) : HLe H0 (X.set b o):=fun i v hi=>by
 have:=Ql hi
 rw [List.getElem?_set_ne (by omega)]
 exact h i v hi
theorem bx {vs : List Value} (h1 : vs.all oneCell=true) : alc 1 (.agg vs.toArray) X=some (pt X.length,X++[.cells vs 1 false false]):=K4 h1
end
end Go.Proofs.YtedkoimihknggaaGreatDoor.A

namespace Go.Proofs.YtedkoimihknggaaGreatDoor.A
set_option linter.unusedVariables false
set_option linter.unusedSimpArgs false
open Go.Proofs Go.Proofs.YtedkoimihknggaaGreatDoor
abbrev RR (s : RSt) : List Value:=[strv s.2,iv s.1]
theorem ZBW (s : RSt) : (RR s).all oneCell=true:=rfl
section
variable {H0 H X : Zd} {n p d b : Nat} {a c v : Value} {bs : List UInt8} {β : Type} {K : Value→M β} {s : RSt}
end
end Go.Proofs.YtedkoimihknggaaGreatDoor.A

namespace Go.Proofs.YtedkoimihknggaaGreatDoor.A
set_option linter.unusedVariables false
set_option linter.unusedSimpArgs false
open Go.Proofs Go.Proofs.YtedkoimihknggaaGreatDoor
section
variable {H0 H X : Zd} {n p d b : Nat} {a c v : Value} {bs : List UInt8} {s : RSt} {q : List Nat}
theorem QZ.us {m : List Ent} (h : QZ 5 H v (m.map usr) q) : Qg H v (m.map Zwm):=h.users.s (fun u hu=>by obtain ⟨e,_,rfl⟩:=List.mem_map.1 hu;exact Nat.zero_le _)
end
end Go.Proofs.YtedkoimihknggaaGreatDoor.A

namespace Go.Proofs.YtedkoimihknggaaGreatDoor.A
set_option linter.unusedVariables false
set_option maxRecDepth 100000
set_option linter.unusedSimpArgs false
open Go.Proofs Go.Proofs.YtedkoimihknggaaGreatDoor
def Zhm (b : Bool) : List UInt8:=le (if b then 1 else 0) 1
def Zgl (l : List Tx) : List UInt8:=le l.length 2++(l.map txt).flatten
def Zi5 (k : Kp) : List UInt8:=txt k.1++(txt k.2.1++(txt k.2.2.1++(Zhm k.2.2.2.1++Zgl k.2.2.2.2)))
def Zah (l : List Kp) : List UInt8:=(l.map Zi5).flatten
def ZcZ (K : List Tx) (ks : List Kp) : List UInt8:=le 2 1++(Zgl K++(le ks.length 2++Zah ks))
abbrev ZCx : Kp:=([],[],[],false,[])
def uOf (k : Kp) : Zj:=⟨k.1,k.2.1,k.2.2.1,k.2.2.2.1,.slice none 0 0,k.2.2.2.2⟩
def ZcE (k : Kp) : Nat:=(Yn (uOf k)).toNat
def ofK (ks : List Kp) (gs : List Tx) : Nat:=(ZcL (ks.map uOf) gs).toNat
def Zhr (s : RSt) : Bool × RSt:=((J6 1 s).1==1,if 1 < (J6 1 s).1 then Za3 4 (J6 1 s).2 else (J6 1 s).2)
def Wz (long : Nat) : Nat→RSt→List Tx × RSt
 | 0,s=>([],s)
 | k+1,s=>((WP long s).1 :: (Wz long k (WP long s).2).1,(Wz long k (WP long s).2).2)
def ZeX (most long : Nat) (s : RSt) : List Tx × RSt:=
 (if (Wz long (JB most s).1 (JB most s).2).2.1=0 then (Wz long (JB most s).1 (JB most s).2).1 else [],(Wz long (JB most s).1 (JB most s).2).2)
def Zlb (s : RSt) : Kp × RSt:=
 let a:=WP 65535 s
 let b:=WP 65535 a.2
 let c:=WP 65535 b.2
 let d:=Zhr c.2
 let e:=ZeX 65535 65535 d.2
 ((a.1,b.1,c.1,d.1,e.1),e.2)
def ZiY (s : RSt) : Kp × RSt:=(if (Za3 (ZcE (Zlb s).1) (Zlb s).2).1=0 then (Zlb s).1 else ZCx,Za3 (ZcE (Zlb s).1) (Zlb s).2)
def ZdQ : Nat→RSt→List Kp × RSt
 | 0,s=>([],s)
 | k+1,s=>((ZiY s).1 :: (ZdQ k (ZiY s).2).1,(ZdQ k (ZiY s).2).2)
def Zw5 (s : RSt) : Nat × (List Tx × List Kp):=
 let g:=ZeX 6 12 s
 let n:=J6 2 g.2
 let m:=if n.1 > 12 then (0,Za3 7 n.2) else n
 let u:=ZdQ m.1 m.2
 if u.2.1≠0 then (u.2.1,[],[]) else
 if ofK u.1 g.1≠0 then (ofK u.1 g.1,[],[]) else
 if u.2.2≠[] then (3,[],[]) else (0,g.1,u.1)
def ZhJ (bs : List UInt8) : Nat × (List Tx × List Kp):=
 let b:=J6 1 (0,bs)
 if b.2.1=0∧b.1≠2 then (6,[],[]) else Zw5 b.2
section
variable {s : RSt} {k : Kp} {ks : List Kp} {l K : List Tx} {r t : List UInt8} {us : List Zj}
theorem ZyY (k : Kp) : ZI (uOf k)=k:=rfl
theorem Zms (ks : List Kp) : (ks.map uOf).map ZI=ks:=by
 rw [List.map_map]
 exact (List.map_congr_left fun a _=>ZyY a).trans (List.map_id ks)
theorem Zjh {u : Zj} : 0≤Yn u∧Yn u≤12:=by
 unfold Yn Zgf
 repeat' split
 all_goals exact ⟨by decide,by decide⟩
theorem Zx8 {u w : Zj} (h : ZI u=ZI w) : Yn u=Yn w:=by
 have h1 : u.nm=w.nm:=congrArg (·.1) h
 have h2 : u.hs=w.hs:=congrArg (·.2.1) h
 have h3 : u.ml=w.ml:=congrArg (·.2.2.1) h
 have h4 : u.gs=w.gs:=congrArg (·.2.2.2.2) h
 unfold Yn
 rw [h1,h2,h3,h4]
theorem ZqS {u : Zj} : Yn u=ZcE (ZI u):=by
 unfold ZcE
 rw [Int.toNat_of_nonneg Zjh.1]
 exact Zx8 rfl
theorem ZAM : ZcE k≤12:=by
 unfold ZcE
 have:=Zjh (u:=uOf k)
 omega
theorem ZpB : ∀ {us : List Zj},0≤Kg us
 | []=>Int.le_refl _
 | u :: us=>by
  unfold Kg
  split
  ·exact ZpB
  ·exact Zjh.1
theorem ZzU {gs : List Tx} {p : List Zj} {u : Zj} : 0≤ZfB gs p u:=by
 unfold ZfB
 repeat' split
 all_goals decide
theorem ZsR {gs : List Tx} : ∀ {us p : List Zj},0≤Za4 gs p us
 | [],p=>by unfold Za4;exact Int.le_refl _
 | u :: us,p=>by
  unfold Za4
  split
  ·exact ZsR
  ·exact ZzU
theorem ZAs : 0≤Zd9 us l:=by
 unfold Zd9 ZnB
 have:=ZpB (us:=us)
 repeat' split
 all_goals first | exact this | decide
theorem ZtO : 0≤ZcL us l:=by
 unfold ZcL
 split
 ·exact ZsR
 ·exact ZAs
theorem ZvC : ZcL us l=ofK (us.map ZI) l:=by
 unfold ofK
 rw [Int.toNat_of_nonneg ZtO]
 exact ZzP (Zms _).symm
theorem ZvX {m : Tx} (h : Zdv m=true) : m.length≤20:=by
 rcases Zmo h with h | ⟨h,_⟩
 ·rw [h];decide
 ·unfold QB at h
  rw [Bool.and_eq_true,decide_eq_true_eq] at h
  exact h.1
structure Zmp (k : Kp) : Prop where
 n : k.1.length≤12
 h : k.2.1.length≤12
 m : k.2.2.1.length≤20
 g : k.2.2.2.2.length≤6
 gs : ∀ x∈k.2.2.2.2,x.length≤12
theorem Zsr (h : ZcE k=0) : Zmp k:=by
 have h0 : Yn (uOf k)=0:=by
  have:=Zjh (u:=uOf k)
  unfold ZcE at h
  omega
 obtain ⟨h1,h2,h3,h4,h5,_⟩:=Zg2 h0
 exact ⟨Zch h1,Zvu h2,ZvX h3,h4,fun x hx=>Zch (List.all_eq_true.1 h5 x hx)⟩
theorem Zwr (h : ofK ks l=0) : (∀ k∈ks,ZcE k=0)∧ks.length≤12∧l.length≤6∧(∀ x∈l,x.length≤12)∧Wi l=true∧l.all Zo=true:=by
 have h0 : ZcL (ks.map uOf) l=0:=by
  have:=ZtO (us:=ks.map uOf) (l:=l)
  unfold ofK at h
  omega
 have hc : Zd9 (ks.map uOf) l=0:=by
  unfold ZcL at h0
  by_cases hc : Zd9 (ks.map uOf) l=0
  ·exact hc
  ·rw [if_neg hc] at h0;exact h0
 obtain ⟨h1,_,h3,h4,h5,h6⟩:=ZxN hc
 rw [List.length_map] at h3
 refine ⟨fun k hk=>?_,h3,h6,fun x hx=>Zch (List.all_eq_true.1 h4 x hx),h5,h4⟩
 have:=Zkz h1 (uOf k) (List.mem_map.2 ⟨k,hk,rfl⟩)
 unfold ZcE
 rw [this];rfl
theorem Zk9 {b : Nat} : ∀ {l : List Tx},(∀ x∈l,x.length≤b)→((l.map txt).flatten).length≤l.length * (b+2)
 | [],_=>by simp
 | x :: l,h=>by
  have h1:=h x (by simp)
  have h2:=Zk9 (b:=b) (l:=l) fun y hy=>h y (by simp [hy])
  rw [List.map_cons,List.flatten_cons,List.length_append,Zek,List.length_cons,Nat.add_mul]
  omega
theorem ZnX {b : Nat} (h : ∀ x∈l,x.length≤b) : (Zgl l).length≤2+l.length * (b+2):=by
 unfold Zgl
 rw [List.length_append,ZbQ]
 have:=Zk9 h
 omega
theorem Zpx (b : Bool) : (Zhm b).length=1:=by unfold Zhm;rw [ZbQ]
theorem ZtJ (h : Zmp k) : (Zi5 k).length≤137:=by
 unfold Zi5
 rw [List.length_append,List.length_append,List.length_append,List.length_append,Zek,Zek,Zek,Zpx]
 have h1:=ZnX h.gs
 have h2:=h.g
 have:=h.n
 have:=h.h
 have:=h.m
 have h3 : k.2.2.2.2.length * (12+2)≤6 * (12+2):=Nat.mul_le_mul_right _ h2
 omega
theorem Zpl : ∀ {ks : List Kp},(∀ k∈ks,Zmp k)→(Zah ks).length≤ks.length * 137
 | [],_=>by simp [Zah]
 | k :: ks,h=>by
  have h1:=ZtJ (h k (by simp))
  have h2:=Zpl (ks:=ks) fun y hy=>h y (by simp [hy])
  unfold Zah at h2 ⊢
  rw [List.map_cons,List.flatten_cons,List.length_append,List.length_cons,Nat.add_mul]
  omega
theorem Ztk (h : ∀ k∈ks,Zmp k) (hn : ks.length≤12) (hl : l.length≤6) (hx : ∀ x∈l,x.length≤12) : (ZcZ l ks).length≤1733:=by
 unfold ZcZ
 rw [List.length_append,List.length_append,List.length_append,ZbQ,ZbQ]
 have h1:=ZnX hx
 have h2:=Zpl h
 have h3 : l.length * (12+2)≤6 * (12+2):=Nat.mul_le_mul_right _ hl
 have h4 : ks.length * 137≤12 * 137:=Nat.mul_le_mul_right _ hn
 omega
theorem ZhS {t r : List UInt8} {most : Nat} (h : t.length≤most) (h2 : t.length≤65535) : WP most (0,txt t++r)=(t,(0,r)):=by
 have h1 : J6 2 (0,txt t++r)=(t.length,(0,t++r)):=by
  unfold txt
  rw [List.append_assoc]
  exact Zfw (by omega)
 unfold WP JB
 rw [h1]
 simp only []
 rw [if_neg (by omega)]
 exact ZvY rfl
theorem Zo9 {long : Nat} : ∀ {l : List Tx} {r : List UInt8},(∀ x∈l,x.length≤long∧x.length≤65535)→Wz long l.length (0,(l.map txt).flatten++r)=(l,(0,r))
 | [],r,_=>rfl
 | x :: l,r,h=>by
  have h1:=h x (by simp)
  rw [List.length_cons]
  unfold Wz
  rw [List.map_cons,List.flatten_cons,List.append_assoc,ZhS h1.1 h1.2,Zo9 fun y hy=>h y (by simp [hy])]
theorem ZtY {most long : Nat} (hm : l.length≤most) (h6 : l.length≤65535) (h : ∀ x∈l,x.length≤long∧x.length≤65535) : ZeX most long (0,Zgl l++r)=(l,(0,r)):=by
 have h1 : JB most (0,Zgl l++r)=(l.length,(0,(l.map txt).flatten++r)):=by
  unfold JB Zgl
  rw [List.append_assoc,Zfw (by omega)]
  simp only []
  rw [if_neg (by omega)]
 unfold ZeX
 rw [h1]
 simp only []
 rw [Zo9 h]
 simp
theorem ZwT (b : Bool) : Zhr (0,Zhm b++r)=(b,(0,r)):=by
 unfold Zhr Zhm
 cases b
 ·rw [show (if false=true then 1 else 0)=0 from rfl,Zfw (by decide)]
  simp
 ·rw [show (if true=true then 1 else 0)=1 from rfl,Zfw (by decide)]
  simp
theorem ZAt : Za3 0 s=s:=by unfold Za3;rw [if_neg (fun h=>h.2 rfl)]
theorem Zzs (h : Zmp k) : Zlb (0,Zi5 k++r)=(k,(0,r)):=by
 have h1:=h.n
 have h2:=h.h
 have h3:=h.m
 have h4:=h.g
 unfold Zlb Zi5
 simp only [List.append_assoc]
 rw [ZhS (by omega) (by omega)]
 simp only []
 rw [ZhS (by omega) (by omega)]
 simp only []
 rw [ZhS (by omega) (by omega)]
 simp only []
 rw [ZwT]
 simp only []
 rw [ZtY (by omega) (by omega) (fun x hx=>by have:=h.gs x hx;omega)]
theorem Zzr (h : ZcE k=0) : ZiY (0,Zi5 k++r)=(k,(0,r)):=by
 unfold ZiY
 rw [Zzs (Zsr h)]
 simp only [h,ZAt]
 simp
theorem ZrE : ∀ {ks : List Kp} {r : List UInt8},(∀ k∈ks,ZcE k=0)→ZdQ ks.length (0,Zah ks++r)=(ks,(0,r))
 | [],r,_=>rfl
 | k :: ks,r,h=>by
  have ih:=ZrE (ks:=ks) (r:=r) fun y hy=>h y (by simp [hy])
  unfold Zah at ih ⊢
  rw [List.length_cons]
  unfold ZdQ
  rw [List.map_cons,List.flatten_cons,List.append_assoc,Zzr (h k (by simp)),ih]
theorem Zlw (h : ofK ks l=0) : ZhJ (ZcZ l ks)=(0,l,ks):=by
 obtain ⟨h1,h2,h3,h4,_,_⟩:=Zwr h
 have e1 : J6 1 (0,ZcZ l ks)=(2,(0,Zgl l++(le ks.length 2++Zah ks))):=by
  unfold ZcZ
  exact Zfw (by decide)
 have e2 : ZeX 6 12 (0,Zgl l++(le ks.length 2++Zah ks))=(l,(0,le ks.length 2++Zah ks)):=ZtY h3 (by omega) (fun x hx=>by have:=h4 x hx;omega)
 have e3 : J6 2 (0,le ks.length 2++Zah ks)=(ks.length,(0,Zah ks)):=Zfw (by omega)
 have e4 : ZdQ ks.length (0,Zah ks)=(ks,(0,[])):=by
  have:=ZrE (r:=[]) h1
  rwa [List.append_nil] at this
 unfold ZhJ
 rw [e1]
 simp only []
 rw [if_neg (fun h=>h.2 rfl)]
 unfold Zw5
 rw [e2]
 simp only []
 rw [e3]
 simp only []
 rw [if_neg (show ¬ ks.length > 12 by omega)]
 simp only []
 rw [e4]
 simp [h]
theorem Zs0 {ks' : List Kp} {l' : List Tx} (h : ofK ks l=0) (h' : ofK ks' l'=0) (he : ZcZ l ks=ZcZ l' ks') : l=l'∧ks=ks':=by
 have h1:=Zlw h
 rw [he,Zlw h'] at h1
 have h2:=congrArg (·.2) h1
 exact ⟨(congrArg (·.1) h2).symm,(congrArg (·.2) h2).symm⟩
end
end Go.Proofs.YtedkoimihknggaaGreatDoor.A

namespace Go.Proofs.YtedkoimihknggaaGreatDoor.A
set_option linter.unusedVariables false
set_option maxRecDepth 100000
set_option linter.unusedSimpArgs false
open Go.Proofs Go.Proofs.YtedkoimihknggaaGreatDoor
section
variable {H X X' : Zd} {n p d c : Nat} {r : NR} {s : NSt} {sl x v gv sv : Value} {own q : List Nat} {bs : List UInt8} {l : List Tx} {u : Zj} {us : List Zj}
theorem Zjb : ∀ {l : List Tx},l.Pairwise (· < ·)→Wi l=true
 | [],_=>rfl
 | [a],_=>rfl
 | a :: b :: l,h=>by
  rw [Zhw,Bool.and_eq_true,decide_eq_true_eq]
  have h1:=List.pairwise_cons.1 h
  exact ⟨h1.1 b (by simp),Zjb h1.2⟩
theorem ND0.kname (hd : ND0 X d r s c) {k : Tx} (hk : k∈s.K) : Zo k=true:=by
 rw [← hd.ks] at hk
 obtain ⟨p,hp,rfl⟩:=List.mem_map.1 hk
 exact hd.gr.ok p hp
theorem Zl4 (hO : ROK s us) (hP : J3 s) (hN : ∀ k∈s.K,Zo k=true) (hu : u∈us) : Yn u=0∧(∀ g∈u.gs,g∈s.K)∧u.ml=(Ze u.nm s.OF).getD []:=by
 have hat:=hO.at hu
 unfold ZK at hat
 cases ha : Ze u.nm s.A with
 | none=>rw [ha] at hat;cases hat
 | some p=>
  rw [ha] at hat
  have hk : Qe s u.nm p=ZI u:=Option.some.inj hat
  have h1 : p.1=u.hs:=congrArg (·.2.1) hk
  have h2 : (Ze u.nm s.OF).getD []=u.ml:=congrArg (·.2.2.1) hk
  have h3 : ofL u.nm s.K s.mem=u.gs:=congrArg (·.2.2.2.2) hk
  have hnm:=hP.i.nm _ (Wk ha)
  have hin : ∀ g∈u.gs,g∈s.K:=fun g hg=>by
   rw [← h3] at hg
   exact (((Zcq hP.k.nod).mem g).1 hg).1
  refine ⟨?_,hin,h2.symm⟩
  unfold Yn Zgf
  rw [show Zo u.nm=true from hnm.1,← h1,show WB p.1=true from hnm.2]
  have hm : Zdv u.ml=true:=by
   unfold Zdv
   rw [← h2]
   cases ho : Ze u.nm s.OF with
   | none=>rfl
   | some m=>
    obtain ⟨g1,g2⟩:=hP.i.good _ m ho
    show (m==[] || (QB m && Z7 m==m))=true
    rw [g1,g2]
    simp
  have hl : u.gs.length≤6:=by
   rw [← h3]
   exact Nat.le_trans Zfu hP.k.few
  have hall : u.gs.all Zo=true:=List.all_eq_true.2 fun g hg=>hN g (hin g hg)
  have hr : Wi u.gs=true:=by
   rw [← h3]
   exact Zjb (Zcq hP.k.nod).asc
  rw [hm,hall,hr]
  simp only [if_true]
  rw [if_neg (by omega)]
theorem ZvK {gs : List Tx} : ∀ {us prev : List Zj},(∀ (i : Nat) (u : Zj),us[i]?=some u→ZfB gs (prev++us.take i) u=0)→Za4 gs prev us=0
 | [],prev,_=>by unfold Za4;rfl
 | u :: us,prev,h=>by
  have h0:=h 0 u rfl
  rw [List.take_zero,List.append_nil] at h0
  unfold Za4
  rw [if_pos h0]
  refine ZvK fun i w hi=>?_
  have h1:=h (i+1) w (by simpa using hi)
  rw [List.take_succ_cons] at h1
  rwa [List.append_assoc]
theorem ZBR (hO : ROK s us) (hP : J3 s) (hN : ∀ k∈s.K,Zo k=true) : ZcL us (Z4 s.K)=0:=by
 have hlen:=hO.len hP.n
 have hfew:=hP.i.few
 have h1 : Kg us=0:=by
  have hall : ∀ u∈us,Yn u=0:=fun u hu=>(Zl4 hO hP hN hu).1
  clear hO hlen
  induction us with
  | nil=>rfl
  | cons u us ih=>
   unfold Kg
   rw [if_pos (hall u (by simp))]
   exact ih fun w hw=>hall w (by simp [hw])
 have h2 : Wi (us.map (·.nm))=true:=by
  refine Zjb ?_
  rw [List.pairwise_map]
  exact hO.rise
 have h3 : (Z4 s.K).all Zo=true:=List.all_eq_true.2 fun g hg=>hN g (KX.1 hg)
 have h4 : Wi (Z4 s.K)=true:=Zjb (Zee hP.k.nod)
 have h5 : (Z4 s.K).length≤6:=by rw [KY];exact hP.k.few
 have hc : Zd9 us (Z4 s.K)=0:=by
  unfold Zd9 ZnB
  have x1 : ¬ 12 < us.length:=by omega
  have x2 : ¬ 6 < (Z4 s.K).length:=by omega
  rw [h1,h2,h3,h4]
  simp [x1,x2,hP.k.few]
 unfold ZcL
 rw [if_pos hc]
 refine ZvK fun i u hi=>?_
 rw [List.nil_append]
 have hum:=List.mem_of_getElem? hi
 obtain ⟨_,hg,hm⟩:=Zl4 hO hP hN hum
 unfold ZfB
 have hall : (u.gs.all fun g=>decide (g∈Z4 s.K))=true:=List.all_eq_true.2 fun g hgm=>by
  rw [decide_eq_true_eq]
  exact KX.2 (hg g hgm)
 rw [hall,if_pos rfl,if_neg]
 rintro ⟨hne,hany⟩
 obtain ⟨w,hw,hwe⟩:=List.any_eq_true.1 hany
 have hwm:=List.mem_of_mem_take hw
 obtain ⟨_,_,hm2⟩:=Zl4 hO hP hN hwm
 have hwe : u.ml=w.ml:=by simpa using hwe
 have h6 : ∀ v : Zj,v.ml=(Ze v.nm s.OF).getD []→v.ml≠[]→Ze v.ml s.OW=some v.nm:=fun v hv hvne=>by
  cases ho : Ze v.nm s.OF with
  | none=>rw [ho] at hv;exact absurd hv hvne
  | some m=>
   rw [ho] at hv
   have hv : v.ml=m:=hv
   rw [hv]
   exact (hP.x.inv _ _).1 ho
 have h7:=h6 u hm hne
 have h8:=h6 w hm2 (by rw [← hwe];exact hne)
 rw [← hwe,h7] at h8
 have h9 : u.nm=w.nm:=Option.some.inj h8
 have hri:=hO.rise
 unfold ZdR at hri
 rw [← List.take_append_drop i us,List.pairwise_append] at hri
 have hud : u∈us.drop i:=by
  have hil:=(List.getElem?_eq_some_iff.1 hi).1
  rw [List.drop_eq_getElem_cons hil]
  have:=List.getElem?_eq_getElem hil
  rw [hi] at this
  rw [← Option.some.inj this]
  simp
 have:=hri.2.2 w hw u hud
 rw [h9] at this
 exact absurd this (List.lt_irrefl _)
theorem ROK.allK (hn : (ZbM s).Nodup) : ROK s ((A.allK s).map uOf):=⟨by
 have h:=Zrh hn
 unfold ZdR
 rw [List.pairwise_map]
 exact h,fun key=>by rw [Zms];exact Zju hn⟩
theorem ZsB (hd : ND X d r s c) : ofK (A.allK s) (Z4 s.K)=0:=by
 have:=ZBR (ROK.allK hd.pinv.n) hd.pinv fun k hk=>hd.toND0.kname hk
 rw [ZvC,Zms] at this
 omega
theorem Zzo {b : Bool} (hb : bs.length≤100000000000) (h : Wtr H p bs own) : ∃ H' own',R (n+3) WY [pt p,.bool b] H=some (pt p,H')∧Wtr H' p (bs++Zhm b) own'∧Zx (p :: own) H (p :: own') H':=by
 obtain ⟨H',own',e,w,s⟩:=ZvL (n:=n) (x:=if b then 1 else 0) (by cases b <;> decide) hb h
 refine ⟨H',own',?_,w,s⟩
 rw [R,Zja rfl]
 unfold Zc6
 cases b
 ·have e : R (n+2) JP [pt p,.int .u8 0] H=_:=e
  rw [Zb,if_neg (by simp),Za e]
  rfl
 ·have e : R (n+2) JP [pt p,.int .u8 1] H=_:=e
  rw [Zb,if_pos rfl,Za e]
  rfl
theorem Zw.whole {vs : List Value} (h : Zw X v vs q) : ∃ sv,slv 1 v none (some (iv vs.length)) none X=some (sv,X)∧Sl X sv vs∧∀ j,A.own1 sv=some j→j∈q:=by
 have b1 : ∀ d,bnd (some (iv vs.length)) d=some vs.length:=fun d=>by simp [bnd]
 have b2 : ∀ d,bnd none d=some d:=fun _=>rfl
 rcases h with ⟨rfl,rfl,rfl⟩ | ⟨sid,rest,g,rfl,rfl,hid⟩
 ·exact ⟨.slice none 0 0,rfl,Sl.nil,fun j hj=>by cases hj⟩
 ·by_cases h0 : vs.length+rest.length=0
  ·have hv : vs=[]:=List.eq_nil_of_length_eq_zero (by omega)
   subst hv
   refine ⟨.slice (some ⟨sid,0,some (bif g then 1 else 0)⟩) 0 0,?_,⟨_,_,rfl,(fun e=>by cases e),rfl⟩,fun j hj=>by cases hj⟩
   simp only [slv,hid,b1,b2]
   rw [if_pos ⟨trivial,by omega,by omega,Nat.le_refl _⟩,if_pos (by omega)]
  ·refine ⟨.slice (some ⟨sid,0,none⟩) vs.length (vs.length+rest.length),?_,⟨some ⟨sid,0,none⟩,_,rfl,(fun e=>by cases e),?_⟩,fun j hj=>by cases hj;simp⟩
   ·simp only [slv,hid,b1,b2]
    rw [if_pos ⟨trivial,by omega,by omega,Nat.le_refl _⟩,if_neg (by omega)]
    simp
   ·simp only [QD,hid]
    rw [if_pos (by simp)]
    simp
theorem Zv6 (hl : ∀ x∈l,x.length≤1000) (hn : l.length≤1000) : ∀ (t j : Nat) (bs : List UInt8) (own : List Nat) (X : Zd),l.length - j=t→j≤l.length→Sl X sv (l.map strv)→(∀ i,own1 sv=some i→i∉p :: own∧i < X.length)→bs.length+t * 1002≤100000000→Wtr X p bs own→
  ∃ X' own',Zi (c4 (Kd.l1 (R (n+3)))) [pt p,sv,iv l.length,iv j] X=some (.ext 0 [pt p],X')∧Wtr X' p (bs++((l.drop j).map txt).flatten) own'∧Zx (p :: own) X (p :: own') X'
 | 0,j,bs,own,X,ht,hj,hs,hd,hb,h=>by
  rw [List.drop_eq_nil_of_le (by omega)]
  refine ⟨X,own,ZN ?_,by simpa using h,.refl _ _⟩
  rw [ZJ,show j=l.length by omega]
  unfold Kd.l1
  rw [Za Zk,Zb,if_neg (by simp)]
  rfl
 | t+1,j,bs,own,X,ht,hj,hs,hd,hb,h=>by
  have hkl : j < l.length:=by omega
  have hlt : (j : Int) < l.length:=by omega
  have hg:=List.getElem?_eq_getElem hkl
  have hdr:=List.drop_eq_getElem_cons hkl
  generalize l[j]=y at hg hdr
  have hy:=hl y (List.mem_of_getElem? hg)
  have x1:=hs.ix (i:=j) (by simpa using hkl) .i64 X
  have x2:=hs.ldx (Yt hg)
  obtain ⟨X1,own1',e1,w1,s1⟩:=Zmi (n:=n) (s:=y) (by omega) (by omega) h
  have hs1 : Sl X1 sv (l.map strv):=hs.keep fun i hi=>s1.keep i (hd i hi).2 (hd i hi).1
  have hd1 : ∀ i,A.own1 sv=some i→i∉p :: own1'∧i < X1.length:=fun i hi=>⟨fun hm=>by
   rcases s1.own i hm with h1 | h1
   ·exact (hd i hi).1 h1
   ·have:=(hd i hi).2;omega,Nat.lt_of_lt_of_le (hd i hi).2 s1.len⟩
  obtain ⟨X2,own2,e2,w2,s2⟩:=Zv6 hl hn t (j+1) (bs++txt y) own1' X1 (by omega) (by omega) hs1 hd1 (by rw [List.length_append,Zek];omega) w1
  refine ⟨X2,own2,(ZA ?_).trans e2,?_,s1.trans s2⟩
  ·rw [ZJ]
   unfold Kd.l1
   rw [Za Zk,Zb,if_pos (by simpa using hlt),Za x1,Za x2,Za e1,Za ZB,Qi (by omega)]
   rfl
  ·rw [hdr,List.map_cons,List.flatten_cons,← List.append_assoc]
   exact w2
theorem Zyt (hl : ∀ x∈l,x.length≤1000) (hn : l.length≤1000) (hr : Zw H gv (l.map strv) q) (hd : ∀ j∈q,j∉p :: own) (hb : bs.length≤10000000) (h : Wtr H p bs own) : ∃ H' own',R (n+4) KP [pt p,gv] H=some (pt p,H')∧Wtr H' p (bs++Zgl l) own'∧Zx (p :: own) H (p :: own') H':=by
 have hlen : Zy gv H=some (iv l.length,H):=by have:=hr.rd.len (H':=H);simpa using this
 have hm : mxi false (iv l.length) (.int .i64 65535) H=some (iv l.length,H):=by
  rw [YN,if_neg (by omega)]
 obtain ⟨sv,e1,s1,o1⟩:=hr.whole
 rw [List.length_map] at e1
 have hsl : ∀ Y,Zy sv Y=some (iv l.length,Y):=fun Y=>by have:=s1.len (H':=Y);simpa using this
 have c1 : cvi .u16 (iv l.length) H=some (.int .u16 l.length,H):=by rw [QH,Zwp,Int.emod_eq_of_lt (by omega) (by omega)]
 obtain ⟨X1,own1',e2,w2,st2⟩:=ZsW (n:=n+1) (x:=l.length) (by omega) (by omega) h
 have e2 : R (n+3) Yx [pt p,.int .u16 l.length] H=_:=e2
 have hs1 : Sl X1 sv (l.map strv):=s1.keep fun i hi=>st2.keep i (hr.lt i (o1 i hi)) (hd i (o1 i hi))
 have hd1 : ∀ i,A.own1 sv=some i→i∉p :: own1'∧i < X1.length:=fun i hi=>⟨fun hm=>by
  rcases st2.own i hm with h1 | h1
  ·exact hd i (o1 i hi) h1
  ·have:=hr.lt i (o1 i hi);omega,Nat.lt_of_lt_of_le (hr.lt i (o1 i hi)) st2.len⟩
 obtain ⟨X2,own2,e3,w3,st3⟩:=Zv6 (n:=n) (p:=p) hl hn l.length 0 (bs++le l.length 2) own1' X1 (by omega) (by omega) hs1 hd1 (by rw [List.length_append,ZbQ];omega) w2
 rw [show iv ((0 : Nat) : Int)=.int .i64 0 from rfl] at e3
 rw [List.drop_zero,List.append_assoc] at w3
 refine ⟨X2,own2,?_,w3,st2.trans st3⟩
 rw [R,ZlJ rfl]
 unfold Kd
 rw [Za hlen,Za hm,Za e1,Za (hsl _),Za c1,Za e2,Za (hsl _),Z5 e3,ZG]
 rfl
theorem ZBE {u : Zj} : Zi5 (ZI u)=txt u.nm++(txt u.hs++(txt u.ml++(Zhm u.ds++Zgl u.gs))):=rfl
theorem Zdl {o1 o2 : List Nat} (hs : Zx o1 X o2 X') {q : List Nat} (hl : ∀ j∈q,j < X.length) (hd : ∀ j∈q,j∉o1) : ∀ j∈q,j∉o2:=fun j hj hm=>by
 rcases hs.own j hm with h1 | h1
 ·exact hd j hj h1
 ·have:=hl j hj;omega
theorem ZA1 (he : Yn u=0) (hr : Zw H u.gv (u.gs.map strv) q) (hd : ∀ j∈q,j∉p :: own) (hb : bs.length≤1000000) (h : Wtr H p bs own) : ∃ H' own',R (n+11) ZfX [pt p,iv 2,.agg u.cells.toArray] H=some (.bool true,H')∧Wtr H' p (bs++Zi5 (ZI u)) own'∧Zx (p :: own) H (p :: own') H':=by
 obtain ⟨b1,b2,b3,b4,b5,b6⟩:=Zg2 he
 have hnl:=Zch b1
 have hhl:=Zvu b2
 have hml:=ZvX b3
 have hgl : ∀ x∈u.gs,x.length≤1000:=fun x hx=>by have:=Zch (List.all_eq_true.1 b5 x hx);omega
 have ok0 : UOK H u:=⟨hr.rd,hr.one.1,by omega⟩
 have e1:=ok0.cells1
 have k1 : HLe H (H++[.cells u.cells 1 false false]):=.app _ _
 have c1 : (H++[Zf.cells u.cells 1 false false])[H.length]?=some (.cells u.cells 1 false false):=ZC
 have hne : H.length∉p :: own:=fun hm=>Nat.lt_irrefl _ (h.lt _ hm)
 have hq1:=hr.lt
 generalize H++[Zf.cells u.cells 1 false false]=X1 at e1 k1 c1
 have d1 : ldA 5 (pt H.length) X1=some (.agg u.cells.toArray,X1):=ZQ (n:=5) c1 rfl
 obtain ⟨X2,e2,k2⟩:=Zha (n:=n) (ok0.hle k1)
 rw [he] at e2
 have c2:=k2 _ _ c1
 have k12:=k1.trans k2
 have q1 : bop .int .neq (iv 0) (.int .i64 0) X2=some (.bool false,X2):=by rw [Zq];rfl
 have w2:=h.hle k12
 have hr2:=hr.step k12.step (by simp)
 generalize H.length=w at e1 c1 hne d1 c2
 obtain ⟨X3,q3,e3,w3,s3⟩:=Zmi (n:=n+7) (s:=u.nm) (by omega) (by omega) w2
 have e3 : R (n+10) JN [pt p,strv u.nm] X2=_:=e3
 have c3:=s3.get c2 hne
 have hwl:=Ql c2
 have n3 : w∉p :: q3:=fun hm=>by
  rcases s3.own w hm with h1 | h1
  ·exact hne h1
  ·omega
 have l3 : (txt u.nm).length≤14:=by rw [Zek];omega
 have l4 : (txt u.hs).length≤14:=by rw [Zek];omega
 have l5 : (txt u.ml).length≤22:=by rw [Zek];omega
 obtain ⟨X4,q4,e4,w4,s4⟩:=Zmi (n:=n+7) (s:=u.hs) (by omega) (by rw [List.length_append];omega) w3
 have e4 : R (n+10) JN [pt p,strv u.hs] X3=_:=e4
 have c4:=s4.get c3 n3
 have hwl3:=Ql c3
 have n4 : w∉p :: q4:=fun hm=>by
  rcases s4.own w hm with h1 | h1
  ·exact n3 h1
  ·omega
 obtain ⟨X5,q5,e5,w5,s5⟩:=Zmi (n:=n+7) (s:=u.ml) (by omega) (by rw [List.length_append,List.length_append];omega) w4
 have e5 : R (n+10) JN [pt p,strv u.ml] X4=_:=e5
 have c5:=s5.get c4 n4
 have hwl4:=Ql c4
 have n5 : w∉p :: q5:=fun hm=>by
  rcases s5.own w hm with h1 | h1
  ·exact n4 h1
  ·omega
 obtain ⟨X6,q6,e6,w6,s6⟩:=Zzo (n:=n+7) (b:=u.ds) (by rw [List.length_append,List.length_append,List.length_append];omega) w5
 have e6 : R (n+10) WY [pt p,.bool u.ds] X5=_:=e6
 have c6:=s6.get c5 n5
 have a2:=hr2.lt
 have r3:=hr2.step s3 hd
 have f3:=Zdl s3 a2 hd
 have r4:=r3.step s4 f3
 have f4:=Zdl s4 r3.lt f3
 have r5:=r4.step s5 f4
 have f5:=Zdl s5 r4.lt f4
 have r6:=r5.step s6 f5
 have f6:=Zdl s6 r5.lt f5
 obtain ⟨X7,q7,e7,w7,s7⟩:=Zyt (n:=n+6) hgl (by omega) r6 f6 (by rw [List.length_append,List.length_append,List.length_append,List.length_append,Zpx];omega) w6
 have e7 : R (n+10) KP [pt p,u.gv] X6=_:=e7
 have q2 : bop .int .eql (iv 2) (.int .i64 2) X4=some (.bool true,X4):=by rw [ZD];rfl
 have a : ∀ {Y : Zd},Y[w]?=some (.cells u.cells 1 false false)→∀ f x,u.cells[f]?=some x→ld1 (pa w f) Y=some (x,Y):=fun hY f x h=>Zv hY h
 refine ⟨X7,q7,?_,by rw [ZBE];simpa [List.append_assoc] using w7,(k12.stepq).trans ((((s3.trans s4).trans s5).trans s6).trans s7)⟩
 rw [R,ZuJ rfl]
 unfold ZkR
 rw [Za e1,Za d1,Za e2,Za q1,Zb,if_neg (by simp),Za Zg,Za (a c2 0 _ rfl),Za Zg,Za (a c2 1 _ rfl),Za e3,Za (a c3 1 _ rfl),ZZ,Za e4,Za q2]
 refine (ZS (vs:=[]) (H':=X7) ?_).trans ?_
 ·rw [Zb,if_pos rfl,Za Zg,Za (a c4 2 _ rfl),Za Zg,Za (a c4 3 _ rfl),Za Zg,Za (a c4 4 _ rfl),Za e5,Za (a c5 4 _ rfl),ZZ,Za (a c5 3 _ rfl),ZZ,Za e6,Za (a c6 4 _ rfl),ZZ,Za e7]
  rfl
 ·rfl
theorem Zvv (hn : us.length≤100) (hE : ∀ u∈us,Yn u=0) : ∀ (t k : Nat) (bs : List UInt8) (own : List Nat) (X : Zd),us.length - k=t→k≤us.length→QZ 5 X v (us.map Zj.cells) q→(∀ j∈q,j∉p :: own)→(∀ u∈us,∃ qu,Zw X u.gv (u.gs.map strv) qu∧∀ j∈qu,j∉p :: own)→bs.length+t * 137≤100000→Wtr X p bs own→
  ∃ X' own',Zi (c4 (WX.l1 (R (n+11)))) [pt p,v,iv us.length,iv k] X=some (.ext 0 [pt p],X')∧Wtr X' p (bs++Zah ((us.drop k).map ZI)) own'∧Zx (p :: own) X (p :: own') X'
 | 0,k,bs,own,X,ht,hk,hr,hd,hu,hb,h=>by
  rw [List.drop_eq_nil_of_le (by omega)]
  refine ⟨X,own,ZN ?_,by simpa [Zah] using h,.refl _ _⟩
  rw [ZJ,show k=us.length by omega]
  unfold WX.l1
  rw [Za Zk,Zb,if_neg (by simp)]
  rfl
 | t+1,k,bs,own,X,ht,hk,hr,hd,hu,hb,h=>by
  have hkl : k < us.length:=by omega
  have hlt : (k : Int) < us.length:=by omega
  have hg:=List.getElem?_eq_getElem hkl
  have hdr:=List.drop_eq_getElem_cons hkl
  generalize us[k]=u at hg hdr
  have hum:=List.mem_of_getElem? hg
  have he:=hE u hum
  obtain ⟨qu,u1,u2⟩:=hu u hum
  have hf:=fun {K : Value→M Out}=>Zed (k:=K) hr.rd u1.one.1 hg
  have k1 : HLe X (X++[Zf.cells u.cells 1 false false]):=.app _ _
  have c1 : (X++[Zf.cells u.cells 1 false false])[X.length]?=some (.cells u.cells 1 false false):=ZC
  generalize X++[Zf.cells u.cells 1 false false]=X1 at k1 c1 hf
  have d1 : ldA 5 (pt X.length) X1=some (.agg u.cells.toArray,X1):=ZQ (n:=5) c1 rfl
  obtain ⟨X2,own2,e2,w2,s2⟩:=ZA1 (n:=n) he (u1.step k1.step (by simp)) u2 (by omega) (h.hle k1)
  have hgk : Zmp (ZI u):=Zsr (by rw [← Int.toNat_natCast (ZcE (ZI u)),← ZqS,he];rfl)
  have hel:=ZtJ hgk
  have s12:=(k1.stepq (q:=p :: own)).trans s2
  have hu2 : ∀ u∈us,∃ qu,Zw X2 u.gv (u.gs.map strv) qu∧∀ j∈qu,j∉p :: own2:=fun w hw=>by
   obtain ⟨qw,w1,w2⟩:=hu w hw
   exact ⟨qw,w1.step s12 w2,Zdl s12 w1.lt w2⟩
  obtain ⟨X3,own3,e3,w3,s3⟩:=Zvv hn hE t (k+1) (bs++Zi5 (ZI u)) own2 X2 (by omega) (by omega) (hr.step s12 hd) (Zdl s12 hr.lt hd) hu2 (by rw [List.length_append];omega) w2
  refine ⟨X3,own3,(ZA ?_).trans e3,?_,s12.trans s3⟩
  ·rw [ZJ]
   unfold WX.l1
   rw [Za Zk,Zb,if_pos (by simpa using hlt),hf,Za d1,Za e2,Za ZB,Qi (by omega)]
   rfl
  ·rw [hdr]
   unfold Zah at w3 ⊢
   rw [List.map_cons,List.map_cons,List.flatten_cons,← List.append_assoc]
   exact w3
theorem ZbV (hd : ND X d r s c) : ∃ v q H',R (n+12) QO [pt d] X=some (v,H')∧Zw H' v (u8s (ZcZ (Z4 s.K) (A.allK s))) q∧HLe X H'∧∀ j∈q,X.length≤j:=by
 have hgood:=ZsB hd
 obtain ⟨g1,g2,g3,g4,_,_⟩:=Zwr hgood
 have q0 : bop .ptr .eql (pt d) (.pointer none) X=some (.bool false,X):=JU
 obtain ⟨z1,z2,w0⟩:=ZAK (H:=X)
 have k0 : HLe X (X++[Zf.cells [.slice none 0 0] 1 false false]):=.app _ _
 generalize X++[Zf.cells [.slice none 0 0] 1 false false]=X0 at z2 w0 k0
 generalize hpp : X.length=p at z2 w0
 have hp : ∀ j∈[p],X.length≤j:=fun j hj=>by have : j=p:=(by simpa using hj);omega
 obtain ⟨X1,q1,e1,w1,s1⟩:=ZvL (n:=n+9) (x:=2) (by omega) (by simp) w0
 have e1 : R (n+11) JP [pt p,.int .u8 2] X0=_:=e1
 have m1:=k0.more s1 hp
 rw [List.nil_append] at w1
 obtain ⟨vg,qg,X2,e2,r2,l2,o2⟩:=Zry (n:=n+7) (hd.hle m1.1)
 have e2 : R (n+11) KI [pt d] X1=_:=e2
 have w2:=w1.hle l2
 have m12:=m1.1.trans l2
 have dg : ∀ j∈qg,j∉p :: q1:=fun j hj hm=>by have:=o2 j hj;have:=w1.lt j hm;omega
 obtain ⟨X3,q3,e3,w3,s3⟩:=Zyt (n:=n+7) (l:=Z4 s.K) (fun x hx=>by have:=g4 x hx;omega) (by omega) r2 dg (by rw [ZbQ];omega) w2
 have e3 : R (n+11) KP [pt p,vg] X2=_:=e3
 have m3:=m12.more s3 m1.2
 have e4 : R (n+11) W6 [pt d] X3=some (iv s.A.length,X3):=ZxA (n:=n+10) (hd.hle m3.1)
 have hfew:=hd.inv.few
 have c4 : cvi .u16 (iv s.A.length) X3=some (.int .u16 s.A.length,X3):=by rw [QH,Zwp,Int.emod_eq_of_lt (by omega) (by omega)]
 have hlr:=ZnX (b:=12) g4
 have hlr2 : (Z4 s.K).length * (12+2)≤6 * (12+2):=Nat.mul_le_mul_right _ g3
 obtain ⟨X4,q4,e5,w4,s4⟩:=ZsW (n:=n+9) (x:=s.A.length) (by omega) (by rw [List.length_append,ZbQ];omega) w3
 have e5 : R (n+11) Yx [pt p,.int .u16 s.A.length] X3=_:=e5
 have m4:=m3.1.more s4 m3.2
 obtain ⟨va,qa,us,X5,e6,o6,u6,l6⟩:=ZxY (n:=n+3) (hd.hle m4.1)
 have e6 : R (n+11) Zbc [pt d] X4=_:=e6
 have w5:=w4.hle l6
 have hlen : us.length=s.A.length:=by
  have h1:=congrArg List.length u6
  unfold A.allK at h1
  rw [List.length_map,List.length_map,KY] at h1
  simpa using h1
 have hla : Zy va X5=some (iv us.length,X5):=by have:=o6.r.rd.len (H':=X5);rwa [List.length_map] at this
 have hE : ∀ u∈us,Yn u=0:=fun u hu=>by
  have:=g1 (ZI u) (by rw [← u6];exact List.mem_map.2 ⟨u,hu,rfl⟩)
  rw [ZqS,this];rfl
 have da : ∀ j,X4.length≤j→j∉p :: q4:=fun j hj hm=>by have:=w4.lt j hm;omega
 obtain ⟨X6,q6,e7,w6,s6⟩:=Zvv (n:=n) (p:=p) (us:=us) (by omega) hE us.length 0 _ q4 X5 (by omega) (by omega) o6.r (fun j hj=>da j (o6.o j hj)) (fun u hu=>by
  obtain ⟨qu,a1,a2,_⟩:=o6.u u hu
  exact ⟨qu,a1,fun j hj=>da j (a2 j hj).1⟩) (by rw [List.length_append,List.length_append,ZbQ,ZbQ];omega) w5
 rw [show iv ((0 : Nat) : Int)=.int .i64 0 from rfl] at e7
 rw [List.drop_zero,u6] at w6
 have m6:=(m4.1.trans l6).more s6 m4.2
 have heq : le 2 1++Zgl (Z4 s.K)++le s.A.length 2++Zah (A.allK s)=ZcZ (Z4 s.K) (A.allK s):=by
  unfold ZcZ
  have : (A.allK s).length=s.A.length:=by rw [← u6,List.length_map,hlen]
  rw [this]
  simp [List.append_assoc]
 rw [heq] at w6
 have hel:=Ztk (fun k hk=>Zsr (g1 k hk)) g2 g3 g4
 obtain ⟨v,qv,X7,e8,r7,l7,o7⟩:=ZzT (n:=n+9) (by omega) w6
 have e8 : R (n+11) K2 [pt p] X6=_:=e8
 refine ⟨v,qv,X7,?_,r7,m6.1.trans l7,fun j hj=>by have h1:=o7 j hj;have h2:=m6.1.len;omega⟩
 rw [R,ZqQ rfl]
 unfold WX
 rw [Za q0,Zb,if_neg (by simp),Za z1,Za z2,Za e1,Za e2,Za e3,Za e4,Za c4,Za e5,Za e6,Za hla,Z5 e7,ZG,YT,Za e8]
 rfl
end
end Go.Proofs.YtedkoimihknggaaGreatDoor.A

namespace Go.Proofs.YtedkoimihknggaaGreatDoor.A
set_option linter.unusedVariables false
set_option maxRecDepth 100000
set_option linter.unusedSimpArgs false
open Go.Proofs Go.Proofs.YtedkoimihknggaaGreatDoor
section
variable {H X X' : Zd} {n p : Nat} {s : RSt} {sl v : Value} {q : List Nat} {l : List Tx}
theorem Zzd (h : Rdr H p s) : ∃ H',R (n+5) WU [pt p] H=some (.bool (Zhr s).1,H')∧Rdr H' p (Zhr s).2∧Zx [p] H [p] H':=by
 obtain ⟨H1,e1,r1,s1⟩:=Zx5 (n:=n) h
 have q1 : bop .int .gtr (.int .u8 (J6 1 s).1) (.int .u8 1) H1=some (.bool (decide (1 < (J6 1 s).1)),H1):=by
  rw [Qk,show (decide (((J6 1 s).1 : Int) > 1))=decide (1 < (J6 1 s).1) from decide_eq_decide.2 (by omega)]
 have q2 : ∀ Y : Zd,bop .int .eql (.int .u8 (J6 1 s).1) (.int .u8 1) Y=some (.bool ((J6 1 s).1==1),Y):=fun Y=>by
  rw [ZD,show (((J6 1 s).1 : Int)==1)=((J6 1 s).1==1) from by rw [Bool.eq_iff_iff];simp;omega]
 unfold Zhr
 by_cases hc : 1 < (J6 1 s).1
 ·obtain ⟨H2,e2,r2,s2⟩:=Zlj (n:=n+3) (e:=4) (by omega) r1
  have e2 : R (n+4) Z6 [pt p,.int .i64 4] H1=_:=e2
  rw [if_pos hc]
  refine ⟨H2,?_,r2,s1.trans s2⟩
  rw [R,ZeF rfl]
  unfold Zbp
  rw [Za e1,Za q1]
  refine (ZS (vs:=[.int .u8 (J6 1 s).1]) (H':=H2) ?_).trans ?_
  ·rw [decide_eq_true hc,Zb,if_pos rfl,Za e2];rfl
  ·rw [YT,Za (q2 _)];rfl
 ·rw [if_neg hc]
  refine ⟨H1,?_,r1,s1⟩
  rw [R,ZeF rfl]
  unfold Zbp
  rw [Za e1,Za q1]
  refine (ZS (vs:=[.int .u8 (J6 1 s).1]) (H':=H1) ?_).trans ?_
  ·rw [decide_eq_false hc,Zb,if_neg (by simp)];rfl
  ·rw [YT,Za (q2 _)];rfl
theorem ZoF {long : Nat} : ∀ {k : Nat} {s : RSt},(Wz long k s).1.length=k
 | 0,s=>rfl
 | k+1,s=>by unfold Wz;rw [List.length_cons,ZoF]
theorem Zvy {N long : Nat} (hN : N≤100000) (hl : long≤1000000) : ∀ (t j : Nat) (s : RSt) (sl : Value) (q : List Nat) (acc : List Tx) (X : Zd),N - j=t→j≤N→acc.length≤j→Zw X sl (acc.map strv) q→(∀ i∈q,p < i)→Rdr X p s→
  ∃ X' sl' q',Zi (c5 (Yz.l1 (R (n+6)))) [pt p,iv long,sl,iv N,iv j] X=some (.ext 0 [pt p,sl'],X')∧Zw X' sl' ((acc++(Wz long t s).1).map strv) q'∧Rdr X' p (Wz long t s).2∧(∀ i∈q',p < i)∧Zx (p :: q) X (p :: q') X'
 | 0,j,s,sl,q,acc,X,ht,hj,ha,hr,hq,h=>by
  refine ⟨X,sl,q,ZN ?_,by simpa [Wz] using hr,h,hq,.refl _ _⟩
  rw [Qs,show j=N by omega]
  unfold Yz.l1
  rw [Za Zk,Zb,if_neg (by simp)]
  rfl
 | t+1,j,s,sl,q,acc,X,ht,hj,ha,hr,hq,h=>by
  have hlt : (j : Int) < N:=by omega
  obtain ⟨X1,e1,r1,s1⟩:=Zpm (n:=n) hl h
  have hr1:=hr.step s1 (fun i hi hm=>by have:=hq i hi;simp only [List.mem_singleton] at hm;omega)
  have x4:=ZwW (es:=1) (z:=.string ⟨#[]⟩) (v:=strv (WP long s).1) (H:=X1) rfl rfl rfl
  have k2 : HLe X1 (X1++[Zf.cells [strv (WP long s).1] 1 false false]):=.app _ _
  have s2 : Sl (X1++[Zf.cells [strv (WP long s).1] 1 false false]) (.slice (some ⟨X1.length,0,none⟩) 1 1) [strv (WP long s).1]:=Sl.one (c:=1) ZC
  generalize X1++[Zf.cells [strv (WP long s).1] 1 false false]=X2 at x4 k2 s2
  have hr2:=hr1.step k2.step (by simp)
  obtain ⟨sl',X3,q',x5,hr3,s3,_⟩:=hr2.push (b:=16) s2 (by simp;omega) (by simp;omega)
  have hr3' : Zw X3 sl' ((acc++[(WP long s).1]).map strv) q':=by rw [List.map_append];exact hr3
  have hp1:=r1.lt
  have hp2:=(r1.hle k2).lt
  have hq3 : ∀ i∈q',p < i:=fun i hi=>by
   rcases s3.own i hi with h1 | h1
   ·exact hq i h1
   ·omega
  have r3:=(r1.hle k2).step s3 hq
  obtain ⟨X4,sl4,q4,e4,r4,d4,o4,st4⟩:=Zvy hN hl t (j+1) (WP long s).2 sl' q' (acc++[(WP long s).1]) X3 (by omega) (by omega) (by rw [List.length_append,List.length_singleton];omega) hr3' hq3 r3
  refine ⟨X4,sl4,q4,(ZA ?_).trans e4,by unfold Wz;simpa using r4,d4,o4,?_⟩
  ·rw [Qs]
   unfold Yz.l1
   rw [Za Zk,Zb,if_pos (by simpa using hlt),Za e1,Za x4,Za x5,Za ZB,Qi (by omega)]
   rfl
  ·refine Zx.trans ?_ st4
   have a1 : Zx (p :: q) X (p :: q) X1:=s1.more (by simp) (fun i hi=>.inl hi)
   have a2 : Zx (p :: q) X1 (p :: q) X2:=k2.stepq
   have a3 : Zx (p :: q) X2 (p :: q') X3:=s3.more (fun i hi=>List.mem_cons_of_mem _ hi) (fun i hi=>by
    rcases List.mem_cons.1 hi with rfl | hi
    ·exact .inl (by simp)
    ·exact .inr (.inl hi))
   exact (a1.trans a2).trans a3
theorem ZyD {most long : Nat} (hm : most≤1000000) (hl : long≤1000000) (h : Rdr H p s) : ∃ v q H',R (n+7) KK [pt p,iv most,iv long] H=some (v,H')∧Zw H' v ((ZeX most long s).1.map strv) q∧Rdr H' p (ZeX most long s).2∧(∀ j∈q,H.length≤j)∧Zx [p] H [p] H':=by
 obtain ⟨H1,e1,r1,s1⟩:=ZtI (n:=n+1) hm h
 have e1 : R (n+6) Kc [pt p,iv most] H=_:=e1
 have hc:=Zkt (s:=s) (most:=most)
 obtain ⟨H2,sl,q,e2,r2,d2,o2,s2⟩:=Zvy (n:=n) (p:=p) (N:=(JB most s).1) (by omega) hl (JB most s).1 0 (JB most s).2 (.slice none 0 0) [] [] H1 (by omega) (by omega) (by simp) Zw.nil (by simp) r1
 rw [show iv ((0 : Nat) : Int)=.int .i64 0 from rfl] at e2
 rw [List.nil_append] at r2
 have hfresh : ∀ j∈q,H.length≤j:=fun j hj=>by
  rcases s2.own j (by simp [hj]) with h1 | h1
  ·simp only [List.mem_singleton] at h1
   have:=o2 j hj;omega
  ·exact Nat.le_trans s1.len h1
 have hst : Zx [p] H [p] H2:=⟨Nat.le_trans s1.len s2.len,fun j hj hn=>by
  have h1:=s1.keep j hj hn
  have h2 : j < H1.length:=Nat.lt_of_lt_of_le hj s1.len
  rw [s2.keep j h2 hn,h1],fun j hj=>.inl hj⟩
 have hcell : ∃ sv,H2[p]?=some (.cells [sv,iv (Wz long (JB most s).1 (JB most s).2).2.1] 1 false false):=by
  obtain ⟨sv,hcc,_⟩:=d2
  exact ⟨sv,hcc⟩
 obtain ⟨sv,hcc⟩:=hcell
 have a1 : ld1 (pa p 1) H2=some (iv (Wz long (JB most s).1 (JB most s).2).2.1,H2):=Zv hcc rfl
 have q1 : bop .int .neq (iv (Wz long (JB most s).1 (JB most s).2).2.1) (.int .i64 0) H2=some (.bool ((Wz long (JB most s).1 (JB most s).2).2.1 !=0),H2):=by rw [Zq,ZkS]
 unfold ZeX
 by_cases h0 : (Wz long (JB most s).1 (JB most s).2).2.1=0
 ·rw [if_pos h0]
  refine ⟨sl,q,H2,?_,r2,d2,hfresh,hst⟩
  rw [R,Zf1 rfl]
  unfold Yz
  rw [Za e1,Z5 e2,ZG,Qf,Za Zu,Za Zg,Za a1,Za q1,Zb,if_neg (by simp [h0])]
  rfl
 ·rw [if_neg h0]
  refine ⟨.slice none 0 0,[],H2,?_,Zw.nil,d2,by simp,hst⟩
  rw [R,Zf1 rfl]
  unfold Yz
  rw [Za e1,Z5 e2,ZG,Qf,Za Zu,Za Zg,Za a1,Za q1,Zb,if_pos (by simp [h0])]
  rfl
theorem Zun {most long : Nat} : (ZeX most long s).1.length≤65535:=by
 unfold ZeX
 have:=Zkt (s:=s) (most:=most)
 simp only []
 split
 ·rw [ZoF];omega
 ·simp
theorem ZAc (h : Rdr H p s) : ∃ u q H',R (n+11) ZcY [pt p,iv 2] H=some (.agg (Zj.cells u).toArray,H')∧ZI u=(ZiY s).1∧Zw H' u.gv (u.gs.map strv) q∧(∀ j∈q,H.length≤j)∧u.gs.length≤65535∧Rdr H' p (ZiY s).2∧Zx [p] H [p] H':=by
 have z0 : alc 1 zU H=some (pt H.length,H++[.cells (usr ([],[])) 1 false false]):=K4 (vs:=usr ([],[])) rfl
 have k0 : HLe H (H++[.cells (usr ([],[])) 1 false false]):=.app _ _
 have c0 : (H++[Zf.cells (usr ([],[])) 1 false false])[H.length]?=some (.cells (usr ([],[])) 1 false false):=ZC
 have hlt:=h.lt
 have hn0 : H.length≠p:=by omega
 generalize H++[Zf.cells (usr ([],[])) 1 false false]=X0 at z0 k0 c0
 have hlt4 : p < H.length:=hlt
 generalize hal : H.length=a at z0 c0 hn0 hlt4
 have q1 : bop .int .neq (iv 2) (.int .i64 1) X0=some (.bool true,X0):=by rw [Zq];rfl
 have q1' : bop .int .neq (iv 2) (.int .i64 2) X0=some (.bool false,X0):=by rw [Zq];rfl
 obtain ⟨X1,e1,r1,s1⟩:=Zpm (n:=n+4) (most:=65535) (by omega) (h.hle k0)
 have e1 : R (n+10) JM [pt p,.int .i64 65535] X0=_:=e1
 obtain ⟨X2,e2,r2,s2⟩:=Zpm (n:=n+4) (most:=65535) (by omega) r1
 have e2 : R (n+10) JM [pt p,.int .i64 65535] X1=_:=e2
 have c2:=(s1.trans s2).get c0 (by simpa using hn0)
 unfold ZiY Zlb
 simp only
 generalize WP 65535 s=T1 at e1 r1 e2 r2 ⊢
 obtain ⟨nm,t1⟩:=T1
 simp only at e1 r1 e2 r2 ⊢
 generalize WP 65535 t1=T2 at e2 r2 ⊢
 obtain ⟨hs,t2⟩:=T2
 simp only at e2 r2 ⊢
 have z3:=ZvI (k:=nm) (s:=hs) (H:=X2)
 have z4 : ∀ {β : Type} (K : Value→M β),bind (alc 1 zU) (fun q=>bind (stA 5 q (.agg (usr (nm,hs)).toArray)) fun _=>K q) X2=K (pt X2.length) (X2++[.cells (usr (nm,hs)) 1 false false]):=fun K=>Zao (n:=5) (zs:=[.string ⟨#[]⟩,.string ⟨#[]⟩,.string ⟨#[]⟩,.bool false,.slice none 0 0]) (r:=usr (nm,hs)) rfl rfl rfl rfl
 have k3 : HLe X2 (X2++[.cells (usr (nm,hs)) 1 false false]):=.app _ _
 have c3 : (X2++[Zf.cells (usr (nm,hs)) 1 false false])[X2.length]?=some (.cells (usr (nm,hs)) 1 false false):=ZC
 have hn3 : X2.length≠p:=by have:=r2.lt;omega
 have hac : a < X2.length:=Ql c2
 have hpc : p < X2.length:=r2.lt
 generalize X2++[Zf.cells (usr (nm,hs)) 1 false false]=X3 at z4 k3 c3
 generalize X2.length=c at z4 c3 hn3 hac hpc
 have r3:=r2.hle k3
 have c03:=k3 _ _ c2
 have q2 : bop .int .eql (iv 2) (.int .i64 2) X3=some (.bool true,X3):=by rw [ZD];rfl
 have s03 : Zx [p] H [p] X3:=(k0.stepq.trans (s1.trans s2)).trans k3.stepq
 obtain ⟨X4,e4,r4,s4⟩:=Zpm (n:=n+4) (most:=65535) (by omega) r3
 have e4 : R (n+10) JM [pt p,.int .i64 65535] X3=_:=e4
 generalize WP 65535 t2=T3 at e4 r4 ⊢
 obtain ⟨ml,t3⟩:=T3
 simp only at e4 r4 ⊢
 obtain ⟨X5,e5,r5,s5⟩:=Zzd (n:=n+5) r4
 have e5 : R (n+10) WU [pt p] X4=_:=e5
 generalize Zhr t3=T4 at e5 r5 ⊢
 obtain ⟨ds,t4⟩:=T4
 simp only at e5 r5 ⊢
 obtain ⟨gv,q,X6,e6,g6,r6,o6,s6⟩:=ZyD (n:=n+3) (most:=65535) (long:=65535) (by omega) (by omega) r5
 have e6 : R (n+10) KK [pt p,.int .i64 65535,.int .i64 65535] X5=_:=e6
 have hgl:=Zun (most:=65535) (long:=65535) (s:=t4)
 generalize ZeX 65535 65535 t4=T5 at e6 g6 r6 hgl ⊢
 obtain ⟨gs,t5⟩:=T5
 simp only at e6 g6 r6 hgl ⊢
 have s46 : Zx [p] X3 [p] X6:=(s4.trans s5).trans s6
 have c36:=s46.get c3 (by simpa using hn3)
 have c06:=s46.get c03 (by simpa using hn0)
 have hq6 : ∀ j∈q,c < j:=fun j hj=>by
  have h1:=o6 j hj
  have h2:=Ql ((s4.trans s5).get c3 (by simpa using hn3))
  omega
 have w1 : st1 (pa c 2) (strv ml) X6=some (undef,X6.set c (.cells [strv nm,strv hs,strv ml,.bool false,.slice none 0 0] 1 false false)):=Kk (o:=2) c36 (by simp [usr]) rfl
 have w2 : st1 (pa c 3) (.bool ds) (X6.set c (.cells [strv nm,strv hs,strv ml,.bool false,.slice none 0 0] 1 false false))=some (undef,(X6.set c (.cells [strv nm,strv hs,strv ml,.bool false,.slice none 0 0] 1 false false)).set c (.cells [strv nm,strv hs,strv ml,.bool ds,.slice none 0 0] 1 false false)):=Kk (o:=3) (ZM c36) (by simp) rfl
 rw [List.set_set] at w2
 have w3 : st1 (pa c 4) gv (X6.set c (.cells [strv nm,strv hs,strv ml,.bool ds,.slice none 0 0] 1 false false))=some (undef,(X6.set c (.cells [strv nm,strv hs,strv ml,.bool ds,.slice none 0 0] 1 false false)).set c (.cells [strv nm,strv hs,strv ml,.bool ds,gv] 1 false false)):=Kk (o:=4) (ZM c36) (by simp) g6.one.1
 rw [List.set_set] at w3
 let u : Zj:=⟨nm,hs,ml,ds,gv,gs⟩
 have c37 : (X6.set c (.cells u.cells 1 false false))[c]?=some (.cells u.cells 1 false false):=ZM c36
 have c07 : (X6.set c (.cells u.cells 1 false false))[a]?=some (.cells (usr ([],[])) 1 false false):=(List.getElem?_set_ne (by omega)).trans c06
 have r7 : Rdr (X6.set c (.cells u.cells 1 false false)) p t5:=r6.other hpc
 have g7 : Zw (X6.set c (.cells u.cells 1 false false)) gv (gs.map strv) q:=g6.keep fun j hj=>List.getElem?_set_ne (by have:=hq6 j hj;omega)
 have s07 : Zx [p] H [p] (X6.set c (.cells u.cells 1 false false)):=by
  have h1:=s03.trans s46
  refine ⟨by rw [List.length_set];exact h1.len,fun j hj hm=>?_,fun j hj=>.inl hj⟩
  rw [List.getElem?_set_ne (by omega),h1.keep j hj hm]
 have w3 : st1 (pa c 4) gv (X6.set c (.cells [strv nm,strv hs,strv ml,.bool ds,.slice none 0 0] 1 false false))=some (undef,X6.set c (.cells u.cells 1 false false)):=w3
 generalize X6.set c (.cells u.cells 1 false false)=X7 at w3 c37 c07 r7 g7 s07
 have hoku : UOK X7 u:=⟨g7.rd,g7.one.1,by show gs.length≤1000000;omega⟩
 have f1 : ∀ v H',ZhU (R (n+10)) (pt p) (iv 2) H=some (v,H')→R (n+11) ZcY [pt p,iv 2] H=some (v,H'):=fun v H' hr=>by rw [R,Zni rfl];exact hr
 have e8:=Zsn (n:=n+9) r7
 have e8 : R (n+10) QM [pt p] X7=some (iv t5.1,X7):=e8
 have hck : ((nm,hs,ml,ds,gs) : Kp)=ZI u:=rfl
 rw [hck]
 have hC : ∃ X8,(cnd (Value.bool (t5.1==0)) (bind (ldA 5 (pt c)) fun v36=>bind (R (n+10) WQ [iv 2,v36]) fun v37=>bind (R (n+10) Z6 [pt p,v37]) fun v38=>ret (Out.nrm [pt p,pt a,pt c])) (ret (Out.nrm [pt p,pt a,pt c]))) X7=some (Out.nrm [pt p,pt a,pt c],X8)∧Rdr X8 p (Za3 (ZcE (ZI u)) t5)∧Zx [p] X7 [p] X8:=by
  by_cases h0 : t5.1=0
  ·have d3 : ldA 5 (pt c) X7=some (.agg u.cells.toArray,X7):=ZQ (n:=5) c37 rfl
   obtain ⟨X8,e9,k9⟩:=Zha (n:=n) hoku
   rw [ZqS] at e9
   obtain ⟨X9,e10,r10,s10⟩:=Zlj (n:=n+9) (e:=ZcE (ZI u)) (by have:=ZAM (k:=ZI u);omega) (r7.hle k9)
   have e10 : R (n+10) Z6 [pt p,iv (ZcE (ZI u))] X8=_:=e10
   refine ⟨X9,?_,r10,k9.stepq.trans s10⟩
   rw [Zb,if_pos (by simp [h0]),Za d3,Za e9,Za e10]
   rfl
  ·have hfs : Za3 (ZcE (ZI u)) t5=t5:=by unfold Za3;rw [if_neg (fun h=>h0 h.1)]
   rw [hfs]
   refine ⟨X7,?_,r7,.refl _ _⟩
   rw [Zb,if_neg (by simp [h0])]
   rfl
 obtain ⟨X8,e9,r9,s9⟩:=hC
 have e10:=Zsn (n:=n+9) r9
 have e10 : R (n+10) QM [pt p] X8=_:=e10
 have c38:=s9.get c37 (by simpa using hn3)
 have c08:=s9.get c07 (by simpa using hn0)
 have g8:=g7.step s9 (fun j hj hm=>by have:=hq6 j hj;simp only [List.mem_singleton] at hm;omega)
 have s08:=s07.trans s9
 have d4 : ldA 5 (pt c) X8=some (.agg u.cells.toArray,X8):=ZQ (n:=5) c38 rfl
 have q3 : bop .int .eql (iv t5.1) (.int .i64 0) X7=some (.bool (t5.1==0),X7):=by rw [ZD,Ztm]
 generalize Za3 (ZcE (ZI u)) t5=r' at r9 e10 ⊢
 have q4 : bop .int .neq (iv r'.1) (.int .i64 0) X8=some (.bool (r'.1 !=0),X8):=by rw [Zq,ZkS]
 have hfin : ∀ (w : Zj),oneCell w.gv=true→(stA 5 (pt a) (.agg w.cells.toArray) X8=some (undef,X8.set a (.cells w.cells 1 false false))∧ldA 5 (pt a) (X8.set a (.cells w.cells 1 false false))=some (.agg w.cells.toArray,X8.set a (.cells w.cells 1 false false))∧Zx [p] H [p] (X8.set a (.cells w.cells 1 false false))∧Rdr (X8.set a (.cells w.cells 1 false false)) p r'):=fun w hw=>
  ⟨KW (vs:=w.cells) (n:=5) c08 rfl rfl (Zax hw),ZQ (n:=5) (ZM c08) rfl,⟨by rw [List.length_set];exact s08.len,fun j hj hm=>by rw [List.getElem?_set_ne (by omega),s08.keep j hj hm],fun j hj=>.inl hj⟩,r9.other (by omega)⟩
 have hpre : ∀ o,(cnd (Value.bool (r'.1 !=0)) (bind (bld zU []) fun v42=>bind (stA 5 (pt a) v42) fun _=>bind (ldA 5 (pt a)) fun vr=>ret vr) (bind (ldA 5 (pt c)) fun v43=>bind (stA 5 (pt a) v43) fun _=>bind (ldA 5 (pt a)) fun vr=>ret vr)) X8=o→R (n+11) ZcY [pt p,iv 2] H=o:=fun o ho=>by
  rw [R,Zni rfl]
  unfold ZhU
  rw [Za z0,Za q1,Z8,Zp,Za q1',Qb,Qf,Za Zn]
  simp only [cond_true]
  rw [Zb,if_neg (by simp),Za e1,Za e2,Za z3,z4,Za q2]
  refine (ZS (vs:=[pt p,iv 2,pt a,pt c]) (H':=X7) ?_).trans ?_
  ·rw [Zb,if_pos rfl,Za e4,Za e5,Za e6,Za Zg,Za w1,Za Zg,Za w2,Za Zg,Za w3];rfl
  ·rw [ZJ,Za e8,Za q3]
   refine (ZS e9).trans ?_
   rw [ZU,Za e10,Za q4]
   exact ho
 by_cases h0 : r'.1=0
 ·rw [if_pos h0]
  obtain ⟨f1',f2,f3,f4⟩:=hfin u g6.one.1
  refine ⟨u,q,_,hpre _ ?_,rfl,g8.keep fun j hj=>List.getElem?_set_ne (by have:=hq6 j hj;omega),fun j hj=>by have:=hq6 j hj;omega,hgl,f4,f3⟩
  rw [Zb,if_neg (by simp [h0]),Za d4,Za f1',Za f2]
  rfl
 ·rw [if_neg h0]
  obtain ⟨f1',f2,f3,f4⟩:=hfin Zg5 rfl
  refine ⟨Zg5,[],_,hpre _ ?_,rfl,Zw.nil,by simp,by decide,f4,f3⟩
  have zb : bld zU [] X8=some (.agg Zg5.cells.toArray,X8):=rfl
  rw [Zb,if_pos (by simp [h0]),Za zb,Za f1',Za f2]
  rfl
end
end Go.Proofs.YtedkoimihknggaaGreatDoor.A

namespace Go.Proofs.YtedkoimihknggaaGreatDoor.A
set_option linter.unusedVariables false
set_option maxRecDepth 100000
set_option linter.unusedSimpArgs false
open Go.Proofs Go.Proofs.YtedkoimihknggaaGreatDoor
theorem Zbw.step {X0 X X' : Zd} {sl : Value} {us : List Zj} {q o1 o2 : List Nat} (h : Zbw X0 X sl us q) (hs : Zx o1 X o2 X') (hd : ∀ j,X0.length≤j→j∉o1) : Zbw X0 X' sl us q:=
 ⟨h.r.step hs fun j hj=>hd j (h.o j hj),h.o,fun w hw=>by
  obtain ⟨qu,h1,h2,h3⟩:=h.u w hw
  exact ⟨qu,h1.step hs fun j hj=>hd j (h2 j hj).1,h2,h3⟩,h.un⟩
section
variable {H X X' X0 : Zd} {n p : Nat} {s : RSt} {sl v vg bv : Value} {q qg : List Nat} {l gl : List Tx} {bs : List UInt8}
theorem Zuc {N : Nat} (hN : N≤12) (hp : p < X0.length) (hqg : ∀ j∈qg,j≠p∧j < X0.length) : ∀ (t j : Nat) (s : RSt) (sl : Value) (q : List Nat) (acc : List Zj) (X : Zd),N - j=t→j≤N→acc.length≤j→X0.length≤X.length→Zbw X0 X sl acc q→Zw X vg (gl.map strv) qg→Rdr X p s→
  ∃ X' sl' q' us,Zi (c5 (K9.l1 (R (n+12)))) [pt p,vg,sl,iv N,iv j] X=some (.ext 0 [pt p,vg,sl'],X')∧Zbw X0 X' sl' (acc++us) q'∧us.map ZI=(ZdQ t s).1∧Zw X' vg (gl.map strv) qg∧Rdr X' p (ZdQ t s).2∧Zx (p :: q) X (p :: q') X'
 | 0,j,s,sl,q,acc,X,ht,hj,ha,hX,ho,hg,h=>by
  refine ⟨X,sl,q,[],ZN ?_,by rw [List.append_nil];exact ho,rfl,hg,h,.refl _ _⟩
  rw [Qs,show j=N by omega]
  unfold K9.l1
  rw [Za Zk,Zb,if_neg (by simp)]
  rfl
 | t+1,j,s,sl,q,acc,X,ht,hj,ha,hX,ho,hg,h=>by
  have hlt : (j : Int) < N:=by omega
  obtain ⟨u,qu,X1,e1,k1,r1,o1,gl1,d1,s1⟩:=ZAc (n:=n+1) h
  have ho1:=ho.step s1 (fun j hj hm=>by simp only [List.mem_singleton] at hm;omega)
  have hg1:=hg.step s1 (fun j hj hm=>by simp only [List.mem_singleton] at hm;exact (hqg j hj).1 hm)
  obtain ⟨x,X2,sl',X3,q',a1,a2,ho3,s3⟩:=ho1.push0 (w:=u) (by omega) r1 (fun i hi=>⟨by have:=o1 i hi;omega,fun hm=>by have:=ho.r.lt i hm;have:=o1 i hi;omega⟩) (by omega) (fun a ha i hi hm=>by obtain ⟨qa,b1,_,_⟩:=ho.u a ha;have h1:=b1.lt i (b1.own_of hi);have h2:=o1 i hm;omega) (Nat.le_trans hX s1.len)
  have hg3:=hg1.step s3 (fun j hj hm=>by have:=ho.o j hm;have:=(hqg j hj).2;omega)
  have d3:=d1.step s3 (fun j hj=>by have:=ho.o j hj;omega)
  obtain ⟨X4,sl4,q4,us4,e4,ho4,k4,hg4,d4,s4⟩:=Zuc hN hp hqg t (j+1) (ZiY s).2 sl' q' (acc++[u]) X3 (by omega) (by omega) (by rw [List.length_append,List.length_singleton];omega) (Nat.le_trans hX (Nat.le_trans s1.len s3.len)) ho3 hg3 d3
  refine ⟨X4,sl4,q4,u :: us4,(ZA ?_).trans e4,by rw [List.append_assoc] at ho4;exact ho4,?_,hg4,d4,?_⟩
  ·rw [Qs]
   unfold K9.l1
   rw [Za Zk,Zb,if_pos (by simpa using hlt),Za e1,Za a1,Za a2,Za ZB,Qi (by omega)]
   rfl
  ·unfold ZdQ
   rw [List.map_cons,k1,k4]
  ·have b1 : Zx (p :: q) X (p :: q) X1:=s1.more (fun i hi=>by simp at hi;simp [hi]) (fun i hi=>.inl hi)
   have b2 : Zx (p :: q) X1 (p :: q') X3:=s3.more (fun i hi=>List.mem_cons_of_mem _ hi) (fun i hi=>by
    rcases List.mem_cons.1 hi with rfl | hi
    ·exact .inl (by simp)
    ·exact .inr (.inl hi))
   exact (b1.trans b2).trans s4
theorem ZrC : ∀ (k : Nat) (s : RSt),(ZdQ k s).1.length=k
 | 0,s=>rfl
 | k+1,s=>by unfold ZdQ;rw [List.length_cons,ZrC]
theorem ZuX (hs : Sl X bv (u8s bs)) (hb : bs.length≤100000000) : ∃ dv X',R (n+13) ZcD [bv] X=some (.tuple #[dv,iv (ZhJ bs).1],X')∧HLe X X'∧((ZhJ bs).1≠0→dv=.pointer none)∧((ZhJ bs).1=0→∃ d r s c us,dv=pt d∧OfS X X' d r s c (ZhJ bs).2.1 us∧us.map ZI=(ZhJ bs).2.2):=by
 obtain ⟨p,X0,e0,r0,k0,hp0⟩:=Zv9 (n:=n+10) hs (by omega)
 have e0 : R (n+12) Zep [bv] X=_:=e0
 obtain ⟨X1,e1,r1,s1⟩:=Zx5 (n:=n+8) r0
 have e1 : R (n+12) Ko [pt p] X0=_:=e1
 have hpo : ∀ j∈[p],X.length≤j:=by simpa using hp0
 have m1:=k0.more s1 hpo
 have e2 : R (n+12) QM [pt p] X1=_:=Zsn (n:=n+11) r1
 have f1 : ∀ v X',K9 (R (n+12)) bv X=some (v,X')→R (n+13) ZcD [bv] X=some (v,X'):=fun v X' hr=>by rw [R,ZjN rfl];exact hr
 unfold ZhJ
 simp only
 generalize J6 1 (0,bs)=B at e1 r1 e2 ⊢
 obtain ⟨b0,t1⟩:=B
 simp only at e1 r1 e2 ⊢
 have q1 : bop .int .eql (iv t1.1) (.int .i64 0) X1=some (.bool (t1.1==0),X1):=by rw [ZD,Ztm]
 have q2 : bop .int .neq (.int .u8 b0) (.int .u8 2) X1=some (.bool (b0 !=2),X1):=by
  rw [Zq,show ((b0 : Int) !=2)=(b0 !=2) from by rw [Bool.eq_iff_iff];simp;omega]
 have hgate : ∀ K : Value→M Value,bind (ZH (.bool (t1.1==0)) true 2 (bind (bop .int .neq (.int .u8 b0) (.int .u8 2)) fun v21=>ret [.int .u8 b0,v21])) (c2 fun _ q=>bind (pick (.bool (t1.1==0)) q (.bool false)) K) X1=K (.bool ((t1.1==0) && (b0 !=2))) X1:=fun K=>by
  cases t1.1==0
  ·rw [Za (g_r.trans (if_neg (by simp)))]
   simp only [List.replicate]
   rw [Qf,Za Zn]
   rfl
  ·rw [Z8,Zp,Za q2,Qb,Qf,Za Zn]
   rfl
 by_cases hbad : t1.1=0∧b0≠2
 ·rw [if_pos hbad]
  have hbb : ((t1.1==0) && (b0 !=2))=true:=by simp [hbad]
  rw [hbb] at hgate
  refine ⟨.pointer none,X1,f1 _ _ ?_,m1.1,fun _=>rfl,fun h=>absurd h (by simp)⟩
  unfold K9
  rw [Za e0,Za e1,Za e2,Za q1]
  refine (hgate _).trans ?_
  rw [Zb,if_pos rfl]
  rfl
 ·rw [if_neg hbad]
  have hbb : ((t1.1==0) && (b0 !=2))=false:=by
   cases h1 : (t1.1==0) <;> cases h2 : (b0 !=2) <;> simp at h1 h2 ⊢
   exact hbad ⟨h1,h2⟩
  rw [hbb] at hgate
  obtain ⟨vg,qg,X2,e3,g3,r3,o3,s3⟩:=ZyD (n:=n+5) (most:=6) (long:=12) (by omega) (by omega) r1
  have e3 : R (n+12) KK [pt p,.int .i64 6,.int .i64 12] X1=_:=e3
  obtain ⟨X3,e4,r4,s4⟩:=ZzV (n:=n+8) r3
  have e4 : R (n+12) KJ [pt p] X2=_:=e4
  have m3:=m1.1.more (s3.trans s4) hpo
  have hpl:=r1.lt
  have hg4:=g3.step s4 (fun j hj hm=>by have:=o3 j hj;simp only [List.mem_singleton] at hm;omega)
  have hnl:=Zir (s:=(ZeX 6 12 t1).2) (k:=2)
  have hrl : (ZeX 6 12 t1).1.length≤65535:=Zun
  unfold Zw5
  simp only
  generalize ZeX 6 12 t1=G at e3 g3 r3 e4 r4 hnl hg4 hrl ⊢
  obtain ⟨gl,t2⟩:=G
  simp only at e3 g3 r3 e4 r4 hnl hg4 hrl ⊢
  generalize J6 2 t2=N at e4 r4 hnl ⊢
  obtain ⟨nv,t3⟩:=N
  simp only at e4 r4 hnl ⊢
  have cI : cvi .i64 (.int .u16 nv) X3=some (iv nv,X3):=by rw [QH,w64 (by omega) (by omega)]
  have q3 : bop .int .gtr (iv nv) (.int .i64 12) X3=some (.bool (decide (12 < nv)),X3):=by
   rw [Qk,show (decide ((nv : Int) > 12))=decide (12 < nv) from decide_eq_decide.2 (by omega)]
  have hM : ∃ X4,(cnd (Value.bool (decide (12 < nv))) (bind (R (n+12) Z6 [pt p,(Value.int .i64 7)]) fun v31=>ret (Out.nrm [pt p,vg,(Value.int .i64 0)])) (ret (Out.nrm [pt p,vg,iv nv]))) X3=some (Out.nrm [pt p,vg,iv ((if nv > 12 then ((0 : Nat),Za3 7 t3) else (nv,t3)).1 : Nat)],X4)∧Rdr X4 p (if nv > 12 then ((0 : Nat),Za3 7 t3) else (nv,t3)).2∧Zx [p] X3 [p] X4:=by
   by_cases h12 : nv > 12
   ·obtain ⟨X4,e5,r5,s5⟩:=Zlj (n:=n+11) (e:=7) (by omega) r4
    have e5 : R (n+12) Z6 [pt p,.int .i64 7] X3=_:=e5
    rw [if_pos h12]
    refine ⟨X4,?_,r5,s5⟩
    rw [decide_eq_true h12,Zb,if_pos rfl,Za e5]
    rfl
   ·rw [if_neg h12]
    refine ⟨X3,?_,r4,.refl _ _⟩
    rw [decide_eq_false h12,Zb,if_neg (by simp)]
    rfl
  obtain ⟨X4,e5,r5,s5⟩:=hM
  have hNle : (if nv > 12 then ((0 : Nat),Za3 7 t3) else (nv,t3)).1≤12:=by
   split
   ·simp
   ·simp only;omega
  generalize (if nv > 12 then ((0 : Nat),Za3 7 t3) else (nv,t3))=Mm at e5 r5 hNle ⊢
  obtain ⟨N,t4⟩:=Mm
  simp only at e5 r5 hNle ⊢
  have m4:=m3.1.more s5 hpo
  have hg5:=hg4.step s5 (fun j hj hm=>by have:=o3 j hj;simp only [List.mem_singleton] at hm;omega)
  have hp4:=r5.lt
  have hqg : ∀ j∈qg,j≠p∧j < X4.length:=fun j hj=>⟨by have:=o3 j hj;omega,hg5.lt j hj⟩
  obtain ⟨X5,sl,q,us,e6,ho6,k6,hg6,r6,s6⟩:=Zuc (n:=n) (X0:=X4) (vg:=vg) (gl:=gl) hNle hp4 hqg N 0 t4 (.slice none 0 0) [] [] X4 (by omega) (by omega) (by simp) (Nat.le_refl _) ⟨QZ.nil,by simp,by simp,by simp⟩ hg5 r5
  rw [show iv ((0 : Nat) : Int)=.int .i64 0 from rfl] at e6
  rw [List.nil_append] at ho6
  have hlus : us.length≤12:=by
   have:=congrArg List.length k6
   rw [List.length_map,ZrC] at this
   omega
  have hown6 : ∀ j∈p :: q,X.length≤j:=fun j hj=>by
   rcases List.mem_cons.1 hj with rfl | hj
   ·exact hp0
   ·exact Nat.le_trans m4.1.len (ho6.o j hj)
  have m6 : HLe X X5:=(m4.1.more s6 hpo).1
  generalize ZdQ N t4=U at k6 r6 ⊢
  obtain ⟨ul,t5⟩:=U
  simp only at k6 r6 ⊢
  subst k6
  have e7 : R (n+12) QM [pt p] X5=_:=Zsn (n:=n+11) r6
  have hpre : ∀ o,(bind (R (n+12) QM [pt p]) fun y21=>
    bind (bop .int .neq y21 (Value.int .i64 0)) fun y22=>
    cnd y22 (ret (Value.tuple #[(Value.pointer none),y21]))
    (bind (R (n+12) Zbf [sl,vg]) fun y23=>bind (Zm y23 0) fun y24=>bind (Zm y23 1) fun y25=>bind (bop .int .eql y25 (Value.int .i64 0)) fun y26=>
    jn (cnd y26 (bind (R (n+12) KM [pt p]) fun y27=>ret (.nrm [y24,y27])) (ret (.nrm [y24,y25]))) (c2 fun q28_0 q28_1=>
    bind (bop .int .neq q28_1 (Value.int .i64 0)) fun y29=>
    cnd y29 (ret (Value.tuple #[(Value.pointer none),q28_1])) (ret (Value.tuple #[q28_0,(Value.int .i64 0)]))) noX ret)) X5=o→R (n+13) ZcD [bv] X=o:=fun o ho=>by
   rw [R,ZjN rfl]
   unfold K9
   rw [Za e0,Za e1,Za e2,Za q1]
   refine (hgate _).trans ?_
   rw [Zb,if_neg (by simp),Za e3,Za e4,Za cI,Za q3]
   refine (ZS e5).trans ?_
   rw [ZU,Z5 e6,ZG,ZU]
   exact ho
  by_cases h5 : t5.1≠0
  ·rw [if_pos h5]
   have q4 : bop .int .neq (iv t5.1) (.int .i64 0) X5=some (.bool true,X5):=by rw [Zq,ZkS];simp [h5]
   refine ⟨.pointer none,X5,hpre _ ?_,m6,fun _=>rfl,fun h=>absurd h h5⟩
   rw [Za e7,Za q4,Zb,if_pos rfl]
   rfl
  ·rw [if_neg h5]
   have h5 : t5.1=0:=Decidable.of_not_not h5
   have q4 : bop .int .neq (iv t5.1) (.int .i64 0) X5=some (.bool false,X5):=by rw [Zq,ZkS];simp [h5]
   obtain ⟨X6,k7,h7⟩:=Zx6 (n:=n) (us:=us) (gs:=gl) (by omega) (by omega) ho6.us hg6.rd
   rw [ZvC] at h7
   have m7:=m6.trans k7
   by_cases hE : ofK (us.map ZI) gl≠0
   ·rw [if_pos hE]
    have hE' : ¬ ((ofK (us.map ZI) gl : Int)=0):=by omega
    rw [if_neg hE'] at h7
    have q5 : bop .int .eql (iv (ofK (us.map ZI) gl)) (.int .i64 0) X6=some (.bool false,X6):=by rw [ZD,Ztm];simp [hE]
    have q6 : bop .int .neq (iv (ofK (us.map ZI) gl)) (.int .i64 0) X6=some (.bool true,X6):=by rw [Zq,ZkS];simp [hE]
    refine ⟨.pointer none,X6,hpre _ ?_,m7,fun _=>rfl,fun h=>absurd h hE⟩
    rw [Za e7,Za q4,Zb,if_neg (by simp),Za h7,Za Zt,Za Zs,Za q5]
    refine (ZS (vs:=[.pointer none,iv (ofK (us.map ZI) gl)]) (H':=X6) ?_).trans ?_
    ·rw [Zb,if_neg (by simp)];rfl
    ·rw [Qf,Za q6,Zb,if_pos rfl];rfl
   ·rw [if_neg hE]
    have hE : ofK (us.map ZI) gl=0:=Decidable.of_not_not hE
    rw [if_pos (by rw [hE];rfl)] at h7
    obtain ⟨d,r,st,c,e8,hS⟩:=h7
    have q5 : bop .int .eql (iv 0) (.int .i64 0) X6=some (.bool true,X6):=by rw [ZD];rfl
    have e9 : R (n+12) KM [pt p] X6=some (iv (Zhi t5),X6):=ZCv (n:=n+11) (r6.hle k7)
    have hS' : OfS X X6 d r st c gl us:=⟨m7,hS.nd,fun i hi=>Nat.le_trans m6.len (hS.own i hi),hS.K,hS.ok⟩
    by_cases h6 : t5.2≠[]
    ·rw [if_pos h6]
     have he : Zhi t5=3:=by unfold Zhi;rw [if_pos h5,if_neg h6]
     rw [he] at e9
     have q6 : bop .int .neq (iv ((3 : Nat) : Int)) (.int .i64 0) X6=some (.bool true,X6):=by rw [Zq];rfl
     refine ⟨.pointer none,X6,hpre _ ?_,m7,fun _=>rfl,fun h=>absurd h (by simp)⟩
     rw [Za e7,Za q4,Zb,if_neg (by simp),Za e8,Za Zt,Za Zs,Za q5]
     refine (ZS (vs:=[pt d,iv ((3 : Nat) : Int)]) (H':=X6) ?_).trans ?_
     ·rw [Zb,if_pos rfl,Za e9];rfl
     ·rw [Qf,Za q6,Zb,if_pos rfl];rfl
    ·rw [if_neg h6]
     have h6 : t5.2=[]:=Decidable.of_not_not h6
     have he : Zhi t5=0:=by unfold Zhi;rw [if_pos h5,if_pos h6]
     rw [he] at e9
     have q6 : bop .int .neq (iv ((0 : Nat) : Int)) (.int .i64 0) X6=some (.bool false,X6):=by rw [Zq];rfl
     refine ⟨pt d,X6,hpre _ ?_,m7,fun h=>absurd rfl h,fun _=>⟨d,r,st,c,us,rfl,hS',rfl⟩⟩
     rw [Za e7,Za q4,Zb,if_neg (by simp),Za e8,Za Zt,Za Zs,Za q5]
     refine (ZS (vs:=[pt d,iv ((0 : Nat) : Int)]) (H':=X6) ?_).trans ?_
     ·rw [Zb,if_pos rfl,Za e9];rfl
     ·rw [Qf,Za q6,Zb,if_neg (by simp)];rfl
end
end Go.Proofs.YtedkoimihknggaaGreatDoor.A

namespace Go.Proofs.YtedkoimihknggaaGreatDoor.A
set_option linter.unusedVariables false
set_option maxRecDepth 100000
set_option linter.unusedSimpArgs false
open Go.Proofs Go.Proofs.YtedkoimihknggaaGreatDoor
section
variable {H X X' H0 : Zd} {n p : Nat} {sl v gv uv : Value} {l N : List Tx} {us : List Zj} {u : Zj} {b : Bool}
end
end Go.Proofs.YtedkoimihknggaaGreatDoor.A

namespace Go.Proofs.YtedkoimihknggaaGreatDoor.A
set_option linter.unusedVariables false
set_option linter.unusedSimpArgs false
open Go.Proofs Go.Proofs.YtedkoimihknggaaGreatDoor
section
variable {X X' H H0 : Zd} {n d c w : Nat} {r : NR} {uv gv sl : Value} {s : NSt} {u : ZaX} {ac : List ZaX}
theorem ZBw (K : Value→Value→A.M Value) : ∃ X' d r w,bind (R (n+12) Wj []) (fun v=>bind (alc 1 zD) fun b=>K v b) X=K (pt d) (pt w) X'∧NL X X' d r ⟨[],[],[],[],fun _ _=>false⟩ (.slice none 0 0) (.slice none 0 0) w 0∧X.length≤w:=by
 obtain ⟨X1,d,r,e1,D1,l1,o1,o2⟩:=Zs3 (n:=n+10) (X:=X)
 have e1 : R (n+12) Wj [] X=_:=e1
 have z3 : alc 1 zD X1=some (pt X1.length,X1++[.cells [.slice none 0 0,.slice none 0 0] 1 false false]):=K4 (vs:=[.slice none 0 0,.slice none 0 0]) rfl
 have k3 : HLe X1 (X1++[Zf.cells [.slice none 0 0,.slice none 0 0] 1 false false]):=.app _ _
 have c3 : (X1++[Zf.cells [.slice none 0 0,.slice none 0 0] 1 false false])[X1.length]?=some (.cells [.slice none 0 0,.slice none 0 0] 1 false false):=ZC
 refine ⟨_,d,r,X1.length,?_,⟨l1.trans k3,D1.hle k3,⟨⟨[],⟨SlN.nil,by simp⟩,⟨List.Pairwise.nil,fun key=>?_⟩⟩,⟨[],[],Zw.nil,⟨List.Pairwise.nil,by simp⟩⟩⟩,o2,c3⟩,l1.len⟩
 ·rw [Za e1,Za z3]
 ·unfold ZK
  simp [Ze]
end
end Go.Proofs.YtedkoimihknggaaGreatDoor.A

namespace Go.Proofs.YtedkoimihknggaaGreatDoor.A
set_option linter.unusedVariables false
set_option maxRecDepth 100000
set_option linter.unusedSimpArgs false
open Go.Proofs Go.Proofs.YtedkoimihknggaaGreatDoor
section
variable {X X' H H0 : Zd} {n d c w : Nat} {r : NR} {uv gv sl : Value} {s : NSt} {u : ZaX} {ac : List ZaX}
theorem Zz2 {z1 : Value} (hA : Zbr H sl ac) (hn : ac.length≤9223372036854775807) (hw0 : H.length≤w) : ∀ (t j : Nat) (r : NR) (s : NSt) (uv gv : Value) (X : Zd),ac.length - j=t→j≤ac.length→NL H X d r s uv gv w j→
  ∃ X' r' s' uv' gv',Zi (c6 (KD.l1 (R (n+12)))) [z1,pt d,pt w,sl,iv ac.length,iv j] X=some (.ext 0 [z1,pt d,pt w],X')∧NL H X' d r' s' uv' gv' w ac.length
 | 0,j,r,s,uv,gv,X,ht,hj,h=>by
  have hj : j=ac.length:=by omega
  subst hj
  refine ⟨X,r,s,uv,gv,ZN ?_,h⟩
  rw [Jw]
  unfold KD.l1
  rw [Za Zk,Zb,if_neg (by simp)]
  rfl
 | t+1,j,r,s,uv,gv,X,ht,hj,h=>by
  have hkl : j < ac.length:=by omega
  have hlt : (j : Int) < ac.length:=by omega
  have hja:=List.getElem?_eq_getElem hkl
  generalize ac[j]=u at hja
  obtain ⟨X2,r2,uv2,gv2,z,h2⟩:=ZBN (n:=n) hA hw0 hja h
  obtain ⟨X4,r4,s4,uv4,gv4,e4,h4⟩:=Zz2 (z1:=z1) hA hn hw0 t (j+1) r2 (JL u s) uv2 gv2 X2 (by omega) (by omega) h2
  refine ⟨X4,r4,s4,uv4,gv4,(ZA ?_).trans e4,h4⟩
  rw [Jw]
  unfold KD.l1
  rw [Za Zk,Zb,if_pos (by simpa using hlt)]
  refine (z _).trans ?_
  rw [Za ZB,Qi (by omega)]
  rfl
theorem Zto (hA : Zbr H sl ac) (hn : ac.length≤9223372036854775807) : ∃ X' d r s uv gv,R (n+13) Zcv [sl] H=some (.tuple #[pt d,.agg #[uv,gv]],X')∧HLe H X'∧ND X' d r s ac.length∧RD X' uv gv s∧∀ i∈r.own,H.length≤i:=by
 have z1 : alc 1 zD H=some (pt H.length,H++[.cells [.slice none 0 0,.slice none 0 0] 1 false false]):=K4 (vs:=[.slice none 0 0,.slice none 0 0]) rfl
 have k1 : HLe H (H++[Zf.cells [.slice none 0 0,.slice none 0 0] 1 false false]):=.app _ _
 have c1 : (H++[Zf.cells [.slice none 0 0,.slice none 0 0] 1 false false])[H.length]?=some (.cells [.slice none 0 0,.slice none 0 0] 1 false false):=ZC
 have hl1 : H.length < (H++[Zf.cells [.slice none 0 0,.slice none 0 0] 1 false false]).length:=by simp
 generalize H++[Zf.cells [.slice none 0 0,.slice none 0 0] 1 false false]=X1 at z1 k1 c1 hl1
 generalize hb : H.length=b at z1 c1 hl1
 obtain ⟨X2,d,r,w,z,hL,hw⟩:=ZBw (n:=n) (X:=X1) (fun v b'=>bind (Zy sl) fun l=>jn (Zi (c6 (KD.l1 (R (n+12)))) [pt b,v,b',sl,l,(Value.int .i64 0)]) noN (xk 0 (c3 fun q16_0 q16_1 q16_2=>
  bind (ldA 2 q16_2) fun y17=>bind (stA 2 q16_0 y17) fun _=>bind (ldA 2 q16_0) fun y18=>ret (Value.tuple #[q16_1,y18])) noX) ret)
 have hA1:=hA.mono k1
 obtain ⟨X3,r3,s3,uv,gv,e3,h3⟩:=Zz2 (n:=n) (z1:=pt b) hA1 hn hw ac.length 0 r _ _ _ X2 (by omega) (by omega) hL
 rw [show iv ((0 : Nat) : Int)=.int .i64 0 from rfl] at e3
 have c3:=h3.le _ _ c1
 have hal : ([uv,gv].all oneCell)=true:=by simp only [List.all_cons,h3.rd.oneU,h3.rd.oneG];rfl
 have d3 : ldA 2 (pt w) X3=some (.agg #[uv,gv],X3):=ZQ h3.w rfl
 have w3:=KW (vs:=[uv,gv]) (n:=2) c3 rfl rfl hal
 have w3 : stA 2 (pt b) (.agg #[uv,gv]) X3=_:=w3
 have d4 : ldA 2 (pt b) (X3.set b (.cells [uv,gv] 1 false false))=some (.agg #[uv,gv],_):=ZQ (n:=2) (ZM c3) rfl
 refine ⟨X3.set b (.cells [uv,gv] 1 false false),d,r3,s3,uv,gv,?_,(k1.trans h3.le).setN (by omega),h3.nd.setBox c3 WS WS,h3.rd.setB c3 WS WS,fun i hi=>by have:=h3.own i hi;omega⟩
 rw [R,ZpH rfl]
 unfold KD
 rw [Za z1]
 refine z.trans ?_
 rw [Za hA1.len,Z5 e3,ZG,ZU,Za d3,Za w3,Za d4]
 rfl
theorem ZkT : ∃ H',R (n+13) Zb7 [] H=some (.bool true,H')∧HLe H H':=by
 obtain ⟨X1,d,r,e1,D1,l1,o1,o2⟩:=Zs3 (n:=n+10) (X:=H)
 have e1 : R (n+12) Wj [] H=_:=e1
 obtain ⟨v,q,X2,e2,r2,l2,_⟩:=ZbV (n:=n) D1
 have hbs : ZcZ (Z4 (⟨[],[],[],[],fun _ _=>false⟩ : NSt).K) (allK ⟨[],[],[],[],fun _ _=>false⟩)=[2,0,0,0,0]:=by
  have a1 : Z4 ([] : List Tx)=[]:=List.eq_nil_of_length_eq_zero (by rw [KY];rfl)
  have a2 : allK (⟨[],[],[],[],fun _ _=>false⟩ : NSt)=[]:=by
   unfold allK
   have a3 : Z4 (ZbM (⟨[],[],[],[],fun _ _=>false⟩ : NSt))=[]:=List.eq_nil_of_length_eq_zero (by rw [KY];rfl)
   rw [a3];rfl
  show ZcZ (Z4 []) (allK _)=_
  rw [a1,a2];decide
 rw [hbs] at r2
 have q2 : bop .str .eql (strv [2,0,0,0,0]) (.string ⟨#[2,0,0,0,0]⟩) X2=some (.bool true,X2):=Zdh (b:=[2,0,0,0,0])
 refine ⟨X2,?_,l1.trans l2⟩
 rw [R,ZqF rfl]
 unfold Zhe
 rw [Za e1,Za e2,Za (Ze6 r2.rd),Za q2]
 rfl
end
end Go.Proofs.YtedkoimihknggaaGreatDoor.A

namespace Go.Proofs.YtedkoimihknggaaGreatDoor.A
set_option linter.unusedVariables false
set_option maxRecDepth 100000
set_option linter.unusedSimpArgs false
open Go.Proofs Go.Proofs.YtedkoimihknggaaGreatDoor
structure Zdj (s t : NSt) : Prop where
 a : ∀ k,Ze k s.A=Ze k t.A
 f : ∀ k,Ze k s.OF=Ze k t.OF
 w : ∀ m,Ze m s.OW=Ze m t.OW
 m : ∀ g k,s.mem g k=t.mem g k
 k : ∀ g,g∈s.K↔g∈t.K
section
variable {α : Type} {x y : List (Tx × α)} {v : α} {j k o p : Tx} {OW OF OW' OF' : YU} {s t : NSt} {K K' : List Tx} {m : Tx} {u : ZaX}
theorem ZvW : k∈x.map (·.1)↔(Ze k x).isSome=true:=by
 constructor
 ·intro h
  cases hk : Ze k x with
  | none=>
   rw [Zem] at hk
   obtain ⟨q,hq,rfl⟩:=List.mem_map.1 h
   exact absurd rfl (hk q hq)
  | some v=>rfl
 ·intro h
  obtain ⟨v,hv⟩:=Option.isSome_iff_exists.1 h
  exact List.mem_map.2 ⟨(k,v),Wk hv,rfl⟩
theorem Zeg (h : ∀ k,Ze k x=Ze k y) (k : Tx) : Ze k (Qr j v x)=Ze k (Qr j v y):=by
 by_cases e : k=j
 ·subst e;rw [Kb,Kb]
 ·rw [JZ e,JZ e];exact h k
theorem Zmt (h : ∀ k,Ze k x=Ze k y) (k : Tx) : Ze k (JY j x)=Ze k (JY j y):=by
 by_cases e : k=j
 ·subst e;rw [Wt,Wt]
 ·rw [Q6 e,Q6 e];exact h k
theorem ZhB (hf : ∀ k,Ze k OF=Ze k OF') (hw : ∀ k,Ze k OW=Ze k OW') (k : Tx) : Ze k (W3 j OW OF)=Ze k (W3 j OW' OF'):=by
 unfold W3
 rw [hf]
 cases Ze j OF' with
 | none=>exact hw k
 | some m=>exact Zmt hw k
theorem ZhY (hf : ∀ k,Ze k OF=Ze k OF') (k : Tx) : Ze k (Ku j OF)=Ze k (Ku j OF'):=by
 unfold Ku
 rw [hf]
 cases Ze j OF' with
 | none=>exact hf k
 | some m=>exact Zmt hf k
theorem Zh9 (hw : ∀ k,Ze k OW=Ze k OW') : Yp k m OW=Yp k m OW':=by
 unfold Yp
 rw [hw]
theorem Znm (hf : ∀ k,Ze k OF=Ze k OF') : Zdn o p OF=Zdn o p OF':=by
 unfold Zdn
 rw [hf,hf]
theorem ZzG (hf : ∀ k,Ze k OF=Ze k OF') (hw : ∀ k,Ze k OW=Ze k OW') (k : Tx) : Ze k (Zig j m OW OF)=Ze k (Zig j m OW' OF'):=by
 unfold Zig
 rw [Zh9 hw]
 split
 ·split
  ·exact ZhB hf hw k
  ·exact Zeg (ZhB hf hw) k
 ·exact hw k
theorem ZzJ (hf : ∀ k,Ze k OF=Ze k OF') (hw : ∀ k,Ze k OW=Ze k OW') (k : Tx) : Ze k (ZbW j m OW OF)=Ze k (ZbW j m OW' OF'):=by
 unfold ZbW
 rw [Zh9 hw]
 split
 ·split
  ·exact ZhY hf k
  ·exact Zeg (ZhY hf) k
 ·exact hf k
theorem ZyL (hf : ∀ k,Ze k OF=Ze k OF') (hw : ∀ k,Ze k OW=Ze k OW') (k : Tx) : Ze k (Zop o p OW OF)=Ze k (Zop o p OW' OF'):=by
 unfold Zop
 rw [Znm hf,hf]
 split
 ·exact Zeg (ZhB hf hw) k
 ·exact hw k
theorem ZzF (hf : ∀ k,Ze k OF=Ze k OF') (k : Tx) : Ze k (Zfn o p OF)=Ze k (Zfn o p OF'):=by
 unfold Zfn
 rw [Znm hf,hf]
 split
 ·exact Zeg (ZhY hf) k
 ·exact hf k
theorem ZhP (h : K.Nodup) (h' : K'.Nodup) (hk : ∀ g,g∈K↔g∈K') : Z4 K=Z4 K':=
 Zqa (Zee h) (Zee h') fun x=>by rw [KX,KX];exact hk x
theorem Zdj.lenK (h : Zdj s t) (hs : J3 s) (ht : J3 t) : s.K.length=t.K.length:=by
 have:=congrArg List.length (ZhP hs.k.nod ht.k.nod h.k)
 rwa [KY,KY] at this
theorem Zdj.lenA (h : Zdj s t) (hs : J3 s) (ht : J3 t) : s.A.length=t.A.length:=by
 have:=congrArg List.length (ZhP hs.n ht.n (fun g=>by unfold ZbM;rw [ZvW,ZvW,h.a]))
 rw [KY,KY] at this
 simpa using this
theorem Zz9 (hs : J3 s) (ht : J3 t) (h : Zdj s t) : Zdj (JL u s) (JL u t):=by
 have hal:=h.lenA hs ht
 have hkl:=h.lenK hs ht
 have hacc : ∀ k,ZY k s.A=ZY k t.A:=fun k=>by unfold ZY;rw [h.a]
 have herr : ∀ k,Zr k s.A=Zr k t.A:=fun k=>by unfold Zr;rw [h.a]
 have hkb : ∀ g : Tx,(g∈s.K)=(g∈t.K):=fun g=>propext (h.k g)
 have hfind : ∀ (g : Tx) (l : List Tx),QS g l s.K=QS g l t.K:=fun g l=>by
  unfold QS
  by_cases hg : g∈t.K
  ·simp only [hg,(h.k g).2 hg,if_true]
  ·simp only [hg,mt (h.k g).1 hg,if_false]
 have hdrop : ∀ g : Tx,QP g s.K=QP g t.K:=fun g=>by rw [← ZnH,← ZnH];exact hfind g []
 have hmk : ∀ g : Tx,Qz g s.K=Qz g t.K:=fun g=>by
  unfold Qz
  rw [hkl]
  by_cases hg : g∈t.K
  ·simp only [hg,(h.k g).2 hg,if_true]
  ·simp only [hg,mt (h.k g).1 hg,if_false]
 unfold JL
 split
 ·unfold Ky
  rw [show QK u.a u.b s.A=QK u.a u.b t.A from by unfold QK;rw [h.a,hal]]
  split
  ·exact ⟨Zeg h.a,h.f,h.w,h.m,h.k⟩
  ·exact h
 ·unfold YW
  rw [herr]
  split
  ·exact ⟨Zmt h.a,ZhY h.f,ZhB h.f h.w,fun g k=>by show Zcu _ _ _ _=Zcu _ _ _ _;unfold Zcu;rw [h.m],h.k⟩
  ·exact h
 ·unfold YB
  rw [show Qt u.a u.b s.A=Qt u.a u.b t.A from by unfold Qt;rw [h.a,hacc],hacc]
  split
  ·exact ⟨Zeg h.a,h.f,h.w,h.m,h.k⟩
  ·exact h
 ·unfold QW
  rw [show QE u.a u.b s=QE u.a u.b t from by unfold QE;rw [h.a,Zh9 h.w]]
  split
  ·exact ⟨h.a,ZzJ h.f h.w,ZzG h.f h.w,h.m,h.k⟩
  ·exact h
 ·unfold J9
  rw [show Jt u.a u.is s.A=Jt u.a u.is t.A from by unfold Jt;rw [herr,hacc],hacc]
  split
  ·exact ⟨Zeg h.a,h.f,h.w,h.m,h.k⟩
  ·exact h
 ·unfold KZ
  rw [show Jp u.a u.b s.A=Jp u.a u.b t.A from by unfold Jp;rw [h.a,h.a],hacc]
  split
  ·exact ⟨Zeg (Zmt h.a),ZzF h.f,ZyL h.f h.w,fun g k=>by show WT _ _ _ _ _=WT _ _ _ _ _;unfold WT;rw [h.m,h.m],h.k⟩
  ·exact h
 ·unfold ZhH Zcf
  rw [hmk]
  refine ⟨h.a,h.f,h.w,h.m,fun g=>?_⟩
  simp only
  split
  ·rw [List.mem_append,List.mem_append,h.k]
  ·exact h.k g
 ·unfold Ze5 ZbL
  rw [hdrop]
  refine ⟨h.a,h.f,h.w,fun g k=>?_,fun g=>?_⟩
  ·simp only
   split
   ·unfold ZaD;rw [h.m]
   ·exact h.m g k
  ·simp only
   split
   ·rw [List.mem_filter,List.mem_filter,h.k]
   ·exact h.k g
 ·unfold Zaq
  rw [show Kl u.a u.b s=Kl u.a u.b t from by unfold Kl JJ W0;rw [herr,hfind,h.m]]
  split
  ·exact ⟨h.a,h.f,h.w,fun g k=>by show ZaU _ _ _ _ _=ZaU _ _ _ _ _;unfold ZaU;rw [h.m],h.k⟩
  ·exact h
 ·unfold Wc
  rw [show YG u.a u.b s=YG u.a u.b t from by unfold YG JJ Zbz;rw [herr,hfind,h.m]]
  split
  ·exact ⟨h.a,h.f,h.w,fun g k=>by show Zb1 _ _ _ _ _=Zb1 _ _ _ _ _;unfold Zb1;rw [h.m],h.k⟩
  ·exact h
 ·exact h
theorem ZA3 (hs : J3 s) (ht : J3 t) (h : Zdj s t) : ofL k s.K s.mem=ofL k t.K t.mem:=by
 unfold ofL
 rw [ZhP hs.k.nod ht.k.nod h.k]
 exact List.filter_congr fun g _=>h.m g k
theorem ZBL (hs : J3 s) (ht : J3 t) (h : Zdj s t) : A.allK s=A.allK t∧Z4 s.K=Z4 t.K:=by
 refine ⟨?_,ZhP hs.k.nod ht.k.nod h.k⟩
 have hU : ∀ n,ZK t n=ZK s n:=fun n=>by
  unfold ZK
  rw [h.a]
  cases Ze n t.A with
  | none=>rfl
  | some p=>simp only [Option.map_some,Qe];rw [h.f,ZA3 hs ht h]
 have h1:=((ROK.allK hs.n).same hU).all ht.n
 rwa [Zms] at h1
theorem ZCa (hs : J3 s) (ht : J3 t) (hall : A.allK s=A.allK t) (hk : ∀ g,g∈s.K↔g∈t.K) : Zdj s t:=by
 have hU1 : ∀ {s t : NSt},J3 s→J3 t→A.allK s=A.allK t→∀ {n : Tx} {key : Kp},ZK s n=some key→ZK t n=some key:=fun {s t} hs ht hall {n key} h=>by
  have e:=ZrA h
  have h1 : key∈A.allK s:=(Zju hs.n).2 (by rw [e];exact h)
  rw [hall] at h1
  have h2:=(Zju ht.n).1 h1
  rwa [e] at h2
 have hU : ∀ n,ZK s n=ZK t n:=fun n=>by
  cases h1 : ZK s n with
  | some key=>exact (hU1 hs ht hall h1).symm
  | none=>
   cases h2 : ZK t n with
   | none=>rfl
   | some key=>rw [hU1 ht hs hall.symm h2] at h1;cases h1
 have hN : ∀ n,(Ze n s.A=none∧Ze n t.A=none)∨∃ p,Ze n s.A=some p∧Ze n t.A=some p∧(Ze n s.OF).getD []=(Ze n t.OF).getD []∧ofL n s.K s.mem=ofL n t.K t.mem:=fun n=>by
  have h:=hU n
  unfold ZK at h
  cases h1 : Ze n s.A with
  | none=>
   cases h2 : Ze n t.A with
   | none=>exact .inl ⟨rfl,rfl⟩
   | some p=>rw [h1,h2] at h;cases h
  | some p=>
   cases h2 : Ze n t.A with
   | none=>rw [h1,h2] at h;cases h
   | some p'=>
    rw [h1,h2] at h
    simp only [Option.map_some,Option.some.injEq,Qe,Prod.mk.injEq,true_and] at h
    obtain ⟨e1,e2,e3,e4⟩:=h
    obtain ⟨a1,a2⟩:=p
    obtain ⟨b1,b2⟩:=p'
    simp only at e1 e3
    subst e1 e3
    exact .inr ⟨_,rfl,rfl,e2,e4⟩
 have hno : ∀ {s : NSt},J3 s→∀ {n : Tx},Ze n s.A=none→Ze n s.OF=none:=fun {s} hs {n} h=>by
  cases h1 : Ze n s.OF with
  | none=>rfl
  | some m=>have:=hs.i.ofA n (by rw [h1];rfl);rw [h] at this;cases this
 have hne : ∀ {s : NSt},J3 s→∀ {n : Tx},Ze n s.OF≠some []:=fun {s} hs {n} h=>(hs.x.lens _ (Wk h)).2.2.1 rfl
 have hF : ∀ n,Ze n s.OF=Ze n t.OF:=fun n=>by
  rcases hN n with ⟨h1,h2⟩ | ⟨p,h1,h2,h3,h4⟩
  ·rw [hno hs h1,hno ht h2]
  ·cases e1 : Ze n s.OF with
   | none=>
    cases e2 : Ze n t.OF with
    | none=>rfl
    | some m=>
     rw [e1,e2] at h3
     have h3 : ([] : Tx)=m:=h3
     subst h3
     exact absurd e2 (hne ht)
   | some m=>
    cases e2 : Ze n t.OF with
    | none=>
     rw [e1,e2] at h3
     have h3 : m=([] : Tx):=h3
     subst h3
     exact absurd e1 (hne hs)
    | some m'=>
     rw [e1,e2] at h3
     have h3 : m=m':=h3
     rw [h3]
 have hM : ∀ {s t : NSt},J3 s→J3 t→(∀ g,g∈s.K↔g∈t.K)→(∀ n,(Ze n s.A=none∧Ze n t.A=none)∨∃ p,Ze n s.A=some p∧Ze n t.A=some p∧ofL n s.K s.mem=ofL n t.K t.mem)→∀ {g n : Tx},s.mem g n=true→t.mem g n=true:=fun {s t} hs ht hk hN {g n} h=>by
  have h1:=hs.i.memA g n h
  rcases hN n with ⟨h2,_⟩ | ⟨p,_,_,h4⟩
  ·rw [h2] at h1;cases h1
  ·have h5 : g∈ofL n s.K s.mem:=Zcr.2 ⟨hs.k.out g n h,h⟩
   rw [h4] at h5
   exact (Zcr.1 h5).2
 refine ⟨fun n=>?_,hF,fun m=>?_,fun g n=>?_,hk⟩
 ·rcases hN n with ⟨h1,h2⟩ | ⟨p,h1,h2,_,_⟩ <;> rw [h1,h2]
 ·cases e1 : Ze m s.OW with
  | some k=>
   have:=(hs.x.inv k m).2 e1
   rw [hF] at this
   exact ((ht.x.inv k m).1 this).symm
  | none=>
   cases e2 : Ze m t.OW with
   | none=>rfl
   | some k=>
    have:=(ht.x.inv k m).2 e2
    rw [← hF] at this
    rw [(hs.x.inv k m).1 this] at e1
    cases e1
 ·have h1:=hM hs ht hk (fun n=>(hN n).imp id fun ⟨p,a,b,_,c⟩=>⟨p,a,b,c⟩) (g:=g) (n:=n)
  have h2:=hM ht hs (fun g=>(hk g).symm) (fun n=>(hN n).imp (fun h=>⟨h.2,h.1⟩) fun ⟨p,a,b,_,c⟩=>⟨p,b,a,c.symm⟩) (g:=g) (n:=n)
  exact Bool.eq_iff_iff.2 ⟨h1,h2⟩
end
end Go.Proofs.YtedkoimihknggaaGreatDoor.A

namespace Go.Proofs.YtedkoimihknggaaGreatDoor.A
set_option linter.unusedVariables false
set_option maxRecDepth 100000
set_option linter.unusedSimpArgs false
open Go.Proofs Go.Proofs.YtedkoimihknggaaGreatDoor
section
variable {H0 H X : Zd} {n p d b M L : Nat} {a c v : Value} {bs : List UInt8} {s : RSt}
end
end Go.Proofs.YtedkoimihknggaaGreatDoor.A

namespace Go.Proofs.YtedkoimihknggaaGreatDoor.A
set_option linter.unusedVariables false
set_option maxRecDepth 100000
set_option linter.unusedSimpArgs false
open Go.Proofs Go.Proofs.YtedkoimihknggaaGreatDoor
abbrev uZ : Zj:=⟨[],[],[],false,.slice none 0 0,[]⟩
structure B5 (H X : Zd) (P1 P2 P3 P4 P5 : Nat) (s : RSt) (u : Zj) : Prop where
 b1 : X[P1]?=some (.cells (RR s) 1 false false)
 b2 : X[P2]?=some (.cells (RR (0,[])) 1 false false)
 b3 : X[P3]?=some (.cells uZ.cells 1 false false)
 b4 : X[P4]?=some (.cells uZ.cells 1 false false)
 b5 : X[P5]?=some (.cells u.cells 1 false false)
 le : HLe H X
 o : H.length≤P1∧P1 < P2∧P2 < P3∧P3 < P4∧P4 < P5
section
variable {H0 H X X' : Zd} {n p d b M L P1 P2 P3 P4 P5 i : Nat} {a c v : Value} {bs : List UInt8} {s s' : RSt} {u u' : Zj}
theorem B5.hle (h : B5 H X P1 P2 P3 P4 P5 s u) (hl : HLe X X') : B5 H X' P1 P2 P3 P4 P5 s u:=⟨hl _ _ h.b1,hl _ _ h.b2,hl _ _ h.b3,hl _ _ h.b4,hl _ _ h.b5,h.le.trans hl,h.o⟩
theorem B5.putU (h : B5 H X P1 P2 P3 P4 P5 s u) (hi : i < 5) (hv : oneCell v=true) (hu : u.cells.set i v=u'.cells) : ∃ X',st1 (pa P5 i) v X=some (undef,X')∧B5 H X' P1 P2 P3 P4 P5 s u'∧X.length=X'.length∧∀ j,P5 < j→X'[j]?=X[j]?:=by
 have ho:=h.o
 have w:=Kk (o:=i) h.b5 (by simpa using hi) hv
 rw [hu] at w
 refine ⟨_,w,⟨(List.getElem?_set_ne (by omega)).trans h.b1,(List.getElem?_set_ne (by omega)).trans h.b2,(List.getElem?_set_ne (by omega)).trans h.b3,(List.getElem?_set_ne (by omega)).trans h.b4,ZM h.b5,h.le.put (by omega),ho⟩,by simp,fun j hj=>List.getElem?_set_ne (by omega)⟩
theorem B5.d1 (h : B5 H X P1 P2 P3 P4 P5 s u) : ldA 2 (pt P1) X=some (.agg (RR s).toArray,X):=ZQ (n:=2) h.b1 rfl
theorem B5.d5 (h : B5 H X P1 P2 P3 P4 P5 s u) : ldA 5 (pt P5) X=some (.agg u.cells.toArray,X):=ZQ (n:=5) h.b5 rfl
theorem Zwg (hv : oneCell u.gv=true) : u.cells.all oneCell=true:=by simp only [Zj.cells,List.all_cons,hv];rfl
theorem B5.fin (h : B5 H X P1 P2 P3 P4 P5 s u) {Q : Nat} (hQ : Q=P4∨Q=P5) (bQ : X[Q]?=some (.cells u'.cells 1 false false)) (hv : oneCell u'.gv=true) : ∃ X',(bind (ldA 2 (pt P1)) fun y54=>bind (ldA 5 (pt Q)) fun y55=>bind (stA 2 (pt P2) y54) fun _=>bind (ldA 5 (pt Q)) fun u_56=>same u_56 y55 <| bind (stA 5 (pt P3) y55) fun _=>bind (ldA 2 (pt P2)) fun y57=>bind (ldA 5 (pt P3)) fun y58=>ret (Value.tuple #[y57,y58])) X=some (.tuple #[.agg (RR s).toArray,.agg u'.cells.toArray],X')∧HLe H X'∧∀ j,P5 < j→X'[j]?=X[j]?:=by
 have ho:=h.o
 have we:=KW (vs:=RR s) (n:=2) h.b2 rfl rfl (ZBW _)
 have x1 : ldA 5 (pt Q) X=some (.agg u'.cells.toArray,X):=ZQ (n:=5) bQ rfl
 have x2 : ldA 5 (pt Q) (X.set P2 (.cells (RR s) 1 false false))=some (.agg u'.cells.toArray,_):=ZQ (n:=5) ((List.getElem?_set_ne (by omega)).trans bQ) rfl
 have c3 : (X.set P2 (.cells (RR s) 1 false false))[P3]?=some (.cells uZ.cells 1 false false):=(List.getElem?_set_ne (by omega)).trans h.b3
 have x3:=KW (vs:=u'.cells) (n:=5) c3 rfl rfl (Zwg hv)
 have x4 : ldA 2 (pt P2) ((X.set P2 (.cells (RR s) 1 false false)).set P3 (.cells u'.cells 1 false false))=some (.agg (RR s).toArray,_):=ZQ (n:=2) ((List.getElem?_set_ne (by omega)).trans (ZM h.b2)) rfl
 have x5 : ldA 5 (pt P3) ((X.set P2 (.cells (RR s) 1 false false)).set P3 (.cells u'.cells 1 false false))=some (.agg u'.cells.toArray,_):=ZQ (n:=5) (ZM c3) rfl
 refine ⟨(X.set P2 (.cells (RR s) 1 false false)).set P3 (.cells u'.cells 1 false false),?_,(h.le.put (by omega)).put (by omega),fun j hj=>(List.getElem?_set_ne (by omega)).trans (List.getElem?_set_ne (by omega))⟩
 rw [Za h.d1,Za x1,Za we,Za x2,ZZ,Za x3,Za x4,Za x5]
 rfl
end
end Go.Proofs.YtedkoimihknggaaGreatDoor.A

namespace Go.Proofs.YtedkoimihknggaaGreatDoor.A
set_option linter.unusedVariables false
set_option maxRecDepth 100000
set_option linter.unusedSimpArgs false
open Go.Proofs Go.Proofs.YtedkoimihknggaaGreatDoor
section
variable {H0 H X X' X0 : Zd} {n p d b P1 P2 P3 : Nat} {v sl gv : Value} {bs : List UInt8} {s : RSt} {q : List Nat} {us : List Zj}
end
end Go.Proofs.YtedkoimihknggaaGreatDoor.A

namespace Go.Proofs.YtedkoimihknggaaGreatDoor.A
set_option linter.unusedVariables false
set_option maxRecDepth 100000
set_option linter.unusedSimpArgs false
open Go.Proofs Go.Proofs.YtedkoimihknggaaGreatDoor
structure Ans (X : Zd) (wv : Value) (r : Nat × (List Tx × List Kp)) : Prop where
 one : ∃ uv gv,wv=.agg #[uv,gv]∧oneCell uv=true∧oneCell gv=true
 ok : r.1=0→∃ uv gv us,wv=.agg #[uv,gv]∧Qg X uv us∧us.map ZI=r.2.2∧Sl X gv (r.2.1.map strv)
theorem Ans.no {X : Zd} {r : Nat × (List Tx × List Kp)} (h : r.1≠0) : Ans X (.agg #[.slice none 0 0,.slice none 0 0]) r:=⟨⟨_,_,rfl,rfl,rfl⟩,fun h0=>absurd h0 h⟩
section
variable {H0 H X X' X0 : Zd} {n p d b p2 p4 p5 : Nat} {v sl gv : Value} {bs : List UInt8} {s : RSt} {q : List Nat} {us : List Zj}
end
end Go.Proofs.YtedkoimihknggaaGreatDoor.A

namespace Go.Proofs.YtedkoimihknggaaGreatDoor.A
set_option linter.unusedVariables false
set_option maxRecDepth 100000
set_option linter.unusedSimpArgs false
open Go.Proofs Go.Proofs.YtedkoimihknggaaGreatDoor
section
variable {X X' H H0 : Zd} {n d : Nat} {a : Value} {bs : List UInt8}
end
end Go.Proofs.YtedkoimihknggaaGreatDoor.A

namespace Go.Proofs.YtedkoimihknggaaGreatDoor.A
set_option linter.unusedVariables false
set_option maxRecDepth 100000
set_option linter.unusedSimpArgs false
open Go.Proofs Go.Proofs.YtedkoimihknggaaGreatDoor
section
variable {X X' H H0 : Zd} {n d c b6 b11 da dc ca cc : Nat} {r ra rc : NR} {a v uv gv uv' gv' sl : Value} {s t : NSt} {l l' N : List Tx} {us : List Zj} {ac : List ZaX} {u : ZaX}
theorem Zrf {a c : Value} (hu : l.length≤1000) (hl : l.length=l'.length) (ha : Sl X a (l.map strv)) (hc : Sl X c (l'.map strv)) : ∀ (t j : Nat),l.length - j=t→j≤l.length→
  Zi (c4 (Ya.l1 (R n))) [a,c,iv l.length,iv j] X=some (if l.drop j=l'.drop j then .ext 0 [] else .ret (.bool false),X)
 | 0,j,ht,hj=>by
  have : j=l.length:=by omega
  subst this
  rw [List.drop_length,hl,List.drop_length,if_pos rfl,← hl]
  refine ZN ?_
  rw [ZJ]
  unfold Ya.l1
  rw [Za Zk,Zb,if_neg (by simp)]
  rfl
 | t+1,j,ht,hj=>by
  have hjl : j < l.length:=by omega
  have hjl' : j < l'.length:=by omega
  have hlt : (j : Int) < l.length:=by omega
  have hg:=List.getElem?_eq_getElem hjl
  have hg':=List.getElem?_eq_getElem hjl'
  have hd:=List.drop_eq_getElem_cons hjl
  have hd':=List.drop_eq_getElem_cons hjl'
  generalize l[j]=x at hg hd
  generalize l'[j]=x' at hg' hd'
  have x1:=ha.ix (i:=j) (by simpa using hjl) .i64 X
  have x2:=ha.ldx (Yt hg)
  have x3:=hc.ix (i:=j) (by simpa using hjl') .i64 X
  have x4:=hc.ldx (Yt hg')
  have q0 : bop .str .neq (strv x) (strv x') X=some (.bool (!(x==x')),X):=WM
  rw [hd,hd']
  by_cases hx : x=x'
  ·subst hx
   have e:=Zrf hu hl ha hc t (j+1) (by omega) (by omega)
   have hif : (if x :: l.drop (j+1)=x :: l'.drop (j+1) then Out.ext 0 [] else Out.ret (.bool false))=(if l.drop (j+1)=l'.drop (j+1) then Out.ext 0 [] else Out.ret (.bool false)):=by
    by_cases h : l.drop (j+1)=l'.drop (j+1)
    ·rw [if_pos (by rw [h]),if_pos h]
    ·rw [if_neg (fun e=>h (List.cons.inj e).2),if_neg h]
   rw [hif]
   refine (ZA ?_).trans e
   rw [ZJ]
   unfold Ya.l1
   rw [Za Zk,Zb,if_pos (by simpa using hlt),Za x1,Za x2,Za x3,Za x4,Za q0,Zb,if_neg (by simp),Za ZB,Qi (by omega)]
   rfl
  ·rw [if_neg (fun e=>hx (List.cons.inj e).1)]
   refine QR ?_
   rw [ZJ]
   unfold Ya.l1
   rw [Za Zk,Zb,if_pos (by simpa using hlt),Za x1,Za x2,Za x3,Za x4,Za q0,Zb,if_pos (by simpa using hx)]
   rfl
theorem Zuh {a c : Value} (hu : l.length≤1000) (ha : Sl X a (l.map strv)) (hc : Sl X c (l'.map strv)) : R (n+1) WG [a,c] X=some (.bool (decide (l=l')),X):=by
 have h1:=ha.len (H':=X)
 have h2:=hc.len (H':=X)
 rw [List.length_map] at h1 h2
 have q : bop .int .neq (iv l.length) (iv l'.length) X=some (.bool (decide (l.length≠l'.length)),X):=by
  rw [Zq,show ((l.length : Int) !=l'.length)=decide (l.length≠l'.length) from by rw [Bool.eq_iff_iff,decide_eq_true_eq,bne_iff_ne];omega]
 rw [R,Zl3 rfl]
 unfold Ya
 rw [Za h1,Za h2,Za q,Zb]
 by_cases hl : l.length=l'.length
 ·have e:=Zrf (n:=n) hu hl ha hc l.length 0 (by omega) (by omega)
  have e : Zi (c4 (Ya.l1 (R n))) [a,c,iv l.length,.int .i64 0] X=_:=e
  rw [List.drop_zero,List.drop_zero] at e
  rw [if_neg (by simpa using hl),Za h1]
  by_cases h : l=l'
  ·rw [if_pos h] at e
   rw [Z5 e,ZG,decide_eq_true h]
   rfl
  ·rw [if_neg h] at e
   rw [Yh e,decide_eq_false h]
   rfl
 ·rw [if_pos (by simpa using hl),decide_eq_false (fun h=>hl (by rw [h]))]
  rfl
theorem ZzM (hd : ND X d r s c) (U : Qg X uv us) (hn : us.length≤1000) (hN : Sl X gv (N.map strv)) (o1 : oneCell uv=true) (o2 : oneCell gv=true) : ∃ X',R (n+9) ZdL [pt d,.agg #[uv,gv]] X=some (.bool (decide (A.allK s=us.map ZI∧Z4 s.K=N)),X')∧HLe X X':=by
 have z1 : alc 1 (.agg #[uv,gv]) X=some (pt X.length,X++[.cells [uv,gv] 1 false false]):=K4 (vs:=[uv,gv]) (by simp only [List.all_cons,o1,o2];rfl)
 have k1 : HLe X (X++[Zf.cells [uv,gv] 1 false false]):=.app _ _
 have c1 : (X++[Zf.cells [uv,gv] 1 false false])[X.length]?=some (.cells [uv,gv] 1 false false):=ZC
 generalize X++[Zf.cells [uv,gv] 1 false false]=X1 at z1 k1 c1
 have U1:=U.mono k1
 have hd1:=hd.hle k1
 have a0 : ∀ Y,HLe X1 Y→ld1 (pa X.length 0) Y=some (uv,Y):=fun Y hl=>Zv (hl _ _ c1) rfl
 have a1 : ∀ Y,HLe X1 Y→ld1 (pa X.length 1) Y=some (gv,Y):=fun Y hl=>Zv (hl _ _ c1) rfl
 have hlen : Zy uv X1=some (iv us.length,X1):=by have:=U1.1.len (H':=X1);rwa [List.length_map] at this
 have e1 : R (n+8) W6 [pt d] X1=some (iv s.A.length,X1):=ZxA (n:=n+7) hd1
 have hfew:=hd.inv.few
 have hal : (A.allK s).length=s.A.length:=by unfold A.allK;rw [List.length_map,KY];simp
 have q1 : bop .int .eql (iv s.A.length) (iv us.length) X1=some (.bool (decide (s.A.length=us.length)),X1):=by
  rw [ZD,show ((s.A.length : Int)==us.length)=decide (s.A.length=us.length) from by rw [Bool.eq_iff_iff,decide_eq_true_eq,beq_iff_eq];omega]
 by_cases hl : s.A.length=us.length
 rotate_left
 ·rw [decide_eq_false hl] at q1
  rw [decide_eq_false (fun h=>hl (by have:=congrArg List.length h.1;rw [List.length_map] at this;omega))]
  refine ⟨X1,?_,k1⟩
  rw [R,Zgo rfl]
  unfold ZdC
  rw [Za z1,Za Zg,Za (a0 _ (.refl _)),Za hlen,Za e1,Za (a0 _ (.refl _)),ZZ,Za q1,YK rfl,YK rfl,YK rfl,YK rfl,YK rfl,ZZ,YK rfl,Za Zn]
  simp only [cond_false]
  rw [YK rfl,YK rfl,YK rfl,YK rfl,YK rfl,ZZ,YK rfl,Za Zn]
  rfl
 rw [decide_eq_true hl] at q1
 obtain ⟨v,q2,us2,X2,e2,w2,k2,l2⟩:=ZxY (n:=n) hd1
 have k2 : us2.map ZI=A.allK s:=k2
 have hu2 : us2.length≤1000000:=by
  have h2:=congrArg List.length k2
  rw [List.length_map] at h2
  omega
 obtain ⟨X3,e3,l3⟩:=Zyy (n:=n+6) hu2 (by omega) w2.us (U1.mono l2)
 rw [k2] at e3
 have e3 : R (n+8) KN [v,uv] X2=_:=e3
 have k13:=l2.trans l3
 by_cases hU : A.allK s=us.map ZI
 rotate_left
 ·rw [decide_eq_false hU] at e3
  rw [decide_eq_false (fun h=>hU h.1)]
  refine ⟨X3,?_,k1.trans k13⟩
  rw [R,Zgo rfl]
  unfold ZdC
  rw [Za z1,Za Zg,Za (a0 _ (.refl _)),Za hlen,Za e1,Za (a0 _ (.refl _)),ZZ,Za q1,Jo,Qb,Jo,Za Zg,Jo,Za (a0 _ (.refl _)),Jo,Za e2,Jo,Za (a0 _ l2),ZZ,Jo,Za e3,Za Zn]
  simp only [cond_true]
  rw [YK rfl,YK rfl,YK rfl,YK rfl,YK rfl,ZZ,YK rfl,Za Zn]
  rfl
 rw [decide_eq_true hU] at e3
 obtain ⟨v4,q4,X4,e4,r4,l4,o4⟩:=Zry (n:=n+4) (hd1.hle k13)
 have e4 : R (n+8) KI [pt d] X3=_:=e4
 have hk6 : (Z4 s.K).length≤1000:=by rw [KY];have:=hd.toND0.kn.few;omega
 have e5 : R (n+8) WG [v4,gv] X4=some (.bool (decide (Z4 s.K=N)),X4):=Zuh (n:=n+7) hk6 r4.rd (hN.mono ((k1.trans k13).trans l4))
 refine ⟨X4,?_,(k1.trans k13).trans l4⟩
 rw [show decide (A.allK s=us.map ZI∧Z4 s.K=N)=decide (Z4 s.K=N) from by rw [decide_eq_decide];exact ⟨fun h=>h.2,fun h=>⟨hU,h⟩⟩]
 rw [R,Zgo rfl]
 unfold ZdC
 rw [Za z1,Za Zg,Za (a0 _ (.refl _)),Za hlen,Za e1,Za (a0 _ (.refl _)),ZZ,Za q1,Jo,Qb,Jo,Za Zg,Jo,Za (a0 _ (.refl _)),Jo,Za e2,Jo,Za (a0 _ l2),ZZ,Jo,Za e3,Za Zn]
 simp only [cond_true]
 rw [Jo,Qb,Jo,Za Zg,Jo,Za (a1 _ k13),Jo,Za e4,Jo,Za (a1 _ (k13.trans l4)),ZZ,Jo,Za e5,Za Zn]
 rfl
theorem ND.apart {o2 : List Nat} (h : ND X da ra s ca) (hc : ND X dc rc t cc) (hs : Zx ra.own X o2 X') (hd : ∀ i∈ra.own,i∉rc.own) : ND X' dc rc t cc:=
 hc.step hs (fun e=>(h.isMap e).2 _ _ _ _ hc.cell) (fun e=>(h.isMap e).2 _ _ _ _ hc.ix.c) (fun e=>(h.isMap e).2 _ _ _ _ hc.gr.cell) (fun j hj e=>hd j e hj)
structure Two (H X : Zd) (da : Nat) (ra : NR) (s : NSt) (ca : Nat) (uv gv : Value) (b6 : Nat) (dc : Nat) (rc : NR) (t : NSt) (cc : Nat) (uv' gv' : Value) (b11 : Nat) : Prop where
 le : HLe H X
 na : ND X da ra s ca
 ra' : RD X uv gv s
 oa : ∀ i∈ra.own,H.length≤i
 ba : X[b6]?=some (.cells [uv,gv] 1 false false)
 nc : ND X dc rc t cc
 rc' : RD X uv' gv' t
 oc : ∀ i∈rc.own,H.length≤i
 bc : X[b11]?=some (.cells [uv',gv'] 1 false false)
 dis : ∀ i∈ra.own,i∉rc.own
 h6 : H.length≤b6
 h11 : H.length≤b11
 ne : b6≠b11
theorem Two.hle (h : Two H X da ra s ca uv gv b6 dc rc t cc uv' gv' b11) (hl : HLe X X') : Two H X' da ra s ca uv gv b6 dc rc t cc uv' gv' b11:=
 ⟨h.le.trans hl,h.na.hle hl,h.ra'.hle hl,h.oa,hl _ _ h.ba,h.nc.hle hl,h.rc'.hle hl,h.oc,hl _ _ h.bc,h.dis,h.h6,h.h11,h.ne⟩
theorem Two.swap (h : Two H X da ra s ca uv gv b6 dc rc t cc uv' gv' b11) : Two H X dc rc t cc uv' gv' b11 da ra s ca uv gv b6:=
 ⟨h.le,h.nc,h.rc',h.oc,h.bc,h.na,h.ra',h.oa,h.ba,fun i hi hj=>h.dis i hj hi,h.h11,h.h6,fun e=>h.ne e.symm⟩
theorem Two.act {q : Nat} (h : Two H X da ra s ca uv gv b6 dc rc t cc uv' gv' b11) (hq : X[q]?=some (.cells u.cells 1 false false)) (hq6 : q≠b6) : ∃ X' r' uv1 gv1,(∀ {β : Type} (K : Value→A.M β),bind (ldA 2 (pt b6)) (fun v25=>bind (ldA 4 (pt q)) fun v26=>bind (R (n+12) Jh [pt da,v25,v26]) fun v27=>bind (Zm v27 0) fun v28=>bind (Zm v27 1) fun v29=>bind (stA 2 (pt b6) v28) fun _=>K v29) X=K (.bool true) X')∧Two H X' da r' (JL u s) (ca+1) uv1 gv1 b6 dc rc t cc uv' gv' b11∧X'[q]?=some (.cells u.cells 1 false false):=by
 have d1 : ldA 2 (pt b6) X=some (.agg #[uv,gv],X):=ZQ h.ba rfl
 have d2 : ldA 4 (pt q) X=some (.agg u.cells.toArray,X):=ZQ hq rfl
 obtain ⟨X2,r',uv1,gv1,e2,hF⟩:=Zz5 (n:=n) (u:=u) h.na h.ra'
 have hc:=h.na.toND0.cle hF.st
 have hw2:=hc _ _ _ _ _ h.ba
 have hb2:=hc _ _ _ _ _ h.bc
 have hq2:=hc _ _ _ _ _ hq
 obtain ⟨hm1,hm2⟩:=h.le.more hF.st h.oa
 obtain ⟨iu,ig⟩:=h.ra'.isSl
 have hal : ([uv1,gv1].all oneCell)=true:=by simp only [List.all_cons,hF.rd.oneU,hF.rd.oneG];rfl
 have w1 : stA 2 (pt b6) (.agg #[uv1,gv1]) X2=some (undef,X2.set b6 (.cells [uv1,gv1] 1 false false)):=KW (vs:=[uv1,gv1]) hw2 rfl rfl hal
 have hnc:=h.na.apart h.nc hF.st h.dis
 have hne:=h.ne
 refine ⟨X2.set b6 (.cells [uv1,gv1] 1 false false),r',uv1,gv1,fun {β} K=>?_,⟨hm1.setN h.h6,hF.nd.setBox hw2 iu ig,hF.rd.setB hw2 iu ig,hm2,ZM hw2,hnc.setBox hw2 iu ig,(h.rc'.cle hc).setB hw2 iu ig,h.oc,(List.getElem?_set_ne (by omega)).trans hb2,fun i hi hj=>?_,h.h6,h.h11,h.ne⟩,(List.getElem?_set_ne (by omega)).trans hq2⟩
 ·rw [Za d1,Za d2,Za e2,Za Zt,Za Zs,Za w1]
 ·rcases hF.st.own i hi with h1 | h1
  ·exact h.dis i h1 hj
  ·have:=(h.nc.isMap hj).1
   omega
theorem Zyg {j : Nat} (hn : ac.length≤9223372036854775807) (hA : Zbr H sl ac) (hja : ac[j]?=some u) (h : Two H X da ra s ca uv gv b6 dc rc t cc uv' gv' b11) (hE : Zdj s t) : ∃ X' r1 r2 u1 g1 u2 g2,QQ.l1 (R (n+13)) (pt da) (pt b6) (pt dc) (pt b11) sl (iv ac.length) (iv j) X=some (.nrm [pt da,pt b6,pt dc,pt b11,sl,iv ac.length,iv ((j+1 : Nat) : Int)],X')∧Two H X' da r1 (JL u s) (ca+1) u1 g1 b6 dc r2 (JL u t) (cc+1) u2 g2 b11∧Zdj (JL u s) (JL u t):=by
 have hkl : j < ac.length:=(List.getElem?_eq_some_iff.1 hja).1
 have hlt : (j : Int) < ac.length:=by omega
 have g1 : (X++[Zf.cells u.cells 1 false false])[X.length]?=some (.cells u.cells 1 false false):=ZC
 have hf:=fun {β : Type} {K : Value→A.M β}=>(hA.mono h.le).fetch (k:=K) hja
 have k1 : HLe X (X++[Zf.cells u.cells 1 false false]):=.app _ _
 generalize X++[Zf.cells u.cells 1 false false]=X1 at g1 k1 hf
 have h1:=h.hle k1
 have hq6 : X.length≠b6:=by have:=Ql h.ba;omega
 have hq11 : X.length≠b11:=by have:=Ql h.bc;omega
 obtain ⟨X2,r1,u1,v1,e2,h2,g2⟩:=h1.act (n:=n+1) g1 hq6
 obtain ⟨X3,r2,u2,v2,e3,h3,g3⟩:=h2.swap.act (n:=n+1) g2 hq11
 have h3:=h3.swap
 have e2 : ∀ {β : Type} (K : Value→A.M β),bind (ldA 2 (pt b6)) (fun v25=>bind (ldA 4 (pt X.length)) fun v26=>bind (R (n+13) Jh [pt da,v25,v26]) fun v27=>bind (Zm v27 0) fun v28=>bind (Zm v27 1) fun v29=>bind (stA 2 (pt b6) v28) fun _=>K v29) X1=K (.bool true) X2:=e2
 have e3 : ∀ {β : Type} (K : Value→A.M β),bind (ldA 2 (pt b11)) (fun v25=>bind (ldA 4 (pt X.length)) fun v26=>bind (R (n+13) Jh [pt dc,v25,v26]) fun v27=>bind (Zm v27 0) fun v28=>bind (Zm v27 1) fun v29=>bind (stA 2 (pt b11) v28) fun _=>K v29) X2=K (.bool true) X3:=e3
 have hE2:=Zz9 (u:=u) h.na.pinv h.nc.pinv hE
 obtain ⟨t1,t2⟩:=ZBL h3.na.pinv h3.nc.pinv hE2
 obtain ⟨w4,q4,X4,e4,r4,k4,_⟩:=ZbV (n:=n+1) h3.na
 have e4 : R (n+13) QO [pt da] X3=_:=e4
 obtain ⟨w5,q5,X5,e5,r5,k5,_⟩:=ZbV (n:=n+1) (h3.nc.hle k4)
 have e5 : R (n+13) QO [pt dc] X4=_:=e5
 rw [← t1,← t2] at r5
 generalize ZcZ (Z4 (JL u s).K) (A.allK (JL u s))=bs at r4 r5
 have y1:=Ze6 r4.rd
 have y2:=Ze6 (r4.rd.mono k5)
 have y3:=Ze6 r5.rd
 have q6 : bop .str .neq (strv bs) (strv bs) X5=some (.bool false,X5):=by rw [WM];simp
 refine ⟨X5,r1,r2,u1,v1,u2,v2,?_,(h3.hle k4).hle k5,hE2⟩
 unfold QQ.l1
 rw [Za Zk,Zb,if_pos (by simpa using hlt),hf]
 refine (e2 _).trans ?_
 refine (e3 _).trans ?_
 rw [Za ZF]
 simp only [Bool.not_true]
 rw [Jo,Qb,Jo,Za ZF,Za Zn]
 simp only [Bool.not_true,cond_false]
 rw [Jo,Qb,Jo,Qb,Jo,Za e4,Jo,Za y1,Jo,Za e5,Jo,Za y2,ZZ,Jo,Za y3,Jo,Za q6,Za Zn]
 simp only [cond_false]
 rw [Zb,if_neg (by simp),Za ZB,Qi (by omega)]
 rfl
theorem ZxR (hn : ac.length≤9223372036854775807) (hA : Zbr H sl ac) : ∀ (k j : Nat) (X : Zd) (ra rc : NR) (s t : NSt) (ca cc : Nat) (uv gv uv' gv' : Value),ac.length - j=k→j≤ac.length→Two H X da ra s ca uv gv b6 dc rc t cc uv' gv' b11→Zdj s t→
  ∃ X',Zi (c7 (QQ.l1 (R (n+13)))) [pt da,pt b6,pt dc,pt b11,sl,iv ac.length,iv j] X=some (.ext 0 [],X')
 | 0,j,X,ra,rc,s,t,ca,cc,uv,gv,uv',gv',ht,hj,h,hE=>by
  have hj : j=ac.length:=by omega
  subst hj
  refine ⟨X,ZN ?_⟩
  rw [Jj]
  unfold QQ.l1
  rw [Za Zk,Zb,if_neg (by simp)]
  rfl
 | k+1,j,X,ra,rc,s,t,ca,cc,uv,gv,uv',gv',ht,hj,h,hE=>by
  have hkl : j < ac.length:=by omega
  have hja:=List.getElem?_eq_getElem hkl
  obtain ⟨X1,r1,r2,u1,g1,u2,g2,e1,h1,hE1⟩:=Zyg (n:=n) hn hA hja h hE
  obtain ⟨X2,e2⟩:=ZxR hn hA k (j+1) X1 r1 r2 _ _ _ _ u1 g1 u2 g2 (by omega) (by omega) h1 hE1
  refine ⟨X2,(ZA ?_).trans e2⟩
  rw [Jj]
  exact e1
theorem Zwd {x1 x2 : Value} {a1 a2 : List ZaX} (hA : Zbr H x1 a1) (hB : Zbr H x2 a2) (hn1 : a1.length≤9223372036854775807) (hn2 : a2.length≤9223372036854775807) : ∃ H',R (n+14) Zaf [x1,x2] H=some (.bool true,H'):=by
 have f1 : ∀ r X',QQ (R (n+13)) x1 x2 H=some (r,X')→R (n+14) Zaf [x1,x2] H=some (r,X'):=fun r X' hr=>by rw [R,Zkq rfl];exact hr
 obtain ⟨H1,e1,l1⟩:=ZkT (n:=n) (H:=H)
 obtain ⟨H2,e2,l2⟩:=ZxD (n:=n+12) (hA.mono l1) hn1
 have e2 : R (n+13) WJ [x1] H1=_:=e2
 obtain ⟨H3,e3,l3⟩:=ZxD (n:=n+12) (hB.mono (l1.trans l2)) hn2
 have e3 : R (n+13) WJ [x2] H2=_:=e3
 generalize (a1.all ZkO && decide (a1.length≤60))=b1 at e2
 generalize (a2.all ZkO && decide (a2.length≤60))=b2 at e3
 cases b1
 ·obtain ⟨H4,e4,_⟩:=ZkT (n:=n) (H:=H2)
  refine ⟨H4,f1 _ _ ?_⟩
  unfold QQ
  rw [Za e1,Za ZF]
  simp only [Bool.not_true]
  rw [Z8,Zp,Za e2,Zp,Za ZF,Qb,ZU,Za Zn]
  simp only [Bool.not_false,cond_false]
  rw [ZBe rfl]
  simp only [List.replicate]
  rw [ZU,Za Zn]
  simp only [cond_true]
  rw [Zb,if_pos rfl,Za e4]
  rfl
 have step : ∀ {k : Value→A.M Value},bind (uop .not (.bool true)) (fun y2=>
   bind (ZH y2 false 3 (bind (R (n+13) WJ [x1]) fun y3=>bind (uop .not y3) fun y4=>ret [x1,y3,y4])) (c3 fun _ _ q5_2=>
   bind (pick y2 (Value.bool true) q5_2) fun y6=>
   bind (ZH y6 false 3 (bind (R (n+13) WJ [x2]) fun y7=>bind (uop .not y7) fun y8=>ret [x2,y7,y8])) (c3 fun _ _ q9_2=>
   bind (pick y6 (Value.bool true) q9_2) k))) H1=k (.bool (!b2)) H3:=fun {k}=>by
  rw [Za ZF]
  simp only [Bool.not_true]
  rw [Z8,Zp,Za e2,Zp,Za ZF,Qb,ZU,Za Zn]
  simp only [Bool.not_true,cond_false]
  rw [Z8,Zp,Za e3,Zp,Za ZF,Qb,ZU,Za Zn]
  rfl
 have l13:=(l1.trans l2).trans l3
 cases b2
 ·obtain ⟨H4,e4,_⟩:=ZkT (n:=n) (H:=H3)
  refine ⟨H4,f1 _ _ ?_⟩
  unfold QQ
  rw [Za e1]
  refine step.trans ?_
  rw [Zb,if_pos (by rfl),Za e4]
  rfl
 obtain ⟨X4,d1,r1,s1,u1,g1,e4,l4,D4,R4,o4⟩:=Zto (n:=n) (hA.mono l13) hn1
 have m4:=l13.trans l4
 have box : ∀ {X : Zd} {s : NSt} {uv gv : Value},RD X uv gv s→∀ K : Value→A.M Value,bind (alc 1 zD) (fun q=>bind (stA 2 q (.agg #[uv,gv])) fun _=>K q) X=K (pt X.length) (X++[.cells [uv,gv] 1 false false]):=fun {X s uv gv} R K=>Zao (n:=2) (zs:=[.slice none 0 0,.slice none 0 0]) (r:=[uv,gv]) rfl rfl rfl (by simp only [List.all_cons,R.oneU,R.oneG];rfl)
 have z5:=box R4
 have k5 : HLe X4 (X4++[Zf.cells [u1,g1] 1 false false]):=.app _ _
 have c5' : (X4++[Zf.cells [u1,g1] 1 false false])[X4.length]?=some (.cells [u1,g1] 1 false false):=ZC
 have hb6 : H.length≤X4.length:=m4.len
 generalize X4++[Zf.cells [u1,g1] 1 false false]=X5 at z5 k5 c5'
 generalize X4.length=b6 at z5 c5' hb6
 obtain ⟨X6,d2,r2,s2,u2,g2,e6,l6,D6,R6,o6⟩:=Zto (n:=n) (hB.mono (m4.trans k5)) hn2
 have z7:=box R6
 have k7 : HLe X6 (X6++[Zf.cells [u2,g2] 1 false false]):=.app _ _
 generalize X6++[Zf.cells [u2,g2] 1 false false]=X7 at z7 k7
 generalize X6.length=b8 at z7
 have k57:=l6.trans k7
 have D1:=((D4.hle k5).hle k57)
 have R1:=((R4.hle k5).hle k57)
 have D2:=D6.hle k7
 have m7:=(m4.trans k5).trans k57
 have a7 : ∀ Y,HLe X7 Y→ldA 2 (pt b6) Y=some (.agg #[u1,g1],Y):=fun Y hl=>ZQ (hl _ _ (k57 _ _ c5')) rfl
 obtain ⟨w8,q8,X8,e8,y8,l8,_⟩:=ZbV (n:=n+1) D1
 have e8 : R (n+13) QO [pt d1] X7=_:=e8
 obtain ⟨w9,q9,X9,e9,y9,l9,_⟩:=ZbV (n:=n+1) (D2.hle l8)
 have e9 : R (n+13) QO [pt d2] X8=_:=e9
 have t8:=Ze6 y8.rd
 have t8':=Ze6 (y8.rd.mono l9)
 have t9:=Ze6 y9.rd
 have l79:=l8.trans l9
 obtain ⟨us,U9,O9⟩:=(R1.hle l79).ex
 obtain ⟨qn,N,hN,iN⟩:=(R1.hle l79).n
 have hP1:=D1.pinv
 have hNk : N=Z4 s1.K:=iN.uniq ⟨Zee hP1.k.nod,fun x=>KX⟩ fun _=>Iff.rfl
 have hus : us.map ZI=A.allK s1:=O9.all hP1.n
 have hlus : us.length≤1000:=by
  have:=O9.len hP1.n
  have:=hP1.i.few
  omega
 obtain ⟨X10,e10,l10⟩:=ZzM (n:=n+4) ((D2.hle l8).hle l9) U9 hlus hN.rd R1.oneU R1.oneG
 have e10 : R (n+13) ZdL [pt d2,.agg #[u1,g1]] X9=_:=e10
 rw [hus,hNk] at e10
 have t9':=Ze6 (y9.rd.mono l10)
 have t8'':=Ze6 ((y8.rd.mono l9).mono l10)
 have hof1:=ZsB D1
 have hof2:=ZsB D2
 have q9 : bop .str .eql (strv (ZcZ (Z4 s1.K) (A.allK s1))) (strv (ZcZ (Z4 s2.K) (A.allK s2))) X9=some (.bool (decide (A.allK s2=A.allK s1∧Z4 s2.K=Z4 s1.K)),X9):=by
  have hb : (ZcZ (Z4 s1.K) (A.allK s1)==ZcZ (Z4 s2.K) (A.allK s2))=decide (A.allK s2=A.allK s1∧Z4 s2.K=Z4 s1.K):=by
   rw [Bool.eq_iff_iff,beq_iff_eq,decide_eq_true_iff]
   exact ⟨fun h=>⟨(Zs0 hof1 hof2 h).2.symm,(Zs0 hof1 hof2 h).1.symm⟩,fun h=>by rw [h.1,h.2]⟩
  rw [Zdh,hb]
 have q10 : ∀ x : Bool,bop .bool .neq (.bool x) (.bool x) X10=some (.bool false,X10):=fun x=>by rw [JS];simp
 have D1':=(D1.hle l79).hle l10
 obtain ⟨w11,q11,X11,e11,y11,l11,_⟩:=ZbV (n:=n+1) D1'
 have e11 : R (n+13) QO [pt d1] X10=_:=e11
 obtain ⟨g1',g2',g3',g4',_,_⟩:=Zwr hof1
 have hel:=Ztk (fun k hk=>Zsr (g1' k hk)) g2' g3' g4'
 obtain ⟨dv,X12,e12,l12,_,h12⟩:=ZuX (n:=n) y11.rd (by omega)
 rw [Zlw hof1] at e12 h12
 obtain ⟨d3,r3,s3,c3v,us3,rfl,S3,k3⟩:=h12 rfl
 have k3 : us3.map ZI=A.allK s1:=k3
 have hK3 : s3.K=Z4 s1.K:=S3.K
 have q12 : bop .int .neq (iv ((0 : Nat) : Int)) (.int .i64 0) X12=some (.bool false,X12):=by rw [Zq];rfl
 have q13 : bop .ptr .eql (pt d3) (.pointer none) X12=some (.bool false,X12):=JU
 have l7c:=(l79.trans l10).trans (l11.trans l12)
 have a12:=a7 _ l7c
 have R1c:=R1.hle l7c
 have D1c:=D1.hle l7c
 have z13:=box R1c
 have k13 : HLe X12 (X12++[Zf.cells [u1,g1] 1 false false]):=.app _ _
 have c13 : (X12++[Zf.cells [u1,g1] 1 false false])[X12.length]?=some (.cells [u1,g1] 1 false false):=ZC
 have hb12:=l7c _ _ (k57 _ _ c5')
 have h612:=Ql hb12
 have hm12:=m7.trans l7c
 have hm12l:=hm12.len
 generalize X12++[Zf.cells [u1,g1] 1 false false]=X13 at z13 k13 c13
 generalize X12.length=b11 at z13 c13 h612 hm12l
 have hall : A.allK s1=A.allK s3:=by rw [← k3];exact S3.ok.all S3.nd.pinv.n
 have hE : Zdj s1 s3:=ZCa D1.pinv S3.nd.pinv hall fun g=>by rw [hK3,KX]
 have hlen13 : H.length≤X11.length:=((m7.trans l79).trans (l10.trans l11)).len
 have hR3 : RD X13 u1 g1 s3:=by
  obtain ⟨us',U',O'⟩:=(R1c.hle k13).ex
  obtain ⟨qn',N',hN',iN'⟩:=(R1c.hle k13).n
  exact ⟨⟨us',U',S3.ok.keys (k3.trans (O'.all hP1.n).symm)⟩,qn',N',hN',⟨iN'.asc,fun x=>(iN'.mem x).trans (by rw [hK3,KX])⟩⟩
 have hT : Two H X13 d1 r1 s1 a1.length u1 g1 b6 d3 r3 s3 c3v u1 g1 b11:=⟨hm12.trans k13,D1c.hle k13,R1c.hle k13,fun i hi=>Nat.le_trans l13.len (o4 i hi),k13 _ _ hb12,S3.nd.hle k13,hR3,fun i hi=>Nat.le_trans hlen13 (S3.own i hi),c13,fun i hi hj=>by
  have h1:=(D4.isMap hi).1
  have h2:=S3.own i hj
  have h3:=((k5.trans k57).trans (l79.trans (l10.trans l11))).len
  omega,hb6,by omega,by omega⟩
 have hB13:=hB.mono (hm12.trans k13)
 obtain ⟨X14,e14⟩:=ZxR (n:=n) hn2 hB a2.length 0 X13 r1 r3 s1 s3 _ _ u1 g1 u1 g1 (by omega) (by omega) hT hE
 have e14 : Zi (c7 (QQ.l1 (R (n+13)))) [pt d1,pt b6,pt d3,pt b11,x2,iv a2.length,.int .i64 0] X13=_:=e14
 refine ⟨X14,f1 _ _ ?_⟩
 unfold QQ
 rw [Za e1]
 refine step.trans ?_
 rw [Zb,if_neg (by simp),Za e4,Za Zt,Za Zs,z5,Za e6,Za Zt,Za Zs,z7,Za (a7 _ (.refl _)),Za e8,Za (a7 _ l8),ZZ,Za t8,Za e9,Za t8',ZZ,Za (a7 _ l79),ZZ,Za t9,Za q9,Za e10,Za t9',ZZ,Za t8'',ZZ,Za (q10 _),Zb,if_neg (by simp),Za e11,Za e12,Za Zt,Za Zs,Za q12]
 rw [Z8,Zp,Za q13,Qb,Qf,Za Zn]
 simp only [cond_false]
 rw [Zb,if_neg (by simp),Za a12,z13,Za hB13.len,Z5 e14,ZG]
 rfl
theorem law_FolioApart : ∀ (xs : Ins [.slc nActT,.slc nActT]) (H : Zd) (vs : List Value),Zsm [.slc nActT,.slc nActT] xs→Zsx [.slc nActT,.slc nActT] xs H vs→∃ n H',R n Zaf vs H=some (.bool true,H'):=by
 intro xs H vs hwf hrd
 obtain ⟨l,y,_⟩:=xs
 obtain ⟨hl,hy,_⟩:=hwf
 obtain ⟨c1,_,rfl,hc1,h1,c2,_,rfl,hc2,h2,rfl⟩:=hrd
 obtain ⟨v,rfl⟩ : ∃ v,c1=[v]:=by
  match c1,hc1 with
  | [v],_=>exact ⟨v,rfl⟩
 obtain ⟨w,rfl⟩ : ∃ w,c2=[w]:=by
  match c2,hc2 with
  | [w],_=>exact ⟨w,rfl⟩
 obtain ⟨a1,hA,hn1⟩:=Zuf hl h1
 obtain ⟨a2,hB,hn2⟩:=Zuf hy h2
 obtain ⟨H',e⟩:=Zwd (n:=0) hA hB hn1 hn2
 exact ⟨14,H',e⟩
end
end Go.Proofs.YtedkoimihknggaaGreatDoor.A

