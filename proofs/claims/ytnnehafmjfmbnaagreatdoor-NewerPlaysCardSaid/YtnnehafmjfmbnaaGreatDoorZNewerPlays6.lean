/- What the law NewerPlays needs (part 6). -/
import Derived.Test.YtnnehafmjfmbnaaGreatDoorZNewerPlays5
namespace Go.Proofs.YtnnehafmjfmbnaaGreatDoor.A
set_option linter.unusedVariables false
set_option linter.unusedSimpArgs false
open Go.Proofs Go.Proofs.YtnnehafmjfmbnaaGreatDoor
abbrev nActT : Ty:=.struct (.pair (.int .u8) (.pair .str (.pair .str (.pair .bool .unit))))
structure ZbG where
 kd : Nat
 a : Tx
 b : Tx
 is : Bool
abbrev ZbG.cells (a : ZbG) : List Value:=[.int .u8 a.kd,strv a.a,strv a.b,.bool a.is]
abbrev zNA : Value:=.agg #[.int .u8 0,.string ⟨#[]⟩,.string ⟨#[]⟩,.bool false]
theorem ZtW {x : nActT.den} {H : Zc} {cs : List Value} (hw : nActT.wf x) (h : Rd nActT x H cs) : ∃ a : ZbG,cs=a.cells∧a.kd≤255:=by
 obtain ⟨k,s,t,b,u⟩:=x
 obtain ⟨h1,h2,h3,h4,h5⟩:=h
 obtain ⟨w1,_⟩:=hw
 have h1 : cs.take 1=[.int .u8 k]:=h1
 have h2 : (cs.drop 1).take 1=[.string s]:=h2
 have h3 : ((cs.drop 1).drop 1).take 1=[.string t]:=h3
 have h4 : (((cs.drop 1).drop 1).drop 1).take 1=[.bool b]:=h4
 have h5 : (((cs.drop 1).drop 1).drop 1).drop 1=[]:=h5
 match cs,h1,h2,h3,h4,h5 with
 | [c1,c2,c3,c4],h1,h2,h3,h4,_=>
  have w1:=ZvM w1
  have key : ∀ (q : IntKind) (z : Int),0≤z→[Value.int q z]=[Value.int q (z.toNat : Nat)]:=fun q z hz=>by rw [Int.toNat_of_nonneg hz]
  refine ⟨⟨Int.toNat k,ByteArray.data s |>.toList,ByteArray.data t |>.toList,b⟩,?_,?_⟩
  ·have e20 : c2=.string s:=by simpa using h2
   have e30 : c3=.string t:=by simpa using h3
   have e40 : c4=.bool b:=by simpa using h4
   have e1 : [c1]=[Value.int .u8 (Int.toNat k : Nat)]:=Eq.trans (by simpa using h1) (key .u8 k w1.1)
   have e1 : c1=Value.int .u8 (Int.toNat k : Nat):=by simpa using e1
   have e2 : c2=strv (ByteArray.data s).toList:=e20.trans (Zqo s)
   have e3 : c3=strv (ByteArray.data t).toList:=e30.trans (Zqo t)
   rw [e1,e2,e3,e40]
  ·have : ∀ z : Int,0≤z∧z≤255→z.toNat≤255:=fun z hz=>by omega
   exact this k w1
def ZbZ (H : Zc) (sl : Value) (ac : List ZbG) : Prop:=SlN 4 H sl (ac.map ZbG.cells)∧∀ a∈ac,a.kd≤255
theorem ZsM {x : (Ty.slc nActT).den} {H : Zc} {v : Value} (hwf : (Ty.slc nActT).wf x) (h : Rd (.slc nActT) x H [v]) : ∃ ac,ZbZ H v ac∧ac.length≤9223372036854775807:=by
 obtain ⟨rows,h1,h2,h3,h4⟩:=Zuq hwf h
 obtain ⟨ac,h5,h6⟩:=ZkT (f:=ZbG.cells) (Q:=fun _ a=>a.kd≤255) (rows:=rows) fun r hr=>by
  obtain ⟨y,hy,hr⟩:=h2 r hr
  exact ZtW hy hr
 subst h5
 exact ⟨ac,⟨h1,h6⟩,by simpa using h3⟩
section
variable {H H' X X' : Zc} {sl : Value} {ac : List ZbG} {n d c : Nat} {s : NSt} {r : NR} {m : Tx}
theorem ZbZ.len (h : ZbZ H sl ac) : Zz sl H'=some (iv ac.length,H'):=by
 have:=h.1.len (H':=H')
 rwa [List.length_map] at this
theorem ZbZ.mono (h : ZbZ H sl ac) (hl : HLe H H') : ZbZ H' sl ac:=⟨h.1.mono hl,h.2⟩
theorem ZbZ.fetch {β : Type} {k : Value→M β} (h : ZbZ H sl ac) {j : Nat} {a : ZbG} (hj : ac[j]?=some a) :
  bind (ixa 4 sl (iv j)) (fun p=>bind (ldA 4 p) fun v=>bind (alc 1 zNA) fun q=>bind (stA 4 q v) fun _=>k q) H=k (pt H.length) (H++[.cells a.cells 1 false false]):=by
 have hr : (ac.map ZbG.cells)[j]?=some a.cells:=by rw [List.getElem?_map,hj];rfl
 rw [h.1.fetch hr (by omega) .i64]
 exact Zaj (n:=4) (zs:=[.int .u8 0,.string ⟨#[]⟩,.string ⟨#[]⟩,.bool false]) (r:=a.cells) rfl rfl rfl rfl
def ZkE (a : ZbG) : Bool:=decide (a.a.length≤50) && decide (a.b.length≤50)
theorem Zqv {H0 : Zc} (h : ZbZ H0 sl ac) (hn : ac.length≤9223372036854775807) : ∀ (t j : Nat) {X : Zc},ac.length - j=t→j≤ac.length→HLe H0 X→
  ∃ X',Zh (c4 (KW.l1 (R n))) [sl,sl,iv ac.length,iv j] X=some (if (ac.drop j).all ZkE then .ext 0 [sl] else .ret (.bool false),X')∧HLe H0 X'
 | 0,j,X,ht,hj,hle=>by
  have : j=ac.length:=by omega
  subst this
  rw [List.drop_length]
  refine ⟨X,Z4 ?_,hle⟩
  rw [ZK]
  unfold KW.l1
  rw [Za Zq,Zb,if_neg (by simp)]
  rfl
 | t+1,j,X,ht,hj,hle=>by
  have hjn : j < ac.length:=by omega
  have hlt : (j : Int) < ac.length:=by omega
  have hja:=List.getElem?_eq_getElem hjn
  have hd:=List.drop_eq_getElem_cons hjn
  generalize ac[j]=a at hja hd
  have g1 : (X++[Zf.cells a.cells 1 false false])[X.length]?=some (.cells a.cells 1 false false):=ZF
  have l1 : ld1 (pa X.length 1) (X++[.cells a.cells 1 false false])=some (strv a.a,X++[.cells a.cells 1 false false]):=Zv g1 rfl
  have l2 : ld1 (pa X.length 2) (X++[.cells a.cells 1 false false])=some (strv a.b,X++[.cells a.cells 1 false false]):=Zv g1 rfl
  have hf:=fun {K : Value→M Out}=>(h.mono hle).fetch (k:=K) hja
  have k1:=hle.trans (HLe.app X [.cells a.cells 1 false false])
  generalize X++[Zf.cells a.cells 1 false false]=X1 at g1 l1 l2 k1 hf
  obtain ⟨X2,e2,k2⟩:=Zqv h hn t (j+1) (by omega) (by omega) k1
  rw [hd,List.all_cons]
  have hb : KW.l1 (R n) sl sl (iv ac.length) (iv j) X=some (if ZkE a then .nrm [sl,sl,iv ac.length,iv ((j+1 : Nat) : Int)] else .ret (.bool false),X1):=by
   unfold KW.l1
   rw [Za Zq,Zb,if_pos (by simpa using hlt),hf,Za Yl,Za l1,Za ZJ,Za QC]
   unfold ZkE
   by_cases h1 : a.a.length≤50
   ·have h1' : ¬ ((a.a.length : Int) > 50):=by omega
    rw [decide_eq_false h1',Z3,Zl,Za Yl,Zl,Za l2,Zl,Za ZJ,Zl,Za QC,Qi,ZK,Za Zo,decide_eq_true h1]
    simp only [cond_false]
    by_cases h2 : a.b.length≤50
    ·have h2' : ¬ ((a.b.length : Int) > 50):=by omega
     rw [decide_eq_false h2',Zb,if_neg (by simp),Za ZA,QH (by omega),decide_eq_true h2]
     rfl
    ·have h2' : ((a.b.length : Int) > 50):=by omega
     rw [decide_eq_true h2',Zb,if_pos rfl,decide_eq_false h2]
     rfl
   ·have h1' : ((a.a.length : Int) > 50):=by omega
    rw [decide_eq_true h1',Za (g_r.trans (if_neg (by simp)))]
    simp only [List.replicate]
    rw [ZK,Za Zo]
    simp only [cond_true]
    rw [Zb,if_pos rfl,decide_eq_false h1]
    rfl
  cases hfa : ZkE a
  ·rw [hfa] at hb
   exact ⟨X1,Yy hb,k1⟩
  ·rw [hfa] at hb
   exact ⟨X2,(ZI hb).trans e2,k2⟩
theorem Zvd (h : ZbZ H sl ac) (hn : ac.length≤9223372036854775807) : ∃ H',R (n+1) Wf [sl] H=some (.bool (ac.all ZkE && decide (ac.length≤60)),H')∧HLe H H':=by
 obtain ⟨H',e,k⟩:=Zqv (n:=n) h hn ac.length 0 (by omega) (by omega) (.refl _)
 rw [List.drop_zero] at e
 have e : Zh (c4 (KW.l1 (R n))) [sl,sl,iv ac.length,.int .i64 0] H=_:=e
 refine ⟨H',?_,k⟩
 rw [R,ZoW rfl]
 unfold KW
 rw [Za h.len]
 cases hf : ac.all ZkE
 ·rw [hf] at e
  rw [KF e];rfl
 ·rw [hf] at e
  rw [QW e,ZM,Kb,Za h.len,Za QU]
  simp [ret,decide_eq_decide]
  omega
theorem ZpU (h : ND X d r s c) : ∃ X',R (n+10) KU [pt d,strv m] X=some (.tuple #[strv (Zn3 m s.OW),iv (ZgK m s.OW)],X')∧HLe X X':=by
 obtain ⟨X1,e1,k1⟩:=Zt5 (n:=n) (m:=m) h.ix
 refine ⟨X1,?_,k1⟩
 rw [R,Zkp rfl]
 unfold ZdN
 rw [Za Zu,Za Zg,Za h.l1,Za e1,Za Zn,Za Zm]
 rfl
theorem Zpj : ∃ H',R (n+12) YD [] H=some (.bool true,H')∧HLe H H':=by
 obtain ⟨H1,d,r,e1,D1,l1,o1,o2⟩:=Zr8 (n:=n+9) (X:=H)
 have e1 : R (n+11) Kp [] H=_:=e1
 obtain ⟨H2,e2,D2,s2⟩:=Zio (n:=n+1) (k:=[97,110,110]) (h:=[49]) D1
 obtain ⟨H3,e3,D3,s3⟩:=ZgS (n:=n+1) (k:=[97,110,110]) (m:=[65,64,98,46,99]) D2
 obtain ⟨H4,e4,D4,s4⟩:=Znl (n:=n+1) (o:=[97,110,110]) (t:=[98,111,98]) D3
 obtain ⟨H5,e5,l5⟩:=ZpU (n:=n+1) (m:=[97,64,98,46,99]) D4
 have c1 : QE [97,110,110] [49] (⟨[],[],[],[],fun _ _=>false⟩ : NSt).A=0:=by decide
 have c2 : QD [97,110,110] [65,64,98,46,99] (Yg [97,110,110] [49] ⟨[],[],[],[],fun _ _=>false⟩)=0:=by decide
 have c3 : Ju [97,110,110] [98,111,98] (Qx [97,110,110] [65,64,98,46,99] (Yg [97,110,110] [49] ⟨[],[],[],[],fun _ _=>false⟩)).A=0:=by decide
 have c4 : ZgK [97,64,98,46,99] (YR [97,110,110] [98,111,98] (Qx [97,110,110] [65,64,98,46,99] (Yg [97,110,110] [49] ⟨[],[],[],[],fun _ _=>false⟩))).OW=0:=by decide
 have c5 : Zn3 [97,64,98,46,99] (YR [97,110,110] [98,111,98] (Qx [97,110,110] [65,64,98,46,99] (Yg [97,110,110] [49] ⟨[],[],[],[],fun _ _=>false⟩))).OW=[98,111,98]:=by decide
 rw [c1] at e2
 rw [c2] at e3
 rw [c3] at e4
 rw [c4,c5] at e5
 have e2 : R (n+11) Jl [pt d,.string ⟨#[97,110,110]⟩,.string ⟨#[49]⟩] H1=_:=e2
 have e3 : R (n+11) Jx [pt d,.string ⟨#[97,110,110]⟩,.string ⟨#[65,64,98,46,99]⟩] H2=_:=e3
 have e4 : R (n+11) YC [pt d,.string ⟨#[97,110,110]⟩,.string ⟨#[98,111,98]⟩] H3=_:=e4
 have e5 : R (n+11) KU [pt d,.string ⟨#[97,64,98,46,99]⟩] H4=_:=e5
 have q1 : bop .ptr .eql (pt d) (.pointer none) H1=some (.bool false,H1):=by rw [JJ]
 have z0 : ∀ X : Zc,bop .int .eql (iv 0) (.int .i64 0) X=some (.bool true,X):=fun X=>by rw [Zy];rfl
 have q2 : bop .str .eql (strv [98,111,98]) (.string ⟨#[98,111,98]⟩) H5=some (.bool true,H5):=Zc2 (b:=[98,111,98])
 have hf:=l1.more ((s2.trans s3).trans s4) o2
 refine ⟨H5,?_,hf.1.trans l5⟩
 rw [R,ZmL rfl]
 unfold ZeZ
 rw [Za e1,Za q1,Zb,if_neg (by simp),Za e2,Za e3,Za e4,Za e5,Za Zn,Za Zm,Za (z0 _),Z3,Zl,Za (z0 _),Qi,Qy,Za Zo]
 simp only [cond_true]
 rw [Z3,Zl,Za (z0 _),Qi,Qy,Za Zo]
 simp only [cond_true]
 rw [Z3,Zl,Za (z0 _),Qi,Qy,Za Zo]
 simp only [cond_true]
 rw [Z3,Zl,Za q2,Qi,Qy,Za Zo]
 rfl
end
end Go.Proofs.YtnnehafmjfmbnaaGreatDoor.A
namespace Go.Proofs.YtnnehafmjfmbnaaGreatDoor.A
set_option linter.unusedVariables false
set_option linter.unusedSimpArgs false
open Go.Proofs Go.Proofs.YtnnehafmjfmbnaaGreatDoor
def Ys (u : ZbG) (s : NSt) : NSt:=
 match u.kd % 11 with
 | 0=>Yg u.a u.b s
 | 1=>YG u.a s
 | 2=>Yj u.a u.b s
 | 3=>Qx u.a u.b s
 | 4=>J1 u.a u.is s
 | 5=>YR u.a u.b s
 | 6=>ZgC u.a s
 | 7=>ZdQ u.a s
 | 8=>WX u.a u.b s
 | 9=>KJ u.a u.b s
 | _=>s
section
variable {X X' Y Y1 Y2 Y3 H0 : Zc} {n d c c' b1 b2 b3 : Nat} {r r' : NR} {uv gv uv' gv' v : Value} {s s' : NSt} {u : ZbG} {e : Int}
theorem RD.setB {b : Nat} {c1 c2 d1 d2 : Value} (h : RD Y uv gv s) (hb : Y[b]?=some (.cells [c1,c2] 1 false false)) (i1 : KE c1) (i2 : KE c2) : RD (Y.set b (.cells [d1,d2] 1 false false)) uv gv s:=
 ⟨h.ex.imp fun us ⟨a,b⟩=>⟨a.setD hb i1 i2,b⟩,h.n.imp fun q ⟨N,a,b⟩=>⟨N,a.setD hb i1 i2,b⟩⟩
structure ZdH (X X' : Zc) (d : Nat) (r r' : NR) (s' : NSt) (uv' gv' : Value) (c : Nat) : Prop where
 nd : ND X' d r' s' (c+1)
 rd : RD X' uv' gv' s'
 st : ZG r.own X r'.own X'
structure DoB (X Y : Zc) (b1 b2 b3 : Nat) (u : ZbG) (uv gv : Value) : Prop where
 le : HLe X Y
 h1 : Y[b1]?=some (.cells [uv,gv] 1 false false)
 h2 : Y[b2]?=some (.cells u.cells 1 false false)
 h3 : Y[b3]?=some (.cells [.slice none 0 0,.slice none 0 0] 1 false false)
 b : X.length≤b1∧b1 < b2∧b2 < b3
theorem ZbS (hR : RD X uv gv s) : ∃ b1 b2 b3 Y,(∀ {β : Type} (K : Value→Value→Value→Value→M β),bind (alc 1 (.agg #[uv,gv])) (fun v4=>bind (alc 1 (.agg u.cells.toArray)) fun v5=>bind (alc 1 zD) fun v6=>bind (fa 0 v5) fun v11=>bind (ld1 v11) fun v12=>bind (bop .int .rem v12 (Value.int .u8 11)) fun v13=>K v4 v5 v6 v13) X=K (pt b1) (pt b2) (pt b3) (.int .u8 ((u.kd % 11 : Nat) : Int)) Y)∧DoB X Y b1 b2 b3 u uv gv:=by
 have z1 : alc 1 (.agg #[uv,gv]) X=some (pt X.length,X++[.cells [uv,gv] 1 false false]):=K4 (vs:=[uv,gv]) (by simp only [List.all_cons,hR.oneU,hR.oneG];rfl)
 have k1 : HLe X (X++[Zf.cells [uv,gv] 1 false false]):=.app _ _
 have c1 : (X++[Zf.cells [uv,gv] 1 false false])[X.length]?=some (.cells [uv,gv] 1 false false):=ZF
 generalize X++[Zf.cells [uv,gv] 1 false false]=X1 at z1 k1 c1
 have z2 : alc 1 (.agg u.cells.toArray) X1=some (pt X1.length,X1++[.cells u.cells 1 false false]):=K4 (vs:=u.cells) rfl
 have k2 : HLe X1 (X1++[Zf.cells u.cells 1 false false]):=.app _ _
 have c2 : (X1++[Zf.cells u.cells 1 false false])[X1.length]?=some (.cells u.cells 1 false false):=ZF
 generalize X1++[Zf.cells u.cells 1 false false]=X2 at z2 k2 c2
 have z3 : alc 1 zD X2=some (pt X2.length,X2++[.cells [.slice none 0 0,.slice none 0 0] 1 false false]):=K4 (vs:=[.slice none 0 0,.slice none 0 0]) rfl
 have k3 : HLe X2 (X2++[Zf.cells [.slice none 0 0,.slice none 0 0] 1 false false]):=.app _ _
 have c3 : (X2++[Zf.cells [.slice none 0 0,.slice none 0 0] 1 false false])[X2.length]?=some (.cells [.slice none 0 0,.slice none 0 0] 1 false false):=ZF
 generalize X2++[Zf.cells [.slice none 0 0,.slice none 0 0] 1 false false]=X3 at z3 k3 c3
 have a0 : ld1 (pa X1.length 0) X3=some (.int .u8 u.kd,X3):=Zv (k3 _ _ c2) rfl
 have hmod : (u.kd : Int).tmod 11=((u.kd % 11 : Nat) : Int):=by rw [Int.tmod_eq_emod_of_nonneg (by omega)];omega
 have x0 : bop .int .rem (.int .u8 u.kd) (.int .u8 11) X3=some (.int .u8 ((u.kd % 11 : Nat) : Int),X3):=by rw [JC,if_neg (by omega),hmod]
 refine ⟨X.length,X1.length,X2.length,X3,fun {β} K=>by rw [Za z1,Za z2,Za z3,Za Zg,Za a0,Za x0],(k1.trans k2).trans k3,k3 _ _ (k2 _ _ c1),k3 _ _ c2,c3,Nat.le_refl _,Jd c1,Jd c2⟩
theorem Zci (hd : ND X d r s c) (hR : RD X uv gv s) (hB : DoB X Y b1 b2 b3 u uv gv) (hl : HLe Y Y1) (rd : RD Y1 uv' gv' s') : ∃ Y2,stA 2 (pt b1) (.agg #[uv',gv']) Y1=some (undef,Y2)∧ND Y2 d r s c∧RD Y2 uv' gv' s'∧Y2[b1]?=some (.cells [uv',gv'] 1 false false)∧Y2[b2]?=some (.cells u.cells 1 false false)∧Y2[b3]?=some (.cells [.slice none 0 0,.slice none 0 0] 1 false false)∧HLe X Y2:=by
 obtain ⟨hb1,hb2,hb3⟩:=hB.b
 have g1:=hl _ _ hB.h1
 obtain ⟨iu,ig⟩:=hR.isSl
 have hal : ([uv',gv'].all oneCell)=true:=by simp only [List.all_cons,rd.oneU,rd.oneG];rfl
 have w1:=WS (vs:=[uv',gv']) (n:=2) g1 rfl rfl hal
 exact ⟨Y1.set b1 (.cells [uv',gv'] 1 false false),w1,⟨hd.toND0.box (hB.le.trans hl) hb1,hd.inv⟩,rd.setB g1 iu ig,ZR g1,(List.getElem?_set_ne (by omega)).trans (hl _ _ hB.h2),(List.getElem?_set_ne (by omega)).trans (hl _ _ hB.h3),(hB.le.trans hl).putB hb1⟩
theorem ZbL (hd : ND0 X d r s c) (hl : HLe X Y2) (rd : RD Y2 uv' gv' s') (c1 : Y2[b1]?=some (.cells [uv',gv'] 1 false false)) (c3 : Y2[b3]?=some (.cells [.slice none 0 0,.slice none 0 0] 1 false false)) (hb : X.length≤b1∧b1 < b2∧b2 < b3) (hd2 : ND0 Y2 d r s c) (hst : ZG r.own Y2 r'.own Y3) (hd3 : ND Y3 d r' s' (c+1)) :
  ∃ X',(c4 fun q160_0 q160_1 q160_2 q160_3=>
   bind (ldA 2 q160_0) fun v184x161=>
   bind (bop .int .eql q160_2 q160_3) fun v187x162=>
   bind (stA 2 q160_1 v184x161) fun _=>
   bind (ldA 2 q160_1) fun vrx163=>
   ret (Value.tuple #[vrx163,v187x162])) [pt b1,pt b3,iv e,iv e] Y3=some (.tuple #[.agg #[uv',gv'],.bool true],X')∧ZdH X X' d r r' s' uv' gv' c:=by
 have hc:=hd2.cle hst
 have c1':=hc _ _ _ _ _ c1
 have c3':=hc _ _ _ _ _ c3
 have rd3:=rd.cle hc
 have hal : ([uv',gv'].all oneCell)=true:=by simp only [List.all_cons,rd.oneU,rd.oneG];rfl
 have d1 : ldA 2 (pt b1) Y3=some (.agg #[uv',gv'],Y3):=ZZ (n:=2) c1' rfl
 have q : bop .int .eql (iv e) (iv e) Y3=some (.bool true,Y3):=by rw [Zy];simp
 have w1:=WS (vs:=[uv',gv']) (n:=2) c3' rfl rfl hal
 have w1 : stA 2 (pt b3) (.agg #[uv',gv']) Y3=_:=w1
 have d2 : ldA 2 (pt b3) (Y3.set b3 (.cells [uv',gv'] 1 false false))=some (.agg #[uv',gv'],_):=ZZ (n:=2) (ZR c3') rfl
 have hs : ZG r.own X r'.own Y3:=hl.stepq.trans hst
 refine ⟨Y3.set b3 (.cells [uv',gv'] 1 false false),by rw [ZK,Za d1,Za q,Za w1,Za d2];rfl,?_,rd3.setB c3' W3 W3,?_⟩
 ·refine hd3.step (o1:=[b3]) (o2:=[b3]) ⟨by simp,fun i hi hn=>List.getElem?_set_ne (fun e=>hn (by simp [e])),fun i hi=>.inl hi⟩ ?_ ?_ ?_ ?_
  ·rw [List.mem_singleton]
   intro e
   have:=hd.dlt
   omega
  ·rw [List.mem_singleton]
   intro e
   have h:=hd3.ix.c
   rw [e,c3'] at h
   cases h
  ·rw [List.mem_singleton]
   intro e
   have h:=hd3.gr.cell
   rw [e,c3'] at h
   cases h
  ·intro j hj hm
   rw [List.mem_singleton] at hm
   subst hm
   exact (hd3.isMap hj).2 _ _ _ _ c3'
 ·exact ⟨by rw [List.length_set];exact hs.len,fun j hj hn=>(List.getElem?_set_ne (by omega)).trans (hs.keep j hj hn),hs.own⟩
theorem ZL {a b f g : Value} {m : M Out} (h : m Y=some (.nrm [a,b,f,g],X')) : jn m (c4 fun q0 q1 q2 q3=>ret (.nrm [q0,q1,q2,q3])) noX ZO Y=some (.nrm [a,b,f,g],X'):=
 (ZY h).trans rfl
theorem ND.more (hd : ND X d r s c) (h : c≤c') : ND X d r s c':=⟨hd.toND0.more h,hd.inv⟩
theorem ZsK (hd : ND X d r s c) (hR : RD X uv gv s) (hk : u.kd % 11=0) : ∃ X' r' uv' gv',R (n+12) JG [pt d,.agg #[uv,gv],.agg u.cells.toArray] X=some (.tuple #[.agg #[uv',gv'],.bool true],X')∧ZdH X X' d r r' (Ys u s) uv' gv' c:=by
 obtain ⟨b1,b2,b3,Y,z,hB⟩:=ZbS (u:=u) hR
 obtain ⟨Y1,uv',e1,rd1,l1⟩:=Zp9 (n:=n+5) (k:=u.a) (h:=u.b) (hR.hle hB.le) hd.pinv
 have e1 : R (n+11) Zbe [.agg #[uv,gv],strv u.a,strv u.b] Y=_:=e1
 obtain ⟨Y2,w1,hd2,rd2,c1,c2,c3,l2⟩:=Zci hd hR hB l1 rd1
 obtain ⟨Y3,e2,hd3,st3⟩:=Zio (n:=n+1) (k:=u.a) (h:=u.b) hd2
 have e2 : R (n+11) Jl [pt d,strv u.a,strv u.b] Y2=_:=e2
 obtain ⟨X',e3,hA⟩:=ZbL (e:=QE u.a u.b s.A) hd.toND0 l2 rd2 c1 c3 hB.b hd2.toND0 st3 (hd3.more (by omega))
 have hn : Ys u s=Yg u.a u.b s:=by unfold Ys;rw [hk];first | done | rfl
 rw [hn]
 refine ⟨X',r,uv',gv,?_,hA⟩
 have dA : ldA 2 (pt b1) Y=some (.agg #[uv,gv],Y):=ZZ (n:=2) hB.h1 rfl
 have ya : ld1 (pa b2 1) Y=some (strv u.a,Y):=Zv hB.h2 rfl
 have xa : ld1 (pa b2 1) Y2=some (strv u.a,Y2):=Zv c2 rfl
 have yb : ld1 (pa b2 2) Y=some (strv u.b,Y):=Zv hB.h2 rfl
 have xb : ld1 (pa b2 2) Y2=some (strv u.b,Y2):=Zv c2 rfl
 have q : ∀ j : Int,bop .int .eql (.int .u8 ((0 : Nat) : Int)) (.int .u8 j) Y=some (.bool (decide (((0 : Nat) : Int)=j)),Y):=fun j=>by rw [Zy];rfl
 rw [R,YW rfl]
 unfold Kj
 refine (z _).trans ?_
 rw [hk,Za (q 0)]
 refine (ZY (vs:=[pt b1,pt b3,iv (QE u.a u.b s.A),iv (QE u.a u.b s.A)]) (H':=Y3) ?_).trans e3
 rw [Zb,if_pos (by decide),Za dA,Za Zg,Za ya,Za Zg,Za yb,Za e1,Za Zn,Za Zm,Za w1,Za Zg,Za xa,Za Zg,Za xb,Za e2]
 rfl
theorem ZrG (hd : ND X d r s c) (hR : RD X uv gv s) (hk : u.kd % 11=1) : ∃ X' r' uv' gv',R (n+12) JG [pt d,.agg #[uv,gv],.agg u.cells.toArray] X=some (.tuple #[.agg #[uv',gv'],.bool true],X')∧ZdH X X' d r r' (Ys u s) uv' gv' c:=by
 obtain ⟨b1,b2,b3,Y,z,hB⟩:=ZbS (u:=u) hR
 obtain ⟨Y1,uv',e1,rd1,l1⟩:=Zp2 (n:=n+5) (k:=u.a) (hR.hle hB.le) hd.pinv
 have e1 : R (n+11) Zbc [.agg #[uv,gv],strv u.a] Y=_:=e1
 obtain ⟨Y2,w1,hd2,rd2,c1,c2,c3,l2⟩:=Zci hd hR hB l1 rd1
 obtain ⟨Y3,e2,hd3,st3⟩:=ZmX (n:=n+1) (k:=u.a) hd2
 have e2 : R (n+11) J8 [pt d,strv u.a] Y2=_:=e2
 obtain ⟨X',e3,hA⟩:=ZbL (e:=Zk u.a s.A) hd.toND0 l2 rd2 c1 c3 hB.b hd2.toND0 st3 (hd3.more (by omega))
 have hn : Ys u s=YG u.a s:=by unfold Ys;rw [hk];first | done | rfl
 rw [hn]
 refine ⟨X',r,uv',gv,?_,hA⟩
 have dA : ldA 2 (pt b1) Y=some (.agg #[uv,gv],Y):=ZZ (n:=2) hB.h1 rfl
 have ya : ld1 (pa b2 1) Y=some (strv u.a,Y):=Zv hB.h2 rfl
 have xa : ld1 (pa b2 1) Y2=some (strv u.a,Y2):=Zv c2 rfl
 have q : ∀ j : Int,bop .int .eql (.int .u8 ((1 : Nat) : Int)) (.int .u8 j) Y=some (.bool (decide (((1 : Nat) : Int)=j)),Y):=fun j=>by rw [Zy];rfl
 rw [R,YW rfl]
 unfold Kj
 refine (z _).trans ?_
 rw [hk,Za (q 0)]
 refine (ZY (vs:=[pt b1,pt b3,iv (Zk u.a s.A),iv (Zk u.a s.A)]) (H':=Y3) ?_).trans e3
 rw [Zb,if_neg (by decide),Za (q 1)]
 refine ZL ?_
 rw [Zb,if_pos (by decide),Za dA,Za Zg,Za ya,Za e1,Za Zn,Za Zm,Za w1,Za Zg,Za xa,Za e2]
 rfl
theorem Zq6 (hd : ND X d r s c) (hR : RD X uv gv s) (hk : u.kd % 11=2) : ∃ X' r' uv' gv',R (n+12) JG [pt d,.agg #[uv,gv],.agg u.cells.toArray] X=some (.tuple #[.agg #[uv',gv'],.bool true],X')∧ZdH X X' d r r' (Ys u s) uv' gv' c:=by
 obtain ⟨b1,b2,b3,Y,z,hB⟩:=ZbS (u:=u) hR
 obtain ⟨Y1,uv',e1,rd1,l1⟩:=Zoq (n:=n+5) (k:=u.a) (h:=u.b) (hR.hle hB.le) hd.pinv
 have e1 : R (n+11) WA [.agg #[uv,gv],strv u.a,strv u.b] Y=_:=e1
 obtain ⟨Y2,w1,hd2,rd2,c1,c2,c3,l2⟩:=Zci hd hR hB l1 rd1
 obtain ⟨Y3,e2,hd3,st3⟩:=Zre (n:=n+1) (k:=u.a) (h:=u.b) hd2
 have e2 : R (n+11) Ku [pt d,strv u.a,strv u.b] Y2=_:=e2
 obtain ⟨X',e3,hA⟩:=ZbL (e:=Qp u.a u.b s.A) hd.toND0 l2 rd2 c1 c3 hB.b hd2.toND0 st3 (hd3.more (by omega))
 have hn : Ys u s=Yj u.a u.b s:=by unfold Ys;rw [hk];first | done | rfl
 rw [hn]
 refine ⟨X',r,uv',gv,?_,hA⟩
 have dA : ldA 2 (pt b1) Y=some (.agg #[uv,gv],Y):=ZZ (n:=2) hB.h1 rfl
 have ya : ld1 (pa b2 1) Y=some (strv u.a,Y):=Zv hB.h2 rfl
 have xa : ld1 (pa b2 1) Y2=some (strv u.a,Y2):=Zv c2 rfl
 have yb : ld1 (pa b2 2) Y=some (strv u.b,Y):=Zv hB.h2 rfl
 have xb : ld1 (pa b2 2) Y2=some (strv u.b,Y2):=Zv c2 rfl
 have q : ∀ j : Int,bop .int .eql (.int .u8 ((2 : Nat) : Int)) (.int .u8 j) Y=some (.bool (decide (((2 : Nat) : Int)=j)),Y):=fun j=>by rw [Zy];rfl
 rw [R,YW rfl]
 unfold Kj
 refine (z _).trans ?_
 rw [hk,Za (q 0)]
 refine (ZY (vs:=[pt b1,pt b3,iv (Qp u.a u.b s.A),iv (Qp u.a u.b s.A)]) (H':=Y3) ?_).trans e3
 rw [Zb,if_neg (by decide),Za (q 1)]
 refine ZL ?_
 rw [Zb,if_neg (by decide),Za (q 2)]
 refine ZL ?_
 rw [Zb,if_pos (by decide),Za dA,Za Zg,Za ya,Za Zg,Za yb,Za e1,Za Zn,Za Zm,Za w1,Za Zg,Za xa,Za Zg,Za xb,Za e2]
 rfl
theorem ZqJ (hd : ND X d r s c) (hR : RD X uv gv s) (hk : u.kd % 11=3) : ∃ X' r' uv' gv',R (n+12) JG [pt d,.agg #[uv,gv],.agg u.cells.toArray] X=some (.tuple #[.agg #[uv',gv'],.bool true],X')∧ZdH X X' d r r' (Ys u s) uv' gv' c:=by
 obtain ⟨b1,b2,b3,Y,z,hB⟩:=ZbS (u:=u) hR
 obtain ⟨Y1,uv',e1,rd1,l1⟩:=Zpx (n:=n+5) (k:=u.a) (m:=u.b) (hR.hle hB.le) hd.pinv
 have e1 : R (n+11) WC [.agg #[uv,gv],strv u.a,strv u.b] Y=_:=e1
 obtain ⟨Y2,w1,hd2,rd2,c1,c2,c3,l2⟩:=Zci hd hR hB l1 rd1
 obtain ⟨Y3,e2,hd3,st3⟩:=ZgS (n:=n+1) (k:=u.a) (m:=u.b) hd2
 have e2 : R (n+11) Jx [pt d,strv u.a,strv u.b] Y2=_:=e2
 obtain ⟨X',e3,hA⟩:=ZbL (e:=QD u.a u.b s) hd.toND0 l2 rd2 c1 c3 hB.b hd2.toND0 st3 (hd3.more (by omega))
 have hn : Ys u s=Qx u.a u.b s:=by unfold Ys;rw [hk];first | done | rfl
 rw [hn]
 refine ⟨X',r,uv',gv,?_,hA⟩
 have dA : ldA 2 (pt b1) Y=some (.agg #[uv,gv],Y):=ZZ (n:=2) hB.h1 rfl
 have ya : ld1 (pa b2 1) Y=some (strv u.a,Y):=Zv hB.h2 rfl
 have xa : ld1 (pa b2 1) Y2=some (strv u.a,Y2):=Zv c2 rfl
 have yb : ld1 (pa b2 2) Y=some (strv u.b,Y):=Zv hB.h2 rfl
 have xb : ld1 (pa b2 2) Y2=some (strv u.b,Y2):=Zv c2 rfl
 have q : ∀ j : Int,bop .int .eql (.int .u8 ((3 : Nat) : Int)) (.int .u8 j) Y=some (.bool (decide (((3 : Nat) : Int)=j)),Y):=fun j=>by rw [Zy];rfl
 rw [R,YW rfl]
 unfold Kj
 refine (z _).trans ?_
 rw [hk,Za (q 0)]
 refine (ZY (vs:=[pt b1,pt b3,iv (QD u.a u.b s),iv (QD u.a u.b s)]) (H':=Y3) ?_).trans e3
 rw [Zb,if_neg (by decide),Za (q 1)]
 refine ZL ?_
 rw [Zb,if_neg (by decide),Za (q 2)]
 refine ZL ?_
 rw [Zb,if_neg (by decide),Za (q 3)]
 refine ZL ?_
 rw [Zb,if_pos (by decide),Za dA,Za Zg,Za ya,Za Zg,Za yb,Za e1,Za Zn,Za Zm,Za w1,Za Zg,Za xa,Za Zg,Za xb,Za e2]
 rfl
theorem ZqN (hd : ND X d r s c) (hR : RD X uv gv s) (hk : u.kd % 11=4) : ∃ X' r' uv' gv',R (n+12) JG [pt d,.agg #[uv,gv],.agg u.cells.toArray] X=some (.tuple #[.agg #[uv',gv'],.bool true],X')∧ZdH X X' d r r' (Ys u s) uv' gv' c:=by
 obtain ⟨b1,b2,b3,Y,z,hB⟩:=ZbS (u:=u) hR
 obtain ⟨Y1,uv',e1,rd1,l1⟩:=Zof (n:=n+5) (k:=u.a) (b:=u.is) (hR.hle hB.le) hd.pinv
 have e1 : R (n+11) WG [.agg #[uv,gv],strv u.a,.bool u.is] Y=_:=e1
 obtain ⟨Y2,w1,hd2,rd2,c1,c2,c3,l2⟩:=Zci hd hR hB l1 rd1
 obtain ⟨Y3,e2,hd3,st3⟩:=ZqV (n:=n+1) (k:=u.a) (b:=u.is) hd2
 have e2 : R (n+11) Kx [pt d,strv u.a,.bool u.is] Y2=_:=e2
 obtain ⟨X',e3,hA⟩:=ZbL (e:=JL u.a u.is s.A) hd.toND0 l2 rd2 c1 c3 hB.b hd2.toND0 st3 (hd3.more (by omega))
 have hn : Ys u s=J1 u.a u.is s:=by unfold Ys;rw [hk];first | done | rfl
 rw [hn]
 refine ⟨X',r,uv',gv,?_,hA⟩
 have dA : ldA 2 (pt b1) Y=some (.agg #[uv,gv],Y):=ZZ (n:=2) hB.h1 rfl
 have ya : ld1 (pa b2 1) Y=some (strv u.a,Y):=Zv hB.h2 rfl
 have xa : ld1 (pa b2 1) Y2=some (strv u.a,Y2):=Zv c2 rfl
 have yis : ld1 (pa b2 3) Y=some (.bool u.is,Y):=Zv hB.h2 rfl
 have xis : ld1 (pa b2 3) Y2=some (.bool u.is,Y2):=Zv c2 rfl
 have q : ∀ j : Int,bop .int .eql (.int .u8 ((4 : Nat) : Int)) (.int .u8 j) Y=some (.bool (decide (((4 : Nat) : Int)=j)),Y):=fun j=>by rw [Zy];rfl
 rw [R,YW rfl]
 unfold Kj
 refine (z _).trans ?_
 rw [hk,Za (q 0)]
 refine (ZY (vs:=[pt b1,pt b3,iv (JL u.a u.is s.A),iv (JL u.a u.is s.A)]) (H':=Y3) ?_).trans e3
 rw [Zb,if_neg (by decide),Za (q 1)]
 refine ZL ?_
 rw [Zb,if_neg (by decide),Za (q 2)]
 refine ZL ?_
 rw [Zb,if_neg (by decide),Za (q 3)]
 refine ZL ?_
 rw [Zb,if_neg (by decide),Za (q 4)]
 refine ZL ?_
 rw [Zb,if_pos (by decide),Za dA,Za Zg,Za ya,Za Zg,Za yis,Za e1,Za Zn,Za Zm,Za w1,Za Zg,Za xa,Za Zg,Za xis,Za e2]
 rfl
theorem Zr4 (hd : ND X d r s c) (hR : RD X uv gv s) (hk : u.kd % 11=5) : ∃ X' r' uv' gv',R (n+12) JG [pt d,.agg #[uv,gv],.agg u.cells.toArray] X=some (.tuple #[.agg #[uv',gv'],.bool true],X')∧ZdH X X' d r r' (Ys u s) uv' gv' c:=by
 obtain ⟨b1,b2,b3,Y,z,hB⟩:=ZbS (u:=u) hR
 obtain ⟨Y1,uv',e1,rd1,l1⟩:=ZpN (n:=n+5) (o:=u.a) (t:=u.b) (hR.hle hB.le) hd.pinv
 have e1 : R (n+11) Zad [.agg #[uv,gv],strv u.a,strv u.b] Y=_:=e1
 obtain ⟨Y2,w1,hd2,rd2,c1,c2,c3,l2⟩:=Zci hd hR hB l1 rd1
 obtain ⟨Y3,e2,hd3,st3⟩:=Znl (n:=n+1) (o:=u.a) (t:=u.b) hd2
 have e2 : R (n+11) YC [pt d,strv u.a,strv u.b] Y2=_:=e2
 obtain ⟨X',e3,hA⟩:=ZbL (e:=Ju u.a u.b s.A) hd.toND0 l2 rd2 c1 c3 hB.b hd2.toND0 st3 (hd3.more (by omega))
 have hn : Ys u s=YR u.a u.b s:=by unfold Ys;rw [hk];first | done | rfl
 rw [hn]
 refine ⟨X',r,uv',gv,?_,hA⟩
 have dA : ldA 2 (pt b1) Y=some (.agg #[uv,gv],Y):=ZZ (n:=2) hB.h1 rfl
 have ya : ld1 (pa b2 1) Y=some (strv u.a,Y):=Zv hB.h2 rfl
 have xa : ld1 (pa b2 1) Y2=some (strv u.a,Y2):=Zv c2 rfl
 have yb : ld1 (pa b2 2) Y=some (strv u.b,Y):=Zv hB.h2 rfl
 have xb : ld1 (pa b2 2) Y2=some (strv u.b,Y2):=Zv c2 rfl
 have q : ∀ j : Int,bop .int .eql (.int .u8 ((5 : Nat) : Int)) (.int .u8 j) Y=some (.bool (decide (((5 : Nat) : Int)=j)),Y):=fun j=>by rw [Zy];rfl
 rw [R,YW rfl]
 unfold Kj
 refine (z _).trans ?_
 rw [hk,Za (q 0)]
 refine (ZY (vs:=[pt b1,pt b3,iv (Ju u.a u.b s.A),iv (Ju u.a u.b s.A)]) (H':=Y3) ?_).trans e3
 rw [Zb,if_neg (by decide),Za (q 1)]
 refine ZL ?_
 rw [Zb,if_neg (by decide),Za (q 2)]
 refine ZL ?_
 rw [Zb,if_neg (by decide),Za (q 3)]
 refine ZL ?_
 rw [Zb,if_neg (by decide),Za (q 4)]
 refine ZL ?_
 rw [Zb,if_neg (by decide),Za (q 5)]
 refine ZL ?_
 rw [Zb,if_pos (by decide),Za dA,Za Zg,Za ya,Za Zg,Za yb,Za e1,Za Zn,Za Zm,Za w1,Za Zg,Za xa,Za Zg,Za xb,Za e2]
 rfl
theorem ZuR (hd : ND X d r s c) (hR : RD X uv gv s) (hk : u.kd % 11=6) : ∃ X' r' uv' gv',R (n+12) JG [pt d,.agg #[uv,gv],.agg u.cells.toArray] X=some (.tuple #[.agg #[uv',gv'],.bool true],X')∧ZdH X X' d r r' (Ys u s) uv' gv' c:=by
 obtain ⟨b1,b2,b3,Y,z,hB⟩:=ZbS (u:=u) hR
 obtain ⟨Y1,gv',e1,rd1,l1⟩:=Zse (n:=n+5) (g:=u.a) (hR.hle hB.le) hd.pinv
 have e1 : R (n+11) WP [.agg #[uv,gv],strv u.a] Y=_:=e1
 obtain ⟨Y2,w1,hd2,rd2,c1,c2,c3,l2⟩:=Zci hd hR hB l1 rd1
 obtain ⟨Y3,r',e2,hd3,st3⟩:=ZuS (n:=n+1) (g:=u.a) hd2
 have e2 : R (n+11) KG [pt d,strv u.a] Y2=_:=e2
 obtain ⟨X',e3,hA⟩:=ZbL (e:=QO u.a s.K) hd.toND0 l2 rd2 c1 c3 hB.b hd2.toND0 st3 (hd3.more (by omega))
 have hn : Ys u s=ZgC u.a s:=by unfold Ys;rw [hk];first | done | rfl
 rw [hn]
 refine ⟨X',r',uv,gv',?_,hA⟩
 have dA : ldA 2 (pt b1) Y=some (.agg #[uv,gv],Y):=ZZ (n:=2) hB.h1 rfl
 have ya : ld1 (pa b2 1) Y=some (strv u.a,Y):=Zv hB.h2 rfl
 have xa : ld1 (pa b2 1) Y2=some (strv u.a,Y2):=Zv c2 rfl
 have q : ∀ j : Int,bop .int .eql (.int .u8 ((6 : Nat) : Int)) (.int .u8 j) Y=some (.bool (decide (((6 : Nat) : Int)=j)),Y):=fun j=>by rw [Zy];rfl
 rw [R,YW rfl]
 unfold Kj
 refine (z _).trans ?_
 rw [hk,Za (q 0)]
 refine (ZY (vs:=[pt b1,pt b3,iv (QO u.a s.K),iv (QO u.a s.K)]) (H':=Y3) ?_).trans e3
 rw [Zb,if_neg (by decide),Za (q 1)]
 refine ZL ?_
 rw [Zb,if_neg (by decide),Za (q 2)]
 refine ZL ?_
 rw [Zb,if_neg (by decide),Za (q 3)]
 refine ZL ?_
 rw [Zb,if_neg (by decide),Za (q 4)]
 refine ZL ?_
 rw [Zb,if_neg (by decide),Za (q 5)]
 refine ZL ?_
 rw [Zb,if_neg (by decide),Za (q 6)]
 refine ZL ?_
 rw [Zb,if_pos (by decide),Za dA,Za Zg,Za ya,Za e1,Za Zn,Za Zm,Za w1,Za Zg,Za xa,Za e2]
 rfl
theorem ZuC (hd : ND X d r s c) (hR : RD X uv gv s) (hk : u.kd % 11=7) : ∃ X' r' uv' gv',R (n+12) JG [pt d,.agg #[uv,gv],.agg u.cells.toArray] X=some (.tuple #[.agg #[uv',gv'],.bool true],X')∧ZdH X X' d r r' (Ys u s) uv' gv' c:=by
 obtain ⟨b1,b2,b3,Y,z,hB⟩:=ZbS (u:=u) hR
 obtain ⟨Y1,uv',gv',e1,rd1,l1⟩:=Zso (n:=n+5) (g:=u.a) (hR.hle hB.le) hd.pinv
 have e1 : R (n+11) KR [.agg #[uv,gv],strv u.a] Y=_:=e1
 obtain ⟨Y2,w1,hd2,rd2,c1,c2,c3,l2⟩:=Zci hd hR hB l1 rd1
 obtain ⟨Y3,r',e2,hd3,st3⟩:=Zqf (n:=n+1) (g:=u.a) hd2
 have e2 : R (n+11) Yk [pt d,strv u.a] Y2=_:=e2
 obtain ⟨X',e3,hA⟩:=ZbL (e:=QI u.a s.K) hd.toND0 l2 rd2 c1 c3 hB.b hd2.toND0 st3 (hd3.more (by omega))
 have hn : Ys u s=ZdQ u.a s:=by unfold Ys;rw [hk];first | done | rfl
 rw [hn]
 refine ⟨X',r',uv',gv',?_,hA⟩
 have dA : ldA 2 (pt b1) Y=some (.agg #[uv,gv],Y):=ZZ (n:=2) hB.h1 rfl
 have ya : ld1 (pa b2 1) Y=some (strv u.a,Y):=Zv hB.h2 rfl
 have xa : ld1 (pa b2 1) Y2=some (strv u.a,Y2):=Zv c2 rfl
 have q : ∀ j : Int,bop .int .eql (.int .u8 ((7 : Nat) : Int)) (.int .u8 j) Y=some (.bool (decide (((7 : Nat) : Int)=j)),Y):=fun j=>by rw [Zy];rfl
 rw [R,YW rfl]
 unfold Kj
 refine (z _).trans ?_
 rw [hk,Za (q 0)]
 refine (ZY (vs:=[pt b1,pt b3,iv (QI u.a s.K),iv (QI u.a s.K)]) (H':=Y3) ?_).trans e3
 rw [Zb,if_neg (by decide),Za (q 1)]
 refine ZL ?_
 rw [Zb,if_neg (by decide),Za (q 2)]
 refine ZL ?_
 rw [Zb,if_neg (by decide),Za (q 3)]
 refine ZL ?_
 rw [Zb,if_neg (by decide),Za (q 4)]
 refine ZL ?_
 rw [Zb,if_neg (by decide),Za (q 5)]
 refine ZL ?_
 rw [Zb,if_neg (by decide),Za (q 6)]
 refine ZL ?_
 rw [Zb,if_neg (by decide),Za (q 7)]
 refine ZL ?_
 rw [Zb,if_pos (by decide),Za dA,Za Zg,Za ya,Za e1,Za Zn,Za Zm,Za w1,Za Zg,Za xa,Za e2]
 rfl
theorem Zug (hd : ND X d r s c) (hR : RD X uv gv s) (hk : u.kd % 11=8) : ∃ X' r' uv' gv',R (n+12) JG [pt d,.agg #[uv,gv],.agg u.cells.toArray] X=some (.tuple #[.agg #[uv',gv'],.bool true],X')∧ZdH X X' d r r' (Ys u s) uv' gv' c:=by
 obtain ⟨b1,b2,b3,Y,z,hB⟩:=ZbS (u:=u) hR
 obtain ⟨Y1,uv',e1,rd1,l1⟩:=Zsu (n:=n+5) (g:=u.a) (k:=u.b) (hR.hle hB.le) hd.pinv
 have e1 : R (n+11) Zbk [.agg #[uv,gv],strv u.a,strv u.b] Y=_:=e1
 obtain ⟨Y2,w1,hd2,rd2,c1,c2,c3,l2⟩:=Zci hd hR hB l1 rd1
 obtain ⟨Y3,e2,hd3,st3⟩:=Zuj (n:=n) (g:=u.a) (k:=u.b) hd2
 have e2 : R (n+11) WD [pt d,strv u.a,strv u.b] Y2=_:=e2
 obtain ⟨X',e3,hA⟩:=ZbL (e:=Kr u.a u.b s) hd.toND0 l2 rd2 c1 c3 hB.b hd2.toND0 st3 (hd3.more (by omega))
 have hn : Ys u s=WX u.a u.b s:=by unfold Ys;rw [hk];first | done | rfl
 rw [hn]
 refine ⟨X',r,uv',gv,?_,hA⟩
 have dA : ldA 2 (pt b1) Y=some (.agg #[uv,gv],Y):=ZZ (n:=2) hB.h1 rfl
 have ya : ld1 (pa b2 1) Y=some (strv u.a,Y):=Zv hB.h2 rfl
 have xa : ld1 (pa b2 1) Y2=some (strv u.a,Y2):=Zv c2 rfl
 have yb : ld1 (pa b2 2) Y=some (strv u.b,Y):=Zv hB.h2 rfl
 have xb : ld1 (pa b2 2) Y2=some (strv u.b,Y2):=Zv c2 rfl
 have q : ∀ j : Int,bop .int .eql (.int .u8 ((8 : Nat) : Int)) (.int .u8 j) Y=some (.bool (decide (((8 : Nat) : Int)=j)),Y):=fun j=>by rw [Zy];rfl
 rw [R,YW rfl]
 unfold Kj
 refine (z _).trans ?_
 rw [hk,Za (q 0)]
 refine (ZY (vs:=[pt b1,pt b3,iv (Kr u.a u.b s),iv (Kr u.a u.b s)]) (H':=Y3) ?_).trans e3
 rw [Zb,if_neg (by decide),Za (q 1)]
 refine ZL ?_
 rw [Zb,if_neg (by decide),Za (q 2)]
 refine ZL ?_
 rw [Zb,if_neg (by decide),Za (q 3)]
 refine ZL ?_
 rw [Zb,if_neg (by decide),Za (q 4)]
 refine ZL ?_
 rw [Zb,if_neg (by decide),Za (q 5)]
 refine ZL ?_
 rw [Zb,if_neg (by decide),Za (q 6)]
 refine ZL ?_
 rw [Zb,if_neg (by decide),Za (q 7)]
 refine ZL ?_
 rw [Zb,if_neg (by decide),Za (q 8)]
 refine ZL ?_
 rw [Zb,if_pos (by decide),Za dA,Za Zg,Za ya,Za Zg,Za yb,Za e1,Za Zn,Za Zm,Za w1,Za Zg,Za xa,Za Zg,Za xb,Za e2]
 rfl
theorem Ztq (hd : ND X d r s c) (hR : RD X uv gv s) (hk : u.kd % 11=9) : ∃ X' r' uv' gv',R (n+12) JG [pt d,.agg #[uv,gv],.agg u.cells.toArray] X=some (.tuple #[.agg #[uv',gv'],.bool true],X')∧ZdH X X' d r r' (Ys u s) uv' gv' c:=by
 obtain ⟨b1,b2,b3,Y,z,hB⟩:=ZbS (u:=u) hR
 obtain ⟨Y1,uv',e1,rd1,l1⟩:=Zru (n:=n+5) (g:=u.a) (k:=u.b) (hR.hle hB.le) hd.pinv
 have e1 : R (n+11) ZaW [.agg #[uv,gv],strv u.a,strv u.b] Y=_:=e1
 obtain ⟨Y2,w1,hd2,rd2,c1,c2,c3,l2⟩:=Zci hd hR hB l1 rd1
 obtain ⟨Y3,e2,hd3,st3⟩:=ZtC (n:=n) (g:=u.a) (k:=u.b) hd2
 have e2 : R (n+11) K2 [pt d,strv u.a,strv u.b] Y2=_:=e2
 obtain ⟨X',e3,hA⟩:=ZbL (e:=YT u.a u.b s) hd.toND0 l2 rd2 c1 c3 hB.b hd2.toND0 st3 (hd3.more (by omega))
 have hn : Ys u s=KJ u.a u.b s:=by unfold Ys;rw [hk];first | done | rfl
 rw [hn]
 refine ⟨X',r,uv',gv,?_,hA⟩
 have dA : ldA 2 (pt b1) Y=some (.agg #[uv,gv],Y):=ZZ (n:=2) hB.h1 rfl
 have ya : ld1 (pa b2 1) Y=some (strv u.a,Y):=Zv hB.h2 rfl
 have xa : ld1 (pa b2 1) Y2=some (strv u.a,Y2):=Zv c2 rfl
 have yb : ld1 (pa b2 2) Y=some (strv u.b,Y):=Zv hB.h2 rfl
 have xb : ld1 (pa b2 2) Y2=some (strv u.b,Y2):=Zv c2 rfl
 have q : ∀ j : Int,bop .int .eql (.int .u8 ((9 : Nat) : Int)) (.int .u8 j) Y=some (.bool (decide (((9 : Nat) : Int)=j)),Y):=fun j=>by rw [Zy];rfl
 rw [R,YW rfl]
 unfold Kj
 refine (z _).trans ?_
 rw [hk,Za (q 0)]
 refine (ZY (vs:=[pt b1,pt b3,iv (YT u.a u.b s),iv (YT u.a u.b s)]) (H':=Y3) ?_).trans e3
 rw [Zb,if_neg (by decide),Za (q 1)]
 refine ZL ?_
 rw [Zb,if_neg (by decide),Za (q 2)]
 refine ZL ?_
 rw [Zb,if_neg (by decide),Za (q 3)]
 refine ZL ?_
 rw [Zb,if_neg (by decide),Za (q 4)]
 refine ZL ?_
 rw [Zb,if_neg (by decide),Za (q 5)]
 refine ZL ?_
 rw [Zb,if_neg (by decide),Za (q 6)]
 refine ZL ?_
 rw [Zb,if_neg (by decide),Za (q 7)]
 refine ZL ?_
 rw [Zb,if_neg (by decide),Za (q 8)]
 refine ZL ?_
 rw [Zb,if_neg (by decide),Za (q 9)]
 refine ZL ?_
 rw [Zb,if_pos (by decide),Za dA,Za Zg,Za ya,Za Zg,Za yb,Za e1,Za Zn,Za Zm,Za w1,Za Zg,Za xa,Za Zg,Za xb,Za e2]
 rfl
end
end Go.Proofs.YtnnehafmjfmbnaaGreatDoor.A
namespace Go.Proofs.YtnnehafmjfmbnaaGreatDoor.A
set_option linter.unusedVariables false
set_option linter.unusedSimpArgs false
open Go.Proofs Go.Proofs.YtnnehafmjfmbnaaGreatDoor
section
variable {X X' Y Y1 Y2 Y3 H H0 : Zc} {n d c c' b1 b2 b3 w : Nat} {r r' : NR} {uv gv uv' gv' v sl : Value} {s s' : NSt} {u : ZbG} {e : Int} {ac : List ZbG}
theorem Zpm {a c : Value} {l : List (List UInt8)} (hu : l.length≤1000) (ha : Sl X a (l.map strv)) (hc : Sl X c (l.map strv)) : ∀ (t j : Nat),l.length - j=t→j≤l.length→
  Zh (c4 (J7.l1 (R n))) [a,c,iv l.length,iv j] X=some (.ext 0 [],X)
 | 0,j,ht,hj=>by
  have : j=l.length:=by omega
  subst this
  refine Z4 ?_
  rw [ZK]
  unfold J7.l1
  rw [Za Zq,Zb,if_neg (by simp)]
  rfl
 | t+1,j,ht,hj=>by
  have hjl : j < l.length:=by omega
  have hlt : (j : Int) < l.length:=by omega
  have hg:=List.getElem?_eq_getElem hjl
  generalize l[j]=x at hg
  have x1:=ha.ix (i:=j) (by simpa using hjl) .i64 X
  have x2:=ha.ldx (KI hg)
  have x3:=hc.ix (i:=j) (by simpa using hjl) .i64 X
  have x4:=hc.ldx (KI hg)
  have q0 : bop .str .neq (strv x) (strv x) X=some (.bool false,X):=by rw [WZ];simp
  refine (ZI ?_).trans (Zpm hu ha hc t (j+1) (by omega) (by omega))
  rw [ZK]
  unfold J7.l1
  rw [Za Zq,Zb,if_pos (by simpa using hlt),Za x1,Za x2,Za x3,Za x4,Za q0,Zb,if_neg (by simp),Za ZA,QH (by omega)]
  rfl
theorem ZpW {a c : Value} {l : List (List UInt8)} (hu : l.length≤1000) (ha : Sl X a (l.map strv)) (hc : Sl X c (l.map strv)) : R (n+1) Y8 [a,c] X=some (.bool true,X):=by
 have e:=Zpm (n:=n) hu ha hc l.length 0 (by omega) (by omega)
 have e : Zh (c4 (J7.l1 (R n))) [a,c,iv l.length,.int .i64 0] X=_:=e
 have h1:=ha.len (H':=X)
 have h2:=hc.len (H':=X)
 rw [List.length_map] at h1 h2
 rw [R,ZiV rfl]
 unfold J7
 rw [Za h1,Za h2,Za Zt,Zb,if_neg (by simp),Za h1,QW e,ZM]
 rfl
theorem ZtZ (hd : ND X d r s c) (hR : RD X uv gv s) (hk : u.kd % 11=10) : ∃ X' r' uv' gv',R (n+12) JG [pt d,.agg #[uv,gv],.agg u.cells.toArray] X=some (.tuple #[.agg #[uv',gv'],.bool true],X')∧ZdH X X' d r r' (Ys u s) uv' gv' c:=by
 obtain ⟨b1,b2,b3,Y,z,hB⟩:=ZbS (u:=u) hR
 have hdY:=hd.hle hB.le
 obtain ⟨Y1,d',r',e1,D1,l1,p1,p2⟩:=Zuw (n:=n+7) hdY
 have e1 : R (n+11) ZaS [pt d] Y=_:=e1
 obtain ⟨Y2,e2,D2,s2⟩:=Zio (n:=n+1) (k:=u.a) (h:=[49]) D1
 have e2 : R (n+11) Jl [pt d',strv u.a,.string ⟨#[49]⟩] Y1=_:=e2
 obtain ⟨Y3,e3,D3,s3⟩:=ZmX (n:=n+1) (k:=[97,110,110]) D2
 have e3 : R (n+11) J8 [pt d',.string ⟨#[97,110,110]⟩] Y2=_:=e3
 obtain ⟨Y4,r'',e4,D4,s4⟩:=Zqf (n:=n+1) (g:=[100,101,118]) D3
 have e4 : R (n+11) Yk [pt d',.string ⟨#[100,101,118]⟩] Y3=_:=e4
 obtain ⟨Y5,e5,D5,s5⟩:=ZgS (n:=n+1) (k:=[98,111,98]) (m:=[113,64,113,46,113]) D4
 have e5 : R (n+11) Jx [pt d',.string ⟨#[98,111,98]⟩,.string ⟨#[113,64,113,46,113]⟩] Y4=_:=e5
 have hl5:=(l1.more (((s2.trans s3).trans s4).trans s5) p2).1
 have hX5:=hB.le.trans hl5
 obtain ⟨X',e6,hA⟩:=ZbL (e:=0) hd.toND0 hX5 (hR.hle hX5) (hl5 _ _ hB.h1) (hl5 _ _ hB.h3) hB.b (hd.hle hX5).toND0 (HLe.refl Y5).stepq ((hd.hle hX5).more (by omega))
 have hn : Ys u s=s:=by unfold Ys;rw [hk];first | done | rfl
 rw [hn]
 refine ⟨X',r,uv,gv,?_,hA⟩
 have ya : ld1 (pa b2 1) Y1=some (strv u.a,Y1):=Zv (l1 _ _ hB.h2) rfl
 have q : ∀ j : Int,bop .int .eql (.int .u8 ((10 : Nat) : Int)) (.int .u8 j) Y=some (.bool (decide (((10 : Nat) : Int)=j)),Y):=fun j=>by rw [Zy];rfl
 rw [R,YW rfl]
 unfold Kj
 refine (z _).trans ?_
 rw [hk,Za (q 0)]
 refine (ZY (vs:=[pt b1,pt b3,iv 0,iv 0]) (H':=Y5) ?_).trans e6
 rw [Zb,if_neg (by decide),Za (q 1)]
 refine ZL ?_
 rw [Zb,if_neg (by decide),Za (q 2)]
 refine ZL ?_
 rw [Zb,if_neg (by decide),Za (q 3)]
 refine ZL ?_
 rw [Zb,if_neg (by decide),Za (q 4)]
 refine ZL ?_
 rw [Zb,if_neg (by decide),Za (q 5)]
 refine ZL ?_
 rw [Zb,if_neg (by decide),Za (q 6)]
 refine ZL ?_
 rw [Zb,if_neg (by decide),Za (q 7)]
 refine ZL ?_
 rw [Zb,if_neg (by decide),Za (q 8)]
 refine ZL ?_
 rw [Zb,if_neg (by decide),Za (q 9)]
 refine ZL ?_
 rw [Zb,if_neg (by decide),Za e1,Za Zg,Za ya,Za e2,Za e3,Za e4,Za e5]
 rfl
theorem ZvW (hd : ND X d r s c) (hR : RD X uv gv s) : ∃ X' r' uv' gv',R (n+12) JG [pt d,.agg #[uv,gv],.agg u.cells.toArray] X=some (.tuple #[.agg #[uv',gv'],.bool true],X')∧ZdH X X' d r r' (Ys u s) uv' gv' c:=by
 have h11 : u.kd % 11 < 11:=Nat.mod_lt _ (by decide)
 rcases (by omega : u.kd % 11=0∨u.kd % 11=1∨u.kd % 11=2∨u.kd % 11=3∨u.kd % 11=4∨u.kd % 11=5∨u.kd % 11=6∨u.kd % 11=7∨u.kd % 11=8∨u.kd % 11=9∨u.kd % 11=10) with h | h | h | h | h | h | h | h | h | h | h
 ·exact ZsK hd hR h
 ·exact ZrG hd hR h
 ·exact Zq6 hd hR h
 ·exact ZqJ hd hR h
 ·exact ZqN hd hR h
 ·exact Zr4 hd hR h
 ·exact ZuR hd hR h
 ·exact ZuC hd hR h
 ·exact Zug hd hR h
 ·exact Ztq hd hR h
 ·exact ZtZ hd hR h
theorem ZuP (hd : ND X d r s c) (hR : RD X uv gv s) : ∃ X',R (n+9) Zbn [pt d,.agg #[uv,gv]] X=some (.bool true,X')∧HLe X X':=by
 have z1 : alc 1 (.agg #[uv,gv]) X=some (pt X.length,X++[.cells [uv,gv] 1 false false]):=K4 (vs:=[uv,gv]) (by simp only [List.all_cons,hR.oneU,hR.oneG];rfl)
 have k1 : HLe X (X++[Zf.cells [uv,gv] 1 false false]):=.app _ _
 have c1 : (X++[Zf.cells [uv,gv] 1 false false])[X.length]?=some (.cells [uv,gv] 1 false false):=ZF
 generalize X++[Zf.cells [uv,gv] 1 false false]=X1 at z1 k1 c1
 obtain ⟨us,U,O⟩:=hR.ex
 obtain ⟨q,N,hN,iN⟩:=hR.n
 have U1:=U.mono k1
 have hd1:=hd.hle k1
 have a0 : ∀ Y,HLe X1 Y→ld1 (pa X.length 0) Y=some (uv,Y):=fun Y hl=>Zv (hl _ _ c1) rfl
 have a1 : ∀ Y,HLe X1 Y→ld1 (pa X.length 1) Y=some (gv,Y):=fun Y hl=>Zv (hl _ _ c1) rfl
 have hlen : Zz uv X1=some (iv us.length,X1):=by have:=U1.1.len (H':=X1);rwa [List.length_map] at this
 have e1 : R (n+8) Zbg [pt d] X1=some (iv s.A.length,X1):=ZvF (n:=n+7) hd1
 have hl:=O.len hd.m.nod
 have hfew:=hd.inv.few
 have q1 : bop .int .eql (iv s.A.length) (iv us.length) X1=some (.bool true,X1):=by rw [Zy,hl];simp
 obtain ⟨v,q2,us2,X2,e2,o2,k2,l2⟩:=Zu7 (n:=n) hd1
 have hu2 : us2.length≤1000000:=by
  have h1 : us2.map Qd=us.map Qd:=k2.trans (O.all hd.m.nod).symm
  have h2:=congrArg List.length h1
  rw [List.length_map,List.length_map] at h2
  omega
 obtain ⟨X3,e3,l3⟩:=ZrE (n:=n+6) hu2 (by omega) o2.us (U1.mono l2)
 rw [decide_eq_true (k2.trans (O.all hd.m.nod).symm)] at e3
 have e3 : R (n+8) Yx [v,uv] X2=_:=e3
 have k13:=l2.trans l3
 obtain ⟨v4,q4,X4,e4,r4,l4,o4⟩:=ZrZ (n:=n+4) (hd1.hle k13)
 have e4 : R (n+8) WL [pt d] X3=_:=e4
 have hasc:=hd.gr.keysAsc
 rw [hd.ks] at hasc
 have hNk : N=Ye s.K:=iN.uniq ⟨hasc,fun x=>ZbU⟩ fun _=>Iff.rfl
 have hN4:=(hN.step ((k1.trans k13).trans l4).step (by simp)).rd
 rw [hNk] at hN4
 have hk6 : (Ye s.K).length≤1000:=by rw [Zfy];have:=hd.toND0.kn.few;omega
 have e5 : R (n+8) Y8 [v4,gv] X4=_:=ZpW (n:=n+7) hk6 r4.rd hN4
 refine ⟨X4,?_,(k1.trans k13).trans l4⟩
 rw [R,Znw rfl]
 unfold ZfO
 rw [Za z1,Za Zg,Za (a0 _ (.refl _)),Za hlen,Za e1,Za (a0 _ (.refl _)),Yz,Za q1,W4,Qi,W4,Za Zg,W4,Za (a0 _ (.refl _)),W4,Za e2,W4,Za (a0 _ l2),Yz,W4,Za e3,Za Zo]
 simp only [cond_true]
 rw [W4,Qi,W4,Za Zg,W4,Za (a1 _ k13),W4,Za e4,W4,Za (a1 _ (k13.trans l4)),Yz,W4,Za e5,Za Zo]
 rfl
theorem ND.setBox (hd : ND X d r s c) {ob : Zf} (hw : X[w]?=some (.cells [uv,gv] 1 false false)) (iu : KE uv) (ig : KE gv) : ND (X.set w ob) d r s c:=by
 obtain ⟨a1,n1,c1,rfl⟩:=iu
 obtain ⟨a2,n2,c2,rfl⟩:=ig
 refine hd.step (o1:=[w]) (o2:=[w]) ⟨by simp,fun i hi hn=>List.getElem?_set_ne (fun e=>hn (by simp [e])),fun i hi=>.inl hi⟩ ?_ ?_ ?_ ?_
 ·rw [List.mem_singleton]
  intro e
  have h:=hd.cell
  rw [e,hw] at h
  cases h
 ·rw [List.mem_singleton]
  intro e
  have h:=hd.ix.c
  rw [e,hw] at h
  cases h
 ·rw [List.mem_singleton]
  intro e
  have h:=hd.gr.cell
  rw [e,hw] at h
  cases h
 ·intro j hj hm
  rw [List.mem_singleton] at hm
  subst hm
  exact (hd.isMap hj).2 _ _ _ _ hw
structure NL (H X : Zc) (d : Nat) (r : NR) (s : NSt) (uv gv : Value) (w c : Nat) : Prop where
 le : HLe H X
 nd : ND X d r s c
 rd : RD X uv gv s
 own : ∀ i∈r.own,H.length≤i
 w : X[w]?=some (.cells [uv,gv] 1 false false)
theorem NL.hle (h : NL H X d r s uv gv w c) (hl : HLe X X') : NL H X' d r s uv gv w c:=⟨h.le.trans hl,h.nd.hle hl,h.rd.hle hl,h.own,hl _ _ h.w⟩
theorem Zvf (hA : ZbZ H sl ac) (hw0 : H.length≤w) {j : Nat} (hja : ac[j]?=some u) (h : NL H X d r s uv gv w c) :
  ∃ X' r' uv' gv',(∀ {β : Type} (K : Value→M β),bind (ixa 4 sl (iv j)) (fun p=>bind (ldA 4 p) fun v=>bind (alc 1 zNA) fun q=>bind (stA 4 q v) fun _=>bind (ldA 2 (pt w)) fun v25=>bind (ldA 4 q) fun v26=>bind (R (n+12) JG [pt d,v25,v26]) fun v27=>bind (Zj v27 0) fun v28=>bind (Zj v27 1) fun v29=>bind (stA 2 (pt w) v28) fun _=>K v29) X=K (.bool true) X')∧NL H X' d r' (Ys u s) uv' gv' w (c+1):=by
 have g1 : (X++[Zf.cells u.cells 1 false false])[X.length]?=some (.cells u.cells 1 false false):=ZF
 have hf:=fun {β : Type} {K : Value→M β}=>(hA.mono h.le).fetch (k:=K) hja
 have k1 : HLe X (X++[Zf.cells u.cells 1 false false]):=.app _ _
 generalize X++[Zf.cells u.cells 1 false false]=X1 at g1 k1 hf
 have h1:=h.hle k1
 have d1 : ldA 2 (pt w) X1=some (.agg #[uv,gv],X1):=ZZ h1.w rfl
 have d2 : ldA 4 (pt X.length) X1=some (.agg u.cells.toArray,X1):=ZZ g1 rfl
 obtain ⟨X2,r',uv',gv',e2,hF⟩:=ZvW (n:=n) (u:=u) h1.nd h1.rd
 have hc:=h1.nd.toND0.cle hF.st
 have hw2:=hc _ _ _ _ _ h1.w
 obtain ⟨hm1,hm2⟩:=h1.le.more hF.st h1.own
 obtain ⟨iu,ig⟩:=h1.rd.isSl
 have hal : ([uv',gv'].all oneCell)=true:=by simp only [List.all_cons,hF.rd.oneU,hF.rd.oneG];rfl
 have w1 : stA 2 (pt w) (.agg #[uv',gv']) X2=some (undef,X2.set w (.cells [uv',gv'] 1 false false)):=WS (vs:=[uv',gv']) hw2 rfl rfl hal
 refine ⟨X2.set w (.cells [uv',gv'] 1 false false),r',uv',gv',fun {β} K=>?_,⟨hm1.setN hw0,hF.nd.setBox hw2 iu ig,hF.rd.setB hw2 iu ig,hm2,ZR hw2⟩⟩
 refine hf.trans ?_
 rw [Za d1,Za d2,Za e2,Za Zn,Za Zm,Za w1]
end
end Go.Proofs.YtnnehafmjfmbnaaGreatDoor.A

namespace Go.Proofs.YtnnehafmjfmbnaaGreatDoor.A
set_option linter.unusedVariables false
set_option linter.unusedSimpArgs false
open Go.Proofs Go.Proofs.YtnnehafmjfmbnaaGreatDoor
section
variable {X X' H H0 : Zc} {n d c w : Nat} {r : NR} {uv gv sl : Value} {s : NSt} {u : ZbG} {ac : List ZbG}
theorem ZtJ (hA : ZbZ H sl ac) (hn : ac.length≤9223372036854775807) (hw0 : H.length≤w) : ∀ (t j : Nat) (r : NR) (s : NSt) (uv gv : Value) (X : Zc),ac.length - j=t→j≤ac.length→NL H X d r s uv gv w j→
  ∃ X',Zh (c5 (Q4.l1 (R (n+12)))) [pt d,pt w,sl,iv ac.length,iv j] X=some (.ext 0 [],X')
 | 0,j,r,s,uv,gv,X,ht,hj,h=>by
  refine ⟨X,Z4 ?_⟩
  rw [Qz,show j=ac.length by omega]
  unfold Q4.l1
  rw [Za Zq,Zb,if_neg (by simp)]
  rfl
 | t+1,j,r,s,uv,gv,X,ht,hj,h=>by
  have hkl : j < ac.length:=by omega
  have hlt : (j : Int) < ac.length:=by omega
  have hja:=List.getElem?_eq_getElem hkl
  generalize ac[j]=u at hja
  obtain ⟨X2,r2,uv2,gv2,z,h2⟩:=Zvf (n:=n) hA hw0 hja h
  have d2 : ldA 2 (pt w) X2=some (.agg #[uv2,gv2],X2):=ZZ h2.w rfl
  obtain ⟨X3,e3,l3⟩:=ZuP (n:=n+3) h2.nd h2.rd
  have e3 : R (n+12) Zbn [pt d,.agg #[uv2,gv2]] X2=_:=e3
  obtain ⟨X4,e4⟩:=ZtJ hA hn hw0 t (j+1) r2 (Ys u s) uv2 gv2 X3 (by omega) (by omega) (h2.hle l3)
  refine ⟨X4,(ZI ?_).trans e4⟩
  rw [Qz]
  unfold Q4.l1
  rw [Za Zq,Zb,if_pos (by simpa using hlt)]
  refine (z _).trans ?_
  rw [Za Zx]
  simp only [Bool.not_true]
  rw [Z3,Zl,Za d2,Zl,Za e3,Zl,Za Zx,Qi,ZK,Za Zo]
  simp only [cond_false,Bool.not_true]
  rw [Zb,if_neg (by simp),Za ZA,QH (by omega)]
  rfl
theorem Zvw (K : Value→Value→A.M Value) : ∃ X' d r w,bind (R (n+12) Kp []) (fun v=>bind (alc 1 zD) fun b=>K v b) X=K (pt d) (pt w) X'∧NL X X' d r ⟨[],[],[],[],fun _ _=>false⟩ (.slice none 0 0) (.slice none 0 0) w 0∧X.length≤w:=by
 obtain ⟨X1,d,r,e1,D1,l1,o1,o2⟩:=Zr8 (n:=n+10) (X:=X)
 have e1 : R (n+12) Kp [] X=_:=e1
 have z3 : alc 1 zD X1=some (pt X1.length,X1++[.cells [.slice none 0 0,.slice none 0 0] 1 false false]):=K4 (vs:=[.slice none 0 0,.slice none 0 0]) rfl
 have k3 : HLe X1 (X1++[Zf.cells [.slice none 0 0,.slice none 0 0] 1 false false]):=.app _ _
 have c3 : (X1++[Zf.cells [.slice none 0 0,.slice none 0 0] 1 false false])[X1.length]?=some (.cells [.slice none 0 0,.slice none 0 0] 1 false false):=ZF
 refine ⟨_,d,r,X1.length,?_,⟨l1.trans k3,D1.hle k3,⟨⟨[],⟨SlN.nil,by simp⟩,⟨List.Pairwise.nil,fun key=>?_⟩⟩,⟨[],[],ZB.nil,⟨List.Pairwise.nil,by simp⟩⟩⟩,o2,c3⟩,l1.len⟩
 ·rw [Za e1,Za z3]
 ·unfold ZP
  simp [Ze]
theorem Zp6 (hA : ZbZ H sl ac) (hn : ac.length≤9223372036854775807) : ∃ H',R (n+13) We [sl] H=some (.bool true,H'):=by
 have f1 : ∀ r X',Q4 (R (n+12)) sl H=some (r,X')→R (n+13) We [sl] H=some (r,X'):=fun r X' hr=>by rw [R,ZhI rfl];exact hr
 obtain ⟨H1,e1,l1⟩:=Zpj (n:=n) (H:=H)
 obtain ⟨H2,e2,l2⟩:=Zvd (n:=n+11) (hA.mono l1) hn
 have e2 : R (n+12) Wf [sl] H1=_:=e2
 obtain ⟨H2',e2',l2'⟩:=Zpj (n:=n) (H:=H2)
 generalize hq : (ac.all ZkE && decide (ac.length≤60))=fw at e2
 have step : ∀ {k : Value→A.M Value},bind (uop .not (.bool true)) (fun v17x2=>
   bind (ZC v17x2 false 3 (bind (R (n+12) Wf [sl]) fun v20x3=>bind (uop .not v20x3) fun v21x4=>ret [sl,v20x3,v21x4])) (c3 fun _ _ q5_2=>
   bind (pick v17x2 (Value.bool true) q5_2) k)) H1=k (.bool (!fw)) H2:=fun {k}=>by
  rw [Za Zx]
  simp only [Bool.not_true]
  rw [Z3,Zl,Za e2,Zl,Za Zx,Qi,Z7,Za Zo]
  rfl
 cases fw
 ·refine ⟨H2',f1 _ _ ?_⟩
  unfold Q4
  rw [Za e1]
  refine step.trans ?_
  rw [Zb,if_pos (by rfl),Za e2']
  rfl
 ·obtain ⟨X',d,r,w,z,hL,hw⟩:=Zvw (n:=n) (X:=H2) (fun v b=>bind (Zz sl) fun l=>jn (Zh (c5 (Q4.l1 (R (n+12)))) [v,b,sl,l,(Value.int .i64 0)]) noN (xk 0 (c0 (ret (Value.bool true))) noX) ret)
  have hA2:=hA.mono (l1.trans l2)
  obtain ⟨X5,e5⟩:=ZtJ (n:=n) hA2 hn hw ac.length 0 r _ _ _ X' (by omega) (by omega) hL
  rw [show iv ((0 : Nat) : Int)=.int .i64 0 from rfl] at e5
  refine ⟨X5,f1 _ _ ?_⟩
  unfold Q4
  rw [Za e1]
  refine step.trans ?_
  rw [Zb,if_neg (by simp)]
  refine z.trans ?_
  rw [Za hA2.len,QW e5,ZM]
  rfl
theorem law_NewerPlays : ∀ (xs : Ins [.slc nActT]) (H : Zc) (vs : List Value),Zn1 [.slc nActT] xs→ZnV [.slc nActT] xs H vs→∃ n H',R n We vs H=some (.bool true,H'):=by
 intro xs H vs hwf hrd
 obtain ⟨l,_⟩:=xs
 obtain ⟨hl,_⟩:=hwf
 obtain ⟨c1,_,rfl,hc1,h1,rfl⟩:=hrd
 obtain ⟨a,rfl⟩ : ∃ a,c1=[a]:=by
  match c1,hc1 with
  | [a],_=>exact ⟨a,rfl⟩
 obtain ⟨ac,hA,hn⟩:=ZsM hl h1
 obtain ⟨H',e⟩:=Zp6 (n:=0) hA hn
 exact ⟨13,H',e⟩
end
end Go.Proofs.YtnnehafmjfmbnaaGreatDoor.A

