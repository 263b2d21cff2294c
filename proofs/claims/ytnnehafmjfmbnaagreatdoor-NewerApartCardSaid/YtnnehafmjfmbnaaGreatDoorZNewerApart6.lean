/- What the law NewerApart needs (part 6). -/
import Derived.Test.YtnnehafmjfmbnaaGreatDoorZNewerApart5
namespace Go.Proofs.YtnnehafmjfmbnaaGreatDoor.A
set_option linter.unusedVariables false
set_option linter.unusedSimpArgs false
open Go.Proofs Go.Proofs.YtnnehafmjfmbnaaGreatDoor
section
variable {X X' H H0 : Zc} {n d c w : Nat} {r : NR} {uv gv sl : Value} {s : NSt} {u : K0} {ac : List K0} {x1 x2 x3 x4 : Tx}
theorem Zon {u : Zo} (hu : UOK X u) : ∃ v X',bsl 5 1 zU [(0,5,.agg u.cells.toArray)] X=some (v,X')∧Qg X' v [u]∧HLe X X':=by
 have x4:=Zk5 (es:=5) (z:=zU) (H:=X) rfl (show u.cells.length=5 from rfl) (Kg hu.2.1)
 have l1 : HLe X (X++[Zf.cells u.cells 5 false false]):=.app _ _
 have s1 : SlN 5 (X++[Zf.cells u.cells 5 false false]) (.slice (some ⟨X.length,0,none⟩) 1 1) [u.cells]:=SlN.whole (rows:=[u.cells]) (c:=1) (e:=5) (g:=false) (ro:=false) (by rw [ZD];simp) (by simp)
 refine ⟨_,_,x4,⟨s1,fun v hv=>?_⟩,l1⟩
 rw [List.mem_singleton] at hv
 subst hv
 exact hu.hle l1
theorem Zi5 {β : Type} {q : Bool} {m : M (List Value)} {u v : Value} {k : Value→M β} (hm : m X=some ([u,v,.bool q],X')) : bind (Zx (.bool true) true 3 m) (c3 fun _ _ t=>bind (pick (.bool true) t (.bool false)) k) X=k (.bool q) X':=by
 rw [ZQ,Za hm,Z4,Za Zj];rfl
end
end Go.Proofs.YtnnehafmjfmbnaaGreatDoor.A

namespace Go.Proofs.YtnnehafmjfmbnaaGreatDoor.A
set_option linter.unusedVariables false
set_option linter.unusedSimpArgs false
open Go.Proofs Go.Proofs.YtnnehafmjfmbnaaGreatDoor
def Zde (a : K0) : Tx:=if 8≤a.kd % 11 then a.b else a.a
section
variable {X X' Y H H0 : Zc} {n d c w : Nat} {r : NR} {uv gv sl : Value} {s : NSt} {u a : K0} {ac : List K0} {k m o t g : Tx}
theorem ZpQ (hi : Jp s) {h : Tx} {x : Tx} (hx : x≠k) : Zz (JY k h s) x=Zz s x:=by
 by_cases he : Qp k h s.A=0
 ·rw [Zg6 hi he,if_neg hx]
 ·unfold JY;rw [if_neg he]
theorem ZpS {x : Tx} (hx : x≠k) : Zz (QS k s) x=Zz s x:=by
 by_cases he : Zl k s.A=0
 ·rw [Zkz he,if_neg hx]
 ·unfold QS;rw [if_neg he]
theorem Zpr {h x : Tx} (hx : x≠k) : Zz (J8 k h s) x=Zz s x:=by
 by_cases he : Qq k h s.A=0
 ·rw [Zhf he,if_neg hx]
 ·unfold J8;rw [if_neg he]
theorem Zpg {x : Tx} (hx : x≠k) : Zz (Qr k m s) x=Zz s x:=by
 by_cases he : QC k m s=0
 ·rw [ZgF he,if_neg hx]
 ·unfold Qr;rw [if_neg he]
theorem ZoW {b : Bool} {x : Tx} (hx : x≠k) : Zz (JJ k b s) x=Zz s x:=by
 by_cases he : JI k b s.A=0
 ·rw [ZhW he,if_neg hx]
 ·unfold JJ;rw [if_neg he]
theorem ZpJ (hi : Jp s) {x : Tx} (hx : x≠o) (hs : (Ze x s.A).isSome=true) : Zz (Ys o t s) x=Zz s x:=by
 by_cases he : Ji o t s.A=0
 ·obtain ⟨_,_,_,h4,_⟩:=ZdX he
  rw [Zg3 hi he,if_neg (fun e=>by rw [e,h4] at hs;cases hs),if_neg hx]
 ·unfold Ys;rw [if_neg he]
theorem ZoU {mem' : Mem} {x : Tx} (h : ∀ g,mem' g x=s.mem g x) : Zz { s with mem:=mem' } x=Zz s x:=by
 unfold Zz
 show (Ze x s.A).map _=_
 cases Ze x s.A with
 | none=>rfl
 | some p=>
  show some (Qn _ x p)=some (Qn s x p)
  unfold Qn
  show some (x,p.1,(Ze x s.OF).getD [],p.2,ofL x s.K mem')=_
  have : ofL x s.K mem'=ofL x s.K s.mem:=by
   unfold ofL
   exact List.filter_congr fun g _=>h g
  rw [this]
theorem ZrU {x : Tx} (hx : x≠k) : Zz (K4 g k s) x=Zz s x:=by
 unfold K4
 split
 ·refine ZoU fun g'=>?_
  unfold ZbE
  simp [hx]
 ·rfl
theorem ZqW {x : Tx} (hx : x≠k) : Zz (Kh g k s) x=Zz s x:=by
 unfold Kh
 split
 ·refine ZoU fun g'=>?_
  unfold ZbI
  simp [hx]
 ·rfl
theorem Zs8 (hi : Jp s) (h6 : a.kd % 11≠6) (h7 : a.kd % 11≠7) {x : Tx} (hx : x≠Zde a) (hs : (Ze x s.A).isSome=true) : Zz (JB a s) x=Zz s x:=by
 have h11 : a.kd % 11 < 11:=Nat.mod_lt _ (by decide)
 have wl : a.kd % 11 < 8→Zde a=a.a:=fun h=>by unfold Zde;rw [if_neg (by omega)]
 have wg : 8≤a.kd % 11→Zde a=a.b:=fun h=>by unfold Zde;rw [if_pos h]
 rcases (by omega : a.kd % 11=0∨a.kd % 11=1∨a.kd % 11=2∨a.kd % 11=3∨a.kd % 11=4∨a.kd % 11=5∨a.kd % 11=8∨a.kd % 11=9∨a.kd % 11=10) with h | h | h | h | h | h | h | h | h
 ·rw [wl (by omega)] at hx
  unfold JB;rw [h];exact ZpQ hi hx
 ·rw [wl (by omega)] at hx
  unfold JB;rw [h];exact ZpS hx
 ·rw [wl (by omega)] at hx
  unfold JB;rw [h];exact Zpr hx
 ·rw [wl (by omega)] at hx
  unfold JB;rw [h];exact Zpg hx
 ·rw [wl (by omega)] at hx
  unfold JB;rw [h];exact ZoW hx
 ·rw [wl (by omega)] at hx
  unfold JB;rw [h];exact ZpJ hi hx hs
 ·rw [wg (by omega)] at hx
  unfold JB;rw [h];exact ZrU hx
 ·rw [wg (by omega)] at hx
  unfold JB;rw [h];exact ZqW hx
 ·unfold JB;rw [h];first | done | rfl
theorem Zsh (hi : Jp s) {x : Tx} {key : ZfN} (h : Zz s x=some key) : Zl x s.A=0∧Qn s x (ZU x s.A)=key:=by
 unfold Zz at h
 cases ha : Ze x s.A with
 | none=>rw [ha] at h;cases h
 | some p=>
  rw [ha] at h
  have hn:=(hi.nm _ (K9 ha)).1
  refine ⟨?_,?_⟩
  ·unfold Zl
   rw [show Zr x=true from hn,ha];rfl
  ·unfold ZU
   rw [ha]
   exact Option.some.inj h
theorem ZrH (hx : Inv s.OW s.OF) (hi : Jp s) (he : Zl k s.A=0) (hm : (Ze k s.OF).getD []≠[]) : Zcn ((Ze k s.OF).getD []) (QS k s).OW=8∧Zgw ((Ze k s.OF).getD []) (QS k s).OW=[]:=by
 cases ho : Ze k s.OF with
 | none=>rw [ho] at hm;exact absurd rfl hm
 | some v=>
  obtain ⟨h1,h2⟩:=hi.good k v ho
  have h3 : Ze (Qa v) (QS k s).OW=none:=by
   unfold QS
   rw [if_pos he]
   show Ze (Qa v) (Wo k s.OW s.OF)=none
   unfold Wo
   rw [ho,h2]
   exact KC
  show Zcn v _=8∧Zgw v _=[]
  unfold Zcn Zgw
  rw [h1,h3]
  exact ⟨rfl,rfl⟩
theorem Zrh (hP : W6 s) (he : Zl k s.A=0) : Qp k [49] (QS k s).A=0∧Zz (JY k [49] (QS k s)) k=some (k,[49],[],false,[]):=by
 obtain ⟨h1,p,h2⟩:=ZeS he
 have h3 : (QS k s).A=JR k s.A:=by unfold QS;rw [if_pos he]
 have hl:=Zg9 (k:=k) (m:=s.A) hP.n (by rw [h2];rfl)
 have hf:=hP.i.few
 have hpos : 0 < s.A.length:=by
  cases hA : s.A with
  | nil=>rw [hA] at h2;simp [Ze] at h2
  | cons a b=>simp
 have h0 : Qp k [49] (QS k s).A=0:=by
  unfold Qp
  rw [h1,h3,KC,show ZaH [49]=true from by decide,hl]
  simp
  omega
 exact ⟨h0,by rw [Zg6 (hP.i.delete k) h0,if_pos rfl]⟩
theorem Zsc {z1 : Value} (hA : Zbv H sl ac) (hn : ac.length≤9223372036854775807) (hw0 : H.length≤w) : ∀ (t j : Nat) (r : NR) (s : NSt) (uv gv : Value) (X : Zc),ac.length - j=t→j≤ac.length→NL H X d r s uv gv w j→
  ∃ X' r' s' uv' gv',Zh (c6 (ZS.l1 (R (n+12)))) [z1,pt d,pt w,sl,iv ac.length,iv j] X=some (.ext 0 [z1,pt d,pt w],X')∧NL H X' d r' s' uv' gv' w ac.length
 | 0,j,r,s,uv,gv,X,ht,hj,h=>by
  have hj : j=ac.length:=by omega
  subst hj
  refine ⟨X,r,s,uv,gv,Z8 ?_,h⟩
  rw [Jr]
  unfold ZS.l1
  rw [Za Zq,Zb,if_neg (by simp)]
  rfl
 | t+1,j,r,s,uv,gv,X,ht,hj,h=>by
  have hkl : j < ac.length:=by omega
  have hlt : (j : Int) < ac.length:=by omega
  have hja:=List.getElem?_eq_getElem hkl
  generalize ac[j]=u at hja
  obtain ⟨X2,r2,uv2,gv2,z,h2⟩:=Zvz (n:=n) hA hw0 hja h
  obtain ⟨X4,r4,s4,uv4,gv4,e4,h4⟩:=Zsc (z1:=z1) hA hn hw0 t (j+1) r2 (JB u s) uv2 gv2 X2 (by omega) (by omega) h2
  refine ⟨X4,r4,s4,uv4,gv4,(ZI ?_).trans e4,h4⟩
  rw [Jr]
  unfold ZS.l1
  rw [Za Zq,Zb,if_pos (by simpa using hlt)]
  refine (z _).trans ?_
  rw [Za ZC,QG (by omega)]
  rfl
theorem Zob {wv : Value} {us : List Zo} {who : Tx} {X0 : Zc} (hu : us.length≤1000) (hA : Qg X0 wv us) (hd : ND X0 d r s c) (hall : ∀ v∈us,v.nm≠who→Zz s v.nm=some (Z5 v)) : ∀ (t j : Nat) (X : Zc),us.length - j=t→j≤us.length→HLe X0 X→
  ∃ X',Zh (c5 (ZS.l2 (R (n+12)))) [pt d,strv who,wv,iv us.length,iv j] X=some (.ext 2 [pt d,strv who],X')∧HLe X0 X'
 | 0,j,X,ht,hj,hle=>by
  refine ⟨X,Z8 ?_,hle⟩
  rw [Qv,show j=us.length by omega]
  unfold ZS.l2
  rw [Za Zq,Zb,if_neg (by simp)]
  rfl
 | t+1,j,X,ht,hj,hle=>by
  have hjl : j < us.length:=by omega
  have hlt : (j : Int) < us.length:=by omega
  have hg:=List.getElem?_eq_getElem hjl
  generalize us[j]=v at hg
  have hvm:=List.mem_of_getElem? hg
  have okv:=(hA.mono hle).ok hvm
  have hf:=fun {K : Value→M Out}=>ZeQ (k:=K) (hA.mono hle).1 okv.2.1 hg
  have g1 : (X++[Zf.cells v.cells 1 false false])[X.length]?=some (.cells v.cells 1 false false):=ZD
  have l0 : ld1 (pa X.length 0) (X++[.cells v.cells 1 false false])=some (strv v.nm,X++[.cells v.cells 1 false false]):=Zu g1 rfl
  have k1 : HLe X (X++[Zf.cells v.cells 1 false false]):=.app _ _
  generalize X++[Zf.cells v.cells 1 false false]=X1 at g1 l0 k1 hf
  generalize X.length=p1 at g1 l0 hf
  have q1 : bop .str .eql (strv v.nm) (strv who) X1=some (.bool (v.nm==who),X1):=ZbW
  by_cases hw : v.nm=who
  ·obtain ⟨X2,e2,k2⟩:=Zob hu hA hd hall t (j+1) X1 (by omega) (by omega) (hle.trans k1)
   refine ⟨X2,(ZI ?_).trans e2,k2⟩
   rw [Qv]
   unfold ZS.l2
   rw [Za Zq,Zb,if_pos (by simpa using hlt)]
   refine (ZV (vs:=[pt d,strv who,wv,iv us.length,iv j]) (H':=X1) ?_).trans ?_
   ·rw [hf,Za Zg,Za l0,Za q1,Zb,if_pos (by simpa using hw)];rfl
   ·rw [Qv,Za ZC,QG (by omega)];rfl
  ·have hF:=hall v hvm hw
   have hd1:=hd.hle (hle.trans k1)
   obtain ⟨he,hk⟩:=Zsh hd.inv hF
   obtain ⟨y,qy,X2,e2,r2,o2,k2,y2,hky⟩:=ZfE (n:=n+5) (k:=v.nm) hd1
   have e2 : R (n+12) QA [pt d,strv v.nm] X1=_:=e2
   rw [if_pos he] at hky
   rw [he] at e2
   have z3 : ∀ K : Value→M Out,bind (alc 1 zU) (fun q=>bind (stA 5 q (.agg y.cells.toArray)) fun _=>K q) X2=K (pt X2.length) (X2++[.cells y.cells 1 false false]):=fun K=>K3 (n:=5) (zs:=[.string ⟨#[]⟩,.string ⟨#[]⟩,.string ⟨#[]⟩,.bool false,.slice none 0 0]) (r:=y.cells) rfl rfl rfl (Kg r2.one.1)
   have k3 : HLe X2 (X2++[Zf.cells y.cells 1 false false]):=.app _ _
   have b3 : (X2++[Zf.cells y.cells 1 false false])[X2.length]?=some (.cells y.cells 1 false false):=ZD
   have oky : UOK X2 y:=⟨r2.rd,r2.one.1,by omega⟩
   generalize X2++[Zf.cells y.cells 1 false false]=X3 at z3 k3 b3
   generalize X2.length=p3 at z3 b3
   have k13:=k2.trans k3
   have q2 : bop .int .neq (iv 0) (.int .i64 0) X3=some (.bool false,X3):=by rw [Zt];rfl
   have d1 : ldA 5 (pt p1) X3=some (.agg v.cells.toArray,X3):=ZY (n:=5) (k13 _ _ g1) rfl
   obtain ⟨v4,X4,e4,U4,k4⟩:=Zon (okv.hle (k1.trans k13))
   have d4 : ldA 5 (pt p3) X4=some (.agg y.cells.toArray,X4):=ZY (n:=5) (k4 _ _ b3) rfl
   obtain ⟨v5,X5,e5,U5,k5⟩:=Zon (oky.hle (k3.trans k4))
   obtain ⟨X6,e6,k6⟩:=Zr2 (n:=n+10) (us:=[v]) (ws:=[y]) (by simp) (by simp) (U4.mono k5) U5
   have hkk : [v].map Z5=[y].map Z5:=by
    rw [List.map_singleton,List.map_singleton,hky,← hk]
    rfl
   rw [decide_eq_true hkk] at e6
   have e6 : R (n+12) Ka [v4,v5] X5=_:=e6
   obtain ⟨X7,e7,k7⟩:=Zob hu hA hd hall t (j+1) X6 (by omega) (by omega) (((((hle.trans k1).trans k13).trans k4).trans k5).trans k6)
   refine ⟨X7,(ZI ?_).trans e7,k7⟩
   rw [Qv]
   unfold ZS.l2
   rw [Za Zq,Zb,if_pos (by simpa using hlt)]
   refine (ZV (vs:=[pt d,strv who,wv,iv us.length,iv j]) (H':=X6) ?_).trans ?_
   ·rw [hf,Za Zg,Za l0,Za q1,Zb,if_neg (by simpa using hw),Za Zg,Za l0,Za e2,Za Zn,Za Zm,z3,Za q2,ZQ,Zi,Za d1,Zi,Za e4,Zi,Za d4,Zi,Za e5,Zi,Za e6,Zi,Za Zy,Z9,Jr,Za Zj]
    simp only [cond_false,Bool.not_true]
    rw [Zb,if_neg (by simp)]
    rfl
   ·rw [Qv,Za ZC,QG (by omega)];rfl
end
end Go.Proofs.YtnnehafmjfmbnaaGreatDoor.A
namespace Go.Proofs.YtnnehafmjfmbnaaGreatDoor.A
set_option linter.unusedVariables false
set_option linter.unusedSimpArgs false
open Go.Proofs Go.Proofs.YtnnehafmjfmbnaaGreatDoor
noncomputable def Zk3 (Γ : Zd) (d who : Value) : M Value:=
 bind (Γ QA [d,who]) fun v105x79=>
 bind (Zk v105x79 0) fun v106x80=>
 bind (Zk v105x79 1) fun v107x81=>
 bind (alc 1 (.agg #[.string ⟨#[]⟩,.string ⟨#[]⟩,.string ⟨#[]⟩,.bool false,.slice none 0 0])) fun v16x82=>
 bind (stA 5 v16x82 v106x80) fun _=>
 bind (bop .int .neq v107x81 (Value.int .i64 0)) fun v109x83=>
 bind (Zx v109x83 false 4 (bind (Γ Ju [d,who]) fun v113x84=>
 bind (bop .int .neq v113x84 (Value.int .i64 0)) fun v114x85=>
 ret [d,who,v113x84,v114x85])) (c4 fun _ _ _ q86_3=>
 bind (pick v109x83 (Value.bool true) q86_3) fun v115x87=>
 cnd v115x87
 (bind (bop .int .neq v107x81 (Value.int .i64 0)) fun v117x88=>
 ret v117x88)
 (bind (fa 2 v16x82) fun v120x89=>
 bind (ld1 v120x89) fun v121x90=>
 bind (Γ YG [d,v121x90]) fun v122x91=>
 bind (Zk v122x91 0) fun v123x92=>
 bind (Zk v122x91 1) fun v124x93=>
 bind (fa 2 v16x82) fun v125x94=>
 bind (ld1 v125x94) fun v126x95=>
 bind (bop .str .neq v126x95 (Value.string ⟨#[]⟩)) fun v127x96=>
 bind (Zx v127x96 true 3 (bind (bop .int .neq v124x93 (Value.int .i64 8)) fun v130x97=>
 ret [v124x93,v130x97,v130x97])) (c3 fun _ _ q98_2=>
 bind (Zx q98_2 false 2 (bind (bop .str .neq v123x92 (Value.string ⟨#[]⟩)) fun v133x99=>
 ret [v123x92,v133x99])) (c2 fun _ q100_1=>
 bind (Zx v127x96 true 1 (bind (pick q98_2 (Value.bool true) q100_1) fun v134x101=>
 ret [v134x101])) (c1 fun q102_0=>
 bind (pick v127x96 q102_0 (Value.bool false)) fun v135x103=>
 cnd v135x103
 (ret (Value.bool false))
 (bind (Γ QK [d,who,(Value.string ⟨#[49]⟩)]) fun v138x104=>
 bind (bop .int .neq v138x104 (Value.int .i64 0)) fun v139x105=>
 cnd v139x105
 (ret (Value.bool false))
 (bind (Γ QA [d,who]) fun v143x106=>
 bind (Zk v143x106 0) fun v144x107=>
 bind (Zk v143x106 1) fun v145x108=>
 bind (alc 1 (.agg #[.string ⟨#[]⟩,.string ⟨#[]⟩,.string ⟨#[]⟩,.bool false,.slice none 0 0])) fun v20x109=>
 bind (stA 5 v20x109 v144x107) fun _=>
 bind (bop .int .eql v145x108 (Value.int .i64 0)) fun v147x110=>
 bind (Zx v147x110 true 3 (bind (fa 2 v20x109) fun v149x111=>
 bind (ld1 v149x111) fun v150x112=>
 bind (bop .str .eql v150x112 (Value.string ⟨#[]⟩)) fun v151x113=>
 ret [v149x111,v150x112,v151x113])) (c3 fun _ _ q114_2=>
 bind (pick v147x110 q114_2 (Value.bool false)) fun v152x115=>
 bind (Zx v152x115 true 3 (bind (fa 3 v20x109) fun v154x116=>
 bind (ld1 v154x116) fun v155x117=>
 bind (uop .not v155x117) fun v156x118=>
 ret [v154x116,v155x117,v156x118])) (c3 fun _ _ q119_2=>
 bind (pick v152x115 q119_2 (Value.bool false)) fun v157x120=>
 bind (Zx v157x120 true 4 (bind (fa 4 v20x109) fun v159x121=>
 bind (ld1 v159x121) fun v160x122=>
 bind (ZB v160x122) fun v161x123=>
 bind (bop .int .eql v161x123 (Value.int .i64 0)) fun v162x124=>
 ret [v159x121,v160x122,v161x123,v162x124])) (c4 fun _ _ _ q125_3=>
 bind (pick v157x120 q125_3 (Value.bool false)) fun v163x126=>
 bind (Zx v163x126 true 3 (bind (fa 1 v20x109) fun v165x127=>
 bind (ld1 v165x127) fun v166x128=>
 bind (bop .str .eql v166x128 (Value.string ⟨#[49]⟩)) fun v167x129=>
 ret [v165x127,v166x128,v167x129])) (c3 fun _ _ q130_2=>
 bind (pick v163x126 q130_2 (Value.bool false)) fun v168x131=>
 ret v168x131)))))))))))
noncomputable def Zla (Γ : Zd) (d who was : Value) : M Value:=
 bind (ZB was) fun v75x51=>
 jn (Zh (c5 (ZS.l2 Γ)) [d,who,was,v75x51,(Value.int .i64 0)]) noN (xk 2 (c2 fun q78_0 q78_1=>
 Zk3 Γ q78_0 q78_1) noX) ret
noncomputable def Zlw (Γ : Zd) (b d w who : Value) : M Value:=
 bind (Γ Wb [d]) fun v60x39=>
 bind (fa 0 b) fun v61x40=>
 bind (ld1 v61x40) fun v62x41=>
 bind (bop .int .rem v62x41 (Value.int .u8 11)) fun v63x42=>
 bind (bop .int .neq v63x42 (Value.int .u8 6)) fun v65x43=>
 bind (Zx v65x43 true 2 (bind (bop .int .neq v63x42 (Value.int .u8 7)) fun v68x44=>
 ret [v63x42,v68x44])) (c2 fun _ q45_1=>
 bind (pick v65x43 q45_1 (Value.bool false)) fun v69x46=>
 jn (cnd v69x46
 (bind (ldA 2 w) fun v71x47=>
 bind (ldA 4 b) fun v72x48=>
 bind (Γ Jh [d,v71x47,v72x48]) fun v73x49=>
 ret (.nrm [d,who,v60x39]))
 (ret (.nrm [d,who,v60x39]))) (c3 fun q50_0 q50_1 q50_2=>
 Zla Γ q50_0 q50_1 q50_2) noX ret)
noncomputable def Zsw (Γ : Zd) (x0 b d w : Value) : M Value:=
 bind (ZB x0) fun v38x17=>
 jn (Zh (c6 (ZS.l1 Γ)) [b,d,w,x0,v38x17,(Value.int .i64 0)]) noN (xk 0 (c3 fun q29_0 q29_1 q29_2=>
 bind (fa 1 q29_0) fun v51x30=>
 bind (ld1 v51x30) fun v52x31=>
 bind (fa 0 q29_0) fun v53x32=>
 bind (ld1 v53x32) fun v54x33=>
 bind (bop .int .rem v54x33 (Value.int .u8 11)) fun v55x34=>
 bind (bop .int .geq v55x34 (Value.int .u8 8)) fun v56x35=>
 jn (cnd v56x35
 (bind (fa 2 q29_0) fun v57x36=>
 bind (ld1 v57x36) fun v58x37=>
 ret (.nrm [q29_0,q29_1,q29_2,v58x37]))
 (ret (.nrm [q29_0,q29_1,q29_2,v52x31]))) (c4 fun q38_0 q38_1 q38_2 q38_3=>
 Zlw Γ q38_0 q38_1 q38_2 q38_3) noX ret) noX) ret
section
variable {X X' Y H H0 : Zc} {n d c w b : Nat} {r : NR} {uv gv sl : Value} {s : NSt} {u a : K0} {ac : List K0} {k m o t g who : Tx}
theorem Zv8 {β : Type} {p q : Bool} {m : M (List Value)} {u v x : Value} {k : Value→M β} (hm : m X=some ([u,v,x,.bool q],X')) (hp : p=true→X'=X) : bind (Zx (.bool p) false 4 m) (c4 fun _ _ _ t=>bind (pick (.bool p) (.bool true) t) k) X=k (.bool (p || q)) X':=by
 cases p
 ·rw [ZQ,Za hm,ZK,Za Zj];rfl
 ·rw [hp rfl,Za (g_r.trans (if_neg (by simp)))]
  simp only [List.replicate]
  rw [ZK,Za Zj];rfl
theorem ZtQ {β : Type} {q : Bool} {m : M (List Value)} {u v x : Value} {k : Value→M β} (hm : m X=some ([u,v,x,.bool q],X')) : bind (Zx (.bool true) true 4 m) (c4 fun _ _ _ t=>bind (pick (.bool true) t (.bool false)) k) X=k (.bool q) X':=by
 rw [ZQ,Za hm,ZK,Za Zj];rfl
theorem ZrI (hd : ND X d r s c) : ∃ X',Zk3 (R (n+12)) (pt d) (strv who) X=some (.bool true,X'):=by
 obtain ⟨u,qu,X6,e6,r6,o6,k6,u6,hk6⟩:=ZfE (n:=n+5) (k:=who) hd
 have e6 : R (n+12) QA [pt d,strv who] X=_:=e6
 have z7 : ∀ K : Value→M Value,bind (alc 1 zU) (fun q=>bind (stA 5 q (.agg u.cells.toArray)) fun _=>K q) X6=K (pt X6.length) (X6++[.cells u.cells 1 false false]):=fun K=>K3 (n:=5) (zs:=[.string ⟨#[]⟩,.string ⟨#[]⟩,.string ⟨#[]⟩,.bool false,.slice none 0 0]) (r:=u.cells) rfl rfl rfl (Kg r6.one.1)
 have k7 : HLe X6 (X6++[Zf.cells u.cells 1 false false]):=.app _ _
 have b7 : (X6++[Zf.cells u.cells 1 false false])[X6.length]?=some (.cells u.cells 1 false false):=ZD
 generalize X6++[Zf.cells u.cells 1 false false]=X7 at z7 k7 b7
 generalize X6.length=p7 at z7 b7
 have h7:=hd.hle (k6.trans k7)
 have hP:=h7.pinv
 by_cases he : Zl who s.A=0
 ·rw [if_pos he] at hk6
  rw [he] at e6
  have q1 : bop .int .neq (iv 0) (.int .i64 0) X7=some (.bool false,X7):=by rw [Zt];rfl
  obtain ⟨X8,e8,h8,s8⟩:=Zh2 (n:=n+2) (k:=who) h7
  rw [he] at e8
  have e8 : R (n+12) Ju [pt d,strv who] X7=_:=e8
  have q8 : bop .int .neq (iv 0) (.int .i64 0) X8=some (.bool false,X8):=by rw [Zt];rfl
  have c8:=h7.toND0.cle s8
  have b8:=c8 _ _ _ _ _ b7
  have hml : u.ml=(Ze who s.OF).getD []:=congrArg (·.2.2.1) hk6
  have l8 : ld1 (pa p7 2) X8=some (strv u.ml,X8):=Zu b8 rfl
  obtain ⟨X9,e9,k9⟩:=ZjW (n:=n+2) (m:=u.ml) h8
  have e9 : R (n+12) YG [pt d,strv u.ml] X8=_:=e9
  have l9 : ld1 (pa p7 2) X9=some (strv u.ml,X9):=Zu (k9 _ _ b8) rfl
  have h9:=h8.hle k9
  obtain ⟨he10,hF10⟩:=Zrh hP he
  obtain ⟨X10,e10,h10,s10⟩:=Zfj (n:=n+2) (k:=who) (h:=[49]) h9
  rw [he10] at e10
  have e10 : R (n+12) QK [pt d,strv who,.string ⟨#[49]⟩] X9=_:=e10
  have q10 : bop .int .neq (iv 0) (.int .i64 0) X10=some (.bool false,X10):=by rw [Zt];rfl
  obtain ⟨y,qy,X11,e11,r11,o11,k11,u11,hk11⟩:=ZfE (n:=n+5) (k:=who) h10
  have e11 : R (n+12) QA [pt d,strv who] X10=_:=e11
  obtain ⟨he11,hF11⟩:=Zsh h10.inv hF10
  rw [if_pos he11] at hk11
  rw [he11] at e11
  have hky : Z5 y=(who,[49],[],false,[]):=hk11.trans hF11
  have y1 : y.hs=[49]:=congrArg (·.2.1) hky
  have y2 : y.ml=[]:=congrArg (·.2.2.1) hky
  have y3 : y.ds=false:=congrArg (·.2.2.2.1) hky
  have y4 : y.gs=[]:=congrArg (·.2.2.2.2) hky
  have z12 : ∀ K : Value→M Value,bind (alc 1 zU) (fun q=>bind (stA 5 q (.agg y.cells.toArray)) fun _=>K q) X11=K (pt X11.length) (X11++[.cells y.cells 1 false false]):=fun K=>K3 (n:=5) (zs:=[.string ⟨#[]⟩,.string ⟨#[]⟩,.string ⟨#[]⟩,.bool false,.slice none 0 0]) (r:=y.cells) rfl rfl rfl (Kg r11.one.1)
  have k12 : HLe X11 (X11++[Zf.cells y.cells 1 false false]):=.app _ _
  have b12 : (X11++[Zf.cells y.cells 1 false false])[X11.length]?=some (.cells y.cells 1 false false):=ZD
  have hlen : ∀ Y,ZB y.gv Y=some (iv 0,Y):=fun Y=>by
   have:=r11.rd.len (H':=Y)
   rw [y4] at this
   exact this
  generalize X11++[Zf.cells y.cells 1 false false]=X12 at z12 k12 b12
  generalize X11.length=p12 at z12 b12
  have l1 : ld1 (pa p12 1) X12=some (strv [49],X12):=by rw [← y1];exact Zu b12 rfl
  have l2 : ld1 (pa p12 2) X12=some (strv [],X12):=by rw [← y2];exact Zu b12 rfl
  have l3 : ld1 (pa p12 3) X12=some (.bool false,X12):=by rw [← y3];exact Zu b12 rfl
  have l4 : ld1 (pa p12 4) X12=some (y.gv,X12):=Zu b12 rfl
  have q12 : bop .int .eql (iv 0) (.int .i64 0) X12=some (.bool true,X12):=by rw [ZA];rfl
  have t12 : ∀ x : Tx,bop .str .eql (strv x) (strv x) X12=some (.bool true,X12):=fun x=>by rw [ZbW];simp
  have t1 : bop .str .eql (strv []) (.string ⟨#[]⟩) X12=some (.bool true,X12):=t12 []
  have t2 : bop .str .eql (strv [49]) (.string ⟨#[49]⟩) X12=some (.bool true,X12):=t12 [49]
  refine ⟨X12,?_⟩
  unfold Zk3
  rw [Za e6,Za Zn,Za Zm,z7,Za q1,Zv8 (u:=pt d) (v:=strv who) (x:=iv 0) (q:=false) (X':=X8) (by rw [Za e8,Za q8];rfl) (by simp)]
  simp only [Bool.or_false]
  rw [Zb,if_neg (by simp),Za Zg,Za l8,Za e9,Za Zn,Za Zm,Za Zg,Za l9]
  by_cases hm : u.ml=[]
  ·have t9 : bop .str .neq (strv u.ml) (.string ⟨#[]⟩) X9=some (.bool false,X9):=by
    rw [hm,show (.string ⟨#[]⟩ : Value)=strv [] from rfl,K6];simp
   rw [Za t9,Za (g_r.trans (if_neg (by simp)))]
   simp only [List.replicate]
   rw [Z4,Za YB]
   simp only [List.replicate]
   rw [Qm,Za (g_r.trans (if_neg (by simp)))]
   simp only [List.replicate]
   rw [YO,Za Zj]
   simp only [cond_false]
   rw [Zb,if_neg (by simp),Za e10,Za q10,Zb,if_neg (by simp),Za e11,Za Zn,Za Zm,z12,Za q12]
   rw [Zi5 (u:=pa p12 2) (v:=strv []) (q:=true) (X':=X12) (by rw [Za Zg,Za l2,Za t1];rfl),Zi5 (u:=pa p12 3) (v:=.bool false) (q:=true) (X':=X12) (by rw [Za Zg,Za l3,Za Zy];rfl),ZtQ (u:=pa p12 4) (v:=y.gv) (x:=iv 0) (q:=true) (X':=X12) (by rw [Za Zg,Za l4,Za (hlen _),Za q12];rfl),Zi5 (u:=pa p12 1) (v:=strv [49]) (q:=true) (X':=X12) (by rw [Za Zg,Za l1,Za t2];rfl)]
   rfl
  ·have t9 : bop .str .neq (strv u.ml) (.string ⟨#[]⟩) X9=some (.bool true,X9):=by
    rw [show (.string ⟨#[]⟩ : Value)=strv [] from rfl,K6];simp [hm]
   obtain ⟨g1,g2⟩:=ZrH hP.x hP.i he (by rw [← hml];exact hm)
   rw [← hml] at g1 g2
   rw [g1,g2]
   have q9 : bop .int .neq (iv 8) (.int .i64 8) X9=some (.bool false,X9):=by rw [Zt];rfl
   have t10 : bop .str .neq (strv []) (.string ⟨#[]⟩) X9=some (.bool false,X9):=by
    rw [show (.string ⟨#[]⟩ : Value)=strv [] from rfl,K6];simp
   rw [Za t9,ZQ,Zi,Za q9,Z9,Z4,ZQ,Zi,Za t10,Z9,Qm,ZQ,Zi,Za Zj,Z9,YO,Za Zj]
   simp only [cond_false,cond_true]
   rw [Zb,if_neg (by simp),Za e10,Za q10,Zb,if_neg (by simp),Za e11,Za Zn,Za Zm,z12,Za q12]
   rw [Zi5 (u:=pa p12 2) (v:=strv []) (q:=true) (X':=X12) (by rw [Za Zg,Za l2,Za t1];rfl),Zi5 (u:=pa p12 3) (v:=.bool false) (q:=true) (X':=X12) (by rw [Za Zg,Za l3,Za Zy];rfl),ZtQ (u:=pa p12 4) (v:=y.gv) (x:=iv 0) (q:=true) (X':=X12) (by rw [Za Zg,Za l4,Za (hlen _),Za q12];rfl),Zi5 (u:=pa p12 1) (v:=strv [49]) (q:=true) (X':=X12) (by rw [Za Zg,Za l1,Za t2];rfl)]
   rfl
 ·have q1 : bop .int .neq (iv (Zl who s.A)) (.int .i64 0) X7=some (.bool true,X7):=by rw [Zt];simp [he]
  refine ⟨X7,?_⟩
  unfold Zk3
  rw [Za e6,Za Zn,Za Zm,z7,Za q1,Za (g_r.trans (if_neg (by simp)))]
  simp only [List.replicate]
  rw [ZK,Za Zj]
  simp only [cond_true]
  rw [Zb,if_pos rfl,Za q1]
  rfl
theorem ZlP {wv : Value} {us : List Zo} (hu : us.length≤1000) (hA : Qg X wv us) (hd : ND X d r s c) (hall : ∀ v∈us,v.nm≠who→Zz s v.nm=some (Z5 v)) : ∃ X',Zla (R (n+12)) (pt d) (strv who) wv X=some (.bool true,X'):=by
 obtain ⟨X1,e1,k1⟩:=Zob (n:=n) (who:=who) hu hA hd hall us.length 0 X (by omega) (by omega) (.refl _)
 rw [show iv ((0 : Nat) : Int)=.int .i64 0 from rfl] at e1
 have hlen : ZB wv X=some (iv us.length,X):=by have:=hA.1.len (H':=X);rwa [List.length_map] at this
 obtain ⟨X2,e2⟩:=ZrI (n:=n) (who:=who) (hd.hle k1)
 refine ⟨X2,?_⟩
 unfold Zla
 rw [Za hlen,QX e1,ZN,Qm,e2]
theorem ZpI (hA : Zbv H sl ac) (hn : ac.length≤9223372036854775807) (ha : a.kd≤255) : ∃ H',R (n+13) Wg [sl,.agg a.cells.toArray] H=some (.bool true,H'):=by
 have f1 : ∀ r X',ZS (R (n+12)) sl (.agg a.cells.toArray) H=some (r,X')→R (n+13) Wg [sl,.agg a.cells.toArray] H=some (r,X'):=fun r X' hr=>by rw [R,Zhz rfl];exact hr
 have z0 : alc 1 (.agg a.cells.toArray) H=some (pt H.length,H++[.cells a.cells 1 false false]):=K5 (vs:=a.cells) rfl
 have k0 : HLe H (H++[Zf.cells a.cells 1 false false]):=.app _ _
 have b0 : (H++[Zf.cells a.cells 1 false false])[H.length]?=some (.cells a.cells 1 false false):=ZD
 generalize H++[Zf.cells a.cells 1 false false]=Ha at z0 k0 b0
 generalize H.length=b at z0 b0
 obtain ⟨H1,e1,l1⟩:=Zkp (n:=n) (H:=Ha)
 obtain ⟨H2,e2,l2⟩:=ZsP (n:=n+11) (hA.mono (k0.trans l1)) hn
 have e2 : R (n+12) Km [sl] H1=_:=e2
 have d3 : ldA 4 (pt b) H2=some (.agg a.cells.toArray,H2):=ZY (n:=4) ((l1.trans l2) _ _ b0) rfl
 have e3:=Zk5 (es:=4) (z:=zNA) (r:=a.cells) (H:=H2) rfl rfl rfl
 have l3 : HLe H2 (H2++[Zf.cells a.cells 4 false false]):=.app _ _
 have s3 : Zbv (H2++[Zf.cells a.cells 4 false false]) (.slice (some ⟨H2.length,0,none⟩) 1 1) [a]:=⟨SlN.whole (rows:=[a.cells]) (c:=1) (e:=4) (g:=false) (ro:=false) (by rw [ZD];simp) (by simp),by simpa using ha⟩
 generalize H2++[Zf.cells a.cells 4 false false]=H3 at e3 l3 s3
 generalize H2.length=p3 at e3 s3
 obtain ⟨H4,e4,l4⟩:=ZsP (n:=n+11) s3 (by simp)
 have e4 : R (n+12) Km [.slice (some ⟨p3,0,none⟩) 1 1] H3=_:=e4
 obtain ⟨H4',e4',l4'⟩:=Zkp (n:=n) (H:=H4)
 obtain ⟨H2',e2',l2'⟩:=Zkp (n:=n) (H:=H2)
 generalize hq : (ac.all Ziz && decide (ac.length≤60))=fw at e2
 generalize hq1 : (([a] : List K0).all Ziz && decide (([a] : List K0).length≤60))=fa1 at e4
 have step0 : ∀ {k : Value→A.M Value},bind (uop .not (.bool true)) (fun v23x3=>
   bind (Zx v23x3 false 3 (bind (R (n+12) Km [sl]) fun v26x4=>bind (uop .not v26x4) fun v27x5=>ret [sl,v26x4,v27x5])) (c3 fun _ _ q6_2=>
   bind (pick v23x3 (Value.bool true) q6_2) k)) H1=k (.bool (!fw)) H2:=fun {k}=>by
  rw [Za Zy]
  simp only [Bool.not_true]
  rw [ZQ,Zi,Za e2,Zi,Za Zy,Z9,Z4,Za Zj]
  rfl
 cases fw
 ·refine ⟨H2',f1 _ _ ?_⟩
  unfold ZS
  rw [Za z0,Za e1]
  refine step0.trans ?_
  rw [Za (g_r.trans (if_neg (by simp)))]
  simp only [List.replicate]
  rw [ZK,Za Zj]
  simp only [Bool.not_false,cond_true]
  rw [Zb,if_pos (by rfl),Za e2']
  rfl
 ·have step : ∀ {k : Value→A.M Value},bind (Zx (.bool (!true)) false 4 (bind (ldA 4 (pt b)) fun v30x8=>bind (bsl 4 1 zNA [(0,4,v30x8)]) fun v31x9=>bind (R (n+12) Km [v31x9]) fun v32x10=>bind (uop .not v32x10) fun v33x11=>ret [v30x8,v31x9,v32x10,v33x11])) (c4 fun _ _ _ q12_3=>
    bind (pick (.bool (!true)) (Value.bool true) q12_3) k) H2=k (.bool (!fa1)) H4:=fun {k}=>by
   simp only [Bool.not_true]
   rw [ZQ,Zi,Za d3,Zi,Za e3,Zi,Za e4,Zi,Za Zy,Z9,ZK,Za Zj]
   rfl
  cases fa1
  ·refine ⟨H4',f1 _ _ ?_⟩
   unfold ZS
   rw [Za z0,Za e1]
   refine step0.trans ?_
   refine step.trans ?_
   rw [Zb,if_pos (by rfl),Za e4']
   rfl
  ·obtain ⟨X0,d,r,w,z,hL,hw⟩:=ZvB (n:=n) (X:=H4) (fun v b'=>Zsw (R (n+12)) sl (pt b) v b')
   have l04:=((l1.trans l2).trans l3).trans l4
   have hA2:=hA.mono (k0.trans l04)
   have b4:=l04 _ _ b0
   obtain ⟨X5,r5,s,uv,gv,e5,h5⟩:=Zsc (n:=n) (z1:=pt b) hA2 hn hw ac.length 0 r _ _ _ X0 (by omega) (by omega) hL
   rw [show iv ((0 : Nat) : Int)=.int .i64 0 from rfl] at e5
   have b5:=h5.le _ _ b4
   have g0 : ∀ Y,HLe X5 Y→ld1 (pa b 0) Y=some (.int .u8 a.kd,Y):=fun Y hy=>Zu (hy _ _ b5) rfl
   have g1 : ld1 (pa b 1) X5=some (strv a.a,X5):=Zu b5 rfl
   have g2 : ld1 (pa b 2) X5=some (strv a.b,X5):=Zu b5 rfl
   have hmod : (a.kd : Int).tmod 11=((a.kd % 11 : Nat) : Int):=by rw [Int.tmod_eq_emod_of_nonneg (by omega)];omega
   have x0 : ∀ Y : Zc,bop .int .rem (.int .u8 a.kd) (.int .u8 11) Y=some (.int .u8 ((a.kd % 11 : Nat) : Int),Y):=fun Y=>by rw [JF,if_neg (by omega),hmod]
   have x1 : bop .int .geq (.int .u8 ((a.kd % 11 : Nat) : Int)) (.int .u8 8) X5=some (.bool (decide (8≤a.kd % 11)),X5):=by
    rw [Qb,show (decide (((a.kd % 11 : Nat) : Int)≥8))=decide (8≤a.kd % 11) from decide_eq_decide.2 (by omega)]
   obtain ⟨wv,qw,us,X6,e6,o6,u6,k6⟩:=Zu6 (n:=n+4) h5.nd
   have e6 : R (n+12) Wb [pt d] X5=_:=e6
   have h6:=h5.hle k6
   have hP:=h5.nd.pinv
   have hus : us.length≤1000:=by
    have h1:=congrArg List.length u6
    have h2 : (YH (Zbt s)).length≤12:=by rw [Zfr];simpa using hP.i.few
    unfold Zkg at h1
    rw [List.length_map,List.length_map] at h1
    omega
   have hin : ∀ v∈us,Zz s v.nm=some (Z5 v):=fun v hv=>(Zpc (key:=Z5 v) hP.n).1 (by rw [← u6];exact List.mem_map.2 ⟨v,hv,rfl⟩)
   have his : ∀ v∈us,(Ze v.nm s.A).isSome=true:=fun v hv=>by
    have:=hin v hv
    unfold Zz at this
    cases ha : Ze v.nm s.A with
    | none=>rw [ha] at this;cases this
    | some p=>rfl
   have x6 : ∀ (j : Nat) (Y : Zc),bop .int .neq (.int .u8 ((a.kd % 11 : Nat) : Int)) (.int .u8 j) Y=some (.bool (decide (a.kd % 11≠j)),Y):=fun j Y=>by
    rw [Zt,show (((a.kd % 11 : Nat) : Int) !=(j : Int))=decide (a.kd % 11≠j) from by rw [Bool.eq_iff_iff];simp only [bne_iff_ne,decide_eq_true_eq,ne_eq];omega]
   have x66 : ∀ Y : Zc,bop .int .neq (.int .u8 ((a.kd % 11 : Nat) : Int)) (.int .u8 6) Y=some (.bool (decide (a.kd % 11≠6)),Y):=fun Y=>x6 6 Y
   have x67 : ∀ Y : Zc,bop .int .neq (.int .u8 ((a.kd % 11 : Nat) : Int)) (.int .u8 7) Y=some (.bool (decide (a.kd % 11≠7)),Y):=fun Y=>x6 7 Y
   have dw : ldA 2 (pt w) X6=some (.agg #[uv,gv],X6):=ZY h6.w rfl
   have db : ldA 4 (pt b) X6=some (.agg a.cells.toArray,X6):=ZY (n:=4) (k6 _ _ b5) rfl
   have hM : ∃ X',Zlw (R (n+12)) (pt b) (pt d) (pt w) (strv (Zde a)) X5=some (.bool true,X'):=by
    by_cases h67 : a.kd % 11≠6∧a.kd % 11≠7
    ·obtain ⟨X7,r7,uv7,gv7,e7,hF⟩:=ZtS (n:=n) (u:=a) h6.nd h6.rd
     obtain ⟨X8,e8⟩:=ZlP (n:=n) (who:=Zde a) hus (o6.us.cle (h6.nd.toND0.cle hF.st)) hF.nd (fun v hv hne=>by
      rw [Zs8 hP.i h67.1 h67.2 hne (his v hv)]
      exact hin v hv)
     refine ⟨X8,?_⟩
     unfold Zlw
     rw [Za e6,Za Zg,Za (g0 _ k6),Za (x0 _),Za (x66 _),decide_eq_true h67.1,ZQ,Zi,Za (x67 _),decide_eq_true h67.2,Z9,Qm,Za Zj]
     simp only [cond_true]
     refine (ZV (vs:=[pt d,strv (Zde a),wv]) (H':=X7) ?_).trans ?_
     ·rw [Zb,if_pos rfl,Za dw,Za db,Za e7];rfl
     ·rw [Z4,e8]
    ·obtain ⟨X8,e8⟩:=ZlP (n:=n) (who:=Zde a) hus o6.us h6.nd (fun v hv hne=>hin v hv)
     refine ⟨X8,?_⟩
     unfold Zlw
     rw [Za e6,Za Zg,Za (g0 _ k6),Za (x0 _),Za (x66 _)]
     have hfin : (jn (cnd (.bool false) (bind (ldA 2 (pt w)) fun v71x47=>bind (ldA 4 (pt b)) fun v72x48=>bind (R (n+12) Jh [pt d,v71x47,v72x48]) fun v73x49=>ret (.nrm [pt d,strv (Zde a),wv])) (ret (.nrm [pt d,strv (Zde a),wv]))) (c3 fun q50_0 q50_1 q50_2=>Zla (R (n+12)) q50_0 q50_1 q50_2) noX ret) X6=some (.bool true,X8):=by
      refine (ZV (vs:=[pt d,strv (Zde a),wv]) (H':=X6) ?_).trans ?_
      ·rw [Zb,if_neg (by simp)];rfl
      ·rw [Z4,e8]
     by_cases h6' : a.kd % 11=6
     ·rw [decide_eq_false (fun h=>h h6'),Za (g_r.trans (if_neg (by simp)))]
      simp only [List.replicate]
      rw [Qm,Za Zj]
      exact hfin
     ·have h7' : a.kd % 11=7:=by
       by_cases h : a.kd % 11=7
       ·exact h
       ·exact absurd ⟨h6',h⟩ h67
      rw [decide_eq_true h6',ZQ,Zi,Za (x67 _),decide_eq_false (fun h=>h h7'),Z9,Qm,Za Zj]
      exact hfin
   obtain ⟨X9,e9⟩:=hM
   refine ⟨X9,f1 _ _ ?_⟩
   unfold ZS
   rw [Za z0,Za e1]
   refine step0.trans ?_
   refine step.trans ?_
   rw [Zb,if_neg (by simp)]
   refine z.trans ?_
   unfold Zsw
   rw [Za hA2.len,QX e5,ZN,Z4,Za Zg,Za g1,Za Zg,Za (g0 _ (.refl _)),Za (x0 _),Za x1]
   refine (ZV (vs:=[pt b,pt d,pt w,strv (Zde a)]) (H':=X5) ?_).trans ?_
   ·unfold Zde
    by_cases h8 : 8≤a.kd % 11
    ·rw [decide_eq_true h8,Zb,if_pos rfl,Za Zg,Za g2,if_pos h8];rfl
    ·rw [decide_eq_false h8,Zb,if_neg (by simp),if_neg h8];rfl
   ·rw [ZK,e9]
theorem law_NewerApart : ∀ (xs : Ins [.slc nActT,nActT]) (H : Zc) (vs : List Value),ZnS [.slc nActT,nActT] xs→Zn1 [.slc nActT,nActT] xs H vs→∃ n H',R n Wg vs H=some (.bool true,H'):=by
 intro xs H vs hwf hrd
 obtain ⟨l,y,_⟩:=xs
 obtain ⟨hl,hy,_⟩:=hwf
 obtain ⟨c1,_,rfl,hc1,h1,c2,_,rfl,hc2,h2,rfl⟩:=hrd
 obtain ⟨v,rfl⟩ : ∃ v,c1=[v]:=by
  match c1,hc1 with
  | [v],_=>exact ⟨v,rfl⟩
 obtain ⟨ac,hA,hn⟩:=ZtH hl h1
 obtain ⟨a,rfl,ha⟩:=ZqG hy h2
 obtain ⟨H',e⟩:=ZpI (n:=0) hA hn ha
 exact ⟨13,H',e⟩
end
end Go.Proofs.YtnnehafmjfmbnaaGreatDoor.A

