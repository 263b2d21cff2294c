/- What the law NewerOf needs (part 5). -/
import Derived.Test.YtnnehafmjfmbnaaGreatDoorZNewerOf4
namespace Go.Proofs.YtnnehafmjfmbnaaGreatDoor.A
set_option linter.unusedVariables false
set_option linter.unusedSimpArgs false
open Go.Proofs Go.Proofs.YtnnehafmjfmbnaaGreatDoor
section
variable {X X' X0 H H0 : Zc} {n p d b c i : Nat} {r : NR} {s : NSt} {v sl gv ugv zl : Value} {l gs : List Tx} {m k g : Tx} {u : Zm} {us prev : List Zm}
def nGs (gs : List Tx) : NSt:=⟨[],[],[],gs,fun _ _=>false⟩
theorem ZqH (hr : JG gs=true) (hn : gs.all Zo=true) (h6 : gs.length≤6) {j : Nat} (hg : gs[j]?=some g) : YZ g (gs.take j)=0∧Zev g (gs.take j)=gs.take (j+1):=by
 have hj : j < gs.length:=(List.getElem?_eq_some_iff.1 hg).1
 have hgm:=List.mem_of_getElem? hg
 have h1 : Zo g=true:=List.all_eq_true.1 hn g hgm
 have hd:=List.drop_eq_getElem_cons hj
 have hge : gs[j]=g:=by have:=List.getElem?_eq_getElem hj;rw [hg] at this;exact (Option.some.inj this).symm
 have hp:=ZbN hr
 rw [← List.take_append_drop j gs,List.pairwise_append,hd,hge] at hp
 have h2 : g∉gs.take j:=fun hm=>List.lt_irrefl g (hp.2.2 g hm g (by simp))
 have hl : (gs.take j).length=j:=by rw [List.length_take];omega
 have h0 : YZ g (gs.take j)=0:=by
  unfold YZ
  rw [h1,if_pos rfl,if_neg h2,hl,if_neg (by omega)]
 refine ⟨h0,?_⟩
 unfold Zev
 rw [if_pos h0,List.take_add_one,hg]
 rfl
theorem Zog (hs : Sl X0 gv (gs.map strv)) (hr : JG gs=true) (hn : gs.all Zo=true) (h6 : gs.length≤6) : ∀ (t j : Nat) (r : NR) (X : Zc),gs.length - j=t→j≤gs.length→HLe X0 X→ND X d r (nGs (gs.take j)) 0→(∀ i∈r.own,X0.length≤i)→
  ∃ X' r',Zj (c5 (Qn.l1 (R (n+11)))) [sl,pt d,gv,iv gs.length,iv j] X=some (.ext 0 [sl,pt d],X')∧HLe X0 X'∧ND X' d r' (nGs gs) 0∧∀ i∈r'.own,X0.length≤i
 | 0,j,r,X,ht,hj,hle,hd,ho=>by
  have hj : j=gs.length:=by omega
  subst hj
  rw [List.take_length] at hd
  refine ⟨X,r,ZD ?_,hle,hd,ho⟩
  rw [Z7]
  unfold Qn.l1
  rw [Za Zg,Zb,if_neg (by simp)]
  rfl
 | t+1,j,r,X,ht,hj,hle,hd,ho=>by
  have hkl : j < gs.length:=by omega
  have hlt : (j : Int) < gs.length:=by omega
  have hg:=List.getElem?_eq_getElem hkl
  generalize gs[j]=g at hg
  have x1:=(hs.mono hle).ix (i:=j) (by simpa using hkl) .i64 X
  have x2:=(hs.mono hle).ldx (Q3 hg)
  obtain ⟨m1,m2⟩:=ZqH hr hn h6 hg
  obtain ⟨X1,G',e1,g1,k1,s1⟩:=ZqP (n:=n+3) (k:=g) hd.gr
  have e1 : R (n+11) J9 [pt r.g,strv g] X=_:=e1
  rw [hd.ks] at e1 k1
  rw [show (nGs (gs.take j)).K=gs.take j from rfl,m2] at k1
  obtain ⟨d1,t1⟩:=hd.toND0.setG g1 s1 k1
  have hm:=hle.more t1 ho
  have hd1 : ND X1 d { r with G:=G' } (nGs (gs.take (j+1))) 0:=⟨d1,⟨by simp [nGs],by simp [nGs],by simp [nGs,Ze],by simp [nGs],by simp [nGs,Ze]⟩⟩
  obtain ⟨X2,r2,e2,k2,h2,o2⟩:=Zog hs hr hn h6 t (j+1) _ X1 (by omega) (by omega) hm.1 hd1 hm.2
  refine ⟨X2,r2,(Zv ?_).trans e2,k2,h2,o2⟩
  rw [Z7]
  unfold Qn.l1
  rw [Za Zg,Zb,if_pos (by simpa using hlt),Za x1,Za x2,Za Zw,Za Zk,Za hd.l2,Za e1,Za Zs,Qb (by omega)]
  rfl
theorem Zpj {mem : Mem} : Kf [] k mem=mem:=by
 funext g n
 unfold Kf
 simp
theorem Zn6 {mem : Mem} {ps : List Tx} : ZiJ g k (Kf ps k mem)=Kf (ps++[g]) k mem:=by
 funext g' n
 unfold ZiJ Kf
 by_cases h1 : g'∈ps <;> by_cases h2 : g'=g <;> cases mem g' n <;> cases hn : n==k <;> simp [h1,h2,hn]
theorem Zo9 (hnm : Zo u.nm=true) (hall : u.gs.all Zo=true) (hasc : JG u.gs=true) (hl : u.gs.length≤6) (hfree : ∀ g,s.mem g u.nm=false) (hK : s.K=gs) {z1 z2 z3 : Value} : ∀ (t j : Nat) (c : Nat) (X : Zc),u.gs.length - j=t→j≤u.gs.length→ND0 X d r { s with mem:=Kf (u.gs.take j) u.nm s.mem } c→X[b]?=some (.cells u.cells 1 false false)→Sl X ugv (u.gs.map strv)→
  ∃ X',Zj (c8 (Qn.l3 (R (n+11)))) [pt d,pt b,z1,z2,z3,ugv,iv u.gs.length,iv j] X=some (if (u.gs.drop j).all (fun g=>decide (g∈gs)) then .ext 4 [pt d,pt b,z1,z2,z3] else .ret (.tuple #[.pointer none,iv 8]),X')∧ZK r.own X r.own X'∧((u.gs.drop j).all (fun g=>decide (g∈gs))=true→∃ c',ND0 X' d r { s with mem:=Kf u.gs u.nm s.mem } c')
 | 0,j,c,X,ht,hj,hd,hb,hs=>by
  have hj : j=u.gs.length:=by omega
  subst hj
  rw [List.take_length] at hd
  rw [List.drop_length]
  refine ⟨X,ZD ?_,.refl _ _,fun _=>⟨c,hd⟩⟩
  rw [J2]
  unfold Qn.l3
  rw [Za Zg,Zb,if_neg (by simp)]
  rfl
 | t+1,j,c,X,ht,hj,hd,hb,hs=>by
  have hkl : j < u.gs.length:=by omega
  have hlt : (j : Int) < u.gs.length:=by omega
  have hg:=List.getElem?_eq_getElem hkl
  have hdr:=List.drop_eq_getElem_cons hkl
  have hsn:=take_snocT hg
  generalize u.gs[j]=g at hg hdr hsn
  have x1:=hs.ix (i:=j) (by simpa using hkl) .i64 X
  have x2:=hs.ldx (Q3 hg)
  have l0 : ld1 (pa b 0) X=some (strv u.nm,X):=Q0 hb rfl
  obtain ⟨X1,e1,g1,s1⟩:=Zrd (n:=n+3) (k:=g) (m:=u.nm) hd.gr
  have e1 : R (n+11) YK [pt r.g,strv g,strv u.nm] X=_:=e1
  rw [hd.ks] at e1 g1
  have hKs : ({ s with mem:=Kf (u.gs.take j) u.nm s.mem } : NSt).K=gs:=hK
  rw [hKs] at e1 g1
  have hgn : Zo g=true:=List.all_eq_true.1 hall g (List.mem_of_getElem? hg)
  have hgt : g∉u.gs.take j:=by
   have hp:=ZbN hasc
   rw [← List.take_append_drop j u.gs,List.pairwise_append,hdr] at hp
   exact fun hm=>List.lt_irrefl g (hp.2.2 g hm g (by simp))
  have hmf : Kf (u.gs.take j) u.nm s.mem g u.nm=false:=by
   unfold Kf
   rw [hfree]
   simp [hgt]
  have hfd : Jr g [u.nm] gs=if g∈gs then 0 else 8:=by
   unfold Jr
   simp [hgn,hnm]
  rw [hdr,List.all_cons]
  by_cases hgm : g∈gs
  ·rw [if_pos hgm] at hfd
   have hE : ZbH g u.nm gs (Kf (u.gs.take j) u.nm s.mem)=0:=by
    unfold ZbH
    rw [hfd,if_pos rfl,hmf];rfl
   rw [hE] at e1
   rw [show ({ s with mem:=Kf (u.gs.take j) u.nm s.mem } : NSt).mem=Kf (u.gs.take j) u.nm s.mem from rfl,hE,if_pos rfl,Zn6,← hsn] at g1
   obtain ⟨d1,t1⟩:=hd.setG g1 s1 hd.ks
   have hc1:=hd.cle t1
   rw [decide_eq_true hgm,Bool.true_and]
   have d1' : ND0 X1 d r { s with mem:=Kf (u.gs.take (j+1)) u.nm s.mem } (c+1):=d1
   obtain ⟨X2,e2,t2,h2⟩:=Zo9 hnm hall hasc hl hfree hK t (j+1) (c+1) X1 (by omega) (by omega) d1' (hc1 _ _ _ _ _ hb) (hs.cle hc1)
   refine ⟨X2,(Zv ?_).trans e2,ZK.trans t1 t2,h2⟩
   rw [J2]
   unfold Qn.l3
   rw [Za Zg,Zb,if_pos (by simpa using hlt),Za x1,Za x2,Za Zw,Za Zk,Za hd.l2,Za Zk,Za l0,Za e1,Za Zn,Zb,if_neg (by simp),Za Zs,Qb (by omega)]
   rfl
  ·rw [if_neg hgm] at hfd
   have hE : ZbH g u.nm gs (Kf (u.gs.take j) u.nm s.mem)=8:=by
    unfold ZbH
    rw [hfd,if_neg (by simp)]
   rw [hE] at e1
   obtain ⟨d1,t1⟩:=hd.setG g1 s1 hd.ks
   rw [decide_eq_false hgm,Bool.false_and]
   refine ⟨X1,ZU ?_,t1,fun h=>by cases h⟩
   rw [J2]
   unfold Qn.l3
   rw [Za Zg,Zb,if_pos (by simpa using hlt),Za x1,Za x2,Za Zw,Za Zk,Za hd.l2,Za Zk,Za l0,Za e1,Za Zn,Zb,if_pos (by simp)]
   rfl
where
 take_snocT {l : List Tx} {j : Nat} {h : j < l.length} (hg : l[j]?=some l[j]) : l.take (j+1)=l.take j++[l[j]]:=by
  rw [List.take_add_one,hg];rfl
theorem ZjX : ∀ {us : List Zm},(∀ v∈us,v.nm < u.nm)→ZdG u us=us++[u]
 | [],_=>by simp [ZdG,Zai,Ww]
 | v :: us,h=>by
  rw [ZfV,if_neg (fun hle=>(List.not_lt.2 hle) (h v (by simp))),ZjX fun w hw=>h w (by simp [hw])]
  rfl
theorem Zp3 (hO : ROK s prev) (hP : ZkR s) (hm : Q2 m=true) (hf : ZT m=m) : prev.any (fun w=>m==w.ml)=(Ze m s.OW).isSome:=by
 have h1:=Zo8 hO hP hm
 rw [hf] at h1
 rw [← h1,Option.isSome_map,List.isSome_find?]
 congr 1
 funext w
 exact BEq.comm
def ZlJ (u : Zm) (s : NSt) : NSt:={ A:=Qz u.nm (u.hs,u.ds) s.A,OW:=ZiY u.nm u.ml s.OW s.OF,OF:=Zbk u.nm u.ml s.OW s.OF,K:=s.K,mem:=Kf u.gs u.nm s.mem }
theorem Zjs (h : Zbl m=true) : m=[]∨(Q2 m=true∧ZT m=m):=by
 unfold Zbl at h
 simpa using h
theorem Zgt (h : Yy u=0) : Zo u.nm=true∧Zaq u.hs=true∧Zbl u.ml=true∧u.gs.length≤6∧u.gs.all Zo=true∧JG u.gs=true:=by
 unfold Yy at h
 split at h
 ·rename_i h1
  split at h
  ·rename_i h2
   split at h
   ·rename_i h3
    unfold Zcv at h
    split at h
    ·exact absurd h (by decide)
    ·rename_i h6
     split at h
     ·rename_i h4
      split at h
      ·rename_i h5
       exact ⟨h1,h2,h3,by omega,h4,h5⟩
      ·exact absurd h (by decide)
     ·exact absurd h (by decide)
   ·exact absurd h (by decide)
  ·exact absurd h (by decide)
 ·exact absurd h (by decide)
theorem Zq2 (hO : ROK s prev) (hP : ZkR s) (hu : Yy u=0) (hA : Ze u.nm s.A=none) : Kc u.nm u.ml s.OW=if u.ml≠[]∧prev.any (fun w=>u.ml==w.ml)=true then 9 else 0:=by
 obtain ⟨h1,_,h3,_,_,_⟩:=Zgt hu
 unfold Kc
 rw [h1,if_pos rfl]
 rcases Zjs h3 with hm | ⟨hm,hf⟩
 ·rw [if_pos hm,if_neg (fun h=>h.1 hm)]
 ·have hne : u.ml≠[]:=by have:=(Zed hm).1;rwa [hf] at this
  rw [if_neg hne,hm,if_pos rfl,hf,Zp3 hO hP hm hf]
  cases hw : Ze u.ml s.OW with
  | none=>simp
  | some w=>
   have hww : w≠u.nm:=fun e=>by
    subst e
    have:=hP.i.ofA u.nm (by rw [(hP.x.inv u.nm u.ml).2 hw];rfl)
    rw [hA] at this;cases this
   simp [hww,hne]
theorem Zph (hi : JZ s) (hu : Yy u=0) (hgs : ∀ g∈u.gs,g∈s.K) (hk : s.K.Nodup) (hA : Ze u.nm s.A=none) (hfree : ∀ g,s.mem g u.nm=false) (he : Kc u.nm u.ml s.OW=0) (x : Tx) : Yb (ZlJ u s) x=if x=u.nm then some (QA u) else Yb s x:=by
 obtain ⟨h1,h2,h3,h4,h5,h6⟩:=Zgt hu
 by_cases hx : x=u.nm
 ·rw [if_pos hx,hx]
  unfold Yb
  show (Ze u.nm (Qz u.nm (u.hs,u.ds) s.A)).map _=_
  rw [Kr]
  show some (Wv _ u.nm (u.hs,u.ds))=_
  unfold Wv QA
  show some (u.nm,u.hs,(Ze u.nm (Zbk u.nm u.ml s.OW s.OF)).getD [],u.ds,ofL u.nm s.K (Kf u.gs u.nm s.mem))=_
  rw [Zc0 he,if_pos rfl]
  have hg : ofL u.nm s.K (Kf u.gs u.nm s.mem)=u.gs:=by
   refine (ZoO hk).uniq ⟨ZbN h6,fun y=>Iff.rfl⟩ fun y=>?_
   unfold Kf
   rw [hfree]
   simp
   exact hgs y
  rw [hg]
  rcases Zjs h3 with hm | ⟨hm,hf⟩
  ·rw [if_pos hm,hm];rfl
  ·have hne : u.ml≠[]:=by have:=(Zed hm).1;rwa [hf] at this
   rw [if_neg hne,hf];rfl
 ·rw [if_neg hx]
  unfold Yb
  show (Ze x (Qz u.nm (u.hs,u.ds) s.A)).map _=_
  rw [YF hx]
  cases Ze x s.A with
  | none=>rfl
  | some p=>
   show some (Wv _ x p)=some (Wv s x p)
   unfold Wv
   show some (x,p.1,(Ze x (Zbk u.nm u.ml s.OW s.OF)).getD [],p.2,ofL x s.K (Kf u.gs u.nm s.mem))=_
   rw [Zc0 he,if_neg hx]
   have : ofL x s.K (Kf u.gs u.nm s.mem)=ofL x s.K s.mem:=by
    unfold ofL Kf
    refine List.filter_congr fun g _=>?_
    simp [hx]
   rw [this]
theorem JZ.add (hi : JZ s) (hu : Yy u=0) (hA : s.A.length < 12) (he : Kc u.nm u.ml s.OW=0) : JZ (ZlJ u s):=by
 obtain ⟨h1,h2,h3,h4,h5,h6⟩:=Zgt hu
 have p1:=hi.putA (k:=u.nm) (v:=(u.hs,u.ds)) h1 h2 (.inr hA)
 refine ⟨p1.nm,p1.few,fun x hx=>?_,fun g x hx=>?_,fun x y hx=>?_⟩
 ·have hx : (Ze x (Zbk u.nm u.ml s.OW s.OF)).isSome=true:=hx
  rw [Zc0 he] at hx
  by_cases e : x=u.nm
  ·show (Ze x (Qz u.nm (u.hs,u.ds) s.A)).isSome=true
   rw [e,Kr];rfl
  ·rw [if_neg e] at hx
   exact KV (.inl (hi.ofA x hx))
 ·have hx : Kf u.gs u.nm s.mem g x=true:=hx
  unfold Kf at hx
  rw [Bool.or_eq_true] at hx
  rcases hx with hx | hx
  ·exact KV (.inl (hi.memA g x hx))
  ·rw [Bool.and_eq_true,beq_iff_eq] at hx
   exact KV (.inr hx.2)
 ·have hx : Ze x (Zbk u.nm u.ml s.OW s.OF)=some y:=hx
  rw [Zc0 he] at hx
  by_cases e : x=u.nm
  ·rw [if_pos e] at hx
   rcases Zjs h3 with hm | ⟨hm,hf⟩
   ·rw [if_pos hm] at hx;cases hx
   ·have hne : u.ml≠[]:=by have:=(Zed hm).1;rwa [hf] at this
    rw [if_neg hne,hf] at hx
    cases hx
    exact ⟨hm,hf⟩
  ·rw [if_neg e] at hx
   exact hi.good x y hx
structure OfS (X0 X : Zc) (d : Nat) (r : NR) (s : NSt) (c : Nat) (gs : List Tx) (prev : List Zm) : Prop where
 le : HLe X0 X
 nd : ND X d r s c
 own : ∀ i∈r.own,X0.length≤i
 K : s.K=gs
 ok : ROK s prev
theorem Zor (hn : us.length≤12) (hA : QM X0 sl us) (h2 : ∀ u∈us,Yy u=0) (hris : JG (us.map (·.nm))=true) : ∀ (t i : Nat) (s : NSt) (c : Nat) (X : Zc),us.length - i=t→i≤us.length→OfS X0 X d r s c gs (us.take i)→
  ∃ X' o,Zj (c4 (Qn.l2 (R (n+11)))) [pt d,sl,iv us.length,iv i] X=some (o,X')∧HLe X0 X'∧(if KL gs (us.take i) (us.drop i)=0 then o=.ext 2 [pt d]∧∃ s' c',OfS X0 X' d r s' c' gs us else o=.ret (.tuple #[.pointer none,iv (KL gs (us.take i) (us.drop i))]))
 | 0,i,s,c,X,ht,hi,hS=>by
  have hi : i=us.length:=by omega
  subst hi
  rw [List.take_length] at hS
  rw [List.drop_length,List.take_length]
  refine ⟨X,.ext 2 [pt d],ZD ?_,hS.le,?_⟩
  ·rw [ZA]
   unfold Qn.l2
   rw [Za Zg,Zb,if_neg (by simp)]
   rfl
  ·rw [if_pos (show KL gs us []=0 from by unfold KL;rfl)]
   exact ⟨rfl,s,c,hS⟩
 | t+1,i,s,c,X,ht,hi,hS=>by
  have hjl : i < us.length:=by omega
  have hlt : (i : Int) < us.length:=by omega
  have hg:=List.getElem?_eq_getElem hjl
  have hdr:=List.drop_eq_getElem_cons hjl
  generalize us[i]=u at hg hdr
  have hum:=List.mem_of_getElem? hg
  have hu:=h2 u hum
  obtain ⟨u1,u2,u3,u4,u5,u6⟩:=Zgt hu
  have hP:=hS.nd.pinv
  have hrp : ∀ v∈us.take i,v.nm < u.nm:=fun v hv=>by
   have hp:=ZbN hris
   rw [← List.take_append_drop i us,hdr,List.map_append,List.pairwise_append] at hp
   exact hp.2.2 v.nm (List.mem_map.2 ⟨v,hv,rfl⟩) u.nm (by simp)
  have hlen:=hS.ok.len hP.n
  have hlt' : (us.take i).length=i:=by rw [List.length_take];omega
  have hnone : Ze u.nm s.A=none:=by
   cases ha : Ze u.nm s.A with
   | none=>rfl
   | some p=>
    have h3 : Yb s u.nm=some (Wv s u.nm p):=by unfold Yb;rw [ha];rfl
    obtain ⟨v,hv,hk⟩:=K4.1 ((hS.ok.look (Wv s u.nm p)).2 h3)
    have hvn : v.nm=u.nm:=congrArg (·.1) hk
    have:=hrp v hv
    rw [hvn] at this
    exact absurd this (List.lt_irrefl _)
  have hfree:=hP.i.memN hnone
  have hok:=(hA.mono hS.le).ok hum
  have hf:=fun {K : Value→M Out}=>ZcW (k:=K) (hA.mono hS.le).1 hok.2.1 hg
  have g1 : (X++[Zi.cells u.cells 1 false false])[X.length]?=some (.cells u.cells 1 false false):=ZZ
  have k1 : HLe X (X++[Zi.cells u.cells 1 false false]):=.app _ _
  generalize X++[Zi.cells u.cells 1 false false]=X1 at g1 k1 hf
  generalize X.length=b at g1 hf
  have d1:=hS.nd.hle k1
  have ok1:=hok.hle k1
  have a0 : ∀ f x,u.cells[f]?=some x→ld1 (pa b f) X1=some (x,X1):=fun f x h=>Q0 g1 h
  obtain ⟨X2,e2,m2,s2,_⟩:=d1.m.mup (k:=u.nm) (v:=(u.hs,u.ds))
  obtain ⟨d2,t2⟩:=d1.toND0.setA m2 s2
  have c2:=d1.toND0.cle t2
  have g2:=c2 _ _ _ _ _ g1
  have a4 : ld1 (pa b 4) X2=some (u.gv,X2):=Q0 g2 rfl
  have hs2:=ok1.1.cle c2
  have hul : Zx u.gv X2=some (iv u.gs.length,X2):=by have:=hs2.len (H':=X2);simpa using this
  have d2' : ND0 X2 d r { ({ s with A:=Qz u.nm (u.hs,u.ds) s.A } : NSt) with mem:=Kf (u.gs.take 0) u.nm s.mem } c:=by
   rw [List.take_zero,Zpj];exact d2
  obtain ⟨X3,e3,t3,h3⟩:=Zo9 (n:=n) (s:={ s with A:=Qz u.nm (u.hs,u.ds) s.A }) (gs:=gs) (z1:=sl) (z2:=iv us.length) (z3:=iv i) u1 u5 u6 u4 hfree hS.K u.gs.length 0 c X2 (by omega) (by omega) d2' g2 hs2
  rw [show iv ((0 : Nat) : Int)=.int .i64 0 from rfl,List.drop_zero] at e3
  rw [List.drop_zero] at h3
  obtain ⟨q1,q2⟩:=(hS.le.trans k1).more (t2.trans t3) hS.own
  have hbody : ∀ o Z,jn (Zj (c8 (Qn.l3 (R (n+11)))) [pt d,pt b,sl,iv us.length,iv i,u.gv,iv u.gs.length,(Value.int .i64 0)]) noN (xk 4 (c5 fun q45_0 q45_1 q45_2 q45_3 q45_4=>
    bind (Q9 q45_0) fun v73x46=>bind (fa 1 v73x46) fun v74x47=>bind (ld1 v74x47) fun v75x48=>bind (fa 0 q45_1) fun v76x49=>bind (ld1 v76x49) fun v77x50=>bind (fa 2 q45_1) fun v78x51=>bind (ld1 v78x51) fun v79x52=>
    bind (R (n+11) J3 [v75x48,v77x50,v79x52]) fun v80x53=>bind (bop .int .neq v80x53 (Value.int .i64 0)) fun v82x54=>
    cnd v82x54 (ret (.ret (Value.tuple #[(Value.pointer none),v80x53]))) (bind (bop .int .add q45_4 (Value.int .i64 1)) fun v84x55=>ret (.nrm [q45_0,q45_2,q45_3,v84x55]))) noX) QH X2=some (o,Z)→c4 (Qn.l2 (R (n+11))) [pt d,sl,iv us.length,iv i] X=some (o,Z):=fun o Z h=>by
   rw [ZA]
   unfold Qn.l2
   rw [Za Zg,Zb,if_pos (by simpa using hlt),hf,Za Zw,Za Zk,Za d1.l0,Za Zk,Za (a0 0 _ rfl),Za Zk,Za (a0 1 _ rfl),Za Zk,Za (a0 3 _ rfl),Za Zsy,Za e2,Za Zk,Za a4,Za hul]
   exact h
  rw [hdr]
  unfold KL Zey
  cases ha : u.gs.all fun g=>decide (g∈gs)
  ·rw [ha] at e3
   simp only [Bool.false_eq_true,if_false]
   exact ⟨X3,_,ZU (hbody _ _ ((Qr e3).trans rfl)),q1,rfl⟩
  ·rw [ha] at e3
   simp only [if_true]
   obtain ⟨c3,d3⟩:=h3 ha
   have c23:=d2.cle t3
   have g3:=c23 _ _ _ _ _ g2
   have l0 : ld1 (pa b 0) X3=some (strv u.nm,X3):=Q0 g3 rfl
   have l2 : ld1 (pa b 2) X3=some (strv u.ml,X3):=Q0 g3 rfl
   obtain ⟨X4,e4,i4,s4⟩:=ZoA (n:=n+2) (k:=u.nm) (m:=u.ml) d3.ix
   have e4 : R (n+11) J3 [pt r.x,strv u.nm,strv u.ml] X3=some (iv (Kc u.nm u.ml s.OW),X4):=e4
   obtain ⟨d4,t4⟩:=d3.setI i4 s4
   obtain ⟨q3,q4⟩:=q1.more t4 q2
   have hE:=Zq2 hS.ok hP hu hnone
   by_cases hp : u.ml≠[]∧(us.take i).any (fun w=>u.ml==w.ml)=true
   ·rw [if_pos hp] at hE
    simp only [if_pos hp]
    rw [hE] at e4
    refine ⟨X4,_,ZU (hbody (.ret (.tuple #[.pointer none,iv 9])) X4 ?_),q3,rfl⟩
    rw [ZM e3,Zu,Z7,Za Zw,Za Zk,Za d3.l1,Za Zk,Za l0,Za Zk,Za l2,Za e4,Za Zn,Zb,if_pos (by simp)]
    rfl
   ·rw [if_neg hp] at hE
    simp only [if_neg hp,if_true]
    rw [hE] at e4
    have hgs : ∀ g∈u.gs,g∈s.K:=fun g hgm=>by
     rw [hS.K]
     simpa using List.all_eq_true.1 ha g hgm
    have hadd:=Zph hP.i hu hgs hP.k.nod hnone hfree hE
    have hd4 : ND X4 d r (ZlJ u s) c3:=⟨d4,hP.i.add hu (by omega) hE⟩
    have hok4 : ROK (ZlJ u s) (us.take (i+1)):=by
     rw [Zfm hg,← ZjX hrp]
     exact hS.ok.put (by rw [hadd,if_pos rfl]) (fun x hx=>by rw [hadd,if_neg hx])
    obtain ⟨X5,o5,e5,k5,h5⟩:=Zor hn hA h2 hris t (i+1) (ZlJ u s) c3 X4 (by omega) (by omega) ⟨q3,hd4,q4,hS.K,hok4⟩
    rw [Zfm hg] at h5
    refine ⟨X5,o5,(Zv (hbody _ X4 ?_)).trans e5,k5,h5⟩
    rw [ZM e3,Zu,Z7,Za Zw,Za Zk,Za d3.l1,Za Zk,Za l0,Za Zk,Za l2,Za e4,Za Zn,Zb,if_neg (by simp),Za Zs,Qb (by omega)]
    rfl
theorem ZnZ (h : Zdl us gs=0) : J4 us=0∧JG (us.map (·.nm))=true∧us.length≤12∧gs.all Zo=true∧JG gs=true∧gs.length≤6:=by
 unfold Zdl ZeO at h
 by_cases h1 : J4 us=0
 ·simp only [if_pos h1] at h
  cases h2 : JG (us.map (·.nm))
  ·rw [h2] at h;simp at h
  ·rw [h2] at h
   by_cases h3 : 12 < us.length
   ·simp [h3] at h
   ·cases h4 : gs.all Zo <;> cases h5 : JG gs <;> rw [h4,h5] at h <;> by_cases h6 : 6 < gs.length <;> simp [h3,h6] at h
    exact ⟨h1,rfl,by omega,rfl,rfl,by omega⟩
 ·simp only [if_neg h1] at h
  exact absurd h h1
theorem ZoV (hn : us.length≤1000) (hl : gs.length≤1000000) (hA : QM X sl us) (hs : Sl X gv (gs.map strv)) : ∃ X',HLe X X'∧(if Zan us gs=0 then ∃ d r s c,R (n+12) ZaW [sl,gv] X=some (.tuple #[pt d,iv 0],X')∧OfS X X' d r s c gs us else R (n+12) ZaW [sl,gv] X=some (.tuple #[.pointer none,iv (Zan us gs)],X')):=by
 obtain ⟨X1,e1,k1⟩:=Zlp (n:=n) hn hl hA hs
 have f1 : ∀ r X',Qn (R (n+11)) sl gv X=some (r,X')→R (n+12) ZaW [sl,gv] X=some (r,X'):=fun r X' hr=>by rw [R,ZmC rfl];exact hr
 unfold Zan
 by_cases hc : Zdl us gs=0
 ·obtain ⟨c1,c2,c3,c4,c5,c6⟩:=ZnZ hc
  rw [hc] at e1
  simp only [if_pos hc]
  have q1 : bop .int .neq (iv 0) (.int .i64 0) X1=some (.bool false,X1):=by rw [Zn];rfl
  obtain ⟨X2,d,r,e2,D2,l2,o1,o2⟩:=ZoF (n:=n+9) (X:=X1)
  have e2 : R (n+11) Wz [] X1=_:=e2
  have k2:=k1.trans l2
  have hgn : Zx gv X2=some (iv gs.length,X2):=by have:=hs.len (H':=X2);simpa using this
  obtain ⟨X3,r3,e3,k3,D3,o3⟩:=Zog (n:=n) (sl:=sl) hs c5 c4 c6 gs.length 0 r X2 (by omega) (by omega) k2 D2 (fun i hi=>Nat.le_trans k1.len (o2 i hi))
  rw [show iv ((0 : Nat) : Int)=.int .i64 0 from rfl] at e3
  have hlen : Zx sl X3=some (iv us.length,X3):=by have:=hA.1.len (H':=X3);rwa [List.length_map] at this
  have hS : OfS X X3 d r3 (nGs gs) 0 gs (us.take 0):=⟨k3,D3,o3,rfl,⟨List.Pairwise.nil,fun key=>by simp [Yb,nGs,Ze]⟩⟩
  obtain ⟨X4,o,e4,k4,h4⟩:=Zor (n:=n) c3 hA (Zj0 c1) c2 us.length 0 (nGs gs) 0 X3 (by omega) (by omega) hS
  rw [show iv ((0 : Nat) : Int)=.int .i64 0 from rfl] at e4
  rw [List.take_zero,List.drop_zero] at h4
  refine ⟨X4,k4,?_⟩
  by_cases hz : KL gs [] us=0
  ·rw [if_pos hz] at h4 ⊢
   obtain ⟨rfl,s',c',hS'⟩:=h4
   refine ⟨d,r3,s',c',f1 _ _ ?_,hS'⟩
   unfold Qn
   rw [Za e1,Za q1,Zb,if_neg (by simp),Za e2,Za hgn,ZM e3,Zu,Z4,Za hlen,ZM e4,Zu]
   rfl
  ·rw [if_neg hz] at h4 ⊢
   subst h4
   refine f1 _ _ ?_
   unfold Qn
   rw [Za e1,Za q1,Zb,if_neg (by simp),Za e2,Za hgn,ZM e3,Zu,Z4,Za hlen,Qr e4]
   rfl
 ·simp only [if_neg hc]
  have q1 : bop .int .neq (iv (Zdl us gs)) (.int .i64 0) X1=some (.bool true,X1):=by rw [Zn];simp [hc]
  refine ⟨X1,k1,f1 _ _ ?_⟩
  unfold Qn
  rw [Za e1,Za q1,Zb,if_pos rfl]
  rfl
end
end Go.Proofs.YtnnehafmjfmbnaaGreatDoor.A

namespace Go.Proofs.YtnnehafmjfmbnaaGreatDoor.A
set_option linter.unusedVariables false
set_option linter.unusedSimpArgs false
open Go.Proofs Go.Proofs.YtnnehafmjfmbnaaGreatDoor
section
variable {X X' H H0 : Zc} {n d c w : Nat} {r : NR} {uv gv sl : Value} {s : NSt} {u : Zbm} {ac : List Zbm}
end
end Go.Proofs.YtnnehafmjfmbnaaGreatDoor.A

namespace Go.Proofs.YtnnehafmjfmbnaaGreatDoor.A
set_option linter.unusedVariables false
set_option linter.unusedSimpArgs false
open Go.Proofs Go.Proofs.YtnnehafmjfmbnaaGreatDoor
section
variable {X X' H H0 : Zc} {n d c w : Nat} {r : NR} {uv gv sl : Value} {s : NSt} {u : Zbm} {ac : List Zbm} {x1 x2 x3 x4 : Tx}
theorem ZrX {β : Type} {p q : Bool} {m : M (List Value)} {u v : Value} {k : Value→M β} (hm : m X=some ([u,v,.bool q],X)) : bind (ZO (.bool p) false 3 m) (c3 fun _ _ t=>bind (pick (.bool p) (.bool true) t) k) X=k (.bool (p || q)) X:=by
 cases p
 ·rw [ZQ,Za hm,ZN,Za Zh];rfl
 ·rw [Za (g_r.trans (if_neg (by simp)))]
  simp only [List.replicate]
  rw [ZN,Za Zh];rfl
end
end Go.Proofs.YtnnehafmjfmbnaaGreatDoor.A

namespace Go.Proofs.YtnnehafmjfmbnaaGreatDoor.A
set_option linter.unusedVariables false
set_option linter.unusedSimpArgs false
open Go.Proofs Go.Proofs.YtnnehafmjfmbnaaGreatDoor
section
variable {X X' X0 H H0 : Zc} {n p d b c i : Nat} {r : NR} {s : NSt} {v sl gv ugv zl : Value} {l gs : List Tx} {m k g : Tx} {u w : Zm} {us ws prev : List Zm} {q : List Nat}
theorem ZC.frozen {vs : List Value} (h : ZC X v vs q) {es : List Value} {e : Nat} {g : Bool} {j : Nat} (hj : j∈q) : X[j]?≠some (.cells es e g true):=fun hx=>by
 rcases h with ⟨_,rfl,_⟩ | ⟨sid,rest,g',_,rfl,hid⟩
 ·cases hj
 ·simp only [List.mem_singleton] at hj
  subst hj
  rw [hid] at hx
  cases hx
theorem Zp5 {vs : List Value} (hs : Sl X gv vs) (hn : vs.length≤1000) : ∃ x X1 v X2 q,bsl 1 0 (.string ⟨#[]⟩) [] X=some (x,X1)∧HLe X X1∧app 1 16 x gv X1=some (v,X2)∧ZC X2 v vs q∧HLe X1 X2∧∀ j∈q,X.length≤j:=by
 have e0 : bsl 1 0 (.string ⟨#[]⟩) [] X=some (.slice (some ⟨X.length,0,none⟩) 0 0,X++[.cells [] 1 false false]):=rfl
 have k0 : HLe X (X++[Zi.cells [] 1 false false]):=.app _ _
 have b0 : (X++[Zi.cells [] 1 false false])[X.length]?=some (.cells [] 1 false false):=ZZ
 have hl0 : X.length < (X++[Zi.cells [] 1 false false]).length:=by simp
 have hs1:=hs.mono k0
 generalize X++[Zi.cells [] 1 false false]=X1 at e0 k0 b0 hl0 hs1
 have hf : Qq 1 X1 gv=some vs:=by
  obtain ⟨a,c,rfl,h0,hf⟩:=hs1
  exact hf
 have hfl : flen gv=vs.length:=by
  obtain ⟨a,c,rfl,h0,hf⟩:=hs1
  rfl
 by_cases hv : vs.length=0
 ·have hv0 : vs=[]:=List.eq_nil_of_length_eq_zero hv
  subst hv0
  refine ⟨_,X1,.slice (some ⟨X.length,0,none⟩) 0 0,X1,[X.length],e0,k0,?_,.inr ⟨X.length,[],false,rfl,rfl,b0⟩,.refl _,by simp⟩
  unfold app
  rw [hf]
  simp only [hfl]
  simp [b0]
 ·refine ⟨_,X1,.slice (some ⟨X1.length,0,none⟩) vs.length vs.length,X1++[.cells vs 1 true false],[X1.length],e0,k0,?_,.inr ⟨X1.length,[],true,rfl,rfl,by rw [ZZ];simp⟩,.app _ _,by simp;omega⟩
  unfold app
  rw [hf]
  simp only [hfl,b0]
  rw [if_pos trivial,if_neg (by omega),if_pos ⟨rfl,by simp,by omega,by omega⟩]
  simp
abbrev Zm.cop (u : Zm) (gv : Value) : Zm:=⟨u.nm,u.hs,u.ml,u.ds,gv,u.gs⟩
theorem ZrQ (h : QM H sl us) : ∀ Y,Zx sl Y=some (iv us.length,Y):=fun Y=>by
 have:=h.1.len (H':=Y)
 rwa [List.length_map] at this
theorem Zn0 {z0 z1 : Value} (hn : us.length≤30) (hA : Yx H0 sl us) : ∀ (t j : Nat) (sw : Value) (q : List Nat) (acc : List Zm) (X : Zc),us.length - j=t→j≤us.length→acc.length≤j→HLe H0 X→ZaS H0 X sw acc q→
  ∃ X' o,Zj (c6 (Zl.l1 (R (n+12)))) [z0,z1,sw,sl,iv us.length,iv j] X=some (o,X')∧HLe H0 X'∧(o=.ret (.bool true)∨∃ sw' q' acc',o=.ext 0 [z0,z1,sw']∧ZaS H0 X' sw' (acc++acc') q'∧acc'.map QA=(us.drop j).map QA∧∀ u∈us.drop j,u.gs.length≤20)
 | 0,j,sw,q,acc,X,ht,hj,ha,hle,ho=>by
  rw [List.drop_eq_nil_of_le (by omega)]
  refine ⟨X,.ext 0 [z0,z1,sw],ZD ?_,hle,.inr ⟨sw,q,[],rfl,by rw [List.append_nil];exact ho,rfl,by simp⟩⟩
  rw [QL,show j=us.length by omega]
  unfold Zl.l1
  rw [Za Zg,Zb,if_neg (by simp)]
  rfl
 | t+1,j,sw,q,acc,X,ht,hj,ha,hle,ho=>by
  have hjl : j < us.length:=by omega
  have hlt : (j : Int) < us.length:=by omega
  have hg:=List.getElem?_eq_getElem hjl
  have hd:=List.drop_eq_getElem_cons hjl
  generalize us[j]=u at hg hd
  have hf:=fun {K : Value→M Out}=>(hA.mono hle).fetch (k:=K) hg
  have hok:=(hA.mono hle).2 u (List.mem_of_getElem? hg)
  have g1 : (X++[Zi.cells u.cells 1 false false])[X.length]?=some (.cells u.cells 1 false false):=ZZ
  have k1 : HLe X (X++[Zi.cells u.cells 1 false false]):=.app _ _
  have hq1 : ∀ i∈q,i < X.length:=ho.r.lt
  generalize X++[Zi.cells u.cells 1 false false]=X1 at g1 k1 hf
  have d1 : ldA 5 (pt X.length) X1=some (.agg u.cells.toArray,X1):=WD (n:=5) g1 rfl
  have hok1 : u.ok X1:=GV.mono hok k1
  obtain ⟨fb,X2,e2,k2,f2⟩:=ZqW (n:=n+11) hok1
  have e2 : R (n+12) ZbA [.agg u.cells.toArray] X1=_:=e2
  have g2:=k2 _ _ g1
  rw [hd]
  cases fb
  ·refine ⟨X2,.ret (.bool true),ZU ?_,(hle.trans k1).trans k2,.inl rfl⟩
   rw [QL]
   unfold Zl.l1
   rw [Za Zg,Zb,if_pos (by simpa using hlt),hf,Za d1,Za e2,Za ZE,Zb,if_pos (by rfl)]
   rfl
  ·have h20:=f2 rfl
   have a4 : ∀ Y,HLe X2 Y→ld1 (pa X.length 4) Y=some (u.gv,Y):=fun Y hy=>Q0 (hy _ _ g2) rfl
   have hs2 : Sl X2 u.gv (u.gs.map strv):=GV.sl (GV.mono hok1 k2)
   obtain ⟨x,X3,v4,X4,q4,b1,k3,b2,r4,k4,o4⟩:=Zp5 hs2 (by rw [List.length_map];omega)
   have g4:=k4 _ _ (k3 _ _ g2)
   have w4 : st1 (pa X.length 4) v4 X4=some (undef,X4.set X.length (.cells (Zm.cells (u.cop v4)) 1 false false)):=ZrK (o:=4) g4 (by simp) r4.one.1
   have hlX : X.length < X2.length:=by have:=Yv g1;have:=k2.len;omega
   have g5:=Jc (b:=Zi.cells (Zm.cells (u.cop v4)) 1 false false) g4
   have kX4:=((k1.trans k2).trans k3).trans k4
   have k5 : HLe X (X4.set X.length (.cells (Zm.cells (u.cop v4)) 1 false false)):=kX4.putB (Nat.le_refl _)
   have r5 : ZC (X4.set X.length (.cells (Zm.cells (u.cop v4)) 1 false false)) v4 (u.gs.map strv) q4:=r4.keep fun i hi=>List.getElem?_set_ne (by have:=o4 i hi;omega)
   generalize X4.set X.length (.cells (Zm.cells (u.cop v4)) 1 false false)=X5 at w4 g5 k5 r5
   have d5 : ldA 5 (pt X.length) X5=some (.agg (Zm.cells (u.cop v4)).toArray,X5):=WD (n:=5) g5 rfl
   obtain ⟨y,X6,sw',X7,q',c1,c2,ho7,l7⟩:=(ho.hle k5).push (w:=u.cop v4) (by omega) r5 (fun i hi=>⟨by have:=o4 i hi;have:=hle.len;omega,fun hm=>by have:=hq1 i hm;have:=o4 i hi;omega⟩) (show u.gs.length≤1000 by omega) (fun a ha i hi hm=>by obtain ⟨qa,b1,_,_⟩:=ho.u a ha;have h1:=b1.lt i (b1.own_of hi);have h2:=o4 i hm;omega) (hle.trans k5)
   obtain ⟨X8,o8,e8,k8,h8⟩:=Zn0 hn hA t (j+1) sw' q' (acc++[u.cop v4]) X7 (by omega) (by omega) (by rw [List.length_append,List.length_singleton];omega) l7 ho7
   refine ⟨X8,o8,(Zv ?_).trans e8,k8,?_⟩
   ·rw [QL]
    unfold Zl.l1
    rw [Za Zg,Zb,if_pos (by simpa using hlt),hf,Za d1,Za e2,Za ZE,Zb,if_neg (by simp),Za b1,Za Zk,Za (a4 _ k3),Za b2,Za Zk,Za w4,Za d5,Za c1,Za c2,Za Zs,Qb (by omega)]
    rfl
   ·rcases h8 with h8 | ⟨sw8,q8,acc8,rfl,o8',u8,f8⟩
    ·exact .inl h8
    ·refine .inr ⟨sw8,q8,u.cop v4 :: acc8,rfl,by rw [List.append_assoc] at o8';exact o8',?_,fun v hv=>?_⟩
     ·rw [List.map_cons,List.map_cons,u8];rfl
     ·rcases List.mem_cons.1 hv with rfl | hv
      ·exact h20
      ·exact f8 v hv
theorem Zon {z0 z2 : Value} (hl : gs.length≤20) (hs : Sl X gv (gs.map strv)) : ∀ (t j : Nat),gs.length - j=t→j≤gs.length→
  ∃ o,Zj (c6 (Zl.l2 (R (n+12)))) [z0,gv,z2,gv,iv gs.length,iv j] X=some (o,X)∧(o=.ret (.bool true)∨o=.ext 2 [z0,gv,z2])
 | 0,j,ht,hj=>by
  refine ⟨.ext 2 [z0,gv,z2],ZD ?_,.inr rfl⟩
  rw [QL,show j=gs.length by omega]
  unfold Zl.l2
  rw [Za Zg,Zb,if_neg (by simp)]
  rfl
 | t+1,j,ht,hj=>by
  have hkl : j < gs.length:=by omega
  have hlt : (j : Int) < gs.length:=by omega
  have hg:=List.getElem?_eq_getElem hkl
  generalize gs[j]=y at hg
  have x1:=hs.ix (i:=j) (by simpa using hkl) .i64 X
  have x2:=hs.ldx (Q3 hg)
  by_cases h : (y.length : Int) > 50
  ·refine ⟨_,ZU (v:=.bool true) ?_,.inl rfl⟩
   rw [QL]
   unfold Zl.l2
   rw [Za Zg,Zb,if_pos (by simpa using hlt),Za x1,Za x2,Za Zz,Za ZR,Zb,if_pos (by simpa using h)]
   rfl
  ·obtain ⟨o,e,ho⟩:=Zon (z0:=z0) (z2:=z2) hl hs t (j+1) (by omega) (by omega)
   refine ⟨o,(Zv ?_).trans e,ho⟩
   rw [QL]
   unfold Zl.l2
   rw [Za Zg,Zb,if_pos (by simpa using hlt),Za x1,Za x2,Za Zz,Za ZR,Zb,if_neg (by simpa using h),Za Zs,Qb (by omega)]
   rfl
structure Wr (X0 X : Zc) (sl : Value) (ws : List Zm) (q : List Nat) : Prop where
 r : Y0 5 X sl (ws.map Zm.cells) q
 o : ∀ j∈q,X0.length≤j
 u : ∀ w∈ws,∃ (vs : List Tx) (qu : List Nat),ZC X w.gv (vs.map strv) qu∧vs.length=w.gs.length∧(∀ j∈qu,X0.length≤j∧j∉q)∧w.gs.length≤1000
 un : ∀ a∈ws,∀ b∈ws,∀ i,own1 a.gv=some i→own1 b.gv=some i→a=b
theorem ZaS.wr (h : ZaS X0 X sl ws q) : Wr X0 X sl ws q:=⟨h.r,h.o,fun w hw=>by
 obtain ⟨qu,h1,h2,h3⟩:=h.u w hw
 exact ⟨w.gs,qu,h1,rfl,h2,h3⟩,h.un⟩
theorem Wr.hle (h : Wr X0 X sl ws q) (hl : HLe X X') : Wr X0 X' sl ws q:=⟨h.r.step hl.step (by simp),h.o,fun w hw=>by
 obtain ⟨vs,qu,h1,h2,h3,h4⟩:=h.u w hw
 exact ⟨vs,qu,h1.step hl.step (by simp),h2,h3,h4⟩,h.un⟩
theorem Wr.gvAt (h : Wr X0 X sl ws q) (hi : ws[i]?=some w) : ∃ id o,ixa 5 sl (iv i) X=some (pa id o,X)∧ld1 (pa id (o+4)) X=some (w.gv,X):=by
 obtain ⟨id,o,cs,e,g,ro,e1,e2,e3,e4,_⟩:=h.r.rd.at (i:=i) (r:=w.cells) (by rw [List.getElem?_map,hi];rfl) (by omega) .i64
 refine ⟨id,o,e1 X,?_⟩
 rw [Qa,e2,Q1]
 have : cs[o+4]?=some w.gv:=by
  have h0 : ((cs.drop o).take 5)[4]?=some w.gv:=by rw [e3];rfl
  rw [List.getElem?_take,if_pos (by omega),List.getElem?_drop] at h0
  exact h0
 rw [this];rfl
theorem Wr.put (h : Wr X0 X sl ws q) (hw : w∈ws) {j : Nat} (hj : j < w.gs.length) {x : Tx} : ∃ X' sid y rest es g ro ob,ixa 1 w.gv (iv j) X=some (ixp w.gv j,X)∧st1 (ixp w.gv j) (strv x) X=some (undef,X')∧X[sid]?=some (.cells (strv y :: rest) es g ro)∧X'=X.set sid ob∧X0.length≤sid∧Wr X0 X' sl ws q:=by
 obtain ⟨vs,qu,h1,h2,h3,h4⟩:=h.u w hw
 have hjl : j < vs.length:=by omega
 obtain ⟨X',e1,r1,s1,hlen⟩:=h1.stx (i:=j) (u:=strv x) (by simpa using hjl) rfl
 have x1:=h1.ix (i:=j) (by simpa using hjl) .i64 X
 have hset : (vs.map strv).set j (strv x)=(vs.set j x).map strv:=by rw [List.map_set]
 rw [hset] at r1
 have h1':=h1
 rcases h1 with ⟨h0,_,_⟩ | ⟨sid,rest,g',hgv,rfl,hid⟩
 ·simp at h0;simp [h0] at hjl
 ·have hown : own1 w.gv=some sid:=by rw [hgv];rfl
  have hsid:=h3 sid (by simp)
  obtain ⟨y,vs',rfl⟩ : ∃ y vs',vs=y :: vs':=by
   cases vs with
   | nil=>simp at hjl
   | cons y vs'=>exact ⟨y,vs',rfl⟩
  have hX : X'=X.set sid (.cells (((y :: vs').set j x).map strv++rest) 1 g' false):=by
   have e2:=e1
   have hixp : ixp w.gv j=pa sid (j * 1):=by
    have:=(h1'.ix (i:=j) (by simpa using hjl) .i64 X).symm.trans (show ixa 1 w.gv (iv j) X=_ from by rw [hgv,QX,if_pos ⟨by omega,by rw [List.length_map];omega⟩])
    have:=(Prod.mk.inj (Option.some.inj this)).1
    rw [this]
    congr 3
    simp
   rw [hixp] at e2
   rw [Qi,hid,Jb] at e2
   split at e2
   ·rename_i hc
    have:=(Prod.mk.inj (Option.some.inj e2)).2
    rw [← this]
    congr 2
    rw [Nat.mul_one,List.set_append_left _ _ (by simpa using hjl),hset]
   ·cases e2
  refine ⟨X',sid,y,vs'.map strv++rest,1,g',false,_,x1,e1,hid,hX,hsid.1,h.r.step s1 (fun j hj ho=>?_),h.o,fun a ha=>?_,h.un⟩
  ·simp only [List.mem_singleton] at ho
   subst ho
   exact hsid.2 hj
  ·by_cases hao : own1 a.gv=some sid
   ·have : a=w:=h.un a ha w hw sid hao hown
    subst this
    exact ⟨(y :: vs').set j x,[sid],r1,by rw [List.length_set];exact h2,h3,h4⟩
   ·obtain ⟨va,qa,a1,a2,a3,a4⟩:=h.u a ha
    refine ⟨va,qa,a1.step s1 fun j hj ho=>?_,a2,a3,a4⟩
    simp only [List.mem_singleton] at ho
    subst ho
    rcases a1 with ⟨_,rfl,_⟩ | ⟨sid2,_,_,hgv2,rfl,_⟩
    ·cases hj
    ·simp only [List.mem_singleton] at hj
     subst hj
     exact hao (by rw [hgv2];rfl)
theorem ND.setS (hd : ND X d r s c) {sid es : Nat} {y : Tx} {rest : List Value} {g ro : Bool} {ob : Zi} (hw : X[sid]?=some (.cells (strv y :: rest) es g ro)) : ND (X.set sid ob) d r s c:=by
 refine hd.step (o1:=[sid]) (o2:=[sid]) ⟨by simp,fun i hi hn=>List.getElem?_set_ne (fun e=>hn (by simp [e])),fun i hi=>.inl hi⟩ ?_ ?_ ?_ ?_
 ·rw [List.mem_singleton]
  intro e
  have h:=hd.cell
  rw [e,hw] at h
  cases h
 ·rw [List.mem_singleton]
  intro e
  have h:=hd.ix.c
  rw [e,hw] at h
  cases h
 ·rw [List.mem_singleton]
  intro e
  have h:=hd.gr.cell
  rw [e,hw] at h
  cases h
 ·intro j hj hm
  rw [List.mem_singleton] at hm
  subst hm
  exact (hd.isMap hj).2 _ _ _ _ hw
theorem ZoW {z0 z1 : Value} (hw : ws[i]?=some w) : ∀ (t j : Nat) (X : Zc),w.gs.length - j=t→j≤w.gs.length→HLe H0 X→Wr H0 X sl ws q→ND X d r s c→
  ∃ X',Zj (c9 (Zl.l4 (R (n+12)))) [z0,z1,sl,pt d,iv i,iv ws.length,iv i,iv w.gs.length,iv j] X=some (.ext 6 [z0,z1,sl,pt d,iv ws.length,iv i],X')∧HLe H0 X'∧Wr H0 X' sl ws q∧ND X' d r s c
 | 0,j,X,ht,hj,hle,hW,hd=>by
  refine ⟨X,ZD ?_,hle,hW,hd⟩
  rw [JS,show j=w.gs.length by omega]
  unfold Zl.l4
  rw [Za Zg,Zb,if_neg (by simp)]
  rfl
 | t+1,j,X,ht,hj,hle,hW,hd=>by
  have hkl : j < w.gs.length:=by omega
  have hlt : (j : Int) < w.gs.length:=by omega
  have hwm:=List.mem_of_getElem? hw
  obtain ⟨id,o,x1,x2⟩:=hW.gvAt hw
  obtain ⟨X1,sid,y,rest,es,g,ro,ob,x3,e1,hid,rfl,hsid,hW1⟩:=hW.put (x:=[122,122,122]) hwm hkl
  obtain ⟨X2,e2,k2,hW2,hd2⟩:=ZoW (z0:=z0) (z1:=z1) hw t (j+1) _ (by omega) (by omega) (hle.setN hsid) hW1 (hd.setS hid)
  obtain ⟨_,_,_,h1000⟩ : ∃ (vs : List Tx) (qu : List Nat),ZC X w.gv (vs.map strv) qu∧w.gs.length≤1000:=by
   obtain ⟨vs,qu,a1,_,_,a4⟩:=hW.u w hwm
   exact ⟨vs,qu,a1,a4⟩
  refine ⟨X2,(Zv ?_).trans e2,k2,hW2,hd2⟩
  have e1 : st1 (ixp w.gv j) (.string ⟨#[122,122,122]⟩) X=some (undef,_):=e1
  rw [JS]
  unfold Zl.l4
  rw [Za Zg,Zb,if_pos (by simpa using hlt),Za x1,Za JM,Za x2,Za x3,Za e1,Za Zs,Qb (by omega)]
  rfl
theorem Zqe {z0 z1 : Value} (hn : ws.length≤1000) : ∀ (t i : Nat) (X : Zc),ws.length - i=t→i≤ws.length→HLe H0 X→Wr H0 X sl ws q→ND X d r s c→
  ∃ X',Zj (c6 (Zl.l3 (R (n+12)))) [z0,z1,sl,pt d,iv ws.length,iv i] X=some (.ext 4 [z0,z1,pt d],X')∧HLe H0 X'∧ND X' d r s c
 | 0,i,X,ht,hi,hle,hW,hd=>by
  refine ⟨X,ZD ?_,hle,hd⟩
  rw [QL,show i=ws.length by omega]
  unfold Zl.l3
  rw [Za Zg,Zb,if_neg (by simp)]
  rfl
 | t+1,i,X,ht,hi,hle,hW,hd=>by
  have hkl : i < ws.length:=by omega
  have hlt : (i : Int) < ws.length:=by omega
  have hg:=List.getElem?_eq_getElem hkl
  generalize ws[i]=w at hg
  have hwm:=List.mem_of_getElem? hg
  obtain ⟨id,o,x1,x2⟩:=hW.gvAt hg
  have hlen : Zx w.gv X=some (iv w.gs.length,X):=by
   obtain ⟨vs,qu,a1,a2,_,_⟩:=hW.u w hwm
   have:=a1.rd.len (H':=X)
   rw [List.length_map,a2] at this
   exact this
  obtain ⟨X1,e1,k1,hW1,hd1⟩:=ZoW (n:=n) (z0:=z0) (z1:=z1) hg w.gs.length 0 X (by omega) (by omega) hle hW hd
  rw [show iv ((0 : Nat) : Int)=.int .i64 0 from rfl] at e1
  obtain ⟨X2,e2,k2,hd2⟩:=Zqe (z0:=z0) (z1:=z1) hn t (i+1) X1 (by omega) (by omega) k1 hW1 hd1
  refine ⟨X2,(Zv ?_).trans e2,k2,hd2⟩
  rw [QL]
  unfold Zl.l3
  rw [Za Zg,Zb,if_pos (by simpa using hlt),Za x1,Za JM,Za x2,Za hlen,ZM e1,Zu,QL,Za Zs,Qb (by omega)]
  rfl
theorem Zpf {z0 z1 : Value} (hw : ws[i]?=some w) : ∀ (t j : Nat) (X : Zc),w.gs.length - j=t→j≤w.gs.length→HLe H0 X→Wr H0 X sl ws q→ND X d r s c→
  ∃ X',Zj (c9 (Zl.l6 (R (n+12)))) [z0,z1,pt d,sl,iv i,iv ws.length,iv i,iv w.gs.length,iv j] X=some (.ext 10 [z0,z1,pt d,sl,iv ws.length,iv i],X')∧HLe H0 X'∧Wr H0 X' sl ws q∧ND X' d r s c
 | 0,j,X,ht,hj,hle,hW,hd=>by
  refine ⟨X,ZD ?_,hle,hW,hd⟩
  rw [JS,show j=w.gs.length by omega]
  unfold Zl.l6
  rw [Za Zg,Zb,if_neg (by simp)]
  rfl
 | t+1,j,X,ht,hj,hle,hW,hd=>by
  have hkl : j < w.gs.length:=by omega
  have hlt : (j : Int) < w.gs.length:=by omega
  have hwm:=List.mem_of_getElem? hw
  obtain ⟨id,o,x1,x2⟩:=hW.gvAt hw
  obtain ⟨X1,sid,y,rest,es,g,ro,ob,x3,e1,hid,rfl,hsid,hW1⟩:=hW.put (x:=[121,121,121]) hwm hkl
  obtain ⟨X2,e2,k2,hW2,hd2⟩:=Zpf (z0:=z0) (z1:=z1) hw t (j+1) _ (by omega) (by omega) (hle.setN hsid) hW1 (hd.setS hid)
  obtain ⟨_,_,_,h1000⟩ : ∃ (vs : List Tx) (qu : List Nat),ZC X w.gv (vs.map strv) qu∧w.gs.length≤1000:=by
   obtain ⟨vs,qu,a1,_,_,a4⟩:=hW.u w hwm
   exact ⟨vs,qu,a1,a4⟩
  refine ⟨X2,(Zv ?_).trans e2,k2,hW2,hd2⟩
  have e1 : st1 (ixp w.gv j) (.string ⟨#[121,121,121]⟩) X=some (undef,_):=e1
  rw [JS]
  unfold Zl.l6
  rw [Za Zg,Zb,if_pos (by simpa using hlt),Za x1,Za JM,Za x2,Za x3,Za e1,Za Zs,Qb (by omega)]
  rfl
theorem Zqf {z0 z1 : Value} (hn : ws.length≤1000) : ∀ (t i : Nat) (X : Zc),ws.length - i=t→i≤ws.length→HLe H0 X→Wr H0 X sl ws q→ND X d r s c→
  ∃ X',Zj (c6 (Zl.l5 (R (n+12)))) [z0,z1,pt d,sl,iv ws.length,iv i] X=some (.ext 8 [z0,z1,pt d],X')∧HLe H0 X'∧ND X' d r s c
 | 0,i,X,ht,hi,hle,hW,hd=>by
  refine ⟨X,ZD ?_,hle,hd⟩
  rw [QL,show i=ws.length by omega]
  unfold Zl.l5
  rw [Za Zg,Zb,if_neg (by simp)]
  rfl
 | t+1,i,X,ht,hi,hle,hW,hd=>by
  have hkl : i < ws.length:=by omega
  have hlt : (i : Int) < ws.length:=by omega
  have hg:=List.getElem?_eq_getElem hkl
  generalize ws[i]=w at hg
  have hwm:=List.mem_of_getElem? hg
  obtain ⟨id,o,x1,x2⟩:=hW.gvAt hg
  have hlen : Zx w.gv X=some (iv w.gs.length,X):=by
   obtain ⟨vs,qu,a1,a2,_,_⟩:=hW.u w hwm
   have:=a1.rd.len (H':=X)
   rw [List.length_map,a2] at this
   exact this
  obtain ⟨X1,e1,k1,hW1,hd1⟩:=Zpf (n:=n) (z0:=z0) (z1:=z1) hg w.gs.length 0 X (by omega) (by omega) hle hW hd
  rw [show iv ((0 : Nat) : Int)=.int .i64 0 from rfl] at e1
  obtain ⟨X2,e2,k2,hd2⟩:=Zqf (z0:=z0) (z1:=z1) hn t (i+1) X1 (by omega) (by omega) k1 hW1 hd1
  refine ⟨X2,(Zv ?_).trans e2,k2,hd2⟩
  rw [QL]
  unfold Zl.l5
  rw [Za Zg,Zb,if_pos (by simpa using hlt),Za x1,Za JM,Za x2,Za hlen,ZM e1,Zu,QL,Za Zs,Qb (by omega)]
  rfl
theorem Zr4 {a b : Nat} {H : Zc} : bop .int .gtr (iv a) (.int .i64 (b : Nat)) H=some (.bool (decide (b < a)),H):=by
 rw [ZR,show (decide ((a : Int) > (b : Nat)))=decide (b < a) from decide_eq_decide.2 (by omega)]
theorem Zp9 {us ws : List Zm} (h : us.map QA=ws.map QA) : Zan us gs=Zan ws gs:=by
 have hrest : ∀ (l l' p p' : List Zm),l.map QA=l'.map QA→p.map QA=p'.map QA→KL gs p l=KL gs p' l':=by
  intro l
  induction l with
  | nil=>
   intro l' p p' hl hp
   cases l' with
   | nil=>unfold KL;rfl
   | cons a b=>simp at hl
  | cons u l ih=>
   intro l' p p' hl hp
   cases l' with
   | nil=>simp at hl
   | cons w l'=>
    rw [List.map_cons,List.map_cons,List.cons.injEq] at hl
    have hg : u.gs=w.gs:=congrArg (·.2.2.2.2) hl.1
    have hm : u.ml=w.ml:=congrArg (·.2.2.1) hl.1
    have hany : p.any (fun v=>u.ml==v.ml)=p'.any (fun v=>w.ml==v.ml):=by
     have h1 : ∀ (p : List Zm) (m : Tx),p.any (fun v=>m==v.ml)=(p.map QA).any (fun v=>m==v.2.2.1):=fun p m=>by
      rw [List.any_map];rfl
     rw [h1,h1,hp,hm]
    have hpe : Zey gs p u=Zey gs p' w:=by
     unfold Zey
     rw [hg,hm]
     rw [hm] at hany
     rw [hany]
    unfold KL
    rw [hpe,ih l' (p++[u]) (p'++[w]) hl.2 (by rw [List.map_append,List.map_append,hp,List.map_singleton,List.map_singleton,hl.1])]
 have hfirst : ∀ (l l' : List Zm),l.map QA=l'.map QA→J4 l=J4 l':=by
  intro l
  induction l with
  | nil=>
   intro l' hl
   cases l' with
   | nil=>rfl
   | cons a b=>simp at hl
  | cons u l ih=>
   intro l' hl
   cases l' with
   | nil=>simp at hl
   | cons w l'=>
    rw [List.map_cons,List.map_cons,List.cons.injEq] at hl
    have he : Yy u=Yy w:=by
     have h1 : u.nm=w.nm:=congrArg (·.1) hl.1
     have h2 : u.hs=w.hs:=congrArg (·.2.1) hl.1
     have h3 : u.ml=w.ml:=congrArg (·.2.2.1) hl.1
     have h4 : u.gs=w.gs:=congrArg (·.2.2.2.2) hl.1
     unfold Yy
     rw [h1,h2,h3,h4]
    unfold J4
    rw [he,ih l' hl.2]
 have hnm : us.map (·.nm)=ws.map (·.nm):=by
  have h1:=congrArg (List.map (·.1)) h
  rw [List.map_map,List.map_map] at h1
  exact h1
 have hlen : us.length=ws.length:=by
  have h1:=congrArg List.length h
  rwa [List.length_map,List.length_map] at h1
 unfold Zan Zdl ZeO
 rw [hfirst us ws h,hnm,hlen,hrest us ws [] [] h rfl]
theorem ROK.keys {us ws : List Zm} (hO : ROK s us) (h : us.map QA=ws.map QA) : ROK s ws:=⟨by
 have h1:=congrArg (List.map (·.1)) h
 rw [List.map_map,List.map_map] at h1
 have h1 : us.map (·.nm)=ws.map (·.nm):=h1
 have h2 : (us.map (·.nm)).Pairwise (· < ·):=by rw [List.pairwise_map];exact hO.rise
 rw [h1,List.pairwise_map] at h2
 exact h2,fun key=>by rw [← h];exact hO.look key⟩
theorem Zpn (hA : Yx H sl us) (hC : ZiZ H sl us) (hs : Sl H gv (gs.map strv)) : ∃ H',R (n+13) We [sl,gv] H=some (.bool true,H'):=by
 have f1 : ∀ r X',Zl (R (n+12)) sl gv H=some (r,X')→R (n+13) We [sl,gv] H=some (r,X'):=fun r X' hr=>by rw [R,Zht rfl];exact hr
 obtain ⟨H1,e1,l1⟩:=Zlx (n:=n) (H:=H)
 obtain ⟨H1',e1',l1'⟩:=Zlx (n:=n) (H:=H1)
 have hgl : ∀ Y,Zx gv Y=some (iv gs.length,Y):=fun Y=>by have:=hs.len (H':=Y);simpa using this
 have q1 : (bind (Zx sl) fun v21x3=>bind (bop .int .gtr v21x3 (Value.int .i64 30)) fun v22x4=>ret [sl,v21x3,v22x4]) H1=some ([sl,iv us.length,.bool (decide (30 < us.length))],H1):=by
  rw [Za hA.len,Za (show bop .int .gtr (iv us.length) (.int .i64 30) H1=some (.bool (decide (30 < us.length)),H1) from Zr4 (b:=30))];rfl
 have q2 : (bind (Zx gv) fun v26x7=>bind (bop .int .gtr v26x7 (Value.int .i64 20)) fun v27x8=>ret [gv,v26x7,v27x8]) H1=some ([gv,iv gs.length,.bool (decide (20 < gs.length))],H1):=by
  rw [Za (hgl _),Za (show bop .int .gtr (iv gs.length) (.int .i64 20) H1=some (.bool (decide (20 < gs.length)),H1) from Zr4 (b:=20))];rfl
 have step : ∀ {k : Value→A.M Value},bind (uop .not (.bool true)) (fun v18x2=>
   bind (ZO v18x2 false 3 (bind (Zx sl) fun v21x3=>bind (bop .int .gtr v21x3 (Value.int .i64 30)) fun v22x4=>ret [sl,v21x3,v22x4])) (c3 fun _ _ q5_2=>
   bind (pick v18x2 (Value.bool true) q5_2) fun v23x6=>
   bind (ZO v23x6 false 3 (bind (Zx gv) fun v26x7=>bind (bop .int .gtr v26x7 (Value.int .i64 20)) fun v27x8=>ret [gv,v26x7,v27x8])) (c3 fun _ _ q9_2=>
   bind (pick v23x6 (Value.bool true) q9_2) k))) H1=k (.bool (decide (30 < us.length) || decide (20 < gs.length))) H1:=fun {k}=>by
  rw [Za ZE]
  simp only [Bool.not_true]
  rw [ZrX q1,ZrX q2]
  simp only [Bool.false_or]
 by_cases hz : 30 < us.length∨20 < gs.length
 ·have hz' : (decide (30 < us.length) || decide (20 < gs.length))=true:=by simpa using hz
  rw [hz'] at step
  refine ⟨H1',f1 _ _ ?_⟩
  unfold Zl
  rw [Za e1]
  refine step.trans ?_
  rw [Zb,if_pos rfl,Za e1']
  rfl
 ·have hz' : (decide (30 < us.length) || decide (20 < gs.length))=false:=by simpa [not_or] using hz
  rw [hz'] at step
  have h30 : us.length≤30:=by omega
  have h20 : gs.length≤20:=by omega
  have hA1:=hA.mono l1
  obtain ⟨H2,o2,e2,l2,h2⟩:=Zn0 (n:=n) (z0:=sl) (z1:=gv) h30 hA1 us.length 0 (.slice none 0 0) [] [] H1 (by omega) (by omega) (by simp) (.refl _) ⟨Y0.nil,by simp,by simp,by simp⟩
  rw [show iv ((0 : Nat) : Int)=.int .i64 0 from rfl] at e2
  rw [List.drop_zero] at h2
  rcases h2 with rfl | ⟨sw,q,ws,rfl,hO,hK,hF⟩
  ·refine ⟨H2,f1 _ _ ?_⟩
   unfold Zl
   rw [Za e1]
   refine step.trans ?_
   rw [Zb,if_neg (by simp),Za hA.len,Qr e2]
   rfl
  ·rw [List.nil_append] at hO
   have hs2:=hs.mono (l1.trans l2)
   obtain ⟨o3,e3,h3⟩:=Zon (n:=n) (z0:=sl) (z2:=sw) h20 hs2 gs.length 0 (by omega) (by omega)
   rw [show iv ((0 : Nat) : Int)=.int .i64 0 from rfl] at e3
   rcases h3 with rfl | rfl
   ·refine ⟨H2,f1 _ _ ?_⟩
    unfold Zl
    rw [Za e1]
    refine step.trans ?_
    rw [Zb,if_neg (by simp),Za hA.len,ZM e2,Zu,ZN,Za (hgl _),Qr e3]
    rfl
   ·have hwl : ws.length=us.length:=by
     have:=congrArg List.length hK
     rwa [List.length_map,List.length_map] at this
    obtain ⟨H4,l4,h4⟩:=ZoV (n:=n) (us:=ws) (gs:=gs) (by omega) (by omega) hO.us hs2
    rw [Zp9 hK] at h4
    have hAS : QM H sl us:=hA.s fun u hu=>by have:=hF u hu;omega
    have l14:=(l1.trans l2).trans l4
    have hC4 : ZiZ H4 sl us:=fun k hk=>by
     obtain ⟨w,a,b⟩:=hC k hk
     exact ⟨w,fun X' hl=>a X' (l14.trans hl),b.mono l14⟩
    obtain ⟨H5,e5,l5⟩:=ZoK (n:=n+5) (us:=us) (gs:=gs) (by omega) (by omega) (hAS.mono l14) hC4 (hs.mono l14)
    have e5 : R (n+12) ZaX [sl,gv] H4=_:=e5
    have qne : bop .int .neq (iv (Zan us gs)) (iv (Zan us gs)) H5=some (.bool false,H5):=by rw [Zn];simp
    by_cases hE : Zan us gs=0
    ·rw [if_pos hE] at h4
     obtain ⟨d,r,s,c,e4,hS⟩:=h4
     rw [hE] at e5 qne
     have q0 : bop .int .neq (iv 0) (.int .i64 0) H5=some (.bool false,H5):=by rw [Zn];rfl
     have hd5:=hS.nd.hle l5
     have hW5:=(hO.wr.hle l4).hle l5
     have hwlen : Zx sw H5=some (iv ws.length,H5):=ZrQ hO.us _
     obtain ⟨H6,e6,l6,hd6⟩:=Zqe (n:=n) (z0:=sl) (z1:=gv) (by omega) ws.length 0 H5 (by omega) (by omega) ((l2.trans l4).trans l5) hW5 hd5
     rw [show iv ((0 : Nat) : Int)=.int .i64 0 from rfl] at e6
     obtain ⟨v7,q7,us7,H7,e7,hO7,hK7,l7⟩:=Zn9 (n:=n+4) hd6
     have e7 : R (n+12) KR [pt d] H6=_:=e7
     have hus7 : us7.length≤1000:=by
      have h1:=congrArg List.length hK7
      unfold ZhI at h1
      rw [List.length_map,List.length_map,Zcp] at h1
      have:=hd6.inv.few
      simp at h1
      omega
     have hlen7 : Zx v7 H7=some (iv us7.length,H7):=ZrQ hO7.us _
     have hO7' : Wr H1 H7 v7 us7 q7:=⟨hO7.r,fun j hj=>Nat.le_trans l6.len (hO7.o j hj),fun w hw=>by
      obtain ⟨vs,qu,a1,a2,a3,a4⟩:=hO7.wr.u w hw
      exact ⟨vs,qu,a1,a2,fun j hj=>⟨Nat.le_trans l6.len (a3 j hj).1,(a3 j hj).2⟩,a4⟩,hO7.un⟩
     obtain ⟨H8,e8,l8,hd8⟩:=Zqf (n:=n) (z0:=sl) (z1:=gv) hus7 us7.length 0 H7 (by omega) (by omega) (l6.trans l7) hO7' (hd6.hle l7)
     rw [show iv ((0 : Nat) : Int)=.int .i64 0 from rfl] at e8
     have l18:=l1.trans l8
     have hgrise : JG gs=true:=by
      unfold Zan at hE
      by_cases hc : Zdl us gs=0
      ·exact (ZnZ hc).2.2.2.2.1
      ·rw [if_neg hc] at hE;exact absurd hE hc
     have hone1 : oneCell sl=true:=by
      obtain ⟨a,c,h,_⟩:=hA.1
      rw [h];rfl
     have hone2 : oneCell gv=true:=by
      obtain ⟨a,c,h,_⟩:=hs
      rw [h];rfl
     obtain ⟨H9,e9,l9⟩:=Zp4 (n:=n+3) hd8 (hAS.mono l18) (hS.ok.keys hK) (hs.mono l18) ⟨ZbN hgrise,fun x=>by rw [hS.K]⟩ hone1 hone2
     have e9 : R (n+12) ZaC [pt d,.agg #[sl,gv]] H8=_:=e9
     have zb : bld zD [(0,1,sl),(1,1,gv)] H8=some (.agg #[sl,gv],H8):=by
      obtain ⟨a,c,h,_⟩:=hA.1
      obtain ⟨a',c',h',_⟩:=hs
      rw [h,h']
      simp [bld,Wq,Value.cells,YS,splice]
     refine ⟨H9,f1 _ _ ?_⟩
     unfold Zl
     rw [Za e1]
     refine step.trans ?_
     rw [Zb,if_neg (by simp),Za hA.len,ZM e2,Zu,ZN,Za (hgl _),ZM e3,Zu,ZN,Za e4,Za Zq,Za Zp,Za e5,Za qne,Zb,if_neg (by simp),Za q0,Zb,if_neg (by simp),Za hwlen,ZM e6,Zu,ZN,Za e7,Za hlen7,ZM e8,Zu,ZN,Za zb,Za e9]
     rfl
    ·rw [if_neg hE] at h4
     have q0 : bop .int .neq (iv (Zan us gs)) (.int .i64 0) H5=some (.bool true,H5):=by rw [Zn];simp [hE]
     have qp : bop .ptr .eql (.pointer none) (.pointer none) H5=some (.bool true,H5):=by simp [bop,eqv]
     refine ⟨H5,f1 _ _ ?_⟩
     unfold Zl
     rw [Za e1]
     refine step.trans ?_
     rw [Zb,if_neg (by simp),Za hA.len,ZM e2,Zu,ZN,Za (hgl _),ZM e3,Zu,ZN,Za h4,Za Zq,Za Zp,Za e5,Za qne,Zb,if_neg (by simp),Za q0,Zb,if_pos rfl,Za qp]
     rfl
theorem law_NewerOf : ∀ (xs : Ins [.slc userT,.slc .str]) (H : Zc) (vs : List Value),ZkK [.slc userT,.slc .str] xs→Zdr [.slc userT,.slc .str] xs H vs→∃ n H',R n We vs H=some (.bool true,H'):=by
 intro xs H vs hwf hrd
 obtain ⟨l,y,_⟩:=xs
 obtain ⟨hl,hy,_⟩:=hwf
 obtain ⟨c1,_,rfl,hc1,h1,c2,_,rfl,hc2,h2,rfl⟩:=hrd
 obtain ⟨v,rfl⟩ : ∃ v,c1=[v]:=by
  match c1,hc1 with
  | [v],_=>exact ⟨v,rfl⟩
 obtain ⟨w,rfl⟩ : ∃ w,c2=[w]:=by
  match c2,hc2 with
  | [w],_=>exact ⟨w,rfl⟩
 obtain ⟨us,hA,hn,hC⟩:=Zn5 hl h1
 obtain ⟨gs,hG⟩:=ZlA h2
 obtain ⟨H',e⟩:=Zpn (n:=0) hA hC (GV.sl hG)
 exact ⟨13,H',e⟩
end
end Go.Proofs.YtnnehafmjfmbnaaGreatDoor.A

