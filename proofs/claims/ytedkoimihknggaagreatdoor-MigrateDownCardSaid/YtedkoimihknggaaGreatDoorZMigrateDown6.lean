/- What the law MigrateDown needs (part 6). -/
import Derived.Test.YtedkoimihknggaaGreatDoorZMigrateDown5
namespace Go.Proofs.YtedkoimihknggaaGreatDoor.A
set_option linter.unusedVariables false
set_option linter.unusedSimpArgs false
open Go.Proofs Go.Proofs.YtedkoimihknggaaGreatDoor
def ZdX (l : List Zj) : Prop:=l.Pairwise fun a b=>a.nm < b.nm
def ZcS (k : List UInt8) (l : List Zj) : Option Nat:=l.findIdx? fun u=>u.nm==k
section
variable {x : Zj} {k s : List UInt8}
def Kr (u : Zj) : List Zj→Bool→List Zj
 | [],_=>[]
 | v :: l,done=>(if !done && decide (u.nm≤v.nm) then [u] else [])++((if v.nm≠u.nm then [v] else [])++Kr u l (done || decide (u.nm≤v.nm)))
def Wa (u : Zj) : List Zj→Bool→Bool
 | [],done=>done
 | v :: l,done=>Wa u l (done || decide (u.nm≤v.nm))
def putU (u : Zj) (l : List Zj) : List Zj:=Kr u l false++if Wa u l false then [] else [u]
theorem Zmc {u : Zj} : ∀ {l : List Zj},Kr u l true=l.filter fun v=>decide (v.nm≠u.nm)
 | []=>rfl
 | v :: l=>by
  unfold Kr
  rw [Bool.true_or,Zmc,List.filter_cons]
  by_cases h : v.nm=u.nm <;> simp [h]
theorem Zj9 {u : Zj} : ∀ {l : List Zj},Wa u l true=true
 | []=>rfl
 | v :: l=>by unfold Wa;rw [Bool.true_or,Zj9]
theorem Zlz {u v : Zj} {l : List Zj} : putU u (v :: l)=if u.nm≤v.nm then u :: (v :: l).filter (fun v=>decide (v.nm≠u.nm)) else v :: putU u l:=by
 have e1 : Kr u (v :: l) false=(if !false && decide (u.nm≤v.nm) then [u] else [])++((if v.nm≠u.nm then [v] else [])++Kr u l (false || decide (u.nm≤v.nm))):=rfl
 have e2 : Wa u (v :: l) false=Wa u l (false || decide (u.nm≤v.nm)):=rfl
 unfold putU
 rw [e1,e2]
 by_cases h : u.nm≤v.nm
 ·rw [if_pos h]
  simp only [h,decide_true,Bool.or_true,Zmc,Zj9,Bool.not_false,Bool.and_self,if_true,List.filter_cons]
  by_cases h2 : v.nm=u.nm <;> simp [h2]
 ·rw [if_neg h]
  have h2 : v.nm≠u.nm:=fun e=>h (by rw [e];exact List.le_refl _)
  simp [h,h2]
theorem Zb8 {u : Zj} : ∀ {l : List Zj},x∈putU u l↔x=u∨(x∈l∧x.nm≠u.nm)
 | []=>by simp [putU,Kr,Wa]
 | v :: l=>by
  rw [Zlz]
  by_cases h : u.nm≤v.nm
  ·rw [if_pos h,List.mem_cons,List.mem_filter];simp
  ·have h2 : v.nm≠u.nm:=fun e=>h (by rw [e];exact List.le_refl _)
   rw [if_neg h,List.mem_cons,Zb8,List.mem_cons]
   constructor
   ·rintro (rfl | h | h)
    ·exact .inr ⟨.inl rfl,h2⟩
    ·exact .inl h
    ·exact .inr ⟨.inr h.1,h.2⟩
   ·rintro (h | ⟨h | h,h3⟩)
    ·exact .inr (.inl h)
    ·exact .inl h
    ·exact .inr (.inr ⟨h,h3⟩)
theorem ZlO {u : Zj} : ∀ {l : List Zj},ZdX l→ZdX (putU u l)
 | [],_=>by simp [putU,Kr,Wa,ZdX]
 | v :: l,hr=>by
  have hr2 : (∀ a∈l,v.nm < a.nm)∧ZdX l:=by simpa [ZdX] using hr
  rw [Zlz]
  by_cases h : u.nm≤v.nm
  ·rw [if_pos h]
   refine List.pairwise_cons.2 ⟨fun a ha=>?_,List.Pairwise.filter _ hr⟩
   obtain ⟨h1,h2⟩:=List.mem_filter.1 ha
   have h2 : a.nm≠u.nm:=by simpa using h2
   have h3 : u.nm≤a.nm:=by
    rcases List.mem_cons.1 h1 with rfl | h1
    ·exact h
    ·exact List.le_trans h (List.le_of_lt (hr2.1 a h1))
   rcases ZiF u.nm a.nm with h4 | h4 | h4
   ·exact h4
   ·exact absurd h4.symm h2
   ·exact absurd h4 h3
  ·rw [if_neg h]
   refine List.pairwise_cons.2 ⟨fun a ha=>?_,ZlO hr2.2⟩
   rcases Zb8.1 ha with rfl | ⟨h1,_⟩
   ·rcases ZiF v.nm a.nm with h4 | h4 | h4
    ·exact h4
    ·exact absurd (by rw [h4];exact List.le_refl _) h
    ·exact absurd (List.le_of_lt h4) h
   ·exact hr2.1 a h1
end
section
variable {H0 H X : Zd} {n d b : Nat} {ws : List Zj} {k s : List UInt8} {wv : Value}
theorem Zbk {u : Zj} (h : oneCell u.gv=true) : u.cells.all oneCell=true:=by simp only [Zj.cells,List.all_cons,h];rfl
theorem Zeq {β : Type} {k : Value→M β} {sl : Value} {us : List Zj} (h : SlN 5 H sl (us.map Zj.cells)) {j : Nat} {u : Zj} (ho : oneCell u.gv=true) (hj : us[j]?=some u) :
  bind (ixa 5 sl (iv j)) (fun p=>bind (ldA 5 p) fun v=>bind (alc 1 (.agg #[.string ⟨#[]⟩,.string ⟨#[]⟩,.string ⟨#[]⟩,.bool false,.slice none 0 0])) fun q=>bind (stA 5 q v) fun _=>k q) H=k (pt H.length) (H++[.cells u.cells 1 false false]):=by
 have hr : (us.map Zj.cells)[j]?=some u.cells:=by rw [List.getElem?_map,hj];rfl
 rw [h.fetch hr (by omega) .i64]
 exact WZ (n:=5) (zs:=[.string ⟨#[]⟩,.string ⟨#[]⟩,.string ⟨#[]⟩,.bool false,.slice none 0 0]) (r:=u.cells) rfl rfl rfl (Zbk ho)
theorem ZCV {a c : List UInt8} {H : Zd} : bop .str .leq (strv a) (strv c) H=some (.bool (decide (a≤c)),H):=by
 have h : (Op.bytesLess a c || a==c)=decide (a≤c):=by
  rw [bytesLess_eq,Bool.eq_iff_iff]
  simp only [Bool.or_eq_true,decide_eq_true_eq,beq_iff_eq]
  constructor
  ·rintro (h | h)
   ·exact List.le_of_lt h
   ·rw [h];exact List.le_refl _
  ·intro h
   rcases ZiF a c with h4 | h4 | h4
   ·exact .inl h4
   ·exact .inr h4
   ·exact absurd h4 h
 rw [← h]
 show (sop .leq (⟨a.toArray⟩ : ByteArray) (⟨c.toArray⟩ : ByteArray)).map (·,H)=_
 unfold sop
 rw [Kp,Kp]
 rfl
theorem Ztt (hu : ws.length≤1000) (hA : SlN 5 H0 wv (ws.map Zj.cells)) (ho : ∀ u∈ws,oneCell u.gv=true) : ∀ (t j : Nat) (X : Zd),ws.length - j=t→j≤ws.length→HLe H0 X→
  ∃ X',Zi (c4 (KZ.l1 (R n))) [strv k,wv,iv ws.length,iv j] X=some (match ZcS k (ws.drop j) with | some i=>.ret (iv (j+i : Nat)) | none=>.ext 0 [],X')∧HLe H0 X'
 | 0,j,X,ht,hj,hle=>by
  have : j=ws.length:=by omega
  subst this
  rw [List.drop_length]
  refine ⟨X,ZK ?_,hle⟩
  rw [ZI]
  unfold KZ.l1
  rw [Za Zm,Zb,if_neg (by simp)]
  rfl
 | t+1,j,X,ht,hj,hle=>by
  have hjl : j < ws.length:=by omega
  have hlt : (j : Int) < ws.length:=by omega
  have hg:=List.getElem?_eq_getElem hjl
  have hd:=List.drop_eq_getElem_cons hjl
  generalize ws[j]=u at hg hd
  have hf:=fun {K : Value→M Out}=>Zeq (k:=K) (hA.mono hle) (ho _ (List.mem_of_getElem? hg)) hg
  have g1 : (X++[Ze.cells u.cells 1 false false])[X.length]?=some (.cells u.cells 1 false false):=Zw
  have l1 : ld1 (pt X.length) (X++[.cells u.cells 1 false false])=some (strv u.nm,X++[.cells u.cells 1 false false]):=Zv g1 rfl
  have k1 : HLe X (X++[Ze.cells u.cells 1 false false]):=.app _ _
  generalize X++[Ze.cells u.cells 1 false false]=X1 at g1 l1 k1 hf
  have hb : c4 (KZ.l1 (R n)) [strv k,wv,iv ws.length,iv j] X=some (if u.nm==k then .ret (iv j) else .nrm [strv k,wv,iv ws.length,iv ((j+1 : Nat) : Int)],X1):=by
   rw [ZI]
   unfold KZ.l1
   rw [Za Zm,Zb,if_pos (by simpa using hlt),hf,Za Zh,Za l1,Za Zdp,Zb]
   cases h : u.nm==k
   ·rw [if_neg (by simp),Za ZB,Qg (by omega)];rfl
   ·rw [if_pos rfl];rfl
  unfold ZcS
  rw [hd,List.findIdx?_cons]
  cases h : u.nm==k
  ·rw [h] at hb
   obtain ⟨X2,e2,k2⟩:=Ztt hu hA ho t (j+1) X1 (by omega) (by omega) (hle.trans k1)
   refine ⟨X2,(Zy hb).trans (e2.trans ?_),k2⟩
   show some (match ZcS k (ws.drop (j+1)) with | some i=>_ | none=>_,X2)=some (match Option.map (·+1) (ZcS k (ws.drop (j+1))) with | some i=>_ | none=>_,X2)
   cases ZcS k (ws.drop (j+1)) with
   | none=>rfl
   | some i=>simp only [Option.map_some];rw [show j+1+i=j+(i+1) by omega]
  ·rw [h] at hb
   exact ⟨X1,QE hb,hle.trans k1⟩
theorem Zqx (hu : ws.length≤1000) (hA : SlN 5 X wv (ws.map Zj.cells)) (ho : ∀ u∈ws,oneCell u.gv=true) : ∃ X',R (n+1) WI [wv,strv k] X=some (match ZcS k ws with | some i=>iv i | none=>iv (-1),X')∧HLe X X':=by
 obtain ⟨X',e,l⟩:=Ztt (n:=n) (k:=k) hu hA ho ws.length 0 X (by omega) (by omega) (.refl _)
 rw [List.drop_zero] at e
 have e : Zi (c4 (KZ.l1 (R n))) [strv k,wv,iv ws.length,.int .i64 0] X=_:=e
 have hl:=hA.len (H':=X)
 rw [List.length_map] at hl
 refine ⟨X',?_,l⟩
 rw [R,Zsx rfl]
 unfold KZ
 rw [Za hl]
 cases h : ZcS k ws with
 | none=>rw [h] at e;rw [ZT e,ZE];rfl
 | some i=>
  rw [h] at e
  rw [JJ e]
  simp [ret]
theorem Zqd {sl : Value} {rows : List Zj} {q : List Nat} {u : Zj} {p : Nat} {e : Nat} {g ro : Bool} (hu1 : oneCell u.gv=true) (hr : Qu 5 X sl (rows.map Zj.cells) q) (hl : rows.length≤10000) (hp : X[p]?=some (.cells u.cells e g ro)) (hq : ∀ j∈q,H0.length≤j) (h0 : HLe H0 X) :
  ∃ w X1 sl' X2 q',ldA 5 (pt p) X=some (.agg u.cells.toArray,X)∧bsl 5 1 (.agg #[.string ⟨#[]⟩,.string ⟨#[]⟩,.string ⟨#[]⟩,.bool false,.slice none 0 0]) [(0,5,.agg u.cells.toArray)] X=some (w,X1)∧app 5 80 sl w X1=some (sl',X2)∧Qu 5 X2 sl' ((rows++[u]).map Zj.cells) q'∧HLe H0 X2∧(∀ j∈q',H0.length≤j)∧ZC q X q' X2:=by
 have e1 : ldA 5 (pt p) X=some (.agg u.cells.toArray,X):=ZR (n:=5) hp rfl
 have x4:=ZmB (es:=5) (z:=.agg #[.string ⟨#[]⟩,.string ⟨#[]⟩,.string ⟨#[]⟩,.bool false,.slice none 0 0]) (H:=X) rfl ((rfl : u.cells.length=5)) (Zbk hu1)
 have l1 : HLe X (X++[Ze.cells u.cells 5 false false]):=.app _ _
 have s1 : SlN 5 (X++[Ze.cells u.cells 5 false false]) (.slice (some ⟨X.length,0,none⟩) 1 1) [u.cells]:=SlN.whole (rows:=[u.cells]) (c:=1) (e:=5) (g:=false) (ro:=false) (by rw [Zw];simp) (by simp)
 generalize X++[Ze.cells u.cells 5 false false]=X1 at x4 l1 s1
 have hr1 : Qu 5 X1 sl _ q:=hr.keep fun j hj=>l1.step.keep j (hr.lt j hj) (by simp)
 obtain ⟨sl',X2,q',x5,hn2,s2⟩:=hr1.push (b:=80) s1 ((rfl : u.cells.length=5)) (by simp;omega) (by simp;omega)
 have hm:=(h0.trans l1).more s2 hq
 exact ⟨_,X1,sl',X2,q',e1,x4,x5,by rw [List.map_append];exact hn2,hm.1,hm.2,(l1.step.more (by simp) (fun j hj=>.inl hj)).trans s2⟩
theorem Zoz (hu : ws.length≤1000) (hA : SlN 5 H0 wv (ws.map Zj.cells)) (ho : ∀ u∈ws,oneCell u.gv=true) : ∀ (t j : Nat) (sl : Value) (q : List Nat) (acc : List Zj) (X : Zd),ws.length - j=t→j≤ws.length→acc.length≤j→HLe H0 X→(∀ i∈q,H0.length≤i)→Qu 5 X sl (acc.map Zj.cells) q→
  ∃ X' sl' q',Zi (c5 (K2.l1 (R n))) [strv k,sl,wv,iv ws.length,iv j] X=some (.ext 0 [sl'],X')∧Qu 5 X' sl' ((acc++(ws.drop j).filter fun v=>decide (v.nm≠k)).map Zj.cells) q'∧HLe H0 X'∧∀ i∈q',H0.length≤i
 | 0,j,sl,q,acc,X,ht,hj,ha,hle,hq,hr=>by
  have : j=ws.length:=by omega
  subst this
  rw [List.drop_length]
  refine ⟨X,sl,q,ZK ?_,by simpa using hr,hle,hq⟩
  rw [Qc]
  unfold K2.l1
  rw [Za Zm,Zb,if_neg (by simp)]
  rfl
 | t+1,j,sl,q,acc,X,ht,hj,ha,hle,hq,hr=>by
  have hjl : j < ws.length:=by omega
  have hlt : (j : Int) < ws.length:=by omega
  have hg:=List.getElem?_eq_getElem hjl
  have hd:=List.drop_eq_getElem_cons hjl
  generalize ws[j]=u at hg hd
  have hf:=fun {K : Value→M Out}=>Zeq (k:=K) (hA.mono hle) (ho _ (List.mem_of_getElem? hg)) hg
  have g1 : (X++[Ze.cells u.cells 1 false false])[X.length]?=some (.cells u.cells 1 false false):=Zw
  have l1 : ld1 (pt X.length) (X++[.cells u.cells 1 false false])=some (strv u.nm,X++[.cells u.cells 1 false false]):=Zv g1 rfl
  have k1 : HLe X (X++[Ze.cells u.cells 1 false false]):=.app _ _
  generalize X++[Ze.cells u.cells 1 false false]=X1 at g1 l1 k1 hf
  have hr1 : Qu 5 X1 sl _ q:=hr.keep fun i hi=>k1.step.keep i (hr.lt i hi) (by simp)
  rw [hd,List.filter_cons]
  by_cases h : u.nm=k
  ·rw [if_neg (by simpa using h)]
   obtain ⟨X2,sl2,q2,e2,r2⟩:=Zoz hu hA ho t (j+1) sl q acc X1 (by omega) (by omega) (by omega) (hle.trans k1) hq hr1
   refine ⟨X2,sl2,q2,(Zy ?_).trans e2,r2⟩
   have q1 : bop .str .neq (strv u.nm) (strv k) X1=some (.bool false,X1):=by rw [Wt,h];simp
   rw [Qc]
   unfold K2.l1
   rw [Za Zm,Zb,if_pos (by simpa using hlt),hf,Za Zh,Za l1,Za q1]
   refine (ZZ (vs:=[strv k,sl,wv,iv ws.length,iv j]) (H':=X1) ?_).trans ?_
   ·rw [Zb,if_neg (by simp)];rfl
   ·rw [Qc,Za ZB,Qg (by omega)];rfl
  ·rw [if_pos (by simpa using h)]
   obtain ⟨w,X2,sl',X3,q',a1,a2,a3,hr3,le3,o3,_⟩:=Zqd (ho _ (List.mem_of_getElem? hg)) hr1 (by omega) g1 hq (hle.trans k1)
   obtain ⟨X4,sl4,q4,e4,r4,r5⟩:=Zoz hu hA ho t (j+1) sl' q' (acc++[u]) X3 (by omega) (by omega) (by simp;omega) le3 o3 hr3
   refine ⟨X4,sl4,q4,(Zy ?_).trans e4,by simpa using r4,r5⟩
   have q1 : bop .str .neq (strv u.nm) (strv k) X1=some (.bool true,X1):=by rw [Wt,beq_eq_false_iff_ne.2 h];rfl
   rw [Qc]
   unfold K2.l1
   rw [Za Zm,Zb,if_pos (by simpa using hlt),hf,Za Zh,Za l1,Za q1]
   refine (ZZ (vs:=[strv k,sl',wv,iv ws.length,iv j]) (H':=X3) ?_).trans ?_
   ·rw [Zb,if_pos rfl,Za a1,Za a2,Za a3];rfl
   ·rw [Qc,Za ZB,Qg (by omega)];rfl
theorem ZvX (hu : ws.length≤1000) (hA : SlN 5 X wv (ws.map Zj.cells)) (ho : ∀ u∈ws,oneCell u.gv=true) : ∃ X' v,R (n+1) ZbB [wv,strv k] X=some (v,X')∧SlN 5 X' v ((ws.filter fun v=>decide (v.nm≠k)).map Zj.cells)∧HLe X X':=by
 obtain ⟨X',sl,q,e,r,l,_⟩:=Zoz (n:=n) (k:=k) hu hA ho ws.length 0 (.slice none 0 0) [] [] X (by omega) (by omega) (by simp) (.refl _) (by simp) Qu.nil
 rw [List.drop_zero] at r
 have e : Zi (c5 (K2.l1 (R n))) [strv k,.slice none 0 0,wv,iv ws.length,.int .i64 0] X=_:=e
 have hl:=hA.len (H':=X)
 rw [List.length_map] at hl
 refine ⟨X',sl,?_,r.rd,l⟩
 rw [R,Zr8 rfl]
 unfold K2
 rw [Za hl,ZT e,ZE]
 rfl
theorem Zv3 {u : Zj} {p0 : Nat} (hu : ws.length≤1000) (hA : SlN 5 H0 wv (ws.map Zj.cells)) (ho : ∀ u∈ws,oneCell u.gv=true) (hu0 : oneCell u.gv=true) (hp0 : H0[p0]?=some (.cells u.cells 1 false false)) : ∀ (t j : Nat) (sl : Value) (q : List Nat) (acc : List Zj) (done : Bool) (X : Zd),ws.length - j=t→j≤ws.length→acc.length≤2 * j→HLe H0 X→(∀ i∈q,H0.length≤i)→Qu 5 X sl (acc.map Zj.cells) q→
  ∃ X' sl' q',Zi (c6 (Zah.l1 (R n))) [pt p0,sl,.bool done,wv,iv ws.length,iv j] X=some (.ext 0 [pt p0,sl',.bool (Wa u (ws.drop j) done)],X')∧Qu 5 X' sl' ((acc++Kr u (ws.drop j) done).map Zj.cells) q'∧HLe H0 X'∧∀ i∈q',H0.length≤i
 | 0,j,sl,q,acc,done,X,ht,hj,ha,hle,hq,hr=>by
  have : j=ws.length:=by omega
  subst this
  rw [List.drop_length]
  refine ⟨X,sl,q,ZK ?_,by simpa [Kr] using hr,hle,hq⟩
  rw [Jy]
  unfold Zah.l1
  rw [Za Zm,Zb,if_neg (by simp)]
  rfl
 | t+1,j,sl,q,acc,done,X,ht,hj,ha,hle,hq,hr=>by
  have hjl : j < ws.length:=by omega
  have hlt : (j : Int) < ws.length:=by omega
  have hg:=List.getElem?_eq_getElem hjl
  have hd:=List.drop_eq_getElem_cons hjl
  generalize ws[j]=v at hg hd
  have hf:=fun {K : Value→M Out}=>Zeq (k:=K) (hA.mono hle) (ho _ (List.mem_of_getElem? hg)) hg
  have hlv : X.length < (X++[Ze.cells v.cells 1 false false]).length:=by simp
  have g1 : (X++[Ze.cells v.cells 1 false false])[X.length]?=some (.cells v.cells 1 false false):=Zw
  have k1 : HLe X (X++[Ze.cells v.cells 1 false false]):=.app _ _
  have hqx : ∀ i∈q,i < X.length:=hr.lt
  generalize X++[Ze.cells v.cells 1 false false]=X1 at g1 k1 hf hlv
  generalize X.length=pv at g1 hf hlv hqx
  have hr1 : Qu 5 X1 sl _ q:=hr.keep fun i hi=>k1.step.keep i (hr.lt i hi) (by simp)
  have le1:=hle.trans k1
  have hp1:=le1 _ _ hp0
  have l1 : ld1 (pt pv) X1=some (strv v.nm,X1):=Zv g1 rfl
  have l0 : ld1 (pt p0) X1=some (strv u.nm,X1):=Zv hp1 rfl
  have e1 : Kr u (ws.drop j) done=(if !done && decide (u.nm≤v.nm) then [u] else [])++((if v.nm≠u.nm then [v] else [])++Kr u (ws.drop (j+1)) (done || decide (u.nm≤v.nm))):=by rw [hd];rfl
  have e2 : Wa u (ws.drop j) done=Wa u (ws.drop (j+1)) (done || decide (u.nm≤v.nm)):=by rw [hd];rfl
  rw [e1,e2]
  obtain ⟨X2,sl2,q2,b1,hr2,le2,o2,g2⟩ : ∃ X2 sl2 q2,(∀ K : Value→Value→Value→Value→Value→Value→Value→M Out,jn (cnd (.bool (!done && decide (u.nm≤v.nm)))
    (bind (ldA 5 (pt p0)) fun v25x15=>bind (bsl 5 1 (.agg #[.string ⟨#[]⟩,.string ⟨#[]⟩,.string ⟨#[]⟩,.bool false,.slice none 0 0]) [(0,5,v25x15)]) fun v26x16=>bind (app 5 80 sl v26x16) fun v27x17=>ret (.nrm [pt p0,v27x17,(Value.bool true),pt pv,wv,iv ws.length,iv j]))
    (ret (.nrm [pt p0,sl,.bool done,pt pv,wv,iv ws.length,iv j]))) (c7 K) noX Z5 X1=K (pt p0) sl2 (.bool (done || decide (u.nm≤v.nm))) (pt pv) wv (iv ws.length) (iv j) X2)∧
    Qu 5 X2 sl2 ((acc++if !done && decide (u.nm≤v.nm) then [u] else []).map Zj.cells) q2∧HLe H0 X2∧(∀ i∈q2,H0.length≤i)∧X2[pv]?=some (.cells v.cells 1 false false):=by
   by_cases hb : (!done && decide (u.nm≤v.nm))=true
   ·rw [hb]
    obtain ⟨w,Xa,sl',Xb,q',a1,a2,a3,hr3,le3,o3,s3⟩:=Zqd hu0 hr1 (by omega) hp1 hq le1
    refine ⟨Xb,sl',q',fun K=>?_,by simpa using hr3,le3,o3,s3.get g1 (fun h=>by have:=hqx _ h;omega)⟩
    simp only [Bool.and_eq_true,Bool.not_eq_true',decide_eq_true_eq] at hb
    rw [hb.1,decide_eq_true hb.2]
    refine (ZZ (vs:=[pt p0,sl',.bool true,pt pv,wv,iv ws.length,iv j]) (H':=Xb) ?_).trans ?_
    ·rw [Zb,if_pos rfl,Za a1,Za a2,Za a3];rfl
    ·rw [JA];rfl
   ·have hb : (!done && decide (u.nm≤v.nm))=false:=by simpa using hb
    rw [hb]
    refine ⟨X1,sl,q,fun K=>?_,by simpa using hr1,le1,hq,g1⟩
    have hdn : (done || decide (u.nm≤v.nm))=done:=by cases done <;> simp_all
    rw [hdn]
    refine (ZZ (vs:=[pt p0,sl,.bool done,pt pv,wv,iv ws.length,iv j]) (H':=X1) ?_).trans ?_
    ·rw [Zb,if_neg (by simp)];rfl
    ·rw [JA]
  generalize hdone : (done || decide (u.nm≤v.nm))=done2 at b1 ⊢
  have hp2:=le2 _ _ hp0
  have l12 : ld1 (pt pv) X2=some (strv v.nm,X2):=Zv g2 rfl
  have l02 : ld1 (pt p0) X2=some (strv u.nm,X2):=Zv hp2 rfl
  have hacc : (acc++if !done && decide (u.nm≤v.nm) then [u] else []).length≤2 * j+1:=by
   rw [List.length_append];split <;> simp <;> omega
  obtain ⟨X3,sl3,q3,b2,hr3,le3,o3⟩ : ∃ X3 sl3 q3,(∀ K : Value→Value→Value→Value→Value→Value→M Out,jn (cnd (.bool (!(v.nm==u.nm)))
    (bind (ldA 5 (pt pv)) fun v34x24=>bind (bsl 5 1 (.agg #[.string ⟨#[]⟩,.string ⟨#[]⟩,.string ⟨#[]⟩,.bool false,.slice none 0 0]) [(0,5,v34x24)]) fun v35x25=>bind (app 5 80 sl2 v35x25) fun v36x26=>ret (.nrm [pt p0,v36x26,.bool done2,wv,iv ws.length,iv j]))
    (ret (.nrm [pt p0,sl2,.bool done2,wv,iv ws.length,iv j]))) (c6 K) noX Z5 X2=K (pt p0) sl3 (.bool done2) wv (iv ws.length) (iv j) X3)∧
    Qu 5 X3 sl3 (((acc++if !done && decide (u.nm≤v.nm) then [u] else [])++if v.nm≠u.nm then [v] else []).map Zj.cells) q3∧HLe H0 X3∧(∀ i∈q3,H0.length≤i):=by
   by_cases hb : v.nm=u.nm
   ·rw [show (if v.nm≠u.nm then [v] else [])=[] from if_neg (by simpa using hb)]
    refine ⟨X2,sl2,q2,fun K=>?_,by rw [List.append_nil];exact hr2,le2,o2⟩
    refine (ZZ (vs:=[pt p0,sl2,.bool done2,wv,iv ws.length,iv j]) (H':=X2) ?_).trans ?_
    ·rw [Zb,if_neg (by simp [hb])];rfl
    ·rw [Jy]
   ·rw [show (if v.nm≠u.nm then [v] else [])=[v] from if_pos hb]
    obtain ⟨w,Xa,sl',Xb,q',a1,a2,a3,hr3,le3,o3,s3⟩:=Zqd (ho _ (List.mem_of_getElem? hg)) hr2 (by omega) g2 o2 le2
    refine ⟨Xb,sl',q',fun K=>?_,hr3,le3,o3⟩
    refine (ZZ (vs:=[pt p0,sl',.bool done2,wv,iv ws.length,iv j]) (H':=Xb) ?_).trans ?_
    ·rw [Zb,if_pos (by simp [hb]),Za a1,Za a2,Za a3];rfl
    ·rw [Jy]
  have hacc2 : ((acc++if !done && decide (u.nm≤v.nm) then [u] else [])++if v.nm≠u.nm then [v] else []).length≤2 * (j+1):=by
   have h1 : (if v.nm≠u.nm then [v] else []).length≤1:=by split <;> simp
   rw [List.length_append];omega
  obtain ⟨X4,sl4,q4,e4,r4,r5⟩:=Zv3 hu hA ho hu0 hp0 t (j+1) sl3 q3 _ done2 X3 (by omega) (by omega) hacc2 le3 o3 hr3
  refine ⟨X4,sl4,q4,(Zy ?_).trans e4,by rw [List.append_assoc,List.append_assoc] at r4;exact r4,r5⟩
  rw [Jy]
  unfold Zah.l1
  rw [Za Zm,Zb,if_pos (by simpa using hlt),hf,Za ZH]
  have hgate : ∀ K : List Value→M Out,(∀ w0 w1 w2 w3 w4,(∀ X' : Zd,pick (.bool (!done)) w4 (.bool false) X'=some (.bool (!done && decide (u.nm≤v.nm)),X'))→K [w0,w1,w2,w3,w4] X1=some (.nrm [pt p0,sl3,.bool done2,wv,iv ws.length,iv ((j+1 : Nat) : Int)],X3))→
    bind (ZG (.bool (!done)) true 5 (bind (fa 0 (pt p0)) fun v18x8=>bind (ld1 v18x8) fun v19x9=>bind (fa 0 (pt pv)) fun v20x10=>bind (ld1 v20x10) fun v21x11=>bind (bop .str .leq v19x9 v21x11) fun v22x12=>ret [v18x8,v19x9,v20x10,v21x11,v22x12])) K X1=some (.nrm [pt p0,sl3,.bool done2,wv,iv ws.length,iv ((j+1 : Nat) : Int)],X3):=fun K hK=>by
   cases done
   ·simp only [Bool.not_false]
    rw [ZU,Zk,Za Zh,Zk,Za l0,Zk,Za Zh,Zk,Za l1,Zk,Za ZCV,ZV]
    exact hK _ _ _ _ _ (fun X'=>by rw [Zl];rfl)
   ·simp only [Bool.not_true]
    rw [Za (g_r.trans (if_neg (by simp)))]
    exact hK _ _ _ _ _ (fun X'=>by rw [Zl];rfl)
  refine hgate _ fun w0 w1 w2 w3 w4 hpk=>?_
  rw [Qc,Za (hpk _)]
  refine (b1 _).trans ?_
  rw [Za Zh,Za l12,Za Zh,Za l02,Za Wt]
  refine (b2 _).trans ?_
  rw [Za ZB,Qg (by omega)]
  rfl
theorem ZtP {u : Zj} (hu0 : oneCell u.gv=true) (hu : ws.length≤1000) (hA : SlN 5 X wv (ws.map Zj.cells)) (ho : ∀ u∈ws,oneCell u.gv=true) : ∃ X' v q,R (n+1) Zag [wv,.agg u.cells.toArray] X=some (v,X')∧Qu 5 X' v ((putU u ws).map Zj.cells) q∧HLe X X'∧∀ j∈q,X.length≤j:=by
 have e1 : alc 1 (.agg u.cells.toArray) X=some (pt X.length,X++[.cells u.cells 1 false false]):=by
  rw [QV]
  exact if_pos (show u.cells.toArray.toList.all oneCell=true by simpa using Zbk hu0)
 have k1 : HLe X (X++[.cells u.cells 1 false false]):=.app _ _
 have cu : (X++[Ze.cells u.cells 1 false false])[X.length]?=some (.cells u.cells 1 false false):=Zw
 generalize X++[Ze.cells u.cells 1 false false]=X1 at e1 k1 cu
 have hlx:=k1.len
 generalize X.length=p0 at e1 cu hlx ⊢
 obtain ⟨X2,sl,q,e2,r2,l2,o2⟩:=Zv3 (n:=n) hu (hA.mono k1) ho hu0 cu ws.length 0 (.slice none 0 0) [] [] false X1 (by omega) (by omega) (by simp) (.refl _) (by simp) Qu.nil
 rw [List.drop_zero] at e2 r2
 have e2 : Zi (c6 (Zah.l1 (R n))) [pt p0,.slice none 0 0,.bool false,wv,iv ws.length,.int .i64 0] X1=_:=e2
 have hl:=hA.len (H':=X1)
 rw [List.length_map] at hl
 have hrun : ∀ r,(jn (cnd (.bool (!Wa u ws false)) (bind (ldA 5 (pt p0)) fun v41x34=>bind (bsl 5 1 (.agg #[.string ⟨#[]⟩,.string ⟨#[]⟩,.string ⟨#[]⟩,.bool false,.slice none 0 0]) [(0,5,v41x34)]) fun v42x35=>bind (app 5 80 sl v42x35) fun v43x36=>ret (.nrm [v43x36])) (ret (.nrm [sl]))) (c1 fun q37_0=>ret q37_0) noX ret) X2=r→R (n+1) Zag [wv,.agg u.cells.toArray] X=r:=fun r hr=>by
  rw [R,Zus rfl]
  unfold Zah
  rw [Za e1,Za hl,ZT e2,ZE,Z3,Za ZH]
  exact hr
 have hml : (Kr u ws false).length≤2 * ws.length:=by
  have : ∀ (l : List Zj) (b : Bool),(Kr u l b).length≤2 * l.length:=by
   intro l
   induction l with
   | nil=>intro b;simp [Kr]
   | cons v l ih=>
    intro b
    have h1 : (if !b && decide (u.nm≤v.nm) then [u] else []).length≤1:=by split <;> simp
    have h2 : (if v.nm≠u.nm then [v] else []).length≤1:=by split <;> simp
    have h3:=ih (b || decide (u.nm≤v.nm))
    have h4 : Kr u (v :: l) b=(if !b && decide (u.nm≤v.nm) then [u] else [])++((if v.nm≠u.nm then [v] else [])++Kr u l (b || decide (u.nm≤v.nm))):=rfl
    rw [h4,List.length_append,List.length_append,List.length_cons]
    omega
  exact this ws false
 unfold putU
 cases hd : Wa u ws false
 ·rw [hd] at hrun
  obtain ⟨w,Xa,sl',Xb,q',a1,a2,a3,hr3,le3,o3,_⟩:=Zqd hu0 r2 (by simp;omega) (l2 _ _ cu) o2 l2
  refine ⟨Xb,sl',q',hrun _ ?_,hr3,k1.trans le3,fun j hj=>Nat.le_trans hlx (o3 j hj)⟩
  refine (ZZ (vs:=[sl']) (H':=Xb) ?_).trans rfl
  rw [Zb,if_pos (by rfl),Za a1,Za a2,Za a3];rfl
 ·rw [hd] at hrun
  refine ⟨X2,sl,q,hrun _ ?_,by simpa using r2,k1.trans l2,fun j hj=>Nat.le_trans hlx (o2 j hj)⟩
  refine (ZZ (vs:=[sl]) (H':=X2) ?_).trans rfl
  rw [Zb,if_neg (by simp)];rfl
end
end Go.Proofs.YtedkoimihknggaaGreatDoor.A
namespace Go.Proofs.YtedkoimihknggaaGreatDoor.A
set_option linter.unusedVariables false
set_option linter.unusedSimpArgs false
open Go.Proofs Go.Proofs.YtedkoimihknggaaGreatDoor
structure Zrt (s : NSt) : Prop where
 nod : s.K.Nodup
 out : ∀ k n,s.mem k n=true→k∈s.K
 few : s.K.length≤6
structure ROK (s : NSt) (us : List Zj) : Prop where
 rise : ZdX us
 look : ∀ key : Zaj,key∈us.map ZQ↔ZN s key.1=some key
section
variable {X : Zd} {d c : Nat} {r : NR} {s s' : NSt} {us ws : List Zj} {u : Zj} {k h m n o t g : Tx} {key : Zaj}
theorem ND0.kn (hd : ND0 X d r s c) : Zrt s:=⟨by rw [← hd.ks];exact hd.gr.mo.nod,fun k n hk=>by
 have:=hd.gr.out k n hk
 rw [Zjr,decide_eq_true_eq] at this
 rw [← hd.ks];exact this,by rw [← hd.ks,List.length_map];exact hd.gr.few⟩
theorem KE : key∈us.map ZQ↔∃ u∈us,ZQ u=key:=List.mem_map
theorem ROK.put (h : ROK s us) (h1 : ZN s' u.nm=some (ZQ u)) (h2 : ∀ n,n≠u.nm→ZN s' n=ZN s n) : ROK s' (putU u us):=by
 refine ⟨ZlO h.rise,fun key=>?_⟩
 rw [KE]
 constructor
 ·rintro ⟨v,hv,rfl⟩
  rcases Zb8.1 hv with rfl | ⟨hv,hne⟩
  ·exact h1
  ·have:=(h.look (ZQ v)).1 (KE.2 ⟨v,hv,rfl⟩)
   rw [show (ZQ v).1=v.nm from rfl] at this ⊢
   rw [h2 _ hne];exact this
 ·intro hk
  by_cases e : key.1=u.nm
  ·rw [e,h1] at hk
   exact ⟨u,Zb8.2 (.inl rfl),Option.some.inj hk⟩
  ·rw [h2 _ e] at hk
   obtain ⟨v,hv,rfl⟩:=KE.1 ((h.look key).2 hk)
   exact ⟨v,Zb8.2 (.inr ⟨hv,e⟩),rfl⟩
theorem ROK.drop (h : ROK s us) (h1 : ZN s' k=none) (h2 : ∀ n,n≠k→ZN s' n=ZN s n) : ROK s' (us.filter fun v=>decide (v.nm≠k)):=by
 refine ⟨List.Pairwise.filter _ h.rise,fun key=>?_⟩
 rw [KE]
 constructor
 ·rintro ⟨v,hv,rfl⟩
  obtain ⟨hv,hne⟩:=List.mem_filter.1 hv
  have hne : v.nm≠k:=by simpa using hne
  have:=(h.look (ZQ v)).1 (KE.2 ⟨v,hv,rfl⟩)
  rw [show (ZQ v).1=v.nm from rfl] at this ⊢
  rw [h2 _ hne];exact this
 ·intro hk
  have e : key.1≠k:=fun e=>by rw [e,h1] at hk;cases hk
  rw [h2 _ e] at hk
  obtain ⟨v,hv,rfl⟩:=KE.1 ((h.look key).2 hk)
  exact ⟨v,List.mem_filter.2 ⟨hv,decide_eq_true e⟩,rfl⟩
theorem ROK.same (h : ROK s us) (h2 : ∀ n,ZN s' n=ZN s n) : ROK s' us:=⟨h.rise,fun key=>by rw [h2];exact h.look key⟩
theorem ZyD (h : ZN s n=some key) : key.1=n:=by
 unfold ZN at h
 cases ha : Zf n s.A with
 | none=>rw [ha] at h;cases h
 | some p=>rw [ha] at h;cases h;rfl
theorem ROK.at (h : ROK s us) (hu : u∈us) : ZN s u.nm=some (ZQ u):=(h.look (ZQ u)).1 (KE.2 ⟨u,hu,rfl⟩)
theorem ZgS (h : ROK s us) : ZcS k us=none↔Zf k s.A=none:=by
 unfold ZcS
 rw [List.findIdx?_eq_none_iff]
 constructor
 ·intro hn
  cases ha : Zf k s.A with
  | none=>rfl
  | some p=>
   obtain ⟨v,hv,he⟩:=KE.1 ((h.look (Qi s k p)).2 (by
    show ZN s k=_
    unfold ZN;rw [ha];rfl))
   have:=hn v hv
   have hnm : v.nm=k:=congrArg (·.1) he
   simp [hnm] at this
 ·intro ha v hv
  have:=h.at hv
  unfold ZN at this
  rw [beq_eq_false_iff_ne]
  intro e
  rw [e,ha] at this;cases this
theorem ZjG (h : ROK s us) {i : Nat} (hi : ZcS k us=some i) : ∃ u p,us[i]?=some u∧u.nm=k∧Zf k s.A=some p∧ZQ u=Qi s k p:=by
 unfold ZcS at hi
 obtain ⟨hlt,hk,_⟩:=List.findIdx?_eq_some_iff_getElem.1 hi
 have hnm : us[i].nm=k:=by simpa using hk
 have hat:=h.at (List.getElem_mem hlt)
 rw [hnm] at hat
 unfold ZN at hat
 cases ha : Zf k s.A with
 | none=>rw [ha] at hat;cases hat
 | some p=>
  rw [ha] at hat
  exact ⟨us[i],p,List.getElem?_eq_getElem hlt,hnm,rfl,(Option.some.inj hat).symm⟩
theorem ZdX.nodup (h : ZdX us) : (us.map (·.nm)).Nodup:=by
 unfold ZdX at h
 rw [List.nodup_iff_pairwise_ne,List.pairwise_map]
 refine h.imp ?_
 intro a b hab e
 rw [e] at hab
 exact Zl0 hab
theorem ROK.len (h : ROK s us) (hn : (ZcO s).Nodup) : us.length=s.A.length:=by
 have hp : (us.map (·.nm)).Perm (ZcO s):=(List.perm_ext_iff_of_nodup h.rise.nodup hn).2 fun x=>by
  rw [List.mem_map,List.mem_map]
  constructor
  ·rintro ⟨v,hv,rfl⟩
   have:=h.at hv
   unfold ZN at this
   cases ha : Zf v.nm s.A with
   | none=>rw [ha] at this;cases this
   | some p=>exact ⟨_,K6 ha,rfl⟩
  ·rintro ⟨p,hp,rfl⟩
   have ha : Zf p.1 s.A=some p.2:=ZbA hn hp
   obtain ⟨v,hv,he⟩:=KE.1 ((h.look (Qi s p.1 p.2)).2 (by
    show ZN s p.1=_
    unfold ZN;rw [ha];rfl))
   exact ⟨v,hv,congrArg (·.1) he⟩
 have:=hp.length_eq
 simpa using this
theorem Zzw : ∀ {l l' : List Zaj},l.Pairwise (fun a b=>a.1 < b.1)→l'.Pairwise (fun a b=>a.1 < b.1)→(∀ x,x∈l↔x∈l')→l=l':=by
 intro l l' h h' hm
 have nd : ∀ {l : List Zaj},l.Pairwise (fun a b=>a.1 < b.1)→l.Nodup:=fun h=>by
  rw [List.nodup_iff_pairwise_ne]
  refine List.Pairwise.imp ?_ h
  rintro a b hab rfl
  exact List.lt_irrefl _ hab
 have hp : l.Perm l':=(List.perm_ext_iff_of_nodup (nd h) (nd h')).2 hm
 exact List.Perm.eq_of_pairwise (le:=fun a b=>a.1 < b.1) (fun a b _ _ h1 h2=>absurd h2 (List.lt_asymm h1)) h h' hp
theorem Zr0 (hn : (ZcO s).Nodup) : (allK s).Pairwise fun a b=>a.1 < b.1:=by
 unfold allK
 rw [List.pairwise_map]
 exact Zh1 hn
theorem Zs1 (hn : (ZcO s).Nodup) : key∈allK s↔ZN s key.1=some key:=by
 unfold allK
 rw [List.mem_map]
 constructor
 ·rintro ⟨k,hk,rfl⟩
  obtain ⟨p,hp,rfl⟩:=List.mem_map.1 (Zbq.1 hk)
  have ha : Zf p.1 s.A=some p.2:=ZbA hn hp
  show ZN s p.1=_
  unfold ZN
  rw [ha];rfl
 ·intro hk
  unfold ZN at hk
  cases ha : Zf key.1 s.A with
  | none=>rw [ha] at hk;cases hk
  | some p=>
   rw [ha] at hk
   refine ⟨key.1,Zbq.2 (List.mem_map.2 ⟨_,K6 ha,rfl⟩),?_⟩
   rw [ha]
   exact Option.some.inj hk
theorem ROK.all (h : ROK s us) (hn : (ZcO s).Nodup) : us.map ZQ=allK s:=by
 refine Zzw ?_ (Zr0 hn) fun key=>(h.look key).trans (Zs1 hn).symm
 rw [List.pairwise_map]
 exact h.rise
theorem ZAa (h : ∀ g,s.mem g k=false) : ofL k s.K s.mem=[]:=by
 unfold ofL
 rw [List.filter_eq_nil_iff]
 intro x _
 rw [h];simp
theorem ZuP (hi : JQ s) (he : Q5 k h s.A=0) (n : Tx) : ZN (KR k h s) n=if n=k then some (k,h,[],false,[]) else ZN s n:=by
 obtain ⟨_,_,h3,_⟩:=Zh3 he
 unfold KR
 rw [if_pos he]
 by_cases e : n=k
 ·rw [if_pos e,e]
  unfold ZN
  rw [show ({ s with A:=Qw k (h,false) s.A } : NSt).A=Qw k (h,false) s.A from rfl,KT]
  show some (Qi _ k (h,false))=_
  unfold Qi
  rw [hi.ofN h3]
  show some (k,h,[],false,ofL k s.K s.mem)=_
  rw [ZAa (hi.memN h3)]
 ·rw [if_neg e]
  unfold ZN
  rw [show ({ s with A:=Qw k (h,false) s.A } : NSt).A=Qw k (h,false) s.A from rfl,YA e]
  rfl
theorem Zs3 (he : Zu k s.A=0) (n : Tx) : ZN (Ke k s) n=if n=k then none else ZN s n:=by
 unfold Ke
 rw [if_pos he]
 by_cases e : n=k
 ·rw [if_pos e,e]
  unfold ZN
  rw [show ({ s with A:=Yg k s.A,OW:=Zbw k s.OW s.OF,OF:=Wf k s.OF,mem:=Ze8 k s.mem } : NSt).A=Yg k s.A from rfl,Zar]
  rfl
 ·rw [if_neg e]
  unfold ZN
  rw [show ({ s with A:=Yg k s.A,OW:=Zbw k s.OW s.OF,OF:=Wf k s.OF,mem:=Ze8 k s.mem } : NSt).A=Yg k s.A from rfl,JK e]
  cases Zf n s.A with
  | none=>rfl
  | some p=>
   show some (Qi _ n p)=some (Qi s n p)
   unfold Qi
   show some (n,p.1,(Zf n (Wf k s.OF)).getD [],p.2,ofL n s.K (Ze8 k s.mem))=_
   rw [Zd1 e]
   have : ofL n s.K (Ze8 k s.mem)=ofL n s.K s.mem:=by
    unfold ofL Ze8
    refine List.filter_congr fun g _=>?_
    simp [e]
   rw [this]
theorem ZAr {v : Acc} (hk : ∀ p,Zf k s.A=some p→True) (n : Tx) : ZN { s with A:=Qw k v s.A } n=if n=k then some (Qi s k v) else ZN s n:=by
 by_cases e : n=k
 ·rw [if_pos e,e]
  unfold ZN
  rw [show ({ s with A:=Qw k v s.A } : NSt).A=Qw k v s.A from rfl,KT]
  rfl
 ·rw [if_neg e]
  unfold ZN
  rw [show ({ s with A:=Qw k v s.A } : NSt).A=Qw k v s.A from rfl,YA e]
  rfl
theorem ZpE (he : QL k h s.A=0) (n : Tx) : ZN (YL k h s) n=if n=k then some (Qi s k (h,(Qb k s.A).2)) else ZN s n:=by
 unfold YL
 rw [if_pos he]
 exact ZAr (fun _ _=>trivial) n
theorem ZrF {b : Bool} (he : Yb k b s.A=0) (n : Tx) : ZN (Yo k b s) n=if n=k then some (Qi s k ((Qb k s.A).1,b)) else ZN s n:=by
 unfold Yo
 rw [if_pos he]
 exact ZAr (fun _ _=>trivial) n
theorem Zpr (he : Q3 k m s=0) (n : Tx) : ZN (Jc k m s) n=if n=k then some (k,(Qb k s.A).1,(if QH m then Qd m else []),(Qb k s.A).2,ofL k s.K s.mem) else ZN s n:=by
 obtain ⟨h1,h2,h3,h4⟩:=Zp3 he
 unfold Jc
 rw [if_pos he]
 unfold ZN
 show (Zf n s.A).map (Qi { s with OW:=Zor k m s.OW s.OF,OF:=Zdb k m s.OW s.OF } n)=_
 by_cases e : n=k
 ·rw [if_pos e,e,ZcY h3]
  show some (Qi _ k _)=_
  unfold Qi
  show some (k,(Qb k s.A).1,(Zf k (Zdb k m s.OW s.OF)).getD [],(Qb k s.A).2,ofL k s.K s.mem)=_
  rw [Zen h4,if_pos rfl]
  rcases h2 with hm | hm
  ·rw [if_pos hm,hm]
   rfl
  ·rw [hm]
   by_cases hm0 : m=[]
   ·rw [hm0] at hm;exact absurd hm (by decide)
   ·rw [if_neg hm0]
    rfl
 ·rw [if_neg e]
  cases Zf n s.A with
  | none=>rfl
  | some p=>
   show some (Qi _ n p)=some (Qi s n p)
   unfold Qi
   show some (n,p.1,(Zf n (Zdb k m s.OW s.OF)).getD [],p.2,ofL n s.K s.mem)=_
   rw [Zen h4,if_neg e]
theorem ZnQ (hi : JQ s) (he : J1 o t s.A=0) (n : Tx) : ZN (Wh o t s) n=if n=t then some (t,(Qb o s.A).1,(Zf o s.OF).getD [],(Qb o s.A).2,ofL o s.K s.mem) else if n=o then none else ZN s n:=by
 obtain ⟨h1,h2,h3,h4,h5⟩:=ZhR he
 have hof:=hi.ofN h4
 unfold Wh
 rw [if_pos he]
 unfold ZN
 show (Zf n (Qw t (Qb o s.A) (Yg o s.A))).map _=_
 by_cases e1 : n=t
 ·rw [if_pos e1,e1,KT]
  show some (Qi _ t _)=_
  unfold Qi
  show some (t,(Qb o s.A).1,(Zf t (Zic o t s.OF)).getD [],(Qb o s.A).2,ofL t s.K (Zbs o t s.mem))=_
  rw [Zmv h2 hof h5,if_pos rfl]
  have : ofL t s.K (Zbs o t s.mem)=ofL o s.K s.mem:=by
   unfold ofL Zbs
   refine List.filter_congr fun g _=>?_
   cases hg : s.mem g o
   ·simp [hi.memN h4 g]
   ·simp
  rw [this]
 ·rw [if_neg e1,YA e1]
  by_cases e2 : n=o
  ·rw [if_pos e2,e2,Zar];rfl
  ·rw [if_neg e2,JK e2]
   cases Zf n s.A with
   | none=>rfl
   | some p=>
    show some (Qi _ n p)=some (Qi s n p)
    unfold Qi
    show some (n,p.1,(Zf n (Zic o t s.OF)).getD [],p.2,ofL n s.K (Zbs o t s.mem))=_
    rw [Zmv h2 hof h5,if_neg e1,if_neg e2]
    have : ofL n s.K (Zbs o t s.mem)=ofL n s.K s.mem:=by
     unfold ofL Zbs
     refine List.filter_congr fun g _=>?_
     have b1 : (n==t)=false:=beq_eq_false_iff_ne.2 e1
     have b2 : (n==o)=false:=beq_eq_false_iff_ne.2 e2
     rw [b1,b2]
     cases s.mem g o <;> simp
    rw [this]
theorem ZBT (hk : Zrt s) (n : Tx) : ZN (Zi2 g s) n=ZN s n:=by
 unfold ZN Zi2
 show (Zf n s.A).map _=_
 cases Zf n s.A with
 | none=>rfl
 | some p=>
  show some (Qi _ n p)=some (Qi s n p)
  unfold Qi
  show some (n,p.1,(Zf n s.OF).getD [],p.2,ofL n (ZcP g s.K) s.mem)=_
  have : ofL n (ZcP g s.K) s.mem=ofL n s.K s.mem:=by
   unfold ZcP
   by_cases he : QT g s.K=0
   ·rw [if_pos he]
    have hg : g∉s.K:=fun hm=>by
     unfold QT at he
     cases hn : Zp g <;> rw [hn] at he <;> simp [hm] at he
    have hnod : (s.K++[g]).Nodup:=by
     rw [List.nodup_append]
     exact ⟨hk.nod,by simp,fun a ha b hb e=>hg (by
      have : b=g:=by simpa using hb
      rw [← this,← e];exact ha)⟩
    refine (Zcu hnod).uniq (Zcu hk.nod) fun x=>?_
    rw [List.mem_append,List.mem_singleton]
    constructor
    ·rintro ⟨_,h2⟩
     exact ⟨hk.out x n h2,h2⟩
    ·rintro ⟨h1,h2⟩
     exact ⟨.inl h1,h2⟩
   ·rw [if_neg he]
  rw [this]
theorem ZxK {K : List Tx} {x : Tx} (he : Q1 g K=0) : x∈Zch g K↔x∈K∧x≠g:=by
 unfold Zch
 rw [if_pos he,List.mem_filter]
 simp
theorem ZCg (hk : Zrt s) (he : Q1 g s.K=0) (n : Tx) : ZN (ZfM g s) n=(ZN s n).map fun key=>(key.1,key.2.1,key.2.2.1,key.2.2.2.1,key.2.2.2.2.filter fun x=>decide (x≠g)):=by
 unfold ZN ZfM
 show (Zf n s.A).map _=_
 cases Zf n s.A with
 | none=>rfl
 | some p=>
  show some (Qi _ n p)=some _
  unfold Qi
  show some (n,p.1,(Zf n s.OF).getD [],p.2,ofL n (Zch g s.K) (if Q1 g s.K=0 then Zbc g s.mem else s.mem))=_
  rw [if_pos he]
  have hnod : (Zch g s.K).Nodup:=by
   unfold Zch
   rw [if_pos he]
   exact (List.filter_sublist).nodup hk.nod
  have : ofL n (Zch g s.K) (Zbc g s.mem)=(ofL n s.K s.mem).filter fun x=>decide (x≠g):=by
   refine (Zcu hnod).uniq (p':=fun x=>x∈ofL n s.K s.mem∧x≠g) ⟨(Zcu hk.nod).asc.filter _,fun x=>by rw [List.mem_filter];simp⟩ fun x=>?_
   rw [ZxK he,ZdV]
   unfold Zbc
   simp only [Bool.and_eq_true,Bool.not_eq_true',beq_eq_false_iff_ne]
   exact ⟨fun h=>⟨⟨h.1.1,h.2.1⟩,h.1.2⟩,fun h=>⟨⟨h.1.1,h.2⟩,h.1.2,h.2⟩⟩
  rw [this]
theorem ZAD (he : Wb g k s=0) : Zp g=true∧(∃ p,Zf k s.A=some p)∧g∈s.K∧s.mem g k=false:=by
 unfold Wb at he
 by_cases hm : Ye g k s.A=0
 ·rw [if_pos hm] at he
  obtain ⟨h1,h2⟩:=ZlA hm
  unfold ZaG at he
  by_cases hf : Jg g [k] s.K=0
  ·rw [if_pos hf] at he
   refine ⟨h1,(ZiV h2).2,(ZgW hf).2.2,?_⟩
   cases hg : s.mem g k
   ·rfl
   ·rw [hg] at he;simp at he
  ·rw [if_neg hf] at he;exact absurd he hf
 ·rw [if_neg hm] at he;exact absurd he hm
theorem ZyY (hk : Zrt s) (he : Wb g k s=0) {gs : List Tx} (hg : Is gs (·∈ofL k s.K s.mem++[g])) (n : Tx) : ZN (ZaZ g k s) n=if n=k then some (k,(Qb k s.A).1,(Zf k s.OF).getD [],(Qb k s.A).2,gs) else ZN s n:=by
 obtain ⟨_,⟨p,hp⟩,h3,_⟩:=ZAD he
 unfold ZaZ
 rw [if_pos he]
 unfold ZN
 show (Zf n s.A).map _=_
 by_cases e : n=k
 ·rw [if_pos e,e,ZcY (by rw [hp];rfl)]
  show some (Qi _ k _)=_
  unfold Qi
  show some (k,(Qb k s.A).1,(Zf k s.OF).getD [],(Qb k s.A).2,ofL k s.K (Zcn g k s.mem))=_
  have : ofL k s.K (Zcn g k s.mem)=gs:=by
   refine (Zcu hk.nod).uniq hg fun x=>?_
   rw [List.mem_append,List.mem_singleton,ZdV]
   unfold Zcn
   simp only [Bool.or_eq_true,Bool.and_eq_true,beq_iff_eq]
   constructor
   ·rintro ⟨h1,h2 | ⟨h2,_⟩⟩
    ·exact .inl ⟨h1,h2⟩
    ·exact .inr h2
   ·rintro (⟨h1,h2⟩ | rfl)
    ·exact ⟨h1,.inl h2⟩
    ·exact ⟨h3,.inr (by simp)⟩
  rw [this]
 ·rw [if_neg e]
  cases Zf n s.A with
  | none=>rfl
  | some p=>
   show some (Qi _ n p)=some (Qi s n p)
   unfold Qi
   show some (n,p.1,(Zf n s.OF).getD [],p.2,ofL n s.K (Zcn g k s.mem))=_
   have : ofL n s.K (Zcn g k s.mem)=ofL n s.K s.mem:=by
    unfold ofL Zcn
    refine List.filter_congr fun x _=>?_
    simp [e]
   rw [this]
theorem ZzR (he : Kq g k s=0) : Zp g=true∧(∃ p,Zf k s.A=some p)∧g∈s.K∧s.mem g k=true:=by
 unfold Kq at he
 by_cases hm : Ye g k s.A=0
 ·rw [if_pos hm] at he
  obtain ⟨h1,h2⟩:=ZlA hm
  unfold Zcj at he
  by_cases hf : Jg g [k] s.K=0
  ·rw [if_pos hf] at he
   refine ⟨h1,(ZiV h2).2,(ZgW hf).2.2,?_⟩
   cases hg : s.mem g k
   ·rw [hg] at he;simp at he
   ·rfl
  ·rw [if_neg hf] at he;exact absurd he hf
 ·rw [if_neg hm] at he;exact absurd he hm
theorem Zwa (hk : Zrt s) (he : Kq g k s=0) (n : Tx) : ZN (Wy g k s) n=if n=k then some (k,(Qb k s.A).1,(Zf k s.OF).getD [],(Qb k s.A).2,(ofL k s.K s.mem).filter fun x=>decide (x≠g)) else ZN s n:=by
 obtain ⟨_,⟨p,hp⟩,h3,_⟩:=ZzR he
 unfold Wy
 rw [if_pos he]
 unfold ZN
 show (Zf n s.A).map _=_
 by_cases e : n=k
 ·rw [if_pos e,e,ZcY (by rw [hp];rfl)]
  show some (Qi _ k _)=_
  unfold Qi
  show some (k,(Qb k s.A).1,(Zf k s.OF).getD [],(Qb k s.A).2,ofL k s.K (ZdU g k s.mem))=_
  have : ofL k s.K (ZdU g k s.mem)=(ofL k s.K s.mem).filter fun x=>decide (x≠g):=by
   refine (Zcu hk.nod).uniq (p':=fun x=>x∈ofL k s.K s.mem∧x≠g) ⟨(Zcu hk.nod).asc.filter _,fun x=>by rw [List.mem_filter];simp⟩ fun x=>?_
   rw [ZdV]
   unfold ZdU
   simp only [Bool.and_eq_true,Bool.not_eq_true',Bool.and_eq_false_iff,beq_eq_false_iff_ne]
   constructor
   ·rintro ⟨h1,h2,h3 | h3⟩
    ·exact ⟨⟨h1,h2⟩,h3⟩
    ·exact absurd rfl h3
   ·rintro ⟨⟨h1,h2⟩,h3⟩
    exact ⟨h1,h2,.inl h3⟩
  rw [this]
 ·rw [if_neg e]
  cases Zf n s.A with
  | none=>rfl
  | some p=>
   show some (Qi _ n p)=some (Qi s n p)
   unfold Qi
   show some (n,p.1,(Zf n s.OF).getD [],p.2,ofL n s.K (ZdU g k s.mem))=_
   have : ofL n s.K (ZdU g k s.mem)=ofL n s.K s.mem:=by
    unfold ofL ZdU
    refine List.filter_congr fun x _=>?_
    simp [e]
   rw [this]
end
end Go.Proofs.YtedkoimihknggaaGreatDoor.A
namespace Go.Proofs.YtedkoimihknggaaGreatDoor.A
set_option linter.unusedVariables false
set_option linter.unusedSimpArgs false
open Go.Proofs Go.Proofs.YtedkoimihknggaaGreatDoor
def UOK (X : Zd) (u : Zj) : Prop:=Sl X u.gv (u.gs.map strv)∧oneCell u.gv=true∧u.gs.length≤1000000
structure RD (X : Zd) (uv gv : Value) (s : NSt) : Prop where
 ex : ∃ us,Qh X uv us∧ROK s us
 n : ∃ q N,ZA X gv (N.map strv) q∧Is N (·∈s.K)
structure WQ (s : NSt) : Prop where
 i : JQ s
 k : Zrt s
 n : (ZcO s).Nodup
 x : Inv s.OW s.OF
theorem ND.pinv {X : Zd} {d c : Nat} {r : NR} {s : NSt} (h : ND X d r s c) : WQ s:=⟨h.inv,h.toND0.kn,h.m.nod,h.ix.inv⟩
def ZkX (k h : List UInt8) : Zj:=⟨k,h,[],false,.slice none 0 0,[]⟩
abbrev ZlN : Zj:=ZkX [] []
section
variable {X X' Y H0 : Zd} {n : Nat} {uv gv v : Value} {us : List Zj} {s : NSt} {k h m o t g : Tx} {u w : Zj} {β : Type}
theorem UOK.hle (h : UOK X u) (hl : HLe X X') : UOK X' u:=⟨h.1.mono hl,h.2⟩
theorem Qh.ok (h : Qh X uv us) (hu : u∈us) : UOK X u:=h.2 u hu
theorem Qh.one (h : Qh X uv us) : oneCell uv=true:=h.1.one.1
theorem ZA.hle {vs : List Value} {q : List Nat} (h : ZA X v vs q) (hl : HLe X X') : ZA X' v vs q:=h.step hl.step (by simp)
theorem RD.hle (h : RD X uv gv s) (hl : HLe X X') : RD X' uv gv s:=⟨h.ex.imp fun us ⟨a,b⟩=>⟨a.mono hl,b⟩,h.n.imp fun q ⟨N,a,b⟩=>⟨N,a.hle hl,b⟩⟩
theorem RD.oneG (h : RD X uv gv s) : oneCell gv=true:=by
 obtain ⟨q,N,a,_⟩:=h.n
 exact a.one.1
theorem RD.oneU (h : RD X uv gv s) : oneCell uv=true:=by
 obtain ⟨us,a,_⟩:=h.ex
 exact a.one
theorem ZA.cle {vs : List Value} {q : List Nat} (h : ZA X v vs q) (hc : CLe X X') : ZA X' v vs q:=by
 rcases h with ⟨rfl,rfl,rfl⟩ | ⟨sid,rest,gr,rfl,rfl,hid⟩
 ·exact .inl ⟨rfl,rfl,rfl⟩
 ·exact .inr ⟨sid,rest,gr,rfl,rfl,hc _ _ _ _ _ hid⟩
theorem RD.cle (h : RD X uv gv s) (hc : CLe X X') : RD X' uv gv s:=⟨h.ex.imp fun us ⟨a,b⟩=>⟨a.cle hc,b⟩,h.n.imp fun q ⟨N,a,b⟩=>⟨N,a.cle hc,b⟩⟩
abbrev zD : Value:=.agg #[.slice none 0 0,.slice none 0 0]
abbrev zU : Value:=.agg #[.string ⟨#[]⟩,.string ⟨#[]⟩,.string ⟨#[]⟩,.bool false,.slice none 0 0]
theorem HLe.putB (h : HLe H0 X) {b : Nat} {o : Ze} (hb : H0.length≤b) : HLe H0 (X.set b o):=fun i v hi=>by
 have:=QD hi
 rw [List.getElem?_set_ne (by omega)]
 exact h i v hi
theorem ZiP (h1 : oneCell uv=true) (h2 : oneCell gv=true) : ∃ p3 p6 X2,(∀ {β : Type} (K : Value→Value→M β),bind (alc 1 (.agg #[uv,gv])) (fun a=>bind (alc 1 zD) fun b=>K a b) X=K (pt p3) (pt p6) X2)∧X2[p3]?=some (.cells [uv,gv] 1 false false)∧X2[p6]?=some (.cells [.slice none 0 0,.slice none 0 0] 1 false false)∧HLe X X2∧X.length≤p3∧p3 < p6∧p6 < X2.length:=by
 have z1 : alc 1 (.agg #[uv,gv]) X=some (pt X.length,X++[.cells [uv,gv] 1 false false]):=Wd (vs:=[uv,gv]) (by simp only [List.all_cons,h1,h2];rfl)
 have z2 : alc 1 zD (X++[.cells [uv,gv] 1 false false])=some (pt (X++[Ze.cells [uv,gv] 1 false false]).length,X++[.cells [uv,gv] 1 false false]++[.cells [.slice none 0 0,.slice none 0 0] 1 false false]):=Wd (vs:=[.slice none 0 0,.slice none 0 0]) rfl
 exact ⟨X.length,(X++[Ze.cells [uv,gv] 1 false false]).length,X++[.cells [uv,gv] 1 false false]++[.cells [.slice none 0 0,.slice none 0 0] 1 false false],fun {β} K=>by rw [Za z1,Za z2],ZkP,Zw,(HLe.app _ _).trans (.app _ _),Nat.le_refl _,by simp,by simp⟩
theorem Zil {p3 p6 : Nat} {c6 : List Value} {e : Int} (h1 : oneCell uv=true) (h2 : oneCell gv=true) (c3 : Y[p3]?=some (.cells [uv,gv] 1 false false)) (b6 : Y[p6]?=some (.cells c6 1 false false)) (hl : c6.length=2) :
  (bind (ldA 2 (pt p3)) fun v18=>bind (stA 2 (pt p6) v18) fun _=>bind (ldA 2 (pt p6)) fun vr=>ret (Value.tuple #[vr,iv e])) Y=some (.tuple #[.agg #[uv,gv],iv e],Y.set p6 (.cells [uv,gv] 1 false false)):=by
 have d1 : ldA 2 (pt p3) Y=some (.agg #[uv,gv],Y):=ZR (n:=2) c3 rfl
 have w1:=Kv (vs:=[uv,gv]) (n:=2) b6 hl rfl (by simp only [List.all_cons,h1,h2];rfl)
 have w1 : stA 2 (pt p6) (.agg #[uv,gv]) Y=_:=w1
 have d2 : ldA 2 (pt p6) (Y.set p6 (.cells [uv,gv] 1 false false))=some (.agg #[uv,gv],_):=ZR (n:=2) (ZM b6) rfl
 rw [Za d1,Za w1,Za d2]
 rfl
theorem ZrS (hU : Qh X uv us) (hO : ROK s us) (hP : WQ s) (hg : oneCell gv=true) : ∃ u X',R (n+4) Yc [.agg #[uv,gv],strv k] X=some (.tuple #[.agg u.cells.toArray,iv (Zu k s.A)],X')∧HLe X X'∧UOK X' u∧(Zu k s.A=0→ZQ u=Qi s k (Qb k s.A))∧(u=ZlN∨u∈us)∧(Zu k s.A≠0→u=ZlN):=by
 have z1 : alc 1 (.agg #[uv,gv]) X=some (pt X.length,X++[.cells [uv,gv] 1 false false]):=Wd (vs:=[uv,gv]) (by simp only [List.all_cons,hU.one,hg];rfl)
 have z2 : alc 1 zU (X++[.cells [uv,gv] 1 false false])=some (pt (X++[Ze.cells [uv,gv] 1 false false]).length,X++[.cells [uv,gv] 1 false false]++[.cells (usr ([],[])) 1 false false]):=Wd (vs:=usr ([],[])) rfl
 have k2 : HLe X (X++[Ze.cells [uv,gv] 1 false false]++[Ze.cells (usr ([],[])) 1 false false]):=(HLe.app _ _).trans (.app _ _)
 have b1 : (X++[Ze.cells [uv,gv] 1 false false]++[Ze.cells (usr ([],[])) 1 false false])[X.length]?=some (.cells [uv,gv] 1 false false):=ZkP
 have b2 : (X++[Ze.cells [uv,gv] 1 false false]++[Ze.cells (usr ([],[])) 1 false false])[(X++[Ze.cells [uv,gv] 1 false false]).length]?=some (.cells (usr ([],[])) 1 false false):=Zw
 have hp : X.length < (X++[Ze.cells [uv,gv] 1 false false]).length:=by simp
 generalize X++[Ze.cells [uv,gv] 1 false false]++[Ze.cells (usr ([],[])) 1 false false]=X2 at z2 k2 b1 b2
 generalize (X++[Ze.cells [uv,gv] 1 false false]).length=p2 at z2 b2 hp
 have hlen:=hO.len hP.n
 have hfew:=hP.i.few
 have e1 : R (n+3) QP [strv k] X2=some (.bool (Zp k),X2):=Zca
 have f1 : ∀ v X',ZcA (R (n+3)) (.agg #[uv,gv]) (strv k) X=some (v,X')→R (n+4) Yc [.agg #[uv,gv],strv k] X=some (v,X'):=fun v X' hr=>by rw [R,ZsH rfl];exact hr
 have fin : ∀ (w : Zj) (e : Int) (Y : Zd),oneCell w.gv=true→Y[p2]?=some (.cells (usr ([],[])) 1 false false)→(bind (stA 5 (pt p2) (.agg w.cells.toArray)) fun _=>bind (ldA 5 (pt p2)) fun vr=>ret (Value.tuple #[vr,iv e])) Y=some (.tuple #[.agg w.cells.toArray,iv e],Y.set p2 (.cells w.cells 1 false false)):=fun w e Y hw hY=>by
  have w1:=Kv (vs:=w.cells) (n:=5) hY rfl rfl (Zbk hw)
  have d1 : ldA 5 (pt p2) (Y.set p2 (.cells w.cells 1 false false))=some (.agg w.cells.toArray,_):=ZR (n:=5) (ZM hY) rfl
  rw [Za w1,Za d1]
  rfl
 have okz : ∀ Y,UOK Y ZlN:=fun Y=>⟨Sl.nil,rfl,Nat.zero_le _⟩
 have zb : ∀ Y,bld zU [] Y=some (.agg ZlN.cells.toArray,Y):=fun Y=>rfl
 cases hnm : Zp k
 ·have he : Zu k s.A=10:=by unfold Zu;rw [hnm];rfl
  rw [hnm] at e1
  rw [he]
  refine ⟨ZlN,X2.set p2 (.cells ZlN.cells 1 false false),f1 _ _ ?_,k2.putB (by omega),okz _,fun h=>absurd h (by decide),.inl rfl,fun _=>rfl⟩
  unfold ZcA
  rw [Za z1,Za z2,Za e1,Za ZH,Zb,if_pos (by rfl),Za (zb _)]
  exact fin _ _ _ rfl b2
 ·rw [hnm] at e1
  have a1 : ld1 (pa X.length 0) X2=some (uv,X2):=Zv b1 rfl
  obtain ⟨X3,e3,k3⟩:=Zqx (n:=n+2) (k:=k) (by omega) (hU.mono k2).1 (fun u hu=>(hU.2 u hu).2.1)
  have e3 : R (n+3) WI [uv,strv k] X2=_:=e3
  have b13:=k3 _ _ b1
  have b23:=k3 _ _ b2
  have a3 : ld1 (pa X.length 0) X3=some (uv,X3):=Zv b13 rfl
  cases hfi : ZcS k us with
  | none=>
   rw [hfi] at e3
   have ha:=(ZgS hO).1 hfi
   have he : Zu k s.A=8:=by unfold Zu;rw [hnm,ha];rfl
   rw [he]
   refine ⟨ZlN,X3.set p2 (.cells ZlN.cells 1 false false),f1 _ _ ?_,(k2.trans k3).putB (by omega),okz _,fun h=>absurd h (by decide),.inl rfl,fun _=>rfl⟩
   unfold ZcA
   rw [Za z1,Za z2,Za e1,Za ZH,Zb,if_neg (by simp),Za Zh,Za a1,Za e3,Za Zm,Zb,if_pos (by simp),Za (zb _)]
   exact fin _ _ _ rfl b23
  | some i=>
   rw [hfi] at e3
   obtain ⟨w,p,hw,hwn,ha,hkey⟩:=ZjG hO hfi
   have he : Zu k s.A=0:=by unfold Zu;rw [hnm,ha];rfl
   have hm:=List.mem_of_getElem? hw
   have hok:=(hU.mono (k2.trans k3)).ok hm
   have hrow : (us.map Zj.cells)[i]?=some w.cells:=by rw [List.getElem?_map,hw];rfl
   have hf:=fun {K : Value→M Value}=>((hU.mono (k2.trans k3)).1).fetch (k:=K) hrow (by omega) .i64
   rw [he]
   have hput : HLe X (X3.set p2 (.cells w.cells 1 false false)):=(k2.trans k3).putB (by omega)
   refine ⟨w,X3.set p2 (.cells w.cells 1 false false),f1 _ _ ?_,hput,(hU.mono hput).ok hm,fun _=>by rw [hkey];unfold Qb;rw [ha];rfl,.inr hm,fun h=>absurd rfl h⟩
   unfold ZcA
   rw [Za z1,Za z2,Za e1,Za ZH,Zb,if_neg (by simp),Za Zh,Za a1,Za e3,Za Zm,Zb,if_neg (by simp),Za Zh,Za a3,hf]
   exact fin _ _ _ hok.2.1 b23
theorem ZuH (hU : Qh X uv us) (hO : ROK s us) (hP : WQ s) (hg : oneCell gv=true) : ∃ u X',R (n+4) Yc [.agg #[uv,gv],strv k] X=some (.tuple #[.agg u.cells.toArray,iv (Zu k s.A)],X')∧HLe X X'∧UOK X' u∧(Zu k s.A=0→ZQ u=Qi s k (Qb k s.A)):=by
 obtain ⟨u,X',a,b,c,d,_⟩:=ZrS (n:=n) (k:=k) hU hO hP hg
 exact ⟨u,X',a,b,c,d⟩
theorem Qh.put (h : Qh X uv us) (hv : SlN 5 X' v ((putU u us).map Zj.cells)) (hu : UOK X u) (hl : HLe X X') : Qh X' v (putU u us):=⟨hv,fun w hw=>by
 rcases Zb8.1 hw with rfl | ⟨hw,_⟩
 ·exact hu.hle hl
 ·exact (h.mono hl).2 w hw⟩
theorem ZBb (hU : Qh X uv us) (hl : us.length≤1000) (hu : UOK X u) (hg : oneCell gv=true) : ∃ uv' X',R (n+2) WM [.agg #[uv,gv],.agg u.cells.toArray] X=some (.agg #[uv',gv],X')∧Qh X' uv' (putU u us)∧HLe X X':=by
 have z1 : alc 1 (.agg #[uv,gv]) X=some (pt X.length,X++[.cells [uv,gv] 1 false false]):=Wd (vs:=[uv,gv]) (by simp only [List.all_cons,hU.one,hg];rfl)
 have k1 : HLe X (X++[Ze.cells [uv,gv] 1 false false]):=.app _ _
 have b1 : (X++[Ze.cells [uv,gv] 1 false false])[X.length]?=some (.cells [uv,gv] 1 false false):=Zw
 generalize X++[Ze.cells [uv,gv] 1 false false]=X1 at z1 k1 b1
 have z2:=ZlS (X:=X1) hu.2.1
 have k2 : HLe X1 (X1++[Ze.cells u.cells 1 false false]):=.app _ _
 have b2 : (X1++[Ze.cells u.cells 1 false false])[X1.length]?=some (.cells u.cells 1 false false):=Zw
 generalize X1++[Ze.cells u.cells 1 false false]=X2 at z2 k2 b2
 have z3 : alc 1 zD X2=some (pt X2.length,X2++[.cells [.slice none 0 0,.slice none 0 0] 1 false false]):=Wd (vs:=[.slice none 0 0,.slice none 0 0]) rfl
 have k3 : HLe X2 (X2++[Ze.cells [.slice none 0 0,.slice none 0 0] 1 false false]):=.app _ _
 have b3 : (X2++[Ze.cells [.slice none 0 0,.slice none 0 0] 1 false false])[X2.length]?=some (.cells [.slice none 0 0,.slice none 0 0] 1 false false):=Zw
 generalize X2++[Ze.cells [.slice none 0 0,.slice none 0 0] 1 false false]=X3 at z3 k3 b3
 have l1:=QD b1
 have l2:=QD b2
 have l12:=k2.len
 have b13:=k3 _ _ (k2 _ _ b1)
 have b23:=k3 _ _ b2
 have hk:=(k1.trans k2).trans k3
 have a1 : ld1 (pa X.length 0) X3=some (uv,X3):=Zv b13 rfl
 have d2 : ldA 5 (pt X1.length) X3=some (.agg u.cells.toArray,X3):=ZR (n:=5) b23 rfl
 obtain ⟨X4,v4,q4,e4,r4,k4,o4⟩:=ZtP (n:=n) (u:=u) hu.2.1 hl (hU.mono hk).1 (fun w hw=>(hU.2 w hw).2.1)
 have b14:=k4 _ _ b13
 have b34:=k4 _ _ b3
 have hv1 : oneCell v4=true:=r4.one.1
 have w1 : st1 (pa X.length 0) v4 X4=some (undef,X4.set X.length (.cells [v4,gv] 1 false false)):=K7 (o:=0) b14 (by simp) hv1
 have b15:=ZM (b:=Ze.cells [v4,gv] 1 false false) b14
 have b35:=(List.getElem?_set_ne (a:=Ze.cells [v4,gv] 1 false false) (show X.length≠X2.length by omega)).trans b34
 have hk5 : HLe X (X4.set X.length (.cells [v4,gv] 1 false false)):=(hk.trans k4).putB (Nat.le_refl _)
 have hal : ([v4,gv].all oneCell)=true:=by simp only [List.all_cons,hv1,hg];rfl
 have d5 : ldA 2 (pt X.length) (X4.set X.length (.cells [v4,gv] 1 false false))=some (.agg #[v4,gv],_):=ZR (n:=2) b15 rfl
 have w5:=Kv (vs:=[v4,gv]) (n:=2) b35 rfl rfl hal
 have w5 : stA 2 (pt X2.length) (.agg #[v4,gv]) (X4.set X.length (.cells [v4,gv] 1 false false))=_:=w5
 have d6 : ldA 2 (pt X2.length) ((X4.set X.length (.cells [v4,gv] 1 false false)).set X2.length (.cells [v4,gv] 1 false false))=some (.agg #[v4,gv],_):=ZR (n:=2) (ZM b35) rfl
 have l3:=QD b3
 have hr6 : Qu 5 ((X4.set X.length (.cells [v4,gv] 1 false false)).set X2.length (.cells [v4,gv] 1 false false)) v4 ((putU u us).map Zj.cells) q4:=r4.keep fun j hj=>by
  have:=o4 j hj
  rw [List.getElem?_set_ne (by omega),List.getElem?_set_ne (by omega)]
 refine ⟨v4,(X4.set X.length (.cells [v4,gv] 1 false false)).set X2.length (.cells [v4,gv] 1 false false),?_,hU.put hr6.rd hu (hk5.putB (by omega)),hk5.putB (by omega)⟩
 rw [R,ZuT rfl]
 unfold Zjb
 rw [Za z1,Za z2,Za z3,Za Zh,Za a1,Za d2,Za e4,Za Zh,Za w1,Za d5,Za w5,Za d6]
 rfl
end
end Go.Proofs.YtedkoimihknggaaGreatDoor.A
namespace Go.Proofs.YtedkoimihknggaaGreatDoor.A
set_option linter.unusedVariables false
set_option linter.unusedSimpArgs false
open Go.Proofs Go.Proofs.YtedkoimihknggaaGreatDoor
section
variable {X X' Y H0 : Zd} {n : Nat} {uv gv v : Value} {us : List Zj} {s : NSt} {k h m o t g : Tx} {u w : Zj} {β : Type}
def Wr (v : Value) : Prop:=∃ a n c,v=.slice a n c
theorem Qh.isSl (h : Qh X uv us) : Wr uv:=by
 obtain ⟨a,c,h1,_⟩:=h.1
 exact ⟨a,_,c,h1⟩
theorem ZA.isSlc {vs : List Value} {q : List Nat} (h : ZA X v vs q) : Wr v:=by
 rcases h with ⟨_,_,h⟩ | ⟨_,_,_,h,_⟩
 ·exact ⟨_,_,_,h⟩
 ·exact ⟨_,_,_,h⟩
theorem Wr.one (h : Wr v) : oneCell v=true:=by
 obtain ⟨a,n,c,rfl⟩:=h;rfl
theorem Zqv {x : Tx} (h : Wr (strv x)) : False:=by
 obtain ⟨a,n,c,h⟩:=h
 cases h
theorem Sl.setD {l : List Tx} {b : Nat} {c1 c2 d1 d2 : Value} (h : Sl Y v (l.map strv)) (hb : Y[b]?=some (.cells [c1,c2] 1 false false)) (i1 : Wr c1) (i2 : Wr c2) : Sl (Y.set b (.cells [d1,d2] 1 false false)) v (l.map strv):=by
 by_cases ho : own1 v=some b
 ·obtain ⟨a,c,rfl,h0,hf⟩:=h
  unfold own1 at ho
  split at ho
  ·rename_i id o n x e
   cases e
   cases ho
   have hl : l=[]:=by
    unfold QK at hf
    simp only [hb] at hf
    split at hf
    ·have hf:=Option.some.inj hf
     cases l with
     | nil=>rfl
     | cons y l=>
      have hm : strv y∈([c1,c2].drop o).take ((List.map strv (y :: l)).length * 1):=by rw [hf];simp
      have hm:=List.mem_of_mem_drop (List.mem_of_mem_take hm)
      simp only [List.mem_cons,List.not_mem_nil,or_false] at hm
      rcases hm with hm | hm
      ·rw [← hm] at i1;exact (Zqv i1).elim
      ·rw [← hm] at i2;exact (Zqv i2).elim
    ·cases hf
   subst hl
   refine ⟨_,c,rfl,(fun e=>by cases e),?_⟩
   unfold QK at hf ⊢
   simp only [hb,ZM hb] at hf ⊢
   split at hf
   ·rename_i hle
    rw [if_pos (by simpa using hle)]
    simp
   ·cases hf
  ·cases ho
 ·exact h.keep fun id hid=>List.getElem?_set_ne (fun e=>ho (by rw [hid,e]))
theorem SlN.setD {rows : List (List Value)} {b : Nat} {c1 c2 d1 d2 : Value} (h : SlN 5 Y v rows) (hb : Y[b]?=some (.cells [c1,c2] 1 false false)) : SlN 5 (Y.set b (.cells [d1,d2] 1 false false)) v rows:=by
 by_cases ho : own1 v=some b
 ·obtain ⟨a,c,rfl,h0,hf,hr⟩:=h
  unfold own1 at ho
  split at ho
  ·rename_i id o n x e
   cases e
   cases ho
   unfold QK at hf
   simp only [hb] at hf
   split at hf
   ·rename_i hle
    have hl : rows.length=0:=by
     simp only [List.length_cons,List.length_nil] at hle
     omega
    have hl : rows=[]:=List.eq_nil_of_length_eq_zero hl
    subst hl
    refine ⟨_,c,rfl,(fun e=>by cases e),?_,hr⟩
    unfold QK
    simp only [ZM hb]
    rw [if_pos (by simpa using hle)]
    simp
   ·cases hf
  ·cases ho
 ·exact h.keep fun id hid=>List.getElem?_set_ne (fun e=>ho (by rw [hid,e]))
theorem Qh.setD {b : Nat} {c1 c2 d1 d2 : Value} (h : Qh Y v us) (hb : Y[b]?=some (.cells [c1,c2] 1 false false)) (i1 : Wr c1) (i2 : Wr c2) : Qh (Y.set b (.cells [d1,d2] 1 false false)) v us:=
 ⟨h.1.setD hb,fun u hu=>⟨(h.2 u hu).1.setD hb i1 i2,(h.2 u hu).2⟩⟩
theorem ZA.setD {l : List Tx} {q : List Nat} {b : Nat} {c1 c2 d1 d2 : Value} (h : ZA Y v (l.map strv) q) (hb : Y[b]?=some (.cells [c1,c2] 1 false false)) (i1 : Wr c1) (i2 : Wr c2) : ZA (Y.set b (.cells [d1,d2] 1 false false)) v (l.map strv) q:=by
 rcases h with ⟨h1,rfl,rfl⟩ | ⟨sid,rest,gr,rfl,rfl,hid⟩
 ·exact .inl ⟨h1,rfl,rfl⟩
 ·by_cases e : b=sid
  ·subst e
   rw [hb] at hid
   injection hid with hid
   injection hid with hc h2 h3 h4
   cases l with
   | nil=>
    have hc : [c1,c2]=rest:=by simpa using hc
    subst hc
    exact .inr ⟨b,[d1,d2],gr,rfl,rfl,by rw [ZM hb,h3];rfl⟩
   | cons y l=>
    rw [List.map_cons,List.cons_append] at hc
    injection hc with hc _
    rw [hc] at i1
    exact (Zqv i1).elim
  ·exact .inr ⟨sid,rest,gr,rfl,rfl,(List.getElem?_set_ne e).trans hid⟩
theorem Zx6 (hU : Qh X uv us) (hO : ROK s us) (hP : WQ s) : ∃ X' v us',R (n+4) Za8 [uv,strv k,strv h] X=some (.tuple #[v,iv (Q5 k h s.A)],X')∧Qh X' v us'∧ROK (KR k h s) us'∧HLe X X':=by
 have e1 : R (n+3) QP [strv k] X=some (.bool (Zp k),X):=Zca
 have e2 : R (n+3) Zaw [strv h] X=some (.bool (YR h),X):=ZpZ
 have hlen:=hO.len hP.n
 have hfew:=hP.i.few
 obtain ⟨X1,e3,l1⟩:=Zqx (n:=n+2) (k:=k) (by omega) hU.1 (fun u hu=>(hU.2 u hu).2.1)
 have e3 : R (n+3) WI [uv,strv k] X=_:=e3
 have f1 : ∀ r X',Zcv (R (n+3)) uv (strv k) (strv h) X=some (r,X')→R (n+4) Za8 [uv,strv k,strv h] X=some (r,X'):=fun r X' hr=>by rw [R,Zpm rfl];exact hr
 have hU1:=hU.mono l1
 have hl : Zx uv X1=some (iv us.length,X1):=by have:=hU1.1.len (H':=X1);rwa [List.length_map] at this
 by_cases he : Q5 k h s.A=0
 ·obtain ⟨h1,h2,h3,h4⟩:=Zh3 he
  rw [h1] at e1
  rw [h2] at e2
  rw [(ZgS hO).2 h3] at e3
  have zb : bld zU [(0,1,strv k),(1,1,strv h)] X1=some (.agg (ZkX k h).cells.toArray,X1):=Zmy
  have okB : UOK X1 (ZkX k h):=⟨Sl.nil,rfl,Nat.zero_le _⟩
  obtain ⟨X2,v,q,e4,r4,l4,_⟩:=ZtP (n:=n+2) (u:=ZkX k h) rfl (by omega) hU1.1 (fun u hu=>(hU.2 u hu).2.1)
  have e4 : R (n+3) Zag [uv,.agg (ZkX k h).cells.toArray] X1=_:=e4
  rw [he]
  refine ⟨X2,v,putU (ZkX k h) us,f1 _ _ ?_,hU1.put r4.rd okB l4,hO.put (u:=ZkX k h) ?_ (fun x hx=>?_),l1.trans l4⟩
  ·unfold Zcv
   rw [Za e1,Za ZH,Zb,if_neg (by simp),Za e2,Za ZH,Zb,if_neg (by simp),Za e3,Za Qj,Zb,if_neg (by simp),Za hl,Za Qj,Zb,if_neg (by simp;omega),Za zb,Za e4]
   rfl
  ·rw [ZuP hP.i he,if_pos (show (ZkX k h).nm=k from rfl)];rfl
  ·rw [ZuP hP.i he,if_neg (show ¬ x=k from hx)]
 ·have hn : KR k h s=s:=by unfold KR;rw [if_neg he]
  rw [hn]
  refine ⟨if Zp k && YR h then X1 else X,uv,us,f1 _ _ ?_,?_,hO,?_⟩
  ·unfold Zcv
   cases h1 : Zp k
   ·have hE : Q5 k h s.A=10:=by unfold Q5;rw [h1];rfl
    rw [h1] at e1
    rw [Za e1,Za ZH,Zb,if_pos (by rfl),hE]
    rfl
   ·rw [h1] at e1
    cases h2 : YR h
    ·have hE : Q5 k h s.A=4:=by unfold Q5;rw [h1,h2];rfl
     rw [h2] at e2
     rw [Za e1,Za ZH,Zb,if_neg (by simp),Za e2,Za ZH,Zb,if_pos (by rfl),hE]
     rfl
    ·rw [h2] at e2
     rw [Za e1,Za ZH,Zb,if_neg (by simp),Za e2,Za ZH,Zb,if_neg (by simp),Za e3]
     cases hfi : ZcS k us with
     | some i=>
      obtain ⟨w,p,hw,hwn,ha,hkey⟩:=ZjG hO hfi
      have hE : Q5 k h s.A=9:=by unfold Q5;rw [h1,h2,ha];rfl
      rw [Za Qj,Zb,if_pos (by simp),hE]
      rfl
     | none=>
      have ha:=(ZgS hO).1 hfi
      have h12 : 12≤s.A.length:=by
       unfold Q5 at he
       rw [h1,h2,ha] at he
       simpa using he
      have hE : Q5 k h s.A=7:=by unfold Q5;rw [h1,h2,ha];simp [h12]
      rw [Za Qj,Zb,if_neg (by simp),Za hl,Za Qj,Zb,if_pos (by simp;omega),hE]
      rfl
  ·split
   ·exact hU1
   ·exact hU
  ·split
   ·exact l1
   ·exact .refl _
theorem ZyW (hU : Qh X uv us) (hO : ROK s us) (hP : WQ s) : ∃ X' v us',R (n+4) Za9 [uv,strv k] X=some (.tuple #[v,iv (Zu k s.A)],X')∧Qh X' v us'∧ROK (Ke k s) us'∧HLe X X':=by
 have e1 : R (n+3) QP [strv k] X=some (.bool (Zp k),X):=Zca
 have hlen:=hO.len hP.n
 have hfew:=hP.i.few
 obtain ⟨X1,e3,l1⟩:=Zqx (n:=n+2) (k:=k) (by omega) hU.1 (fun u hu=>(hU.2 u hu).2.1)
 have e3 : R (n+3) WI [uv,strv k] X=_:=e3
 have f1 : ∀ r X',Zbb (R (n+3)) uv (strv k) X=some (r,X')→R (n+4) Za9 [uv,strv k] X=some (r,X'):=fun r X' hr=>by rw [R,Zp5 rfl];exact hr
 have hU1:=hU.mono l1
 cases h1 : Zp k
 ·have hE : Zu k s.A=10:=by unfold Zu;rw [h1];rfl
  have hn : Ke k s=s:=by unfold Ke;rw [if_neg (by rw [hE];decide)]
  rw [h1] at e1
  rw [hn,hE]
  refine ⟨X,uv,us,f1 _ _ ?_,hU,hO,.refl _⟩
  unfold Zbb
  rw [Za e1,Za ZH,Zb,if_pos (by rfl)]
  rfl
 ·rw [h1] at e1
  cases hfi : ZcS k us with
  | none=>
   rw [hfi] at e3
   have ha:=(ZgS hO).1 hfi
   have hE : Zu k s.A=8:=by unfold Zu;rw [h1,ha];rfl
   have hn : Ke k s=s:=by unfold Ke;rw [if_neg (by rw [hE];decide)]
   rw [hn,hE]
   refine ⟨X1,uv,us,f1 _ _ ?_,hU1,hO,l1⟩
   unfold Zbb
   rw [Za e1,Za ZH,Zb,if_neg (by simp),Za e3,Za Zm,Zb,if_pos (by simp)]
   rfl
  | some i=>
   rw [hfi] at e3
   obtain ⟨w,p,hw,hwn,ha,hkey⟩:=ZjG hO hfi
   have hE : Zu k s.A=0:=by unfold Zu;rw [h1,ha];rfl
   obtain ⟨X2,v,e4,r4,l4⟩:=ZvX (n:=n+2) (k:=k) (by omega) hU1.1 (fun u hu=>(hU.2 u hu).2.1)
   have e4 : R (n+3) ZbB [uv,strv k] X1=_:=e4
   refine ⟨X2,v,us.filter fun v=>decide (v.nm≠k),f1 _ _ ?_,⟨r4,fun u hu=>(hU1.mono l4).2 u (List.mem_filter.1 hu).1⟩,hO.drop (by rw [Zs3 hE,if_pos rfl]) (fun x hx=>by rw [Zs3 hE,if_neg hx]),l1.trans l4⟩
   unfold Zbb
   rw [Za e1,Za ZH,Zb,if_neg (by simp),Za e3,Za Zm,Zb,if_neg (by simp),Za e4,hE]
   rfl
theorem Zxe {p3 p6 : Nat} {c1 c2 : Value} {e : Int} {us' : List Zj} (hv : Qh Y v us') (ig : Wr gv) (iu : Wr uv) (i1 : Wr c1) (i2 : Wr c2) (hn : p3≠p6) (c3 : Y[p3]?=some (.cells [uv,gv] 1 false false)) (b6 : Y[p6]?=some (.cells [c1,c2] 1 false false)) :
  ∃ Y',(bind (fa 0 (pt p3)) fun v19=>bind (st1 v19 v) fun _=>bind (ldA 2 (pt p3)) fun v20=>bind (stA 2 (pt p6) v20) fun _=>bind (ldA 2 (pt p6)) fun vr=>ret (Value.tuple #[vr,iv e])) Y=some (.tuple #[.agg #[v,gv],iv e],Y')∧Qh Y' v us'∧(∀ {H0 : Zd},HLe H0 Y→H0.length≤p3→H0.length≤p6→HLe H0 Y')∧(∀ {l : List Tx} {q : List Nat} {w : Value},ZA Y w (l.map strv) q→ZA Y' w (l.map strv) q):=by
 have w1 : st1 (pa p3 0) v Y=some (undef,Y.set p3 (.cells [v,gv] 1 false false)):=K7 (o:=0) c3 (by simp) hv.one
 have c3':=ZM (b:=Ze.cells [v,gv] 1 false false) c3
 have b6':=(List.getElem?_set_ne (a:=Ze.cells [v,gv] 1 false false) hn).trans b6
 have hf:=Zil (e:=e) hv.one ig.one c3' b6' rfl
 refine ⟨(Y.set p3 (.cells [v,gv] 1 false false)).set p6 (.cells [v,gv] 1 false false),?_,(hv.setD (d1:=v) (d2:=gv) c3 iu ig).setD b6' i1 i2,fun h h1 h2=>(h.putB h1).putB h2,fun h=>(h.setD (d1:=v) (d2:=gv) c3 iu ig).setD b6' i1 i2⟩
 rw [Za Zh,Za w1]
 exact hf
theorem RD.isSl (hR : RD X uv gv s) : Wr uv∧Wr gv:=by
 obtain ⟨us,hU,_⟩:=hR.ex
 obtain ⟨q,N,hr,_⟩:=hR.n
 exact ⟨hU.isSl,hr.isSlc⟩
theorem Za4 : Wr (.slice none 0 0):=⟨_,_,_,rfl⟩
theorem Zu1 (hR : RD X uv gv s) (hP : WQ s) : ∃ X' uv',R (n+6) Zcr [.agg #[uv,gv],strv k,strv h] X=some (.tuple #[.agg #[uv',gv],iv (Q5 k h s.A)],X')∧RD X' uv' gv (KR k h s)∧HLe X X':=by
 obtain ⟨us,hU,hO⟩:=hR.ex
 obtain ⟨iu,ig⟩:=hR.isSl
 obtain ⟨p3,p6,X2,z,b3,b6,k2,l3,l36,l6⟩:=ZiP (X:=X) hR.oneU hR.oneG
 have a3 : ld1 (pa p3 0) X2=some (uv,X2):=Zv b3 rfl
 obtain ⟨X3,v,us',e3,hU3,hO3,k3⟩:=Zx6 (n:=n+1) (k:=k) (h:=h) (hU.mono k2) hO hP
 have e3 : R (n+5) Za8 [uv,strv k,strv h] X2=_:=e3
 obtain ⟨X4,e4,hU4,hl4,_⟩:=Zxe (e:=Q5 k h s.A) hU3 ig iu Za4 Za4 (show p3≠p6 by omega) (k3 _ _ b3) (k3 _ _ b6)
 have hkk : HLe X X4:=hl4 (k2.trans k3) l3 (by omega)
 have hK : (KR k h s).K=s.K:=by unfold KR;split <;> rfl
 refine ⟨X4,v,?_,⟨⟨us',hU4,hO3⟩,?_⟩,hkk⟩
 ·rw [R,ZpO rfl]
  unfold Zgo
  rw [z,Za Zh,Za a3,Za e3,Za Zr,Za Zs]
  exact e4
 ·rw [hK]
  exact (hR.hle hkk).n
theorem Zvt (hR : RD X uv gv s) (hP : WQ s) : ∃ X' uv',R (n+6) Zcx [.agg #[uv,gv],strv k] X=some (.tuple #[.agg #[uv',gv],iv (Zu k s.A)],X')∧RD X' uv' gv (Ke k s)∧HLe X X':=by
 obtain ⟨us,hU,hO⟩:=hR.ex
 obtain ⟨iu,ig⟩:=hR.isSl
 obtain ⟨p3,p6,X2,z,b3,b6,k2,l3,l36,l6⟩:=ZiP (X:=X) hR.oneU hR.oneG
 have a3 : ld1 (pa p3 0) X2=some (uv,X2):=Zv b3 rfl
 obtain ⟨X3,v,us',e3,hU3,hO3,k3⟩:=ZyW (n:=n+1) (k:=k) (hU.mono k2) hO hP
 have e3 : R (n+5) Za9 [uv,strv k] X2=_:=e3
 obtain ⟨X4,e4,hU4,hl4,_⟩:=Zxe (e:=Zu k s.A) hU3 ig iu Za4 Za4 (show p3≠p6 by omega) (k3 _ _ b3) (k3 _ _ b6)
 have hkk : HLe X X4:=hl4 (k2.trans k3) l3 (by omega)
 have hK : (Ke k s).K=s.K:=by unfold Ke;split <;> rfl
 refine ⟨X4,v,?_,⟨⟨us',hU4,hO3⟩,?_⟩,hkk⟩
 ·rw [R,Zqp rfl]
  unfold Zgq
  rw [z,Za Zh,Za a3,Za e3,Za Zr,Za Zs]
  exact e4
 ·rw [hK]
  exact (hR.hle hkk).n
theorem ZtV {p3 p6 p8 : Nat} {c1 c2 : Value} (hU : Qh Y uv us) (hl : us.length≤1000) (hu : UOK Y u) (ig : Wr gv) (i1 : Wr c1) (i2 : Wr c2) (c3 : Y[p3]?=some (.cells [uv,gv] 1 false false)) (b6 : Y[p6]?=some (.cells [c1,c2] 1 false false)) (b8 : Y[p8]?=some (.cells u.cells 1 false false)) :
  ∃ uv' Y',(bind (ldA 2 (pt p3)) fun v33=>bind (ldA 5 (pt p8)) fun v34=>bind (R (n+5) WM [v33,v34]) fun v35=>bind (stA 2 (pt p6) v35) fun _=>bind (ldA 2 (pt p6)) fun vr=>ret (Value.tuple #[vr,iv 0])) Y=some (.tuple #[.agg #[uv',gv],iv 0],Y')∧Qh Y' uv' (putU u us)∧(∀ {H0 : Zd},HLe H0 Y→H0.length≤p6→HLe H0 Y'):=by
 have d3 : ldA 2 (pt p3) Y=some (.agg #[uv,gv],Y):=ZR (n:=2) c3 rfl
 have d8 : ldA 5 (pt p8) Y=some (.agg u.cells.toArray,Y):=ZR (n:=5) b8 rfl
 obtain ⟨uv',Y1,e1,hU1,k1⟩:=ZBb (n:=n+3) hU hl hu ig.one
 have e1 : R (n+5) WM [.agg #[uv,gv],.agg u.cells.toArray] Y=_:=e1
 have b6':=k1 _ _ b6
 have hal : ([uv',gv].all oneCell)=true:=by simp only [List.all_cons,hU1.one,ig.one];rfl
 have w1:=Kv (vs:=[uv',gv]) (n:=2) b6' rfl rfl hal
 have w1 : stA 2 (pt p6) (.agg #[uv',gv]) Y1=_:=w1
 have d6 : ldA 2 (pt p6) (Y1.set p6 (.cells [uv',gv] 1 false false))=some (.agg #[uv',gv],_):=ZR (n:=2) (ZM b6') rfl
 refine ⟨uv',Y1.set p6 (.cells [uv',gv] 1 false false),?_,hU1.setD b6' i1 i2,fun h h1=>(h.trans k1).putB h1⟩
 rw [Za d3,Za d8,Za e1,Za w1,Za d6]
 rfl
theorem Sl.ltO {vs : List Value} (hs : Sl X v vs) {id : Nat} (hid : own1 v=some id) : id < X.length:=by
 obtain ⟨a,c,rfl,h0,hf⟩:=hs
 unfold own1 at hid
 split at hid
 ·rename_i id' o n x e
  cases e
  cases hid
  unfold QK at hf
  simp only at hf
  split at hf
  ·rename_i hb
   exact QD hb
  ·cases hf
 ·cases hid
theorem ZjO (hR : RD X uv gv s) (hP : WQ s) : ∃ p3 p6 p8 u X',(∀ {β : Type} (K : Value→Value→Value→Value→M β),bind (alc 1 (.agg #[uv,gv])) (fun v3=>bind (alc 1 zD) fun v6=>bind (ldA 2 v3) fun v11=>bind (R (n+5) Yc [v11,strv k]) fun v13=>bind (Zo v13 0) fun v14=>bind (Zo v13 1) fun v15=>bind (alc 1 zU) fun v8=>bind (stA 5 v8 v14) fun _=>K v3 v6 v8 v15) X=K (pt p3) (pt p6) (pt p8) (iv (Zu k s.A)) X')∧
  X'[p3]?=some (.cells [uv,gv] 1 false false)∧X'[p6]?=some (.cells [.slice none 0 0,.slice none 0 0] 1 false false)∧X'[p8]?=some (.cells u.cells 1 false false)∧HLe X X'∧X.length≤p3∧p3 < p6∧p6 < p8∧UOK X' u∧(∀ id,own1 u.gv=some id→id < p8)∧(Zu k s.A=0→ZQ u=Qi s k (Qb k s.A)):=by
 obtain ⟨us,hU,hO⟩:=hR.ex
 obtain ⟨p3,p6,X2,z,b3,b6,k2,l3,l36,l6⟩:=ZiP (X:=X) hR.oneU hR.oneG
 have d3 : ldA 2 (pt p3) X2=some (.agg #[uv,gv],X2):=ZR (n:=2) b3 rfl
 obtain ⟨u,X3,e3,k3,ok,hk⟩:=ZuH (n:=n+1) (k:=k) (hU.mono k2) hO hP hR.oneG
 have e3 : R (n+5) Yc [.agg #[uv,gv],strv k] X2=_:=e3
 have z8 : ∀ {β : Type} (K : Value→M β),bind (alc 1 zU) (fun q=>bind (stA 5 q (.agg u.cells.toArray)) fun _=>K q) X3=K (pt X3.length) (X3++[.cells u.cells 1 false false]):=fun K=>WZ (n:=5) (zs:=[.string ⟨#[]⟩,.string ⟨#[]⟩,.string ⟨#[]⟩,.bool false,.slice none 0 0]) (r:=u.cells) rfl rfl rfl (Zbk ok.2.1)
 have k4 : HLe X3 (X3++[Ze.cells u.cells 1 false false]):=.app _ _
 have hx3:=k3.len
 refine ⟨p3,p6,X3.length,u,X3++[.cells u.cells 1 false false],fun {β} K=>?_,k4 _ _ (k3 _ _ b3),k4 _ _ (k3 _ _ b6),Zw,(k2.trans k3).trans k4,l3,l36,by omega,ok.hle k4,fun id hid=>ok.1.ltO hid,hk⟩
 rw [z,Za d3,Za e3,Za Zr,Za Zs]
 exact z8 _
theorem RD.back (hR : RD X uv gv s) {s' : NSt} (hl : HLe X X') (he : s'=s) : RD X' uv gv s':=by rw [he];exact hR.hle hl
theorem ZwT : (YL k h s).K=s.K:=by unfold YL;split <;> rfl
theorem ZwB {b : Bool} : (Yo k b s).K=s.K:=by unfold Yo;split <;> rfl
theorem Zxp : (Jc k m s).K=s.K:=by unfold Jc;split <;> rfl
theorem ZxD : (Wh o t s).K=s.K:=by unfold Wh;split <;> rfl
theorem ZBD : (ZaZ g k s).K=s.K:=by unfold ZaZ;split <;> rfl
theorem Zze : (Wy g k s).K=s.K:=by unfold Wy;split <;> rfl
theorem RD.users (hR : RD X uv gv s) {s' : NSt} {uv' : Value} {us' : List Zj} (hl : HLe X X') (hU : Qh X' uv' us') (hO : ROK s' us') (hK : s'.K=s.K) : RD X' uv' gv s':=⟨⟨us',hU,hO⟩,by rw [hK];exact (hR.hle hl).n⟩
theorem Zuc (hR : RD X uv gv s) (hP : WQ s) : ∃ X' uv',R (n+6) Zaz [.agg #[uv,gv],strv k,strv h] X=some (.tuple #[.agg #[uv',gv],iv (QL k h s.A)],X')∧RD X' uv' gv (YL k h s)∧HLe X X':=by
 obtain ⟨us,hU,hO⟩:=hR.ex
 obtain ⟨iu,ig⟩:=hR.isSl
 obtain ⟨p3,p6,p8,u,X3,z,b3,b6,b8,k3,l3,l36,l68,ok,lo,hkey⟩:=ZjO (n:=n) (k:=k) hR hP
 have hlen:=hO.len hP.n
 have hfew:=hP.i.few
 have e2 : R (n+5) Zaw [strv h] X3=some (.bool (YR h),X3):=ZpZ
 have f1 : ∀ r X',ZbV (R (n+5)) (.agg #[uv,gv]) (strv k) (strv h) X=some (r,X')→R (n+6) Zaz [.agg #[uv,gv],strv k,strv h] X=some (r,X'):=fun r X' hr=>by rw [R,ZoD rfl];exact hr
 have a3 : ld1 (pa p8 3) X3=some (.bool u.ds,X3):=Zv b8 rfl
 have back : ∀ e : Int,QL k h s.A=e→e≠0→YL k h s=s:=fun e h1 h2=>by unfold YL;rw [if_neg (by rw [h1];exact h2)]
 have hfin:=fun e : Int=>Zil (e:=e) hR.oneU hR.oneG b3 b6 rfl
 have hfl : HLe X (X3.set p6 (.cells [uv,gv] 1 false false)):=k3.putB (by omega)
 by_cases he : QL k h s.A=0
 ·obtain ⟨a1,a2,a3',a4⟩:=Zji he
  have hN : Zu k s.A=0:=by unfold Zu;rw [a1,a3'];rfl
  have hku:=hkey hN
  have hds : u.ds=false:=by
   have : u.ds=(Qb k s.A).2:=congrArg (·.2.2.2.1) hku
   rw [this,a4]
  have w8 : st1 (pa p8 1) (strv h) X3=some (undef,X3.set p8 (.cells (Zj.cells { u with hs:=h }) 1 false false)):=K7 (o:=1) b8 (by simp) rfl
  have k8 : HLe X (X3.set p8 (.cells (Zj.cells { u with hs:=h }) 1 false false)):=k3.putB (by omega)
  have ok8 : UOK (X3.set p8 (.cells (Zj.cells { u with hs:=h }) 1 false false)) { u with hs:=h }:=by
   exact ⟨ok.1.keep fun id hid=>List.getElem?_set_ne (by have:=lo id hid;omega),ok.2⟩
  have c3:=(List.getElem?_set_ne (a:=Ze.cells (Zj.cells { u with hs:=h }) 1 false false) (show p8≠p3 by omega)).trans b3
  have c6:=(List.getElem?_set_ne (a:=Ze.cells (Zj.cells { u with hs:=h }) 1 false false) (show p8≠p6 by omega)).trans b6
  have c8:=ZM (b:=Ze.cells (Zj.cells { u with hs:=h }) 1 false false) b8
  obtain ⟨uv',X4,e4,hU4,hl4⟩:=ZtV (n:=n) (u:={ u with hs:=h }) (hU.mono k8) (by omega) ok8 ig Za4 Za4 c3 c6 c8
  have hkk : HLe X X4:=hl4 k8 (by omega)
  rw [he]
  have hnm : u.nm=k:=congrArg (·.1) hku
  refine ⟨X4,uv',f1 _ _ ?_,hR.users hkk hU4 (hO.put (u:={ u with hs:=h }) ?_ (fun x hx=>?_)) ZwT,hkk⟩
  ·unfold ZbV
   refine (z _).trans ?_
   have q1 : bop .int .eql (iv (Zu k s.A)) (.int .i64 10) X3=some (.bool false,X3):=by rw [ZD,hN];rfl
   have q3 : bop .int .neq (iv (Zu k s.A)) (.int .i64 0) X3=some (.bool false,X3):=by rw [Zq,hN];rfl
   rw [a2] at e2
   rw [hds] at a3
   rw [Za q1,Zb,if_neg (by simp),Za e2,Za ZH,Zb,if_neg (by simp),Za q3,Zb,if_neg (by simp),Za Zh,Za a3,Zb,if_neg (by simp),Za Zh,Za w8]
   exact e4
  ·rw [ZpE he,if_pos (show u.nm=k from hnm)]
   have h2 : ZQ { u with hs:=h }=(k,h,(ZQ u).2.2):=by unfold ZQ;rw [hnm]
   rw [h2,hku]
   rfl
  ·rw [ZpE he,if_neg (by rw [← hnm];exact hx)]
 ·have hn : YL k h s=s:=by unfold YL;rw [if_neg he]
  rw [hn]
  refine ⟨X3.set p6 (.cells [uv,gv] 1 false false),uv,f1 _ _ ?_,hR.hle hfl,hfl⟩
  unfold ZbV
  refine (z _).trans ?_
  cases a1 : Zp k
  ·have hN : Zu k s.A=10:=by unfold Zu;rw [a1];rfl
   have hE : QL k h s.A=10:=by unfold QL;rw [a1];rfl
   have q1 : bop .int .eql (iv 10) (.int .i64 10) X3=some (.bool true,X3):=by rw [ZD];rfl
   rw [hN,hE,Za q1,Zb,if_pos rfl]
   exact hfin 10
  ·have hN : Zu k s.A=0∨Zu k s.A=8:=by unfold Zu;rw [a1];cases (Zf k s.A).isSome <;> simp
   have q1 : bop .int .eql (iv (Zu k s.A)) (.int .i64 10) X3=some (.bool false,X3):=by rw [ZD];rcases hN with h1 | h1 <;> rw [h1] <;> rfl
   rw [Za q1,Zb,if_neg (by simp),Za e2,Za ZH,Zb]
   cases a2 : YR h
   ·have hE : QL k h s.A=4:=by unfold QL;rw [a1,a2];rfl
    rw [if_pos (by rfl),hE]
    exact hfin 4
   ·rw [if_neg (by simp)]
    cases a3' : (Zf k s.A).isSome
    ·have hN : Zu k s.A=8:=by unfold Zu;rw [a1,a3'];rfl
     have hE : QL k h s.A=8:=by unfold QL;rw [a1,a2,a3'];rfl
     have q3 : bop .int .neq (iv 8) (.int .i64 0) X3=some (.bool true,X3):=by rw [Zq];rfl
     rw [hN,Za q3,Zb,if_pos rfl,hE]
     exact hfin 8
    ·have hN : Zu k s.A=0:=by unfold Zu;rw [a1,a3'];rfl
     have q3 : bop .int .neq (iv (Zu k s.A)) (.int .i64 0) X3=some (.bool false,X3):=by rw [Zq,hN];rfl
     have a4 : (Qb k s.A).2=true:=by
      unfold QL at he
      rw [a1,a2,a3'] at he
      simpa using he
     have hds : u.ds=true:=by
      have : u.ds=(Qb k s.A).2:=congrArg (·.2.2.2.1) (hkey hN)
      rw [this,a4]
     have hE : QL k h s.A=12:=by unfold QL;rw [a1,a2,a3',a4];rfl
     rw [hds] at a3
     rw [Za q3,Zb,if_neg (by simp),Za Zh,Za a3,Zb,if_pos rfl,hE]
     exact hfin 12
end
end Go.Proofs.YtedkoimihknggaaGreatDoor.A
namespace Go.Proofs.YtedkoimihknggaaGreatDoor.A
set_option linter.unusedVariables false
set_option linter.unusedSimpArgs false
open Go.Proofs Go.Proofs.YtedkoimihknggaaGreatDoor
section
variable {X X' Y H0 : Zd} {n : Nat} {uv gv v : Value} {us : List Zj} {s : NSt} {k h m o t g x : Tx} {u w : Zj} {β : Type} {l : List Tx}
theorem ZuQ (hl : l.length≤1000000) (hs : Sl X v (l.map strv)) : ∀ (t j : Nat),l.length - j=t→j≤l.length→
  Zi (c4 (Zae.l1 (R n))) [strv x,v,iv l.length,iv j] X=some (if x∈l.drop j then .ret (.bool true) else .ext 0 [],X)
 | 0,j,ht,hj=>by
  rw [List.drop_eq_nil_of_le (by omega)]
  refine ZK ?_
  rw [ZI,show j=l.length by omega]
  unfold Zae.l1
  rw [Za Zm,Zb,if_neg (by simp)]
  rfl
 | t+1,j,ht,hj=>by
  have hkl : j < l.length:=by omega
  have hlt : (j : Int) < l.length:=by omega
  have hg:=List.getElem?_eq_getElem hkl
  have hd:=List.drop_eq_getElem_cons hkl
  generalize l[j]=y at hg hd
  have x1:=hs.ix (i:=j) (by simpa using hkl) .i64 X
  have x2:=hs.ldx (Yt hg)
  have x3 : bop .str .eql (strv y) (strv x) X=some (.bool (y==x),X):=Zdp
  rw [hd]
  by_cases hyx : y=x
  ·rw [if_pos (by simp [hyx])]
   refine QE ?_
   rw [ZI]
   unfold Zae.l1
   rw [Za Zm,Zb,if_pos (by simpa using hlt),Za x1,Za x2,Za x3,Zb,if_pos (by simpa using hyx)]
   rfl
  ·have : (x∈y :: l.drop (j+1))↔x∈l.drop (j+1):=by simp [Ne.symm hyx]
   simp only [this]
   refine (Zy ?_).trans (ZuQ hl hs t (j+1) (by omega) (by omega))
   rw [ZI]
   unfold Zae.l1
   rw [Za Zm,Zb,if_pos (by simpa using hlt),Za x1,Za x2,Za x3,Zb,if_neg (by simpa using hyx),Za ZB,Qg (by omega)]
   rfl
theorem Zro (hl : l.length≤1000000) (hs : Sl X v (l.map strv)) : R (n+1) K3 [v,strv x] X=some (.bool (decide (x∈l)),X):=by
 have e:=ZuQ (n:=n) (x:=x) hl hs l.length 0 (by omega) (by omega)
 rw [show iv ((0 : Nat) : Int)=.int .i64 0 from rfl,List.drop_zero] at e
 have hlen : Zx v X=some (iv l.length,X):=by have:=hs.len (H':=X);simpa using this
 rw [R,ZtK rfl]
 unfold Zae
 rw [Za hlen]
 by_cases h : x∈l
 ·rw [if_pos h] at e
  rw [JJ e,decide_eq_true h];rfl
 ·rw [if_neg h] at e
  rw [ZT e,ZE,decide_eq_false h];rfl
theorem Zre {lv : Value} (hl : l.length≤1000) (hA : Sl H0 lv (l.map strv)) : ∀ (t j : Nat) (sl : Value) (q : List Nat) (acc : List Tx) (X : Zd),l.length - j=t→j≤l.length→acc.length≤j→HLe H0 X→(∀ i∈q,H0.length≤i)→ZA X sl (acc.map strv) q→
  ∃ X' sl' q',Zi (c5 (YF.l1 (R n))) [strv k,sl,lv,iv l.length,iv j] X=some (.ext 0 [sl'],X')∧ZA X' sl' ((acc++(l.drop j).filter (fun x=>decide (x≠k))).map strv) q'∧HLe H0 X'∧∀ i∈q',H0.length≤i
 | 0,j,sl,q,acc,X,ht,hj,ha,hle,hq,hr=>by
  rw [List.drop_eq_nil_of_le (by omega)]
  refine ⟨X,sl,q,ZK ?_,by simpa using hr,hle,hq⟩
  rw [Qc,show j=l.length by omega]
  unfold YF.l1
  rw [Za Zm,Zb,if_neg (by simp)]
  rfl
 | t+1,j,sl,q,acc,X,ht,hj,ha,hle,hq,hr=>by
  have hkl : j < l.length:=by omega
  have hlt : (j : Int) < l.length:=by omega
  have hg:=List.getElem?_eq_getElem hkl
  have hd:=List.drop_eq_getElem_cons hkl
  generalize l[j]=y at hg hd
  have hA':=hA.mono hle
  have x1:=hA'.ix (i:=j) (by simpa using hkl) .i64 X
  have x2:=hA'.ldx (Yt hg)
  rw [hd,List.filter_cons]
  by_cases hy : y=k
  ·rw [if_neg (by simpa using hy)]
   obtain ⟨X2,sl2,q2,e2,r2,s2,o2⟩:=Zre hl hA t (j+1) sl q acc X (by omega) (by omega) (by omega) hle hq hr
   refine ⟨X2,sl2,q2,(Zy ?_).trans e2,r2,s2,o2⟩
   rw [Qc]
   unfold YF.l1
   rw [Za Zm,Zb,if_pos (by simpa using hlt),Za x1,Za x2,Za Wt]
   refine (ZZ (vs:=[strv k,sl,lv,iv l.length,iv j]) (H':=X) ?_).trans ?_
   ·rw [Zb,if_neg (by simpa using hy)];rfl
   ·rw [Qc,Za ZB,Qg (by omega)];rfl
  ·rw [if_pos (by simpa using hy)]
   obtain ⟨w,Y,sl1,X2,q1,a1,a2,r1,l2,o1,s1⟩:=Zia (u:=y) hr (by omega) hq hle
   obtain ⟨X3,sl2,q2,e2,r2,s2,o2⟩:=Zre hl hA t (j+1) sl1 q1 (acc++[y]) X2 (by omega) (by omega) (by simp;omega) l2 o1 r1
   refine ⟨X3,sl2,q2,(Zy ?_).trans e2,by simpa using r2,s2,o2⟩
   rw [Qc]
   unfold YF.l1
   rw [Za Zm,Zb,if_pos (by simpa using hlt),Za x1,Za x2,Za Wt]
   refine (ZZ (vs:=[strv k,sl1,lv,iv l.length,iv j]) (H':=X2) ?_).trans ?_
   ·rw [Zb,if_pos (by simpa using hy),Za a1,Za a2];rfl
   ·rw [Qc,Za ZB,Qg (by omega)];rfl
theorem Znm {lv : Value} (hl : l.length≤1000) (hA : Sl X lv (l.map strv)) : ∃ X' v q,R (n+1) ZaA [lv,strv k] X=some (v,X')∧ZA X' v ((l.filter fun x=>decide (x≠k)).map strv) q∧HLe X X'∧∀ i∈q,X.length≤i:=by
 obtain ⟨X',v,q,e,r,l1,o⟩:=Zre (n:=n) (k:=k) hl hA l.length 0 (.slice none 0 0) [] [] X (by omega) (by omega) (Nat.le_refl _) (.refl _) (by simp) ZA.nil
 rw [List.drop_zero] at r
 have e : Zi (c5 (YF.l1 (R n))) [strv k,.slice none 0 0,lv,iv l.length,.int .i64 0] X=_:=e
 have hlen : Zx lv X=some (iv l.length,X):=by have:=hA.len (H':=X);simpa using this
 refine ⟨X',v,q,?_,by simpa using r,l1,o⟩
 rw [R,ZnW rfl]
 unfold YF
 rw [Za hlen,ZT e,ZE]
 rfl
theorem ZtI {b : Bool} (hR : RD X uv gv s) (hP : WQ s) : ∃ X' uv',R (n+6) ZaE [.agg #[uv,gv],strv k,.bool b] X=some (.tuple #[.agg #[uv',gv],iv (Yb k b s.A)],X')∧RD X' uv' gv (Yo k b s)∧HLe X X':=by
 obtain ⟨us,hU,hO⟩:=hR.ex
 obtain ⟨iu,ig⟩:=hR.isSl
 obtain ⟨p3,p6,p8,u,X3,z,b3,b6,b8,k3,l3,l36,l68,ok,lo,hkey⟩:=ZjO (n:=n) (k:=k) hR hP
 have hlen:=hO.len hP.n
 have hfew:=hP.i.few
 have f1 : ∀ r X',ZaF (R (n+5)) (.agg #[uv,gv]) (strv k) (.bool b) X=some (r,X')→R (n+6) ZaE [.agg #[uv,gv],strv k,.bool b] X=some (r,X'):=fun r X' hr=>by rw [R,Zos rfl];exact hr
 have a3 : ld1 (pa p8 3) X3=some (.bool u.ds,X3):=Zv b8 rfl
 have hfin:=fun e : Int=>Zil (e:=e) hR.oneU hR.oneG b3 b6 rfl
 have hfl : HLe X (X3.set p6 (.cells [uv,gv] 1 false false)):=k3.putB (by omega)
 by_cases hN : Zu k s.A=0
 ·have hku:=hkey hN
  have hnm : u.nm=k:=congrArg (·.1) hku
  have hds : u.ds=(Qb k s.A).2:=congrArg (·.2.2.2.1) hku
  have q1 : bop .int .neq (iv (Zu k s.A)) (.int .i64 0) X3=some (.bool false,X3):=by rw [Zq,hN];rfl
  rw [hds] at a3
  by_cases hb : (Qb k s.A).2=b
  ·have hE : Yb k b s.A=12:=by unfold Yb;rw [if_pos hN,if_pos hb]
   have hn : Yo k b s=s:=by unfold Yo;rw [if_neg (by rw [hE];decide)]
   have q2 : bop .bool .eql (.bool (Qb k s.A).2) (.bool b) X3=some (.bool true,X3):=by rw [Jt,hb];simp
   rw [hn,hE]
   refine ⟨X3.set p6 (.cells [uv,gv] 1 false false),uv,f1 _ _ ?_,hR.hle hfl,hfl⟩
   unfold ZaF
   refine (z _).trans ?_
   rw [Za q1,Zb,if_neg (by simp),Za Zh,Za a3,Za q2,Zb,if_pos rfl]
   exact hfin 12
  ·have hE : Yb k b s.A=0:=by unfold Yb;rw [if_pos hN,if_neg hb]
   have q2 : bop .bool .eql (.bool (Qb k s.A).2) (.bool b) X3=some (.bool false,X3):=by rw [Jt];simp [hb]
   have w8 : st1 (pa p8 3) (.bool b) X3=some (undef,X3.set p8 (.cells (Zj.cells { u with ds:=b }) 1 false false)):=K7 (o:=3) b8 (by simp) rfl
   have k8 : HLe X (X3.set p8 (.cells (Zj.cells { u with ds:=b }) 1 false false)):=k3.putB (by omega)
   have ok8 : UOK (X3.set p8 (.cells (Zj.cells { u with ds:=b }) 1 false false)) { u with ds:=b }:=⟨ok.1.keep fun id hid=>List.getElem?_set_ne (by have:=lo id hid;omega),ok.2⟩
   have c3:=(List.getElem?_set_ne (a:=Ze.cells (Zj.cells { u with ds:=b }) 1 false false) (show p8≠p3 by omega)).trans b3
   have c6:=(List.getElem?_set_ne (a:=Ze.cells (Zj.cells { u with ds:=b }) 1 false false) (show p8≠p6 by omega)).trans b6
   have c8:=ZM (b:=Ze.cells (Zj.cells { u with ds:=b }) 1 false false) b8
   obtain ⟨uv',X4,e4,hU4,hl4⟩:=ZtV (n:=n) (u:={ u with ds:=b }) (hU.mono k8) (by omega) ok8 ig Za4 Za4 c3 c6 c8
   have hkk : HLe X X4:=hl4 k8 (by omega)
   rw [hE]
   refine ⟨X4,uv',f1 _ _ ?_,hR.users hkk hU4 (hO.put (u:={ u with ds:=b }) ?_ (fun x hx=>?_)) ZwB,hkk⟩
   ·unfold ZaF
    refine (z _).trans ?_
    rw [Za q1,Zb,if_neg (by simp),Za Zh,Za a3,Za q2,Zb,if_neg (by simp),Za Zh,Za w8]
    exact e4
   ·rw [ZrF hE,if_pos (show u.nm=k from hnm)]
    have h2 : ZQ { u with ds:=b }=(k,(ZQ u).2.1,(ZQ u).2.2.1,b,(ZQ u).2.2.2.2):=by unfold ZQ;rw [hnm]
    rw [h2,hku]
    rfl
   ·rw [ZrF hE,if_neg (by rw [← hnm];exact hx)]
 ·have hE : Yb k b s.A=Zu k s.A:=by unfold Yb;rw [if_neg hN]
  have hn : Yo k b s=s:=by unfold Yo;rw [if_neg (by rw [hE];exact hN)]
  have q1 : bop .int .neq (iv (Zu k s.A)) (.int .i64 0) X3=some (.bool true,X3):=by rw [Zq];simp [hN]
  rw [hn,hE]
  refine ⟨X3.set p6 (.cells [uv,gv] 1 false false),uv,f1 _ _ ?_,hR.hle hfl,hfl⟩
  unfold ZaF
  refine (z _).trans ?_
  rw [Za q1,Zb,if_pos rfl]
  exact hfin _
def ZfU (m k : Tx) (us : List Zj) : Bool:=us.any fun v=>decide (m≠[]) && (v.ml==m) && !(v.nm==k)
theorem Zs0 {p3 p6 p8 : Nat} (hn : us.length≤1000) (hU : Qh H0 uv us) (h1 : oneCell uv=true) (h2 : oneCell gv=true) (b3 : H0[p3]?=some (.cells [uv,gv] 1 false false)) (b6 : H0[p6]?=some (.cells [.slice none 0 0,.slice none 0 0] 1 false false)) : ∀ (t j : Nat) (X : Zd),us.length - j=t→j≤us.length→HLe H0 X→
  ∃ X',(if ZfU m k (us.drop j) then Zi (c8 (Qz.l1 (R n))) [strv k,pt p3,pt p6,pt p8,strv m,uv,iv us.length,iv j] X=some (.ret (.tuple #[.agg #[uv,gv],iv 9]),X'.set p6 (.cells [uv,gv] 1 false false)) else Zi (c8 (Qz.l1 (R n))) [strv k,pt p3,pt p6,pt p8,strv m,uv,iv us.length,iv j] X=some (.ext 0 [pt p3,pt p6,pt p8,strv m],X'))∧HLe H0 X'
 | 0,j,X,ht,hj,hle=>by
  rw [List.drop_eq_nil_of_le (by omega)]
  refine ⟨X,?_,hle⟩
  rw [if_neg (by simp [ZfU])]
  refine ZK ?_
  rw [Kj,show j=us.length by omega]
  unfold Qz.l1
  rw [Za Zm,Zb,if_neg (by simp)]
  rfl
 | t+1,j,X,ht,hj,hle=>by
  have hkl : j < us.length:=by omega
  have hlt : (j : Int) < us.length:=by omega
  have hg:=List.getElem?_eq_getElem hkl
  have hd:=List.drop_eq_getElem_cons hkl
  generalize us[j]=w at hg hd
  have hUX:=hU.mono hle
  have hok:=hUX.ok (List.mem_of_getElem? hg)
  have hf:=fun {K : Value→M Out}=>Zeq (k:=K) hUX.1 hok.2.1 hg
  have g1 : (X++[Ze.cells w.cells 1 false false])[X.length]?=some (.cells w.cells 1 false false):=Zw
  have k1 : HLe X (X++[Ze.cells w.cells 1 false false]):=.app _ _
  generalize X++[Ze.cells w.cells 1 false false]=X1 at g1 k1 hf
  have a2 : ld1 (pa X.length 2) X1=some (strv w.ml,X1):=Zv g1 rfl
  have a0 : ld1 (pa X.length 0) X1=some (strv w.nm,X1):=Zv g1 rfl
  have q0 : bop .str .neq (strv m) (.string ⟨#[]⟩) X1=some (.bool (decide (m≠[])),X1):=by
   have:=Wt (a:=m) (b:=[]) (H:=X1)
   rw [show (strv [] : Value)=.string ⟨#[]⟩ from rfl] at this
   rw [this]
   by_cases h : m=[] <;> simp [h]
  have q1 : bop .str .eql (strv w.ml) (strv m) X1=some (.bool (w.ml==m),X1):=Zdp
  have q2 : bop .str .neq (strv w.nm) (strv k) X1=some (.bool (!(w.nm==k)),X1):=Wt
  have hgate : ∀ K : Value→M Out,(bind (bop .str .neq (strv m) (Value.string ⟨#[]⟩)) fun v48x30=>
 bind (ZG v48x30 true 4 (bind (fa 2 (pt X.length)) fun v50x31=>
 bind (ld1 v50x31) fun v51x32=>
 bind (bop .str .eql v51x32 (strv m)) fun v53x33=>
 ret [v50x31,v51x32,strv m,v53x33])) (c4 fun _ _ _ q34_3=>
 bind (pick v48x30 q34_3 (Value.bool false)) fun v54x35=>
 bind (ZG v54x35 true 4 (bind (fa 0 (pt X.length)) fun v56x36=>
 bind (ld1 v56x36) fun v57x37=>
 bind (bop .str .neq v57x37 (strv k)) fun v59x38=>
 ret [v56x36,v57x37,strv k,v59x38])) (c4 fun _ _ _ q39_3=>
 bind (pick v54x35 q39_3 (Value.bool false)) K))) X1=K (.bool (decide (m≠[]) && (w.ml==m) && !(w.nm==k))) X1:=fun K=>by
   rw [Za q0]
   by_cases hm : m=[]
   ·rw [decide_eq_false (fun e=>e hm),Za (g_r.trans (if_neg (by simp)))]
    simp only [List.replicate]
    rw [ZI,Za Zl]
    simp only [cond_false]
    rw [Za (g_r.trans (if_neg (by simp)))]
    simp only [List.replicate]
    rw [ZI,Za Zl]
    rfl
   ·rw [decide_eq_true hm,ZU,Zk,Za Zh,Zk,Za a2,Zk,Za q1,ZV,ZI,Za Zl]
    simp only [cond_true]
    cases hml : w.ml==m
    ·rw [Za (g_r.trans (if_neg (by simp)))]
     simp only [List.replicate]
     rw [ZI,Za Zl]
     rfl
    ·rw [ZU,Zk,Za Zh,Zk,Za a0,Zk,Za q2,ZV,ZI,Za Zl]
     rfl
  have htk : ZfU m k (w :: us.drop (j+1))=((decide (m≠[]) && (w.ml==m) && !(w.nm==k)) || ZfU m k (us.drop (j+1))):=by
   unfold ZfU
   rw [List.any_cons]
  rw [hd,htk]
  cases hb : (decide (m≠[]) && (w.ml==m) && !(w.nm==k))
  ·rw [hb] at hgate
   rw [Bool.false_or]
   obtain ⟨X2,e2,k2⟩:=Zs0 hn hU h1 h2 b3 b6 t (j+1) X1 (by omega) (by omega) (hle.trans k1)
   have hstep : c8 (Qz.l1 (R n)) [strv k,pt p3,pt p6,pt p8,strv m,uv,iv us.length,iv j] X=some (.nrm [strv k,pt p3,pt p6,pt p8,strv m,uv,iv us.length,iv ((j+1 : Nat) : Int)],X1):=by
    rw [Kj]
    unfold Qz.l1
    rw [Za Zm,Zb,if_pos (by simpa using hlt),hf]
    refine (hgate _).trans ?_
    rw [Zb,if_neg (by simp),Za ZB,Qg (by omega)]
    rfl
   refine ⟨X2,?_,k2⟩
   rw [Zy hstep]
   exact e2
  ·rw [hb] at hgate
   rw [Bool.true_or]
   refine ⟨X1,?_,hle.trans k1⟩
   rw [if_pos rfl]
   refine QE ?_
   have hfin:=Zil (e:=9) h1 h2 ((hle.trans k1) _ _ b3) ((hle.trans k1) _ _ b6) rfl
   have hfo : (bind (ldA 2 (pt p3)) fun v61=>bind (stA 2 (pt p6) v61) fun _=>bind (ldA 2 (pt p6)) fun vr=>ret (Out.ret (Value.tuple #[vr,(Value.int .i64 9)]))) X1=some (.ret (.tuple #[.agg #[uv,gv],iv 9]),X1.set p6 (.cells [uv,gv] 1 false false)):=by
    have d1 : ldA 2 (pt p3) X1=some (.agg #[uv,gv],X1):=ZR (n:=2) ((hle.trans k1) _ _ b3) rfl
    have w1:=Kv (vs:=[uv,gv]) (n:=2) ((hle.trans k1) _ _ b6) rfl rfl (by simp only [List.all_cons,h1,h2];rfl)
    have w1 : stA 2 (pt p6) (.agg #[uv,gv]) X1=_:=w1
    have d2 : ldA 2 (pt p6) (X1.set p6 (.cells [uv,gv] 1 false false))=some (.agg #[uv,gv],_):=ZR (n:=2) (ZM ((hle.trans k1) _ _ b6)) rfl
    rw [Za d1,Za w1,Za d2]
    rfl
   rw [Kj]
   unfold Qz.l1
   rw [Za Zm,Zb,if_pos (by simpa using hlt),hf]
   refine (hgate _).trans ?_
   rw [Zb,if_pos rfl]
   exact hfo
theorem Zzx (hO : ROK s us) (hP : WQ s) (hk : Zp k=true) (hm : m=[]∨QH m=true) : ZfU (if QH m then Qd m else []) k us=decide (YW k m s.OW≠0):=by
 have hml0 : QH []=false:=by decide
 unfold YW
 rw [hk,if_pos rfl]
 by_cases hm0 : m=[]
 ·rw [if_pos hm0,hm0,hml0]
  simp [ZfU]
 ·have hmb:=hm.resolve_left hm0
  rw [if_neg hm0,hmb,if_pos rfl,if_pos rfl]
  have hne:=(Zg4 hmb).1
  rw [Bool.eq_iff_iff,decide_eq_true_eq]
  unfold ZfU
  rw [List.any_eq_true]
  constructor
  ·rintro ⟨w,hw,hc⟩
   simp only [Bool.and_eq_true,decide_eq_true_eq,beq_iff_eq,Bool.not_eq_true',beq_eq_false_iff_ne] at hc
   have hat:=hO.at hw
   unfold ZN at hat
   cases ha : Zf w.nm s.A with
   | none=>rw [ha] at hat;cases hat
   | some p=>
    rw [ha] at hat
    have hml : w.ml=(Zf w.nm s.OF).getD []:=congrArg (·.2.2.1) (Option.some.inj hat).symm
    cases ho : Zf w.nm s.OF with
    | none=>rw [ho] at hml;rw [hml] at hc;exact absurd hc.1.2.symm hne
    | some q=>
     rw [ho] at hml
     have hq : q=Qd m:=by rw [← hc.1.2,hml];rfl
     have how:=(hP.x.inv w.nm (Qd m)).1 (by rw [ho,hq])
     rw [how]
     simp only []
     rw [if_neg hc.2]
     decide
  ·intro hc
   cases how : Zf (Qd m) s.OW with
   | none=>rw [how] at hc;exact absurd rfl hc
   | some q=>
    rw [how] at hc
    simp only [] at hc
    have hqk : q≠k:=fun e=>by rw [if_pos e] at hc;exact hc rfl
    have hof:=(hP.x.inv q (Qd m)).2 how
    have hA:=hP.i.ofA q (by rw [hof];rfl)
    obtain ⟨w,hw,he⟩:=KE.1 ((hO.look (Qi s q (Qb q s.A))).2 (by
     show ZN s q=_
     unfold ZN;rw [ZcY hA];rfl))
    have h1 : w.nm=q:=congrArg (·.1) he
    have h2 : w.ml=Qd m:=by
     have : w.ml=(Zf q s.OF).getD []:=congrArg (·.2.2.1) he
     rw [this,hof];rfl
    refine ⟨w,hw,?_⟩
    simp [h1,h2,hne,hqk]
theorem Ztq (hR : RD X uv gv s) (hP : WQ s) : ∃ X' uv',R (n+6) ZaD [.agg #[uv,gv],strv k,strv m] X=some (.tuple #[.agg #[uv',gv],iv (Q3 k m s)],X')∧RD X' uv' gv (Jc k m s)∧HLe X X':=by
 obtain ⟨us,hU,hO⟩:=hR.ex
 obtain ⟨iu,ig⟩:=hR.isSl
 obtain ⟨p3,p6,p8,u,X3,z,b3,b6,b8,k3,l3,l36,l68,ok,lo,hkey⟩:=ZjO (n:=n) (k:=k) hR hP
 have hlen:=hO.len hP.n
 have hfew:=hP.i.few
 have e2 : R (n+5) Zby [strv m] X3=some (.tuple #[strv (if QH m then Qd m else []),.bool (QH m)],X3):=ZyI (n:=n+1)
 have f1 : ∀ r X',Qz (R (n+5)) (.agg #[uv,gv]) (strv k) (strv m) X=some (r,X')→R (n+6) ZaD [.agg #[uv,gv],strv k,strv m] X=some (r,X'):=fun r X' hr=>by rw [R,Zoa rfl];exact hr
 have hfin:=fun e : Int=>Zil (e:=e) hR.oneU hR.oneG b3 b6 rfl
 have hfl : HLe X (X3.set p6 (.cells [uv,gv] 1 false false)):=k3.putB (by omega)
 have hgate : ∀ K : Value→M Value,bind (bop .str .neq (strv m) (Value.string ⟨#[]⟩)) (fun v30=>bind (ZG v30 true 2 (bind (uop .not (.bool (QH m))) fun v33=>ret [.bool (QH m),v33])) (c2 fun _ q=>bind (pick v30 q (Value.bool false)) K)) X3=K (.bool (decide (m≠[]∧QH m=false))) X3:=fun K=>by
  have q0 : bop .str .neq (strv m) (.string ⟨#[]⟩) X3=some (.bool (decide (m≠[])),X3):=by
   have:=Wt (a:=m) (b:=[]) (H:=X3)
   rw [show (strv [] : Value)=.string ⟨#[]⟩ from rfl] at this
   rw [this]
   by_cases h : m=[] <;> simp [h]
  rw [Za q0]
  by_cases h : m=[]
  ·rw [decide_eq_false (fun e=>e h),Za (g_r.trans (if_neg (by simp)))]
   simp only [List.replicate]
   rw [ZX,Za Zl,decide_eq_false (fun e=>e.1 h)]
   rfl
  ·rw [decide_eq_true h,ZU,Zk,Za ZH,ZV,ZX,Za Zl]
   cases hm : QH m <;> simp [h]
 cases a1 : Zp k
 ·have hN : Zu k s.A=10:=by unfold Zu;rw [a1];rfl
  have hE : Q3 k m s=10:=by unfold Q3;rw [a1];rfl
  have hn : Jc k m s=s:=by unfold Jc;rw [if_neg (by rw [hE];decide)]
  have q1 : bop .int .eql (iv 10) (.int .i64 10) X3=some (.bool true,X3):=by rw [ZD];rfl
  rw [hn,hE]
  refine ⟨X3.set p6 (.cells [uv,gv] 1 false false),uv,f1 _ _ ?_,hR.hle hfl,hfl⟩
  unfold Qz
  refine (z _).trans ?_
  rw [Za e2,Za Zr,Za Zs,hN,Za q1,Zb,if_pos rfl]
  exact hfin 10
 ·have hN : Zu k s.A=0∨Zu k s.A=8:=by unfold Zu;rw [a1];cases (Zf k s.A).isSome <;> simp
  have q1 : bop .int .eql (iv (Zu k s.A)) (.int .i64 10) X3=some (.bool false,X3):=by rw [ZD];rcases hN with h1 | h1 <;> rw [h1] <;> rfl
  by_cases hb : m≠[]∧QH m=false
  ·have hE : Q3 k m s=11:=by unfold Q3;rw [a1];simp [hb]
   have hn : Jc k m s=s:=by unfold Jc;rw [if_neg (by rw [hE];decide)]
   rw [hn,hE]
   refine ⟨X3.set p6 (.cells [uv,gv] 1 false false),uv,f1 _ _ ?_,hR.hle hfl,hfl⟩
   unfold Qz
   refine (z _).trans ?_
   rw [Za e2,Za Zr,Za Zs,Za q1,Zb,if_neg (by simp)]
   refine (hgate _).trans ?_
   rw [decide_eq_true hb,Zb,if_pos rfl]
   exact hfin 11
  ·have hmm : m=[]∨QH m=true:=by
    by_cases h0 : m=[]
    ·exact .inl h0
    ·refine .inr ?_
     cases h5 : QH m
     ·exact absurd ⟨h0,h5⟩ hb
     ·rfl
   cases a3 : (Zf k s.A).isSome
   ·have hN : Zu k s.A=8:=by unfold Zu;rw [a1,a3];rfl
    have hE : Q3 k m s=8:=by unfold Q3;rw [a1,if_pos rfl,if_neg hb,a3];rfl
    have hn : Jc k m s=s:=by unfold Jc;rw [if_neg (by rw [hE];decide)]
    have q3 : bop .int .neq (iv 8) (.int .i64 0) X3=some (.bool true,X3):=by rw [Zq];rfl
    rw [hn,hE]
    refine ⟨X3.set p6 (.cells [uv,gv] 1 false false),uv,f1 _ _ ?_,hR.hle hfl,hfl⟩
    unfold Qz
    refine (z _).trans ?_
    rw [Za e2,Za Zr,Za Zs,Za q1,Zb,if_neg (by simp)]
    refine (hgate _).trans ?_
    rw [decide_eq_false hb,Zb,if_neg (by simp),hN,Za q3,Zb,if_pos rfl]
    exact hfin 8
   ·have hN : Zu k s.A=0:=by unfold Zu;rw [a1,a3];rfl
    have hE : Q3 k m s=YW k m s.OW:=by unfold Q3;rw [a1,if_pos rfl,if_neg hb,a3];rfl
    have q3 : bop .int .neq (iv (Zu k s.A)) (.int .i64 0) X3=some (.bool false,X3):=by rw [Zq,hN];rfl
    have hku:=hkey hN
    have hnm : u.nm=k:=congrArg (·.1) hku
    have hU3:=hU.mono k3
    have hlu : Zx uv X3=some (iv us.length,X3):=by have:=hU3.1.len (H':=X3);rwa [List.length_map] at this
    have au : ld1 (pa p3 0) X3=some (uv,X3):=Zv b3 rfl
    obtain ⟨X4,e4,k4⟩:=Zs0 (n:=n+5) (m:=if QH m then Qd m else []) (k:=k) (p8:=p8) (by omega) hU3 hR.oneU hR.oneG b3 b6 us.length 0 X3 (by omega) (by omega) (.refl _)
    rw [List.drop_zero,Zzx hO hP a1 hmm] at e4
    by_cases h0 : YW k m s.OW=0
    ·rw [if_neg (by simp [h0])] at e4
     have e4 : Zi (c8 (Qz.l1 (R (n+5)))) [strv k,pt p3,pt p6,pt p8,strv (if QH m then Qd m else []),uv,iv us.length,.int .i64 0] X3=_:=e4
     have he : Q3 k m s=0:=by rw [hE,h0]
     generalize hm' : (if QH m then Qd m else [])=m' at e4 e2
     have b38:=k4 _ _ b3
     have b68:=k4 _ _ b6
     have b88:=k4 _ _ b8
     have w8 : st1 (pa p8 2) (strv m') X4=some (undef,X4.set p8 (.cells (Zj.cells { u with ml:=m' }) 1 false false)):=K7 (o:=2) b88 (by simp) rfl
     have k8 : HLe X (X4.set p8 (.cells (Zj.cells { u with ml:=m' }) 1 false false)):=(k3.trans k4).putB (by omega)
     have ok8 : UOK (X4.set p8 (.cells (Zj.cells { u with ml:=m' }) 1 false false)) { u with ml:=m' }:=⟨(ok.hle k4).1.keep fun id hid=>List.getElem?_set_ne (by have:=lo id hid;omega),ok.2⟩
     have c3:=(List.getElem?_set_ne (a:=Ze.cells (Zj.cells { u with ml:=m' }) 1 false false) (show p8≠p3 by omega)).trans b38
     have c6:=(List.getElem?_set_ne (a:=Ze.cells (Zj.cells { u with ml:=m' }) 1 false false) (show p8≠p6 by omega)).trans b68
     have c8':=ZM (b:=Ze.cells (Zj.cells { u with ml:=m' }) 1 false false) b88
     obtain ⟨uv',X5,e5,hU5,hl5⟩:=ZtV (n:=n) (u:={ u with ml:=m' }) (hU.mono k8) (by omega) ok8 ig Za4 Za4 c3 c6 c8'
     have hkk : HLe X X5:=hl5 k8 (by omega)
     rw [he]
     refine ⟨X5,uv',f1 _ _ ?_,hR.users hkk hU5 (hO.put (u:={ u with ml:=m' }) ?_ (fun x hx=>?_)) Zxp,hkk⟩
     ·unfold Qz
      refine (z _).trans ?_
      rw [Za e2,Za Zr,Za Zs,Za q1,Zb,if_neg (by simp)]
      refine (hgate _).trans ?_
      rw [decide_eq_false hb,Zb,if_neg (by simp),Za q3,Zb,if_neg (by simp),Za Zh,Za au,Za hlu,ZT e4,ZE,ZI,Za Zh,Za w8]
      exact e5
     ·rw [Zpr he,if_pos (show u.nm=k from hnm)]
      have h2 : ZQ { u with ml:=m' }=(k,(ZQ u).2.1,m',(ZQ u).2.2.2):=by unfold ZQ;rw [hnm]
      rw [h2,hku,hm']
      rfl
     ·rw [Zpr he,if_neg (by rw [← hnm];exact hx)]
    ·rw [if_pos (by simp [h0])] at e4
     have e4 : Zi (c8 (Qz.l1 (R (n+5)))) [strv k,pt p3,pt p6,pt p8,strv (if QH m then Qd m else []),uv,iv us.length,.int .i64 0] X3=_:=e4
     have hn : Jc k m s=s:=by unfold Jc;rw [if_neg (by rw [hE];exact h0)]
     have h9 : YW k m s.OW=9:=by
      unfold YW at h0 ⊢
      rw [a1,if_pos rfl] at h0 ⊢
      by_cases hm0 : m=[]
      ·rw [if_pos hm0] at h0;exact absurd rfl h0
      ·rw [if_neg hm0,hmm.resolve_left hm0,if_pos rfl] at h0 ⊢
       cases how : Zf (Qd m) s.OW with
       | none=>rw [how] at h0;exact absurd rfl h0
       | some q=>
        rw [how] at h0
        simp only [] at h0 ⊢
        by_cases hq : q=k
        ·rw [if_pos hq] at h0;exact absurd rfl h0
        ·rw [if_neg hq]
     have hfl4 : HLe X (X4.set p6 (.cells [uv,gv] 1 false false)):=(k3.trans k4).putB (by omega)
     rw [hn,hE,h9]
     refine ⟨X4.set p6 (.cells [uv,gv] 1 false false),uv,f1 _ _ ?_,hR.hle hfl4,hfl4⟩
     unfold Qz
     refine (z _).trans ?_
     rw [Za e2,Za Zr,Za Zs,Za q1,Zb,if_neg (by simp)]
     refine (hgate _).trans ?_
     rw [decide_eq_false hb,Zb,if_neg (by simp),Za q3,Zb,if_neg (by simp),Za Zh,Za au,Za hlu,JJ e4]
     rfl
end
end Go.Proofs.YtedkoimihknggaaGreatDoor.A
namespace Go.Proofs.YtedkoimihknggaaGreatDoor.A
set_option linter.unusedVariables false
set_option linter.unusedSimpArgs false
open Go.Proofs Go.Proofs.YtedkoimihknggaaGreatDoor
section
variable {X X' Y H0 : Zd} {n : Nat} {uv gv v : Value} {us : List Zj} {s s' : NSt} {k h m o t g x : Tx} {u w : Zj} {β : Type} {l : List Tx}
theorem ROK.dropPut (hO : ROK s us) (h1 : ZN s' u.nm=some (ZQ u)) (h2 : ZN s' o=none) (h3 : ∀ n,n≠o→n≠u.nm→ZN s' n=ZN s n) : ROK s' (putU u (us.filter fun v=>decide (v.nm≠o))):=by
 refine ⟨ZlO (List.Pairwise.filter _ hO.rise),fun key=>?_⟩
 rw [KE]
 constructor
 ·rintro ⟨v,hv,rfl⟩
  rcases Zb8.1 hv with rfl | ⟨hv,hne⟩
  ·exact h1
  ·obtain ⟨hv,hno⟩:=List.mem_filter.1 hv
   have hno : v.nm≠o:=by simpa using hno
   show ZN s' v.nm=_
   rw [h3 _ hno hne]
   exact hO.at hv
 ·intro hk
  by_cases e : key.1=u.nm
  ·rw [e,h1] at hk
   exact ⟨u,Zb8.2 (.inl rfl),Option.some.inj hk⟩
  ·have eo : key.1≠o:=fun e=>by rw [e,h2] at hk;cases hk
   rw [h3 _ eo e] at hk
   obtain ⟨v,hv,rfl⟩:=KE.1 ((hO.look key).2 hk)
   exact ⟨v,Zb8.2 (.inr ⟨List.mem_filter.2 ⟨hv,decide_eq_true eo⟩,e⟩),rfl⟩
theorem Zvg (hR : RD X uv gv s) (hP : WQ s) : ∃ X' uv',R (n+6) Zbd [.agg #[uv,gv],strv o,strv t] X=some (.tuple #[.agg #[uv',gv],iv (J1 o t s.A)],X')∧RD X' uv' gv (Wh o t s)∧HLe X X':=by
 obtain ⟨us,hU,hO⟩:=hR.ex
 obtain ⟨iu,ig⟩:=hR.isSl
 obtain ⟨p3,p6,p8,u,X3,z,b3,b6,b8,k3,l3,l36,l68,ok,lo,hkey⟩:=ZjO (n:=n) (k:=o) hR hP
 have hlen:=hO.len hP.n
 have hfew:=hP.i.few
 have f1 : ∀ r X',Zcs (R (n+5)) (.agg #[uv,gv]) (strv o) (strv t) X=some (r,X')→R (n+6) Zbd [.agg #[uv,gv],strv o,strv t] X=some (r,X'):=fun r X' hr=>by rw [R,Zpl rfl];exact hr
 have d3 : ldA 2 (pt p3) X3=some (.agg #[uv,gv],X3):=ZR (n:=2) b3 rfl
 obtain ⟨u2,X4,e4,k4,ok2,_⟩:=ZuH (n:=n+1) (k:=t) (hU.mono k3) hO hP hR.oneG
 have e4 : R (n+5) Yc [.agg #[uv,gv],strv t] X3=_:=e4
 have z5 : ∀ {β : Type} (K : Value→M β),bind (alc 1 zU) (fun q=>bind (stA 5 q (.agg u2.cells.toArray)) fun _=>K q) X4=K (pt X4.length) (X4++[.cells u2.cells 1 false false]):=fun K=>WZ (n:=5) (zs:=[.string ⟨#[]⟩,.string ⟨#[]⟩,.string ⟨#[]⟩,.bool false,.slice none 0 0]) (r:=u2.cells) rfl rfl rfl (Zbk ok2.2.1)
 have k5 : HLe X4 (X4++[Ze.cells u2.cells 1 false false]):=.app _ _
 have hz : ∀ {β : Type} (K : Value→Value→M β),bind (ldA 2 (pt p3)) (fun v19=>bind (R (n+5) Yc [v19,strv t]) fun v21=>bind (Zo v21 0) fun v22=>bind (Zo v21 1) fun v23=>bind (alc 1 zU) fun v10=>bind (stA 5 v10 v22) fun _=>K v10 v23) X3=K (pt X4.length) (iv (Zu t s.A)) (X4++[.cells u2.cells 1 false false]):=fun {β} K=>by
  rw [Za d3,Za e4,Za Zr,Za Zs]
  exact z5 (fun q=>K q (iv (Zu t s.A)))
 generalize X4.length=p10 at hz
 generalize X4++[Ze.cells u2.cells 1 false false]=X5 at k5 hz
 have k45:=k4.trans k5
 have c3:=k45 _ _ b3
 have c6:=k45 _ _ b6
 have c8:=k45 _ _ b8
 have kX:=k3.trans k45
 have hfin:=fun e : Int=>Zil (e:=e) hR.oneU hR.oneG c3 c6 rfl
 have hfl : HLe X (X5.set p6 (.cells [uv,gv] 1 false false)):=kX.putB (by omega)
 have e10 : ∀ (k : Tx),(Zu k s.A==10)=!Zp k:=fun k=>by
  unfold Zu
  cases Zp k
  ·rfl
  ·cases (Zf k s.A).isSome <;> rfl
 have q1 : bop .int .eql (iv (Zu o s.A)) (.int .i64 10) X5=some (.bool (!Zp o),X5):=by rw [ZD,e10]
 have q2 : bop .int .eql (iv (Zu t s.A)) (.int .i64 10) X5=some (.bool (!Zp t),X5):=by rw [ZD,e10]
 have hgate : ∀ K : Value→M Value,bind (bop .int .eql (iv (Zu o s.A)) (.int .i64 10)) (fun v25=>bind (ZG v25 false 2 (bind (bop .int .eql (iv (Zu t s.A)) (Value.int .i64 10)) fun v28=>ret [iv (Zu t s.A),v28])) (c2 fun _ q=>bind (pick v25 (Value.bool true) q) K)) X5=K (.bool (!(Zp o && Zp t))) X5:=fun K=>by
  rw [Za q1]
  cases Zp o
  ·simp only [Bool.not_false]
   rw [Za (g_r.trans (if_neg (by simp)))]
   simp only [List.replicate]
   rw [ZX,Za Zl]
   rfl
  ·simp only [Bool.not_true]
   rw [ZU,Zk,Za q2,ZV,ZX,Za Zl]
   cases Zp t <;> rfl
 by_cases he : J1 o t s.A=0
 ·obtain ⟨a1,a2,a3,a4,a5⟩:=ZhR he
  have hN1 : Zu o s.A=0:=by unfold Zu;rw [a1,a3];rfl
  have hN2 : Zu t s.A=8:=by unfold Zu;rw [a2,a4];rfl
  have hku:=hkey hN1
  have q3 : bop .int .neq (iv (Zu o s.A)) (.int .i64 0) X5=some (.bool false,X5):=by rw [Zq,hN1];rfl
  have q4 : bop .int .eql (iv (Zu t s.A)) (.int .i64 0) X5=some (.bool false,X5):=by rw [ZD,hN2];rfl
  have w8 : st1 (pa p8 0) (strv t) X5=some (undef,X5.set p8 (.cells (Zj.cells { u with nm:=t }) 1 false false)):=K7 (o:=0) c8 (by simp) rfl
  have k8 : HLe X (X5.set p8 (.cells (Zj.cells { u with nm:=t }) 1 false false)):=kX.putB (by omega)
  have ok8 : UOK (X5.set p8 (.cells (Zj.cells { u with nm:=t }) 1 false false)) { u with nm:=t }:=⟨(ok.hle k45).1.keep fun id hid=>List.getElem?_set_ne (by have:=lo id hid;omega),ok.2⟩
  have d3':=(List.getElem?_set_ne (a:=Ze.cells (Zj.cells { u with nm:=t }) 1 false false) (show p8≠p3 by omega)).trans c3
  have d6':=(List.getElem?_set_ne (a:=Ze.cells (Zj.cells { u with nm:=t }) 1 false false) (show p8≠p6 by omega)).trans c6
  have d8':=ZM (b:=Ze.cells (Zj.cells { u with nm:=t }) 1 false false) c8
  generalize X5.set p8 (.cells (Zj.cells { u with nm:=t }) 1 false false)=X6 at w8 k8 ok8 d3' d6' d8'
  have hU6:=hU.mono k8
  have au : ld1 (pa p3 0) X6=some (uv,X6):=Zv d3' rfl
  have du : ldA 5 (pt p8) X6=some (.agg (Zj.cells { u with nm:=t }).toArray,X6):=ZR (n:=5) d8' rfl
  obtain ⟨X7,v7,e7,r7,k7⟩:=ZvX (n:=n+4) (k:=o) (by omega) hU6.1 (fun u hu=>(hU.2 u hu).2.1)
  have e7 : R (n+5) ZbB [uv,strv o] X6=_:=e7
  have du7 : ldA 5 (pt p8) X7=some (.agg (Zj.cells { u with nm:=t }).toArray,X7):=ZR (n:=5) (k7 _ _ d8') rfl
  have hU7 : Qh X7 v7 (us.filter fun v=>decide (v.nm≠o)):=⟨r7,fun u hu=>(hU6.mono k7).2 u (List.mem_filter.1 hu).1⟩
  have hfl' : (us.filter fun v=>decide (v.nm≠o)).length≤us.length:=List.length_filter_le _ _
  obtain ⟨X8,v8,q8,e8,r8,k8',_⟩:=ZtP (n:=n+4) (u:={ u with nm:=t }) ok8.2.1 (by omega) hU7.1 (fun u hu=>(hU7.2 u hu).2.1)
  have e8 : R (n+5) Zag [v7,.agg (Zj.cells { u with nm:=t }).toArray] X7=_:=e8
  have hU8:=hU7.put r8.rd (ok8.hle k7) k8'
  have k78:=k7.trans k8'
  obtain ⟨X9,e9,hU9,hl9,_⟩:=Zxe (e:=0) hU8 ig iu Za4 Za4 (show p3≠p6 by omega) (k78 _ _ d3') (k78 _ _ d6')
  have hkk : HLe X X9:=hl9 (k8.trans k78) l3 (by omega)
  rw [he]
  refine ⟨X9,v8,f1 _ _ ?_,hR.users hkk hU9 (hO.dropPut (u:={ u with nm:=t }) ?_ ?_ (fun x hx hx2=>?_)) ZxD,hkk⟩
  ·unfold Zcs
   refine (z _).trans ((hz _).trans ((hgate _).trans ?_))
   rw [a1,a2]
   simp only [Bool.and_self,Bool.not_true]
   rw [Zb,if_neg (by simp),Za q3,Zb,if_neg (by simp),Za q4,Zb,if_neg (by simp),Za Zh,Za w8,Za Zh,Za au,Za du,Za e7,Za du7,QY,Za e8]
   exact e9
  ·rw [ZnQ hP.i he,if_pos (show ({ u with nm:=t } : Zj).nm=t from rfl)]
   have h2 : ZQ { u with nm:=t }=(t,(ZQ u).2):=rfl
   rw [h2,hku]
   rfl
  ·rw [ZnQ hP.i he,if_neg a5,if_pos rfl]
  ·rw [ZnQ hP.i he,if_neg (show ¬ x=t from hx2),if_neg hx]
 ·have hn : Wh o t s=s:=by unfold Wh;rw [if_neg he]
  rw [hn]
  refine ⟨X5.set p6 (.cells [uv,gv] 1 false false),uv,f1 _ _ ?_,hR.hle hfl,hfl⟩
  unfold Zcs
  refine (z _).trans ((hz _).trans ((hgate _).trans ?_))
  cases ab : Zp o && Zp t
  ·have hE : J1 o t s.A=10:=by unfold J1;rw [ab];rfl
   rw [Zb,if_pos (by rfl),hE]
   exact hfin 10
  ·have ab':=ab
   simp only [Bool.and_eq_true] at ab'
   rw [Zb,if_neg (by simp)]
   cases a3 : (Zf o s.A).isSome
   ·have hN1 : Zu o s.A=8:=by unfold Zu;rw [ab'.1,a3];rfl
    have hE : J1 o t s.A=8:=by unfold J1;rw [ab,a3];rfl
    have q3 : bop .int .neq (iv 8) (.int .i64 0) X5=some (.bool true,X5):=by rw [Zq];rfl
    rw [hN1,Za q3,Zb,if_pos rfl,hE]
    exact hfin 8
   ·have hN1 : Zu o s.A=0:=by unfold Zu;rw [ab'.1,a3];rfl
    have q3 : bop .int .neq (iv (Zu o s.A)) (.int .i64 0) X5=some (.bool false,X5):=by rw [Zq,hN1];rfl
    have a4 : (Zf t s.A).isSome=true:=by
     unfold J1 at he
     rw [ab,a3] at he
     cases h4 : (Zf t s.A).isSome
     ·rw [h4] at he;simp at he
     ·rfl
    have hN2 : Zu t s.A=0:=by unfold Zu;rw [ab'.2,a4];rfl
    have hE : J1 o t s.A=9:=by unfold J1;rw [ab,a3,a4];rfl
    have q4 : bop .int .eql (iv (Zu t s.A)) (.int .i64 0) X5=some (.bool true,X5):=by rw [ZD,hN2];rfl
    rw [Za q3,Zb,if_neg (by simp),Za q4,Zb,if_pos rfl,hE]
    exact hfin 9
theorem ZxA {N : List Tx} (hN : Is N (·∈s.K)) (hP : WQ s) : N.length≤6:=by
 rw [ZAw hN hP.k.nod];exact hP.k.few
def noM : Mem:=fun _ _=>false
theorem ZCj {N : List Tx} (hN : Is N (·∈s.K)) : ZjB N [] s.K noM:=⟨hN,fun k x=>by simp [noM]⟩
theorem ZBV {N : List Tx} {q : List Nat} (h : ZA X gv (N.map strv) q) : RG X gv (.slice none 0 0) N []:=⟨⟨q,h⟩,⟨[],Qu.nil⟩⟩
theorem ZzM (ig : Wr gv) : bld zD [(0,1,gv)] Y=some (.agg #[gv,.slice none 0 0],Y):=by
 obtain ⟨a,n,c,rfl⟩:=ig
 simp [bld,WP,Value.cells,Kg,splice]
theorem Zyt (hR : RD X uv gv s) (hP : WQ s) : ∃ X' gv',R (n+6) ZaW [.agg #[uv,gv],strv g] X=some (.tuple #[.agg #[uv,gv'],iv (QT g s.K)],X')∧RD X' uv gv' (Zi2 g s)∧HLe X X':=by
 obtain ⟨us,hU,hO⟩:=hR.ex
 obtain ⟨q,N,hN,hI⟩:=hR.n
 obtain ⟨iu,ig⟩:=hR.isSl
 obtain ⟨p3,p6,X2,z,b3,b6,k2,l3,l36,l6⟩:=ZiP (X:=X) hR.oneU hR.oneG
 have a3 : ld1 (pa p3 1) X2=some (gv,X2):=Zv b3 rfl
 have hfew:=ZxA hI hP
 obtain ⟨X3,nv,N',e3,g3,o3,k3⟩:=ZA2 (n:=n) (k:=g) (ZBV (hN.hle k2)) (ZCj hI) hP.k.nod (by omega)
 obtain ⟨qn,hn3⟩:=g3.n
 have inv' : Wr nv:=hn3.isSlc
 have z4 : ∀ {β : Type} (K : Value→M β),bind (alc 1 zD) (fun q=>bind (stA 2 q (.agg #[nv,.slice none 0 0])) fun _=>K q) X3=K (pt X3.length) (X3++[.cells [nv,.slice none 0 0] 1 false false]):=fun K=>WZ (n:=2) (zs:=[.slice none 0 0,.slice none 0 0]) (r:=[nv,.slice none 0 0]) rfl rfl rfl (by simp only [List.all_cons,inv'.one];rfl)
 have k4 : HLe X3 (X3++[Ze.cells [nv,.slice none 0 0] 1 false false]):=.app _ _
 have b4 : (X3++[Ze.cells [nv,.slice none 0 0] 1 false false])[X3.length]?=some (.cells [nv,.slice none 0 0] 1 false false):=Zw
 have hx3:=k3.len
 have hp3:=QD b3
 generalize X3++[Ze.cells [nv,.slice none 0 0] 1 false false]=X4 at z4 k4 b4
 have k34:=k3.trans k4
 have c3:=k34 _ _ b3
 have c6:=k34 _ _ b6
 have an : ld1 (pa X3.length 0) X4=some (nv,X4):=Zv b4 rfl
 have w3 : st1 (pa p3 1) nv X4=some (undef,X4.set p3 (.cells [uv,nv] 1 false false)):=K7 (o:=1) c3 (by simp) inv'.one
 have c3':=ZM (b:=Ze.cells [uv,nv] 1 false false) c3
 have c6':=(List.getElem?_set_ne (a:=Ze.cells [uv,nv] 1 false false) (show p3≠p6 by omega)).trans c6
 have hf:=Zil (e:=QT g s.K) hR.oneU inv'.one c3' c6' rfl
 have hkk : HLe X ((X4.set p3 (.cells [uv,nv] 1 false false)).set p6 (.cells [uv,nv] 1 false false)):=(((k2.trans k34).putB l3).putB (by omega))
 refine ⟨(X4.set p3 (.cells [uv,nv] 1 false false)).set p6 (.cells [uv,nv] 1 false false),nv,?_,⟨⟨us,hU.mono hkk,hO.same (ZBT hP.k)⟩,⟨qn,N',((hn3.hle k4).setD c3 iu ig).setD c6' Za4 Za4,o3.n⟩⟩,hkk⟩
 rw [R,Zlv rfl]
 unfold Zef
 rw [z,Za Zh,Za a3,Za (ZzM ig),Za e3,Za Zr,Za Zs,z4,Za Zh,Za an,Za Zh,Za w3]
 exact hf
abbrev Zj.grp (u : Zj) (gv : Value) (gs : List Tx) : Zj:=⟨u.nm,u.hs,u.ml,u.ds,gv,gs⟩
theorem Zrz {z1 z2 : Value} (hn : us.length≤100) (hU : Qh H0 uv us) (hgs : ∀ u∈us,u.gs.length≤6) : ∀ (t j : Nat) (sl : Value) (q : List Nat) (acc : List Zj) (X : Zd),us.length - j=t→j≤us.length→acc.length≤j→HLe H0 X→Zck H0 X sl acc q→
  ∃ X' sl' q' acc',Zi (c7 (JI.l1 (R (n+1)))) [strv g,z1,z2,sl,uv,iv us.length,iv j] X=some (.ext 0 [z1,z2,sl'],X')∧Zck H0 X' sl' (acc++acc') q'∧acc'.map ZQ=(us.drop j).map (fun u=>(u.nm,u.hs,u.ml,u.ds,u.gs.filter fun x=>decide (x≠g)))∧HLe H0 X'
 | 0,j,sl,q,acc,X,ht,hj,ha,hle,ho=>by
  rw [List.drop_eq_nil_of_le (by omega)]
  refine ⟨X,sl,q,[],ZK ?_,by rw [List.append_nil];exact ho,rfl,hle⟩
  rw [JA,show j=us.length by omega]
  unfold JI.l1
  rw [Za Zm,Zb,if_neg (by simp)]
  rfl
 | t+1,j,sl,q,acc,X,ht,hj,ha,hle,ho=>by
  have hkl : j < us.length:=by omega
  have hlt : (j : Int) < us.length:=by omega
  have hg:=List.getElem?_eq_getElem hkl
  have hd:=List.drop_eq_getElem_cons hkl
  generalize us[j]=w at hg hd
  have hUX:=hU.mono hle
  have hm:=List.mem_of_getElem? hg
  have hok:=hUX.ok hm
  have h6:=hgs w hm
  have hf:=fun {K : Value→M Out}=>Zeq (k:=K) hUX.1 hok.2.1 hg
  have g1 : (X++[Ze.cells w.cells 1 false false])[X.length]?=some (.cells w.cells 1 false false):=Zw
  have k1 : HLe X (X++[Ze.cells w.cells 1 false false]):=.app _ _
  have hq1 : ∀ i∈q,i < X.length:=ho.r.lt
  generalize X++[Ze.cells w.cells 1 false false]=X1 at g1 k1 hf
  have a4 : ld1 (pa X.length 4) X1=some (w.gv,X1):=Zv g1 rfl
  obtain ⟨X2,v2,q2,e2,r2,k2,o2⟩:=Znm (n:=n) (k:=g) (by omega) (UOK.hle hok k1).1
  have g2:=k2 _ _ g1
  have w2 : st1 (pa X.length 4) v2 X2=some (undef,X2.set X.length (.cells (Zj.cells (w.grp v2 (w.gs.filter fun x=>decide (x≠g)))) 1 false false)):=K7 (o:=4) g2 (by simp) r2.one.1
  have g3:=ZM (b:=Ze.cells (Zj.cells (w.grp v2 (w.gs.filter fun x=>decide (x≠g)))) 1 false false) g2
  have hl1:=QD g1
  have k3 : HLe X (X2.set X.length (.cells (Zj.cells (w.grp v2 (w.gs.filter fun x=>decide (x≠g)))) 1 false false)):=(k1.trans k2).putB (Nat.le_refl _)
  have r3 : ZA (X2.set X.length (.cells (Zj.cells (w.grp v2 (w.gs.filter fun x=>decide (x≠g)))) 1 false false)) v2 ((w.gs.filter fun x=>decide (x≠g)).map strv) q2:=r2.keep fun i hi=>List.getElem?_set_ne (by have:=o2 i hi;omega)
  generalize X2.set X.length (.cells (Zj.cells (w.grp v2 (w.gs.filter fun x=>decide (x≠g)))) 1 false false)=X3 at w2 g3 k3 r3
  have d3 : ldA 5 (pt X.length) X3=some (.agg (Zj.cells (w.grp v2 (w.gs.filter fun x=>decide (x≠g)))).toArray,X3):=ZR (n:=5) g3 rfl
  have hf6 : (w.gs.filter fun x=>decide (x≠g)).length≤6:=Nat.le_trans (List.length_filter_le _ _) h6
  obtain ⟨y,X4,sl',X5,q',b1,b2,ho5,l5⟩:=(ho.hle k3).push (w:=w.grp v2 (w.gs.filter fun x=>decide (x≠g))) (by omega) r3 (fun i hi=>⟨by have:=o2 i hi;have:=hle.len;omega,fun hm=>by have:=hq1 i hm;have:=o2 i hi;omega⟩) (Nat.le_trans hf6 (by decide)) (fun a ha i hi hm=>by obtain ⟨qa,b1,_,_⟩:=ho.u a ha;have h1:=b1.lt i (b1.own_of hi);have h2:=o2 i hm;omega) (hle.trans k3)
  obtain ⟨X6,sl6,q6,acc6,e6,o6,u6,l6⟩:=Zrz hn hU hgs t (j+1) sl' q' (acc++[w.grp v2 (w.gs.filter fun x=>decide (x≠g))]) X5 (by omega) (by omega) (by rw [List.length_append,List.length_singleton];omega) l5 ho5
  refine ⟨X6,sl6,q6,w.grp v2 (w.gs.filter fun x=>decide (x≠g)) :: acc6,(Zy ?_).trans e6,by rw [List.append_assoc] at o6;exact o6,?_,l6⟩
  ·rw [JA]
   unfold JI.l1
   rw [Za Zm,Zb,if_pos (by simpa using hlt),hf,Za Zh,Za a4,Za e2,Za Zh,Za w2,Za d3,Za b1,Za b2,Za ZB,Qg (by omega)]
   rfl
  ·rw [hd,List.map_cons,List.map_cons,u6]
   rfl
theorem ROK.gs (hO : ROK s us) (hP : WQ s) (hu : u∈us) : u.gs=ofL u.nm s.K s.mem∧u.gs.length≤6:=by
 have hat:=hO.at hu
 unfold ZN at hat
 cases ha : Zf u.nm s.A with
 | none=>rw [ha] at hat;cases hat
 | some p=>
  rw [ha] at hat
  have h1 : u.gs=ofL u.nm s.K s.mem:=congrArg (·.2.2.2.2) (Option.some.inj hat).symm
  refine ⟨h1,?_⟩
  rw [h1]
  exact Nat.le_trans ZfB hP.k.few
theorem ZyJ (hR : RD X uv gv s) (hP : WQ s) : ∃ X' uv' gv',R (n+6) WA [.agg #[uv,gv],strv g] X=some (.tuple #[.agg #[uv',gv'],iv (Q1 g s.K)],X')∧RD X' uv' gv' (ZfM g s)∧HLe X X':=by
 obtain ⟨us,hU,hO⟩:=hR.ex
 obtain ⟨q,N,hN,hI⟩:=hR.n
 obtain ⟨iu,ig⟩:=hR.isSl
 obtain ⟨p3,p6,X2,z,b3,b6,k2,l3,l36,l6⟩:=ZiP (X:=X) hR.oneU hR.oneG
 have a3 : ld1 (pa p3 1) X2=some (gv,X2):=Zv b3 rfl
 have hfew:=ZxA hI hP
 have hlen:=hO.len hP.n
 have hufew:=hP.i.few
 obtain ⟨X3,nv,mv,N',M',e3,g3,o3,_,k3⟩:=ZBp (n:=n) (k:=g) (ZBV (hN.hle k2)) (ZCj hI) (by omega) (Nat.zero_le _)
 obtain ⟨qn,hn3⟩:=g3.n
 have inv' : Wr nv:=hn3.isSlc
 have z4 : ∀ {β : Type} (K : Value→M β),bind (alc 1 zD) (fun q=>bind (stA 2 q (.agg #[nv,mv])) fun _=>K q) X3=K (pt X3.length) (X3++[.cells [nv,mv] 1 false false]):=fun K=>WZ (n:=2) (zs:=[.slice none 0 0,.slice none 0 0]) (r:=[nv,mv]) rfl rfl rfl g3.one.1
 have k4 : HLe X3 (X3++[Ze.cells [nv,mv] 1 false false]):=.app _ _
 have b4 : (X3++[Ze.cells [nv,mv] 1 false false])[X3.length]?=some (.cells [nv,mv] 1 false false):=Zw
 have hx3:=k3.len
 have hp3:=QD b3
 generalize X3++[Ze.cells [nv,mv] 1 false false]=X4 at z4 k4 b4
 have k34:=k3.trans k4
 have c3:=k34 _ _ b3
 have c6:=k34 _ _ b6
 have kX:=k2.trans k34
 have f1 : ∀ r X',JI (R (n+5)) (.agg #[uv,gv]) (strv g) X=some (r,X')→R (n+6) WA [.agg #[uv,gv],strv g] X=some (r,X'):=fun r X' hr=>by rw [R,ZlW rfl];exact hr
 by_cases he : Q1 g s.K=0
 ·have q1 : bop .int .neq (iv (Q1 g s.K)) (.int .i64 0) X4=some (.bool false,X4):=by rw [Zq,he];rfl
  have an : ld1 (pa X3.length 0) X4=some (nv,X4):=Zv b4 rfl
  have w3 : st1 (pa p3 1) nv X4=some (undef,X4.set p3 (.cells [uv,nv] 1 false false)):=K7 (o:=1) c3 (by simp) inv'.one
  have c3':=ZM (b:=Ze.cells [uv,nv] 1 false false) c3
  have c6':=(List.getElem?_set_ne (a:=Ze.cells [uv,nv] 1 false false) (show p3≠p6 by omega)).trans c6
  have k5 : HLe X (X4.set p3 (.cells [uv,nv] 1 false false)):=kX.putB l3
  have hn5:=(hn3.hle k4).setD (d1:=uv) (d2:=nv) c3 iu ig
  generalize X4.set p3 (.cells [uv,nv] 1 false false)=X5 at w3 c3' c6' k5 hn5
  have au : ld1 (pa p3 0) X5=some (uv,X5):=Zv c3' rfl
  have hU5:=hU.mono k5
  have hlu : Zx uv X5=some (iv us.length,X5):=by have:=hU5.1.len (H':=X5);rwa [List.length_map] at this
  obtain ⟨X6,sl6,q6,acc6,e6,o6,u6,l6'⟩:=Zrz (n:=n+4) (g:=g) (z1:=pt p3) (z2:=pt p6) (by omega) hU5 (fun u hu=>(hO.gs hP hu).2) us.length 0 (.slice none 0 0) [] [] X5 (by omega) (by omega) (Nat.le_refl _) (.refl _) ⟨Qu.nil,by simp,by simp,by simp⟩
  have e6 : Zi (c7 (JI.l1 (R (n+5)))) [strv g,pt p3,pt p6,.slice none 0 0,uv,iv us.length,.int .i64 0] X5=_:=e6
  rw [List.nil_append] at o6
  rw [List.drop_zero] at u6
  obtain ⟨X7,e7,hU7,hl7,hr7⟩:=Zxe (e:=0) (uv:=uv) (gv:=nv) o6.us inv' iu Za4 Za4 (show p3≠p6 by omega) (l6' _ _ c3') (l6' _ _ c6')
  have hkk : HLe X X7:=hl7 (k5.trans l6') l3 (by omega)
  have hO' : ROK (ZfM g s) acc6:=by
   refine ⟨?_,fun key=>?_⟩
   ·have h1 : acc6.map (·.nm)=us.map (·.nm):=by
     have h2:=congrArg (List.map (fun k : Zaj=>k.1)) u6
     rw [List.map_map,List.map_map] at h2
     exact h2
    have h3:=hO.rise
    unfold ZdX at h3 ⊢
    rw [← List.pairwise_map (f:=fun u : Zj=>u.nm) (R:=fun a b=>a < b)] at h3 ⊢
    rw [h1];exact h3
   ·rw [u6,ZCg hP.k he]
    rw [List.mem_map]
    constructor
    ·rintro ⟨w,hw,rfl⟩
     show (ZN s w.nm).map _=_
     rw [hO.at hw]
     rfl
    ·intro hk
     cases hf : ZN s key.1 with
     | none=>rw [hf] at hk;cases hk
     | some k0=>
      rw [hf] at hk
      have hk0:=ZyD hf
      obtain ⟨w,hw,hwk⟩:=KE.1 ((hO.look k0).2 (by rw [hk0];exact hf))
      refine ⟨w,hw,?_⟩
      have hk:=Option.some.inj hk
      rw [← hk,← hwk]
      rfl
  have hgv : ZA X7 nv (N'.map strv) qn:=hr7 (hn5.hle l6')
  rw [he]
  refine ⟨X7,sl6,nv,f1 _ _ ?_,⟨⟨acc6,hU7,hO'⟩,⟨qn,N',hgv,?_⟩⟩,hkk⟩
  ·unfold JI
   rw [z,Za Zh,Za a3,Za (ZzM ig),Za e3,Za Zr,Za Zs,z4,Za q1,Zb,if_neg (by simp),Za Zh,Za an,Za Zh,Za w3,Za Zh,Za au,Za hlu,ZT e6,ZE,Z3]
   exact e7
  ·have h1:=o3.n
   exact h1
 ·have q1 : bop .int .neq (iv (Q1 g s.K)) (.int .i64 0) X4=some (.bool true,X4):=by rw [Zq];simp [he]
  have hn : ZfM g s=s:=by
   unfold ZfM Zch
   rw [if_neg he,if_neg he]
  have hfin:=Zil (e:=Q1 g s.K) hR.oneU hR.oneG c3 c6 rfl
  have hfl : HLe X (X4.set p6 (.cells [uv,gv] 1 false false)):=kX.putB (by omega)
  rw [hn]
  refine ⟨X4.set p6 (.cells [uv,gv] 1 false false),uv,gv,f1 _ _ ?_,hR.hle hfl,hfl⟩
  unfold JI
  rw [z,Za Zh,Za a3,Za (ZzM ig),Za e3,Za Zr,Za Zs,z4,Za q1,Zb,if_pos rfl]
  exact hfin
end
end Go.Proofs.YtedkoimihknggaaGreatDoor.A
namespace Go.Proofs.YtedkoimihknggaaGreatDoor.A
set_option linter.unusedVariables false
set_option linter.unusedSimpArgs false
open Go.Proofs Go.Proofs.YtedkoimihknggaaGreatDoor
section
variable {X X' Y H0 : Zd} {n : Nat} {uv gv v : Value} {us : List Zj} {s s' : NSt} {k h m o t g x : Tx} {u w : Zj} {β : Type} {l : List Tx}
def Y6 (g k : Tx) (s : NSt) : Int:=if !(Zp g && Zp k) then 10 else if (Zf k s.A).isNone || decide (g∉s.K) then 8 else 0
theorem Zjw : Wb g k s=if Y6 g k s=0 then (if s.mem g k then 9 else 0) else Y6 g k s:=by
 unfold Wb Ye ZaG Jg Y6 Zu
 cases h1 : Zp g <;> cases h2 : Zp k <;> cases h3 : Zf k s.A <;> by_cases h4 : g∈s.K <;> simp [h1,h2,h3,h4]
theorem Zip : Kq g k s=if Y6 g k s=0 then (if s.mem g k then 0 else 12) else Y6 g k s:=by
 unfold Kq Ye Zcj Jg Y6 Zu
 cases h1 : Zp g <;> cases h2 : Zp k <;> cases h3 : Zf k s.A <;> by_cases h4 : g∈s.K <;> simp [h1,h2,h3,h4]
theorem Zri (h : Y6 g k s=0) : Zu k s.A=0∧g∈s.K:=by
 unfold Y6 at h
 unfold Zu
 cases h1 : Zp g <;> cases h2 : Zp k <;> cases h3 : Zf k s.A <;> by_cases h4 : g∈s.K <;> simp [h1,h2,h3,h4] at h ⊢
theorem ZwG (hR : RD X uv gv s) (hP : WQ s) : ∃ u X',R (n+5) Zba [.agg #[uv,gv],strv g,strv k] X=some (.tuple #[.agg u.cells.toArray,iv (Y6 g k s)],X')∧HLe X X'∧UOK X' u∧(Y6 g k s=0→ZQ u=Qi s k (Qb k s.A)):=by
 obtain ⟨us,hU,hO⟩:=hR.ex
 obtain ⟨q,N,hN,hI⟩:=hR.n
 have hfew:=ZxA hI hP
 have z1 : alc 1 (.agg #[uv,gv]) X=some (pt X.length,X++[.cells [uv,gv] 1 false false]):=Wd (vs:=[uv,gv]) (by simp only [List.all_cons,hR.oneU,hR.oneG];rfl)
 have z2 : alc 1 zU (X++[.cells [uv,gv] 1 false false])=some (pt (X++[Ze.cells [uv,gv] 1 false false]).length,X++[.cells [uv,gv] 1 false false]++[.cells (usr ([],[])) 1 false false]):=Wd (vs:=usr ([],[])) rfl
 have k2 : HLe X (X++[Ze.cells [uv,gv] 1 false false]++[Ze.cells (usr ([],[])) 1 false false]):=(HLe.app _ _).trans (.app _ _)
 have b1 : (X++[Ze.cells [uv,gv] 1 false false]++[Ze.cells (usr ([],[])) 1 false false])[X.length]?=some (.cells [uv,gv] 1 false false):=ZkP
 have b2 : (X++[Ze.cells [uv,gv] 1 false false]++[Ze.cells (usr ([],[])) 1 false false])[(X++[Ze.cells [uv,gv] 1 false false]).length]?=some (.cells (usr ([],[])) 1 false false):=Zw
 have hp : X.length < (X++[Ze.cells [uv,gv] 1 false false]).length:=by simp
 generalize X++[Ze.cells [uv,gv] 1 false false]++[Ze.cells (usr ([],[])) 1 false false]=X2 at z2 k2 b1 b2
 generalize (X++[Ze.cells [uv,gv] 1 false false]).length=p2 at z2 b2 hp
 have d1 : ldA 2 (pt X.length) X2=some (.agg #[uv,gv],X2):=ZR (n:=2) b1 rfl
 obtain ⟨u,X3,e3,k3,ok,hk,hin,_⟩:=ZrS (n:=n) (k:=k) (hU.mono k2) hO hP hR.oneG
 have z8 : ∀ {β : Type} (K : Value→M β),bind (alc 1 zU) (fun q=>bind (stA 5 q (.agg u.cells.toArray)) fun _=>K q) X3=K (pt X3.length) (X3++[.cells u.cells 1 false false]):=fun K=>WZ (n:=5) (zs:=[.string ⟨#[]⟩,.string ⟨#[]⟩,.string ⟨#[]⟩,.bool false,.slice none 0 0]) (r:=u.cells) rfl rfl rfl (Zbk ok.2.1)
 have k4 : HLe X3 (X3++[Ze.cells u.cells 1 false false]):=.app _ _
 have b8 : (X3++[Ze.cells u.cells 1 false false])[X3.length]?=some (.cells u.cells 1 false false):=Zw
 have hx3:=k3.len
 have lp2:=QD b2
 generalize X3++[Ze.cells u.cells 1 false false]=X4 at z8 k4 b8
 generalize X3.length=p8 at z8 b8 hx3
 have k34:=k3.trans k4
 have c1:=k34 _ _ b1
 have c2':=k34 _ _ b2
 have ok4:=ok.hle k4
 have e5 : R (n+4) QP [strv g] X4=some (.bool (Zp g),X4):=Zca
 have ag : ld1 (pa X.length 1) X4=some (gv,X4):=Zv c1 rfl
 have hNm:=(hN.hle (k2.trans k34)).rd
 have eh:=Zro (n:=n+3) (x:=g) (l:=N) (by omega) hNm
 have eh : R (n+4) K3 [gv,strv g] X4=_:=eh
 have hmem : (decide (g∈N))=decide (g∈s.K):=by simp [hI.mem]
 have fin : ∀ e : Int,(bind (ldA 5 (pt p8)) fun v33=>bind (stA 5 (pt p2) v33) fun _=>bind (ldA 5 (pt p2)) fun vr=>ret (Value.tuple #[vr,iv e])) X4=some (.tuple #[.agg u.cells.toArray,iv e],X4.set p2 (.cells u.cells 1 false false)):=fun e=>by
  have d8 : ldA 5 (pt p8) X4=some (.agg u.cells.toArray,X4):=ZR (n:=5) b8 rfl
  have w1:=Kv (vs:=u.cells) (n:=5) c2' rfl rfl (Zbk ok.2.1)
  have d2 : ldA 5 (pt p2) (X4.set p2 (.cells u.cells 1 false false))=some (.agg u.cells.toArray,_):=ZR (n:=5) (ZM c2') rfl
  rw [Za d8,Za w1,Za d2]
  rfl
 have kX : HLe X (X4.set p2 (.cells u.cells 1 false false)):=(k2.trans k34).putB (by omega)
 refine ⟨u,X4.set p2 (.cells u.cells 1 false false),?_,kX,?_,fun he=>hk (Zri he).1⟩
 ·rw [R,ZpB rfl]
  unfold Zgp
  rw [Za z1,Za z2,Za d1,Za e3,Za Zr,Za Zs]
  refine (z8 _).trans ?_
  have q10 : bop .int .eql (iv (Zu k s.A)) (.int .i64 10) X4=some (.bool (!Zp k),X4):=by
   rw [ZD]
   unfold Zu
   cases Zp k
   ·rfl
   ·cases (Zf k s.A).isSome <;> rfl
  rw [Za q10]
  have hgate : ∀ K : Value→M Value,bind (ZG (.bool (!Zp k)) false 3 (bind (R (n+4) QP [strv g]) fun v20=>bind (uop .not v20) fun v21=>ret [strv g,v20,v21])) (c3 fun _ _ q=>bind (pick (.bool (!Zp k)) (Value.bool true) q) K) X4=K (.bool (!(Zp g && Zp k))) X4:=fun K=>by
   cases Zp k
   ·simp only [Bool.not_false]
    rw [Za (g_r.trans (if_neg (by simp)))]
    simp only [List.replicate]
    rw [Z3,Za Zl,Bool.and_false]
    rfl
   ·simp only [Bool.not_true]
    rw [ZU,Zk,Za e5,Zk,Za ZH,ZV,Z3,Za Zl,Bool.and_true]
    rfl
  refine (hgate _).trans ?_
  cases hb : Zp g && Zp k
  ·have hE : Y6 g k s=10:=by unfold Y6;rw [hb];rfl
   rw [Zb,if_pos (by rfl),hE]
   exact fin 10
  ·rw [Zb,if_neg (by simp)]
   have hb':=hb
   simp only [Bool.and_eq_true] at hb'
   have q0 : bop .int .neq (iv (Zu k s.A)) (.int .i64 0) X4=some (.bool (Zf k s.A).isNone,X4):=by
    rw [Zq]
    unfold Zu
    rw [hb'.2]
    cases Zf k s.A <;> rfl
   rw [Za q0]
   have hgate2 : ∀ K : Value→M Value,bind (ZG (.bool (Zf k s.A).isNone) false 5 (bind (fa 1 (pt X.length)) fun v27=>bind (ld1 v27) fun v28=>bind (R (n+4) K3 [v28,strv g]) fun v30=>bind (uop .not v30) fun v31=>ret [v27,v28,strv g,v30,v31])) (c5 fun _ _ _ _ q=>bind (pick (.bool (Zf k s.A).isNone) (Value.bool true) q) K) X4=K (.bool ((Zf k s.A).isNone || decide (g∉s.K))) X4:=fun K=>by
    cases (Zf k s.A).isNone
    ·rw [ZU,Zk,Za Zh,Zk,Za ag,Zk,Za eh,Zk,Za ZH,ZV,Qc,Za Zl,hmem]
     simp only [cond_false,Bool.false_or,decide_not]
    ·rw [Za (g_r.trans (if_neg (by simp)))]
     simp only [List.replicate]
     rw [Qc,Za Zl]
     rfl
   refine (hgate2 _).trans ?_
   cases h8 : (Zf k s.A).isNone || decide (g∉s.K)
   ·have hE : Y6 g k s=0:=by unfold Y6;rw [hb,h8];rfl
    rw [Zb,if_neg (by simp),hE]
    exact fin 0
   ·have hE : Y6 g k s=8:=by unfold Y6;rw [hb,h8];rfl
    rw [Zb,if_pos (by rfl),hE]
    exact fin 8
 ·rcases hin with rfl | hin
  ·exact ⟨Sl.nil,rfl,Nat.zero_le _⟩
  ·exact (hU.mono kX).ok hin
theorem ZpR (hR : RD X uv gv s) (hP : WQ s) : ∃ p3 p6 p8 u X',(∀ {β : Type} (K : Value→Value→Value→Value→M β),bind (alc 1 (.agg #[uv,gv])) (fun v3=>bind (alc 1 zD) fun v6=>bind (ldA 2 v3) fun v11=>bind (R (n+5) Zba [v11,strv g,strv k]) fun v13=>bind (Zo v13 0) fun v14=>bind (Zo v13 1) fun v15=>bind (alc 1 zU) fun v8=>bind (stA 5 v8 v14) fun _=>K v3 v6 v8 v15) X=K (pt p3) (pt p6) (pt p8) (iv (Y6 g k s)) X')∧
  X'[p3]?=some (.cells [uv,gv] 1 false false)∧X'[p6]?=some (.cells [.slice none 0 0,.slice none 0 0] 1 false false)∧X'[p8]?=some (.cells u.cells 1 false false)∧HLe X X'∧X.length≤p3∧p3 < p6∧p6 < p8∧UOK X' u∧(∀ id,own1 u.gv=some id→id < p8)∧(Y6 g k s=0→ZQ u=Qi s k (Qb k s.A)):=by
 obtain ⟨p3,p6,X2,z,b3,b6,k2,l3,l36,l6⟩:=ZiP (X:=X) hR.oneU hR.oneG
 have d3 : ldA 2 (pt p3) X2=some (.agg #[uv,gv],X2):=ZR (n:=2) b3 rfl
 obtain ⟨u,X3,e3,k3,ok,hk⟩:=ZwG (n:=n) (g:=g) (k:=k) (hR.hle k2) hP
 have z8 : ∀ {β : Type} (K : Value→M β),bind (alc 1 zU) (fun q=>bind (stA 5 q (.agg u.cells.toArray)) fun _=>K q) X3=K (pt X3.length) (X3++[.cells u.cells 1 false false]):=fun K=>WZ (n:=5) (zs:=[.string ⟨#[]⟩,.string ⟨#[]⟩,.string ⟨#[]⟩,.bool false,.slice none 0 0]) (r:=u.cells) rfl rfl rfl (Zbk ok.2.1)
 have k4 : HLe X3 (X3++[Ze.cells u.cells 1 false false]):=.app _ _
 have hx3:=k3.len
 refine ⟨p3,p6,X3.length,u,X3++[.cells u.cells 1 false false],fun {β} K=>?_,k4 _ _ (k3 _ _ b3),k4 _ _ (k3 _ _ b6),Zw,(k2.trans k3).trans k4,l3,l36,by omega,ok.hle k4,fun id hid=>ok.1.ltO hid,hk⟩
 rw [z,Za d3,Za e3,Za Zr,Za Zs]
 exact z8 _
theorem Zxa (hR : RD X uv gv s) (hP : WQ s) : ∃ X' uv',R (n+6) ZbP [.agg #[uv,gv],strv g,strv k] X=some (.tuple #[.agg #[uv',gv],iv (Kq g k s)],X')∧RD X' uv' gv (Wy g k s)∧HLe X X':=by
 obtain ⟨us,hU,hO⟩:=hR.ex
 obtain ⟨iu,ig⟩:=hR.isSl
 obtain ⟨p3,p6,p8,u,X3,z,b3,b6,b8,k3,l3,l36,l68,ok,lo,hkey⟩:=ZpR (n:=n) (g:=g) (k:=k) hR hP
 have hlen:=hO.len hP.n
 have hfew:=hP.i.few
 have f1 : ∀ r X',ZbR (R (n+5)) (.agg #[uv,gv]) (strv g) (strv k) X=some (r,X')→R (n+6) ZbP [.agg #[uv,gv],strv g,strv k] X=some (r,X'):=fun r X' hr=>by rw [R,ZqW rfl];exact hr
 have a4 : ld1 (pa p8 4) X3=some (u.gv,X3):=Zv b8 rfl
 have hfin:=fun e : Int=>Zil (e:=e) hR.oneU hR.oneG b3 b6 rfl
 have hfl : HLe X (X3.set p6 (.cells [uv,gv] 1 false false)):=k3.putB (by omega)
 have q0 : bop .int .neq (iv (Y6 g k s)) (.int .i64 0) X3=some (.bool (decide (Y6 g k s≠0)),X3):=by
  rw [Zq]
  by_cases h : Y6 g k s=0
  ·rw [h];rfl
  ·rw [decide_eq_true h];simp [h]
 have eh:=Zro (n:=n+4) (x:=g) (l:=u.gs) (by have:=ok.2.2;omega) ok.1
 have eh : R (n+5) K3 [u.gv,strv g] X3=_:=eh
 by_cases hE0 : Y6 g k s=0
 ·have hku:=hkey hE0
  have hgs : u.gs=ofL k s.K s.mem:=congrArg (·.2.2.2.2) hku
  have hin : decide (g∈u.gs)=s.mem g k:=by
   rw [hgs,Bool.eq_iff_iff,decide_eq_true_eq,ZdV]
   exact ⟨fun h=>h.2,fun h=>⟨(Zri hE0).2,h⟩⟩
  rw [decide_eq_false (by simpa using hE0)] at q0
  by_cases he : s.mem g k=true
  ·have hL : Kq g k s=0:=by rw [Zip,if_pos hE0,if_pos he]
   have hgl : u.gs.length≤6:=by rw [hgs];exact Nat.le_trans ZfB hP.k.few
   obtain ⟨X4,v4,q4,e4,r4,k4,o4⟩:=Znm (n:=n+4) (k:=g) (by omega) ok.1
   have e4 : R (n+5) ZaA [u.gv,strv g] X3=_:=e4
   have c8:=k4 _ _ b8
   have l8:=QD b8
   have w8 : st1 (pa p8 4) v4 X4=some (undef,X4.set p8 (.cells (Zj.cells (u.grp v4 (u.gs.filter fun x=>decide (x≠g)))) 1 false false)):=K7 (o:=4) c8 (by simp) r4.one.1
   have k8 : HLe X (X4.set p8 (.cells (Zj.cells (u.grp v4 (u.gs.filter fun x=>decide (x≠g)))) 1 false false)):=(k3.trans k4).putB (by omega)
   have r8 : ZA (X4.set p8 (.cells (Zj.cells (u.grp v4 (u.gs.filter fun x=>decide (x≠g)))) 1 false false)) v4 ((u.gs.filter fun x=>decide (x≠g)).map strv) q4:=r4.keep fun i hi=>List.getElem?_set_ne (by have:=o4 i hi;omega)
   have ok8 : UOK (X4.set p8 (.cells (Zj.cells (u.grp v4 (u.gs.filter fun x=>decide (x≠g)))) 1 false false)) (u.grp v4 (u.gs.filter fun x=>decide (x≠g))):=⟨r8.rd,r8.one.1,Nat.le_trans (List.length_filter_le _ _) ok.2.2⟩
   have c3:=(List.getElem?_set_ne (a:=Ze.cells (Zj.cells (u.grp v4 (u.gs.filter fun x=>decide (x≠g)))) 1 false false) (show p8≠p3 by omega)).trans (k4 _ _ b3)
   have c6:=(List.getElem?_set_ne (a:=Ze.cells (Zj.cells (u.grp v4 (u.gs.filter fun x=>decide (x≠g)))) 1 false false) (show p8≠p6 by omega)).trans (k4 _ _ b6)
   have c8':=ZM (b:=Ze.cells (Zj.cells (u.grp v4 (u.gs.filter fun x=>decide (x≠g)))) 1 false false) c8
   obtain ⟨uv',X5,e5,hU5,hl5⟩:=ZtV (n:=n) (u:=u.grp v4 (u.gs.filter fun x=>decide (x≠g))) (hU.mono k8) (by omega) ok8 ig Za4 Za4 c3 c6 c8'
   have hkk : HLe X X5:=hl5 k8 (by omega)
   have hnm : u.nm=k:=congrArg (·.1) hku
   have hku2 : ZQ (u.grp v4 (u.gs.filter fun x=>decide (x≠g)))=((ZQ u).1,(ZQ u).2.1,(ZQ u).2.2.1,(ZQ u).2.2.2.1,u.gs.filter fun x=>decide (x≠g)):=rfl
   rw [hL]
   refine ⟨X5,uv',f1 _ _ ?_,hR.users hkk hU5 (hO.put (u:=u.grp v4 (u.gs.filter fun x=>decide (x≠g))) ?_ (fun x hx=>?_)) Zze,hkk⟩
   ·unfold ZbR
    refine (z _).trans ?_
    rw [hin,he] at eh
    rw [Za q0,Zb,if_neg (by simp),Za Zh,Za a4,Za eh,Za ZH,Zb,if_neg (by simp),Za Zh,Za a4,Za e4,Za Zh,Za w8]
    exact e5
   ·rw [Zwa hP.k hL,if_pos (show u.nm=k from hnm),hku2,hku,hgs]
    rfl
   ·rw [Zwa hP.k hL,if_neg (by rw [← hnm];exact hx)]
  ·have he : s.mem g k=false:=by simpa using he
   have hL : Kq g k s=12:=by rw [Zip,if_pos hE0,if_neg (by rw [he];simp)]
   have hn : Wy g k s=s:=by unfold Wy;rw [if_neg (by rw [hL];decide)]
   rw [hL,hn]
   refine ⟨X3.set p6 (.cells [uv,gv] 1 false false),uv,f1 _ _ ?_,hR.hle hfl,hfl⟩
   unfold ZbR
   refine (z _).trans ?_
   rw [hin,he] at eh
   rw [Za q0,Zb,if_neg (by simp),Za Zh,Za a4,Za eh,Za ZH,Zb,if_pos (by rfl)]
   exact hfin 12
 ·have hL : Kq g k s=Y6 g k s:=by rw [Zip,if_neg hE0]
  have hn : Wy g k s=s:=by unfold Wy;rw [if_neg (by rw [hL];exact hE0)]
  rw [hL,hn]
  rw [decide_eq_true hE0] at q0
  refine ⟨X3.set p6 (.cells [uv,gv] 1 false false),uv,f1 _ _ ?_,hR.hle hfl,hfl⟩
  unfold ZbR
  refine (z _).trans ?_
  rw [Za q0,Zb,if_pos rfl]
  exact hfin _
theorem ZxU (hR : RD X uv gv s) (hP : WQ s) : ∃ X' uv',R (n+6) Zcz [.agg #[uv,gv],strv g,strv k] X=some (.tuple #[.agg #[uv',gv],iv (Wb g k s)],X')∧RD X' uv' gv (ZaZ g k s)∧HLe X X':=by
 obtain ⟨us,hU,hO⟩:=hR.ex
 obtain ⟨iu,ig⟩:=hR.isSl
 obtain ⟨p3,p6,p8,u,X3,z,b3,b6,b8,k3,l3,l36,l68,ok,lo,hkey⟩:=ZpR (n:=n) (g:=g) (k:=k) hR hP
 have hlen:=hO.len hP.n
 have hfew:=hP.i.few
 have f1 : ∀ r X',ZcC (R (n+5)) (.agg #[uv,gv]) (strv g) (strv k) X=some (r,X')→R (n+6) Zcz [.agg #[uv,gv],strv g,strv k] X=some (r,X'):=fun r X' hr=>by rw [R,Zsg rfl];exact hr
 have a4 : ld1 (pa p8 4) X3=some (u.gv,X3):=Zv b8 rfl
 have hfin:=fun e : Int=>Zil (e:=e) hR.oneU hR.oneG b3 b6 rfl
 have hfl : HLe X (X3.set p6 (.cells [uv,gv] 1 false false)):=k3.putB (by omega)
 have q0 : bop .int .neq (iv (Y6 g k s)) (.int .i64 0) X3=some (.bool (decide (Y6 g k s≠0)),X3):=by
  rw [Zq]
  by_cases h : Y6 g k s=0
  ·rw [h];rfl
  ·rw [decide_eq_true h];simp [h]
 have eh:=Zro (n:=n+4) (x:=g) (l:=u.gs) (by have:=ok.2.2;omega) ok.1
 have eh : R (n+5) K3 [u.gv,strv g] X3=_:=eh
 by_cases hE0 : Y6 g k s=0
 ·have hku:=hkey hE0
  have hgs : u.gs=ofL k s.K s.mem:=congrArg (·.2.2.2.2) hku
  have hin : decide (g∈u.gs)=s.mem g k:=by
   rw [hgs,Bool.eq_iff_iff,decide_eq_true_eq,ZdV]
   exact ⟨fun h=>h.2,fun h=>⟨(Zri hE0).2,h⟩⟩
  rw [decide_eq_false (by simpa using hE0)] at q0
  by_cases he : s.mem g k=false
  ·have hL : Wb g k s=0:=by rw [Zjw,if_pos hE0,if_neg (by rw [he];simp)]
   have hgl : u.gs.length≤6:=by rw [hgs];exact Nat.le_trans ZfB hP.k.few
   have l8:=QD b8
   have z0 : bsl 1 0 (.string ⟨#[]⟩) [] X3=some (.slice (some ⟨X3.length,0,none⟩) 0 0,X3++[.cells [] 1 false false]):=Zz9
   have g0 : (X3++[Ze.cells [] 1 false false])[X3.length]?=some (.cells [] 1 false false):=Zw
   have j0 : HLe X3 (X3++[Ze.cells [] 1 false false]):=.app _ _
   have hl0 : (X3++[Ze.cells [] 1 false false]).length=X3.length+1:=by simp
   generalize X3++[Ze.cells [] 1 false false]=Y0 at z0 g0 j0 hl0
   obtain ⟨sl1,Y1,o1,x1,r1,j1,ho1⟩:=Zui (b:=16) (ok.1.mono j0) (by simp;omega) (by simp;omega) (s:=.slice (some ⟨X3.length,0,none⟩) 0 0) (.inr ⟨X3.length,false,rfl,g0,rfl⟩)
   have ho1' : ∀ j∈o1,X3.length≤j:=fun j hj=>by
    rcases ho1 j hj with h | ⟨_,h⟩
    ·omega
    ·cases h;exact Nat.le_refl _
   obtain ⟨w,Y2,sl2,Y3,o3,x2,x3,r3,j3,ho3,_⟩:=Zia (u:=g) (H0:=X3) r1 (by omega) ho1' (j0.trans j1)
   obtain ⟨Y4,v4,q4,l4,e4,r4,is4,le4,k4,o4⟩:=ZtE (n:=n+3) (l:=u.gs++[g]) (by rw [List.length_append,List.length_singleton];omega) r3.rd
   have e4 : R (n+5) W4 [sl2] Y3=_:=e4
   have a41 : ld1 (pa p8 4) Y0=some (u.gv,Y0):=Zv (j0 _ _ b8) rfl
   have k34 : HLe X3 Y4:=j3.trans k4
   have hy3:=j3.len
   have c8:=k34 _ _ b8
   have w8 : st1 (pa p8 4) v4 Y4=some (undef,Y4.set p8 (.cells (Zj.cells (u.grp v4 l4)) 1 false false)):=K7 (o:=4) c8 (by simp) r4.one.1
   have k8 : HLe X (Y4.set p8 (.cells (Zj.cells (u.grp v4 l4)) 1 false false)):=(k3.trans k34).putB (by omega)
   have r8 : ZA (Y4.set p8 (.cells (Zj.cells (u.grp v4 l4)) 1 false false)) v4 (l4.map strv) q4:=r4.keep fun i hi=>List.getElem?_set_ne (by have:=o4 i hi;omega)
   have ok8 : UOK (Y4.set p8 (.cells (Zj.cells (u.grp v4 l4)) 1 false false)) (u.grp v4 l4):=⟨r8.rd,r8.one.1,by rw [List.length_append,List.length_singleton] at le4;show l4.length≤_;omega⟩
   have c3:=(List.getElem?_set_ne (a:=Ze.cells (Zj.cells (u.grp v4 l4)) 1 false false) (show p8≠p3 by omega)).trans (k34 _ _ b3)
   have c6:=(List.getElem?_set_ne (a:=Ze.cells (Zj.cells (u.grp v4 l4)) 1 false false) (show p8≠p6 by omega)).trans (k34 _ _ b6)
   have c8':=ZM (b:=Ze.cells (Zj.cells (u.grp v4 l4)) 1 false false) c8
   obtain ⟨uv',X5,e5,hU5,hl5⟩:=ZtV (n:=n) (u:=u.grp v4 l4) (hU.mono k8) (by omega) ok8 ig Za4 Za4 c3 c6 c8'
   have hkk : HLe X X5:=hl5 k8 (by omega)
   have hnm : u.nm=k:=congrArg (·.1) hku
   have hku2 : ZQ (u.grp v4 l4)=((ZQ u).1,(ZQ u).2.1,(ZQ u).2.2.1,(ZQ u).2.2.2.1,l4):=rfl
   rw [hgs] at is4
   rw [hL]
   refine ⟨X5,uv',f1 _ _ ?_,hR.users hkk hU5 (hO.put (u:=u.grp v4 l4) ?_ (fun x hx=>?_)) ZBD,hkk⟩
   ·unfold ZcC
    refine (z _).trans ?_
    rw [hin,he] at eh
    rw [Za q0,Zb,if_neg (by simp),Za Zh,Za a4,Za eh,Zb,if_neg (by simp),Za z0,Za Zh,Za a41,Za x1,Za x2,Za x3,Za e4,Za Zh,Za w8]
    exact e5
   ·rw [ZyY hP.k hL is4,if_pos (show u.nm=k from hnm),hku2,hku]
    rfl
   ·rw [ZyY hP.k hL is4,if_neg (by rw [← hnm];exact hx)]
  ·have he : s.mem g k=true:=by simpa using he
   have hL : Wb g k s=9:=by rw [Zjw,if_pos hE0,if_pos he]
   have hn : ZaZ g k s=s:=by unfold ZaZ;rw [if_neg (by rw [hL];decide)]
   rw [hL,hn]
   refine ⟨X3.set p6 (.cells [uv,gv] 1 false false),uv,f1 _ _ ?_,hR.hle hfl,hfl⟩
   unfold ZcC
   refine (z _).trans ?_
   rw [hin,he] at eh
   rw [Za q0,Zb,if_neg (by simp),Za Zh,Za a4,Za eh,Zb,if_pos rfl]
   exact hfin 9
 ·have hL : Wb g k s=Y6 g k s:=by rw [Zjw,if_neg hE0]
  have hn : ZaZ g k s=s:=by unfold ZaZ;rw [if_neg (by rw [hL];exact hE0)]
  rw [hL,hn]
  rw [decide_eq_true hE0] at q0
  refine ⟨X3.set p6 (.cells [uv,gv] 1 false false),uv,f1 _ _ ?_,hR.hle hfl,hfl⟩
  unfold ZcC
  refine (z _).trans ?_
  rw [Za q0,Zb,if_pos rfl]
  exact hfin _
end
end Go.Proofs.YtedkoimihknggaaGreatDoor.A

namespace Go.Proofs.YtedkoimihknggaaGreatDoor.A
set_option linter.unusedVariables false
set_option linter.unusedSimpArgs false
open Go.Proofs Go.Proofs.YtedkoimihknggaaGreatDoor
def ZdB (m : Tx) : Bool:=m==[] || (QH m && Qd m==m)
def Kh : List Tx→Bool
 | a :: b :: l=>decide (a < b) && Kh (b :: l)
 | _=>true
def Zgj (gs : List Tx) : Int:=if 6 < gs.length then 7 else if gs.all Zp then (if Kh gs then 0 else 9) else 10
def JO (u : Zj) : Int:=if Zp u.nm then (if YR u.hs then (if ZdB u.ml then Zgj u.gs else 11) else 4) else 10
section
variable {X X' H H0 : Zd} {n p : Nat} {v sl : Value} {l gs : List Tx} {m : Tx} {u : Zj}
theorem Zgd {a b : Tx} : Kh (a :: b :: l)=(decide (a < b) && Kh (b :: l)):=rfl
theorem Zqg (hl : l.length≤1000000) (hs : Sl X v (l.map strv)) : ∀ (t j : Nat),l.length - j=t→j≤l.length→
  Zi (c4 (JG.l1 (R (n+5)))) [v,v,iv l.length,iv j] X=some (if (l.drop j).all Zp then .ext 0 [v] else .ret (iv 10),X)
 | 0,j,ht,hj=>by
  rw [List.drop_eq_nil_of_le (by omega)]
  refine ZK ?_
  rw [ZI,show j=l.length by omega]
  unfold JG.l1
  rw [Za Zm,Zb,if_neg (by simp)]
  rfl
 | t+1,j,ht,hj=>by
  have hkl : j < l.length:=by omega
  have hlt : (j : Int) < l.length:=by omega
  have hg:=List.getElem?_eq_getElem hkl
  have hd:=List.drop_eq_getElem_cons hkl
  generalize l[j]=y at hg hd
  have x1:=hs.ix (i:=j) (by simpa using hkl) .i64 X
  have x2:=hs.ldx (Yt hg)
  have e1 : R (n+5) QZ [strv y] X=some (iv (ZJ y),X):=ZcB
  rw [hd,List.all_cons]
  cases hn : Zp y
  ·have he : ZJ y=10:=by unfold ZJ;rw [hn];rfl
   rw [he] at e1
   refine QE ?_
   rw [ZI]
   unfold JG.l1
   rw [Za Zm,Zb,if_pos (by simpa using hlt),Za x1,Za x2,Za e1,Za Zq,Zb,if_pos (by simp)]
   rfl
  ·have he : ZJ y=0:=Zdd.2 hn
   rw [he] at e1
   rw [Bool.true_and]
   refine (Zy ?_).trans (Zqg hl hs t (j+1) (by omega) (by omega))
   rw [ZI]
   unfold JG.l1
   rw [Za Zm,Zb,if_pos (by simpa using hlt),Za x1,Za x2,Za e1,Za Zq,Zb,if_neg (by simp),Za ZB,Qg (by omega)]
   rfl
theorem Zrw (hl : l.length≤1000000) (hs : Sl X v (l.map strv)) : ∀ (t j : Nat),l.length - j=t→1≤j→(j≤l.length∨j=1)→
  Zi (c2 (JG.l2 (R n))) [v,iv j] X=some (if Kh (l.drop (j - 1)) then .ext 2 [] else .ret (iv 9),X)
 | 0,j,ht,hj,hj2=>by
  have hr : Kh (l.drop (j - 1))=true:=by
   have h1 : (l.drop (j - 1)).length≤1:=by rw [List.length_drop];omega
   match l.drop (j - 1),h1 with
   | [],_=>rfl
   | [a],_=>rfl
  have hlen : Zx v X=some (iv l.length,X):=by have:=hs.len (H':=X);simpa using this
  rw [hr]
  refine ZK ?_
  rw [ZX]
  unfold JG.l2
  rw [Za hlen,Za Zm,Zb,if_neg (by simp;omega)]
  rfl
 | t+1,j,ht,hj,hj2=>by
  have hkl : j < l.length:=by omega
  have hlt : (j : Int) < l.length:=by omega
  have hlen : Zx v X=some (iv l.length,X):=by have:=hs.len (H':=X);simpa using this
  have hk0 : j - 1 < l.length:=by omega
  have hg:=List.getElem?_eq_getElem hkl
  have hg0:=List.getElem?_eq_getElem hk0
  have hd:=List.drop_eq_getElem_cons hkl
  have hd0:=List.drop_eq_getElem_cons hk0
  rw [show j - 1+1=j by omega,hd] at hd0
  generalize l[j]=y at hg hd hd0
  generalize l[j - 1]=y0 at hg0 hd0
  have x1:=hs.ix (i:=j) (by simpa using hkl) .i64 X
  have x2:=hs.ldx (Yt hg)
  have x3:=hs.ix (i:=j - 1) (by simpa using hk0) .i64 X
  have x4:=hs.ldx (Yt hg0)
  have w0 : IntKind.i64.wrap ((j : Int) - 1)=((j - 1 : Nat) : Int):=by rw [w64 (by omega) (by omega)];omega
  have q1 : bop .str .geq (strv y0) (strv y) X=some (.bool (!decide (y0 < y)),X):=ZC5
  rw [hd0,Zgd]
  by_cases hy : y0 < y
  ·rw [decide_eq_true hy] at q1 ⊢
   rw [Bool.true_and,← hd]
   have ih:=Zrw hl hs t (j+1) (by omega) (by omega) (by omega)
   rw [Nat.add_sub_cancel] at ih
   refine (Zy ?_).trans ih
   rw [ZX]
   unfold JG.l2
   rw [Za hlen,Za Zm,Zb,if_pos (by simpa using hlt),Za QU,w0,Za x3,Za x4,Za x1,Za x2,Za q1,Zb,if_neg (by simp),Za ZB,Qg (by omega)]
   rfl
  ·rw [decide_eq_false hy] at q1 ⊢
   refine QE ?_
   rw [ZX]
   unfold JG.l2
   rw [Za hlen,Za Zm,Zb,if_pos (by simpa using hlt),Za QU,w0,Za x3,Za x4,Za x1,Za x2,Za q1,Zb,if_pos (by simp)]
   rfl
theorem Zt1 (hl : l.length≤1000000) (hs : Sl X v (l.map strv)) : R (n+6) Zdh [v] X=some (iv (Zgj l),X):=by
 have hlen : Zx v X=some (iv l.length,X):=by have:=hs.len (H':=X);simpa using this
 have e1:=Zqg (n:=n) hl hs l.length 0 (by omega) (by omega)
 have e2:=Zrw (n:=n+5) hl hs (l.length - 1) 1 rfl (Nat.le_refl _) (.inr rfl)
 rw [show iv ((0 : Nat) : Int)=.int .i64 0 from rfl,List.drop_zero] at e1
 rw [show iv ((1 : Nat) : Int)=.int .i64 1 from rfl,Nat.sub_self,List.drop_zero] at e2
 rw [R,Zrm rfl]
 unfold JG Zgj
 rw [Za hlen]
 by_cases h6 : 6 < l.length
 ·rw [Za Z0,Zb,if_pos (by simp;omega),if_pos h6];rfl
 ·rw [Za Z0,Zb,if_neg (by simp;omega),if_neg h6,Za hlen]
  cases ha : l.all Zp
  ·rw [ha] at e1
   rw [JJ e1];rfl
  ·rw [ha] at e1
   rw [ZT e1,ZE,YC]
   cases hr : Kh l
   ·rw [hr] at e2
    rw [JJ e2];rfl
   ·rw [hr] at e2
    rw [ZT e2,ZE];rfl
theorem Zxl : ∃ X',R (n+9) ZeN [strv m] X=some (iv (if ZdB m then 0 else 11),X')∧HLe X X':=by
 have f1 : ∀ r X',Ze5 (R (n+8)) (strv m) X=some (r,X')→R (n+9) ZeN [strv m] X=some (r,X'):=fun r X' hr=>by rw [R,ZtB rfl];exact hr
 have q1 : bop .str .eql (strv m) (.string ⟨#[]⟩) X=some (.bool (m==[]),X):=Zdp (b:=[])
 unfold ZdB
 by_cases hm : m=[]
 ·refine ⟨X,f1 _ _ ?_,.refl _⟩
  unfold Ze5
  rw [Za q1,Zb,if_pos (by simpa using hm)]
  simp [hm,ret]
 ·have hmb : (m==[])=false:=by simpa using hm
  obtain ⟨X1,e1,k1⟩:=Ztl (n:=n) (s:=m) (X:=X)
  refine ⟨X1,f1 _ _ ?_,k1⟩
  unfold Ze5
  rw [hmb] at q1 ⊢
  rw [Za q1,Zb,if_neg (by simp),Za e1,Za Zr,Za Zs]
  cases hb : QH m
  ·have q2 : bop .int .neq (iv 11) (.int .i64 0) X1=some (.bool true,X1):=by rw [Zq];rfl
   simp only [Bool.false_eq_true,if_false,Bool.false_and,Bool.or_false]
   rw [Za q2,Za (g_r.trans (if_neg (by simp)))]
   simp only [List.replicate]
   rw [Z3,Za Zl]
   simp only [cond_true]
   rw [Zb,if_pos rfl]
   rfl
  ·have q2 : bop .int .neq (iv 0) (.int .i64 0) X1=some (.bool false,X1):=by rw [Zq];rfl
   have q3 : bop .str .neq (strv (Qd m)) (strv m) X1=some (.bool (!(Qd m==m)),X1):=Wt
   simp only [if_true,Bool.true_and,Bool.false_or]
   rw [Za q2,ZU,Zk,Za q3,ZV,Z3,Za Zl]
   simp only [cond_false]
   cases hf : Qd m==m
   ·rw [Zb,if_pos (by rfl)];rfl
   ·rw [Zb,if_neg (by simp)];rfl
theorem UOK.cells1 (h : UOK X u) : alc 1 (.agg u.cells.toArray) X=some (pt X.length,X++[.cells u.cells 1 false false]):=ZlS h.2.1
theorem ZkY (h : UOK X u) : ∃ X',R (n+10) Yq [iv 2,.agg u.cells.toArray] X=some (iv (JO u),X')∧HLe X X':=by
 have e1:=h.cells1
 have k1 : HLe X (X++[.cells u.cells 1 false false]):=.app _ _
 have c1 : (X++[Ze.cells u.cells 1 false false])[X.length]?=some (.cells u.cells 1 false false):=Zw
 generalize X++[Ze.cells u.cells 1 false false]=X1 at e1 k1 c1
 generalize X.length=p at e1 c1
 have a0 : ∀ Y,HLe X1 Y→∀ f x,u.cells[f]?=some x→ld1 (pa p f) Y=some (x,Y):=fun Y hl f x h=>Zv (hl _ _ c1) h
 have e2 : R (n+9) QZ [strv u.nm] X1=some (iv (ZJ u.nm),X1):=ZcB (n:=n+4)
 have e3 : R (n+9) WH [strv u.hs] X1=some (iv (Qt u.hs),X1):=Zmz (n:=n+5)
 have b2:=ZsR (a:=ZJ u.nm) (c:=Qt u.hs) X1
 have k2 : HLe X1 (X1++[Ze.cells [iv (ZJ u.nm),iv (Qt u.hs)] 1 false false]):=.app _ _
 have s2 : Sl (X1++[Ze.cells [iv (ZJ u.nm),iv (Qt u.hs)] 1 false false]) (.slice (some ⟨X1.length,0,none⟩) 2 2) [iv (ZJ u.nm),iv (Qt u.hs)]:=Sl.one (vs:=[iv (ZJ u.nm),iv (Qt u.hs)]) (es:=1) (g:=false) (ro:=false) Zw
 generalize X1++[Ze.cells [iv (ZJ u.nm),iv (Qt u.hs)] 1 false false]=X2 at b2 k2 s2
 generalize X1.length=p2 at b2 s2
 have e4 : R (n+9) WK [.slice (some ⟨p2,0,none⟩) 2 2] X2=_:=Zmr (n:=n+8) s2
 have q1 : bop .int .neq (iv 2) (.int .i64 1) X1=some (.bool true,X1):=by rw [Zq];rfl
 have q2 : bop .int .neq (iv 2) (.int .i64 2) X1=some (.bool false,X1):=by rw [Zq];rfl
 have q3 : bop .int .eql (iv 2) (.int .i64 2) X2=some (.bool true,X2):=by rw [ZD];rfl
 have f1 : ∀ r X',Zax (R (n+9)) (iv 2) (.agg u.cells.toArray) X=some (r,X')→R (n+10) Yq [iv 2,.agg u.cells.toArray] X=some (r,X'):=fun r X' hr=>by rw [R,Zgn rfl];exact hr
 have hpre : ∀ K : Value→M Value,bind (alc 1 (.agg u.cells.toArray)) (fun v3=>bind (bop .int .neq (iv 2) (.int .i64 1)) fun v7=>bind (ZG v7 true 2 (bind (bop .int .neq (iv 2) (.int .i64 2)) fun v10=>ret [iv 2,v10])) (c2 fun _ q=>bind (pick v7 q (.bool false)) fun v11=>cnd v11 (ret (.int .i64 6)) (K v3))) X=K (pt p) X1:=fun K=>by
  rw [Za e1,Za q1,ZU,Zk,Za q2,ZV,ZX,Za Zl]
  simp only [cond_true]
  rw [Zb,if_neg (by simp)]
 unfold JO
 cases hn : Zp u.nm
 ·have h0 : ZJ u.nm=10:=by unfold ZJ;rw [hn];rfl
  refine ⟨X2,f1 _ _ ?_,k1.trans k2⟩
  unfold Zax
  refine (hpre _).trans ?_
  rw [Za Zh,Za (a0 _ (.refl _) 0 _ rfl),Za Zh,Za (a0 _ (.refl _) 1 _ rfl),Za e2,Za (a0 _ (.refl _) 1 _ rfl),QY,Za e3,Za b2,Za e4,h0,Za Zq,Zb,if_pos (by simp)]
  rfl
 ·have h0 : ZJ u.nm=0:=Zdd.2 hn
  cases hs : YR u.hs
  ·have h1 : Qt u.hs=4:=by unfold Qt;rw [hs];rfl
   refine ⟨X2,f1 _ _ ?_,k1.trans k2⟩
   unfold Zax
   refine (hpre _).trans ?_
   rw [Za Zh,Za (a0 _ (.refl _) 0 _ rfl),Za Zh,Za (a0 _ (.refl _) 1 _ rfl),Za e2,Za (a0 _ (.refl _) 1 _ rfl),QY,Za e3,Za b2,Za e4,h0,h1,Za Zq,Zb,if_pos (by simp)]
   rfl
  ·have h1 : Qt u.hs=0:=Zof.2 hs
   have k12:=k1.trans k2
   have s4:=(h.hle k12).1
   have hl6:=h.2.2
   obtain ⟨X3,e5,k3⟩:=Zxl (n:=n) (m:=u.ml) (X:=X2)
   have e6 : R (n+9) Zdh [u.gv] X3=_:=Zt1 (n:=n+3) hl6 (s4.mono k3)
   have b7:=ZsR (a:=if ZdB u.ml then 0 else 11) (c:=Zgj u.gs) X3
   have k7 : HLe X3 (X3++[Ze.cells [iv (if ZdB u.ml then 0 else 11),iv (Zgj u.gs)] 1 false false]):=.app _ _
   have s7 : Sl (X3++[Ze.cells [iv (if ZdB u.ml then 0 else 11),iv (Zgj u.gs)] 1 false false]) (.slice (some ⟨X3.length,0,none⟩) 2 2) [iv (if ZdB u.ml then 0 else 11),iv (Zgj u.gs)]:=Sl.one (vs:=[iv (if ZdB u.ml then 0 else 11),iv (Zgj u.gs)]) (es:=1) (g:=false) (ro:=false) Zw
   generalize X3++[Ze.cells [iv (if ZdB u.ml then 0 else 11),iv (Zgj u.gs)] 1 false false]=X7 at b7 k7 s7
   generalize X3.length=p7 at b7 s7
   have e8 : R (n+9) WK [.slice (some ⟨p7,0,none⟩) 2 2] X7=_:=Zmr (n:=n+8) s7
   refine ⟨X7,f1 _ _ ?_,(k12.trans k3).trans k7⟩
   unfold Zax
   refine (hpre _).trans ?_
   rw [Za Zh,Za (a0 _ (.refl _) 0 _ rfl),Za Zh,Za (a0 _ (.refl _) 1 _ rfl),Za e2,Za (a0 _ (.refl _) 1 _ rfl),QY,Za e3,Za b2,Za e4,h0,h1,Za Zq,Zb,if_neg (by simp),Za q3,Zb,if_pos rfl,Za Zh,Za (a0 _ k2 2 _ rfl),Za Zh,Za (a0 _ k2 4 _ rfl),Za e5,Za (a0 _ (k2.trans k3) 4 _ rfl),QY,Za e6,Za b7,Za e8]
   cases hm : ZdB u.ml <;> simp [ret]
end
end Go.Proofs.YtedkoimihknggaaGreatDoor.A

namespace Go.Proofs.YtedkoimihknggaaGreatDoor.A
set_option linter.unusedVariables false
set_option linter.unusedSimpArgs false
open Go.Proofs Go.Proofs.YtedkoimihknggaaGreatDoor
def Yu : List Zj→Int
 | []=>0
 | u :: l=>if JO u=0 then Yu l else JO u
def Zjg (us : List Zj) : Int:=if Yu us=0 then (if Kh (us.map (·.nm)) then (if 12 < us.length then 7 else 0) else 9) else Yu us
def Zdj (us : List Zj) (gs : List Tx) : Int:=if Zjg us=0 then (if gs.all Zp then (if Kh gs then (if 6 < gs.length then 7 else 0) else 9) else 10) else Zjg us
def ZeR (gs : List Tx) (prev : List Zj) (u : Zj) : Int:=if u.gs.all (fun g=>decide (g∈gs)) then (if u.ml≠[]∧prev.any (fun v=>u.ml==v.ml)=true then 9 else 0) else 8
def Za1 (gs : List Tx) : List Zj→List Zj→Int
 | _,[]=>0
 | prev,u :: l=>if ZeR gs prev u=0 then Za1 gs (prev++[u]) l else ZeR gs prev u
def ZbM (us : List Zj) (gs : List Tx) : Int:=if Zdj us gs=0 then Za1 gs [] us else Zdj us gs
section
variable {X X' H H0 : Zd} {n p d b : Nat} {v sl gv : Value} {l gs : List Tx} {m : Tx} {u : Zj} {us : List Zj}
theorem Zlu : ∀ {us : List Zj} {a : Tx},Zbo (some a) us=Kh (a :: us.map (·.nm))
 | [],a=>rfl
 | u :: us,a=>by
  rw [ZfO,Zlu (us:=us),List.map_cons,Zgd]
  rfl
theorem ZvK : Zbo none us=Kh (us.map (·.nm)):=by
 cases us with
 | nil=>rfl
 | cons u us=>rw [ZfO,Zlu,List.map_cons];rfl
theorem Zhd : ∀ {l : List Tx},Kh l=true→l.Pairwise (· < ·)
 | [],_=>List.Pairwise.nil
 | [a],_=>by simp
 | a :: b :: l,h=>by
  rw [Zgd,Bool.and_eq_true,decide_eq_true_eq] at h
  have ih:=Zhd h.2
  refine List.Pairwise.cons (fun x hx=>?_) ih
  rcases List.mem_cons.1 hx with rfl | hx
  ·exact h.1
  ·exact List.lt_trans h.1 ((List.pairwise_cons.1 ih).1 x hx)
theorem ZkM : ∀ {us : List Zj},Yu us=0→∀ u∈us,JO u=0
 | [],_,_,h=>by simp at h
 | w :: us,h,u,hu=>by
  unfold Yu at h
  by_cases hw : JO w=0
  ·rw [if_pos hw] at h
   rcases List.mem_cons.1 hu with rfl | hu
   ·exact hw
   ·exact ZkM h u hu
  ·rw [if_neg hw] at h;exact absurd h hw
theorem Znk {k : Nat} (hl : l.length≤1000000) (hs : Sl X v (l.map strv)) : R (n+4) K1 [v,iv k] X=some (iv (if Kh l then (if k < l.length then 7 else 0) else 9),X):=by
 have hlen : Zx v X=some (iv l.length,X):=by have:=hs.len (H':=X);simpa using this
 have lp : ∀ (t j : Nat),l.length - j=t→1≤j→(j≤l.length∨j=1)→Zi (c3 (WJ.l1 (R (n+3)))) [v,iv k,iv j] X=some (if Kh (l.drop (j - 1)) then .ext 0 [v,iv k] else .ret (iv 9),X):=by
  intro t
  induction t with
  | zero=>
   intro j ht hj hj2
   have hr : Kh (l.drop (j - 1))=true:=by
    have h1 : (l.drop (j - 1)).length≤1:=by rw [List.length_drop];omega
    match l.drop (j - 1),h1 with
    | [],_=>rfl
    | [a],_=>rfl
   rw [hr]
   refine ZK ?_
   rw [Z3]
   unfold WJ.l1
   rw [Za hlen,Za Zm,Zb,if_neg (by simp;omega)]
   rfl
  | succ t ih=>
   intro j ht hj hj2
   have hkl : j < l.length:=by omega
   have hlt : (j : Int) < l.length:=by omega
   have hk0 : j - 1 < l.length:=by omega
   have hg:=List.getElem?_eq_getElem hkl
   have hg0:=List.getElem?_eq_getElem hk0
   have hd:=List.drop_eq_getElem_cons hkl
   have hd0:=List.drop_eq_getElem_cons hk0
   rw [show j - 1+1=j by omega,hd] at hd0
   generalize l[j]=y at hg hd hd0
   generalize l[j - 1]=y0 at hg0 hd0
   have x1:=hs.ix (i:=j) (by simpa using hkl) .i64 X
   have x2:=hs.ldx (Yt hg)
   have x3:=hs.ix (i:=j - 1) (by simpa using hk0) .i64 X
   have x4:=hs.ldx (Yt hg0)
   have w0 : IntKind.i64.wrap ((j : Int) - 1)=((j - 1 : Nat) : Int):=by rw [w64 (by omega) (by omega)];omega
   have e1 : R (n+3) Qv [strv y0,strv y] X=some (iv (ZdG y0 y),X):=Zlw (n:=n)
   have q1 : bop .int .geq (iv (ZdG y0 y)) (.int .i64 0) X=some (.bool (!decide (y0 < y)),X):=by rw [Qj,ZqU]
   rw [hd0,Zgd]
   by_cases hy : y0 < y
   ·rw [decide_eq_true hy] at q1 ⊢
    rw [Bool.true_and,← hd]
    have ih:=ih (j+1) (by omega) (by omega) (by omega)
    rw [Nat.add_sub_cancel] at ih
    refine (Zy ?_).trans ih
    rw [Z3]
    unfold WJ.l1
    rw [Za hlen,Za Zm,Zb,if_pos (by simpa using hlt),Za QU,w0,Za x3,Za x4,Za x1,Za x2,Za e1,Za q1,Zb,if_neg (by simp),Za ZB,Qg (by omega)]
    rfl
   ·rw [decide_eq_false hy] at q1 ⊢
    refine QE ?_
    rw [Z3]
    unfold WJ.l1
    rw [Za hlen,Za Zm,Zb,if_pos (by simpa using hlt),Za QU,w0,Za x3,Za x4,Za x1,Za x2,Za e1,Za q1,Zb,if_pos (by simp)]
    rfl
 have e1:=lp (l.length - 1) 1 rfl (Nat.le_refl _) (.inr rfl)
 rw [show iv ((1 : Nat) : Int)=.int .i64 1 from rfl,Nat.sub_self,List.drop_zero] at e1
 rw [R,ZsB rfl]
 unfold WJ
 cases hr : Kh l
 ·rw [hr] at e1
  rw [JJ e1];rfl
 ·rw [hr] at e1
  rw [ZT e1,ZE,ZX,Za hlen,Za Z0,Zb]
  by_cases h : k < l.length
  ·rw [if_pos (by simp;omega),if_pos h];rfl
  ·rw [if_neg (by simp;omega),if_neg h];rfl
theorem Zuw (hn : us.length≤1000) (hA : Qh H0 sl us) : ∀ (t j : Nat) (nv : Value) (q : List Nat) (acc : List Tx) (X : Zd),us.length - j=t→j≤us.length→acc.length≤j→HLe H0 X→(∀ i∈q,H0.length≤i)→ZA X nv (acc.map strv) q→
  ∃ X' o,Zi (c5 (Jb.l1 (R (n+10)))) [gv,nv,sl,iv us.length,iv j] X=some (o,X')∧HLe H0 X'∧(if Yu (us.drop j)=0 then ∃ nv' q',o=.ext 0 [gv,nv']∧ZA X' nv' ((acc++(us.drop j).map (·.nm)).map strv) q' else o=.ret (iv (Yu (us.drop j))))
 | 0,j,nv,q,acc,X,ht,hj,ha,hle,hq,hr=>by
  rw [List.drop_eq_nil_of_le (by omega)]
  refine ⟨X,.ext 0 [gv,nv],ZK ?_,hle,?_⟩
  ·rw [Qc,show j=us.length by omega]
   unfold Jb.l1
   rw [Za Zm,Zb,if_neg (by simp)]
   rfl
  ·rw [if_pos (show Yu []=0 from rfl)]
   exact ⟨nv,q,rfl,by simpa using hr⟩
 | t+1,j,nv,q,acc,X,ht,hj,ha,hle,hq,hr=>by
  have hjl : j < us.length:=by omega
  have hlt : (j : Int) < us.length:=by omega
  have hg:=List.getElem?_eq_getElem hjl
  have hd:=List.drop_eq_getElem_cons hjl
  generalize us[j]=u at hg hd
  have hok:=(hA.mono hle).ok (List.mem_of_getElem? hg)
  have hf:=fun {K : Value→M Out}=>Zeq (k:=K) (hA.mono hle).1 hok.2.1 hg
  have g1 : (X++[Ze.cells u.cells 1 false false])[X.length]?=some (.cells u.cells 1 false false):=Zw
  have k1 : HLe X (X++[Ze.cells u.cells 1 false false]):=.app _ _
  generalize X++[Ze.cells u.cells 1 false false]=X1 at g1 k1 hf
  generalize X.length=p at g1 hf
  have d1 : ldA 5 (pt p) X1=some (.agg u.cells.toArray,X1):=ZR (n:=5) g1 rfl
  obtain ⟨X2,e2,k2⟩:=ZkY (n:=n) (hok.hle k1)
  have k12:=k1.trans k2
  have le2:=hle.trans k12
  rw [hd]
  unfold Yu
  by_cases he : JO u=0
  ·rw [he] at e2
   simp only [if_pos he]
   have q2 : bop .int .neq (iv 0) (.int .i64 0) X2=some (.bool false,X2):=by rw [Zq];rfl
   have l0 : ld1 (pa p 0) X2=some (strv u.nm,X2):=Zv (k2 _ _ g1) rfl
   have x4:=ZzW (es:=1) (z:=.string ⟨#[]⟩) (v:=strv u.nm) (H:=X2) rfl rfl rfl
   have k3 : HLe X2 (X2++[Ze.cells [strv u.nm] 1 false false]):=.app _ _
   have s3 : Sl (X2++[Ze.cells [strv u.nm] 1 false false]) (.slice (some ⟨X2.length,0,none⟩) 1 1) [strv u.nm]:=Sl.one (c:=1) Zw
   generalize X2++[Ze.cells [strv u.nm] 1 false false]=X3 at x4 k3 s3
   have hr3 : ZA X3 nv _ q:=hr.step (k12.trans k3).step (by simp)
   obtain ⟨nv',X4,q',x5,hr4,s4,_⟩:=hr3.push (b:=16) s3 (by simp;omega) (by simp;omega)
   have hm:=(le2.trans k3).more s4 hq
   have hr4' : ZA X4 nv' ((acc++[u.nm]).map strv) q':=by rw [List.map_append];exact hr4
   obtain ⟨X5,o5,e5,k5,h5⟩:=Zuw hn hA t (j+1) nv' q' (acc++[u.nm]) X4 (by omega) (by omega) (by simp;omega) hm.1 hm.2 hr4'
   refine ⟨X5,o5,(Zy ?_).trans e5,k5,by simpa using h5⟩
   rw [Qc]
   unfold Jb.l1
   rw [Za Zm,Zb,if_pos (by simpa using hlt),hf,Za d1,Za e2,Za q2,Zb,if_neg (by simp),Za Zh,Za l0,Za x4,Za x5,Za ZB,Qg (by omega)]
   rfl
  ·simp only [if_neg he]
   have q2 : bop .int .neq (iv (JO u)) (.int .i64 0) X2=some (.bool true,X2):=by rw [Zq];simp [he]
   refine ⟨X2,_,QE (v:=iv (JO u)) ?_,le2,rfl⟩
   rw [Qc]
   unfold Jb.l1
   rw [Za Zm,Zb,if_pos (by simpa using hlt),hf,Za d1,Za e2,Za q2,Zb,if_pos rfl]
   rfl
theorem Ztp (hl : l.length≤1000000) (hs : Sl X v (l.map strv)) : ∀ (t j : Nat),l.length - j=t→j≤l.length→
  Zi (c4 (Jb.l2 (R (n+5)))) [v,v,iv l.length,iv j] X=some (if (l.drop j).all Zp then .ext 2 [v] else .ret (iv 10),X)
 | 0,j,ht,hj=>by
  rw [List.drop_eq_nil_of_le (by omega)]
  refine ZK ?_
  rw [ZI,show j=l.length by omega]
  unfold Jb.l2
  rw [Za Zm,Zb,if_neg (by simp)]
  rfl
 | t+1,j,ht,hj=>by
  have hkl : j < l.length:=by omega
  have hlt : (j : Int) < l.length:=by omega
  have hg:=List.getElem?_eq_getElem hkl
  have hd:=List.drop_eq_getElem_cons hkl
  generalize l[j]=y at hg hd
  have x1:=hs.ix (i:=j) (by simpa using hkl) .i64 X
  have x2:=hs.ldx (Yt hg)
  have e1 : R (n+5) QZ [strv y] X=some (iv (ZJ y),X):=ZcB
  rw [hd,List.all_cons]
  cases hn : Zp y
  ·have he : ZJ y=10:=by unfold ZJ;rw [hn];rfl
   rw [he] at e1
   refine QE ?_
   rw [ZI]
   unfold Jb.l2
   rw [Za Zm,Zb,if_pos (by simpa using hlt),Za x1,Za x2,Za e1,Za Zq,Zb,if_pos (by simp)]
   rfl
  ·have he : ZJ y=0:=Zdd.2 hn
   rw [he] at e1
   rw [Bool.true_and]
   refine (Zy ?_).trans (Ztp hl hs t (j+1) (by omega) (by omega))
   rw [ZI]
   unfold Jb.l2
   rw [Za Zm,Zb,if_pos (by simpa using hlt),Za x1,Za x2,Za e1,Za Zq,Zb,if_neg (by simp),Za ZB,Qg (by omega)]
   rfl
theorem Ztg (hn : us.length≤1000) (hl : gs.length≤1000000) (hA : Qh X sl us) (hs : Sl X gv (gs.map strv)) : ∃ X',R (n+11) Zc2 [sl,gv] X=some (iv (Zdj us gs),X')∧HLe X X':=by
 obtain ⟨X1,o,e1,k1,h1⟩:=Zuw (n:=n) (gv:=gv) hn hA us.length 0 (.slice none 0 0) [] [] X (by omega) (by omega) (by simp) (.refl _) (by simp) ZA.nil
 rw [List.drop_zero] at h1
 have e1 : Zi (c5 (Jb.l1 (R (n+10)))) [gv,.slice none 0 0,sl,iv us.length,.int .i64 0] X=_:=e1
 have hlen : Zx sl X=some (iv us.length,X):=by have:=hA.1.len (H':=X);rwa [List.length_map] at this
 have f1 : ∀ r X',Jb (R (n+10)) sl gv X=some (r,X')→R (n+11) Zc2 [sl,gv] X=some (r,X'):=fun r X' hr=>by rw [R,Zq7 rfl];exact hr
 refine ⟨X1,f1 _ _ ?_,k1⟩
 unfold Jb Zdj Zjg
 rw [Za hlen]
 by_cases hf : Yu us=0
 ·rw [if_pos hf] at h1
  simp only [if_pos hf]
  obtain ⟨nv,q,rfl,hr⟩:=h1
  rw [List.nil_append] at hr
  have e2 : R (n+10) K1 [nv,iv 12] X1=_:=Znk (n:=n+6) (k:=12) (l:=us.map (·.nm)) (by rw [List.length_map];omega) hr.rd
  have hs1:=hs.mono k1
  have hgl : Zx gv X1=some (iv gs.length,X1):=by have:=hs1.len (H':=X1);simpa using this
  have e3:=Ztp (n:=n+5) hl hs1 gs.length 0 (by omega) (by omega)
  rw [show iv ((0 : Nat) : Int)=.int .i64 0 from rfl,List.drop_zero] at e3
  have e4 : R (n+10) K1 [gv,iv 6] X1=_:=Znk (n:=n+6) (k:=6) hl hs1
  rw [List.length_map] at e2
  rw [ZT e1,ZE,ZX]
  cases hr1 : Kh (us.map (·.nm))
  ·rw [hr1] at e2
   have e2 : R (n+10) K1 [nv,iv 12] X1=some (iv 9,X1):=e2
   rw [Za e2,Za Zq,Zb,if_pos (by simp)]
   rfl
  ·rw [hr1] at e2
   simp only [if_true] at e2 ⊢
   by_cases h12 : 12 < us.length
   ·rw [if_pos h12] at e2 ⊢
    have e2 : R (n+10) K1 [nv,iv 12] X1=some (iv 7,X1):=e2
    rw [Za e2,Za Zq,Zb,if_pos (by simp)]
    rfl
   ·rw [if_neg h12] at e2 ⊢
    have e2 : R (n+10) K1 [nv,iv 12] X1=some (iv 0,X1):=e2
    rw [Za e2,Za Zq,Zb,if_neg (by simp),Za hgl,if_pos rfl]
    cases ha : gs.all Zp
    ·rw [ha] at e3
     rw [JJ e3];rfl
    ·rw [ha] at e3
     rw [ZT e3,ZE,YC,Za e4]
     rfl
 ·rw [if_neg hf] at h1
  simp only [if_neg hf]
  subst h1
  rw [JJ e1]
  rfl
end
end Go.Proofs.YtedkoimihknggaaGreatDoor.A

namespace Go.Proofs.YtedkoimihknggaaGreatDoor.A
set_option linter.unusedVariables false
set_option linter.unusedSimpArgs false
open Go.Proofs Go.Proofs.YtedkoimihknggaaGreatDoor
abbrev nActT : Ty:=.struct (.pair (.int .u8) (.pair .str (.pair .str (.pair .bool .unit))))
structure Zam where
 kd : Nat
 a : Tx
 b : Tx
 is : Bool
abbrev Zam.cells (a : Zam) : List Value:=[.int .u8 a.kd,strv a.a,strv a.b,.bool a.is]
abbrev zNA : Value:=.agg #[.int .u8 0,.string ⟨#[]⟩,.string ⟨#[]⟩,.bool false]
theorem ZBx {x : nActT.den} {H : Zd} {cs : List Value} (hw : nActT.wf x) (h : Rd nActT x H cs) : ∃ a : Zam,cs=a.cells∧a.kd≤255:=by
 obtain ⟨k,s,t,b,u⟩:=x
 obtain ⟨h1,h2,h3,h4,h5⟩:=h
 obtain ⟨w1,_⟩:=hw
 have h1 : cs.take 1=[.int .u8 k]:=h1
 have h2 : (cs.drop 1).take 1=[.string s]:=h2
 have h3 : ((cs.drop 1).drop 1).take 1=[.string t]:=h3
 have h4 : (((cs.drop 1).drop 1).drop 1).take 1=[.bool b]:=h4
 have h5 : (((cs.drop 1).drop 1).drop 1).drop 1=[]:=h5
 match cs,h1,h2,h3,h4,h5 with
 | [c1,c2,c3,c4],h1,h2,h3,h4,_=>
  have w1:=ZCM w1
  have key : ∀ (q : IntKind) (z : Int),0≤z→[Value.int q z]=[Value.int q (z.toNat : Nat)]:=fun q z hz=>by rw [Int.toNat_of_nonneg hz]
  refine ⟨⟨Int.toNat k,ByteArray.data s |>.toList,ByteArray.data t |>.toList,b⟩,?_,?_⟩
  ·have e20 : c2=.string s:=by simpa using h2
   have e30 : c3=.string t:=by simpa using h3
   have e40 : c4=.bool b:=by simpa using h4
   have e1 : [c1]=[Value.int .u8 (Int.toNat k : Nat)]:=Eq.trans (by simpa using h1) (key .u8 k w1.1)
   have e1 : c1=Value.int .u8 (Int.toNat k : Nat):=by simpa using e1
   have e2 : c2=strv (ByteArray.data s).toList:=e20.trans (ZvV s)
   have e3 : c3=strv (ByteArray.data t).toList:=e30.trans (ZvV t)
   rw [e1,e2,e3,e40]
  ·have : ∀ z : Int,0≤z∧z≤255→z.toNat≤255:=fun z hz=>by omega
   exact this k w1
def Zdt (H : Zd) (sl : Value) (ac : List Zam) : Prop:=SlN 4 H sl (ac.map Zam.cells)∧∀ a∈ac,a.kd≤255
theorem ZzE {x : (Ty.slc nActT).den} {H : Zd} {v : Value} (hwf : (Ty.slc nActT).wf x) (h : Rd (.slc nActT) x H [v]) : ∃ ac,Zdt H v ac∧ac.length≤9223372036854775807:=by
 obtain ⟨rows,h1,h2,h3,h4⟩:=ZAV hwf h
 obtain ⟨ac,h5,h6⟩:=Zpd (f:=Zam.cells) (Q:=fun _ a=>a.kd≤255) (rows:=rows) fun r hr=>by
  obtain ⟨y,hy,hr⟩:=h2 r hr
  exact ZBx hy hr
 subst h5
 exact ⟨ac,⟨h1,h6⟩,by simpa using h3⟩
section
variable {H H' X X' : Zd} {sl : Value} {ac : List Zam} {n d c : Nat} {s : NSt} {r : NR} {m : Tx}
theorem Zdt.len (h : Zdt H sl ac) : Zx sl H'=some (iv ac.length,H'):=by
 have:=h.1.len (H':=H')
 rwa [List.length_map] at this
theorem Zdt.mono (h : Zdt H sl ac) (hl : HLe H H') : Zdt H' sl ac:=⟨h.1.mono hl,h.2⟩
theorem Zdt.fetch {β : Type} {k : Value→M β} (h : Zdt H sl ac) {j : Nat} {a : Zam} (hj : ac[j]?=some a) :
  bind (ixa 4 sl (iv j)) (fun p=>bind (ldA 4 p) fun v=>bind (alc 1 zNA) fun q=>bind (stA 4 q v) fun _=>k q) H=k (pt H.length) (H++[.cells a.cells 1 false false]):=by
 have hr : (ac.map Zam.cells)[j]?=some a.cells:=by rw [List.getElem?_map,hj];rfl
 rw [h.1.fetch hr (by omega) .i64]
 exact WZ (n:=4) (zs:=[.int .u8 0,.string ⟨#[]⟩,.string ⟨#[]⟩,.bool false]) (r:=a.cells) rfl rfl rfl rfl
def Zot (a : Zam) : Bool:=decide (a.a.length≤50) && decide (a.b.length≤50)
theorem ZvP {H0 : Zd} (h : Zdt H0 sl ac) (hn : ac.length≤9223372036854775807) : ∀ (t j : Nat) {X : Zd},ac.length - j=t→j≤ac.length→HLe H0 X→
  ∃ X',Zi (c4 (WL.l1 (R n))) [sl,sl,iv ac.length,iv j] X=some (if (ac.drop j).all Zot then .ext 0 [sl] else .ret (.bool false),X')∧HLe H0 X'
 | 0,j,X,ht,hj,hle=>by
  have : j=ac.length:=by omega
  subst this
  rw [List.drop_length]
  refine ⟨X,ZK ?_,hle⟩
  rw [ZI]
  unfold WL.l1
  rw [Za Zm,Zb,if_neg (by simp)]
  rfl
 | t+1,j,X,ht,hj,hle=>by
  have hjn : j < ac.length:=by omega
  have hlt : (j : Int) < ac.length:=by omega
  have hja:=List.getElem?_eq_getElem hjn
  have hd:=List.drop_eq_getElem_cons hjn
  generalize ac[j]=a at hja hd
  have g1 : (X++[Ze.cells a.cells 1 false false])[X.length]?=some (.cells a.cells 1 false false):=Zw
  have l1 : ld1 (pa X.length 1) (X++[.cells a.cells 1 false false])=some (strv a.a,X++[.cells a.cells 1 false false]):=Zv g1 rfl
  have l2 : ld1 (pa X.length 2) (X++[.cells a.cells 1 false false])=some (strv a.b,X++[.cells a.cells 1 false false]):=Zv g1 rfl
  have hf:=fun {K : Value→M Out}=>(h.mono hle).fetch (k:=K) hja
  have k1:=hle.trans (HLe.app X [.cells a.cells 1 false false])
  generalize X++[Ze.cells a.cells 1 false false]=X1 at g1 l1 l2 k1 hf
  obtain ⟨X2,e2,k2⟩:=ZvP h hn t (j+1) (by omega) (by omega) k1
  rw [hd,List.all_cons]
  have hb : WL.l1 (R n) sl sl (iv ac.length) (iv j) X=some (if Zot a then .nrm [sl,sl,iv ac.length,iv ((j+1 : Nat) : Int)] else .ret (.bool false),X1):=by
   unfold WL.l1
   rw [Za Zm,Zb,if_pos (by simpa using hlt),hf,Za Ys,Za l1,Za ZP,Za Z0]
   unfold Zot
   by_cases h1 : a.a.length≤50
   ·have h1' : ¬ ((a.a.length : Int) > 50):=by omega
    rw [decide_eq_false h1',ZU,Zk,Za Ys,Zk,Za l2,Zk,Za ZP,Zk,Za Z0,ZV,ZI,Za Zl,decide_eq_true h1]
    simp only [cond_false]
    by_cases h2 : a.b.length≤50
    ·have h2' : ¬ ((a.b.length : Int) > 50):=by omega
     rw [decide_eq_false h2',Zb,if_neg (by simp),Za ZB,Qg (by omega),decide_eq_true h2]
     rfl
    ·have h2' : ((a.b.length : Int) > 50):=by omega
     rw [decide_eq_true h2',Zb,if_pos rfl,decide_eq_false h2]
     rfl
   ·have h1' : ((a.a.length : Int) > 50):=by omega
    rw [decide_eq_true h1',Za (g_r.trans (if_neg (by simp)))]
    simp only [List.replicate]
    rw [ZI,Za Zl]
    simp only [cond_true]
    rw [Zb,if_pos rfl,decide_eq_false h1]
    rfl
  cases hfa : Zot a
  ·rw [hfa] at hb
   exact ⟨X1,QE hb,k1⟩
  ·rw [hfa] at hb
   exact ⟨X2,(Zy hb).trans e2,k2⟩
theorem ZB9 (h : Zdt H sl ac) (hn : ac.length≤9223372036854775807) : ∃ H',R (n+1) Zbt [sl] H=some (.bool (ac.all Zot && decide (ac.length≤60)),H')∧HLe H H':=by
 obtain ⟨H',e,k⟩:=ZvP (n:=n) h hn ac.length 0 (by omega) (by omega) (.refl _)
 rw [List.drop_zero] at e
 have e : Zi (c4 (WL.l1 (R n))) [sl,sl,iv ac.length,.int .i64 0] H=_:=e
 refine ⟨H',?_,k⟩
 rw [R,ZuL rfl]
 unfold WL
 rw [Za h.len]
 cases hf : ac.all Zot
 ·rw [hf] at e
  rw [JJ e];rfl
 ·rw [hf] at e
  rw [ZT e,ZE,YC,Za h.len,Za Je]
  simp [ret,decide_eq_decide]
  omega
end
end Go.Proofs.YtedkoimihknggaaGreatDoor.A
namespace Go.Proofs.YtedkoimihknggaaGreatDoor.A
set_option linter.unusedVariables false
set_option linter.unusedSimpArgs false
open Go.Proofs Go.Proofs.YtedkoimihknggaaGreatDoor
def YK (u : Zam) (s : NSt) : NSt:=
 match u.kd % 11 with
 | 0=>KR u.a u.b s
 | 1=>Ke u.a s
 | 2=>YL u.a u.b s
 | 3=>Jc u.a u.b s
 | 4=>Yo u.a u.is s
 | 5=>Wh u.a u.b s
 | 6=>Zi2 u.a s
 | 7=>ZfM u.a s
 | 8=>ZaZ u.a u.b s
 | 9=>Wy u.a u.b s
 | _=>s
section
variable {X X' Y Y1 Y2 Y3 H0 : Zd} {n d c c' b1 b2 b3 : Nat} {r r' : NR} {uv gv uv' gv' v : Value} {s s' : NSt} {u : Zam} {e : Int}
theorem RD.setB {b : Nat} {c1 c2 d1 d2 : Value} (h : RD Y uv gv s) (hb : Y[b]?=some (.cells [c1,c2] 1 false false)) (i1 : Wr c1) (i2 : Wr c2) : RD (Y.set b (.cells [d1,d2] 1 false false)) uv gv s:=
 ⟨h.ex.imp fun us ⟨a,b⟩=>⟨a.setD hb i1 i2,b⟩,h.n.imp fun q ⟨N,a,b⟩=>⟨N,a.setD hb i1 i2,b⟩⟩
structure Zfx (X X' : Zd) (d : Nat) (r r' : NR) (s' : NSt) (uv' gv' : Value) (c : Nat) : Prop where
 nd : ND X' d r' s' (c+1)
 rd : RD X' uv' gv' s'
 st : ZC r.own X r'.own X'
structure DoB (X Y : Zd) (b1 b2 b3 : Nat) (u : Zam) (uv gv : Value) : Prop where
 le : HLe X Y
 h1 : Y[b1]?=some (.cells [uv,gv] 1 false false)
 h2 : Y[b2]?=some (.cells u.cells 1 false false)
 h3 : Y[b3]?=some (.cells [.slice none 0 0,.slice none 0 0] 1 false false)
 b : X.length≤b1∧b1 < b2∧b2 < b3
theorem Zdf (hR : RD X uv gv s) : ∃ b1 b2 b3 Y,(∀ {β : Type} (K : Value→Value→Value→Value→M β),bind (alc 1 (.agg #[uv,gv])) (fun v4=>bind (alc 1 (.agg u.cells.toArray)) fun v5=>bind (alc 1 zD) fun v6=>bind (fa 0 v5) fun v11=>bind (ld1 v11) fun v12=>bind (bop .int .rem v12 (Value.int .u8 11)) fun v13=>K v4 v5 v6 v13) X=K (pt b1) (pt b2) (pt b3) (.int .u8 ((u.kd % 11 : Nat) : Int)) Y)∧DoB X Y b1 b2 b3 u uv gv:=by
 have z1 : alc 1 (.agg #[uv,gv]) X=some (pt X.length,X++[.cells [uv,gv] 1 false false]):=Wd (vs:=[uv,gv]) (by simp only [List.all_cons,hR.oneU,hR.oneG];rfl)
 have k1 : HLe X (X++[Ze.cells [uv,gv] 1 false false]):=.app _ _
 have c1 : (X++[Ze.cells [uv,gv] 1 false false])[X.length]?=some (.cells [uv,gv] 1 false false):=Zw
 generalize X++[Ze.cells [uv,gv] 1 false false]=X1 at z1 k1 c1
 have z2 : alc 1 (.agg u.cells.toArray) X1=some (pt X1.length,X1++[.cells u.cells 1 false false]):=Wd (vs:=u.cells) rfl
 have k2 : HLe X1 (X1++[Ze.cells u.cells 1 false false]):=.app _ _
 have c2 : (X1++[Ze.cells u.cells 1 false false])[X1.length]?=some (.cells u.cells 1 false false):=Zw
 generalize X1++[Ze.cells u.cells 1 false false]=X2 at z2 k2 c2
 have z3 : alc 1 zD X2=some (pt X2.length,X2++[.cells [.slice none 0 0,.slice none 0 0] 1 false false]):=Wd (vs:=[.slice none 0 0,.slice none 0 0]) rfl
 have k3 : HLe X2 (X2++[Ze.cells [.slice none 0 0,.slice none 0 0] 1 false false]):=.app _ _
 have c3 : (X2++[Ze.cells [.slice none 0 0,.slice none 0 0] 1 false false])[X2.length]?=some (.cells [.slice none 0 0,.slice none 0 0] 1 false false):=Zw
 generalize X2++[Ze.cells [.slice none 0 0,.slice none 0 0] 1 false false]=X3 at z3 k3 c3
 have a0 : ld1 (pa X1.length 0) X3=some (.int .u8 u.kd,X3):=Zv (k3 _ _ c2) rfl
 have hmod : (u.kd : Int).tmod 11=((u.kd % 11 : Nat) : Int):=by rw [Int.tmod_eq_emod_of_nonneg (by omega)];omega
 have x0 : bop .int .rem (.int .u8 u.kd) (.int .u8 11) X3=some (.int .u8 ((u.kd % 11 : Nat) : Int),X3):=by rw [JZ,if_neg (by omega),hmod]
 refine ⟨X.length,X1.length,X2.length,X3,fun {β} K=>by rw [Za z1,Za z2,Za z3,Za Zh,Za a0,Za x0],(k1.trans k2).trans k3,k3 _ _ (k2 _ _ c1),k3 _ _ c2,c3,Nat.le_refl _,QD c1,QD c2⟩
theorem ZdS (hd : ND X d r s c) (hR : RD X uv gv s) (hB : DoB X Y b1 b2 b3 u uv gv) (hl : HLe Y Y1) (rd : RD Y1 uv' gv' s') : ∃ Y2,stA 2 (pt b1) (.agg #[uv',gv']) Y1=some (undef,Y2)∧ND Y2 d r s c∧RD Y2 uv' gv' s'∧Y2[b1]?=some (.cells [uv',gv'] 1 false false)∧Y2[b2]?=some (.cells u.cells 1 false false)∧Y2[b3]?=some (.cells [.slice none 0 0,.slice none 0 0] 1 false false)∧HLe X Y2:=by
 obtain ⟨hb1,hb2,hb3⟩:=hB.b
 have g1:=hl _ _ hB.h1
 obtain ⟨iu,ig⟩:=hR.isSl
 have hal : ([uv',gv'].all oneCell)=true:=by simp only [List.all_cons,rd.oneU,rd.oneG];rfl
 have w1:=Kv (vs:=[uv',gv']) (n:=2) g1 rfl rfl hal
 exact ⟨Y1.set b1 (.cells [uv',gv'] 1 false false),w1,⟨hd.toND0.box (hB.le.trans hl) hb1,hd.inv⟩,rd.setB g1 iu ig,ZM g1,(List.getElem?_set_ne (by omega)).trans (hl _ _ hB.h2),(List.getElem?_set_ne (by omega)).trans (hl _ _ hB.h3),(hB.le.trans hl).putB hb1⟩
theorem Zda (hd : ND0 X d r s c) (hl : HLe X Y2) (rd : RD Y2 uv' gv' s') (c1 : Y2[b1]?=some (.cells [uv',gv'] 1 false false)) (c3 : Y2[b3]?=some (.cells [.slice none 0 0,.slice none 0 0] 1 false false)) (hb : X.length≤b1∧b1 < b2∧b2 < b3) (hd2 : ND0 Y2 d r s c) (hst : ZC r.own Y2 r'.own Y3) (hd3 : ND Y3 d r' s' (c+1)) :
  ∃ X',(c4 fun q160_0 q160_1 q160_2 q160_3=>
   bind (ldA 2 q160_0) fun v184x161=>
   bind (bop .int .eql q160_2 q160_3) fun v187x162=>
   bind (stA 2 q160_1 v184x161) fun _=>
   bind (ldA 2 q160_1) fun vrx163=>
   ret (Value.tuple #[vrx163,v187x162])) [pt b1,pt b3,iv e,iv e] Y3=some (.tuple #[.agg #[uv',gv'],.bool true],X')∧Zfx X X' d r r' s' uv' gv' c:=by
 have hc:=hd2.cle hst
 have c1':=hc _ _ _ _ _ c1
 have c3':=hc _ _ _ _ _ c3
 have rd3:=rd.cle hc
 have hal : ([uv',gv'].all oneCell)=true:=by simp only [List.all_cons,rd.oneU,rd.oneG];rfl
 have d1 : ldA 2 (pt b1) Y3=some (.agg #[uv',gv'],Y3):=ZR (n:=2) c1' rfl
 have q : bop .int .eql (iv e) (iv e) Y3=some (.bool true,Y3):=by rw [ZD];simp
 have w1:=Kv (vs:=[uv',gv']) (n:=2) c3' rfl rfl hal
 have w1 : stA 2 (pt b3) (.agg #[uv',gv']) Y3=_:=w1
 have d2 : ldA 2 (pt b3) (Y3.set b3 (.cells [uv',gv'] 1 false false))=some (.agg #[uv',gv'],_):=ZR (n:=2) (ZM c3') rfl
 have hs : ZC r.own X r'.own Y3:=hl.stepq.trans hst
 refine ⟨Y3.set b3 (.cells [uv',gv'] 1 false false),by rw [ZI,Za d1,Za q,Za w1,Za d2];rfl,?_,rd3.setB c3' Za4 Za4,?_⟩
 ·refine hd3.step (o1:=[b3]) (o2:=[b3]) ⟨by simp,fun i hi hn=>List.getElem?_set_ne (fun e=>hn (by simp [e])),fun i hi=>.inl hi⟩ ?_ ?_ ?_ ?_
  ·rw [List.mem_singleton]
   intro e
   have:=hd.dlt
   omega
  ·rw [List.mem_singleton]
   intro e
   have h:=hd3.ix.c
   rw [e,c3'] at h
   cases h
  ·rw [List.mem_singleton]
   intro e
   have h:=hd3.gr.cell
   rw [e,c3'] at h
   cases h
  ·intro j hj hm
   rw [List.mem_singleton] at hm
   subst hm
   exact (hd3.isMap hj).2 _ _ _ _ c3'
 ·exact ⟨by rw [List.length_set];exact hs.len,fun j hj hn=>(List.getElem?_set_ne (by omega)).trans (hs.keep j hj hn),hs.own⟩
theorem ZS {a b f g : Value} {m : M Out} (h : m Y=some (.nrm [a,b,f,g],X')) : jn m (c4 fun q0 q1 q2 q3=>ret (.nrm [q0,q1,q2,q3])) noX Z5 Y=some (.nrm [a,b,f,g],X'):=
 (ZZ h).trans rfl
theorem ND.more (hd : ND X d r s c) (h : c≤c') : ND X d r s c':=⟨hd.toND0.more h,hd.inv⟩
theorem ZxX (hd : ND X d r s c) (hR : RD X uv gv s) (hk : u.kd % 11=0) : ∃ X' r' uv' gv',R (n+12) JP [pt d,.agg #[uv,gv],.agg u.cells.toArray] X=some (.tuple #[.agg #[uv',gv'],.bool true],X')∧Zfx X X' d r r' (YK u s) uv' gv' c:=by
 obtain ⟨b1,b2,b3,Y,z,hB⟩:=Zdf (u:=u) hR
 obtain ⟨Y1,uv',e1,rd1,l1⟩:=Zu1 (n:=n+5) (k:=u.a) (h:=u.b) (hR.hle hB.le) hd.pinv
 have e1 : R (n+11) Zcr [.agg #[uv,gv],strv u.a,strv u.b] Y=_:=e1
 obtain ⟨Y2,w1,hd2,rd2,c1,c2,c3,l2⟩:=ZdS hd hR hB l1 rd1
 obtain ⟨Y3,e2,hd3,st3⟩:=Zr3 (n:=n+1) (k:=u.a) (h:=u.b) hd2
 have e2 : R (n+11) Kc [pt d,strv u.a,strv u.b] Y2=_:=e2
 obtain ⟨X',e3,hA⟩:=Zda (e:=Q5 u.a u.b s.A) hd.toND0 l2 rd2 c1 c3 hB.b hd2.toND0 st3 (hd3.more (by omega))
 have hn : YK u s=KR u.a u.b s:=by unfold YK;rw [hk];first | done | rfl
 rw [hn]
 refine ⟨X',r,uv',gv,?_,hA⟩
 have dA : ldA 2 (pt b1) Y=some (.agg #[uv,gv],Y):=ZR (n:=2) hB.h1 rfl
 have ya : ld1 (pa b2 1) Y=some (strv u.a,Y):=Zv hB.h2 rfl
 have xa : ld1 (pa b2 1) Y2=some (strv u.a,Y2):=Zv c2 rfl
 have yb : ld1 (pa b2 2) Y=some (strv u.b,Y):=Zv hB.h2 rfl
 have xb : ld1 (pa b2 2) Y2=some (strv u.b,Y2):=Zv c2 rfl
 have q : ∀ j : Int,bop .int .eql (.int .u8 ((0 : Nat) : Int)) (.int .u8 j) Y=some (.bool (decide (((0 : Nat) : Int)=j)),Y):=fun j=>by rw [ZD];rfl
 rw [R,Kw rfl]
 unfold KV
 refine (z _).trans ?_
 rw [hk,Za (q 0)]
 refine (ZZ (vs:=[pt b1,pt b3,iv (Q5 u.a u.b s.A),iv (Q5 u.a u.b s.A)]) (H':=Y3) ?_).trans e3
 rw [Zb,if_pos (by decide),Za dA,Za Zh,Za ya,Za Zh,Za yb,Za e1,Za Zr,Za Zs,Za w1,Za Zh,Za xa,Za Zh,Za xb,Za e2]
 rfl
theorem Zyq (hd : ND X d r s c) (hR : RD X uv gv s) (hk : u.kd % 11=1) : ∃ X' r' uv' gv',R (n+12) JP [pt d,.agg #[uv,gv],.agg u.cells.toArray] X=some (.tuple #[.agg #[uv',gv'],.bool true],X')∧Zfx X X' d r r' (YK u s) uv' gv' c:=by
 obtain ⟨b1,b2,b3,Y,z,hB⟩:=Zdf (u:=u) hR
 obtain ⟨Y1,uv',e1,rd1,l1⟩:=Zvt (n:=n+5) (k:=u.a) (hR.hle hB.le) hd.pinv
 have e1 : R (n+11) Zcx [.agg #[uv,gv],strv u.a] Y=_:=e1
 obtain ⟨Y2,w1,hd2,rd2,c1,c2,c3,l2⟩:=ZdS hd hR hB l1 rd1
 obtain ⟨Y3,e2,hd3,st3⟩:=Zry (n:=n+1) (k:=u.a) hd2
 have e2 : R (n+11) Y9 [pt d,strv u.a] Y2=_:=e2
 obtain ⟨X',e3,hA⟩:=Zda (e:=Zu u.a s.A) hd.toND0 l2 rd2 c1 c3 hB.b hd2.toND0 st3 (hd3.more (by omega))
 have hn : YK u s=Ke u.a s:=by unfold YK;rw [hk];first | done | rfl
 rw [hn]
 refine ⟨X',r,uv',gv,?_,hA⟩
 have dA : ldA 2 (pt b1) Y=some (.agg #[uv,gv],Y):=ZR (n:=2) hB.h1 rfl
 have ya : ld1 (pa b2 1) Y=some (strv u.a,Y):=Zv hB.h2 rfl
 have xa : ld1 (pa b2 1) Y2=some (strv u.a,Y2):=Zv c2 rfl
 have q : ∀ j : Int,bop .int .eql (.int .u8 ((1 : Nat) : Int)) (.int .u8 j) Y=some (.bool (decide (((1 : Nat) : Int)=j)),Y):=fun j=>by rw [ZD];rfl
 rw [R,Kw rfl]
 unfold KV
 refine (z _).trans ?_
 rw [hk,Za (q 0)]
 refine (ZZ (vs:=[pt b1,pt b3,iv (Zu u.a s.A),iv (Zu u.a s.A)]) (H':=Y3) ?_).trans e3
 rw [Zb,if_neg (by decide),Za (q 1)]
 refine ZS ?_
 rw [Zb,if_pos (by decide),Za dA,Za Zh,Za ya,Za e1,Za Zr,Za Zs,Za w1,Za Zh,Za xa,Za e2]
 rfl
theorem ZwN (hd : ND X d r s c) (hR : RD X uv gv s) (hk : u.kd % 11=2) : ∃ X' r' uv' gv',R (n+12) JP [pt d,.agg #[uv,gv],.agg u.cells.toArray] X=some (.tuple #[.agg #[uv',gv'],.bool true],X')∧Zfx X X' d r r' (YK u s) uv' gv' c:=by
 obtain ⟨b1,b2,b3,Y,z,hB⟩:=Zdf (u:=u) hR
 obtain ⟨Y1,uv',e1,rd1,l1⟩:=Zuc (n:=n+5) (k:=u.a) (h:=u.b) (hR.hle hB.le) hd.pinv
 have e1 : R (n+11) Zaz [.agg #[uv,gv],strv u.a,strv u.b] Y=_:=e1
 obtain ⟨Y2,w1,hd2,rd2,c1,c2,c3,l2⟩:=ZdS hd hR hB l1 rd1
 obtain ⟨Y3,e2,hd3,st3⟩:=ZwF (n:=n+1) (k:=u.a) (h:=u.b) hd2
 have e2 : R (n+11) Wg [pt d,strv u.a,strv u.b] Y2=_:=e2
 obtain ⟨X',e3,hA⟩:=Zda (e:=QL u.a u.b s.A) hd.toND0 l2 rd2 c1 c3 hB.b hd2.toND0 st3 (hd3.more (by omega))
 have hn : YK u s=YL u.a u.b s:=by unfold YK;rw [hk];first | done | rfl
 rw [hn]
 refine ⟨X',r,uv',gv,?_,hA⟩
 have dA : ldA 2 (pt b1) Y=some (.agg #[uv,gv],Y):=ZR (n:=2) hB.h1 rfl
 have ya : ld1 (pa b2 1) Y=some (strv u.a,Y):=Zv hB.h2 rfl
 have xa : ld1 (pa b2 1) Y2=some (strv u.a,Y2):=Zv c2 rfl
 have yb : ld1 (pa b2 2) Y=some (strv u.b,Y):=Zv hB.h2 rfl
 have xb : ld1 (pa b2 2) Y2=some (strv u.b,Y2):=Zv c2 rfl
 have q : ∀ j : Int,bop .int .eql (.int .u8 ((2 : Nat) : Int)) (.int .u8 j) Y=some (.bool (decide (((2 : Nat) : Int)=j)),Y):=fun j=>by rw [ZD];rfl
 rw [R,Kw rfl]
 unfold KV
 refine (z _).trans ?_
 rw [hk,Za (q 0)]
 refine (ZZ (vs:=[pt b1,pt b3,iv (QL u.a u.b s.A),iv (QL u.a u.b s.A)]) (H':=Y3) ?_).trans e3
 rw [Zb,if_neg (by decide),Za (q 1)]
 refine ZS ?_
 rw [Zb,if_neg (by decide),Za (q 2)]
 refine ZS ?_
 rw [Zb,if_pos (by decide),Za dA,Za Zh,Za ya,Za Zh,Za yb,Za e1,Za Zr,Za Zs,Za w1,Za Zh,Za xa,Za Zh,Za xb,Za e2]
 rfl
theorem Zw1 (hd : ND X d r s c) (hR : RD X uv gv s) (hk : u.kd % 11=3) : ∃ X' r' uv' gv',R (n+12) JP [pt d,.agg #[uv,gv],.agg u.cells.toArray] X=some (.tuple #[.agg #[uv',gv'],.bool true],X')∧Zfx X X' d r r' (YK u s) uv' gv' c:=by
 obtain ⟨b1,b2,b3,Y,z,hB⟩:=Zdf (u:=u) hR
 obtain ⟨Y1,uv',e1,rd1,l1⟩:=Ztq (n:=n+5) (k:=u.a) (m:=u.b) (hR.hle hB.le) hd.pinv
 have e1 : R (n+11) ZaD [.agg #[uv,gv],strv u.a,strv u.b] Y=_:=e1
 obtain ⟨Y2,w1,hd2,rd2,c1,c2,c3,l2⟩:=ZdS hd hR hB l1 rd1
 obtain ⟨Y3,e2,hd3,st3⟩:=ZoT (n:=n+1) (k:=u.a) (m:=u.b) hd2
 have e2 : R (n+11) YH [pt d,strv u.a,strv u.b] Y2=_:=e2
 obtain ⟨X',e3,hA⟩:=Zda (e:=Q3 u.a u.b s) hd.toND0 l2 rd2 c1 c3 hB.b hd2.toND0 st3 (hd3.more (by omega))
 have hn : YK u s=Jc u.a u.b s:=by unfold YK;rw [hk];first | done | rfl
 rw [hn]
 refine ⟨X',r,uv',gv,?_,hA⟩
 have dA : ldA 2 (pt b1) Y=some (.agg #[uv,gv],Y):=ZR (n:=2) hB.h1 rfl
 have ya : ld1 (pa b2 1) Y=some (strv u.a,Y):=Zv hB.h2 rfl
 have xa : ld1 (pa b2 1) Y2=some (strv u.a,Y2):=Zv c2 rfl
 have yb : ld1 (pa b2 2) Y=some (strv u.b,Y):=Zv hB.h2 rfl
 have xb : ld1 (pa b2 2) Y2=some (strv u.b,Y2):=Zv c2 rfl
 have q : ∀ j : Int,bop .int .eql (.int .u8 ((3 : Nat) : Int)) (.int .u8 j) Y=some (.bool (decide (((3 : Nat) : Int)=j)),Y):=fun j=>by rw [ZD];rfl
 rw [R,Kw rfl]
 unfold KV
 refine (z _).trans ?_
 rw [hk,Za (q 0)]
 refine (ZZ (vs:=[pt b1,pt b3,iv (Q3 u.a u.b s),iv (Q3 u.a u.b s)]) (H':=Y3) ?_).trans e3
 rw [Zb,if_neg (by decide),Za (q 1)]
 refine ZS ?_
 rw [Zb,if_neg (by decide),Za (q 2)]
 refine ZS ?_
 rw [Zb,if_neg (by decide),Za (q 3)]
 refine ZS ?_
 rw [Zb,if_pos (by decide),Za dA,Za Zh,Za ya,Za Zh,Za yb,Za e1,Za Zr,Za Zs,Za w1,Za Zh,Za xa,Za Zh,Za xb,Za e2]
 rfl
theorem Zxo (hd : ND X d r s c) (hR : RD X uv gv s) (hk : u.kd % 11=4) : ∃ X' r' uv' gv',R (n+12) JP [pt d,.agg #[uv,gv],.agg u.cells.toArray] X=some (.tuple #[.agg #[uv',gv'],.bool true],X')∧Zfx X X' d r r' (YK u s) uv' gv' c:=by
 obtain ⟨b1,b2,b3,Y,z,hB⟩:=Zdf (u:=u) hR
 obtain ⟨Y1,uv',e1,rd1,l1⟩:=ZtI (n:=n+5) (k:=u.a) (b:=u.is) (hR.hle hB.le) hd.pinv
 have e1 : R (n+11) ZaE [.agg #[uv,gv],strv u.a,.bool u.is] Y=_:=e1
 obtain ⟨Y2,w1,hd2,rd2,c1,c2,c3,l2⟩:=ZdS hd hR hB l1 rd1
 obtain ⟨Y3,e2,hd3,st3⟩:=Zxx (n:=n+1) (k:=u.a) (b:=u.is) hd2
 have e2 : R (n+11) Wk [pt d,strv u.a,.bool u.is] Y2=_:=e2
 obtain ⟨X',e3,hA⟩:=Zda (e:=Yb u.a u.is s.A) hd.toND0 l2 rd2 c1 c3 hB.b hd2.toND0 st3 (hd3.more (by omega))
 have hn : YK u s=Yo u.a u.is s:=by unfold YK;rw [hk];first | done | rfl
 rw [hn]
 refine ⟨X',r,uv',gv,?_,hA⟩
 have dA : ldA 2 (pt b1) Y=some (.agg #[uv,gv],Y):=ZR (n:=2) hB.h1 rfl
 have ya : ld1 (pa b2 1) Y=some (strv u.a,Y):=Zv hB.h2 rfl
 have xa : ld1 (pa b2 1) Y2=some (strv u.a,Y2):=Zv c2 rfl
 have yis : ld1 (pa b2 3) Y=some (.bool u.is,Y):=Zv hB.h2 rfl
 have xis : ld1 (pa b2 3) Y2=some (.bool u.is,Y2):=Zv c2 rfl
 have q : ∀ j : Int,bop .int .eql (.int .u8 ((4 : Nat) : Int)) (.int .u8 j) Y=some (.bool (decide (((4 : Nat) : Int)=j)),Y):=fun j=>by rw [ZD];rfl
 rw [R,Kw rfl]
 unfold KV
 refine (z _).trans ?_
 rw [hk,Za (q 0)]
 refine (ZZ (vs:=[pt b1,pt b3,iv (Yb u.a u.is s.A),iv (Yb u.a u.is s.A)]) (H':=Y3) ?_).trans e3
 rw [Zb,if_neg (by decide),Za (q 1)]
 refine ZS ?_
 rw [Zb,if_neg (by decide),Za (q 2)]
 refine ZS ?_
 rw [Zb,if_neg (by decide),Za (q 3)]
 refine ZS ?_
 rw [Zb,if_neg (by decide),Za (q 4)]
 refine ZS ?_
 rw [Zb,if_pos (by decide),Za dA,Za Zh,Za ya,Za Zh,Za yis,Za e1,Za Zr,Za Zs,Za w1,Za Zh,Za xa,Za Zh,Za xis,Za e2]
 rfl
theorem ZxW (hd : ND X d r s c) (hR : RD X uv gv s) (hk : u.kd % 11=5) : ∃ X' r' uv' gv',R (n+12) JP [pt d,.agg #[uv,gv],.agg u.cells.toArray] X=some (.tuple #[.agg #[uv',gv'],.bool true],X')∧Zfx X X' d r r' (YK u s) uv' gv' c:=by
 obtain ⟨b1,b2,b3,Y,z,hB⟩:=Zdf (u:=u) hR
 obtain ⟨Y1,uv',e1,rd1,l1⟩:=Zvg (n:=n+5) (o:=u.a) (t:=u.b) (hR.hle hB.le) hd.pinv
 have e1 : R (n+11) Zbd [.agg #[uv,gv],strv u.a,strv u.b] Y=_:=e1
 obtain ⟨Y2,w1,hd2,rd2,c1,c2,c3,l2⟩:=ZdS hd hR hB l1 rd1
 obtain ⟨Y3,e2,hd3,st3⟩:=ZyC (n:=n+1) (o:=u.a) (t:=u.b) hd2
 have e2 : R (n+11) WB [pt d,strv u.a,strv u.b] Y2=_:=e2
 obtain ⟨X',e3,hA⟩:=Zda (e:=J1 u.a u.b s.A) hd.toND0 l2 rd2 c1 c3 hB.b hd2.toND0 st3 (hd3.more (by omega))
 have hn : YK u s=Wh u.a u.b s:=by unfold YK;rw [hk];first | done | rfl
 rw [hn]
 refine ⟨X',r,uv',gv,?_,hA⟩
 have dA : ldA 2 (pt b1) Y=some (.agg #[uv,gv],Y):=ZR (n:=2) hB.h1 rfl
 have ya : ld1 (pa b2 1) Y=some (strv u.a,Y):=Zv hB.h2 rfl
 have xa : ld1 (pa b2 1) Y2=some (strv u.a,Y2):=Zv c2 rfl
 have yb : ld1 (pa b2 2) Y=some (strv u.b,Y):=Zv hB.h2 rfl
 have xb : ld1 (pa b2 2) Y2=some (strv u.b,Y2):=Zv c2 rfl
 have q : ∀ j : Int,bop .int .eql (.int .u8 ((5 : Nat) : Int)) (.int .u8 j) Y=some (.bool (decide (((5 : Nat) : Int)=j)),Y):=fun j=>by rw [ZD];rfl
 rw [R,Kw rfl]
 unfold KV
 refine (z _).trans ?_
 rw [hk,Za (q 0)]
 refine (ZZ (vs:=[pt b1,pt b3,iv (J1 u.a u.b s.A),iv (J1 u.a u.b s.A)]) (H':=Y3) ?_).trans e3
 rw [Zb,if_neg (by decide),Za (q 1)]
 refine ZS ?_
 rw [Zb,if_neg (by decide),Za (q 2)]
 refine ZS ?_
 rw [Zb,if_neg (by decide),Za (q 3)]
 refine ZS ?_
 rw [Zb,if_neg (by decide),Za (q 4)]
 refine ZS ?_
 rw [Zb,if_neg (by decide),Za (q 5)]
 refine ZS ?_
 rw [Zb,if_pos (by decide),Za dA,Za Zh,Za ya,Za Zh,Za yb,Za e1,Za Zr,Za Zs,Za w1,Za Zh,Za xa,Za Zh,Za xb,Za e2]
 rfl
theorem ZAC (hd : ND X d r s c) (hR : RD X uv gv s) (hk : u.kd % 11=6) : ∃ X' r' uv' gv',R (n+12) JP [pt d,.agg #[uv,gv],.agg u.cells.toArray] X=some (.tuple #[.agg #[uv',gv'],.bool true],X')∧Zfx X X' d r r' (YK u s) uv' gv' c:=by
 obtain ⟨b1,b2,b3,Y,z,hB⟩:=Zdf (u:=u) hR
 obtain ⟨Y1,gv',e1,rd1,l1⟩:=Zyt (n:=n+5) (g:=u.a) (hR.hle hB.le) hd.pinv
 have e1 : R (n+11) ZaW [.agg #[uv,gv],strv u.a] Y=_:=e1
 obtain ⟨Y2,w1,hd2,rd2,c1,c2,c3,l2⟩:=ZdS hd hR hB l1 rd1
 obtain ⟨Y3,r',e2,hd3,st3⟩:=ZAX (n:=n+1) (g:=u.a) hd2
 have e2 : R (n+11) Wu [pt d,strv u.a] Y2=_:=e2
 obtain ⟨X',e3,hA⟩:=Zda (e:=QT u.a s.K) hd.toND0 l2 rd2 c1 c3 hB.b hd2.toND0 st3 (hd3.more (by omega))
 have hn : YK u s=Zi2 u.a s:=by unfold YK;rw [hk];first | done | rfl
 rw [hn]
 refine ⟨X',r',uv,gv',?_,hA⟩
 have dA : ldA 2 (pt b1) Y=some (.agg #[uv,gv],Y):=ZR (n:=2) hB.h1 rfl
 have ya : ld1 (pa b2 1) Y=some (strv u.a,Y):=Zv hB.h2 rfl
 have xa : ld1 (pa b2 1) Y2=some (strv u.a,Y2):=Zv c2 rfl
 have q : ∀ j : Int,bop .int .eql (.int .u8 ((6 : Nat) : Int)) (.int .u8 j) Y=some (.bool (decide (((6 : Nat) : Int)=j)),Y):=fun j=>by rw [ZD];rfl
 rw [R,Kw rfl]
 unfold KV
 refine (z _).trans ?_
 rw [hk,Za (q 0)]
 refine (ZZ (vs:=[pt b1,pt b3,iv (QT u.a s.K),iv (QT u.a s.K)]) (H':=Y3) ?_).trans e3
 rw [Zb,if_neg (by decide),Za (q 1)]
 refine ZS ?_
 rw [Zb,if_neg (by decide),Za (q 2)]
 refine ZS ?_
 rw [Zb,if_neg (by decide),Za (q 3)]
 refine ZS ?_
 rw [Zb,if_neg (by decide),Za (q 4)]
 refine ZS ?_
 rw [Zb,if_neg (by decide),Za (q 5)]
 refine ZS ?_
 rw [Zb,if_neg (by decide),Za (q 6)]
 refine ZS ?_
 rw [Zb,if_pos (by decide),Za dA,Za Zh,Za ya,Za e1,Za Zr,Za Zs,Za w1,Za Zh,Za xa,Za e2]
 rfl
theorem ZAG (hd : ND X d r s c) (hR : RD X uv gv s) (hk : u.kd % 11=7) : ∃ X' r' uv' gv',R (n+12) JP [pt d,.agg #[uv,gv],.agg u.cells.toArray] X=some (.tuple #[.agg #[uv',gv'],.bool true],X')∧Zfx X X' d r r' (YK u s) uv' gv' c:=by
 obtain ⟨b1,b2,b3,Y,z,hB⟩:=Zdf (u:=u) hR
 obtain ⟨Y1,uv',gv',e1,rd1,l1⟩:=ZyJ (n:=n+5) (g:=u.a) (hR.hle hB.le) hd.pinv
 have e1 : R (n+11) WA [.agg #[uv,gv],strv u.a] Y=_:=e1
 obtain ⟨Y2,w1,hd2,rd2,c1,c2,c3,l2⟩:=ZdS hd hR hB l1 rd1
 obtain ⟨Y3,r',e2,hd3,st3⟩:=Zwd (n:=n+1) (g:=u.a) hd2
 have e2 : R (n+11) YJ [pt d,strv u.a] Y2=_:=e2
 obtain ⟨X',e3,hA⟩:=Zda (e:=Q1 u.a s.K) hd.toND0 l2 rd2 c1 c3 hB.b hd2.toND0 st3 (hd3.more (by omega))
 have hn : YK u s=ZfM u.a s:=by unfold YK;rw [hk];first | done | rfl
 rw [hn]
 refine ⟨X',r',uv',gv',?_,hA⟩
 have dA : ldA 2 (pt b1) Y=some (.agg #[uv,gv],Y):=ZR (n:=2) hB.h1 rfl
 have ya : ld1 (pa b2 1) Y=some (strv u.a,Y):=Zv hB.h2 rfl
 have xa : ld1 (pa b2 1) Y2=some (strv u.a,Y2):=Zv c2 rfl
 have q : ∀ j : Int,bop .int .eql (.int .u8 ((7 : Nat) : Int)) (.int .u8 j) Y=some (.bool (decide (((7 : Nat) : Int)=j)),Y):=fun j=>by rw [ZD];rfl
 rw [R,Kw rfl]
 unfold KV
 refine (z _).trans ?_
 rw [hk,Za (q 0)]
 refine (ZZ (vs:=[pt b1,pt b3,iv (Q1 u.a s.K),iv (Q1 u.a s.K)]) (H':=Y3) ?_).trans e3
 rw [Zb,if_neg (by decide),Za (q 1)]
 refine ZS ?_
 rw [Zb,if_neg (by decide),Za (q 2)]
 refine ZS ?_
 rw [Zb,if_neg (by decide),Za (q 3)]
 refine ZS ?_
 rw [Zb,if_neg (by decide),Za (q 4)]
 refine ZS ?_
 rw [Zb,if_neg (by decide),Za (q 5)]
 refine ZS ?_
 rw [Zb,if_neg (by decide),Za (q 6)]
 refine ZS ?_
 rw [Zb,if_neg (by decide),Za (q 7)]
 refine ZS ?_
 rw [Zb,if_pos (by decide),Za dA,Za Zh,Za ya,Za e1,Za Zr,Za Zs,Za w1,Za Zh,Za xa,Za e2]
 rfl
theorem ZBH (hd : ND X d r s c) (hR : RD X uv gv s) (hk : u.kd % 11=8) : ∃ X' r' uv' gv',R (n+12) JP [pt d,.agg #[uv,gv],.agg u.cells.toArray] X=some (.tuple #[.agg #[uv',gv'],.bool true],X')∧Zfx X X' d r r' (YK u s) uv' gv' c:=by
 obtain ⟨b1,b2,b3,Y,z,hB⟩:=Zdf (u:=u) hR
 obtain ⟨Y1,uv',e1,rd1,l1⟩:=ZxU (n:=n+5) (g:=u.a) (k:=u.b) (hR.hle hB.le) hd.pinv
 have e1 : R (n+11) Zcz [.agg #[uv,gv],strv u.a,strv u.b] Y=_:=e1
 obtain ⟨Y2,w1,hd2,rd2,c1,c2,c3,l2⟩:=ZdS hd hR hB l1 rd1
 obtain ⟨Y3,e2,hd3,st3⟩:=ZAK (n:=n) (g:=u.a) (k:=u.b) hd2
 have e2 : R (n+11) Zay [pt d,strv u.a,strv u.b] Y2=_:=e2
 obtain ⟨X',e3,hA⟩:=Zda (e:=Wb u.a u.b s) hd.toND0 l2 rd2 c1 c3 hB.b hd2.toND0 st3 (hd3.more (by omega))
 have hn : YK u s=ZaZ u.a u.b s:=by unfold YK;rw [hk];first | done | rfl
 rw [hn]
 refine ⟨X',r,uv',gv,?_,hA⟩
 have dA : ldA 2 (pt b1) Y=some (.agg #[uv,gv],Y):=ZR (n:=2) hB.h1 rfl
 have ya : ld1 (pa b2 1) Y=some (strv u.a,Y):=Zv hB.h2 rfl
 have xa : ld1 (pa b2 1) Y2=some (strv u.a,Y2):=Zv c2 rfl
 have yb : ld1 (pa b2 2) Y=some (strv u.b,Y):=Zv hB.h2 rfl
 have xb : ld1 (pa b2 2) Y2=some (strv u.b,Y2):=Zv c2 rfl
 have q : ∀ j : Int,bop .int .eql (.int .u8 ((8 : Nat) : Int)) (.int .u8 j) Y=some (.bool (decide (((8 : Nat) : Int)=j)),Y):=fun j=>by rw [ZD];rfl
 rw [R,Kw rfl]
 unfold KV
 refine (z _).trans ?_
 rw [hk,Za (q 0)]
 refine (ZZ (vs:=[pt b1,pt b3,iv (Wb u.a u.b s),iv (Wb u.a u.b s)]) (H':=Y3) ?_).trans e3
 rw [Zb,if_neg (by decide),Za (q 1)]
 refine ZS ?_
 rw [Zb,if_neg (by decide),Za (q 2)]
 refine ZS ?_
 rw [Zb,if_neg (by decide),Za (q 3)]
 refine ZS ?_
 rw [Zb,if_neg (by decide),Za (q 4)]
 refine ZS ?_
 rw [Zb,if_neg (by decide),Za (q 5)]
 refine ZS ?_
 rw [Zb,if_neg (by decide),Za (q 6)]
 refine ZS ?_
 rw [Zb,if_neg (by decide),Za (q 7)]
 refine ZS ?_
 rw [Zb,if_neg (by decide),Za (q 8)]
 refine ZS ?_
 rw [Zb,if_pos (by decide),Za dA,Za Zh,Za ya,Za Zh,Za yb,Za e1,Za Zr,Za Zs,Za w1,Za Zh,Za xa,Za Zh,Za xb,Za e2]
 rfl
theorem ZzC (hd : ND X d r s c) (hR : RD X uv gv s) (hk : u.kd % 11=9) : ∃ X' r' uv' gv',R (n+12) JP [pt d,.agg #[uv,gv],.agg u.cells.toArray] X=some (.tuple #[.agg #[uv',gv'],.bool true],X')∧Zfx X X' d r r' (YK u s) uv' gv' c:=by
 obtain ⟨b1,b2,b3,Y,z,hB⟩:=Zdf (u:=u) hR
 obtain ⟨Y1,uv',e1,rd1,l1⟩:=Zxa (n:=n+5) (g:=u.a) (k:=u.b) (hR.hle hB.le) hd.pinv
 have e1 : R (n+11) ZbP [.agg #[uv,gv],strv u.a,strv u.b] Y=_:=e1
 obtain ⟨Y2,w1,hd2,rd2,c1,c2,c3,l2⟩:=ZdS hd hR hB l1 rd1
 obtain ⟨Y3,e2,hd3,st3⟩:=ZzU (n:=n) (g:=u.a) (k:=u.b) hd2
 have e2 : R (n+11) WY [pt d,strv u.a,strv u.b] Y2=_:=e2
 obtain ⟨X',e3,hA⟩:=Zda (e:=Kq u.a u.b s) hd.toND0 l2 rd2 c1 c3 hB.b hd2.toND0 st3 (hd3.more (by omega))
 have hn : YK u s=Wy u.a u.b s:=by unfold YK;rw [hk];first | done | rfl
 rw [hn]
 refine ⟨X',r,uv',gv,?_,hA⟩
 have dA : ldA 2 (pt b1) Y=some (.agg #[uv,gv],Y):=ZR (n:=2) hB.h1 rfl
 have ya : ld1 (pa b2 1) Y=some (strv u.a,Y):=Zv hB.h2 rfl
 have xa : ld1 (pa b2 1) Y2=some (strv u.a,Y2):=Zv c2 rfl
 have yb : ld1 (pa b2 2) Y=some (strv u.b,Y):=Zv hB.h2 rfl
 have xb : ld1 (pa b2 2) Y2=some (strv u.b,Y2):=Zv c2 rfl
 have q : ∀ j : Int,bop .int .eql (.int .u8 ((9 : Nat) : Int)) (.int .u8 j) Y=some (.bool (decide (((9 : Nat) : Int)=j)),Y):=fun j=>by rw [ZD];rfl
 rw [R,Kw rfl]
 unfold KV
 refine (z _).trans ?_
 rw [hk,Za (q 0)]
 refine (ZZ (vs:=[pt b1,pt b3,iv (Kq u.a u.b s),iv (Kq u.a u.b s)]) (H':=Y3) ?_).trans e3
 rw [Zb,if_neg (by decide),Za (q 1)]
 refine ZS ?_
 rw [Zb,if_neg (by decide),Za (q 2)]
 refine ZS ?_
 rw [Zb,if_neg (by decide),Za (q 3)]
 refine ZS ?_
 rw [Zb,if_neg (by decide),Za (q 4)]
 refine ZS ?_
 rw [Zb,if_neg (by decide),Za (q 5)]
 refine ZS ?_
 rw [Zb,if_neg (by decide),Za (q 6)]
 refine ZS ?_
 rw [Zb,if_neg (by decide),Za (q 7)]
 refine ZS ?_
 rw [Zb,if_neg (by decide),Za (q 8)]
 refine ZS ?_
 rw [Zb,if_neg (by decide),Za (q 9)]
 refine ZS ?_
 rw [Zb,if_pos (by decide),Za dA,Za Zh,Za ya,Za Zh,Za yb,Za e1,Za Zr,Za Zs,Za w1,Za Zh,Za xa,Za Zh,Za xb,Za e2]
 rfl
end
end Go.Proofs.YtedkoimihknggaaGreatDoor.A
namespace Go.Proofs.YtedkoimihknggaaGreatDoor.A
set_option linter.unusedVariables false
set_option linter.unusedSimpArgs false
open Go.Proofs Go.Proofs.YtedkoimihknggaaGreatDoor
section
variable {X X' Y Y1 Y2 Y3 H H0 : Zd} {n d c c' b1 b2 b3 w : Nat} {r r' : NR} {uv gv uv' gv' v sl : Value} {s s' : NSt} {u : Zam} {e : Int} {ac : List Zam}
theorem ZBj (hd : ND X d r s c) (hR : RD X uv gv s) (hk : u.kd % 11=10) : ∃ X' r' uv' gv',R (n+12) JP [pt d,.agg #[uv,gv],.agg u.cells.toArray] X=some (.tuple #[.agg #[uv',gv'],.bool true],X')∧Zfx X X' d r r' (YK u s) uv' gv' c:=by
 obtain ⟨b1,b2,b3,Y,z,hB⟩:=Zdf (u:=u) hR
 have hdY:=hd.hle hB.le
 obtain ⟨Y1,d',r',e1,D1,l1,p1,p2⟩:=ZAz (n:=n+7) hdY
 have e1 : R (n+11) Zb2 [pt d] Y=_:=e1
 obtain ⟨Y2,e2,D2,s2⟩:=Zr3 (n:=n+1) (k:=u.a) (h:=[49]) D1
 have e2 : R (n+11) Kc [pt d',strv u.a,.string ⟨#[49]⟩] Y1=_:=e2
 obtain ⟨Y3,e3,D3,s3⟩:=Zry (n:=n+1) (k:=[97,110,110]) D2
 have e3 : R (n+11) Y9 [pt d',.string ⟨#[97,110,110]⟩] Y2=_:=e3
 obtain ⟨Y4,r'',e4,D4,s4⟩:=Zwd (n:=n+1) (g:=[100,101,118]) D3
 have e4 : R (n+11) YJ [pt d',.string ⟨#[100,101,118]⟩] Y3=_:=e4
 obtain ⟨Y5,e5,D5,s5⟩:=ZoT (n:=n+1) (k:=[98,111,98]) (m:=[113,64,113,46,113]) D4
 have e5 : R (n+11) YH [pt d',.string ⟨#[98,111,98]⟩,.string ⟨#[113,64,113,46,113]⟩] Y4=_:=e5
 have hl5:=(l1.more (((s2.trans s3).trans s4).trans s5) p2).1
 have hX5:=hB.le.trans hl5
 obtain ⟨X',e6,hA⟩:=Zda (e:=0) hd.toND0 hX5 (hR.hle hX5) (hl5 _ _ hB.h1) (hl5 _ _ hB.h3) hB.b (hd.hle hX5).toND0 (HLe.refl Y5).stepq ((hd.hle hX5).more (by omega))
 have hn : YK u s=s:=by unfold YK;rw [hk];first | done | rfl
 rw [hn]
 refine ⟨X',r,uv,gv,?_,hA⟩
 have ya : ld1 (pa b2 1) Y1=some (strv u.a,Y1):=Zv (l1 _ _ hB.h2) rfl
 have q : ∀ j : Int,bop .int .eql (.int .u8 ((10 : Nat) : Int)) (.int .u8 j) Y=some (.bool (decide (((10 : Nat) : Int)=j)),Y):=fun j=>by rw [ZD];rfl
 rw [R,Kw rfl]
 unfold KV
 refine (z _).trans ?_
 rw [hk,Za (q 0)]
 refine (ZZ (vs:=[pt b1,pt b3,iv 0,iv 0]) (H':=Y5) ?_).trans e6
 rw [Zb,if_neg (by decide),Za (q 1)]
 refine ZS ?_
 rw [Zb,if_neg (by decide),Za (q 2)]
 refine ZS ?_
 rw [Zb,if_neg (by decide),Za (q 3)]
 refine ZS ?_
 rw [Zb,if_neg (by decide),Za (q 4)]
 refine ZS ?_
 rw [Zb,if_neg (by decide),Za (q 5)]
 refine ZS ?_
 rw [Zb,if_neg (by decide),Za (q 6)]
 refine ZS ?_
 rw [Zb,if_neg (by decide),Za (q 7)]
 refine ZS ?_
 rw [Zb,if_neg (by decide),Za (q 8)]
 refine ZS ?_
 rw [Zb,if_neg (by decide),Za (q 9)]
 refine ZS ?_
 rw [Zb,if_neg (by decide),Za e1,Za Zh,Za ya,Za e2,Za e3,Za e4,Za e5]
 rfl
theorem ZAu (hd : ND X d r s c) (hR : RD X uv gv s) : ∃ X' r' uv' gv',R (n+12) JP [pt d,.agg #[uv,gv],.agg u.cells.toArray] X=some (.tuple #[.agg #[uv',gv'],.bool true],X')∧Zfx X X' d r r' (YK u s) uv' gv' c:=by
 have h11 : u.kd % 11 < 11:=Nat.mod_lt _ (by decide)
 rcases (by omega : u.kd % 11=0∨u.kd % 11=1∨u.kd % 11=2∨u.kd % 11=3∨u.kd % 11=4∨u.kd % 11=5∨u.kd % 11=6∨u.kd % 11=7∨u.kd % 11=8∨u.kd % 11=9∨u.kd % 11=10) with h | h | h | h | h | h | h | h | h | h | h
 ·exact ZxX hd hR h
 ·exact Zyq hd hR h
 ·exact ZwN hd hR h
 ·exact Zw1 hd hR h
 ·exact Zxo hd hR h
 ·exact ZxW hd hR h
 ·exact ZAC hd hR h
 ·exact ZAG hd hR h
 ·exact ZBH hd hR h
 ·exact ZzC hd hR h
 ·exact ZBj hd hR h
theorem ND.setBox (hd : ND X d r s c) {ob : Ze} (hw : X[w]?=some (.cells [uv,gv] 1 false false)) (iu : Wr uv) (ig : Wr gv) : ND (X.set w ob) d r s c:=by
 obtain ⟨a1,n1,c1,rfl⟩:=iu
 obtain ⟨a2,n2,c2,rfl⟩:=ig
 refine hd.step (o1:=[w]) (o2:=[w]) ⟨by simp,fun i hi hn=>List.getElem?_set_ne (fun e=>hn (by simp [e])),fun i hi=>.inl hi⟩ ?_ ?_ ?_ ?_
 ·rw [List.mem_singleton]
  intro e
  have h:=hd.cell
  rw [e,hw] at h
  cases h
 ·rw [List.mem_singleton]
  intro e
  have h:=hd.ix.c
  rw [e,hw] at h
  cases h
 ·rw [List.mem_singleton]
  intro e
  have h:=hd.gr.cell
  rw [e,hw] at h
  cases h
 ·intro j hj hm
  rw [List.mem_singleton] at hm
  subst hm
  exact (hd.isMap hj).2 _ _ _ _ hw
structure NL (H X : Zd) (d : Nat) (r : NR) (s : NSt) (uv gv : Value) (w c : Nat) : Prop where
 le : HLe H X
 nd : ND X d r s c
 rd : RD X uv gv s
 own : ∀ i∈r.own,H.length≤i
 w : X[w]?=some (.cells [uv,gv] 1 false false)
theorem NL.hle (h : NL H X d r s uv gv w c) (hl : HLe X X') : NL H X' d r s uv gv w c:=⟨h.le.trans hl,h.nd.hle hl,h.rd.hle hl,h.own,hl _ _ h.w⟩
theorem ZCu (hA : Zdt H sl ac) (hw0 : H.length≤w) {j : Nat} (hja : ac[j]?=some u) (h : NL H X d r s uv gv w c) :
  ∃ X' r' uv' gv',(∀ {β : Type} (K : Value→M β),bind (ixa 4 sl (iv j)) (fun p=>bind (ldA 4 p) fun v=>bind (alc 1 zNA) fun q=>bind (stA 4 q v) fun _=>bind (ldA 2 (pt w)) fun v25=>bind (ldA 4 q) fun v26=>bind (R (n+12) JP [pt d,v25,v26]) fun v27=>bind (Zo v27 0) fun v28=>bind (Zo v27 1) fun v29=>bind (stA 2 (pt w) v28) fun _=>K v29) X=K (.bool true) X')∧NL H X' d r' (YK u s) uv' gv' w (c+1):=by
 have g1 : (X++[Ze.cells u.cells 1 false false])[X.length]?=some (.cells u.cells 1 false false):=Zw
 have hf:=fun {β : Type} {K : Value→M β}=>(hA.mono h.le).fetch (k:=K) hja
 have k1 : HLe X (X++[Ze.cells u.cells 1 false false]):=.app _ _
 generalize X++[Ze.cells u.cells 1 false false]=X1 at g1 k1 hf
 have h1:=h.hle k1
 have d1 : ldA 2 (pt w) X1=some (.agg #[uv,gv],X1):=ZR h1.w rfl
 have d2 : ldA 4 (pt X.length) X1=some (.agg u.cells.toArray,X1):=ZR g1 rfl
 obtain ⟨X2,r',uv',gv',e2,hF⟩:=ZAu (n:=n) (u:=u) h1.nd h1.rd
 have hc:=h1.nd.toND0.cle hF.st
 have hw2:=hc _ _ _ _ _ h1.w
 obtain ⟨hm1,hm2⟩:=h1.le.more hF.st h1.own
 obtain ⟨iu,ig⟩:=h1.rd.isSl
 have hal : ([uv',gv'].all oneCell)=true:=by simp only [List.all_cons,hF.rd.oneU,hF.rd.oneG];rfl
 have w1 : stA 2 (pt w) (.agg #[uv',gv']) X2=some (undef,X2.set w (.cells [uv',gv'] 1 false false)):=Kv (vs:=[uv',gv']) hw2 rfl rfl hal
 refine ⟨X2.set w (.cells [uv',gv'] 1 false false),r',uv',gv',fun {β} K=>?_,⟨hm1.setN hw0,hF.nd.setBox hw2 iu ig,hF.rd.setB hw2 iu ig,hm2,ZM hw2⟩⟩
 refine hf.trans ?_
 rw [Za d1,Za d2,Za e2,Za Zr,Za Zs,Za w1]
end
end Go.Proofs.YtedkoimihknggaaGreatDoor.A

namespace Go.Proofs.YtedkoimihknggaaGreatDoor.A
set_option linter.unusedVariables false
set_option linter.unusedSimpArgs false
open Go.Proofs Go.Proofs.YtedkoimihknggaaGreatDoor
section
variable {H : Zd} {n : Nat} {s : List UInt8}
end
end Go.Proofs.YtedkoimihknggaaGreatDoor.A

namespace Go.Proofs.YtedkoimihknggaaGreatDoor.A
set_option linter.unusedVariables false
set_option linter.unusedSimpArgs false
open Go.Proofs Go.Proofs.YtedkoimihknggaaGreatDoor
section
variable {X X' Y H H0 : Zd} {n d c w : Nat} {r : NR} {uv gv sl wv : Value} {s : NSt} {us ws : List Zj} {k m g pre : Tx} {q0 : List Nat}
theorem Zym (hO : ROK s us) (hP : WQ s) (hm : QH m=true) : (us.find? fun u=>u.ml==Qd m).map (·.nm)=Zf (Qd m) s.OW:=by
 have hat : ∀ u∈us,u.ml=Qd m↔Zf (Qd m) s.OW=some u.nm:=fun u hu=>by
  have h1:=hO.at hu
  unfold ZN at h1
  cases ha : Zf u.nm s.A with
  | none=>rw [ha] at h1;cases h1
  | some p=>
   rw [ha] at h1
   have h2 : Qi s u.nm p=ZQ u:=Option.some.inj h1
   have h3 : (Zf u.nm s.OF).getD []=u.ml:=congrArg (·.2.2.1) h2
   rw [← hP.x.inv,← h3]
   cases ho : Zf u.nm s.OF with
   | none=>exact ⟨fun h=>absurd h.symm (Zg4 hm).1,fun h=>by cases h⟩
   | some v=>exact ⟨fun h=>by rw [← h];rfl,fun h=>by cases h;rfl⟩
 cases hf : us.find? fun u=>u.ml==Qd m with
 | some u=>
  have h1:=List.find?_some hf
  have h2:=List.mem_of_find?_eq_some hf
  exact ((hat u h2).1 (by simpa using h1)).symm
 | none=>
  rw [List.find?_eq_none] at hf
  cases hw : Zf (Qd m) s.OW with
  | none=>rfl
  | some x=>
   have h1:=(hP.x.inv _ _).2 hw
   have h2:=hP.i.ofA x (by rw [h1];rfl)
   obtain ⟨p,hp⟩:=Option.isSome_iff_exists.1 h2
   have h3 : ZN s x=some (Qi s x p):=by unfold ZN;rw [hp];rfl
   obtain ⟨u,hu,hk⟩:=KE.1 ((hO.look (Qi s x p)).2 h3)
   have hn : u.nm=x:=congrArg (·.1) hk
   have:=(hat u hu).2 (by rw [hn];exact hw)
   exact absurd (by simpa using this) (hf u hu)
end
end Go.Proofs.YtedkoimihknggaaGreatDoor.A

namespace Go.Proofs.YtedkoimihknggaaGreatDoor.A
set_option linter.unusedVariables false
set_option linter.unusedSimpArgs false
open Go.Proofs Go.Proofs.YtedkoimihknggaaGreatDoor
def W1 (ps : List Tx) (k : Tx) (mem : Mem) : Mem:=fun g n=>mem g n || (decide (g∈ps) && n==k)
section
variable {X X' X0 H H0 : Zd} {n p d b c i : Nat} {r : NR} {s : NSt} {v sl gv ugv zl : Value} {l gs : List Tx} {m k g : Tx} {u : Zj} {us prev : List Zj}
theorem Zr2 {i : Nat} (hg : us[i]?=some u) : us.take (i+1)=us.take i++[u]:=by
 rw [List.take_add_one,hg];rfl
end
end Go.Proofs.YtedkoimihknggaaGreatDoor.A

namespace Go.Proofs.YtedkoimihknggaaGreatDoor.A
set_option linter.unusedVariables false
set_option linter.unusedSimpArgs false
open Go.Proofs Go.Proofs.YtedkoimihknggaaGreatDoor
section
variable {X X' X0 H H0 : Zd} {n p d b c i : Nat} {r : NR} {s : NSt} {v sl gv ugv zl : Value} {l gs : List Tx} {m k g : Tx} {u : Zj} {us prev : List Zj}
def nGs (gs : List Tx) : NSt:=⟨[],[],[],gs,fun _ _=>false⟩
theorem ZAZ (hr : Kh gs=true) (hn : gs.all Zp=true) (h6 : gs.length≤6) {j : Nat} (hg : gs[j]?=some g) : QT g (gs.take j)=0∧ZcP g (gs.take j)=gs.take (j+1):=by
 have hj : j < gs.length:=(List.getElem?_eq_some_iff.1 hg).1
 have hgm:=List.mem_of_getElem? hg
 have h1 : Zp g=true:=List.all_eq_true.1 hn g hgm
 have hd:=List.drop_eq_getElem_cons hj
 have hge : gs[j]=g:=by have:=List.getElem?_eq_getElem hj;rw [hg] at this;exact (Option.some.inj this).symm
 have hp:=Zhd hr
 rw [← List.take_append_drop j gs,List.pairwise_append,hd,hge] at hp
 have h2 : g∉gs.take j:=fun hm=>List.lt_irrefl g (hp.2.2 g hm g (by simp))
 have hl : (gs.take j).length=j:=by rw [List.length_take];omega
 have h0 : QT g (gs.take j)=0:=by
  unfold QT
  rw [h1,if_pos rfl,if_neg h2,hl,if_neg (by omega)]
 refine ⟨h0,?_⟩
 unfold ZcP
 rw [if_pos h0,List.take_add_one,hg]
 rfl
theorem ZyN (hs : Sl X0 gv (gs.map strv)) (hr : Kh gs=true) (hn : gs.all Zp=true) (h6 : gs.length≤6) : ∀ (t j : Nat) (r : NR) (X : Zd),gs.length - j=t→j≤gs.length→HLe X0 X→ND X d r (nGs (gs.take j)) 0→(∀ i∈r.own,X0.length≤i)→
  ∃ X' r',Zi (c5 (Q0.l1 (R (n+11)))) [sl,pt d,gv,iv gs.length,iv j] X=some (.ext 0 [sl,pt d],X')∧HLe X0 X'∧ND X' d r' (nGs gs) 0∧∀ i∈r'.own,X0.length≤i
 | 0,j,r,X,ht,hj,hle,hd,ho=>by
  have hj : j=gs.length:=by omega
  subst hj
  rw [List.take_length] at hd
  refine ⟨X,r,ZK ?_,hle,hd,ho⟩
  rw [Qc]
  unfold Q0.l1
  rw [Za Zm,Zb,if_neg (by simp)]
  rfl
 | t+1,j,r,X,ht,hj,hle,hd,ho=>by
  have hkl : j < gs.length:=by omega
  have hlt : (j : Int) < gs.length:=by omega
  have hg:=List.getElem?_eq_getElem hkl
  generalize gs[j]=g at hg
  have x1:=(hs.mono hle).ix (i:=j) (by simpa using hkl) .i64 X
  have x2:=(hs.mono hle).ldx (Yt hg)
  obtain ⟨m1,m2⟩:=ZAZ hr hn h6 hg
  obtain ⟨X1,G',e1,g1,k1,s1⟩:=Zww (n:=n+3) (k:=g) hd.gr
  have e1 : R (n+11) Yk [pt r.g,strv g] X=_:=e1
  rw [hd.ks] at e1 k1
  rw [show (nGs (gs.take j)).K=gs.take j from rfl,m2] at k1
  obtain ⟨d1,t1⟩:=hd.toND0.setG g1 s1 k1
  have hm:=hle.more t1 ho
  have hd1 : ND X1 d { r with G:=G' } (nGs (gs.take (j+1))) 0:=⟨d1,⟨by simp [nGs],by simp [nGs],by simp [nGs,Zf],by simp [nGs],by simp [nGs,Zf]⟩⟩
  obtain ⟨X2,r2,e2,k2,h2,o2⟩:=ZyN hs hr hn h6 t (j+1) _ X1 (by omega) (by omega) hm.1 hd1 hm.2
  refine ⟨X2,r2,(Zy ?_).trans e2,k2,h2,o2⟩
  rw [Qc]
  unfold Q0.l1
  rw [Za Zm,Zb,if_pos (by simpa using hlt),Za x1,Za x2,Za Zt,Za Zh,Za hd.l2,Za e1,Za ZB,Qg (by omega)]
  rfl
theorem ZzJ {mem : Mem} : W1 [] k mem=mem:=by
 funext g n
 unfold W1
 simp
theorem Zy4 {mem : Mem} {ps : List Tx} : Zcn g k (W1 ps k mem)=W1 (ps++[g]) k mem:=by
 funext g' n
 unfold Zcn W1
 by_cases h1 : g'∈ps <;> by_cases h2 : g'=g <;> cases mem g' n <;> cases hn : n==k <;> simp [h1,h2,hn]
theorem Zyk (hnm : Zp u.nm=true) (hall : u.gs.all Zp=true) (hasc : Kh u.gs=true) (hl : u.gs.length≤6) (hfree : ∀ g,s.mem g u.nm=false) (hK : s.K=gs) {z1 z2 z3 : Value} : ∀ (t j : Nat) (c : Nat) (X : Zd),u.gs.length - j=t→j≤u.gs.length→ND0 X d r { s with mem:=W1 (u.gs.take j) u.nm s.mem } c→X[b]?=some (.cells u.cells 1 false false)→Sl X ugv (u.gs.map strv)→
  ∃ X',Zi (c8 (Q0.l3 (R (n+11)))) [pt d,pt b,z1,z2,z3,ugv,iv u.gs.length,iv j] X=some (if (u.gs.drop j).all (fun g=>decide (g∈gs)) then .ext 4 [pt d,pt b,z1,z2,z3] else .ret (.tuple #[.pointer none,iv 8]),X')∧ZC r.own X r.own X'∧((u.gs.drop j).all (fun g=>decide (g∈gs))=true→∃ c',ND0 X' d r { s with mem:=W1 u.gs u.nm s.mem } c')
 | 0,j,c,X,ht,hj,hd,hb,hs=>by
  have hj : j=u.gs.length:=by omega
  subst hj
  rw [List.take_length] at hd
  rw [List.drop_length]
  refine ⟨X,ZK ?_,.refl _ _,fun _=>⟨c,hd⟩⟩
  rw [Kj]
  unfold Q0.l3
  rw [Za Zm,Zb,if_neg (by simp)]
  rfl
 | t+1,j,c,X,ht,hj,hd,hb,hs=>by
  have hkl : j < u.gs.length:=by omega
  have hlt : (j : Int) < u.gs.length:=by omega
  have hg:=List.getElem?_eq_getElem hkl
  have hdr:=List.drop_eq_getElem_cons hkl
  have hsn:=take_snocT hg
  generalize u.gs[j]=g at hg hdr hsn
  have x1:=hs.ix (i:=j) (by simpa using hkl) .i64 X
  have x2:=hs.ldx (Yt hg)
  have l0 : ld1 (pa b 0) X=some (strv u.nm,X):=Zv hb rfl
  obtain ⟨X1,e1,g1,s1⟩:=Zwn (n:=n+3) (k:=g) (m:=u.nm) hd.gr
  have e1 : R (n+11) YI [pt r.g,strv g,strv u.nm] X=_:=e1
  rw [hd.ks] at e1 g1
  have hKs : ({ s with mem:=W1 (u.gs.take j) u.nm s.mem } : NSt).K=gs:=hK
  rw [hKs] at e1 g1
  have hgn : Zp g=true:=List.all_eq_true.1 hall g (List.mem_of_getElem? hg)
  have hgt : g∉u.gs.take j:=by
   have hp:=Zhd hasc
   rw [← List.take_append_drop j u.gs,List.pairwise_append,hdr] at hp
   exact fun hm=>List.lt_irrefl g (hp.2.2 g hm g (by simp))
  have hmf : W1 (u.gs.take j) u.nm s.mem g u.nm=false:=by
   unfold W1
   rw [hfree]
   simp [hgt]
  have hfd : Jg g [u.nm] gs=if g∈gs then 0 else 8:=by
   unfold Jg
   simp [hgn,hnm]
  rw [hdr,List.all_cons]
  by_cases hgm : g∈gs
  ·rw [if_pos hgm] at hfd
   have hE : ZaG g u.nm gs (W1 (u.gs.take j) u.nm s.mem)=0:=by
    unfold ZaG
    rw [hfd,if_pos rfl,hmf];rfl
   rw [hE] at e1
   rw [show ({ s with mem:=W1 (u.gs.take j) u.nm s.mem } : NSt).mem=W1 (u.gs.take j) u.nm s.mem from rfl,hE,if_pos rfl,Zy4,← hsn] at g1
   obtain ⟨d1,t1⟩:=hd.setG g1 s1 hd.ks
   have hc1:=hd.cle t1
   rw [decide_eq_true hgm,Bool.true_and]
   have d1' : ND0 X1 d r { s with mem:=W1 (u.gs.take (j+1)) u.nm s.mem } (c+1):=d1
   obtain ⟨X2,e2,t2,h2⟩:=Zyk hnm hall hasc hl hfree hK t (j+1) (c+1) X1 (by omega) (by omega) d1' (hc1 _ _ _ _ _ hb) (hs.cle hc1)
   refine ⟨X2,(Zy ?_).trans e2,ZC.trans t1 t2,h2⟩
   rw [Kj]
   unfold Q0.l3
   rw [Za Zm,Zb,if_pos (by simpa using hlt),Za x1,Za x2,Za Zt,Za Zh,Za hd.l2,Za Zh,Za l0,Za e1,Za Zq,Zb,if_neg (by simp),Za ZB,Qg (by omega)]
   rfl
  ·rw [if_neg hgm] at hfd
   have hE : ZaG g u.nm gs (W1 (u.gs.take j) u.nm s.mem)=8:=by
    unfold ZaG
    rw [hfd,if_neg (by simp)]
   rw [hE] at e1
   obtain ⟨d1,t1⟩:=hd.setG g1 s1 hd.ks
   rw [decide_eq_false hgm,Bool.false_and]
   refine ⟨X1,QE ?_,t1,fun h=>by cases h⟩
   rw [Kj]
   unfold Q0.l3
   rw [Za Zm,Zb,if_pos (by simpa using hlt),Za x1,Za x2,Za Zt,Za Zh,Za hd.l2,Za Zh,Za l0,Za e1,Za Zq,Zb,if_pos (by simp)]
   rfl
where
 take_snocT {l : List Tx} {j : Nat} {h : j < l.length} (hg : l[j]?=some l[j]) : l.take (j+1)=l.take j++[l[j]]:=by
  rw [List.take_add_one,hg];rfl
theorem ZrL : ∀ {us : List Zj},(∀ v∈us,v.nm < u.nm)→putU u us=us++[u]
 | [],_=>by simp [putU,Kr,Wa]
 | v :: us,h=>by
  rw [Zlz,if_neg (fun hle=>(List.not_lt.2 hle) (h v (by simp))),ZrL fun w hw=>h w (by simp [hw])]
  rfl
theorem Zy9 (hO : ROK s prev) (hP : WQ s) (hm : QH m=true) (hf : Qd m=m) : prev.any (fun w=>m==w.ml)=(Zf m s.OW).isSome:=by
 have h1:=Zym hO hP hm
 rw [hf] at h1
 rw [← h1,Option.isSome_map,List.isSome_find?]
 congr 1
 funext w
 exact BEq.comm
def addN (u : Zj) (s : NSt) : NSt:={ A:=Qw u.nm (u.hs,u.ds) s.A,OW:=Zor u.nm u.ml s.OW s.OF,OF:=Zdb u.nm u.ml s.OW s.OF,K:=s.K,mem:=W1 u.gs u.nm s.mem }
theorem Zmn (h : ZdB m=true) : m=[]∨(QH m=true∧Qd m=m):=by
 unfold ZdB at h
 simpa using h
theorem Zev (h : JO u=0) : Zp u.nm=true∧YR u.hs=true∧ZdB u.ml=true∧u.gs.length≤6∧u.gs.all Zp=true∧Kh u.gs=true:=by
 unfold JO at h
 split at h
 ·rename_i h1
  split at h
  ·rename_i h2
   split at h
   ·rename_i h3
    unfold Zgj at h
    split at h
    ·exact absurd h (by decide)
    ·rename_i h6
     split at h
     ·rename_i h4
      split at h
      ·rename_i h5
       exact ⟨h1,h2,h3,by omega,h4,h5⟩
      ·exact absurd h (by decide)
     ·exact absurd h (by decide)
   ·exact absurd h (by decide)
  ·exact absurd h (by decide)
 ·exact absurd h (by decide)
theorem ZBM (hO : ROK s prev) (hP : WQ s) (hu : JO u=0) (hA : Zf u.nm s.A=none) : YW u.nm u.ml s.OW=if u.ml≠[]∧prev.any (fun w=>u.ml==w.ml)=true then 9 else 0:=by
 obtain ⟨h1,_,h3,_,_,_⟩:=Zev hu
 unfold YW
 rw [h1,if_pos rfl]
 rcases Zmn h3 with hm | ⟨hm,hf⟩
 ·rw [if_pos hm,if_neg (fun h=>h.1 hm)]
 ·have hne : u.ml≠[]:=by have:=(Zg4 hm).1;rwa [hf] at this
  rw [if_neg hne,hm,if_pos rfl,hf,Zy9 hO hP hm hf]
  cases hw : Zf u.ml s.OW with
  | none=>simp
  | some w=>
   have hww : w≠u.nm:=fun e=>by
    subst e
    have:=hP.i.ofA u.nm (by rw [(hP.x.inv u.nm u.ml).2 hw];rfl)
    rw [hA] at this;cases this
   simp [hww,hne]
theorem Zzd (hi : JQ s) (hu : JO u=0) (hgs : ∀ g∈u.gs,g∈s.K) (hk : s.K.Nodup) (hA : Zf u.nm s.A=none) (hfree : ∀ g,s.mem g u.nm=false) (he : YW u.nm u.ml s.OW=0) (x : Tx) : ZN (addN u s) x=if x=u.nm then some (ZQ u) else ZN s x:=by
 obtain ⟨h1,h2,h3,h4,h5,h6⟩:=Zev hu
 by_cases hx : x=u.nm
 ·rw [if_pos hx,hx]
  unfold ZN
  show (Zf u.nm (Qw u.nm (u.hs,u.ds) s.A)).map _=_
  rw [KT]
  show some (Qi _ u.nm (u.hs,u.ds))=_
  unfold Qi ZQ
  show some (u.nm,u.hs,(Zf u.nm (Zdb u.nm u.ml s.OW s.OF)).getD [],u.ds,ofL u.nm s.K (W1 u.gs u.nm s.mem))=_
  rw [Zen he,if_pos rfl]
  have hg : ofL u.nm s.K (W1 u.gs u.nm s.mem)=u.gs:=by
   refine (Zcu hk).uniq ⟨Zhd h6,fun y=>Iff.rfl⟩ fun y=>?_
   unfold W1
   rw [hfree]
   simp
   exact hgs y
  rw [hg]
  rcases Zmn h3 with hm | ⟨hm,hf⟩
  ·rw [if_pos hm,hm];rfl
  ·have hne : u.ml≠[]:=by have:=(Zg4 hm).1;rwa [hf] at this
   rw [if_neg hne,hf];rfl
 ·rw [if_neg hx]
  unfold ZN
  show (Zf x (Qw u.nm (u.hs,u.ds) s.A)).map _=_
  rw [YA hx]
  cases Zf x s.A with
  | none=>rfl
  | some p=>
   show some (Qi _ x p)=some (Qi s x p)
   unfold Qi
   show some (x,p.1,(Zf x (Zdb u.nm u.ml s.OW s.OF)).getD [],p.2,ofL x s.K (W1 u.gs u.nm s.mem))=_
   rw [Zen he,if_neg hx]
   have : ofL x s.K (W1 u.gs u.nm s.mem)=ofL x s.K s.mem:=by
    unfold ofL W1
    refine List.filter_congr fun g _=>?_
    simp [hx]
   rw [this]
theorem JQ.add (hi : JQ s) (hu : JO u=0) (hA : s.A.length < 12) (he : YW u.nm u.ml s.OW=0) : JQ (addN u s):=by
 obtain ⟨h1,h2,h3,h4,h5,h6⟩:=Zev hu
 have p1:=hi.putA (k:=u.nm) (v:=(u.hs,u.ds)) h1 h2 (.inr hA)
 refine ⟨p1.nm,p1.few,fun x hx=>?_,fun g x hx=>?_,fun x y hx=>?_⟩
 ·have hx : (Zf x (Zdb u.nm u.ml s.OW s.OF)).isSome=true:=hx
  rw [Zen he] at hx
  by_cases e : x=u.nm
  ·show (Zf x (Qw u.nm (u.hs,u.ds) s.A)).isSome=true
   rw [e,KT];rfl
  ·rw [if_neg e] at hx
   exact Zbu (.inl (hi.ofA x hx))
 ·have hx : W1 u.gs u.nm s.mem g x=true:=hx
  unfold W1 at hx
  rw [Bool.or_eq_true] at hx
  rcases hx with hx | hx
  ·exact Zbu (.inl (hi.memA g x hx))
  ·rw [Bool.and_eq_true,beq_iff_eq] at hx
   exact Zbu (.inr hx.2)
 ·have hx : Zf x (Zdb u.nm u.ml s.OW s.OF)=some y:=hx
  rw [Zen he] at hx
  by_cases e : x=u.nm
  ·rw [if_pos e] at hx
   rcases Zmn h3 with hm | ⟨hm,hf⟩
   ·rw [if_pos hm] at hx;cases hx
   ·have hne : u.ml≠[]:=by have:=(Zg4 hm).1;rwa [hf] at this
    rw [if_neg hne,hf] at hx
    cases hx
    exact ⟨hm,hf⟩
  ·rw [if_neg e] at hx
   exact hi.good x y hx
structure OfS (X0 X : Zd) (d : Nat) (r : NR) (s : NSt) (c : Nat) (gs : List Tx) (prev : List Zj) : Prop where
 le : HLe X0 X
 nd : ND X d r s c
 own : ∀ i∈r.own,X0.length≤i
 K : s.K=gs
 ok : ROK s prev
theorem Zyc (hn : us.length≤12) (hA : Qh X0 sl us) (h2 : ∀ u∈us,JO u=0) (hris : Kh (us.map (·.nm))=true) : ∀ (t i : Nat) (s : NSt) (c : Nat) (X : Zd),us.length - i=t→i≤us.length→OfS X0 X d r s c gs (us.take i)→
  ∃ X' o,Zi (c4 (Q0.l2 (R (n+11)))) [pt d,sl,iv us.length,iv i] X=some (o,X')∧HLe X0 X'∧(if Za1 gs (us.take i) (us.drop i)=0 then o=.ext 2 [pt d]∧∃ s' c',OfS X0 X' d r s' c' gs us else o=.ret (.tuple #[.pointer none,iv (Za1 gs (us.take i) (us.drop i))]))
 | 0,i,s,c,X,ht,hi,hS=>by
  have hi : i=us.length:=by omega
  subst hi
  rw [List.take_length] at hS
  rw [List.drop_length,List.take_length]
  refine ⟨X,.ext 2 [pt d],ZK ?_,hS.le,?_⟩
  ·rw [ZI]
   unfold Q0.l2
   rw [Za Zm,Zb,if_neg (by simp)]
   rfl
  ·rw [if_pos (show Za1 gs us []=0 from by unfold Za1;rfl)]
   exact ⟨rfl,s,c,hS⟩
 | t+1,i,s,c,X,ht,hi,hS=>by
  have hjl : i < us.length:=by omega
  have hlt : (i : Int) < us.length:=by omega
  have hg:=List.getElem?_eq_getElem hjl
  have hdr:=List.drop_eq_getElem_cons hjl
  generalize us[i]=u at hg hdr
  have hum:=List.mem_of_getElem? hg
  have hu:=h2 u hum
  obtain ⟨u1,u2,u3,u4,u5,u6⟩:=Zev hu
  have hP:=hS.nd.pinv
  have hrp : ∀ v∈us.take i,v.nm < u.nm:=fun v hv=>by
   have hp:=Zhd hris
   rw [← List.take_append_drop i us,hdr,List.map_append,List.pairwise_append] at hp
   exact hp.2.2 v.nm (List.mem_map.2 ⟨v,hv,rfl⟩) u.nm (by simp)
  have hlen:=hS.ok.len hP.n
  have hlt' : (us.take i).length=i:=by rw [List.length_take];omega
  have hnone : Zf u.nm s.A=none:=by
   cases ha : Zf u.nm s.A with
   | none=>rfl
   | some p=>
    have h3 : ZN s u.nm=some (Qi s u.nm p):=by unfold ZN;rw [ha];rfl
    obtain ⟨v,hv,hk⟩:=KE.1 ((hS.ok.look (Qi s u.nm p)).2 h3)
    have hvn : v.nm=u.nm:=congrArg (·.1) hk
    have:=hrp v hv
    rw [hvn] at this
    exact absurd this (List.lt_irrefl _)
  have hfree:=hP.i.memN hnone
  have hok:=(hA.mono hS.le).ok hum
  have hf:=fun {K : Value→M Out}=>Zeq (k:=K) (hA.mono hS.le).1 hok.2.1 hg
  have g1 : (X++[Ze.cells u.cells 1 false false])[X.length]?=some (.cells u.cells 1 false false):=Zw
  have k1 : HLe X (X++[Ze.cells u.cells 1 false false]):=.app _ _
  generalize X++[Ze.cells u.cells 1 false false]=X1 at g1 k1 hf
  generalize X.length=b at g1 hf
  have d1:=hS.nd.hle k1
  have ok1:=hok.hle k1
  have a0 : ∀ f x,u.cells[f]?=some x→ld1 (pa b f) X1=some (x,X1):=fun f x h=>Zv g1 h
  obtain ⟨X2,e2,m2,s2,_⟩:=d1.m.mup (k:=u.nm) (v:=(u.hs,u.ds))
  obtain ⟨d2,t2⟩:=d1.toND0.setA m2 s2
  have c2:=d1.toND0.cle t2
  have g2:=c2 _ _ _ _ _ g1
  have a4 : ld1 (pa b 4) X2=some (u.gv,X2):=Zv g2 rfl
  have hs2:=ok1.1.cle c2
  have hul : Zx u.gv X2=some (iv u.gs.length,X2):=by have:=hs2.len (H':=X2);simpa using this
  have d2' : ND0 X2 d r { ({ s with A:=Qw u.nm (u.hs,u.ds) s.A } : NSt) with mem:=W1 (u.gs.take 0) u.nm s.mem } c:=by
   rw [List.take_zero,ZzJ];exact d2
  obtain ⟨X3,e3,t3,h3⟩:=Zyk (n:=n) (s:={ s with A:=Qw u.nm (u.hs,u.ds) s.A }) (gs:=gs) (z1:=sl) (z2:=iv us.length) (z3:=iv i) u1 u5 u6 u4 hfree hS.K u.gs.length 0 c X2 (by omega) (by omega) d2' g2 hs2
  rw [show iv ((0 : Nat) : Int)=.int .i64 0 from rfl,List.drop_zero] at e3
  rw [List.drop_zero] at h3
  obtain ⟨q1,q2⟩:=(hS.le.trans k1).more (t2.trans t3) hS.own
  have hbody : ∀ o Z,jn (Zi (c8 (Q0.l3 (R (n+11)))) [pt d,pt b,sl,iv us.length,iv i,u.gv,iv u.gs.length,(Value.int .i64 0)]) noN (xk 4 (c5 fun q45_0 q45_1 q45_2 q45_3 q45_4=>
    bind (Qe q45_0) fun v73x46=>bind (fa 1 v73x46) fun v74x47=>bind (ld1 v74x47) fun v75x48=>bind (fa 0 q45_1) fun v76x49=>bind (ld1 v76x49) fun v77x50=>bind (fa 2 q45_1) fun v78x51=>bind (ld1 v78x51) fun v79x52=>
    bind (R (n+11) Kf [v75x48,v77x50,v79x52]) fun v80x53=>bind (bop .int .neq v80x53 (Value.int .i64 0)) fun v82x54=>
    cnd v82x54 (ret (.ret (Value.tuple #[(Value.pointer none),v80x53]))) (bind (bop .int .add q45_4 (Value.int .i64 1)) fun v84x55=>ret (.nrm [q45_0,q45_2,q45_3,v84x55]))) noX) Z5 X2=some (o,Z)→c4 (Q0.l2 (R (n+11))) [pt d,sl,iv us.length,iv i] X=some (o,Z):=fun o Z h=>by
   rw [ZI]
   unfold Q0.l2
   rw [Za Zm,Zb,if_pos (by simpa using hlt),hf,Za Zt,Za Zh,Za d1.l0,Za Zh,Za (a0 0 _ rfl),Za Zh,Za (a0 1 _ rfl),Za Zh,Za (a0 3 _ rfl),Za ZDc,Za e2,Za Zh,Za a4,Za hul]
   exact h
  rw [hdr]
  unfold Za1 ZeR
  cases ha : u.gs.all fun g=>decide (g∈gs)
  ·rw [ha] at e3
   simp only [Bool.false_eq_true,if_false]
   exact ⟨X3,_,QE (hbody _ _ ((JJ e3).trans rfl)),q1,rfl⟩
  ·rw [ha] at e3
   simp only [if_true]
   obtain ⟨c3,d3⟩:=h3 ha
   have c23:=d2.cle t3
   have g3:=c23 _ _ _ _ _ g2
   have l0 : ld1 (pa b 0) X3=some (strv u.nm,X3):=Zv g3 rfl
   have l2 : ld1 (pa b 2) X3=some (strv u.ml,X3):=Zv g3 rfl
   obtain ⟨X4,e4,i4,s4⟩:=Zx7 (n:=n+2) (k:=u.nm) (m:=u.ml) d3.ix
   have e4 : R (n+11) Kf [pt r.x,strv u.nm,strv u.ml] X3=some (iv (YW u.nm u.ml s.OW),X4):=e4
   obtain ⟨d4,t4⟩:=d3.setI i4 s4
   obtain ⟨q3,q4⟩:=q1.more t4 q2
   have hE:=ZBM hS.ok hP hu hnone
   by_cases hp : u.ml≠[]∧(us.take i).any (fun w=>u.ml==w.ml)=true
   ·rw [if_pos hp] at hE
    simp only [if_pos hp]
    rw [hE] at e4
    refine ⟨X4,_,QE (hbody (.ret (.tuple #[.pointer none,iv 9])) X4 ?_),q3,rfl⟩
    rw [ZT e3,ZE,Qc,Za Zt,Za Zh,Za d3.l1,Za Zh,Za l0,Za Zh,Za l2,Za e4,Za Zq,Zb,if_pos (by simp)]
    rfl
   ·rw [if_neg hp] at hE
    simp only [if_neg hp,if_true]
    rw [hE] at e4
    have hgs : ∀ g∈u.gs,g∈s.K:=fun g hgm=>by
     rw [hS.K]
     simpa using List.all_eq_true.1 ha g hgm
    have hadd:=Zzd hP.i hu hgs hP.k.nod hnone hfree hE
    have hd4 : ND X4 d r (addN u s) c3:=⟨d4,hP.i.add hu (by omega) hE⟩
    have hok4 : ROK (addN u s) (us.take (i+1)):=by
     rw [Zr2 hg,← ZrL hrp]
     exact hS.ok.put (by rw [hadd,if_pos rfl]) (fun x hx=>by rw [hadd,if_neg hx])
    obtain ⟨X5,o5,e5,k5,h5⟩:=Zyc hn hA h2 hris t (i+1) (addN u s) c3 X4 (by omega) (by omega) ⟨q3,hd4,q4,hS.K,hok4⟩
    rw [Zr2 hg] at h5
    refine ⟨X5,o5,(Zy (hbody _ X4 ?_)).trans e5,k5,h5⟩
    rw [ZT e3,ZE,Qc,Za Zt,Za Zh,Za d3.l1,Za Zh,Za l0,Za Zh,Za l2,Za e4,Za Zq,Zb,if_neg (by simp),Za ZB,Qg (by omega)]
    rfl
theorem ZyZ (h : Zdj us gs=0) : Yu us=0∧Kh (us.map (·.nm))=true∧us.length≤12∧gs.all Zp=true∧Kh gs=true∧gs.length≤6:=by
 unfold Zdj Zjg at h
 by_cases h1 : Yu us=0
 ·simp only [if_pos h1] at h
  cases h2 : Kh (us.map (·.nm))
  ·rw [h2] at h;simp at h
  ·rw [h2] at h
   by_cases h3 : 12 < us.length
   ·simp [h3] at h
   ·cases h4 : gs.all Zp <;> cases h5 : Kh gs <;> rw [h4,h5] at h <;> by_cases h6 : 6 < gs.length <;> simp [h3,h6] at h
    exact ⟨h1,rfl,by omega,rfl,rfl,by omega⟩
 ·simp only [if_neg h1] at h
  exact absurd h h1
theorem Zyx (hn : us.length≤1000) (hl : gs.length≤1000000) (hA : Qh X sl us) (hs : Sl X gv (gs.map strv)) : ∃ X',HLe X X'∧(if ZbM us gs=0 then ∃ d r s c,R (n+12) Zb6 [sl,gv] X=some (.tuple #[pt d,iv 0],X')∧OfS X X' d r s c gs us else R (n+12) Zb6 [sl,gv] X=some (.tuple #[.pointer none,iv (ZbM us gs)],X')):=by
 obtain ⟨X1,e1,k1⟩:=Ztg (n:=n) hn hl hA hs
 have f1 : ∀ r X',Q0 (R (n+11)) sl gv X=some (r,X')→R (n+12) Zb6 [sl,gv] X=some (r,X'):=fun r X' hr=>by rw [R,Zvl rfl];exact hr
 unfold ZbM
 by_cases hc : Zdj us gs=0
 ·obtain ⟨c1,c2,c3,c4,c5,c6⟩:=ZyZ hc
  rw [hc] at e1
  simp only [if_pos hc]
  have q1 : bop .int .neq (iv 0) (.int .i64 0) X1=some (.bool false,X1):=by rw [Zq];rfl
  obtain ⟨X2,d,r,e2,D2,l2,o1,o2⟩:=ZxZ (n:=n+9) (X:=X1)
  have e2 : R (n+11) Zal [] X1=_:=e2
  have k2:=k1.trans l2
  have hgn : Zx gv X2=some (iv gs.length,X2):=by have:=hs.len (H':=X2);simpa using this
  obtain ⟨X3,r3,e3,k3,D3,o3⟩:=ZyN (n:=n) (sl:=sl) hs c5 c4 c6 gs.length 0 r X2 (by omega) (by omega) k2 D2 (fun i hi=>Nat.le_trans k1.len (o2 i hi))
  rw [show iv ((0 : Nat) : Int)=.int .i64 0 from rfl] at e3
  have hlen : Zx sl X3=some (iv us.length,X3):=by have:=hA.1.len (H':=X3);rwa [List.length_map] at this
  have hS : OfS X X3 d r3 (nGs gs) 0 gs (us.take 0):=⟨k3,D3,o3,rfl,⟨List.Pairwise.nil,fun key=>by simp [ZN,nGs,Zf]⟩⟩
  obtain ⟨X4,o,e4,k4,h4⟩:=Zyc (n:=n) c3 hA (ZkM c1) c2 us.length 0 (nGs gs) 0 X3 (by omega) (by omega) hS
  rw [show iv ((0 : Nat) : Int)=.int .i64 0 from rfl] at e4
  rw [List.take_zero,List.drop_zero] at h4
  refine ⟨X4,k4,?_⟩
  by_cases hz : Za1 gs [] us=0
  ·rw [if_pos hz] at h4 ⊢
   obtain ⟨rfl,s',c',hS'⟩:=h4
   refine ⟨d,r3,s',c',f1 _ _ ?_,hS'⟩
   unfold Q0
   rw [Za e1,Za q1,Zb,if_neg (by simp),Za e2,Za hgn,ZT e3,ZE,ZX,Za hlen,ZT e4,ZE]
   rfl
  ·rw [if_neg hz] at h4 ⊢
   subst h4
   refine f1 _ _ ?_
   unfold Q0
   rw [Za e1,Za q1,Zb,if_neg (by simp),Za e2,Za hgn,ZT e3,ZE,ZX,Za hlen,JJ e4]
   rfl
 ·simp only [if_neg hc]
  have q1 : bop .int .neq (iv (Zdj us gs)) (.int .i64 0) X1=some (.bool true,X1):=by rw [Zq];simp [hc]
  refine ⟨X1,k1,f1 _ _ ?_⟩
  unfold Q0
  rw [Za e1,Za q1,Zb,if_pos rfl]
  rfl
theorem Zzb {us ws : List Zj} (h : us.map ZQ=ws.map ZQ) : ZbM us gs=ZbM ws gs:=by
 have hrest : ∀ (l l' p p' : List Zj),l.map ZQ=l'.map ZQ→p.map ZQ=p'.map ZQ→Za1 gs p l=Za1 gs p' l':=by
  intro l
  induction l with
  | nil=>
   intro l' p p' hl hp
   cases l' with
   | nil=>unfold Za1;rfl
   | cons a b=>simp at hl
  | cons u l ih=>
   intro l' p p' hl hp
   cases l' with
   | nil=>simp at hl
   | cons w l'=>
    rw [List.map_cons,List.map_cons,List.cons.injEq] at hl
    have hg : u.gs=w.gs:=congrArg (·.2.2.2.2) hl.1
    have hm : u.ml=w.ml:=congrArg (·.2.2.1) hl.1
    have hany : p.any (fun v=>u.ml==v.ml)=p'.any (fun v=>w.ml==v.ml):=by
     have h1 : ∀ (p : List Zj) (m : Tx),p.any (fun v=>m==v.ml)=(p.map ZQ).any (fun v=>m==v.2.2.1):=fun p m=>by
      rw [List.any_map];rfl
     rw [h1,h1,hp,hm]
    have hpe : ZeR gs p u=ZeR gs p' w:=by
     unfold ZeR
     rw [hg,hm]
     rw [hm] at hany
     rw [hany]
    unfold Za1
    rw [hpe,ih l' (p++[u]) (p'++[w]) hl.2 (by rw [List.map_append,List.map_append,hp,List.map_singleton,List.map_singleton,hl.1])]
 have hfirst : ∀ (l l' : List Zj),l.map ZQ=l'.map ZQ→Yu l=Yu l':=by
  intro l
  induction l with
  | nil=>
   intro l' hl
   cases l' with
   | nil=>rfl
   | cons a b=>simp at hl
  | cons u l ih=>
   intro l' hl
   cases l' with
   | nil=>simp at hl
   | cons w l'=>
    rw [List.map_cons,List.map_cons,List.cons.injEq] at hl
    have he : JO u=JO w:=by
     have h1 : u.nm=w.nm:=congrArg (·.1) hl.1
     have h2 : u.hs=w.hs:=congrArg (·.2.1) hl.1
     have h3 : u.ml=w.ml:=congrArg (·.2.2.1) hl.1
     have h4 : u.gs=w.gs:=congrArg (·.2.2.2.2) hl.1
     unfold JO
     rw [h1,h2,h3,h4]
    unfold Yu
    rw [he,ih l' hl.2]
 have hnm : us.map (·.nm)=ws.map (·.nm):=by
  have h1:=congrArg (List.map (·.1)) h
  rw [List.map_map,List.map_map] at h1
  exact h1
 have hlen : us.length=ws.length:=by
  have h1:=congrArg List.length h
  rwa [List.length_map,List.length_map] at h1
 unfold ZbM Zdj Zjg
 rw [hfirst us ws h,hnm,hlen,hrest us ws [] [] h rfl]
theorem ROK.keys {us ws : List Zj} (hO : ROK s us) (h : us.map ZQ=ws.map ZQ) : ROK s ws:=⟨by
 have h1:=congrArg (List.map (·.1)) h
 rw [List.map_map,List.map_map] at h1
 have h1 : us.map (·.nm)=ws.map (·.nm):=h1
 have h2 : (us.map (·.nm)).Pairwise (· < ·):=by rw [List.pairwise_map];exact hO.rise
 rw [h1,List.pairwise_map] at h2
 exact h2,fun key=>by rw [← h];exact hO.look key⟩
end
end Go.Proofs.YtedkoimihknggaaGreatDoor.A

namespace Go.Proofs.YtedkoimihknggaaGreatDoor.A
set_option linter.unusedVariables false
set_option linter.unusedSimpArgs false
open Go.Proofs Go.Proofs.YtedkoimihknggaaGreatDoor
def le (x : Nat) : Nat→List UInt8
 | 0=>[]
 | k+1=>UInt8.ofNat (x % 256) :: le (x / 256) k
theorem Zct : ∀ {k x : Nat},(le x k).length=k
 | 0,_=>rfl
 | k+1,x=>by unfold le;rw [List.length_cons,Zct]
def txt (s : List UInt8) : List UInt8:=le s.length 2++s
theorem ZA3 (a b : List UInt8) : u8s (a++b)=u8s a++u8s b:=by simp [u8s]
section
variable {H X : Zd} {n p : Nat} {sl x v : Value} {vs ws : List Value} {own : List Nat} {bs s : List UInt8}
theorem ZA.addN {b : Nat} (h : ZA H sl vs own) (hf : QK 1 H x=some ws) (hn : A.flen x=ws.length) (hb : (vs.length+ws.length) * b≤140737488355328) (hb0 : vs.length+ws.length≤140737488355328) :
  ∃ sl' H' own',app 1 b sl x H=some (sl',H')∧ZA H' sl' (vs++ws) own'∧ZC own H own' H':=by
 by_cases h0 : ws.length=0
 ·have hw : ws=[]:=List.eq_nil_of_length_eq_zero h0
  subst hw
  refine ⟨sl,H,own,?_,by simpa using h,.refl _ _⟩
  rcases h with ⟨rfl,rfl,rfl⟩ | ⟨sid,rest,gr,rfl,rfl,hid⟩
  ·unfold app
   rw [hf]
   simp [hn]
  ·unfold app
   rw [hf]
   simp [hn,hid]
 rcases h with ⟨rfl,rfl,rfl⟩ | ⟨sid,rest,gr,rfl,rfl,hid⟩
 ·refine ⟨_,H++[.cells ws 1 true false],[H.length],?_,.inr ⟨H.length,[],true,rfl,rfl,by simp⟩,⟨by simp,fun j hj _=>List.getElem?_append_left hj,by simp⟩⟩
  unfold app
  rw [hf]
  simp only [hn]
  simp only [List.length_nil,Nat.zero_add] at hb hb0
  rw [if_neg h0,if_pos ⟨hb0,hb⟩]
  simp
 ·have hlt:=QD hid
  by_cases hc : ws.length≤rest.length
  ·have hsp : splice (vs++rest) ws vs.length=vs++(ws++rest.drop ws.length):=by
    unfold splice
    rw [List.take_left,List.drop_append,List.drop_eq_nil_of_le (by omega),List.nil_append,Nat.add_sub_cancel_left,List.append_assoc]
   have hset : (H.set sid (.cells (vs++(ws++rest.drop ws.length)) 1 gr false))[sid]?=some (.cells (vs++(ws++rest.drop ws.length)) 1 gr false):=ZM hid
   refine ⟨.slice (some ⟨sid,0,none⟩) (vs.length+ws.length) (vs.length+rest.length),H.set sid (.cells (vs++(ws++rest.drop ws.length)) 1 gr false),[sid],?_,.inr ⟨sid,rest.drop ws.length,gr,?_,rfl,by rw [hset,List.append_assoc]⟩,⟨by simp,fun j hj hn=>List.getElem?_set_ne (fun e=>hn (by simp [e])),by simp⟩⟩
   ·unfold app
    rw [hf]
    simp only [hn,hid,if_true,Nat.mul_one,Nat.zero_add]
    rw [if_pos (by omega),if_neg h0,if_pos ⟨trivial,by rw [List.length_append];omega⟩,hsp]
   ·rw [List.length_append,List.length_drop]
    congr 1;omega
  ·have hold : ((vs++rest).drop 0).take vs.length=vs:=by rw [List.drop_zero,List.take_left]
   have happ : app 1 b (.slice (some ⟨sid,0,none⟩) vs.length (vs.length+rest.length)) x H=some (.slice (some ⟨H.length,0,none⟩) (vs.length+ws.length) (vs.length+ws.length),(bif gr then H.set sid (.view vs 1 H.length) else H)++[.cells (vs++ws) 1 true false]):=by
    unfold app
    rw [hf]
    simp only [hn,hid,if_true,Nat.mul_one,Nat.zero_add]
    rw [if_neg (by omega),if_pos ⟨by simp,by rw [List.length_append];omega,hb0,hb⟩,hold]
    rfl
   have hnew : ((bif gr then H.set sid (.view vs 1 H.length) else H)++[.cells (vs++ws) 1 true false])[H.length]?=some (.cells (vs++ws) 1 true false):=by
    rw [List.getElem?_append_right (by cases gr <;> simp)]
    cases gr <;> simp
   refine ⟨_,_,[H.length],happ,.inr ⟨H.length,[],true,by simp,rfl,by rw [hnew,List.append_nil]⟩,⟨?_,fun j hj hn=>?_,by simp⟩⟩
   ·cases gr <;> simp
   ·rw [List.getElem?_append_left (by cases gr <;> simpa using hj)]
    cases gr
    ·rfl
    ·exact List.getElem?_set_ne (fun e=>hn (by simp [e]))
structure Wtr (H : Zd) (p : Nat) (bs : List UInt8) (own : List Nat) : Prop where
 o : ∃ sl,H[p]?=some (.cells [sl] 1 false false)∧ZA H sl (u8s bs) own
 ne : p∉own
theorem Wtr.lt (h : Wtr H p bs own) : ∀ j∈p :: own,j < H.length:=by
 obtain ⟨sl,hc,hr⟩:=h.o
 intro j hj
 rcases List.mem_cons.1 hj with rfl | hj
 ·exact QD hc
 ·exact hr.lt j hj
theorem Wtr.keep (h : Wtr H p bs own) (hk : ∀ j∈p :: own,X[j]?=H[j]?) : Wtr X p bs own:=by
 obtain ⟨sl,hc,hr⟩:=h.o
 exact ⟨⟨sl,by rw [hk p (by simp)];exact hc,hr.keep fun j hj=>hk j (by simp [hj])⟩,h.ne⟩
theorem Wtr.step {o1 o2 : List Nat} (h : Wtr H p bs own) (hs : ZC o1 H o2 X) (hn : ∀ j∈p :: own,j∉o1) : Wtr X p bs own:=
 h.keep fun j hj=>hs.keep j (h.lt j hj) (hn j hj)
theorem Wtr.hle (h : Wtr H p bs own) (hl : HLe H X) : Wtr X p bs own:=h.step hl.step (by simp)
theorem Wtr.put {own' : List Nat} {bs' : List UInt8} (h : Wtr H p bs own) (hr : ZA X sl (u8s bs') own') (hs : ZC own H own' X) : ∃ X',st1 (pt p) sl X=some (undef,X')∧Wtr X' p bs' own'∧ZC (p :: own) H (p :: own') X':=by
 obtain ⟨sl0,hc,hr0⟩:=h.o
 have hc1 : X[p]?=some (.cells [sl0] 1 false false):=hs.get hc h.ne
 have hne : p∉own':=fun hm=>by
  rcases hs.own p hm with h1 | h1
  ·exact h.ne h1
  ·have:=QD hc;omega
 have e1 : st1 (pt p) sl X=some (undef,X.set p (.cells [sl] 1 false false)):=K7 (o:=0) hc1 (by simp) hr.one.1
 refine ⟨_,e1,⟨⟨sl,ZM hc1,hr.keep fun j hj=>List.getElem?_set_ne (fun e=>hne (by rw [e];exact hj))⟩,hne⟩,?_⟩
 have s1 : ZC [p] X [p] (X.set p (.cells [sl] 1 false false)):=⟨by simp,fun j hj hn=>List.getElem?_set_ne (fun e=>hn (by simp [e])),fun j hj=>.inl hj⟩
 refine (hs.more (o2:=p :: own) (o2':=p :: own') (by simp+contextual) ?_).trans (s1.more (by simp) (fun j hj=>.inl hj))
 intro j hj
 rcases List.mem_cons.1 hj with rfl | hj
 ·exact .inl (by simp)
 ·exact .inr (.inl hj)
theorem Zxw (x : Nat) : ((UInt8.ofNat (x % 256)).toNat : Int)=(x : Int) % 256:=by
 rw [UInt8.toNat_ofNat']
 omega
theorem ZyM {N : Nat} (hN : N≤1000) : ∀ (t k x : Nat) (bs : List UInt8) (own : List Nat) (H : Zd),N - k=t→k≤N→x < 18446744073709551616→bs.length+t≤1000000000000→Wtr H p bs own→
  ∃ H' own',Zi (c4 (Yv.l1 (R n))) [pt p,.int .u64 x,iv N,iv k] H=some (.ext 0 [pt p],H')∧Wtr H' p (bs++le x t) own'∧ZC (p :: own) H (p :: own') H'
 | 0,k,x,bs,own,H,ht,hk,hx,hb,h=>by
  have : k=N:=by omega
  subst this
  refine ⟨H,own,ZK ?_,by simpa [le] using h,.refl _ _⟩
  rw [ZI]
  unfold Yv.l1
  rw [Za Zm,Zb,if_neg (by simp)]
  rfl
 | t+1,k,x,bs,own,H,ht,hk,hx,hb,h=>by
  have hlt : (k : Int) < N:=by omega
  obtain ⟨sl,hc,hr⟩:=h.o
  have e1 : bsl 1 1 (.int .u8 0) [(0,1,.int .u8 ((UInt8.ofNat (x % 256)).toNat))] H=some (.slice (some ⟨H.length,0,none⟩) 1 1,H++[.cells [.int .u8 ((UInt8.ofNat (x % 256)).toNat)] 1 false false]):=ZzW rfl rfl rfl
  have k1 : HLe H (H++[Ze.cells [.int .u8 ((UInt8.ofNat (x % 256)).toNat)] 1 false false]):=.app _ _
  have s1 : Sl (H++[Ze.cells [.int .u8 ((UInt8.ofNat (x % 256)).toNat)] 1 false false]) (.slice (some ⟨H.length,0,none⟩) 1 1) [.int .u8 ((UInt8.ofNat (x % 256)).toNat)]:=Sl.one (vs:=[.int .u8 ((UInt8.ofNat (x % 256)).toNat)]) Zw
  generalize H++[Ze.cells [.int .u8 ((UInt8.ofNat (x % 256)).toNat)] 1 false false]=X1 at e1 k1 s1
  have h1:=h.hle k1
  have hr1 : ZA X1 sl (u8s bs) own:=hr.step k1.step (by simp)
  have hl : (u8s bs).length=bs.length:=Jw bs
  obtain ⟨sl',X2,own',e2,r2,st2,_⟩:=hr1.push (b:=1) s1 (by omega) (by omega)
  rw [show u8s bs++[.int .u8 ((UInt8.ofNat (x % 256)).toNat)]=u8s (bs++[UInt8.ofNat (x % 256)]) from by simp [u8s]] at r2
  obtain ⟨X3,e3,w3,st3⟩:=h1.put r2 st2
  have hx2 : x / 256 < 18446744073709551616:=by omega
  obtain ⟨H',own2,e4,w4,st4⟩:=ZyM hN t (k+1) (x / 256) (bs++[UInt8.ofNat (x % 256)]) own' X3 (by omega) (by omega) hx2 (by rw [List.length_append,List.length_singleton];omega) w3
  have c1 : cvi .u8 (.int .u64 x) H=some (.int .u8 ((UInt8.ofNat (x % 256)).toNat),H):=by rw [QG,wu8,Zxw]
  have c2 : ∀ Y,bop .int .shr (.int .u64 x) (.int .u64 8) Y=some (.int .u64 ((x / 256 : Nat) : Int),Y):=fun Y=>by
   rw [ZCT,if_neg (by decide)]
   congr 3
   rw [show (2 : Int) ^ min (8 : Int).toNat IntKind.u64.bits=256 from rfl]
   rw [Int.fdiv_eq_ediv_of_nonneg _ (by decide)]
   omega
  have c3 : ld1 (pt p) H=some (sl,H):=Zft hc
  refine ⟨H',own2,(Zy ?_).trans e4,?_,(k1.step.more (by simp) (fun j hj=>.inl hj)).trans (st3.trans st4)⟩
  ·rw [ZI]
   unfold Yv.l1
   rw [Za Zm,Zb,if_pos (by simpa using hlt),Za Zt,Za Zh,Za c3,Za c1,Za e1,Za e2,Za Zt,Za Zh,Za e3,Za (c2 _),Za ZB,Qg (by omega)]
   rfl
  ·rw [List.append_assoc] at w4
   exact w4
theorem Zyu {N x : Nat} (hN : N≤1000) (hx : x < 18446744073709551616) (hb : bs.length+N≤1000000000000) (h : Wtr H p bs own) : ∃ H' own',R (n+1) KJ [pt p,.int .u64 x,iv N] H=some (pt p,H')∧Wtr H' p (bs++le x N) own'∧ZC (p :: own) H (p :: own') H':=by
 obtain ⟨H',own',e,w,s⟩:=ZyM (n:=n) hN N 0 x bs own H (by omega) (by omega) hx hb h
 have e : Zi (c4 (Yv.l1 (R n))) [pt p,.int .u64 x,iv N,.int .i64 0] H=_:=e
 refine ⟨H',own',?_,w,s⟩
 rw [R,Zk1 rfl]
 unfold Yv
 rw [ZT e,ZE]
 rfl
theorem Zwi {x : Nat} (hx : x < 256) (hb : bs.length≤100000000000) (h : Wtr H p bs own) : ∃ H' own',R (n+2) JS [pt p,.int .u8 x] H=some (pt p,H')∧Wtr H' p (bs++le x 1) own'∧ZC (p :: own) H (p :: own') H':=by
 obtain ⟨H',own',e,w,s⟩:=Zyu (n:=n) (N:=1) (x:=x) (by omega) (by omega) (by omega) h
 have e : R (n+1) KJ [pt p,.int .u64 x,.int .i64 1] H=_:=e
 have c1 : cvi .u64 (.int .u8 x) H=some (.int .u64 x,H):=by rw [QG,Zqr,Int.emod_eq_of_lt (by omega) (by omega)]
 refine ⟨H',own',?_,w,s⟩
 rw [R,Zkl rfl]
 unfold ZdH
 rw [Za c1,Za e]
 rfl
theorem ZtW {x : Nat} (hx : x < 65536) (hb : bs.length≤100000000000) (h : Wtr H p bs own) : ∃ H' own',R (n+2) Yw [pt p,.int .u16 x] H=some (pt p,H')∧Wtr H' p (bs++le x 2) own'∧ZC (p :: own) H (p :: own') H':=by
 obtain ⟨H',own',e,w,s⟩:=Zyu (n:=n) (N:=2) (x:=x) (by omega) (by omega) (by omega) h
 have e : R (n+1) KJ [pt p,.int .u64 x,.int .i64 2] H=_:=e
 have c1 : cvi .u64 (.int .u16 x) H=some (.int .u64 x,H):=by rw [QG,Zqr,Int.emod_eq_of_lt (by omega) (by omega)]
 refine ⟨H',own',?_,w,s⟩
 rw [R,Zlt rfl]
 unfold Zej
 rw [Za c1,Za e]
 rfl
theorem ZwE (n : Int) : IntKind.u16.wrap n=n % 65536:=by simp [IntKind.wrap,IntKind.bits,IntKind.signed]
theorem ZCz : QK 1 H (strv s)=some (u8s s):=by
 unfold strv QK
 rfl
theorem ZzT : A.flen (strv s)=(u8s s).length:=by
 rw [Jw]
 unfold strv A.flen
 exact Zrb
theorem Zmo (hs : s.length≤65535) (hb : bs.length≤1000000000) (h : Wtr H p bs own) : ∃ H' own',R (n+3) JT [pt p,strv s] H=some (pt p,H')∧Wtr H' p (bs++txt s) own'∧ZC (p :: own) H (p :: own') H':=by
 obtain ⟨H1,q1,e1,w1,s1⟩:=ZtW (n:=n) (x:=s.length) (by omega) (by omega) h
 obtain ⟨sl,hc,hr⟩:=w1.o
 have hl2 : (u8s (bs++le s.length 2)).length=bs.length+2:=by rw [Jw,List.length_append,Zct]
 have hl3 : (u8s s).length=s.length:=Jw s
 obtain ⟨sl',H2,q2,e2,r2,s2⟩:=hr.addN (b:=1) (x:=strv s) ZCz ZzT (by omega) (by omega)
 rw [← ZA3,List.append_assoc] at r2
 obtain ⟨H3,e3,w3,s3⟩:=w1.put r2 s2
 have c0 : mxi false (iv s.length) (.int .i64 65535) H=some (iv s.length,H):=by rw [Yz,if_neg (by omega)]
 have c1 : sls (strv s) none (some (iv s.length)) H=some (strv s,H):=by
  have:=ZsQ (s:=s) (k:=s.length) (H:=H) (Nat.le_refl _)
  rwa [List.take_length] at this
 have c2 : cvi .u16 (iv s.length) H=some (.int .u16 s.length,H):=by rw [QG,ZwE,Int.emod_eq_of_lt (by omega) (by omega)]
 have c3 : ld1 (pt p) H1=some (sl,H1):=Zft hc
 refine ⟨H3,q2,?_,w3,s1.trans s3⟩
 rw [R,ZkA rfl]
 unfold Zdz
 rw [Za ZP,Za c0,Za c1,Za ZP,Za c2,Za e1,Za Zt,Za Zh,Za c3,Za e2,Za Zt,Za Zh,Za e3]
 rfl
theorem Zws {b : Value} {bs : List UInt8} (hb : Sl H b (u8s bs)) (hp : bs.length≤140737488355328) :
  ∃ v q H',R (n+1) ZbZ [b] H=some (v,H')∧ZA H' v (u8s bs) q∧HLe H H'∧∀ j∈q,H.length≤j:=by
 rw [R,Zrs rfl]
 rcases hb.isnil (H':=H) with ⟨rfl,hp0,e⟩ | e
 ·refine ⟨.slice none 0 0,[],H,?_,by rw [hp0];exact ZA.nil,.refl _,by simp⟩
  unfold ZeI
  rw [Za e]
  rfl
 ·have hb2 : Sl (H++[.cells [] 1 false false]) b (u8s bs):=hb.mono (.app _ _)
  obtain ⟨sl',H',own',e2,hr,hle,ho⟩:=Zui (b:=1) hb2 (by rw [Jw];omega) (by rw [Jw];omega) (s:=.slice (some ⟨H.length,0,none⟩) 0 0) (.inr ⟨H.length,false,rfl,Zw,rfl⟩)
  refine ⟨sl',own',H',?_,hr,(HLe.app _ _).trans hle,fun j hj=>?_⟩
  ·unfold ZeI
   rw [Za e,Zb,if_neg (by simp),Za Zz9,Za e2]
   rfl
  ·rcases ho j hj with h | ⟨_,h⟩
   ·simp at h;omega
   ·cases h;exact Nat.le_refl _
theorem ZzS (hb : bs.length≤1000000000) (h : Wtr H p bs own) : ∃ v q H',R (n+2) KS [pt p] H=some (v,H')∧ZA H' v (u8s bs) q∧HLe H H'∧∀ j∈q,H.length≤j:=by
 obtain ⟨sl,hc,hr⟩:=h.o
 obtain ⟨v,q,H',e,r,l,o⟩:=Zws (n:=n) hr.rd (by omega)
 refine ⟨v,q,H',?_,r,l,o⟩
 rw [R,Zi5 rfl]
 unfold Zc4
 rw [Za Zt,Za Zh,Za (Zft hc),Za e]
 rfl
theorem ZAT : bld (.agg #[.slice none 0 0]) [] H=some (.agg #[.slice none 0 0],H)∧alc 1 (.agg #[.slice none 0 0]) H=some (pt H.length,H++[.cells [.slice none 0 0] 1 false false])∧Wtr (H++[.cells [.slice none 0 0] 1 false false]) H.length [] []:=
 ⟨rfl,rfl,⟨⟨.slice none 0 0,Zw,ZA.nil⟩,by simp⟩⟩
end
end Go.Proofs.YtedkoimihknggaaGreatDoor.A
namespace Go.Proofs.YtedkoimihknggaaGreatDoor.A
set_option linter.unusedVariables false
set_option linter.unusedSimpArgs false
open Go.Proofs Go.Proofs.YtedkoimihknggaaGreatDoor
abbrev RSt:=Nat × List UInt8
def leN : List UInt8→Nat
 | []=>0
 | b :: l=>b.toNat+256 * leN l
def ZgY (e : Nat) (s : RSt) : RSt:=if s.1=0∧e≠0 then (e,[]) else s
def tkS (n : Nat) (s : RSt) : List UInt8 × RSt:=if n≤s.2.length then (s.2.take n,(s.1,s.2.drop n)) else ([],ZgY 2 s)
def ZaN (k : Nat) (s : RSt) : Nat × RSt:=(leN (tkS k s).1,(tkS k s).2)
def ZeV (most : Nat) (s : RSt) : Nat × RSt:=if (ZaN 2 s).1 > most then (0,ZgY 3 (ZaN 2 s).2) else ZaN 2 s
def ZdW (most : Nat) (s : RSt) : List UInt8 × RSt:=tkS (ZeV most s).1 (ZeV most s).2
def RB (H : Zd) (sl : Value) (bs : List UInt8) : Prop:=
 (bs=[]∧(sl=.slice none 0 0∨∃ id o j,sl=.slice (some ⟨id,o,some j⟩) 0 0))∨
 ∃ id o c cs g ro,sl=.slice (some ⟨id,o,none⟩) bs.length c∧bs.length≤c∧H[id]?=some (.cells cs 1 g ro)∧o+bs.length≤cs.length∧(cs.drop o).take bs.length=u8s bs
def Rdr (H : Zd) (p : Nat) (s : RSt) : Prop:=
 ∃ sl,H[p]?=some (.cells [sl,iv s.1] 1 false false)∧RB H sl s.2∧(∀ j,own1 sl=some j→j < p)∧(s.1≠0→s.2=[])
theorem ZuM : ∀ (l : List UInt8),leN l < 256 ^ l.length
 | []=>by decide
 | b :: l=>by
  have h1:=ZuM l
  have h2 : b.toNat < 256:=b.toNat_lt
  rw [List.length_cons,Nat.pow_succ]
  unfold leN
  omega
theorem ZnU : ∀ (l : List UInt8) (b : UInt8),leN (l++[b])=leN l+b.toNat * 2 ^ (8 * l.length)
 | [],b=>by simp [leN]
 | a :: l,b=>by
  rw [List.cons_append]
  unfold leN
  rw [ZnU l b,List.length_cons,Nat.mul_add,show 8 * (l.length+1)=8 * l.length+8 by omega,Nat.pow_add]
  have : 256 * (b.toNat * 2 ^ (8 * l.length))=b.toNat * (2 ^ (8 * l.length) * 2 ^ 8):=by
   rw [← Nat.mul_assoc,Nat.mul_comm 256,Nat.mul_assoc,Nat.mul_comm 256]
  omega
section
variable {H X : Zd} {n p : Nat} {sl x v : Value} {vs ws : List Value} {own : List Nat} {bs : List UInt8} {s : RSt}
theorem RB.rd (h : RB H sl bs) : Sl H sl (u8s bs):=by
 rcases h with ⟨rfl,rfl | ⟨id,o,j,rfl⟩⟩ | ⟨id,o,c,cs,g,ro,rfl,h1,h2,h3,h4⟩
 ·exact Sl.nil
 ·exact ⟨_,_,rfl,(fun e=>by cases e),rfl⟩
 ·refine ⟨_,c,by rw [Jw],(fun e=>by cases e),?_⟩
  unfold QK
  simp only [h2,Nat.mul_one]
  rw [if_pos h3,h4]
theorem RB.one (h : RB H sl bs) : oneCell sl=true:=by
 rcases h with ⟨rfl,rfl | ⟨id,o,j,rfl⟩⟩ | ⟨id,o,c,cs,g,ro,rfl,_⟩ <;> rfl
theorem RB.keep (h : RB H sl bs) (hk : ∀ j,own1 sl=some j→X[j]?=H[j]?) : RB X sl bs:=by
 rcases h with h | ⟨id,o,c,cs,g,ro,rfl,h1,h2,h3,h4⟩
 ·exact .inl h
 ·exact .inr ⟨id,o,c,cs,g,ro,rfl,h1,by rw [hk id rfl];exact h2,h3,h4⟩
theorem ZA.rb {q : List Nat} (h : ZA H sl (u8s bs) q) : RB H sl bs:=by
 rcases h with ⟨h1,rfl,rfl⟩ | ⟨sid,rest,g,rfl,rfl,hid⟩
 ·refine .inl ⟨?_,.inl rfl⟩
  cases bs with
  | nil=>rfl
  | cons b l=>simp [u8s] at h1
 ·refine .inr ⟨sid,0,_,_,g,false,by rw [Jw],by first | omega | (rw [Jw];omega),hid,?_,?_⟩
  ·rw [List.length_append,Jw];omega
  ·rw [List.drop_zero,← Jw bs,List.take_left]
theorem RB.cut (h : RB H sl bs) {k : Nat} (hk : k≤bs.length) : ∃ a b,slv 1 sl none (some (iv k)) none H=some (a,H)∧slv 1 sl (some (iv k)) none none H=some (b,H)∧RB H a (bs.take k)∧RB H b (bs.drop k)∧(∀ j,own1 a=some j→own1 sl=some j)∧(∀ j,own1 b=some j→own1 sl=some j):=by
 have b1 : ∀ d,bnd (some (iv k)) d=some k:=fun d=>by simp [bnd]
 have b2 : ∀ d,bnd none d=some d:=fun _=>rfl
 rcases h with ⟨rfl,h⟩ | ⟨id,o,c,cs,g,ro,rfl,h1,h2,h3,h4⟩
 ·have hk0 : k=0:=by simpa using hk
  subst hk0
  rcases h with rfl | ⟨id,o,j,rfl⟩
  ·exact ⟨_,_,rfl,rfl,.inl ⟨rfl,.inl rfl⟩,.inl ⟨rfl,.inl rfl⟩,fun _ h=>h,fun _ h=>h⟩
  ·exact ⟨_,_,rfl,rfl,.inl ⟨rfl,.inr ⟨_,_,_,rfl⟩⟩,.inl ⟨rfl,.inr ⟨_,_,_,rfl⟩⟩,fun _ h=>h,fun _ h=>h⟩
 ·have hA : ∃ a,slv 1 (.slice (some ⟨id,o,none⟩) bs.length c) none (some (iv k)) none H=some (a,H)∧RB H a (bs.take k)∧(∀ j,own1 a=some j→some id=some j):=by
   by_cases h0 : c=0
   ·have hb : bs=[]:=List.eq_nil_of_length_eq_zero (by omega)
    subst hb
    refine ⟨.slice (some ⟨id,o,some (bif g then 1 else 0)⟩) 0 0,?_,.inl ⟨List.take_nil,.inr ⟨_,_,_,rfl⟩⟩,fun j h=>by cases h⟩
    have hk0 : k=0:=by simpa using hk
    subst hk0
    simp only [slv,h2,b1,b2]
    rw [if_pos ⟨trivial,by omega,by omega,Nat.le_refl _⟩,if_pos (by omega)]
   ·have hl : (bs.take k).length=k:=by simp;omega
    refine ⟨.slice (some ⟨id,o,none⟩) k c,?_,.inr ⟨id,o,c,cs,g,ro,by rw [hl],by omega,h2,by omega,?_⟩,fun j h=>h⟩
    ·simp only [slv,h2,b1,b2]
     rw [if_pos ⟨trivial,by omega,by omega,Nat.le_refl _⟩,if_neg (by omega)]
     simp
    ·have:=congrArg (List.take k) h4
     rw [List.take_take,Nat.min_eq_left hk] at this
     rw [hl,this]
     simp [u8s,List.map_take]
  have hB : ∃ b,slv 1 (.slice (some ⟨id,o,none⟩) bs.length c) (some (iv k)) none none H=some (b,H)∧RB H b (bs.drop k)∧(∀ j,own1 b=some j→some id=some j):=by
   by_cases h0 : c=k
   ·have hb : bs.drop k=[]:=List.drop_eq_nil_of_le (by omega)
    refine ⟨.slice (some ⟨id,o,some (bif g then 1 else 0)⟩) 0 0,?_,.inl ⟨hb,.inr ⟨_,_,_,rfl⟩⟩,fun j h=>by cases h⟩
    simp only [slv,h2,b1,b2]
    rw [if_pos ⟨trivial,by omega,by omega,Nat.le_refl _⟩,if_pos (by omega)]
   ·have hl : (bs.drop k).length=bs.length - k:=by simp
    refine ⟨.slice (some ⟨id,o+k,none⟩) (bs.length - k) (c - k),?_,.inr ⟨id,o+k,c - k,cs,g,ro,by rw [hl],by omega,h2,by omega,?_⟩,fun j h=>h⟩
    ·simp only [slv,h2,b1,b2]
     rw [if_pos ⟨trivial,by omega,by omega,Nat.le_refl _⟩,if_neg (by omega)]
     simp
    ·have:=congrArg (List.drop k) h4
     rw [List.drop_take,List.drop_drop] at this
     rw [hl,this]
     simp [u8s,List.map_drop]
  obtain ⟨a,a1,a2,a3⟩:=hA
  obtain ⟨b,c1,c2,c3⟩:=hB
  exact ⟨a,b,a1,c1,a2,c2,a3,c3⟩
theorem Rdr.lt (h : Rdr H p s) : p < H.length:=by
 obtain ⟨sl,hc,_⟩:=h
 exact QD hc
theorem Rdr.other {a : Nat} {o : Ze} (h : Rdr H p s) (ha : p < a) : Rdr (H.set a o) p s:=by
 obtain ⟨sl,h1,h2,h3,h4⟩:=h
 exact ⟨sl,(List.getElem?_set_ne (by omega)).trans h1,h2.keep fun j hj=>List.getElem?_set_ne (by have:=h3 j hj;omega),h3,h4⟩
theorem Rdr.hle (h : Rdr H p s) (hl : HLe H X) : Rdr X p s:=by
 obtain ⟨sl,hc,hr,hn,h0⟩:=h
 refine ⟨sl,hl _ _ hc,hr.keep fun j hj=>?_,hn,h0⟩
 rcases hr with ⟨_,rfl | ⟨id,o,k,rfl⟩⟩ | ⟨id,o,c,cs,g,ro,rfl,h1,h2,h3,h4⟩
 ·cases hj
 ·cases hj
 ·cases hj
  rw [h2,hl _ _ h2]
theorem Rdr.put {s' : RSt} {sl' : Value} (hc : H[p]?=some (.cells [x,v] 1 false false)) (hr : RB H sl' s'.2) (hn : ∀ j,own1 sl'=some j→j < p) (h0 : s'.1≠0→s'.2=[]) : Rdr (H.set p (.cells [sl',iv s'.1] 1 false false)) p s'∧ZC [p] H [p] (H.set p (.cells [sl',iv s'.1] 1 false false)):=
 ⟨⟨sl',ZM hc,hr.keep fun j hj=>List.getElem?_set_ne (fun e=>by have:=hn j hj;omega),hn,h0⟩,⟨by simp,fun j hj hm=>List.getElem?_set_ne (fun e=>hm (by simp [e])),fun j hj=>.inl hj⟩⟩
theorem Zqf {e : Nat} (he : e≤1000) (h : Rdr H p s) : ∃ H',R (n+1) Qk [pt p,iv e] H=some (.tuple #[],H')∧Rdr H' p (ZgY e s)∧ZC [p] H [p] H':=by
 obtain ⟨sl,hc,hr,hn,h0⟩:=h
 have a1 : ld1 (pa p 1) H=some (iv s.1,H):=Zv hc rfl
 have f1 : ∀ H',Wj (R n) (pt p) (iv e) H=some (.tuple #[],H')→R (n+1) Qk [pt p,iv e] H=some (.tuple #[],H'):=fun H' hr=>by rw [R,Zkj rfl];exact hr
 unfold ZgY
 by_cases hs : s.1=0
 ·have q1 : bop .int .eql (iv s.1) (.int .i64 0) H=some (.bool true,H):=by rw [ZD,hs];rfl
  by_cases he0 : e=0
  ·have q2 : bop .int .neq (iv e) (.int .i64 0) H=some (.bool false,H):=by rw [Zq,he0];rfl
   rw [if_neg (by simp [he0])]
   refine ⟨H,f1 _ ?_,⟨sl,hc,hr,hn,h0⟩,.refl _ _⟩
   unfold Wj
   rw [Za Zt,Za Zh,Za a1,Za q1,ZU,Zk,Za q2,ZV,ZX,Za Zl]
   simp only [cond_true]
   refine (ZZ (vs:=[]) (H':=H) ?_).trans ?_
   ·rw [Zb,if_neg (by simp)];rfl
   ·rfl
  ·have q2 : bop .int .neq (iv e) (.int .i64 0) H=some (.bool true,H):=by rw [Zq];simp [he0]
   rw [if_pos ⟨hs,he0⟩]
   have w1 : st1 (pa p 0) (.slice none 0 0) H=some (undef,H.set p (.cells [.slice none 0 0,iv s.1] 1 false false)):=K7 (o:=0) hc (by simp) rfl
   have c1 : (H.set p (.cells [.slice none 0 0,iv s.1] 1 false false))[p]?=some (.cells [.slice none 0 0,iv s.1] 1 false false):=ZM hc
   have w2 : st1 (pa p 1) (iv e) (H.set p (.cells [.slice none 0 0,iv s.1] 1 false false))=some (undef,(H.set p (.cells [.slice none 0 0,iv s.1] 1 false false)).set p (.cells [.slice none 0 0,iv e] 1 false false)):=K7 (o:=1) c1 (by simp) rfl
   rw [List.set_set] at w2
   have hp:=Rdr.put (s':=(e,[])) (sl':=.slice none 0 0) hc (.inl ⟨rfl,.inl rfl⟩) (by simp [own1]) (fun _=>rfl)
   refine ⟨_,f1 _ ?_,hp.1,hp.2⟩
   unfold Wj
   rw [Za Zt,Za Zh,Za a1,Za q1,ZU,Zk,Za q2,ZV,ZX,Za Zl]
   simp only [cond_true]
   refine (ZZ (vs:=[]) (H':=H.set p (.cells [.slice none 0 0,iv e] 1 false false)) ?_).trans ?_
   ·rw [Zb,if_pos (by simp),Za Zt,Za Zh,Za w1,Za Zt,Za Zh,Za w2];rfl
   ·rfl
 ·have q1 : bop .int .eql (iv s.1) (.int .i64 0) H=some (.bool false,H):=by rw [ZD];simp [hs]
  rw [if_neg (by simp [hs])]
  refine ⟨H,f1 _ ?_,⟨sl,hc,hr,hn,h0⟩,.refl _ _⟩
  unfold Wj
  rw [Za Zt,Za Zh,Za a1,Za q1,Za (g_r.trans (if_neg (by simp)))]
  simp only [List.replicate]
  rw [ZX,Za Zl]
  simp only [cond_false]
  refine (ZZ (vs:=[]) (H':=H) ?_).trans ?_
  ·rw [Zb,if_neg (by simp)];rfl
  ·rfl
theorem Zyn {k : Nat} (hk : k≤1000000000) (h : Rdr H p s) : ∃ v H',R (n+2) Kl [pt p,iv k] H=some (v,H')∧RB H' v (tkS k s).1∧Rdr H' p (tkS k s).2∧ZC [p] H [p] H':=by
 have h':=h
 obtain ⟨sl,hc,hr,hn,h0⟩:=h
 have a1 : ld1 (pa p 0) H=some (sl,H):=Zv hc rfl
 have hl : Zx sl H=some (iv s.2.length,H):=by have:=hr.rd.len (H':=H);rwa [Jw] at this
 have f1 : ∀ r H',Zab (R (n+1)) (pt p) (iv k) H=some (r,H')→R (n+2) Kl [pt p,iv k] H=some (r,H'):=fun r H' hr=>by rw [R,Zkn rfl];exact hr
 unfold tkS
 by_cases hle : k≤s.2.length
 ·rw [if_pos hle]
  obtain ⟨a,b,e1,e2,ra,rb,oa,ob⟩:=hr.cut hle
  have q1 : bop .int .gtr (iv k) (iv s.2.length) H=some (.bool false,H):=by rw [Z0,decide_eq_false (by omega)]
  have w1 : st1 (pa p 0) b H=some (undef,H.set p (.cells [b,iv s.1] 1 false false)):=K7 (o:=0) hc (by simp) rb.one
  have hp:=Rdr.put (s':=(s.1,s.2.drop k)) (sl':=b) hc rb (fun j e=>hn j (ob _ e)) (fun h=>by simp [h0 h])
  refine ⟨a,_,f1 _ _ ?_,ra.keep fun j hj=>List.getElem?_set_ne (fun e=>by have:=hn j (oa _ hj);omega),hp.1,hp.2⟩
  unfold Zab
  rw [Za Zt,Za Zh,Za a1,Za hl,Za q1,Zb,if_neg (by simp),Za Zt,Za Zh,Za a1,Za e1,Za Zt,Za Zh,Za a1,Za e2,Za Zt,Za Zh,Za w1]
  rfl
 ·rw [if_neg hle]
  have q1 : bop .int .gtr (iv k) (iv s.2.length) H=some (.bool true,H):=by rw [Z0,decide_eq_true (by omega)]
  obtain ⟨H',e2,r2,s2⟩:=Zqf (n:=n) (e:=2) (by omega) h'
  have e2 : R (n+1) Qk [pt p,.int .i64 2] H=_:=e2
  refine ⟨.slice none 0 0,H',f1 _ _ ?_,.inl ⟨rfl,.inl rfl⟩,r2,s2⟩
  unfold Zab
  rw [Za Zt,Za Zh,Za a1,Za hl,Za q1,Zb,if_pos rfl,Za e2]
  rfl
theorem ZvT {bs : List UInt8} (hb : bs.length≤8) (hs : Sl X v (u8s bs)) : ∀ (t k : Nat),bs.length - k=t→k≤bs.length→
  Zi (c4 (Yy.l1 (R n))) [.int .u64 (leN (bs.take k)),v,iv bs.length,iv k] X=some (.ext 0 [.int .u64 (leN bs)],X)
 | 0,k,ht,hk=>by
  have : k=bs.length:=by omega
  subst this
  refine ZK ?_
  rw [ZI,List.take_length]
  unfold Yy.l1
  rw [Za Zm,Zb,if_neg (by simp)]
  rfl
 | t+1,k,ht,hk=>by
  have hkl : k < bs.length:=by omega
  have hlt : (k : Int) < bs.length:=by omega
  have hg:=List.getElem?_eq_getElem hkl
  have htk : bs.take (k+1)=bs.take k++[bs[k]]:=(List.take_append_getElem hkl).symm
  generalize bs[k]=b at hg htk
  have hkk : (u8s bs)[k]?=some (.int .u8 b.toNat):=by simp [u8s,hg]
  have x1:=hs.ix (i:=k) (by rw [Jw];exact hkl) .i64 X
  have x2:=hs.ldx hkk
  have hb2 : b.toNat < 256:=b.toNat_lt
  have hlen : (bs.take k).length=k:=by simp;omega
  have hpow : 2 ^ (8 * k)≤2 ^ 56:=Nat.pow_le_pow_right (by decide) (by omega)
  have hlt2 : leN (bs.take k) < 2 ^ (8 * k):=by
   have:=ZuM (bs.take k)
   rw [hlen] at this
   rwa [Nat.pow_mul]
  have hprod : b.toNat * 2 ^ (8 * k)≤255 * 2 ^ 56:=Nat.mul_le_mul (by omega) hpow
  have c1 : cvi .u64 (.int .u8 b.toNat) X=some (.int .u64 b.toNat,X):=by rw [QG,Zqr,Int.emod_eq_of_lt (by omega) (by omega)]
  have c2 : bop .int .mul (.int .i64 8) (iv k) X=some (iv ((8 * k : Nat) : Int),X):=by rw [JY,w64 (by omega) (by omega)];simp
  have c3 : bop .int .shl (.int .u64 b.toNat) (iv ((8 * k : Nat) : Int)) X=some (.int .u64 ((b.toNat * 2 ^ (8 * k) : Nat) : Int),X):=by
   rw [ZCU,if_neg (by omega)]
   have hm : min ((8 * k : Nat) : Int).toNat IntKind.u64.bits=8 * k:=by
    rw [Int.toNat_natCast]
    show min (8 * k) 64=8 * k
    omega
   have hc : (b.toNat : Int) * 2 ^ (8 * k)=((b.toNat * 2 ^ (8 * k) : Nat) : Int):=by push_cast;rfl
   rw [hm,hc,Zqr,Int.emod_eq_of_lt (by omega) (by omega)]
  have c4' : bop .int .or (.int .u64 (leN (bs.take k))) (.int .u64 ((b.toNat * 2 ^ (8 * k) : Nat) : Int)) X=some (.int .u64 (leN (bs.take (k+1))),X):=by
   rw [ZDb]
   have ho : ((BitVec.ofInt IntKind.u64.bits (leN (bs.take k) : Int) ||| BitVec.ofInt IntKind.u64.bits ((b.toNat * 2 ^ (8 * k) : Nat) : Int)).toNat)=leN (bs.take (k+1)):=by
    rw [BitVec.toNat_or,BitVec.ofInt_natCast,BitVec.ofInt_natCast,BitVec.toNat_ofNat,BitVec.toNat_ofNat]
    show leN (bs.take k) % 2 ^ 64 ||| (b.toNat * 2 ^ (8 * k)) % 2 ^ 64=_
    rw [Nat.mod_eq_of_lt (by omega),Nat.mod_eq_of_lt (by omega),htk,ZnU,hlen,Nat.or_comm,← Nat.shiftLeft_eq,← Nat.shiftLeft_add_eq_or_of_lt hlt2,Nat.add_comm]
   rw [ho]
   have : leN (bs.take (k+1)) < 2 ^ 64:=by
    rw [htk,ZnU,hlen];omega
   rw [Zqr,Int.emod_eq_of_lt (by omega) (by omega)]
  refine (Zy ?_).trans (ZvT hb hs t (k+1) (by omega) (by omega))
  rw [ZI]
  unfold Yy.l1
  rw [Za Zm,Zb,if_pos (by simpa using hlt),Za x1,Za x2,Za c1,Za c2,Za c3,Za c4',Za ZB,Qg (by omega)]
  rfl
theorem Zwk {k : Nat} : (tkS k s).1.length≤k:=by
 unfold tkS
 split
 ·simp;omega
 ·exact Nat.zero_le _
theorem Zyw {k : Nat} (hk : k≤8) (h : Rdr H p s) : ∃ H',R (n+3) KI [pt p,iv k] H=some (.int .u64 (ZaN k s).1,H')∧Rdr H' p (ZaN k s).2∧ZC [p] H [p] H':=by
 obtain ⟨v,H',e1,rb,r1,s1⟩:=Zyn (n:=n) (k:=k) (by omega) h
 have hl:=Zwk (k:=k) (s:=s)
 have e2 : Zx v H'=some (iv (tkS k s).1.length,H'):=by have:=rb.rd.len (H':=H');rwa [Jw] at this
 have e3:=ZvT (n:=n+2) (bs:=(tkS k s).1) (by omega) rb.rd (tkS k s).1.length 0 (by omega) (by omega)
 have e3 : Zi (c4 (Yy.l1 (R (n+2)))) [.int .u64 0,v,iv (tkS k s).1.length,.int .i64 0] H'=_:=e3
 refine ⟨H',?_,r1,s1⟩
 rw [R,ZlP rfl]
 unfold Yy
 rw [Za e1,Za e2,ZT e3,ZE]
 rfl
theorem ZiU {k : Nat} : (ZaN k s).1 < 256 ^ k:=
 Nat.lt_of_lt_of_le (ZuM _) (Nat.pow_le_pow_right (by decide) Zwk)
theorem ZCh (h : Rdr H p s) : ∃ H',R (n+4) Ko [pt p] H=some (.int .u8 (ZaN 1 s).1,H')∧Rdr H' p (ZaN 1 s).2∧ZC [p] H [p] H':=by
 obtain ⟨H',e,r,st⟩:=Zyw (n:=n) (k:=1) (by omega) h
 have e : R (n+3) KI [pt p,.int .i64 1] H=_:=e
 have hl:=ZiU (s:=s) (k:=1)
 have c1 : cvi .u8 (.int .u64 (ZaN 1 s).1) H'=some (.int .u8 (ZaN 1 s).1,H'):=by rw [QG,wu8,Int.emod_eq_of_lt (by omega) (by omega)]
 refine ⟨H',?_,r,st⟩
 rw [R,Zke rfl]
 unfold ZdF
 rw [Za e,Za c1]
 rfl
theorem ZAo (h : Rdr H p s) : ∃ H',R (n+4) Y7 [pt p] H=some (.int .u16 (ZaN 2 s).1,H')∧Rdr H' p (ZaN 2 s).2∧ZC [p] H [p] H':=by
 obtain ⟨H',e,r,st⟩:=Zyw (n:=n) (k:=2) (by omega) h
 have e : R (n+3) KI [pt p,.int .i64 2] H=_:=e
 have hl:=ZiU (s:=s) (k:=2)
 have c1 : cvi .u16 (.int .u64 (ZaN 2 s).1) H'=some (.int .u16 (ZaN 2 s).1,H'):=by rw [QG,ZwE,Int.emod_eq_of_lt (by omega) (by omega)]
 refine ⟨H',?_,r,st⟩
 rw [R,ZlG rfl]
 unfold Zd9
 rw [Za e,Za c1]
 rfl
theorem ZAb {most : Nat} (hm : most≤1000000) (h : Rdr H p s) : ∃ H',R (n+5) KP [pt p,iv most] H=some (iv (ZeV most s).1,H')∧Rdr H' p (ZeV most s).2∧ZC [p] H [p] H':=by
 obtain ⟨H1,e1,r1,s1⟩:=ZAo (n:=n) h
 have hl:=ZiU (s:=s) (k:=2)
 have c1 : cvi .i64 (.int .u16 (ZaN 2 s).1) H1=some (iv (ZaN 2 s).1,H1):=by rw [QG,w64 (by omega) (by omega)]
 have c2 : mxi true (.int .i64 0) (iv most) H1=some (iv most,H1):=by
  rw [YT]
  by_cases h0 : (most : Int) > 0
  ·rw [if_pos h0]
  ·rw [if_neg h0,show (most : Int)=0 by omega]
 have f1 : ∀ r H',WS (R (n+4)) (pt p) (iv most) H=some (r,H')→R (n+5) KP [pt p,iv most] H=some (r,H'):=fun r H' hr=>by rw [R,Zi1 rfl];exact hr
 unfold ZeV
 by_cases hg : (ZaN 2 s).1 > most
 ·rw [if_pos hg]
  have q1 : bop .int .gtr (iv (ZaN 2 s).1) (iv most) H1=some (.bool true,H1):=by rw [Z0,decide_eq_true (by omega)]
  obtain ⟨H2,e2,r2,s2⟩:=Zqf (n:=n+3) (e:=3) (by omega) r1
  have e2 : R (n+4) Qk [pt p,.int .i64 3] H1=_:=e2
  refine ⟨H2,f1 _ _ ?_,r2,s1.trans s2⟩
  unfold WS
  rw [Za e1,Za c1,Za c2,Za q1,Zb,if_pos rfl,Za e2]
  rfl
 ·rw [if_neg hg]
  have q1 : bop .int .gtr (iv (ZaN 2 s).1) (iv most) H1=some (.bool false,H1):=by rw [Z0,decide_eq_false (by omega)]
  refine ⟨H1,f1 _ _ ?_,r1,s1⟩
  unfold WS
  rw [Za e1,Za c1,Za c2,Za q1,Zb,if_neg (by simp)]
  rfl
theorem Zyr {most : Nat} : (ZeV most s).1 < 65536:=by
 have hl:=ZiU (s:=s) (k:=2)
 unfold ZeV
 split
 ·show 0 < 65536
  decide
 ·exact hl
theorem ZxP {most : Nat} (hm : most≤1000000) (h : Rdr H p s) : ∃ H',R (n+6) Ym [pt p,iv most] H=some (strv (ZdW most s).1,H')∧Rdr H' p (ZdW most s).2∧ZC [p] H [p] H':=by
 obtain ⟨H1,e1,r1,s1⟩:=ZAb (n:=n) hm h
 have hl:=Zyr (s:=s) (most:=most)
 obtain ⟨v,H2,e2,rb,r2,s2⟩:=Zyn (n:=n+3) (k:=(ZeV most s).1) (by omega) r1
 have e2 : R (n+5) Kl [pt p,iv (ZeV most s).1] H1=_:=e2
 refine ⟨H2,?_,r2,s1.trans s2⟩
 rw [R,Zkq rfl]
 unfold ZdD
 rw [Za e1,Za e2,Za (Zmt rb.rd)]
 rfl
theorem ZsW (h : Rdr H p s) : R (n+1) QF [pt p] H=some (iv s.1,H):=by
 obtain ⟨sl,hc,hr,hn,h0⟩:=h
 have a1 : ld1 (pa p 1) H=some (iv s.1,H):=Zv hc rfl
 rw [R,Zlp rfl]
 unfold Zee
 rw [Za Zt,Za Zh,Za a1]
 rfl
def Zgr (s : RSt) : Nat:=if s.1=0 then (if s.2=[] then 0 else 3) else s.1
theorem ZCY (h : Rdr H p s) : R (n+1) KH [pt p] H=some (iv (Zgr s),H):=by
 obtain ⟨sl,hc,hr,hn,h0⟩:=h
 have a0 : ld1 (pa p 0) H=some (sl,H):=Zv hc rfl
 have a1 : ld1 (pa p 1) H=some (iv s.1,H):=Zv hc rfl
 have hl : Zx sl H=some (iv s.2.length,H):=by have:=hr.rd.len (H':=H);rwa [Jw] at this
 unfold Zgr
 rw [R,ZkO rfl]
 unfold Zeg
 by_cases hs : s.1=0
 ·have q1 : bop .int .eql (iv s.1) (.int .i64 0) H=some (.bool true,H):=by rw [ZD,hs];rfl
  rw [if_pos hs,Za Zt,Za Zh,Za a1,Za q1,ZU,Zk,Za Zt,Zk,Za Zh,Zk,Za a0,Zk,Za hl,Zk,Za Z0,ZV,Jy,Za Zl]
  simp only [cond_true]
  rw [Zb]
  by_cases he : s.2=[]
  ·rw [if_neg (by simp [he]),if_pos he,Za Zt,Za Zh,Za a1,hs]
   rfl
  ·have : 0 < s.2.length:=List.length_pos_iff.2 he
   rw [if_pos (by simp;omega),if_neg he]
   rfl
 ·have q1 : bop .int .eql (iv s.1) (.int .i64 0) H=some (.bool false,H):=by rw [ZD];simp [hs]
  rw [if_neg hs,Za Zt,Za Zh,Za a1,Za q1,Za (g_r.trans (if_neg (by simp)))]
  simp only [List.replicate]
  rw [Jy,Za Zl]
  simp only [cond_false]
  rw [Zb,if_neg (by simp),Za Zt,Za Zh,Za a1]
  rfl
theorem ZwU {b : Value} {bs : List UInt8} (hb : Sl H b (u8s bs)) (hp : bs.length≤140737488355328) : ∃ p H',R (n+2) Zeo [b] H=some (pt p,H')∧Rdr H' p (0,bs)∧HLe H H'∧H.length≤p:=by
 obtain ⟨v,q,H1,e1,r1,l1,o1⟩:=Zws (n:=n) hb hp
 have e2 : bld (.agg #[.slice none 0 0,.int .i64 0]) [(0,1,v)] H1=some (.agg #[v,iv 0],H1):=by
  rcases r1 with ⟨_,_,rfl⟩ | ⟨_,_,_,rfl,_,_⟩ <;> rfl
 have e3 : alc 1 (.agg #[v,iv 0]) H1=some (pt H1.length,H1++[.cells [v,iv 0] 1 false false]):=Wd (vs:=[v,iv 0]) (by rw [List.all_cons,r1.one.1];rfl)
 have hl:=l1.len
 refine ⟨H1.length,_,?_,⟨v,Zw,r1.rb.keep fun j hj=>?_,fun j e=>?_,fun h=>absurd rfl h⟩,l1.trans (.app _ _),hl⟩
 ·rw [R,Zvh rfl]
  unfold ZkT
  rw [Za e1,Za e2,Za e3]
  rfl
 ·have:=r1.lt j (by rw [r1.own1 hj];simp)
  exact List.getElem?_append_left this
 ·exact r1.lt j (by rw [r1.own1 e];simp)
end
end Go.Proofs.YtedkoimihknggaaGreatDoor.A

namespace Go.Proofs.YtedkoimihknggaaGreatDoor.A
set_option linter.unusedVariables false
set_option linter.unusedSimpArgs false
open Go.Proofs Go.Proofs.YtedkoimihknggaaGreatDoor
def ZcL (e : Ent) : Nat:=if Zp e.1 then (if YR e.2 then 0 else 4) else 10
def WC (e : Ent) : Zj:=⟨e.1,e.2,[],false,.slice none 0 0,[]⟩
theorem ZvU (e : Ent) (H : Zd) : (WC e).ok H:=.inl ⟨rfl,.inl rfl⟩
theorem Zk6 (e : Ent) : Za5 (WC e)=ZcL e:=by
 unfold Za5 ZcL
 have : ZdL (WC e)=true:=rfl
 rw [this]
 show (if Zp e.1=true then if YR e.2=true then _ else _ else _)=_
 split
 ·split <;> rfl
 ·rfl
theorem Zwb {k : List UInt8} (h : YR k=true) : k.length≤12:=by
 unfold YR at h
 simp only [Bool.and_eq_true,decide_eq_true_eq] at h
 exact h.1.2
theorem Zet {s : List UInt8} : (txt s).length=s.length+2:=by unfold txt;rw [List.length_append,Zct];omega
section
variable {H X : Zd} {n p d b : Nat} {sl x v : Value} {own q : List Nat} {bs : List UInt8} {m : List Ent} {e : Ent}
theorem Qu.users (hr : Qu 5 H v (m.map usr) q) : Users H v (m.map WC):=
 ⟨by have h:=hr.rd;rw [List.map_map];exact h,fun u hu=>by obtain ⟨e,_,rfl⟩:=List.mem_map.1 hu;exact ZvU e H⟩
end
end Go.Proofs.YtedkoimihknggaaGreatDoor.A
namespace Go.Proofs.YtedkoimihknggaaGreatDoor.A
set_option linter.unusedVariables false
set_option linter.unusedSimpArgs false
open Go.Proofs Go.Proofs.YtedkoimihknggaaGreatDoor
def ZuZ (u : Ent) (r : RSt) : Ent × RSt:=
 let r':=if r.1=0 then ZgY (ZcL u) r else r
 (if r'.1=0 then u else ([],[]),r')
def ZeY (s : RSt) : Ent × RSt:=ZuZ ((ZdW 65535 s).1,(ZdW 65535 (ZdW 65535 s).2).1) (ZdW 65535 (ZdW 65535 s).2).2
def ZdZ : Nat→RSt→List Ent × RSt
 | 0,s=>([],s)
 | k+1,s=>((ZeY s).1 :: (ZdZ k (ZeY s).2).1,(ZdZ k (ZeY s).2).2)
def ofN (l : List Ent) : Nat:=(ofE (l.map WC)).toNat
def Zdn (bs : List UInt8) : Nat × List Ent:=
 let b:=ZaN 1 (0,bs)
 if b.2.1=0∧b.1≠1 then (6,[]) else
 let c:=ZaN 2 b.2
 let q:=if c.1 > 12 then ([],ZgY 7 c.2) else ZdZ c.1 c.2
 if q.2.1≠0 then (q.2.1,[]) else
 let e:=if ofN q.1=0 then Zgr q.2 else ofN q.1
 if e≠0 then (e,[]) else (0,q.1)
theorem ZAL (e : Ent) : ZcL e≤10:=by
 unfold ZcL
 split
 ·split <;> omega
 ·omega
theorem ZrX : ∀ {l : List Ent},0≤Wv (l.map WC)
 | []=>Int.le_refl _
 | e :: l=>by
  rw [List.map_cons]
  unfold Wv
  split
  ·exact ZrX
  ·rw [Zk6];omega
theorem ZBX {l : List Ent} : 0≤ofE (l.map WC):=by
 unfold ofE
 have:=ZrX (l:=l)
 split
 ·split
  ·split <;> decide
  ·decide
 ·exact this
theorem ZtG (k : Nat) : ((k : Int)==0)=(k==0):=by rw [Bool.eq_iff_iff];simp
theorem ZtM (k : Nat) : ((k : Int) !=0)=(k !=0):=by rw [Bool.eq_iff_iff];simp
theorem ZAv (l : List Ent) : ofE (l.map WC)=ofN l:=(Int.toNat_of_nonneg ZBX).symm
section
variable {H X : Zd} {n p d b : Nat} {sl x v : Value} {own q : List Nat} {bs : List UInt8} {m : List Ent} {e : Ent} {s : RSt}
theorem ZCH (h : Rdr H p s) : ∃ H',R (n+7) Zeu [pt p,iv 1] H=some (.agg (usr (ZeY s).1).toArray,H')∧Rdr H' p (ZeY s).2∧ZC [p] H [p] H':=by
 have z0 : alc 1 (.agg #[.string ⟨#[]⟩,.string ⟨#[]⟩,.string ⟨#[]⟩,.bool false,.slice none 0 0]) H=some (pt H.length,H++[.cells (usr ([],[])) 1 false false]):=Wd (vs:=usr ([],[])) rfl
 have k0 : HLe H (H++[.cells (usr ([],[])) 1 false false]):=.app _ _
 have c0 : (H++[Ze.cells (usr ([],[])) 1 false false])[H.length]?=some (.cells (usr ([],[])) 1 false false):=Zw
 have hlt:=h.lt
 have hn0 : H.length≠p:=by omega
 generalize H++[Ze.cells (usr ([],[])) 1 false false]=X0 at z0 k0 c0
 have hlt4 : p < H.length:=hlt
 generalize hal : H.length=a at z0 c0 hn0 hlt4
 have q1 : bop .int .neq (iv 1) (.int .i64 1) X0=some (.bool false,X0):=by rw [Zq];rfl
 obtain ⟨X1,e1,r1,s1⟩:=ZxP (n:=n) (most:=65535) (by omega) (h.hle k0)
 have e1 : R (n+6) Ym [pt p,.int .i64 65535] X0=_:=e1
 obtain ⟨X2,e2,r2,s2⟩:=ZxP (n:=n) (most:=65535) (by omega) r1
 have e2 : R (n+6) Ym [pt p,.int .i64 65535] X1=_:=e2
 have c2:=(s1.trans s2).get c0 (by simpa using hn0)
 unfold ZeY
 generalize (ZdW 65535 (ZdW 65535 s).2).2=r at r2 e2
 generalize (ZdW 65535 (ZdW 65535 s).2).1=hs at e2
 generalize (ZdW 65535 s).1=nm at e1
 have z3:=Zmy (k:=nm) (s:=hs) (H:=X2)
 generalize hu : ((nm,hs) : Ent)=u at z3
 have z4 : alc 1 (.agg #[.string ⟨#[]⟩,.string ⟨#[]⟩,.string ⟨#[]⟩,.bool false,.slice none 0 0]) X2=some (pt X2.length,X2++[.cells (usr ([],[])) 1 false false]):=Wd (vs:=usr ([],[])) rfl
 have k3 : HLe X2 (X2++[.cells (usr u) 1 false false]):=.app _ _
 have c3 : (X2++[Ze.cells (usr u) 1 false false])[X2.length]?=some (.cells (usr u) 1 false false):=Zw
 have w3 : stA 5 (pt X2.length) (.agg (usr u).toArray) (X2++[.cells (usr ([],[])) 1 false false])=some (undef,X2++[.cells (usr u) 1 false false]):=by
  have:=Kv (vs:=usr u) (n:=5) (H:=X2++[Ze.cells (usr ([],[])) 1 false false]) (id:=X2.length) (cs:=usr ([],[])) (es:=1) (g:=false) Zw rfl rfl rfl
  rw [this];simp
 have hn3 : X2.length≠p:=by have:=r2.lt;omega
 generalize X2++[Ze.cells (usr u) 1 false false]=X3 at k3 c3 w3
 generalize X2.length=c at z4 c3 w3 hn3
 have r3:=r2.hle k3
 have c03:=k3 _ _ c2
 have q2 : bop .int .eql (iv 1) (.int .i64 2) X3=some (.bool false,X3):=by rw [ZD];rfl
 have s03 : ZC [p] H [p] X3:=((k0.step.more (o2:=[p]) (o2':=[p]) (by simp) (fun j hj=>.inl hj)).trans (s1.trans s2)).trans (k3.step.more (by simp) (fun j hj=>.inl hj))
 have f1 : ∀ v H',ZhL (R (n+6)) (pt p) (iv 1) H=some (v,H')→R (n+7) Zeu [pt p,iv 1] H=some (v,H'):=fun v H' hr=>by rw [R,ZvL rfl];exact hr
 have e4:=ZsW (n:=n+5) r3
 have e4 : R (n+6) QF [pt p] X3=some (iv r.1,X3):=e4
 have hC : ∃ X4,(cnd (Value.bool (r.1==0)) (bind (ldA 5 (pt c)) fun v36=>bind (R (n+6) Yq [iv 1,v36]) fun v37=>bind (R (n+6) Qk [pt p,v37]) fun v38=>ret (Out.nrm [pt p,pt a,pt c])) (ret (Out.nrm [pt p,pt a,pt c]))) X3=some (Out.nrm [pt p,pt a,pt c],X4)∧Rdr X4 p (if r.1=0 then ZgY (ZcL u) r else r)∧ZC [p] X3 [p] X4:=by
  by_cases h0 : r.1=0
  ·have d3 : ldA 5 (pt c) X3=some (.agg (usr u).toArray,X3):=ZR (n:=5) c3 rfl
   obtain ⟨X4,e5,k5⟩:=ZnL (n:=n) (ZvU u X3)
   rw [Zk6] at e5
   have e5 : R (n+6) Yq [iv 1,.agg (usr u).toArray] X3=some (iv (ZcL u),X4):=e5
   obtain ⟨X5,e6,r6,s6⟩:=Zqf (n:=n+5) (e:=ZcL u) (by have:=ZAL u;omega) (r3.hle k5)
   have e6 : R (n+6) Qk [pt p,iv (ZcL u)] X4=_:=e6
   rw [if_pos h0]
   refine ⟨X5,?_,r6,(k5.step.more (by simp) (fun j hj=>.inl hj)).trans s6⟩
   rw [Zb,if_pos (by simp [h0]),Za d3,Za e5,Za e6]
   rfl
  ·rw [if_neg h0]
   refine ⟨X3,?_,r3,.refl _ _⟩
   rw [Zb,if_neg (by simp [h0])]
   rfl
 obtain ⟨X4,e5,r4,s4⟩:=hC
 have e6:=ZsW (n:=n+5) r4
 have e6 : R (n+6) QF [pt p] X4=_:=e6
 have c34:=s4.get c3 (by simpa using hn3)
 have c04:=s4.get c03 (by simpa using hn0)
 have d4 : ldA 5 (pt c) X4=some (.agg (usr u).toArray,X4):=ZR (n:=5) c34 rfl
 have q3 : bop .int .eql (iv r.1) (.int .i64 0) X3=some (.bool (r.1==0),X3):=by
  rw [ZD,ZtG]
 generalize hr' : (if r.1=0 then ZgY (ZcL u) r else r)=r' at r4 e6
 have hw : ∀ u' : Ent,stA 5 (pt a) (.agg (usr u').toArray) X4=some (undef,X4.set a (.cells (usr u') 1 false false)):=fun u'=>Kv (vs:=usr u') (n:=5) c04 rfl rfl rfl
 have hd : ∀ u' : Ent,ldA 5 (pt a) (X4.set a (.cells (usr u') 1 false false))=some (.agg (usr u').toArray,X4.set a (.cells (usr u') 1 false false)):=fun u'=>ZR (n:=5) (ZM c04) rfl
 have s4p : ZC [p] H [p] X4:=s03.trans s4
 have hT : ∀ u' : Ent,ZC [p] H [p] (X4.set a (.cells (usr u') 1 false false)):=fun u'=>⟨by rw [List.length_set];exact s4p.len,fun j hj hm=>by rw [List.getElem?_set_ne (by omega),s4p.keep j hj hm],fun j hj=>.inl hj⟩
 have hF : ∀ (u' : Ent),(ZuZ u r).1=u'→(cnd (Value.bool (r'.1 !=0)) (bind (bld (.agg #[.string ⟨#[]⟩,.string ⟨#[]⟩,.string ⟨#[]⟩,.bool false,.slice none 0 0]) []) fun v42=>bind (stA 5 (pt a) v42) fun _=>bind (ldA 5 (pt a)) fun vr=>ret vr) (bind (ldA 5 (pt c)) fun v43=>bind (stA 5 (pt a) v43) fun _=>bind (ldA 5 (pt a)) fun vr=>ret vr)) X4=some (.agg (usr u').toArray,X4.set a (.cells (usr u') 1 false false)):=fun u' h'=>by
  unfold ZuZ at h'
  rw [hr'] at h'
  have h' : (if r'.1=0 then u else ([],[]))=u':=h'
  have zb : bld (.agg #[.string ⟨#[]⟩,.string ⟨#[]⟩,.string ⟨#[]⟩,.bool false,.slice none 0 0]) [] X4=some (.agg (usr ([],[])).toArray,X4):=rfl
  by_cases h0 : r'.1=0
  ·rw [if_pos h0] at h'
   subst h'
   rw [Zb,if_neg (by simp [h0]),Za d4,Za (hw u),Za (hd u)]
   rfl
  ·rw [if_neg h0] at h'
   subst h'
   rw [Zb,if_pos (by simp [h0]),Za zb,Za (hw ([],[])),Za (hd ([],[]))]
   rfl
 have hr2 : (ZuZ u r).2=r':=hr'
 have q4 : bop .int .neq (iv r'.1) (.int .i64 0) X4=some (.bool (r'.1 !=0),X4):=by
  rw [Zq,ZtM]
 refine ⟨X4.set a (.cells (usr (ZuZ u r).1) 1 false false),f1 _ _ ?_,by rw [hr2];exact r4.other hlt4,hT _⟩
 unfold ZhL
 rw [Za z0,Za q1,Za (g_r.trans (if_neg (by simp)))]
 simp only [List.replicate]
 rw [ZX,Za Zl]
 simp only [cond_false]
 rw [Zb,if_neg (by simp),Za e1,Za e2,Za z3,Za z4,Za w3,Za q2]
 refine (ZZ (vs:=[pt p,iv 1,pt a,pt c]) (H':=X3) ?_).trans ?_
 ·rw [Zb,if_neg (by simp)];rfl
 ·rw [ZI,Za e4,Za q3]
  refine (ZZ e5).trans ?_
  rw [Z3,Za e6,Za q4]
  exact hF _ rfl
theorem Rdr.step {o1 o2 : List Nat} (h : Rdr H p s) (hs : ZC o1 H o2 X) (hn : ∀ j∈o1,p < j) : Rdr X p s:=by
 obtain ⟨sl,h1,h2,h3,h4⟩:=h
 refine ⟨sl,hs.get h1 fun hm=>Nat.lt_irrefl _ (hn _ hm),h2.keep fun j hj=>hs.keep j ?_ fun hm=>?_,h3,h4⟩
 ·have:=h3 j hj;have:=QD h1;omega
 ·have:=h3 j hj;have:=hn j hm;omega
theorem Zwt {N : Nat} (hN : N≤1000) : ∀ (t k : Nat) (l : List Ent) (s : RSt) (sl : Value) (q : List Nat) (X : Zd),N - k=t→k≤N→l.length≤k→Qu 5 X sl (l.map usr) q→(∀ j∈q,p < j)→Rdr X p s→
  ∃ X' sl' q',Zi (c4 (K4.l1 (R (n+7)))) [pt p,sl,iv N,iv k] X=some (.ext 0 [pt p,sl'],X')∧Qu 5 X' sl' ((l++(ZdZ t s).1).map usr) q'∧Rdr X' p (ZdZ t s).2∧(∀ j∈q',p < j)∧ZC (p :: q) X (p :: q') X'
 | 0,k,l,s,sl,q,X,ht,hk,hl,hr,hq,h=>by
  have : k=N:=by omega
  subst this
  refine ⟨X,sl,q,ZK ?_,by simpa [ZdZ] using hr,h,hq,.refl _ _⟩
  rw [ZI]
  unfold K4.l1
  rw [Za Zm,Zb,if_neg (by simp)]
  rfl
 | t+1,k,l,s,sl,q,X,ht,hk,hl,hr,hq,h=>by
  have hlt : (k : Int) < N:=by omega
  obtain ⟨X1,e1,r1,s1⟩:=ZCH (n:=n) h
  have hr1:=hr.step s1 (fun j hj hm=>by have : j=p:=(by simpa using hm);have:=hq j hj;omega)
  have hpx:=r1.lt
  have x4:=ZmB (es:=5) (z:=.agg #[.string ⟨#[]⟩,.string ⟨#[]⟩,.string ⟨#[]⟩,.bool false,.slice none 0 0]) (H:=X1) rfl (Zg6 (ZeY s).1) (Zwc _)
  have l1 : HLe X1 (X1++[Ze.cells (usr (ZeY s).1) 5 false false]):=.app _ _
  have s4 : SlN 5 (X1++[Ze.cells (usr (ZeY s).1) 5 false false]) (.slice (some ⟨X1.length,0,none⟩) 1 1) [usr (ZeY s).1]:=SlN.whole (rows:=[usr (ZeY s).1]) (c:=1) (e:=5) (g:=false) (ro:=false) (by rw [Zw];simp) (by simp [Zg6])
  generalize X1++[Ze.cells (usr (ZeY s).1) 5 false false]=X2 at x4 l1 s4
  have hr2 : Qu 5 X2 sl (l.map usr) q:=hr1.keep fun j hj=>l1.step.keep j (hr1.lt j hj) (by simp)
  obtain ⟨sl',X3,q',x5,hr3,s3⟩:=hr2.push (b:=80) s4 (Zg6 _) (by simp;omega) (by simp;omega)
  rw [← List.map_singleton (f:=usr),← List.map_append] at hr3
  have hq3 : ∀ j∈q',p < j:=fun j hj=>by
   rcases s3.own j hj with h1 | h1
   ·exact hq j h1
   ·have:=l1.len;omega
  have r3:=(r1.hle l1).step s3 hq
  obtain ⟨X4,sl4,q4,e4,hr4,r4,hq4,s5⟩:=Zwt hN t (k+1) (l++[(ZeY s).1]) (ZeY s).2 sl' q' X3 (by omega) (by omega) (by rw [List.length_append,List.length_singleton];omega) hr3 hq3 r3
  have s13 : ZC (p :: q) X (p :: q') X3:=(s1.more (o2:=p :: q) (o2':=p :: q) (by simp) (fun j hj=>.inl hj)).trans ((l1.step.more (o2:=p :: q) (o2':=p :: q) (by simp) (fun j hj=>.inl hj)).trans (s3.more (o2:=p :: q) (o2':=p :: q') (by simp+contextual) (fun j hj=>by
   rcases List.mem_cons.1 hj with rfl | hj
   ·exact .inl (by simp)
   ·exact .inr (.inl hj))))
  refine ⟨X4,sl4,q4,(Zy ?_).trans e4,?_,r4,hq4,s13.trans s5⟩
  ·rw [ZI]
   unfold K4.l1
   rw [Za Zm,Zb,if_pos (by simpa using hlt),Za e1,Za x4,Za x5,Za ZB,Qg (by omega)]
   rfl
  ·rw [List.append_assoc] at hr4
   exact hr4
theorem ZCP {l : List Ent} (h : ofN l=0) : (∀ e∈l,ZcL e=0)∧l.length≤12:=by
 have h : ofE (l.map WC)=0:=by rw [ZAv,h];rfl
 unfold ofE at h
 by_cases h1 : Wv (l.map WC)=0
 ·rw [if_pos h1] at h
  refine ⟨fun e he=>?_,?_⟩
  ·have:=Zjs h1 (WC e) (List.mem_map.2 ⟨e,he,rfl⟩)
   rw [Zk6] at this
   omega
  ·by_cases h2 : Zbo none (l.map WC)=true
   ·rw [if_pos h2] at h
    by_cases h3 : 12 < (l.map WC).length
    ·rw [if_pos h3] at h;exact absurd h (by decide)
    ·rw [List.length_map] at h3;omega
   ·rw [if_neg h2] at h;exact absurd h (by decide)
 ·rw [if_neg h1] at h;exact absurd h h1
theorem ZrP {l : J4} (hn : (l.map (·.1)).Nodup) (hR : ZeO l) : Zci l=l:=by
 refine Zz1 (ZwX hn) hR fun x=>?_
 rw [Zyd hn]
 exact ⟨fun h=>K6 h,fun h=>ZbA hn h⟩
theorem Zsq (l : List Ent) : (l.map WC).map ZcN=l:=by
 rw [List.map_map];exact (List.map_congr_left fun a _=>rfl).trans (List.map_id l)
theorem Zw4 {sv : Value} (hs : Sl H sv (u8s bs)) (hb : bs.length≤100000000) : ∃ dv H',R (n+8) Zcg [sv] H=some (.tuple #[dv,iv (Zdn bs).1],H')∧HLe H H'∧
  ((Zdn bs).1≠0→dv=.pointer none)∧((Zdn bs).1=0→∃ d b,dv=pt d∧Dir H' d b (Zdn bs).2∧ZeO (Zdn bs).2∧ofN (Zdn bs).2=0):=by
 obtain ⟨p,X0,e0,r0,k0,o0⟩:=ZwU (n:=n+5) hs (by omega)
 have e0 : R (n+7) Zeo [sv] H=_:=e0
 obtain ⟨X1,e1,r1,s1⟩:=ZCh (n:=n+3) r0
 have e1 : R (n+7) Ko [pt p] X0=_:=e1
 have e2:=ZsW (n:=n+6) r1
 have e2 : R (n+7) QF [pt p] X1=_:=e2
 have hop : ∀ j∈[p],H.length≤j:=fun j hj=>by have : j=p:=(by simpa using hj);omega
 have m1:=k0.more s1 hop
 have f1 : ∀ v H',K4 (R (n+7)) sv H=some (v,H')→R (n+8) Zcg [sv] H=some (v,H'):=fun v H' hr=>by rw [R,Zum rfl];exact hr
 unfold Zdn
 generalize ZaN 1 (0,bs)=B at r1 e1 e2
 obtain ⟨bv,bst⟩:=B
 have e1 : R (n+7) Ko [pt p] X0=some (.int .u8 bv,X1):=e1
 have e2 : R (n+7) QF [pt p] X1=some (iv bst.1,X1):=e2
 simp only []
 have q1 : bop .int .eql (iv bst.1) (.int .i64 0) X1=some (.bool (bst.1==0),X1):=by rw [ZD,ZtG]
 have hgate : ∀ K : Value→M Value,bind (ZG (Value.bool (bst.1==0)) true 2 (bind (bop .int .neq (.int .u8 bv) (Value.int .u8 1)) fun v20=>ret [.int .u8 bv,v20])) (c2 fun _ q6=>bind (pick (Value.bool (bst.1==0)) q6 (Value.bool false)) K) X1=K (.bool (decide (bst.1=0∧bv≠1))) X1:=fun K=>by
  by_cases h0 : bst.1=0
  ·have q2 : bop .int .neq (.int .u8 bv) (Value.int .u8 1) X1=some (.bool (decide (bv≠1)),X1):=by
    rw [Zq,show ((bv : Int) !=1)=decide (bv≠1) from by rw [Bool.eq_iff_iff,decide_eq_true_eq,bne_iff_ne];omega]
   rw [show (bst.1==0)=true from by simp [h0],ZU,Zk,Za q2,ZV,ZX,Za Zl]
   simp [h0]
  ·rw [show (bst.1==0)=false from by simp [h0],Za (g_r.trans (if_neg (by simp)))]
   simp only [List.replicate]
   rw [ZX,Za Zl]
   simp [h0]
 by_cases hv : bst.1=0∧bv≠1
 ·rw [if_pos hv]
  refine ⟨.pointer none,X1,f1 _ _ ?_,m1.1,fun _=>rfl,fun h=>by cases h⟩
  unfold K4
  rw [Za e0,Za e1,Za e2,Za q1]
  refine (hgate _).trans ?_
  rw [decide_eq_true hv,Zb,if_pos rfl]
  rfl
 rw [if_neg hv]
 obtain ⟨X2,e3,r2,s2⟩:=ZAo (n:=n+3) r1
 have e3 : R (n+7) Y7 [pt p] X1=_:=e3
 have m2:=m1.1.more s2 m1.2
 have hcl:=ZiU (k:=2) (s:=bst)
 generalize ZaN 2 bst=C at r2 e3 hcl
 obtain ⟨cv,cst⟩:=C
 have e3 : R (n+7) Y7 [pt p] X1=some (.int .u16 cv,X2):=e3
 have hcl : cv < 65536:=hcl
 have r2 : Rdr X2 p cst:=r2
 simp only []
 have c3 : cvi .i64 (.int .u16 cv) X2=some (iv cv,X2):=by rw [QG,w64 (by omega) (by omega)]
 have q3 : bop .int .gtr (iv cv) (.int .i64 12) X2=some (.bool (decide (cv > 12)),X2):=by
  rw [Z0,show decide ((cv : Int) > 12)=decide (cv > 12) from by rw [decide_eq_decide];omega]
 have hN : ∃ X3 N st,(cnd (Value.bool (decide (cv > 12))) (bind (R (n+7) Qk [pt p,(Value.int .i64 7)]) fun v28=>ret (Out.nrm [pt p,(Value.int .i64 0)])) (ret (Out.nrm [pt p,iv cv]))) X2=some (Out.nrm [pt p,iv (N : Nat)],X3)∧N≤12∧Rdr X3 p st∧ZC [p] X2 [p] X3∧(if cv > 12 then (([] : List Ent),ZgY 7 cst) else ZdZ cv cst)=ZdZ N st:=by
  by_cases h12 : cv > 12
  ·obtain ⟨X3,e4,r3,s3⟩:=Zqf (n:=n+6) (e:=7) (by omega) r2
   have e4 : R (n+7) Qk [pt p,.int .i64 7] X2=_:=e4
   refine ⟨X3,0,_,?_,by omega,r3,s3,if_pos h12⟩
   rw [decide_eq_true h12,Zb,if_pos rfl,Za e4]
   rfl
  ·refine ⟨X2,cv,cst,?_,by omega,r2,.refl _ _,if_neg h12⟩
   rw [decide_eq_false h12,Zb,if_neg (by simp)]
   rfl
 obtain ⟨X3,N,st,e4,hN,r3,s3,hq⟩:=hN
 rw [hq]
 have m3:=m2.1.more s3 m2.2
 obtain ⟨X4,lv,ql,e5,hr4,r4,hql,s4⟩:=Zwt (n:=n) (N:=N) (by omega) N 0 [] st (.slice none 0 0) [] X3 (by omega) (by omega) (Nat.zero_le _) Qu.nil (by simp) r3
 have e5 : Zi (c4 (K4.l1 (R (n+7)))) [pt p,.slice none 0 0,iv N,.int .i64 0] X3=_:=e5
 rw [List.nil_append] at hr4
 have m4:=m3.1.more s4 m3.2
 have hll : (ZdZ N st).1.length=N:=by
  have : ∀ (k : Nat) (s : RSt),(ZdZ k s).1.length=k:=by
   intro k
   induction k with
   | zero=>intro s;rfl
   | succ k ih=>intro s;unfold ZdZ;rw [List.length_cons,ih]
  exact this _ _
 generalize ZdZ N st=G at hr4 r4 hll
 obtain ⟨gl,gs⟩:=G
 have hr4 : Qu 5 X4 lv (gl.map usr) ql:=hr4
 have r4 : Rdr X4 p gs:=r4
 have hll : gl.length=N:=hll
 simp only []
 have e6:=ZsW (n:=n+6) r4
 have e6 : R (n+7) QF [pt p] X4=some (iv gs.1,X4):=e6
 have q4 : bop .int .neq (iv gs.1) (.int .i64 0) X4=some (.bool (gs.1 !=0),X4):=by rw [Zq,ZtM]
 have hrun : ∀ v H',(bind (R (n+7) QF [pt p]) fun v39x20=>
 bind (bop .int .neq v39x20 (Value.int .i64 0)) fun v41x21=>
 cnd v41x21
 (ret (Value.tuple #[(Value.pointer none),v39x20]))
 (bind (R (n+7) WT [lv]) fun v45x22=>
 bind (Zo v45x22 0) fun v46x23=>
 bind (Zo v45x22 1) fun v47x24=>
 bind (bop .int .eql v47x24 (Value.int .i64 0)) fun v49x25=>
 jn (cnd v49x25
 (bind (R (n+7) KH [pt p]) fun v51x26=>
 ret (.nrm [v46x23,v51x26]))
 (ret (.nrm [v46x23,v47x24]))) (c2 fun q27_0 q27_1=>
 bind (bop .int .neq q27_1 (Value.int .i64 0)) fun v53x28=>
 cnd v53x28
 (ret (Value.tuple #[(Value.pointer none),q27_1]))
 (ret (Value.tuple #[q27_0,(Value.int .i64 0)]))) noX ret)) X4=some (v,H')→R (n+8) Zcg [sv] H=some (v,H'):=fun v H' hr=>by
  refine f1 _ _ ?_
  unfold K4
  rw [Za e0,Za e1,Za e2,Za q1]
  refine (hgate _).trans ?_
  rw [decide_eq_false hv,Zb,if_neg (by simp),Za e3,Za c3,Za q3]
  refine (ZZ e4).trans ?_
  rw [ZX,ZT e5,ZE,ZX]
  exact hr
 by_cases hg0 : gs.1=0
 ·rw [if_neg (by simp [hg0])]
  obtain ⟨X5,dv,e7,k5,hz,hok⟩:=ZCW (n:=n) (by rw [List.length_map];omega) hr4.users
  rw [ZAv] at e7 hz hok
  have q5 : bop .int .eql (iv (ofN gl)) (.int .i64 0) X5=some (.bool (ofN gl==0),X5):=by rw [ZD,ZtG]
  have r5:=r4.hle k5
  by_cases ho : ofN gl=0
  ·obtain ⟨d,b,rfl,D5,hR,_,_⟩:=hok (by rw [ho];rfl)
   rw [Zsq] at D5 hR
   have e8:=ZCY (n:=n+6) r5
   have e8 : R (n+7) KH [pt p] X5=_:=e8
   rw [if_pos ho]
   by_cases he : Zgr gs=0
   ·rw [if_neg (by simp [he])]
    have q6 : bop .int .neq (iv (Zgr gs)) (.int .i64 0) X5=some (.bool false,X5):=by rw [Zq,he];rfl
    refine ⟨pt d,X5,hrun _ _ ?_,m4.1.trans k5,fun h=>absurd rfl h,fun _=>⟨d,b,rfl,D5,hR,ho⟩⟩
    rw [Za e6,Za q4,Zb,if_neg (by simp [hg0]),Za e7,Za Zr,Za Zs,Za q5]
    refine (ZZ (vs:=[pt d,iv (Zgr gs)]) (H':=X5) ?_).trans ?_
    ·rw [Zb,if_pos (by simp [ho]),Za e8];rfl
    ·rw [ZX,Za q6,Zb,if_neg (by simp)];rfl
   ·rw [if_pos he]
    have q6 : bop .int .neq (iv (Zgr gs)) (.int .i64 0) X5=some (.bool true,X5):=by rw [Zq];simp [he]
    refine ⟨.pointer none,X5,hrun _ _ ?_,m4.1.trans k5,fun _=>rfl,fun h=>absurd h he⟩
    rw [Za e6,Za q4,Zb,if_neg (by simp [hg0]),Za e7,Za Zr,Za Zs,Za q5]
    refine (ZZ (vs:=[pt d,iv (Zgr gs)]) (H':=X5) ?_).trans ?_
    ·rw [Zb,if_pos (by simp [ho]),Za e8];rfl
    ·rw [ZX,Za q6,Zb,if_pos (by simp)];rfl
  ·rw [if_neg ho,if_pos ho]
   have hdv:=hz (by simpa using ho)
   subst hdv
   have q6 : bop .int .neq (iv (ofN gl)) (.int .i64 0) X5=some (.bool true,X5):=by rw [Zq];simp [ho]
   refine ⟨.pointer none,X5,hrun _ _ ?_,m4.1.trans k5,fun _=>rfl,fun h=>absurd h ho⟩
   rw [Za e6,Za q4,Zb,if_neg (by simp [hg0]),Za e7,Za Zr,Za Zs,Za q5]
   refine (ZZ (vs:=[.pointer none,iv (ofN gl)]) (H':=X5) ?_).trans ?_
   ·rw [Zb,if_neg (by simp [ho])];rfl
   ·rw [ZX,Za q6,Zb,if_pos (by simp)];rfl
 ·rw [if_pos hg0]
  refine ⟨.pointer none,X4,hrun _ _ ?_,m4.1,fun _=>rfl,fun h=>absurd h hg0⟩
  rw [Za e6,Za q4,Zb,if_pos (by simp [hg0])]
  rfl
end
end Go.Proofs.YtedkoimihknggaaGreatDoor.A
namespace Go.Proofs.YtedkoimihknggaaGreatDoor.A
set_option linter.unusedVariables false
set_option linter.unusedSimpArgs false
open Go.Proofs Go.Proofs.YtedkoimihknggaaGreatDoor
section
variable {H0 H X : Zd} {n p d b : Nat} {u w : Zj} {us ws : List Zj} {sl a c v : Value} {bs : List UInt8} {m : List Ent}
def schemaS (bs : List UInt8) : Nat:=
 match bs with
 | []=>0
 | b :: _=>if b.toNat=1∨b.toNat=2 then b.toNat else 0
theorem Zz2 (hs : Sl H sl (u8s bs)) (hb : bs.length≤100000000) : R (n+1) Zc7 [sl] H=some (iv (schemaS bs),H):=by
 have hl : Zx sl H=some (iv bs.length,H):=by have:=hs.len (H':=H);rwa [Jw] at this
 rw [R,ZqL rfl]
 unfold Zhz
 cases bs with
 | nil=>
  rw [Za hl,Za Z0]
  have hz : decide ((([] : List UInt8).length : Int) > 0)=false:=rfl
  rw [hz,Za (g_r.trans (if_neg (by simp)))]
  simp only [List.replicate]
  rw [Qc,Za YS]
  simp only [List.replicate]
  rw [ZI,Za (g_r.trans (if_neg (by simp)))]
  simp only [List.replicate]
  rw [YC,Za Zl]
  simp only [cond_false]
  rw [Zb,if_neg (by simp)]
  rfl
 | cons x l=>
  have hz : decide (((x :: l).length : Int) > 0)=true:=by rw [decide_eq_true_eq,List.length_cons];omega
  have hk : (u8s (x :: l))[0]?=some (.int .u8 x.toNat):=rfl
  have x1:=hs.ix (i:=0) (by rw [Jw];simp) .i64 H
  have x1 : ixa 1 sl (.int .i64 0) H=some (ixp sl 0,H):=x1
  have x2:=hs.ldx hk
  have q1 : bop .int .eql (.int .u8 x.toNat) (.int .u8 1) H=some (.bool (decide (x.toNat=1)),H):=by
   rw [ZD,show ((x.toNat : Int)==1)=decide (x.toNat=1) from by rw [Bool.eq_iff_iff,decide_eq_true_eq,beq_iff_eq];omega]
  have q2 : bop .int .eql (.int .u8 x.toNat) (.int .u8 2) H=some (.bool (decide (x.toNat=2)),H):=by
   rw [ZD,show ((x.toNat : Int)==2)=decide (x.toNat=2) from by rw [Bool.eq_iff_iff,decide_eq_true_eq,beq_iff_eq];omega]
  have hx : x.toNat < 256:=x.toNat_lt
  have c3 : cvi .i64 (.int .u8 x.toNat) H=some (iv x.toNat,H):=by rw [QG,w64 (by omega) (by omega)]
  rw [Za hl,Za Z0,hz,ZU,Zk,Za x1,Zk,Za x2,Zk,Za q1,ZV,Qc]
  unfold schemaS
  simp only []
  by_cases h1 : x.toNat=1
  ·rw [decide_eq_true h1,Za (g_r.trans (if_neg (by simp)))]
   simp only [List.replicate]
   rw [ZI,ZU,Zk,Za Zl,ZV,YC,Za Zl]
   simp only [cond_true]
   rw [Zb,if_pos rfl,Za x1,Za x2,Za c3,if_pos (.inl h1)]
   rfl
  ·rw [decide_eq_false h1,ZU,Zk,Za x1,Zk,Za x2,Zk,Za q2,ZV,ZI,ZU,Zk,Za Zl,ZV,YC,Za Zl]
   simp only [cond_true,cond_false]
   rw [Zb]
   by_cases h2 : x.toNat=2
   ·rw [if_pos (by simp [h2]),Za x1,Za x2,Za c3,if_pos (.inr h2)]
    rfl
   ·rw [if_neg (by simp [h2]),if_neg (by omega)]
    rfl
end
end Go.Proofs.YtedkoimihknggaaGreatDoor.A

namespace Go.Proofs.YtedkoimihknggaaGreatDoor.A
set_option linter.unusedVariables false
set_option linter.unusedSimpArgs false
open Go.Proofs Go.Proofs.YtedkoimihknggaaGreatDoor
section
variable {H0 H X : Zd} {n p d b : Nat} {a c v : Value} {bs s : List UInt8} {β : Type} {K : Value→M β}
theorem HLe.put {H0 X : Zd} (h : HLe H0 X) {b : Nat} {o : Ze} (hb : H0.length≤b) : HLe H0 (X.set b o):=fun i v hi=>by
 have:=QD hi
 rw [List.getElem?_set_ne (by omega)]
 exact h i v hi
theorem bx {vs : List Value} (h1 : vs.all oneCell=true) : alc 1 (.agg vs.toArray) X=some (pt X.length,X++[.cells vs 1 false false]):=Wd h1
theorem ZAy {vs cs : List Value} {es : Nat} (hc : X[p]?=some (.cells cs es false false)) (h2 : cs.length=n) (hv : vs.length=n) (h1 : vs.all oneCell=true) :
  bind (stA n (pt p) (.agg vs.toArray)) (fun _=>bind (ldA n (pt p)) K) X=K (.agg vs.toArray) (X.set p (.cells vs es false false)):=by
 rw [Za (Kv hc h2 hv h1),Za (ZR (ZM hc) hv)]
end
end Go.Proofs.YtedkoimihknggaaGreatDoor.A

namespace Go.Proofs.YtedkoimihknggaaGreatDoor.A
set_option linter.unusedVariables false
set_option linter.unusedSimpArgs false
open Go.Proofs Go.Proofs.YtedkoimihknggaaGreatDoor
abbrev RR (s : RSt) : List Value:=[strv s.2,iv s.1]
theorem ZCk (s : RSt) : (RR s).all oneCell=true:=rfl
section
variable {H0 H X : Zd} {n p d b : Nat} {a c v : Value} {bs : List UInt8} {β : Type} {K : Value→M β} {s : RSt}
end
end Go.Proofs.YtedkoimihknggaaGreatDoor.A

namespace Go.Proofs.YtedkoimihknggaaGreatDoor.A
set_option linter.unusedVariables false
set_option linter.unusedSimpArgs false
open Go.Proofs Go.Proofs.YtedkoimihknggaaGreatDoor
section
variable {H0 H X : Zd} {n p d b : Nat} {a c v : Value} {bs : List UInt8} {s : RSt} {q : List Nat}
theorem Qu.us {m : List Ent} (h : Qu 5 H v (m.map usr) q) : Qh H v (m.map WC):=h.users.s (fun u hu=>by obtain ⟨e,_,rfl⟩:=List.mem_map.1 hu;exact Nat.zero_le _)
end
end Go.Proofs.YtedkoimihknggaaGreatDoor.A

