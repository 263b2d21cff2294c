/- What the law MigrateDown needs (part 5). -/
import Derived.Test.YtedkoimihknggaaGreatDoorZMigrateDown4
namespace Go.Proofs.YtedkoimihknggaaGreatDoor.A
set_option linter.unusedVariables false
set_option linter.unusedSimpArgs false
open Go.Proofs Go.Proofs.YtedkoimihknggaaGreatDoor
def Ky (b : UInt8) : UInt8:=if decide (65≤b.toNat) && decide (b.toNat≤90) then UInt8.ofNat (b.toNat+32) else b
def Qd (s : List UInt8) : List UInt8:=s.map Ky
theorem ZzF : ∀ b : UInt8,(decide (65≤b.toNat) && decide (b.toNat≤90))=true→IntKind.u8.wrap (IntKind.u8.wrap ((b.toNat : Int)+97) - 65)=(Ky b).toNat:=ZhB (by decide+kernel)
section
variable {H X : Zd} {n : Nat} {s : List UInt8}
theorem ZCo {cs : List UInt8} {k : Nat} {b : UInt8} (h : cs[k]?=some b) : (u8s cs)[k]?=some (u8v b):=by unfold u8s;rw [List.getElem?_map,h];rfl
theorem ZAP {cs : List UInt8} {k : Nat} {b : UInt8} : (u8s cs).set k (u8v b)=u8s (cs.set k b):=by unfold u8s;rw [List.map_set]
theorem ZCK : s2b (strv s) H=some (.slice (some ⟨H.length,0,none⟩) s.length s.length,H++[.cells (u8s s) 1 true false]):=by
 unfold s2b strv Zl1
 simp [ByteArray.size]
theorem Zra {v : Value} {q : List Nat} (hs : s.length≤1000000) : ∀ (t k : Nat) (cs : List UInt8) (X : Zd),s.length - k=t→k≤s.length→cs.length=s.length→cs.take k=(s.take k).map Ky→cs.drop k=s.drop k→ZA X v (u8s cs) q→
  ∃ X',Zi (c4 (WO.l1 (R n))) [v,v,iv s.length,iv k] X=some (.ext 0 [v],X')∧ZA X' v (u8s (Qd s)) q∧ZC q X q X'
 | 0,k,cs,X,ht,hk,hl,h1,h2,hr=>by
  have : k=s.length:=by omega
  subst this
  have : cs=Qd s:=by
   rw [List.take_of_length_le (by omega),List.take_of_length_le (by omega)] at h1
   exact h1
  subst this
  refine ⟨X,ZK ?_,hr,.refl _ _⟩
  rw [ZI]
  unfold WO.l1
  rw [Za Zm,Zb,if_neg (by simp)]
  rfl
 | t+1,k,cs,X,ht,hk,hl,h1,h2,hr=>by
  have hkl : k < s.length:=by omega
  have hlt : (k : Int) < s.length:=by omega
  have hg:=List.getElem?_eq_getElem hkl
  have htk:=List.take_succ_eq_append_getElem hkl
  have hdk:=List.drop_eq_getElem_cons hkl
  generalize s[k]=b at hg htk hdk
  have hgc : cs[k]?=some b:=by
   have h3 : (cs.drop k)[0]?=(s.drop k)[0]?:=by rw [h2]
   simpa [hg] using h3
  have hul : (u8s cs).length=s.length:=by rw [Jw,hl]
  have x1:=hr.ix (i:=k) (by omega) .i64 X
  have x2:=hr.ldx (ZCo hgc)
  have hd1 : cs.drop (k+1)=s.drop (k+1):=by rw [← List.drop_drop,h2,List.drop_drop]
  have htc : cs.take (k+1)=cs.take k++[b]:=by
   have:=List.take_succ_eq_append_getElem (show k < cs.length by omega)
   rw [this,(List.getElem?_eq_some_iff.1 hgc).2]
  have hpk : ∀ (K : Value→M Out),bind (bop .int .geq (u8v b) (Value.int .u8 65)) (fun v16x6=>bind (ZG v16x6 true 2 (bind (bop .int .leq (u8v b) (Value.int .u8 90)) fun v19x7=>ret [u8v b,v19x7])) (c2 fun _ q8_1=>bind (pick v16x6 q8_1 (Value.bool false)) K)) X=K (.bool (decide (65≤b.toNat) && decide (b.toNat≤90))) X:=fun K=>by
   have e1 : decide ((b.toNat : Int)≥65)=decide (65≤b.toNat):=by rw [decide_eq_decide];omega
   have e2 : decide ((b.toNat : Int)≤90)=decide (b.toNat≤90):=by rw [decide_eq_decide];omega
   rw [Za Qj,e1]
   cases decide (65≤b.toNat)
   ·rw [Za (g_r.trans (if_neg (by simp)))]
    simp only [List.replicate]
    rw [ZX,Za Zl]
    rfl
   ·rw [ZU,Zk,Za Je,ZV,ZX,Za Zl,e2]
    rfl
  cases hup : (decide (65≤b.toNat) && decide (b.toNat≤90))
  ·have hfb : Ky b=b:=by unfold Ky;rw [hup];rfl
   rw [hup] at hpk
   obtain ⟨X',e,r',s'⟩:=Zra hs t (k+1) cs X (by omega) (by omega) hl (by rw [htc,h1,htk,List.map_append,List.map_singleton,hfb]) hd1 hr
   refine ⟨X',(Zy ?_).trans e,r',s'⟩
   rw [ZI]
   unfold WO.l1
   rw [Za Zm,Zb,if_pos (by simpa using hlt),Za x1,Za x2]
   refine (hpk _).trans ?_
   refine (ZZ (vs:=[v,v,iv s.length,iv k]) (H':=X) ?_).trans ?_
   ·rw [Zb,if_neg (by simp)];rfl
   ·rw [ZI,Za ZB,Qg (by omega)];rfl
  ·have hfu:=ZzF b hup
   rw [hup] at hpk
   obtain ⟨X1,x3,r1,s1,_⟩:=hr.stx (i:=k) (u:=u8v (Ky b)) (by omega) rfl
   rw [ZAP] at r1
   obtain ⟨X',e,r',s'⟩:=Zra hs t (k+1) (cs.set k (Ky b)) X1 (by omega) (by omega) (by simpa using hl) (by
    have h5 : k < (cs.set k (Ky b)).length:=by simp;omega
    rw [List.take_succ_eq_append_getElem h5,List.take_set_of_le (Nat.le_refl _),h1,htk,List.map_append]
    simp) (by rw [List.drop_set_of_lt (by omega)];exact hd1) r1
   refine ⟨X',(Zy ?_).trans e,r',s1.trans s'⟩
   rw [ZI]
   unfold WO.l1
   rw [Za Zm,Zb,if_pos (by simpa using hlt),Za x1,Za x2]
   refine (hpk _).trans ?_
   refine (ZZ (vs:=[v,v,iv s.length,iv k]) (H':=X1) ?_).trans ?_
   ·rw [Zb,if_pos rfl,Za ZB,Za QU,hfu,Za x1,Za x3];rfl
   ·rw [ZI,Za ZB,Qg (by omega)];rfl
theorem ZB0 (hs : s.length≤1000000) : ∃ H',R (n+1) ZeH [strv s] H=some (strv (Qd s),H')∧HLe H H':=by
 have e1:=ZCK (s:=s) (H:=H)
 have k1 : HLe H (H++[.cells (u8s s) 1 true false]):=.app _ _
 have r1 : ZA (H++[.cells (u8s s) 1 true false]) (.slice (some ⟨H.length,0,none⟩) s.length s.length) (u8s s) [H.length]:=.inr ⟨H.length,[],true,by rw [Jw];rfl,rfl,by rw [Zw,List.append_nil]⟩
 have hnl : ∀ j∈[H.length],H.length≤j:=by simp
 generalize H++[Ze.cells (u8s s) 1 true false]=H1 at e1 k1 r1
 obtain ⟨H2,e2,r2,s2⟩:=Zra (n:=n) hs s.length 0 s H1 (by omega) (by omega) rfl rfl rfl r1
 have e2 : Zi (c4 (WO.l1 (R n))) [.slice (some ⟨H.length,0,none⟩) s.length s.length,.slice (some ⟨H.length,0,none⟩) s.length s.length,iv s.length,.int .i64 0] H1=_:=e2
 refine ⟨H2,?_,(k1.more s2 hnl).1⟩
 rw [R,ZtZ rfl]
 unfold WO
 have hl : Zx (.slice (some ⟨H.length,0,none⟩) s.length s.length) H1=some (iv s.length,H1):=rfl
 rw [Za e1,Za hl,ZT e2,ZE,YC,Za (Zmt r2.rd)]
 rfl
def Zcw : List UInt8:=[65,66,67,68,69,70,71,72,73,74,75,76,77,78,79,80,81,82,83,84,85,86,87,88,89,90]
theorem ZwK : ∀ k < 26,∀ b,Zcw[k]?=some b→Zhn[k]?=some (Ky b):=by
 intro k hk b hb
 have : ∀ k < 26,(Zcw[k]?).map Ky=Zhn[k]?:=by decide
 rw [← this k hk,hb];rfl
theorem Zzi : ∀ b : UInt8,(if Zcw.contains b then Ky b else b)=Ky b:=ZhB (by decide+kernel)
theorem Zya {i j : Nat} (hij : i≤j) (hj : j≤s.length) : sls (strv s) (some (iv i)) (some (iv j)) H=some (strv ((s.take j).drop i),H):=by
 have h1 : (⟨s.toArray⟩ : ByteArray).size=s.length:=by simp [ByteArray.size]
 have h2 : (⟨s.toArray⟩ : ByteArray).extract i j=⟨((s.take j).drop i).toArray⟩:=by
  apply ByteArray.ext
  rw [ByteArray.data_extract]
  simp [List.drop_take]
 have hb : ∀ k : Nat,∀ d,bnd (some (iv k)) d=some k:=fun k d=>by simp [bnd]
 unfold strv sls
 simp only [h1,hb]
 rw [if_pos ⟨hij,hj⟩,h2]
theorem ZAn {i : Nat} (hi : i≤s.length) : sls (strv s) (some (iv i)) none H=some (strv (s.drop i),H):=by
 have h1 : (⟨s.toArray⟩ : ByteArray).size=s.length:=by simp [ByteArray.size]
 have h2 : (⟨s.toArray⟩ : ByteArray).extract i s.length=⟨(s.drop i).toArray⟩:=by
  apply ByteArray.ext
  rw [ByteArray.data_extract]
  simp [List.take_of_length_le]
 have hb : ∀ k : Nat,∀ d,bnd (some (iv k)) d=some k:=fun k d=>by simp [bnd]
 have hb0 : ∀ d,bnd none d=some d:=fun _=>rfl
 unfold strv sls
 simp only [h1,hb,hb0]
 rw [if_pos ⟨hi,Nat.le_refl _⟩,h2]
theorem ZxQ {k : Nat} {b : UInt8} (h : s[k]?=some b) : (s.take (k+1)).drop k=[b]:=by
 have hk:=(List.getElem?_eq_some_iff.1 h).1
 rw [List.take_succ_eq_append_getElem hk,(List.getElem?_eq_some_iff.1 h).2,List.drop_append_of_le_length (by rw [List.length_take];omega),List.drop_eq_nil_of_le (by rw [List.length_take];omega)]
 rfl
theorem Zlf {i : Nat} {b : UInt8} (hi : s[i]?=some b) (hs : s.length≤1000000) : ∀ (t k : Nat) (cur : UInt8) (z1 : Value),26 - k=t→k≤26→
  Zi (c6 (JR.l2 (R n))) [strv s,strv Zcw,z1,iv i,strv [cur],iv k] X=some (.ext 2 [strv s,strv Zcw,z1,iv i,strv [if (Zcw.drop k).contains b then Ky b else cur]],X)
 | 0,k,cur,z1,ht,hk=>by
  have : k=26:=by omega
  subst this
  refine ZK ?_
  rw [Jy]
  unfold JR.l2
  rw [Za Zm,Zb,if_neg (by decide)]
  rfl
 | t+1,k,cur,z1,ht,hk=>by
  have hkl : k < Zcw.length:=by show k < 26;omega
  have hlt : (k : Int) < 26:=by omega
  have hg:=List.getElem?_eq_getElem hkl
  have hd:=List.drop_eq_getElem_cons hkl
  generalize Zcw[k]=g at hg hd
  have x1:=ZcU hi .i64 X
  have x2:=ZcU hg .i64 X
  have hgf:=ZwK k (by omega) g hg
  rw [hd,List.contains_cons]
  by_cases hb : b=g
  ·subst hb
   have e3 : sls (strv Zhn) (some (iv k)) (some (iv ((k+1 : Nat) : Int))) X=some (strv [Ky b],X):=by
    rw [Zya (by omega) (by show k+1≤26;omega),ZxQ hgf]
   have e3 : sls (.string ⟨#[97,98,99,100,101,102,103,104,105,106,107,108,109,110,111,112,113,114,115,116,117,118,119,120,121,122]⟩) (some (iv k)) (some (iv ((k+1 : Nat) : Int))) X=some (strv [Ky b],X):=e3
   refine (Zy ?_).trans ((Zlf hi hs t (k+1) (Ky b) z1 (by omega) (by omega)).trans (by simp))
   rw [Jy]
   unfold JR.l2
   rw [Za Zm,Zb,if_pos (by simpa using hlt),Za x1,Za x2,Za ZD,Ziw]
   refine (ZZ (vs:=[strv s,strv Zcw,z1,iv i,strv [Ky b],iv k]) (H':=X) ?_).trans ?_
   ·rw [Zb,if_pos (by simp),Za ZB,Qg (by omega),Za e3];rfl
   ·rw [Jy,Za ZB,Qg (by omega)];rfl
  ·have hbf : (b==g)=false:=beq_eq_false_iff_ne.2 hb
   rw [hbf,Bool.false_or]
   refine (Zy ?_).trans (Zlf hi hs t (k+1) cur z1 (by omega) (by omega))
   rw [Jy]
   unfold JR.l2
   rw [Za Zm,Zb,if_pos (by simpa using hlt),Za x1,Za x2,Za ZD,Ziw,hbf]
   refine (ZZ (vs:=[strv s,strv Zcw,z1,iv i,strv [cur],iv k]) (H':=X) ?_).trans ?_
   ·rw [Zb,if_neg (by simp)];rfl
   ·rw [Jy,Za ZB,Qg (by omega)];rfl
theorem Zrx (hs : s.length≤1000000) : ∀ (t k : Nat),s.length - k=t→k≤s.length→
  Zi (c4 (JR.l1 (R n))) [strv s,strv Zcw,strv ((s.take k).map Ky),iv k] X=some (.ext 0 [strv (Qd s)],X)
 | 0,k,ht,hk=>by
  have : k=s.length:=by omega
  subst this
  rw [List.take_length]
  refine ZK ?_
  rw [ZI]
  unfold JR.l1
  rw [Za ZP,Za Zm,Zb,if_neg (by simp)]
  rfl
 | t+1,k,ht,hk=>by
  have hkl : k < s.length:=by omega
  have hlt : (k : Int) < s.length:=by omega
  have hg:=List.getElem?_eq_getElem hkl
  have htk:=List.take_succ_eq_append_getElem hkl
  generalize s[k]=b at hg htk
  have e1 : sls (strv s) (some (iv k)) (some (iv ((k+1 : Nat) : Int))) X=some (strv [b],X):=by rw [Zya (by omega) (by omega),ZxQ hg]
  have e2:=Zlf (n:=n) (X:=X) hg hs 26 0 b (strv ((s.take k).map Ky)) rfl (by omega)
  rw [List.drop_zero,Zzi] at e2
  have e2 : Zi (c6 (JR.l2 (R n))) [strv s,strv Zcw,strv ((s.take k).map Ky),iv k,strv [b],.int .i64 0] X=_:=e2
  have e3:=J7 (a:=(s.take k).map Ky) (b:=[Ky b]) (H:=X) (by simp;omega)
  refine (Zy ?_).trans (Zrx hs t (k+1) (by omega) (by omega))
  rw [ZI]
  unfold JR.l1
  rw [Za ZP,Za Zm,Zb,if_pos (by simpa using hlt),Za ZB,Qg (by omega),Za e1,ZT e2,ZE,Qc,Za e3,Za ZB,Qg (by omega),htk,List.map_append]
  rfl
theorem Zy1 (hs : s.length≤1000000) : R (n+1) ZdQ [strv s] H=some (strv (Qd s),H):=by
 have e:=Zrx (n:=n) (X:=H) hs s.length 0 (by omega) (by omega)
 have e : Zi (c4 (JR.l1 (R n))) [strv s,.string ⟨#[65,66,67,68,69,70,71,72,73,74,75,76,77,78,79,80,81,82,83,84,85,86,87,88,89,90]⟩,.string ⟨#[]⟩,.int .i64 0] H=_:=e
 rw [R,Zsu rfl]
 unfold JR
 rw [ZT e,ZE]
 rfl
end
end Go.Proofs.YtedkoimihknggaaGreatDoor.A
namespace Go.Proofs.YtedkoimihknggaaGreatDoor.A
set_option linter.unusedVariables false
set_option linter.unusedSimpArgs false
open Go.Proofs Go.Proofs.YtedkoimihknggaaGreatDoor
def QC (c : UInt8) : List UInt8→List (List UInt8)
 | []=>[[]]
 | b :: l=>if b=c then [] :: QC c l else match QC c l with
  | h :: t=>(b :: h) :: t
  | []=>[[b]]
theorem Zf9 {c : UInt8} : ∀ {s : List UInt8},QC c s≠[]
 | []=>by simp [QC]
 | b :: s=>by
  unfold QC
  split
  ·simp
  ·split <;> simp
theorem Zo1 {c : UInt8} : ∀ {s : List UInt8},c∉s→QC c s=[s]
 | [],_=>rfl
 | b :: s,h=>by
  simp only [List.mem_cons,not_or] at h
  unfold QC
  rw [if_neg (Ne.symm h.1),Zo1 h.2]
theorem Zl4 {c : UInt8} : ∀ {s : List UInt8},c∈s→QC c s=s.takeWhile (· !=c) :: QC c (s.drop ((s.takeWhile (· !=c)).length+1))
 | [],h=>by cases h
 | b :: s,h=>by
  rw [show QC c (b :: s)=(if b=c then [] :: QC c s else match QC c s with | h :: t=>(b :: h) :: t | []=>[[b]]) from rfl]
  by_cases hb : b=c
  ·subst hb
   rw [if_pos rfl]
   simp
  ·rw [if_neg hb]
   have hm : c∈s:=by
    rcases List.mem_cons.1 h with h | h
    ·exact absurd h.symm hb
    ·exact h
   rw [Zl4 hm]
   have h2 : (b !=c)=true:=by simp [hb]
   simp [List.takeWhile_cons,h2]
theorem ZeL {c : UInt8} : ∀ {s : List UInt8},(QC c s).length=s.count c+1
 | []=>rfl
 | b :: s=>by
  have ih:=ZeL (c:=c) (s:=s)
  unfold QC
  by_cases hb : b=c
  ·subst hb
   rw [if_pos rfl,List.length_cons,ih,List.count_cons_self]
  ·rw [if_neg hb,List.count_cons_of_ne (by simpa using hb)]
   cases h : QC c s with
   | nil=>exact absurd h Zf9
   | cons a t=>rw [h] at ih;simpa using ih
theorem Zzj {c : UInt8} : ∀ {s : List UInt8},c∈s→s.count c=(s.drop ((s.takeWhile (· !=c)).length+1)).count c+1:=by
 intro s h
 have h1:=ZeL (c:=c) (s:=s)
 rw [Zl4 h,List.length_cons,ZeL] at h1
 omega
def Zio (l : List UInt8) : Bool:=!(l==[]) && l.all WV
def Zaf (f : List UInt8) : List UInt8:=if 64∈f then f.drop ((f.takeWhile (· !=64)).length+1) else []
def okM (f : List UInt8) : Bool:=decide (64∈f) && (Zp (f.takeWhile (· !=64)) && (decide (2≤(QC 46 (Zaf f)).length) && (QC 46 (Zaf f)).all Zio))
def QH (s : List UInt8) : Bool:=decide (s.length≤20) && okM (Qd s)
def Zce : List UInt8→Nat→Nat→Option (Nat × Nat)
 | [],st,lg=>some (st,lg)
 | c :: l,st,lg=>if c=46 then (if lg=0 then none else Zce l (st+1) 0) else if WV c then Zce l st (lg+1) else none
def ZhA (l : List UInt8) (st lg : Nat) : Bool:=match Zce l st lg with
 | some (a,b)=>decide (a≠0) && decide (b≠0)
 | none=>false
def Zfv (lg : Nat) : List (List UInt8)→Bool
 | h :: t=>(h.all WV && decide (lg+h.length≠0)) && t.all Zio
 | []=>false
theorem ZqX : ∀ (l : List UInt8) (st lg : Nat),ZhA l st lg=(decide (st+(QC 46 l).length≠1) && Zfv lg (QC 46 l))
 | [],st,lg=>by simp [ZhA,Zce,QC,Zfv]
 | c :: l,st,lg=>by
  unfold ZhA Zce QC
  by_cases hc : c=46
  ·rw [if_pos hc,if_pos hc]
   by_cases hl : lg=0
   ·simp [hl,Zfv]
   ·rw [if_neg hl]
    have ih:=ZqX l (st+1) 0
    unfold ZhA at ih
    rw [ih]
    have hne:=Zf9 (c:=46) (s:=l)
    cases hsp : QC 46 l with
    | nil=>exact absurd hsp hne
    | cons h t=>
     have h1 : decide (st+1+(h :: t).length≠1)=true:=by simp;omega
     have h2 : decide (st+([] :: h :: t).length≠1)=true:=by simp;omega
     rw [h1,h2]
     simp only [Zfv,List.all_nil,List.all_cons,Zio,List.length_nil,Nat.zero_add,Nat.add_zero,Bool.true_and]
     have h3 : decide (lg≠0)=true:=by simp [hl]
     rw [h3,Bool.true_and]
     have h4 : (!(h==[]))=decide (h.length≠0):=by cases h <;> simp
     rw [h4,Bool.and_comm (h.all WV)]
  ·rw [if_neg hc,if_neg hc]
   cases hsp : QC 46 l with
   | nil=>exact absurd hsp Zf9
   | cons h t=>
    cases ha : WV c
    ·simp [Zfv,ha]
    ·have ih:=ZqX l st (lg+1)
     unfold ZhA at ih
     simp only [if_true]
     rw [ih,hsp]
     have e : ∀ x : Nat,lg+1+x=lg+(x+1):=fun x=>by omega
     simp [Zfv,ha,e]
theorem ZzZ {l : List UInt8} : ZhA l 0 0=(decide (2≤(QC 46 l).length) && (QC 46 l).all Zio):=by
 rw [ZqX]
 cases hsp : QC 46 l with
 | nil=>exact absurd hsp Zf9
 | cons h t=>
  have h1 : decide (0+(h :: t).length≠1)=decide (2≤(h :: t).length):=by
   rw [decide_eq_decide]
   have : (h :: t).length=t.length+1:=rfl
   omega
  rw [h1]
  have h4 : (!(h==[]))=decide (h.length≠0):=by cases h <;> simp
  simp only [Zfv,List.all_cons,Zio,Nat.zero_add,h4]
  rw [Bool.and_comm (h.all WV)]
section
variable {H X : Zd} {n : Nat} {s : List UInt8} {c : UInt8}
theorem ZA0 {args : List Value} : run Tryz.prog np lvs (n+1) Yx args=Zjo args:=Zcl (show np Yx=some Zjo from rfl)
theorem ZBz {args : List Value} : run Tryz.prog np lvs (n+1) Ki args=ZjD args:=Zcl (show np Ki=some ZjD from rfl)
theorem Zte : R (n+3) Ji [strv s,strv [c]] H=some (iv (Go.Lib.indexByte s c),H):=by
 have e1 : run Tryz.prog np lvs (n+2) Ya [strv s,u8v c] H=some (iv (Go.Lib.indexByte s c),H):=by
  have e0 : run Tryz.prog np lvs (n+1) Yx [strv s,u8v c] H=some (iv (Go.Lib.indexByte s c),H):=by rw [ZA0];exact ZCd
  rw [Zed rfl]
  unfold We
  rw [Za e0]
  rfl
 have q0 : bop .int .eql (iv [c].length) (.int .i64 0) H=some (.bool false,H):=by rw [ZD];rfl
 have q1 : bop .int .eql (iv [c].length) (.int .i64 1) H=some (.bool true,H):=by rw [ZD];rfl
 have x1 : ixs (strv [c]) (.int .i64 0) H=some (u8v c,H):=ZcU (s:=[c]) (i:=0) rfl .i64 H
 rw [R,ZfD rfl]
 unfold YB
 rw [Za ZP,Za q0,ZU,Zk,Za Zdp,ZV,Z3,Za Zl]
 simp only [cond_false]
 by_cases h : s=[c]
 ·subst h
  rw [Zb,if_pos (by simp)]
  unfold Go.Lib.indexByte
  simp [ret]
 ·rw [Zb,if_neg (by simp;exact fun e=>h e.symm),Za q1,Zb,if_pos rfl,Za x1,Za e1]
  rfl
theorem Zzu : R (n+4) ZaB [strv s,strv [c]] H=some (iv (Go.Lib.indexByte s c),H):=by
 have e1 : run Tryz.prog np lvs (n+3) Ji [strv s,strv [c]] H=_:=Zte
 rw [R,Zob rfl]
 unfold Zfz
 rw [Za e1]
 rfl
theorem ZBg : R (n+2) Zb3 [strv s,strv [c]] H=some (iv (s.count c),H):=by
 have e0 : run Tryz.prog np lvs (n+1) Ki [strv s,u8v c] H=some (iv (s.count c),H):=by rw [ZBz];exact ZCa
 have q0 : bop .int .eql (iv [c].length) (.int .i64 0) H=some (.bool false,H):=by rw [ZD];rfl
 have q1 : bop .int .eql (iv [c].length) (.int .i64 1) H=some (.bool true,H):=by rw [ZD];rfl
 have x1 : ixs (strv [c]) (.int .i64 0) H=some (u8v c,H):=ZcU (s:=[c]) (i:=0) rfl .i64 H
 rw [R,ZnT rfl]
 unfold ZbY
 rw [Za ZP,Za q0,Zb,if_neg (by simp),Za ZP,Za q1,Zb,if_pos rfl,Za x1,Za e0]
 rfl
theorem Zpc {s : List UInt8} {c : UInt8} (h : c∈s) : (s.takeWhile (· !=c)).length < s.length:=by
 rcases Nat.lt_or_ge (s.takeWhile (· !=c)).length s.length with h1 | h1
 ·exact h1
 ·have h2 : s.takeWhile (· !=c)=s:=by
   have:=List.takeWhile_prefix (p:=(· !=c)) (l:=s)
   exact this.eq_of_length (by have:=this.length_le;omega)
  have h3:=List.all_eq_true.1 (List.all_takeWhile (p:=(· !=c)) (l:=s)) c (by rw [h2];exact h)
  simp at h3
theorem ZqP {s : List UInt8} {p : UInt8→Bool} : s.take (s.takeWhile p).length=s.takeWhile p:=
 (List.prefix_iff_eq_take.1 (List.takeWhile_prefix p)).symm
theorem ZCJ (hs : s.length≤1000000) : R (n+5) ZaQ [strv s,strv [c]] H=some (if c∈s then .tuple #[strv (s.takeWhile (· !=c)),strv (s.drop ((s.takeWhile (· !=c)).length+1)),.bool true] else .tuple #[strv s,strv [],.bool false],H):=by
 have e1 : run Tryz.prog np lvs (n+3) Ji [strv s,strv [c]] H=_:=Zte
 have e2 : run Tryz.prog np lvs (n+4) K8 [strv s,strv [c]] H=some (if c∈s then .tuple #[strv (s.takeWhile (· !=c)),strv (s.drop ((s.takeWhile (· !=c)).length+1)),.bool true] else .tuple #[strv s,strv [],.bool false],H):=by
  rw [Zgt rfl]
  unfold ZaS
  rw [Za e1,Zfs,Za Qj,Zb]
  by_cases h : c∈s
  ·have hl:=Zpc h
   have w : IntKind.i64.wrap (((s.takeWhile (· !=c)).length : Int)+(([c] : List UInt8).length : Nat))=(((s.takeWhile (· !=c)).length+1 : Nat) : Int):=Qg (by omega)
   rw [if_pos h,if_pos (by simp),Za (ZsQ (by omega)),ZqP,Za ZP,Za ZB,w,Za (ZAn (by omega)),if_pos h]
   rfl
  ·rw [if_neg h,if_neg (by decide),if_neg h]
   rfl
 rw [R,ZqK rfl]
 unfold Zht
 rw [Za e2]
 by_cases h : c∈s
 ·rw [if_pos h];rfl
 ·rw [if_neg h];rfl
theorem Zup {v : Value} {q : List Nat} {N : Nat} (hN : N≤1000001) : ∀ (t i : Nat) (s : List UInt8) (cs : List (List UInt8)) (X : Zd),N - 1 - i=t→i < N→s.length≤1000000→s.count c+1+i=N→cs.length=N→ZA X v (cs.map strv) q→
  ∃ (X' : Zd) (s' : List UInt8) (cs' : List (List UInt8)),Zi (c6 (Yj.l1 (R (n+4)))) [strv s,strv [c],iv 0,iv ((N - 1 : Nat) : Int),v,iv i] X=some (.ext 0 [strv s',v,iv ((N - 1 : Nat) : Int)],X')∧ZA X' v (cs'.map strv) q∧cs'.length=N∧cs'.take (N - 1)++[s']=cs.take i++QC c s∧ZC q X q X'
 | 0,i,s,cs,X,ht,hi,hs,hc,hl,hr=>by
  have hi2 : i=N - 1:=by omega
  subst hi2
  have hcs : c∉s:=by
   intro h
   have:=List.count_pos_iff.2 h
   omega
  refine ⟨X,s,cs,ZK ?_,hr,hl,by rw [Zo1 hcs],.refl _ _⟩
  rw [Jy]
  unfold Yj.l1
  rw [Za Zm,Zb,if_neg (by simp)]
  rfl
 | t+1,i,s,cs,X,ht,hi,hs,hc,hl,hr=>by
  have hlt : (i : Int) < ((N - 1 : Nat) : Int):=by omega
  have hcs : c∈s:=List.count_pos_iff.1 (by omega)
  have htl:=Zpc hcs
  have hct:=Zzj hcs
  have e1 : R (n+4) ZaB [strv s,strv [c]] X=_:=Zzu
  rw [Zfs,if_pos hcs] at e1
  have w0 : IntKind.i64.wrap (((s.takeWhile (· !=c)).length : Int)+0)=((s.takeWhile (· !=c)).length : Int):=by rw [Int.add_zero];exact w64 (by omega) (by omega)
  have w : IntKind.i64.wrap (((s.takeWhile (· !=c)).length : Int)+(([c] : List UInt8).length : Nat))=(((s.takeWhile (· !=c)).length+1 : Nat) : Int):=Qg (by omega)
  have x1:=hr.ix (i:=i) (by simp;omega) .i64 X
  obtain ⟨X1,x2,r1,s1,_⟩:=hr.stx (i:=i) (u:=strv (s.takeWhile (· !=c))) (by simp;omega) rfl
  rw [show (cs.map strv).set i (strv (s.takeWhile (· !=c)))=(cs.set i (s.takeWhile (· !=c))).map strv from by rw [List.map_set]] at r1
  obtain ⟨X',s',cs',e2,r2,l2,h2,s2⟩:=Zup hN t (i+1) (s.drop ((s.takeWhile (· !=c)).length+1)) (cs.set i (s.takeWhile (· !=c))) X1 (by omega) (by omega) (by simp;omega) (by omega) (by simpa using hl) r1
  refine ⟨X',s',cs',(Zy ?_).trans e2,r2,l2,?_,s1.trans s2⟩
  ·have q1 : bop .int .lss (iv ((s.takeWhile (· !=c)).length : Nat)) (.int .i64 0) X=some (.bool false,X):=by rw [Zm,decide_eq_false (by omega)]
   rw [Jy]
   unfold Yj.l1
   rw [Za Zm,Zb,if_pos (by simpa using hlt),Za e1,Za q1,Zb,if_neg (by simp),Za ZB,w0,Za (ZsQ (by omega)),ZqP,Za x1,Za x2,Za ZP,Za ZB,w,Za (ZAn (by omega)),Za ZB,Qg (by omega)]
   rfl
  ·have h5 : i < (cs.set i (s.takeWhile (· !=c))).length:=by simp;omega
   rw [h2,Zl4 hcs,List.take_succ_eq_append_getElem h5,List.take_set_of_le (Nat.le_refl _)]
   simp
theorem ZBa (hs : s.length≤1000000) : ∃ X' v q,R (n+6) ZbS [strv s,strv [c]] X=some (v,X')∧ZA X' v ((QC c s).map strv) q∧HLe X X':=by
 have hcl : s.count c≤s.length:=List.count_le_length
 have e0 : run Tryz.prog np lvs (n+4) Zb3 [strv s,strv [c]] X=_:=ZBg (n:=n+2)
 have w1 : IntKind.i64.wrap ((s.count c : Int)+1)=((s.count c+1 : Nat) : Int):=Qg (by omega)
 have w2 : IntKind.i64.wrap ((s.length : Int)+1)=((s.length+1 : Nat) : Int):=Qg (by omega)
 have q0 : bop .int .eql (.int .i64 (-1)) (.int .i64 0) X=some (.bool false,X):=by rw [ZD];rfl
 have q1 : bop .str .eql (strv [c]) (.string ⟨#[]⟩) X=some (.bool false,X):=Zdp (b:=[])
 have q2 : bop .int .lss (.int .i64 (-1)) (.int .i64 0) X=some (.bool true,X):=by rw [Zm];rfl
 have hm : mxi false (iv ((s.count c+1 : Nat) : Int)) (iv ((s.length+1 : Nat) : Int)) X=some (iv ((s.count c+1 : Nat) : Int),X):=by rw [Yz,if_neg (by omega)]
 have e1:=ZCO (k:=s.count c+1) (b:=16) (z:=.string ⟨#[]⟩) (H:=X) rfl (by omega) (by omega)
 have k1 : HLe X (X++[.cells (List.replicate (s.count c+1) (Value.string ⟨#[]⟩)) 1 false false]):=.app _ _
 have r1 : ZA (X++[.cells (List.replicate (s.count c+1) (Value.string ⟨#[]⟩)) 1 false false]) (.slice (some ⟨X.length,0,none⟩) (s.count c+1) (s.count c+1)) ((List.replicate (s.count c+1) ([] : List UInt8)).map strv) [X.length]:=by
  rw [List.map_replicate]
  exact ZA.new Zw
 have ho : ∀ j∈[X.length],X.length≤j:=by simp
 generalize X++[Ze.cells (List.replicate (s.count c+1) (Value.string ⟨#[]⟩)) 1 false false]=X1 at e1 k1 r1
 generalize hv : Value.slice (some ⟨X.length,0,none⟩) (s.count c+1) (s.count c+1)=v at e1 r1
 have w3 : IntKind.i64.wrap (((s.count c+1 : Nat) : Int) - 1)=((s.count c+1 - 1 : Nat) : Int):=Zqa (by omega) (by omega)
 obtain ⟨X2,s',cs',e2,r2,l2,h2,s2⟩:=Zup (n:=n) (c:=c) (N:=s.count c+1) (by omega) (s.count c+1 - 1 - 0) 0 s _ X1 rfl (by omega) hs (by omega) (by simp) r1
 have e2 : Zi (c6 (Yj.l1 (R (n+4)))) [strv s,strv [c],.int .i64 0,iv ((s.count c+1 - 1 : Nat) : Int),v,.int .i64 0] X1=_:=e2
 have x1:=r2.ix (i:=s.count c+1 - 1) (by simp;omega) .i64 X2
 obtain ⟨X3,x2,r3,s3,_⟩:=r2.stx (i:=s.count c+1 - 1) (u:=strv s') (by simp;omega) rfl
 have hfin : (cs'.set (s.count c+1 - 1) s')=QC c s:=by
  have h6 : s.count c+1 - 1 < cs'.length:=by omega
  rw [← List.take_append_drop (s.count c+1 - 1) (cs'.set (s.count c+1 - 1) s'),List.take_set_of_le (Nat.le_refl _),List.drop_set]
  rw [if_neg (by omega),Nat.sub_self]
  have hd : (cs'.drop (s.count c+1 - 1)).length=1:=by simp;omega
  obtain ⟨a,ha⟩:=List.length_eq_one_iff.1 hd
  rw [ha,List.set_cons_zero,h2]
  rfl
 rw [show (cs'.map strv).set (s.count c+1 - 1) (strv s')=(cs'.set (s.count c+1 - 1) s').map strv from by rw [List.map_set],hfin] at r3
 have hlen : ((QC c s).map strv).length=s.count c+1:=by rw [List.length_map,ZeL]
 have x3 : ∃ v',slv 1 v none (some (iv ((s.count c+1 : Nat) : Int))) none X3=some (v',X3)∧ZA X3 v' ((QC c s).map strv) [X.length]:=by
  rcases r3 with ⟨h,_,_⟩ | ⟨sid,rest,g,h1,h3,h4⟩
  ·rw [h] at hlen;simp at hlen
  ·rw [hlen] at h1
   refine ⟨.slice (some ⟨sid,0,none⟩) (s.count c+1) (s.count c+1+rest.length),?_,.inr ⟨sid,rest,g,by rw [hlen],h3,h4⟩⟩
   have b1 : bnd (some (iv ((s.count c+1 : Nat) : Int))) (s.count c+1)=some (s.count c+1):=by simp [bnd];omega
   have b2 : ∀ d,bnd none d=some d:=fun _=>rfl
   rw [h1]
   simp only [slv,h4,b1,b2]
   rw [if_pos ⟨trivial,by omega,by omega,Nat.le_refl _⟩,if_neg (by omega)]
   simp
 obtain ⟨v',x3,r4⟩:=x3
 have w4 : IntKind.i64.wrap (((s.count c+1 - 1 : Nat) : Int)+1)=((s.count c+1 : Nat) : Int):=by rw [Qg (by omega)];congr 1
 have e3 : run Tryz.prog np lvs (n+5) ZbL [strv s,strv [c],.int .i64 0,.int .i64 (-1)] X=some (v',X3):=by
  rw [Zkv rfl]
  unfold Yj
  rw [Za q0,Zb,if_neg (by simp),Za q1,Zb,if_neg (by simp),Za q2]
  refine (ZZ (vs:=[strv s,strv [c],.int .i64 0,iv ((s.count c+1 : Nat) : Int)]) (H':=X) ?_).trans ?_
  ·rw [Zb,if_pos rfl,Za e0,Za ZB,w1];rfl
  ·rw [ZI,Za ZP,Za ZB,w2,Za hm,Za e1,Za QU,w3]
   refine (ZZ (vs:=[strv s',v,iv ((s.count c+1 - 1 : Nat) : Int)]) (H':=X2) ?_).trans ?_
   ·rw [ZT e2,ZE,Z3];rfl
   ·rw [Z3,Za x1,Za x2,Za ZB,w4,Za x3];rfl
 refine ⟨X3,v',[X.length],?_,r4,(k1.more (s2.trans s3) ho).1⟩
 rw [R,Zou rfl]
 unfold Zfy
 rw [Za e3]
 rfl
end
end Go.Proofs.YtedkoimihknggaaGreatDoor.A
namespace Go.Proofs.YtedkoimihknggaaGreatDoor.A
set_option linter.unusedVariables false
set_option linter.unusedSimpArgs false
open Go.Proofs Go.Proofs.YtedkoimihknggaaGreatDoor
section
variable {H X : Zd} {n : Nat} {s f : List UInt8} {c : UInt8}
theorem ZA9 {b : UInt8} : R (n+2) ZdN [u8v b] H=some (.bool (WV b),H):=by
 have e1 : run Tryz.prog np lvs (n+1) Kb [u8v b] H=some (.bool (Wm b),H):=Zi8
 have e2 : run Tryz.prog np lvs (n+1) Kx [u8v b] H=some (.bool (Zde b),H):=ZmF
 rw [R,Zsj rfl]
 unfold WV Zib
 rw [Za e1]
 cases Wm b
 ·rw [ZU,Zk,Za e2,ZV,ZX,Za Zl]
  rfl
 ·rw [Za (g_r.trans (if_neg (by simp)))]
  simp only [List.replicate]
  rw [ZX,Za Zl]
  rfl
theorem ZwS (hs : s.length≤1000000000) : R (n+3) Wq [strv s,.func (.func ZdN) #[] #[]] H=some (.bool (s.all WV),H):=
 Zxz (fun b H=>by rw [Zts];exact ZA9) hs
theorem ZxH {v : Value} {q : List Nat} {ls : List (List UInt8)} (hl : ls.length≤1000) (hb : ∀ l∈ls,l.length≤1000000) (hr : ZA X v (ls.map strv) q) : ∀ (t k : Nat),ls.length - k=t→k≤ls.length→
  Zi (c4 (KA.l1 (R (n+3)))) [strv f,v,iv ls.length,iv k] X=some (if (ls.drop k).all Zio then .ext 0 [strv f] else .ret (.tuple #[strv [],iv 11]),X)
 | 0,k,ht,hk=>by
  have : k=ls.length:=by omega
  subst this
  rw [List.drop_length]
  refine ZK ?_
  rw [ZI]
  unfold KA.l1
  rw [Za Zm,Zb,if_neg (by simp)]
  rfl
 | t+1,k,ht,hk=>by
  have hkl : k < ls.length:=by omega
  have hlt : (k : Int) < ls.length:=by omega
  have hg:=List.getElem?_eq_getElem hkl
  have hm:=List.getElem_mem hkl
  have hd:=List.drop_eq_getElem_cons hkl
  generalize ls[k]=l at hg hd hm
  have x1:=hr.ix (i:=k) (by simpa using hkl) .i64 X
  have x2:=hr.ldx (Yt hg)
  have e1 : R (n+3) Wq [strv l,.func (.func ZdN) #[] #[]] X=some (.bool (l.all WV),X):=ZwS (Nat.le_trans (hb l hm) (by decide))
  have ih:=ZxH hl hb hr t (k+1) (by omega) (by omega)
  have q1 : bop .str .eql (strv l) (.string ⟨#[]⟩) X=some (.bool (l==[]),X):=Zdp (b:=[])
  have hb1 : c4 (KA.l1 (R (n+3))) [strv f,v,iv ls.length,iv k] X=some (if Zio l then .nrm [strv f,v,iv ls.length,iv ((k+1 : Nat) : Int)] else .ret (.tuple #[strv [],iv 11]),X):=by
   rw [ZI]
   unfold KA.l1 Zio
   rw [Za Zm,Zb,if_pos (by simpa using hlt),Za x1,Za x2,Za q1]
   cases l==[]
   ·rw [ZU,Zk,Za e1,Zk,Za ZH,ZV,Z3,Za Zl]
    simp only [cond_false]
    cases l.all WV
    ·rw [Zb,if_pos (by rfl)];rfl
    ·rw [Zb,if_neg (by simp),Za ZB,Qg (by omega)];rfl
   ·rw [Za (g_r.trans (if_neg (by simp)))]
    simp only [List.replicate]
    rw [Z3,Za Zl]
    simp only [cond_true]
    rw [Zb,if_pos rfl]
    rfl
  rw [hd,List.all_cons]
  cases hlb : Zio l
  ·rw [hlb] at hb1
   exact QE hb1
  ·rw [hlb] at hb1
   rw [Bool.true_and]
   exact (Zy hb1).trans ih
theorem ZfN {c : UInt8} : ∀ {s : List UInt8},∀ l∈QC c s,l.length≤s.length
 | [],l,h=>by simp [QC] at h;simp [h]
 | b :: s,l,h=>by
  rw [show QC c (b :: s)=(if b=c then [] :: QC c s else match QC c s with | h :: t=>(b :: h) :: t | []=>[[b]]) from rfl] at h
  split at h
  ·rcases List.mem_cons.1 h with rfl | h
   ·simp
   ·have:=ZfN l h
    simp;omega
  ·cases hsp : QC c s with
   | nil=>exact absurd hsp Zf9
   | cons a t=>
    rw [hsp] at h
    rcases List.mem_cons.1 h with rfl | h
    ·have:=ZfN (c:=c) (s:=s) a (by rw [hsp];simp)
     simpa using this
    ·have:=ZfN (c:=c) (s:=s) l (by rw [hsp];simp [h])
     simp;omega
theorem ZkK : (Qd s).length=s.length:=by simp [Qd]
theorem Ztl : ∃ X',R (n+8) Zbp [strv s] X=some (.tuple #[strv (if QH s then Qd s else []),iv (if QH s then 0 else 11)],X')∧HLe X X':=by
 have f1 : ∀ r X',KA (R (n+7)) (strv s) X=some (r,X')→R (n+8) Zbp [strv s] X=some (r,X'):=fun r X' hr=>by rw [R,Ztn rfl];exact hr
 unfold QH
 by_cases h20 : s.length≤20
 ·have q1 : bop .int .gtr (iv s.length) (.int .i64 20) X=some (.bool false,X):=by rw [Z0,decide_eq_false (by omega)]
  obtain ⟨X1,e1,k1⟩:=ZB0 (n:=n+6) (s:=s) (H:=X) (by omega)
  have e1 : R (n+7) ZeH [strv s] X=_:=e1
  have hfl : (Qd s).length≤20:=by rw [ZkK];exact h20
  generalize Qd s=f at e1 hfl
  have e2 : R (n+7) ZaQ [strv f,strv [64]] X1=_:=ZCJ (n:=n+2) (c:=64) (by omega)
  obtain ⟨loc,e2'⟩ : ∃ loc : List UInt8,R (n+7) ZaQ [strv f,strv [64]] X1=some (.tuple #[strv loc,strv (Zaf f),.bool (decide (64∈f))],X1)∧(64∈f→loc=f.takeWhile (· !=64)):=by
   unfold Zaf
   by_cases h : 64∈f
   ·rw [if_pos h] at e2
    exact ⟨_,by rw [e2,if_pos h,decide_eq_true h],fun _=>rfl⟩
   ·rw [if_neg h] at e2
    exact ⟨_,by rw [e2,if_neg h,decide_eq_false h],fun h2=>absurd h2 h⟩
  obtain ⟨e2',hloc⟩:=e2'
  have hdl : (Zaf f).length≤20:=by unfold Zaf;split <;> simp;omega
  obtain ⟨X2,v,q,e3,r3,k3⟩:=ZBa (n:=n+1) (c:=46) (s:=Zaf f) (X:=X1) (by omega)
  have e3 : R (n+7) ZbS [strv (Zaf f),.string ⟨#[46]⟩] X1=_:=e3
  have e2'' : R (n+7) ZaQ [strv f,.string ⟨#[64]⟩] X1=_:=e2'
  have hcl : (Zaf f).count 46≤(Zaf f).length:=List.count_le_length
  have hsl:=ZeL (c:=46) (s:=Zaf f)
  have hl : Zx v X2=some (iv (QC 46 (Zaf f)).length,X2):=by have:=r3.rd.len (H':=X2);rwa [List.length_map] at this
  have e4 : R (n+7) ZaJ [strv loc] X2=some (.bool (Zp loc),X2):=ZrW (n:=n+3)
  have e5:=ZxH (n:=n+4) (f:=f) (ls:=QC 46 (Zaf f)) (by omega) (fun l h=>Nat.le_trans (ZfN l h) (by omega)) r3 (QC 46 (Zaf f)).length 0 (by omega) (by omega)
  rw [List.drop_zero] at e5
  have e5 : Zi (c4 (KA.l1 (R (n+7)))) [strv f,v,iv (QC 46 (Zaf f)).length,.int .i64 0] X2=_:=e5
  refine ⟨X2,f1 _ _ ?_,k1.trans k3⟩
  unfold KA
  rw [Za ZP,Za q1,Zb,if_neg (by simp),Za e1,Za e2'']
  have t0 : Zo (.tuple #[strv loc,strv (Zaf f),.bool (decide (64∈f))]) 0 X1=some (strv loc,X1):=rfl
  have t1 : Zo (.tuple #[strv loc,strv (Zaf f),.bool (decide (64∈f))]) 1 X1=some (strv (Zaf f),X1):=rfl
  have t2 : Zo (.tuple #[strv loc,strv (Zaf f),.bool (decide (64∈f))]) 2 X1=some (.bool (decide (64∈f)),X1):=rfl
  rw [Za t0,Za t1,Za t2,Za e3,Za ZH]
  unfold okM
  rw [decide_eq_true h20]
  by_cases h : 64∈f
  ·rw [decide_eq_true h,← hloc h]
   simp only [Bool.not_true,Bool.true_and]
   rw [ZU,Zk,Za e4,Zk,Za ZH,ZV,Z3,Za Zl]
   simp only [cond_false]
   cases Zp loc
   ·simp only [Bool.not_false,Bool.false_and]
    rw [Za (g_r.trans (if_neg (by simp)))]
    simp only [List.replicate]
    rw [Z3,Za Zl]
    simp only [cond_true]
    rw [Zb,if_pos rfl]
    rfl
   ·simp only [Bool.not_true,Bool.true_and]
    rw [ZU,Zk,Za hl,Zk,Za Zm,ZV,Z3,Za Zl]
    simp only [cond_false]
    by_cases h2 : 2≤(QC 46 (Zaf f)).length
    ·rw [decide_eq_false (by omega),Zb,if_neg (by simp),Za hl,decide_eq_true h2,Bool.true_and]
     cases ha : (QC 46 (Zaf f)).all Zio
     ·rw [ha] at e5
      rw [JJ e5]
      rfl
     ·rw [ha] at e5
      rw [ZT e5,ZE]
      rfl
    ·rw [decide_eq_true (by omega),Zb,if_pos rfl,decide_eq_false h2]
     rfl
  ·rw [decide_eq_false h]
   simp only [Bool.not_false,Bool.false_and,Bool.and_false]
   rw [Za (g_r.trans (if_neg (by simp)))]
   simp only [List.replicate]
   rw [Z3,Za Zl]
   simp only [cond_true]
   rw [Za (g_r.trans (if_neg (by simp)))]
   simp only [List.replicate]
   rw [Z3,Za Zl]
   simp only [cond_true]
   rw [Zb,if_pos rfl]
   rfl
 ·have q1 : bop .int .gtr (iv s.length) (.int .i64 20) X=some (.bool true,X):=by rw [Z0,decide_eq_true (by omega)]
  refine ⟨X,f1 _ _ ?_,.refl _⟩
  unfold KA
  rw [Za ZP,Za q1,Zb,if_pos rfl,decide_eq_false h20]
  rfl
theorem ZCS {i : Nat} (hi : i < (f.takeWhile (· !=c)).length) : ∃ x,f[i]?=some x∧x≠c:=by
 have h1 : (f.takeWhile (· !=c))[i]?=f[i]?:=by
  conv=>rhs;rw [← List.takeWhile_append_dropWhile (p:=(· !=c)) (l:=f)]
  rw [List.getElem?_append_left hi]
 have h2:=List.getElem?_eq_getElem hi
 have hm:=List.getElem_mem hi
 generalize (f.takeWhile (· !=c))[i]=x at h2 hm
 refine ⟨x,by rw [← h1,h2],?_⟩
 have:=List.all_eq_true.1 (List.all_takeWhile (p:=(· !=c)) (l:=f)) x hm
 simpa using this
theorem ZxE : ∀ {f : List UInt8},c∈f→f[(f.takeWhile (· !=c)).length]?=some c
 | [],h=>by cases h
 | b :: f,h=>by
  by_cases hb : b=c
  ·subst hb;simp
  ·have hm : c∈f:=by
    rcases List.mem_cons.1 h with h | h
    ·exact absurd h.symm hb
    ·exact h
   have ih:=ZxE hm
   have h2 : (b !=c)=true:=by simp [hb]
   rw [List.takeWhile_cons,h2]
   simpa using ih
theorem Zt8 : ∀ {f : List UInt8},c∉f→(f.takeWhile (· !=c)).length=f.length
 | [],_=>rfl
 | b :: f,h=>by
  simp only [List.mem_cons,not_or] at h
  have h2 : (b !=c)=true:=by simp [Ne.symm h.1]
  rw [List.takeWhile_cons,h2]
  simpa using Zt8 h.2
theorem ZAx (hf : f.length≤1000000) : ∀ (t k : Nat),(f.takeWhile (· !=64)).length - k=t→k≤(f.takeWhile (· !=64)).length→
  Zi (c2 (Q9.l1 (R n))) [strv f,iv k] X=some (.ext 0 [strv f,iv (f.takeWhile (· !=64)).length],X)
 | 0,k,ht,hk=>by
  have : k=(f.takeWhile (· !=64)).length:=by omega
  subst this
  refine ZK ?_
  rw [ZX]
  unfold Q9.l1
  rw [Za ZP,Za Zm]
  by_cases h : 64∈f
  ·have hl:=Zpc h
   have x1:=ZcU (ZxE h) .i64 X
   have q1 : bop .int .neq (u8v 64) (.int .u8 64) X=some (.bool false,X):=by rw [Zq];rfl
   rw [decide_eq_true (by omega),ZU,Zk,Za x1,Zk,Za q1,ZV,ZI,Za Zl]
   simp only [cond_true]
   rw [Zb,if_neg (by simp)]
   rfl
  ·have hl:=Zt8 h
   rw [decide_eq_false (by omega),Za (g_r.trans (if_neg (by simp)))]
   simp only [List.replicate]
   rw [ZI,Za Zl]
   simp only [cond_false]
   rw [Zb,if_neg (by simp)]
   rfl
 | t+1,k,ht,hk=>by
  have hkt : k < (f.takeWhile (· !=64)).length:=by omega
  have hle : (f.takeWhile (· !=64)).length≤f.length:=(List.takeWhile_prefix _).length_le
  obtain ⟨x,hx,hne⟩:=ZCS hkt
  have x1:=ZcU hx .i64 X
  have q1 : bop .int .neq (u8v x) (.int .u8 64) X=some (.bool true,X):=by
   have:=Ziw (a:=x) (b:=64)
   have h2 : (x==64)=false:=beq_eq_false_iff_ne.2 hne
   rw [h2] at this
   rw [Zq]
   have h3 : ((x.toNat : Int)==64)=false:=this
   simp only [bne,h3];rfl
  refine (Zy ?_).trans (ZAx hf t (k+1) (by omega) (by omega))
  rw [ZX]
  unfold Q9.l1
  rw [Za ZP,Za Zm,decide_eq_true (by omega),ZU,Zk,Za x1,Zk,Za q1,ZV,ZI,Za Zl]
  simp only [cond_true]
  rw [Zb,if_pos rfl,Za ZB,Qg (by omega)]
  rfl
theorem ZqQ (hf : f.length≤1000000) : ∀ (t k st lg : Nat),f.length - k=t→k≤f.length→st≤k→lg≤k→
  Zi (c4 (Q9.l2 (R (n+1)))) [strv f,iv st,iv lg,iv k] X=some (match Zce (f.drop k) st lg with | some (a,b)=>.ext 2 [strv f,iv a,iv b] | none=>.ret (.tuple #[strv [],.bool false]),X)
 | 0,k,st,lg,ht,hk,h1,h2=>by
  have : k=f.length:=by omega
  subst this
  rw [List.drop_length]
  refine ZK ?_
  rw [ZI]
  unfold Q9.l2
  rw [Za ZP,Za Zm,Zb,if_neg (by simp)]
  rfl
 | t+1,k,st,lg,ht,hk,h1,h2=>by
  have hkl : k < f.length:=by omega
  have hlt : (k : Int) < f.length:=by omega
  have hg:=List.getElem?_eq_getElem hkl
  have hd:=List.drop_eq_getElem_cons hkl
  generalize f[k]=x at hg hd
  have x1:=ZcU hg .i64 X
  have q1 : bop .int .eql (u8v x) (.int .u8 46) X=some (.bool (x==46),X):=by
   rw [ZD]
   congr 2
   exact congrArg Value.bool (Ziw (a:=x) (b:=46))
  have e1 : R (n+1) Zao [u8v x,.string ⟨#[97,98,99,100,101,102,103,104,105,106,107,108,109,110,111,112,113,114,115,116,117,118,119,120,121,122,48,49,50,51,52,53,54,55,56,57]⟩] X=some (.bool (WV x),X):=by
   rw [← Zut]
   exact Zxb (t:=ZuJ) (by decide)
  rw [hd]
  by_cases hx : x=46
  ·subst hx
   by_cases hl : lg=0
   ·subst hl
    refine (QE (v:=.tuple #[strv [],.bool false]) (H':=X) ?_).trans (by simp [Zce])
    rw [ZI]
    unfold Q9.l2
    rw [Za ZP,Za Zm,Zb,if_pos (by simpa using hlt),Za x1,Za q1]
    refine (JJ (v:=.tuple #[strv [],.bool false]) (H':=X) ?_).trans rfl
    rw [Zb,if_pos (by simp),Za ZD,Zb,if_pos (by rfl)]
    rfl
   ·have hs : Zce (46 :: f.drop (k+1)) st lg=Zce (f.drop (k+1)) (st+1) 0:=by simp [Zce,hl]
    rw [hs]
    refine (Zy ?_).trans (ZqQ hf t (k+1) (st+1) 0 (by omega) (by omega) (by omega) (by omega))
    rw [ZI]
    unfold Q9.l2
    rw [Za ZP,Za Zm,Zb,if_pos (by simpa using hlt),Za x1,Za q1]
    refine (ZZ (vs:=[strv f,iv ((st+1 : Nat) : Int),iv (0 : Nat),iv k]) (H':=X) ?_).trans ?_
    ·rw [Zb,if_pos (by simp),Za ZD,Zb,if_neg (by simp;omega),Za ZB,Qg (by omega)];rfl
    ·rw [ZI,Za ZB,Qg (by omega)];rfl
  ·have hxf : (x==46)=false:=beq_eq_false_iff_ne.2 hx
   rw [hxf] at q1
   cases ha : WV x
   ·rw [ha] at e1
    refine (QE (v:=.tuple #[strv [],.bool false]) (H':=X) ?_).trans (by simp [Zce,hx,ha])
    rw [ZI]
    unfold Q9.l2
    rw [Za ZP,Za Zm,Zb,if_pos (by simpa using hlt),Za x1,Za q1]
    refine (JJ (v:=.tuple #[strv [],.bool false]) (H':=X) ?_).trans rfl
    rw [Zb,if_neg (by simp),Za x1,Za e1,Za ZH,Zb,if_pos (by rfl)]
    rfl
   ·rw [ha] at e1
    have hs : Zce (x :: f.drop (k+1)) st lg=Zce (f.drop (k+1)) st (lg+1):=by simp [Zce,hx,ha]
    rw [hs]
    refine (Zy ?_).trans (ZqQ hf t (k+1) st (lg+1) (by omega) (by omega) (by omega) (by omega))
    rw [ZI]
    unfold Q9.l2
    rw [Za ZP,Za Zm,Zb,if_pos (by simpa using hlt),Za x1,Za q1]
    refine (ZZ (vs:=[strv f,iv st,iv ((lg+1 : Nat) : Int),iv k]) (H':=X) ?_).trans ?_
    ·rw [Zb,if_neg (by simp),Za x1,Za e1,Za ZH,Zb,if_neg (by simp),Za ZB,Qg (by omega)];rfl
    ·rw [ZI,Za ZB,Qg (by omega)];rfl
theorem ZyI : R (n+4) Zby [strv s] X=some (.tuple #[strv (if QH s then Qd s else []),.bool (QH s)],X):=by
 have f1 : ∀ r,Q9 (R (n+3)) (strv s) X=r→R (n+4) Zby [strv s] X=r:=fun r hr=>by rw [R,Zso rfl];exact hr
 refine f1 _ ?_
 unfold QH Q9
 by_cases h20 : s.length≤20
 ·have q1 : bop .int .gtr (iv s.length) (.int .i64 20) X=some (.bool false,X):=by rw [Z0,decide_eq_false (by omega)]
  have e1 : R (n+3) ZdQ [strv s] X=some (strv (Qd s),X):=Zy1 (n:=n+2) (by omega)
  have hfl : (Qd s).length≤20:=by rw [ZkK];exact h20
  generalize Qd s=f at e1 hfl
  have e2:=ZAx (n:=n+3) (X:=X) (f:=f) (by omega) (f.takeWhile (· !=64)).length 0 (by omega) (by omega)
  have e2 : Zi (c2 (Q9.l1 (R (n+3)))) [strv f,.int .i64 0] X=_:=e2
  have hle : (f.takeWhile (· !=64)).length≤f.length:=(List.takeWhile_prefix _).length_le
  rw [Za ZP,Za q1,Zb,if_neg (by simp),Za e1,ZT e2,ZE,ZX,Za ZP,Za ZD,decide_eq_true h20]
  unfold okM
  by_cases h : 64∈f
  ·have hl:=Zpc h
   have hne : (((f.takeWhile (· !=64)).length : Int)==(f.length : Int))=false:=by rw [beq_eq_false_iff_ne];omega
   have e3 : R (n+3) QP [strv (f.takeWhile (· !=64))] X=some (.bool (Zp (f.takeWhile (· !=64))),X):=Zca
   rw [hne,ZU,Zk,Za (ZsQ (by omega)),ZqP,Zk,Za e3,Zk,Za ZH,ZV,Qc,Za Zl,decide_eq_true h]
   simp only [cond_false,Bool.true_and]
   cases Zp (f.takeWhile (· !=64))
   ·rw [Zb,if_pos (by rfl)];rfl
   ·have hdm : Zaf f=f.drop ((f.takeWhile (· !=64)).length+1):=by unfold Zaf;rw [if_pos h]
    have e4:=ZqQ (n:=n+2) (X:=X) (f:=f) (by omega) (f.length - ((f.takeWhile (· !=64)).length+1)) ((f.takeWhile (· !=64)).length+1) 0 0 rfl (by omega) (by omega) (by omega)
    have e4 : Zi (c4 (Q9.l2 (R (n+3)))) [strv f,.int .i64 0,.int .i64 0,iv (((f.takeWhile (· !=64)).length+1 : Nat) : Int)] X=_:=e4
    rw [← hdm] at e4
    rw [Zb,if_neg (by simp),Za ZB,Qg (by omega),Bool.true_and,← ZzZ]
    unfold ZhA
    cases hsc : Zce (Zaf f) 0 0 with
    | none=>
     rw [hsc] at e4
     rw [JJ e4]
     rfl
    | some p=>
     obtain ⟨a,b⟩:=p
     rw [hsc] at e4
     rw [ZT e4,ZE,Z3,Za ZD]
     by_cases ha : a=0
     ·subst ha
      have q2 : (((0 : Nat) : Int)==0)=true:=rfl
      rw [q2,Za (g_r.trans (if_neg (by simp)))]
      simp only [List.replicate]
      rw [ZX,Za Zl]
      simp only [cond_true]
      rw [Zb,if_pos rfl]
      rfl
     ·have q2 : (((a : Nat) : Int)==0)=false:=by rw [beq_eq_false_iff_ne];omega
      rw [q2,ZU,Zk,Za ZD,ZV,ZX,Za Zl]
      simp only [cond_false]
      by_cases hb : b=0
      ·subst hb
       rw [Zb,if_pos (by rfl)]
       simp [ret]
       rfl
      ·have q3 : (((b : Nat) : Int)==0)=false:=by rw [beq_eq_false_iff_ne];omega
       rw [q3,Zb,if_neg (by simp)]
       simp [ret,ha,hb]
  ·have hl:=Zt8 h
   have hne : (((f.takeWhile (· !=64)).length : Int)==(f.length : Int))=true:=by rw [hl];simp
   rw [hne,Za (g_r.trans (if_neg (by simp))),decide_eq_false h]
   simp only [List.replicate]
   rw [Qc,Za Zl]
   simp only [cond_true]
   rw [Zb,if_pos rfl]
   rfl
 ·have q1 : bop .int .gtr (iv s.length) (.int .i64 20) X=some (.bool true,X):=by rw [Z0,decide_eq_true (by omega)]
  rw [Za ZP,Za q1,Zb,if_pos rfl,decide_eq_false h20]
  rfl
end
end Go.Proofs.YtedkoimihknggaaGreatDoor.A

namespace Go.Proofs.YtedkoimihknggaaGreatDoor.A
set_option linter.unusedVariables false
set_option linter.unusedSimpArgs false
structure W3 {α : Type} (enc : α→Value) (H : Zd) (id : Nat) (m : List (List UInt8 × α)) : Prop where
 ex : ∃ es clk,es.map kv=m.map (fun p=>(strv p.1,enc p.2))∧H[id]?=some (.map es clk)∧Zco es clk
 nod : (m.map (·.1)).Nodup
section
variable {α : Type} {enc : α→Value} {H H' : Zd} {id : Nat} {m : List (List UInt8 × α)} {k : List UInt8} {v : α} {z : Value}
theorem W3.g (h : W3 enc H id m) : JH enc H id m:=by
 obtain ⟨es,clk,h1,h2,h3⟩:=h.ex
 exact ⟨⟨es,h1,.inl ⟨clk,h2,h3⟩⟩,h.nod⟩
theorem W3.lt (h : W3 enc H id m) : id < H.length:=h.g.lt
theorem W3.keep (h : W3 enc H id m) (hk : H'[id]?=H[id]?) : W3 enc H' id m:=by
 obtain ⟨es,clk,h1,h2,h3⟩:=h.ex
 exact ⟨⟨es,clk,h1,by rw [hk];exact h2,h3⟩,h.nod⟩
theorem W3.hle (h : W3 enc H id m) (hl : HLe H H') : W3 enc H' id m:=h.keep (hl.step.keep id h.lt (by simp))
theorem W3.step {o1 o2 : List Nat} (h : W3 enc H id m) (hs : ZC o1 H o2 H') (hn : id∉o1) : W3 enc H' id m:=h.keep (hs.keep id h.lt hn)
theorem ZAm (H : Zd) : ∃ H',mkm H=some (.map (some H.length),H')∧W3 enc H' H.length ([] : List (List UInt8 × α))∧HLe H H'∧H'.length=H.length+1:=
 ⟨_,rfl,⟨⟨[],0,rfl,Zw,⟨by simp,by simp⟩⟩,by simp⟩,.app _ _,by simp⟩
theorem W3.clone (h : W3 enc H id m) : ∃ H',Zb1 [.map (some id)] H=some (.map (some H.length),H')∧W3 enc H' H.length m∧HLe H H'∧H'.length=H.length+1:=by
 obtain ⟨es,clk,h1,h2,h3⟩:=h.ex
 exact ⟨_,by unfold Zb1;simp only [h2],⟨⟨es,clk,h1,Zw,h3⟩,h.nod⟩,.app _ _,by simp⟩
theorem W3.mde (h : W3 enc H id m) : ∃ H',A.mde .str (.map (some id)) (strv k) H=some (.tuple #[],H')∧W3 enc H' id (Yg k m)∧ZC [id] H [id] H'∧H'.length=H.length:=by
 obtain ⟨es,clk,h1,h2,hs⟩:=h.ex
 have hst : ∀ o,ZC [id] H [id] (H.set id o):=fun o=>⟨by simp,fun j hj hn=>List.getElem?_set_ne (fun e=>hn (by simp [e])),fun j hj=>.inl hj⟩
 have hnod:=ZpI (k:=k) h.nod
 rcases Zg5 (k:=k) 0 h1 with ⟨h3,h4⟩ | ⟨j,v0,h3,h4,h5⟩
 ·refine ⟨H,?_,by rw [Zru h3];exact h,.refl _ _,rfl⟩
  unfold A.mde
  simp only [h2,ZaC,cond_true,h4]
 ·have ha : Yg k m=m.eraseIdx j:=(Ze9 h.nod h3).symm
  rw [ha] at hnod ⊢
  rw [Nat.zero_add] at h5
  have hm : (es.eraseIdx j).map kv=(m.eraseIdx j).map fun p=>(strv p.1,enc p.2):=by
   have hg : ∀ {β γ : Type} (f : β→γ) (l : List β) (j : Nat),(l.eraseIdx j).map f=(l.map f).eraseIdx j:=fun f l j=>by
    rw [List.eraseIdx_eq_take_drop_succ,List.eraseIdx_eq_take_drop_succ,List.map_append,List.map_take,List.map_drop]
   rw [hg,hg,h1]
  refine ⟨H.set id (.map (es.eraseIdx j) clk),?_,⟨⟨_,clk,hm,ZM h2,⟨fun e he=>hs.lt e ((List.eraseIdx_sublist es j).subset he),((List.eraseIdx_sublist es j).map _).nodup hs.nod⟩⟩,hnod⟩,hst _,by simp⟩
  unfold A.mde;simp only [h2,ZaC,cond_true,h5]
theorem Zj1 {es : List (Value × Value × Nat)} {j : Nat} {e : Value × Value × Nat} (hn : (es.map (·.2.2)).Nodup) (hj : es[j]?=some e) : es.findIdx? (fun x=>(x.2.2 : Int)==(e.2.2 : Nat))=some j:=by
 rw [List.findIdx?_eq_some_iff_getElem]
 have hlt:=(List.getElem?_eq_some_iff.1 hj).1
 have he:=(List.getElem?_eq_some_iff.1 hj).2
 refine ⟨hlt,by rw [he];simp,fun i hi=>?_⟩
 have hil : i < es.length:=by omega
 simp only [Bool.not_eq_true,beq_eq_false_iff_ne,ne_eq]
 intro h
 have h2 : es[i].2.2=e.2.2:=by omega
 have hp:=List.pairwise_iff_getElem.1 (List.nodup_iff_pairwise_ne.1 hn) i j (by simpa using hil) (by simpa using hlt) hi
 rw [List.getElem_map,List.getElem_map,he] at hp
 exact hp h2
theorem W3.put (h : W3 enc H id m) : ∃ t st H1 H2,men .str z (.map (some id)) (strv k) H=some (t,H1)∧Zo t 1 H1=some (st,H1)∧ens (.map (some id)) st (enc v) H1=some (undef,H2)∧W3 enc H2 id (Qw k v m)∧ZC [id] H [id] H1∧ZC [id] H [id] H2∧H2.length=H.length:=by
 obtain ⟨es,clk,h1,h2,hs⟩:=h.ex
 have hst : ∀ o,ZC [id] H [id] (H.set id o):=fun o=>⟨by simp,fun j hj hn=>List.getElem?_set_ne (fun e=>hn (by simp [e])),fun j hj=>.inl hj⟩
 have hst2 : ∀ o o',ZC [id] H [id] ((H.set id o).set id o'):=fun o o'=>⟨by simp,fun j hj hn=>by rw [List.getElem?_set_ne (fun e=>hn (by simp [e])),List.getElem?_set_ne (fun e=>hn (by simp [e]))],fun j hj=>.inl hj⟩
 have hnod:=Zpy (k:=k) (v:=v) h.nod
 rcases Zg5 (k:=k) 0 h1 with ⟨h3,h4⟩ | ⟨j,v0,h3,h4,h5⟩
 ·have ha : Qw k v m=m++[(k,v)]:=by unfold Qw;rw [h3];rfl
  rw [ha] at hnod ⊢
  have hS : Zco (es++[(strv k,z,clk)]) (clk+1):=⟨fun e he=>by
   rcases List.mem_append.1 he with he | he
   ·have:=hs.lt e he;omega
   ·have : e=(strv k,z,clk):=by simpa using he
    rw [this];exact Nat.lt_succ_self _,by
   rw [List.map_append,List.nodup_append]
   refine ⟨hs.nod,by simp,fun a ha b hb=>?_⟩
   have hb : b=clk:=by simpa using hb
   obtain ⟨e,he,rfl⟩:=List.mem_map.1 ha
   have:=hs.lt e he;omega⟩
  have hlen : es.length=m.length:=by have:=congrArg List.length h1;simpa using this
  have hget : (es++[(strv k,z,clk)])[es.length]?=some (strv k,z,clk):=by simp
  have hfi:=Zj1 hS.nod hget
  have hgk : ((es++[(strv k,z,clk)]).map kv)[es.length]?=some (strv k,z):=by rw [List.getElem?_map,hget];rfl
  refine ⟨.tuple #[z,.int .i64 (clk : Nat)],.int .i64 (clk : Nat),H.set id (.map (es++[(strv k,z,clk)]) (clk+1)),(H.set id (.map (es++[(strv k,z,clk)]) (clk+1))).set id (.map (YQ (es++[(strv k,z,clk)]) es.length (enc v)) (clk+1)),?_,rfl,?_,⟨⟨_,clk+1,?_,ZM (ZM h2),ZmA hS⟩,hnod⟩,hst _,hst2 _ _,by simp⟩
  ·unfold men;simp only [h2,ZaC,cond_true,h4]
  ·unfold ens
   simp only [ZM h2,hfi]
  ·rw [ZjU hgk,List.map_append,h1,List.map_append]
   have : es.length=(m.map fun p=>(strv p.1,enc p.2)).length:=by rw [List.length_map,hlen]
   rw [this]
   simp [kv]
 ·have ha : Qw k v m=m.set j (k,v):=by unfold Qw;rw [h4];exact (Zjx h.nod h3).symm
  rw [ha] at hnod ⊢
  rw [Nat.zero_add] at h5
  have hget : (es.map kv)[j]?=some (strv k,enc v0):=by rw [h1,List.getElem?_map,h3];rfl
  obtain ⟨e,he,hek⟩ : ∃ e,es[j]?=some e∧kv e=(strv k,enc v0):=by
   rw [List.getElem?_map] at hget
   cases hh : es[j]? with
   | none=>rw [hh] at hget;cases hget
   | some e=>rw [hh] at hget;exact ⟨e,rfl,by simpa using hget⟩
  have hfi:=Zj1 hs.nod he
  have hgd : (es.getD j (undef,undef,0)).2.2=e.2.2:=by rw [List.getD_eq_getElem?_getD,he];rfl
  refine ⟨.tuple #[enc v0,.int .i64 (e.2.2 : Nat)],.int .i64 (e.2.2 : Nat),H,H.set id (.map (YQ es j (enc v)) clk),?_,rfl,?_,⟨⟨_,clk,?_,ZM h2,ZmA hs⟩,hnod⟩,.refl _ _,hst _,by simp⟩
  ·unfold men;simp only [h2,ZaC,cond_true,h5,hgd]
  ·unfold ens
   simp only [h2,hfi]
  ·rw [ZjU hget,h1,List.map_set]
end
end Go.Proofs.YtedkoimihknggaaGreatDoor.A

namespace Go.Proofs.YtedkoimihknggaaGreatDoor.A
set_option linter.unusedVariables false
set_option linter.unusedSimpArgs false
open Go.Proofs Go.Proofs.YtedkoimihknggaaGreatDoor
structure Inv (OW OF : J4) : Prop where
 inv : ∀ k v,Zf k OF=some v↔Zf v OW=some k
 same : OW.length=OF.length
 lens : ∀ p∈OF,p.1≠[]∧p.1.length≤12∧p.2≠[]∧p.2.length≤20
def Zbw (k : List UInt8) (OW OF : J4) : J4:=match Zf k OF with
 | some m=>Yg m OW
 | none=>OW
def Wf (k : List UInt8) (OF : J4) : J4:=match Zf k OF with
 | some _=>Yg k OF
 | none=>OF
section
variable {OW OF : J4} {k f : List UInt8}
theorem Inv.drop (h : Inv OW OF) (n1 : (OW.map (·.1)).Nodup) (n2 : (OF.map (·.1)).Nodup) : Inv (Zbw k OW OF) (Wf k OF):=by
 unfold Zbw Wf
 cases hk : Zf k OF with
 | none=>exact h
 | some m=>
  have hm:=(h.inv k m).1 hk
  refine ⟨fun j v=>?_,?_,fun p hp=>h.lens p (List.mem_filter.1 hp).1⟩
  ·by_cases hj : j=k
   ·subst hj
    rw [Zar]
    constructor
    ·intro e;cases e
    ·intro e
     by_cases hv : v=m
     ·subst hv;rw [Zar] at e;cases e
     ·rw [JK hv,← h.inv] at e
      rw [hk] at e
      exact absurd (Option.some.inj e).symm hv
   ·rw [JK hj]
    by_cases hv : v=m
    ·subst hv
     rw [Zar,h.inv,hm]
     constructor
     ·intro e;exact absurd (Option.some.inj e).symm hj
     ·intro e;cases e
    ·rw [JK hv,h.inv]
  ·rw [Zow n1 (by rw [hm];rfl),Zow n2 (by rw [hk];rfl),h.same]
theorem Inv.put (h : Inv OW OF) (h1 : Zf f OW=none) (h2 : Zf k OF=none) (hk : k≠[]∧k.length≤12) (hf : f≠[]∧f.length≤20) : Inv (Qw f k OW) (Qw k f OF):=by
 refine ⟨fun j v=>?_,?_,fun p hp=>?_⟩
 ·by_cases hj : j=k
  ·subst hj
   rw [KT]
   by_cases hv : v=f
   ·subst hv;rw [KT];simp
   ·rw [YA hv,← h.inv,h2]
    constructor
    ·intro e;exact absurd (Option.some.inj e).symm hv
    ·intro e;cases e
  ·rw [YA hj]
   by_cases hv : v=f
   ·subst hv
    rw [KT,h.inv,h1]
    constructor
    ·intro e;cases e
    ·intro e;exact absurd (Option.some.inj e).symm hj
   ·rw [YA hv,h.inv]
 ·rw [Zfr,Zfr,h1,h2,h.same]
 ·unfold Qw at hp
  rw [h2] at hp
  simp only [Option.isSome_none,Bool.false_eq_true,if_false,List.mem_append,List.mem_singleton] at hp
  rcases hp with hp | rfl
  ·exact h.lens p hp
  ·exact ⟨hk.1,hk.2,hf.1,hf.2⟩
theorem Zdu : Zf k (Wf k OF)=none:=by
 unfold Wf
 cases hk : Zf k OF with
 | none=>exact hk
 | some m=>exact Zar
theorem ZpT (h : Inv OW OF) (hf : ∀ w,Zf f OW=some w→w=k) : Zf f (Zbw k OW OF)=none:=by
 unfold Zbw
 cases hk : Zf k OF with
 | none=>
  cases ho : Zf f OW with
  | none=>rfl
  | some w=>
   have:=hf w ho
   subst this
   rw [← h.inv,hk] at ho
   cases ho
 | some m=>
  by_cases hm : f=m
  ·subst hm;exact Zar
  ·simp only
   rw [JK hm]
   cases ho : Zf f OW with
   | none=>rfl
   | some w=>
    have:=hf w ho
    subst this
    rw [← h.inv,hk] at ho
    exact absurd (Option.some.inj ho).symm hm
theorem Zd1 {j : List UInt8} (hj : j≠k) : Zf j (Wf k OF)=Zf j OF:=by
 unfold Wf
 cases hk : Zf k OF with
 | none=>rfl
 | some m=>exact JK hj
def YW (k m : List UInt8) (OW : J4) : Int:=
 if Zp k then (if m=[] then 0 else if QH m then (match Zf (Qd m) OW with
  | some w=>if w=k then 0 else 9
  | none=>0) else 11) else 10
def Zor (k m : List UInt8) (OW OF : J4) : J4:=if YW k m OW=0 then (if m=[] then Zbw k OW OF else Qw (Qd m) k (Zbw k OW OF)) else OW
def Zdb (k m : List UInt8) (OW OF : J4) : J4:=if YW k m OW=0 then (if m=[] then Wf k OF else Qw k (Qd m) (Wf k OF)) else OF
def Zg7 (old next : List UInt8) (OF : J4) : Int:=
 if Zp next then (match Zf old OF with
  | some _=>if (Zf next OF).isSome && !(next==old) then 9 else 0
  | none=>8) else 10
def ZwO (old next : List UInt8) (OW OF : J4) : J4:=if Zg7 old next OF=0 then Qw ((Zf old OF).getD []) next (Zbw old OW OF) else OW
def Zic (old next : List UInt8) (OF : J4) : J4:=if Zg7 old next OF=0 then Qw next ((Zf old OF).getD []) (Wf old OF) else OF
theorem ZvR (h : Zp k=true) : k≠[]∧k.length≤12:=by
 refine ⟨?_,ZaU h⟩
 rintro rfl
 revert h;decide
theorem Zg4 {m : List UInt8} (h : QH m=true) : Qd m≠[]∧(Qd m).length≤20:=by
 unfold QH at h
 simp only [Bool.and_eq_true,decide_eq_true_eq] at h
 refine ⟨fun e=>?_,by rw [ZkK];exact h.1⟩
 have h2:=h.2
 rw [e] at h2
 revert h2;decide
end
structure Idx (X : Zd) (x o a : Nat) (OW OF : J4) : Prop where
 c : X[x]?=some (.cells [.map (some o),.map (some a)] 1 false false)
 ow : W3 strv X o OW
 of : W3 strv X a OF
 ne : o≠a
 inv : Inv OW OF
section
variable {X X' : Zd} {n x o a : Nat} {OW OF : J4} {k m : List UInt8}
theorem Idx.not (h : Idx X x o a OW OF) : x≠o∧x≠a:=by
 constructor
 ·rintro rfl
  obtain ⟨es,clk,_,h2,_⟩:=h.ow.ex
  rw [h.c] at h2;cases h2
 ·rintro rfl
  obtain ⟨es,clk,_,h2,_⟩:=h.of.ex
  rw [h.c] at h2;cases h2
theorem Idx.hle (h : Idx X x o a OW OF) (hl : HLe X X') : Idx X' x o a OW OF:=⟨hl _ _ h.c,h.ow.hle hl,h.of.hle hl,h.ne,h.inv⟩
theorem Idx.lt (h : Idx X x o a OW OF) : x < X.length∧o < X.length∧a < X.length:=⟨QD h.c,h.ow.lt,h.of.lt⟩
theorem Idx.step {o1 o2 : List Nat} (h : Idx X x o a OW OF) (hs : ZC o1 X o2 X') (h1 : x∉o1) (h2 : o∉o1) (h3 : a∉o1) : Idx X' x o a OW OF:=
 ⟨hs.get h.c h1,h.ow.step hs h2,h.of.step hs h3,h.ne,h.inv⟩
theorem Idx.l0 (h : Idx X x o a OW OF) : ld1 (pa x 0) X=some (.map (some o),X):=Zv h.c rfl
theorem Idx.l1 (h : Idx X x o a OW OF) : ld1 (pa x 1) X=some (.map (some a),X):=Zv h.c rfl
theorem Zs5 {id : Nat} {mm : J4} (h : JH strv X id mm) : lkp .str (.string ⟨#[]⟩) true (.map (some id)) (strv k) X=some (.tuple #[strv ((Zf k mm).getD []),.bool (Zf k mm).isSome],X):=by
 rw [h.lkp]
 cases Zf k mm <;> rfl
theorem ZC.mono2 {o1 o2 : List Nat} (h : ZC o1 X o1 X') (hs : ∀ j∈o1,j∈o2) : ZC o2 X o2 X':=h.more hs (fun j hj=>.inl hj)
theorem ZB6 : ∃ X' x o a,R (n+1) ZhI [] X=some (pt x,X')∧Idx X' x o a [] []∧HLe X X'∧X.length≤x∧X.length≤o∧X.length≤a:=by
 obtain ⟨X1,e1,g1,l1,n1⟩:=ZAm (α:=List UInt8) (enc:=strv) X
 obtain ⟨X2,e2,g2,l2,n2⟩:=ZAm (α:=List UInt8) (enc:=strv) X1
 have e3 : bld (.agg #[.map none,.map none]) [(0,1,.map (some X.length)),(1,1,.map (some X1.length))] X2=some (.agg #[.map (some X.length),.map (some X1.length)],X2):=by simp [↓Qa,Z9,↓QI,Qp,Qo,Ql,↓Zb,J9,Zt,Ys,Qq,JD,QA,JC,Jn,QW,JL,QX,QV,Q6,Q7,QG,Zl,ZH,YT,Yz,Jl,Ja,J5,ZB,QU,JY,J8,JZ,ZD,Zq,Zm,Je,Z0,Qj,Jt,JW,Ju,J2,↓Y8,J3,↓g_r,YS,Kg,WP,splice,Value.cells]
 have e4 : alc 1 (.agg #[.map (some X.length),.map (some X1.length)]) X2=some (pt X2.length,X2++[.cells [.map (some X.length),.map (some X1.length)] 1 false false]):=by
  rw [QV];simp [Value.cells,oneCell]
 refine ⟨X2++[.cells [.map (some X.length),.map (some X1.length)] 1 false false],X2.length,X.length,X1.length,?_,⟨Zw,(g1.hle l2).hle (.app _ _),g2.hle (.app _ _),by omega,⟨fun k v=>by simp [Zf],rfl,by simp⟩⟩,(l1.trans l2).trans (.app _ _),by omega,Nat.le_refl _,by omega⟩
 rw [R,ZvI rfl]
 unfold ZlK
 rw [Za e1,Za e2,Za e3,Za e4]
 rfl
theorem Zmq (h : Idx X x o a OW OF) : ∃ X',R (n+1) JE [pt x,strv k] X=some (.bool (Zf k OF).isSome,X')∧Idx X' x o a (Zbw k OW OF) (Wf k OF)∧ZC [o,a] X [o,a] X':=by
 have e1:=Zs5 (k:=k) h.of.g
 have f1 : ∀ r X',Zbe (R n) (pt x) (strv k) X=some (r,X')→R (n+1) JE [pt x,strv k] X=some (r,X'):=fun r X' hr=>by rw [R,Zm6 rfl];exact hr
 cases hk : Zf k OF with
 | none=>
  rw [hk] at e1
  simp only [Option.isSome_none,Option.getD_none] at e1 ⊢
  have hi : Idx X x o a (Zbw k OW OF) (Wf k OF):=by unfold Zbw Wf;rw [hk];exact h
  refine ⟨X,f1 _ _ ?_,hi,.refl _ _⟩
  unfold Zbe
  rw [Za Zt,Za Zh,Za h.l1,Za e1,Za Zr,Za Zs]
  refine (ZZ (vs:=[.bool false]) (H':=X) ?_).trans rfl
  rw [Zb,if_neg (by simp)]
  rfl
 | some mm=>
  rw [hk] at e1
  simp only [Option.isSome_some,Option.getD_some] at e1 ⊢
  obtain ⟨X1,e2,m2,s2,_⟩:=h.ow.mde (k:=mm)
  have of1:=h.of.step s2 (by simp [Ne.symm h.ne])
  have c1:=s2.get h.c (by simp [h.not.1])
  obtain ⟨X2,e3,m3,s3,_⟩:=of1.mde (k:=k)
  have s12:=(s2.mono2 (o2:=[o,a]) (by simp)).trans (s3.mono2 (o2:=[o,a]) (by simp))
  have hinv:=h.inv.drop (k:=k) h.ow.nod h.of.nod
  have hi : Idx X2 x o a (Zbw k OW OF) (Wf k OF):=by
   unfold Zbw Wf at hinv ⊢
   rw [hk] at hinv ⊢
   exact ⟨s3.get c1 (by simp [h.not.2]),m2.step s3 (by simp [h.ne]),m3,h.ne,hinv⟩
  refine ⟨X2,f1 _ _ ?_,hi,s12⟩
  have l0' : ld1 (pa x 0) X=some (.map (some o),X):=h.l0
  have l1' : ld1 (pa x 1) X1=some (.map (some a),X1):=Zv c1 rfl
  unfold Zbe
  rw [Za Zt,Za Zh,Za h.l1,Za e1,Za Zr,Za Zs]
  refine (ZZ (vs:=[.bool true]) (H':=X2) ?_).trans rfl
  rw [Zb,if_pos rfl,Za Zt,Za Zh,Za l0']
  refine (Za e2).trans ?_
  rw [Za Zt,Za Zh,Za l1',Za e3]
  rfl
theorem Ztb {f : List UInt8} (h : Idx X x o a OW OF) (h1 : Zf f OW=none) (h2 : Zf k OF=none) (hk : k≠[]∧k.length≤12) (hf : f≠[]∧f.length≤20) :
  ∃ X',(∀ K : M Value,bind (men .str (.string ⟨#[]⟩) (.map (some o)) (strv f)) (fun v60=>bind (Zo v60 1) fun v61=>bind (ens (.map (some o)) v61 (strv k)) fun _=>bind (men .str (.string ⟨#[]⟩) (.map (some a)) (strv k)) fun v62=>bind (Zo v62 1) fun v63=>bind (ens (.map (some a)) v63 (strv f)) fun _=>K) X=K X')∧Idx X' x o a (Qw f k OW) (Qw k f OF)∧ZC [o,a] X [o,a] X':=by
 obtain ⟨t1,st1,Y1,Y2,e1,e2,e3,m1,_,s1,_⟩:=h.ow.put (k:=f) (v:=k) (z:=.string ⟨#[]⟩)
 have of1:=h.of.step s1 (by simp [Ne.symm h.ne])
 have c1:=s1.get h.c (by simp [h.not.1])
 obtain ⟨t2,st2,Z1,Z2,e4,e5,e6,m2,_,s2,_⟩:=of1.put (k:=k) (v:=f) (z:=.string ⟨#[]⟩)
 refine ⟨Z2,fun K=>?_,⟨s2.get c1 (by simp [h.not.2]),m1.step s2 (by simp [h.ne]),m2,h.ne,h.inv.put h1 h2 hk hf⟩,(s1.mono2 (o2:=[o,a]) (by simp)).trans (s2.mono2 (o2:=[o,a]) (by simp))⟩
 rw [Za e1,Za e2,Za e3,Za e4,Za e5,Za e6]
theorem Zx7 (h : Idx X x o a OW OF) : ∃ X',R (n+9) Kf [pt x,strv k,strv m] X=some (iv (YW k m OW),X')∧Idx X' x o a (Zor k m OW OF) (Zdb k m OW OF)∧ZC [o,a] X [o,a] X':=by
 have f1 : ∀ r X',KW (R (n+8)) (pt x) (strv k) (strv m) X=some (r,X')→R (n+9) Kf [pt x,strv k,strv m] X=some (r,X'):=fun r X' hr=>by rw [R,Zoh rfl];exact hr
 have e1 : R (n+8) QZ [strv k] X=some (iv (ZJ k),X):=ZcB (n:=n+3)
 have q1 : bop .str .eql (strv m) (.string ⟨#[]⟩) X=some (.bool (m==[]),X):=Zdp (b:=[])
 unfold YW Zor Zdb YW
 cases hn : Zp k
 ·have he : ZJ k=10:=by unfold ZJ;rw [hn];rfl
  refine ⟨X,f1 _ _ ?_,by simpa using h,.refl _ _⟩
  unfold KW
  rw [Za e1,he,Za Zq,Zb,if_pos (by rfl)]
  rfl
 ·have he : ZJ k=0:=Zdd.2 hn
  by_cases hm0 : m=[]
  ·obtain ⟨X1,e2,i2,s2⟩:=Zmq (n:=n+7) (k:=k) h
   have e2 : R (n+8) JE [pt x,strv k] X=_:=e2
   refine ⟨X1,f1 _ _ ?_,by simpa [hm0] using i2,s2⟩
   unfold KW
   rw [Za e1,he,Za Zq,Zb,if_neg (by decide),Za q1,Zb,if_pos (by simp [hm0]),Za e2]
   simp [hm0,ret]
  ·obtain ⟨X1,e2,k2⟩:=Ztl (n:=n) (s:=m) (X:=X)
   have h1:=h.hle k2
   have ks:=k2.step.more (o2:=[o,a]) (o2':=[o,a]) (by simp) (fun j hj=>.inl hj)
   cases hmb : QH m
   ·rw [hmb] at e2
    refine ⟨X1,f1 _ _ ?_,by simpa [hm0] using h1,ks⟩
    unfold KW
    rw [Za e1,he,Za Zq,Zb,if_neg (by decide),Za q1,Zb,if_neg (by simpa using hm0),Za e2,Za Zr,Za Zs]
    have q3 : bop .int .neq (iv (if false=true then 0 else 11)) (.int .i64 0) X1=some (.bool true,X1):=by rw [Zq];rfl
    rw [Za q3,Zb,if_pos rfl]
    simp [hm0,ret]
   ·rw [hmb] at e2
    simp only [if_true] at e2
    have e3:=Zs5 (k:=Qd m) h1.ow.g
    have hfm:=Zg4 hmb
    have hkn:=ZvR hn
    have q3 : bop .int .neq (iv 0) (.int .i64 0) X1=some (.bool false,X1):=by rw [Zq];rfl
    simp only [if_true,if_neg hm0]
    have hgo : (∀ w,Zf (Qd m) OW=some w→w=k)→∃ X',R (n+9) Kf [pt x,strv k,strv m] X=some (iv 0,X')∧Idx X' x o a (Qw (Qd m) k (Zbw k OW OF)) (Qw k (Qd m) (Wf k OF))∧ZC [o,a] X [o,a] X':=fun hw=>by
     obtain ⟨X2,e4,i4,s4⟩:=Zmq (n:=n+7) (k:=k) h1
     have e4 : R (n+8) JE [pt x,strv k] X1=_:=e4
     obtain ⟨X3,e5,i5,s5⟩:=Ztb (k:=k) (f:=Qd m) i4 (ZpT h.inv hw) Zdu hkn hfm
     refine ⟨X3,f1 _ _ ?_,i5,(ks.trans s4).trans s5⟩
     unfold KW
     rw [Za e1,he,Za Zq,Zb,if_neg (by decide),Za q1,Zb,if_neg (by simpa using hm0),Za e2,Za Zr,Za Zs,Za q3,Zb,if_neg (by simp),Za Zt,Za Zh,Za h1.l0,Za e3,Za Zr,Za Zs]
     cases ho : Zf (Qd m) OW with
     | none=>
      simp only [Option.isSome_none]
      rw [Za (g_r.trans (if_neg (by simp)))]
      simp only [List.replicate]
      rw [Z3,Za Zl]
      simp only [cond_false]
      rw [Zb,if_neg (by simp),Za e4,Za Zt,Za Zh,Za i4.l0,Za Zt,Za Zh,Za i4.l1]
      exact e5 _
     | some w=>
      have:=hw w ho
      subst this
      have q4 : bop .str .neq (strv w) (strv w) X1=some (.bool false,X1):=by rw [Wt];simp
      simp only [Option.isSome_some,Option.getD_some]
      rw [ZU,Zk,Za q4,ZV,Z3,Za Zl]
      simp only [cond_true]
      rw [Zb,if_neg (by simp),Za e4,Za Zt,Za Zh,Za i4.l0,Za Zt,Za Zh,Za i4.l1]
      exact e5 _
    cases ho : Zf (Qd m) OW with
    | none=>simpa using hgo (fun w hw=>by rw [ho] at hw;cases hw)
    | some w=>
     by_cases hw : w=k
     ·simpa [hw] using hgo (fun w' hw'=>by rw [ho] at hw';cases hw';exact hw)
     ·simp only [if_neg hw]
      refine ⟨X1,f1 _ _ ?_,by simpa using h1,ks⟩
      have q4 : bop .str .neq (strv w) (strv k) X1=some (.bool true,X1):=by rw [Wt,beq_eq_false_iff_ne.2 hw];rfl
      rw [ho] at e3
      simp only [Option.isSome_some,Option.getD_some] at e3
      unfold KW
      rw [Za e1,he,Za Zq,Zb,if_neg (by decide),Za q1,Zb,if_neg (by simpa using hm0),Za e2,Za Zr,Za Zs,Za q3,Zb,if_neg (by simp),Za Zt,Za Zh,Za h1.l0,Za e3,Za Zr,Za Zs,ZU,Zk,Za q4,ZV,Z3,Za Zl]
      simp only [cond_true]
      rw [Zb,if_pos rfl]
      rfl
theorem ZB5 {old next : List UInt8} (h : Idx X x o a OW OF) : ∃ X',R (n+6) Wl [pt x,strv old,strv next] X=some (iv (Zg7 old next OF),X')∧Idx X' x o a (ZwO old next OW OF) (Zic old next OF)∧ZC [o,a] X [o,a] X':=by
 have f1 : ∀ r X',Kk (R (n+5)) (pt x) (strv old) (strv next) X=some (r,X')→R (n+6) Wl [pt x,strv old,strv next] X=some (r,X'):=fun r X' hr=>by rw [R,Zkp rfl];exact hr
 have e1 : R (n+5) QZ [strv next] X=some (iv (ZJ next),X):=ZcB
 have e2:=Zs5 (k:=old) h.of.g
 have e3:=Zs5 (k:=next) h.of.g
 unfold Zg7 ZwO Zic Zg7
 cases hn : Zp next
 ·have he : ZJ next=10:=by unfold ZJ;rw [hn];rfl
  refine ⟨X,f1 _ _ ?_,by simpa using h,.refl _ _⟩
  unfold Kk
  rw [Za e1,he,Za Zq,Zb,if_pos (by rfl)]
  rfl
 ·have he : ZJ next=0:=Zdd.2 hn
  simp only [if_true]
  cases ho : Zf old OF with
  | none=>
   rw [ho] at e2
   simp only [Option.isSome_none,Option.getD_none] at e2
   refine ⟨X,f1 _ _ ?_,by simpa using h,.refl _ _⟩
   unfold Kk
   rw [Za e1,he,Za Zq,Zb,if_neg (by decide),Za Zt,Za Zh,Za h.l1,Za e2,Za Zr,Za Zs,Za Zt,Za Zh,Za h.l1,Za e3,Za Zr,Za Zs,Za ZH,Zb,if_pos (by rfl)]
   rfl
  | some mm=>
   rw [ho] at e2
   simp only [Option.isSome_some,Option.getD_some] at e2 ⊢
   have hml:=h.inv.lens (old,mm) (K6 ho)
   have hmo:=(h.inv.inv old mm).1 ho
   have q4 : bop .str .neq (strv next) (strv old) X=some (.bool (!(next==old)),X):=Wt
   have hpk : ∀ K : Value→M Value,bind (ZG (.bool (Zf next OF).isSome) true 3 (bind (bop .str .neq (strv next) (strv old)) fun v43x16=>ret [strv next,strv old,v43x16])) (c3 fun _ _ q17_2=>bind (pick (.bool (Zf next OF).isSome) q17_2 (Value.bool false)) K) X=K (.bool ((Zf next OF).isSome && !(next==old))) X:=fun K=>by
    cases (Zf next OF).isSome
    ·rw [Za (g_r.trans (if_neg (by simp)))]
     simp only [List.replicate]
     rw [Z3,Za Zl]
     rfl
    ·rw [ZU,Zk,Za q4,ZV,Z3,Za Zl]
     rfl
   cases ht : (Zf next OF).isSome && !(next==old)
   ·rw [ht] at hpk
    simp only [Bool.false_eq_true,if_false,if_true]
    obtain ⟨X2,e4,i4,s4⟩:=Zmq (n:=n+4) (k:=old) h
    have e4 : R (n+5) JE [pt x,strv old] X=_:=e4
    have hnn : Zf next (Wf old OF)=none:=by
     by_cases hno : next=old
     ·subst hno;exact Zdu
     ·rw [Zd1 hno]
      have h5 : (next==old)=false:=beq_eq_false_iff_ne.2 hno
      rw [h5] at ht
      cases hx : Zf next OF with
      | none=>rfl
      | some y=>rw [hx] at ht;simp at ht
    obtain ⟨X3,e5,i5,s5⟩:=Ztb (k:=next) (f:=mm) i4 (ZpT h.inv (fun w hw=>by rw [hmo] at hw;exact (Option.some.inj hw).symm)) hnn (ZvR hn) ⟨hml.2.2.1,hml.2.2.2⟩
    refine ⟨X3,f1 _ _ ?_,i5,s4.trans s5⟩
    unfold Kk
    rw [Za e1,he,Za Zq,Zb,if_neg (by decide),Za Zt,Za Zh,Za h.l1,Za e2,Za Zr,Za Zs,Za Zt,Za Zh,Za h.l1,Za e3,Za Zr,Za Zs,Za ZH,Zb,if_neg (by simp)]
    refine (hpk _).trans ?_
    rw [Zb,if_neg (by simp),Za e4,Za Zt,Za Zh,Za i4.l0,Za Zt,Za Zh,Za i4.l1]
    exact e5 _
   ·rw [ht] at hpk
    simp only [if_true]
    refine ⟨X,f1 _ _ ?_,by simpa using h,.refl _ _⟩
    unfold Kk
    rw [Za e1,he,Za Zq,Zb,if_neg (by decide),Za Zt,Za Zh,Za h.l1,Za e2,Za Zr,Za Zs,Za Zt,Za Zh,Za h.l1,Za e3,Za Zr,Za Zs,Za ZH,Zb,if_neg (by simp)]
    refine (hpk _).trans ?_
    rw [Zb,if_pos rfl]
    rfl
theorem ZC0 (h : Idx X x o a OW OF) : R (n+1) Zcp [pt x,strv k] X=some (.tuple #[strv ((Zf k OF).getD []),.bool (Zf k OF).isSome],X):=by
 have e1:=Zs5 (k:=k) h.of.g
 rw [R,Zpz rfl]
 unfold Zgm
 rw [Za Zt,Za Zh,Za h.l1,Za e1,Za Zr,Za Zs]
 rfl
end
end Go.Proofs.YtedkoimihknggaaGreatDoor.A
namespace Go.Proofs.YtedkoimihknggaaGreatDoor.A
set_option linter.unusedVariables false
set_option linter.unusedSimpArgs false
open Go.Proofs Go.Proofs.YtedkoimihknggaaGreatDoor
section
variable {H X X' : Zd} {n x o a : Nat} {OW OF : J4} {k m : List UInt8}
theorem ZA7 (h : Idx X x o a OW OF) : ∃ X' x' o' a',R (n+2) Zbv [pt x] X=some (pt x',X')∧Idx X' x' o' a' OW OF∧HLe X X'∧X.length≤x'∧X.length≤o'∧X.length≤a':=by
 obtain ⟨X1,e1,g1,l1,n1⟩:=h.ow.clone
 obtain ⟨X2,e2,g2,l2,n2⟩:=(h.of.hle l1).clone
 have e1' : run Tryz.prog np lvs (n+1) QB [.map (some o)] X=some (.map (some X.length),X1):=by
  rw [Zcl (show np QB=some Zb1 from rfl)]
  exact e1
 have e2' : run Tryz.prog np lvs (n+1) QB [.map (some a)] X1=some (.map (some X1.length),X2):=by
  rw [Zcl (show np QB=some Zb1 from rfl)]
  exact e2
 have e3 : bld (.agg #[.map none,.map none]) [(0,1,.map (some X.length)),(1,1,.map (some X1.length))] X2=some (.agg #[.map (some X.length),.map (some X1.length)],X2):=by simp [↓Qa,Z9,↓QI,Qp,Qo,Ql,↓Zb,J9,Zt,Ys,Qq,JD,QA,JC,Jn,QW,JL,QX,QV,Q6,Q7,QG,Zl,ZH,YT,Yz,Jl,Ja,J5,ZB,QU,JY,J8,JZ,ZD,Zq,Zm,Je,Z0,Qj,Jt,JW,Ju,J2,↓Y8,J3,↓g_r,YS,Kg,WP,splice,Value.cells]
 have e4 : alc 1 (.agg #[.map (some X.length),.map (some X1.length)]) X2=some (pt X2.length,X2++[.cells [.map (some X.length),.map (some X1.length)] 1 false false]):=by
  rw [QV];simp [Value.cells,oneCell]
 refine ⟨X2++[.cells [.map (some X.length),.map (some X1.length)] 1 false false],X2.length,X.length,X1.length,?_,⟨Zw,(g1.hle l2).hle (.app _ _),g2.hle (.app _ _),by omega,h.inv⟩,(l1.trans l2).trans (.app _ _),by omega,Nat.le_refl _,by omega⟩
 rw [R,Zna rfl]
 unfold Ze7
 rw [Za Zt,Za Zh,Za h.l0,Za Zt,Za Zh,Za h.l1,Za e1',Za (h.hle l1).l1,QY,Za e2',Za e3,Za e4]
 rfl
end
end Go.Proofs.YtedkoimihknggaaGreatDoor.A
namespace Go.Proofs.YtedkoimihknggaaGreatDoor.A
set_option linter.unusedVariables false
set_option linter.unusedSimpArgs false
open Go.Proofs Go.Proofs.YtedkoimihknggaaGreatDoor
section
variable {n : Nat}
variable {X : Zd} {x o a : Nat} {OW OF : J4}
end
end Go.Proofs.YtedkoimihknggaaGreatDoor.A

namespace Go.Proofs.YtedkoimihknggaaGreatDoor.A
set_option linter.unusedVariables false
set_option linter.unusedSimpArgs false
open Go.Proofs Go.Proofs.YtedkoimihknggaaGreatDoor
abbrev Acc:=Tx × Bool
def ZaM (p : Acc) : Value:=.agg #[strv p.1,.bool p.2]
abbrev AMp:=List (Tx × Acc)
structure NSt where
 A : AMp
 OW : J4
 OF : J4
 K : List Tx
 mem : Mem
structure JQ (s : NSt) : Prop where
 nm : ∀ p∈s.A,Zp p.1=true∧YR p.2.1=true
 few : s.A.length≤12
 ofA : ∀ n,(Zf n s.OF).isSome=true→(Zf n s.A).isSome=true
 memA : ∀ k n,s.mem k n=true→(Zf n s.A).isSome=true
 good : ∀ n m,Zf n s.OF=some m→QH m=true∧Qd m=m
structure NR where
 b : Nat
 x : Nat
 o : Nat
 a : Nat
 g : Nat
 o2 : Nat
 G : Zc8
def NR.own (r : NR) : List Nat:=r.b :: r.o :: r.a :: Jd r.o2 r.G
structure ND0 (X : Zd) (d : Nat) (r : NR) (s : NSt) (c : Nat) : Prop where
 cell : X[d]?=some (.cells [.map (some r.b),pt r.x,pt r.g] 1 false false)
 m : JH ZaM X r.b s.A
 ix : Idx X r.x r.o r.a s.OW s.OF
 gr : Grp X r.g r.o2 r.G s.mem c
 ks : ZO r.G=s.K
 dis : r.b≠r.o∧r.b≠r.a∧r.b∉Jd r.o2 r.G∧r.o∉Jd r.o2 r.G∧r.a∉Jd r.o2 r.G
structure ND (X : Zd) (d : Nat) (r : NR) (s : NSt) (c : Nat) : Prop extends ND0 X d r s c where
 inv : JQ s
def Qi (s : NSt) (n : Tx) (p : Acc) : Zaj:=(n,p.1,(Zf n s.OF).getD [],p.2,ofL n s.K s.mem)
def ZN (s : NSt) (n : Tx) : Option Zaj:=(Zf n s.A).map (Qi s n)
def Zu (n : Tx) (A : AMp) : Int:=if Zp n then (if (Zf n A).isSome then 0 else 8) else 10
theorem ZiV {n : Tx} {A : AMp} (h : Zu n A=0) : Zp n=true∧∃ p,Zf n A=some p:=by
 unfold Zu at h
 cases hn : Zp n
 ·rw [hn] at h;simp at h
 ·rw [hn] at h
  cases ha : Zf n A with
  | none=>rw [ha] at h;simp at h
  | some p=>exact ⟨rfl,p,rfl⟩
section
variable {X X' : Zd} {n d c : Nat} {r : NR} {s : NSt} {k : Tx}
theorem JH.isMap {α : Type} {enc : α→Value} {id : Nat} {mm : List (Tx × α)} (hm : JH enc X id mm) : id < X.length∧∀ cs es gr ro,X[id]?≠some (.cells cs es gr ro):=⟨hm.lt,fun cs es gr ro e=>by
 obtain ⟨es',_,h1 | h1⟩:=hm.ex
 ·obtain ⟨clk,h1,_⟩:=h1;rw [e] at h1;cases h1
 ·rw [e] at h1;cases h1⟩
theorem ND0.isMap (h : ND0 X d r s c) {j : Nat} (hj : j∈r.own) : j < X.length∧∀ cs es gr ro,X[j]?≠some (.cells cs es gr ro):=by
 unfold NR.own at hj
 rcases List.mem_cons.1 hj with rfl | hj
 ·exact h.m.isMap
 ·rcases List.mem_cons.1 hj with rfl | hj
  ·exact h.ix.ow.g.isMap
  ·rcases List.mem_cons.1 hj with rfl | hj
   ·exact h.ix.of.g.isMap
   ·exact h.gr.isMap hj
theorem ND0.dnot (h : ND0 X d r s c) : d∉r.own:=fun hj=>(h.isMap hj).2 _ _ _ _ h.cell
theorem ND0.xnot (h : ND0 X d r s c) : r.x∉r.own:=fun hj=>(h.isMap hj).2 _ _ _ _ h.ix.c
theorem ND0.gnot (h : ND0 X d r s c) : r.g∉r.own:=fun hj=>(h.isMap hj).2 _ _ _ _ h.gr.cell
theorem ND0.dlt (h : ND0 X d r s c) : d < X.length:=QD h.cell
theorem ND0.step {o1 o2 : List Nat} (h : ND0 X d r s c) (hs : ZC o1 X o2 X') (hd : d∉o1) (hx : r.x∉o1) (hg : r.g∉o1) (ho : ∀ j∈r.own,j∉o1) : ND0 X' d r s c:=
 ⟨hs.get h.cell hd,h.m.step hs (ho _ (by simp [NR.own])),h.ix.step hs hx (ho _ (by simp [NR.own])) (ho _ (by simp [NR.own])),h.gr.step hs hg (fun j hj=>ho j (by
  unfold NR.own
  exact List.mem_cons_of_mem _ (List.mem_cons_of_mem _ (List.mem_cons_of_mem _ hj)))),h.ks,h.dis⟩
theorem ND0.hle (h : ND0 X d r s c) (hl : HLe X X') : ND0 X' d r s c:=h.step hl.step (by simp) (by simp) (by simp) (by simp)
theorem ND0.l0 (h : ND0 X d r s c) : ld1 (pa d 0) X=some (.map (some r.b),X):=Zv h.cell rfl
theorem ND0.l1 (h : ND0 X d r s c) : ld1 (pa d 1) X=some (pt r.x,X):=Zv h.cell rfl
theorem ND0.l2 (h : ND0 X d r s c) : ld1 (pa d 2) X=some (pt r.g,X):=Zv h.cell rfl
theorem ND.step {o1 o2 : List Nat} (h : ND X d r s c) (hs : ZC o1 X o2 X') (hd : d∉o1) (hx : r.x∉o1) (hg : r.g∉o1) (ho : ∀ j∈r.own,j∉o1) : ND X' d r s c:=⟨h.toND0.step hs hd hx hg ho,h.inv⟩
theorem ND.hle (h : ND X d r s c) (hl : HLe X X') : ND X' d r s c:=⟨h.toND0.hle hl,h.inv⟩
def CLe (X X' : Zd) : Prop:=∀ (i : Nat) (cs : List Value) (es : Nat) (g ro : Bool),X[i]?=some (Ze.cells cs es g ro)→X'[i]?=some (Ze.cells cs es g ro)
theorem HLe.cle (h : HLe X X') : CLe X X':=fun i cs es g ro hi=>h i _ hi
theorem CLe.trans {Y : Zd} (h : CLe X X') (h' : CLe X' Y) : CLe X Y:=fun i cs es g ro hi=>h' i _ _ _ _ (h i _ _ _ _ hi)
theorem ZC.cle {o1 o2 : List Nat} (hs : ZC o1 X o2 X') (hm : ∀ j∈o1,∀ cs es g ro,X[j]?≠some (Ze.cells cs es g ro)) : CLe X X':=fun i cs es g ro hi=>hs.get hi fun hj=>hm i hj _ _ _ _ hi
theorem ND0.cle {o2 : List Nat} (h : ND0 X d r s c) (hs : ZC r.own X o2 X') : CLe X X':=hs.cle fun j hj=>(h.isMap hj).2
theorem Sl.cle {sl : Value} {vs : List Value} (h : Sl X sl vs) (hc : CLe X X') : Sl X' sl vs:=by
 obtain ⟨a,c,rfl,h0,h⟩:=h
 refine ⟨a,c,rfl,h0,?_⟩
 unfold QK at h ⊢
 split at h
 ·exact h
 ·rename_i id o n x _
  split at h
  ·rename_i cs es g ro hid
   simp only [hc _ _ _ _ _ hid];exact h
  ·cases h
 ·exact h
 ·rename_i e;cases e
 ·cases h
theorem SlN.cle {es : Nat} {sl : Value} {rows : List (List Value)} (h : SlN es X sl rows) (hc : CLe X X') : SlN es X' sl rows:=by
 obtain ⟨a,c,rfl,h0,h,h2⟩:=h
 refine ⟨a,c,rfl,h0,?_,h2⟩
 unfold QK at h ⊢
 split at h
 ·exact h
 ·rename_i id o n x _
  split at h
  ·rename_i cs es' g ro hid
   simp only [hc _ _ _ _ _ hid];exact h
  ·cases h
 ·exact h
 ·rename_i e;cases e
 ·cases h
theorem Qh.cle {sl : Value} {us : List Zj} (h : Qh X sl us) (hc : CLe X X') : Qh X' sl us:=⟨h.1.cle hc,fun u hu=>⟨(h.2 u hu).1.cle hc,(h.2 u hu).2⟩⟩
theorem ZDc {k : Tx} {t : Bool} {H : Zd} : bld (.agg #[.string ⟨#[]⟩,.bool false]) [(0,1,strv k),(1,1,.bool t)] H=some (ZaM (k,t),H):=by
 simp [bld,WP,Value.cells,Kg,strv,splice,ZaM]
theorem ZBl (X : Zd) : JQ ⟨[],[],[],[],fun _ _=>false⟩:=⟨by simp,by simp,by simp [Zf],by simp,by simp [Zf]⟩
theorem ZxZ : ∃ X' d r,R (n+2) Zal [] X=some (pt d,X')∧ND X' d r ⟨[],[],[],[],fun _ _=>false⟩ 0∧HLe X X'∧X.length≤d∧∀ j∈r.own,X.length≤j:=by
 obtain ⟨X1,e1,m1,k1⟩:=ZsO (α:=Acc) (enc:=ZaM) X
 have hl1 : X.length < X1.length:=m1.lt
 obtain ⟨X2,x,o,a,e2,i2,k2,o21,o22,o23⟩:=ZB6 (n:=n) (X:=X1)
 obtain ⟨X3,g,o2,e3,g3,k3,o31,o32⟩:=ZCe (n:=n) (X:=X2)
 have hi:=i2.lt
 have e4 : bld (.agg #[.map none,.pointer none,.pointer none]) [(0,1,.map (some X.length)),(1,1,pt x),(2,1,pt g)] X3=some (.agg #[.map (some X.length),pt x,pt g],X3):=by
  simp [bld,WP,Value.cells,Kg,splice]
 have e5 : alc 1 (.agg #[.map (some X.length),pt x,pt g]) X3=some (pt X3.length,X3++[.cells [.map (some X.length),pt x,pt g] 1 false false]):=Wd (vs:=[.map (some X.length),pt x,pt g]) rfl
 have k4 : HLe X3 (X3++[Ze.cells [.map (some X.length),pt x,pt g] 1 false false]):=.app _ _
 refine ⟨_,X3.length,⟨X.length,x,o,a,g,o2,[]⟩,?_,⟨⟨Zw,((m1.hle k2).hle k3).hle k4,(i2.hle k3).hle k4,g3.hle k4,rfl,⟨by simp only;omega,by simp only;omega,?_,?_,?_⟩⟩,ZBl X⟩,((k1.trans k2).trans k3).trans k4,?_,?_⟩
 ·rw [R,ZsZ rfl]
  unfold ZjM
  rw [Za e1,Za e2,Za e3,Za e4,Za e5]
  rfl
 ·simp only [Jd,List.map_nil,List.mem_singleton]
  have:=k2.len;omega
 ·simp only [Jd,List.map_nil,List.mem_singleton]
  omega
 ·simp only [Jd,List.map_nil,List.mem_singleton]
  omega
 ·have:=k1.len;have:=k2.len;have:=k3.len;omega
 ·intro j hj
  have:=k1.len;have:=k2.len
  simp only [NR.own,Jd,List.map_nil,List.mem_cons,List.not_mem_nil,or_false] at hj
  omega
theorem Zwp (h : ND X d r s c) : ∃ X',R (n+6) Q4 [pt d,strv k] X=some (.tuple #[ZaM (if Zp k then (Zf k s.A).getD ([],false) else ([],false)),iv (Zu k s.A)],X')∧HLe X X':=by
 have one : ∀ p : Acc,([strv p.1,.bool p.2] : List Value).all oneCell=true:=fun _=>rfl
 have z1 : alc 1 (.agg #[.string ⟨#[]⟩,.bool false]) X=some (pt X.length,X++[.cells [strv [],.bool false] 1 false false]):=Wd (vs:=[strv [],.bool false]) rfl
 have k1 : HLe X (X++[Ze.cells [strv [],.bool false] 1 false false]):=.app _ _
 have c1 : (X++[Ze.cells [strv [],.bool false] 1 false false])[X.length]?=some (.cells [strv [],.bool false] 1 false false):=Zw
 have ll1 : X.length < (X++[Ze.cells [strv [],.bool false] 1 false false]).length:=by simp
 generalize X++[Ze.cells [strv [],.bool false] 1 false false]=X1 at z1 k1 c1 ll1
 have h1:=h.hle k1
 have e1 : R (n+5) QZ [strv k] X1=_:=ZcB
 have f1 : ∀ v X',ZaH (R (n+5)) (pt d) (strv k) X=some (v,X')→R (n+6) Q4 [pt d,strv k] X=some (v,X'):=fun v X' hr=>by rw [R,Zoc rfl];exact hr
 have fin : ∀ (p : Acc) (Y : Zd) (K : Value→M Value),Y[X.length]?=some (.cells [strv [],.bool false] 1 false false)→bind (stA 2 (pt X.length) (ZaM p)) (fun _=>bind (ldA 2 (pt X.length)) K) Y=K (ZaM p) (Y.set X.length (.cells [strv p.1,.bool p.2] 1 false false)):=fun p Y K hY=>by
  have w:=Kv (vs:=[strv p.1,.bool p.2]) (n:=2) hY rfl rfl rfl
  have w : stA 2 (pt X.length) (ZaM p) Y=_:=w
  have l : ldA 2 (pt X.length) (Y.set X.length (.cells [strv p.1,.bool p.2] 1 false false))=some (ZaM p,_):=ZR (n:=2) (ZM hY) rfl
  rw [Za w,Za l]
 have put : ∀ {Y : Zd} {o : Ze},HLe X Y→HLe X (Y.set X.length o):=fun hl i v hi=>by
  have:=QD hi
  rw [List.getElem?_set_ne (by omega)]
  exact hl i v hi
 cases hnm : Zp k
 ·have he : Zu k s.A=10:=by unfold Zu;rw [hnm];rfl
  have q1 : bop .int .neq (iv (ZJ k)) (.int .i64 0) X1=some (.bool true,X1):=by rw [Zq];unfold ZJ;rw [hnm];rfl
  have zb : bld (.agg #[.string ⟨#[]⟩,.bool false]) [] X1=some (ZaM ([],false),X1):=rfl
  rw [he]
  refine ⟨X1.set X.length (.cells [strv [],.bool false] 1 false false),f1 _ _ ?_,put k1⟩
  unfold ZaH
  rw [Za z1,Za e1,Za q1,Zb,if_pos rfl,Za zb]
  refine (fin _ _ _ c1).trans ?_
  rw [show ZJ k=10 by unfold ZJ;rw [hnm];rfl]
  rfl
 ·have q1 : bop .int .neq (iv (ZJ k)) (.int .i64 0) X1=some (.bool false,X1):=by rw [Zq];unfold ZJ;rw [hnm];rfl
  have e2 : lkp .str (.agg #[.string ⟨#[]⟩,.bool false]) true (.map (some r.b)) (strv k) X1=some (.tuple #[ZaM ((Zf k s.A).getD ([],false)),.bool (Zf k s.A).isSome],X1):=by
   rw [h1.m.lkp]
   cases Zf k s.A <;> rfl
  generalize hv : (Zf k s.A).getD ([],false)=p at e2
  have z2 : ∀ K : Value→M Value,bind (alc 1 (.agg #[.string ⟨#[]⟩,.bool false])) (fun q=>bind (stA 2 q (ZaM p)) fun _=>K q) X1=K (pt X1.length) (X1++[.cells [strv p.1,.bool p.2] 1 false false]):=fun K=>WZ (n:=2) (zs:=[strv [],.bool false]) (r:=[strv p.1,.bool p.2]) rfl rfl rfl rfl
  have k2 : HLe X1 (X1++[Ze.cells [strv p.1,.bool p.2] 1 false false]):=.app _ _
  have c2 : (X1++[Ze.cells [strv p.1,.bool p.2] 1 false false])[X1.length]?=some (.cells [strv p.1,.bool p.2] 1 false false):=Zw
  have c12:=k2 _ _ c1
  generalize X1++[Ze.cells [strv p.1,.bool p.2] 1 false false]=X2 at z2 k2 c2 c12
  have d2 : ldA 2 (pt X1.length) X2=some (ZaM p,X2):=ZR (n:=2) c2 rfl
  have zb : bld (.agg #[.string ⟨#[]⟩,.bool false]) [] X2=some (ZaM ([],false),X2):=rfl
  cases hs : (Zf k s.A).isSome
  ·have he : Zu k s.A=8:=by unfold Zu;rw [hnm,hs];rfl
   have hp : p=([],false):=by
    rw [← hv]
    cases ha : Zf k s.A with
    | none=>rfl
    | some v=>rw [ha] at hs;cases hs
   rw [hs] at e2
   rw [he]
   refine ⟨X2.set X.length (.cells [strv [],.bool false] 1 false false),f1 _ _ ?_,put (k1.trans k2)⟩
   unfold ZaH
   rw [Za z1,Za e1,Za q1,Zb,if_neg (by simp),Za Zt,Za Zh,Za h1.l0,Za e2,Za Zr,Za Zs,z2,Za ZH,Zb,if_pos (by rfl),Za zb]
   refine (fin _ _ _ c12).trans ?_
   rw [hp]
   rfl
  ·have he : Zu k s.A=0:=by unfold Zu;rw [hnm,hs];rfl
   rw [hs] at e2
   rw [he]
   refine ⟨X2.set X.length (.cells [strv p.1,.bool p.2] 1 false false),f1 _ _ ?_,put (k1.trans k2)⟩
   unfold ZaH
   rw [Za z1,Za e1,Za q1,Zb,if_neg (by simp),Za Zt,Za Zh,Za h1.l0,Za e2,Za Zr,Za Zs,z2,Za ZH,Zb,if_neg (by simp),Za d2]
   exact fin _ _ _ c12
theorem ZyF (h : ND X d r s c) : ∃ u q X',R (n+7) WD [pt d,strv k] X=some (.tuple #[.agg u.cells.toArray,iv (Zu k s.A)],X')∧ZA X' u.gv (u.gs.map strv) q∧(∀ j∈q,X.length≤j)∧HLe X X'∧u.gs.length≤6∧
  ZQ u=if Zu k s.A=0 then Qi s k ((Zf k s.A).getD ([],false)) else ([],[],[],false,[]):=by
 have z1 : alc 1 (.agg #[.string ⟨#[]⟩,.string ⟨#[]⟩,.string ⟨#[]⟩,.bool false,.slice none 0 0]) X=some (pt X.length,X++[.cells (usr ([],[])) 1 false false]):=Wd (vs:=usr ([],[])) rfl
 have k1 : HLe X (X++[Ze.cells (usr ([],[])) 1 false false]):=.app _ _
 have c1 : (X++[Ze.cells (usr ([],[])) 1 false false])[X.length]?=some (.cells (usr ([],[])) 1 false false):=Zw
 generalize X++[Ze.cells (usr ([],[])) 1 false false]=X1 at z1 k1 c1
 obtain ⟨X2,e2,k2⟩:=Zwp (n:=n) (k:=k) (h.hle k1)
 have f1 : ∀ v X',ZaO (R (n+6)) (pt d) (strv k) X=some (v,X')→R (n+7) WD [pt d,strv k] X=some (v,X'):=fun v X' hr=>by rw [R,Zmk rfl];exact hr
 generalize hp : (if Zp k then (Zf k s.A).getD ([],false) else ([],false))=p at e2
 have z2 : ∀ K : Value→M Value,bind (alc 1 (.agg #[.string ⟨#[]⟩,.bool false])) (fun q=>bind (stA 2 q (ZaM p)) fun _=>K q) X2=K (pt X2.length) (X2++[.cells [strv p.1,.bool p.2] 1 false false]):=fun K=>WZ (n:=2) (zs:=[strv [],.bool false]) (r:=[strv p.1,.bool p.2]) rfl rfl rfl rfl
 have k3 : HLe X2 (X2++[Ze.cells [strv p.1,.bool p.2] 1 false false]):=.app _ _
 have c3 : (X2++[Ze.cells [strv p.1,.bool p.2] 1 false false])[X2.length]?=some (.cells [strv p.1,.bool p.2] 1 false false):=Zw
 have hlx : X.length < X2.length:=by have:=QD c1;have:=k2.len;omega
 generalize X2++[Ze.cells [strv p.1,.bool p.2] 1 false false]=X3 at z2 k3 c3
 have c13:=k3 _ _ (k2 _ _ c1)
 have k13:=(k1.trans k2).trans k3
 have put : ∀ {Y : Zd} {o : Ze},HLe X Y→HLe X (Y.set X.length o):=fun hl i v hi=>by
  have:=QD hi
  rw [List.getElem?_set_ne (by omega)]
  exact hl i v hi
 by_cases he : Zu k s.A=0
 ·obtain ⟨hnm,q0,hq0⟩:=ZiV he
  have hpq : p=q0:=by rw [← hp,hnm,hq0];rfl
  subst hpq
  have q1 : bop .int .neq (iv (Zu k s.A)) (.int .i64 0) X3=some (.bool false,X3):=by rw [Zq,he];rfl
  have h3:=h.hle k13
  have e4 : R (n+6) Zcp [pt r.x,strv k] X3=_:=ZC0 (n:=n+5) h3.ix
  have a0 : ∀ Y,HLe X3 Y→ld1 (pa X2.length 0) Y=some (strv p.1,Y):=fun Y hl=>Zv (hl _ _ c3) rfl
  have a1 : ∀ Y,HLe X3 Y→ld1 (pa X2.length 1) Y=some (.bool p.2,Y):=fun Y hl=>Zv (hl _ _ c3) rfl
  obtain ⟨gv,q,X4,e5,r5,k5,o5⟩:=ZsX (n:=n+2) (m:=k) h3.gr
  have e5 : R (n+6) J6 [pt r.g,strv k] X3=_:=e5
  rw [h.ks] at r5
  have hfew : (ofL k s.K s.mem).length≤6:=by
   have h1:=ZfB (m:=k) (K:=s.K) (mem:=s.mem)
   have h2:=h.gr.few
   have h3 : s.K.length=r.G.length:=by rw [← h.ks];simp
   omega
  have hone:=r5.one
  have zb : bld (.agg #[.string ⟨#[]⟩,.string ⟨#[]⟩,.string ⟨#[]⟩,.bool false,.slice none 0 0]) [(0,1,strv k),(1,1,strv p.1),(2,1,strv ((Zf k s.OF).getD [])),(3,1,.bool p.2),(4,1,gv)] X4=some (.agg (Zj.cells ⟨k,p.1,(Zf k s.OF).getD [],p.2,gv,ofL k s.K s.mem⟩).toArray,X4):=by
   obtain ⟨ga,gn,gc,hgv⟩ : ∃ a n c,gv=.slice a n c:=by
    rcases r5 with ⟨_,_,h⟩ | ⟨_,_,_,h,_,_⟩
    ·exact ⟨_,_,_,h⟩
    ·exact ⟨_,_,_,h⟩
   rw [hgv]
   simp [bld,WP,Value.cells,Kg,strv,splice,Zj.cells]
  have c14:=k5 _ _ c13
  have w4:=Kv (vs:=Zj.cells ⟨k,p.1,(Zf k s.OF).getD [],p.2,gv,ofL k s.K s.mem⟩) (n:=5) c14 rfl rfl (by simp only [Zj.cells,List.all_cons,hone.1];rfl)
  have d4 : ldA 5 (pt X.length) (X4.set X.length (.cells (Zj.cells ⟨k,p.1,(Zf k s.OF).getD [],p.2,gv,ofL k s.K s.mem⟩) 1 false false))=some (.agg (Zj.cells ⟨k,p.1,(Zf k s.OF).getD [],p.2,gv,ofL k s.K s.mem⟩).toArray,_):=ZR (n:=5) (ZM c14) rfl
  refine ⟨⟨k,p.1,(Zf k s.OF).getD [],p.2,gv,ofL k s.K s.mem⟩,q,X4.set X.length (.cells (Zj.cells ⟨k,p.1,(Zf k s.OF).getD [],p.2,gv,ofL k s.K s.mem⟩) 1 false false),f1 _ _ ?_,r5.keep fun j hj=>List.getElem?_set_ne (fun e=>?_),fun j hj=>Nat.le_trans k13.len (o5 j hj),put (k13.trans k5),hfew,?_⟩
  ·unfold ZaO
   rw [Za z1,Za e2,Za Zr,Za Zs,z2,Za q1,Zb,if_neg (by simp),Za Zt,Za Zh,Za h3.l1,Za e4,Za Zr,Za Zs,Za Zh,Za (a0 _ (.refl _)),Za Zh,Za (a1 _ (.refl _)),Za Zt,Za Zh,Za h3.l2,Za e5,Za (a1 _ k5),QY,Za (a0 _ k5),QY,Za zb,Za w4,Za d4,he]
   rfl
  ·have:=o5 j hj
   have:=QD c13
   omega
  ·rw [if_pos he,hq0]
   rfl
 ·have q1 : bop .int .neq (iv (Zu k s.A)) (.int .i64 0) X3=some (.bool true,X3):=by rw [Zq];simp [he]
  have zb : bld (.agg #[.string ⟨#[]⟩,.string ⟨#[]⟩,.string ⟨#[]⟩,.bool false,.slice none 0 0]) [] X3=some (.agg (usr ([],[])).toArray,X3):=rfl
  have w3:=Kv (vs:=usr ([],[])) (n:=5) c13 rfl rfl rfl
  have d3 : ldA 5 (pt X.length) (X3.set X.length (.cells (usr ([],[])) 1 false false))=some (.agg (usr ([],[])).toArray,_):=ZR (n:=5) (ZM c13) rfl
  refine ⟨⟨[],[],[],false,.slice none 0 0,[]⟩,[],X3.set X.length (.cells (usr ([],[])) 1 false false),f1 _ _ ?_,ZA.nil,by simp,put k13,Nat.zero_le _,by rw [if_neg he];rfl⟩
  unfold ZaO
  rw [Za z1,Za e2,Za Zr,Za Zs,z2,Za q1,Zb,if_pos rfl,Za zb,Za w3,Za d3]
  rfl
theorem ZB1 (h : ND X d r s c) : R (n+1) Zcy [pt d] X=some (iv s.A.length,X):=by
 rw [R,Zo0 rfl]
 unfold Zgu
 rw [Za Zt,Za Zh,Za h.l0,Za h.m.len]
 rfl
theorem ZrR (h : ND X d r s c) : ∃ v q X',R (n+4) KO [pt d] X=some (v,X')∧ZA X' v ((Qx s.K).map strv) q∧HLe X X'∧∀ j∈q,X.length≤j:=by
 obtain ⟨v,q,X',e,r1,l,o⟩:=ZxI (n:=n) h.gr
 have e : R (n+3) KN [pt r.g] X=_:=e
 rw [h.ks] at r1
 refine ⟨v,q,X',?_,r1,l,o⟩
 rw [R,Zma rfl]
 unfold Zd7
 rw [Za Zt,Za Zh,Za h.l2,Za e]
 rfl
abbrev ZcO (s : NSt) : List Tx:=s.A.map (·.1)
theorem Zzk (h : ND X d r s c) : ∃ v q X',R (n+2) Zbh [pt d] X=some (v,X')∧ZA X' v ((Qx (ZcO s)).map strv) q∧HLe X X'∧∀ j∈q,X.length≤j:=by
 have e1 : run Tryz.prog np lvs (n+1) QO [.map (some r.b)] X=some (.func (.func Jx) #[] #[pt X.length],X++[.cells [.map (some r.b)] 1 false false]):=by
  rw [W9 rfl]
  unfold Jz
  rw [Za (ZoV rfl rfl _)]
  rfl
 have l1 : HLe X (X++[.cells [.map (some r.b)] 1 false false]):=.app _ _
 obtain ⟨v,q,H2,e2,r2,l2,o2⟩:=(h.m.hle l1).keys (gks:=Zhu) (gc:=Qv) (gk:=Jx) (c:=X.length) (by decide) Zw (Nat.le_trans h.inv.few (by decide)) (fun p hp=>Nat.le_trans (ZaU (h.inv.nm p hp).1) (by decide))
 have e2' : run Tryz.prog np lvs (n+1) QS [.func (.func Jx) #[] #[pt X.length],.func (.func Qv) #[] #[]] (X++[.cells [.map (some r.b)] 1 false false])=some (v,H2):=by
  rw [Zcl (show np QS=some (ZdO Zhu Qv) from rfl)]
  exact e2
 refine ⟨v,q,H2,?_,r2,l1.trans l2,fun j hj=>Nat.le_trans l1.len (o2 j hj)⟩
 rw [R,ZmX rfl]
 unfold ZeG
 rw [Za Zt,Za Zh,Za h.l0,Za e1,Za e2']
 rfl
theorem ZA.own_of {v : Value} {vs : List Value} {q : List Nat} (h : ZA X v vs q) {i : Nat} (hi : A.own1 v=some i) : i∈q:=by
 rcases h with ⟨_,rfl,rfl⟩ | ⟨sid,rest,g,rfl,rfl,_⟩
 ·cases hi
 ·cases hi;simp
structure Zck (X0 X : Zd) (sl : Value) (us : List Zj) (q : List Nat) : Prop where
 r : Qu 5 X sl (us.map Zj.cells) q
 o : ∀ j∈q,X0.length≤j
 u : ∀ w∈us,∃ qu,ZA X w.gv (w.gs.map strv) qu∧(∀ j∈qu,X0.length≤j∧j∉q)∧w.gs.length≤100000
 un : ∀ a∈us,∀ b∈us,∀ i,own1 a.gv=some i→own1 b.gv=some i→a=b
theorem Zck.us {X0 X : Zd} {sl : Value} {us : List Zj} {q : List Nat} (h : Zck X0 X sl us q) : Qh X sl us:=⟨h.r.rd,fun w hw=>by
 obtain ⟨qu,h1,_,h2⟩:=h.u w hw
 exact ⟨h1.rd,h1.one.1,by omega⟩⟩
theorem Zck.hle {X0 X Y : Zd} {sl : Value} {us : List Zj} {q : List Nat} (h : Zck X0 X sl us q) (hl : HLe X Y) : Zck X0 Y sl us q:=
 ⟨h.r.step hl.step (by simp),h.o,fun w hw=>by
  obtain ⟨qu,h1,h2,h3⟩:=h.u w hw
  exact ⟨qu,h1.step hl.step (by simp),h2,h3⟩,h.un⟩
theorem Zck.push0 {X0 : Zd} {sl : Value} {us : List Zj} {q qu : List Nat} {w : Zj} (h : Zck X0 X sl us q) (hl : us.length≤1000) (hr : ZA X w.gv (w.gs.map strv) qu) (hq : ∀ j∈qu,X0.length≤j∧j∉q) (h6 : w.gs.length≤100000) (hfr : ∀ a∈us,∀ i,own1 a.gv=some i→i∉qu) (hX : X0.length≤X.length) :
  ∃ x X1 sl' X2 q',bsl 5 1 (.agg #[.string ⟨#[]⟩,.string ⟨#[]⟩,.string ⟨#[]⟩,.bool false,.slice none 0 0]) [(0,5,.agg w.cells.toArray)] X=some (x,X1)∧app 5 80 sl x X1=some (sl',X2)∧Zck X0 X2 sl' (us++[w]) q'∧ZC q X q' X2:=by
 have hone : w.cells.all oneCell=true:=by simp only [Zj.cells,List.all_cons,hr.one.1];rfl
 have x4:=ZmB (es:=5) (z:=.agg #[.string ⟨#[]⟩,.string ⟨#[]⟩,.string ⟨#[]⟩,.bool false,.slice none 0 0]) (H:=X) rfl (show w.cells.length=5 from rfl) hone
 have l1 : HLe X (X++[Ze.cells w.cells 5 false false]):=.app _ _
 have s1 : SlN 5 (X++[Ze.cells w.cells 5 false false]) (.slice (some ⟨X.length,0,none⟩) 1 1) [w.cells]:=SlN.whole (rows:=[w.cells]) (c:=1) (e:=5) (g:=false) (ro:=false) (by rw [Zw];simp) (by simp)
 generalize X++[Ze.cells w.cells 5 false false]=X1 at x4 l1 s1
 have h1:=h.hle l1
 obtain ⟨sl',X2,q',x5,hn2,s2⟩:=h1.r.push (b:=80) s1 rfl (by simp;omega) (by simp;omega)
 have hX1:=l1.len
 have hm2 : ∀ j∈q',X0.length≤j:=fun j hj=>by
  rcases s2.own j hj with h2 | h2
  ·exact h.o j h2
  ·omega
 rw [← List.map_singleton (f:=Zj.cells),← List.map_append] at hn2
 have hnew : ∀ (v : Zj) (qv : List Nat),ZA X1 v.gv (v.gs.map strv) qv→(∀ j∈qv,X0.length≤j∧j∉q)→ZA X2 v.gv (v.gs.map strv) qv∧∀ j∈qv,X0.length≤j∧j∉q':=fun v qv hv hj=>⟨hv.step s2 (fun j hm=>(hj j hm).2),fun j hm=>⟨(hj j hm).1,fun hq=>by
  rcases s2.own j hq with h2 | h2
  ·exact (hj j hm).2 h2
  ·have:=hv.lt j hm;omega⟩⟩
 refine ⟨_,X1,sl',X2,q',x4,x5,⟨hn2,hm2,fun v hv=>?_,fun a ha b hb i hai hbi=>?_⟩,l1.stepq.trans s2⟩
 ·rcases List.mem_append.1 hv with hv | hv
  ·obtain ⟨qv,a1,a2,a3⟩:=h1.u v hv
   obtain ⟨b1,b2⟩:=hnew v qv a1 a2
   exact ⟨qv,b1,b2,a3⟩
  ·have hv : v=w:=by simpa using hv
   subst hv
   obtain ⟨b1,b2⟩:=hnew v qu (hr.step l1.step (by simp)) hq
   exact ⟨qu,b1,b2,h6⟩
 ·rcases List.mem_append.1 ha with ha | ha <;> rcases List.mem_append.1 hb with hb | hb
  ·exact h.un a ha b hb i hai hbi
  ·have hb : b=w:=by simpa using hb
   rw [hb] at hbi
   exact absurd (hr.own_of hbi) (hfr a ha i hai)
  ·have ha : a=w:=by simpa using ha
   rw [ha] at hai
   exact absurd (hr.own_of hai) (hfr b hb i hbi)
  ·have ha : a=w:=by simpa using ha
   have hb : b=w:=by simpa using hb
   rw [ha,hb]
theorem Zck.push {X0 : Zd} {sl : Value} {us : List Zj} {q qu : List Nat} {w : Zj} (h : Zck X0 X sl us q) (hl : us.length≤1000) (hr : ZA X w.gv (w.gs.map strv) qu) (hq : ∀ j∈qu,X0.length≤j∧j∉q) (h6 : w.gs.length≤100000) (hfr : ∀ a∈us,∀ i,own1 a.gv=some i→i∉qu) (hle : HLe X0 X) :
  ∃ x X1 sl' X2 q',bsl 5 1 (.agg #[.string ⟨#[]⟩,.string ⟨#[]⟩,.string ⟨#[]⟩,.bool false,.slice none 0 0]) [(0,5,.agg w.cells.toArray)] X=some (x,X1)∧app 5 80 sl x X1=some (sl',X2)∧Zck X0 X2 sl' (us++[w]) q'∧HLe X0 X2:=by
 obtain ⟨x,X1,sl',X2,q',a,b,c,e⟩:=h.push0 hl hr hq h6 hfr hle.len
 exact ⟨x,X1,sl',X2,q',a,b,c,(hle.more e h.o).1⟩
theorem Zv5 {v : Value} {q0 : List Nat} {ks : List Tx} {X0 : Zd} (h : ND X0 d r s c) (hr : ZA X0 v (ks.map strv) q0) (hk : ks.length≤100) (hK : ∀ k∈ks,Zu k s.A=0) : ∀ (t j : Nat) (sl : Value) (q : List Nat) (us : List Zj) (X : Zd),ks.length - j=t→j≤ks.length→us.length≤j→HLe X0 X→Zck X0 X sl us q→
  ∃ X' sl' q' us',Zi (c5 (KC.l1 (R (n+7)))) [pt d,sl,v,iv ks.length,iv j] X=some (.ext 0 [sl'],X')∧Zck X0 X' sl' (us++us') q'∧us'.map ZQ=(ks.drop j).map (fun k=>Qi s k ((Zf k s.A).getD ([],false)))∧HLe X0 X'
 | 0,j,sl,q,us,X,ht,hj,hu,hl,ho=>by
  have : j=ks.length:=by omega
  subst this
  rw [List.drop_length]
  refine ⟨X,sl,q,[],ZK ?_,by rw [List.append_nil];exact ho,rfl,hl⟩
  rw [Qc]
  unfold KC.l1
  rw [Za Zm,Zb,if_neg (by simp)]
  rfl
 | t+1,j,sl,q,us,X,ht,hj,hu,hl,ho=>by
  have hjl : j < ks.length:=by omega
  have hlt : (j : Int) < ks.length:=by omega
  have hg:=List.getElem?_eq_getElem hjl
  have hd:=List.drop_eq_getElem_cons hjl
  generalize ks[j]=k at hg hd
  have hrx:=hr.step hl.step (by simp)
  have x1:=hrx.ix (i:=j) (by simpa using hjl) .i64 X
  have x2:=hrx.ldx (Yt hg)
  have he:=hK k (List.mem_of_getElem? hg)
  obtain ⟨w,qw,X1,e1,r1,o1,l1,h6,hkey⟩:=ZyF (n:=n) (k:=k) (h.hle hl)
  rw [if_pos he] at hkey
  rw [he] at e1
  have ho1:=ho.hle l1
  have hone : w.cells.all oneCell=true:=by simp only [Zj.cells,List.all_cons,r1.one.1];rfl
  have z2 : ∀ K : Value→M Out,bind (alc 1 (.agg #[.string ⟨#[]⟩,.string ⟨#[]⟩,.string ⟨#[]⟩,.bool false,.slice none 0 0])) (fun p=>bind (stA 5 p (.agg w.cells.toArray)) fun _=>K p) X1=K (pt X1.length) (X1++[.cells w.cells 1 false false]):=fun K=>WZ (n:=5) (zs:=[.string ⟨#[]⟩,.string ⟨#[]⟩,.string ⟨#[]⟩,.bool false,.slice none 0 0]) (r:=w.cells) rfl rfl rfl hone
  have k2 : HLe X1 (X1++[Ze.cells w.cells 1 false false]):=.app _ _
  have c2 : (X1++[Ze.cells w.cells 1 false false])[X1.length]?=some (.cells w.cells 1 false false):=Zw
  generalize X1++[Ze.cells w.cells 1 false false]=X2 at z2 k2 c2
  have d2 : ldA 5 (pt X1.length) X2=some (.agg w.cells.toArray,X2):=ZR (n:=5) c2 rfl
  have hq : ∀ i∈qw,X0.length≤i∧i∉q:=fun i hi=>by
   have h1:=o1 i hi
   have h2:=hl.len
   exact ⟨by omega,fun hm=>by have:=ho.r.lt i hm;omega⟩
  obtain ⟨y,X3,sl',X4,q',a1,a2,ho4,l4⟩:=(ho1.hle k2).push (by omega) (r1.step k2.step (by simp)) hq (by omega) (fun a ha i hi hm=>by obtain ⟨qa,b1,_,_⟩:=ho.u a ha;have h1:=b1.lt i (b1.own_of hi);have h2:=o1 i hm;omega) ((hl.trans l1).trans k2)
  obtain ⟨X5,sl5,q5,us5,e5,o5,u5,l5⟩:=Zv5 h hr hk hK t (j+1) sl' q' (us++[w]) X4 (by omega) (by omega) (by rw [List.length_append,List.length_singleton];omega) l4 ho4
  refine ⟨X5,sl5,q5,w :: us5,(Zy ?_).trans e5,by rw [List.append_assoc] at o5;exact o5,?_,l5⟩
  ·rw [Qc]
   unfold KC.l1
   rw [Za Zm,Zb,if_pos (by simpa using hlt),Za x1,Za x2,Za e1,Za Zr,Za Zs,z2,Za d2,Za a1,Za a2,Za ZB,Qg (by omega)]
   rfl
  ·rw [hd,List.map_cons,List.map_cons,u5,hkey]
def allK (s : NSt) : List Zaj:=(Qx (ZcO s)).map fun k=>Qi s k ((Zf k s.A).getD ([],false))
theorem ZAg (h : ∀ p∈s.A,Zp p.1=true) {k : Tx} (hk : k∈ZcO s) : Zu k s.A=0:=by
 obtain ⟨p,hp,rfl⟩:=List.mem_map.1 hk
 unfold Zu
 rw [h p hp,Zjr,decide_eq_true (List.mem_map.2 ⟨p,hp,rfl⟩)]
 rfl
theorem Zys (h : ND X d r s c) : ∃ v q us X',R (n+8) Wp [pt d] X=some (v,X')∧Zck X X' v us q∧us.map ZQ=allK s∧HLe X X':=by
 obtain ⟨v,q,X1,e1,r1,l1,o1⟩:=Zzk (n:=n+5) h
 have e1 : R (n+7) Zbh [pt d] X=_:=e1
 have hfew : (Qx (ZcO s)).length≤12:=by
  rw [Zat]
  have:=h.inv.few
  simpa using this
 obtain ⟨X2,sl,q2,us,e2,o2,u2,l2⟩:=Zv5 (n:=n) (h.hle l1) r1 (by omega) (fun k hk=>ZAg (fun p hp=>(h.inv.nm p hp).1) (Zbq.1 hk)) (Qx (ZcO s)).length 0 (.slice none 0 0) [] [] X1 (by omega) (by omega) (Nat.le_refl _) (.refl _) ⟨Qu.nil,by simp,by simp,by simp⟩
 have e2 : Zi (c5 (KC.l1 (R (n+7)))) [pt d,.slice none 0 0,v,iv (Qx (ZcO s)).length,.int .i64 0] X1=_:=e2
 rw [List.nil_append] at o2
 rw [List.drop_zero] at u2
 have hlen : Zx v X1=some (iv (Qx (ZcO s)).length,X1):=by have:=r1.rd.len (H':=X1);simpa using this
 have hx:=l1.len
 refine ⟨sl,q2,us,X2,?_,⟨o2.r,fun j hj=>Nat.le_trans hx (o2.o j hj),fun w hw=>?_,o2.un⟩,u2,l1.trans l2⟩
 ·rw [R,Zpp rfl]
  unfold KC
  rw [Za e1,Za hlen,ZT e2,ZE]
  rfl
 ·obtain ⟨qu,a1,a2,a3⟩:=o2.u w hw
  exact ⟨qu,a1,fun j hj=>⟨Nat.le_trans hx (a2 j hj).1,(a2 j hj).2⟩,a3⟩
end
end Go.Proofs.YtedkoimihknggaaGreatDoor.A
namespace Go.Proofs.YtedkoimihknggaaGreatDoor.A
set_option linter.unusedVariables false
set_option linter.unusedSimpArgs false
open Go.Proofs Go.Proofs.YtedkoimihknggaaGreatDoor
def Qb (k : Tx) (A : AMp) : Acc:=(Zf k A).getD ([],false)
def Q5 (k h : Tx) (A : AMp) : Int:=if Zp k then (if YR h then (if (Zf k A).isSome then 9 else if 12≤A.length then 7 else 0) else 4) else 10
def KR (k h : Tx) (s : NSt) : NSt:=if Q5 k h s.A=0 then { s with A:=Qw k (h,false) s.A } else s
def Ke (k : Tx) (s : NSt) : NSt:=if Zu k s.A=0 then { s with A:=Yg k s.A,OW:=Zbw k s.OW s.OF,OF:=Wf k s.OF,mem:=Ze8 k s.mem } else s
def QL (k h : Tx) (A : AMp) : Int:=if Zp k then (if YR h then (if (Zf k A).isSome then (if (Qb k A).2 then 12 else 0) else 8) else 4) else 10
def YL (k h : Tx) (s : NSt) : NSt:=if QL k h s.A=0 then { s with A:=Qw k (h,(Qb k s.A).2) s.A } else s
def Q3 (k m : Tx) (s : NSt) : Int:=if Zp k then (if m≠[]∧QH m=false then 11 else if (Zf k s.A).isSome then YW k m s.OW else 8) else 10
def Jc (k m : Tx) (s : NSt) : NSt:=if Q3 k m s=0 then { s with OW:=Zor k m s.OW s.OF,OF:=Zdb k m s.OW s.OF } else s
def Yb (k : Tx) (b : Bool) (A : AMp) : Int:=if Zu k A=0 then (if (Qb k A).2=b then 12 else 0) else Zu k A
def Yo (k : Tx) (b : Bool) (s : NSt) : NSt:=if Yb k b s.A=0 then { s with A:=Qw k ((Qb k s.A).1,b) s.A } else s
def J1 (o t : Tx) (A : AMp) : Int:=if Zp o && Zp t then (if (Zf o A).isSome then (if (Zf t A).isSome then 9 else 0) else 8) else 10
def Wh (o t : Tx) (s : NSt) : NSt:=if J1 o t s.A=0 then { s with A:=Qw t (Qb o s.A) (Yg o s.A),OW:=ZwO o t s.OW s.OF,OF:=Zic o t s.OF,mem:=Zbs o t s.mem } else s
def Zi2 (g : Tx) (s : NSt) : NSt:={ s with K:=ZcP g s.K }
def ZfM (g : Tx) (s : NSt) : NSt:={ s with K:=Zch g s.K,mem:=if Q1 g s.K=0 then Zbc g s.mem else s.mem }
def Ye (g k : Tx) (A : AMp) : Int:=if Zp g then Zu k A else 10
def Wb (g k : Tx) (s : NSt) : Int:=if Ye g k s.A=0 then ZaG g k s.K s.mem else Ye g k s.A
def ZaZ (g k : Tx) (s : NSt) : NSt:=if Wb g k s=0 then { s with mem:=Zcn g k s.mem } else s
def Kq (g k : Tx) (s : NSt) : Int:=if Ye g k s.A=0 then Zcj g k s.K s.mem else Ye g k s.A
def Wy (g k : Tx) (s : NSt) : NSt:=if Kq g k s=0 then { s with mem:=ZdU g k s.mem } else s
theorem Zbu {α : Type} {k j : Tx} {v : α} {m : List (Tx × α)} (h : (Zf j m).isSome=true∨j=k) : (Zf j (Qw k v m)).isSome=true:=by
 by_cases e : j=k
 ·rw [e,KT];rfl
 ·rw [YA e];exact h.resolve_right e
theorem JQ.putA {s : NSt} (h : JQ s) {k : Tx} {v : Acc} (hk : Zp k=true) (hv : YR v.1=true) (hl : (Zf k s.A).isSome=true∨s.A.length < 12) : JQ { s with A:=Qw k v s.A } where
 nm p hp:=by
  rcases Zjf hp with rfl | hp
  ·exact ⟨hk,hv⟩
  ·exact h.nm p hp
 few:=by
  show (Qw k v s.A).length≤12
  rw [Zfr]
  have:=h.few
  split
  ·exact this
  ·rename_i hn
   rcases hl with h1 | h1
   ·exact absurd h1 hn
   ·omega
 ofA n hn:=Zbu (.inl (h.ofA n hn))
 memA g n hn:=Zbu (.inl (h.memA g n hn))
 good:=h.good
theorem Zh3 {k h : Tx} {A : AMp} (he : Q5 k h A=0) : Zp k=true∧YR h=true∧Zf k A=none∧A.length < 12:=by
 unfold Q5 at he
 cases h1 : Zp k <;> cases h2 : YR h <;> rw [h1,h2] at he <;> try simp at he
 by_cases h3 : (Zf k A).isSome=true
 ·rw [if_pos h3] at he;simp at he
 ·rw [if_neg h3] at he
  by_cases h4 : 12≤A.length
  ·rw [if_pos h4] at he;simp at he
  ·exact ⟨rfl,rfl,by simpa using h3,by omega⟩
theorem JQ.create {s : NSt} (h : JQ s) (k x : Tx) : JQ (KR k x s):=by
 unfold KR
 split
 ·rename_i he
  obtain ⟨h1,h2,h3,h4⟩:=Zh3 he
  exact h.putA h1 h2 (.inr h4)
 ·exact h
theorem JQ.delete {s : NSt} (h : JQ s) (k : Tx) : JQ (Ke k s):=by
 unfold Ke
 split
 ·exact {
   nm:=fun p hp=>h.nm p (List.mem_filter.1 hp).1
   few:=Nat.le_trans (List.length_filter_le _ _) h.few
   ofA:=fun n hn=>by
    have hne : n≠k:=fun e=>by rw [e,Zdu] at hn;cases hn
    show (Zf n (Yg k s.A)).isSome=true
    rw [JK hne]
    rw [Zd1 hne] at hn
    exact h.ofA n hn
   memA:=fun g n hn=>by
    have hn : (s.mem g n && !(n==k))=true:=hn
    simp only [Bool.and_eq_true,Bool.not_eq_true',beq_eq_false_iff_ne] at hn
    show (Zf n (Yg k s.A)).isSome=true
    rw [JK hn.2]
    exact h.memA g n hn.1
   good:=fun n m hn=>by
    have hne : n≠k:=fun e=>by
     have hn : Zf n (Wf k s.OF)=some m:=hn
     rw [e,Zdu] at hn;cases hn
    have hn : Zf n (Wf k s.OF)=some m:=hn
    rw [Zd1 hne] at hn
    exact h.good n m hn }
 ·exact h
theorem ZcY {k : Tx} {A : AMp} (h : (Zf k A).isSome=true) : Zf k A=some (Qb k A):=by
 unfold Qb
 cases ha : Zf k A with
 | none=>rw [ha] at h;cases h
 | some p=>rfl
theorem Zji {k h : Tx} {A : AMp} (he : QL k h A=0) : Zp k=true∧YR h=true∧(Zf k A).isSome=true∧(Qb k A).2=false:=by
 unfold QL at he
 cases h1 : Zp k <;> cases h2 : YR h <;> rw [h1,h2] at he <;> try simp at he
 cases h3 : (Zf k A).isSome <;> cases h4 : (Qb k A).2 <;> rw [h3,h4] at he <;> simp at he
 exact ⟨rfl,rfl,rfl,rfl⟩
theorem JQ.setHash {s : NSt} (h : JQ s) (k x : Tx) : JQ (YL k x s):=by
 unfold YL
 split
 ·rename_i he
  obtain ⟨h1,h2,h3,h4⟩:=Zji he
  exact h.putA h1 h2 (.inl h3)
 ·exact h
theorem Zw6 {k : Tx} {b : Bool} {A : AMp} (he : Yb k b A=0) : Zu k A=0∧(Qb k A).2≠b:=by
 unfold Yb at he
 by_cases h1 : Zu k A=0
 ·rw [if_pos h1] at he
  refine ⟨h1,fun e=>?_⟩
  rw [if_pos e] at he;simp at he
 ·rw [if_neg h1] at he;exact absurd he h1
theorem JQ.disable {s : NSt} (h : JQ s) (k : Tx) (b : Bool) : JQ (Yo k b s):=by
 unfold Yo
 split
 ·rename_i he
  obtain ⟨h1,_⟩:=Zw6 he
  obtain ⟨h2,p,h3⟩:=ZiV h1
  have h4 : (Zf k s.A).isSome=true:=by rw [h3];rfl
  refine h.putA h2 ?_ (.inl h4)
  have:=h.nm _ (K6 (ZcY h4))
  exact this.2
 ·exact h
theorem Zp3 {k m : Tx} {s : NSt} (he : Q3 k m s=0) : Zp k=true∧(m=[]∨QH m=true)∧(Zf k s.A).isSome=true∧YW k m s.OW=0:=by
 unfold Q3 at he
 cases h1 : Zp k
 ·rw [h1] at he;simp at he
 ·rw [h1] at he
  simp only [if_true] at he
  by_cases h2 : m≠[]∧QH m=false
  ·rw [if_pos h2] at he;simp at he
  ·rw [if_neg h2] at he
   cases h3 : (Zf k s.A).isSome
   ·rw [h3] at he;simp at he
   ·rw [h3] at he
    simp only [if_true] at he
    refine ⟨rfl,?_,rfl,he⟩
    by_cases h4 : m=[]
    ·exact .inl h4
    ·refine .inr ?_
     cases h5 : QH m
     ·exact absurd ⟨h4,h5⟩ h2
     ·rfl
theorem Zen {k m : Tx} {OW OF : J4} (he : YW k m OW=0) (n : Tx) : Zf n (Zdb k m OW OF)=if n=k then (if m=[] then none else some (Qd m)) else Zf n OF:=by
 unfold Zdb
 rw [if_pos he]
 by_cases hm : m=[]
 ·rw [if_pos hm,if_pos hm]
  by_cases hn : n=k
  ·rw [if_pos hn,hn,Zdu]
  ·rw [if_neg hn,Zd1 hn]
 ·rw [if_neg hm,if_neg hm]
  by_cases hn : n=k
  ·rw [if_pos hn,hn,KT]
  ·rw [if_neg hn,YA hn,Zd1 hn]
theorem Znw {m : Tx} : Qd (Qd m)=Qd m:=by
 unfold Qd
 rw [List.map_map]
 refine List.map_congr_left fun b _=>?_
 exact (ZhB (p:=fun b=>Ky (Ky b)=Ky b) (by decide+kernel)) b
theorem Zvi {m : Tx} (h : QH m=true) : QH (Qd m)=true:=by
 unfold QH at h ⊢
 rw [Znw,show (Qd m).length=m.length from by simp [Qd]]
 exact h
theorem JQ.setMail {s : NSt} (h : JQ s) (k m : Tx) : JQ (Jc k m s):=by
 unfold Jc
 split
 ·rename_i he
  obtain ⟨h1,h2,h3,h4⟩:=Zp3 he
  exact {
   nm:=h.nm
   few:=h.few
   ofA:=fun n hn=>by
    have hn : (Zf n (Zdb k m s.OW s.OF)).isSome=true:=hn
    rw [Zen h4] at hn
    by_cases e : n=k
    ·rw [e];exact h3
    ·rw [if_neg e] at hn;exact h.ofA n hn
   memA:=h.memA
   good:=fun n v hn=>by
    have hn : Zf n (Zdb k m s.OW s.OF)=some v:=hn
    rw [Zen h4] at hn
    by_cases e : n=k
    ·rw [if_pos e] at hn
     by_cases hm : m=[]
     ·rw [if_pos hm] at hn;cases hn
     ·rw [if_neg hm] at hn
      have hv : Qd m=v:=Option.some.inj hn
      rw [← hv]
      exact ⟨Zvi (h2.resolve_left hm),Znw⟩
    ·rw [if_neg e] at hn;exact h.good n v hn }
 ·exact h
theorem ZhR {o t : Tx} {A : AMp} (he : J1 o t A=0) : Zp o=true∧Zp t=true∧(Zf o A).isSome=true∧Zf t A=none∧o≠t:=by
 unfold J1 at he
 cases h1 : Zp o <;> cases h2 : Zp t <;> rw [h1,h2] at he <;> try simp at he
 cases h3 : (Zf o A).isSome <;> cases h4 : (Zf t A).isSome <;> rw [h3,h4] at he <;> simp at he
 have h4 : Zf t A=none:=by simpa using h4
 refine ⟨rfl,rfl,rfl,h4,fun e=>?_⟩
 rw [e,h4] at h3;cases h3
theorem JQ.ofN {s : NSt} (h : JQ s) {t : Tx} (ht : Zf t s.A=none) : Zf t s.OF=none:=by
 cases ho : Zf t s.OF with
 | none=>rfl
 | some v=>
  have:=h.ofA t (by rw [ho];rfl)
  rw [ht] at this;cases this
theorem JQ.memN {s : NSt} (h : JQ s) {t : Tx} (ht : Zf t s.A=none) (g : Tx) : s.mem g t=false:=by
 cases ho : s.mem g t with
 | false=>rfl
 | true=>
  have:=h.memA g t ho
  rw [ht] at this;cases this
theorem Zmv {o t : Tx} {OF : J4} (ht : Zp t=true) (hn : Zf t OF=none) (hot : o≠t) (n : Tx) : Zf n (Zic o t OF)=if n=t then Zf o OF else if n=o then none else Zf n OF:=by
 unfold Zic Zg7
 rw [ht,hn]
 cases ho : Zf o OF with
 | none=>
  simp only [if_true]
  rw [if_neg (by decide)]
  by_cases h1 : n=t
  ·rw [if_pos h1,h1,hn]
  ·rw [if_neg h1]
   by_cases h2 : n=o
   ·rw [if_pos h2,h2,ho]
   ·rw [if_neg h2]
 | some m=>
  simp only [Option.isSome_none,Bool.false_and,if_true,Option.getD_some]
  rw [if_pos (by simp)]
  by_cases h1 : n=t
  ·rw [if_pos h1,h1,KT]
  ·rw [if_neg h1,YA h1]
   by_cases h2 : n=o
   ·rw [if_pos h2,h2,Zdu]
   ·rw [if_neg h2,Zd1 h2]
theorem JQ.rename {s : NSt} (h : JQ s) (o t : Tx) : JQ (Wh o t s):=by
 unfold Wh
 split
 ·rename_i he
  obtain ⟨h1,h2,h3,h4,h5⟩:=ZhR he
  have hof:=h.ofN h4
  exact {
   nm:=fun p hp=>by
    rcases Zjf hp with rfl | hp
    ·exact ⟨h2,(h.nm _ (K6 (ZcY h3))).2⟩
    ·exact h.nm p (List.mem_filter.1 hp).1
   few:=by
    show (Qw t (Qb o s.A) (Yg o s.A)).length≤12
    rw [Zfr]
    have hf:=h.few
    have hlt : (Yg o s.A).length < s.A.length:=by
     unfold Yg
     rw [List.length_filter_lt_length_iff_exists]
     exact ⟨_,K6 (ZcY h3),by simp⟩
    split <;> omega
   ofA:=fun n hn=>by
    have hn : (Zf n (Zic o t s.OF)).isSome=true:=hn
    rw [Zmv h2 hof h5] at hn
    show (Zf n (Qw t (Qb o s.A) (Yg o s.A))).isSome=true
    by_cases e1 : n=t
    ·exact Zbu (.inr e1)
    ·rw [if_neg e1] at hn
     by_cases e2 : n=o
     ·rw [if_pos e2] at hn;cases hn
     ·rw [if_neg e2] at hn
      exact Zbu (.inl (by rw [JK e2];exact h.ofA n hn))
   memA:=fun g n hn=>by
    have hn : Zbs o t s.mem g n=true:=hn
    show (Zf n (Qw t (Qb o s.A) (Yg o s.A))).isSome=true
    by_cases e1 : n=t
    ·exact Zbu (.inr e1)
    ·have hm : s.mem g n=true∧n≠o:=by
      unfold Zbs at hn
      cases hg : s.mem g o
      ·rw [hg] at hn
       simp only [Bool.false_eq_true,if_false] at hn
       exact ⟨hn,fun e=>by rw [e,hg] at hn;cases hn⟩
      ·rw [hg] at hn
       simp only [if_true,Bool.or_eq_true,beq_iff_eq,Bool.and_eq_true,Bool.not_eq_true',beq_eq_false_iff_ne] at hn
       rcases hn with hn | hn
       ·exact absurd hn e1
       ·exact hn
     exact Zbu (.inl (by rw [JK hm.2];exact h.memA g n hm.1))
   good:=fun n v hn=>by
    have hn : Zf n (Zic o t s.OF)=some v:=hn
    rw [Zmv h2 hof h5] at hn
    by_cases e1 : n=t
    ·rw [if_pos e1] at hn;exact h.good o v hn
    ·rw [if_neg e1] at hn
     by_cases e2 : n=o
     ·rw [if_pos e2] at hn;cases hn
     ·rw [if_neg e2] at hn;exact h.good n v hn }
 ·exact h
theorem JQ.make {s : NSt} (h : JQ s) (g : Tx) : JQ (Zi2 g s):=⟨h.nm,h.few,h.ofA,h.memA,h.good⟩
theorem JQ.drop {s : NSt} (h : JQ s) (g : Tx) : JQ (ZfM g s):=by
 refine ⟨h.nm,h.few,h.ofA,fun k n hn=>?_,h.good⟩
 have hn : (if Q1 g s.K=0 then Zbc g s.mem else s.mem) k n=true:=hn
 split at hn
 ·unfold Zbc at hn
  simp only [Bool.and_eq_true] at hn
  exact h.memA k n hn.1
 ·exact h.memA k n hn
theorem ZlA {g k : Tx} {A : AMp} (h : Ye g k A=0) : Zp g=true∧Zu k A=0:=by
 unfold Ye at h
 cases hg : Zp g
 ·rw [hg] at h;simp at h
 ·rw [hg] at h;exact ⟨rfl,h⟩
theorem JQ.join {s : NSt} (h : JQ s) (g k : Tx) : JQ (ZaZ g k s):=by
 unfold ZaZ
 split
 ·rename_i he
  unfold Wb at he
  by_cases hm : Ye g k s.A=0
  ·obtain ⟨_,h2⟩:=ZlA hm
   obtain ⟨_,p,h3⟩:=ZiV h2
   refine ⟨h.nm,h.few,h.ofA,fun j n hn=>?_,h.good⟩
   have hn : (s.mem j n || (j==g && n==k))=true:=hn
   simp only [Bool.or_eq_true,Bool.and_eq_true,beq_iff_eq] at hn
   rcases hn with hn | ⟨_,hn⟩
   ·exact h.memA j n hn
   ·show (Zf n s.A).isSome=true
    rw [hn,h3];rfl
  ·rw [if_neg hm] at he;exact absurd he hm
 ·exact h
theorem JQ.leave {s : NSt} (h : JQ s) (g k : Tx) : JQ (Wy g k s):=by
 unfold Wy
 split
 ·refine ⟨h.nm,h.few,h.ofA,fun j n hn=>?_,h.good⟩
  have hn : (s.mem j n && !(j==g && n==k))=true:=hn
  simp only [Bool.and_eq_true] at hn
  exact h.memA j n hn.1
 ·exact h
end Go.Proofs.YtedkoimihknggaaGreatDoor.A
namespace Go.Proofs.YtedkoimihknggaaGreatDoor.A
set_option linter.unusedVariables false
set_option linter.unusedSimpArgs false
open Go.Proofs Go.Proofs.YtedkoimihknggaaGreatDoor
section
variable {X X' : Zd} {n d c c' : Nat} {r : NR} {s : NSt} {k h m t o g : Tx}
theorem NR.mem_b (r : NR) : r.b∈r.own:=by simp [NR.own]
theorem NR.mem_o (r : NR) : r.o∈r.own:=by simp [NR.own]
theorem NR.mem_a (r : NR) : r.a∈r.own:=by simp [NR.own]
theorem NR.mem_g (r : NR) : ∀ j∈Jd r.o2 r.G,j∈r.own:=fun j hj=>by
 unfold NR.own
 exact List.mem_cons_of_mem _ (List.mem_cons_of_mem _ (List.mem_cons_of_mem _ hj))
theorem ND0.more (hd : ND0 X d r s c) (hc : c≤c') : ND0 X d r s c':=⟨hd.cell,hd.m,hd.ix,hd.gr.more hc (fun _ _=>rfl),hd.ks,hd.dis⟩
theorem ND0.setA (hd : ND0 X d r s c) {A' : AMp} (m' : JH ZaM X' r.b A') (hs : ZC [r.b] X [r.b] X') : ND0 X' d r { s with A:=A' } c∧ZC r.own X r.own X':=by
 obtain ⟨h1,h2,h3,_,_⟩:=hd.dis
 have nb : ∀ {j},j∉r.own→j∉[r.b]:=fun hj e=>hj (by rw [List.mem_singleton.1 e];exact r.mem_b)
 refine ⟨⟨hs.get hd.cell (nb hd.dnot),m',hd.ix.step hs (nb hd.xnot) (by simpa using Ne.symm h1) (by simpa using Ne.symm h2),hd.gr.step hs (nb hd.gnot) (fun j hj e=>h3 ?_),hd.ks,hd.dis⟩,hs.mono2 (by simpa using r.mem_b)⟩
 rw [← List.mem_singleton.1 e];exact hj
theorem ND0.setI (hd : ND0 X d r s c) {OW' OF' : J4} (i' : Idx X' r.x r.o r.a OW' OF') (hs : ZC [r.o,r.a] X [r.o,r.a] X') : ND0 X' d r { s with OW:=OW',OF:=OF' } c∧ZC r.own X r.own X':=by
 obtain ⟨h1,h2,h3,h4,h5⟩:=hd.dis
 have no : ∀ j∈[r.o,r.a],j∈r.own:=fun j hj=>by
  simp only [List.mem_cons,List.not_mem_nil,or_false] at hj
  rcases hj with rfl | rfl
  ·exact r.mem_o
  ·exact r.mem_a
 refine ⟨⟨hs.get hd.cell (fun e=>hd.dnot (no _ e)),hd.m.step hs (by simp [h1,h2]),i',hd.gr.step hs (fun e=>hd.gnot (no _ e)) (fun j hj e=>?_),hd.ks,hd.dis⟩,hs.mono2 no⟩
 simp only [List.mem_cons,List.not_mem_nil,or_false] at e
 rcases e with rfl | rfl
 ·exact h4 hj
 ·exact h5 hj
theorem ND0.setG (hd : ND0 X d r s c) {G' : Zc8} {mem' : Mem} {K' : List Tx} (g' : Grp X' r.g r.o2 G' mem' c') (hs : ZC (Jd r.o2 r.G) X (Jd r.o2 G') X') (hk : ZO G'=K') : ND0 X' d { r with G:=G' } { s with K:=K',mem:=mem' } c'∧ZC r.own X (NR.own { r with G:=G' }) X':=by
 obtain ⟨h1,h2,h3,h4,h5⟩:=hd.dis
 have hb:=hd.isMap r.mem_b
 have ho:=hd.isMap r.mem_o
 have ha:=hd.isMap r.mem_a
 have new : ∀ j,j < X.length→j∉Jd r.o2 r.G→j∉Jd r.o2 G':=fun j hj hn hm=>by
  rcases hs.own j hm with e | e
  ·exact hn e
  ·omega
 refine ⟨⟨hs.get hd.cell (fun e=>hd.dnot (r.mem_g _ e)),hd.m.step hs h3,hd.ix.step hs (fun e=>hd.xnot (r.mem_g _ e)) h4 h5,g',hk,⟨h1,h2,new _ hb.1 h3,new _ ho.1 h4,new _ ha.1 h5⟩⟩,hs.more r.mem_g (fun j hj=>?_)⟩
 unfold NR.own at hj ⊢
 rcases List.mem_cons.1 hj with rfl | hj
 ·exact .inl (by simp)
 ·rcases List.mem_cons.1 hj with rfl | hj
  ·exact .inl (by simp)
  ·rcases List.mem_cons.1 hj with rfl | hj
   ·exact .inl (by simp)
   ·exact .inr (.inl hj)
theorem ZcZ (hd : ND X d r s c) : ∃ (p : Nat) (X2 : Zd),(∀ {β : Type} (K : Value→Value→M β),bind (R (n+9) Q4 [pt d,strv k]) (fun v12=>bind (Zo v12 0) fun v13=>bind (Zo v12 1) fun v14=>bind (alc 1 (.agg #[.string ⟨#[]⟩,.bool false])) fun v7=>bind (stA 2 v7 v13) fun _=>K v7 v14) X=K (pt p) (iv (Zu k s.A)) X2)∧
  X2[p]?=some (.cells [strv (if Zp k then Qb k s.A else ([],false)).1,.bool (if Zp k then Qb k s.A else ([],false)).2] 1 false false)∧HLe X X2∧X.length≤p:=by
 obtain ⟨X1,e1,k1⟩:=Zwp (n:=n+3) (k:=k) hd
 have e1 : R (n+9) Q4 [pt d,strv k] X=some (.tuple #[ZaM (if Zp k then Qb k s.A else ([],false)),iv (Zu k s.A)],X1):=e1
 generalize (if Zp k then Qb k s.A else ([],false))=a at e1
 refine ⟨X1.length,X1++[.cells [strv a.1,.bool a.2] 1 false false],fun {β} K=>?_,Zw,k1.trans (.app _ _),k1.len⟩
 rw [Za e1,Za Zr,Za Zs]
 exact WZ (n:=2) (zs:=[strv [],.bool false]) (r:=[strv a.1,.bool a.2]) (k:=fun v7=>K v7 (iv (Zu k s.A))) rfl rfl rfl rfl
theorem ZuG {p : Nat} {X2 X3 : Zd} {own : List Nat} {ob : Ze} (hle : HLe X X2) (hp : X.length≤p) (hs : ZC own (X2.set p ob) own X3) : ZC own X own X3:=
 ⟨by have:=hle.len;have:=hs.len;rw [List.length_set] at this;omega,fun j hj hn=>by
  rw [hs.keep j (by rw [List.length_set];have:=hle.len;omega) hn,List.getElem?_set_ne (by omega)]
  exact hle.step.keep j hj (by simp),fun j hj=>.inl hj⟩
theorem ND0.box (hd : ND0 X d r s c) {p : Nat} {X2 : Zd} {ob : Ze} (hle : HLe X X2) (hp : X.length≤p) : ND0 (X2.set p ob) d r s c:=by
 have hs : ZC [] X [] (X2.set p ob):=⟨by rw [List.length_set];exact hle.len,fun j hj hn=>by
  rw [List.getElem?_set_ne (by omega)]
  exact hle.step.keep j hj (by simp),fun j hj=>by cases hj⟩
 exact hd.step hs (by simp) (by simp) (by simp) (by simp)
theorem ZpW {Y : Zd} : R (n+9) WH [strv h] Y=some (iv (Qt h),Y):=Zmz (n:=n+5)
theorem Zr3 (hd : ND X d r s c) : ∃ X',R (n+10) Kc [pt d,strv k,strv h] X=some (iv (Q5 k h s.A),X')∧ND X' d r (KR k h s) c∧ZC r.own X r.own X':=by
 obtain ⟨p,X2,e1,c1,k1,hp⟩:=ZcZ (n:=n) (k:=k) hd
 have h2:=hd.hle k1
 have f1 : ∀ v X',ZaK (R (n+9)) (pt d) (strv k) (strv h) X=some (v,X')→R (n+10) Kc [pt d,strv k,strv h] X=some (v,X'):=fun v X' hr=>by rw [R,Zk9 rfl];exact hr
 have hstep : ZC r.own X r.own X2:=k1.stepq
 by_cases he : Q5 k h s.A=0
 ·obtain ⟨a1,a2,a3,a4⟩:=Zh3 he
  have hN : Zu k s.A=8:=by unfold Zu;rw [a1,a3];rfl
  rw [hN] at e1
  obtain ⟨X3,e3,m3,s3,_⟩:=h2.m.mup (k:=k) (v:=((h,false) : Acc))
  have e3 : mup .str (.map (some r.b)) (strv k) (ZaM (h,false)) X2=_:=e3
  obtain ⟨d3,s4⟩:=h2.toND0.setA m3 s3
  have hn : KR k h s={ s with A:=Qw k (h,false) s.A }:=by unfold KR;rw [if_pos he]
  rw [he,hn]
  refine ⟨X3,f1 _ _ ?_,⟨d3,by rw [← hn];exact hd.inv.create k h⟩,hstep.trans s4⟩
  have q1 : bop .int .eql (iv 8) (.int .i64 10) X2=some (.bool false,X2):=by rw [ZD];rfl
  have q2 : bop .int .neq (iv (Qt h)) (.int .i64 0) X2=some (.bool false,X2):=by rw [Zq];unfold Qt;rw [a2];rfl
  have q3 : bop .int .eql (iv 8) (.int .i64 0) X2=some (.bool false,X2):=by rw [ZD];rfl
  have q4 : bop .int .geq (iv s.A.length) (.int .i64 12) X2=some (.bool false,X2):=by rw [Qj,decide_eq_false (by omega)]
  have zb : bld (.agg #[.string ⟨#[]⟩,.bool false]) [(0,1,strv h)] X2=some (ZaM (h,false),X2):=by
   simp [bld,WP,Value.cells,Kg,strv,splice,ZaM]
  unfold ZaK
  refine (e1 _).trans ?_
  rw [Za q1,Zb,if_neg (by simp),Za ZpW,Za q2,Zb,if_neg (by simp),Za q3,Zb,if_neg (by simp),Za Zt,Za Zh,Za h2.l0,Za h2.m.len,Za q4,Zb,if_neg (by simp),Za Zt,Za Zh,Za h2.l0,Za zb,Za e3]
  rfl
 ·have hn : KR k h s=s:=by unfold KR;rw [if_neg he]
  rw [hn]
  refine ⟨X2,f1 _ _ ?_,h2,hstep⟩
  unfold ZaK
  refine (e1 _).trans ?_
  cases a1 : Zp k
  ·have hN : Zu k s.A=10:=by unfold Zu;rw [a1];rfl
   have hE : Q5 k h s.A=10:=by unfold Q5;rw [a1];rfl
   have q1 : bop .int .eql (iv 10) (.int .i64 10) X2=some (.bool true,X2):=by rw [ZD];rfl
   rw [hN,hE,Za q1,Zb,if_pos rfl]
   rfl
  ·have hN : Zu k s.A=0∨Zu k s.A=8:=by unfold Zu;rw [a1];cases (Zf k s.A).isSome <;> simp
   have q1 : bop .int .eql (iv (Zu k s.A)) (.int .i64 10) X2=some (.bool false,X2):=by rw [ZD];rcases hN with h1 | h1 <;> rw [h1] <;> rfl
   rw [Za q1,Zb,if_neg (by simp),Za ZpW]
   cases a2 : YR h
   ·have hE : Q5 k h s.A=4:=by unfold Q5;rw [a1,a2];rfl
    have q2 : bop .int .neq (iv (Qt h)) (.int .i64 0) X2=some (.bool true,X2):=by rw [Zq];unfold Qt;rw [a2];rfl
    rw [Za q2,Zb,if_pos rfl,hE]
    rfl
   ·have q2 : bop .int .neq (iv (Qt h)) (.int .i64 0) X2=some (.bool false,X2):=by rw [Zq];unfold Qt;rw [a2];rfl
    rw [Za q2,Zb,if_neg (by simp)]
    cases a3 : (Zf k s.A).isSome
    ·have hN : Zu k s.A=8:=by unfold Zu;rw [a1,a3];rfl
     have q3 : bop .int .eql (iv (Zu k s.A)) (.int .i64 0) X2=some (.bool false,X2):=by rw [ZD,hN];rfl
     have a4 : 12≤s.A.length:=by
      unfold Q5 at he
      rw [a1,a2,a3] at he
      simpa using he
     have hE : Q5 k h s.A=7:=by unfold Q5;rw [a1,a2,a3];simp [a4]
     have q4 : bop .int .geq (iv s.A.length) (.int .i64 12) X2=some (.bool true,X2):=by rw [Qj,decide_eq_true (by omega)]
     rw [Za q3,Zb,if_neg (by simp),Za Zt,Za Zh,Za h2.l0,Za h2.m.len,Za q4,Zb,if_pos rfl,hE]
     rfl
    ·have hN : Zu k s.A=0:=by unfold Zu;rw [a1,a3];rfl
     have hE : Q5 k h s.A=9:=by unfold Q5;rw [a1,a2,a3];rfl
     have q3 : bop .int .eql (iv (Zu k s.A)) (.int .i64 0) X2=some (.bool true,X2):=by rw [ZD,hN];rfl
     rw [Za q3,Zb,if_pos rfl,hE]
     rfl
theorem Zry (hd : ND X d r s c) : ∃ X',R (n+10) Y9 [pt d,strv k] X=some (iv (Zu k s.A),X')∧ND X' d r (Ke k s) c∧ZC r.own X r.own X':=by
 obtain ⟨p,X2,e1,c1,k1,hp⟩:=ZcZ (n:=n) (k:=k) hd
 have h2:=hd.hle k1
 have f1 : ∀ v X',ZaY (R (n+9)) (pt d) (strv k) X=some (v,X')→R (n+10) Y9 [pt d,strv k] X=some (v,X'):=fun v X' hr=>by rw [R,ZlU rfl];exact hr
 have hstep : ZC r.own X r.own X2:=k1.stepq
 by_cases he : Zu k s.A=0
 ·obtain ⟨X3,e3,m3,s3,_⟩:=h2.m.mde (k:=k)
  obtain ⟨d3,t3⟩:=h2.toND0.setA m3 s3
  obtain ⟨X4,e4,i4,s4⟩:=Zmq (n:=n+8) (k:=k) d3.ix
  have e4 : R (n+9) JE [pt r.x,strv k] X3=_:=e4
  obtain ⟨d4,t4⟩:=d3.setI i4 s4
  obtain ⟨X5,e5,g5,s5⟩:=ZyO (n:=n+1) (m:=k) d4.gr
  have e5 : R (n+9) Wx [pt r.g,strv k] X4=_:=e5
  obtain ⟨d5,t5⟩:=d4.setG g5 s5 hd.ks
  have q1 : bop .int .neq (iv (Zu k s.A)) (.int .i64 0) X2=some (.bool false,X2):=by rw [Zq,he];rfl
  have hn : Ke k s={ s with A:=Yg k s.A,OW:=Zbw k s.OW s.OF,OF:=Wf k s.OF,mem:=Ze8 k s.mem }:=by unfold Ke;rw [if_pos he]
  have hinv:=hd.inv.delete k
  rw [hn] at hinv ⊢
  refine ⟨X5,f1 _ _ ?_,⟨d5,hinv⟩,((hstep.trans t3).trans t4).trans t5⟩
  unfold ZaY
  refine (e1 _).trans ?_
  rw [Za q1,Zb,if_neg (by simp),Za Zt,Za Zh,Za h2.l0,Za e3,Za Zt,Za Zh,Za d3.l1,Za e4,Za Zt,Za Zh,Za d4.l2,Za e5,he]
  rfl
 ·have hn : Ke k s=s:=by unfold Ke;rw [if_neg he]
  have q1 : bop .int .neq (iv (Zu k s.A)) (.int .i64 0) X2=some (.bool true,X2):=by rw [Zq];simp [he]
  rw [hn]
  refine ⟨X2,f1 _ _ ?_,h2,hstep⟩
  unfold ZaY
  refine (e1 _).trans ?_
  rw [Za q1,Zb,if_pos rfl]
  rfl
theorem ZwF (hd : ND X d r s c) : ∃ X',R (n+10) Wg [pt d,strv k,strv h] X=some (iv (QL k h s.A),X')∧ND X' d r (YL k h s) c∧ZC r.own X r.own X':=by
 obtain ⟨p,X2,e1,c1,k1,hp⟩:=ZcZ (n:=n) (k:=k) hd
 have h2:=hd.hle k1
 have f1 : ∀ v X',W7 (R (n+9)) (pt d) (strv k) (strv h) X=some (v,X')→R (n+10) Wg [pt d,strv k,strv h] X=some (v,X'):=fun v X' hr=>by rw [R,Zki rfl];exact hr
 have hstep : ZC r.own X r.own X2:=k1.stepq
 by_cases he : QL k h s.A=0
 ·obtain ⟨a1,a2,a3,a4⟩:=Zji he
  have hN : Zu k s.A=0:=by unfold Zu;rw [a1,a3];rfl
  rw [hN] at e1
  rw [a1] at c1
  have c1 : X2[p]?=some (.cells [strv (Qb k s.A).1,.bool (Qb k s.A).2] 1 false false):=c1
  have l1 : ld1 (pa p 1) X2=some (.bool false,X2):=by rw [Zv c1 rfl,a4]
  have w1 : st1 (pa p 0) (strv h) X2=some (undef,X2.set p (.cells [strv h,.bool (Qb k s.A).2] 1 false false)):=K7 (o:=0) c1 (by simp) rfl
  have d2 : ldA 2 (pt p) (X2.set p (.cells [strv h,.bool (Qb k s.A).2] 1 false false))=some (ZaM (h,(Qb k s.A).2),_):=ZR (n:=2) (ZM c1) rfl
  have h3:=hd.toND0.box (ob:=.cells [strv h,.bool (Qb k s.A).2] 1 false false) k1 hp
  obtain ⟨X3,e3,m3,s3,_⟩:=h3.m.mup (k:=k) (v:=((h,(Qb k s.A).2) : Acc))
  obtain ⟨d3,s4⟩:=h3.setA m3 s3
  have hn : YL k h s={ s with A:=Qw k (h,(Qb k s.A).2) s.A }:=by unfold YL;rw [if_pos he]
  have hinv:=hd.inv.setHash k h
  rw [hn] at hinv ⊢
  rw [he]
  refine ⟨X3,f1 _ _ ?_,⟨d3,hinv⟩,ZuG k1 hp s4⟩
  have q1 : bop .int .eql (iv 0) (.int .i64 10) X2=some (.bool false,X2):=by rw [ZD];rfl
  have q2 : bop .int .neq (iv (Qt h)) (.int .i64 0) X2=some (.bool false,X2):=by rw [Zq];unfold Qt;rw [a2];rfl
  have q3 : bop .int .neq (iv 0) (.int .i64 0) X2=some (.bool false,X2):=by rw [Zq];rfl
  unfold W7
  refine (e1 _).trans ?_
  rw [Za q1,Zb,if_neg (by simp),Za ZpW,Za q2,Zb,if_neg (by simp),Za q3,Zb,if_neg (by simp),Za Zh,Za l1,Zb,if_neg (by simp),Za Zh,Za w1,Za Zt,Za Zh,Za h3.l0,Za d2,Za e3]
  rfl
 ·have hn : YL k h s=s:=by unfold YL;rw [if_neg he]
  rw [hn]
  refine ⟨X2,f1 _ _ ?_,h2,hstep⟩
  unfold W7
  refine (e1 _).trans ?_
  cases a1 : Zp k
  ·have hN : Zu k s.A=10:=by unfold Zu;rw [a1];rfl
   have hE : QL k h s.A=10:=by unfold QL;rw [a1];rfl
   have q1 : bop .int .eql (iv 10) (.int .i64 10) X2=some (.bool true,X2):=by rw [ZD];rfl
   rw [hN,hE,Za q1,Zb,if_pos rfl]
   rfl
  ·rw [a1] at c1
   have c1 : X2[p]?=some (.cells [strv (Qb k s.A).1,.bool (Qb k s.A).2] 1 false false):=c1
   have hN : Zu k s.A=0∨Zu k s.A=8:=by unfold Zu;rw [a1];cases (Zf k s.A).isSome <;> simp
   have q1 : bop .int .eql (iv (Zu k s.A)) (.int .i64 10) X2=some (.bool false,X2):=by rw [ZD];rcases hN with h1 | h1 <;> rw [h1] <;> rfl
   rw [Za q1,Zb,if_neg (by simp),Za ZpW]
   cases a2 : YR h
   ·have hE : QL k h s.A=4:=by unfold QL;rw [a1,a2];rfl
    have q2 : bop .int .neq (iv (Qt h)) (.int .i64 0) X2=some (.bool true,X2):=by rw [Zq];unfold Qt;rw [a2];rfl
    rw [Za q2,Zb,if_pos rfl,hE]
    rfl
   ·have q2 : bop .int .neq (iv (Qt h)) (.int .i64 0) X2=some (.bool false,X2):=by rw [Zq];unfold Qt;rw [a2];rfl
    rw [Za q2,Zb,if_neg (by simp)]
    cases a3 : (Zf k s.A).isSome
    ·have hN : Zu k s.A=8:=by unfold Zu;rw [a1,a3];rfl
     have hE : QL k h s.A=8:=by unfold QL;rw [a1,a2,a3];rfl
     have q3 : bop .int .neq (iv (Zu k s.A)) (.int .i64 0) X2=some (.bool true,X2):=by rw [Zq,hN];rfl
     rw [Za q3,Zb,if_pos rfl,hE,hN]
     rfl
    ·have hN : Zu k s.A=0:=by unfold Zu;rw [a1,a3];rfl
     have q3 : bop .int .neq (iv (Zu k s.A)) (.int .i64 0) X2=some (.bool false,X2):=by rw [Zq,hN];rfl
     have a4 : (Qb k s.A).2=true:=by
      unfold QL at he
      rw [a1,a2,a3] at he
      simpa using he
     have hE : QL k h s.A=12:=by unfold QL;rw [a1,a2,a3,a4];rfl
     have l1 : ld1 (pa p 1) X2=some (.bool true,X2):=by rw [Zv c1 rfl,a4]
     rw [Za q3,Zb,if_neg (by simp),Za Zh,Za l1,Zb,if_pos rfl,hE]
     rfl
theorem ZoT (hd : ND X d r s c) : ∃ X',R (n+10) YH [pt d,strv k,strv m] X=some (iv (Q3 k m s),X')∧ND X' d r (Jc k m s) c∧ZC r.own X r.own X':=by
 obtain ⟨p,X2,e1,c1,k1,hp⟩:=ZcZ (n:=n) (k:=k) hd
 have f1 : ∀ v X',Km (R (n+9)) (pt d) (strv k) (strv m) X=some (v,X')→R (n+10) YH [pt d,strv k,strv m] X=some (v,X'):=fun v X' hr=>by rw [R,Zko rfl];exact hr
 obtain ⟨X3,e3,k3⟩:=Ztl (n:=n+1) (s:=m) (X:=X2)
 have e3 : R (n+9) Zbp [strv m] X2=_:=e3
 have k13:=k1.trans k3
 have h3:=hd.hle k13
 have hstep : ZC r.own X r.own X3:=k13.stepq
 have hgate : ∀ K : Value→M Value,bind (bop .str .neq (strv m) (Value.string ⟨#[]⟩)) (fun v28=>bind (ZG v28 true 2 (bind (bop .int .neq (iv (if QH m then 0 else 11)) (Value.int .i64 0)) fun v31=>ret [iv (if QH m then 0 else 11),v31])) (c2 fun _ q=>bind (pick v28 q (Value.bool false)) K)) X3=K (.bool (decide (m≠[]∧QH m=false))) X3:=fun K=>by
  have q0 : bop .str .neq (strv m) (.string ⟨#[]⟩) X3=some (.bool (decide (m≠[])),X3):=by
   have:=Wt (a:=m) (b:=[]) (H:=X3)
   rw [show (strv [] : Value)=.string ⟨#[]⟩ from rfl] at this
   rw [this]
   by_cases h : m=[] <;> simp [h]
  have q1 : bop .int .neq (iv (if QH m then 0 else 11)) (.int .i64 0) X3=some (.bool (!QH m),X3):=by
   rw [Zq];cases QH m <;> rfl
  rw [Za q0]
  by_cases h : m=[]
  ·rw [decide_eq_false (fun e=>e h),Za (g_r.trans (if_neg (by simp)))]
   simp only [List.replicate]
   rw [ZX,Za Zl,decide_eq_false (fun e=>e.1 h)]
   rfl
  ·rw [decide_eq_true h,ZU,Zk,Za q1,ZV,ZX,Za Zl]
   cases hm : QH m <;> simp [h]
 cases a1 : Zp k
 ·have hN : Zu k s.A=10:=by unfold Zu;rw [a1];rfl
  have hE : Q3 k m s=10:=by unfold Q3;rw [a1];rfl
  have hn : Jc k m s=s:=by unfold Jc;rw [if_neg (by rw [hE];decide)]
  have q1 : bop .int .eql (iv 10) (.int .i64 10) X3=some (.bool true,X3):=by rw [ZD];rfl
  rw [hn,hE]
  refine ⟨X3,f1 _ _ ?_,h3,hstep⟩
  unfold Km
  refine (e1 _).trans ?_
  rw [Za e3,Za Zr,Za Zs,hN,Za q1,Zb,if_pos rfl]
  rfl
 ·have hN : Zu k s.A=0∨Zu k s.A=8:=by unfold Zu;rw [a1];cases (Zf k s.A).isSome <;> simp
  have q1 : bop .int .eql (iv (Zu k s.A)) (.int .i64 10) X3=some (.bool false,X3):=by rw [ZD];rcases hN with h1 | h1 <;> rw [h1] <;> rfl
  by_cases hb : m≠[]∧QH m=false
  ·have hE : Q3 k m s=11:=by unfold Q3;rw [a1];simp [hb]
   have hn : Jc k m s=s:=by unfold Jc;rw [if_neg (by rw [hE];decide)]
   rw [hn,hE]
   refine ⟨X3,f1 _ _ ?_,h3,hstep⟩
   unfold Km
   refine (e1 _).trans ?_
   rw [Za e3,Za Zr,Za Zs,Za q1,Zb,if_neg (by simp)]
   refine (hgate _).trans ?_
   rw [decide_eq_true hb,Zb,if_pos rfl,hb.2]
   rfl
  ·cases a3 : (Zf k s.A).isSome
   ·have hN : Zu k s.A=8:=by unfold Zu;rw [a1,a3];rfl
    have hE : Q3 k m s=8:=by unfold Q3;rw [a1,if_pos rfl,if_neg hb,a3];rfl
    have hn : Jc k m s=s:=by unfold Jc;rw [if_neg (by rw [hE];decide)]
    have q3 : bop .int .neq (iv (Zu k s.A)) (.int .i64 0) X3=some (.bool true,X3):=by rw [Zq,hN];rfl
    rw [hn,hE]
    refine ⟨X3,f1 _ _ ?_,h3,hstep⟩
    unfold Km
    refine (e1 _).trans ?_
    rw [Za e3,Za Zr,Za Zs,Za q1,Zb,if_neg (by simp)]
    refine (hgate _).trans ?_
    rw [decide_eq_false hb,Zb,if_neg (by simp),Za q3,Zb,if_pos rfl,hN]
    rfl
   ·have hN : Zu k s.A=0:=by unfold Zu;rw [a1,a3];rfl
    have hE : Q3 k m s=YW k m s.OW:=by unfold Q3;rw [a1,if_pos rfl,if_neg hb,a3];rfl
    have q3 : bop .int .neq (iv (Zu k s.A)) (.int .i64 0) X3=some (.bool false,X3):=by rw [Zq,hN];rfl
    obtain ⟨X4,e4,i4,s4⟩:=Zx7 (n:=n) (k:=k) (m:=m) h3.ix
    obtain ⟨d4,t4⟩:=h3.toND0.setI i4 s4
    have hn : Jc k m s={ s with OW:=Zor k m s.OW s.OF,OF:=Zdb k m s.OW s.OF }:=by
     unfold Jc
     by_cases h0 : Q3 k m s=0
     ·rw [if_pos h0]
     ·rw [if_neg h0]
      rw [hE] at h0
      unfold Zor Zdb
      rw [if_neg h0,if_neg h0]
    have hinv:=hd.inv.setMail k m
    rw [hn] at hinv ⊢
    rw [hE]
    refine ⟨X4,f1 _ _ ?_,⟨d4,hinv⟩,hstep.trans t4⟩
    unfold Km
    refine (e1 _).trans ?_
    rw [Za e3,Za Zr,Za Zs,Za q1,Zb,if_neg (by simp)]
    refine (hgate _).trans ?_
    rw [decide_eq_false hb,Zb,if_neg (by simp),Za q3,Zb,if_neg (by simp),Za Zt,Za Zh,Za h3.l1,Za e4]
    rfl
theorem Zxx {b : Bool} (hd : ND X d r s c) : ∃ X',R (n+10) Wk [pt d,strv k,.bool b] X=some (iv (Yb k b s.A),X')∧ND X' d r (Yo k b s) c∧ZC r.own X r.own X':=by
 obtain ⟨p,X2,e1,c1,k1,hp⟩:=ZcZ (n:=n) (k:=k) hd
 have h2:=hd.hle k1
 have f1 : ∀ v X',Wn (R (n+9)) (pt d) (strv k) (.bool b) X=some (v,X')→R (n+10) Wk [pt d,strv k,.bool b] X=some (v,X'):=fun v X' hr=>by rw [R,Zky rfl];exact hr
 have hstep : ZC r.own X r.own X2:=k1.stepq
 by_cases hN : Zu k s.A=0
 ·obtain ⟨a1,_⟩:=ZiV hN
  rw [a1] at c1
  have c1 : X2[p]?=some (.cells [strv (Qb k s.A).1,.bool (Qb k s.A).2] 1 false false):=c1
  have l1 : ld1 (pa p 1) X2=some (.bool (Qb k s.A).2,X2):=Zv c1 rfl
  have q1 : bop .int .neq (iv (Zu k s.A)) (.int .i64 0) X2=some (.bool false,X2):=by rw [Zq,hN];rfl
  by_cases hb : (Qb k s.A).2=b
  ·have hE : Yb k b s.A=12:=by unfold Yb;rw [if_pos hN,if_pos hb]
   have hn : Yo k b s=s:=by unfold Yo;rw [if_neg (by rw [hE];decide)]
   have q2 : bop .bool .eql (.bool (Qb k s.A).2) (.bool b) X2=some (.bool true,X2):=by rw [Jt,hb];simp
   rw [hn,hE]
   refine ⟨X2,f1 _ _ ?_,h2,hstep⟩
   unfold Wn
   refine (e1 _).trans ?_
   rw [Za q1,Zb,if_neg (by simp),Za Zh,Za l1,Za q2,Zb,if_pos rfl]
   rfl
  ·have hE : Yb k b s.A=0:=by unfold Yb;rw [if_pos hN,if_neg hb]
   have q2 : bop .bool .eql (.bool (Qb k s.A).2) (.bool b) X2=some (.bool false,X2):=by rw [Jt];simp [hb]
   have w1 : st1 (pa p 1) (.bool b) X2=some (undef,X2.set p (.cells [strv (Qb k s.A).1,.bool b] 1 false false)):=K7 (o:=1) c1 (by simp) rfl
   have d2 : ldA 2 (pt p) (X2.set p (.cells [strv (Qb k s.A).1,.bool b] 1 false false))=some (ZaM ((Qb k s.A).1,b),_):=ZR (n:=2) (ZM c1) rfl
   have h3:=hd.toND0.box (ob:=.cells [strv (Qb k s.A).1,.bool b] 1 false false) k1 hp
   obtain ⟨X3,e3,m3,s3,_⟩:=h3.m.mup (k:=k) (v:=(((Qb k s.A).1,b) : Acc))
   obtain ⟨d3,s4⟩:=h3.setA m3 s3
   have hn : Yo k b s={ s with A:=Qw k ((Qb k s.A).1,b) s.A }:=by unfold Yo;rw [if_pos hE]
   have hinv:=hd.inv.disable k b
   rw [hn] at hinv ⊢
   rw [hE]
   refine ⟨X3,f1 _ _ ?_,⟨d3,hinv⟩,ZuG k1 hp s4⟩
   unfold Wn
   refine (e1 _).trans ?_
   rw [Za q1,Zb,if_neg (by simp),Za Zh,Za l1,Za q2,Zb,if_neg (by simp),Za Zh,Za w1,Za Zt,Za Zh,Za h3.l0,Za d2,Za e3]
   rfl
 ·have hE : Yb k b s.A=Zu k s.A:=by unfold Yb;rw [if_neg hN]
  have hn : Yo k b s=s:=by unfold Yo;rw [if_neg (by rw [hE];exact hN)]
  have q1 : bop .int .neq (iv (Zu k s.A)) (.int .i64 0) X2=some (.bool true,X2):=by rw [Zq];simp [hN]
  rw [hn,hE]
  refine ⟨X2,f1 _ _ ?_,h2,hstep⟩
  unfold Wn
  refine (e1 _).trans ?_
  rw [Za q1,Zb,if_pos rfl]
  rfl
theorem ZyC (hd : ND X d r s c) : ∃ X',R (n+10) WB [pt d,strv o,strv t] X=some (iv (J1 o t s.A),X')∧ND X' d r (Wh o t s) c∧ZC r.own X r.own X':=by
 obtain ⟨p,X2,e1,c1,k1,hp⟩:=ZcZ (n:=n) (k:=o) hd
 obtain ⟨p2,X3,e2,b2,k2,hp2⟩:=ZcZ (n:=n) (k:=t) (hd.hle k1)
 have k12:=k1.trans k2
 have h3:=hd.hle k12
 have c13:=k2 _ _ c1
 have hstep : ZC r.own X r.own X3:=k12.stepq
 have f1 : ∀ v X',ZaI (R (n+9)) (pt d) (strv o) (strv t) X=some (v,X')→R (n+10) WB [pt d,strv o,strv t] X=some (v,X'):=fun v X' hr=>by rw [R,Zli rfl];exact hr
 have e10 : ∀ (k : Tx),(Zu k s.A==10)=!Zp k:=fun k=>by
  unfold Zu
  cases Zp k
  ·rfl
  ·cases (Zf k s.A).isSome <;> rfl
 have q1 : bop .int .eql (iv (Zu o s.A)) (.int .i64 10) X3=some (.bool (!Zp o),X3):=by rw [ZD,e10]
 have q2 : bop .int .eql (iv (Zu t s.A)) (.int .i64 10) X3=some (.bool (!Zp t),X3):=by rw [ZD,e10]
 have hgate : ∀ K : Value→M Value,bind (bop .int .eql (iv (Zu o s.A)) (.int .i64 10)) (fun v25=>bind (ZG v25 false 2 (bind (bop .int .eql (iv (Zu t s.A)) (Value.int .i64 10)) fun v28=>ret [iv (Zu t s.A),v28])) (c2 fun _ q=>bind (pick v25 (Value.bool true) q) K)) X3=K (.bool (!(Zp o && Zp t))) X3:=fun K=>by
  rw [Za q1]
  cases Zp o
  ·simp only [Bool.not_false]
   rw [Za (g_r.trans (if_neg (by simp)))]
   simp only [List.replicate]
   rw [ZX,Za Zl]
   rfl
  ·simp only [Bool.not_true]
   rw [ZU,Zk,Za q2,ZV,ZX,Za Zl]
   cases Zp t <;> rfl
 by_cases he : J1 o t s.A=0
 ·obtain ⟨a1,a2,a3,a4,a5⟩:=ZhR he
  have hN1 : Zu o s.A=0:=by unfold Zu;rw [a1,a3];rfl
  have hN2 : Zu t s.A=8:=by unfold Zu;rw [a2,a4];rfl
  rw [a1] at c13
  have c13 : X3[p]?=some (.cells [strv (Qb o s.A).1,.bool (Qb o s.A).2] 1 false false):=c13
  have q3 : bop .int .neq (iv (Zu o s.A)) (.int .i64 0) X3=some (.bool false,X3):=by rw [Zq,hN1];rfl
  have q4 : bop .int .eql (iv (Zu t s.A)) (.int .i64 0) X3=some (.bool false,X3):=by rw [ZD,hN2];rfl
  obtain ⟨X4,e4,m4,s4,_⟩:=h3.m.mde (k:=o)
  obtain ⟨d4,t4⟩:=h3.toND0.setA m4 s4
  have d4' : ldA 2 (pt p) X4=some (ZaM (Qb o s.A),X4):=by
   have c14 : X4[p]?=some (.cells [strv (Qb o s.A).1,.bool (Qb o s.A).2] 1 false false):=(h3.toND0.cle t4) _ _ _ _ _ c13
   exact ZR (n:=2) c14 rfl
  obtain ⟨X5,e5,m5,s5,_⟩:=d4.m.mup (k:=t) (v:=Qb o s.A)
  obtain ⟨d5,t5⟩:=d4.setA m5 s5
  obtain ⟨X6,e6,i6,s6⟩:=ZB5 (n:=n+3) (old:=o) (next:=t) d5.ix
  have e6 : R (n+9) Wl [pt r.x,strv o,strv t] X5=_:=e6
  obtain ⟨d6,t6⟩:=d5.setI i6 s6
  obtain ⟨X7,e7,g7,s7⟩:=ZCs (n:=n+1) (s:=o) (t:=t) d6.gr
  have e7 : R (n+9) Ks [pt r.g,strv o,strv t] X6=_:=e7
  have hks : ZO r.G=s.K:=hd.ks
  have hren : ZiN o t (ZO r.G) s.mem=0:=by
   unfold ZiN
   rw [a2,if_pos rfl,if_neg a5]
   have : ofL t (ZO r.G) s.mem=[]:=by
    unfold ofL
    rw [List.filter_eq_nil_iff]
    intro x hx
    rw [hd.inv.memN a4 x];simp
   rw [if_pos this]
  have g7 : Grp X7 r.g r.o2 r.G (if ZiN o t (ZO r.G) s.mem=0 then Zbs o t s.mem else s.mem) c:=g7
  rw [if_pos hren] at g7
  obtain ⟨d7,t7⟩:=d6.setG g7 s7 hks
  have hn : Wh o t s={ s with A:=Qw t (Qb o s.A) (Yg o s.A),OW:=ZwO o t s.OW s.OF,OF:=Zic o t s.OF,mem:=Zbs o t s.mem }:=by unfold Wh;rw [if_pos he]
  have hinv:=hd.inv.rename o t
  rw [hn] at hinv ⊢
  rw [he]
  refine ⟨X7,f1 _ _ ?_,⟨d7,hinv⟩,(((hstep.trans t4).trans t5).trans t6).trans t7⟩
  unfold ZaI
  refine (e1 _).trans ((e2 _).trans ((hgate _).trans ?_))
  rw [a1,a2]
  simp only [Bool.and_self,Bool.not_true]
  rw [Zb,if_neg (by simp),Za q3,Zb,if_neg (by simp),Za q4,Zb,if_neg (by simp),Za Zt,Za Zh,Za h3.l0,Za e4,Za Zt,Za Zh,Za d4.l0,Za d4',Za e5,Za Zt,Za Zh,Za d5.l1,Za e6,Za Zt,Za Zh,Za d6.l2,Za e7]
  rfl
 ·have hn : Wh o t s=s:=by unfold Wh;rw [if_neg he]
  rw [hn]
  refine ⟨X3,f1 _ _ ?_,h3,hstep⟩
  unfold ZaI
  refine (e1 _).trans ((e2 _).trans ((hgate _).trans ?_))
  cases ab : Zp o && Zp t
  ·have hE : J1 o t s.A=10:=by unfold J1;rw [ab];rfl
   rw [Zb,if_pos (by rfl),hE]
   rfl
  ·have ab':=ab
   simp only [Bool.and_eq_true] at ab'
   rw [Zb,if_neg (by simp)]
   cases a3 : (Zf o s.A).isSome
   ·have hN1 : Zu o s.A=8:=by unfold Zu;rw [ab'.1,a3];rfl
    have hE : J1 o t s.A=8:=by unfold J1;rw [ab,a3];rfl
    have q3 : bop .int .neq (iv (Zu o s.A)) (.int .i64 0) X3=some (.bool true,X3):=by rw [Zq,hN1];rfl
    rw [Za q3,Zb,if_pos rfl,hE,hN1]
    rfl
   ·have hN1 : Zu o s.A=0:=by unfold Zu;rw [ab'.1,a3];rfl
    have q3 : bop .int .neq (iv (Zu o s.A)) (.int .i64 0) X3=some (.bool false,X3):=by rw [Zq,hN1];rfl
    have a4 : (Zf t s.A).isSome=true:=by
     unfold J1 at he
     rw [ab,a3] at he
     cases h4 : (Zf t s.A).isSome
     ·rw [h4] at he;simp at he
     ·rfl
    have hN2 : Zu t s.A=0:=by unfold Zu;rw [ab'.2,a4];rfl
    have hE : J1 o t s.A=9:=by unfold J1;rw [ab,a3,a4];rfl
    have q4 : bop .int .eql (iv (Zu t s.A)) (.int .i64 0) X3=some (.bool true,X3):=by rw [ZD,hN2];rfl
    rw [Za q3,Zb,if_neg (by simp),Za q4,Zb,if_pos rfl,hE]
    rfl
theorem ZAX (hd : ND X d r s c) : ∃ X' r',R (n+10) Wu [pt d,strv g] X=some (iv (QT g s.K),X')∧ND X' d r' (Zi2 g s) c∧ZC r.own X r'.own X':=by
 obtain ⟨X1,G',e1,g1,k1,s1⟩:=Zww (n:=n+1) (k:=g) hd.gr
 have e1 : R (n+9) Yk [pt r.g,strv g] X=_:=e1
 rw [hd.ks] at e1 k1
 obtain ⟨d1,t1⟩:=hd.toND0.setG g1 s1 k1
 refine ⟨X1,_,?_,⟨d1,hd.inv.make g⟩,t1⟩
 rw [R,ZiO rfl]
 unfold ZcG
 rw [Za Zt,Za Zh,Za hd.l2,Za e1]
 rfl
theorem Zwd (hd : ND X d r s c) : ∃ X' r',R (n+10) YJ [pt d,strv g] X=some (iv (Q1 g s.K),X')∧ND X' d r' (ZfM g s) c∧ZC r.own X r'.own X':=by
 obtain ⟨X1,G',e1,g1,k1,s1⟩:=ZBJ (n:=n+1) (k:=g) hd.gr
 have e1 : R (n+9) Wi [pt r.g,strv g] X=_:=e1
 rw [hd.ks] at e1 g1 k1
 obtain ⟨d1,t1⟩:=hd.toND0.setG g1 s1 k1
 refine ⟨X1,_,?_,⟨d1,hd.inv.drop g⟩,t1⟩
 rw [R,Zir rfl]
 unfold ZcH
 rw [Za Zt,Za Zh,Za hd.l2,Za e1]
 rfl
theorem ZrJ (hd : ND X d r s c) : ∃ X',R (n+10) Wz [pt d,strv g,strv k] X=some (iv (Ye g k s.A),X')∧HLe X X':=by
 have e0 : R (n+9) QZ [strv g] X=some (iv (ZJ g),X):=ZcB (n:=n+4)
 obtain ⟨p,X2,e1,c1,k1,hp⟩:=ZcZ (n:=n) (k:=k) hd
 have f1 : ∀ v X',ZaX (R (n+9)) (pt d) (strv g) (strv k) X=some (v,X')→R (n+10) Wz [pt d,strv g,strv k] X=some (v,X'):=fun v X' hr=>by rw [R,Zl9 rfl];exact hr
 cases hg : Zp g
 ·have q1 : bop .int .neq (iv (ZJ g)) (.int .i64 0) X=some (.bool true,X):=by rw [Zq];unfold ZJ;rw [hg];rfl
  have hE : Ye g k s.A=10:=by unfold Ye;rw [hg];rfl
  refine ⟨X,f1 _ _ ?_,.refl _⟩
  unfold ZaX
  rw [Za e0,Za q1,Zb,if_pos rfl,hE,show ZJ g=10 by unfold ZJ;rw [hg];rfl]
  rfl
 ·have q1 : bop .int .neq (iv (ZJ g)) (.int .i64 0) X=some (.bool false,X):=by rw [Zq];unfold ZJ;rw [hg];rfl
  have hE : Ye g k s.A=Zu k s.A:=by unfold Ye;rw [hg];rfl
  refine ⟨X2,f1 _ _ ?_,k1⟩
  unfold ZaX
  rw [Za e0,Za q1,Zb,if_neg (by simp),hE]
  exact e1 _
theorem ZAK (hd : ND X d r s c) : ∃ X',R (n+11) Zay [pt d,strv g,strv k] X=some (iv (Wb g k s),X')∧ND X' d r (ZaZ g k s) (c+1)∧ZC r.own X r.own X':=by
 obtain ⟨X1,e1,k1⟩:=ZrJ (n:=n) (g:=g) (k:=k) hd
 have h1:=hd.hle k1
 have f1 : ∀ v X',ZbN (R (n+10)) (pt d) (strv g) (strv k) X=some (v,X')→R (n+11) Zay [pt d,strv g,strv k] X=some (v,X'):=fun v X' hr=>by rw [R,ZnZ rfl];exact hr
 have hinv:=hd.inv.join g k
 by_cases hm : Ye g k s.A=0
 ·have q1 : bop .int .neq (iv (Ye g k s.A)) (.int .i64 0) X1=some (.bool false,X1):=by rw [Zq,hm];rfl
  have hE : Wb g k s=ZaG g k s.K s.mem:=by unfold Wb;rw [if_pos hm]
  obtain ⟨X2,e2,g2,s2⟩:=Zwn (n:=n+2) (k:=g) (m:=k) h1.gr
  have e2 : R (n+10) YI [pt r.g,strv g,strv k] X1=_:=e2
  rw [h1.ks] at e2 g2
  obtain ⟨d2,t2⟩:=h1.toND0.setG g2 s2 h1.ks
  have hn : ZaZ g k s={ s with K:=s.K,mem:=if ZaG g k s.K s.mem=0 then Zcn g k s.mem else s.mem }:=by
   unfold ZaZ
   rw [hE]
   by_cases h0 : ZaG g k s.K s.mem=0
   ·rw [if_pos h0,if_pos h0]
   ·rw [if_neg h0,if_neg h0]
  rw [hn] at hinv ⊢
  rw [hE]
  refine ⟨X2,f1 _ _ ?_,⟨d2,hinv⟩,k1.stepq.trans t2⟩
  unfold ZbN
  rw [Za e1,Za q1,Zb,if_neg (by simp),Za Zt,Za Zh,Za h1.l2,Za e2]
  rfl
 ·have q1 : bop .int .neq (iv (Ye g k s.A)) (.int .i64 0) X1=some (.bool true,X1):=by rw [Zq];simp [hm]
  have hE : Wb g k s=Ye g k s.A:=by unfold Wb;rw [if_neg hm]
  have hn : ZaZ g k s=s:=by unfold ZaZ;rw [if_neg (by rw [hE];exact hm)]
  rw [hn,hE]
  refine ⟨X1,f1 _ _ ?_,⟨h1.toND0.more (Nat.le_succ c),hd.inv⟩,k1.stepq⟩
  unfold ZbN
  rw [Za e1,Za q1,Zb,if_pos rfl]
  rfl
theorem ZzU (hd : ND X d r s c) : ∃ X',R (n+11) WY [pt d,strv g,strv k] X=some (iv (Kq g k s),X')∧ND X' d r (Wy g k s) (c+1)∧ZC r.own X r.own X':=by
 obtain ⟨X1,e1,k1⟩:=ZrJ (n:=n) (g:=g) (k:=k) hd
 have h1:=hd.hle k1
 have f1 : ∀ v X',Zbg (R (n+10)) (pt d) (strv g) (strv k) X=some (v,X')→R (n+11) WY [pt d,strv g,strv k] X=some (v,X'):=fun v X' hr=>by rw [R,ZmQ rfl];exact hr
 have hinv:=hd.inv.leave g k
 by_cases hm : Ye g k s.A=0
 ·have q1 : bop .int .neq (iv (Ye g k s.A)) (.int .i64 0) X1=some (.bool false,X1):=by rw [Zq,hm];rfl
  have hE : Kq g k s=Zcj g k s.K s.mem:=by unfold Kq;rw [if_pos hm]
  obtain ⟨X2,e2,g2,s2⟩:=Zzs (n:=n+2) (k:=g) (m:=k) h1.gr
  have e2 : R (n+10) KX [pt r.g,strv g,strv k] X1=_:=e2
  rw [h1.ks] at e2 g2
  obtain ⟨d2,t2⟩:=h1.toND0.setG g2 s2 h1.ks
  have hn : Wy g k s={ s with K:=s.K,mem:=if Zcj g k s.K s.mem=0 then ZdU g k s.mem else s.mem }:=by
   unfold Wy
   rw [hE]
   by_cases h0 : Zcj g k s.K s.mem=0
   ·rw [if_pos h0,if_pos h0]
   ·rw [if_neg h0,if_neg h0]
  rw [hn] at hinv ⊢
  rw [hE]
  refine ⟨X2,f1 _ _ ?_,⟨d2,hinv⟩,k1.stepq.trans t2⟩
  unfold Zbg
  rw [Za e1,Za q1,Zb,if_neg (by simp),Za Zt,Za Zh,Za h1.l2,Za e2]
  rfl
 ·have q1 : bop .int .neq (iv (Ye g k s.A)) (.int .i64 0) X1=some (.bool true,X1):=by rw [Zq];simp [hm]
  have hE : Kq g k s=Ye g k s.A:=by unfold Kq;rw [if_neg hm]
  have hn : Wy g k s=s:=by unfold Wy;rw [if_neg (by rw [hE];exact hm)]
  rw [hn,hE]
  refine ⟨X1,f1 _ _ ?_,⟨h1.toND0.more (Nat.le_succ c),hd.inv⟩,k1.stepq⟩
  unfold Zbg
  rw [Za e1,Za q1,Zb,if_pos rfl]
  rfl
theorem ZAz (hd : ND X d r s c) : ∃ X' d' r',R (n+4) Zb2 [pt d] X=some (pt d',X')∧ND X' d' r' s c∧HLe X X'∧X.length≤d'∧∀ j∈r'.own,X.length≤j:=by
 obtain ⟨X1,e1,m1,k1⟩:=hd.m.clone
 have e1' : R (n+3) Js [.map (some r.b)] X=some (.map (some X.length),X1):=by
  show run Tryz.prog np lvs (n+3) _ _ X=_
  rw [Zcl (show np Js=some Zb1 from rfl)]
  exact e1
 have h1:=hd.hle k1
 obtain ⟨X2,x',o',a',e2,i2,k2,p1,p2,p3⟩:=ZA7 (n:=n+1) h1.ix
 have e2 : R (n+3) Zbv [pt r.x] X1=_:=e2
 have h2:=h1.hle k2
 obtain ⟨X3,g',o2',G',e3,g3,hk3,k3,q1,q2⟩:=ZBE (n:=n+2) h2.gr
 have e3 : R (n+3) W6 [pt r.g] X2=_:=e3
 have e4 : bld (.agg #[.map none,.pointer none,.pointer none]) [(0,1,.map (some X.length)),(1,1,pt x'),(2,1,pt g')] X3=some (.agg #[.map (some X.length),pt x',pt g'],X3):=by
  simp [bld,WP,Value.cells,Kg,splice]
 have e5 : alc 1 (.agg #[.map (some X.length),pt x',pt g']) X3=some (pt X3.length,X3++[.cells [.map (some X.length),pt x',pt g'] 1 false false]):=Wd (vs:=[.map (some X.length),pt x',pt g']) rfl
 have k4 : HLe X3 (X3++[Ze.cells [.map (some X.length),pt x',pt g'] 1 false false]):=.app _ _
 have hi:=i2.lt
 have hx1 : X.length < X1.length:=m1.lt
 have l1:=k1.len
 have l2:=k2.len
 have l3:=k3.len
 refine ⟨X3++[.cells [.map (some X.length),pt x',pt g'] 1 false false],X3.length,⟨X.length,x',o',a',g',o2',G'⟩,?_,⟨⟨Zw,((m1.hle k2).hle k3).hle k4,(i2.hle k3).hle k4,g3.hle k4,hk3.trans hd.ks,⟨by simp only;omega,by simp only;omega,fun hm=>?_,fun hm=>?_,fun hm=>?_⟩⟩,hd.inv⟩,((k1.trans k2).trans k3).trans k4,by omega,fun j hj=>?_⟩
 ·rw [R,ZoK rfl]
  unfold ZfF
  rw [Za Zt,Za Zh,Za hd.l0,Za Zt,Za Zh,Za hd.l1,Za Zt,Za Zh,Za hd.l2,Za e1',Za h1.l2,QY,Za h1.l1,QY,Za e2,Za h2.l2,QY,Za e3,Za e4,Za e5]
  rfl
 ·have:=q2 _ hm;simp only at this;omega
 ·have:=q2 _ hm;simp only at this;omega
 ·have:=q2 _ hm;simp only at this;omega
 ·unfold NR.own at hj
  simp only [List.mem_cons] at hj
  rcases hj with h | h | h | h
  ·omega
  ·omega
  ·omega
  ·have:=q2 _ (List.mem_cons.2 h);omega
end
end Go.Proofs.YtedkoimihknggaaGreatDoor.A

namespace Go.Proofs.YtedkoimihknggaaGreatDoor.A
set_option linter.unusedVariables false
set_option linter.unusedSimpArgs false
open Go.Proofs Go.Proofs.YtedkoimihknggaaGreatDoor
open Go.Sort in
theorem ZC9 {a c : Tx} {H : Zd} : bop .str .lss (strv a) (strv c) H=some (.bool (decide (a < c)),H):=by
 rw [← bytesLess_eq]
 show (sop .lss (⟨a.toArray⟩ : ByteArray) (⟨c.toArray⟩ : ByteArray)).map (·,H)=_
 unfold sop
 rw [Kp,Kp]
 rfl
theorem HLe.setN {H0 X : Zd} (h : HLe H0 X) {b : Nat} {o : Ze} (hb : H0.length≤b) : HLe H0 (X.set b o):=fun i v hi=>by
 have:=QD hi
 rw [List.getElem?_set_ne (by omega)];exact h i v hi
section
variable {X X' H0 : Zd} {n : Nat} {v : Value} {l : List Tx} {x s : Tx}
theorem ZyK (hl : l.length≤1000000) (hs : Sl X v (l.map strv)) : ∀ (t j : Nat),l.length - j=t→j≤l.length→
  Zi (c4 (Zai.l1 (R n))) [strv x,v,iv l.length,iv j] X=some (if x∈l.drop j then .ret (.bool true) else .ext 0 [],X)
 | 0,j,ht,hj=>by
  rw [List.drop_eq_nil_of_le (by omega)]
  refine ZK ?_
  rw [ZI,show j=l.length by omega]
  unfold Zai.l1
  rw [Za Zm,Zb,if_neg (by simp)]
  rfl
 | t+1,j,ht,hj=>by
  have hkl : j < l.length:=by omega
  have hlt : (j : Int) < l.length:=by omega
  have hg:=List.getElem?_eq_getElem hkl
  have hd:=List.drop_eq_getElem_cons hkl
  generalize l[j]=y at hg hd
  have x1:=hs.ix (i:=j) (by simpa using hkl) .i64 X
  have x2:=hs.ldx (Yt hg)
  have x3 : bop .str .eql (strv y) (strv x) X=some (.bool (y==x),X):=Zdp
  rw [hd]
  by_cases hyx : y=x
  ·rw [if_pos (by simp [hyx])]
   refine QE ?_
   rw [ZI]
   unfold Zai.l1
   rw [Za Zm,Zb,if_pos (by simpa using hlt),Za x1,Za x2,Za x3,Zb,if_pos (by simpa using hyx)]
   rfl
  ·have : (x∈y :: l.drop (j+1))↔x∈l.drop (j+1):=by simp [Ne.symm hyx]
   simp only [this]
   refine (Zy ?_).trans (ZyK hl hs t (j+1) (by omega) (by omega))
   rw [ZI]
   unfold Zai.l1
   rw [Za Zm,Zb,if_pos (by simpa using hlt),Za x1,Za x2,Za x3,Zb,if_neg (by simpa using hyx),Za ZB,Qg (by omega)]
   rfl
theorem ZtJ (hl : l.length≤1000000) (hs : Sl X v (l.map strv)) : R (n+1) Zad [v,strv x] X=some (.bool (decide (x∈l)),X):=by
 have e:=ZyK (n:=n) (x:=x) hl hs l.length 0 (by omega) (by omega)
 rw [show iv ((0 : Nat) : Int)=.int .i64 0 from rfl,List.drop_zero] at e
 have hlen : Zx v X=some (iv l.length,X):=by have:=hs.len (H':=X);simpa using this
 rw [R,Zt0 rfl]
 unfold Zai
 rw [Za hlen]
 by_cases h : x∈l
 ·rw [if_pos h] at e
  rw [JJ e,decide_eq_true h];rfl
 ·rw [if_neg h] at e
  rw [ZT e,ZE,decide_eq_false h];rfl
theorem Zia {sl : Value} {rows : List Tx} {q : List Nat} {u : Tx} (hr : ZA X sl (rows.map strv) q) (hl : rows.length≤100000) (hq : ∀ j∈q,H0.length≤j) (h0 : HLe H0 X) :
  ∃ w X1 sl' X2 q',bsl 1 1 (.string ⟨#[]⟩) [(0,1,strv u)] X=some (w,X1)∧app 1 16 sl w X1=some (sl',X2)∧ZA X2 sl' ((rows++[u]).map strv) q'∧HLe H0 X2∧(∀ j∈q',H0.length≤j)∧ZC q X q' X2:=by
 have l1 : HLe X (X++[.cells [strv u] 1 false false]):=.app _ _
 have s1:=(ZjE (x:=u) (H:=X)).rd
 have e1:=Zrg (x:=u) (H:=X)
 generalize X++[Ze.cells [strv u] 1 false false]=X1 at l1 s1 e1
 have hr1:=hr.step l1.step (by simp)
 obtain ⟨sl',X2,q',x5,hn2,s2,_⟩:=hr1.push (b:=16) s1 (by simp;omega) (by simp;omega)
 have hm:=(h0.trans l1).more s2 hq
 exact ⟨_,X1,sl',X2,q',e1,x5,by rw [List.map_append];exact hn2,hm.1,hm.2,(l1.step.more (by simp) (fun j hj=>.inl hj)).trans s2⟩
def Zfa (s : Tx) : List Tx→Bool→List Tx
 | [],_=>[]
 | t :: l,d=>if (!d && decide (s < t))=true then s :: t :: Zfa s l true else t :: Zfa s l d
def Zdv (s : Tx) : List Tx→Bool→Bool
 | [],d=>d
 | t :: l,d=>Zdv s l (d || decide (s < t))
theorem ZkU {s : Tx} : ∀ {l : List Tx},Zfa s l true=l∧Zdv s l true=true
 | []=>⟨rfl,rfl⟩
 | t :: l=>by
  have : Zfa s l true=l∧Zdv s l true=true:=ZkU
  simp [Zfa,Zdv,this.1,this.2]
def Zgk (s : Tx) (l : List Tx) : List Tx:=Zfa s l false++(if Zdv s l false then [] else [s])
theorem Zmi {t : Tx} {l : List Tx} : Zgk s (t :: l)=if s < t then s :: t :: l else t :: Zgk s l:=by
 unfold Zgk
 by_cases h : s < t
 ·simp [Zfa,Zdv,h,(ZkU (s:=s) (l:=l)).1,(ZkU (s:=s) (l:=l)).2]
 ·simp [Zfa,Zdv,h]
theorem Zn6 : ∀ {l : List Tx},(Zgk s l).length=l.length+1
 | []=>rfl
 | t :: l=>by
  rw [Zmi]
  split
  ·rfl
  ·rw [List.length_cons,Zn6];rfl
theorem ZoE : ∀ {l : List Tx},x∈Zgk s l↔x=s∨x∈l
 | []=>by simp [Zgk,Zfa,Zdv]
 | t :: l=>by
  rw [Zmi]
  split
  ·simp
  ·rw [List.mem_cons,ZoE,List.mem_cons]
   constructor
   ·rintro (h | h | h)
    ·exact .inr (.inl h)
    ·exact .inl h
    ·exact .inr (.inr h)
   ·rintro (h | h | h)
    ·exact .inr (.inl h)
    ·exact .inl h
    ·exact .inr (.inr h)
theorem ZuC : ∀ {l : List Tx},Asc l→s∉l→Asc (Zgk s l)
 | [],_,_=>List.pairwise_singleton _ _
 | t :: l,h,hn=>by
  obtain ⟨a1,a2⟩:=List.pairwise_cons.1 h
  simp only [List.mem_cons,not_or] at hn
  rw [Zmi]
  split
  ·rename_i hlt
   refine List.pairwise_cons.2 ⟨fun y hy=>?_,h⟩
   rcases List.mem_cons.1 hy with rfl | hy
   ·exact hlt
   ·exact List.lt_trans hlt (a1 y hy)
  ·rename_i hlt
   have hts : t < s:=Decidable.byContradiction fun h6=>hn.1 (List.le_antisymm (List.not_lt.1 h6) (List.not_lt.1 hlt))
   refine List.pairwise_cons.2 ⟨fun y hy=>?_,ZuC a2 hn.2⟩
   rcases ZoE.1 hy with rfl | hy
   ·exact hts
   ·exact a1 y hy
theorem Zoj {us : List Tx} {uv z10 z11 z12 : Value} (hu : us.length≤1000) (hA : Sl H0 uv (us.map strv)) : ∀ (t j : Nat) (sl : Value) (q : List Nat) (acc : List Tx) (done : Bool) (X : Zd),us.length - j=t→j≤us.length→acc.length≤2 * j→HLe H0 X→(∀ i∈q,H0.length≤i)→ZA X sl (acc.map strv) q→
  ∃ X' sl' q',Zi (c9 (Jj.l2 (R n))) [strv s,sl,.bool done,z10,z11,z12,uv,iv us.length,iv j] X=some (.ext 2 [strv s,sl',.bool (Zdv s (us.drop j) done),z10,z11,z12],X')∧ZA X' sl' ((acc++Zfa s (us.drop j) done).map strv) q'∧HLe H0 X'∧∀ i∈q',H0.length≤i
 | 0,j,sl,q,acc,done,X,ht,hj,ha,hle,hq,hr=>by
  have : j=us.length:=by omega
  rw [this,List.drop_length]
  refine ⟨X,sl,q,ZK ?_,by simpa [Zfa] using hr,hle,hq⟩
  rw [KL]
  unfold Jj.l2
  rw [Za Zm,Zb,if_neg (by simp)]
  rfl
 | t+1,j,sl,q,acc,done,X,ht,hj,ha,hle,hq,hr=>by
  have hkl : j < us.length:=by omega
  have hlt : (j : Int) < us.length:=by omega
  have hg:=List.getElem?_eq_getElem hkl
  have hd:=List.drop_eq_getElem_cons hkl
  generalize us[j]=y at hg hd
  have hA':=hA.mono hle
  have x1:=hA'.ix (i:=j) (by simpa using hkl) .i64 X
  have x2:=hA'.ldx (Yt hg)
  have hgate : ∀ K : Value→M Out,bind (uop .not (.bool done)) (fun v26x10=>bind (ZG v26x10 true 3 (bind (bop .str .lss (strv s) (strv y)) fun v30x11=>ret [strv s,strv y,v30x11])) (c3 fun _ _ q12_2=>bind (pick v26x10 q12_2 (Value.bool false)) K)) X=K (.bool (!done && decide (s < y))) X:=fun K=>by
   rw [Za ZH]
   cases done
   ·simp only [Bool.not_false]
    rw [ZU,Zk,Za ZC9,ZV,Z3,Za Zl]
    rfl
   ·simp only [Bool.not_true]
    rw [Za (g_r.trans (if_neg (by simp)))]
    simp only [List.replicate]
    rw [Z3,Za Zl]
    rfl
  rw [hd]
  cases hb : (!done && decide (s < y))
  ·obtain ⟨w,X1,sl1,X2,q2,a1,a2,r2,l2,o2,_⟩:=Zia (u:=y) hr (by omega) hq hle
   have hdone : (done || decide (s < y))=done:=by cases done <;> simp at hb ⊢ <;> exact hb
   obtain ⟨X3,sl3,q3,e3,r3,l3,o3⟩:=Zoj hu hA t (j+1) sl1 q2 (acc++[y]) done X2 (by omega) (by omega) (by simp;omega) l2 o2 r2
   refine ⟨X3,sl3,q3,(Zy ?_).trans (e3.trans ?_),?_,l3,o3⟩
   ·rw [KL]
    unfold Jj.l2
    rw [Za Zm,Zb,if_pos (by simpa using hlt),Za x1,Za x2]
    refine (hgate _).trans ?_
    rw [hb]
    refine (ZZ (vs:=[strv s,sl,.bool done,strv y,z10,z11,z12,uv,iv us.length,iv j]) (H':=X) ?_).trans ?_
    ·rw [Zb,if_neg (by simp)];rfl
    ·rw [YD,Za a1,Za a2,Za ZB,Qg (by omega)];rfl
   ·simp only [Zdv,hdone]
   ·simp only [Zfa,hb]
    simpa using r3
  ·obtain ⟨w,X1,sl1,X2,q2,a1,a2,r2,l2,o2,_⟩:=Zia (u:=s) hr (by omega) hq hle
   obtain ⟨w',X1',sl1',X2',q2',a1',a2',r2',l2',o2',_⟩:=Zia (u:=y) r2 (by simp;omega) o2 l2
   have hdone : done=false∧s < y:=by simpa using hb
   obtain ⟨X3,sl3,q3,e3,r3,l3,o3⟩:=Zoj hu hA t (j+1) sl1' q2' (acc++[s]++[y]) true X2' (by omega) (by omega) (by simp;omega) l2' o2' r2'
   refine ⟨X3,sl3,q3,(Zy ?_).trans (e3.trans ?_),?_,l3,o3⟩
   ·rw [KL]
    unfold Jj.l2
    rw [Za Zm,Zb,if_pos (by simpa using hlt),Za x1,Za x2]
    refine (hgate _).trans ?_
    rw [hb]
    refine (ZZ (vs:=[strv s,sl1,.bool true,strv y,z10,z11,z12,uv,iv us.length,iv j]) (H':=X2) ?_).trans ?_
    ·rw [Zb,if_pos rfl,Za a1,Za a2];rfl
    ·rw [YD,Za a1',Za a2',Za ZB,Qg (by omega)];rfl
   ·simp only [Zdv,hdone.2,decide_true,Bool.or_true]
   ·simp only [Zfa,hb,if_true]
    simpa using r3
theorem ZnS {lv : Value} (hl : l.length≤500) (hA : Sl H0 lv (l.map strv)) : ∀ (t j : Nat) (sl : Value) (q : List Nat) (acc : List Tx) (X : Zd),l.length - j=t→j≤l.length→acc.length≤j→HLe H0 X→(∀ i∈q,H0.length≤i)→ZA X sl (acc.map strv) q→Is acc (·∈l.take j)→
  ∃ X' sl' q' acc',Zi (c4 (Jj.l1 (R (n+1)))) [sl,lv,iv l.length,iv j] X=some (.ext 0 [sl'],X')∧ZA X' sl' (acc'.map strv) q'∧Is acc' (·∈l)∧acc'.length≤l.length∧HLe H0 X'∧∀ i∈q',H0.length≤i
 | 0,j,sl,q,acc,X,ht,hj,ha,hle,hq,hr,hI=>by
  have : j=l.length:=by omega
  subst this
  rw [List.take_length] at hI
  refine ⟨X,sl,q,acc,ZK ?_,hr,hI,ha,hle,hq⟩
  rw [ZI]
  unfold Jj.l1
  rw [Za Zm,Zb,if_neg (by simp)]
  rfl
 | t+1,j,sl,q,acc,X,ht,hj,ha,hle,hq,hr,hI=>by
  have hkl : j < l.length:=by omega
  have hlt : (j : Int) < l.length:=by omega
  have hg:=List.getElem?_eq_getElem hkl
  generalize l[j]=y at hg
  have hA':=hA.mono hle
  have x1:=hA'.ix (i:=j) (by simpa using hkl) .i64 X
  have x2:=hA'.ldx (Yt hg)
  have x3 : R (n+1) Zad [sl,strv y] X=_:=ZtJ (x:=y) (by omega) hr.rd
  have hlenS : Zx sl X=some (iv acc.length,X):=by have:=hr.rd.len (H':=X);simpa using this
  by_cases hy : y∈acc
  ·rw [decide_eq_true hy] at x3
   have hI' : Is acc (·∈l.take (j+1)):=⟨hI.asc,fun z=>by
    rw [Zem hg,hI.mem z]
    constructor
    ·exact .inl
    ·rintro (h | rfl)
     ·exact h
     ·exact (hI.mem _).1 hy⟩
   obtain ⟨X3,sl3,q3,acc3,e3,r3⟩:=ZnS hl hA t (j+1) sl q acc X (by omega) (by omega) (by omega) hle hq hr hI'
   refine ⟨X3,sl3,q3,acc3,(Zy ?_).trans e3,r3⟩
   rw [ZI]
   unfold Jj.l1
   rw [Za Zm,Zb,if_pos (by simpa using hlt)]
   refine (ZZ (vs:=[sl,lv,iv l.length,iv j]) (H':=X) ?_).trans ?_
   ·rw [Za x1,Za x2,Za x3,Zb,if_pos rfl];rfl
   ·rw [ZI,Za ZB,Qg (by omega)];rfl
  ·rw [decide_eq_false hy] at x3
   have hq2 : ∀ i∈([] : List Nat),X.length≤i:=by simp
   obtain ⟨X1,sl1,q1,e1,r1,l1,o1⟩:=Zoj (n:=n+1) (s:=y) (z10:=lv) (z11:=iv l.length) (z12:=iv j) (by omega) hr.rd acc.length 0 (.slice none 0 0) [] [] false X (by omega) (by omega) (by simp) (.refl _) hq2 ZA.nil
   rw [show iv ((0 : Nat) : Int)=.int .i64 0 from rfl,List.drop_zero] at e1
   rw [List.drop_zero,List.nil_append] at r1
   have hI' : Is (Zgk y acc) (·∈l.take (j+1)):=⟨ZuC hI.asc hy,fun z=>by
    rw [Zem hg,ZoE,hI.mem z]
    exact Or.comm⟩
   have lX1:=hle.trans l1
   obtain ⟨X2,sl2,q2,e2,r2,l2,o2⟩ : ∃ X2 sl2 q2,(bind (uop .not (.bool (Zdv y acc false))) fun v42x23=>jn (cnd v42x23 (bind (bsl 1 1 (.string ⟨#[]⟩) [(0,1,strv y)]) fun v45x24=>bind (app 1 16 sl1 v45x24) fun v46x25=>ret (.nrm [v46x25,lv,iv l.length,iv j])) (ret (.nrm [sl1,lv,iv l.length,iv j]))) (c4 fun q26_0 q26_1 q26_2 q26_3=>ret (.nrm [q26_0,q26_1,q26_2,q26_3])) noX Z5 : M Out) X1=some (.nrm [sl2,lv,iv l.length,iv j],X2)∧ZA X2 sl2 ((Zgk y acc).map strv) q2∧HLe H0 X2∧∀ i∈q2,H0.length≤i:=by
    have o1' : ∀ i∈q1,H0.length≤i:=fun i hi=>Nat.le_trans hle.len (o1 i hi)
    unfold Zgk
    cases hdn : Zdv y acc false
    ·have hml : (Zfa y acc false).length≤100000:=by
      have:=Zn6 (s:=y) (l:=acc)
      unfold Zgk at this
      rw [List.length_append] at this
      omega
     obtain ⟨w,Y1,sl2,X2,q2,a1,a2,r2,l2,o2,_⟩:=Zia (u:=y) r1 hml o1' lX1
     refine ⟨X2,sl2,q2,?_,by simpa using r2,l2,o2⟩
     rw [Za ZH]
     refine (ZZ (vs:=[sl2,lv,iv l.length,iv j]) (H':=X2) ?_).trans rfl
     rw [Zb,if_pos (by rfl),Za a1,Za a2];rfl
    ·refine ⟨X1,sl1,q1,?_,by simpa using r1,lX1,o1'⟩
     rw [Za ZH]
     refine (ZZ (vs:=[sl1,lv,iv l.length,iv j]) (H':=X1) ?_).trans rfl
     rw [Zb,if_neg (by simp)];rfl
   obtain ⟨X3,sl3,q3,acc3,e3,r3⟩:=ZnS hl hA t (j+1) sl2 q2 (Zgk y acc) X2 (by omega) (by omega) (by rw [Zn6];omega) l2 o2 r2 hI'
   refine ⟨X3,sl3,q3,acc3,(Zy ?_).trans e3,r3⟩
   rw [ZI]
   unfold Jj.l1
   rw [Za Zm,Zb,if_pos (by simpa using hlt)]
   refine (ZZ (vs:=[sl2,lv,iv l.length,iv j]) (H':=X2) ?_).trans ?_
   ·rw [Za x1,Za x2,Za x3,Zb,if_neg (by simp),Za hlenS,ZT e1,ZE,Jy]
    exact e2
   ·rw [ZI,Za ZB,Qg (by omega)];rfl
theorem ZtE (hl : l.length≤500) (hA : Sl X v (l.map strv)) : ∃ X' v' q' l',R (n+2) W4 [v] X=some (v',X')∧ZA X' v' (l'.map strv) q'∧Is l' (·∈l)∧l'.length≤l.length∧HLe X X'∧∀ i∈q',X.length≤i:=by
 obtain ⟨X',sl,q,acc,e,r⟩:=ZnS (n:=n) hl hA l.length 0 (.slice none 0 0) [] [] X (by omega) (by omega) (by simp) (.refl _) (by simp) ZA.nil ⟨List.Pairwise.nil,by simp⟩
 rw [show iv ((0 : Nat) : Int)=.int .i64 0 from rfl] at e
 have hlen : Zx v X=some (iv l.length,X):=by have:=hA.len (H':=X);simpa using this
 refine ⟨X',sl,q,acc,?_,r⟩
 rw [R,Zo4 rfl]
 unfold Jj
 rw [Za hlen,ZT e,ZE]
 rfl
end
end Go.Proofs.YtedkoimihknggaaGreatDoor.A
namespace Go.Proofs.YtedkoimihknggaaGreatDoor.A
set_option linter.unusedVariables false
set_option linter.unusedSimpArgs false
open Go.Proofs Go.Proofs.YtedkoimihknggaaGreatDoor
abbrev Pr:=Tx × Tx
def prG (u : Pr) : List Value:=[strv u.1,strv u.2]
theorem Zrr (u : Pr) : (prG u).length=2:=rfl
theorem ZBv (u : Pr) : (prG u).all oneCell=true:=rfl
structure RG (X : Zd) (nv mv : Value) (N : List Tx) (M : List Pr) : Prop where
 n : ∃ q,ZA X nv (N.map strv) q
 m : ∃ q,Qu 2 X mv (M.map prG) q
section
variable {X X' H0 : Zd} {n : Nat} {v nv mv z1 z2 z3 z4 : Value} {N l : List Tx} {M : List Pr} {x s t k m : Tx}
theorem RG.hle (h : RG X nv mv N M) (hl : HLe X X') : RG X' nv mv N M:=⟨h.n.elim fun q h=>⟨q,h.step hl.step (by simp)⟩,h.m.elim fun q h=>⟨q,h.step hl.step (by simp)⟩⟩
theorem RG.sn (h : RG X nv mv N M) : Sl X nv (N.map strv):=h.n.elim fun q h=>h.rd
theorem RG.sm (h : RG X nv mv N M) : SlN 2 X mv (M.map prG):=h.m.elim fun q h=>h.rd
theorem RG.one (h : RG X nv mv N M) : ([nv,mv].all oneCell)=true∧nv.cells=#[nv]∧mv.cells=#[mv]:=by
 obtain ⟨q,hn⟩:=h.n
 obtain ⟨q',hm⟩:=h.m
 exact ⟨by simp [hn.one.1,hm.one.1],hn.one.2,hm.one.2⟩
theorem RG.lenN (h : RG X nv mv N M) (Y : Zd) : Zx nv Y=some (iv N.length,Y):=by have:=h.sn.len (H':=Y);simpa using this
theorem RG.lenM (h : RG X nv mv N M) (Y : Zd) : Zx mv Y=some (iv M.length,Y):=by have:=h.sm.len (H':=Y);simpa using this
theorem RG.box (h : RG X nv mv N M) (Y : Zd) : alc 1 (.agg #[nv,mv]) Y=some (pt Y.length,Y++[.cells [nv,mv] 1 false false]):=Wd (vs:=[nv,mv]) h.one.1
theorem ZDa (Y : Zd) : alc 1 (.agg #[.slice none 0 0,.slice none 0 0]) Y=some (pt Y.length,Y++[.cells [.slice none 0 0,.slice none 0 0] 1 false false]):=Wd (vs:=[.slice none 0 0,.slice none 0 0]) rfl
theorem ZBk {β : Type} {H : Zd} {sl : Value} {K : Value→A.M β} {us : List Pr} {j : Nat} {u : Pr} (h : SlN 2 H sl (us.map prG)) (hj : us[j]?=some u) :
  bind (ixa 2 sl (iv j)) (fun p=>bind (ldA 2 p) fun v=>bind (alc 1 (.agg #[.string ⟨#[]⟩,.string ⟨#[]⟩])) fun q=>bind (stA 2 q v) fun _=>K q) H=K (pt H.length) (H++[.cells (prG u) 1 false false]):=by
 have hr : (us.map prG)[j]?=some (prG u):=by rw [List.getElem?_map,hj];rfl
 rw [h.fetch hr (by omega) .i64]
 exact WZ (n:=2) (zs:=[.string ⟨#[]⟩,.string ⟨#[]⟩]) (r:=prG u) rfl rfl rfl rfl
theorem ZCC {sl : Value} {rows : List Pr} {q : List Nat} {u : Pr} (hr : Qu 2 X sl (rows.map prG) q) (hl : rows.length≤10000) (hq : ∀ j∈q,H0.length≤j) (h0 : HLe H0 X) :
  ∃ w X1 sl' X2 q',bsl 2 1 (.agg #[.string ⟨#[]⟩,.string ⟨#[]⟩]) [(0,2,.agg (prG u).toArray)] X=some (w,X1)∧app 2 32 sl w X1=some (sl',X2)∧Qu 2 X2 sl' ((rows++[u]).map prG) q'∧HLe H0 X2∧(∀ j∈q',H0.length≤j)∧ZC q X q' X2:=by
 have x4:=ZmB (es:=2) (z:=.agg #[.string ⟨#[]⟩,.string ⟨#[]⟩]) (H:=X) rfl (Zrr u) (ZBv u)
 have l1 : HLe X (X++[Ze.cells (prG u) 2 false false]):=.app _ _
 have s1 : SlN 2 (X++[Ze.cells (prG u) 2 false false]) (.slice (some ⟨X.length,0,none⟩) 1 1) [prG u]:=SlN.whole (rows:=[prG u]) (c:=1) (e:=2) (g:=false) (ro:=false) (by rw [Zw];simp) (by simp [Zrr])
 generalize X++[Ze.cells (prG u) 2 false false]=X1 at x4 l1 s1
 have hr1 : Qu 2 X1 sl _ q:=hr.keep fun j hj=>l1.step.keep j (hr.lt j hj) (by simp)
 obtain ⟨sl',X2,q',x5,hn2,s2⟩:=hr1.push (b:=32) s1 (Zrr _) (by simp;omega) (by simp;omega)
 have hm:=(h0.trans l1).more s2 hq
 exact ⟨_,X1,sl',X2,q',x4,x5,by rw [List.map_append];exact hn2,hm.1,hm.2,(l1.step.more (by simp) (fun j hj=>.inl hj)).trans s2⟩
theorem ZC7 {a a' : Option Addr} {n1 c1 n2 c2 : Nat} : bld (.agg #[.slice none 0 0,.slice none 0 0]) [(0,1,.slice a n1 c1),(1,1,.slice a' n2 c2)] X=some (.agg #[.slice a n1 c1,.slice a' n2 c2],X):=by
 simp [↓Qa,Z9,↓QI,Qp,Qo,Ql,↓Zb,J9,Zt,Ys,Qq,JD,QA,JC,Jn,QW,JL,QX,QV,Q6,Q7,QG,Zl,ZH,YT,Yz,Jl,Ja,J5,ZB,QU,JY,J8,JZ,ZD,Zq,Zm,Je,Z0,Qj,Jt,JW,Ju,J2,↓Y8,J3,↓g_r,YS,Kg,WP,splice,Value.cells]
theorem ZA.isS {vs : List Value} {q : List Nat} (h : ZA X v vs q) : ∃ a n c,v=.slice a n c:=by
 rcases h with ⟨_,_,rfl⟩ | ⟨sid,rest,gr,rfl,_,_⟩
 ·exact ⟨_,_,_,rfl⟩
 ·exact ⟨_,_,_,rfl⟩
theorem Qu.isS {es : Nat} {vs : List (List Value)} {q : List Nat} (h : Qu es X v vs q) : ∃ a n c,v=.slice a n c:=by
 rcases h with ⟨_,_,rfl⟩ | ⟨sid,rest,r,gr,rfl,_,_⟩
 ·exact ⟨_,_,_,rfl⟩
 ·exact ⟨_,_,_,rfl⟩
theorem ZoX (h : RG X nv mv N M) : ∃ X2,(∀ {β : Type} (K : Value→Value→A.M β),bind (alc 1 (.agg #[nv,mv])) (fun a=>bind (alc 1 (.agg #[.slice none 0 0,.slice none 0 0])) fun b=>K a b) X=K (pt X.length) (pt (X.length+1)) X2)∧X2[X.length]?=some (.cells [nv,mv] 1 false false)∧X2[X.length+1]?=some (.cells [.slice none 0 0,.slice none 0 0] 1 false false)∧HLe X X2∧X2.length=X.length+2:=by
 refine ⟨X++[.cells [nv,mv] 1 false false]++[.cells [.slice none 0 0,.slice none 0 0] 1 false false],fun K=>?_,ZkP,ZCD,(HLe.app _ _).trans (.app _ _),by simp⟩
 rw [Za (h.box X),Za (ZDa _)]
 simp
theorem fin {b1 b2 : Nat} {a1 a2 c1 c2 : Value} (h1 : X[b1]?=some (.cells [a1,a2] 1 false false)) (h2 : X[b2]?=some (.cells [c1,c2] 1 false false)) (hn : b1≠b2) (ho : ([a1,a2].all oneCell)=true) {β : Type} (K : Value→A.M β) :
  bind (ldA 2 (pt b1)) (fun v=>bind (stA 2 (pt b2) v) fun _=>bind (ldA 2 (pt b2)) K) X=K (.agg #[a1,a2]) (X.set b2 (.cells [a1,a2] 1 false false)):=by
 have e1 : ldA 2 (pt b1) X=some (.agg #[a1,a2],X):=ZR h1 rfl
 have e2 : stA 2 (pt b2) (.agg #[a1,a2]) X=some (undef,X.set b2 (.cells [a1,a2] 1 false false)):=Kv (vs:=[a1,a2]) h2 rfl rfl ho
 have e3 : ldA 2 (pt b2) (X.set b2 (.cells [a1,a2] 1 false false))=some (.agg #[a1,a2],X.set b2 (.cells [a1,a2] 1 false false)):=ZR (ZM h2) rfl
 rw [Za e1,Za e2,Za e3]
theorem ZA.setB {vs : List Value} {q : List Nat} {b : Nat} {o : Ze} (h : ZA X v vs q) (hb : b∉q) : ZA (X.set b o) v vs q:=h.keep fun j hj=>List.getElem?_set_ne fun e=>hb (by rw [e];exact hj)
theorem Qu.setB {es : Nat} {vs : List (List Value)} {q : List Nat} {b : Nat} {o : Ze} (h : Qu es X v vs q) (hb : b∉q) : Qu es (X.set b o) v vs q:=h.keep fun j hj=>List.getElem?_set_ne fun e=>hb (by rw [e];exact hj)
end
end Go.Proofs.YtedkoimihknggaaGreatDoor.A
namespace Go.Proofs.YtedkoimihknggaaGreatDoor.A
set_option linter.unusedVariables false
set_option linter.unusedSimpArgs false
open Go.Proofs Go.Proofs.YtedkoimihknggaaGreatDoor
structure ZjB (N : List Tx) (M : List Pr) (K : List Tx) (mem : Mem) : Prop where
 n : Is N (·∈K)
 m : ∀ k x,(k,x)∈M↔mem k x=true
theorem ZAw {N K : List Tx} (h : Is N (·∈K)) (hK : K.Nodup) : N.length=K.length:=
 ((List.perm_ext_iff_of_nodup h.asc.nodup hK).2 h.mem).length_eq
section
variable {X X' H0 : Zd} {n : Nat} {v nv mv z1 z2 z3 z4 : Value} {N l K : List Tx} {M : List Pr} {mem : Mem} {x s t k m : Tx}
theorem Zs7 (h : RG X nv mv N M) {X1 : Zd} (l1 : HLe X X1) {e : Int} (b1 : X1[X.length]?=some (.cells [nv,mv] 1 false false)) (b2 : X1[X.length+1]?=some (.cells [.slice none 0 0,.slice none 0 0] 1 false false)) :
  ∃ X',(bind (ldA 2 (pt X.length)) fun v9x5=>bind (stA 2 (pt (X.length+1)) v9x5) fun _=>bind (ldA 2 (pt (X.length+1))) fun vrx6=>ret (Value.tuple #[vrx6,iv e])) X1=some (.tuple #[.agg #[nv,mv],iv e],X')∧RG X' nv mv N M∧HLe X X':=by
 have l2 : HLe X (X1.set (X.length+1) (.cells [nv,mv] 1 false false)):=l1.setN (by omega)
 exact ⟨_,fin b1 b2 (by omega) h.one.1 _,h.hle l2,l2⟩
theorem ZA2 (h : RG X nv mv N M) (hO : ZjB N M K mem) (hK : K.Nodup) (hN : N.length≤100) : ∃ X' nv' N',R (n+5) ZdP [.agg #[nv,mv],strv k] X=some (.tuple #[.agg #[nv',mv],iv (QT k K)],X')∧RG X' nv' mv N' M∧ZjB N' M (ZcP k K) mem∧HLe X X':=by
 have f1 : ∀ r X',Zbx (R (n+4)) (.agg #[nv,mv]) (strv k) X=some (r,X')→R (n+5) ZdP [.agg #[nv,mv],strv k] X=some (r,X'):=fun r X' hr=>by rw [R,Zsd rfl];exact hr
 obtain ⟨X1,e1,b1,b2,l1,len1⟩:=ZoX h
 have h1:=h.hle l1
 have e2 : ∀ Y : Zd,R (n+4) QP [strv k] Y=some (.bool (Zp k),Y):=fun Y=>Zca (n:=n+1)
 have d0 : ld1 (pa X.length 0) X1=some (nv,X1):=Zv b1 rfl
 have e3 : R (n+4) Zad [nv,strv k] X1=_:=ZtJ (n:=n+3) (x:=k) (by omega) h1.sn
 have hlen:=ZAw hO.n hK
 have same : ∀ e,QT k K=e→e≠0→ZjB N M (ZcP k K) mem:=fun e he hne=>by unfold ZcP;rw [if_neg (by rw [he];exact hne)];exact hO
 cases hn : Zp k
 ·have hE : QT k K=10:=by unfold QT;rw [hn];rfl
  obtain ⟨X2,e4,r4,l4⟩:=Zs7 (e:=10) h l1 b1 b2
  refine ⟨X2,nv,N,by rw [hE];refine f1 _ _ ?_;unfold Zbx;refine (e1 _).trans ?_;rw [Za (e2 _),hn,Za ZH,Zb,if_pos (by rfl)];exact e4,r4,same _ hE (by decide),l4⟩
 ·by_cases hk : k∈K
  ·have hE : QT k K=9:=by unfold QT;rw [hn,if_pos rfl,if_pos hk]
   have hkN : k∈N:=(hO.n.mem k).2 hk
   rw [decide_eq_true hkN] at e3
   obtain ⟨X2,e4,r4,l4⟩:=Zs7 (e:=9) h l1 b1 b2
   refine ⟨X2,nv,N,by rw [hE];refine f1 _ _ ?_;unfold Zbx;refine (e1 _).trans ?_;rw [Za (e2 _),hn,Za ZH,Zb,if_neg (by simp),Za Zh,Za d0,Za e3,Zb,if_pos rfl];exact e4,r4,same _ hE (by decide),l4⟩
  ·have hkN : ¬ k∈N:=fun hm=>hk ((hO.n.mem k).1 hm)
   rw [decide_eq_false hkN] at e3
   by_cases hl : 6≤K.length
   ·have hE : QT k K=7:=by unfold QT;rw [hn,if_pos rfl,if_neg hk,if_pos hl]
    obtain ⟨X2,e4,r4,l4⟩:=Zs7 (e:=7) h l1 b1 b2
    refine ⟨X2,nv,N,by rw [hE];refine f1 _ _ ?_;unfold Zbx;refine (e1 _).trans ?_;rw [Za (e2 _),hn,Za ZH,Zb,if_neg (by simp),Za Zh,Za d0,Za e3,Zb,if_neg (by simp),Za Zh,Za d0,Za (h.lenN _),Za Qj,Zb,if_pos (by simp;omega)];exact e4,r4,same _ hE (by decide),l4⟩
   ·have hE : QT k K=0:=by unfold QT;rw [hn,if_pos rfl,if_neg hk,if_neg hl]
    have e5:=Zz9 (es:=1) (z:=.string ⟨#[]⟩) (H:=X1)
    have l5 : HLe X1 (X1++[Ze.cells [] 1 false false]):=.app _ _
    have c5 : (X1++[Ze.cells [] 1 false false])[X1.length]?=some (.cells [] 1 false false):=Zw
    generalize X1++[Ze.cells [] 1 false false]=Y1 at e5 l5 c5
    have d5 : ld1 (pa X.length 0) Y1=some (nv,Y1):=Zv (l5 _ _ b1) rfl
    obtain ⟨sl,Y2,q2,e6,r6,l6,o6⟩:=Zui (b:=16) (s:=.slice (some ⟨X1.length,0,none⟩) 0 0) (h1.hle l5).sn (by simp;omega) (by simp;omega) (.inr ⟨X1.length,false,rfl,c5,rfl⟩)
    have hq2 : ∀ j∈q2,X1.length≤j:=fun j hj=>by
     rcases o6 j hj with h | ⟨_,h⟩
     ·exact Nat.le_trans l5.len h
     ·have : X1.length=j:=by simpa [own1] using h
      omega
    obtain ⟨w,Y3,sl3,Y4,q4,a1,a2,r4,l4,o4,_⟩:=Zia (H0:=X1) (u:=k) r6 (by omega) hq2 (l5.trans l6)
    obtain ⟨Y5,sl5,q5,N5,e7,r7,i7,n7,l7,o7⟩:=ZtE (n:=n+2) (l:=N++[k]) (by simp;omega) r4.rd
    have e7 : R (n+4) W4 [sl3] Y4=_:=e7
    have l15:=l4.trans l7
    have c1:=l15 _ _ b1
    have c2:=l15 _ _ b2
    have w3 : st1 (pa X.length 0) sl5 Y5=some (undef,Y5.set X.length (.cells [sl5,mv] 1 false false)):=K7 (cs:=[nv,mv]) c1 (by simp) r7.one.1
    have c3 : (Y5.set X.length (.cells [sl5,mv] 1 false false))[X.length]?=some (.cells [sl5,mv] 1 false false):=ZM c1
    have c4 : (Y5.set X.length (.cells [sl5,mv] 1 false false))[X.length+1]?=some (.cells [.slice none 0 0,.slice none 0 0] 1 false false):=by rw [List.getElem?_set_ne (by omega)];exact c2
    have hone : ([sl5,mv].all oneCell)=true:=by
     have:=h.one.1
     simp only [List.all_cons,List.all_nil,Bool.and_true,Bool.and_eq_true] at this ⊢
     exact ⟨r7.one.1,this.2⟩
    have hq5 : X.length∉q5∧X.length+1∉q5:=⟨fun hm=>by have:=o7 _ hm;have:=l4.len;omega,fun hm=>by have:=o7 _ hm;have:=l4.len;omega⟩
    have l05:=(l1.trans l15)
    refine ⟨(Y5.set X.length (.cells [sl5,mv] 1 false false)).set (X.length+1) (.cells [sl5,mv] 1 false false),sl5,N5,?_,⟨⟨q5,(r7.setB hq5.1).setB hq5.2⟩,?_⟩,?_,(l05.setN (Nat.le_refl _)).setN (by omega)⟩
    ·rw [hE]
     refine f1 _ _ ?_
     unfold Zbx
     refine (e1 _).trans ?_
     rw [Za (e2 _),hn,Za ZH,Zb,if_neg (by simp),Za Zh,Za d0,Za e3,Zb,if_neg (by simp),Za Zh,Za d0,Za (h.lenN _),Za Qj,Zb,if_neg (by simp;omega),Za e5,Za Zh,Za d5,Za e6,Za a1,Za a2,Za e7,Za Zh,Za w3]
     exact fin c3 c4 (by omega) hone _
    ·obtain ⟨qm,hm⟩:=h.m
     exact ⟨qm,hm.step ((l05.setN (Nat.le_refl _)).setN (by omega) : HLe X _).step (by simp)⟩
    ·refine ⟨⟨i7.asc,fun z=>?_⟩,hO.m⟩
     rw [i7.mem z]
     unfold ZcP
     rw [if_pos hE]
     simp only [List.mem_append,List.mem_singleton,hO.n.mem z]
theorem ZnP {lv : Value} (hl : l.length≤1000) (hA : Sl H0 lv (l.map strv)) : ∀ (t j : Nat) (sl : Value) (q : List Nat) (acc : List Tx) (X : Zd),l.length - j=t→j≤l.length→acc.length≤j→HLe H0 X→(∀ i∈q,H0.length≤i)→ZA X sl (acc.map strv) q→
  ∃ X' sl' q',Zi (c7 (Jh.l1 (R n))) [strv k,z1,z2,sl,lv,iv l.length,iv j] X=some (.ext 0 [strv k,z1,z2,sl'],X')∧ZA X' sl' ((acc++(l.drop j).filter (fun x=>decide (x≠k))).map strv) q'∧ZC q X q' X'∧∀ i∈q',H0.length≤i
 | 0,j,sl,q,acc,X,ht,hj,ha,hle,hq,hr=>by
  rw [List.drop_eq_nil_of_le (by omega)]
  refine ⟨X,sl,q,ZK ?_,by simpa using hr,.refl _ _,hq⟩
  rw [JA,show j=l.length by omega]
  unfold Jh.l1
  rw [Za Zm,Zb,if_neg (by simp)]
  rfl
 | t+1,j,sl,q,acc,X,ht,hj,ha,hle,hq,hr=>by
  have hkl : j < l.length:=by omega
  have hlt : (j : Int) < l.length:=by omega
  have hg:=List.getElem?_eq_getElem hkl
  have hd:=List.drop_eq_getElem_cons hkl
  generalize l[j]=y at hg hd
  have hA':=hA.mono hle
  have x1:=hA'.ix (i:=j) (by simpa using hkl) .i64 X
  have x2:=hA'.ldx (Yt hg)
  rw [hd,List.filter_cons]
  by_cases hy : y=k
  ·rw [if_neg (by simpa using hy)]
   obtain ⟨X2,sl2,q2,e2,r2,s2,o2⟩:=ZnP hl hA t (j+1) sl q acc X (by omega) (by omega) (by omega) hle hq hr
   refine ⟨X2,sl2,q2,(Zy ?_).trans e2,r2,s2,o2⟩
   rw [JA]
   unfold Jh.l1
   rw [Za Zm,Zb,if_pos (by simpa using hlt),Za x1,Za x2,Za Wt]
   refine (ZZ (vs:=[strv k,z1,z2,sl,lv,iv l.length,iv j]) (H':=X) ?_).trans ?_
   ·rw [Zb,if_neg (by simpa using hy)];rfl
   ·rw [JA,Za ZB,Qg (by omega)];rfl
  ·rw [if_pos (by simpa using hy)]
   obtain ⟨w,Y,sl1,X2,q1,a1,a2,r1,l2,o1,s1⟩:=Zia (u:=y) hr (by omega) hq hle
   obtain ⟨X3,sl2,q2,e2,r2,s2,o2⟩:=ZnP hl hA t (j+1) sl1 q1 (acc++[y]) X2 (by omega) (by omega) (by simp;omega) l2 o1 r1
   refine ⟨X3,sl2,q2,(Zy ?_).trans e2,by simpa using r2,s1.trans s2,o2⟩
   rw [JA]
   unfold Jh.l1
   rw [Za Zm,Zb,if_pos (by simpa using hlt),Za x1,Za x2,Za Wt]
   refine (ZZ (vs:=[strv k,z1,z2,sl1,lv,iv l.length,iv j]) (H':=X2) ?_).trans ?_
   ·rw [Zb,if_pos (by simpa using hy),Za a1,Za a2];rfl
   ·rw [JA,Za ZB,Qg (by omega)];rfl
theorem Zoi (hl : M.length≤1000) (hs : SlN 2 H0 mv (M.map prG)) : ∀ (t j : Nat) (sl : Value) (q : List Nat) (acc : List Pr) (X : Zd),M.length - j=t→j≤M.length→acc.length≤j→HLe H0 X→(∀ i∈q,H0.length≤i)→Qu 2 X sl (acc.map prG) q→
  ∃ X' sl' q',Zi (c7 (Jh.l2 (R n))) [strv k,z1,z2,sl,mv,iv M.length,iv j] X=some (.ext 2 [z1,z2,sl'],X')∧Qu 2 X' sl' ((acc++(M.drop j).filter (fun u=>!(u.1==k))).map prG) q'∧ZC q X q' X'∧∀ i∈q',H0.length≤i
 | 0,j,sl,q,acc,X,ht,hj,ha,hle,hq,hr=>by
  rw [List.drop_eq_nil_of_le (by omega)]
  refine ⟨X,sl,q,ZK ?_,by simpa using hr,.refl _ _,hq⟩
  rw [JA,show j=M.length by omega]
  unfold Jh.l2
  rw [Za Zm,Zb,if_neg (by simp)]
  rfl
 | t+1,j,sl,q,acc,X,ht,hj,ha,hle,hq,hr=>by
  have hkl : j < M.length:=by omega
  have hlt : (j : Int) < M.length:=by omega
  have hg:=List.getElem?_eq_getElem hkl
  have hd:=List.drop_eq_getElem_cons hkl
  generalize M[j]=u at hg hd
  have hf:=fun {K : Value→A.M Out}=>ZBk (K:=K) (hs.mono hle) hg
  have bx : (X++[Ze.cells (prG u) 1 false false])[X.length]?=some (.cells (prG u) 1 false false):=Zw
  have l1 : HLe X (X++[Ze.cells (prG u) 1 false false]):=.app _ _
  generalize X++[Ze.cells (prG u) 1 false false]=X1 at hf bx l1
  have hr1:=hr.step l1.step (by simp)
  have d0 : ld1 (pa X.length 0) X1=some (strv u.1,X1):=Zv bx rfl
  have dA : ldA 2 (pt X.length) X1=some (.agg (prG u).toArray,X1):=ZR bx rfl
  have q1 : bop .str .neq (strv u.1) (strv k) X1=some (.bool (!(u.1==k)),X1):=Wt
  rw [hd,List.filter_cons]
  cases hb : !(u.1==k)
  ·rw [hb] at q1
   obtain ⟨X2,sl2,q2,e2,r2,s2,o2⟩:=Zoi hl hs t (j+1) sl q acc X1 (by omega) (by omega) (by omega) (hle.trans l1) hq hr1
   refine ⟨X2,sl2,q2,(Zy ?_).trans e2,by simpa using r2,l1.stepq.trans s2,o2⟩
   rw [JA]
   unfold Jh.l2
   rw [Za Zm,Zb,if_pos (by simpa using hlt),hf,Za Zh,Za d0,Za q1]
   refine (ZZ (vs:=[strv k,z1,z2,sl,mv,iv M.length,iv j]) (H':=X1) ?_).trans ?_
   ·rw [Zb,if_neg (by simp)];rfl
   ·rw [JA,Za ZB,Qg (by omega)];rfl
  ·rw [hb] at q1
   obtain ⟨w,Y,sl1,X2,q1',a1,a2,r1,l2,o1,s1⟩:=ZCC (u:=u) hr1 (by omega) hq (hle.trans l1)
   obtain ⟨X3,sl2,q2,e2,r2,s2,o2⟩:=Zoi hl hs t (j+1) sl1 q1' (acc++[u]) X2 (by omega) (by omega) (by simp;omega) l2 o1 r1
   refine ⟨X3,sl2,q2,(Zy ?_).trans e2,by simpa using r2,(l1.stepq.trans s1).trans s2,o2⟩
   rw [JA]
   unfold Jh.l2
   rw [Za Zm,Zb,if_pos (by simpa using hlt),hf,Za Zh,Za d0,Za q1]
   refine (ZZ (vs:=[strv k,z1,z2,sl1,mv,iv M.length,iv j]) (H':=X2) ?_).trans ?_
   ·rw [Zb,if_pos rfl,Za dA,Za a1,Za a2];rfl
   ·rw [JA,Za ZB,Qg (by omega)];rfl
theorem ZBp (h : RG X nv mv N M) (hO : ZjB N M K mem) (hN : N.length≤100) (hM : M.length≤1000) : ∃ X' nv' mv' N' M',R (n+5) ZdK [.agg #[nv,mv],strv k] X=some (.tuple #[.agg #[nv',mv'],iv (Q1 k K)],X')∧RG X' nv' mv' N' M'∧ZjB N' M' (Zch k K) (if Q1 k K=0 then Zbc k mem else mem)∧M'.length≤M.length∧HLe X X':=by
 have f1 : ∀ r X',Jh (R (n+4)) (.agg #[nv,mv]) (strv k) X=some (r,X')→R (n+5) ZdK [.agg #[nv,mv],strv k] X=some (r,X'):=fun r X' hr=>by rw [R,Zsw rfl];exact hr
 obtain ⟨X1,e1,b1,b2,l1,len1⟩:=ZoX h
 have h1:=h.hle l1
 have e2 : ∀ Y : Zd,R (n+4) QP [strv k] Y=some (.bool (Zp k),Y):=fun Y=>Zca (n:=n+1)
 have d0 : ld1 (pa X.length 0) X1=some (nv,X1):=Zv b1 rfl
 have e3 : R (n+4) Zad [nv,strv k] X1=_:=ZtJ (n:=n+3) (x:=k) (by omega) h1.sn
 have same : ∀ e,Q1 k K=e→e≠0→ZjB N M (Zch k K) (if Q1 k K=0 then Zbc k mem else mem):=fun e he hne=>by unfold Zch;rw [if_neg (by rw [he];exact hne),if_neg (by rw [he];exact hne)];exact hO
 cases hn : Zp k
 ·have hE : Q1 k K=10:=by unfold Q1;rw [hn];rfl
  obtain ⟨X2,e4,r4,l4⟩:=Zs7 (e:=10) h l1 b1 b2
  refine ⟨X2,nv,mv,N,M,by rw [hE];refine f1 _ _ ?_;unfold Jh;refine (e1 _).trans ?_;rw [Za (e2 _),hn,Za ZH,Zb,if_pos (by rfl)];exact e4,r4,same _ hE (by decide),Nat.le_refl _,l4⟩
 ·by_cases hk : k∈K
  ·have hE : Q1 k K=0:=by unfold Q1;rw [hn,if_pos rfl,if_pos hk]
   have hkN : k∈N:=(hO.n.mem k).2 hk
   rw [decide_eq_true hkN] at e3
   obtain ⟨X2,sl,q,e4,r4,s4,o4⟩:=ZnP (n:=n+4) (k:=k) (z1:=pt X.length) (z2:=pt (X.length+1)) (by omega) h1.sn N.length 0 (.slice none 0 0) [] [] X1 (by omega) (by omega) (by simp) (.refl _) (by simp) ZA.nil
   rw [show iv ((0 : Nat) : Int)=.int .i64 0 from rfl] at e4
   rw [List.drop_zero,List.nil_append] at r4
   have l4:=s4.hle
   have d1 : ld1 (pa X.length 1) X2=some (mv,X2):=Zv (l4 _ _ b1) rfl
   obtain ⟨X3,sm,qm,e5,r5,s5,o5⟩:=Zoi (n:=n+4) (k:=k) (z1:=pt (X.length+1)) (z2:=sl) hM (h1.hle l4).sm M.length 0 (.slice none 0 0) [] [] X2 (by omega) (by omega) (by simp) (.refl _) (by simp) Qu.nil
   rw [show iv ((0 : Nat) : Int)=.int .i64 0 from rfl] at e5
   rw [List.drop_zero,List.nil_append] at r5
   have l5:=s5.hle
   have r4':=r4.step l5.step (by simp)
   have hbld : bld (.agg #[.slice none 0 0,.slice none 0 0]) [(0,1,sl),(1,1,sm)] X3=some (.agg #[sl,sm],X3):=by
    obtain ⟨a,n1,c1,rfl⟩:=r4.isS
    obtain ⟨a',n2,c2,rfl⟩:=r5.isS
    exact ZC7
   have c2:=l5 _ _ (l4 _ _ b2)
   have hone : ([sl,sm].all oneCell)=true:=by simp [r4.one.1,r5.one.1]
   have w1 : stA 2 (pt (X.length+1)) (.agg #[sl,sm]) X3=some (undef,X3.set (X.length+1) (.cells [sl,sm] 1 false false)):=Kv (vs:=[sl,sm]) c2 rfl rfl hone
   have w2 : ldA 2 (pt (X.length+1)) (X3.set (X.length+1) (.cells [sl,sm] 1 false false))=some (.agg #[sl,sm],X3.set (X.length+1) (.cells [sl,sm] 1 false false)):=ZR (ZM c2) rfl
   have hx1:=l1.len
   have hx2:=l4.len
   refine ⟨X3.set (X.length+1) (.cells [sl,sm] 1 false false),sl,sm,N.filter (fun x=>decide (x≠k)),M.filter (fun u=>!(u.1==k)),?_,⟨⟨q,r4'.setB fun hm=>by have:=o4 _ hm;omega⟩,⟨qm,r5.setB fun hm=>by have:=o5 _ hm;omega⟩⟩,?_,List.length_filter_le _ _,((l1.trans l4).trans l5).setN (by omega)⟩
   ·rw [hE]
    refine f1 _ _ ?_
    unfold Jh
    refine (e1 _).trans ?_
    rw [Za (e2 _),hn,Za ZH,Zb,if_neg (by simp),Za Zh,Za d0,Za e3,Za ZH,Zb,if_neg (by simp),Za Zh,Za d0,Za (h.lenN _),ZT e4,ZE,ZI,Za Zh,Za d1,Za (h.lenM _),ZT e5,ZE,Z3,Za hbld,Za w1,Za w2]
    rfl
   ·unfold Zch
    rw [if_pos hE,if_pos hE]
    refine ⟨⟨hO.n.asc.filter _,fun z=>?_⟩,fun k' z=>?_⟩
    ·rw [List.mem_filter,List.mem_filter,hO.n.mem z]
    ·rw [List.mem_filter,hO.m];unfold Zbc;simp
  ·have hE : Q1 k K=8:=by unfold Q1;rw [hn,if_pos rfl,if_neg hk]
   have hkN : ¬ k∈N:=fun hm=>hk ((hO.n.mem k).1 hm)
   rw [decide_eq_false hkN] at e3
   obtain ⟨X2,e4,r4,l4⟩:=Zs7 (e:=8) h l1 b1 b2
   refine ⟨X2,nv,mv,N,M,by rw [hE];refine f1 _ _ ?_;unfold Jh;refine (e1 _).trans ?_;rw [Za (e2 _),hn,Za ZH,Zb,if_neg (by simp),Za Zh,Za d0,Za e3,Za ZH,Zb,if_pos (by rfl)];exact e4,r4,same _ hE (by decide),Nat.le_refl _,l4⟩
end
end Go.Proofs.YtedkoimihknggaaGreatDoor.A
namespace Go.Proofs.YtedkoimihknggaaGreatDoor.A
set_option linter.unusedVariables false
set_option linter.unusedSimpArgs false
open Go.Proofs Go.Proofs.YtedkoimihknggaaGreatDoor
section
variable {X X' H0 : Zd} {n : Nat} {v nv mv z1 z2 z3 z4 : Value} {N l K : List Tx} {M : List Pr} {mem : Mem} {x s t k m : Tx}
end
end Go.Proofs.YtedkoimihknggaaGreatDoor.A

