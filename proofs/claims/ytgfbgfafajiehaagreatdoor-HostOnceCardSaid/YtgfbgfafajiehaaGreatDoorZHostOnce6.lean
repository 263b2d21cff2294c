/- What the law HostOnce needs (part 6). -/
import Derived.Test.YtgfbgfafajiehaaGreatDoorZHostOnce5
namespace Go.Proofs.YtgfbgfafajiehaaGreatDoor.A
set_option linter.unusedVariables false
set_option linter.unusedSimpArgs false
open Go.Proofs Go.Proofs.YtgfbgfafajiehaaGreatDoor
def ZaN (e : Ent) : Nat:=if Zt e.1 then (if Kr e.2 then 0 else 4) else 10
def ZcV (e : Ent) : Zv:=⟨e.1,e.2,[],false,.slice none 0 0,[]⟩
def ZuV (e : Ent) : List UInt8:=txt e.1++txt e.2
def ZjF (m : List Ent) : List UInt8:=(m.map ZuV).flatten
def ZBQ (m : List Ent) : List UInt8:=le 1 1++(le m.length 2++ZjF m)
theorem ZrV (e : Ent) (H : Zd) : (ZcV e).ok H:=.inl ⟨rfl,.inl rfl⟩
theorem ZA9 (e : Ent) : Zsl (ZcV e)=ZaN e:=by
 unfold Zsl ZaN
 have : Zm7 (ZcV e)=true:=rfl
 rw [this]
 show (if Zt e.1=true then if Kr e.2=true then _ else _ else _)=_
 split
 ·split <;> rfl
 ·rfl
theorem Znl {k : List UInt8} (h : Kr k=true) : k.length≤12:=by
 unfold Kr at h
 simp only [Bool.and_eq_true,decide_eq_true_eq] at h
 exact h.1.2
theorem Zjl {e : Ent} : ZaN e=0↔Zt e.1=true∧Kr e.2=true:=by
 unfold ZaN
 cases Zt e.1 <;> cases Kr e.2 <;> simp
theorem ZbK {s : List UInt8} : (txt s).length=s.length+2:=by unfold txt;rw [List.length_append,Wc];omega
theorem ZvD {e : Ent} (h : ZaN e=0) : (ZuV e).length≤28:=by
 have h1:=KV (Zjl.1 h).1
 have h2:=Znl (Zjl.1 h).2
 unfold ZuV
 rw [List.length_append,ZbK,ZbK];omega
section
variable {H X : Zd} {n p d b : Nat} {sl x v : Value} {own q : List Nat} {bs : List UInt8} {m : List Ent} {e : Ent}
theorem ZE9 (he : ZaN e=0) (hb : bs.length≤100000000) (h : Wtr H p bs own) : ∃ H' own',R (n+7) Zd9 [pt p,iv 1,.agg (usr e).toArray] H=some (.bool true,H')∧Wtr H' p (bs++ZuV e) own'∧Zu (p :: own) H (p :: own') H':=by
 have h1:=KV (Zjl.1 he).1
 have h2:=Znl (Zjl.1 he).2
 have e1 : alc 1 (.agg (usr e).toArray) H=some (pt H.length,H++[.cells (usr e) 1 false false]):=ZCH (ZrV e H)
 have k1 : HLe H (H++[.cells (usr e) 1 false false]):=.app _ _
 have c1 : (H++[Ze.cells (usr e) 1 false false])[H.length]?=some (.cells (usr e) 1 false false):=Zp
 have hne : H.length∉p :: own:=fun hm=>Nat.lt_irrefl _ (h.lt _ hm)
 generalize H++[Ze.cells (usr e) 1 false false]=X1 at e1 k1 c1
 generalize H.length=w at e1 c1 hne
 have d1 : ldA 5 (pt w) X1=some (.agg (usr e).toArray,X1):=Qe (n:=5) c1 rfl
 obtain ⟨X2,e2,k2⟩:=Zw5 (n:=n) (ZrV e X1)
 rw [ZA9,he] at e2
 have e2 : R (n+6) Wx [iv 1,.agg (usr e).toArray] X1=some (iv 0,X2):=e2
 have c2:=k2 _ _ c1
 have q1 : bop .int .neq (iv 0) (.int .i64 0) X2=some (.bool false,X2):=by rw [Zl];rfl
 have a0 : ld1 (pa w 0) X2=some (strv e.1,X2):=Zy c2 rfl
 have a1 : ld1 (pa w 1) X2=some (strv e.2,X2):=Zy c2 rfl
 have w2:=(h.hle k1).hle k2
 obtain ⟨X3,q3,e3,w3,s3⟩:=Zd5 (n:=n+3) (s:=e.1) (by omega) (by omega) w2
 have e3 : R (n+6) Ql [pt p,strv e.1] X2=_:=e3
 have b1 : ld1 (pa w 1) X3=some (strv e.2,X3):=Zy (s3.get c2 hne) rfl
 obtain ⟨X4,q4,e4,w4,s4⟩:=Zd5 (n:=n+3) (s:=e.2) (by omega) (by rw [List.length_append,ZbK];omega) w3
 have e4 : R (n+6) Ql [pt p,strv e.2] X3=_:=e4
 have q2 : bop .int .eql (iv 1) (.int .i64 2) X4=some (.bool false,X4):=by rw [ZE];rfl
 rw [List.append_assoc] at w4
 refine ⟨X4,q4,?_,w4,((k1.trans k2).step.more (by simp) (fun j hj=>.inl hj)).trans (s3.trans s4)⟩
 rw [R,ZoQ rfl]
 unfold ZiF
 rw [Za e1,Za d1,Za e2,Za q1,Zb,if_neg (by simp),Za Zj,Za a0,Za Zj,Za a1,Za e3,Za b1,QY,Za e4,Za q2]
 refine (ZK (vs:=[]) (H':=X4) ?_).trans ?_
 ·rw [Zb,if_neg (by simp)];rfl
 ·rfl
theorem JM.users (hr : JM 5 H v (m.map usr) q) : Users H v (m.map ZcV):=
 ⟨by have h:=hr.rd;rw [List.map_map];exact h,fun u hu=>by obtain ⟨e,_,rfl⟩:=List.mem_map.1 hu;exact ZrV e H⟩
theorem ZAq (hA : m.length≤1000) (hE : ∀ e∈m,ZaN e=0) : ∀ (t k : Nat) (bs : List UInt8) (own : List Nat) (X : Zd),m.length - k=t→k≤m.length→JM 5 X v (m.map usr) q→(∀ j∈q,j∉p :: own)→bs.length+t * 28≤100000→Wtr X p bs own→
  ∃ X' own',Zi (c4 (Wt.l1 (R (n+7)))) [pt p,v,iv m.length,iv k] X=some (.ext 0 [pt p],X')∧Wtr X' p (bs++ZjF (m.drop k)) own'∧Zu (p :: own) X (p :: own') X'
 | 0,k,bs,own,X,ht,hk,hr,hd,hb,h=>by
  have : k=m.length:=by omega
  subst this
  rw [List.drop_length]
  refine ⟨X,own,Qa ?_,by simpa [ZjF] using h,.refl _ _⟩
  rw [ZJ]
  unfold Wt.l1
  rw [Za Zs,Zb,if_neg (by simp)]
  rfl
 | t+1,k,bs,own,X,ht,hk,hr,hd,hb,h=>by
  have hkl : k < m.length:=by omega
  have hlt : (k : Int) < m.length:=by omega
  have hg:=List.getElem?_eq_getElem hkl
  have hdr:=List.drop_eq_getElem_cons hkl
  generalize m[k]=e at hg hdr
  have he:=hE e (List.mem_of_getElem? hg)
  have hrow : (m.map ZcV)[k]?=some (ZcV e):=by rw [List.getElem?_map,hg];rfl
  have hf:=fun {K : Value→M Out}=>(hr.users).fetch (k:=K) hrow
  have k1 : HLe X (X++[Ze.cells (usr e) 1 false false]):=.app _ _
  have c1 : (X++[Ze.cells (usr e) 1 false false])[X.length]?=some (.cells (usr e) 1 false false):=Zp
  change ∀ {K : Value→M Out},_=K _ (X++[Ze.cells (usr e) 1 false false]) at hf
  generalize X++[Ze.cells (usr e) 1 false false]=X1 at k1 c1 hf
  have d1 : ldA 5 (pt X.length) X1=some (.agg (usr e).toArray,X1):=Qe (n:=5) c1 rfl
  obtain ⟨X2,own2,e2,w2,s2⟩:=ZE9 (n:=n) he (by omega) (h.hle k1)
  have hel:=ZvD he
  have s12:=(k1.step.more (o2:=p :: own) (o2':=p :: own) (by simp) (fun j hj=>.inl hj)).trans s2
  have hr2:=hr.step s12 hd
  have hd2 : ∀ j∈q,j∉p :: own2:=fun j hj hm=>by
   rcases s12.own j hm with h1 | h1
   ·exact hd j hj h1
   ·have:=hr.lt j hj;omega
  obtain ⟨X3,own3,e3,w3,s3⟩:=ZAq hA hE t (k+1) (bs++ZuV e) own2 X2 (by omega) (by omega) hr2 hd2 (by rw [List.length_append];omega) w2
  refine ⟨X3,own3,(ZL ?_).trans e3,?_,s12.trans s3⟩
  ·rw [ZJ]
   unfold Wt.l1
   rw [Za Zs,Zb,if_pos (by simpa using hlt)]
   rw [hf,Za d1,Za e2,Za ZF,Jd (by omega)]
   rfl
  ·rw [hdr]
   unfold ZjF at w3 ⊢
   rw [List.map_cons,List.flatten_cons,← List.append_assoc]
   exact w3
theorem Zw1 (h : Dir H d b m) (hE : ∀ e∈YT m,ZaN e=0) (hl : (YT m).length=m.length) : ∃ v H',R (n+8) ZdD [pt d] H=some (v,H')∧Sl H' v (u8s (ZBQ (YT m)))∧HLe H H':=by
 have q0 : bop .ptr .eql (pt d) (.pointer none) H=some (.bool false,H):=Jn
 obtain ⟨z1,z2,w0⟩:=Zsf (H:=H)
 have k0 : HLe H (H++[Ze.cells [.slice none 0 0] 1 false false]):=.app _ _
 have hp0 : H.length≤H.length:=Nat.le_refl _
 generalize H++[Ze.cells [.slice none 0 0] 1 false false]=X0 at z2 w0 k0
 generalize hpp : H.length=p at z2 w0
 have hp : ∀ j∈[p],H.length≤j:=fun j hj=>by have : j=p:=(by simpa using hj);omega
 have hfew:=h.few
 obtain ⟨X1,q1,e1,w1,s1⟩:=Zhn (n:=n+5) (x:=1) (by omega) (by simp) w0
 have e1 : R (n+7) Z0 [pt p,.int .u8 1] X0=_:=e1
 have m1:=k0.more s1 hp
 have e2:=ZFw (n:=n+6) (h.hle m1.1)
 have e2 : R (n+7) Zca [pt d] X1=some (iv m.length,X1):=e2
 have c2 : cvi .u16 (iv m.length) X1=some (.int .u16 m.length,X1):=by rw [QL,Zy3,Int.emod_eq_of_lt (by omega) (by omega)]
 obtain ⟨X2,q2,e3,w2,s2⟩:=ZrQ (n:=n+5) (x:=m.length) (by omega) (by simp [le]) w1
 have e3 : R (n+7) JK [pt p,.int .u16 m.length] X1=_:=e3
 have m2:=m1.1.more s2 m1.2
 obtain ⟨av,qa,X3,e4,r4,l4,o4⟩:=Zvo (n:=n+4) (h.hle m2.1)
 have e4 : R (n+7) WL [pt d] X2=_:=e4
 have w3:=w2.hle l4
 have hlen:=r4.rd.len (H':=X3)
 rw [List.length_map] at hlen
 have hlb : ([]++le 1 1++le m.length 2 : List UInt8).length=3:=by simp [le]
 obtain ⟨X4,q4,e5,w4,s4⟩:=ZAq (n:=n) (m:=YT m) (by omega) hE (YT m).length 0 ([]++le 1 1++le m.length 2) q2 X3 (by omega) (by omega) r4 (fun j hj hm=>by have:=o4 j hj;have:=w2.lt j hm;omega) (by rw [hlb];omega) w3
 have e5 : Zi (c4 (Wt.l1 (R (n+7)))) [pt p,av,iv (YT m).length,.int .i64 0] X3=_:=e5
 rw [List.drop_zero] at w4
 have hbl : ([]++le 1 1++le m.length 2++ZjF (YT m) : List UInt8).length≤1000000000:=by
  have : ∀ (l : List Ent),(∀ e∈l,ZaN e=0)→(ZjF l).length≤l.length * 28:=by
   intro l
   induction l with
   | nil=>intro _;exact Nat.zero_le _
   | cons a l ih=>
    intro hh
    have h1:=ZvD (hh a (by simp))
    have h2:=ih fun e he=>hh e (by simp [he])
    unfold ZjF at h2 ⊢
    rw [List.map_cons,List.flatten_cons,List.length_append,List.length_cons];omega
  have:=this _ hE
  rw [List.length_append,hlb];omega
 have m4:=(m2.1.trans l4).more s4 m2.2
 obtain ⟨v,qv,X5,e6,r6,l6,o6⟩:=Zo5 (n:=n+5) hbl w4
 have e6 : R (n+7) JH [pt p] X4=_:=e6
 refine ⟨v,X5,?_,?_,m4.1.trans l6⟩
 ·rw [R,ZtV rfl]
  unfold Wt
  rw [Za q0,Zb,if_neg (by simp),Za z1,Za z2,Za e1,Za e2,Za c2,Za e3,Za e4,Za hlen,QG e5,ZI,Jy,Za e6]
  rfl
 ·have:=r6.rd
  unfold ZBQ
  rw [hl]
  simpa [List.append_assoc] using this
end
end Go.Proofs.YtgfbgfafajiehaaGreatDoor.A
namespace Go.Proofs.YtgfbgfafajiehaaGreatDoor.A
set_option linter.unusedVariables false
set_option linter.unusedSimpArgs false
open Go.Proofs Go.Proofs.YtgfbgfafajiehaaGreatDoor
def ofN (l : List Ent) : Nat:=(ofE (l.map ZcV)).toNat
section
variable {H X : Zd} {n p d b : Nat} {sl x v : Value} {own q : List Nat} {bs : List UInt8} {m : List Ent} {e : Ent} {s : RSt}
theorem Rdr.step {o1 o2 : List Nat} (h : Rdr H p s) (hs : Zu o1 H o2 X) (hn : ∀ j∈o1,p < j) : Rdr X p s:=by
 obtain ⟨sl,h1,h2,h3,h4⟩:=h
 refine ⟨sl,hs.get h1 fun hm=>Nat.lt_irrefl _ (hn _ hm),h2.keep fun j hj=>hs.keep j ?_ fun hm=>?_,h3,h4⟩
 ·have:=h3 j hj;have:=Z6 h1;omega
 ·have:=h3 j hj;have:=hn j hm;omega
end
end Go.Proofs.YtgfbgfafajiehaaGreatDoor.A
namespace Go.Proofs.YtgfbgfafajiehaaGreatDoor.A
set_option linter.unusedVariables false
set_option linter.unusedSimpArgs false
open Go.Proofs Go.Proofs.YtgfbgfafajiehaaGreatDoor
section
variable {H0 H X : Zd} {n p d b : Nat} {u w : Zv} {us ws : List Zv} {sl a c v : Value} {bs : List UInt8} {m : List Ent}
end
end Go.Proofs.YtgfbgfafajiehaaGreatDoor.A

namespace Go.Proofs.YtgfbgfafajiehaaGreatDoor.A
set_option linter.unusedVariables false
set_option linter.unusedSimpArgs false
open Go.Proofs Go.Proofs.YtgfbgfafajiehaaGreatDoor
section
variable {H0 H X : Zd} {n p d b : Nat} {a c v : Value} {bs s : List UInt8} {β : Type} {K : Value→M β}
theorem HLe.put {H0 X : Zd} (h : HLe H0 X) {b : Nat} {o : Ze} (hb : H0.length≤b) : HLe H0 (X.set b o):=fun i v hi=>by
 have:=Z6 hi
 rw [List.getElem?_set_ne (by omega)]
 exact h i v hi
theorem bx {vs : List Value} (h1 : vs.all oneCell=true) : alc 1 (.agg vs.toArray) X=some (pt X.length,X++[.cells vs 1 false false]):=Zir h1
theorem ZCV {vs cs : List Value} {es : Nat} (hc : X[p]?=some (.cells cs es false false)) (h2 : cs.length=n) (hv : vs.length=n) (h1 : vs.all oneCell=true) :
  bind (stA n (pt p) (.agg vs.toArray)) (fun _=>bind (ldA n (pt p)) K) X=K (.agg vs.toArray) (X.set p (.cells vs es false false)):=by
 rw [Za (Zb7 hc h2 hv h1),Za (Qe (Z8 hc) hv)]
end
end Go.Proofs.YtgfbgfafajiehaaGreatDoor.A

namespace Go.Proofs.YtgfbgfafajiehaaGreatDoor.A
set_option linter.unusedVariables false
set_option linter.unusedSimpArgs false
open Go.Proofs Go.Proofs.YtgfbgfafajiehaaGreatDoor
abbrev RR (s : RSt) : List Value:=[strv s.2,iv s.1]
theorem ZEn (s : RSt) : (RR s).all oneCell=true:=rfl
section
variable {H0 H X : Zd} {n p d b : Nat} {a c v : Value} {bs : List UInt8} {β : Type} {K : Value→M β} {s : RSt}
end
end Go.Proofs.YtgfbgfafajiehaaGreatDoor.A

namespace Go.Proofs.YtgfbgfafajiehaaGreatDoor.A
set_option linter.unusedVariables false
set_option linter.unusedSimpArgs false
open Go.Proofs Go.Proofs.YtgfbgfafajiehaaGreatDoor
section
variable {H0 H X : Zd} {n p d b : Nat} {a c v : Value} {bs : List UInt8} {s : RSt} {q : List Nat}
theorem JM.us {m : List Ent} (h : JM 5 H v (m.map usr) q) : YP H v (m.map ZcV):=h.users.s (fun u hu=>by obtain ⟨e,_,rfl⟩:=List.mem_map.1 hu;exact Nat.zero_le _)
end
end Go.Proofs.YtgfbgfafajiehaaGreatDoor.A

namespace Go.Proofs.YtgfbgfafajiehaaGreatDoor.A
set_option linter.unusedVariables false
set_option maxRecDepth 100000
set_option linter.unusedSimpArgs false
open Go.Proofs Go.Proofs.YtgfbgfafajiehaaGreatDoor
def ZmD (b : Bool) : List UInt8:=le (if b then 1 else 0) 1
def ZpH (l : List Tx) : List UInt8:=le l.length 2++(l.map txt).flatten
def Zr1 (k : ZaM) : List UInt8:=txt k.1++(txt k.2.1++(txt k.2.2.1++(ZmD k.2.2.2.1++ZpH k.2.2.2.2)))
def Zgl (l : List ZaM) : List UInt8:=(l.map Zr1).flatten
def Zse (K : List Tx) (ks : List ZaM) : List UInt8:=le 2 1++(ZpH K++(le ks.length 2++Zgl ks))
def uOf (k : ZaM) : Zv:=⟨k.1,k.2.1,k.2.2.1,k.2.2.2.1,.slice none 0 0,k.2.2.2.2⟩
def Zpt (k : ZaM) : Nat:=(Jw (uOf k)).toNat
def ofK (ks : List ZaM) (gs : List Tx) : Nat:=(Zbs (ks.map uOf) gs).toNat
section
variable {s : RSt} {k : ZaM} {ks : List ZaM} {l K : List Tx} {r t : List UInt8} {us : List Zv}
theorem ZCx (k : ZaM) : JN (uOf k)=k:=rfl
theorem Zr8 (ks : List ZaM) : (ks.map uOf).map JN=ks:=by
 rw [List.map_map]
 exact (List.map_congr_left fun a _=>ZCx a).trans (List.map_id ks)
theorem ZpI {u : Zv} : 0≤Jw u∧Jw u≤12:=by
 unfold Jw Zgw
 repeat' split
 all_goals exact ⟨by decide,by decide⟩
theorem ZzX {u w : Zv} (h : JN u=JN w) : Jw u=Jw w:=by
 have h1 : u.nm=w.nm:=congrArg (·.1) h
 have h2 : u.hs=w.hs:=congrArg (·.2.1) h
 have h3 : u.ml=w.ml:=congrArg (·.2.2.1) h
 have h4 : u.gs=w.gs:=congrArg (·.2.2.2.2) h
 unfold Jw
 rw [h1,h2,h3,h4]
theorem ZxV {u : Zv} : Jw u=Zpt (JN u):=by
 unfold Zpt
 rw [Int.toNat_of_nonneg ZpI.1]
 exact ZzX rfl
theorem Zrc : ∀ {us : List Zv},0≤Yc us
 | []=>Int.le_refl _
 | u :: us=>by
  unfold Yc
  split
  ·exact Zrc
  ·exact ZpI.1
theorem ZBY {gs : List Tx} {p : List Zv} {u : Zv} : 0≤ZeW gs p u:=by
 unfold ZeW
 repeat' split
 all_goals decide
theorem ZuP {gs : List Tx} : ∀ {us p : List Zv},0≤ZaG gs p us
 | [],p=>by unfold ZaG;exact Int.le_refl _
 | u :: us,p=>by
  unfold ZaG
  split
  ·exact ZuP
  ·exact ZBY
theorem ZDC : 0≤ZcR us l:=by
 unfold ZcR Zkt
 have:=Zrc (us:=us)
 repeat' split
 all_goals first | exact this | decide
theorem ZvL : 0≤Zbs us l:=by
 unfold Zbs
 split
 ·exact ZuP
 ·exact ZDC
theorem ZDk : Zbs us l=ofK (us.map JN) l:=by
 unfold ofK
 rw [Int.toNat_of_nonneg ZvL]
 exact ZB7 (Zr8 _).symm
theorem Zx6 {m : Tx} (h : Zdq m=true) : m.length≤20:=by
 rcases Znc h with h | ⟨h,_⟩
 ·rw [h];decide
 ·unfold J2 at h
  rw [Bool.and_eq_true,decide_eq_true_eq] at h
  exact h.1
structure Zq4 (k : ZaM) : Prop where
 n : k.1.length≤12
 h : k.2.1.length≤12
 m : k.2.2.1.length≤20
 g : k.2.2.2.2.length≤6
 gs : ∀ x∈k.2.2.2.2,x.length≤12
theorem ZCP (h : Zpt k=0) : Zq4 k:=by
 have h0 : Jw (uOf k)=0:=by
  have:=ZpI (u:=uOf k)
  unfold Zpt at h
  omega
 obtain ⟨h1,h2,h3,h4,h5,_⟩:=Zhm h0
 exact ⟨KV h1,Znl h2,Zx6 h3,h4,fun x hx=>KV (List.all_eq_true.1 h5 x hx)⟩
theorem ZFH (h : ofK ks l=0) : (∀ k∈ks,Zpt k=0)∧ks.length≤12∧l.length≤6∧(∀ x∈l,x.length≤12)∧Y6 l=true∧l.all Zt=true:=by
 have h0 : Zbs (ks.map uOf) l=0:=by
  have:=ZvL (us:=ks.map uOf) (l:=l)
  unfold ofK at h
  omega
 have hc : ZcR (ks.map uOf) l=0:=by
  unfold Zbs at h0
  by_cases hc : ZcR (ks.map uOf) l=0
  ·exact hc
  ·rw [if_neg hc] at h0;exact h0
 obtain ⟨h1,_,h3,h4,h5,h6⟩:=Zz8 hc
 rw [List.length_map] at h3
 refine ⟨fun k hk=>?_,h3,h6,fun x hx=>KV (List.all_eq_true.1 h4 x hx),h5,h4⟩
 have:=ZlH h1 (uOf k) (List.mem_map.2 ⟨k,hk,rfl⟩)
 unfold Zpt
 rw [this];rfl
theorem Zme {b : Nat} : ∀ {l : List Tx},(∀ x∈l,x.length≤b)→((l.map txt).flatten).length≤l.length * (b+2)
 | [],_=>by simp
 | x :: l,h=>by
  have h1:=h x (by simp)
  have h2:=Zme (b:=b) (l:=l) fun y hy=>h y (by simp [hy])
  rw [List.map_cons,List.flatten_cons,List.length_append,ZbK,List.length_cons,Nat.add_mul]
  omega
theorem Zpz {b : Nat} (h : ∀ x∈l,x.length≤b) : (ZpH l).length≤2+l.length * (b+2):=by
 unfold ZpH
 rw [List.length_append,Wc]
 have:=Zme h
 omega
theorem ZqN (b : Bool) : (ZmD b).length=1:=by unfold ZmD;rw [Wc]
theorem Zv5 (h : Zq4 k) : (Zr1 k).length≤137:=by
 unfold Zr1
 rw [List.length_append,List.length_append,List.length_append,List.length_append,ZbK,ZbK,ZbK,ZqN]
 have h1:=Zpz h.gs
 have h2:=h.g
 have:=h.n
 have:=h.h
 have:=h.m
 have h3 : k.2.2.2.2.length * (12+2)≤6 * (12+2):=Nat.mul_le_mul_right _ h2
 omega
theorem Zrj : ∀ {ks : List ZaM},(∀ k∈ks,Zq4 k)→(Zgl ks).length≤ks.length * 137
 | [],_=>by simp [Zgl]
 | k :: ks,h=>by
  have h1:=Zv5 (h k (by simp))
  have h2:=Zrj (ks:=ks) fun y hy=>h y (by simp [hy])
  unfold Zgl at h2 ⊢
  rw [List.map_cons,List.flatten_cons,List.length_append,List.length_cons,Nat.add_mul]
  omega
theorem ZBC (h : ∀ k∈ks,Zq4 k) (hn : ks.length≤12) (hl : l.length≤6) (hx : ∀ x∈l,x.length≤12) : (Zse l ks).length≤1733:=by
 unfold Zse
 rw [List.length_append,List.length_append,List.length_append,Wc,Wc]
 have h1:=Zpz hx
 have h2:=Zrj h
 have h3 : l.length * (12+2)≤6 * (12+2):=Nat.mul_le_mul_right _ hl
 have h4 : ks.length * 137≤12 * 137:=Nat.mul_le_mul_right _ hn
 omega
end
end Go.Proofs.YtgfbgfafajiehaaGreatDoor.A

namespace Go.Proofs.YtgfbgfafajiehaaGreatDoor.A
set_option linter.unusedVariables false
set_option maxRecDepth 100000
set_option linter.unusedSimpArgs false
open Go.Proofs Go.Proofs.YtgfbgfafajiehaaGreatDoor
section
variable {H X X' : Zd} {n p d c : Nat} {r : NR} {s : NSt} {sl x v gv sv : Value} {own q : List Nat} {bs : List UInt8} {l : List Tx} {u : Zv} {us : List Zv}
theorem Zhx : ∀ {l : List Tx},l.Pairwise (· < ·)→Y6 l=true
 | [],_=>rfl
 | [a],_=>rfl
 | a :: b :: l,h=>by
  rw [ZiC,Bool.and_eq_true,decide_eq_true_eq]
  have h1:=List.pairwise_cons.1 h
  exact ⟨h1.1 b (by simp),Zhx h1.2⟩
theorem ND0.kname (hd : ND0 X d r s c) {k : Tx} (hk : k∈s.K) : Zt k=true:=by
 rw [← hd.ks] at hk
 obtain ⟨p,hp,rfl⟩:=List.mem_map.1 hk
 exact hd.gr.ok p hp
theorem Zma (hO : ROK s us) (hP : Zpx s) (hN : ∀ k∈s.K,Zt k=true) (hu : u∈us) : Jw u=0∧(∀ g∈u.gs,g∈s.K)∧u.ml=(Zf u.nm s.OF).getD []:=by
 have hat:=hO.at hu
 unfold Yx at hat
 cases ha : Zf u.nm s.A with
 | none=>rw [ha] at hat;cases hat
 | some p=>
  rw [ha] at hat
  have hk : Zbr s u.nm p=JN u:=Option.some.inj hat
  have h1 : p.1=u.hs:=congrArg (·.2.1) hk
  have h2 : (Zf u.nm s.OF).getD []=u.ml:=congrArg (·.2.2.1) hk
  have h3 : ofL u.nm s.K s.mem=u.gs:=congrArg (·.2.2.2.2) hk
  have hnm:=hP.i.nm _ (KN ha)
  have hin : ∀ g∈u.gs,g∈s.K:=fun g hg=>by
   rw [← h3] at hg
   exact (((ZmK hP.k.nod).mem g).1 hg).1
  refine ⟨?_,hin,h2.symm⟩
  unfold Jw Zgw
  rw [show Zt u.nm=true from hnm.1,← h1,show Kr p.1=true from hnm.2]
  have hm : Zdq u.ml=true:=by
   unfold Zdq
   rw [← h2]
   cases ho : Zf u.nm s.OF with
   | none=>rfl
   | some m=>
    obtain ⟨g1,g2⟩:=hP.i.good _ m ho
    show (m==[] || (J2 m && Qy m==m))=true
    rw [g1,g2]
    simp
  have hl : u.gs.length≤6:=by
   rw [← h3]
   exact Nat.le_trans Zjb hP.k.few
  have hall : u.gs.all Zt=true:=List.all_eq_true.2 fun g hg=>hN g (hin g hg)
  have hr : Y6 u.gs=true:=by
   rw [← h3]
   exact Zhx (ZmK hP.k.nod).asc
  rw [hm,hall,hr]
  simp only [if_true]
  rw [if_neg (by omega)]
theorem ZsD {gs : List Tx} : ∀ {us prev : List Zv},(∀ (i : Nat) (u : Zv),us[i]?=some u→ZeW gs (prev++us.take i) u=0)→ZaG gs prev us=0
 | [],prev,_=>by unfold ZaG;rfl
 | u :: us,prev,h=>by
  have h0:=h 0 u rfl
  rw [List.take_zero,List.append_nil] at h0
  unfold ZaG
  rw [if_pos h0]
  refine ZsD fun i w hi=>?_
  have h1:=h (i+1) w (by simpa using hi)
  rw [List.take_succ_cons] at h1
  rwa [List.append_assoc]
theorem ZFd (hO : ROK s us) (hP : Zpx s) (hN : ∀ k∈s.K,Zt k=true) : Zbs us (Z7 s.K)=0:=by
 have hlen:=hO.len hP.n
 have hfew:=hP.i.few
 have h1 : Yc us=0:=by
  have hall : ∀ u∈us,Jw u=0:=fun u hu=>(Zma hO hP hN hu).1
  clear hO hlen
  induction us with
  | nil=>rfl
  | cons u us ih=>
   unfold Yc
   rw [if_pos (hall u (by simp))]
   exact ih fun w hw=>hall w (by simp [hw])
 have h2 : Y6 (us.map (·.nm))=true:=by
  refine Zhx ?_
  rw [List.pairwise_map]
  exact hO.rise
 have h3 : (Z7 s.K).all Zt=true:=List.all_eq_true.2 fun g hg=>hN g (W7.1 hg)
 have h4 : Y6 (Z7 s.K)=true:=Zhx (ZiG hP.k.nod)
 have h5 : (Z7 s.K).length≤6:=by rw [ZaZ];exact hP.k.few
 have hc : ZcR us (Z7 s.K)=0:=by
  unfold ZcR Zkt
  have x1 : ¬ 12 < us.length:=by omega
  have x2 : ¬ 6 < (Z7 s.K).length:=by omega
  rw [h1,h2,h3,h4]
  simp [x1,x2,hP.k.few]
 unfold Zbs
 rw [if_pos hc]
 refine ZsD fun i u hi=>?_
 rw [List.nil_append]
 have hum:=List.mem_of_getElem? hi
 obtain ⟨_,hg,hm⟩:=Zma hO hP hN hum
 unfold ZeW
 have hall : (u.gs.all fun g=>decide (g∈Z7 s.K))=true:=List.all_eq_true.2 fun g hgm=>by
  rw [decide_eq_true_eq]
  exact W7.2 (hg g hgm)
 rw [hall,if_pos rfl,if_neg]
 rintro ⟨hne,hany⟩
 obtain ⟨w,hw,hwe⟩:=List.any_eq_true.1 hany
 have hwm:=List.mem_of_mem_take hw
 obtain ⟨_,_,hm2⟩:=Zma hO hP hN hwm
 have hwe : u.ml=w.ml:=by simpa using hwe
 have h6 : ∀ v : Zv,v.ml=(Zf v.nm s.OF).getD []→v.ml≠[]→Zf v.ml s.OW=some v.nm:=fun v hv hvne=>by
  cases ho : Zf v.nm s.OF with
  | none=>rw [ho] at hv;exact absurd hv hvne
  | some m=>
   rw [ho] at hv
   have hv : v.ml=m:=hv
   rw [hv]
   exact (hP.x.inv _ _).1 ho
 have h7:=h6 u hm hne
 have h8:=h6 w hm2 (by rw [← hwe];exact hne)
 rw [← hwe,h7] at h8
 have h9 : u.nm=w.nm:=Option.some.inj h8
 have hri:=hO.rise
 unfold Zer at hri
 rw [← List.take_append_drop i us,List.pairwise_append] at hri
 have hud : u∈us.drop i:=by
  have hil:=(List.getElem?_eq_some_iff.1 hi).1
  rw [List.drop_eq_getElem_cons hil]
  have:=List.getElem?_eq_getElem hil
  rw [hi] at this
  rw [← Option.some.inj this]
  simp
 have:=hri.2.2 w hw u hud
 rw [h9] at this
 exact absurd this (List.lt_irrefl _)
theorem ROK.allK (hn : (Wr s).Nodup) : ROK s ((A.allK s).map uOf):=⟨by
 have h:=ZtO hn
 unfold Zer
 rw [List.pairwise_map]
 exact h,fun key=>by rw [Zr8];exact Zvl hn⟩
theorem ZES (hd : ND X d r s c) : ofK (A.allK s) (Z7 s.K)=0:=by
 have:=ZFd (ROK.allK hd.pinv.n) hd.pinv fun k hk=>hd.toND0.kname hk
 rw [ZDk,Zr8] at this
 omega
theorem ZB4 {b : Bool} (hb : bs.length≤100000000000) (h : Wtr H p bs own) : ∃ H' own',R (n+3) WD [pt p,.bool b] H=some (pt p,H')∧Wtr H' p (bs++ZmD b) own'∧Zu (p :: own) H (p :: own') H':=by
 obtain ⟨H',own',e,w,s⟩:=Zhn (n:=n) (x:=if b then 1 else 0) (by cases b <;> decide) hb h
 refine ⟨H',own',?_,w,s⟩
 rw [R,ZjU rfl]
 unfold ZcD
 cases b
 ·have e : R (n+2) Z0 [pt p,.int .u8 0] H=_:=e
  rw [Zb,if_neg (by simp),Za e]
  rfl
 ·have e : R (n+2) Z0 [pt p,.int .u8 1] H=_:=e
  rw [Zb,if_pos rfl,Za e]
  rfl
theorem Zo.whole {vs : List Value} (h : Zo X v vs q) : ∃ sv,slv 1 v none (some (iv vs.length)) none X=some (sv,X)∧Sl X sv vs∧∀ j,A.own1 sv=some j→j∈q:=by
 have b1 : ∀ d,bnd (some (iv vs.length)) d=some vs.length:=fun d=>by simp [bnd]
 have b2 : ∀ d,bnd none d=some d:=fun _=>rfl
 rcases h with ⟨rfl,rfl,rfl⟩ | ⟨sid,rest,g,rfl,rfl,hid⟩
 ·exact ⟨.slice none 0 0,rfl,Sl.nil,fun j hj=>by cases hj⟩
 ·by_cases h0 : vs.length+rest.length=0
  ·have hv : vs=[]:=List.eq_nil_of_length_eq_zero (by omega)
   subst hv
   refine ⟨.slice (some ⟨sid,0,some (bif g then 1 else 0)⟩) 0 0,?_,⟨_,_,rfl,(fun e=>by cases e),rfl⟩,fun j hj=>by cases hj⟩
   simp only [slv,hid,b1,b2]
   rw [if_pos ⟨trivial,by omega,by omega,Nat.le_refl _⟩,if_pos (by omega)]
  ·refine ⟨.slice (some ⟨sid,0,none⟩) vs.length (vs.length+rest.length),?_,⟨some ⟨sid,0,none⟩,_,rfl,(fun e=>by cases e),?_⟩,fun j hj=>by cases hj;simp⟩
   ·simp only [slv,hid,b1,b2]
    rw [if_pos ⟨trivial,by omega,by omega,Nat.le_refl _⟩,if_neg (by omega)]
    simp
   ·simp only [Qu,hid]
    rw [if_pos (by simp)]
    simp
theorem Zyi (hl : ∀ x∈l,x.length≤1000) (hn : l.length≤1000) : ∀ (t j : Nat) (bs : List UInt8) (own : List Nat) (X : Zd),l.length - j=t→j≤l.length→Sl X sv (l.map strv)→(∀ i,own1 sv=some i→i∉p :: own∧i < X.length)→bs.length+t * 1002≤100000000→Wtr X p bs own→
  ∃ X' own',Zi (c4 (YQ.l1 (R (n+3)))) [pt p,sv,iv l.length,iv j] X=some (.ext 0 [pt p],X')∧Wtr X' p (bs++((l.drop j).map txt).flatten) own'∧Zu (p :: own) X (p :: own') X'
 | 0,j,bs,own,X,ht,hj,hs,hd,hb,h=>by
  rw [List.drop_eq_nil_of_le (by omega)]
  refine ⟨X,own,Qa ?_,by simpa using h,.refl _ _⟩
  rw [ZJ,show j=l.length by omega]
  unfold YQ.l1
  rw [Za Zs,Zb,if_neg (by simp)]
  rfl
 | t+1,j,bs,own,X,ht,hj,hs,hd,hb,h=>by
  have hkl : j < l.length:=by omega
  have hlt : (j : Int) < l.length:=by omega
  have hg:=List.getElem?_eq_getElem hkl
  have hdr:=List.drop_eq_getElem_cons hkl
  generalize l[j]=y at hg hdr
  have hy:=hl y (List.mem_of_getElem? hg)
  have x1:=hs.ix (i:=j) (by simpa using hkl) .i64 X
  have x2:=hs.ldx (KM hg)
  obtain ⟨X1,own1',e1,w1,s1⟩:=Zd5 (n:=n) (s:=y) (by omega) (by omega) h
  have hs1 : Sl X1 sv (l.map strv):=hs.keep fun i hi=>s1.keep i (hd i hi).2 (hd i hi).1
  have hd1 : ∀ i,A.own1 sv=some i→i∉p :: own1'∧i < X1.length:=fun i hi=>⟨fun hm=>by
   rcases s1.own i hm with h1 | h1
   ·exact (hd i hi).1 h1
   ·have:=(hd i hi).2;omega,Nat.lt_of_lt_of_le (hd i hi).2 s1.len⟩
  obtain ⟨X2,own2,e2,w2,s2⟩:=Zyi hl hn t (j+1) (bs++txt y) own1' X1 (by omega) (by omega) hs1 hd1 (by rw [List.length_append,ZbK];omega) w1
  refine ⟨X2,own2,(ZL ?_).trans e2,?_,s1.trans s2⟩
  ·rw [ZJ]
   unfold YQ.l1
   rw [Za Zs,Zb,if_pos (by simpa using hlt),Za x1,Za x2,Za e1,Za ZF,Jd (by omega)]
   rfl
  ·rw [hdr,List.map_cons,List.flatten_cons,← List.append_assoc]
   exact w2
theorem ZA6 (hl : ∀ x∈l,x.length≤1000) (hn : l.length≤1000) (hr : Zo H gv (l.map strv) q) (hd : ∀ j∈q,j∉p :: own) (hb : bs.length≤10000000) (h : Wtr H p bs own) : ∃ H' own',R (n+4) Kt [pt p,gv] H=some (pt p,H')∧Wtr H' p (bs++ZpH l) own'∧Zu (p :: own) H (p :: own') H':=by
 have hlen : ZC gv H=some (iv l.length,H):=by have:=hr.rd.len (H':=H);simpa using this
 have hm : mxi false (iv l.length) (.int .i64 65535) H=some (iv l.length,H):=by
  rw [YE,if_neg (by omega)]
 obtain ⟨sv,e1,s1,o1⟩:=hr.whole
 rw [List.length_map] at e1
 have hsl : ∀ Y,ZC sv Y=some (iv l.length,Y):=fun Y=>by have:=s1.len (H':=Y);simpa using this
 have c1 : cvi .u16 (iv l.length) H=some (.int .u16 l.length,H):=by rw [QL,Zy3,Int.emod_eq_of_lt (by omega) (by omega)]
 obtain ⟨X1,own1',e2,w2,st2⟩:=ZrQ (n:=n+1) (x:=l.length) (by omega) (by omega) h
 have e2 : R (n+3) JK [pt p,.int .u16 l.length] H=_:=e2
 have hs1 : Sl X1 sv (l.map strv):=s1.keep fun i hi=>st2.keep i (hr.lt i (o1 i hi)) (hd i (o1 i hi))
 have hd1 : ∀ i,A.own1 sv=some i→i∉p :: own1'∧i < X1.length:=fun i hi=>⟨fun hm=>by
  rcases st2.own i hm with h1 | h1
  ·exact hd i (o1 i hi) h1
  ·have:=hr.lt i (o1 i hi);omega,Nat.lt_of_lt_of_le (hr.lt i (o1 i hi)) st2.len⟩
 obtain ⟨X2,own2,e3,w3,st3⟩:=Zyi (n:=n) (p:=p) hl hn l.length 0 (bs++le l.length 2) own1' X1 (by omega) (by omega) hs1 hd1 (by rw [List.length_append,Wc];omega) w2
 rw [show iv ((0 : Nat) : Int)=.int .i64 0 from rfl] at e3
 rw [List.drop_zero,List.append_assoc] at w3
 refine ⟨X2,own2,?_,w3,st2.trans st3⟩
 rw [R,Zl0 rfl]
 unfold YQ
 rw [Za hlen,Za hm,Za e1,Za (hsl _),Za c1,Za e2,Za (hsl _),QG e3,ZI]
 rfl
theorem ZEU {u : Zv} : Zr1 (JN u)=txt u.nm++(txt u.hs++(txt u.ml++(ZmD u.ds++ZpH u.gs))):=rfl
theorem Zc2 {o1 o2 : List Nat} (hs : Zu o1 X o2 X') {q : List Nat} (hl : ∀ j∈q,j < X.length) (hd : ∀ j∈q,j∉o1) : ∀ j∈q,j∉o2:=fun j hj hm=>by
 rcases hs.own j hm with h1 | h1
 ·exact hd j hj h1
 ·have:=hl j hj;omega
theorem ZC3 (he : Jw u=0) (hr : Zo H u.gv (u.gs.map strv) q) (hd : ∀ j∈q,j∉p :: own) (hb : bs.length≤1000000) (h : Wtr H p bs own) : ∃ H' own',R (n+11) Zd9 [pt p,iv 2,.agg u.cells.toArray] H=some (.bool true,H')∧Wtr H' p (bs++Zr1 (JN u)) own'∧Zu (p :: own) H (p :: own') H':=by
 obtain ⟨b1,b2,b3,b4,b5,b6⟩:=Zhm he
 have hnl:=KV b1
 have hhl:=Znl b2
 have hml:=Zx6 b3
 have hgl : ∀ x∈u.gs,x.length≤1000:=fun x hx=>by have:=KV (List.all_eq_true.1 b5 x hx);omega
 have ok0 : UOK H u:=⟨hr.rd,hr.one.1,by omega⟩
 have e1:=ok0.cells1
 have k1 : HLe H (H++[.cells u.cells 1 false false]):=.app _ _
 have c1 : (H++[Ze.cells u.cells 1 false false])[H.length]?=some (.cells u.cells 1 false false):=Zp
 have hne : H.length∉p :: own:=fun hm=>Nat.lt_irrefl _ (h.lt _ hm)
 have hq1:=hr.lt
 generalize H++[Ze.cells u.cells 1 false false]=X1 at e1 k1 c1
 have d1 : ldA 5 (pt H.length) X1=some (.agg u.cells.toArray,X1):=Qe (n:=5) c1 rfl
 obtain ⟨X2,e2,k2⟩:=ZlB (n:=n) (ok0.hle k1)
 rw [he] at e2
 have c2:=k2 _ _ c1
 have k12:=k1.trans k2
 have q1 : bop .int .neq (iv 0) (.int .i64 0) X2=some (.bool false,X2):=by rw [Zl];rfl
 have w2:=h.hle k12
 have hr2:=hr.step k12.step (by simp)
 generalize H.length=w at e1 c1 hne d1 c2
 obtain ⟨X3,q3,e3,w3,s3⟩:=Zd5 (n:=n+7) (s:=u.nm) (by omega) (by omega) w2
 have e3 : R (n+10) Ql [pt p,strv u.nm] X2=_:=e3
 have c3:=s3.get c2 hne
 have hwl:=Z6 c2
 have n3 : w∉p :: q3:=fun hm=>by
  rcases s3.own w hm with h1 | h1
  ·exact hne h1
  ·omega
 have l3 : (txt u.nm).length≤14:=by rw [ZbK];omega
 have l4 : (txt u.hs).length≤14:=by rw [ZbK];omega
 have l5 : (txt u.ml).length≤22:=by rw [ZbK];omega
 obtain ⟨X4,q4,e4,w4,s4⟩:=Zd5 (n:=n+7) (s:=u.hs) (by omega) (by rw [List.length_append];omega) w3
 have e4 : R (n+10) Ql [pt p,strv u.hs] X3=_:=e4
 have c4:=s4.get c3 n3
 have hwl3:=Z6 c3
 have n4 : w∉p :: q4:=fun hm=>by
  rcases s4.own w hm with h1 | h1
  ·exact n3 h1
  ·omega
 obtain ⟨X5,q5,e5,w5,s5⟩:=Zd5 (n:=n+7) (s:=u.ml) (by omega) (by rw [List.length_append,List.length_append];omega) w4
 have e5 : R (n+10) Ql [pt p,strv u.ml] X4=_:=e5
 have c5:=s5.get c4 n4
 have hwl4:=Z6 c4
 have n5 : w∉p :: q5:=fun hm=>by
  rcases s5.own w hm with h1 | h1
  ·exact n4 h1
  ·omega
 obtain ⟨X6,q6,e6,w6,s6⟩:=ZB4 (n:=n+7) (b:=u.ds) (by rw [List.length_append,List.length_append,List.length_append];omega) w5
 have e6 : R (n+10) WD [pt p,.bool u.ds] X5=_:=e6
 have c6:=s6.get c5 n5
 have a2:=hr2.lt
 have r3:=hr2.step s3 hd
 have f3:=Zc2 s3 a2 hd
 have r4:=r3.step s4 f3
 have f4:=Zc2 s4 r3.lt f3
 have r5:=r4.step s5 f4
 have f5:=Zc2 s5 r4.lt f4
 have r6:=r5.step s6 f5
 have f6:=Zc2 s6 r5.lt f5
 obtain ⟨X7,q7,e7,w7,s7⟩:=ZA6 (n:=n+6) hgl (by omega) r6 f6 (by rw [List.length_append,List.length_append,List.length_append,List.length_append,ZqN];omega) w6
 have e7 : R (n+10) Kt [pt p,u.gv] X6=_:=e7
 have q2 : bop .int .eql (iv 2) (.int .i64 2) X4=some (.bool true,X4):=by rw [ZE];rfl
 have a : ∀ {Y : Zd},Y[w]?=some (.cells u.cells 1 false false)→∀ f x,u.cells[f]?=some x→ld1 (pa w f) Y=some (x,Y):=fun hY f x h=>Zy hY h
 refine ⟨X7,q7,?_,by rw [ZEU];simpa [List.append_assoc] using w7,(k12.stepq).trans ((((s3.trans s4).trans s5).trans s6).trans s7)⟩
 rw [R,ZoQ rfl]
 unfold ZiF
 rw [Za e1,Za d1,Za e2,Za q1,Zb,if_neg (by simp),Za Zj,Za (a c2 0 _ rfl),Za Zj,Za (a c2 1 _ rfl),Za e3,Za (a c3 1 _ rfl),QY,Za e4,Za q2]
 refine (ZK (vs:=[]) (H':=X7) ?_).trans ?_
 ·rw [Zb,if_pos rfl,Za Zj,Za (a c4 2 _ rfl),Za Zj,Za (a c4 3 _ rfl),Za Zj,Za (a c4 4 _ rfl),Za e5,Za (a c5 4 _ rfl),QY,Za (a c5 3 _ rfl),QY,Za e6,Za (a c6 4 _ rfl),QY,Za e7]
  rfl
 ·rfl
theorem Zx0 (hn : us.length≤100) (hE : ∀ u∈us,Jw u=0) : ∀ (t k : Nat) (bs : List UInt8) (own : List Nat) (X : Zd),us.length - k=t→k≤us.length→JM 5 X v (us.map Zv.cells) q→(∀ j∈q,j∉p :: own)→(∀ u∈us,∃ qu,Zo X u.gv (u.gs.map strv) qu∧∀ j∈qu,j∉p :: own)→bs.length+t * 137≤100000→Wtr X p bs own→
  ∃ X' own',Zi (c4 (WA.l1 (R (n+11)))) [pt p,v,iv us.length,iv k] X=some (.ext 0 [pt p],X')∧Wtr X' p (bs++Zgl ((us.drop k).map JN)) own'∧Zu (p :: own) X (p :: own') X'
 | 0,k,bs,own,X,ht,hk,hr,hd,hu,hb,h=>by
  rw [List.drop_eq_nil_of_le (by omega)]
  refine ⟨X,own,Qa ?_,by simpa [Zgl] using h,.refl _ _⟩
  rw [ZJ,show k=us.length by omega]
  unfold WA.l1
  rw [Za Zs,Zb,if_neg (by simp)]
  rfl
 | t+1,k,bs,own,X,ht,hk,hr,hd,hu,hb,h=>by
  have hkl : k < us.length:=by omega
  have hlt : (k : Int) < us.length:=by omega
  have hg:=List.getElem?_eq_getElem hkl
  have hdr:=List.drop_eq_getElem_cons hkl
  generalize us[k]=u at hg hdr
  have hum:=List.mem_of_getElem? hg
  have he:=hE u hum
  obtain ⟨qu,u1,u2⟩:=hu u hum
  have hf:=fun {K : Value→M Out}=>Zsg (k:=K) hr.rd u1.one.1 hg
  have k1 : HLe X (X++[Ze.cells u.cells 1 false false]):=.app _ _
  have c1 : (X++[Ze.cells u.cells 1 false false])[X.length]?=some (.cells u.cells 1 false false):=Zp
  generalize X++[Ze.cells u.cells 1 false false]=X1 at k1 c1 hf
  have d1 : ldA 5 (pt X.length) X1=some (.agg u.cells.toArray,X1):=Qe (n:=5) c1 rfl
  obtain ⟨X2,own2,e2,w2,s2⟩:=ZC3 (n:=n) he (u1.step k1.step (by simp)) u2 (by omega) (h.hle k1)
  have hgk : Zq4 (JN u):=ZCP (by rw [← Int.toNat_natCast (Zpt (JN u)),← ZxV,he];rfl)
  have hel:=Zv5 hgk
  have s12:=(k1.stepq (q:=p :: own)).trans s2
  have hu2 : ∀ u∈us,∃ qu,Zo X2 u.gv (u.gs.map strv) qu∧∀ j∈qu,j∉p :: own2:=fun w hw=>by
   obtain ⟨qw,w1,w2⟩:=hu w hw
   exact ⟨qw,w1.step s12 w2,Zc2 s12 w1.lt w2⟩
  obtain ⟨X3,own3,e3,w3,s3⟩:=Zx0 hn hE t (k+1) (bs++Zr1 (JN u)) own2 X2 (by omega) (by omega) (hr.step s12 hd) (Zc2 s12 hr.lt hd) hu2 (by rw [List.length_append];omega) w2
  refine ⟨X3,own3,(ZL ?_).trans e3,?_,s12.trans s3⟩
  ·rw [ZJ]
   unfold WA.l1
   rw [Za Zs,Zb,if_pos (by simpa using hlt),hf,Za d1,Za e2,Za ZF,Jd (by omega)]
   rfl
  ·rw [hdr]
   unfold Zgl at w3 ⊢
   rw [List.map_cons,List.map_cons,List.flatten_cons,← List.append_assoc]
   exact w3
theorem Zwg (hd : ND X d r s c) : ∃ v q H',R (n+12) ZeN [pt d] X=some (v,H')∧Zo H' v (u8s (Zse (Z7 s.K) (A.allK s))) q∧HLe X H'∧∀ j∈q,X.length≤j:=by
 have hgood:=ZES hd
 obtain ⟨g1,g2,g3,g4,_,_⟩:=ZFH hgood
 have q0 : bop .ptr .eql (pt d) (.pointer none) X=some (.bool false,X):=Jn
 obtain ⟨z1,z2,w0⟩:=Zsf (H:=X)
 have k0 : HLe X (X++[Ze.cells [.slice none 0 0] 1 false false]):=.app _ _
 generalize X++[Ze.cells [.slice none 0 0] 1 false false]=X0 at z2 w0 k0
 generalize hpp : X.length=p at z2 w0
 have hp : ∀ j∈[p],X.length≤j:=fun j hj=>by have : j=p:=(by simpa using hj);omega
 obtain ⟨X1,q1,e1,w1,s1⟩:=Zhn (n:=n+9) (x:=2) (by omega) (by simp) w0
 have e1 : R (n+11) Z0 [pt p,.int .u8 2] X0=_:=e1
 have m1:=k0.more s1 hp
 rw [List.nil_append] at w1
 obtain ⟨vg,qg,X2,e2,r2,l2,o2⟩:=ZBl (n:=n+7) (hd.hle m1.1)
 have e2 : R (n+11) Zav [pt d] X1=_:=e2
 have w2:=w1.hle l2
 have m12:=m1.1.trans l2
 have dg : ∀ j∈qg,j∉p :: q1:=fun j hj hm=>by have:=o2 j hj;have:=w1.lt j hm;omega
 obtain ⟨X3,q3,e3,w3,s3⟩:=ZA6 (n:=n+7) (l:=Z7 s.K) (fun x hx=>by have:=g4 x hx;omega) (by omega) r2 dg (by rw [Wc];omega) w2
 have e3 : R (n+11) Kt [pt p,vg] X2=_:=e3
 have m3:=m12.more s3 m1.2
 have e4 : R (n+11) Zb2 [pt d] X3=some (iv s.A.length,X3):=ZE0 (n:=n+10) (hd.hle m3.1)
 have hfew:=hd.inv.few
 have c4 : cvi .u16 (iv s.A.length) X3=some (.int .u16 s.A.length,X3):=by rw [QL,Zy3,Int.emod_eq_of_lt (by omega) (by omega)]
 have hlr:=Zpz (b:=12) g4
 have hlr2 : (Z7 s.K).length * (12+2)≤6 * (12+2):=Nat.mul_le_mul_right _ g3
 obtain ⟨X4,q4,e5,w4,s4⟩:=ZrQ (n:=n+9) (x:=s.A.length) (by omega) (by rw [List.length_append,Wc];omega) w3
 have e5 : R (n+11) JK [pt p,.int .u16 s.A.length] X3=_:=e5
 have m4:=m3.1.more s4 m3.2
 obtain ⟨va,qa,us,X5,e6,o6,u6,l6⟩:=ZED (n:=n+3) (hd.hle m4.1)
 have e6 : R (n+11) Zb3 [pt d] X4=_:=e6
 have w5:=w4.hle l6
 have hlen : us.length=s.A.length:=by
  have h1:=congrArg List.length u6
  unfold A.allK at h1
  rw [List.length_map,List.length_map,ZaZ] at h1
  simpa using h1
 have hla : ZC va X5=some (iv us.length,X5):=by have:=o6.r.rd.len (H':=X5);rwa [List.length_map] at this
 have hE : ∀ u∈us,Jw u=0:=fun u hu=>by
  have:=g1 (JN u) (by rw [← u6];exact List.mem_map.2 ⟨u,hu,rfl⟩)
  rw [ZxV,this];rfl
 have da : ∀ j,X4.length≤j→j∉p :: q4:=fun j hj hm=>by have:=w4.lt j hm;omega
 obtain ⟨X6,q6,e7,w6,s6⟩:=Zx0 (n:=n) (p:=p) (us:=us) (by omega) hE us.length 0 _ q4 X5 (by omega) (by omega) o6.r (fun j hj=>da j (o6.o j hj)) (fun u hu=>by
  obtain ⟨qu,a1,a2,_⟩:=o6.u u hu
  exact ⟨qu,a1,fun j hj=>da j (a2 j hj).1⟩) (by rw [List.length_append,List.length_append,Wc,Wc];omega) w5
 rw [show iv ((0 : Nat) : Int)=.int .i64 0 from rfl] at e7
 rw [List.drop_zero,u6] at w6
 have m6:=(m4.1.trans l6).more s6 m4.2
 have heq : le 2 1++ZpH (Z7 s.K)++le s.A.length 2++Zgl (A.allK s)=Zse (Z7 s.K) (A.allK s):=by
  unfold Zse
  have : (A.allK s).length=s.A.length:=by rw [← u6,List.length_map,hlen]
  rw [this]
  simp [List.append_assoc]
 rw [heq] at w6
 have hel:=ZBC (fun k hk=>ZCP (g1 k hk)) g2 g3 g4
 obtain ⟨v,qv,X7,e8,r7,l7,o7⟩:=Zo5 (n:=n+9) (by omega) w6
 have e8 : R (n+11) JH [pt p] X6=_:=e8
 refine ⟨v,qv,X7,?_,r7,m6.1.trans l7,fun j hj=>by have h1:=o7 j hj;have h2:=m6.1.len;omega⟩
 rw [R,Zst rfl]
 unfold WA
 rw [Za q0,Zb,if_neg (by simp),Za z1,Za z2,Za e1,Za e2,Za e3,Za e4,Za c4,Za e5,Za e6,Za hla,QG e7,ZI,Jy,Za e8]
 rfl
end
end Go.Proofs.YtgfbgfafajiehaaGreatDoor.A

namespace Go.Proofs.YtgfbgfafajiehaaGreatDoor.A
set_option linter.unusedVariables false
set_option linter.unusedSimpArgs false
open Go.Proofs Go.Proofs.YtgfbgfafajiehaaGreatDoor
variable {X X' Y : Zd} {n : Nat} {o : OpT}
def GlX (X : Zd) : Prop:=X[0]?=some (.cells (ZaQ.map strv) 1 false true)
theorem GlX.le (h : GlX X) (hl : HLe X X') : GlX X':=hl _ _ h
def GlH (X : Zd) : Prop:=X.take gl.length=gl
theorem GlH.at (h : GlH X) {i : Nat} (hi : i < 4) : X[i]?=gl[i]?:=by
 have : (X.take gl.length)[i]?=gl[i]?:=by rw [h]
 rwa [List.getElem?_take,if_pos (show i < gl.length from hi)] at this
theorem GlH.x (h : GlH X) : GlX X:=h.at (by omega)
theorem GlH.of (h : ∀ i,i < 4→X[i]?=gl[i]?) : GlH X:=by
 apply List.ext_getElem?
 intro i
 rw [List.getElem?_take]
 split
 ·exact h i ‹_›
 ·rw [List.getElem?_eq_none (Nat.le_of_not_lt ‹_›)]
theorem ZzY {i : Nat} (hi : i < 4) : ∃ o,gl[i]?=some o:=⟨gl[i]'hi,List.getElem?_eq_getElem hi⟩
theorem GlH.le (h : GlH X) (hl : HLe X X') : GlH X':=.of fun i hi=>by
 obtain ⟨o,ho⟩:=ZzY hi
 rw [ho]
 exact hl _ _ ((h.at hi).trans ho)
theorem GlH.step {o1 o2 : List Nat} (h : GlH X) (hs : Zu o1 X o2 X') (hn : ∀ j∈o1,4≤j) : GlH X':=.of fun i hi=>by
 obtain ⟨o,ho⟩:=ZzY hi
 rw [ho]
 exact hs.get ((h.at hi).trans ho) fun hm=>by have:=hn i hm;omega
theorem Zi8 (o : OpT) (X : Zd) : alc 1 (.agg o.cells.toArray) X=some (pt X.length,X++[.cells o.cells 1 false false]):=rfl
theorem Zea {p f : Nat} {x : Value} (h : X[p]?=some (.cells o.cells 1 false false)) (hf : o.cells[f]?=some x) : ld1 (pa p f) X=some (x,X):=Zy h hf
theorem ZAJ {c : UInt8} (hc : c=97∨c=98∨c=110∨c=114) : ∃ X',R (n+1) ZfP [.agg o.cells.toArray,.int .u8 c.toNat] X=some (.bool (Zjg o c),X')∧HLe X X':=by
 have e1:=Zi8 o X
 have k1 : HLe X (X++[.cells o.cells 1 false false]):=.app _ _
 have c1 : (X++[Ze.cells o.cells 1 false false])[X.length]?=some (.cells o.cells 1 false false):=Zp
 generalize X++[Ze.cells o.cells 1 false false]=X1 at e1 k1 c1
 generalize X.length=p at e1 c1
 have l3 : ld1 (pa p 3) X1=some (.int .u8 o.nd,X1):=Zy c1 rfl
 have l4 : ld1 (pa p 4) X1=some (.int .u8 o.rl,X1):=Zy c1 rfl
 refine ⟨X1,?_,k1⟩
 rw [R,Zuf rfl]
 unfold Zi2
 rw [Za e1,Za ZE]
 rcases hc with rfl | rfl | rfl | rfl
 ·rw [Zb,if_neg (by decide),Za ZE,Zb,if_neg (by decide)];rfl
 ·rw [Zb,if_neg (by decide),Za ZE,Zb,if_neg (by decide)];rfl
 ·rw [Zb,if_pos (by decide),Za Zj,Za l3,Za Zs]
  have : decide ((o.nd : Int) < 7)=decide (o.nd < 7):=by rw [decide_eq_decide];omega
  rw [this]
  rfl
 ·rw [Zb,if_neg (by decide),Za ZE,Zb,if_pos (by decide),Za Zj,Za l4,Za Qp]
  have h1 : decide ((o.rl : Int)≥1)=decide (1≤o.rl):=by rw [decide_eq_decide];omega
  have h2 : decide ((o.rl : Int)≤3)=decide (o.rl≤3):=by rw [decide_eq_decide];omega
  rw [h1]
  have hr : Zjg o 114=(decide (1≤o.rl) && decide (o.rl≤3)):=rfl
  rw [hr]
  cases decide (1≤o.rl)
  ·rw [Za (show gate (.bool false) true 3 _ X1=some ([QK,QK,QK],X1) from rfl),ZR,Za Zm]
   rfl
  ·rw [ZX,Zk,Za Zj,Zk,Za l4,Zk,Za Jg,Qi,ZR,Za Zm,h2]
   rfl
theorem ZEu {q : Nat} {s : Tx} {i : Nat} {c : UInt8} (h : X[q]?=some (.siter ⟨s.toArray⟩ i)) (hc : s[i]?=some c) (ha : c.toNat < 128) :
  ZhZ (pt q) X=some (.tuple #[.bool true,iv i,.int .i32 c.toNat],X.set q (.siter ⟨s.toArray⟩ (i+1))):=by
 have hi : i < s.length:=(List.getElem?_eq_some_iff.1 hc).1
 have hd : Utf8.decode ⟨s.toArray⟩ i=(c.toNat,1):=by
  have hg : (ByteArray.mk s.toArray).get! i=c:=by
   have h1 : s.toArray[i]?=some c:=by simpa using hc
   simp [ByteArray.get!,h1,hc]
  unfold Utf8.decode
  simp only [Nat.add_zero,hg]
  exact if_pos ha
 have hlt : i < (ByteArray.mk s.toArray).size:=by show i < s.toArray.size;simpa using hi
 have e : ZhZ (pt q) X=(match X[q]? with
  | some (.siter s pos)=>
   if pos < s.size then some (.tuple #[.bool true,.int .i64 pos,.int .i32 ((Utf8.decode s pos).1 : Nat)],X.set q (.siter s (pos+(Utf8.decode s pos).2)))
   else some (.tuple #[.bool false],X)
  | _=>none):=rfl
 rw [e,h]
 simp only [hd,hlt,if_true]
theorem ZD4 {q : Nat} {s : Tx} {i : Nat} (h : X[q]?=some (.siter ⟨s.toArray⟩ i)) (hi : s.length≤i) : ZhZ (pt q) X=some (.tuple #[.bool false],X):=by
 unfold ZhZ
 simp only
 rw [h]
 simp only
 rw [if_neg (by simpa [ByteArray.size] using hi)]
def Zj5 (c : UInt8) : Prop:=c=97∨c=98∨c=110∨c=114
instance (c : UInt8) : Decidable (Zj5 c):=by unfold Zj5;infer_instance
theorem ZAI (o : OpT) : ∀ c∈sgn o,Zj5 c:=by
 have : ∀ k,∀ c∈ZaQ.getD k [],Zj5 c:=by
  intro k
  match k with
  | 0=>decide
  | 1=>decide
  | 2=>decide
  | 3=>decide
  | 4=>decide
  | 5=>decide
  | 6=>decide
  | 7=>decide
  | 8=>decide
  | 9=>decide
  | 10=>decide
  | 11=>decide
  | 12=>decide
  | 13=>decide
  | 14=>decide
  | 15=>decide
  | 16=>decide
  | k+17=>intro c hc;simp [ZaQ] at hc
 exact this _
theorem Zyl (o : OpT) : (sgn o).length≤2:=by
 have : ∀ k,(ZaQ.getD k []).length≤2:=by
  intro k
  match k with
  | 0=>decide
  | 1=>decide
  | 2=>decide
  | 3=>decide
  | 4=>decide
  | 5=>decide
  | 6=>decide
  | 7=>decide
  | 8=>decide
  | 9=>decide
  | 10=>decide
  | 11=>decide
  | 12=>decide
  | 13=>decide
  | 14=>decide
  | 15=>decide
  | 16=>decide
  | k+17=>simp [ZaQ]
 exact this _
theorem Zj5.lt {c : UInt8} (h : Zj5 c) : c.toNat < 128:=by
 rcases h with rfl | rfl | rfl | rfl <;> decide
theorem ZCi (h : GlH X) (hk : o.kd < 17) : R (n+1) W3 [.agg o.cells.toArray] X=some (.agg (ZeI o).cells.toArray,X):=by
 have hf : ZrB [.agg o.cells.toArray]=some (.agg (ZeI o).cells.toArray):=by
  show (if 0≤(o.kd : Int)∧(o.kd : Int) < 17 then some (ZuA (o.kd : Int).toNat ⟨o.a.toArray⟩ ⟨o.b.toArray⟩ o.nd o.rl) else none)=_
  rw [if_pos ⟨by omega,by omega⟩]
  have e1 : sgk ((o.kd : Int).toNat)=sgn o:=rfl
  unfold ZuA
  rw [e1]
  unfold ZeI OpT.cells
  congr 2
  simp only [List.contains_iff_mem,Int.toNat_natCast]
  by_cases h1 : (97 : UInt8)∈sgn o <;> by_cases h2 : (98 : UInt8)∈sgn o <;> by_cases h3 : (110 : UInt8)∈sgn o <;> by_cases h4 : (114 : UInt8)∈sgn o <;> simp [h1,h2,h3,h4] <;> first | exact ⟨rfl,rfl⟩ | rfl
 have : R (n+1) W3 [.agg o.cells.toArray]=ZhS gl ZrB [.agg o.cells.toArray]:=rfl
 rw [this]
 exact ZBr hf h
structure ZhN (X0 Y : Zd) (o : OpT) (p1 p2 q : Nat) (s : Tx) (i : Nat) (bs : List UInt8) (own : List Nat) : Prop where
 le : HLe X0 Y
 c1 : Y[p1]?=some (.cells o.cells 1 false false)
 w : Wtr Y p2 bs own
 it : Y[q]?=some (.siter ⟨s.toArray⟩ i)
 n2 : ∀ j∈p2 :: own,X0.length≤j
 nq : X0.length≤q
 d1 : p1∉p2 :: own
 dq : q∉p2 :: own
 d1q : p1≠q
variable {X0 : Zd} {p1 p2 q : Nat} {s : Tx} {i : Nat} {bs : List UInt8} {own : List Nat}
theorem ZhN.turn (h : ZhN X0 Y o p1 p2 q s i bs own) : ZhN X0 (Y.set q (.siter ⟨s.toArray⟩ (i+1))) o p1 p2 q s (i+1) bs own:=by
 have hlt : q < Y.length:=Z6 h.it
 exact ⟨h.le.put h.nq,by rw [List.getElem?_set_ne (Ne.symm h.d1q)];exact h.c1,h.w.keep fun j hj=>List.getElem?_set_ne (fun e=>h.dq (by rw [e];exact hj)),by rw [List.getElem?_set_self hlt],h.n2,h.nq,h.d1,h.dq,h.d1q⟩
theorem ZhN.more {Y' : Zd} {bs' : List UInt8} {own' : List Nat} (h : ZhN X0 Y o p1 p2 q s i bs own) (hw : Wtr Y' p2 bs' own') (hs : Zu (p2 :: own) Y (p2 :: own') Y') : ZhN X0 Y' o p1 p2 q s i bs' own':=by
 obtain ⟨m1,m2⟩:=h.le.more hs h.n2
 have hn : ∀ a,a < Y.length→a∉p2 :: own→a∉p2 :: own':=fun a ha hna hm=>by
  rcases hs.own a hm with h1 | h1
  ·exact hna h1
  ·omega
 exact ⟨m1,hs.get h.c1 h.d1,hw,hs.get h.it h.dq,m2,h.nq,hn _ (Z6 h.c1) h.d1,hn _ (Z6 h.it) h.dq,h.d1q⟩
theorem ZyF {c : UInt8} (h : ZhN X0 Y o p1 p2 q s i bs own) (hc : s[i]?=some c) (hs : Zj5 c) (ha : o.a.length≤65535) (hb : o.b.length≤65535) (hok : Zln o) (hbs : bs.length≤1000000) :
  ∃ Y' own',Wv.l1 (R (n+3)) (pt p1) (pt p2) (pt q) Y=some (.nrm [pt p1,pt p2,pt q],Y')∧ZhN X0 Y' o p1 p2 q s (i+1) (bs++ZpY o c) own':=by
 have e1:=ZEu h.it hc hs.lt
 have h1:=h.turn
 generalize Y.set q (.siter ⟨s.toArray⟩ (i+1))=Y1 at e1 h1
 have hl : ∀ f x,o.cells[f]?=some x→ld1 (pa p1 f) Y1=some (x,Y1):=fun f x hx=>Zy h1.c1 hx
 unfold Wv.l1
 rcases hs with rfl | rfl | rfl | rfl
 ·obtain ⟨Y2,own',e2,w2,s2⟩:=Zd5 (n:=n) ha (by omega) h1.w
  refine ⟨Y2,own',?_,h1.more w2 s2⟩
  rw [Za e1,Za Qs,Zb,if_pos rfl,Za Qv,Za (show bop .int .eql (.int .i32 ((97 : UInt8).toNat : Nat)) (.int .i32 97) Y1=some (.bool true,Y1) from rfl)]
  rw [ZK (vs:=[pt p1,pt p2,pt q]) (H':=Y2) (by rw [Zb,if_pos rfl,Za Zj,Za (hl 1 _ rfl),Za e2];rfl),ZR]
  rfl
 ·obtain ⟨Y2,own',e2,w2,s2⟩:=Zd5 (n:=n) hb (by omega) h1.w
  refine ⟨Y2,own',?_,h1.more w2 s2⟩
  rw [Za e1,Za Qs,Zb,if_pos rfl,Za Qv,Za (show bop .int .eql (.int .i32 ((98 : UInt8).toNat : Nat)) (.int .i32 97) Y1=some (.bool false,Y1) from rfl)]
  rw [ZK (vs:=[pt p1,pt p2,pt q]) (H':=Y2) (by
   rw [Zb,if_neg (by simp),Za (show bop .int .eql (.int .i32 ((98 : UInt8).toNat : Nat)) (.int .i32 98) Y1=some (.bool true,Y1) from rfl)]
   rw [ZK (vs:=[pt p1,pt p2,pt q]) (H':=Y2) (by rw [Zb,if_pos rfl,Za Zj,Za (hl 2 _ rfl),Za e2];rfl),ZR]
   rfl),ZR]
  rfl
 ·obtain ⟨Y2,own',e2,w2,s2⟩:=Zhn (n:=n+1) (x:=o.nd) (by have:=hok.nd;omega) (by omega) h1.w
  refine ⟨Y2,own',?_,h1.more w2 s2⟩
  rw [Za e1,Za Qs,Zb,if_pos rfl,Za Qv,Za (show bop .int .eql (.int .i32 ((110 : UInt8).toNat : Nat)) (.int .i32 97) Y1=some (.bool false,Y1) from rfl)]
  rw [ZK (vs:=[pt p1,pt p2,pt q]) (H':=Y2) (by
   rw [Zb,if_neg (by simp),Za (show bop .int .eql (.int .i32 ((110 : UInt8).toNat : Nat)) (.int .i32 98) Y1=some (.bool false,Y1) from rfl)]
   rw [ZK (vs:=[pt p1,pt p2,pt q]) (H':=Y2) (by
    rw [Zb,if_neg (by simp),Za (show bop .int .eql (.int .i32 ((110 : UInt8).toNat : Nat)) (.int .i32 110) Y1=some (.bool true,Y1) from rfl)]
    rw [ZK (vs:=[pt p1,pt p2,pt q]) (H':=Y2) (by rw [Zb,if_pos rfl,Za Zj,Za (hl 3 _ rfl),Za e2];rfl),ZR]
    rfl),ZR]
   rfl),ZR]
  rfl
 ·obtain ⟨Y2,own',e2,w2,s2⟩:=Zhn (n:=n+1) (x:=o.rl) (by have:=hok.rl;omega) (by omega) h1.w
  refine ⟨Y2,own',?_,h1.more w2 s2⟩
  rw [Za e1,Za Qs,Zb,if_pos rfl,Za Qv,Za (show bop .int .eql (.int .i32 ((114 : UInt8).toNat : Nat)) (.int .i32 97) Y1=some (.bool false,Y1) from rfl)]
  rw [ZK (vs:=[pt p1,pt p2,pt q]) (H':=Y2) (by
   rw [Zb,if_neg (by simp),Za (show bop .int .eql (.int .i32 ((114 : UInt8).toNat : Nat)) (.int .i32 98) Y1=some (.bool false,Y1) from rfl)]
   rw [ZK (vs:=[pt p1,pt p2,pt q]) (H':=Y2) (by
    rw [Zb,if_neg (by simp),Za (show bop .int .eql (.int .i32 ((114 : UInt8).toNat : Nat)) (.int .i32 110) Y1=some (.bool false,Y1) from rfl)]
    rw [ZK (vs:=[pt p1,pt p2,pt q]) (H':=Y2) (by
     rw [Zb,if_neg (by simp),Za (show bop .int .eql (.int .i32 ((114 : UInt8).toNat : Nat)) (.int .i32 114) Y1=some (.bool true,Y1) from rfl)]
     rw [ZK (vs:=[pt p1,pt p2,pt q]) (H':=Y2) (by rw [Zb,if_pos rfl,Za Zj,Za (hl 4 _ rfl),Za e2];rfl),ZR]
     rfl),ZR]
    rfl),ZR]
   rfl),ZR]
  rfl
theorem Zu2 (ha : o.a.length≤65535) (hb : o.b.length≤65535) (c : UInt8) : (ZpY o c).length≤65537:=by
 unfold ZpY
 split
 ·unfold txt;rw [List.length_append,Wc];omega
 ·split
  ·unfold txt;rw [List.length_append,Wc];omega
  ·split
   ·rw [Wc];omega
   ·split
    ·rw [Wc];omega
    ·simp
theorem ZvS (ha : o.a.length≤65535) (hb : o.b.length≤65535) (hok : Zln o) (hsg : ∀ c∈s,Zj5 c) : ∀ (t i : Nat) (bs : List UInt8) (own : List Nat) (Y : Zd),s.length - i=t→i≤s.length→bs.length+65537 * t≤1000000→ZhN X0 Y o p1 p2 q s i bs own→
  ∃ Y' own',Zi (c3 (Wv.l1 (R (n+3)))) [pt p1,pt p2,pt q] Y=some (.ext 0 [pt p2],Y')∧ZhN X0 Y' o p1 p2 q s s.length (bs++((s.drop i).map (ZpY o)).flatten) own'
 | 0,i,bs,own,Y,ht,hi,hbs,h=>by
  have hi : i=s.length:=by omega
  subst hi
  refine ⟨Y,own,Qa ?_,by rw [List.drop_length];simpa using h⟩
  rw [ZR]
  unfold Wv.l1
  rw [Za (ZD4 h.it (Nat.le_refl _)),Za ZEO,Zb,if_neg (by simp)]
  rfl
 | t+1,i,bs,own,Y,ht,hi,hbs,h=>by
  have hlt : i < s.length:=by omega
  have hg:=List.getElem?_eq_getElem hlt
  have hd:=List.drop_eq_getElem_cons hlt
  have hm:=hsg _ (List.getElem_mem hlt)
  generalize s[i]=c at hg hd hm
  obtain ⟨Y1,own1,e1,h1⟩:=ZyF (n:=n) h hg hm ha hb hok (by omega)
  obtain ⟨Y2,own2,e2,h2⟩:=ZvS ha hb hok hsg t (i+1) _ own1 Y1 (by omega) (by omega) (by have:=Zu2 (o:=o) ha hb c;rw [List.length_append];omega) h1
  refine ⟨Y2,own2,(ZL (by rw [ZR];exact e1)).trans e2,?_⟩
  rw [hd,List.map_cons,List.flatten_cons,← List.append_assoc]
  exact h2
theorem ZzU (hG : GlX X) (hk : o.kd < 17) (hok : Zln o) (ha : o.a.length≤65535) (hb : o.b.length≤65535) :
  ∃ v q X',R (n+4) ZfJ [.agg o.cells.toArray] X=some (v,X')∧Zo X' v (u8s (ZeC o)) q∧HLe X X':=by
 have e1:=Zi8 o X
 have k1 : HLe X (X++[Ze.cells o.cells 1 false false]):=.app _ _
 have c1 : (X++[Ze.cells o.cells 1 false false])[X.length]?=some (.cells o.cells 1 false false):=Zp
 have n1 : X.length≤X.length:=Nat.le_refl _
 generalize X++[Ze.cells o.cells 1 false false]=X1 at e1 k1 c1
 generalize hp1 : X.length=p1 at e1 c1 n1
 obtain ⟨z1,z2,w0⟩:=Zsf (H:=X1)
 have k2 : HLe X1 (X1++[Ze.cells [.slice none 0 0] 1 false false]):=.app _ _
 generalize X1++[Ze.cells [.slice none 0 0] 1 false false]=X2 at z2 w0 k2
 generalize hp2 : X1.length=p2 at z2 w0
 have hlt1 : p1 < X1.length:=Z6 c1
 have c2:=k2 _ _ c1
 obtain ⟨X3,own,e3,w3,s3⟩:=Zhn (n:=n+1) (x:=o.kd) (by omega) (by simp) w0
 have hn2 : ∀ j∈[p2],X.length≤j:=fun j hj=>by have : j=p2:=(by simpa using hj);omega
 obtain ⟨m3,o3⟩:=(k1.trans k2).more s3 hn2
 have hd1 : p1∉([p2] : List Nat):=by simp;omega
 have c3:=s3.get c2 hd1
 have hlt2 : p1 < X2.length:=Z6 c2
 have hd3 : p1∉p2 :: own:=fun hm=>by
  rcases s3.own p1 hm with h1 | h1
  ·exact hd1 h1
  ·omega
 have hl2 : ld1 (pa p1 0) X2=some (.int .u8 o.kd,X2):=Zy c2 rfl
 have hl3 : ld1 (pa p1 0) X3=some (.int .u8 o.kd,X3):=Zy c3 rfl
 have hsig : ld1 (.pointer (some ⟨0,o.kd,none⟩)) X3=some (strv (sgn o),X3):=by
  have h0:=hG.le m3
  have h1 : (ZaQ.map strv)[o.kd]?=some (strv (sgn o)):=by
   rw [List.getElem?_map]
   have : ZaQ[o.kd]?=some (sgn o):=by
    unfold sgn
    rw [List.getD_eq_getElem?_getD,List.getElem?_eq_getElem (by simpa [ZaQ] using hk)]
    rfl
   rw [this]
   rfl
  exact Zy (id:=0) h0 h1
 have hix : WO 17 1 (.pointer (some ⟨0,0,none⟩)) (.int .u8 o.kd) X3=some (.pointer (some ⟨0,o.kd,none⟩),X3):=by
  rw [QM,if_pos ⟨by omega,by omega⟩]
  simp
 have er : Zmd (strv (sgn o)) X3=some (pt X3.length,X3++[.siter ⟨(sgn o).toArray⟩ 0]):=rfl
 have k4 : HLe X3 (X3++[Ze.siter ⟨(sgn o).toArray⟩ 0]):=.app _ _
 have c4 : (X3++[Ze.siter ⟨(sgn o).toArray⟩ 0])[X3.length]?=some (.siter ⟨(sgn o).toArray⟩ 0):=Zp
 have w4:=w3.hle k4
 have hq : ∀ j∈p2 :: own,j < X3.length:=w3.lt
 generalize X3++[Ze.siter ⟨(sgn o).toArray⟩ 0]=X4 at er k4 c4 w4
 have hlen3:=m3.len
 generalize hqq : X3.length=q at er c4 hq hlen3
 have h4 : ZhN X X4 o p1 p2 q (sgn o) 0 ([]++le o.kd 1) own:=
  ⟨m3.trans k4,k4 _ _ c3,w4,c4,o3,by omega,hd3,fun hm=>by have:=hq q hm;omega,fun e=>by have:=Z6 c3;omega⟩
 have hsl:=Zyl o
 obtain ⟨X5,own5,e5,h5⟩:=ZvS (n:=n) ha hb hok (ZAI o) (sgn o).length 0 _ own X4 (by omega) (by omega) (by simp [Wc];omega) h4
 rw [List.drop_zero] at h5
 have hwl : ([]++le o.kd 1++((sgn o).map (ZpY o)).flatten).length≤1000000000:=by
  have hf : ∀ l : Tx,((l.map (ZpY o)).flatten).length≤l.length * 65537:=by
   intro l
   induction l with
   | nil=>simp
   | cons c l ih=>
    have:=Zu2 (o:=o) ha hb c
    simp only [List.map_cons,List.flatten_cons,List.length_append,List.length_cons]
    omega
  have:=hf (sgn o)
  rw [List.length_append,List.nil_append,Wc]
  omega
 obtain ⟨v,qv,X6,e6,r6,l6,_⟩:=Zo5 (n:=n+1) hwl h5.w
 refine ⟨v,qv,X6,?_,by simpa [ZeC] using r6,h5.le.trans l6⟩
 have e3 : R (n+3) Z0 [pt p2,.int .u8 o.kd] X2=_:=e3
 have e6 : R (n+3) JH [pt p2] X5=_:=e6
 rw [R,Zut rfl]
 unfold Wv
 rw [Za e1,Za z1,Za z2,Za Zj,Za hl2,Za e3,Za Zj,Za hl3,Za hix,Za hsig,Za er,QG e5,ZI,Jy,Za e6]
 rfl
theorem ZEx (a b : Tx) : ((⟨a.toArray⟩ : ByteArray)==⟨b.toArray⟩)=decide (a=b):=by
 rw [Znm]
 by_cases h : a=b
 ·subst h;simp
 ·rw [decide_eq_false h]
  simp [h]
theorem ZD8 (a b : Nat) : (((a : Nat) : Int)==(b : Nat))=decide (a=b):=by
 by_cases h : a=b
 ·subst h;simp
 ·rw [decide_eq_false h]
  exact beq_false_of_ne fun e=>h (Int.ofNat.inj e)
theorem Zs4 {ks : List FK} {q : IntKind} {a b : Nat} {xs ys : List Value} : eqF (.int :: ks) (.int q a :: xs) (.int q b :: ys)=if a=b then eqF ks xs ys else some false:=by
 show (if q=q then (bif ((a : Int)==b) then eqF ks xs ys else some false) else none)=_
 rw [if_pos rfl,ZD8]
 by_cases h : a=b
 ·rw [decide_eq_true h,if_pos h];rfl
 ·rw [decide_eq_false h,if_neg h];rfl
theorem ZxZ {ks : List FK} {a b : Tx} {xs ys : List Value} : eqF (.str :: ks) (strv a :: xs) (strv b :: ys)=if a=b then eqF ks xs ys else some false:=by
 show (bif ((⟨a.toArray⟩ : ByteArray)==⟨b.toArray⟩) then eqF ks xs ys else some false)=_
 rw [ZEx]
 by_cases h : a=b
 ·rw [decide_eq_true h,if_pos h];rfl
 ·rw [decide_eq_false h,if_neg h];rfl
theorem ZDB (o o' : OpT) : eqF [.int,.str,.str,.int,.int] o.cells o'.cells=some (decide (o=o')):=by
 obtain ⟨k,a,b,d,r⟩:=o
 obtain ⟨k',a',b',d',r'⟩:=o'
 unfold OpT.cells
 rw [Zs4,ZxZ,ZxZ,Zs4,Zs4]
 simp only [OpT.mk.injEq]
 by_cases h1 : k=k' <;> by_cases h2 : a=a' <;> by_cases h3 : b=b' <;> by_cases h4 : d=d' <;> by_cases h5 : r=r' <;> simp [h1,h2,h3,h4,h5,eqF]
theorem ZxN (hsg : ∀ c∈s,Zj5 c) (hn : s.length≤1000) : ∀ (t i : Nat) (Y : Zd) (sl : Value),s.length - i=t→i≤s.length→Y[p1]?=some (.cells o.cells 1 false false)→Sl Y sl (u8s s)→
  ∃ Y',Zi (c4 (W9.l1 (R (n+1)))) [pt p1,sl,iv s.length,iv i] Y=some (if (s.drop i).all (Zjg o) then .ext 0 [pt p1] else .ret (iv 4),Y')∧HLe Y Y'
 | 0,i,Y,sl,ht,hi,h1,hs=>by
  have hi : i=s.length:=by omega
  subst hi
  refine ⟨Y,?_,.refl _⟩
  rw [List.drop_length]
  refine Qa ?_
  rw [ZJ]
  unfold W9.l1
  rw [Za Zs,Zb,if_neg (by simp)]
  rfl
 | t+1,i,Y,sl,ht,hi,h1,hs=>by
  have hlt : i < s.length:=by omega
  have hlt' : (i : Int) < s.length:=by omega
  have hg:=List.getElem?_eq_getElem hlt
  have hd:=List.drop_eq_getElem_cons hlt
  have hm:=hsg _ (List.getElem_mem hlt)
  generalize s[i]=c at hg hd hm
  have x1:=hs.ix (i:=i) (by rw [Kk];exact hlt) .i64 Y
  have x2 : ld1 (ixp sl i) Y=some (.int .u8 c.toNat,Y):=hs.ldx (by unfold u8s;rw [List.getElem?_map,hg];rfl)
  obtain ⟨Y1,e1,k1⟩:=ZAJ (n:=n) (o:=o) (X:=Y) hm
  rw [hd,List.all_cons]
  cases hr : Zjg o c
  ·refine ⟨Y1,?_,k1⟩
   rw [hr] at e1
   refine Yu ?_
   rw [ZJ]
   unfold W9.l1
   rw [Za Zs,Zb,if_pos (by simpa using hlt'),Za x1,Za x2,Za (Qe (n:=5) h1 rfl),Za e1,Za ZM,Zb,if_pos (by rfl)]
   rfl
  ·rw [hr] at e1
   obtain ⟨Y2,e2,k2⟩:=ZxN hsg hn t (i+1) Y1 sl (by omega) (by omega) (k1 _ _ h1) (hs.mono k1)
   refine ⟨Y2,?_,k1.trans k2⟩
   rw [Bool.true_and]
   refine (ZL ?_).trans e2
   rw [ZJ]
   unfold W9.l1
   rw [Za Zs,Zb,if_pos (by simpa using hlt'),Za x1,Za x2,Za (Qe (n:=5) h1 rfl),Za e1,Za ZM,Zb,if_neg (by simp),Za ZF,Jd (by omega)]
   rfl
theorem gvF {m : M Value} {k : Value→M Value} {H : Zd} : bind (gateV (.bool true) false m) k H=k QK H:=rfl
theorem ZAP (hG : GlH X) (hok : Zln o) (ha : o.a.length≤65535) (hb : o.b.length≤65535) : ∃ X',R (n+5) Zec [.agg o.cells.toArray] X=some (iv (checkO o),X')∧HLe X X':=by
 have e1:=Zi8 o X
 have k1 : HLe X (X++[Ze.cells o.cells 1 false false]):=.app _ _
 have c1 : (X++[Ze.cells o.cells 1 false false])[X.length]?=some (.cells o.cells 1 false false):=Zp
 generalize X++[Ze.cells o.cells 1 false false]=X1 at e1 k1 c1
 generalize X.length=p1 at e1 c1
 have hl : ∀ f x,o.cells[f]?=some x→ld1 (pa p1 f) X1=some (x,X1):=fun f x hx=>Zy c1 hx
 have hA : ldA 5 (pt p1) X1=some (.agg o.cells.toArray,X1):=Qe (n:=5) c1 rfl
 have hcv : cvi .i64 (.int .u8 o.kd) X1=some (iv o.kd,X1):=by rw [QL,w64 (by omega) (by have:=hok.kd;omega)]
 have hge : bop .int .geq (iv o.kd) (.int .i64 17) X1=some (.bool (decide (17≤o.kd)),X1):=by rw [Qp];congr 3;rw [decide_eq_decide];omega
 rw [R,Zxd rfl]
 unfold W9
 rw [Za e1,Za Zj,Za (hl 0 _ rfl),Za hcv,Za hge]
 by_cases hk : 17≤o.kd
 ·rw [decide_eq_true hk]
  refine ⟨X1,?_,k1⟩
  have hck : checkO o=4:=by unfold checkO;rw [if_pos (.inl hk)]
  rw [hck]
  rw [gvF,gvF,gvF,gvF,QY,gvF,Za Zm]
  rfl
 rw [decide_eq_false hk]
 have hk : o.kd < 17:=by omega
 have hG1:=hG.le k1
 have eb : R (n+4) W3 [.agg o.cells.toArray] X1=some (.agg (ZeI o).cells.toArray,X1):=ZCi (n:=n+3) hG1 hk
 have hne : bop (.flat [.int,.str,.str,.int,.int]) .neq (.agg o.cells.toArray) (.agg (ZeI o).cells.toArray) X1=some (.bool (!decide (o=ZeI o)),X1):=by
  have : eqv (.flat [.int,.str,.str,.int,.int]) (.agg o.cells.toArray) (.agg (ZeI o).cells.toArray)=some (decide (o=ZeI o)):=ZDB o (ZeI o)
  unfold bop
  simp only [this]
  rfl
 have gt : ∀ {m : M Value} {k : Value→M Value},bind (gateV (.bool false) false m) k X1=bind m k X1:=fun {m k}=>rfl
 rw [gt,Za hA,gt,Za hA,gt,Za eb,gt,Za hA,QY,gt,Za hne,Za Zm]
 simp only [cond_false]
 by_cases hbr : o=ZeI o
 ·rw [decide_eq_true hbr,Zb,if_neg (by simp)]
  have hsig : ld1 (.pointer (some ⟨0,o.kd,none⟩)) X1=some (strv (sgn o),X1):=by
   have h1 : (ZaQ.map strv)[o.kd]?=some (strv (sgn o)):=by
    rw [List.getElem?_map]
    have : ZaQ[o.kd]?=some (sgn o):=by
     unfold sgn
     rw [List.getD_eq_getElem?_getD,List.getElem?_eq_getElem (by simpa [ZaQ] using hk)]
     rfl
    rw [this]
    rfl
   exact Zy (id:=0) hG1.x h1
  have hix : WO 17 1 (.pointer (some ⟨0,0,none⟩)) (.int .u8 o.kd) X1=some (.pointer (some ⟨0,o.kd,none⟩),X1):=by
   rw [QM,if_pos ⟨by omega,by omega⟩]
   simp
  have es : s2b (strv (sgn o)) X1=some (.slice (some ⟨X1.length,0,none⟩) (sgn o).length (sgn o).length,X1++[.cells (u8s (sgn o)) 1 true false]):=by
   unfold s2b ZiO
   simp only [strv]
   rfl
  have k2 : HLe X1 (X1++[Ze.cells (u8s (sgn o)) 1 true false]):=.app _ _
  have s2 : Sl (X1++[Ze.cells (u8s (sgn o)) 1 true false]) (.slice (some ⟨X1.length,0,none⟩) (u8s (sgn o)).length (sgn o).length) (u8s (sgn o)):=Sl.one (es:=1) (g:=true) (ro:=false) Zp
  rw [Kk] at s2
  generalize X1++[Ze.cells (u8s (sgn o)) 1 true false]=X2 at es k2 s2
  generalize X1.length=q at es s2
  have hln : ZC (.slice (some ⟨q,0,none⟩) (sgn o).length (sgn o).length) X2=some (iv (sgn o).length,X2):=rfl
  obtain ⟨X3,e3,k3⟩:=ZxN (n:=n+3) (o:=o) (p1:=p1) (ZAI o) (by have:=Zyl o;omega) (sgn o).length 0 X2 _ (by omega) (by omega) (k2 _ _ c1) s2
  rw [List.drop_zero] at e3
  have e3 : Zi (c4 (W9.l1 (run Tryz.prog np lvs (n+4)))) [pt p1,.slice (some ⟨q,0,none⟩) (sgn o).length (sgn o).length,.int .i64 (sgn o).length,.int .i64 0] X2=_:=e3
  rw [Za Zj,Za (hl 0 _ rfl),Za hix,Za hsig,Za es,Za hln]
  have c3:=k3 _ _ (k2 _ _ c1)
  have hl3 : ∀ f x,o.cells[f]?=some x→ld1 (pa p1 f) X3=some (x,X3):=fun f x hx=>Zy c3 hx
  cases hall : (sgn o).all (Zjg o) with
  | false=>
   rw [hall,if_neg (by simp)] at e3
   refine ⟨X3,?_,(k1.trans k2).trans k3⟩
   have hck : checkO o=4:=by unfold checkO;rw [if_neg (fun h=>h.elim (fun h=>by omega) (fun h=>h hbr)),hall,if_neg (by simp)]
   rw [hck,Ky e3]
   rfl
  | true=>
   rw [hall,if_pos rfl] at e3
   have hcl : checkO o=if 64 < o.a.length+o.b.length∨64 < (ZeC o).length then 3 else 0:=by unfold checkO;rw [if_neg (fun h=>h.elim (fun h=>by omega) (fun h=>h hbr)),hall,if_pos rfl]
   rw [hcl,QG e3,ZI,Jy,Za Zj,Za (hl3 1 _ rfl),Za ZY,Za Zj,Za (hl3 2 _ rfl),Za ZY,Za ZF,w64 (by omega) (by omega)]
   have hgt : bop .int .gtr (.int .i64 ((o.a.length : Int)+o.b.length)) (.int .i64 64) X3=some (.bool (decide (64 < o.a.length+o.b.length)),X3):=by rw [Qg];congr 3;rw [decide_eq_decide];omega
   rw [Za hgt]
   by_cases hab : 64 < o.a.length+o.b.length
   ·refine ⟨X3,?_,(k1.trans k2).trans k3⟩
    rw [decide_eq_true hab,if_pos (.inl hab),Za (show gate (.bool true) false 4 _ X3=some ([QK,QK,QK,QK],X3) from rfl),ZJ,Za Zm]
    rfl
   ·obtain ⟨v,qv,X4,e4,r4,l4⟩:=ZzU (n:=n) (X:=X3) ((hG1.le (k2.trans k3)).x) hk hok ha hb
    have hlv : ZC v X4=some (iv (ZeC o).length,X4):=by have:=r4.rd.len (H':=X4);rwa [Kk] at this
    have hg4 : bop .int .gtr (iv (ZeC o).length) (.int .i64 64) X4=some (.bool (decide (64 < (ZeC o).length)),X4):=by
     generalize (ZeC o).length=w
     have hq : decide ((w : Int) > 64)=decide (64 < w):=by rw [decide_eq_decide];omega
     rw [Qg,hq]
    refine ⟨X4,?_,((k1.trans k2).trans k3).trans l4⟩
    rw [decide_eq_false hab,ZX,Zk,Za (Qe (n:=5) c3 rfl),Zk,Za e4,Zk,Za hlv,Zk,Za hg4,Qi,ZJ,Za Zm]
    simp only [cond_false]
    by_cases hw : 64 < (ZeC o).length
    ·rw [decide_eq_true hw,if_pos (.inr hw)];rfl
    ·rw [decide_eq_false hw,if_neg (fun h=>h.elim hab hw)];rfl
 ·refine ⟨X1,?_,k1⟩
  have hck : checkO o=4:=by unfold checkO;rw [if_pos (.inr hbr)]
  rw [hck,decide_eq_false hbr,Zb,if_pos (by simp)]
  rfl
end Go.Proofs.YtgfbgfafajiehaaGreatDoor.A

namespace Go.Proofs.YtgfbgfafajiehaaGreatDoor.A
set_option linter.unusedVariables false
set_option linter.unusedSimpArgs false
open Go.Proofs Go.Proofs.YtgfbgfafajiehaaGreatDoor
variable {X X' Y : Zd} {n : Nat}
def Q4 (r : QI) (lv : Value) : List Value:=[.int .u64 r.num,iv r.e,lv]
def QQ (rows : List QI) (lvs : List Value) : List Value:=((rows.zip lvs).map fun p=>Q4 p.1 p.2).flatten
structure ZyW (X : Zd) (lv : Value) (l : List Tx) (fr : List Nat) : Prop where
 sl : Sl X lv (l.map strv)
 one : oneCell lv=true
 fr : ∀ id,own1 lv=some id→id∈fr
 few : l.length≤1000
structure Tab (X : Zd) (t : Nat) (rows : List QI) (lvs : List Value) (fr : List Nat) : Prop where
 cell : X[t]?=some (.cells (QQ rows lvs) 1 false false)
 n8 : rows.length=8
 l8 : lvs.length=8
 sep : ∀ (i : Nat) lv,lvs[i]?=some lv→own1 lv≠some t
 t : t∈fr
 lt : ∀ j∈fr,j < X.length
 txt : ∀ (i : Nat) r lv,rows[i]?=some r→lvs[i]?=some lv→ZyW X lv r.l fr
 err : ∀ r∈rows,r.e≠0→r.l=[]
theorem ZyW.keep {lv : Value} {l : List Tx} {fr : List Nat} (h : ZyW X lv l fr) (hk : ∀ j∈fr,X'[j]?=X[j]?) : ZyW X' lv l fr:=
 ⟨h.sl.keep fun id hi=>hk id (h.fr id hi),h.one,h.fr,h.few⟩
theorem Tab.keep {t : Nat} {rows : List QI} {lvs : List Value} {fr : List Nat} (h : Tab X t rows lvs fr) (hk : ∀ j∈fr,X'[j]?=X[j]?) (hl : X.length≤X'.length) : Tab X' t rows lvs fr:=
 ⟨by rw [hk t h.t];exact h.cell,h.n8,h.l8,h.sep,h.t,fun j hj=>Nat.lt_of_lt_of_le (h.lt j hj) hl,fun i r lv h1 h2=>(h.txt i r lv h1 h2).keep hk,h.err⟩
theorem Zyf {α β : Type} {l : List α} {m : List β} {i : Nat} {a : α} {b : β} (h1 : l[i]?=some a) (h2 : m[i]?=some b) : (l.zip m)[i]?=some (a,b):=by
 rw [List.getElem?_zip_eq_some]
 exact ⟨h1,h2⟩
theorem Zpc {rows : List QI} {lvs : List Value} : ∀ r∈(rows.zip lvs).map (fun p=>Q4 p.1 p.2),r.length=3:=by
 intro r hr
 obtain ⟨p,_,rfl⟩:=List.mem_map.1 hr
 rfl
theorem Zgs {rows : List QI} {lvs : List Value} {i : Nat} {r : QI} {lv : Value} (hr : rows[i]?=some r) (hl : lvs[i]?=some lv) : ((QQ rows lvs).drop (i * 3)).take 3=Q4 r lv:=by
 have h1 : ((rows.zip lvs).map (fun p=>Q4 p.1 p.2))[i]?=some (Q4 r lv):=by rw [List.getElem?_map,Zyf hr hl];rfl
 have:=Zjx (rest:=[]) Zpc h1
 rwa [List.append_nil] at this
theorem ZiK {rows : List QI} {lvs : List Value} {i : Nat} {r : QI} {lv : Value} (hr : rows[i]?=some r) (hl : lvs[i]?=some lv) {f : Nat} {v : Value} (hv : (Q4 r lv)[f]?=some v) : (QQ rows lvs)[i * 3+f]?=some v:=by
 rw [← Zgs hr hl,List.getElem?_take] at hv
 split at hv
 ·rwa [List.getElem?_drop] at hv
 ·cases hv
theorem Ze7 {rows : List QI} {lvs : List Value} (h1 : rows.length=8) (h2 : lvs.length=8) : (QQ rows lvs).length=24:=by
 have:=Zbd (es:=3) (rows:=(rows.zip lvs).map fun p=>Q4 p.1 p.2) Zpc
 unfold QQ
 rw [this]
 simp [h1,h2]
theorem Tab.row {t : Nat} {rows : List QI} {lvs : List Value} {fr : List Nat} (h : Tab X t rows lvs fr) {c : Nat} (hc : c < 8) : ∃ r lv,rows[c]?=some r∧lvs[c]?=some lv:=
 ⟨rows[c]'(by rw [h.n8];exact hc),lvs[c]'(by rw [h.l8];exact hc),List.getElem?_eq_getElem _,List.getElem?_eq_getElem _⟩
theorem Tab.ix {c t : Nat} (hc : c < 8) : WO 8 3 (pa t 0) (.int .u8 c) X=some (pa t (c * 3),X):=by
 rw [QM,if_pos ⟨by omega,by omega⟩]
 simp
theorem Zwk {a : Nat} : R (n+1) Kq [.int .u64 a] X=some (.bool false,X):=by
 rw [R,ZmM rfl]
 unfold ZdL
 rw [Za Zl]
 simp [ret]
theorem ZE1 {a b : Nat} : R (n+2) WB [.int .u64 a,.int .u64 b] X=some (iv (if a < b then -1 else if b < a then 1 else 0),X):=by
 rw [R,Zj4 rfl]
 unfold ZcW
 have e1 : R (n+1) Kq [.int .u64 a] X=_:=Zwk
 have e2 : R (n+1) Kq [.int .u64 b] X=_:=Zwk
 have q1 : bop .int .lss (.int .u64 a) (.int .u64 b) X=some (.bool (decide (a < b)),X):=by
  have hq : decide ((a : Int) < b)=decide (a < b):=by rw [decide_eq_decide];omega
  rw [Zs,hq]
 have q2 : bop .int .gtr (.int .u64 a) (.int .u64 b) X=some (.bool (decide (b < a)),X):=by
  have hq : decide ((a : Int) > b)=decide (b < a):=by rw [decide_eq_decide];omega
  rw [Qg,hq]
 rw [Za e1,Za e2,Zb,if_neg (by simp),Zb,if_neg (by simp),Za q1]
 by_cases h1 : a < b
 ·rw [decide_eq_true h1,Zb,if_pos rfl,if_pos h1];rfl
 ·rw [decide_eq_false h1,Zb,if_neg (by simp),if_neg h1,Za q2]
  by_cases h2 : b < a
  ·rw [decide_eq_true h2,Zb,if_pos rfl,if_pos h2];rfl
  ·rw [decide_eq_false h2,Zb,if_neg (by simp),if_neg h2];rfl
theorem Zr0 {rows : List QI} {c m : Nat} (h : 8≤c∨m=0∨1099511627776 < m) : judgeS rows c m=0:=by unfold judgeS;rw [if_pos h]
theorem Zss {t c m : Nat} {rows : List QI} {lvs : List Value} {fr : List Nat} (h : Tab X t rows lvs fr) : R (n+3) J0 [pt t,.int .u8 c,.int .u64 m] X=some (iv (judgeS rows c m),X):=by
 rw [R,Zla rfl]
 unfold Zdn
 have q1 : bop .int .geq (.int .u8 c) (.int .u8 8) X=some (.bool (decide (8≤c)),X):=by rw [Qp];congr 3;rw [decide_eq_decide];omega
 have q2 : bop .int .eql (.int .u64 m) (.int .u64 0) X=some (.bool (decide (m=0)),X):=by
  rw [ZE];congr 3
  by_cases h : m=0
  ·subst h;rfl
  ·rw [decide_eq_false h];simpa using h
 have q3 : bop .int .gtr (.int .u64 m) (.int .u64 1099511627776) X=some (.bool (decide (1099511627776 < m)),X):=by rw [Qg];congr 3;rw [decide_eq_decide];omega
 rw [Za q1]
 by_cases h1 : 8≤c
 ·rw [decide_eq_true h1,Zr0 (.inl h1),Za (show gate (.bool true) false 2 _ X=some ([QK,QK],X) from rfl),QB,Za Zm]
  simp only [cond_true]
  rw [Za (show gate (.bool true) false 2 _ X=some ([QK,QK],X) from rfl),QB,Za Zm]
  rfl
 rw [decide_eq_false h1,ZX,Zk,Za q2,Qi,QB,Za Zm]
 simp only [cond_false]
 by_cases h2 : m=0
 ·rw [decide_eq_true h2,Zr0 (.inr (.inl h2)),Za (show gate (.bool true) false 2 _ X=some ([QK,QK],X) from rfl),QB,Za Zm]
  rfl
 rw [decide_eq_false h2,ZX,Zk,Za q3,Qi,QB,Za Zm]
 simp only [cond_false]
 by_cases h3 : 1099511627776 < m
 ·rw [decide_eq_true h3,Zr0 (.inr (.inr h3)),Zb,if_pos rfl]
  rfl
 have hc : c < 8:=by omega
 obtain ⟨r,lv,hr,hl⟩:=h.row hc
 have hj : judgeS rows c m=if m < r.num then 1 else if m=r.num then 2 else 3:=by
  unfold judgeS
  rw [if_neg (by omega),hr]
 have e1 : ld1 (pa t (c * 3)) X=some (.int .u64 r.num,X):=Zy h.cell (by have:=ZiK hr hl (f:=0) (v:=.int .u64 r.num) rfl;simpa using this)
 have e2 : R (n+2) WB [.int .u64 m,.int .u64 r.num] X=_:=ZE1 (n:=n)
 rw [decide_eq_false h3,Zb,if_neg (by simp),Za Zg,Za Zj,Za (Tab.ix hc),Za (show fa 0 (pa t (c * 3)) X=some (pa t (c * 3),X) from by rw [Yr,Nat.add_zero]),Za e1,Za e2,Za ZF,hj]
 by_cases h4 : m < r.num
 ·rw [if_pos h4,if_pos h4];rfl
 ·rw [if_neg h4,if_neg h4]
  by_cases h5 : r.num < m
  ·rw [if_pos h5,if_neg (by omega)];rfl
  ·rw [if_neg h5,if_pos (by omega)];rfl
def ZjT (rows : List QI) (c : Nat) : Nat:=match rows[c]? with
 | some r=>r.num
 | none=>0
theorem ZEo {t c : Nat} {rows : List QI} {lvs : List Value} {fr : List Nat} (h : Tab X t rows lvs fr) : R (n+1) YR [pt t,.int .u8 c] X=some (.int .u64 (ZjT rows c),X):=by
 rw [R,Zlu rfl]
 unfold Zd4
 have q1 : bop .int .geq (.int .u8 c) (.int .u8 8) X=some (.bool (decide (8≤c)),X):=by rw [Qp];congr 3;rw [decide_eq_decide];omega
 rw [Za q1]
 by_cases h1 : 8≤c
 ·rw [decide_eq_true h1,Zb,if_pos rfl]
  unfold ZjT
  rw [List.getElem?_eq_none (by rw [h.n8];exact h1)]
  rfl
 ·have hc : c < 8:=by omega
  obtain ⟨r,lv,hr,hl⟩:=h.row hc
  have e1 : ld1 (pa t (c * 3)) X=some (.int .u64 r.num,X):=Zy h.cell (by have:=ZiK hr hl (f:=0) (v:=.int .u64 r.num) rfl;simpa using this)
  rw [decide_eq_false h1,Zb,if_neg (by simp),Za Zg,Za Zj,Za (Tab.ix hc),Za (show fa 0 (pa t (c * 3)) X=some (pa t (c * 3),X) from by rw [Yr,Nat.add_zero]),Za e1]
  unfold ZjT
  rw [hr]
  rfl
theorem ZBS {lv : Value} {l : List Tx} (h : Sl X lv (l.map strv)) (hl : l.length≤100000) : ∃ v q X',R (n+1) Yy [lv] X=some (v,X')∧Zo X' v (l.map strv) q∧HLe X X'∧∀ j∈q,X.length≤j:=by
 have hlm : (l.map strv).length=l.length:=List.length_map _
 rw [R,Zge rfl]
 unfold W1
 rcases h.isnil (H':=X) with ⟨rfl,h0,e⟩ | e
 ·refine ⟨.slice none 0 0,[],X,?_,by rw [h0];exact Zo.nil,.refl _,by simp⟩
  rw [Za e]
  rfl
 ·have hb2 : Sl (X++[.cells [] 1 false false]) lv (l.map strv):=h.mono (.app _ _)
  obtain ⟨sl',X',own',e2,hr,hle,ho⟩:=ZA3 (b:=16) hb2 (by rw [hlm];omega) (by rw [hlm];omega) (s:=.slice (some ⟨X.length,0,none⟩) 0 0) (.inr ⟨X.length,false,rfl,Zp,rfl⟩)
  refine ⟨sl',own',X',?_,hr,(HLe.app _ _).trans hle,fun j hj=>?_⟩
  ·rw [Za e,Zb,if_neg (by simp),Za ZFj,Za e2]
   rfl
  ·rcases ho j hj with h | ⟨_,h⟩
   ·simp at h;omega
   ·cases h;exact Nat.le_refl _
def KG (e : Int) (l : List Tx) : List Tx:=if e=0 then l else []
theorem ZpM {e : Int} {lv : Value} {l : List Tx} (h : Sl X lv (l.map strv)) (hl : l.length≤1000) (h1 : oneCell lv=true) : ∃ v q X',R (n+2) WE [.agg #[iv e,lv]] X=some (.agg #[iv e,v],X')∧Zo X' v ((KG e l).map strv) q∧HLe X X'∧∀ j∈q,X.length≤j:=by
 have a1 : alc 1 (.agg #[iv e,lv]) X=some (pt X.length,X++[.cells [iv e,lv] 1 false false]):=by
  unfold alc Zr9
  rw [if_pos (by simp [Value.cells,oneCell,h1] <;> exact h1)]
  rfl
 have k1 : HLe X (X++[Ze.cells [iv e,lv] 1 false false]):=.app _ _
 have c1 : (X++[Ze.cells [iv e,lv] 1 false false])[X.length]?=some (.cells [iv e,lv] 1 false false):=Zp
 have n1 : X.length≤X.length:=Nat.le_refl _
 generalize X++[Ze.cells [iv e,lv] 1 false false]=X1 at a1 k1 c1
 generalize hp1 : X.length=p1 at a1 c1 n1
 have a2 : alc 1 (.agg #[.int .i64 0,.slice none 0 0]) X1=some (pt X1.length,X1++[.cells [.int .i64 0,.slice none 0 0] 1 false false]):=rfl
 have k2 : HLe X1 (X1++[Ze.cells [.int .i64 0,.slice none 0 0] 1 false false]):=.app _ _
 have c2 : (X1++[Ze.cells [.int .i64 0,.slice none 0 0] 1 false false])[X1.length]?=some (.cells [.int .i64 0,.slice none 0 0] 1 false false):=Zp
 have hlt:=Z6 c1
 have d1:=k2 _ _ c1
 generalize X1++[Ze.cells [.int .i64 0,.slice none 0 0] 1 false false]=X2 at a2 k2 c2 d1
 generalize hp2 : X1.length=p2 at a2 c2
 have hne : p2≠p1:=by omega
 have k12:=k1.trans k2
 rw [R,ZsV rfl]
 unfold ZhL
 rw [Za a1,Za a2,Za Zj,Za (Zy d1 rfl),Za Zl]
 by_cases he : e=0
 ·subst he
  obtain ⟨v,q,X3,e3,r3,l3,o3⟩:=ZBS (n:=n) (h.mono k12) (by omega)
  have e3 : R (n+1) Yy [lv] X2=_:=e3
  have f1:=l3 _ _ d1
  have f2:=l3 _ _ c2
  have s4 : st1 (pa p1 1) v X3=some (undef,X3.set p1 (.cells [iv 0,v] 1 false false)):=ZeS (o:=1) f1 (by simp) r3.one.1
  have g1 : (X3.set p1 (.cells [iv 0,v] 1 false false))[p1]?=some (.cells [iv 0,v] 1 false false):=Z8 f1
  have g2 : (X3.set p1 (.cells [iv 0,v] 1 false false))[p2]?=some (.cells [.int .i64 0,.slice none 0 0] 1 false false):=by rw [List.getElem?_set_ne (Ne.symm hne)];exact f2
  have k4 : HLe X (X3.set p1 (.cells [iv 0,v] 1 false false)):=(k12.trans l3).put (by omega)
  have r4 : Zo (X3.set p1 (.cells [iv 0,v] 1 false false)) v (l.map strv) q:=r3.keep fun j hj=>List.getElem?_set_ne (fun e=>by have:=o3 j hj;have:=k2.len;have:=Z6 d1;omega)
  generalize X3.set p1 (.cells [iv 0,v] 1 false false)=X4 at s4 g1 g2 k4 r4
  have s5 : stA 2 (pt p2) (.agg #[iv 0,v]) X4=some (undef,X4.set p2 (.cells [iv 0,v] 1 false false)):=Zb7 (vs:=[iv 0,v]) g2 rfl rfl (by rw [List.all_cons,List.all_cons,r4.one.1];rfl)
  have g3 : (X4.set p2 (.cells [iv 0,v] 1 false false))[p2]?=some (.cells [iv 0,v] 1 false false):=Z8 g2
  have hp2l : p2 < X2.length:=Z6 c2
  refine ⟨v,q,X4.set p2 (.cells [iv 0,v] 1 false false),?_,?_,k4.put (by omega),fun j hj=>by have:=o3 j hj;have:=k12.len;omega⟩
  ·rw [Zb,if_neg (by simp),Za Zj,Za (Zy d1 rfl),Za e3,Za Zj,Za s4,Za (Qe (n:=2) g1 rfl),Za s5,Za (Qe (n:=2) g3 rfl)]
   rfl
  ·rw [show KG 0 l=l from rfl]
   exact r4.keep fun j hj=>List.getElem?_set_ne (fun e=>by have:=o3 j hj;omega)
 ·have hb : bld (.agg #[.int .i64 0,.slice none 0 0]) [(0,1,iv e)] X2=some (.agg #[iv e,.slice none 0 0],X2):=rfl
  have s5 : stA 2 (pt p2) (.agg #[iv e,.slice none 0 0]) X2=some (undef,X2.set p2 (.cells [iv e,.slice none 0 0] 1 false false)):=Zb7 (vs:=[iv e,.slice none 0 0]) c2 rfl rfl rfl
  have g3 : (X2.set p2 (.cells [iv e,.slice none 0 0] 1 false false))[p2]?=some (.cells [iv e,.slice none 0 0] 1 false false):=Z8 c2
  refine ⟨.slice none 0 0,[],X2.set p2 (.cells [iv e,.slice none 0 0] 1 false false),?_,?_,k12.put (by omega),by simp⟩
  ·rw [Zb,if_pos (by simpa using he),Za Zj,Za (Zy d1 rfl),Za hb,Za s5,Za (Qe (n:=2) g3 rfl)]
   rfl
  ·rw [show KG e l=[] from if_neg he]
   exact Zo.nil
end Go.Proofs.YtgfbgfafajiehaaGreatDoor.A

namespace Go.Proofs.YtgfbgfafajiehaaGreatDoor.A
set_option linter.unusedVariables false
set_option linter.unusedSimpArgs false
open Go.Proofs Go.Proofs.YtgfbgfafajiehaaGreatDoor
variable {X X' Y : Zd} {n : Nat}
def ZaL : List QI:=List.replicate 8 ⟨0,0,[]⟩
theorem Zro : R (n+1) ZbR [] X=some (pt X.length,X++[.cells (QQ ZaL (List.replicate 8 (.slice none 0 0))) 1 false false]):=by
 rw [R,ZuO rfl]
 rfl
theorem ZxW {fr : List Nat} (h : X.length∈fr) (hl : ∀ j∈fr,j < X.length+1) : Tab (X++[.cells (QQ ZaL (List.replicate 8 (.slice none 0 0))) 1 false false]) X.length ZaL (List.replicate 8 (.slice none 0 0)) fr:=by
 refine ⟨Zp,rfl,rfl,fun i lv h2=>?_,h,by simpa using hl,fun i r lv h1 h2=>?_,fun r hr h=>?_⟩
 ·rw [List.eq_of_mem_replicate (List.mem_of_getElem? h2)]
  intro e
  cases e
 ·have e1:=List.mem_of_getElem? h1
  have e2:=List.mem_of_getElem? h2
  rw [List.eq_of_mem_replicate e1,List.eq_of_mem_replicate e2]
  exact ⟨Sl.nil,rfl,(fun id hi=>by cases hi),by simp⟩
 ·rw [List.eq_of_mem_replicate hr]
theorem Zng {id o k es : Nat} {cs : List Value} {g ro : Bool} (h : X[id]?=some (.cells cs es g ro)) (hk : o+k≤cs.length) : ldA k (pa id o) X=some (.agg ((cs.drop o).take k).toArray,X):=by
 unfold ldA
 simp only
 rw [h]
 simp only
 rw [if_pos hk]
theorem ZxL {id o k es : Nat} {cs vs : List Value} {g : Bool} (h : X[id]?=some (.cells cs es g false)) (hk : o+k≤cs.length) (hv : vs.length=k) (h1 : vs.all oneCell=true) : stA k (pa id o) (.agg vs.toArray) X=some (undef,X.set id (.cells (splice cs vs o) es g false)):=by
 unfold stA
 simp only
 rw [h]
 simp only
 rw [if_pos ⟨hk,by simpa using hv,by simpa using h1⟩]
theorem Zo0 {es : Nat} {row : List Value} (hrow : row.length=es) : ∀ {rows : List (List Value)} {i : Nat},(∀ r∈rows,r.length=es)→i < rows.length→splice rows.flatten row (i * es)=(rows.set i row).flatten
 | [],i,_,h=>by simp at h
 | r :: rows,0,hr,h=>by
  have : r.length=es:=hr r (by simp)
  unfold splice
  simp [this,hrow]
 | r :: rows,i+1,hr,h=>by
  have h1 : r.length=es:=hr r (by simp)
  have h2:=Zo0 hrow (fun x hx=>hr x (by simp [hx])) (rows:=rows) (i:=i) (by simpa using h)
  have:=Zqh (pre:=r) (m:=rows.flatten) (new:=row) (o:=i * es)
  rw [List.flatten_cons,show (i+1) * es=r.length+i * es by rw [h1,Nat.add_mul];omega,this,h2]
  rfl
theorem ZxP {rows : List QI} {lvs : List Value} {c : Nat} {r : QI} {lv : Value} (h1 : rows.length=8) (h2 : lvs.length=8) (hc : c < 8) : splice (QQ rows lvs) (Q4 r lv) (c * 3)=QQ (rows.set c r) (lvs.set c lv):=by
 unfold QQ
 rw [Zo0 (es:=3) (row:=Q4 r lv) rfl Zpc (by simp [h1,h2,hc])]
 congr 1
 rw [← List.map_set (f:=fun p : QI × Value=>Q4 p.1 p.2) (a:=(r,lv))]
 congr 1
 apply List.ext_getElem?
 intro i
 rw [List.getElem?_set]
 by_cases e : c=i
 ·subst e
  have a1 : (rows.set c r)[c]?=some r:=List.getElem?_set_self (by omega)
  have a2 : (lvs.set c lv)[c]?=some lv:=List.getElem?_set_self (by omega)
  rw [if_pos rfl,Zyf a1 a2,if_pos (by simp [h1,h2,hc])]
 ·rw [if_neg e]
  apply Option.ext
  intro p
  rw [List.getElem?_zip_eq_some,List.getElem?_zip_eq_some,List.getElem?_set_ne e,List.getElem?_set_ne e]
theorem ZCU {t c : Nat} {rows : List QI} {lvs : List Value} {fr : List Nat} {r : QI} (h : Tab X t rows lvs fr) (hc : c < 8) (hr : rows[c]?=some r) : ∃ v q X',R (n+3) K4 [pt t,.int .u8 c] X=some (.agg #[iv r.e,v],X')∧Zo X' v (r.l.map strv) q∧HLe X X'∧∀ j∈q,X.length≤j:=by
 obtain ⟨r',lv,hr',hl⟩:=h.row hc
 rw [hr] at hr'
 cases hr'
 have ht:=h.txt c r lv hr hl
 have hkeep : KG r.e r.l=r.l:=by
  unfold KG
  split
  ·rfl
  ·rename_i he
   exact (h.err r (List.mem_of_getElem? hr) (fun e0=>he (by rw [e0];rfl))).symm
 have a2 : alc 1 (.agg #[.int .i64 0,.slice none 0 0]) X=some (pt X.length,X++[.cells [.int .i64 0,.slice none 0 0] 1 false false]):=rfl
 have k2 : HLe X (X++[Ze.cells [.int .i64 0,.slice none 0 0] 1 false false]):=.app _ _
 have c2 : (X++[Ze.cells [.int .i64 0,.slice none 0 0] 1 false false])[X.length]?=some (.cells [.int .i64 0,.slice none 0 0] 1 false false):=Zp
 have n1 : X.length≤X.length:=Nat.le_refl _
 generalize X++[Ze.cells [.int .i64 0,.slice none 0 0] 1 false false]=X2 at a2 k2 c2
 generalize hp2 : X.length=p2 at a2 c2 n1
 have hcell:=k2 _ _ h.cell
 have hlen:=Ze7 h.n8 h.l8
 have hd : ((QQ rows lvs).drop (c * 3+1)).take 2=[iv r.e,lv]:=by
  have:=congrArg (List.drop 1) (Zgs hr hl)
  rw [List.drop_take,List.drop_drop] at this
  simpa [Q4] using this
 have q1 : bop .int .geq (.int .u8 c) (.int .u8 8) X2=some (.bool false,X2):=by rw [Qp,decide_eq_false (by omega)]
 have e3 : ldA 2 (pa t (c * 3+1)) X2=some (.agg #[iv r.e,lv],X2):=by rw [Zng hcell (by rw [hlen];omega),hd]
 obtain ⟨v,q,X3,e4,r4,l4,o4⟩:=ZpM (n:=n) (e:=r.e) (ht.sl.mono k2) ht.few ht.one
 rw [hkeep] at r4
 have f2:=l4 _ _ c2
 have s5 : stA 2 (pt p2) (.agg #[iv r.e,v]) X3=some (undef,X3.set p2 (.cells [iv r.e,v] 1 false false)):=Zb7 (vs:=[iv r.e,v]) f2 rfl rfl (by rw [List.all_cons,List.all_cons,r4.one.1];rfl)
 have g3 : (X3.set p2 (.cells [iv r.e,v] 1 false false))[p2]?=some (.cells [iv r.e,v] 1 false false):=Z8 f2
 have hp2l : p2 < X2.length:=Z6 c2
 refine ⟨v,q,X3.set p2 (.cells [iv r.e,v] 1 false false),?_,r4.keep fun j hj=>List.getElem?_set_ne (fun e=>by have:=o4 j hj;omega),(k2.trans l4).put (by omega),fun j hj=>by have:=o4 j hj;have:=k2.len;omega⟩
 have e4 : R (n+2) WE [.agg #[iv r.e,lv]] X2=_:=e4
 rw [R,Zli rfl]
 unfold Zdh
 rw [Za a2,Za q1,Zb,if_neg (by simp),Za Zg,Za Zj,Za (Tab.ix hc),Za (show fa 1 (pa t (c * 3)) X2=some (pa t (c * 3+1),X2) from by rw [Yr]),Za e3,Za e4,Za s5,Za (Qe (n:=2) g3 rfl)]
 rfl
def Zpr (rows : List QI) (c m : Nat) : Nat:=match judgeS rows c m with
 | 0=>1
 | 3=>0
 | _=>12
def Zj6 (rows : List QI) (c m e : Nat) (l : List Tx) : List QI:=if judgeS rows c m=3 then rows.set c ⟨m,e,KG e l⟩ else rows
theorem ZBK {rows : List QI} {c m : Nat} (h : judgeS rows c m=3) : c < 8:=by
 unfold judgeS at h
 split at h
 ·cases h
 ·omega
theorem ZvU (rows : List QI) (c m : Nat) : judgeS rows c m≤3:=by
 unfold judgeS
 split
 ·omega
 ·split
  ·split
   ·omega
   ·split <;> omega
  ·omega
theorem ZCr {e : Int} {l : List Tx} : (KG e l).length≤l.length:=by
 unfold KG
 split
 ·exact Nat.le_refl _
 ·exact Nat.zero_le _
theorem Tab.put {t c m e : Nat} {rows : List QI} {lvs : List Value} {fr q : List Nat} {l : List Tx} {v : Value} (h : Tab X t rows lvs fr) (hc : c < 8) (hr : Zo X v ((KG e l).map strv) q) (hl : l.length≤1000) (ht : t∉q) (hX : X'[t]?=some (.cells (QQ (rows.set c ⟨m,e,KG e l⟩) (lvs.set c v)) 1 false false)) (hn : X.length≤X'.length) (hk : ∀ j,j≠t→X'[j]?=X[j]?) : Tab X' t (rows.set c ⟨m,e,KG e l⟩) (lvs.set c v) (fr++q):=by
 have hr' : Zo X' v ((KG e l).map strv) q:=hr.keep fun j hj=>hk j (fun e=>ht (e ▸ hj))
 refine ⟨hX,by simpa using h.n8,by simpa using h.l8,fun i lv h2=>?_,by simp [h.t],fun j hj=>?_,fun i r lv h1 h2=>?_,fun r hr1 he=>?_⟩
 ·by_cases e1 : c=i
  ·subst e1
   rw [List.getElem?_set_self (by rw [h.l8];exact hc)] at h2
   cases h2
   exact fun hi=>ht (hr'.own_of hi)
  ·rw [List.getElem?_set_ne e1] at h2
   exact h.sep i lv h2
 ·rcases List.mem_append.1 hj with h1 | h1
  ·exact Nat.lt_of_lt_of_le (h.lt j h1) hn
  ·exact hr'.lt j h1
 ·by_cases e1 : c=i
  ·subst e1
   rw [List.getElem?_set_self (by rw [h.n8];exact hc)] at h1
   rw [List.getElem?_set_self (by rw [h.l8];exact hc)] at h2
   cases h1
   cases h2
   exact ⟨hr'.rd,hr'.one.1,(fun id hi=>List.mem_append_right _ (hr'.own_of hi)),Nat.le_trans ZCr hl⟩
  ·rw [List.getElem?_set_ne e1] at h1 h2
   have:=h.txt i r lv h1 h2
   exact ⟨this.sl.keep fun id hi=>hk id (fun e=>h.sep i lv h2 (e ▸ hi)),this.one,(fun id hi=>List.mem_append_left _ (this.fr id hi)),this.few⟩
 ·rcases List.mem_or_eq_of_mem_set hr1 with h1 | h1
  ·exact h.err r h1 he
  ·subst h1
   show KG _ _=_
   exact if_neg (fun h0=>he (by exact_mod_cast h0))
theorem ZFu {t c m e : Nat} {rows : List QI} {lvs : List Value} {fr : List Nat} {l : List Tx} {lv : Value} (h : Tab X t rows lvs fr) (hs : Sl X lv (l.map strv)) (hl : l.length≤1000) (h1 : oneCell lv=true) :
  ∃ X' lvs' q,R (n+4) Za1 [pt t,.int .u8 c,.int .u64 m,.agg #[iv e,lv]] X=some (iv (Zpr rows c m),X')∧Tab X' t (Zj6 rows c m e l) lvs' (fr++q)∧X.length≤X'.length∧(∀ j,j < X.length→j≠t→X'[j]?=X[j]?)∧∀ j∈q,X.length≤j:=by
 have a1 : alc 1 (.agg #[iv e,lv]) X=some (pt X.length,X++[.cells [iv e,lv] 1 false false]):=by
  unfold alc Zr9
  rw [if_pos (by simp [Value.cells,oneCell,h1] <;> exact h1)]
  rfl
 have k1 : HLe X (X++[Ze.cells [iv e,lv] 1 false false]):=.app _ _
 have c1 : (X++[Ze.cells [iv e,lv] 1 false false])[X.length]?=some (.cells [iv e,lv] 1 false false):=Zp
 have t1 : Tab (X++[Ze.cells [iv e,lv] 1 false false]) t rows lvs fr:=h.keep (fun j hj=>List.getElem?_append_left (h.lt j hj)) (by simp)
 generalize X++[Ze.cells [iv e,lv] 1 false false]=X1 at a1 k1 c1 t1
 obtain ⟨p1,hp1⟩ : ∃ p,p=X.length:=⟨_,rfl⟩
 rw [← hp1] at a1 c1
 have htl : t < X.length:=h.lt t h.t
 have old1 : ∀ j,j < X.length→X1[j]?=X[j]?:=fun j hj=>by rw [List.getElem?_eq_getElem hj];exact k1 _ _ (List.getElem?_eq_getElem hj)
 have ej : R (n+3) J0 [pt t,.int .u8 c,.int .u64 m] X1=some (iv (judgeS rows c m),X1):=Zss t1
 rw [R,ZnN rfl]
 unfold Zew
 rw [Za a1,Za ej,Za ZE]
 by_cases j0 : judgeS rows c m=0
 ·refine ⟨X1,lvs,[],?_,?_,k1.len,fun j hj _=>old1 j hj,by simp⟩
  ·rw [j0,show Zpr rows c m=1 by unfold Zpr;rw [j0];rfl]
   rfl
  ·rw [show Zj6 rows c m e l=rows by unfold Zj6;rw [if_neg (by omega)],List.append_nil]
   exact t1
 have q1 : ((judgeS rows c m : Int)==0)=false:=by simpa using j0
 rw [q1,Zb,if_neg (by simp),Za ZE]
 by_cases j3 : judgeS rows c m=3
 ·have hc:=ZBK j3
  obtain ⟨v,q,X2,e2,r2,l2,o2⟩:=ZpM (n:=n+1) (e:=(e : Int)) (hs.mono k1) hl h1
  have e2 : R (n+3) WE [.agg #[iv e,lv]] X1=_:=e2
  have c2:=l2 _ _ t1.cell
  have t2 : Tab X2 t rows lvs fr:=t1.keep (fun j hj=>by rw [List.getElem?_eq_getElem (t1.lt j hj)];exact l2 _ _ (List.getElem?_eq_getElem (t1.lt j hj))) l2.len
  have old2 : ∀ j,j < X.length→X2[j]?=X[j]?:=fun j hj=>by
   have hj1 : j < X1.length:=Nat.lt_of_lt_of_le hj k1.len
   have e3:=l2 _ _ (List.getElem?_eq_getElem hj1)
   rw [← List.getElem?_eq_getElem hj1] at e3
   rw [e3]
   exact old1 j hj
  have hb : bld (.agg #[.int .u64 0,.int .i64 0,.slice none 0 0]) [(0,1,.int .u64 m),(1,2,.agg #[iv e,v])] X2=some (.agg #[.int .u64 m,iv e,v],X2):=by
   rw [JG]
   rfl
  have hlen:=Ze7 h.n8 h.l8
  have s3 : stA 3 (pa t (c * 3)) (.agg #[.int .u64 m,iv e,v]) X2=some (undef,X2.set t (.cells (QQ (rows.set c ⟨m,e,KG e l⟩) (lvs.set c v)) 1 false false)):=by
   have:=ZxL (vs:=Q4 ⟨m,e,KG e l⟩ v) (o:=c * 3) (k:=3) c2 (by rw [hlen];omega) rfl (by unfold Q4;rw [List.all_cons,List.all_cons,List.all_cons,r2.one.1];rfl)
   rw [ZxP h.n8 h.l8 hc] at this
   exact this
  refine ⟨X2.set t (.cells (QQ (rows.set c ⟨m,e,KG e l⟩) (lvs.set c v)) 1 false false),lvs.set c v,q,?_,?_,?_,fun j hj hne=>?_,fun j hj=>Nat.le_trans k1.len (o2 j hj)⟩
  ·rw [j3,show Zpr rows c m=0 by unfold Zpr;rw [j3];rfl]
   rw [Zb,if_pos (show (((3 : Nat) : Int)==3)=true from rfl),Za (Qe (n:=2) c1 rfl),Za Zg,Za Zj,Za e2,Za hb,Za (Tab.ix hc),Za s3]
   rfl
  ·rw [show Zj6 rows c m e l=rows.set c ⟨m,e,KG e l⟩ by unfold Zj6;rw [if_pos j3]]
   exact t2.put hc r2 hl (fun hq=>by have:=o2 t hq;have:=k1.len;omega) (Z8 c2) (by simp) (fun j hj=>List.getElem?_set_ne (fun e=>hj e.symm))
  ·simp only [List.length_set]
   exact Nat.le_trans k1.len l2.len
  ·rw [List.getElem?_set_ne (fun e=>hne e.symm)]
   exact old2 j hj
 ·refine ⟨X1,lvs,[],?_,?_,k1.len,fun j hj _=>old1 j hj,by simp⟩
  ·have q3 : ((judgeS rows c m : Int)==3)=false:=by
    rw [beq_eq_false_iff_ne]
    omega
   have hp : Zpr rows c m=12:=by
    unfold Zpr
    have:=ZvU rows c m
    generalize judgeS rows c m=k at *
    match k with
    | 0=>exact absurd rfl j0
    | 1=>rfl
    | 2=>rfl
    | 3=>exact absurd rfl j3
    | k+4=>omega
   rw [q3,hp,Zb,if_neg (by simp)]
   rfl
  ·rw [show Zj6 rows c m e l=rows by unfold Zj6;rw [if_neg j3],List.append_nil]
   exact t1
end Go.Proofs.YtgfbgfafajiehaaGreatDoor.A

namespace Go.Proofs.YtgfbgfafajiehaaGreatDoor.A
set_option linter.unusedVariables false
set_option linter.unusedSimpArgs false
open Go.Proofs Go.Proofs.YtgfbgfafajiehaaGreatDoor
variable {X X' Y : Zd} {n : Nat}
def rlv (k : Nat) : Value:=.int .u8 k
structure Brd (X : Zd) (b : Nat) (l : List Nat) (q : List Nat) : Prop where
 at_ : ∃ sl,X[b]?=some (.cells [sl] 1 false false)∧Zo X sl (l.map rlv) q
 out : b∉q
 few : l.length≤7
 rel : ∀ r∈l,r≤3
 one : l≠[]
theorem Brd.keep {b : Nat} {l q : List Nat} (h : Brd X b l q) (hk : ∀ j,j=b∨j∈q→X'[j]?=X[j]?) : Brd X' b l q:=by
 obtain ⟨sl,h1,h2⟩:=h.at_
 exact ⟨⟨sl,by rw [hk b (.inl rfl)];exact h1,h2.keep fun j hj=>hk j (.inr hj)⟩,h.out,h.few,h.rel,h.one⟩
theorem Brd.lt {b : Nat} {l q : List Nat} (h : Brd X b l q) : ∀ j,j=b∨j∈q→j < X.length:=by
 obtain ⟨sl,h1,h2⟩:=h.at_
 rintro j (rfl | hj)
 ·exact Z6 h1
 ·exact h2.lt j hj
theorem Brd.hle {b : Nat} {l q : List Nat} (h : Brd X b l q) (hk : HLe X X') : Brd X' b l q:=
 h.keep fun j hj=>by have:=h.lt j hj;rw [List.getElem?_eq_getElem this];exact hk _ _ (List.getElem?_eq_getElem this)
theorem ZAj : R (n+1) Zdx [.int .i64 3] X=some (pt (X++[Ze.cells [.int .u8 0,.int .u8 0,.int .u8 0] 1 false false]).length,X++[Ze.cells [.int .u8 0,.int .u8 0,.int .u8 0] 1 false false]++[.cells [.slice (some ⟨X.length,0,none⟩) 3 3] 1 false false]):=by
 rw [R,Zuv rfl]
 rfl
theorem ZDt : Brd (X++[Ze.cells [.int .u8 0,.int .u8 0,.int .u8 0] 1 false false]++[.cells [.slice (some ⟨X.length,0,none⟩) 3 3] 1 false false]) (X++[Ze.cells [.int .u8 0,.int .u8 0,.int .u8 0] 1 false false]).length [0,0,0] [X.length]:=by
 refine ⟨⟨_,Zp,.inr ⟨X.length,[],false,rfl,rfl,?_⟩⟩,by simp,by simp,by simp,by simp⟩
 rw [List.getElem?_append_left (by simp)]
 exact Zp
theorem ZFp {r : Nat} (h : r≤3) : R (n+1) ZdA [.int .u8 r,.int .u8 2] X=some (.bool (decide (2≤r)),X):=by
 rw [R,Zum rfl]
 match r,h with
 | 0,_=>rfl
 | 1,_=>rfl
 | 2,_=>rfl
 | 3,_=>rfl
theorem ZsS {sl : Value} {l q : List Nat} {H0 : Zd} (hr : ∀ r∈l,r≤3) (hf : l.length≤7) : ∀ (t k : Nat) (v : Value) (ws : List Value) (own : List Nat) (X : Zd),l.length - k=t→k≤l.length→Zo X sl (l.map rlv) q→(∀ j∈q,j < H0.length)→HLe H0 X→Zo X v ws own→(∀ j∈own,H0.length≤j)→ws.length≤k→
  ∃ v' ws' own' X',Zi (c5 (QW.l1 (R (n+1)))) [.int .u8 2,v,sl,iv l.length,iv k] X=some (.ext 0 [v'],X')∧Zo X' v' ws' own'∧HLe H0 X'∧ws'.length=ws.length+((l.drop k).filter fun r=>!decide (2≤r)).length
 | 0,k,v,ws,own,X,ht,hk,h,hq,hl,h2,ho,hw=>by
  have : k=l.length:=by omega
  subst this
  rw [List.drop_length]
  refine ⟨v,ws,own,X,Qa ?_,h2,hl,rfl⟩
  rw [QF]
  unfold QW.l1
  rw [Za Zs,Zb,if_neg (by simp)]
  rfl
 | t+1,k,v,ws,own,X,ht,hk,h,hq,hl,h2,ho,hw=>by
  have hkl : k < l.length:=by omega
  have hlt : (k : Int) < l.length:=by omega
  have hg:=List.getElem?_eq_getElem hkl
  have hm : l[k]∈l:=List.getElem_mem hkl
  have hd:=List.drop_eq_getElem_cons hkl
  generalize l[k]=x at hg hd hm
  have x1:=h.ix (i:=k) (by simpa using hkl) .i64 X
  have x2:=h.ldx (i:=k) (v:=.int .u8 x) (by rw [List.getElem?_map,hg];rfl)
  have x3 : R (n+1) ZdA [.int .u8 x,.int .u8 2] X=_:=ZFp (hr x hm)
  rw [hd,List.filter_cons]
  by_cases c : 2≤x
  ·rw [decide_eq_true c] at x3
   obtain ⟨v',ws',own',X',e,r1,r2,r3⟩:=ZsS hr hf t (k+1) v ws own X (by omega) (by omega) h hq hl h2 ho (by omega)
   refine ⟨v',ws',own',X',(ZL ?_).trans e,r1,r2,?_⟩
   ·rw [QF]
    unfold QW.l1
    rw [Za Zs,Zb,if_pos (by simpa using hlt),Za x1,Za x2,Za x3,Za ZM]
    refine (ZK (vs:=[.int .u8 2,v,sl,iv l.length,iv k]) (H':=X) rfl).trans ?_
    rw [QF,Za ZF,Jd (by omega)]
    rfl
   ·rw [r3,decide_eq_true c]
    simp
  ·rw [decide_eq_false c] at x3
   have hv : cvi .u8 (iv k) X=some (.int .u8 (k : Int),X):=by
    rw [QL]
    have : IntKind.u8.wrap (k : Int)=k:=by
     have : k < 8:=by omega
     match k,this with
     | 0,_=>rfl
     | 1,_=>rfl
     | 2,_=>rfl
     | 3,_=>rfl
     | 4,_=>rfl
     | 5,_=>rfl
     | 6,_=>rfl
     | 7,_=>rfl
    rw [this]
   have x4 : bsl 1 1 (.int .u8 0) [(0,1,.int .u8 (k : Int))] X=some (.slice (some ⟨X.length,0,none⟩) 1 1,X++[.cells [.int .u8 (k : Int)] 1 false false]):=ZpO rfl rfl rfl
   have k1 : HLe X (X++[Ze.cells [.int .u8 (k : Int)] 1 false false]):=.app _ _
   have d1 : Zo (X++[Ze.cells [.int .u8 (k : Int)] 1 false false]) (.slice (some ⟨X.length,0,none⟩) 1 1) [.int .u8 (k : Int)] [X.length]:=.inr ⟨X.length,[],false,rfl,rfl,Zp⟩
   obtain ⟨v2,X2,own2,e2,p2,s2,o2⟩:=(h2.hle k1).push (b:=1) d1.rd (by omega) (by omega)
   have hl1:=hl.trans k1
   have k2 : HLe H0 X2:=fun i o hi=>by
    have hi1:=Z6 hi
    have:=hl1.len
    rw [o2 i (by omega) (fun j hj=>by have:=ho j hj;omega)]
    exact hl1 i o hi
   have h3 : Zo X2 sl (l.map rlv) q:=(h.hle k1).keep fun j hj=>by
    have:=hq j hj
    have:=hl1.len
    exact o2 j (by omega) (fun i hi=>by have:=ho i hi;omega)
   obtain ⟨v',ws',own',X',e,r1,r2,r3⟩:=ZsS hr hf t (k+1) v2 (ws++[.int .u8 (k : Int)]) own2 X2 (by omega) (by omega) h3 hq k2 p2 (fun j hj=>by
    rcases s2.own j hj with h | h
    ·exact ho j h
    ·have:=hl1.len;omega) (by simp;omega)
   refine ⟨v',ws',own',X',(ZL ?_).trans e,r1,r2,?_⟩
   ·rw [QF]
    unfold QW.l1
    rw [Za Zs,Zb,if_pos (by simpa using hlt),Za x1,Za x2,Za x3,Za ZM]
    refine (ZK (vs:=[.int .u8 2,v2,sl,iv l.length,iv k]) (H':=X2) ?_).trans ?_
    ·rw [Zb,if_pos (show (!false)=true from rfl),Za hv,Za x4,Za e2]
     rfl
    rw [QF,Za ZF,Jd (by omega)]
    rfl
   ·rw [r3,decide_eq_false c]
    simp
    omega
theorem ZCg {b : Nat} {l q : List Nat} (h : Brd X b l q) : ∃ X',R (n+3) Wm [pt b,.int .u8 2] X=some (.bool (l.all fun r=>decide (2≤r)),X')∧HLe X X':=by
 obtain ⟨sl,h1,h2⟩:=h.at_
 have hl : ZC sl X=some (iv l.length,X):=by have:=h2.rd.len (H':=X);simpa using this
 obtain ⟨v,ws,own,X',e,r1,r2,r3⟩:=ZsS (n:=n) (q:=q) (H0:=X) h.rel h.few l.length 0 (.slice none 0 0) [] [] X (by omega) (by omega) h2 h2.lt (.refl _) Zo.nil (by simp) (by simp)
 rw [List.drop_zero] at r3
 have e : Zi (c5 (QW.l1 (R (n+1)))) [.int .u8 2,.slice none 0 0,sl,iv l.length,.int .i64 0] X=_:=e
 have e1 : R (n+2) W5 [pt b,.int .u8 2] X=some (v,X'):=by
  rw [R,ZiS rfl]
  unfold QW
  rw [Za Zg,Za Zj,Za (Zy h1 rfl),Za hl,QG e,ZI]
  rfl
 refine ⟨X',?_,r2⟩
 rw [R,ZlZ rfl]
 unfold ZdT
 rw [Za e1,Za (r1.rd.len (H':=X')),Za ZE]
 have : ((ws.length : Int)==0)=l.all fun r=>decide (2≤r):=by
  rw [r3,Bool.eq_iff_iff,beq_iff_eq,List.all_eq_true]
  simp only [List.length_nil,Nat.zero_add]
  constructor
  ·intro h0 x hx
   have h1 : (l.filter fun r=>!decide (2≤r))=[]:=List.length_eq_zero_iff.1 (by omega)
   have:=List.filter_eq_nil_iff.1 h1 x hx
   simpa using this
  ·intro ha
   have : (l.filter fun r=>!decide (2≤r))=[]:=List.filter_eq_nil_iff.2 fun x hx=>by simpa using ha x hx
   rw [this]
   rfl
 rw [this]
 rfl
end Go.Proofs.YtgfbgfafajiehaaGreatDoor.A

namespace Go.Proofs.YtgfbgfafajiehaaGreatDoor.A
set_option linter.unusedVariables false
set_option maxRecDepth 100000
set_option linter.unusedSimpArgs false
open Go.Proofs Go.Proofs.YtgfbgfafajiehaaGreatDoor
section
variable {H X X' : Zd} {n p : Nat} {s : RSt} {sl v : Value} {q : List Nat} {l : List Tx}
end
end Go.Proofs.YtgfbgfafajiehaaGreatDoor.A

namespace Go.Proofs.YtgfbgfafajiehaaGreatDoor.A
set_option linter.unusedVariables false
set_option maxRecDepth 100000
set_option linter.unusedSimpArgs false
open Go.Proofs Go.Proofs.YtgfbgfafajiehaaGreatDoor
theorem ZbT.step {X0 X X' : Zd} {sl : Value} {us : List Zv} {q o1 o2 : List Nat} (h : ZbT X0 X sl us q) (hs : Zu o1 X o2 X') (hd : ∀ j,X0.length≤j→j∉o1) : ZbT X0 X' sl us q:=
 ⟨h.r.step hs fun j hj=>hd j (h.o j hj),h.o,fun w hw=>by
  obtain ⟨qu,h1,h2,h3⟩:=h.u w hw
  exact ⟨qu,h1.step hs fun j hj=>hd j (h2 j hj).1,h2,h3⟩,h.un⟩
section
variable {H X X' X0 : Zd} {n p : Nat} {s : RSt} {sl v vg bv : Value} {q qg : List Nat} {l gl : List Tx} {bs : List UInt8}
end
end Go.Proofs.YtgfbgfafajiehaaGreatDoor.A

namespace Go.Proofs.YtgfbgfafajiehaaGreatDoor.A
set_option linter.unusedVariables false
set_option maxRecDepth 100000
set_option linter.unusedSimpArgs false
open Go.Proofs Go.Proofs.YtgfbgfafajiehaaGreatDoor
section
variable {H X X' H0 : Zd} {n p : Nat} {sl v gv uv : Value} {l N : List Tx} {us : List Zv} {u : Zv} {b : Bool}
end
end Go.Proofs.YtgfbgfafajiehaaGreatDoor.A

namespace Go.Proofs.YtgfbgfafajiehaaGreatDoor.A
set_option linter.unusedVariables false
set_option maxRecDepth 100000
set_option linter.unusedSimpArgs false
open Go.Proofs Go.Proofs.YtgfbgfafajiehaaGreatDoor
section
variable {H0 H X : Zd} {n p d b M L : Nat} {a c v : Value} {bs : List UInt8} {s : RSt}
end
end Go.Proofs.YtgfbgfafajiehaaGreatDoor.A

namespace Go.Proofs.YtgfbgfafajiehaaGreatDoor.A
set_option linter.unusedVariables false
set_option maxRecDepth 100000
set_option linter.unusedSimpArgs false
open Go.Proofs Go.Proofs.YtgfbgfafajiehaaGreatDoor
abbrev uZ : Zv:=⟨[],[],[],false,.slice none 0 0,[]⟩
structure B5 (H X : Zd) (P1 P2 P3 P4 P5 : Nat) (s : RSt) (u : Zv) : Prop where
 b1 : X[P1]?=some (.cells (RR s) 1 false false)
 b2 : X[P2]?=some (.cells (RR (0,[])) 1 false false)
 b3 : X[P3]?=some (.cells uZ.cells 1 false false)
 b4 : X[P4]?=some (.cells uZ.cells 1 false false)
 b5 : X[P5]?=some (.cells u.cells 1 false false)
 le : HLe H X
 o : H.length≤P1∧P1 < P2∧P2 < P3∧P3 < P4∧P4 < P5
section
variable {H0 H X X' : Zd} {n p d b M L P1 P2 P3 P4 P5 i : Nat} {a c v : Value} {bs : List UInt8} {s s' : RSt} {u u' : Zv}
theorem B5.hle (h : B5 H X P1 P2 P3 P4 P5 s u) (hl : HLe X X') : B5 H X' P1 P2 P3 P4 P5 s u:=⟨hl _ _ h.b1,hl _ _ h.b2,hl _ _ h.b3,hl _ _ h.b4,hl _ _ h.b5,h.le.trans hl,h.o⟩
theorem B5.putU (h : B5 H X P1 P2 P3 P4 P5 s u) (hi : i < 5) (hv : oneCell v=true) (hu : u.cells.set i v=u'.cells) : ∃ X',st1 (pa P5 i) v X=some (undef,X')∧B5 H X' P1 P2 P3 P4 P5 s u'∧X.length=X'.length∧∀ j,P5 < j→X'[j]?=X[j]?:=by
 have ho:=h.o
 have w:=ZeS (o:=i) h.b5 (by simpa using hi) hv
 rw [hu] at w
 refine ⟨_,w,⟨(List.getElem?_set_ne (by omega)).trans h.b1,(List.getElem?_set_ne (by omega)).trans h.b2,(List.getElem?_set_ne (by omega)).trans h.b3,(List.getElem?_set_ne (by omega)).trans h.b4,Z8 h.b5,h.le.put (by omega),ho⟩,by simp,fun j hj=>List.getElem?_set_ne (by omega)⟩
theorem B5.d1 (h : B5 H X P1 P2 P3 P4 P5 s u) : ldA 2 (pt P1) X=some (.agg (RR s).toArray,X):=Qe (n:=2) h.b1 rfl
theorem B5.d5 (h : B5 H X P1 P2 P3 P4 P5 s u) : ldA 5 (pt P5) X=some (.agg u.cells.toArray,X):=Qe (n:=5) h.b5 rfl
theorem Zy2 (hv : oneCell u.gv=true) : u.cells.all oneCell=true:=by simp only [Zv.cells,List.all_cons,hv];rfl
theorem B5.fin (h : B5 H X P1 P2 P3 P4 P5 s u) {Q : Nat} (hQ : Q=P4∨Q=P5) (bQ : X[Q]?=some (.cells u'.cells 1 false false)) (hv : oneCell u'.gv=true) : ∃ X',(bind (ldA 2 (pt P1)) fun y54=>bind (ldA 5 (pt Q)) fun y55=>bind (stA 2 (pt P2) y54) fun _=>bind (ldA 5 (pt Q)) fun u_56=>same u_56 y55 <| bind (stA 5 (pt P3) y55) fun _=>bind (ldA 2 (pt P2)) fun y57=>bind (ldA 5 (pt P3)) fun y58=>ret (Value.tuple #[y57,y58])) X=some (.tuple #[.agg (RR s).toArray,.agg u'.cells.toArray],X')∧HLe H X'∧∀ j,P5 < j→X'[j]?=X[j]?:=by
 have ho:=h.o
 have we:=Zb7 (vs:=RR s) (n:=2) h.b2 rfl rfl (ZEn _)
 have x1 : ldA 5 (pt Q) X=some (.agg u'.cells.toArray,X):=Qe (n:=5) bQ rfl
 have x2 : ldA 5 (pt Q) (X.set P2 (.cells (RR s) 1 false false))=some (.agg u'.cells.toArray,_):=Qe (n:=5) ((List.getElem?_set_ne (by omega)).trans bQ) rfl
 have c3 : (X.set P2 (.cells (RR s) 1 false false))[P3]?=some (.cells uZ.cells 1 false false):=(List.getElem?_set_ne (by omega)).trans h.b3
 have x3:=Zb7 (vs:=u'.cells) (n:=5) c3 rfl rfl (Zy2 hv)
 have x4 : ldA 2 (pt P2) ((X.set P2 (.cells (RR s) 1 false false)).set P3 (.cells u'.cells 1 false false))=some (.agg (RR s).toArray,_):=Qe (n:=2) ((List.getElem?_set_ne (by omega)).trans (Z8 h.b2)) rfl
 have x5 : ldA 5 (pt P3) ((X.set P2 (.cells (RR s) 1 false false)).set P3 (.cells u'.cells 1 false false))=some (.agg u'.cells.toArray,_):=Qe (n:=5) (Z8 c3) rfl
 refine ⟨(X.set P2 (.cells (RR s) 1 false false)).set P3 (.cells u'.cells 1 false false),?_,(h.le.put (by omega)).put (by omega),fun j hj=>(List.getElem?_set_ne (by omega)).trans (List.getElem?_set_ne (by omega))⟩
 rw [Za h.d1,Za x1,Za we,Za x2,QY,Za x3,Za x4,Za x5]
 rfl
end
end Go.Proofs.YtgfbgfafajiehaaGreatDoor.A

namespace Go.Proofs.YtgfbgfafajiehaaGreatDoor.A
set_option linter.unusedVariables false
set_option maxRecDepth 100000
set_option linter.unusedSimpArgs false
open Go.Proofs Go.Proofs.YtgfbgfafajiehaaGreatDoor
theorem JM.headF {es : Nat} {X : Zd} {w : Value} {rows : List (List Value)} {q : List Nat} (h : JM es X w rows q) (he : 0 < es) {i : Nat} (hi : i≤rows.length) : ∃ v,(∀ X',HLe X X'→slv es w none (some (iv i)) none X'=some (v,X'))∧SlN es X v (rows.take i):=by
 rcases h with ⟨rfl,rfl,rfl⟩ | ⟨sid,rest,r,g,rfl,rfl,hid,hr,hx⟩
 ·have : i=0:=by simpa using hi
  subst this
  exact ⟨.slice none 0 0,fun _ _=>rfl,SlN.nil⟩
 ·have hb : bnd (some (iv i)) rows.length=some i:=by simp [bnd]
  have hb0 : ∀ d,bnd none d=some d:=fun _=>rfl
  have hl : (rows.take i).length=i:=by rw [List.length_take];omega
  have hxt : ∀ y∈rows.take i,y.length=es:=fun y hy=>hx y (List.mem_of_mem_take hy)
  by_cases h0 : rows.length+r=0
  ·have hi0 : i=0:=by omega
   subst hi0
   refine ⟨.slice (some ⟨sid,0,some (bif g then 1 else 0)⟩) 0 0,fun X' hl'=>?_,⟨_,_,rfl,(fun e=>by cases e),rfl,by simp⟩⟩
   simp only [slv,hl' _ _ hid,hb,hb0]
   rw [if_pos ⟨trivial,by omega,by omega,by omega⟩,if_pos h0]
  ·refine ⟨.slice (some ⟨sid,0+0 * es,none⟩) (i - 0) (rows.length+r - 0),fun X' hl'=>?_,?_⟩
   ·simp only [slv,hl' _ _ hid,hb,hb0]
    rw [if_pos ⟨trivial,by omega,by omega,by omega⟩,if_neg h0]
   ·rw [Nat.zero_mul,Nat.add_zero,Nat.sub_zero,Nat.sub_zero]
    refine ⟨some ⟨sid,0,none⟩,rows.length+r,by rw [hl],(fun e=>by cases e),?_,hxt⟩
    unfold Qu
    simp only [hid]
    have hfl:=Zbd hx
    have hft:=Zbd hxt
    rw [hl] at hft
    have hle : i * es≤rows.length * es:=Nat.mul_le_mul_right _ hi
    rw [if_pos (by rw [List.length_append,hfl];omega),List.drop_zero]
    have hs : rows.flatten=(rows.take i).flatten++(rows.drop i).flatten:=by rw [← List.flatten_append,List.take_append_drop]
    rw [hs,List.append_assoc,← hft,List.take_left]
theorem ZbT.cut {X0 X : Zd} {sl : Value} {us : List Zv} {q : List Nat} (h : ZbT X0 X sl us q) : ZF0 X sl us:=fun k hk=>by
 obtain ⟨v,h1,h2⟩:=h.r.headF (by omega) (i:=k) (by rw [List.length_map];exact hk)
 exact ⟨v,h1,by rw [List.map_take];exact h2⟩
section
variable {H0 H X X' X0 : Zd} {n p d b P1 P2 P3 : Nat} {v sl gv : Value} {bs : List UInt8} {s : RSt} {q : List Nat} {us : List Zv}
end
end Go.Proofs.YtgfbgfafajiehaaGreatDoor.A

namespace Go.Proofs.YtgfbgfafajiehaaGreatDoor.A
set_option linter.unusedVariables false
set_option maxRecDepth 100000
set_option linter.unusedSimpArgs false
open Go.Proofs Go.Proofs.YtgfbgfafajiehaaGreatDoor
structure Ans (X : Zd) (wv : Value) (r : Nat × (List Tx × List ZaM)) : Prop where
 one : ∃ uv gv,wv=.agg #[uv,gv]∧oneCell uv=true∧oneCell gv=true
 ok : r.1=0→∃ uv gv us,wv=.agg #[uv,gv]∧YP X uv us∧us.map JN=r.2.2∧Sl X gv (r.2.1.map strv)
theorem Ans.no {X : Zd} {r : Nat × (List Tx × List ZaM)} (h : r.1≠0) : Ans X (.agg #[.slice none 0 0,.slice none 0 0]) r:=⟨⟨_,_,rfl,rfl,rfl⟩,fun h0=>absurd h0 h⟩
section
variable {H0 H X X' X0 : Zd} {n p d b p2 p4 p5 : Nat} {v sl gv : Value} {bs : List UInt8} {s : RSt} {q : List Nat} {us : List Zv}
end
end Go.Proofs.YtgfbgfafajiehaaGreatDoor.A

namespace Go.Proofs.YtgfbgfafajiehaaGreatDoor.A
set_option linter.unusedVariables false
set_option linter.unusedSimpArgs false
open Go.Proofs Go.Proofs.YtgfbgfafajiehaaGreatDoor
section
variable {X X' H H0 : Zd} {n d c w : Nat} {r : NR} {uv gv sl : Value} {s : NSt} {u : ZeK} {ac : List ZeK}
end
end Go.Proofs.YtgfbgfafajiehaaGreatDoor.A

namespace Go.Proofs.YtgfbgfafajiehaaGreatDoor.A
set_option linter.unusedVariables false
set_option maxRecDepth 100000
set_option linter.unusedSimpArgs false
open Go.Proofs Go.Proofs.YtgfbgfafajiehaaGreatDoor
section
variable {X X' H H0 : Zd} {n d c w : Nat} {r : NR} {uv gv sl : Value} {s : NSt} {u : ZeK} {ac : List ZeK}
end
end Go.Proofs.YtgfbgfafajiehaaGreatDoor.A

namespace Go.Proofs.YtgfbgfafajiehaaGreatDoor.A
set_option linter.unusedVariables false
set_option maxRecDepth 100000
set_option linter.unusedSimpArgs false
open Go.Proofs Go.Proofs.YtgfbgfafajiehaaGreatDoor
section
variable {X X' H H0 : Zd} {n d : Nat} {a : Value} {bs : List UInt8}
end
end Go.Proofs.YtgfbgfafajiehaaGreatDoor.A

namespace Go.Proofs.YtgfbgfafajiehaaGreatDoor.A
set_option linter.unusedVariables false
set_option linter.unusedSimpArgs false
open Go.Proofs Go.Proofs.YtgfbgfafajiehaaGreatDoor
section
variable {X X' H H0 : Zd} {n d b : Nat} {v sl gv : Value} {m : List Ent} {e : Ent} {q : List Nat}
theorem Zyx (h : ZaN e=0) : Jw (ZcV e)=0:=by
 have h1 : Zt e.1=true∧Kr e.2=true:=by
  unfold ZaN at h
  cases h2 : Zt e.1 with
  | false=>rw [h2] at h;simp at h
  | true=>
   cases h3 : Kr e.2 with
   | false=>rw [h2,h3] at h;simp at h
   | true=>exact ⟨rfl,rfl⟩
 unfold Jw ZcV
 rw [h1.1,h1.2]
 rfl
theorem Zoz : ∀ {us : List Zv},(∀ u∈us,Jw u=0)→Yc us=0
 | [],_=>rfl
 | u :: us,h=>by
  unfold Yc
  rw [h u (by simp),if_pos rfl]
  exact Zoz fun w hw=>h w (by simp [hw])
theorem ZFD (hE : ∀ e∈m,ZaN e=0) (hR : Y6 (m.map (·.1))=true) (hn : m.length≤12) : Zbs (m.map ZcV) []=0:=by
 have h1 : Yc (m.map ZcV)=0:=Zoz fun u hu=>by
  obtain ⟨e,he,rfl⟩:=List.mem_map.1 hu
  exact Zyx (hE e he)
 have h2 : (m.map ZcV).map (·.nm)=m.map (·.1):=by rw [List.map_map];rfl
 have h3 : Zkt (m.map ZcV)=0:=by
  unfold Zkt
  rw [if_pos h1,h2,hR,List.length_map,if_pos rfl,if_neg (show ¬ 12 < m.length by omega)]
 have h4 : ZcR (m.map ZcV) []=0:=by
  unfold ZcR
  rw [if_pos h3]
  rfl
 unfold Zbs
 rw [if_pos h4]
 refine ZsD fun i u hu=>?_
 obtain ⟨e,_,rfl⟩:=List.mem_map.1 (List.mem_of_getElem? hu)
 unfold ZeW
 rw [if_pos (by rfl),if_neg (fun h=>h.1 rfl)]
theorem ZBx : ∃ X',R (n+1) Zj7 [.agg (usr e).toArray] X=some (.agg (usr e).toArray,X')∧HLe X X':=by
 have z1 : alc 1 (.agg (usr e).toArray) X=some (pt X.length,X++[.cells (usr e) 1 false false]):=bx (vs:=usr e) rfl
 have k1 : HLe X (X++[Ze.cells (usr e) 1 false false]):=.app _ _
 have g1 : (X++[Ze.cells (usr e) 1 false false])[X.length]?=some (.cells (usr e) 1 false false):=Zp
 generalize X++[Ze.cells (usr e) 1 false false]=X1 at z1 k1 g1
 have z2 : alc 1 zU X1=some (pt X1.length,X1++[.cells (usr ([],[])) 1 false false]):=bx (vs:=usr ([],[])) rfl
 have k2 : HLe X1 (X1++[Ze.cells (usr ([],[])) 1 false false]):=.app _ _
 have g2 : (X1++[Ze.cells (usr ([],[])) 1 false false])[X1.length]?=some (.cells (usr ([],[])) 1 false false):=Zp
 have g1':=k2 _ _ g1
 have hl:=k1.len
 generalize X1++[Ze.cells (usr ([],[])) 1 false false]=X2 at z2 k2 g2 g1'
 have a0 : ld1 (pa X.length 0) X2=some (strv e.1,X2):=Zy g1' rfl
 have a1 : ld1 (pa X.length 1) X2=some (strv e.2,X2):=Zy g1' rfl
 have zb:=Zyd (k:=e.1) (s:=e.2) (H:=X2)
 refine ⟨X2.set X1.length (.cells (usr e) 1 false false),?_,(k1.trans k2).put hl⟩
 rw [R,ZzC rfl]
 unfold Zo3
 rw [Za z1,Za z2,Za Zj,Za a0,Za Zj,Za a1,Za zb]
 exact ZCV (vs:=usr e) g2 rfl rfl rfl
theorem ZFC {rows : List (List Value)} {r : List Value} (hr : JM 5 X sl rows q) (hn : rows.length≤1000) (h5 : r.length=5) (h1 : r.all oneCell=true) : ∃ w X1 sl' X2 q',bsl 5 1 zU [(0,5,.agg r.toArray)] X=some (w,X1)∧app 5 80 sl w X1=some (sl',X2)∧JM 5 X2 sl' (rows++[r]) q'∧Zu q X q' X2:=by
 have x4:=ZyZ (es:=5) (z:=zU) (H:=X) rfl h5 h1
 have l1 : HLe X (X++[Ze.cells r 5 false false]):=.app _ _
 have s1 : SlN 5 (X++[Ze.cells r 5 false false]) (.slice (some ⟨X.length,0,none⟩) 1 1) [r]:=SlN.whole (rows:=[r]) (c:=1) (e:=5) (g:=false) (ro:=false) (by rw [Zp];simp) (by simpa using h5)
 generalize X++[Ze.cells r 5 false false]=X1 at x4 l1 s1
 obtain ⟨sl',X2,q',x5,hn2,s2⟩:=(hr.step l1.step (by simp)).push (b:=80) s1 h5 (by omega) (by omega)
 exact ⟨_,X1,sl',X2,q',x4,x5,hn2,l1.stepq.trans s2⟩
theorem ZCO (hn : m.length≤100) (hs : SlN 5 H0 v (m.map usr)) : ∀ (t j : Nat) (sl : Value) (q : List Nat) (X : Zd),m.length - j=t→j≤m.length→HLe H0 X→(∀ i∈q,H0.length≤i)→JM 5 X sl ((m.take j).map usr) q→
  ∃ X' sl' q',Zi (c4 (Wz.l1 (R (n+1)))) [sl,v,iv m.length,iv j] X=some (.ext 0 [sl'],X')∧JM 5 X' sl' (m.map usr) q'∧HLe H0 X'∧∀ i∈q',H0.length≤i
 | 0,j,sl,q,X,ht,hj,hle,hq,hr=>by
  have hj : j=m.length:=by omega
  subst hj
  rw [List.take_length] at hr
  refine ⟨X,sl,q,Qa ?_,hr,hle,hq⟩
  rw [ZJ]
  unfold Wz.l1
  rw [Za Zs,Zb,if_neg (by simp)]
  rfl
 | t+1,j,sl,q,X,ht,hj,hle,hq,hr=>by
  have hkl : j < m.length:=by omega
  have hlt : (j : Int) < m.length:=by omega
  have hg:=List.getElem?_eq_getElem hkl
  have htk : m.take (j+1)=m.take j++[m[j]]:=by rw [List.take_add_one,hg];rfl
  generalize m[j]=e at hg htk
  have hf:=fun {K : Value→A.M Out}=>(hs.mono hle).fetch (k:=K) (r:=usr e) (i:=j) (by rw [List.getElem?_map,hg];rfl) (by omega) .i64
  have z4 : ∀ K : Value→A.M Out,bind (alc 1 zU) (fun q=>bind (stA 5 q (.agg (usr e).toArray)) fun _=>K q) X=K (pt X.length) (X++[.cells (usr e) 1 false false]):=fun K=>ZaF (n:=5) (zs:=usr ([],[])) (r:=usr e) rfl rfl rfl rfl
  have k1 : HLe X (X++[Ze.cells (usr e) 1 false false]):=.app _ _
  have g1 : (X++[Ze.cells (usr e) 1 false false])[X.length]?=some (.cells (usr e) 1 false false):=Zp
  generalize X++[Ze.cells (usr e) 1 false false]=X1 at z4 k1 g1
  have d1 : ldA 5 (pt X.length) X1=some (.agg (usr e).toArray,X1):=Qe (n:=5) g1 rfl
  obtain ⟨X2,e2,k2⟩:=ZBx (n:=n) (e:=e) (X:=X1)
  have hr2:=hr.step (k1.trans k2).step (by simp)
  obtain ⟨w,X3,sl',X4,q',e3,e4,r4,s4⟩:=ZFC (r:=usr e) hr2 (by rw [List.length_map,List.length_take];omega) rfl rfl
  have hm:=(hle.trans (k1.trans k2)).more s4 hq
  rw [← List.map_singleton (f:=usr),← List.map_append,← htk] at r4
  obtain ⟨X5,sl5,q5,e5,r5,k5,o5⟩:=ZCO hn hs t (j+1) sl' q' X4 (by omega) (by omega) hm.1 hm.2 r4
  refine ⟨X5,sl5,q5,(ZL ?_).trans e5,r5,k5,o5⟩
  rw [ZJ]
  unfold Wz.l1
  rw [Za Zs,Zb,if_pos (by simpa using hlt),hf,z4,Za d1,Za e2,Za e3,Za e4,Za ZF,Jd (by omega)]
  rfl
theorem ZDd {m : QH} (h : Dir X d b m) (hE : ∀ e∈YT m,ZaN e=0) (hR : Y6 ((YT m).map (·.1))=true) (hn : (YT m).length≤12) : ∃ X' d' r s c,R (n+13) ZfL [pt d] X=some (pt d',X')∧HLe X X'∧OfS X X' d' r s c [] ((YT m).map ZcV):=by
 obtain ⟨v,q,X1,e1,r1,k1,o1⟩:=Zvo (n:=n+9) h
 have e1 : R (n+12) WL [pt d] X=_:=e1
 have hl : ZC v X1=some (iv (YT m).length,X1):=by have:=r1.rd.len (H':=X1);rwa [List.length_map] at this
 obtain ⟨X2,sl,q2,e2,r2,k2,o2⟩:=ZCO (n:=n+11) (H0:=X1) (by omega) r1.rd (YT m).length 0 (.slice none 0 0) [] X1 (by omega) (by omega) (.refl _) (by simp) JM.nil
 have e2 : Zi (c4 (Wz.l1 (R (n+12)))) [.slice none 0 0,v,iv (YT m).length,.int .i64 0] X1=_:=e2
 obtain ⟨X3,k3,h3⟩:=ZAo (n:=n) (us:=(YT m).map ZcV) (gs:=[]) (by rw [List.length_map];omega) (by simp) r2.us (Zo.nil (H:=X2)).rd
 rw [if_pos (ZFD hE hR hn)] at h3
 obtain ⟨d',r,s,c,e3,hS⟩:=h3
 have hle:=(k1.trans k2).trans k3
 refine ⟨X3,d',r,s,c,?_,hle,⟨hle,hS.nd,fun i hi=>Nat.le_trans (k1.trans k2).len (hS.own i hi),hS.K,hS.ok⟩⟩
 rw [R,Zue rfl]
 unfold Wz
 have q0 : bop .ptr .eql (pt d) (.pointer none) X=some (.bool false,X):=Jn
 rw [Za q0,Zb,if_neg (by simp),Za e1,Za hl,QG e2,ZI,Jy,Za e3,Za Zq,Za Zr]
 rfl
end
end Go.Proofs.YtgfbgfafajiehaaGreatDoor.A

namespace Go.Proofs.YtgfbgfafajiehaaGreatDoor.A
set_option linter.unusedVariables false
set_option linter.unusedSimpArgs false
open Go.Proofs Go.Proofs.YtgfbgfafajiehaaGreatDoor
section
variable {X X' H H0 : Zd} {n d b : Nat} {v sl gv bv : Value} {m : List Ent} {e : Ent} {q : List Nat} {bs : List UInt8}
theorem ZAS (hR : Zy1 m) : Y6 (m.map (·.1))=true:=Zhx (List.pairwise_map.2 hR)
end
end Go.Proofs.YtgfbgfafajiehaaGreatDoor.A

namespace Go.Proofs.YtgfbgfafajiehaaGreatDoor.A
set_option linter.unusedVariables false
set_option linter.unusedSimpArgs false
open Go.Proofs Go.Proofs.YtgfbgfafajiehaaGreatDoor
variable {X X' Y : Zd} {n : Nat}
def DX (X : Zd) (D : QS) (ov nv : Value) (M C : List Nat) (c : Nat) : Prop:=match D with
 | .old m=>∃ d b,ov=pt d∧nv=.pointer none∧Dir X d b m∧(∀ p∈m,ZaN p=0)∧M=[b]∧C=[d]
 | .now s=>∃ d r,ov=.pointer none∧nv=pt d∧ND X d r s c∧M=r.own∧C=[d,r.x,r.g]
theorem DX.lt {D : QS} {ov nv : Value} {M C : List Nat} {c : Nat} (h : DX X D ov nv M C c) : ∀ j,j∈M∨j∈C→j < X.length:=by
 cases D with
 | old m=>
  obtain ⟨d,b,rfl,rfl,h1,h2,rfl,rfl⟩:=h
  rintro j (hj | hj) <;> cases List.mem_singleton.1 hj
  ·exact h1.lt.2
  ·exact h1.lt.1
 | now s=>
  obtain ⟨d,r,rfl,rfl,h1,rfl,rfl⟩:=h
  rintro j (hj | hj)
  ·exact (h1.isMap hj).1
  ·simp only [List.mem_cons,List.not_mem_nil,or_false] at hj
   rcases hj with rfl | rfl | rfl
   ·exact Z6 h1.cell
   ·exact Z6 h1.ix.c
   ·exact h1.gr.glt
theorem DX.step {D : QS} {ov nv : Value} {M C o1 o2 : List Nat} {c : Nat} (h : DX X D ov nv M C c) (hs : Zu o1 X o2 X') (hm : ∀ j∈M,j∉o1) (hc : ∀ j∈C,j∉o1) : DX X' D ov nv M C c:=by
 cases D with
 | old m=>
  obtain ⟨d,b,rfl,rfl,h1,h2,rfl,rfl⟩:=h
  exact ⟨d,b,rfl,rfl,h1.step hs (hc d (by simp)) (hm b (by simp)),h2,rfl,rfl⟩
 | now s=>
  obtain ⟨d,r,rfl,rfl,h1,rfl,rfl⟩:=h
  exact ⟨d,r,rfl,rfl,h1.step hs (hc d (by simp)) (hc r.x (by simp)) (hc r.g (by simp)) hm,rfl,rfl⟩
theorem DX.hle {D : QS} {ov nv : Value} {M C : List Nat} {c : Nat} (h : DX X D ov nv M C c) (hl : HLe X X') : DX X' D ov nv M C c:=h.step hl.step (by simp) (by simp)
def crE (k s : Tx) : QS→Int
 | .old m=>Kz k s m
 | .now t=>YU k s t.A
def crD (k s : Tx) : QS→QS
 | .old m=>.old (ZfC k s m)
 | .now t=>.now (Zch k s t)
def deE (k : Tx) : QS→Int
 | .old m=>JU k m
 | .now t=>ZG k t.A
def deD (k : Tx) : QS→QS
 | .old m=>.old (Zfv k m)
 | .now t=>.now (Zck k t)
def seE (k s : Tx) : QS→Int
 | .old m=>ZbJ k s m
 | .now t=>Yg k s t.A
def seD (k s : Tx) : QS→QS
 | .old m=>.old (Zpj k s m)
 | .now t=>.now (Zbg k s t)
def ZzO : QS→List Tx
 | .old m=>m.map (·.1)
 | .now s=>Wr s
def ZsE : QS→Value→Value→Value
 | .old _,ov,_=>.iface 77 ov
 | .now _,_,nv=>.iface 79 nv
section
variable {m : QH} {k h : Tx}
theorem Ztg {α : Type} {m : List (Tx × α)} {k : Tx} {v : α} {p : Tx × α} (h : p∈Qo k v m) : p=(k,v)∨p∈m:=by
 unfold Qo at h
 split at h
 ·obtain ⟨q,hq,rfl⟩:=List.mem_map.1 h
  by_cases e : q.1=k
  ·rw [if_pos e];exact .inl rfl
  ·rw [if_neg e];exact .inr hq
 ·rcases List.mem_append.1 h with h | h
  ·exact .inr h
  ·exact .inl (by simpa using h)
theorem ZEX (h0 : Kz k h m=0) : Zt k=true∧Kr h=true:=by
 unfold Kz ZA Z9 We at h0
 cases hk : Zt k
 ·rw [hk] at h0;simp at h0
 ·cases hh : Kr h
  ·rw [hk,hh] at h0;simp at h0
  ·exact ⟨rfl,rfl⟩
theorem ZFg (h0 : ZbJ k h m=0) : Zt k=true∧Kr h=true:=by
 unfold ZbJ ZA Z9 We at h0
 cases hk : Zt k
 ·rw [hk] at h0;simp at h0
 ·cases hh : Kr h
  ·rw [hk,hh] at h0;simp at h0
  ·exact ⟨rfl,rfl⟩
theorem ZD9 (g : ∀ p∈m,ZaN p=0) : ∀ p∈ZfC k h m,ZaN p=0:=by
 unfold ZfC
 split
 ·rename_i h0
  intro p hp
  rcases Ztg hp with rfl | hp
  ·exact Zjl.2 (ZEX h0)
  ·exact g p hp
 ·exact g
theorem ZDP (g : ∀ p∈m,ZaN p=0) : ∀ p∈Zfv k m,ZaN p=0:=by
 unfold Zfv
 split
 ·intro p hp
  exact g p (List.mem_filter.1 hp).1
 ·exact g
theorem ZDW (g : ∀ p∈m,ZaN p=0) : ∀ p∈Zpj k h m,ZaN p=0:=by
 unfold Zpj
 split
 ·rename_i h0
  intro p hp
  rcases Ztg hp with rfl | hp
  ·exact Zjl.2 (ZFg h0)
  ·exact g p hp
 ·exact g
theorem ZCD {d b : Nat} (D : Dir X d b m) (hE : ∀ p∈m,ZaN p=0) : (∀ e∈YT m,ZaN e=0)∧Y6 ((YT m).map (·.1))=true∧(YT m).length≤12:=
 ⟨fun e he=>hE e (KN ((ZzP D.g.nod).1 he)),ZAS (Zyy D.g.nod),by rw [ZtG];exact D.few⟩
end
theorem Zeb {P : Program} {Γ : Zc} {t : TypeId} {x : Value} {nm : String} {g : FuncId} {vs : List Value} (h : ZeE P t nm=some g) : Za2 P Γ (.iface t x) nm vs=Γ g (x :: vs):=by
 unfold Za2
 simp only [h]
theorem ZFT : ZeE Tryz.prog 77 "Create" = some Zap := by kernel_rfl
theorem ZFP : ZeE Tryz.prog 77 "Delete" = some Zar := by kernel_rfl
theorem ZFQ : ZeE Tryz.prog 77 "SetHash" = some WW := by kernel_rfl
theorem ZFM : ZeE Tryz.prog 77 "List" = some Zc3 := by kernel_rfl
theorem ZFV : ZeE Tryz.prog 79 "Create" = some Zak := by kernel_rfl
theorem ZFW : ZeE Tryz.prog 79 "Delete" = some Zat := by kernel_rfl
theorem ZFU : ZeE Tryz.prog 79 "SetHash" = some WR := by kernel_rfl
theorem ZFR : ZeE Tryz.prog 79 "List" = some Zc4 := by kernel_rfl
section
variable {D : QS} {ov nv : Value} {M C : List Nat} {c : Nat} {k s pre : Tx}
theorem ZAv (h : DX X D ov nv M C c) (hk : k.length ≤ 1000000000) (hs : s.length ≤ 1000000000) : ∃ X', Za2 Tryz.prog (R (n + 10)) (ZsE D ov nv) "Create" [strv k, strv s] X = some (iv (crE k s D), X') ∧ DX X' (crD k s D) ov nv M C c ∧ Zu M X M X' := by
 cases D with
 | old m=>
  obtain ⟨d,b,rfl,rfl,h1,h2,rfl,rfl⟩:=h
  obtain ⟨X',e,D',st⟩:=ZCs (n:=n+3) h1 hk hs
  exact ⟨X',(congrFun (Zeb ZFT) X).trans e,⟨d,b,rfl,rfl,D',ZD9 h2,rfl,rfl⟩,st⟩
 | now t=>
  obtain ⟨d,r,rfl,rfl,h1,rfl,rfl⟩:=h
  obtain ⟨X',e,D',st⟩:=ZzH (n:=n) (k:=k) (h:=s) h1
  exact ⟨X',(congrFun (Zeb ZFV) X).trans e,⟨d,r,rfl,rfl,D',rfl,rfl⟩,st⟩
theorem ZAV (h : DX X D ov nv M C c) (hk : k.length ≤ 1000000000) : ∃ X', Za2 Tryz.prog (R (n + 10)) (ZsE D ov nv) "Delete" [strv k] X = some (iv (deE k D), X') ∧ DX X' (deD k D) ov nv M C c ∧ Zu M X M X' := by
 cases D with
 | old m=>
  obtain ⟨d,b,rfl,rfl,h1,h2,rfl,rfl⟩:=h
  obtain ⟨X',e,D',st⟩:=ZBX (n:=n+3) h1 hk
  exact ⟨X',(congrFun (Zeb ZFP) X).trans e,⟨d,b,rfl,rfl,D',ZDP h2,rfl,rfl⟩,st⟩
 | now t=>
  obtain ⟨d,r,rfl,rfl,h1,rfl,rfl⟩:=h
  obtain ⟨X',e,D',st⟩:=ZAp (n:=n) (k:=k) h1
  exact ⟨X',(congrFun (Zeb ZFW) X).trans e,⟨d,r,rfl,rfl,D',rfl,rfl⟩,st⟩
theorem Zzv (h : DX X D ov nv M C c) (hk : k.length ≤ 1000000000) (hs : s.length ≤ 1000000000) : ∃ X', Za2 Tryz.prog (R (n + 10)) (ZsE D ov nv) "SetHash" [strv k, strv s] X = some (iv (seE k s D), X') ∧ DX X' (seD k s D) ov nv M C c ∧ Zu M X M X' := by
 cases D with
 | old m=>
  obtain ⟨d,b,rfl,rfl,h1,h2,rfl,rfl⟩:=h
  obtain ⟨X',e,D',st⟩:=ZBf (n:=n+3) h1 hk hs
  exact ⟨X',(congrFun (Zeb ZFQ) X).trans e,⟨d,b,rfl,rfl,D',ZDW h2,rfl,rfl⟩,st⟩
 | now t=>
  obtain ⟨d,r,rfl,rfl,h1,rfl,rfl⟩:=h
  obtain ⟨X',e,D',st⟩:=Zy7 (n:=n) (k:=k) (h:=s) h1
  exact ⟨X',(congrFun (Zeb ZFU) X).trans e,⟨d,r,rfl,rfl,D',rfl,rfl⟩,st⟩
theorem ZD0 (h : DX X D ov nv M C c) (hp : pre.length ≤ 1000000000) : ∃ v q X', Za2 Tryz.prog (R (n + 10)) (ZsE D ov nv) "List" [strv pre] X = some (.tuple #[v, iv (YH pre)], X') ∧ Zo X' v ((if ZiJ pre then (Z7 (ZzO D)).filter (Zfo pre) else []).map strv) q ∧ HLe X X' ∧ (if ZiJ pre then (Z7 (ZzO D)).filter (Zfo pre) else []).length ≤ 1000 ∧ ∀ j ∈ q, X.length ≤ j := by
 cases D with
 | old m=>
  obtain ⟨d,b,rfl,rfl,h1,h2,rfl,rfl⟩:=h
  obtain ⟨v,q,X',e,r1,l1,o1⟩:=ZAU (n:=n+4) h1 hp
  refine ⟨v,q,X',(congrFun (Zeb ZFM) X).trans e,r1,l1,?_,o1⟩
  split
  ·refine Nat.le_trans (List.length_filter_le _ _) ?_
   rw [ZaZ]
   have:=h1.few
   show (m.map (·.1)).length≤1000
   rw [List.length_map]
   omega
  ·simp
 | now t=>
  obtain ⟨d,r,rfl,rfl,h1,rfl,rfl⟩:=h
  obtain ⟨v,q,X',e,r1,l1,o1⟩:=ZBz (n:=n+4) h1 hp
  refine ⟨v,q,X',(congrFun (Zeb ZFR) X).trans e,r1,l1,?_,o1⟩
  split
  ·refine Nat.le_trans (List.length_filter_le _ _) ?_
   rw [ZaZ]
   have:=h1.inv.few
   show (Wr t).length≤1000
   have h3 : (Wr t).length=t.A.length:=by simp
   omega
  ·simp
end
end Go.Proofs.YtgfbgfafajiehaaGreatDoor.A

namespace Go.Proofs.YtgfbgfafajiehaaGreatDoor.A
set_option linter.unusedVariables false
set_option linter.unusedSimpArgs false
open Go.Proofs Go.Proofs.YtgfbgfafajiehaaGreatDoor
variable {X X' Y : Zd} {n : Nat}
structure HP where
 h : Nat
 t : Nat
 b : Nat
 fr : List Nat
 q : List Nat
 M : List Nat
 C : List Nat
 c : Nat
 lvs : List Value
 ov : Value
 nv : Value
def HP.own (p : HP) : List Nat:=p.M++(p.h :: p.t :: p.q)
structure HO (X : Zd) (p : HP) (D : QS) (T : List QI) (B : List Nat) : Prop where
 cell : X[p.h]?=some (.cells [p.ov,p.nv,pt p.t,pt p.b] 1 false false)
 dir : DX X D p.ov p.nv p.M p.C p.c
 tab : Tab X p.t T p.lvs p.fr
 brd : Brd X p.b B p.q
 hfr : p.h∉p.fr
 hq : p.h∉p.q
 hC : p.h∉p.C
 bh : p.b≠p.h
 bt : p.b≠p.t
 tq : p.t∉p.q
 tC : p.t∉p.C
 fq : ∀ j∈p.fr,j∉p.q
 Cq : ∀ j∈p.C,j∉p.q
 Mo : ∀ j∈p.M,j≠p.h∧j≠p.b∧j∉p.q∧j∉p.fr
variable {p : HP} {D D' : QS} {T : List QI} {B : List Nat}
theorem HO.lt (h : HO X p D T B) : ∀ j∈p.own,j < X.length:=by
 intro j hj
 unfold HP.own at hj
 rcases List.mem_append.1 hj with hj | hj
 ·exact h.dir.lt j (.inl hj)
 ·rcases List.mem_cons.1 hj with rfl | hj
  ·exact Z6 h.cell
  ·rcases List.mem_cons.1 hj with rfl | hj
   ·exact h.tab.lt _ h.tab.t
   ·exact h.brd.lt j (.inr hj)
theorem Tab.hle {t : Nat} {rows : List QI} {lvs : List Value} {fr : List Nat} (h : Tab X t rows lvs fr) (hk : HLe X X') : Tab X' t rows lvs fr:=
 h.keep (fun j hj=>by have:=h.lt j hj;rw [List.getElem?_eq_getElem this];exact hk _ _ (List.getElem?_eq_getElem this)) hk.len
theorem HO.hle (h : HO X p D T B) (hl : HLe X X') : HO X' p D T B:=
 ⟨hl _ _ h.cell,h.dir.hle hl,h.tab.hle hl,h.brd.hle hl,h.hfr,h.hq,h.hC,h.bh,h.bt,h.tq,h.tC,h.fq,h.Cq,h.Mo⟩
theorem HO.step {o1 o2 : List Nat} (h : HO X p D T B) (hs : Zu o1 X o2 X') (h1 : ∀ j∈p.own,j∉o1) (h2 : ∀ j∈p.C,j∉o1) (h3 : p.b∉o1) (h4 : ∀ j∈p.fr,j∉o1) : HO X' p D T B:=
 ⟨hs.get h.cell (h1 p.h (by simp [HP.own])),h.dir.step hs (fun j hj=>h1 j (by simp [HP.own,hj])) h2,h.tab.keep (fun j hj=>hs.keep j (h.tab.lt j hj) (h4 j hj)) hs.len,h.brd.keep (fun j hj=>hs.keep j (h.brd.lt j hj) (by rcases hj with rfl | hj;exact h3;exact h1 j (by simp [HP.own,hj]))),h.hfr,h.hq,h.hC,h.bh,h.bt,h.tq,h.tC,h.fq,h.Cq,h.Mo⟩
theorem HO.act {M' : List Nat} {c' : Nat} (h : HO X p D T B) (hs : Zu p.M X M' X') (hd : DX X' D' p.ov p.nv M' p.C c') : HO X' { p with M:=M',c:=c' } D' T B∧Zu p.own X ({ p with M:=M',c:=c' } : HP).own X':=by
 have hM:=h.Mo
 have hb:=h.brd.lt
 have ht:=h.tab.lt
 have hh:=Z6 h.cell
 refine ⟨⟨hs.get h.cell fun hj=>(hM _ hj).1 rfl,hd,h.tab.keep (fun j hj=>hs.keep j (ht j hj) fun hm=>(hM j hm).2.2.2 hj) hs.len,h.brd.keep (fun j hj=>hs.keep j (hb j hj) fun hm=>by
  rcases hj with rfl | hj
  ·exact (hM _ hm).2.1 rfl
  ·exact (hM j hm).2.2.1 hj),h.hfr,h.hq,h.hC,h.bh,h.bt,h.tq,h.tC,h.fq,h.Cq,fun j hj=>?_⟩,⟨hs.len,fun j hj hn=>hs.keep j hj fun hm=>hn (by simp [HP.own,hm]),fun j hj=>?_⟩⟩
 ·rcases hs.own j hj with hj | hj
  ·exact hM j hj
  ·refine ⟨fun e=>?_,fun e=>?_,fun e=>?_,fun e=>?_⟩
   ·subst e;exact absurd hh (Nat.not_lt.2 hj)
   ·subst e;exact absurd (hb _ (.inl rfl)) (Nat.not_lt.2 hj)
   ·exact absurd (hb _ (.inr e)) (Nat.not_lt.2 hj)
   ·exact absurd (ht _ e) (Nat.not_lt.2 hj)
 ·simp only [HP.own] at hj ⊢
  rcases List.mem_append.1 hj with hj | hj
  ·rcases hs.own j hj with hj | hj
   ·exact .inl (List.mem_append_left _ hj)
   ·exact .inr hj
  ·exact .inl (List.mem_append_right _ hj)
def ZiV : QS→Nat
 | .old _=>1
 | .now _=>2
theorem DX.nv (h : DX X D p.ov p.nv p.M p.C p.c) (H : Zd) : bop .ptr .eql p.nv (.pointer none) H=some (.bool (decide (ZiV D=1)),H):=by
 cases D with
 | old m=>
  obtain ⟨d,b,h1,h2,_⟩:=h
  rw [h2]
  rfl
 | now s=>
  obtain ⟨d,r,h1,h2,_⟩:=h
  rw [h2]
  rfl
theorem ZDp (h : HO X p D T B) : R (n+1) Kb [pt p.h] X=some (ZsE D p.ov p.nv,X):=by
 rw [R,Zn8 rfl]
 unfold ZeX
 have e0 : ld1 (pa p.h 0) X=some (p.ov,X):=Zy h.cell rfl
 have e1 : ld1 (pa p.h 1) X=some (p.nv,X):=Zy h.cell rfl
 rw [Za Zg,Za (show fa 1 (pa p.h 0) X=some (pa p.h 1,X) from rfl),Za e1,Za (h.dir.nv X)]
 cases D with
 | old m=>
  rw [show decide (ZiV (.old m)=1)=true from rfl,Zb,if_pos rfl,Za Zg,Za Zj,Za e0]
  rfl
 | now s=>
  rw [show decide (ZiV (.now s)=1)=false from rfl,Zb,if_neg (by simp),Za Zg,Za (show fa 1 (pa p.h 0) X=some (pa p.h 1,X) from rfl),Za e1]
  rfl
def Zl3 : QS→List UInt8
 | .old m=>ZBQ (YT m)
 | .now s=>Zse (Z7 s.K) (A.allK s)
theorem Zm2 (h : HO X p D T B) : ∃ v X',R (n+13) ZT [pt p.h] X=some (v,X')∧Sl X' v (u8s (Zl3 D))∧HLe X X':=by
 have e0 : ld1 (pa p.h 0) X=some (p.ov,X):=Zy h.cell rfl
 have e1 : ld1 (pa p.h 1) X=some (p.nv,X):=Zy h.cell rfl
 have hnv:=h.dir.nv X
 have hd:=h.dir
 cases D with
 | old m=>
  obtain ⟨d,b,h1,h2,h3,h4,_,_⟩:=hd
  obtain ⟨u1,u2,u3⟩:=ZCD h3 h4
  obtain ⟨v,X',e2,r2,l2⟩:=Zw1 (n:=n+4) h3 u1 ZtG
  have e2 : R (n+12) ZdD [pt d] X=_:=e2
  refine ⟨v,X',?_,r2,l2⟩
  rw [R,Zid rfl]
  unfold ZdJ
  rw [Za Zg,Za (show fa 1 (pa p.h 0) X=some (pa p.h 1,X) from rfl),Za e1,Za hnv,show decide (ZiV (.old m)=1)=true from rfl,Zb,if_pos rfl,Za Zg,Za Zj,Za e0,h1,Za e2]
  rfl
 | now s=>
  obtain ⟨d,r,h1,h2,h3,_,_⟩:=hd
  obtain ⟨v,q,X',e2,r2,l2,_⟩:=Zwg (n:=n) h3
  refine ⟨v,X',?_,r2.rd,l2⟩
  rw [R,Zid rfl]
  unfold ZdJ
  rw [Za Zg,Za (show fa 1 (pa p.h 0) X=some (pa p.h 1,X) from rfl),Za e1,Za hnv,show decide (ZiV (.now s)=1)=false from rfl,Zb,if_neg (by simp),Za Zg,Za (show fa 1 (pa p.h 0) X=some (pa p.h 1,X) from rfl),Za e1,h2,Za e2]
  rfl
end Go.Proofs.YtgfbgfafajiehaaGreatDoor.A

namespace Go.Proofs.YtgfbgfafajiehaaGreatDoor.A
set_option linter.unusedVariables false
set_option linter.unusedSimpArgs false
open Go.Proofs Go.Proofs.YtgfbgfafajiehaaGreatDoor
variable {X X' Y : Zd} {n : Nat} {p : HP} {D D' : QS} {T : List QI} {B : List Nat} {k : Tx}
theorem ZEL : ∃ p X',R (n+2) ZcQ [.int .i64 3] X=some (pt p.h,X')∧HO X' p (.old []) ZaL [0,0,0]∧HLe X X'∧(∀ j∈p.own,X.length≤j)∧p.c=0:=by
 have e1 : R (n+1) Zdx [.int .i64 3] X=_:=ZAj
 have b1:=ZDt (X:=X)
 have k1 : HLe X (X++[Ze.cells [.int .u8 0,.int .u8 0,.int .u8 0] 1 false false]++[Ze.cells [.slice (some ⟨X.length,0,none⟩) 3 3] 1 false false]):=(HLe.app _ _).trans (.app _ _)
 have hb : (X++[Ze.cells [.int .u8 0,.int .u8 0,.int .u8 0] 1 false false]).length=X.length+1:=by simp
 have hl1 : (X++[Ze.cells [.int .u8 0,.int .u8 0,.int .u8 0] 1 false false]++[Ze.cells [.slice (some ⟨X.length,0,none⟩) 3 3] 1 false false]).length=X.length+2:=by simp
 rw [hb] at e1 b1
 generalize X++[Ze.cells [.int .u8 0,.int .u8 0,.int .u8 0] 1 false false]++[Ze.cells [.slice (some ⟨X.length,0,none⟩) 3 3] 1 false false]=X1 at e1 b1 k1 hl1
 obtain ⟨X2,d,m,e2,D2,k2,hd,hm⟩:=ZBv (n:=n) (H:=X1)
 have e2 : R (n+1) Zc8 [] X1=_:=e2
 have e3 : R (n+1) ZbR [] X2=_:=Zro
 have t3:=ZxW (X:=X2) (fr:=[X2.length]) (by simp) (by simp)
 have k3 : HLe X2 (X2++[.cells (QQ ZaL (List.replicate 8 (.slice none 0 0))) 1 false false]):=.app _ _
 have hl3 : (X2++[Ze.cells (QQ ZaL (List.replicate 8 (.slice none 0 0))) 1 false false]).length=X2.length+1:=by simp
 generalize X2++[Ze.cells (QQ ZaL (List.replicate 8 (.slice none 0 0))) 1 false false]=X3 at e3 t3 k3 hl3
 have e4 : alc 1 (.agg #[pt d,.pointer none,pt X2.length,pt (X.length+1)]) X3=some (pt X3.length,X3++[.cells [pt d,.pointer none,pt X2.length,pt (X.length+1)] 1 false false]):=Zir (vs:=[pt d,.pointer none,pt X2.length,pt (X.length+1)]) rfl
 have k4 : HLe X3 (X3++[.cells [pt d,.pointer none,pt X2.length,pt (X.length+1)] 1 false false]):=.app _ _
 have c4 : (X3++[Ze.cells [pt d,.pointer none,pt X2.length,pt (X.length+1)] 1 false false])[X3.length]?=some (.cells [pt d,.pointer none,pt X2.length,pt (X.length+1)] 1 false false):=Zp
 generalize X3++[Ze.cells [pt d,.pointer none,pt X2.length,pt (X.length+1)] 1 false false]=X4 at e4 k4 c4
 have l2:=k2.len
 have dl:=D2.lt
 refine ⟨⟨X3.length,X2.length,X.length+1,[X2.length],[X.length],[m],[d],0,List.replicate 8 (.slice none 0 0),pt d,.pointer none⟩,X4,?_,⟨c4,⟨d,m,rfl,rfl,(D2.hle k3).hle k4,by simp,rfl,rfl⟩,t3.hle k4,((b1.hle k2).hle k3).hle k4,?_,?_,?_,?_,?_,?_,?_,?_,?_,?_⟩,((k1.trans k2).trans k3).trans k4,?_,rfl⟩
 ·rw [R,Zxc rfl]
  unfold ZmY
  rw [Za e1,Za (show bop .ptr .eql (pt (X.length+1)) (.pointer none) X1=some (.bool false,X1) from Jn),Zb,if_neg (by simp),Za e2,Za e3,Za (show bld (.agg #[.pointer none,.pointer none,.pointer none,.pointer none]) [(0,1,pt d),(2,1,pt X2.length),(3,1,pt (X.length+1))] X3=some (.agg #[pt d,.pointer none,pt X2.length,pt (X.length+1)],X3) from rfl),Za e4]
  rfl
 ·simp;omega
 ·simp;omega
 ·simp;omega
 ·show X.length+1≠X3.length
  omega
 ·show X.length+1≠X2.length
  omega
 ·simp;omega
 ·simp;omega
 ·simp;omega
 ·simp;omega
 ·simp;omega
 ·simp [HP.own];omega
theorem ZAn (h : HO X p D T B) (hk : k.length≤1000000000) : ∃ (v : Value) (l : List Tx) (q : List Nat) (e : Int) (X' : Zd),R (n+8) ZaE [pt p.h,strv k] X=some (.tuple #[v,iv e],X')∧Zo X' v (l.map strv) q∧HLe X X'∧l.length≤10∧(∀ j∈q,X.length≤j)∧e≠6∧0≤e:=by
 have e0 : ld1 (pa p.h 0) X=some (p.ov,X):=Zy h.cell rfl
 have e1 : ld1 (pa p.h 1) X=some (p.nv,X):=Zy h.cell rfl
 have hnv:=h.dir.nv X
 have hd:=h.dir
 cases D with
 | old m=>
  obtain ⟨d,b,h1,h2,h3,h4,_,_⟩:=hd
  obtain ⟨X1,a2,k2⟩:=ZCc (n:=n) (k:=k) h3 hk
  have a2 : R (n+7) Zaj [pt d,strv k] X=_:=a2
  refine ⟨.slice (some ⟨X1.length,0,none⟩) 1 1,[if JU k m=0 then (Zf k m).getD [] else []],[X1.length],JU k m,X1++[Ze.cells [strv (if JU k m=0 then (Zf k m).getD [] else [])] 1 false false],?_,.inr ⟨X1.length,[],false,rfl,rfl,Zp⟩,k2.trans (.app _ _),by simp,by simpa using k2.len,?_⟩
  ·rw [R,Zgd rfl]
   unfold ZbS
   rw [Za Zg,Za (show fa 1 (pa p.h 0) X=some (pa p.h 1,X) from rfl),Za e1,Za hnv,show decide (ZiV (.old m)=1)=true from rfl,Zb,if_pos rfl,Za Zg,Za Zj,Za e0,h1,Za a2,Za Zq,Za Zr,Za (ZpO rfl rfl rfl)]
   rfl
  ·unfold JU ZA Y9 We
   cases Zt k <;> cases (Zf k m).isSome <;> simp [We]
 | now s=>
  obtain ⟨d,r,h1,h2,h3,_,_⟩:=hd
  obtain ⟨u,q,X1,a2,r2,o2,k2,l2,_⟩:=Zto (n:=n) (k:=k) h3
  have a2 : R (n+7) Kx [pt d,strv k] X=_:=a2
  have hu : u.cells.all oneCell=true:=by
   simp only [Zv.cells,List.all_cons,r2.one.1];rfl
  have z3 : ∀ K : Value→A.M Value,bind (alc 1 (.agg #[.string ⟨#[]⟩,.string ⟨#[]⟩,.string ⟨#[]⟩,.bool false,.slice none 0 0])) (fun q=>bind (stA 5 q (.agg u.cells.toArray)) fun _=>K q) X1=K (pt X1.length) (X1++[.cells u.cells 1 false false]):=fun K=>ZaF (n:=5) (zs:=[.string ⟨#[]⟩,.string ⟨#[]⟩,.string ⟨#[]⟩,.bool false,.slice none 0 0]) (r:=u.cells) rfl rfl rfl hu
  have k3 : HLe X1 (X1++[Ze.cells u.cells 1 false false]):=.app _ _
  have c3 : (X1++[Ze.cells u.cells 1 false false])[X1.length]?=some (.cells u.cells 1 false false):=Zp
  generalize X1++[Ze.cells u.cells 1 false false]=X2 at z3 k3 c3
  have f1 : ld1 (pa X1.length 1) X2=some (strv u.hs,X2):=Zy c3 rfl
  have f2 : ld1 (pa X1.length 2) X2=some (strv u.ml,X2):=Zy c3 rfl
  have f3 : ld1 (pa X1.length 3) X2=some (.bool u.ds,X2):=Zy c3 rfl
  have off : ∃ o : Tx,(o=[49]∨o=[48])∧cnd (.bool u.ds) (ret (Out.nrm [pt X1.length,iv (ZG k s.A),(Value.string ⟨#[49]⟩)])) (ret (Out.nrm [pt X1.length,iv (ZG k s.A),(Value.string ⟨#[48]⟩)])) X2=some (.nrm [pt X1.length,iv (ZG k s.A),strv o],X2):=by
   cases u.ds
   ·exact ⟨[48],.inr rfl,rfl⟩
   ·exact ⟨[49],.inl rfl,rfl⟩
  obtain ⟨o,_,e5⟩:=off
  have e6 : bsl 1 3 (.string ⟨#[]⟩) [(0,1,strv u.hs),(1,1,strv u.ml),(2,1,strv o)] X2=some (.slice (some ⟨X2.length,0,none⟩) 3 3,X2++[.cells [strv u.hs,strv u.ml,strv o] 1 false false]):=rfl
  have k6 : HLe X2 (X2++[Ze.cells [strv u.hs,strv u.ml,strv o] 1 false false]):=.app _ _
  have r6 : Zo (X2++[Ze.cells [strv u.hs,strv u.ml,strv o] 1 false false]) (.slice (some ⟨X2.length,0,none⟩) 3 3) [strv u.hs,strv u.ml,strv o] [X2.length]:=.inr ⟨X2.length,[],false,rfl,rfl,Zp⟩
  generalize X2++[Ze.cells [strv u.hs,strv u.ml,strv o] 1 false false]=X3 at e6 k6 r6
  have f4 : ld1 (pa X1.length 4) X3=some (u.gv,X3):=Zy (k6 _ _ c3) rfl
  have r7:=(r2.hle (k3.trans k6)).rd
  obtain ⟨v,X4,q4,e7,r8,s8⟩:=r6.addN (b:=16) r7.fc r7.flen (by simp;omega) (by simp;omega)
  have kk:=k2.trans k3
  have m8:=(kk.trans k6).more s8 (by simpa using kk.len)
  refine ⟨v,u.hs :: u.ml :: o :: u.gs,q4,ZG k s.A,X4,?_,r8,m8.1,by simp;omega,m8.2,?_⟩
  ·rw [R,Zgd rfl]
   unfold ZbS
   rw [Za Zg,Za (show fa 1 (pa p.h 0) X=some (pa p.h 1,X) from rfl),Za e1,Za hnv,show decide (ZiV (.now s)=1)=false from rfl,Zb,if_neg (by simp),Za Zg,Za (show fa 1 (pa p.h 0) X=some (pa p.h 1,X) from rfl),Za e1,h2,Za a2,Za Zq,Za Zr,z3,Za (show fa 3 (pt X1.length) X2=some (pa X1.length 3,X2) from rfl),Za f3,ZK e5,ZR,Za (show fa 1 (pt X1.length) X2=some (pa X1.length 1,X2) from rfl),Za f1,Za (show fa 2 (pt X1.length) X2=some (pa X1.length 2,X2) from rfl),Za f2,Za e6,Za (show fa 4 (pt X1.length) X3=some (pa X1.length 4,X3) from rfl),Za f4,Za e7]
   rfl
  ·unfold ZG
   cases Zt k <;> cases (Zf k s.A).isSome <;> simp
end Go.Proofs.YtgfbgfafajiehaaGreatDoor.A

namespace Go.Proofs.YtgfbgfafajiehaaGreatDoor.A
set_option linter.unusedVariables false
set_option linter.unusedSimpArgs false
open Go.Proofs Go.Proofs.YtgfbgfafajiehaaGreatDoor
variable {X X' Y : Zd} {n : Nat} {p : HP} {D D' : QS} {T : List QI} {B : List Nat} {k : Tx}
theorem DX.first {ov nv : Value} {M C : List Nat} {c : Nat} (h : DX X D ov nv M C c) : ∀ j∈C,∃ i cs es g ro,X[j]?=some (.cells (.map i :: cs) es g ro):=by
 cases D with
 | old m=>
  obtain ⟨d,b,rfl,rfl,h1,h2,rfl,rfl⟩:=h
  intro j hj
  cases List.mem_singleton.1 hj
  exact ⟨_,_,_,_,_,h1.c⟩
 | now s=>
  obtain ⟨d,r,rfl,rfl,h1,rfl,rfl⟩:=h
  intro j hj
  simp only [List.mem_cons,List.not_mem_nil,or_false] at hj
  rcases hj with rfl | rfl | rfl
  ·exact ⟨_,_,_,_,_,h1.cell⟩
  ·exact ⟨_,_,_,_,_,h1.ix.c⟩
  ·exact ⟨_,_,_,_,_,h1.gr.cell⟩
theorem HO.ovp (h : DX X D p.ov p.nv p.M p.C p.c) : ∃ q,p.ov=.pointer q:=by
 cases D with
 | old m=>obtain ⟨d,b,h1,_⟩:=h;exact ⟨_,h1⟩
 | now s=>obtain ⟨d,r,h1,_⟩:=h;exact ⟨_,h1⟩
theorem HO.apart (h : HO X p D T B) {j : Nat} {i : Option Nat} {cs : List Value} {es : Nat} {g ro : Bool} (hj : X[j]?=some (.cells (.map i :: cs) es g ro)) : j≠p.h∧j≠p.t∧j∉p.q:=by
 refine ⟨fun e=>?_,fun e=>?_,fun e=>?_⟩
 ·subst e
  rw [h.cell] at hj
  obtain ⟨q,hq⟩:=HO.ovp h.dir
  rw [hq] at hj
  cases hj
 ·subst e
  obtain ⟨r,lv,hr,hl⟩:=h.tab.row (c:=0) (by omega)
  have h1:=ZiK hr hl (f:=0) (v:=.int .u64 r.num) rfl
  have h2:=h.tab.cell
  rw [hj] at h2
  simp only [Option.some.injEq,Ze.cells.injEq] at h2
  rw [← h2.1] at h1
  simp at h1
 ·obtain ⟨sl,h1,h2⟩:=h.brd.at_
  rcases h2 with ⟨h3,h4,_⟩ | ⟨sid,rest,g',_,h4,h5⟩
  ·rw [h4] at e;cases e
  ·rw [h4] at e
   cases List.mem_singleton.1 e
   rw [hj] at h5
   cases hB : B with
   | nil=>exact h.brd.one hB
   | cons a l=>
    rw [hB] at h5
    simp [rlv] at h5
theorem Zy9 (h : HO X p D T B) : ∃ (e : Int) (p' : HP) (D' : QS) (X' : Zd),R (n+14) WU [pt p.h] X=some (iv e,X')∧HO X' p' D' T B∧Zu p.own X p'.own X'∧p'.h=p.h∧p'.t=p.t∧p'.fr=p.fr∧(e≠0→D'=D)∧0≤e∧e≠6∧p'.c≤p.c:=by
 have e0 : ld1 (pa p.h 0) X=some (p.ov,X):=Zy h.cell rfl
 have e1 : ld1 (pa p.h 1) X=some (p.nv,X):=Zy h.cell rfl
 have e3 : ld1 (pa p.h 3) X=some (pt p.b,X):=Zy h.cell rfl
 have g1 : ∀ H : Zd,fa 1 (pa p.h 0) H=some (pa p.h 1,H):=fun H=>rfl
 have g3 : ∀ H : Zd,fa 3 (pa p.h 0) H=some (pa p.h 3,H):=fun H=>rfl
 have hd:=h.dir
 have f0 : ∀ r X',K1 (R (n+13)) (pt p.h) X=some (r,X')→R (n+14) WU [pt p.h] X=some (r,X'):=fun r X' hr=>by rw [R,Zlj rfl];exact hr
 cases D with
 | now s=>
  obtain ⟨d,r,h1,h2,h3,_,_⟩:=hd
  refine ⟨14,p,.now s,X,f0 _ _ ?_,h,.refl _ _,rfl,rfl,rfl,fun _=>rfl,by omega,by omega,Nat.le_refl _⟩
  unfold K1
  rw [Za Zg,Za (g1 X),Za e1,h2,Za (show bop .ptr .neq (pt d) (.pointer none) X=some (.bool true,X) from JQ),Zb,if_pos rfl]
  rfl
 | old m=>
  obtain ⟨d,b,h1,h2,h3,h4,_,_⟩:=hd
  obtain ⟨X1,a1,k1⟩:=ZCg (n:=n+10) h.brd
  have a1 : R (n+13) Wm [pt p.b,.int .u8 2] X=_:=a1
  have q0 : bop .ptr .neq (.pointer none) (.pointer none) X=some (.bool false,X):=rfl
  cases hB : B.all fun r=>decide (2≤r) with
  | false=>
   rw [hB] at a1
   refine ⟨13,p,.old m,X1,f0 _ _ ?_,h.hle k1,k1.step.more (by simp) (fun j hj=>.inl hj),rfl,rfl,rfl,fun _=>rfl,by omega,by omega,Nat.le_refl _⟩
   unfold K1
   rw [Za Zg,Za (g1 X),Za e1,h2,Za q0,Zb,if_neg (by simp),Za Zg,Za (g3 X),Za e3,Za a1,Za ZM,Zb,if_pos (show (!false)=true from rfl)]
   rfl
  | true=>
   rw [hB] at a1
   have H1:=h.hle k1
   obtain ⟨u1,u2,u3⟩:=ZCD h3 h4
   obtain ⟨X2,d',r,s,c,a2,k2,hS⟩:=ZDd (n:=n) (h3.hle k1) u1 u2 u3
   have H2:=H1.hle k2
   have hK : r.G=[]:=by
    have:=hS.nd.ks
    rw [hS.K] at this
    exact List.map_eq_nil_iff.1 this
   have hN : ND X2 d' r s 0:=by
    have hg:=hS.nd.gr
    have hg0 : Grp X2 r.g r.o2 r.G s.mem 0:=⟨hg.cell,hg.mo,(fun x hx=>by rw [hK] at hx;cases hx),hg.out,hg.nod,hg.ok,hg.few⟩
    exact ⟨⟨hS.nd.cell,hS.nd.m,hS.nd.ix,hg0,hS.nd.ks,hS.nd.dis⟩,hS.nd.inv⟩
   have hO:=hS.own
   have hl1:=k1.len
   have b1 : st1 (pa p.h 1) (pt d') X2=some (undef,X2.set p.h (.cells [p.ov,pt d',pt p.t,pt p.b] 1 false false)):=ZeS (o:=1) H2.cell (by simp) rfl
   have c3 : (X2.set p.h (.cells [p.ov,pt d',pt p.t,pt p.b] 1 false false))[p.h]?=some (.cells [p.ov,pt d',pt p.t,pt p.b] 1 false false):=Z8 H2.cell
   have s3 : Zu [p.h] X2 [p.h] (X2.set p.h (.cells [p.ov,pt d',pt p.t,pt p.b] 1 false false)):=⟨by simp,fun j hj hn=>List.getElem?_set_ne (fun e=>hn (by simp [e])),fun j hj=>.inl hj⟩
   generalize X2.set p.h (.cells [p.ov,pt d',pt p.t,pt p.b] 1 false false)=X3 at b1 c3 s3
   have b2 : st1 (pa p.h 0) (.pointer none) X3=some (undef,X3.set p.h (.cells [.pointer none,pt d',pt p.t,pt p.b] 1 false false)):=ZeS (o:=0) c3 (by simp) rfl
   have c4 : (X3.set p.h (.cells [.pointer none,pt d',pt p.t,pt p.b] 1 false false))[p.h]?=some (.cells [.pointer none,pt d',pt p.t,pt p.b] 1 false false):=Z8 c3
   have s4 : Zu [p.h] X3 [p.h] (X3.set p.h (.cells [.pointer none,pt d',pt p.t,pt p.b] 1 false false)):=⟨by simp,fun j hj hn=>List.getElem?_set_ne (fun e=>hn (by simp [e])),fun j hj=>.inl hj⟩
   generalize X3.set p.h (.cells [.pointer none,pt d',pt p.t,pt p.b] 1 false false)=X4 at b2 c4 s4
   have st:=s3.trans s4
   have dx2 : DX X2 (.now s) (.pointer none) (pt d') r.own [d',r.x,r.g] 0:=⟨d',r,rfl,rfl,hN,rfl,rfl⟩
   have hap : ∀ j∈[d',r.x,r.g],j≠p.h∧j≠p.t∧j∉p.q:=fun j hj=>by
    obtain ⟨i,cs,es,g,ro,hc⟩:=dx2.first j hj
    exact H2.apart hc
   have hM : ∀ j∈r.own,j≠p.h∧j≠p.b∧j∉p.q∧j∉p.fr:=fun j hj=>by
    have h0:=hO j hj
    have hh:=Z6 H1.cell
    refine ⟨fun e=>?_,fun e=>?_,fun e=>?_,fun e=>?_⟩
    ·omega
    ·have:=H1.brd.lt p.b (.inl rfl);omega
    ·have:=H1.brd.lt j (.inr e);omega
    ·have:=H1.tab.lt j e;omega
   refine ⟨0,{ p with M:=r.own,C:=[d',r.x,r.g],c:=0,ov:=.pointer none,nv:=pt d' },.now s,X4,f0 _ _ ?_,⟨c4,dx2.step st (fun j hj=>by simp [(hM j hj).1]) (fun j hj=>by simp [(hap j hj).1]),H2.tab.keep (fun j hj=>st.keep j (H2.tab.lt j hj) (by simp;exact fun e=>h.hfr (e ▸ hj))) st.len,H2.brd.keep (fun j hj=>st.keep j (H2.brd.lt j hj) (by
    simp
    rcases hj with rfl | hj
    ·exact h.bh
    ·exact fun e=>h.hq (e ▸ hj))),h.hfr,h.hq,fun hh=>(hap _ hh).1 rfl,h.bh,h.bt,h.tq,fun hh=>(hap _ hh).2.1 rfl,h.fq,fun j hj=>(hap j hj).2.2,hM⟩,?_,rfl,rfl,rfl,fun e=>absurd rfl e,by omega,by omega,Nat.zero_le _⟩
   ·unfold K1
    rw [Za Zg,Za (g1 X),Za e1,h2,Za q0,Zb,if_neg (by simp),Za Zg,Za (g3 X),Za e3,Za a1,Za ZM,Zb,if_neg (by simp),Za Zg,Za Zj,Za (show ld1 (pa p.h 0) X1=some (p.ov,X1) from Zy H1.cell rfl),h1,Za a2,Za Zg,Za (g1 X2),Za b1,Za Zg,Za Zj,Za b2]
    rfl
   ·have k12:=k1.trans k2
    refine ⟨Nat.le_trans k12.len st.len,fun j hj hn=>?_,fun j hj=>?_⟩
    ·rw [st.keep j (Nat.lt_of_lt_of_le hj k12.len) (by simp;exact fun e=>hn (by simp [HP.own,e]))]
     rw [List.getElem?_eq_getElem hj]
     exact k12 _ _ (List.getElem?_eq_getElem hj)
    ·simp only [HP.own] at hj ⊢
     rcases List.mem_append.1 hj with hj | hj
     ·exact .inr (Nat.le_trans hl1 (hO j hj))
     ·exact .inl (List.mem_append_right _ hj)
end Go.Proofs.YtgfbgfafajiehaaGreatDoor.A

namespace Go.Proofs.YtgfbgfafajiehaaGreatDoor.A
set_option linter.unusedVariables false
set_option linter.unusedSimpArgs false
open Go.Proofs Go.Proofs.YtgfbgfafajiehaaGreatDoor
variable {X X' Y : Zd} {n : Nat} {p p' : HP} {D D' : QS} {T : List QI} {B : List Nat} {k : Tx} {o : OpT}
structure Ye (X X' : Zd) (p p' : HP) (D D' : QS) (T : List QI) (B : List Nat) (e : Int) : Prop where
 ho : HO X' p' D' T B
 st : Zu p.own X p'.own X'
 h : p'.h=p.h
 t : p'.t=p.t
 fr : p'.fr=p.fr
 no : e≠0→D'=D
 nn : 0≤e
 c : p'.c≤p.c+1
theorem Ye.refl (h : HO X p D T B) {e : Int} (he : 0≤e) : Ye X X p p D D T B e:=⟨h,.refl _ _,rfl,rfl,rfl,fun _=>rfl,he,by omega⟩
theorem Ye.of {e : Int} (h : HO X p D T B) (hl : HLe X X') (he : 0≤e) : Ye X X' p p D D T B e:=⟨h.hle hl,hl.step.more (by simp) (fun j hj=>.inl hj),rfl,rfl,rfl,fun _=>rfl,he,by omega⟩
theorem Ye.pre {e : Int} (hl : HLe Y X) (h : Ye X X' p p' D D' T B e) : Ye Y X' p p' D D' T B e:=
 ⟨h.ho,⟨Nat.le_trans hl.len h.st.len,fun j hj hn=>by rw [h.st.keep j (Nat.lt_of_lt_of_le hj hl.len) hn,List.getElem?_eq_getElem hj];exact hl _ _ (List.getElem?_eq_getElem hj),fun j hj=>by
  rcases h.st.own j hj with h1 | h1
  ·exact .inl h1
  ·exact .inr (Nat.le_trans hl.len h1)⟩,h.h,h.t,h.fr,h.no,h.nn,h.c⟩
theorem Ye.act {e : Int} {M' : List Nat} {c' : Nat} (h : HO X p D T B) (hs : Zu p.M X M' X') (hd : DX X' D' p.ov p.nv M' p.C c') (hn : e≠0→D'=D) (he : 0≤e) (hc : c'≤p.c+1) : Ye X X' p { p with M:=M',c:=c' } D D' T B e:=
 ⟨(h.act hs hd).1,(h.act hs hd).2,rfl,rfl,rfl,hn,he,hc⟩
theorem ZFI {s : Tx} (h : crE k s D≠0) : crD k s D=D:=by
 cases D with
 | old m=>show QS.old (ZfC k s m)=_;unfold ZfC;rw [if_neg (show ¬ Kz k s m=0 from h)]
 | now t=>show QS.now (Zch k s t)=_;unfold Zch;rw [if_neg (show ¬ YU k s t.A=0 from h)]
theorem ZFo (h : deE k D≠0) : deD k D=D:=by
 cases D with
 | old m=>show QS.old (Zfv k m)=_;unfold Zfv;rw [if_neg (show ¬ JU k m=0 from h)]
 | now t=>show QS.now (Zck k t)=_;unfold Zck;rw [if_neg (show ¬ ZG k t.A=0 from h)]
theorem ZFv {s : Tx} (h : seE k s D≠0) : seD k s D=D:=by
 cases D with
 | old m=>show QS.old (Zpj k s m)=_;unfold Zpj;rw [if_neg (show ¬ ZbJ k s m=0 from h)]
 | now t=>show QS.now (Zbg k s t)=_;unfold Zbg;rw [if_neg (show ¬ Yg k s t.A=0 from h)]
theorem Zmh {e : Int} {l : List Int} (h : 0≤e∧e≠6) (hl : ∀ x∈l,0≤x∧x≠6) : 0≤We e l∧We e l≠6:=by
 induction l generalizing e with
 | nil=>exact h
 | cons a l ih=>
  have : We e (a :: l)=We (if e=0 then a else e) l:=rfl
  rw [this]
  refine ih ?_ fun x hx=>hl x (by simp [hx])
  split
  ·exact hl a (by simp)
  ·exact h
theorem Zs2 : 0≤ZA k∧ZA k≠6:=by unfold ZA;split <;> omega
theorem Zz2 : 0≤Z9 k∧Z9 k≠6:=by unfold Z9;split <;> omega
theorem ZCZ {m : QH} : 0≤ZbA k m∧ZbA k m≠6:=by unfold ZbA;split <;> (try split) <;> omega
theorem Zv4 {m : QH} : 0≤Y9 k m∧Y9 k m≠6:=by unfold Y9;split <;> omega
theorem ZCG {s : Tx} : 0≤crE k s D∧crE k s D≠6:=by
 cases D with
 | old m=>
  refine Zmh Zs2 fun x hx=>?_
  simp only [List.mem_cons,List.not_mem_nil,or_false] at hx
  rcases hx with rfl | rfl
  ·exact Zz2
  ·exact ZCZ
 | now t=>
  show 0≤YU k s t.A∧YU k s t.A≠6
  unfold YU
  repeat' split
  all_goals omega
theorem ZCI : 0≤deE k D∧deE k D≠6:=by
 cases D with
 | old m=>
  refine Zmh Zs2 fun x hx=>?_
  simp only [List.mem_cons,List.not_mem_nil,or_false] at hx
  rcases hx with rfl
  exact Zv4
 | now t=>
  show 0≤ZG k t.A∧ZG k t.A≠6
  unfold ZG
  repeat' split
  all_goals omega
theorem ZCN {s : Tx} : 0≤seE k s D∧seE k s D≠6:=by
 cases D with
 | old m=>
  refine Zmh Zs2 fun x hx=>?_
  simp only [List.mem_cons,List.not_mem_nil,or_false] at hx
  rcases hx with rfl | rfl
  ·exact Zz2
  ·exact Zv4
 | now t=>
  show 0≤Yg k s t.A∧Yg k s t.A≠6
  unfold Yg
  repeat' split
  all_goals omega
theorem Zyn : 0≤YH k∧YH k≠6:=by
 unfold YH
 repeat' split
 all_goals omega
theorem lvN {b : Bool} {A E : M Out} {v e : Value} (hb : b=false) (h : E X=some (.nrm [v,e],X')) : jn (cnd (.bool b) A E) (c2 fun x y=>ret (.nrm [x,y])) noX ZH X=some (.nrm [v,e],X'):=by
 subst hb
 exact (ZK (vs:=[v,e]) (H':=X') h).trans rfl
theorem lvY {b : Bool} {A E : M Out} {v e : Value} (hb : b=true) (h : A X=some (.nrm [v,e],X')) : jn (cnd (.bool b) A E) (c2 fun x y=>ret (.nrm [x,y])) noX ZH X=some (.nrm [v,e],X'):=by
 subst hb
 exact (ZK (vs:=[v,e]) (H':=X') h).trans rfl
theorem lvR {b : Bool} {A E : M Out} {w : Value} (hb : b=false) (h : E X=some (.ret w,X')) : jn (cnd (.bool b) A E) (c2 fun x y=>ret (.nrm [x,y])) noX ZH X=some (.ret w,X'):=by
 subst hb
 exact (Ky (v:=w) (H':=X') h).trans rfl
theorem ZzT (h : HO X p D T B) (ha : o.a.length≤65535) (hb : o.b.length≤65535) (hok : Zln o) : ∃ (v : Value) (l : List Tx) (q : List Nat) (e : Int) (p' : HP) (D' : QS) (X' : Zd),
  R (n+15) Wk [pt p.h,.agg o.cells.toArray] X=some (.tuple #[v,iv e,.bool (o.kd≤4 || o.kd==15 || o.kd==16)],X')∧Zo X' v (l.map strv) q∧(∀ j∈q,X.length≤j)∧l.length≤1000∧Ye X X' p p' D D' T B e∧e≠6∧(5≤o.kd∧o.kd≤14→D'=D∧p'=p):=by
 have a1:=Zi8 o X
 have k1 : HLe X (X++[Ze.cells o.cells 1 false false]):=.app _ _
 have c1 : (X++[Ze.cells o.cells 1 false false])[X.length]?=some (.cells o.cells 1 false false):=Zp
 generalize X++[Ze.cells o.cells 1 false false]=X1 at a1 k1 c1
 have H1:=h.hle k1
 have l1:=k1.len
 have b0 : ld1 (pa X.length 0) X1=some (.int .u8 o.kd,X1):=Zea c1 rfl
 have b1 : ld1 (pa X.length 1) X1=some (strv o.a,X1):=Zea c1 rfl
 have b2 : ld1 (pa X.length 2) X1=some (strv o.b,X1):=Zea c1 rfl
 have g1 : fa 1 (pt X.length) X1=some (pa X.length 1,X1):=rfl
 have g2 : fa 2 (pt X.length) X1=some (pa X.length 2,X1):=rfl
 have hI : R (n+14) Kb [pt p.h] X1=some (ZsE D p.ov p.nv,X1):=ZDp H1
 have qq : ∀ j : Int,bop .int .eql (.int .u8 o.kd) (.int .u8 j) X1=some (.bool (decide ((o.kd : Int)=j)),X1):=fun j=>by rw [ZE];rfl
 have sm : ∀ (v : Value) (K : M Out),same v v K X1=K X1:=fun v K=>by unfold same;simp
 have f0 : ∀ r X',Jk (R (n+14)) (pt p.h) (.agg o.cells.toArray) X=some (r,X')→R (n+15) Wk [pt p.h,.agg o.cells.toArray] X=some (r,X'):=fun r X' hr=>by rw [R,ZlE rfl];exact hr
 have nil : ∀ {Z : Zd},Zo Z (.slice none 0 0) (([] : List Tx).map strv) []:=Zo.nil
 by_cases h0 : o.kd=0
 ·rw [h0] at qq ⊢
  obtain ⟨X2,e2,d2,s2⟩:=ZAv (n:=n+4) (k:=o.a) (s:=o.b) H1.dir (by omega) (by omega)
  refine ⟨.slice none 0 0,[],[],crE o.a o.b D,_,crD o.a o.b D,X2,f0 _ _ ?_,nil,by simp,by simp,(Ye.act H1 s2 d2 ZFI ZCG.1 (by omega)).pre k1,ZCG.2,by omega⟩
  unfold Jk
  rw [Za a1,Za Zj,Za b0,h0,Za (qq 0)]
  refine (ZK (vs:=[.slice none 0 0,iv (crE o.a o.b D)]) (H':=X2) ?_).trans rfl
  rw [Zb,if_pos (by decide),Za g1,Za b1,Za g2,Za b2,Za hI,Za b2,sm,Za b1,sm,Za e2]
  rfl
 by_cases h1 : o.kd=1
 ·rw [h1] at qq ⊢
  obtain ⟨X2,e2,d2,s2⟩:=ZAV (n:=n+4) (k:=o.a) H1.dir (by omega)
  refine ⟨.slice none 0 0,[],[],deE o.a D,_,deD o.a D,X2,f0 _ _ ?_,nil,by simp,by simp,(Ye.act H1 s2 d2 ZFo ZCI.1 (by omega)).pre k1,ZCI.2,by omega⟩
  unfold Jk
  rw [Za a1,Za Zj,Za b0,h1,Za (qq 0)]
  refine (ZK (vs:=[.slice none 0 0,iv (deE o.a D)]) (H':=X2) ?_).trans rfl
  rw [Zb,if_neg (by decide),Za (qq 1)]
  refine lvY (by decide) ?_
  rw [Za g1,Za b1,Za hI,Za b1,sm,Za e2]
  rfl
 by_cases h2 : o.kd=2
 ·rw [h2] at qq ⊢
  obtain ⟨X2,e2,d2,s2⟩:=Zzv (n:=n+4) (k:=o.a) (s:=o.b) H1.dir (by omega) (by omega)
  refine ⟨.slice none 0 0,[],[],seE o.a o.b D,_,seD o.a o.b D,X2,f0 _ _ ?_,nil,by simp,by simp,(Ye.act H1 s2 d2 ZFv ZCN.1 (by omega)).pre k1,ZCN.2,by omega⟩
  unfold Jk
  rw [Za a1,Za Zj,Za b0,h2,Za (qq 0)]
  refine (ZK (vs:=[.slice none 0 0,iv (seE o.a o.b D)]) (H':=X2) ?_).trans rfl
  rw [Zb,if_neg (by decide),Za (qq 1)]
  refine lvN (by decide) ?_
  rw [Za (qq 2)]
  refine lvY (by decide) ?_
  rw [Za g1,Za b1,Za g2,Za b2,Za hI,Za b2,sm,Za b1,sm,Za e2]
  rfl
 by_cases h3 : o.kd=3
 ·rw [h3] at qq ⊢
  obtain ⟨v,l,q,e,X2,e2,r2,k2,n2,o2,ne,nn⟩:=ZAn (n:=n+6) (k:=o.a) H1 (by omega)
  have e2 : R (n+14) ZaE [pt p.h,strv o.a] X1=_:=e2
  refine ⟨v,l,q,e,p,D,X2,f0 _ _ ?_,r2,fun j hj=>Nat.le_trans l1 (o2 j hj),by omega,(Ye.of H1 k2 nn).pre k1,ne,by omega⟩
  unfold Jk
  rw [Za a1,Za Zj,Za b0,h3,Za (qq 0)]
  refine (ZK (vs:=[v,iv e]) (H':=X2) ?_).trans rfl
  rw [Zb,if_neg (by decide),Za (qq 1)]
  refine lvN (by decide) ?_
  rw [Za (qq 2)]
  refine lvN (by decide) ?_
  rw [Za (qq 3)]
  refine lvY (by decide) ?_
  rw [Za g1,Za b1,Za e2,Za Zq,Za Zr]
  rfl
 by_cases h4 : o.kd=4
 ·rw [h4] at qq ⊢
  obtain ⟨v,q,X2,e2,r2,k2,n2,o2⟩:=ZD0 (n:=n+4) (pre:=o.a) H1.dir (by omega)
  refine ⟨v,_,q,YH o.a,p,D,X2,f0 _ _ ?_,r2,fun j hj=>Nat.le_trans l1 (o2 j hj),n2,(Ye.of H1 k2 Zyn.1).pre k1,Zyn.2,by omega⟩
  unfold Jk
  rw [Za a1,Za Zj,Za b0,h4,Za (qq 0)]
  refine (ZK (vs:=[v,iv (YH o.a)]) (H':=X2) ?_).trans rfl
  rw [Zb,if_neg (by decide),Za (qq 1)]
  refine lvN (by decide) ?_
  rw [Za (qq 2)]
  refine lvN (by decide) ?_
  rw [Za (qq 3)]
  refine lvN (by decide) ?_
  rw [Za (qq 4)]
  refine lvY (by decide) ?_
  rw [Za g1,Za b1,Za hI,Za b1,sm,Za e2,Za Zq,Za Zr]
  rfl
 by_cases h5 : o.kd=15
 ·rw [h5] at qq ⊢
  obtain ⟨e,p',D',X2,e2,ho,st,i1,i2,i3,no,nn,n6,ic⟩:=Zy9 (n:=n) H1
  refine ⟨.slice none 0 0,[],[],e,p',D',X2,f0 _ _ ?_,nil,by simp,by simp,Ye.pre k1 ⟨ho,st,i1,i2,i3,no,nn,by omega⟩,n6,by omega⟩
  unfold Jk
  rw [Za a1,Za Zj,Za b0,h5,Za (qq 0)]
  refine (ZK (vs:=[.slice none 0 0,iv e]) (H':=X2) ?_).trans rfl
  rw [Zb,if_neg (by decide),Za (qq 1)]
  refine lvN (by decide) ?_
  rw [Za (qq 2)]
  refine lvN (by decide) ?_
  rw [Za (qq 3)]
  refine lvN (by decide) ?_
  rw [Za (qq 4)]
  refine lvN (by decide) ?_
  rw [Za (qq 15)]
  refine lvY (by decide) ?_
  rw [Za e2]
  rfl
 by_cases h6 : o.kd=16
 ·rw [h6] at qq ⊢
  refine ⟨.slice none 0 0,[],[],1,p,D,X1,f0 _ _ ?_,nil,by simp,by simp,Ye.of h k1 (by omega),by omega,by omega⟩
  unfold Jk
  rw [Za a1,Za Zj,Za b0,h6,Za (qq 0)]
  refine (ZK (vs:=[.slice none 0 0,iv 1]) (H':=X1) ?_).trans rfl
  rw [Zb,if_neg (by decide),Za (qq 1)]
  refine lvN (by decide) ?_
  rw [Za (qq 2)]
  refine lvN (by decide) ?_
  rw [Za (qq 3)]
  refine lvN (by decide) ?_
  rw [Za (qq 4)]
  refine lvN (by decide) ?_
  rw [Za (qq 15)]
  refine lvN (by decide) ?_
  rw [Za (qq 16),Zb,if_pos (by decide)]
  rfl
 ·have hn : ∀ j : Nat,o.kd≠j→decide ((o.kd : Int)=(j : Int))=false:=fun j hj=>decide_eq_false (by omega)
  have hz : (decide (o.kd≤4) || o.kd==15 || o.kd==16)=false:=by simp;omega
  refine ⟨.slice none 0 0,[],[],0,p,D,X1,f0 _ _ ?_,nil,by simp,by simp,Ye.of h k1 (by omega),by omega,fun _=>⟨rfl,rfl⟩⟩
  rw [hz]
  unfold Jk
  rw [Za a1,Za Zj,Za b0,Za (qq 0)]
  refine (Ky (v:=.tuple #[.slice none 0 0,iv 0,.bool false]) (H':=X1) ?_).trans rfl
  rw [Zb,if_neg (by have:=h0;simp;omega),Za (qq 1)]
  refine lvR (hn 1 h1) ?_
  rw [Za (qq 2)]
  refine lvR (hn 2 h2) ?_
  rw [Za (qq 3)]
  refine lvR (hn 3 h3) ?_
  rw [Za (qq 4)]
  refine lvR (hn 4 h4) ?_
  rw [Za (qq 15)]
  refine lvR (hn 15 h5) ?_
  rw [Za (qq 16),Zb,if_neg (by have:=h6;simp;omega)]
  rfl
end Go.Proofs.YtgfbgfafajiehaaGreatDoor.A

namespace Go.Proofs.YtgfbgfafajiehaaGreatDoor.A
set_option linter.unusedVariables false
set_option linter.unusedSimpArgs false
open Go.Proofs Go.Proofs.YtgfbgfafajiehaaGreatDoor
variable {X X' Y : Zd} {n : Nat} {p p' : HP} {D D' : QS} {T : List QI} {B : List Nat} {k m g t : Tx} {o : OpT} {s : NSt} {b : Bool}
theorem Zyr {A : AMp} : 0≤ZG k A∧ZG k A≠6:=by
 unfold ZG
 repeat' split
 all_goals omega
theorem ZDG {OW : QH} : 0≤KC k m OW∧KC k m OW≠6:=by
 unfold KC
 repeat' split
 all_goals omega
theorem ZqF : 0≤Yj k m s∧Yj k m s≠6:=by
 unfold Yj
 repeat' split
 all_goals first | exact ZDG | omega
theorem Zg7 : 0≤Ys k b s.A∧Ys k b s.A≠6:=by
 unfold Ys
 repeat' split
 all_goals first | exact Zyr | omega
theorem Ztl : 0≤Kc k t s.A∧Kc k t s.A≠6:=by
 unfold Kc
 repeat' split
 all_goals omega
theorem Zx5 : 0≤Yd g s.K∧Yd g s.K≠6:=by
 unfold Yd
 repeat' split
 all_goals omega
theorem Znt : 0≤JP g s.K∧JP g s.K≠6:=by
 unfold JP
 repeat' split
 all_goals omega
theorem Ztv : 0≤J6 g k s.A∧J6 g k s.A≠6:=by
 unfold J6
 repeat' split
 all_goals first | exact Zyr | omega
theorem ZvX {ms K : List Tx} : 0≤Q9 g ms K∧Q9 g ms K≠6:=by
 unfold Q9
 repeat' split
 all_goals omega
theorem ZxS : 0≤ZbF g k s∧ZbF g k s≠6:=by
 unfold ZbF
 split
 ·unfold ZaO
  repeat' split
  all_goals first | exact ZvX | omega
 ·exact Ztv
theorem ZvB : 0≤ZaS g k s∧ZaS g k s≠6:=by
 unfold ZaS
 split
 ·unfold ZcK
  repeat' split
  all_goals first | exact ZvX | omega
 ·exact Ztv
theorem ZuH {OW : QH} : 0≤ZcG m OW∧ZcG m OW≠6:=by
 unfold ZcG
 repeat' split
 all_goals omega
theorem Zzc (h : Yj k m s≠0) : KQ k m s=s:=if_neg h
theorem ZqW (h : Ys k b s.A≠0) : KO k b s=s:=if_neg h
theorem ZBb (h : Kc k t s.A≠0) : Zce k t s=s:=if_neg h
theorem ZDb (h : Yd g s.K≠0) : Znr g s=s:=by
 unfold Znr Zim
 rw [if_neg h]
theorem ZC5 (h : JP g s.K≠0) : Zns g s=s:=by
 unfold Zns ZqE
 rw [if_neg h,if_neg h]
theorem ZDI (h : ZbF g k s≠0) : ZfN g k s=s:=if_neg h
theorem ZBs (h : ZaS g k s≠0) : ZdE g k s=s:=if_neg h
theorem ND.still {d c c' : Nat} {r r' : NR} {s s' : NSt} (h : ND X d r s c) (h' : ND X' d r' s' c') (hs : Zu r.own X r'.own X') : r'.x=r.x∧r'.g=r.g:=by
 have h1:=hs.get h.cell fun hj=>(h.isMap hj).2 _ _ _ _ h.cell
 rw [h'.cell] at h1
 simp only [Option.some.injEq,Ze.cells.injEq,List.cons.injEq,Value.pointer.injEq] at h1
 have h2:=h1.1.2.1
 have h3:=h1.1.2.2.1
 simp at h2 h3
 exact ⟨h2,h3⟩
theorem ZAH (h : HO X p (.now s) T B) (hc : p.c≤1000) (h5 : 5≤o.kd) (h14 : o.kd≤14) : ∃ (v : Value) (l : List Tx) (q : List Nat) (e : Int) (p' : HP) (D' : QS) (X' : Zd),
  R (n+15) Wi [pt p.h,.agg o.cells.toArray] X=some (.tuple #[v,iv e],X')∧Zo X' v (l.map strv) q∧(∀ j∈q,X.length≤j)∧l.length≤1000∧Ye X X' p p' (.now s) D' T B e∧e≠6:=by
 have a1:=Zi8 o X
 have k1 : HLe X (X++[Ze.cells o.cells 1 false false]):=.app _ _
 have c1 : (X++[Ze.cells o.cells 1 false false])[X.length]?=some (.cells o.cells 1 false false):=Zp
 generalize X++[Ze.cells o.cells 1 false false]=X1 at a1 k1 c1
 have H1:=h.hle k1
 have l1:=k1.len
 have b0 : ld1 (pa X.length 0) X1=some (.int .u8 o.kd,X1):=Zea c1 rfl
 have b1 : ld1 (pa X.length 1) X1=some (strv o.a,X1):=Zea c1 rfl
 have b2 : ld1 (pa X.length 2) X1=some (strv o.b,X1):=Zea c1 rfl
 have g1 : fa 1 (pt X.length) X1=some (pa X.length 1,X1):=rfl
 have g2 : fa 2 (pt X.length) X1=some (pa X.length 2,X1):=rfl
 have y1 : fa 1 (pa p.h 0) X1=some (pa p.h 1,X1):=rfl
 have qq : ∀ j : Int,bop .int .eql (.int .u8 o.kd) (.int .u8 j) X1=some (.bool (decide ((o.kd : Int)=j)),X1):=fun j=>by rw [ZE];rfl
 have f0 : ∀ r X',QR (R (n+14)) (pt p.h) (.agg o.cells.toArray) X=some (r,X')→R (n+15) Wi [pt p.h,.agg o.cells.toArray] X=some (r,X'):=fun r X' hr=>by rw [R,ZlM rfl];exact hr
 have nil : ∀ {Z : Zd},Zo Z (.slice none 0 0) (([] : List Tx).map strv) []:=Zo.nil
 obtain ⟨d,r,z1,z2,h3,zM,zC⟩:=H1.dir
 have y2 : ld1 (pa p.h 1) X1=some (pt d,X1):=by rw [← z2];exact Zy H1.cell rfl
 by_cases hk : o.kd=5
 ·rw [hk] at qq
  obtain ⟨X2,e2,d2,s2⟩:=Zza (n:=n+4) (k:=o.a) (m:=o.b) h3
  have dx : DX X2 (.now (KQ o.a o.b s)) p.ov p.nv r.own p.C p.c:=⟨d,r,z1,z2,d2,rfl,zC⟩
  have e2 : R (n+14) KZ [pt d,strv o.a,strv o.b] X1=_:=e2
  refine ⟨.slice none 0 0,[],[],Yj o.a o.b s,_,.now (KQ o.a o.b s),X2,f0 _ _ ?_,nil,by simp,by simp,(Ye.act H1 (by rw [zM];exact s2) dx (fun hne=>by rw [Zzc hne]) ZqF.1 (by omega)).pre k1,ZqF.2⟩
  unfold QR
  rw [Za a1,Za Zj,Za b0,hk,Za (qq 5)]
  refine (ZK (vs:=[.slice none 0 0,iv (Yj o.a o.b s)]) (H':=X2) ?_).trans rfl
  rw [Zb,if_pos (by decide),Za Zg,Za y1,Za y2,Za g1,Za b1,Za g2,Za b2,Za e2]
  rfl
 by_cases hk : o.kd=6
 ·rw [hk] at qq
  obtain ⟨X2,e2,d2,s2⟩:=Zq3 (n:=n+4) (k:=o.a) (b:=true) h3
  have dx : DX X2 (.now (KO o.a true s)) p.ov p.nv r.own p.C p.c:=⟨d,r,z1,z2,d2,rfl,zC⟩
  have e2 : R (n+14) Yq [pt d,strv o.a,.bool true] X1=_:=e2
  refine ⟨.slice none 0 0,[],[],Ys o.a true s.A,_,.now (KO o.a true s),X2,f0 _ _ ?_,nil,by simp,by simp,(Ye.act H1 (by rw [zM];exact s2) dx (fun hne=>by rw [ZqW hne]) Zg7.1 (by omega)).pre k1,Zg7.2⟩
  unfold QR
  rw [Za a1,Za Zj,Za b0,hk,Za (qq 5)]
  refine (ZK (vs:=[.slice none 0 0,iv (Ys o.a true s.A)]) (H':=X2) ?_).trans rfl
  rw [Zb,if_neg (by decide),Za (qq 6)]
  refine lvY (by decide) ?_
  rw [Za Zg,Za y1,Za y2,Za g1,Za b1,Za e2]
  rfl
 by_cases hk : o.kd=7
 ·rw [hk] at qq
  obtain ⟨X2,e2,d2,s2⟩:=Zq3 (n:=n+4) (k:=o.a) (b:=false) h3
  have dx : DX X2 (.now (KO o.a false s)) p.ov p.nv r.own p.C p.c:=⟨d,r,z1,z2,d2,rfl,zC⟩
  have e2 : R (n+14) Yq [pt d,strv o.a,.bool false] X1=_:=e2
  refine ⟨.slice none 0 0,[],[],Ys o.a false s.A,_,.now (KO o.a false s),X2,f0 _ _ ?_,nil,by simp,by simp,(Ye.act H1 (by rw [zM];exact s2) dx (fun hne=>by rw [ZqW hne]) Zg7.1 (by omega)).pre k1,Zg7.2⟩
  unfold QR
  rw [Za a1,Za Zj,Za b0,hk,Za (qq 5)]
  refine (ZK (vs:=[.slice none 0 0,iv (Ys o.a false s.A)]) (H':=X2) ?_).trans rfl
  rw [Zb,if_neg (by decide),Za (qq 6)]
  refine lvN (by decide) ?_
  rw [Za (qq 7)]
  refine lvY (by decide) ?_
  rw [Za Zg,Za y1,Za y2,Za g1,Za b1,Za e2]
  rfl
 by_cases hk : o.kd=8
 ·rw [hk] at qq
  obtain ⟨X2,e2,d2,s2⟩:=ZAG (n:=n+4) (o:=o.a) (t:=o.b) h3
  have dx : DX X2 (.now (Zce o.a o.b s)) p.ov p.nv r.own p.C p.c:=⟨d,r,z1,z2,d2,rfl,zC⟩
  have e2 : R (n+14) Wo [pt d,strv o.a,strv o.b] X1=_:=e2
  refine ⟨.slice none 0 0,[],[],Kc o.a o.b s.A,_,.now (Zce o.a o.b s),X2,f0 _ _ ?_,nil,by simp,by simp,(Ye.act H1 (by rw [zM];exact s2) dx (fun hne=>by rw [ZBb hne]) Ztl.1 (by omega)).pre k1,Ztl.2⟩
  unfold QR
  rw [Za a1,Za Zj,Za b0,hk,Za (qq 5)]
  refine (ZK (vs:=[.slice none 0 0,iv (Kc o.a o.b s.A)]) (H':=X2) ?_).trans rfl
  rw [Zb,if_neg (by decide),Za (qq 6)]
  refine lvN (by decide) ?_
  rw [Za (qq 7)]
  refine lvN (by decide) ?_
  rw [Za (qq 8)]
  refine lvY (by decide) ?_
  rw [Za Zg,Za y1,Za y2,Za g1,Za b1,Za g2,Za b2,Za e2]
  rfl
 by_cases hk : o.kd=9
 ·rw [hk] at qq
  obtain ⟨X2,r2,e2,d2,s2⟩:=ZDg (n:=n+4) (g:=o.a) h3
  obtain ⟨x1,x2⟩:=h3.still d2 s2
  have dx : DX X2 (.now (Znr o.a s)) p.ov p.nv r2.own p.C p.c:=⟨d,r2,z1,z2,d2,rfl,by rw [zC,x1,x2]⟩
  have e2 : R (n+14) Wg [pt d,strv o.a] X1=_:=e2
  refine ⟨.slice none 0 0,[],[],Yd o.a s.K,_,.now (Znr o.a s),X2,f0 _ _ ?_,nil,by simp,by simp,(Ye.act H1 (by rw [zM];exact s2) dx (fun hne=>by rw [ZDb hne]) Zx5.1 (by omega)).pre k1,Zx5.2⟩
  unfold QR
  rw [Za a1,Za Zj,Za b0,hk,Za (qq 5)]
  refine (ZK (vs:=[.slice none 0 0,iv (Yd o.a s.K)]) (H':=X2) ?_).trans rfl
  rw [Zb,if_neg (by decide),Za (qq 6)]
  refine lvN (by decide) ?_
  rw [Za (qq 7)]
  refine lvN (by decide) ?_
  rw [Za (qq 8)]
  refine lvN (by decide) ?_
  rw [Za (qq 9)]
  refine lvY (by decide) ?_
  rw [Za Zg,Za y1,Za y2,Za g1,Za b1,Za e2]
  rfl
 by_cases hk : o.kd=10
 ·rw [hk] at qq
  obtain ⟨X2,r2,e2,d2,s2⟩:=ZEi (n:=n+4) (g:=o.a) h3
  obtain ⟨x1,x2⟩:=h3.still d2 s2
  have dx : DX X2 (.now (Zns o.a s)) p.ov p.nv r2.own p.C p.c:=⟨d,r2,z1,z2,d2,rfl,by rw [zC,x1,x2]⟩
  have e2 : R (n+14) Wf [pt d,strv o.a] X1=_:=e2
  refine ⟨.slice none 0 0,[],[],JP o.a s.K,_,.now (Zns o.a s),X2,f0 _ _ ?_,nil,by simp,by simp,(Ye.act H1 (by rw [zM];exact s2) dx (fun hne=>by rw [ZC5 hne]) Znt.1 (by omega)).pre k1,Znt.2⟩
  unfold QR
  rw [Za a1,Za Zj,Za b0,hk,Za (qq 5)]
  refine (ZK (vs:=[.slice none 0 0,iv (JP o.a s.K)]) (H':=X2) ?_).trans rfl
  rw [Zb,if_neg (by decide),Za (qq 6)]
  refine lvN (by decide) ?_
  rw [Za (qq 7)]
  refine lvN (by decide) ?_
  rw [Za (qq 8)]
  refine lvN (by decide) ?_
  rw [Za (qq 9)]
  refine lvN (by decide) ?_
  rw [Za (qq 10)]
  refine lvY (by decide) ?_
  rw [Za Zg,Za y1,Za y2,Za g1,Za b1,Za e2]
  rfl
 by_cases hk : o.kd=11
 ·rw [hk] at qq
  obtain ⟨X2,e2,d2,s2⟩:=ZC8 (n:=n+3) (g:=o.a) (k:=o.b) h3
  have dx : DX X2 (.now (ZfN o.a o.b s)) p.ov p.nv r.own p.C (p.c+1):=⟨d,r,z1,z2,d2,rfl,zC⟩
  have e2 : R (n+14) Zae [pt d,strv o.a,strv o.b] X1=_:=e2
  refine ⟨.slice none 0 0,[],[],ZbF o.a o.b s,_,.now (ZfN o.a o.b s),X2,f0 _ _ ?_,nil,by simp,by simp,(Ye.act H1 (by rw [zM];exact s2) dx (fun hne=>by rw [ZDI hne]) ZxS.1 (by omega)).pre k1,ZxS.2⟩
  unfold QR
  rw [Za a1,Za Zj,Za b0,hk,Za (qq 5)]
  refine (ZK (vs:=[.slice none 0 0,iv (ZbF o.a o.b s)]) (H':=X2) ?_).trans rfl
  rw [Zb,if_neg (by decide),Za (qq 6)]
  refine lvN (by decide) ?_
  rw [Za (qq 7)]
  refine lvN (by decide) ?_
  rw [Za (qq 8)]
  refine lvN (by decide) ?_
  rw [Za (qq 9)]
  refine lvN (by decide) ?_
  rw [Za (qq 10)]
  refine lvN (by decide) ?_
  rw [Za (qq 11)]
  refine lvY (by decide) ?_
  rw [Za Zg,Za y1,Za y2,Za g1,Za b1,Za g2,Za b2,Za e2]
  rfl
 by_cases hk : o.kd=12
 ·rw [hk] at qq
  obtain ⟨X2,e2,d2,s2⟩:=ZCq (n:=n+3) (g:=o.a) (k:=o.b) h3
  have dx : DX X2 (.now (ZdE o.a o.b s)) p.ov p.nv r.own p.C (p.c+1):=⟨d,r,z1,z2,d2,rfl,zC⟩
  have e2 : R (n+14) WI [pt d,strv o.a,strv o.b] X1=_:=e2
  refine ⟨.slice none 0 0,[],[],ZaS o.a o.b s,_,.now (ZdE o.a o.b s),X2,f0 _ _ ?_,nil,by simp,by simp,(Ye.act H1 (by rw [zM];exact s2) dx (fun hne=>by rw [ZBs hne]) ZvB.1 (by omega)).pre k1,ZvB.2⟩
  unfold QR
  rw [Za a1,Za Zj,Za b0,hk,Za (qq 5)]
  refine (ZK (vs:=[.slice none 0 0,iv (ZaS o.a o.b s)]) (H':=X2) ?_).trans rfl
  rw [Zb,if_neg (by decide),Za (qq 6)]
  refine lvN (by decide) ?_
  rw [Za (qq 7)]
  refine lvN (by decide) ?_
  rw [Za (qq 8)]
  refine lvN (by decide) ?_
  rw [Za (qq 9)]
  refine lvN (by decide) ?_
  rw [Za (qq 10)]
  refine lvN (by decide) ?_
  rw [Za (qq 11)]
  refine lvN (by decide) ?_
  rw [Za (qq 12)]
  refine lvY (by decide) ?_
  rw [Za Zg,Za y1,Za y2,Za g1,Za b1,Za g2,Za b2,Za e2]
  rfl
 by_cases hk : o.kd=13
 ·rw [hk] at qq
  obtain ⟨X2,e2,k2⟩:=ZwL (n:=n+4) (m:=o.a) h3
  have e2 : R (n+14) ZbH [pt d,strv o.a] X1=_:=e2
  have e3 : bsl 1 1 (.string ⟨#[]⟩) [(0,1,strv (ZiE o.a s.OW))] X2=some (.slice (some ⟨X2.length,0,none⟩) 1 1,X2++[.cells [strv (ZiE o.a s.OW)] 1 false false]):=ZpO rfl rfl rfl
  refine ⟨.slice (some ⟨X2.length,0,none⟩) 1 1,[ZiE o.a s.OW],[X2.length],ZcG o.a s.OW,p,.now s,X2++[.cells [strv (ZiE o.a s.OW)] 1 false false],f0 _ _ ?_,.inr ⟨X2.length,[],false,rfl,rfl,Zp⟩,by have:=k2.len;simp;omega,by simp,(Ye.of H1 (k2.trans (.app _ _)) ZuH.1).pre k1,ZuH.2⟩
  unfold QR
  rw [Za a1,Za Zj,Za b0,hk,Za (qq 5)]
  refine (ZK (vs:=[.slice (some ⟨X2.length,0,none⟩) 1 1,iv (ZcG o.a s.OW)]) (H':=(X2++[.cells [strv (ZiE o.a s.OW)] 1 false false])) ?_).trans rfl
  rw [Zb,if_neg (by decide),Za (qq 6)]
  refine lvN (by decide) ?_
  rw [Za (qq 7)]
  refine lvN (by decide) ?_
  rw [Za (qq 8)]
  refine lvN (by decide) ?_
  rw [Za (qq 9)]
  refine lvN (by decide) ?_
  rw [Za (qq 10)]
  refine lvN (by decide) ?_
  rw [Za (qq 11)]
  refine lvN (by decide) ?_
  rw [Za (qq 12)]
  refine lvN (by decide) ?_
  rw [Za (qq 13)]
  refine lvY (by decide) ?_
  rw [Za Zg,Za y1,Za y2,Za g1,Za b1,Za e2,Za Zq,Za Zr,Za e3]
  rfl
 ·have hk : o.kd=14:=by omega
  rw [hk] at qq
  obtain ⟨v,q,l,X2,e2,r2,_,n2,k2,o2⟩:=Zw9 (n:=n+5) (g:=o.a) h3 (by omega)
  have e2 : R (n+14) WX [pt d,strv o.a] X1=_:=e2
  refine ⟨v,l,q,JP o.a s.K,p,.now s,X2,f0 _ _ ?_,r2,fun j hj=>Nat.le_trans l1 (o2 j hj),by omega,(Ye.of H1 k2 Znt.1).pre k1,Znt.2⟩
  unfold QR
  rw [Za a1,Za Zj,Za b0,hk,Za (qq 5)]
  refine (ZK (vs:=[v,iv (JP o.a s.K)]) (H':=X2) ?_).trans rfl
  rw [Zb,if_neg (by decide),Za (qq 6)]
  refine lvN (by decide) ?_
  rw [Za (qq 7)]
  refine lvN (by decide) ?_
  rw [Za (qq 8)]
  refine lvN (by decide) ?_
  rw [Za (qq 9)]
  refine lvN (by decide) ?_
  rw [Za (qq 10)]
  refine lvN (by decide) ?_
  rw [Za (qq 11)]
  refine lvN (by decide) ?_
  rw [Za (qq 12)]
  refine lvN (by decide) ?_
  rw [Za (qq 13)]
  refine lvN (by decide) ?_
  rw [Za (qq 14)]
  refine lvY (by decide) ?_
  rw [Za Zg,Za y1,Za y2,Za g1,Za b1,Za e2,Za Zq,Za Zr]
  rfl
end Go.Proofs.YtgfbgfafajiehaaGreatDoor.A

namespace Go.Proofs.YtgfbgfafajiehaaGreatDoor.A
set_option linter.unusedVariables false
set_option linter.unusedSimpArgs false
open Go.Proofs Go.Proofs.YtgfbgfafajiehaaGreatDoor
variable {X X' Y : Zd} {n : Nat} {p p' : HP} {D D' : QS} {T : List QI} {B : List Nat} {k m g t : Tx} {o : OpT} {s : NSt} {b : Bool}
theorem HO.box {j : Nat} {i : Int} {v w1 w2 : Value} (h : HO X p D T B) (hj : X[j]?=some (.cells [.int .i64 i,v] 1 false false)) (ho : j∉p.own) (hf : j∉p.fr) : HO (X.set j (.cells [w1,w2] 1 false false)) p D T B:=by
 have hs : Zu [j] X [j] (X.set j (.cells [w1,w2] 1 false false)):=⟨by simp,fun a ha hn=>List.getElem?_set_ne (fun e=>hn (by simp [e])),fun a ha=>.inl ha⟩
 refine h.step hs (fun a ha e=>?_) (fun a ha e=>?_) (fun e=>?_) (fun a ha e=>?_)
 ·rw [List.mem_singleton.1 e] at ha;exact ho ha
 ·rw [List.mem_singleton.1 e] at ha
  obtain ⟨_,_,_,_,_,hc⟩:=h.dir.first _ ha
  rw [hj] at hc
  cases hc
 ·have e:=List.mem_singleton.1 e
  obtain ⟨sl,h1,_⟩:=h.brd.at_
  rw [e,hj] at h1
  cases h1
 ·rw [List.mem_singleton.1 e] at ha;exact hf ha
theorem ZrP {j : Nat} {i : Int} {v w : Value} {e : Int} (hj : X[j]?=some (.cells [.int .i64 i,v] 1 false false)) (hw : oneCell w=true) : stA 2 (pt j) (.agg #[iv e,w]) X=some (undef,X.set j (.cells [iv e,w] 1 false false)):=
 Zb7 (vs:=[iv e,w]) hj rfl rfl (by rw [List.all_cons,List.all_cons,hw];rfl)
theorem Zqd {j : Nat} {i : Int} {v w : Value} {e : Int} (hj : X[j]?=some (.cells [.int .i64 i,v] 1 false false)) : ldA 2 (pt j) (X.set j (.cells [iv e,w] 1 false false))=some (.agg #[iv e,w],X.set j (.cells [iv e,w] 1 false false)):=
 Qe (n:=2) (Z8 hj) rfl
theorem ZCy (h : checkO o=0) : o.kd < 17:=by
 unfold checkO at h
 split at h
 ·cases h
 ·omega
theorem ZC1 : checkO o≠6∧checkO o < 100:=by
 unfold checkO
 repeat' split
 all_goals omega
theorem ZFz (hG : GlH X) (h : HO X p D T B) (hc : p.c≤1000) (hok : Zln o) (ha : o.a.length≤65535) (hb : o.b.length≤65535) : ∃ (v : Value) (l : List Tx) (q : List Nat) (e : Int) (p' : HP) (D' : QS) (X' : Zd),
  R (n+17) Zbx [pt p.h,.agg o.cells.toArray] X=some (.agg #[iv e,v],X')∧Zo X' v (l.map strv) q∧(∀ j∈q,X.length≤j)∧l.length≤1000∧Ye X X' p p' D D' T B e∧(e≠0→l=[])∧(e=6↔checkO o=0∧ZiV D=1∧5≤o.kd∧o.kd≤14):=by
 have a1:=Zi8 o X
 have k1 : HLe X (X++[Ze.cells o.cells 1 false false]):=.app _ _
 have c1 : (X++[Ze.cells o.cells 1 false false])[X.length]?=some (.cells o.cells 1 false false):=Zp
 generalize X++[Ze.cells o.cells 1 false false]=X1 at a1 k1 c1
 have a2 : alc 1 (.agg #[.int .i64 0,.slice none 0 0]) X1=some (pt X1.length,X1++[.cells [.int .i64 0,.slice none 0 0] 1 false false]):=rfl
 have k2 : HLe X1 (X1++[Ze.cells [.int .i64 0,.slice none 0 0] 1 false false]):=.app _ _
 have c2 : (X1++[Ze.cells [.int .i64 0,.slice none 0 0] 1 false false])[X1.length]?=some (.cells [.int .i64 0,.slice none 0 0] 1 false false):=Zp
 have d2:=k2 _ _ c1
 generalize X1++[Ze.cells [.int .i64 0,.slice none 0 0] 1 false false]=X2 at a2 k2 c2 d2
 have k12:=k1.trans k2
 obtain ⟨X3,a3,k3⟩:=ZAP (n:=n+11) (o:=o) (hG.le k12) hok ha hb
 have a3 : R (n+16) Zec [.agg o.cells.toArray] X2=_:=a3
 have k13:=k12.trans k3
 have c3:=k3 _ _ c2
 have d3:=k3 _ _ d2
 have H3:=h.hle k13
 have n1:=k1.len
 have n3:=(k2.trans k3).len
 have hp2 : X1.length < X3.length:=Z6 c3
 have hp1 : X.length < X1.length:=Z6 c1
 have own2 : X1.length∉p.own:=fun hh=>by have:=h.lt _ hh;omega
 have own1 : X.length∉p.own:=fun hh=>by have:=h.lt _ hh;omega
 have fr2 : X1.length∉p.fr:=fun hh=>by have:=h.tab.lt _ hh;omega
 have f0 : ∀ r X',ZaB (R (n+16)) (pt p.h) (.agg o.cells.toArray) X=some (r,X')→R (n+17) Zbx [pt p.h,.agg o.cells.toArray] X=some (r,X'):=fun r X' hr=>by rw [R,Zsz rfl];exact hr
 have nil : ∀ {Z : Zd},Zo Z (.slice none 0 0) (([] : List Tx).map strv) []:=Zo.nil
 have q3 : bop .int .neq (iv (checkO o)) (.int .i64 0) X3=some (.bool (decide (checkO o≠0)),X3):=by
  rw [Zl]
  have hq : ((checkO o : Int) !=0)=decide (checkO o≠0):=by
   by_cases hz : checkO o=0
   ·rw [hz];rfl
   ·have h1 : ((checkO o : Int)==0)=false:=by rw [beq_eq_false_iff_ne];omega
    show (!((checkO o : Int)==0))=_
    rw [h1,decide_eq_true hz]
    rfl
  rw [hq]
 have l2 : ldA 5 (pt X.length) X2=some (.agg o.cells.toArray,X2):=Qe (n:=5) d2 rfl
 have l3 : ldA 5 (pt X.length) X3=some (.agg o.cells.toArray,X3):=Qe (n:=5) d3 rfl
 have fin : ∀ {Z : Zd} {p' : HP} {D' : QS} {e : Int} {w : Value} {i : Int} {v : Value},Ye X3 Z p p' D D' T B e→Z[X1.length]?=some (.cells [.int .i64 i,v] 1 false false)→Ye X (Z.set X1.length (.cells [iv e,w] 1 false false)) p p' D D' T B e:=fun {Z p' D' e w i v} hA hz=>by
  have ho : X1.length∉p'.own:=fun hh=>by
   rcases hA.st.own _ hh with h1 | h1
   ·exact own2 h1
   ·omega
  have hf : X1.length∉p'.fr:=by rw [hA.fr];exact fr2
  have hB:=Ye.pre k13 hA
  exact ⟨hA.ho.box hz ho hf,⟨by simpa using hB.st.len,fun j hj hn=>by rw [List.getElem?_set_ne (by omega)];exact hB.st.keep j hj hn,hB.st.own⟩,hA.h,hA.t,hA.fr,hA.no,hA.nn,hA.c⟩
 by_cases hk : checkO o=0
 ·have q3' : decide (checkO o≠0)=false:=by simp [hk]
  obtain ⟨v,l,q,e,p',D',X4,a4,r4,o4,n4,A4,e6,sm⟩:=ZzT (n:=n+1) (o:=o) H3 ha hb hok
  have a4 : R (n+16) Wk [pt p.h,.agg o.cells.toArray] X3=_:=a4
  have c4:=A4.st.get c3 own2
  have d4:=A4.st.get d3 own1
  have hkd:=ZCy hk
  have last : ∀ {Z : Zd} {p' : HP} {D' : QS} {e : Int} {w : Value} {l : List Tx} {q : List Nat},Ye X3 Z p p' D D' T B e→Zo Z w (l.map strv) q→(∀ j∈q,X3.length≤j)→l.length≤1000→Z[X1.length]?=some (.cells [.int .i64 0,.slice none 0 0] 1 false false)→∃ (v : Value) (l' : List Tx) (q' : List Nat) (Z' : Zd),
    bind (bop .int .neq (iv e) (Value.int .i64 0)) (fun v42x28=>cnd v42x28
     (bind (bld (.agg #[.int .i64 0,.slice none 0 0]) [(0,1,iv e)]) fun v44x29=>bind (stA 2 (pt X1.length) v44x29) fun _=>bind (ldA 2 (pt X1.length)) fun vrx30=>ret vrx30)
     (bind (bld (.agg #[.int .i64 0,.slice none 0 0]) [(1,1,w)]) fun v46x31=>bind (stA 2 (pt X1.length) v46x31) fun _=>bind (ldA 2 (pt X1.length)) fun vrx32=>ret vrx32)) Z=some (.agg #[iv e,v],Z')∧Zo Z' v (l'.map strv) q'∧(∀ j∈q',X.length≤j)∧l'.length≤1000∧Ye X Z' p p' D D' T B e∧(e≠0→l'=[]):=fun {Z p' D' e w l q} hA hr hq hl hz=>by
   by_cases he : e=0
   ·subst he
    obtain ⟨sa,sn,sc,rfl⟩:=hr.isS
    refine ⟨.slice sa sn sc,l,q,Z.set X1.length (.cells [iv 0,.slice sa sn sc] 1 false false),?_,hr.keep (fun j hj=>List.getElem?_set_ne (fun e=>by have:=hq j hj;omega)),fun j hj=>by have:=hq j hj;omega,hl,fin hA hz,fun e=>absurd rfl e⟩
    rw [Za Zl,Zb,if_neg (by simp),Za (show bld (.agg #[.int .i64 0,.slice none 0 0]) [(1,1,.slice sa sn sc)] Z=some (.agg #[iv 0,.slice sa sn sc],Z) from rfl),Za (ZrP hz rfl),Za (Zqd hz)]
    rfl
   ·refine ⟨.slice none 0 0,[],[],Z.set X1.length (.cells [iv e,.slice none 0 0] 1 false false),?_,nil,by simp,by simp,fin hA hz,fun _=>rfl⟩
    rw [Za Zl,Zb,if_pos (by simpa using he),Za (show bld (.agg #[.int .i64 0,.slice none 0 0]) [(0,1,iv e)] Z=some (.agg #[iv e,.slice none 0 0],Z) from rfl),Za (ZrP hz rfl),Za (Zqd hz)]
    rfl
  have e1 : ∀ Z : Zd,fa 1 (pa p.h 0) Z=some (pa p.h 1,Z):=fun Z=>rfl
  cases hi : (decide (o.kd≤4) || o.kd==15 || o.kd==16) with
  | true=>
   rw [hi] at a4
   obtain ⟨w,l',q',Z',b1,b2,b3,b4,b5,b6⟩:=last A4 r4 o4 n4 c4
   refine ⟨w,l',q',e,p',D',Z',f0 _ _ ?_,b2,b3,b4,b5,b6,⟨fun h=>absurd h e6,fun h=>by simp at hi;omega⟩⟩
   unfold ZaB
   rw [Za a1,Za a2,Za l2,Za a3,Za q3,q3',Zb,if_neg (by simp),Za l3,Za a4,Za Qs,Za QP,Za Qv,Za ZM,Za (show gate (.bool (!true)) true 5 _ X4=some ([QK,QK,QK,QK,QK],X4) from rfl),QF,Za Zm]
   refine (ZK (vs:=[pt X1.length,v,iv e]) (H':=X4) ?_).trans b1
   rw [show cond (!true) QK (Value.bool false)=.bool false from rfl,Zb,if_neg (by simp),Za ZM]
   rfl
  | false=>
   rw [hi] at a4
   have hmid : 5≤o.kd∧o.kd≤14:=by simp at hi;omega
   obtain ⟨rfl,rfl⟩:=sm hmid
   have y1 : ld1 (pa p'.h 1) X4=some (p'.nv,X4):=Zy A4.ho.cell rfl
   have yv:=A4.ho.dir.nv X4
   cases D' with
   | old m=>
    have A6 : Ye X3 X4 p' p' (.old m) (.old m) T B 6:=⟨A4.ho,A4.st,rfl,rfl,rfl,fun _=>rfl,by omega,by omega⟩
    obtain ⟨w,l',q',Z',b1,b2,b3,b4,b5,b6⟩:=last A6 r4 o4 n4 c4
    refine ⟨w,l',q',6,p',.old m,Z',f0 _ _ ?_,b2,b3,b4,b5,b6,⟨fun _=>⟨hk,rfl,hmid.1,hmid.2⟩,fun _=>rfl⟩⟩
    unfold ZaB
    rw [Za a1,Za a2,Za l2,Za a3,Za q3,q3',Zb,if_neg (by simp),Za l3,Za a4,Za Qs,Za QP,Za Qv,Za ZM,show (!false)=true from rfl,ZX,Zk,Za Zg,Zk,Za (e1 X4),Zk,Za y1,Zk,Za yv,Qi,QF,Za Zm]
    refine (ZK (vs:=[pt X1.length,v,iv 6]) (H':=X4) ?_).trans b1
    rfl
   | now s=>
    obtain ⟨v5,l5,q5,ee,p5,D5,X5,a5,r5,o5,n5,A5,ne5⟩:=ZAH (n:=n+1) (o:=o) A4.ho (by have:=A4.c;omega) hmid.1 hmid.2
    have a5 : R (n+16) Wi [pt p'.h,.agg o.cells.toArray] X4=_:=a5
    have l4 : ldA 5 (pt X.length) X4=some (.agg o.cells.toArray,X4):=Qe (n:=5) d4 rfl
    have c5:=A5.st.get c4 own2
    have hst : Zu p'.own X3 p5.own X5:=A4.st.trans A5.st
    have A6 : Ye X3 X5 p' p5 (.now s) D5 T B ee:=⟨A5.ho,hst,A5.h,A5.t,A5.fr,A5.no,A5.nn,A5.c⟩
    obtain ⟨w,l',q',Z',b1,b2,b3,b4,b5,b6⟩:=last A6 r5 (fun j hj=>Nat.le_trans A4.st.len (o5 j hj)) n5 c5
    refine ⟨w,l',q',ee,p5,D5,Z',f0 _ _ ?_,b2,b3,b4,b5,b6,⟨fun h=>absurd h ne5,fun h=>by have:=h.2.1;cases this⟩⟩
    unfold ZaB
    rw [Za a1,Za a2,Za l2,Za a3,Za q3,q3',Zb,if_neg (by simp),Za l3,Za a4,Za Qs,Za QP,Za Qv,Za ZM,show (!false)=true from rfl,ZX,Zk,Za Zg,Zk,Za (e1 X4),Zk,Za y1,Zk,Za yv,Qi,QF,Za Zm]
    refine (ZK (vs:=[pt X1.length,v5,iv ee]) (H':=X5) ?_).trans b1
    rw [show cond true (Value.bool (decide (ZiV (.now s)=1))) (Value.bool false)=.bool false from rfl,Zb,if_neg (by simp),Za ZM]
    refine (ZK (vs:=[pt X1.length,v5,iv ee]) (H':=X5) ?_).trans rfl
    rw [Zb,if_pos (show (!false)=true from rfl),Za l4,Za a5,Za Zq,Za Zr]
    rfl
 ·have q3' : decide (checkO o≠0)=true:=by simp [hk]
  refine ⟨.slice none 0 0,[],[],checkO o,p,D,X3.set X1.length (.cells [iv (checkO o),.slice none 0 0] 1 false false),f0 _ _ ?_,nil,by simp,by simp,fin (Ye.refl H3 (by omega)) c3,fun _=>rfl,⟨fun h=>by have:=ZC1 (o:=o);omega,fun h=>absurd h.1 hk⟩⟩
  unfold ZaB
  rw [Za a1,Za a2,Za l2,Za a3,Za q3,q3',Zb,if_pos rfl,Za (show bld (.agg #[.int .i64 0,.slice none 0 0]) [(0,1,iv (checkO o))] X3=some (.agg #[iv (checkO o),.slice none 0 0],X3) from rfl),Za (ZrP c3 rfl),Za (Zqd c3)]
  rfl
end Go.Proofs.YtgfbgfafajiehaaGreatDoor.A

namespace Go.Proofs.YtgfbgfafajiehaaGreatDoor.A
set_option linter.unusedVariables false
set_option linter.unusedSimpArgs false
open Go.Proofs Go.Proofs.YtgfbgfafajiehaaGreatDoor
variable {X X' Y : Zd} {n : Nat} {p p' : HP} {D D' : QS} {T : List QI} {B : List Nat} {k m g t : Tx} {o : OpT} {s : NSt} {b : Bool} {r : YY}
theorem HO.put {T' : List QI} {lvs' : List Value} {q2 : List Nat} (h : HO X p D T B) (ht : Tab X' p.t T' lvs' (p.fr++q2)) (hl : X.length≤X'.length) (hk : ∀ j,j < X.length→j≠p.t→X'[j]?=X[j]?) (hq : ∀ j∈q2,X.length≤j) : HO X' { p with fr:=p.fr++q2,lvs:=lvs' } D T' B∧Zu p.own X ({ p with fr:=p.fr++q2,lvs:=lvs' } : HP).own X':=by
 have hs : Zu [p.t] X [p.t] X':=⟨hl,fun j hj hn=>hk j hj (fun e=>hn (by simp [e])),fun j hj=>.inl hj⟩
 have hh:=Z6 h.cell
 have htf:=h.tab.t
 have hht : p.h≠p.t:=fun e=>h.hfr (e ▸ htf)
 have hMt : ∀ j∈p.M,j≠p.t:=fun j hj e=>(h.Mo j hj).2.2.2 (e ▸ htf)
 refine ⟨⟨hs.get h.cell (by simp [hht]),h.dir.step hs (fun j hj=>by simp [hMt j hj]) (fun j hj=>by simp;exact fun e=>h.tC (e ▸ hj)),ht,h.brd.keep (fun j hj=>hk j (h.brd.lt j hj) (by
  rcases hj with rfl | hj
  ·exact h.bt
  ·exact fun e=>h.tq (e ▸ hj))),?_,h.hq,h.hC,h.bh,h.bt,h.tq,h.tC,?_,h.Cq,?_⟩,⟨hl,fun j hj hn=>hk j hj (fun e=>hn (by simp [HP.own,e])),fun j hj=>.inl hj⟩⟩
 ·intro hm
  rcases List.mem_append.1 hm with h1 | h1
  ·exact h.hfr h1
  ·exact absurd hh (Nat.not_lt.2 (hq p.h h1))
 ·intro j hj hm
  rcases List.mem_append.1 hj with h1 | h1
  ·exact h.fq j h1 hm
  ·have:=hq j h1;have:=h.brd.lt j (.inr hm);omega
 ·intro j hj
  obtain ⟨m1,m2,m3,m4⟩:=h.Mo j hj
  refine ⟨m1,m2,m3,fun hm=>?_⟩
  rcases List.mem_append.1 hm with h1 | h1
  ·exact m4 h1
  ·have:=hq j h1;have:=h.dir.lt j (.inl hj);omega
theorem ZxX (r : YY) (X : Zd) : alc 1 (.agg r.cells.toArray) X=some (pt X.length,X++[.cells r.cells 1 false false]):=rfl
theorem ZER {j : Nat} (h : X[j]?=some (.cells r.cells 1 false false)) : ldA 5 (pa j 2) X=some (.agg r.o.cells.toArray,X):=Zng (o:=2) (k:=5) h (by simp [YY.cells,OpT.cells])
end Go.Proofs.YtgfbgfafajiehaaGreatDoor.A

namespace Go.Proofs.YtgfbgfafajiehaaGreatDoor.A
set_option linter.unusedVariables false
set_option linter.unusedSimpArgs false
open Go.Proofs Go.Proofs.YtgfbgfafajiehaaGreatDoor
variable {X X' Y : Zd} {n : Nat} {p p' : HP} {D D' : QS} {T : List QI} {B : List Nat} {o : OpT} {s : NSt} {r : YY}
end Go.Proofs.YtgfbgfafajiehaaGreatDoor.A

namespace Go.Proofs.YtgfbgfafajiehaaGreatDoor.A
set_option linter.unusedVariables false
set_option linter.unusedSimpArgs false
open Go.Proofs Go.Proofs.YtgfbgfafajiehaaGreatDoor
variable {X X' Y : Zd} {n : Nat} {p p' : HP} {D D' : QS} {T : List QI} {B : List Nat} {o : OpT} {s : NSt} {r : YY}
def ZAe (n : Nat) (D : QS) (T : List QI) (B : List Nat) (o : OpT) (P : Int→List Tx→QS→Prop) : Prop:=
 ∀ (X : Zd) (p : HP),GlH X→HO X p D T B→p.c≤1000→∃ (v : Value) (l : List Tx) (q : List Nat) (e : Int) (p' : HP) (D' : QS) (X' : Zd),
  R n Zbx [pt p.h,.agg o.cells.toArray] X=some (.agg #[iv e,v],X')∧Zo X' v (l.map strv) q∧(∀ j∈q,X.length≤j)∧l.length≤1000∧Ye X X' p p' D D' T B e∧(e≠0→l=[])∧P e l D'
def Zb9 (T : List QI) (c m : Nat) : Nat × List Tx:=match judgeS T c m with
 | 0=>(1,[])
 | 1=>(12,[])
 | _=>match T[c]? with
  | some r=>(r.e,r.l)
  | none=>(0,[])
def ZFN (P : Int→List Tx→QS→Prop) (D : QS) (T : List QI) (r : YY) (e : Int) (l : List Tx) (dn : Bool) (D' : QS) (T' : List QI) : Prop:=
 (judgeS T r.cl r.num≠3∧dn=false∧D'=D∧T'=T∧e=(Zb9 T r.cl r.num).1∧l=(Zb9 T r.cl r.num).2)∨
 (judgeS T r.cl r.num=3∧dn=true∧P e l D'∧∃ en : Nat,e=en∧T'=T.set r.cl ⟨r.num,en,l⟩)
theorem ZmN {P : Int→List Tx→QS→Prop} (hG : GlH X) (h : HO X p D T B) (hc : p.c≤1000) (hok : ZjR r) (hs : r.cl≠255) (hP : ZAe (n+18) D T B r.o P) : ∃ (v : Value) (l : List Tx) (e : Int) (dn : Bool) (p' : HP) (D' : QS) (T' : List QI) (X' : Zd),
  R (n+19) QO [pt p.h,.agg r.cells.toArray] X=some (.tuple #[.agg #[iv e,v],.bool dn],X')∧Sl X' v (l.map strv)∧oneCell v=true∧l.length≤1000∧(∀ id,own1 v=some id→X.length≤id)∧HO X' p' D' T' B∧Zu p.own X p'.own X'∧p'.h=p.h∧p'.c≤p.c+1∧(e≠0→l=[])∧(judgeS T r.cl r.num≠3→HLe X X'∧p'=p)∧(∀ j∈p'.fr,j∈p.fr∨X.length≤j)∧ZFN P D T r e l dn D' T':=by
 have a1:=ZxX r X
 have k1 : HLe X (X++[Ze.cells r.cells 1 false false]):=.app _ _
 have c1 : (X++[Ze.cells r.cells 1 false false])[X.length]?=some (.cells r.cells 1 false false):=Zp
 generalize X++[Ze.cells r.cells 1 false false]=X1 at a1 k1 c1
 have a2 : alc 1 (.agg #[.int .i64 0,.slice none 0 0]) X1=some (pt X1.length,X1++[.cells [.int .i64 0,.slice none 0 0] 1 false false]):=rfl
 have k2 : HLe X1 (X1++[Ze.cells [.int .i64 0,.slice none 0 0] 1 false false]):=.app _ _
 have c2 : (X1++[Ze.cells [.int .i64 0,.slice none 0 0] 1 false false])[X1.length]?=some (.cells [.int .i64 0,.slice none 0 0] 1 false false):=Zp
 have d2:=k2 _ _ c1
 generalize X1++[Ze.cells [.int .i64 0,.slice none 0 0] 1 false false]=X2 at a2 k2 c2 d2
 have k12:=k1.trans k2
 have H2:=h.hle k12
 have G2:=hG.le k12
 have n1:=k1.len
 have n2:=k2.len
 have hp1 : X.length < X1.length:=Z6 c1
 have hp2 : X1.length < X2.length:=Z6 c2
 have own2 : X1.length∉p.own:=fun hh=>by have:=h.lt _ hh;omega
 have own1 : X.length∉p.own:=fun hh=>by have:=h.lt _ hh;omega
 have fr2 : X1.length∉p.fr:=fun hh=>by have:=h.tab.lt _ hh;omega
 have f0 : ∀ v X',KR (R (n+18)) (pt p.h) (.agg r.cells.toArray) X=some (v,X')→R (n+19) QO [pt p.h,.agg r.cells.toArray] X=some (v,X'):=fun v X' hr=>by rw [R,Zol rfl];exact hr
 have b0 : ld1 (pa X.length 0) X2=some (.int .u8 r.cl,X2):=Zy d2 rfl
 have b1 : ld1 (pa X.length 1) X2=some (.int .u64 r.num,X2):=Zy d2 rfl
 have bt : ld1 (pa p.h 2) X2=some (pt p.t,X2):=Zy H2.cell rfl
 have g1 : ∀ Z : Zd,fa 1 (pt X.length) Z=some (pa X.length 1,Z):=fun Z=>rfl
 have g2 : ∀ Z : Zd,fa 2 (pt X.length) Z=some (pa X.length 2,Z):=fun Z=>rfl
 have y2 : ∀ Z : Zd,fa 2 (pa p.h 0) Z=some (pa p.h 2,Z):=fun Z=>rfl
 have q0 : bop .int .eql (.int .u8 r.cl) (.int .u8 255) X2=some (.bool false,X2):=by
  rw [ZE]
  have hq : ((r.cl : Int)==255)=false:=by rw [beq_eq_false_iff_ne];omega
  rw [hq]
 have Ze4 : ∀ {Z : Zd} {p' : HP} {D' : QS} {T' : List QI} {e : Int} {w : Value} {l : List Tx} {q : List Nat} {dn : Bool},HO Z p' D' T' B→Zu p.own X2 p'.own Z→X1.length∉p'.fr→Zo Z w (l.map strv) q→(∀ j∈q,X2.length≤j)→Z[X1.length]?=some (.cells [.int .i64 0,.slice none 0 0] 1 false false)→
   ∃ Z',bind (stA 2 (pt X1.length) (.agg #[iv e,w])) (fun _=>bind (ldA 2 (pt X1.length)) fun vrx=>ret (Value.tuple #[vrx,.bool dn])) Z=some (.tuple #[.agg #[iv e,w],.bool dn],Z')∧Sl Z' w (l.map strv)∧oneCell w=true∧(∀ id,Go.Proofs.YtgfbgfafajiehaaGreatDoor.A.own1 w=some id→X.length≤id)∧HO Z' p' D' T' B∧Zu p.own X p'.own Z'∧(HLe X Z→HLe X Z'):=fun {Z p' D' T' e w l q dn} hO hs hf hr hq hz=>by
  have ho : X1.length∉p'.own:=fun hh=>by
   rcases hs.own _ hh with h1 | h1
   ·exact own2 h1
   ·omega
  have hr2 : Zo (Z.set X1.length (.cells [iv e,w] 1 false false)) w (l.map strv) q:=hr.keep fun j hj=>List.getElem?_set_ne (fun e0=>by have:=hq j hj;omega)
  refine ⟨Z.set X1.length (.cells [iv e,w] 1 false false),?_,hr2.rd,hr.one.1,fun id hi=>by have:=hq _ (hr.own_of hi);omega,hO.box hz ho hf,⟨by simpa using Nat.le_trans k12.len hs.len,fun j hj hn=>?_,fun j hj=>?_⟩,fun hl=>hl.put (by omega)⟩
  ·rw [Za (ZrP hz hr.one.1),Za (Zqd hz)]
   rfl
  ·rw [List.getElem?_set_ne (by omega),hs.keep j (Nat.lt_of_lt_of_le hj k12.len) hn,List.getElem?_eq_getElem hj]
   exact k12 _ _ (List.getElem?_eq_getElem hj)
  ·rcases hs.own j hj with h1 | h1
   ·exact .inl h1
   ·exact .inr (Nat.le_trans k12.len h1)
 have nil : ∀ {Z : Zd},Zo Z (.slice none 0 0) (([] : List Tx).map strv) []:=Zo.nil
 have ej : R (n+18) J0 [pt p.t,.int .u8 r.cl,.int .u64 r.num] X2=some (iv (judgeS T r.cl r.num),X2):=Zss H2.tab
 have qj : ∀ j : Nat,bop .int .eql (iv (judgeS T r.cl r.num)) (iv j) X2=some (.bool (decide (judgeS T r.cl r.num=j)),X2):=fun j=>by
  rw [ZE]
  have hq : ((judgeS T r.cl r.num : Int)==(j : Int))=decide (judgeS T r.cl r.num=j):=by
   by_cases hz : judgeS T r.cl r.num=j
   ·rw [hz];simp
   ·rw [decide_eq_false hz,beq_eq_false_iff_ne];omega
  rw [hq]
 have qj0 : bop .int .eql (iv (judgeS T r.cl r.num)) (.int .i64 0) X2=_:=qj 0
 have qj1 : bop .int .eql (iv (judgeS T r.cl r.num)) (.int .i64 1) X2=_:=qj 1
 have qj2 : bop .int .eql (iv (judgeS T r.cl r.num)) (.int .i64 2) X2=_:=qj 2
 by_cases j0 : judgeS T r.cl r.num=0
 ·obtain ⟨Z',z1,z2,z3,zf,z4,z5,z6⟩:=Ze4 (e:=1) (dn:=false) H2 (.refl _ _) fr2 nil (by simp) c2
  have ha : Zb9 T r.cl r.num=(1,[]):=by unfold Zb9;rw [j0];rfl
  refine ⟨.slice none 0 0,[],1,false,p,D,T,Z',f0 _ _ ?_,z2,z3,by simp,zf,z4,z5,rfl,by omega,fun _=>rfl,fun _=>⟨z6 k12,rfl⟩,fun j hj=>.inl hj,.inl ⟨by omega,rfl,rfl,rfl,by rw [ha];rfl,by rw [ha]⟩⟩
  unfold KR
  rw [Za a1,Za a2,Za Zj,Za b0,Za q0,Zb,if_neg (by simp),Za Zg,Za (y2 X2),Za bt,Za Zj,Za b0,Za (g1 X2),Za b1,Za ej,Za qj0,decide_eq_true j0,Zb,if_pos rfl,Za (show bld (.agg #[.int .i64 0,.slice none 0 0]) [(0,1,(Value.int .i64 1))] X2=some (.agg #[iv 1,.slice none 0 0],X2) from rfl)]
  exact z1
 by_cases j1 : judgeS T r.cl r.num=1
 ·obtain ⟨Z',z1,z2,z3,zf,z4,z5,z6⟩:=Ze4 (e:=12) (dn:=false) H2 (.refl _ _) fr2 nil (by simp) c2
  have ha : Zb9 T r.cl r.num=(12,[]):=by unfold Zb9;rw [j1];rfl
  refine ⟨.slice none 0 0,[],12,false,p,D,T,Z',f0 _ _ ?_,z2,z3,by simp,zf,z4,z5,rfl,by omega,fun _=>rfl,fun _=>⟨z6 k12,rfl⟩,fun j hj=>.inl hj,.inl ⟨by omega,rfl,rfl,rfl,by rw [ha];rfl,by rw [ha]⟩⟩
  unfold KR
  rw [Za a1,Za a2,Za Zj,Za b0,Za q0,Zb,if_neg (by simp),Za Zg,Za (y2 X2),Za bt,Za Zj,Za b0,Za (g1 X2),Za b1,Za ej,Za qj0,decide_eq_false j0,Zb,if_neg (by simp),Za qj1,decide_eq_true j1,Zb,if_pos rfl,Za (show bld (.agg #[.int .i64 0,.slice none 0 0]) [(0,1,(Value.int .i64 12))] X2=some (.agg #[iv 12,.slice none 0 0],X2) from rfl)]
  exact z1
 by_cases j2 : judgeS T r.cl r.num=2
 ·have hcl : r.cl < 8:=by
   unfold judgeS at j2
   split at j2
   ·cases j2
   ·omega
  obtain ⟨row,lv,hr,hlv⟩:=H2.tab.row hcl
  obtain ⟨v,q,X3,e3,r3,k3,o3⟩:=ZCU (n:=n+15) H2.tab hcl hr
  have e3 : R (n+18) K4 [pt p.t,.int .u8 r.cl] X2=_:=e3
  have few:=(H2.tab.txt _ _ _ hr hlv).few
  have ha : Zb9 T r.cl r.num=(row.e,row.l):=by unfold Zb9;rw [j2,hr];rfl
  obtain ⟨Z',z1,z2,z3,zf,z4,z5,z6⟩:=Ze4 (e:=(row.e : Int)) (dn:=false) (H2.hle k3) (k3.step.more (by simp) (fun j hj=>.inl hj)) fr2 r3 o3 (k3 _ _ c2)
  refine ⟨v,row.l,row.e,false,p,D,T,Z',f0 _ _ ?_,z2,z3,few,zf,z4,z5,rfl,by omega,fun he=>H2.tab.err row (List.mem_of_getElem? hr) (fun h0=>he (by rw [h0];rfl)),fun _=>⟨z6 (k12.trans k3),rfl⟩,fun j hj=>.inl hj,.inl ⟨by omega,rfl,rfl,rfl,by rw [ha],by rw [ha]⟩⟩
  unfold KR
  rw [Za a1,Za a2,Za Zj,Za b0,Za q0,Zb,if_neg (by simp),Za Zg,Za (y2 X2),Za bt,Za Zj,Za b0,Za (g1 X2),Za b1,Za ej,Za qj0,decide_eq_false j0,Zb,if_neg (by simp),Za qj1,decide_eq_false j1,Zb,if_neg (by simp),Za qj2,decide_eq_true j2,Zb,if_pos rfl,Za Zg,Za (y2 X2),Za bt,Za Zj,Za b0,Za e3]
  exact z1
 ·have j3 : judgeS T r.cl r.num=3:=by have:=ZvU T r.cl r.num;omega
  obtain ⟨v,l,q,e,p1,D1,X3,e3,r3,o3,n3,A,eL,hPe⟩:=hP X2 p G2 H2 hc
  have d3:=A.st.get d2 own1
  have c3:=A.st.get c2 own2
  have z6 : ∀ K : Value→M Value,bind (alc 1 (.agg #[.int .i64 0,.slice none 0 0])) (fun q=>bind (stA 2 q (.agg #[iv e,v])) fun _=>K q) X3=K (pt X3.length) (X3++[.cells [iv e,v] 1 false false]):=fun K=>ZaF (n:=2) (zs:=[.int .i64 0,.slice none 0 0]) (r:=[iv e,v]) rfl rfl rfl (by rw [List.all_cons,List.all_cons,r3.one.1];rfl)
  have k4 : HLe X3 (X3++[Ze.cells [iv e,v] 1 false false]):=.app _ _
  have c6 : (X3++[Ze.cells [iv e,v] 1 false false])[X3.length]?=some (.cells [iv e,v] 1 false false):=Zp
  generalize X3++[Ze.cells [iv e,v] 1 false false]=X4 at z6 k4 c6
  have H4:=A.ho.hle k4
  have r4:=r3.hle k4
  have hT:=A.t
  have hH:=A.h
  have htl : p.t < X.length:=h.tab.lt _ h.tab.t
  have n4:=k4.len
  have n23:=A.st.len
  obtain ⟨en,rfl⟩ : ∃ en : Nat,e=en:=⟨e.toNat,by have:=A.nn;omega⟩
  obtain ⟨X5,lvs',q2,e5,t5,l5,m5,o5⟩:=ZFu (n:=n+14) (c:=r.cl) (m:=r.num) (e:=en) H4.tab r4.rd n3 r4.one.1
  have e5 : R (n+18) Za1 [pt p1.t,.int .u8 r.cl,.int .u64 r.num,.agg #[iv en,v]] X4=_:=e5
  have hput : Zj6 T r.cl r.num en l=T.set r.cl ⟨r.num,en,l⟩:=by
   unfold Zj6
   rw [if_pos j3]
   have : KG en l=l:=by
    unfold KG
    split
    ·rfl
    ·rename_i hne;exact (eL hne).symm
   rw [this]
  rw [hput] at t5
  obtain ⟨H5,s5⟩:=H4.put t5 l5 m5 o5
  have r5 : Zo X5 v (l.map strv) q:=r4.keep fun j hj=>m5 j (r4.lt j hj) (by have:=o3 j hj;omega)
  have c6' : X5[X3.length]?=some (.cells [iv en,v] 1 false false):=by
   rw [m5 _ (Z6 c6) (by omega)];exact c6
  have c5 : X5[X1.length]?=some (.cells [.int .i64 0,.slice none 0 0] 1 false false):=by
   have:=k4 _ _ c3
   rw [m5 _ (Z6 this) (by omega)];exact this
  have s24 : Zu p.own X2 p1.own X4:=A.st.trans (k4.step.more (by simp) (fun j hj=>.inl hj))
  obtain ⟨Z',z1,z2,z3,zf,z4,z5,_⟩:=Ze4 (e:=(en : Int)) (dn:=true) H5 (s24.trans s5) (fun hh=>by
   rcases List.mem_append.1 hh with h1 | h1
   ·rw [A.fr] at h1;exact fr2 h1
   ·have:=o5 _ h1;omega) r5 o3 c5
  refine ⟨v,l,en,true,_,D1,_,Z',f0 _ _ ?_,z2,z3,n3,zf,z4,z5,hH,A.c,eL,fun hj=>absurd j3 hj,fun j hj=>by
   rcases List.mem_append.1 hj with h1 | h1
   ·rw [A.fr] at h1;exact .inl h1
   ·have:=o5 _ h1;exact .inr (by omega),.inr ⟨j3,rfl,hPe,en,rfl,rfl⟩⟩
  unfold KR
  rw [Za a1,Za a2,Za Zj,Za b0,Za q0,Zb,if_neg (by simp),Za Zg,Za (y2 X2),Za bt,Za Zj,Za b0,Za (g1 X2),Za b1,Za ej,Za qj0,decide_eq_false j0,Zb,if_neg (by simp),Za qj1,decide_eq_false j1,Zb,if_neg (by simp),Za qj2,decide_eq_false j2,Zb,if_neg (by simp),Za (g2 X2),Za (ZER d2),Za e3,z6,Za Zg,Za (y2 X4),Za (show ld1 (pa p.h 2) X4=some (pt p1.t,X4) from by rw [← hH];exact Zy H4.cell rfl),Za Zj,Za (show ld1 (pa X.length 0) X4=some (.int .u8 r.cl,X4) from Zy (k4 _ _ d3) rfl),Za (g1 X4),Za (show ld1 (pa X.length 1) X4=some (.int .u64 r.num,X4) from Zy (k4 _ _ d3) rfl),Za (Qe (n:=2) c6 rfl),Za e5,Za (Qe (n:=2) c6' rfl)]
  exact z1
theorem ZwE (ha : o.a.length≤65535) (hb : o.b.length≤65535) (hok : Zln o) : ZAe (n+18) D T B o fun _ _ _=>True:=fun X p hG h hc=>by
 obtain ⟨v,l,q,e,p',D',X',e1,h1,h2,h3,h4,h5,h6⟩:=ZFz (n:=n+1) (o:=o) hG h hc hok ha hb
 exact ⟨v,l,q,e,p',D',X',e1,h1,h2,h3,h4,h5,trivial⟩
end Go.Proofs.YtgfbgfafajiehaaGreatDoor.A

namespace Go.Proofs.YtgfbgfafajiehaaGreatDoor.A
set_option linter.unusedVariables false
set_option linter.unusedSimpArgs false
open Go.Proofs Go.Proofs.YtgfbgfafajiehaaGreatDoor
variable {X X' Y H0 : Zd} {n : Nat} {p p' : HP} {D D' : QS} {T : List QI} {B : List Nat} {o : OpT} {s : NSt} {r : YY}
theorem ZvC {a c : Value} {l : List Tx} (hu : l.length≤1000) (ha : Sl X a (l.map strv)) (hc : Sl X c (l.map strv)) : ∀ (t j : Nat),l.length - j=t→j≤l.length→
  Zi (c4 (Qw.l1 (R n))) [a,c,iv l.length,iv j] X=some (.ext 0 [],X)
 | 0,j,ht,hj=>by
  have : j=l.length:=by omega
  subst this
  refine Qa ?_
  rw [ZJ]
  unfold Qw.l1
  rw [Za Zs,Zb,if_neg (by simp)]
  rfl
 | t+1,j,ht,hj=>by
  have hjl : j < l.length:=by omega
  have hlt : (j : Int) < l.length:=by omega
  have hg:=List.getElem?_eq_getElem hjl
  generalize l[j]=x at hg
  have x1:=ha.ix (i:=j) (by simpa using hjl) .i64 X
  have x2:=ha.ldx (i:=j) (v:=strv x) (by rw [List.getElem?_map,hg];rfl)
  have x3:=hc.ix (i:=j) (by simpa using hjl) .i64 X
  have x4:=hc.ldx (i:=j) (v:=strv x) (by rw [List.getElem?_map,hg];rfl)
  have q0 : bop .str .neq (strv x) (strv x) X=some (.bool false,X):=by rw [ZfO];simp
  refine (ZL ?_).trans (ZvC hu ha hc t (j+1) (by omega) (by omega))
  rw [ZJ]
  unfold Qw.l1
  rw [Za Zs,Zb,if_pos (by simpa using hlt),Za x1,Za x2,Za x3,Za x4,Za q0,Zb,if_neg (by simp),Za ZF,Jd (by omega)]
  rfl
theorem ZDH {a c : Value} {l : List Tx} (hu : l.length≤1000) (ha : Sl X a (l.map strv)) (hc : Sl X c (l.map strv)) : R (n+1) YA [a,c] X=some (.bool true,X):=by
 have e:=ZvC (n:=n) hu ha hc l.length 0 (by omega) (by omega)
 have e : Zi (c4 (Qw.l1 (R n))) [a,c,iv l.length,.int .i64 0] X=_:=e
 have h1:=ha.len (H':=X)
 have h2:=hc.len (H':=X)
 rw [List.length_map] at h1 h2
 rw [R,Zgj rfl]
 unfold Qw
 rw [Za h1,Za h2,Za Zl,Zb,if_neg (by simp),Za h1,QG e,ZI]
 rfl
theorem ZBE {e : Int} {a c : Value} {l : List Tx} (hu : l.length≤1000) (ha : Sl X a (l.map strv)) (hc : Sl X c (l.map strv)) (h1 : oneCell a=true) (h2 : oneCell c=true) : ∃ X',R (n+2) ZcM [.agg #[iv e,a],.agg #[iv e,c]] X=some (.bool true,X')∧HLe X X':=by
 have a1 : alc 1 (.agg #[iv e,a]) X=some (pt X.length,X++[.cells [iv e,a] 1 false false]):=by
  unfold alc Zr9
  rw [if_pos (by simp [Value.cells,oneCell,h1] <;> exact h1)]
  rfl
 have k1 : HLe X (X++[Ze.cells [iv e,a] 1 false false]):=.app _ _
 have c1 : (X++[Ze.cells [iv e,a] 1 false false])[X.length]?=some (.cells [iv e,a] 1 false false):=Zp
 generalize X++[Ze.cells [iv e,a] 1 false false]=X1 at a1 k1 c1
 have a2 : alc 1 (.agg #[iv e,c]) X1=some (pt X1.length,X1++[.cells [iv e,c] 1 false false]):=by
  unfold alc Zr9
  rw [if_pos (by simp [Value.cells,oneCell,h2] <;> exact h2)]
  rfl
 have k2 : HLe X1 (X1++[Ze.cells [iv e,c] 1 false false]):=.app _ _
 have c2 : (X1++[Ze.cells [iv e,c] 1 false false])[X1.length]?=some (.cells [iv e,c] 1 false false):=Zp
 have d1:=k2 _ _ c1
 generalize X1++[Ze.cells [iv e,c] 1 false false]=X2 at a2 k2 c2 d1
 have k12:=k1.trans k2
 have e3 : R (n+1) YA [a,c] X2=_:=ZDH (n:=n) hu (ha.mono k12) (hc.mono k12)
 refine ⟨X2,?_,k12⟩
 rw [R,ZyH rfl]
 unfold Zo7
 have b1 : ld1 (pa X.length 0) X2=some (iv e,X2):=Zy (o:=0) d1 rfl
 have b2 : ld1 (pa X1.length 0) X2=some (iv e,X2):=Zy (o:=0) c2 rfl
 have q1 : bop .int .eql (iv e) (iv e) X2=some (.bool true,X2):=by rw [ZE];simp
 have q2 : bop .int .neq (iv e) (.int .i64 0) X2=some (.bool (e !=0),X2):=by rw [Zl]
 rw [Za a1,Za a2,Za Zj,Za b1,Za Zj,Za b2,Za q1,ZX,Zk,Za Zj,Zk,Za b1,Zk,Za q2,Qi,ZJ]
 cases he : e !=0 with
 | true=>
  rw [Za (show gate (.bool true) false 5 _ X2=some ([QK,QK,QK,QK,QK],X2) from rfl),QF,ZX,Zk,Za Zm,Qi,Jy,Za Zm]
  rfl
 | false=>
  rw [ZX,Zk,Za (show fa 1 (pt X.length) X2=some (pa X.length 1,X2) from rfl),Zk,Za (Zy (o:=1) d1 rfl),Zk,Za (show fa 1 (pt X1.length) X2=some (pa X1.length 1,X2) from rfl),Zk,Za (Zy (o:=1) c2 rfl),Zk,Za e3,Qi,QF,ZX,Zk,Za Zm,Qi,Jy,Za Zm]
  rfl
theorem ZwA {rows : List QI} {i : Nat} {r : QI} (h8 : rows.length=8) (hi : i < 8) (hr : rows[i]?=some r) : (rows.take i++ZaL.drop i).set i r=rows.take (i+1)++ZaL.drop (i+1):=by
 have hl : (rows.take i).length=i:=by rw [List.length_take];omega
 have ht : ZaL.length=8:=rfl
 rw [List.set_append_right _ _ (by omega),hl,Nat.sub_self,List.drop_eq_getElem_cons (l:=ZaL) (i:=i) (by omega),List.set_cons_zero,List.take_add_one,hr,List.append_assoc]
 rfl
theorem Tab.ixI {c t : Nat} (hc : c < 8) : WO 8 3 (pa t 0) (iv c) X=some (pa t (c * 3),X):=by
 rw [QM,if_pos ⟨by omega,by omega⟩]
 simp
theorem Zwr {rows : List QI} {lvs : List Value} {fr : List Nat} {t u : Nat} (h : Tab H0 t rows lvs fr) (hu : H0.length≤u) : ∀ (k i : Nat) (X : Zd) (lvs' : List Value) (fr' : List Nat),8 - i=k→i≤8→HLe H0 X→Tab X u (rows.take i++ZaL.drop i) lvs' fr'→(∀ j∈fr',H0.length≤j)→
  ∃ X' lvs'' fr'',Zi (c3 (Yk.l1 (R (n+2)))) [pt u,.agg (QQ rows lvs).toArray,iv i] X=some (.ext 0 [pt u],X')∧Tab X' u rows lvs'' fr''∧HLe H0 X'∧∀ j∈fr'',H0.length≤j
 | 0,i,X,lvs',fr',ht,hi,hle,h2,hf=>by
  have : i=8:=by omega
  subst this
  refine ⟨X,lvs',fr',Qa ?_,?_,hle,hf⟩
  ·rw [ZR]
   unfold Yk.l1
   rw [Za Zs,Zb,if_neg (by decide)]
   rfl
  ·have : rows.take 8++ZaL.drop 8=rows:=by rw [List.take_of_length_le (by rw [h.n8];omega)];simp [ZaL]
   rwa [this] at h2
 | k+1,i,X,lvs',fr',ht,hi,hle,h2,hf=>by
  have hi8 : i < 8:=by omega
  have hlt : (i : Int) < 8:=by omega
  obtain ⟨row,lv,hr,hl⟩:=h.row hi8
  have hx:=h.txt i row lv hr hl
  have q0 : ixv true 8 3 (.agg (QQ rows lvs).toArray) (iv i) X=some (.agg (Q4 row lv).toArray,X):=by
   unfold ixv
   simp only
   rw [if_pos ⟨by omega,hlt⟩]
   unfold prt
   simp only [cond_true]
   have:=Zgs hr hl
   rw [show ((i : Int).toNat)=i by omega,List.extract_toArray]
   rw [List.extract_eq_take_drop]
   rw [show i * 3+3 - i * 3=3 by omega,this]
  have z1 : ∀ K : Value→M Out,bind (alc 1 (.agg #[.int .u64 0,.int .i64 0,.slice none 0 0])) (fun q=>bind (stA 3 q (.agg (Q4 row lv).toArray)) fun _=>K q) X=K (pt X.length) (X++[.cells (Q4 row lv) 1 false false]):=fun K=>ZaF (n:=3) (zs:=[.int .u64 0,.int .i64 0,.slice none 0 0]) (r:=Q4 row lv) rfl rfl rfl (by unfold Q4;rw [List.all_cons,List.all_cons,List.all_cons,hx.one];rfl)
  have k1 : HLe X (X++[Ze.cells (Q4 row lv) 1 false false]):=.app _ _
  have c1 : (X++[Ze.cells (Q4 row lv) 1 false false])[X.length]?=some (.cells (Q4 row lv) 1 false false):=Zp
  generalize X++[Ze.cells (Q4 row lv) 1 false false]=X1 at z1 k1 c1
  have h3:=hle.trans k1
  obtain ⟨v,q,X2,e2,r2,k2,o2⟩:=ZpM (n:=n) (e:=row.e) (hx.sl.mono h3) hx.few hx.one
  have n1:=k1.len
  have n0:=h3.len
  have hle2:=h3.trans k2
  have h4:=(h2.hle k1).hle k2
  have c2:=k2 _ _ c1
  have l1 : ld1 (pa X.length 0) X1=some (.int .u64 row.num,X1):=Zy (o:=0) c1 rfl
  have l2 : ld1 (pa X.length 0) X2=some (.int .u64 row.num,X2):=Zy (o:=0) c2 rfl
  have hb : bld (.agg #[.int .u64 0,.int .i64 0,.slice none 0 0]) [(0,1,.int .u64 row.num),(1,2,.agg #[iv row.e,v])] X2=some (.agg #[.int .u64 row.num,iv row.e,v],X2):=by
   rw [JG]
   rfl
  have hlen:=Ze7 h4.n8 h4.l8
  have hkeep : KG row.e row.l=row.l:=by
   unfold KG
   split
   ·rfl
   ·rename_i hne
    exact (h.err row (List.mem_of_getElem? hr) (fun h0=>hne (by rw [h0];rfl))).symm
  have s3 : stA 3 (pa u (i * 3)) (.agg #[.int .u64 row.num,iv row.e,v]) X2=some (undef,X2.set u (.cells (QQ ((rows.take i++ZaL.drop i).set i ⟨row.num,row.e,KG row.e row.l⟩) (lvs'.set i v)) 1 false false)):=by
   have:=ZxL (vs:=Q4 ⟨row.num,row.e,KG row.e row.l⟩ v) (o:=i * 3) (k:=3) h4.cell (by rw [hlen];omega) rfl (by unfold Q4;rw [List.all_cons,List.all_cons,List.all_cons,r2.one.1];rfl)
   rw [ZxP h4.n8 h4.l8 hi8] at this
   exact this
  have hul : u < X.length:=h2.lt _ h2.t
  have uq : u∉q:=fun hh=>by have:=o2 _ hh;omega
  have h5:=h4.put (m:=row.num) (e:=row.e) hi8 r2 hx.few uq (Z8 h4.cell) (by simp) (fun j hj=>List.getElem?_set_ne (fun e=>hj e.symm))
  rw [hkeep,ZwA h.n8 hi8 hr] at h5
  have k5 : HLe H0 (X2.set u (.cells (QQ ((rows.take i++ZaL.drop i).set i ⟨row.num,row.e,KG row.e row.l⟩) (lvs'.set i v)) 1 false false)):=hle2.put hu
  rw [hkeep,ZwA h.n8 hi8 hr] at s3 k5
  generalize X2.set u (.cells (QQ (rows.take (i+1)++ZaL.drop (i+1)) (lvs'.set i v)) 1 false false)=X3 at s3 h5 k5
  obtain ⟨X4,lvs4,fr4,e4,h6,k6,o6⟩:=Zwr h hu k (i+1) X3 _ _ (by omega) (by omega) k5 h5 (fun j hj=>by
   rcases List.mem_append.1 hj with h1 | h1
   ·exact hf j h1
   ·have:=o2 _ h1;omega)
  refine ⟨X4,lvs4,fr4,(ZL ?_).trans e4,h6,k6,o6⟩
  rw [ZR]
  unfold Yk.l1
  rw [Za Zs,Zb,if_pos (by simpa using hlt),Za q0,z1,Za Zj,Za l1,Za (show fa 1 (pt X.length) X1=some (pa X.length 1,X1) from rfl),Za (show ldA 2 (pa X.length 1) X1=some (.agg #[iv row.e,lv],X1) from Zng (o:=1) (k:=2) c1 (by simp [Q4])),Za Zg,Za Zj,Za e2,Za l2,QY,Za hb,Za (Tab.ixI hi8),Za s3,Za ZF,Jd (by omega)]
  rfl
theorem Zxh {rows : List QI} {lvs : List Value} {fr : List Nat} {t : Nat} (h : Tab X t rows lvs fr) : ∃ X' lvs' fr',R (n+3) ZbY [pt t] X=some (pt X.length,X')∧Tab X' X.length rows lvs' fr'∧HLe X X'∧∀ j∈fr',X.length≤j:=by
 have e1 : R (n+2) ZbR [] X=_:=Zro (n:=n+1)
 have t1 : Tab (X++[.cells (QQ ZaL (List.replicate 8 (.slice none 0 0))) 1 false false]) X.length ZaL (List.replicate 8 (.slice none 0 0)) [X.length]:=ZxW (by simp) (by simp)
 have k1 : HLe X (X++[.cells (QQ ZaL (List.replicate 8 (.slice none 0 0))) 1 false false]):=.app _ _
 generalize X++[.cells (QQ ZaL (List.replicate 8 (.slice none 0 0))) 1 false false]=X1 at e1 t1 k1
 obtain ⟨X2,lvs2,fr2,e2,h2,k2,o2⟩:=Zwr (n:=n) h (Nat.le_refl _) 8 0 X1 _ _ rfl (by omega) k1 t1 (by simp)
 have e2 : Zi (c3 (Yk.l1 (R (n+2)))) [pt X.length,.agg (QQ rows lvs).toArray,.int .i64 0] X1=_:=e2
 have hl : ldA 24 (pa t 0) X1=some (.agg (QQ rows lvs).toArray,X1):=by
  have hn:=Ze7 h.n8 h.l8
  rw [Zng (k1 _ _ h.cell) (by omega),List.drop_zero,List.take_of_length_le (by omega)]
 refine ⟨X2,lvs2,fr2,?_,h2,k2,o2⟩
 rw [R,ZmE rfl]
 unfold Yk
 rw [Za e1,Za Zg,Za Zj,Za hl,QG e2,ZI,Jy]
 rfl
theorem ZB9 (h : HO X p D T B) : ∃ X' t lvs' fr',R (n+4) Ya [pt p.h] X=some (pt t,X')∧Tab X' t T lvs' fr'∧HLe X X'∧∀ j∈fr',X.length≤j:=by
 obtain ⟨X',lvs',fr',e1,h1,k1,o1⟩:=Zxh (n:=n) h.tab
 refine ⟨X',X.length,lvs',fr',?_,h1,k1,o1⟩
 rw [R,Zny rfl]
 unfold Ze8
 rw [Za Zg,Za (show fa 2 (pa p.h 0) X=some (pa p.h 2,X) from rfl),Za (Zy h.cell rfl),Za e1]
 rfl
theorem ZCf (h : HO X p D T B) (hs : r.cl≠255) (hj : judgeS T r.cl r.num≠3) : ∃ X',R (n+4) KE [pt p.h,.agg r.cells.toArray] X=some (.bool false,X')∧HLe X X':=by
 have a1:=ZxX r X
 have k1 : HLe X (X++[Ze.cells r.cells 1 false false]):=.app _ _
 have c1 : (X++[Ze.cells r.cells 1 false false])[X.length]?=some (.cells r.cells 1 false false):=Zp
 generalize X++[Ze.cells r.cells 1 false false]=X1 at a1 k1 c1
 have H1:=h.hle k1
 refine ⟨X1,?_,k1⟩
 rw [R,ZjK rfl]
 unfold ZcP
 rw [Za a1,Za Zg,Za (show fa 1 (pa p.h 0) X1=some (pa p.h 1,X1) from rfl),Za (Zy H1.cell rfl),Za (H1.dir.nv X1)]
 have q3 : bop .int .neq (.int .u8 r.cl) (.int .u8 255) X1=some (.bool true,X1):=by
  rw [Zl]
  have hq : ((r.cl : Int) !=255)=true:=by rw [bne_iff_ne];omega
  rw [hq]
 have ej : R (n+3) J0 [pt p.t,.int .u8 r.cl,.int .u64 r.num] X1=some (iv (judgeS T r.cl r.num),X1):=Zss H1.tab
 have qj : bop .int .eql (iv (judgeS T r.cl r.num)) (.int .i64 3) X1=some (.bool false,X1):=by
  rw [ZE]
  have hq : ((judgeS T r.cl r.num : Int)==3)=false:=by rw [beq_eq_false_iff_ne];omega
  rw [hq]
 have l0 : ld1 (pa X.length 0) X1=some (.int .u8 r.cl,X1):=Zy (o:=0) c1 rfl
 have l1 : ld1 (pa X.length 1) X1=some (.int .u64 r.num,X1):=Zy (o:=1) c1 rfl
 have l2 : ld1 (pa p.h 2) X1=some (pt p.t,X1):=Zy (o:=2) H1.cell rfl
 cases hv : decide (ZiV D=1) with
 | false=>
  rfl
 | true=>
  rw [Zaf,Za Zj,Zaf,Za l0,Zaf,Za q3,Za Zm]
  simp only [cond_true]
  rw [Zaf,Qi,Zaf,Za Zg,Zaf,Za (show fa 2 (pa p.h 0) X1=some (pa p.h 2,X1) from rfl),Zaf,Za l2,Zaf,Za Zj,Zaf,Za l0,Zaf,Za (show fa 1 (pt X.length) X1=some (pa X.length 1,X1) from rfl),Zaf,Za l1,Zaf,Za ej,Zaf,Za qj,Za Zm]
  rfl
end Go.Proofs.YtgfbgfafajiehaaGreatDoor.A

namespace Go.Proofs.YtgfbgfafajiehaaGreatDoor.A
set_option linter.unusedVariables false
set_option linter.unusedSimpArgs false
open Go.Proofs Go.Proofs.YtgfbgfafajiehaaGreatDoor
variable {X X' Y H0 : Zd} {n : Nat} {p p' : HP} {D D' : QS} {T : List QI} {B : List Nat} {r : YY} {rs : List YY} {sl : Value}
theorem Zsm {c m : Nat} (h8 : T.length=8) : judgeS T c m=3↔c < 8∧ZjT T c < m∧m≤1099511627776:=by
 unfold judgeS ZjT
 by_cases hc : c < 8
 ·have hg:=List.getElem?_eq_getElem (l:=T) (i:=c) (by omega)
  rw [hg]
  simp only
  split
  ·rename_i h1
   constructor
   ·intro h;cases h
   ·intro h;omega
  ·split
   ·constructor
    ·intro h;cases h
    ·intro h;omega
   ·split
    ·constructor
     ·intro h;cases h
     ·intro h;omega
    ·constructor
     ·intro h;omega
     ·intro h;rfl
 ·rw [if_pos (by omega)]
  constructor
  ·intro h;cases h
  ·intro h;omega
theorem Ztb {a last : Nat} {K : Value→M Out} (hc : X[a]?=some (.cells r.cells 1 false false)) :
  bind (bop .int .lss (.int .u8 r.cl) (Value.int .u8 8)) (fun v50x33=>
 bind (gate v50x33 true 4 (bind (fa 1 (pt a)) fun v52x34=>
 bind (ld1 v52x34) fun v53x35=>
 bind (bop .int .gtr v53x35 (.int .u64 last)) fun v55x36=>
 ret [v52x34,v53x35,.int .u64 last,v55x36])) (c4 fun _ _ _ q37_3=>
 bind (pick v50x33 q37_3 (Value.bool false)) fun v56x38=>
 bind (gate v56x38 true 3 (bind (fa 1 (pt a)) fun v58x39=>
 bind (ld1 v58x39) fun v59x40=>
 bind (bop .int .leq v59x40 (Value.int .u64 1099511627776)) fun v60x41=>
 ret [v58x39,v59x40,v60x41])) (c3 fun _ _ q42_2=>
 bind (pick v56x38 q42_2 (Value.bool false)) fun v61x43=>K v61x43))) X=K (.bool (decide (r.cl < 8∧last < r.num∧r.num≤1099511627776))) X:=by
 have q1 : bop .int .lss (.int .u8 r.cl) (.int .u8 8) X=some (.bool (decide (r.cl < 8)),X):=by
  have hq : decide ((r.cl : Int) < 8)=decide (r.cl < 8):=by rw [decide_eq_decide];omega
  rw [Zs,hq]
 have q2 : bop .int .gtr (.int .u64 r.num) (.int .u64 last) X=some (.bool (decide (last < r.num)),X):=by
  have hq : decide ((r.num : Int) > last)=decide (last < r.num):=by rw [decide_eq_decide];omega
  rw [Qg,hq]
 have q3 : bop .int .leq (.int .u64 r.num) (.int .u64 1099511627776) X=some (.bool (decide (r.num≤1099511627776)),X):=by
  have hq : decide ((r.num : Int)≤1099511627776)=decide (r.num≤1099511627776):=by rw [decide_eq_decide];omega
  rw [Jg,hq]
 have l1 : ld1 (pa a 1) X=some (.int .u64 r.num,X):=Zy (o:=1) hc rfl
 have y1 : fa 1 (pt a) X=some (pa a 1,X):=rfl
 rw [Za q1]
 by_cases h1 : r.cl < 8
 ·rw [decide_eq_true h1,ZX,Zk,Za y1,Zk,Za l1,Zk,Za q2,Qi,ZJ,Za Zm]
  simp only [cond_true]
  by_cases h2 : last < r.num
  ·rw [decide_eq_true h2,ZX,Zk,Za y1,Zk,Za l1,Zk,Za q3,Qi,ZR,Za Zm]
   simp only [cond_true]
   have : decide (r.num≤1099511627776)=decide (r.cl < 8∧last < r.num∧r.num≤1099511627776):=by rw [decide_eq_decide];exact ⟨fun h=>⟨h1,h2,h⟩,fun h=>h.2.2⟩
   rw [this]
  ·rw [decide_eq_false h2,Za (show gate (.bool false) true 3 _ X=some ([QK,QK,QK],X) from rfl),ZR,Za Zm,decide_eq_false (fun h=>h2 h.2.1)]
   rfl
 ·rw [decide_eq_false h1,Za (show gate (.bool false) true 4 _ X=some ([QK,QK,QK,QK],X) from rfl),ZJ,Za Zm]
  simp only [cond_false]
  rw [Za (show gate (.bool false) true 3 _ X=some ([QK,QK,QK],X) from rfl),ZR,Za Zm,decide_eq_false (fun h=>h1 h.1)]
  rfl
theorem HO.boxI {j : Nat} {q : IntKind} {i : Int} {vs : List Value} {es : Nat} {g ro : Bool} {x : Ze} (h : HO X p D T B) (hj : X[j]?=some (.cells (.int q i :: vs) es g ro)) (ho : j∉p.own) (hf : j∉p.fr) : HO (X.set j x) p D T B:=by
 have hs : Zu [j] X [j] (X.set j x):=⟨by simp,fun a ha hn=>List.getElem?_set_ne (fun e=>hn (by simp [e])),fun a ha=>.inl ha⟩
 refine h.step hs (fun a ha e=>?_) (fun a ha e=>?_) (fun e=>?_) (fun a ha e=>?_)
 ·rw [List.mem_singleton.1 e] at ha;exact ho ha
 ·rw [List.mem_singleton.1 e] at ha
  obtain ⟨_,_,_,_,_,hc⟩:=h.dir.first _ ha
  rw [hj] at hc
  cases hc
 ·have e:=List.mem_singleton.1 e
  obtain ⟨sl,h1,h2⟩:=h.brd.at_
  rw [e,hj] at h1
  obtain ⟨sa,sn,sc,hS⟩:=h2.isS
  rw [hS] at h1
  cases h1
 ·rw [List.mem_singleton.1 e] at ha;exact hf ha
theorem ZCK {k : Nat} {m : M (List Value)} {β : Type} {f : List Value→M β} : bind (gate (.bool false) true k m) f X=f (List.replicate k QK) X:=rfl
theorem ZCd {a b en : Nat} {v : Value} {l : List Tx} {z1 z2 z3 : Value} (hG : GlH H0) (hle : HLe H0 X) (h0 : H0.length≤a) (h : HO X p D T B) (hok : ZjR r) (hs : r.cl < 8) (hc : p.c≤1000) (ha : r.o.a.length≤65535) (hb : r.o.b.length≤65535) (hA : X[a]?=some (.cells r.cells 1 false false)) (ao : a∉p.own) (af : a∉p.fr) (hB : X[b]?=some (.cells [iv en,v] 1 false false)) (hv : Sl X v (l.map strv)) (ov : oneCell v=true) (few : l.length≤1000) (hT : T[r.cl]?=some ⟨r.num,en,l⟩) (hn0 : 1≤r.num) (hn1 : r.num≤1099511627776) :
  ∃ X',bind (R (n+19) ZT [pt p.h]) (fun v77x55=>
 bind (b2s v77x55) fun v78x56=>
 bind (ldA 7 (pt a)) fun v81x57=>
 bind (R (n+19) QO [pt p.h,v81x57]) fun v82x58=>
 bind (Zn v82x58 0) fun v83x59=>
 bind (Zn v82x58 1) fun v84x60=>
 bind (alc 1 (.agg #[.int .i64 0,.slice none 0 0])) fun v10x61=>
 bind (stA 2 v10x61 v83x59) fun _=>
 bind (gate v84x60 false 4 (bind (ldA 2 (pt b)) fun v87x62=>
 bind (ldA 2 v10x61) fun v88x63=>
 bind (R (n+19) ZcM [v87x62,v88x63]) fun v89x64=>
 bind (uop .not v89x64) fun v90x65=>
 ret [v87x62,v88x63,v89x64,v90x65])) (c4 fun _ _ _ q66_3=>
 bind (pick v84x60 (Value.bool true) q66_3) fun v91x67=>
 bind (gate v91x67 false 5 (bind (R (n+19) ZT [pt p.h]) fun v94x68=>
 bind (b2s v94x68) fun v95x69=>
 bind (bop .str .neq v95x69 v78x56) fun v97x70=>
 ret [pt p.h,v94x68,v95x69,v78x56,v97x70])) (c5 fun _ _ _ _ q71_4=>
 bind (pick v91x67 (Value.bool true) q71_4) fun v98x72=>
 cnd v98x72
 (ret (Out.ret (Value.bool false)))
 (bind (fa 1 (pt a)) fun v99x73=>
 bind (ld1 v99x73) fun v100x74=>
 bind (bop .int .sub v100x74 (Value.int .u64 1)) fun v101x75=>
 bind (fa 1 (pt a)) fun v102x76=>
 bind (st1 v102x76 v101x75) fun _=>
 bind (ldA 7 (pt a)) fun v105x77=>
 bind (R (n+19) QO [pt p.h,v105x77]) fun v106x78=>
 bind (Zn v106x78 0) fun v107x79=>
 bind (Zn v106x78 1) fun v108x80=>
 bind (alc 1 (.agg #[.int .i64 0,.slice none 0 0])) fun v12x81=>
 bind (stA 2 v12x81 v107x79) fun _=>
 bind (fa 1 (pt a)) fun v109x82=>
 bind (ld1 v109x82) fun v110x83=>
 bind (bop .int .gtr v110x83 (Value.int .u64 0)) fun v111x84=>
 bind (gate v111x84 true 2 (ret [v108x80,v108x80])) (c2 fun _ q85_1=>
 bind (gate q85_1 false 3 (bind (fa 0 v12x81) fun v115x86=>
 bind (ld1 v115x86) fun v116x87=>
 bind (bop .int .neq v116x87 (Value.int .i64 12)) fun v117x88=>
 ret [v115x86,v116x87,v117x88])) (c3 fun _ _ q89_2=>
 bind (gate v111x84 true 1 (bind (pick q85_1 (Value.bool true) q89_2) fun v118x90=>
 ret [v118x90])) (c1 fun q91_0=>
 bind (pick v111x84 q91_0 (Value.bool false)) fun v119x92=>
 bind (gate v119x92 false 5 (bind (R (n+19) ZT [pt p.h]) fun v122x93=>
 bind (b2s v122x93) fun v123x94=>
 bind (bop .str .neq v123x94 v78x56) fun v125x95=>
 ret [pt p.h,v122x93,v123x94,v78x56,v125x95])) (c5 fun _ _ _ _ q96_4=>
 bind (pick v119x92 (Value.bool true) q96_4) fun v126x97=>
 bind (gate v126x97 false 3 (bind (ldA 7 (pt a)) fun v129x98=>
 bind (R (n+19) KE [pt p.h,v129x98]) fun v130x99=>
 ret [pt p.h,v129x98,v130x99])) (c3 fun _ _ q100_2=>
 bind (pick v126x97 (Value.bool true) q100_2) fun v131x101=>
 cnd v131x101
 (ret (Out.ret (Value.bool false)))
 (ret (Out.nrm [pt p.h,z1,z2,z3]))))))))))) X=some (Out.nrm [pt p.h,z1,z2,z3],X')∧HO X' p D T B∧HLe H0 X':=by
 have same : ∀ {Z : Zd},bop .str .neq (strv (Zl3 D)) (strv (Zl3 D)) Z=some (.bool false,Z):=by
  intro Z
  rw [ZfO]
  simp
 have hn8 : T.length=8:=h.tab.n8
 have j2 : judgeS T r.cl r.num=2:=by
  unfold judgeS
  rw [if_neg (by omega),hT]
  simp
 obtain ⟨v1,X1,e1,s1,k1⟩:=Zm2 (n:=n+6) h
 have e1 : R (n+19) ZT [pt p.h] X=_:=e1
 have A1:=k1 _ _ hA
 obtain ⟨v2,l2,e2,dn2,p2,D2,T2,X2,f2,s2,o2,m2,_,H2,st2,_,_,_,lk2,_,out2⟩:=ZmN (n:=n) (r:=r) (hG.le (hle.trans k1)) (h.hle k1) hc hok (by omega) (ZwE (n:=n) ha hb hok.o)
 obtain ⟨k2,rfl⟩:=lk2 (by omega)
 have hag : Zb9 T r.cl r.num=(en,l):=by
  unfold Zb9
  rw [j2]
  simp only
  rw [hT]
 have hx2 : dn2=false∧D2=D∧T2=T∧e2=en∧l2=l:=by
  rcases out2 with ⟨_,h1,h2,h3,h2e,h2l⟩ | ⟨j3,_⟩
  ·rw [hag] at h2e h2l
   exact ⟨h1,h2,h3,h2e,h2l⟩
  ·omega
 obtain ⟨rfl,rfl,rfl,rfl,rfl⟩:=hx2
 have z2' : ∀ K : Value→M Out,bind (alc 1 (.agg #[.int .i64 0,.slice none 0 0])) (fun q=>bind (stA 2 q (.agg #[iv en,v2])) fun _=>K q) X2=K (pt X2.length) (X2++[.cells [iv en,v2] 1 false false]):=fun K=>ZaF (n:=2) (zs:=[.int .i64 0,.slice none 0 0]) (r:=[iv en,v2]) rfl rfl rfl (by rw [List.all_cons,List.all_cons,o2];rfl)
 have k3 : HLe X2 (X2++[Ze.cells [iv en,v2] 1 false false]):=.app _ _
 have c3 : (X2++[Ze.cells [iv en,v2] 1 false false])[X2.length]?=some (.cells [iv en,v2] 1 false false):=Zp
 generalize X2++[Ze.cells [iv en,v2] 1 false false]=X3 at z2' k3 c3
 have k13:=(k1.trans k2).trans k3
 obtain ⟨X4,f4,k4⟩:=ZBE (n:=n+17) (e:=(en : Int)) few (hv.mono k13) (s2.mono k3) ov o2
 have f4 : R (n+19) ZcM [.agg #[iv en,v],.agg #[iv en,v2]] X3=_:=f4
 have k14:=k13.trans k4
 obtain ⟨v5,X5,e5,s5,k5⟩:=Zm2 (n:=n+6) (H2.hle (k3.trans k4))
 have e5 : R (n+19) ZT [pt p2.h] X4=_:=e5
 have k15:=k14.trans k5
 have A5:=k15 _ _ hA
 have H5:=h.hle k15
 have qs : bop .int .sub (.int .u64 r.num) (Value.int .u64 1) X5=some (.int .u64 ((r.num - 1 : Nat) : Int),X5):=by
  have:=hok.num
  rw [Q0,ZyL]
  have hq : ((r.num : Int) - 1) % 18446744073709551616=((r.num - 1 : Nat) : Int):=by omega
  rw [hq]
 have g5 : st1 (pa a 1) (.int .u64 ((r.num - 1 : Nat) : Int)) X5=some (undef,X5.set a (.cells (YY.cells ⟨r.cl,r.num - 1,r.o⟩) 1 false false)):=ZeS (o:=1) A5 (by simp [YY.cells]) rfl
 have A6 : (X5.set a (.cells (YY.cells ⟨r.cl,r.num - 1,r.o⟩) 1 false false))[a]?=some (.cells (YY.cells ⟨r.cl,r.num - 1,r.o⟩) 1 false false):=Z8 A5
 have H6 : HO (X5.set a (.cells (YY.cells ⟨r.cl,r.num - 1,r.o⟩) 1 false false)) p2 D2 T2 B:=H5.boxI A5 ao af
 have k6 : HLe H0 (X5.set a (.cells (YY.cells ⟨r.cl,r.num - 1,r.o⟩) 1 false false)):=(hle.trans k15).put h0
 generalize hr' : (⟨r.cl,r.num - 1,r.o⟩ : YY)=r' at g5 A6 H6 k6
 have hcl : r'.cl=r.cl:=by rw [← hr']
 have hnum : r'.num=r.num - 1:=by rw [← hr']
 have ho' : r'.o=r.o:=by rw [← hr']
 have hok' : ZjR r':=⟨by rw [hcl];exact hok.cl,by rw [hnum];have:=hok.num;omega,by rw [ho'];exact hok.o⟩
 generalize X5.set a (.cells r'.cells 1 false false)=X6 at g5 A6 H6 k6
 have j7 : judgeS T2 r'.cl r'.num=if r'.num=0 then 0 else 1:=by
  unfold judgeS
  rw [hcl]
  by_cases hz : r'.num=0
  ·rw [if_pos (.inr (.inl hz)),if_pos hz]
  ·rw [if_neg (by omega),if_neg hz,hT]
   simp only
   rw [if_pos (by omega)]
 have j7' : judgeS T2 r'.cl r'.num≠3:=by
  rw [j7]
  split <;> omega
 obtain ⟨v7,l7,e7,dn7,p7,D7,T7,X7,f7,s7,o7,m7,_,H7,st7,_,_,_,lk7,_,out7⟩:=ZmN (n:=n) (r:=r') (hG.le k6) H6 hc hok' (by omega) (ZwE (n:=n) (by rw [ho'];exact ha) (by rw [ho'];exact hb) (by rw [ho'];exact hok.o))
 obtain ⟨k7,rfl⟩:=lk7 j7'
 have hx7 : dn7=false∧D7=D2∧T7=T2∧e7=(Zb9 T2 r'.cl r'.num).1:=by
  rcases out7 with ⟨_,h1,h2,h3,h7e,_⟩ | ⟨j3,_⟩
  ·exact ⟨h1,h2,h3,h7e⟩
  ·exact absurd j3 j7'
 obtain ⟨rfl,rfl,rfl,h7e⟩:=hx7
 have z7 : ∀ K : Value→M Out,bind (alc 1 (.agg #[.int .i64 0,.slice none 0 0])) (fun q=>bind (stA 2 q (.agg #[iv e7,v7])) fun _=>K q) X7=K (pt X7.length) (X7++[.cells [iv e7,v7] 1 false false]):=fun K=>ZaF (n:=2) (zs:=[.int .i64 0,.slice none 0 0]) (r:=[iv e7,v7]) rfl rfl rfl (by rw [List.all_cons,List.all_cons,o7];rfl)
 have k8 : HLe X7 (X7++[Ze.cells [iv e7,v7] 1 false false]):=.app _ _
 have c8 : (X7++[Ze.cells [iv e7,v7] 1 false false])[X7.length]?=some (.cells [iv e7,v7] 1 false false):=Zp
 generalize X7++[Ze.cells [iv e7,v7] 1 false false]=X8 at z7 k8 c8
 have A8:=k8 _ _ (k7 _ _ A6)
 have H8:=H7.hle k8
 have q8 : bop .int .gtr (.int .u64 r'.num) (Value.int .u64 0) X8=some (.bool (decide (r'.num≠0)),X8):=by
  have hq : decide ((r'.num : Int) > 0)=decide (r'.num≠0):=by rw [decide_eq_decide];omega
  rw [Qg,hq]
 obtain ⟨v9,X9,e9,s9,k9⟩:=Zm2 (n:=n+6) H8
 have e9 : R (n+19) ZT [pt p7.h] X8=_:=e9
 have A9:=k9 _ _ A8
 obtain ⟨X10,e10,k10⟩:=ZCf (n:=n+15) (r:=r') (H8.hle k9) (by omega) j7'
 have e10 : R (n+19) KE [pt p7.h,.agg r'.cells.toArray] X9=_:=e10
 refine ⟨X10,?_,(H8.hle k9).hle k10,(((k6.trans k7).trans k8).trans k9).trans k10⟩
 rw [Za e1,Za (Ziz s1),Za (Qe (n:=7) A1 rfl),Za f2,Za Zq,Za Zr,z2',ZX,Zk,Za (Qe (n:=2) (k13 _ _ hB) rfl),Zk,Za (Qe (n:=2) c3 rfl),Zk,Za f4,Zk,Za ZM,Qi,ZJ,Za Zm]
 rw [show cond false (Value.bool true) (Value.bool (!true))=.bool false from rfl,ZX,Zk,Za e5,Zk,Za (Ziz s5),Zk,Za same,Qi,QF,Za Zm]
 rw [show cond false (Value.bool true) (Value.bool false)=.bool false from rfl,Zb,if_neg (by simp),Za (show fa 1 (pt a) X5=some (pa a 1,X5) from rfl),Za (Zy (o:=1) A5 rfl),Za qs,Za (show fa 1 (pt a) X5=some (pa a 1,X5) from rfl),Za g5,Za (Qe (n:=7) A6 rfl),Za f7,Za Zq,Za Zr,z7,Za (show fa 1 (pt a) X8=some (pa a 1,X8) from rfl),Za (Zy (o:=1) A8 rfl),Za q8]
 by_cases hz : r'.num=0
 ·rw [decide_eq_false (show ¬ (r'.num≠0) from fun h=>h hz),ZCK]
  simp only [List.replicate]
  rw [QB,ZE7]
  simp only [List.replicate]
  rw [ZR,ZCK]
  simp only [List.replicate]
  rw [Jy,Za Zm]
  rw [show cond false QK (Value.bool false)=.bool false from rfl,ZX,Zk,Za e9,Zk,Za (Ziz s9),Zk,Za same,Qi,QF,Za Zm]
  rw [show cond false (Value.bool true) (Value.bool false)=.bool false from rfl,ZX,Zk,Za (Qe (n:=7) A9 rfl),Zk,Za e10,Qi,ZR,Za Zm]
  rfl
 ·have he7 : e7=12:=by
   rw [if_neg hz] at j7
   rw [h7e]
   unfold Zb9
   rw [j7]
   rfl
  have q9 : bop .int .neq (iv e7) (Value.int .i64 12) X8=some (.bool false,X8):=by
   rw [Zl,he7]
   rfl
  rw [decide_eq_true hz,ZX,Qi,QB,ZX,Zk,Za Zj,Zk,Za (Zy (o:=0) c8 rfl),Zk,Za q9,Qi,ZR,ZX,Zk,Za Zm,Qi,Jy,Za Zm]
  rw [show cond true (cond false (Value.bool true) (Value.bool false)) (Value.bool false)=.bool false from rfl,ZX,Zk,Za e9,Zk,Za (Ziz s9),Zk,Za same,Qi,QF,Za Zm]
  rw [show cond false (Value.bool true) (Value.bool false)=.bool false from rfl,ZX,Zk,Za (Qe (n:=7) A9 rfl),Zk,Za e10,Qi,ZR,Za Zm]
  rfl
end Go.Proofs.YtgfbgfafajiehaaGreatDoor.A

namespace Go.Proofs.YtgfbgfafajiehaaGreatDoor.A
set_option linter.unusedVariables false
set_option linter.unusedSimpArgs false
open Go.Proofs Go.Proofs.YtgfbgfafajiehaaGreatDoor
variable {X X' Y H0 : Zd} {n : Nat} {p p' : HP} {D D' : QS} {T : List QI} {B : List Nat} {r : YY} {rs : List YY} {sl : Value}
def Zgv (H : Zd) (sl : Value) (rs : List YY) : Prop:=SlN 7 H sl (rs.map YY.cells)∧∀ r∈rs,ZjR r
theorem Zgv.len (h : Zgv X sl rs) : ZC sl X'=some (iv rs.length,X'):=by
 have:=h.1.len (H':=X')
 rwa [List.length_map] at this
theorem Zgv.mono (h : Zgv X sl rs) (hl : HLe X X') : Zgv X' sl rs:=⟨h.1.mono hl,h.2⟩
theorem Zgv.fetch {β : Type} {k : Value→M β} (h : Zgv X sl rs) {j : Nat} (hj : rs[j]?=some r) :
  bind (ixa 7 sl (iv j)) (fun p=>bind (ldA 7 p) fun v=>bind (alc 1 (.agg #[.int .u8 0,.int .u64 0,.int .u8 0,.string ⟨#[]⟩,.string ⟨#[]⟩,.int .u8 0,.int .u8 0])) fun q=>bind (stA 7 q v) fun _=>k q) X=k (pt X.length) (X++[.cells r.cells 1 false false]):=by
 have hr : (rs.map YY.cells)[j]?=some r.cells:=by rw [List.getElem?_map,hj];rfl
 rw [h.1.fetch hr (by omega) .i64]
 exact ZaF (n:=7) (zs:=[.int .u8 0,.int .u64 0,.int .u8 0,.string ⟨#[]⟩,.string ⟨#[]⟩,.int .u8 0,.int .u8 0]) (r:=r.cells) rfl rfl rfl rfl
def Zko (r : YY) : Bool:=decide (r.o.a.length≤100) && decide (r.o.b.length≤100)
end Go.Proofs.YtgfbgfafajiehaaGreatDoor.A

namespace Go.Proofs.YtgfbgfafajiehaaGreatDoor.A
set_option linter.unusedVariables false
set_option linter.unusedSimpArgs false
open Go.Proofs Go.Proofs.YtgfbgfafajiehaaGreatDoor
variable {X X' Y H H0 : Zd} {n : Nat} {rs : List YY} {sl : Value}
theorem Zyu (h : Zgv H0 sl rs) (hn : rs.length≤9223372036854775807) : ∀ (t j : Nat) {X : Zd},rs.length - j=t→j≤rs.length→HLe H0 X→
  ∃ X',Zi (c4 (Ww.l1 (R n))) [sl,sl,iv rs.length,iv j] X=some (if (rs.drop j).all Zko then .ext 0 [sl] else .ret (.bool false),X')∧HLe H0 X'
 | 0,j,X,ht,hj,hle=>by
  have : j=rs.length:=by omega
  subst this
  rw [List.drop_length]
  refine ⟨X,Qa ?_,hle⟩
  rw [ZJ]
  unfold Ww.l1
  rw [Za Zs,Zb,if_neg (by simp)]
  rfl
 | t+1,j,X,ht,hj,hle=>by
  have hjn : j < rs.length:=by omega
  have hlt : (j : Int) < rs.length:=by omega
  have hja:=List.getElem?_eq_getElem hjn
  have hd:=List.drop_eq_getElem_cons hjn
  generalize rs[j]=a at hja hd
  have g1 : (X++[Ze.cells a.cells 1 false false])[X.length]?=some (.cells a.cells 1 false false):=Zp
  have l1 : ld1 (pa X.length 3) (X++[.cells a.cells 1 false false])=some (strv a.o.a,X++[.cells a.cells 1 false false]):=Zy g1 rfl
  have l2 : ld1 (pa X.length 4) (X++[.cells a.cells 1 false false])=some (strv a.o.b,X++[.cells a.cells 1 false false]):=Zy g1 rfl
  have hf:=fun {K : Value→M Out}=>(h.mono hle).fetch (k:=K) hja
  have k1:=hle.trans (HLe.app X [.cells a.cells 1 false false])
  generalize X++[Ze.cells a.cells 1 false false]=X1 at g1 l1 l2 k1 hf
  obtain ⟨X2,e2,k2⟩:=Zyu h hn t (j+1) (by omega) (by omega) k1
  have y2 : fa 2 (pt X.length) X1=some (pa X.length 2,X1):=rfl
  have y3 : fa 1 (pa X.length 2) X1=some (pa X.length 3,X1):=rfl
  have y4 : fa 2 (pa X.length 2) X1=some (pa X.length 4,X1):=rfl
  rw [hd,List.all_cons]
  have hb : Ww.l1 (R n) sl sl (iv rs.length) (iv j) X=some (if Zko a then .nrm [sl,sl,iv rs.length,iv ((j+1 : Nat) : Int)] else .ret (.bool false),X1):=by
   unfold Ww.l1
   rw [Za Zs,Zb,if_pos (by simpa using hlt),hf,Za y2,Za y3,Za l1,Za ZY,Za Qg]
   unfold Zko
   by_cases h1 : a.o.a.length≤100
   ·have h1' : ¬ ((a.o.a.length : Int) > 100):=by omega
    rw [decide_eq_false h1',ZX,Zk,Za y2,Zk,Za y4,Zk,Za l2,Zk,Za ZY,Zk,Za Qg,Qi,QF,Za Zm,decide_eq_true h1]
    simp only [cond_false]
    by_cases h2 : a.o.b.length≤100
    ·have h2' : ¬ ((a.o.b.length : Int) > 100):=by omega
     rw [decide_eq_false h2',Zb,if_neg (by simp),Za ZF,Jd (by omega),decide_eq_true h2]
     rfl
    ·have h2' : ((a.o.b.length : Int) > 100):=by omega
     rw [decide_eq_true h2',Zb,if_pos rfl,decide_eq_false h2]
     rfl
   ·have h1' : ((a.o.a.length : Int) > 100):=by omega
    rw [decide_eq_true h1',Za (g_r.trans (if_neg (by simp)))]
    simp only [List.replicate]
    rw [QF,Za Zm]
    simp only [cond_true]
    rw [Zb,if_pos rfl,decide_eq_false h1]
    rfl
  cases hfa : Zko a
  ·rw [hfa] at hb
   exact ⟨X1,Yu hb,k1⟩
  ·rw [hfa] at hb
   exact ⟨X2,(ZL hb).trans e2,k2⟩
theorem ZE3 (h : Zgv H sl rs) (hn : rs.length≤9223372036854775807) : ∃ H',R (n+1) ZaY [sl] H=some (.bool (rs.all Zko && decide (rs.length≤60)),H')∧HLe H H':=by
 obtain ⟨H',e,k⟩:=Zyu (n:=n) h hn rs.length 0 (by omega) (by omega) (.refl _)
 rw [List.drop_zero] at e
 have e : Zi (c4 (Ww.l1 (R n))) [sl,sl,iv rs.length,.int .i64 0] H=_:=e
 refine ⟨H',?_,k⟩
 rw [R,ZvK rfl]
 unfold Ww
 rw [Za h.len]
 cases hf : rs.all Zko
 ·rw [hf] at e
  rw [Ky e];rfl
 ·rw [hf] at e
  rw [QG e,ZI,Jy,Za h.len,Za Jg]
  simp [ret,decide_eq_decide]
  omega
theorem ZzR (h : GlH H) : R (n+1) Yl [] H=some (.bool true,H):=by
 have : R (n+1) Yl []=Zh4 gl (.bool true) []:=rfl
 rw [this,ZCX h]
abbrev opT : Ty:=.struct (.pair (.int .u8) (.pair .str (.pair .str (.pair (.int .u8) (.pair (.int .u8) .unit)))))
abbrev reqT : Ty:=.struct (.pair (.int .u8) (.pair (.int .u64) (.pair opT .unit)))
theorem Zi3 {q : IntKind} {z : Int} (hz : 0≤z) : Value.int q z=Value.int q (z.toNat : Nat):=by rw [Int.toNat_of_nonneg hz]
theorem ZEH {x : reqT.den} {H : Zd} {cs : List Value} (hw : reqT.wf x) (h : Rd reqT x H cs) : ∃ r : YY,cs=r.cells∧ZjR r:=by
 obtain ⟨cl,num,⟨kd,a,b,nd,rl,u1⟩,u2⟩:=x
 obtain ⟨h1,h2,⟨h3,h4,h5,h6,h7,h8⟩,h9⟩:=h
 obtain ⟨w1,w2,⟨w3,w4,w5,w6,w7,_⟩,_⟩:=hw
 have h1 : cs.take 1=[.int .u8 cl]:=h1
 have h2 : (cs.drop 1).take 1=[.int .u64 num]:=h2
 have h3 : (((cs.drop 1).drop 1).take 5).take 1=[.int .u8 kd]:=h3
 have h4 : ((((cs.drop 1).drop 1).take 5).drop 1).take 1=[.string a]:=h4
 have h5 : (((((cs.drop 1).drop 1).take 5).drop 1).drop 1).take 1=[.string b]:=h5
 have h6 : ((((((cs.drop 1).drop 1).take 5).drop 1).drop 1).drop 1).take 1=[.int .u8 nd]:=h6
 have h7 : (((((((cs.drop 1).drop 1).take 5).drop 1).drop 1).drop 1).drop 1).take 1=[.int .u8 rl]:=h7
 have h9 : ((cs.drop 1).drop 1).drop 5=[]:=h9
 match cs,h1,h2,h3,h4,h5,h6,h7,h9 with
 | [c1,c2,c3,c4,c5,c6,c7],h1,h2,h3,h4,h5,h6,h7,_=>
  have w1:=Zuy w1
  have w3:=Zuy w3
  have w6:=Zuy w6
  have w7:=Zuy w7
  have w2:=ZEm w2
  have e1 : c1=.int .u8 cl:=by simpa using h1
  have e2 : c2=.int .u64 num:=by simpa using h2
  have e3 : c3=.int .u8 kd:=by simpa using h3
  have e4 : c4=.string a:=by simpa using h4
  have e5 : c5=.string b:=by simpa using h5
  have e6 : c6=.int .u8 nd:=by simpa using h6
  have e7 : c7=.int .u8 rl:=by simpa using h7
  refine ⟨⟨Int.toNat cl,Int.toNat num,⟨Int.toNat kd,(ByteArray.data a).toList,(ByteArray.data b).toList,Int.toNat nd,Int.toNat rl⟩⟩,?_,?_⟩
  ·rw [e1,e2,e3,e4,e5,e6,e7,Zi3 w1.1,Zi3 w2.1,Zi3 w3.1,Zi3 w6.1,Zi3 w7.1,Zx2 a,Zx2 b]
   rfl
  ·have k8 : ∀ z : Int,0≤z∧z≤255→z.toNat≤255:=fun z hz=>by omega
   have k64 : ∀ z : Int,0≤z∧z≤18446744073709551615→z.toNat < 18446744073709551616:=fun z hz=>by omega
   exact ⟨k8 cl w1,k64 num w2,⟨k8 kd w3,k8 nd w6,k8 rl w7⟩⟩
theorem ZDw {x : (Ty.slc reqT).den} {H : Zd} {v : Value} (hwf : (Ty.slc reqT).wf x) (h : Rd (.slc reqT) x H [v]) : ∃ rs,Zgv H v rs∧rs.length≤9223372036854775807:=by
 obtain ⟨rows,h1,h2,h3,h4⟩:=ZEf hwf h
 obtain ⟨rs,h5,h6⟩:=ZqH (f:=YY.cells) (Q:=fun _ a=>ZjR a) (rows:=rows) fun r hr=>by
  obtain ⟨y,hy,hr⟩:=h2 r hr
  exact ZEH hy hr
 subst h5
 exact ⟨rs,⟨h1,h6⟩,by simpa using h3⟩
end Go.Proofs.YtgfbgfafajiehaaGreatDoor.A

namespace Go.Proofs.YtgfbgfafajiehaaGreatDoor.A
set_option linter.unusedVariables false
set_option linter.unusedSimpArgs false
open Go.Proofs Go.Proofs.YtgfbgfafajiehaaGreatDoor
variable {X X' Y H H0 : Zd} {n : Nat} {p p' : HP} {D D' : QS} {T : List QI} {B : List Nat} {r : YY} {rs : List YY} {sl : Value}
def ZbX (r : YY) : YY:=if r.cl=255 then ⟨0,r.num,r.o⟩ else r
theorem ZxG (hG : GlH H0) (hR : Zgv H0 sl rs) (hF : rs.all Zko=true) (hn : rs.length≤60) : ∀ (t i : Nat) (p : HP) (D : QS) (T : List QI) (B : List Nat) (X : Zd),rs.length - i=t→i≤rs.length→HLe H0 X→HO X p D T B→(∀ j∈p.own,H0.length≤j)→p.c+t≤1000→
  ∃ X',Zi (c4 (JI.l1 (R (n+19)))) [pt p.h,sl,iv rs.length,iv i] X=some (.ext 0 [],X')
 | 0,i,p,D,T,B,X,ht,hi,hle,h,ho,hc=>by
  have : i=rs.length:=by omega
  subst this
  refine ⟨X,Qa ?_⟩
  rw [ZJ]
  unfold JI.l1
  rw [Za Zs,Zb,if_neg (by simp)]
  rfl
 | t+1,i,p,D,T,B,X,ht,hi,hle,h,ho,hc=>by
  have hil : i < rs.length:=by omega
  have hlt : (i : Int) < rs.length:=by omega
  have hja:=List.getElem?_eq_getElem hil
  have hm : rs[i]∈rs:=List.getElem_mem hil
  generalize rs[i]=r0 at hja hm
  have hok0:=hR.2 r0 hm
  have hfew : r0.o.a.length≤100∧r0.o.b.length≤100:=by simpa [Zko] using List.all_eq_true.1 hF r0 hm
  have hf:=fun {K : Value→M Out}=>(hR.mono hle).fetch (k:=K) hja
  have c0 : (X++[Ze.cells r0.cells 1 false false])[X.length]?=some (.cells r0.cells 1 false false):=Zp
  have hcnd : ∀ (z1 z2 z3 z4 : Value),cnd (.bool ((r0.cl : Int)==255)) (bind (fa 0 (pt X.length)) fun v32x17=>bind (st1 v32x17 (Value.int .u8 0)) fun _=>ret (Out.nrm [z1,pt X.length,z2,z3,z4])) (ret (.nrm [z1,pt X.length,z2,z3,z4])) (X++[Ze.cells r0.cells 1 false false])=some (.nrm [z1,pt X.length,z2,z3,z4],X++[Ze.cells (ZbX r0).cells 1 false false]):=by
   intro z1 z2 z3 z4
   unfold ZbX
   by_cases h255 : r0.cl=255
   ·rw [if_pos h255,h255,show (((255 : Nat) : Int)==255)=true from rfl,Zb,if_pos rfl,Za Zj]
    have hw : st1 (pa X.length 0) (.int .u8 0) (X++[Ze.cells r0.cells 1 false false])=some (undef,(X++[Ze.cells r0.cells 1 false false]).set X.length (.cells (YY.cells ⟨0,r0.num,r0.o⟩) 1 false false)):=ZeS (o:=0) c0 (by simp [YY.cells]) rfl
    rw [Za hw,List.set_append_right _ _ (Nat.le_refl _),Nat.sub_self]
    rfl
   ·rw [if_neg h255]
    have hq : ((r0.cl : Int)==255)=false:=by rw [beq_eq_false_iff_ne];omega
    rw [hq,Zb,if_neg (by simp)]
    rfl
  have l0 : ld1 (pa X.length 0) (X++[Ze.cells r0.cells 1 false false])=some (.int .u8 r0.cl,X++[Ze.cells r0.cells 1 false false]):=Zy (o:=0) c0 rfl
  have hok : ZjR (ZbX r0):=by
   unfold ZbX
   split
   ·exact ⟨Nat.zero_le _,hok0.num,hok0.o⟩
   ·exact hok0
  have ho' : (ZbX r0).o=r0.o:=by
   unfold ZbX
   split <;> rfl
  have hs : (ZbX r0).cl≠255:=by
   unfold ZbX
   split
   ·exact fun e=>Nat.noConfusion e
   ·assumption
  rw [← ho'] at hfew
  generalize ZbX r0=r at hcnd hok ho' hs hfew
  have k1 : HLe X (X++[Ze.cells r.cells 1 false false]):=.app _ _
  have c1 : (X++[Ze.cells r.cells 1 false false])[X.length]?=some (.cells r.cells 1 false false):=Zp
  generalize X++[Ze.cells r.cells 1 false false]=X1 at hcnd k1 c1
  generalize X++[Ze.cells r0.cells 1 false false]=X0 at hf hcnd l0
  have H1:=h.hle k1
  obtain ⟨X2,t2,lvs2,fr2,e2,T2,k2,_⟩:=ZB9 (n:=n+15) H1
  have e2 : R (n+19) Ya [pt p.h] X1=_:=e2
  have c2:=k2 _ _ c1
  have e2' : R (n+19) YR [pt t2,.int .u8 r.cl] X2=_:=ZEo (n:=n+18) T2
  obtain ⟨v3,X3,e3,s3,k3⟩:=Zm2 (n:=n+6) (H1.hle k2)
  have e3 : R (n+19) ZT [pt p.h] X2=_:=e3
  have k13:=k2.trans k3
  have H3:=H1.hle k13
  have c3:=k3 _ _ c2
  have hle3:=(hle.trans k1).trans k13
  obtain ⟨v,l,e,dn,p',D',T',X4,e4,s4,o4,n4,_,H4,st,hh,hc',hno,lk,hfr,out⟩:=ZmN (n:=n) (r:=r) (hG.le hle3) H3 (by omega) hok hs (ZwE (n:=n) (by omega) (by omega) hok.o)
  have n13:=k13.len
  have hX1 : X.length < X1.length:=Z6 c1
  have own1 : X.length∉p.own:=fun hx=>by have:=h.lt _ hx;omega
  have fr1 : X.length∉p.fr:=fun hx=>by have:=h.tab.lt _ hx;omega
  have own4 : X.length∉p'.own:=fun hx=>by
   rcases st.own _ hx with h1 | h1
   ·exact own1 h1
   ·omega
  have fr4 : X.length∉p'.fr:=fun hx=>by
   rcases hfr _ hx with h1 | h1
   ·exact fr1 h1
   ·omega
  have d4:=st.get c3 own1
  have z4 : ∀ K : Value→M Out,bind (alc 1 (.agg #[.int .i64 0,.slice none 0 0])) (fun q=>bind (stA 2 q (.agg #[iv e,v])) fun _=>K q) X4=K (pt X4.length) (X4++[.cells [iv e,v] 1 false false]):=fun K=>ZaF (n:=2) (zs:=[.int .i64 0,.slice none 0 0]) (r:=[iv e,v]) rfl rfl rfl (by rw [List.all_cons,List.all_cons,o4];rfl)
  have k4 : HLe X4 (X4++[Ze.cells [iv e,v] 1 false false]):=.app _ _
  have c6 : (X4++[Ze.cells [iv e,v] 1 false false])[X4.length]?=some (.cells [iv e,v] 1 false false):=Zp
  generalize X4++[Ze.cells [iv e,v] 1 false false]=X5 at z4 k4 c6
  have d5:=k4 _ _ d4
  have H5:=H4.hle k4
  have m4:=hle3.more st ho
  have hle5:=m4.1.trans k4
  have lb : ld1 (pa X.length 0) X5=some (.int .u8 r.cl,X5):=Zy (o:=0) d5 rfl
  have hXl : H0.length≤X.length:=hle.len
  have nx : ∀ {Z : Zd},HO Z p' D' T' B→HLe H0 Z→p'.c+t≤1000→∃ X',Zi (c4 (JI.l1 (R (n+19)))) [pt p.h,sl,iv rs.length,iv ((i+1 : Nat) : Int)] Z=some (.ext 0 [],X'):=fun {Z} hZ hz hcc=>by
   have:=ZxG hG hR hF hn t (i+1) p' D' T' B Z (by omega) (by omega) hz hZ m4.2 hcc
   rwa [hh] at this
  have h8:=H3.tab.n8
  rcases out with ⟨hj,rfl,rfl,rfl,_,_⟩ | ⟨hj,rfl,_,en,rfl,hT⟩
  ·have hd : decide (r.cl < 8∧ZjT T' r.cl < r.num∧r.num≤1099511627776)=false:=decide_eq_false fun hx=>hj ((Zsm h8).2 hx)
   obtain ⟨v6,X6,e6,s6,k6⟩:=Zm2 (n:=n+6) H5
   have e6 : R (n+19) ZT [pt p.h] X5=some (v6,X6):=by rw [← hh];exact e6
   have hne : bop .str .neq (strv (Zl3 D')) (strv (Zl3 D')) X6=some (.bool false,X6):=by rw [ZfO];simp
   obtain ⟨X',e7⟩:=nx (H5.hle k6) (hle5.trans k6) (by omega)
   refine ⟨X',(ZL ?_).trans e7⟩
   rw [ZJ]
   unfold JI.l1
   rw [Za Zs,Zb,if_pos (by simpa using hlt)]
   refine (ZK (vs:=[pt p.h,sl,iv rs.length,iv i]) (H':=X6) ?_).trans ?_
   ·rw [hf,Za Zj,Za l0,Za ZE]
    refine (ZK (vs:=[pt p.h,pt X.length,sl,iv rs.length,iv i]) (H':=X1) (hcnd _ _ _ _)).trans ?_
    rw [QF,Za Zj,Za (Zy (o:=0) c1 rfl),Za e2,Za (Zy (o:=0) c2 rfl),QY,Za e2',Za e3,Za (Ziz s3),Za (Qe (n:=7) c3 rfl),Za e4,Za Zq,Za Zr,z4,Za Zj,Za lb]
    refine (Ztb d5).trans ?_
    rw [hd,Za (show bop .bool .neq (.bool false) (.bool false) X5=some (.bool false,X5) from rfl),ZX,Zk,Za ZM,Qi,ZR,show (!false)=true from rfl,ZX,Zk,Za e6,Zk,Za (Ziz s6),Zk,Za hne,Qi,QF,ZX,Zk,Za Zm,Qi,Jy,Za Zm]
    rw [show cond false (Value.bool true) (cond true (Value.bool false) (Value.bool false))=.bool false from rfl,Zb,if_neg (by simp),Za ZM,Zb,if_pos (show (!false)=true from rfl)]
    rfl
   ·rw [ZJ,Za ZF,Jd (by omega)]
    rfl
  ·have hd : decide (r.cl < 8∧ZjT T r.cl < r.num∧r.num≤1099511627776)=true:=decide_eq_true ((Zsm h8).1 hj)
   obtain ⟨q1,q2,q3⟩:=(Zsm h8).1 hj
   have hTr : T'[r.cl]?=some ⟨r.num,en,l⟩:=by
    rw [hT]
    exact List.getElem?_set_self (by omega)
   obtain ⟨X6,e6,H6,hle6⟩:=ZCd (n:=n) (a:=X.length) (b:=X4.length) (r:=r) (z1:=sl) (z2:=iv rs.length) (z3:=iv i) hG hle5 hXl H5 hok q1 (by omega) (by omega) (by omega) d5 own4 fr4 c6 (s4.mono k4) o4 n4 hTr (by omega) q3
   rw [hh] at e6
   obtain ⟨X',e7⟩:=nx H6 hle6 (by omega)
   refine ⟨X',(ZL ?_).trans e7⟩
   rw [ZJ]
   unfold JI.l1
   rw [Za Zs,Zb,if_pos (by simpa using hlt)]
   refine (ZK (vs:=[pt p.h,sl,iv rs.length,iv i]) (H':=X6) ?_).trans ?_
   ·rw [hf,Za Zj,Za l0,Za ZE]
    refine (ZK (vs:=[pt p.h,pt X.length,sl,iv rs.length,iv i]) (H':=X1) (hcnd _ _ _ _)).trans ?_
    rw [QF,Za Zj,Za (Zy (o:=0) c1 rfl),Za e2,Za (Zy (o:=0) c2 rfl),QY,Za e2',Za e3,Za (Ziz s3),Za (Qe (n:=7) c3 rfl),Za e4,Za Zq,Za Zr,z4,Za Zj,Za lb]
    refine (Ztb d5).trans ?_
    rw [hd,Za (show bop .bool .neq (.bool true) (.bool true) X5=some (.bool false,X5) from rfl),ZX,Zk,Za ZM,Qi,ZR,show (!true)=false from rfl,Za (show gate (.bool false) true 5 _ X5=some ([QK,QK,QK,QK,QK],X5) from rfl),QF,ZX,Zk,Za Zm,Qi,Jy,Za Zm]
    rw [show cond false (Value.bool true) (cond false QK (Value.bool false))=.bool false from rfl,Zb,if_neg (by simp),Za ZM,Zb,if_neg (by simp)]
    exact e6
   ·rw [ZJ,Za ZF,Jd (by omega)]
    rfl
theorem Zz1 (hG : GlH H) (h : Zgv H sl rs) (hn : rs.length≤9223372036854775807) : ∃ H',R (n+20) Zcu [sl] H=some (.bool true,H'):=by
 obtain ⟨H1,e1,k1⟩:=ZE3 (n:=n+18) h hn
 have e1 : R (n+19) ZaY [sl] H=_:=e1
 have e0 : ∀ Z,GlH Z→R (n+19) Yl [] Z=some (.bool true,Z):=fun Z hZ=>ZzR (n:=n+18) hZ
 rw [R,Znw rfl]
 unfold JI
 rw [Za (e0 H hG),Za ZM,Bool.not_true,ZX,Zk,Za e1,Zk,Za ZM,Qi,ZR,Za Zm]
 simp only [cond_false]
 cases hf : rs.all Zko && decide (rs.length≤60) with
 | false=>
  rw [Zb,if_pos (show (!false)=true from rfl),Za (e0 H1 (hG.le k1))]
  exact ⟨H1,rfl⟩
 | true=>
  rw [Bool.and_eq_true,decide_eq_true_iff] at hf
  obtain ⟨p,H2,e2,ho,k2,o2,c2⟩:=ZEL (n:=n+17) (X:=H1)
  have e2 : R (n+19) ZcQ [.int .i64 3] H1=_:=e2
  obtain ⟨H3,e3⟩:=ZxG (n:=n) hG h hf.1 hf.2 rs.length 0 p (.old []) ZaL [0,0,0] H2 (by omega) (by omega) (k1.trans k2) ho (fun j hj=>Nat.le_trans k1.len (o2 j hj)) (by omega)
  have e3 : Zi (c4 (JI.l1 (R (n+19)))) [pt p.h,sl,iv rs.length,.int .i64 0] H2=_:=e3
  rw [Zb,if_neg (by simp),Za e2,Za h.len,QG e3,ZI]
  exact ⟨H3,rfl⟩
theorem law_HostOnce : ∀ (xs : Ins [.slc reqT]) (H : Zd) (vs : List Value),ZuB [.slc reqT] xs→H.take gl.length=gl→ZiH [.slc reqT] xs H vs→∃ n H',R n Zcu vs H=some (.bool true,H'):=by
 intro xs H vs hwf hg hrd
 obtain ⟨l,_⟩:=xs
 obtain ⟨hl,_⟩:=hwf
 obtain ⟨c1,_,rfl,hc1,h1,rfl⟩:=hrd
 obtain ⟨a,rfl⟩ : ∃ a,c1=[a]:=by
  match c1,hc1 with
  | [a],_=>exact ⟨a,rfl⟩
 obtain ⟨rs,hA,hn⟩:=ZDw hl h1
 obtain ⟨H',e⟩:=Zz1 (n:=0) hg hA hn
 exact ⟨20,H',e⟩
end Go.Proofs.YtgfbgfafajiehaaGreatDoor.A

