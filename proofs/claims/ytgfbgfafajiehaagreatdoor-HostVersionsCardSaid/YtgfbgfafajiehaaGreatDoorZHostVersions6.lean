/- What the law HostVersions needs (part 6). -/
import Derived.Test.YtgfbgfafajiehaaGreatDoorZHostVersions5
namespace Go.Proofs.YtgfbgfafajiehaaGreatDoor.A
set_option linter.unusedVariables false
set_option linter.unusedSimpArgs false
open Go.Proofs Go.Proofs.YtgfbgfafajiehaaGreatDoor
def ZaK (e : Ent) : Nat:=if Zs e.1 then (if Kq e.2 then 0 else 4) else 10
def ZcQ (e : Ent) : Zt:=⟨e.1,e.2,[],false,.slice none 0 0,[]⟩
def Zvu (e : Ent) : List UInt8:=txt e.1++txt e.2
def ZjS (m : List Ent) : List UInt8:=(m.map Zvu).flatten
def ZBq (m : List Ent) : List UInt8:=le 1 1++(le m.length 2++ZjS m)
theorem Zr7 (e : Ent) (H : Zd) : (ZcQ e).ok H:=.inl ⟨rfl,.inl rfl⟩
theorem ZzP (e : Ent) : ZrW (ZcQ e)=ZaK e:=by
 unfold ZrW ZaK
 have : Zmm (ZcQ e)=true:=rfl
 rw [this]
 show (if Zs e.1=true then if Kq e.2=true then _ else _ else _)=_
 split
 ·split <;> rfl
 ·rfl
theorem Zm4 {k : List UInt8} (h : Kq k=true) : k.length≤12:=by
 unfold Kq at h
 simp only [Bool.and_eq_true,decide_eq_true_eq] at h
 exact h.1.2
theorem Zju {e : Ent} : ZaK e=0↔Zs e.1=true∧Kq e.2=true:=by
 unfold ZaK
 cases Zs e.1 <;> cases Kq e.2 <;> simp
theorem Zbz {s : List UInt8} : (txt s).length=s.length+2:=by unfold txt;rw [List.length_append,K4];omega
theorem Zu1 {e : Ent} (h : ZaK e=0) : (Zvu e).length≤28:=by
 have h1:=KE (Zju.1 h).1
 have h2:=Zm4 (Zju.1 h).2
 unfold Zvu
 rw [List.length_append,Zbz,Zbz];omega
section
variable {H X : Zd} {n p d b : Nat} {sl x v : Value} {own q : List Nat} {bs : List UInt8} {m : List Ent} {e : Ent}
theorem ZEe (he : ZaK e=0) (hb : bs.length≤100000000) (h : Wtr H p bs own) : ∃ H' own',R (n+7) Zd7 [pt p,iv 1,.agg (usr e).toArray] H=some (.bool true,H')∧Wtr H' p (bs++Zvu e) own'∧Zr (p :: own) H (p :: own') H':=by
 have h1:=KE (Zju.1 he).1
 have h2:=Zm4 (Zju.1 he).2
 have e1 : alc 1 (.agg (usr e).toArray) H=some (pt H.length,H++[.cells (usr e) 1 false false]):=ZCs (Zr7 e H)
 have k1 : HLe H (H++[.cells (usr e) 1 false false]):=.app _ _
 have c1 : (H++[Ze.cells (usr e) 1 false false])[H.length]?=some (.cells (usr e) 1 false false):=Zv
 have hne : H.length∉p :: own:=fun hm=>Nat.lt_irrefl _ (h.lt _ hm)
 generalize H++[Ze.cells (usr e) 1 false false]=X1 at e1 k1 c1
 generalize H.length=w at e1 c1 hne
 have d1 : ldA 5 (pt w) X1=some (.agg (usr e).toArray,X1):=Qt (n:=5) c1 rfl
 obtain ⟨X2,e2,k2⟩:=Zw9 (n:=n) (Zr7 e X1)
 rw [ZzP,he] at e2
 have e2 : R (n+6) Ws [iv 1,.agg (usr e).toArray] X1=some (iv 0,X2):=e2
 have c2:=k2 _ _ c1
 have q1 : bop .int .neq (iv 0) (.int .i64 0) X2=some (.bool false,X2):=by rw [Zk];rfl
 have a0 : ld1 (pa w 0) X2=some (strv e.1,X2):=ZC c2 rfl
 have a1 : ld1 (pa w 1) X2=some (strv e.2,X2):=ZC c2 rfl
 have w2:=(h.hle k1).hle k2
 obtain ⟨X3,q3,e3,w3,s3⟩:=Zd5 (n:=n+3) (s:=e.1) (by omega) (by omega) w2
 have e3 : R (n+6) Qg [pt p,strv e.1] X2=_:=e3
 have b1 : ld1 (pa w 1) X3=some (strv e.2,X3):=ZC (s3.get c2 hne) rfl
 obtain ⟨X4,q4,e4,w4,s4⟩:=Zd5 (n:=n+3) (s:=e.2) (by omega) (by rw [List.length_append,Zbz];omega) w3
 have e4 : R (n+6) Qg [pt p,strv e.2] X3=_:=e4
 have q2 : bop .int .eql (iv 1) (.int .i64 2) X4=some (.bool false,X4):=by rw [ZE];rfl
 rw [List.append_assoc] at w4
 refine ⟨X4,q4,?_,w4,((k1.trans k2).step.more (by simp) (fun j hj=>.inl hj)).trans (s3.trans s4)⟩
 rw [R,ZoA rfl]
 unfold Zip
 rw [Za e1,Za d1,Za e2,Za q1,Zb,if_neg (by simp),Za Zj,Za a0,Za Zj,Za a1,Za e3,Za b1,QG,Za e4,Za q2]
 refine (ZO (vs:=[]) (H':=X4) ?_).trans ?_
 ·rw [Zb,if_neg (by simp)];rfl
 ·rfl
theorem JG.users (hr : JG 5 H v (m.map usr) q) : Users H v (m.map ZcQ):=
 ⟨by have h:=hr.rd;rw [List.map_map];exact h,fun u hu=>by obtain ⟨e,_,rfl⟩:=List.mem_map.1 hu;exact Zr7 e H⟩
theorem ZA2 (hA : m.length≤1000) (hE : ∀ e∈m,ZaK e=0) : ∀ (t k : Nat) (bs : List UInt8) (own : List Nat) (X : Zd),m.length - k=t→k≤m.length→JG 5 X v (m.map usr) q→(∀ j∈q,j∉p :: own)→bs.length+t * 28≤100000→Wtr X p bs own→
  ∃ X' own',Zi (c4 (Wo.l1 (R (n+7)))) [pt p,v,iv m.length,iv k] X=some (.ext 0 [pt p],X')∧Wtr X' p (bs++ZjS (m.drop k)) own'∧Zr (p :: own) X (p :: own') X'
 | 0,k,bs,own,X,ht,hk,hr,hd,hb,h=>by
  have : k=m.length:=by omega
  subst this
  rw [List.drop_length]
  refine ⟨X,own,Qc ?_,by simpa [ZjS] using h,.refl _ _⟩
  rw [ZI]
  unfold Wo.l1
  rw [Za Zu,Zb,if_neg (by simp)]
  rfl
 | t+1,k,bs,own,X,ht,hk,hr,hd,hb,h=>by
  have hkl : k < m.length:=by omega
  have hlt : (k : Int) < m.length:=by omega
  have hg:=List.getElem?_eq_getElem hkl
  have hdr:=List.drop_eq_getElem_cons hkl
  generalize m[k]=e at hg hdr
  have he:=hE e (List.mem_of_getElem? hg)
  have hrow : (m.map ZcQ)[k]?=some (ZcQ e):=by rw [List.getElem?_map,hg];rfl
  have hf:=fun {K : Value→M Out}=>(hr.users).fetch (k:=K) hrow
  have k1 : HLe X (X++[Ze.cells (usr e) 1 false false]):=.app _ _
  have c1 : (X++[Ze.cells (usr e) 1 false false])[X.length]?=some (.cells (usr e) 1 false false):=Zv
  change ∀ {K : Value→M Out},_=K _ (X++[Ze.cells (usr e) 1 false false]) at hf
  generalize X++[Ze.cells (usr e) 1 false false]=X1 at k1 c1 hf
  have d1 : ldA 5 (pt X.length) X1=some (.agg (usr e).toArray,X1):=Qt (n:=5) c1 rfl
  obtain ⟨X2,own2,e2,w2,s2⟩:=ZEe (n:=n) he (by omega) (h.hle k1)
  have hel:=Zu1 he
  have s12:=(k1.step.more (o2:=p :: own) (o2':=p :: own) (by simp) (fun j hj=>.inl hj)).trans s2
  have hr2:=hr.step s12 hd
  have hd2 : ∀ j∈q,j∉p :: own2:=fun j hj hm=>by
   rcases s12.own j hm with h1 | h1
   ·exact hd j hj h1
   ·have:=hr.lt j hj;omega
  obtain ⟨X3,own3,e3,w3,s3⟩:=ZA2 hA hE t (k+1) (bs++Zvu e) own2 X2 (by omega) (by omega) hr2 hd2 (by rw [List.length_append];omega) w2
  refine ⟨X3,own3,(ZN ?_).trans e3,?_,s12.trans s3⟩
  ·rw [ZI]
   unfold Wo.l1
   rw [Za Zu,Zb,if_pos (by simpa using hlt)]
   rw [hf,Za d1,Za e2,Za ZG,Jk (by omega)]
   rfl
  ·rw [hdr]
   unfold ZjS at w3 ⊢
   rw [List.map_cons,List.flatten_cons,← List.append_assoc]
   exact w3
theorem ZwH (h : Dir H d b m) (hE : ∀ e∈YN m,ZaK e=0) (hl : (YN m).length=m.length) : ∃ v H',R (n+8) ZdC [pt d] H=some (v,H')∧Sl H' v (u8s (ZBq (YN m)))∧HLe H H':=by
 have q0 : bop .ptr .eql (pt d) (.pointer none) H=some (.bool false,H):=Ji
 obtain ⟨z1,z2,w0⟩:=Zsc (H:=H)
 have k0 : HLe H (H++[Ze.cells [.slice none 0 0] 1 false false]):=.app _ _
 have hp0 : H.length≤H.length:=Nat.le_refl _
 generalize H++[Ze.cells [.slice none 0 0] 1 false false]=X0 at z2 w0 k0
 generalize hpp : H.length=p at z2 w0
 have hp : ∀ j∈[p],H.length≤j:=fun j hj=>by have : j=p:=(by simpa using hj);omega
 have hfew:=h.few
 obtain ⟨X1,q1,e1,w1,s1⟩:=Zhc (n:=n+5) (x:=1) (by omega) (by simp) w0
 have e1 : R (n+7) Z3 [pt p,.int .u8 1] X0=_:=e1
 have m1:=k0.more s1 hp
 have e2:=ZFp (n:=n+6) (h.hle m1.1)
 have e2 : R (n+7) ZbZ [pt d] X1=some (iv m.length,X1):=e2
 have c2 : cvi .u16 (iv m.length) X1=some (.int .u16 m.length,X1):=by rw [QC,Zye,Int.emod_eq_of_lt (by omega) (by omega)]
 obtain ⟨X2,q2,e3,w2,s2⟩:=Zqw (n:=n+5) (x:=m.length) (by omega) (by simp [le]) w1
 have e3 : R (n+7) JF [pt p,.int .u16 m.length] X1=_:=e3
 have m2:=m1.1.more s2 m1.2
 obtain ⟨av,qa,X3,e4,r4,l4,o4⟩:=ZuF (n:=n+4) (h.hle m2.1)
 have e4 : R (n+7) WJ [pt d] X2=_:=e4
 have w3:=w2.hle l4
 have hlen:=r4.rd.len (H':=X3)
 rw [List.length_map] at hlen
 have hlb : ([]++le 1 1++le m.length 2 : List UInt8).length=3:=by simp [le]
 obtain ⟨X4,q4,e5,w4,s4⟩:=ZA2 (n:=n) (m:=YN m) (by omega) hE (YN m).length 0 ([]++le 1 1++le m.length 2) q2 X3 (by omega) (by omega) r4 (fun j hj hm=>by have:=o4 j hj;have:=w2.lt j hm;omega) (by rw [hlb];omega) w3
 have e5 : Zi (c4 (Wo.l1 (R (n+7)))) [pt p,av,iv (YN m).length,.int .i64 0] X3=_:=e5
 rw [List.drop_zero] at w4
 have hbl : ([]++le 1 1++le m.length 2++ZjS (YN m) : List UInt8).length≤1000000000:=by
  have : ∀ (l : List Ent),(∀ e∈l,ZaK e=0)→(ZjS l).length≤l.length * 28:=by
   intro l
   induction l with
   | nil=>intro _;exact Nat.zero_le _
   | cons a l ih=>
    intro hh
    have h1:=Zu1 (hh a (by simp))
    have h2:=ih fun e he=>hh e (by simp [he])
    unfold ZjS at h2 ⊢
    rw [List.map_cons,List.flatten_cons,List.length_append,List.length_cons];omega
  have:=this _ hE
  rw [List.length_append,hlb];omega
 have m4:=(m2.1.trans l4).more s4 m2.2
 obtain ⟨v,qv,X5,e6,r6,l6,o6⟩:=Zps (n:=n+5) hbl w4
 have e6 : R (n+7) Jx [pt p] X4=_:=e6
 refine ⟨v,X5,?_,?_,m4.1.trans l6⟩
 ·rw [R,ZtZ rfl]
  unfold Wo
  rw [Za q0,Zb,if_neg (by simp),Za z1,Za z2,Za e1,Za e2,Za c2,Za e3,Za e4,Za hlen,QR e5,ZK,J8,Za e6]
  rfl
 ·have:=r6.rd
  unfold ZBq
  rw [hl]
  simpa [List.append_assoc] using this
end
end Go.Proofs.YtgfbgfafajiehaaGreatDoor.A
namespace Go.Proofs.YtgfbgfafajiehaaGreatDoor.A
set_option linter.unusedVariables false
set_option linter.unusedSimpArgs false
open Go.Proofs Go.Proofs.YtgfbgfafajiehaaGreatDoor
def ofN (l : List Ent) : Nat:=(ofE (l.map ZcQ)).toNat
section
variable {H X : Zd} {n p d b : Nat} {sl x v : Value} {own q : List Nat} {bs : List UInt8} {m : List Ent} {e : Ent} {s : RSt}
theorem Rdr.step {o1 o2 : List Nat} (h : Rdr H p s) (hs : Zr o1 H o2 X) (hn : ∀ j∈o1,p < j) : Rdr X p s:=by
 obtain ⟨sl,h1,h2,h3,h4⟩:=h
 refine ⟨sl,hs.get h1 fun hm=>Nat.lt_irrefl _ (hn _ hm),h2.keep fun j hj=>hs.keep j ?_ fun hm=>?_,h3,h4⟩
 ·have:=h3 j hj;have:=ZX h1;omega
 ·have:=h3 j hj;have:=hn j hm;omega
end
end Go.Proofs.YtgfbgfafajiehaaGreatDoor.A
namespace Go.Proofs.YtgfbgfafajiehaaGreatDoor.A
set_option linter.unusedVariables false
set_option linter.unusedSimpArgs false
open Go.Proofs Go.Proofs.YtgfbgfafajiehaaGreatDoor
section
variable {H0 H X : Zd} {n p d b : Nat} {u w : Zt} {us ws : List Zt} {sl a c v : Value} {bs : List UInt8} {m : List Ent}
end
end Go.Proofs.YtgfbgfafajiehaaGreatDoor.A

namespace Go.Proofs.YtgfbgfafajiehaaGreatDoor.A
set_option linter.unusedVariables false
set_option linter.unusedSimpArgs false
open Go.Proofs Go.Proofs.YtgfbgfafajiehaaGreatDoor
section
variable {H0 H X : Zd} {n p d b : Nat} {a c v : Value} {bs s : List UInt8} {β : Type} {K : Value→M β}
theorem HLe.put {H0 X : Zd} (h : HLe H0 X) {b : Nat} {o : Ze} (hb : H0.length≤b) : HLe H0 (X.set b o):=fun i v hi=>by
 have:=ZX hi
 rw [List.getElem?_set_ne (by omega)]
 exact h i v hi
theorem bx {vs : List Value} (h1 : vs.all oneCell=true) : alc 1 (.agg vs.toArray) X=some (pt X.length,X++[.cells vs 1 false false]):=Ziu h1
theorem ZDc {vs cs : List Value} {es : Nat} (hc : X[p]?=some (.cells cs es false false)) (h2 : cs.length=n) (hv : vs.length=n) (h1 : vs.all oneCell=true) :
  bind (stA n (pt p) (.agg vs.toArray)) (fun _=>bind (ldA n (pt p)) K) X=K (.agg vs.toArray) (X.set p (.cells vs es false false)):=by
 rw [Za (Zb3 hc h2 hv h1),Za (Qt (Qa hc) hv)]
end
end Go.Proofs.YtgfbgfafajiehaaGreatDoor.A

namespace Go.Proofs.YtgfbgfafajiehaaGreatDoor.A
set_option linter.unusedVariables false
set_option linter.unusedSimpArgs false
open Go.Proofs Go.Proofs.YtgfbgfafajiehaaGreatDoor
abbrev RR (s : RSt) : List Value:=[strv s.2,iv s.1]
theorem ZEZ (s : RSt) : (RR s).all oneCell=true:=rfl
section
variable {H0 H X : Zd} {n p d b : Nat} {a c v : Value} {bs : List UInt8} {β : Type} {K : Value→M β} {s : RSt}
end
end Go.Proofs.YtgfbgfafajiehaaGreatDoor.A

namespace Go.Proofs.YtgfbgfafajiehaaGreatDoor.A
set_option linter.unusedVariables false
set_option linter.unusedSimpArgs false
open Go.Proofs Go.Proofs.YtgfbgfafajiehaaGreatDoor
section
variable {H0 H X : Zd} {n p d b : Nat} {a c v : Value} {bs : List UInt8} {s : RSt} {q : List Nat}
theorem JG.us {m : List Ent} (h : JG 5 H v (m.map usr) q) : YM H v (m.map ZcQ):=h.users.s (fun u hu=>by obtain ⟨e,_,rfl⟩:=List.mem_map.1 hu;exact Nat.zero_le _)
end
end Go.Proofs.YtgfbgfafajiehaaGreatDoor.A

namespace Go.Proofs.YtgfbgfafajiehaaGreatDoor.A
set_option linter.unusedVariables false
set_option maxRecDepth 100000
set_option linter.unusedSimpArgs false
open Go.Proofs Go.Proofs.YtgfbgfafajiehaaGreatDoor
def ZlH (b : Bool) : List UInt8:=le (if b then 1 else 0) 1
def ZpL (l : List Tx) : List UInt8:=le l.length 2++(l.map txt).flatten
def Zsh (k : ZaJ) : List UInt8:=txt k.1++(txt k.2.1++(txt k.2.2.1++(ZlH k.2.2.2.1++ZpL k.2.2.2.2)))
def Zgb (l : List ZaJ) : List UInt8:=(l.map Zsh).flatten
def ZsA (K : List Tx) (ks : List ZaJ) : List UInt8:=le 2 1++(ZpL K++(le ks.length 2++Zgb ks))
def uOf (k : ZaJ) : Zt:=⟨k.1,k.2.1,k.2.2.1,k.2.2.2.1,.slice none 0 0,k.2.2.2.2⟩
def Zpv (k : ZaJ) : Nat:=(Jr (uOf k)).toNat
def ofK (ks : List ZaJ) (gs : List Tx) : Nat:=(Zbo (ks.map uOf) gs).toNat
section
variable {s : RSt} {k : ZaJ} {ks : List ZaJ} {l K : List Tx} {r t : List UInt8} {us : List Zt}
theorem ZBK (k : ZaJ) : JK (uOf k)=k:=rfl
theorem Zsr (ks : List ZaJ) : (ks.map uOf).map JK=ks:=by
 rw [List.map_map]
 exact (List.map_congr_left fun a _=>ZBK a).trans (List.map_id ks)
theorem Zpl {u : Zt} : 0≤Jr u∧Jr u≤12:=by
 unfold Jr Zgp
 repeat' split
 all_goals exact ⟨by decide,by decide⟩
theorem ZAN {u w : Zt} (h : JK u=JK w) : Jr u=Jr w:=by
 have h1 : u.nm=w.nm:=congrArg (·.1) h
 have h2 : u.hs=w.hs:=congrArg (·.2.1) h
 have h3 : u.ml=w.ml:=congrArg (·.2.2.1) h
 have h4 : u.gs=w.gs:=congrArg (·.2.2.2.2) h
 unfold Jr
 rw [h1,h2,h3,h4]
theorem Zx9 {u : Zt} : Jr u=Zpv (JK u):=by
 unfold Zpv
 rw [Int.toNat_of_nonneg Zpl.1]
 exact ZAN rfl
theorem Zqt : ∀ {us : List Zt},0≤Ya us
 | []=>Int.le_refl _
 | u :: us=>by
  unfold Ya
  split
  ·exact Zqt
  ·exact Zpl.1
theorem ZBc {gs : List Tx} {p : List Zt} {u : Zt} : 0≤Zeq gs p u:=by
 unfold Zeq
 repeat' split
 all_goals decide
theorem ZvB {gs : List Tx} : ∀ {us p : List Zt},0≤ZaD gs p us
 | [],p=>by unfold ZaD;exact Int.le_refl _
 | u :: us,p=>by
  unfold ZaD
  split
  ·exact ZvB
  ·exact ZBc
theorem ZCD : 0≤ZcT us l:=by
 unfold ZcT ZjE
 have:=Zqt (us:=us)
 repeat' split
 all_goals first | exact this | decide
theorem ZvO : 0≤Zbo us l:=by
 unfold Zbo
 split
 ·exact ZvB
 ·exact ZCD
theorem ZDM : Zbo us l=ofK (us.map JK) l:=by
 unfold ofK
 rw [Int.toNat_of_nonneg ZvO]
 exact ZB9 (Zsr _).symm
theorem ZxN {m : Tx} (h : Zdb m=true) : m.length≤20:=by
 rcases Zm3 h with h | ⟨h,_⟩
 ·rw [h];decide
 ·unfold J0 at h
  rw [Bool.and_eq_true,decide_eq_true_eq] at h
  exact h.1
structure ZqG (k : ZaJ) : Prop where
 n : k.1.length≤12
 h : k.2.1.length≤12
 m : k.2.2.1.length≤20
 g : k.2.2.2.2.length≤6
 gs : ∀ x∈k.2.2.2.2,x.length≤12
theorem ZCo (h : Zpv k=0) : ZqG k:=by
 have h0 : Jr (uOf k)=0:=by
  have:=Zpl (u:=uOf k)
  unfold Zpv at h
  omega
 obtain ⟨h1,h2,h3,h4,h5,_⟩:=Zg5 h0
 exact ⟨KE h1,Zm4 h2,ZxN h3,h4,fun x hx=>KE (List.all_eq_true.1 h5 x hx)⟩
theorem ZFn (h : ofK ks l=0) : (∀ k∈ks,Zpv k=0)∧ks.length≤12∧l.length≤6∧(∀ x∈l,x.length≤12)∧YW l=true∧l.all Zs=true:=by
 have h0 : Zbo (ks.map uOf) l=0:=by
  have:=ZvO (us:=ks.map uOf) (l:=l)
  unfold ofK at h
  omega
 have hc : ZcT (ks.map uOf) l=0:=by
  unfold Zbo at h0
  by_cases hc : ZcT (ks.map uOf) l=0
  ·exact hc
  ·rw [if_neg hc] at h0;exact h0
 obtain ⟨h1,_,h3,h4,h5,h6⟩:=ZzU hc
 rw [List.length_map] at h3
 refine ⟨fun k hk=>?_,h3,h6,fun x hx=>KE (List.all_eq_true.1 h4 x hx),h5,h4⟩
 have:=Zlx h1 (uOf k) (List.mem_map.2 ⟨k,hk,rfl⟩)
 unfold Zpv
 rw [this];rfl
theorem Zl3 {b : Nat} : ∀ {l : List Tx},(∀ x∈l,x.length≤b)→((l.map txt).flatten).length≤l.length * (b+2)
 | [],_=>by simp
 | x :: l,h=>by
  have h1:=h x (by simp)
  have h2:=Zl3 (b:=b) (l:=l) fun y hy=>h y (by simp [hy])
  rw [List.map_cons,List.flatten_cons,List.length_append,Zbz,List.length_cons,Nat.add_mul]
  omega
theorem Zpo {b : Nat} (h : ∀ x∈l,x.length≤b) : (ZpL l).length≤2+l.length * (b+2):=by
 unfold ZpL
 rw [List.length_append,K4]
 have:=Zl3 h
 omega
theorem Zqd (b : Bool) : (ZlH b).length=1:=by unfold ZlH;rw [K4]
theorem Zww (h : ZqG k) : (Zsh k).length≤137:=by
 unfold Zsh
 rw [List.length_append,List.length_append,List.length_append,List.length_append,Zbz,Zbz,Zbz,Zqd]
 have h1:=Zpo h.gs
 have h2:=h.g
 have:=h.n
 have:=h.h
 have:=h.m
 have h3 : k.2.2.2.2.length * (12+2)≤6 * (12+2):=Nat.mul_le_mul_right _ h2
 omega
theorem Zrc : ∀ {ks : List ZaJ},(∀ k∈ks,ZqG k)→(Zgb ks).length≤ks.length * 137
 | [],_=>by simp [Zgb]
 | k :: ks,h=>by
  have h1:=Zww (h k (by simp))
  have h2:=Zrc (ks:=ks) fun y hy=>h y (by simp [hy])
  unfold Zgb at h2 ⊢
  rw [List.map_cons,List.flatten_cons,List.length_append,List.length_cons,Nat.add_mul]
  omega
theorem ZBs (h : ∀ k∈ks,ZqG k) (hn : ks.length≤12) (hl : l.length≤6) (hx : ∀ x∈l,x.length≤12) : (ZsA l ks).length≤1733:=by
 unfold ZsA
 rw [List.length_append,List.length_append,List.length_append,K4,K4]
 have h1:=Zpo hx
 have h2:=Zrc h
 have h3 : l.length * (12+2)≤6 * (12+2):=Nat.mul_le_mul_right _ hl
 have h4 : ks.length * 137≤12 * 137:=Nat.mul_le_mul_right _ hn
 omega
end
end Go.Proofs.YtgfbgfafajiehaaGreatDoor.A

namespace Go.Proofs.YtgfbgfafajiehaaGreatDoor.A
set_option linter.unusedVariables false
set_option maxRecDepth 100000
set_option linter.unusedSimpArgs false
open Go.Proofs Go.Proofs.YtgfbgfafajiehaaGreatDoor
section
variable {H X X' : Zd} {n p d c : Nat} {r : NR} {s : NSt} {sl x v gv sv : Value} {own q : List Nat} {bs : List UInt8} {l : List Tx} {u : Zt} {us : List Zt}
theorem Zhy : ∀ {l : List Tx},l.Pairwise (· < ·)→YW l=true
 | [],_=>rfl
 | [a],_=>rfl
 | a :: b :: l,h=>by
  rw [Zir,Bool.and_eq_true,decide_eq_true_eq]
  have h1:=List.pairwise_cons.1 h
  exact ⟨h1.1 b (by simp),Zhy h1.2⟩
theorem ND0.kname (hd : ND0 X d r s c) {k : Tx} (hk : k∈s.K) : Zs k=true:=by
 rw [← hd.ks] at hk
 obtain ⟨p,hp,rfl⟩:=List.mem_map.1 hk
 exact hd.gr.ok p hp
theorem ZmM (hO : ROK s us) (hP : ZpN s) (hN : ∀ k∈s.K,Zs k=true) (hu : u∈us) : Jr u=0∧(∀ g∈u.gs,g∈s.K)∧u.ml=(Zf u.nm s.OF).getD []:=by
 have hat:=hO.at hu
 unfold Yv at hat
 cases ha : Zf u.nm s.A with
 | none=>rw [ha] at hat;cases hat
 | some p=>
  rw [ha] at hat
  have hk : Zbp s u.nm p=JK u:=Option.some.inj hat
  have h1 : p.1=u.hs:=congrArg (·.2.1) hk
  have h2 : (Zf u.nm s.OF).getD []=u.ml:=congrArg (·.2.2.1) hk
  have h3 : ofL u.nm s.K s.mem=u.gs:=congrArg (·.2.2.2.2) hk
  have hnm:=hP.i.nm _ (KI ha)
  have hin : ∀ g∈u.gs,g∈s.K:=fun g hg=>by
   rw [← h3] at hg
   exact (((Zl2 hP.k.nod).mem g).1 hg).1
  refine ⟨?_,hin,h2.symm⟩
  unfold Jr Zgp
  rw [show Zs u.nm=true from hnm.1,← h1,show Kq p.1=true from hnm.2]
  have hm : Zdb u.ml=true:=by
   unfold Zdb
   rw [← h2]
   cases ho : Zf u.nm s.OF with
   | none=>rfl
   | some m=>
    obtain ⟨g1,g2⟩:=hP.i.good _ m ho
    show (m==[] || (J0 m && QA m==m))=true
    rw [g1,g2]
    simp
  have hl : u.gs.length≤6:=by
   rw [← h3]
   exact Nat.le_trans Zjh hP.k.few
  have hall : u.gs.all Zs=true:=List.all_eq_true.2 fun g hg=>hN g (hin g hg)
  have hr : YW u.gs=true:=by
   rw [← h3]
   exact Zhy (Zl2 hP.k.nod).asc
  rw [hm,hall,hr]
  simp only [if_true]
  rw [if_neg (by omega)]
theorem ZrZ {gs : List Tx} : ∀ {us prev : List Zt},(∀ (i : Nat) (u : Zt),us[i]?=some u→Zeq gs (prev++us.take i) u=0)→ZaD gs prev us=0
 | [],prev,_=>by unfold ZaD;rfl
 | u :: us,prev,h=>by
  have h0:=h 0 u rfl
  rw [List.take_zero,List.append_nil] at h0
  unfold ZaD
  rw [if_pos h0]
  refine ZrZ fun i w hi=>?_
  have h1:=h (i+1) w (by simpa using hi)
  rw [List.take_succ_cons] at h1
  rwa [List.append_assoc]
theorem ZE2 (hO : ROK s us) (hP : ZpN s) (hN : ∀ k∈s.K,Zs k=true) : Zbo us (Z5 s.K)=0:=by
 have hlen:=hO.len hP.n
 have hfew:=hP.i.few
 have h1 : Ya us=0:=by
  have hall : ∀ u∈us,Jr u=0:=fun u hu=>(ZmM hO hP hN hu).1
  clear hO hlen
  induction us with
  | nil=>rfl
  | cons u us ih=>
   unfold Ya
   rw [if_pos (hall u (by simp))]
   exact ih fun w hw=>hall w (by simp [hw])
 have h2 : YW (us.map (·.nm))=true:=by
  refine Zhy ?_
  rw [List.pairwise_map]
  exact hO.rise
 have h3 : (Z5 s.K).all Zs=true:=List.all_eq_true.2 fun g hg=>hN g (W3.1 hg)
 have h4 : YW (Z5 s.K)=true:=Zhy (Ziv hP.k.nod)
 have h5 : (Z5 s.K).length≤6:=by rw [Za2];exact hP.k.few
 have hc : ZcT us (Z5 s.K)=0:=by
  unfold ZcT ZjE
  have x1 : ¬ 12 < us.length:=by omega
  have x2 : ¬ 6 < (Z5 s.K).length:=by omega
  rw [h1,h2,h3,h4]
  simp [x1,x2,hP.k.few]
 unfold Zbo
 rw [if_pos hc]
 refine ZrZ fun i u hi=>?_
 rw [List.nil_append]
 have hum:=List.mem_of_getElem? hi
 obtain ⟨_,hg,hm⟩:=ZmM hO hP hN hum
 unfold Zeq
 have hall : (u.gs.all fun g=>decide (g∈Z5 s.K))=true:=List.all_eq_true.2 fun g hgm=>by
  rw [decide_eq_true_eq]
  exact W3.2 (hg g hgm)
 rw [hall,if_pos rfl,if_neg]
 rintro ⟨hne,hany⟩
 obtain ⟨w,hw,hwe⟩:=List.any_eq_true.1 hany
 have hwm:=List.mem_of_mem_take hw
 obtain ⟨_,_,hm2⟩:=ZmM hO hP hN hwm
 have hwe : u.ml=w.ml:=by simpa using hwe
 have h6 : ∀ v : Zt,v.ml=(Zf v.nm s.OF).getD []→v.ml≠[]→Zf v.ml s.OW=some v.nm:=fun v hv hvne=>by
  cases ho : Zf v.nm s.OF with
  | none=>rw [ho] at hv;exact absurd hv hvne
  | some m=>
   rw [ho] at hv
   have hv : v.ml=m:=hv
   rw [hv]
   exact (hP.x.inv _ _).1 ho
 have h7:=h6 u hm hne
 have h8:=h6 w hm2 (by rw [← hwe];exact hne)
 rw [← hwe,h7] at h8
 have h9 : u.nm=w.nm:=Option.some.inj h8
 have hri:=hO.rise
 unfold ZeG at hri
 rw [← List.take_append_drop i us,List.pairwise_append] at hri
 have hud : u∈us.drop i:=by
  have hil:=(List.getElem?_eq_some_iff.1 hi).1
  rw [List.drop_eq_getElem_cons hil]
  have:=List.getElem?_eq_getElem hil
  rw [hi] at this
  rw [← Option.some.inj this]
  simp
 have:=hri.2.2 w hw u hud
 rw [h9] at this
 exact absurd this (List.lt_irrefl _)
theorem ROK.allK (hn : (Wm s).Nodup) : ROK s ((A.allK s).map uOf):=⟨by
 have h:=ZsW hn
 unfold ZeG
 rw [List.pairwise_map]
 exact h,fun key=>by rw [Zsr];exact ZvQ hn⟩
theorem ZEI (hd : ND X d r s c) : ofK (A.allK s) (Z5 s.K)=0:=by
 have:=ZE2 (ROK.allK hd.pinv.n) hd.pinv fun k hk=>hd.toND0.kname hk
 rw [ZDM,Zsr] at this
 omega
theorem ZBd {b : Bool} (hb : bs.length≤100000000000) (h : Wtr H p bs own) : ∃ H' own',R (n+3) Wx [pt p,.bool b] H=some (pt p,H')∧Wtr H' p (bs++ZlH b) own'∧Zr (p :: own) H (p :: own') H':=by
 obtain ⟨H',own',e,w,s⟩:=Zhc (n:=n) (x:=if b then 1 else 0) (by cases b <;> decide) hb h
 refine ⟨H',own',?_,w,s⟩
 rw [R,Zka rfl]
 unfold Zcw
 cases b
 ·have e : R (n+2) Z3 [pt p,.int .u8 0] H=_:=e
  rw [Zb,if_neg (by simp),Za e]
  rfl
 ·have e : R (n+2) Z3 [pt p,.int .u8 1] H=_:=e
  rw [Zb,if_pos rfl,Za e]
  rfl
theorem Zo.whole {vs : List Value} (h : Zo X v vs q) : ∃ sv,slv 1 v none (some (iv vs.length)) none X=some (sv,X)∧Sl X sv vs∧∀ j,A.own1 sv=some j→j∈q:=by
 have b1 : ∀ d,bnd (some (iv vs.length)) d=some vs.length:=fun d=>by simp [bnd]
 have b2 : ∀ d,bnd none d=some d:=fun _=>rfl
 rcases h with ⟨rfl,rfl,rfl⟩ | ⟨sid,rest,g,rfl,rfl,hid⟩
 ·exact ⟨.slice none 0 0,rfl,Sl.nil,fun j hj=>by cases hj⟩
 ·by_cases h0 : vs.length+rest.length=0
  ·have hv : vs=[]:=List.eq_nil_of_length_eq_zero (by omega)
   subst hv
   refine ⟨.slice (some ⟨sid,0,some (bif g then 1 else 0)⟩) 0 0,?_,⟨_,_,rfl,(fun e=>by cases e),rfl⟩,fun j hj=>by cases hj⟩
   simp only [slv,hid,b1,b2]
   rw [if_pos ⟨trivial,by omega,by omega,Nat.le_refl _⟩,if_pos (by omega)]
  ·refine ⟨.slice (some ⟨sid,0,none⟩) vs.length (vs.length+rest.length),?_,⟨some ⟨sid,0,none⟩,_,rfl,(fun e=>by cases e),?_⟩,fun j hj=>by cases hj;simp⟩
   ·simp only [slv,hid,b1,b2]
    rw [if_pos ⟨trivial,by omega,by omega,Nat.le_refl _⟩,if_neg (by omega)]
    simp
   ·simp only [Qw,hid]
    rw [if_pos (by simp)]
    simp
theorem ZxY (hl : ∀ x∈l,x.length≤1000) (hn : l.length≤1000) : ∀ (t j : Nat) (bs : List UInt8) (own : List Nat) (X : Zd),l.length - j=t→j≤l.length→Sl X sv (l.map strv)→(∀ i,own1 sv=some i→i∉p :: own∧i < X.length)→bs.length+t * 1002≤100000000→Wtr X p bs own→
  ∃ X' own',Zi (c4 (YL.l1 (R (n+3)))) [pt p,sv,iv l.length,iv j] X=some (.ext 0 [pt p],X')∧Wtr X' p (bs++((l.drop j).map txt).flatten) own'∧Zr (p :: own) X (p :: own') X'
 | 0,j,bs,own,X,ht,hj,hs,hd,hb,h=>by
  rw [List.drop_eq_nil_of_le (by omega)]
  refine ⟨X,own,Qc ?_,by simpa using h,.refl _ _⟩
  rw [ZI,show j=l.length by omega]
  unfold YL.l1
  rw [Za Zu,Zb,if_neg (by simp)]
  rfl
 | t+1,j,bs,own,X,ht,hj,hs,hd,hb,h=>by
  have hkl : j < l.length:=by omega
  have hlt : (j : Int) < l.length:=by omega
  have hg:=List.getElem?_eq_getElem hkl
  have hdr:=List.drop_eq_getElem_cons hkl
  generalize l[j]=y at hg hdr
  have hy:=hl y (List.mem_of_getElem? hg)
  have x1:=hs.ix (i:=j) (by simpa using hkl) .i64 X
  have x2:=hs.ldx (KO hg)
  obtain ⟨X1,own1',e1,w1,s1⟩:=Zd5 (n:=n) (s:=y) (by omega) (by omega) h
  have hs1 : Sl X1 sv (l.map strv):=hs.keep fun i hi=>s1.keep i (hd i hi).2 (hd i hi).1
  have hd1 : ∀ i,A.own1 sv=some i→i∉p :: own1'∧i < X1.length:=fun i hi=>⟨fun hm=>by
   rcases s1.own i hm with h1 | h1
   ·exact (hd i hi).1 h1
   ·have:=(hd i hi).2;omega,Nat.lt_of_lt_of_le (hd i hi).2 s1.len⟩
  obtain ⟨X2,own2,e2,w2,s2⟩:=ZxY hl hn t (j+1) (bs++txt y) own1' X1 (by omega) (by omega) hs1 hd1 (by rw [List.length_append,Zbz];omega) w1
  refine ⟨X2,own2,(ZN ?_).trans e2,?_,s1.trans s2⟩
  ·rw [ZI]
   unfold YL.l1
   rw [Za Zu,Zb,if_pos (by simpa using hlt),Za x1,Za x2,Za e1,Za ZG,Jk (by omega)]
   rfl
  ·rw [hdr,List.map_cons,List.flatten_cons,← List.append_assoc]
   exact w2
theorem ZAB (hl : ∀ x∈l,x.length≤1000) (hn : l.length≤1000) (hr : Zo H gv (l.map strv) q) (hd : ∀ j∈q,j∉p :: own) (hb : bs.length≤10000000) (h : Wtr H p bs own) : ∃ H' own',R (n+4) Kp [pt p,gv] H=some (pt p,H')∧Wtr H' p (bs++ZpL l) own'∧Zr (p :: own) H (p :: own') H':=by
 have hlen : ZA gv H=some (iv l.length,H):=by have:=hr.rd.len (H':=H);simpa using this
 have hm : mxi false (iv l.length) (.int .i64 65535) H=some (iv l.length,H):=by
  rw [Yx,if_neg (by omega)]
 obtain ⟨sv,e1,s1,o1⟩:=hr.whole
 rw [List.length_map] at e1
 have hsl : ∀ Y,ZA sv Y=some (iv l.length,Y):=fun Y=>by have:=s1.len (H':=Y);simpa using this
 have c1 : cvi .u16 (iv l.length) H=some (.int .u16 l.length,H):=by rw [QC,Zye,Int.emod_eq_of_lt (by omega) (by omega)]
 obtain ⟨X1,own1',e2,w2,st2⟩:=Zqw (n:=n+1) (x:=l.length) (by omega) (by omega) h
 have e2 : R (n+3) JF [pt p,.int .u16 l.length] H=_:=e2
 have hs1 : Sl X1 sv (l.map strv):=s1.keep fun i hi=>st2.keep i (hr.lt i (o1 i hi)) (hd i (o1 i hi))
 have hd1 : ∀ i,A.own1 sv=some i→i∉p :: own1'∧i < X1.length:=fun i hi=>⟨fun hm=>by
  rcases st2.own i hm with h1 | h1
  ·exact hd i (o1 i hi) h1
  ·have:=hr.lt i (o1 i hi);omega,Nat.lt_of_lt_of_le (hr.lt i (o1 i hi)) st2.len⟩
 obtain ⟨X2,own2,e3,w3,st3⟩:=ZxY (n:=n) (p:=p) hl hn l.length 0 (bs++le l.length 2) own1' X1 (by omega) (by omega) hs1 hd1 (by rw [List.length_append,K4];omega) w2
 rw [show iv ((0 : Nat) : Int)=.int .i64 0 from rfl] at e3
 rw [List.drop_zero,List.append_assoc] at w3
 refine ⟨X2,own2,?_,w3,st2.trans st3⟩
 rw [R,ZmD rfl]
 unfold YL
 rw [Za hlen,Za hm,Za e1,Za (hsl _),Za c1,Za e2,Za (hsl _),QR e3,ZK]
 rfl
theorem ZEn {u : Zt} : Zsh (JK u)=txt u.nm++(txt u.hs++(txt u.ml++(ZlH u.ds++ZpL u.gs))):=rfl
theorem Zc1 {o1 o2 : List Nat} (hs : Zr o1 X o2 X') {q : List Nat} (hl : ∀ j∈q,j < X.length) (hd : ∀ j∈q,j∉o1) : ∀ j∈q,j∉o2:=fun j hj hm=>by
 rcases hs.own j hm with h1 | h1
 ·exact hd j hj h1
 ·have:=hl j hj;omega
theorem ZDS (he : Jr u=0) (hr : Zo H u.gv (u.gs.map strv) q) (hd : ∀ j∈q,j∉p :: own) (hb : bs.length≤1000000) (h : Wtr H p bs own) : ∃ H' own',R (n+11) Zd7 [pt p,iv 2,.agg u.cells.toArray] H=some (.bool true,H')∧Wtr H' p (bs++Zsh (JK u)) own'∧Zr (p :: own) H (p :: own') H':=by
 obtain ⟨b1,b2,b3,b4,b5,b6⟩:=Zg5 he
 have hnl:=KE b1
 have hhl:=Zm4 b2
 have hml:=ZxN b3
 have hgl : ∀ x∈u.gs,x.length≤1000:=fun x hx=>by have:=KE (List.all_eq_true.1 b5 x hx);omega
 have ok0 : UOK H u:=⟨hr.rd,hr.one.1,by omega⟩
 have e1:=ok0.cells1
 have k1 : HLe H (H++[.cells u.cells 1 false false]):=.app _ _
 have c1 : (H++[Ze.cells u.cells 1 false false])[H.length]?=some (.cells u.cells 1 false false):=Zv
 have hne : H.length∉p :: own:=fun hm=>Nat.lt_irrefl _ (h.lt _ hm)
 have hq1:=hr.lt
 generalize H++[Ze.cells u.cells 1 false false]=X1 at e1 k1 c1
 have d1 : ldA 5 (pt H.length) X1=some (.agg u.cells.toArray,X1):=Qt (n:=5) c1 rfl
 obtain ⟨X2,e2,k2⟩:=ZmV (n:=n) (ok0.hle k1)
 rw [he] at e2
 have c2:=k2 _ _ c1
 have k12:=k1.trans k2
 have q1 : bop .int .neq (iv 0) (.int .i64 0) X2=some (.bool false,X2):=by rw [Zk];rfl
 have w2:=h.hle k12
 have hr2:=hr.step k12.step (by simp)
 generalize H.length=w at e1 c1 hne d1 c2
 obtain ⟨X3,q3,e3,w3,s3⟩:=Zd5 (n:=n+7) (s:=u.nm) (by omega) (by omega) w2
 have e3 : R (n+10) Qg [pt p,strv u.nm] X2=_:=e3
 have c3:=s3.get c2 hne
 have hwl:=ZX c2
 have n3 : w∉p :: q3:=fun hm=>by
  rcases s3.own w hm with h1 | h1
  ·exact hne h1
  ·omega
 have l3 : (txt u.nm).length≤14:=by rw [Zbz];omega
 have l4 : (txt u.hs).length≤14:=by rw [Zbz];omega
 have l5 : (txt u.ml).length≤22:=by rw [Zbz];omega
 obtain ⟨X4,q4,e4,w4,s4⟩:=Zd5 (n:=n+7) (s:=u.hs) (by omega) (by rw [List.length_append];omega) w3
 have e4 : R (n+10) Qg [pt p,strv u.hs] X3=_:=e4
 have c4:=s4.get c3 n3
 have hwl3:=ZX c3
 have n4 : w∉p :: q4:=fun hm=>by
  rcases s4.own w hm with h1 | h1
  ·exact n3 h1
  ·omega
 obtain ⟨X5,q5,e5,w5,s5⟩:=Zd5 (n:=n+7) (s:=u.ml) (by omega) (by rw [List.length_append,List.length_append];omega) w4
 have e5 : R (n+10) Qg [pt p,strv u.ml] X4=_:=e5
 have c5:=s5.get c4 n4
 have hwl4:=ZX c4
 have n5 : w∉p :: q5:=fun hm=>by
  rcases s5.own w hm with h1 | h1
  ·exact n4 h1
  ·omega
 obtain ⟨X6,q6,e6,w6,s6⟩:=ZBd (n:=n+7) (b:=u.ds) (by rw [List.length_append,List.length_append,List.length_append];omega) w5
 have e6 : R (n+10) Wx [pt p,.bool u.ds] X5=_:=e6
 have c6:=s6.get c5 n5
 have a2:=hr2.lt
 have r3:=hr2.step s3 hd
 have f3:=Zc1 s3 a2 hd
 have r4:=r3.step s4 f3
 have f4:=Zc1 s4 r3.lt f3
 have r5:=r4.step s5 f4
 have f5:=Zc1 s5 r4.lt f4
 have r6:=r5.step s6 f5
 have f6:=Zc1 s6 r5.lt f5
 obtain ⟨X7,q7,e7,w7,s7⟩:=ZAB (n:=n+6) hgl (by omega) r6 f6 (by rw [List.length_append,List.length_append,List.length_append,List.length_append,Zqd];omega) w6
 have e7 : R (n+10) Kp [pt p,u.gv] X6=_:=e7
 have q2 : bop .int .eql (iv 2) (.int .i64 2) X4=some (.bool true,X4):=by rw [ZE];rfl
 have a : ∀ {Y : Zd},Y[w]?=some (.cells u.cells 1 false false)→∀ f x,u.cells[f]?=some x→ld1 (pa w f) Y=some (x,Y):=fun hY f x h=>ZC hY h
 refine ⟨X7,q7,?_,by rw [ZEn];simpa [List.append_assoc] using w7,(k12.stepq).trans ((((s3.trans s4).trans s5).trans s6).trans s7)⟩
 rw [R,ZoA rfl]
 unfold Zip
 rw [Za e1,Za d1,Za e2,Za q1,Zb,if_neg (by simp),Za Zj,Za (a c2 0 _ rfl),Za Zj,Za (a c2 1 _ rfl),Za e3,Za (a c3 1 _ rfl),QG,Za e4,Za q2]
 refine (ZO (vs:=[]) (H':=X7) ?_).trans ?_
 ·rw [Zb,if_pos rfl,Za Zj,Za (a c4 2 _ rfl),Za Zj,Za (a c4 3 _ rfl),Za Zj,Za (a c4 4 _ rfl),Za e5,Za (a c5 4 _ rfl),QG,Za (a c5 3 _ rfl),QG,Za e6,Za (a c6 4 _ rfl),QG,Za e7]
  rfl
 ·rfl
theorem ZxK (hn : us.length≤100) (hE : ∀ u∈us,Jr u=0) : ∀ (t k : Nat) (bs : List UInt8) (own : List Nat) (X : Zd),us.length - k=t→k≤us.length→JG 5 X v (us.map Zt.cells) q→(∀ j∈q,j∉p :: own)→(∀ u∈us,∃ qu,Zo X u.gv (u.gs.map strv) qu∧∀ j∈qu,j∉p :: own)→bs.length+t * 137≤100000→Wtr X p bs own→
  ∃ X' own',Zi (c4 (Wy.l1 (R (n+11)))) [pt p,v,iv us.length,iv k] X=some (.ext 0 [pt p],X')∧Wtr X' p (bs++Zgb ((us.drop k).map JK)) own'∧Zr (p :: own) X (p :: own') X'
 | 0,k,bs,own,X,ht,hk,hr,hd,hu,hb,h=>by
  rw [List.drop_eq_nil_of_le (by omega)]
  refine ⟨X,own,Qc ?_,by simpa [Zgb] using h,.refl _ _⟩
  rw [ZI,show k=us.length by omega]
  unfold Wy.l1
  rw [Za Zu,Zb,if_neg (by simp)]
  rfl
 | t+1,k,bs,own,X,ht,hk,hr,hd,hu,hb,h=>by
  have hkl : k < us.length:=by omega
  have hlt : (k : Int) < us.length:=by omega
  have hg:=List.getElem?_eq_getElem hkl
  have hdr:=List.drop_eq_getElem_cons hkl
  generalize us[k]=u at hg hdr
  have hum:=List.mem_of_getElem? hg
  have he:=hE u hum
  obtain ⟨qu,u1,u2⟩:=hu u hum
  have hf:=fun {K : Value→M Out}=>Zsz (k:=K) hr.rd u1.one.1 hg
  have k1 : HLe X (X++[Ze.cells u.cells 1 false false]):=.app _ _
  have c1 : (X++[Ze.cells u.cells 1 false false])[X.length]?=some (.cells u.cells 1 false false):=Zv
  generalize X++[Ze.cells u.cells 1 false false]=X1 at k1 c1 hf
  have d1 : ldA 5 (pt X.length) X1=some (.agg u.cells.toArray,X1):=Qt (n:=5) c1 rfl
  obtain ⟨X2,own2,e2,w2,s2⟩:=ZDS (n:=n) he (u1.step k1.step (by simp)) u2 (by omega) (h.hle k1)
  have hgk : ZqG (JK u):=ZCo (by rw [← Int.toNat_natCast (Zpv (JK u)),← Zx9,he];rfl)
  have hel:=Zww hgk
  have s12:=(k1.stepq (q:=p :: own)).trans s2
  have hu2 : ∀ u∈us,∃ qu,Zo X2 u.gv (u.gs.map strv) qu∧∀ j∈qu,j∉p :: own2:=fun w hw=>by
   obtain ⟨qw,w1,w2⟩:=hu w hw
   exact ⟨qw,w1.step s12 w2,Zc1 s12 w1.lt w2⟩
  obtain ⟨X3,own3,e3,w3,s3⟩:=ZxK hn hE t (k+1) (bs++Zsh (JK u)) own2 X2 (by omega) (by omega) (hr.step s12 hd) (Zc1 s12 hr.lt hd) hu2 (by rw [List.length_append];omega) w2
  refine ⟨X3,own3,(ZN ?_).trans e3,?_,s12.trans s3⟩
  ·rw [ZI]
   unfold Wy.l1
   rw [Za Zu,Zb,if_pos (by simpa using hlt),hf,Za d1,Za e2,Za ZG,Jk (by omega)]
   rfl
  ·rw [hdr]
   unfold Zgb at w3 ⊢
   rw [List.map_cons,List.map_cons,List.flatten_cons,← List.append_assoc]
   exact w3
theorem Zuy (hd : ND X d r s c) : ∃ v q H',R (n+12) ZeN [pt d] X=some (v,H')∧Zo H' v (u8s (ZsA (Z5 s.K) (A.allK s))) q∧HLe X H'∧∀ j∈q,X.length≤j:=by
 have hgood:=ZEI hd
 obtain ⟨g1,g2,g3,g4,_,_⟩:=ZFn hgood
 have q0 : bop .ptr .eql (pt d) (.pointer none) X=some (.bool false,X):=Ji
 obtain ⟨z1,z2,w0⟩:=Zsc (H:=X)
 have k0 : HLe X (X++[Ze.cells [.slice none 0 0] 1 false false]):=.app _ _
 generalize X++[Ze.cells [.slice none 0 0] 1 false false]=X0 at z2 w0 k0
 generalize hpp : X.length=p at z2 w0
 have hp : ∀ j∈[p],X.length≤j:=fun j hj=>by have : j=p:=(by simpa using hj);omega
 obtain ⟨X1,q1,e1,w1,s1⟩:=Zhc (n:=n+9) (x:=2) (by omega) (by simp) w0
 have e1 : R (n+11) Z3 [pt p,.int .u8 2] X0=_:=e1
 have m1:=k0.more s1 hp
 rw [List.nil_append] at w1
 obtain ⟨vg,qg,X2,e2,r2,l2,o2⟩:=ZAZ (n:=n+7) (hd.hle m1.1)
 have e2 : R (n+11) Zav [pt d] X1=_:=e2
 have w2:=w1.hle l2
 have m12:=m1.1.trans l2
 have dg : ∀ j∈qg,j∉p :: q1:=fun j hj hm=>by have:=o2 j hj;have:=w1.lt j hm;omega
 obtain ⟨X3,q3,e3,w3,s3⟩:=ZAB (n:=n+7) (l:=Z5 s.K) (fun x hx=>by have:=g4 x hx;omega) (by omega) r2 dg (by rw [K4];omega) w2
 have e3 : R (n+11) Kp [pt p,vg] X2=_:=e3
 have m3:=m12.more s3 m1.2
 have e4 : R (n+11) Zb4 [pt d] X3=some (iv s.A.length,X3):=ZEy (n:=n+10) (hd.hle m3.1)
 have hfew:=hd.inv.few
 have c4 : cvi .u16 (iv s.A.length) X3=some (.int .u16 s.A.length,X3):=by rw [QC,Zye,Int.emod_eq_of_lt (by omega) (by omega)]
 have hlr:=Zpo (b:=12) g4
 have hlr2 : (Z5 s.K).length * (12+2)≤6 * (12+2):=Nat.mul_le_mul_right _ g3
 obtain ⟨X4,q4,e5,w4,s4⟩:=Zqw (n:=n+9) (x:=s.A.length) (by omega) (by rw [List.length_append,K4];omega) w3
 have e5 : R (n+11) JF [pt p,.int .u16 s.A.length] X3=_:=e5
 have m4:=m3.1.more s4 m3.2
 obtain ⟨va,qa,us,X5,e6,o6,u6,l6⟩:=ZE0 (n:=n+3) (hd.hle m4.1)
 have e6 : R (n+11) Zb7 [pt d] X4=_:=e6
 have w5:=w4.hle l6
 have hlen : us.length=s.A.length:=by
  have h1:=congrArg List.length u6
  unfold A.allK at h1
  rw [List.length_map,List.length_map,Za2] at h1
  simpa using h1
 have hla : ZA va X5=some (iv us.length,X5):=by have:=o6.r.rd.len (H':=X5);rwa [List.length_map] at this
 have hE : ∀ u∈us,Jr u=0:=fun u hu=>by
  have:=g1 (JK u) (by rw [← u6];exact List.mem_map.2 ⟨u,hu,rfl⟩)
  rw [Zx9,this];rfl
 have da : ∀ j,X4.length≤j→j∉p :: q4:=fun j hj hm=>by have:=w4.lt j hm;omega
 obtain ⟨X6,q6,e7,w6,s6⟩:=ZxK (n:=n) (p:=p) (us:=us) (by omega) hE us.length 0 _ q4 X5 (by omega) (by omega) o6.r (fun j hj=>da j (o6.o j hj)) (fun u hu=>by
  obtain ⟨qu,a1,a2,_⟩:=o6.u u hu
  exact ⟨qu,a1,fun j hj=>da j (a2 j hj).1⟩) (by rw [List.length_append,List.length_append,K4,K4];omega) w5
 rw [show iv ((0 : Nat) : Int)=.int .i64 0 from rfl] at e7
 rw [List.drop_zero,u6] at w6
 have m6:=(m4.1.trans l6).more s6 m4.2
 have heq : le 2 1++ZpL (Z5 s.K)++le s.A.length 2++Zgb (A.allK s)=ZsA (Z5 s.K) (A.allK s):=by
  unfold ZsA
  have : (A.allK s).length=s.A.length:=by rw [← u6,List.length_map,hlen]
  rw [this]
  simp [List.append_assoc]
 rw [heq] at w6
 have hel:=ZBs (fun k hk=>ZCo (g1 k hk)) g2 g3 g4
 obtain ⟨v,qv,X7,e8,r7,l7,o7⟩:=Zps (n:=n+9) (by omega) w6
 have e8 : R (n+11) Jx [pt p] X6=_:=e8
 refine ⟨v,qv,X7,?_,r7,m6.1.trans l7,fun j hj=>by have h1:=o7 j hj;have h2:=m6.1.len;omega⟩
 rw [R,ZsR rfl]
 unfold Wy
 rw [Za q0,Zb,if_neg (by simp),Za z1,Za z2,Za e1,Za e2,Za e3,Za e4,Za c4,Za e5,Za e6,Za hla,QR e7,ZK,J8,Za e8]
 rfl
end
end Go.Proofs.YtgfbgfafajiehaaGreatDoor.A

namespace Go.Proofs.YtgfbgfafajiehaaGreatDoor.A
set_option linter.unusedVariables false
set_option linter.unusedSimpArgs false
open Go.Proofs Go.Proofs.YtgfbgfafajiehaaGreatDoor
variable {X X' Y : Zd} {n : Nat} {o : OpT}
def GlX (X : Zd) : Prop:=X[0]?=some (.cells (ZaP.map strv) 1 false true)
theorem GlX.le (h : GlX X) (hl : HLe X X') : GlX X':=hl _ _ h
def GlH (X : Zd) : Prop:=X.take gl.length=gl
theorem GlH.at (h : GlH X) {i : Nat} (hi : i < 4) : X[i]?=gl[i]?:=by
 have : (X.take gl.length)[i]?=gl[i]?:=by rw [h]
 rwa [List.getElem?_take,if_pos (show i < gl.length from hi)] at this
theorem GlH.x (h : GlH X) : GlX X:=h.at (by omega)
theorem GlH.of (h : ∀ i,i < 4→X[i]?=gl[i]?) : GlH X:=by
 apply List.ext_getElem?
 intro i
 rw [List.getElem?_take]
 split
 ·exact h i ‹_›
 ·rw [List.getElem?_eq_none (Nat.le_of_not_lt ‹_›)]
theorem ZAq {i : Nat} (hi : i < 4) : ∃ o,gl[i]?=some o:=⟨gl[i]'hi,List.getElem?_eq_getElem hi⟩
theorem GlH.le (h : GlH X) (hl : HLe X X') : GlH X':=.of fun i hi=>by
 obtain ⟨o,ho⟩:=ZAq hi
 rw [ho]
 exact hl _ _ ((h.at hi).trans ho)
theorem GlH.step {o1 o2 : List Nat} (h : GlH X) (hs : Zr o1 X o2 X') (hn : ∀ j∈o1,4≤j) : GlH X':=.of fun i hi=>by
 obtain ⟨o,ho⟩:=ZAq hi
 rw [ho]
 exact hs.get ((h.at hi).trans ho) fun hm=>by have:=hn i hm;omega
theorem ZiV (o : OpT) (X : Zd) : alc 1 (.agg o.cells.toArray) X=some (pt X.length,X++[.cells o.cells 1 false false]):=rfl
theorem Zd2 {p f : Nat} {x : Value} (h : X[p]?=some (.cells o.cells 1 false false)) (hf : o.cells[f]?=some x) : ld1 (pa p f) X=some (x,X):=ZC h hf
theorem ZzN {c : UInt8} (hc : c=97∨c=98∨c=110∨c=114) : ∃ X',R (n+1) ZfG [.agg o.cells.toArray,.int .u8 c.toNat] X=some (.bool (Zi0 o c),X')∧HLe X X':=by
 have e1:=ZiV o X
 have k1 : HLe X (X++[.cells o.cells 1 false false]):=.app _ _
 have c1 : (X++[Ze.cells o.cells 1 false false])[X.length]?=some (.cells o.cells 1 false false):=Zv
 generalize X++[Ze.cells o.cells 1 false false]=X1 at e1 k1 c1
 generalize X.length=p at e1 c1
 have l3 : ld1 (pa p 3) X1=some (.int .u8 o.nd,X1):=ZC c1 rfl
 have l4 : ld1 (pa p 4) X1=some (.int .u8 o.rl,X1):=ZC c1 rfl
 refine ⟨X1,?_,k1⟩
 rw [R,ZtG rfl]
 unfold ZiS
 rw [Za e1,Za ZE]
 rcases hc with rfl | rfl | rfl | rfl
 ·rw [Zb,if_neg (by decide),Za ZE,Zb,if_neg (by decide)];rfl
 ·rw [Zb,if_neg (by decide),Za ZE,Zb,if_neg (by decide)];rfl
 ·rw [Zb,if_pos (by decide),Za Zj,Za l3,Za Zu]
  have : decide ((o.nd : Int) < 7)=decide (o.nd < 7):=by rw [decide_eq_decide];omega
  rw [this]
  rfl
 ·rw [Zb,if_neg (by decide),Za ZE,Zb,if_pos (by decide),Za Zj,Za l4,Za Qm]
  have h1 : decide ((o.rl : Int)≥1)=decide (1≤o.rl):=by rw [decide_eq_decide];omega
  have h2 : decide ((o.rl : Int)≤3)=decide (o.rl≤3):=by rw [decide_eq_decide];omega
  rw [h1]
  have hr : Zi0 o 114=(decide (1≤o.rl) && decide (o.rl≤3)):=rfl
  rw [hr]
  cases decide (1≤o.rl)
  ·rw [Za (show gate (.bool false) true 3 _ X1=some ([Qi,Qi,Qi],X1) from rfl),ZV,Za Zm]
   rfl
  ·rw [Ql,Zl,Za Zj,Zl,Za l4,Zl,Za Jc,QF,ZV,Za Zm,h2]
   rfl
theorem ZBN {k : Nat} (hk : k≤255) : R (n+1) Zfs [iv k] X=some (iv (if 17≤k then 0 else if 5≤k∧k≤14 then 2 else 1),X):=by
 rw [R,ZyH rfl]
 unfold Zpf
 have q1 : bop .int .lss (iv k) (.int .i64 0) X=some (.bool false,X):=by rw [Zu,decide_eq_false (by omega)]
 have q2 : bop .int .geq (iv k) (.int .i64 17) X=some (.bool (decide (17≤k)),X):=by rw [Qm];congr 3;rw [decide_eq_decide];omega
 have q3 : bop .int .geq (iv k) (.int .i64 5) X=some (.bool (decide (5≤k)),X):=by rw [Qm];congr 3;rw [decide_eq_decide];omega
 have q4 : bop .int .leq (iv k) (.int .i64 14) X=some (.bool (decide (k≤14)),X):=by rw [Jc];congr 3;rw [decide_eq_decide];omega
 rw [Za q1,Ql,Zl,Za q2,QF,Qn,Za Zm]
 simp only [cond_false]
 by_cases h1 : 17≤k
 ·rw [Zb,if_pos (by simpa using h1),if_pos h1];rfl
 ·rw [Zb,if_neg (by simpa using h1),if_neg h1,Za q3]
  by_cases h2 : 5≤k
  ·rw [decide_eq_true h2,Ql,Zl,Za q4,QF,Qn,Za Zm]
   simp only [cond_true]
   by_cases h3 : k≤14
   ·rw [Zb,if_pos (by simpa using h3),if_pos ⟨h2,h3⟩];rfl
   ·rw [Zb,if_neg (by simpa using h3),if_neg (fun h=>h3 h.2)];rfl
  ·rw [decide_eq_false h2,Za (show gate (.bool false) true 2 _ X=some ([Qi,Qi],X) from rfl),Qn,Za Zm]
   simp only [cond_false]
   rw [Zb,if_neg (by simp),if_neg (fun h=>h2 h.1)];rfl
theorem ZED {q : Nat} {s : Tx} {i : Nat} {c : UInt8} (h : X[q]?=some (.siter ⟨s.toArray⟩ i)) (hc : s[i]?=some c) (ha : c.toNat < 128) :
  ZhS (pt q) X=some (.tuple #[.bool true,iv i,.int .i32 c.toNat],X.set q (.siter ⟨s.toArray⟩ (i+1))):=by
 have hi : i < s.length:=(List.getElem?_eq_some_iff.1 hc).1
 have hd : Utf8.decode ⟨s.toArray⟩ i=(c.toNat,1):=by
  have hg : (ByteArray.mk s.toArray).get! i=c:=by
   have h1 : s.toArray[i]?=some c:=by simpa using hc
   simp [ByteArray.get!,h1,hc]
  unfold Utf8.decode
  simp only [Nat.add_zero,hg]
  exact if_pos ha
 have hlt : i < (ByteArray.mk s.toArray).size:=by show i < s.toArray.size;simpa using hi
 have e : ZhS (pt q) X=(match X[q]? with
  | some (.siter s pos)=>
   if pos < s.size then some (.tuple #[.bool true,.int .i64 pos,.int .i32 ((Utf8.decode s pos).1 : Nat)],X.set q (.siter s (pos+(Utf8.decode s pos).2)))
   else some (.tuple #[.bool false],X)
  | _=>none):=rfl
 rw [e,h]
 simp only [hd,hlt,if_true]
theorem ZD0 {q : Nat} {s : Tx} {i : Nat} (h : X[q]?=some (.siter ⟨s.toArray⟩ i)) (hi : s.length≤i) : ZhS (pt q) X=some (.tuple #[.bool false],X):=by
 unfold ZhS
 simp only
 rw [h]
 simp only
 rw [if_neg (by simpa [ByteArray.size] using hi)]
def Zks (c : UInt8) : Prop:=c=97∨c=98∨c=110∨c=114
instance (c : UInt8) : Decidable (Zks c):=by unfold Zks;infer_instance
theorem ZAL (o : OpT) : ∀ c∈sgn o,Zks c:=by
 have : ∀ k,∀ c∈ZaP.getD k [],Zks c:=by
  intro k
  match k with
  | 0=>decide
  | 1=>decide
  | 2=>decide
  | 3=>decide
  | 4=>decide
  | 5=>decide
  | 6=>decide
  | 7=>decide
  | 8=>decide
  | 9=>decide
  | 10=>decide
  | 11=>decide
  | 12=>decide
  | 13=>decide
  | 14=>decide
  | 15=>decide
  | 16=>decide
  | k+17=>intro c hc;simp [ZaP] at hc
 exact this _
theorem Zxs (o : OpT) : (sgn o).length≤2:=by
 have : ∀ k,(ZaP.getD k []).length≤2:=by
  intro k
  match k with
  | 0=>decide
  | 1=>decide
  | 2=>decide
  | 3=>decide
  | 4=>decide
  | 5=>decide
  | 6=>decide
  | 7=>decide
  | 8=>decide
  | 9=>decide
  | 10=>decide
  | 11=>decide
  | 12=>decide
  | 13=>decide
  | 14=>decide
  | 15=>decide
  | 16=>decide
  | k+17=>simp [ZaP]
 exact this _
theorem Zks.lt {c : UInt8} (h : Zks c) : c.toNat < 128:=by
 rcases h with rfl | rfl | rfl | rfl <;> decide
theorem ZBZ (h : GlH X) (hk : o.kd < 17) : R (n+1) WU [.agg o.cells.toArray] X=some (.agg (ZeT o).cells.toArray,X):=by
 have hf : ZqR [.agg o.cells.toArray]=some (.agg (ZeT o).cells.toArray):=by
  show (if 0≤(o.kd : Int)∧(o.kd : Int) < 17 then some (Zul (o.kd : Int).toNat ⟨o.a.toArray⟩ ⟨o.b.toArray⟩ o.nd o.rl) else none)=_
  rw [if_pos ⟨by omega,by omega⟩]
  have e1 : sgk ((o.kd : Int).toNat)=sgn o:=rfl
  unfold Zul
  rw [e1]
  unfold ZeT OpT.cells
  congr 2
  simp only [List.contains_iff_mem,Int.toNat_natCast]
  by_cases h1 : (97 : UInt8)∈sgn o <;> by_cases h2 : (98 : UInt8)∈sgn o <;> by_cases h3 : (110 : UInt8)∈sgn o <;> by_cases h4 : (114 : UInt8)∈sgn o <;> simp [h1,h2,h3,h4] <;> first | exact ⟨rfl,rfl⟩ | rfl
 have : R (n+1) WU [.agg o.cells.toArray]=ZhI gl ZqR [.agg o.cells.toArray]:=rfl
 rw [this]
 exact ZBe hf h
structure Zhh (X0 Y : Zd) (o : OpT) (p1 p2 q : Nat) (s : Tx) (i : Nat) (bs : List UInt8) (own : List Nat) : Prop where
 le : HLe X0 Y
 c1 : Y[p1]?=some (.cells o.cells 1 false false)
 w : Wtr Y p2 bs own
 it : Y[q]?=some (.siter ⟨s.toArray⟩ i)
 n2 : ∀ j∈p2 :: own,X0.length≤j
 nq : X0.length≤q
 d1 : p1∉p2 :: own
 dq : q∉p2 :: own
 d1q : p1≠q
variable {X0 : Zd} {p1 p2 q : Nat} {s : Tx} {i : Nat} {bs : List UInt8} {own : List Nat}
theorem Zhh.turn (h : Zhh X0 Y o p1 p2 q s i bs own) : Zhh X0 (Y.set q (.siter ⟨s.toArray⟩ (i+1))) o p1 p2 q s (i+1) bs own:=by
 have hlt : q < Y.length:=ZX h.it
 exact ⟨h.le.put h.nq,by rw [List.getElem?_set_ne (Ne.symm h.d1q)];exact h.c1,h.w.keep fun j hj=>List.getElem?_set_ne (fun e=>h.dq (by rw [e];exact hj)),by rw [List.getElem?_set_self hlt],h.n2,h.nq,h.d1,h.dq,h.d1q⟩
theorem Zhh.more {Y' : Zd} {bs' : List UInt8} {own' : List Nat} (h : Zhh X0 Y o p1 p2 q s i bs own) (hw : Wtr Y' p2 bs' own') (hs : Zr (p2 :: own) Y (p2 :: own') Y') : Zhh X0 Y' o p1 p2 q s i bs' own':=by
 obtain ⟨m1,m2⟩:=h.le.more hs h.n2
 have hn : ∀ a,a < Y.length→a∉p2 :: own→a∉p2 :: own':=fun a ha hna hm=>by
  rcases hs.own a hm with h1 | h1
  ·exact hna h1
  ·omega
 exact ⟨m1,hs.get h.c1 h.d1,hw,hs.get h.it h.dq,m2,h.nq,hn _ (ZX h.c1) h.d1,hn _ (ZX h.it) h.dq,h.d1q⟩
theorem Zyp {c : UInt8} (h : Zhh X0 Y o p1 p2 q s i bs own) (hc : s[i]?=some c) (hs : Zks c) (ha : o.a.length≤65535) (hb : o.b.length≤65535) (hok : ZpW o) (hbs : bs.length≤1000000) :
  ∃ Y' own',Wq.l1 (R (n+3)) (pt p1) (pt p2) (pt q) Y=some (.nrm [pt p1,pt p2,pt q],Y')∧Zhh X0 Y' o p1 p2 q s (i+1) (bs++Zo9 o c) own':=by
 have e1:=ZED h.it hc hs.lt
 have h1:=h.turn
 generalize Y.set q (.siter ⟨s.toArray⟩ (i+1))=Y1 at e1 h1
 have hl : ∀ f x,o.cells[f]?=some x→ld1 (pa p1 f) Y1=some (x,Y1):=fun f x hx=>ZC h1.c1 hx
 unfold Wq.l1
 rcases hs with rfl | rfl | rfl | rfl
 ·obtain ⟨Y2,own',e2,w2,s2⟩:=Zd5 (n:=n) ha (by omega) h1.w
  refine ⟨Y2,own',?_,h1.more w2 s2⟩
  rw [Za e1,Za Qs,Zb,if_pos rfl,Za Qv,Za (show bop .int .eql (.int .i32 ((97 : UInt8).toNat : Nat)) (.int .i32 97) Y1=some (.bool true,Y1) from rfl)]
  rw [ZO (vs:=[pt p1,pt p2,pt q]) (H':=Y2) (by rw [Zb,if_pos rfl,Za Zj,Za (hl 1 _ rfl),Za e2];rfl),ZV]
  rfl
 ·obtain ⟨Y2,own',e2,w2,s2⟩:=Zd5 (n:=n) hb (by omega) h1.w
  refine ⟨Y2,own',?_,h1.more w2 s2⟩
  rw [Za e1,Za Qs,Zb,if_pos rfl,Za Qv,Za (show bop .int .eql (.int .i32 ((98 : UInt8).toNat : Nat)) (.int .i32 97) Y1=some (.bool false,Y1) from rfl)]
  rw [ZO (vs:=[pt p1,pt p2,pt q]) (H':=Y2) (by
   rw [Zb,if_neg (by simp),Za (show bop .int .eql (.int .i32 ((98 : UInt8).toNat : Nat)) (.int .i32 98) Y1=some (.bool true,Y1) from rfl)]
   rw [ZO (vs:=[pt p1,pt p2,pt q]) (H':=Y2) (by rw [Zb,if_pos rfl,Za Zj,Za (hl 2 _ rfl),Za e2];rfl),ZV]
   rfl),ZV]
  rfl
 ·obtain ⟨Y2,own',e2,w2,s2⟩:=Zhc (n:=n+1) (x:=o.nd) (by have:=hok.nd;omega) (by omega) h1.w
  refine ⟨Y2,own',?_,h1.more w2 s2⟩
  rw [Za e1,Za Qs,Zb,if_pos rfl,Za Qv,Za (show bop .int .eql (.int .i32 ((110 : UInt8).toNat : Nat)) (.int .i32 97) Y1=some (.bool false,Y1) from rfl)]
  rw [ZO (vs:=[pt p1,pt p2,pt q]) (H':=Y2) (by
   rw [Zb,if_neg (by simp),Za (show bop .int .eql (.int .i32 ((110 : UInt8).toNat : Nat)) (.int .i32 98) Y1=some (.bool false,Y1) from rfl)]
   rw [ZO (vs:=[pt p1,pt p2,pt q]) (H':=Y2) (by
    rw [Zb,if_neg (by simp),Za (show bop .int .eql (.int .i32 ((110 : UInt8).toNat : Nat)) (.int .i32 110) Y1=some (.bool true,Y1) from rfl)]
    rw [ZO (vs:=[pt p1,pt p2,pt q]) (H':=Y2) (by rw [Zb,if_pos rfl,Za Zj,Za (hl 3 _ rfl),Za e2];rfl),ZV]
    rfl),ZV]
   rfl),ZV]
  rfl
 ·obtain ⟨Y2,own',e2,w2,s2⟩:=Zhc (n:=n+1) (x:=o.rl) (by have:=hok.rl;omega) (by omega) h1.w
  refine ⟨Y2,own',?_,h1.more w2 s2⟩
  rw [Za e1,Za Qs,Zb,if_pos rfl,Za Qv,Za (show bop .int .eql (.int .i32 ((114 : UInt8).toNat : Nat)) (.int .i32 97) Y1=some (.bool false,Y1) from rfl)]
  rw [ZO (vs:=[pt p1,pt p2,pt q]) (H':=Y2) (by
   rw [Zb,if_neg (by simp),Za (show bop .int .eql (.int .i32 ((114 : UInt8).toNat : Nat)) (.int .i32 98) Y1=some (.bool false,Y1) from rfl)]
   rw [ZO (vs:=[pt p1,pt p2,pt q]) (H':=Y2) (by
    rw [Zb,if_neg (by simp),Za (show bop .int .eql (.int .i32 ((114 : UInt8).toNat : Nat)) (.int .i32 110) Y1=some (.bool false,Y1) from rfl)]
    rw [ZO (vs:=[pt p1,pt p2,pt q]) (H':=Y2) (by
     rw [Zb,if_neg (by simp),Za (show bop .int .eql (.int .i32 ((114 : UInt8).toNat : Nat)) (.int .i32 114) Y1=some (.bool true,Y1) from rfl)]
     rw [ZO (vs:=[pt p1,pt p2,pt q]) (H':=Y2) (by rw [Zb,if_pos rfl,Za Zj,Za (hl 4 _ rfl),Za e2];rfl),ZV]
     rfl),ZV]
    rfl),ZV]
   rfl),ZV]
  rfl
theorem ZvJ (ha : o.a.length≤65535) (hb : o.b.length≤65535) (c : UInt8) : (Zo9 o c).length≤65537:=by
 unfold Zo9
 split
 ·unfold txt;rw [List.length_append,K4];omega
 ·split
  ·unfold txt;rw [List.length_append,K4];omega
  ·split
   ·rw [K4];omega
   ·split
    ·rw [K4];omega
    ·simp
theorem ZuX (ha : o.a.length≤65535) (hb : o.b.length≤65535) (hok : ZpW o) (hsg : ∀ c∈s,Zks c) : ∀ (t i : Nat) (bs : List UInt8) (own : List Nat) (Y : Zd),s.length - i=t→i≤s.length→bs.length+65537 * t≤1000000→Zhh X0 Y o p1 p2 q s i bs own→
  ∃ Y' own',Zi (c3 (Wq.l1 (R (n+3)))) [pt p1,pt p2,pt q] Y=some (.ext 0 [pt p2],Y')∧Zhh X0 Y' o p1 p2 q s s.length (bs++((s.drop i).map (Zo9 o)).flatten) own'
 | 0,i,bs,own,Y,ht,hi,hbs,h=>by
  have hi : i=s.length:=by omega
  subst hi
  refine ⟨Y,own,Qc ?_,by rw [List.drop_length];simpa using h⟩
  rw [ZV]
  unfold Wq.l1
  rw [Za (ZD0 h.it (Nat.le_refl _)),Za ZEL,Zb,if_neg (by simp)]
  rfl
 | t+1,i,bs,own,Y,ht,hi,hbs,h=>by
  have hlt : i < s.length:=by omega
  have hg:=List.getElem?_eq_getElem hlt
  have hd:=List.drop_eq_getElem_cons hlt
  have hm:=hsg _ (List.getElem_mem hlt)
  generalize s[i]=c at hg hd hm
  obtain ⟨Y1,own1,e1,h1⟩:=Zyp (n:=n) h hg hm ha hb hok (by omega)
  obtain ⟨Y2,own2,e2,h2⟩:=ZuX ha hb hok hsg t (i+1) _ own1 Y1 (by omega) (by omega) (by have:=ZvJ (o:=o) ha hb c;rw [List.length_append];omega) h1
  refine ⟨Y2,own2,(ZN (by rw [ZV];exact e1)).trans e2,?_⟩
  rw [hd,List.map_cons,List.flatten_cons,← List.append_assoc]
  exact h2
theorem ZAE (hG : GlX X) (hk : o.kd < 17) (hok : ZpW o) (ha : o.a.length≤65535) (hb : o.b.length≤65535) :
  ∃ v q X',R (n+4) ZfI [.agg o.cells.toArray] X=some (v,X')∧Zo X' v (u8s (ZeA o)) q∧HLe X X':=by
 have e1:=ZiV o X
 have k1 : HLe X (X++[Ze.cells o.cells 1 false false]):=.app _ _
 have c1 : (X++[Ze.cells o.cells 1 false false])[X.length]?=some (.cells o.cells 1 false false):=Zv
 have n1 : X.length≤X.length:=Nat.le_refl _
 generalize X++[Ze.cells o.cells 1 false false]=X1 at e1 k1 c1
 generalize hp1 : X.length=p1 at e1 c1 n1
 obtain ⟨z1,z2,w0⟩:=Zsc (H:=X1)
 have k2 : HLe X1 (X1++[Ze.cells [.slice none 0 0] 1 false false]):=.app _ _
 generalize X1++[Ze.cells [.slice none 0 0] 1 false false]=X2 at z2 w0 k2
 generalize hp2 : X1.length=p2 at z2 w0
 have hlt1 : p1 < X1.length:=ZX c1
 have c2:=k2 _ _ c1
 obtain ⟨X3,own,e3,w3,s3⟩:=Zhc (n:=n+1) (x:=o.kd) (by omega) (by simp) w0
 have hn2 : ∀ j∈[p2],X.length≤j:=fun j hj=>by have : j=p2:=(by simpa using hj);omega
 obtain ⟨m3,o3⟩:=(k1.trans k2).more s3 hn2
 have hd1 : p1∉([p2] : List Nat):=by simp;omega
 have c3:=s3.get c2 hd1
 have hlt2 : p1 < X2.length:=ZX c2
 have hd3 : p1∉p2 :: own:=fun hm=>by
  rcases s3.own p1 hm with h1 | h1
  ·exact hd1 h1
  ·omega
 have hl2 : ld1 (pa p1 0) X2=some (.int .u8 o.kd,X2):=ZC c2 rfl
 have hl3 : ld1 (pa p1 0) X3=some (.int .u8 o.kd,X3):=ZC c3 rfl
 have hsig : ld1 (.pointer (some ⟨0,o.kd,none⟩)) X3=some (strv (sgn o),X3):=by
  have h0:=hG.le m3
  have h1 : (ZaP.map strv)[o.kd]?=some (strv (sgn o)):=by
   rw [List.getElem?_map]
   have : ZaP[o.kd]?=some (sgn o):=by
    unfold sgn
    rw [List.getD_eq_getElem?_getD,List.getElem?_eq_getElem (by simpa [ZaP] using hk)]
    rfl
   rw [this]
   rfl
  exact ZC (id:=0) h0 h1
 have hix : ZaC 17 1 (.pointer (some ⟨0,0,none⟩)) (.int .u8 o.kd) X3=some (.pointer (some ⟨0,o.kd,none⟩),X3):=by
  rw [QS,if_pos ⟨by omega,by omega⟩]
  simp
 have er : ZlQ (strv (sgn o)) X3=some (pt X3.length,X3++[.siter ⟨(sgn o).toArray⟩ 0]):=rfl
 have k4 : HLe X3 (X3++[Ze.siter ⟨(sgn o).toArray⟩ 0]):=.app _ _
 have c4 : (X3++[Ze.siter ⟨(sgn o).toArray⟩ 0])[X3.length]?=some (.siter ⟨(sgn o).toArray⟩ 0):=Zv
 have w4:=w3.hle k4
 have hq : ∀ j∈p2 :: own,j < X3.length:=w3.lt
 generalize X3++[Ze.siter ⟨(sgn o).toArray⟩ 0]=X4 at er k4 c4 w4
 have hlen3:=m3.len
 generalize hqq : X3.length=q at er c4 hq hlen3
 have h4 : Zhh X X4 o p1 p2 q (sgn o) 0 ([]++le o.kd 1) own:=
  ⟨m3.trans k4,k4 _ _ c3,w4,c4,o3,by omega,hd3,fun hm=>by have:=hq q hm;omega,fun e=>by have:=ZX c3;omega⟩
 have hsl:=Zxs o
 obtain ⟨X5,own5,e5,h5⟩:=ZuX (n:=n) ha hb hok (ZAL o) (sgn o).length 0 _ own X4 (by omega) (by omega) (by simp [K4];omega) h4
 rw [List.drop_zero] at h5
 have hwl : ([]++le o.kd 1++((sgn o).map (Zo9 o)).flatten).length≤1000000000:=by
  have hf : ∀ l : Tx,((l.map (Zo9 o)).flatten).length≤l.length * 65537:=by
   intro l
   induction l with
   | nil=>simp
   | cons c l ih=>
    have:=ZvJ (o:=o) ha hb c
    simp only [List.map_cons,List.flatten_cons,List.length_append,List.length_cons]
    omega
  have:=hf (sgn o)
  rw [List.length_append,List.nil_append,K4]
  omega
 obtain ⟨v,qv,X6,e6,r6,l6,_⟩:=Zps (n:=n+1) hwl h5.w
 refine ⟨v,qv,X6,?_,by simpa [ZeA] using r6,h5.le.trans l6⟩
 have e3 : R (n+3) Z3 [pt p2,.int .u8 o.kd] X2=_:=e3
 have e6 : R (n+3) Jx [pt p2] X5=_:=e6
 rw [R,Zuf rfl]
 unfold Wq
 rw [Za e1,Za z1,Za z2,Za Zj,Za hl2,Za e3,Za Zj,Za hl3,Za hix,Za hsig,Za er,QR e5,ZK,J8,Za e6]
 rfl
theorem ZEi (a b : Tx) : ((⟨a.toArray⟩ : ByteArray)==⟨b.toArray⟩)=decide (a=b):=by
 rw [Zm9]
 by_cases h : a=b
 ·subst h;simp
 ·rw [decide_eq_false h]
  simp [h]
theorem ZCU (a b : Nat) : (((a : Nat) : Int)==(b : Nat))=decide (a=b):=by
 by_cases h : a=b
 ·subst h;simp
 ·rw [decide_eq_false h]
  exact beq_false_of_ne fun e=>h (Int.ofNat.inj e)
theorem ZsF {ks : List FK} {q : IntKind} {a b : Nat} {xs ys : List Value} : eqF (.int :: ks) (.int q a :: xs) (.int q b :: ys)=if a=b then eqF ks xs ys else some false:=by
 show (if q=q then (bif ((a : Int)==b) then eqF ks xs ys else some false) else none)=_
 rw [if_pos rfl,ZCU]
 by_cases h : a=b
 ·rw [decide_eq_true h,if_pos h];rfl
 ·rw [decide_eq_false h,if_neg h];rfl
theorem Zya {ks : List FK} {a b : Tx} {xs ys : List Value} : eqF (.str :: ks) (strv a :: xs) (strv b :: ys)=if a=b then eqF ks xs ys else some false:=by
 show (bif ((⟨a.toArray⟩ : ByteArray)==⟨b.toArray⟩) then eqF ks xs ys else some false)=_
 rw [ZEi]
 by_cases h : a=b
 ·rw [decide_eq_true h,if_pos h];rfl
 ·rw [decide_eq_false h,if_neg h];rfl
theorem ZDH (o o' : OpT) : eqF [.int,.str,.str,.int,.int] o.cells o'.cells=some (decide (o=o')):=by
 obtain ⟨k,a,b,d,r⟩:=o
 obtain ⟨k',a',b',d',r'⟩:=o'
 unfold OpT.cells
 rw [ZsF,Zya,Zya,ZsF,ZsF]
 simp only [OpT.mk.injEq]
 by_cases h1 : k=k' <;> by_cases h2 : a=a' <;> by_cases h3 : b=b' <;> by_cases h4 : d=d' <;> by_cases h5 : r=r' <;> simp [h1,h2,h3,h4,h5,eqF]
theorem Zyd (hsg : ∀ c∈s,Zks c) (hn : s.length≤1000) : ∀ (t i : Nat) (Y : Zd) (sl : Value),s.length - i=t→i≤s.length→Y[p1]?=some (.cells o.cells 1 false false)→Sl Y sl (u8s s)→
  ∃ Y',Zi (c4 (W6.l1 (R (n+1)))) [pt p1,sl,iv s.length,iv i] Y=some (if (s.drop i).all (Zi0 o) then .ext 0 [pt p1] else .ret (iv 4),Y')∧HLe Y Y'
 | 0,i,Y,sl,ht,hi,h1,hs=>by
  have hi : i=s.length:=by omega
  subst hi
  refine ⟨Y,?_,.refl _⟩
  rw [List.drop_length]
  refine Qc ?_
  rw [ZI]
  unfold W6.l1
  rw [Za Zu,Zb,if_neg (by simp)]
  rfl
 | t+1,i,Y,sl,ht,hi,h1,hs=>by
  have hlt : i < s.length:=by omega
  have hlt' : (i : Int) < s.length:=by omega
  have hg:=List.getElem?_eq_getElem hlt
  have hd:=List.drop_eq_getElem_cons hlt
  have hm:=hsg _ (List.getElem_mem hlt)
  generalize s[i]=c at hg hd hm
  have x1:=hs.ix (i:=i) (by rw [Kh];exact hlt) .i64 Y
  have x2 : ld1 (ixp sl i) Y=some (.int .u8 c.toNat,Y):=hs.ldx (by unfold u8s;rw [List.getElem?_map,hg];rfl)
  obtain ⟨Y1,e1,k1⟩:=ZzN (n:=n) (o:=o) (X:=Y) hm
  rw [hd,List.all_cons]
  cases hr : Zi0 o c
  ·refine ⟨Y1,?_,k1⟩
   rw [hr] at e1
   refine Yq ?_
   rw [ZI]
   unfold W6.l1
   rw [Za Zu,Zb,if_pos (by simpa using hlt'),Za x1,Za x2,Za (Qt (n:=5) h1 rfl),Za e1,Za ZQ,Zb,if_pos (by rfl)]
   rfl
  ·rw [hr] at e1
   obtain ⟨Y2,e2,k2⟩:=Zyd hsg hn t (i+1) Y1 sl (by omega) (by omega) (k1 _ _ h1) (hs.mono k1)
   refine ⟨Y2,?_,k1.trans k2⟩
   rw [Bool.true_and]
   refine (ZN ?_).trans e2
   rw [ZI]
   unfold W6.l1
   rw [Za Zu,Zb,if_pos (by simpa using hlt'),Za x1,Za x2,Za (Qt (n:=5) h1 rfl),Za e1,Za ZQ,Zb,if_neg (by simp),Za ZG,Jk (by omega)]
   rfl
theorem gvF {m : M Value} {k : Value→M Value} {H : Zd} : bind (gateV (.bool true) false m) k H=k Qi H:=rfl
theorem ZlV (hG : GlH X) (hok : ZpW o) (ha : o.a.length≤65535) (hb : o.b.length≤65535) : ∃ X',R (n+5) W4 [.agg o.cells.toArray] X=some (iv (checkO o),X')∧HLe X X':=by
 have e1:=ZiV o X
 have k1 : HLe X (X++[Ze.cells o.cells 1 false false]):=.app _ _
 have c1 : (X++[Ze.cells o.cells 1 false false])[X.length]?=some (.cells o.cells 1 false false):=Zv
 generalize X++[Ze.cells o.cells 1 false false]=X1 at e1 k1 c1
 generalize X.length=p1 at e1 c1
 have hl : ∀ f x,o.cells[f]?=some x→ld1 (pa p1 f) X1=some (x,X1):=fun f x hx=>ZC c1 hx
 have hA : ldA 5 (pt p1) X1=some (.agg o.cells.toArray,X1):=Qt (n:=5) c1 rfl
 have hcv : cvi .i64 (.int .u8 o.kd) X1=some (iv o.kd,X1):=by rw [QC,w64 (by omega) (by have:=hok.kd;omega)]
 have hge : bop .int .geq (iv o.kd) (.int .i64 17) X1=some (.bool (decide (17≤o.kd)),X1):=by rw [Qm];congr 3;rw [decide_eq_decide];omega
 rw [R,ZwI rfl]
 unfold W6
 rw [Za e1,Za Zj,Za (hl 0 _ rfl),Za hcv,Za hge]
 by_cases hk : 17≤o.kd
 ·rw [decide_eq_true hk]
  refine ⟨X1,?_,k1⟩
  have hck : checkO o=4:=by unfold checkO;rw [if_pos (.inl hk)]
  rw [hck]
  rw [gvF,gvF,gvF,gvF,QG,gvF,Za Zm]
  rfl
 rw [decide_eq_false hk]
 have hk : o.kd < 17:=by omega
 have hG1:=hG.le k1
 have eb : R (n+4) WU [.agg o.cells.toArray] X1=some (.agg (ZeT o).cells.toArray,X1):=ZBZ (n:=n+3) hG1 hk
 have hne : bop (.flat [.int,.str,.str,.int,.int]) .neq (.agg o.cells.toArray) (.agg (ZeT o).cells.toArray) X1=some (.bool (!decide (o=ZeT o)),X1):=by
  have : eqv (.flat [.int,.str,.str,.int,.int]) (.agg o.cells.toArray) (.agg (ZeT o).cells.toArray)=some (decide (o=ZeT o)):=ZDH o (ZeT o)
  unfold bop
  simp only [this]
  rfl
 have gt : ∀ {m : M Value} {k : Value→M Value},bind (gateV (.bool false) false m) k X1=bind m k X1:=fun {m k}=>rfl
 rw [gt,Za hA,gt,Za hA,gt,Za eb,gt,Za hA,QG,gt,Za hne,Za Zm]
 simp only [cond_false]
 by_cases hbr : o=ZeT o
 ·rw [decide_eq_true hbr,Zb,if_neg (by simp)]
  have hsig : ld1 (.pointer (some ⟨0,o.kd,none⟩)) X1=some (strv (sgn o),X1):=by
   have h1 : (ZaP.map strv)[o.kd]?=some (strv (sgn o)):=by
    rw [List.getElem?_map]
    have : ZaP[o.kd]?=some (sgn o):=by
     unfold sgn
     rw [List.getD_eq_getElem?_getD,List.getElem?_eq_getElem (by simpa [ZaP] using hk)]
     rfl
    rw [this]
    rfl
   exact ZC (id:=0) hG1.x h1
  have hix : ZaC 17 1 (.pointer (some ⟨0,0,none⟩)) (.int .u8 o.kd) X1=some (.pointer (some ⟨0,o.kd,none⟩),X1):=by
   rw [QS,if_pos ⟨by omega,by omega⟩]
   simp
  have es : s2b (strv (sgn o)) X1=some (.slice (some ⟨X1.length,0,none⟩) (sgn o).length (sgn o).length,X1++[.cells (u8s (sgn o)) 1 true false]):=by
   unfold s2b ZiN
   simp only [strv]
   rfl
  have k2 : HLe X1 (X1++[Ze.cells (u8s (sgn o)) 1 true false]):=.app _ _
  have s2 : Sl (X1++[Ze.cells (u8s (sgn o)) 1 true false]) (.slice (some ⟨X1.length,0,none⟩) (u8s (sgn o)).length (sgn o).length) (u8s (sgn o)):=Sl.one (es:=1) (g:=true) (ro:=false) Zv
  rw [Kh] at s2
  generalize X1++[Ze.cells (u8s (sgn o)) 1 true false]=X2 at es k2 s2
  generalize X1.length=q at es s2
  have hln : ZA (.slice (some ⟨q,0,none⟩) (sgn o).length (sgn o).length) X2=some (iv (sgn o).length,X2):=rfl
  obtain ⟨X3,e3,k3⟩:=Zyd (n:=n+3) (o:=o) (p1:=p1) (ZAL o) (by have:=Zxs o;omega) (sgn o).length 0 X2 _ (by omega) (by omega) (k2 _ _ c1) s2
  rw [List.drop_zero] at e3
  have e3 : Zi (c4 (W6.l1 (run Tryz.prog np lvs (n+4)))) [pt p1,.slice (some ⟨q,0,none⟩) (sgn o).length (sgn o).length,.int .i64 (sgn o).length,.int .i64 0] X2=_:=e3
  rw [Za Zj,Za (hl 0 _ rfl),Za hix,Za hsig,Za es,Za hln]
  have c3:=k3 _ _ (k2 _ _ c1)
  have hl3 : ∀ f x,o.cells[f]?=some x→ld1 (pa p1 f) X3=some (x,X3):=fun f x hx=>ZC c3 hx
  cases hall : (sgn o).all (Zi0 o) with
  | false=>
   rw [hall,if_neg (by simp)] at e3
   refine ⟨X3,?_,(k1.trans k2).trans k3⟩
   have hck : checkO o=4:=by unfold checkO;rw [if_neg (fun h=>h.elim (fun h=>by omega) (fun h=>h hbr)),hall,if_neg (by simp)]
   rw [hck,Kz e3]
   rfl
  | true=>
   rw [hall,if_pos rfl] at e3
   have hcl : checkO o=if 64 < o.a.length+o.b.length∨64 < (ZeA o).length then 3 else 0:=by unfold checkO;rw [if_neg (fun h=>h.elim (fun h=>by omega) (fun h=>h hbr)),hall,if_pos rfl]
   rw [hcl,QR e3,ZK,J8,Za Zj,Za (hl3 1 _ rfl),Za ZW,Za Zj,Za (hl3 2 _ rfl),Za ZW,Za ZG,w64 (by omega) (by omega)]
   have hgt : bop .int .gtr (.int .i64 ((o.a.length : Int)+o.b.length)) (.int .i64 64) X3=some (.bool (decide (64 < o.a.length+o.b.length)),X3):=by rw [Qd];congr 3;rw [decide_eq_decide];omega
   rw [Za hgt]
   by_cases hab : 64 < o.a.length+o.b.length
   ·refine ⟨X3,?_,(k1.trans k2).trans k3⟩
    rw [decide_eq_true hab,if_pos (.inl hab),Za (show gate (.bool true) false 4 _ X3=some ([Qi,Qi,Qi,Qi],X3) from rfl),ZI,Za Zm]
    rfl
   ·obtain ⟨v,qv,X4,e4,r4,l4⟩:=ZAE (n:=n) (X:=X3) ((hG1.le (k2.trans k3)).x) hk hok ha hb
    have hlv : ZA v X4=some (iv (ZeA o).length,X4):=by have:=r4.rd.len (H':=X4);rwa [Kh] at this
    have hg4 : bop .int .gtr (iv (ZeA o).length) (.int .i64 64) X4=some (.bool (decide (64 < (ZeA o).length)),X4):=by
     generalize (ZeA o).length=w
     have hq : decide ((w : Int) > 64)=decide (64 < w):=by rw [decide_eq_decide];omega
     rw [Qd,hq]
    refine ⟨X4,?_,((k1.trans k2).trans k3).trans l4⟩
    rw [decide_eq_false hab,Ql,Zl,Za (Qt (n:=5) c3 rfl),Zl,Za e4,Zl,Za hlv,Zl,Za hg4,QF,ZI,Za Zm]
    simp only [cond_false]
    by_cases hw : 64 < (ZeA o).length
    ·rw [decide_eq_true hw,if_pos (.inr hw)];rfl
    ·rw [decide_eq_false hw,if_neg (fun h=>h.elim hab hw)];rfl
 ·refine ⟨X1,?_,k1⟩
  have hck : checkO o=4:=by unfold checkO;rw [if_pos (.inr hbr)]
  rw [hck,decide_eq_false hbr,Zb,if_pos (by simp)]
  rfl
end Go.Proofs.YtgfbgfafajiehaaGreatDoor.A

namespace Go.Proofs.YtgfbgfafajiehaaGreatDoor.A
set_option linter.unusedVariables false
set_option linter.unusedSimpArgs false
open Go.Proofs Go.Proofs.YtgfbgfafajiehaaGreatDoor
variable {X X' Y : Zd} {n : Nat}
def Wl (r : JI) (lv : Value) : List Value:=[.int .u64 r.num,iv r.e,lv]
def YI (rows : List JI) (lvs : List Value) : List Value:=((rows.zip lvs).map fun p=>Wl p.1 p.2).flatten
structure ZyM (X : Zd) (lv : Value) (l : List Tx) (fr : List Nat) : Prop where
 sl : Sl X lv (l.map strv)
 one : oneCell lv=true
 fr : ∀ id,own1 lv=some id→id∈fr
 few : l.length≤1000
structure Tab (X : Zd) (t : Nat) (rows : List JI) (lvs : List Value) (fr : List Nat) : Prop where
 cell : X[t]?=some (.cells (YI rows lvs) 1 false false)
 n8 : rows.length=8
 l8 : lvs.length=8
 sep : ∀ (i : Nat) lv,lvs[i]?=some lv→own1 lv≠some t
 t : t∈fr
 lt : ∀ j∈fr,j < X.length
 txt : ∀ (i : Nat) r lv,rows[i]?=some r→lvs[i]?=some lv→ZyM X lv r.l fr
 err : ∀ r∈rows,r.e≠0→r.l=[]
theorem ZyM.keep {lv : Value} {l : List Tx} {fr : List Nat} (h : ZyM X lv l fr) (hk : ∀ j∈fr,X'[j]?=X[j]?) : ZyM X' lv l fr:=
 ⟨h.sl.keep fun id hi=>hk id (h.fr id hi),h.one,h.fr,h.few⟩
theorem Tab.keep {t : Nat} {rows : List JI} {lvs : List Value} {fr : List Nat} (h : Tab X t rows lvs fr) (hk : ∀ j∈fr,X'[j]?=X[j]?) (hl : X.length≤X'.length) : Tab X' t rows lvs fr:=
 ⟨by rw [hk t h.t];exact h.cell,h.n8,h.l8,h.sep,h.t,fun j hj=>Nat.lt_of_lt_of_le (h.lt j hj) hl,fun i r lv h1 h2=>(h.txt i r lv h1 h2).keep hk,h.err⟩
theorem Zxy {α β : Type} {l : List α} {m : List β} {i : Nat} {a : α} {b : β} (h1 : l[i]?=some a) (h2 : m[i]?=some b) : (l.zip m)[i]?=some (a,b):=by
 rw [List.getElem?_zip_eq_some]
 exact ⟨h1,h2⟩
theorem Zpt {rows : List JI} {lvs : List Value} : ∀ r∈(rows.zip lvs).map (fun p=>Wl p.1 p.2),r.length=3:=by
 intro r hr
 obtain ⟨p,_,rfl⟩:=List.mem_map.1 hr
 rfl
theorem Zkv {rows : List JI} {lvs : List Value} {i : Nat} {r : JI} {lv : Value} (hr : rows[i]?=some r) (hl : lvs[i]?=some lv) : ((YI rows lvs).drop (i * 3)).take 3=Wl r lv:=by
 have h1 : ((rows.zip lvs).map (fun p=>Wl p.1 p.2))[i]?=some (Wl r lv):=by rw [List.getElem?_map,Zxy hr hl];rfl
 have:=Zjj (rest:=[]) Zpt h1
 rwa [List.append_nil] at this
theorem ZoR {rows : List JI} {lvs : List Value} {i : Nat} {r : JI} {lv : Value} (hr : rows[i]?=some r) (hl : lvs[i]?=some lv) {f : Nat} {v : Value} (hv : (Wl r lv)[f]?=some v) : (YI rows lvs)[i * 3+f]?=some v:=by
 rw [← Zkv hr hl,List.getElem?_take] at hv
 split at hv
 ·rwa [List.getElem?_drop] at hv
 ·cases hv
theorem Zmv {rows : List JI} {lvs : List Value} (h1 : rows.length=8) (h2 : lvs.length=8) : (YI rows lvs).length=24:=by
 have:=Zbh (es:=3) (rows:=(rows.zip lvs).map fun p=>Wl p.1 p.2) Zpt
 unfold YI
 rw [this]
 simp [h1,h2]
theorem Tab.row {t : Nat} {rows : List JI} {lvs : List Value} {fr : List Nat} (h : Tab X t rows lvs fr) {c : Nat} (hc : c < 8) : ∃ r lv,rows[c]?=some r∧lvs[c]?=some lv:=
 ⟨rows[c]'(by rw [h.n8];exact hc),lvs[c]'(by rw [h.l8];exact hc),List.getElem?_eq_getElem _,List.getElem?_eq_getElem _⟩
theorem Tab.ix {c t : Nat} (hc : c < 8) : ZaC 8 3 (pa t 0) (.int .u8 c) X=some (pa t (c * 3),X):=by
 rw [QS,if_pos ⟨by omega,by omega⟩]
 simp
theorem Zwl {a : Nat} : R (n+1) Ko [.int .u64 a] X=some (.bool false,X):=by
 rw [R,Zmb rfl]
 unfold ZdJ
 rw [Za Zk]
 simp [ret]
theorem ZEW {a b : Nat} : R (n+2) Wz [.int .u64 a,.int .u64 b] X=some (iv (if a < b then -1 else if b < a then 1 else 0),X):=by
 rw [R,ZjZ rfl]
 unfold Zcy
 have e1 : R (n+1) Ko [.int .u64 a] X=_:=Zwl
 have e2 : R (n+1) Ko [.int .u64 b] X=_:=Zwl
 have q1 : bop .int .lss (.int .u64 a) (.int .u64 b) X=some (.bool (decide (a < b)),X):=by
  have hq : decide ((a : Int) < b)=decide (a < b):=by rw [decide_eq_decide];omega
  rw [Zu,hq]
 have q2 : bop .int .gtr (.int .u64 a) (.int .u64 b) X=some (.bool (decide (b < a)),X):=by
  have hq : decide ((a : Int) > b)=decide (b < a):=by rw [decide_eq_decide];omega
  rw [Qd,hq]
 rw [Za e1,Za e2,Zb,if_neg (by simp),Zb,if_neg (by simp),Za q1]
 by_cases h1 : a < b
 ·rw [decide_eq_true h1,Zb,if_pos rfl,if_pos h1];rfl
 ·rw [decide_eq_false h1,Zb,if_neg (by simp),if_neg h1,Za q2]
  by_cases h2 : b < a
  ·rw [decide_eq_true h2,Zb,if_pos rfl,if_pos h2];rfl
  ·rw [decide_eq_false h2,Zb,if_neg (by simp),if_neg h2];rfl
theorem ZsN {rows : List JI} {c m : Nat} (h : 8≤c∨m=0∨1099511627776 < m) : judgeS rows c m=0:=by unfold judgeS;rw [if_pos h]
theorem Zxw {t c m : Nat} {rows : List JI} {lvs : List Value} {fr : List Nat} (h : Tab X t rows lvs fr) : R (n+3) YZ [pt t,.int .u8 c,.int .u64 m] X=some (iv (judgeS rows c m),X):=by
 rw [R,ZkW rfl]
 unfold Zdq
 have q1 : bop .int .geq (.int .u8 c) (.int .u8 8) X=some (.bool (decide (8≤c)),X):=by rw [Qm];congr 3;rw [decide_eq_decide];omega
 have q2 : bop .int .eql (.int .u64 m) (.int .u64 0) X=some (.bool (decide (m=0)),X):=by
  rw [ZE];congr 3
  by_cases h : m=0
  ·subst h;rfl
  ·rw [decide_eq_false h];simpa using h
 have q3 : bop .int .gtr (.int .u64 m) (.int .u64 1099511627776) X=some (.bool (decide (1099511627776 < m)),X):=by rw [Qd];congr 3;rw [decide_eq_decide];omega
 rw [Za q1]
 by_cases h1 : 8≤c
 ·rw [decide_eq_true h1,ZsN (.inl h1),Za (show gate (.bool true) false 2 _ X=some ([Qi,Qi],X) from rfl),Qn,Za Zm]
  simp only [cond_true]
  rw [Za (show gate (.bool true) false 2 _ X=some ([Qi,Qi],X) from rfl),Qn,Za Zm]
  rfl
 rw [decide_eq_false h1,Ql,Zl,Za q2,QF,Qn,Za Zm]
 simp only [cond_false]
 by_cases h2 : m=0
 ·rw [decide_eq_true h2,ZsN (.inr (.inl h2)),Za (show gate (.bool true) false 2 _ X=some ([Qi,Qi],X) from rfl),Qn,Za Zm]
  rfl
 rw [decide_eq_false h2,Ql,Zl,Za q3,QF,Qn,Za Zm]
 simp only [cond_false]
 by_cases h3 : 1099511627776 < m
 ·rw [decide_eq_true h3,ZsN (.inr (.inr h3)),Zb,if_pos rfl]
  rfl
 have hc : c < 8:=by omega
 obtain ⟨r,lv,hr,hl⟩:=h.row hc
 have hj : judgeS rows c m=if m < r.num then 1 else if m=r.num then 2 else 3:=by
  unfold judgeS
  rw [if_neg (by omega),hr]
 have e1 : ld1 (pa t (c * 3)) X=some (.int .u64 r.num,X):=ZC h.cell (by have:=ZoR hr hl (f:=0) (v:=.int .u64 r.num) rfl;simpa using this)
 have e2 : R (n+2) Wz [.int .u64 m,.int .u64 r.num] X=_:=ZEW (n:=n)
 rw [decide_eq_false h3,Zb,if_neg (by simp),Za Zg,Za Zj,Za (Tab.ix hc),Za (show fa 0 (pa t (c * 3)) X=some (pa t (c * 3),X) from by rw [YA,Nat.add_zero]),Za e1,Za e2,Za ZG,hj]
 by_cases h4 : m < r.num
 ·rw [if_pos h4,if_pos h4];rfl
 ·rw [if_neg h4,if_neg h4]
  by_cases h5 : r.num < m
  ·rw [if_pos h5,if_neg (by omega)];rfl
  ·rw [if_neg h5,if_pos (by omega)];rfl
theorem ZBW {lv : Value} {l : List Tx} (h : Sl X lv (l.map strv)) (hl : l.length≤100000) : ∃ v q X',R (n+1) Yu [lv] X=some (v,X')∧Zo X' v (l.map strv) q∧HLe X X'∧∀ j∈q,X.length≤j:=by
 have hlm : (l.map strv).length=l.length:=List.length_map _
 rw [R,Zgd rfl]
 unfold WY
 rcases h.isnil (H':=X) with ⟨rfl,h0,e⟩ | e
 ·refine ⟨.slice none 0 0,[],X,?_,by rw [h0];exact Zo.nil,.refl _,by simp⟩
  rw [Za e]
  rfl
 ·have hb2 : Sl (X++[.cells [] 1 false false]) lv (l.map strv):=h.mono (.app _ _)
  obtain ⟨sl',X',own',e2,hr,hle,ho⟩:=Zz2 (b:=16) hb2 (by rw [hlm];omega) (by rw [hlm];omega) (s:=.slice (some ⟨X.length,0,none⟩) 0 0) (.inr ⟨X.length,false,rfl,Zv,rfl⟩)
  refine ⟨sl',own',X',?_,hr,(HLe.app _ _).trans hle,fun j hj=>?_⟩
  ·rw [Za e,Zb,if_neg (by simp),Za ZEm,Za e2]
   rfl
  ·rcases ho j hj with h | ⟨_,h⟩
   ·simp at h;omega
   ·cases h;exact Nat.le_refl _
def Za0 (e : Int) (l : List Tx) : List Tx:=if e=0 then l else []
theorem Zwq {e : Int} {lv : Value} {l : List Tx} (h : Sl X lv (l.map strv)) (hl : l.length≤1000) (h1 : oneCell lv=true) : ∃ v q X',R (n+2) Ww [.agg #[iv e,lv]] X=some (.agg #[iv e,v],X')∧Zo X' v ((Za0 e l).map strv) q∧HLe X X'∧∀ j∈q,X.length≤j:=by
 have a1 : alc 1 (.agg #[iv e,lv]) X=some (pt X.length,X++[.cells [iv e,lv] 1 false false]):=by
  unfold alc ZyR
  rw [if_pos (by simp [Value.cells,oneCell,h1] <;> exact h1)]
  rfl
 have k1 : HLe X (X++[Ze.cells [iv e,lv] 1 false false]):=.app _ _
 have c1 : (X++[Ze.cells [iv e,lv] 1 false false])[X.length]?=some (.cells [iv e,lv] 1 false false):=Zv
 have n1 : X.length≤X.length:=Nat.le_refl _
 generalize X++[Ze.cells [iv e,lv] 1 false false]=X1 at a1 k1 c1
 generalize hp1 : X.length=p1 at a1 c1 n1
 have a2 : alc 1 (.agg #[.int .i64 0,.slice none 0 0]) X1=some (pt X1.length,X1++[.cells [.int .i64 0,.slice none 0 0] 1 false false]):=rfl
 have k2 : HLe X1 (X1++[Ze.cells [.int .i64 0,.slice none 0 0] 1 false false]):=.app _ _
 have c2 : (X1++[Ze.cells [.int .i64 0,.slice none 0 0] 1 false false])[X1.length]?=some (.cells [.int .i64 0,.slice none 0 0] 1 false false):=Zv
 have hlt:=ZX c1
 have d1:=k2 _ _ c1
 generalize X1++[Ze.cells [.int .i64 0,.slice none 0 0] 1 false false]=X2 at a2 k2 c2 d1
 generalize hp2 : X1.length=p2 at a2 c2
 have hne : p2≠p1:=by omega
 have k12:=k1.trans k2
 rw [R,Zsd rfl]
 unfold Zhp
 rw [Za a1,Za a2,Za Zj,Za (ZC d1 rfl),Za Zk]
 by_cases he : e=0
 ·subst he
  obtain ⟨v,q,X3,e3,r3,l3,o3⟩:=ZBW (n:=n) (h.mono k12) (by omega)
  have e3 : R (n+1) Yu [lv] X2=_:=e3
  have f1:=l3 _ _ d1
  have f2:=l3 _ _ c2
  have s4 : st1 (pa p1 1) v X3=some (undef,X3.set p1 (.cells [iv 0,v] 1 false false)):=ZhX (o:=1) f1 (by simp) r3.one.1
  have g1 : (X3.set p1 (.cells [iv 0,v] 1 false false))[p1]?=some (.cells [iv 0,v] 1 false false):=Qa f1
  have g2 : (X3.set p1 (.cells [iv 0,v] 1 false false))[p2]?=some (.cells [.int .i64 0,.slice none 0 0] 1 false false):=by rw [List.getElem?_set_ne (Ne.symm hne)];exact f2
  have k4 : HLe X (X3.set p1 (.cells [iv 0,v] 1 false false)):=(k12.trans l3).put (by omega)
  have r4 : Zo (X3.set p1 (.cells [iv 0,v] 1 false false)) v (l.map strv) q:=r3.keep fun j hj=>List.getElem?_set_ne (fun e=>by have:=o3 j hj;have:=k2.len;have:=ZX d1;omega)
  generalize X3.set p1 (.cells [iv 0,v] 1 false false)=X4 at s4 g1 g2 k4 r4
  have s5 : stA 2 (pt p2) (.agg #[iv 0,v]) X4=some (undef,X4.set p2 (.cells [iv 0,v] 1 false false)):=Zb3 (vs:=[iv 0,v]) g2 rfl rfl (by rw [List.all_cons,List.all_cons,r4.one.1];rfl)
  have g3 : (X4.set p2 (.cells [iv 0,v] 1 false false))[p2]?=some (.cells [iv 0,v] 1 false false):=Qa g2
  have hp2l : p2 < X2.length:=ZX c2
  refine ⟨v,q,X4.set p2 (.cells [iv 0,v] 1 false false),?_,?_,k4.put (by omega),fun j hj=>by have:=o3 j hj;have:=k12.len;omega⟩
  ·rw [Zb,if_neg (by simp),Za Zj,Za (ZC d1 rfl),Za e3,Za Zj,Za s4,Za (Qt (n:=2) g1 rfl),Za s5,Za (Qt (n:=2) g3 rfl)]
   rfl
  ·rw [show Za0 0 l=l from rfl]
   exact r4.keep fun j hj=>List.getElem?_set_ne (fun e=>by have:=o3 j hj;omega)
 ·have hb : bld (.agg #[.int .i64 0,.slice none 0 0]) [(0,1,iv e)] X2=some (.agg #[iv e,.slice none 0 0],X2):=rfl
  have s5 : stA 2 (pt p2) (.agg #[iv e,.slice none 0 0]) X2=some (undef,X2.set p2 (.cells [iv e,.slice none 0 0] 1 false false)):=Zb3 (vs:=[iv e,.slice none 0 0]) c2 rfl rfl rfl
  have g3 : (X2.set p2 (.cells [iv e,.slice none 0 0] 1 false false))[p2]?=some (.cells [iv e,.slice none 0 0] 1 false false):=Qa c2
  refine ⟨.slice none 0 0,[],X2.set p2 (.cells [iv e,.slice none 0 0] 1 false false),?_,?_,k12.put (by omega),by simp⟩
  ·rw [Zb,if_pos (by simpa using he),Za Zj,Za (ZC d1 rfl),Za hb,Za s5,Za (Qt (n:=2) g3 rfl)]
   rfl
  ·rw [show Za0 e l=[] from if_neg he]
   exact Zo.nil
end Go.Proofs.YtgfbgfafajiehaaGreatDoor.A

namespace Go.Proofs.YtgfbgfafajiehaaGreatDoor.A
set_option linter.unusedVariables false
set_option linter.unusedSimpArgs false
open Go.Proofs Go.Proofs.YtgfbgfafajiehaaGreatDoor
variable {X X' Y : Zd} {n : Nat}
def Zli : List JI:=List.replicate 8 ⟨0,0,[]⟩
theorem Zy7 : R (n+1) ZcV [] X=some (pt X.length,X++[.cells (YI Zli (List.replicate 8 (.slice none 0 0))) 1 false false]):=by
 rw [R,ZvC rfl]
 rfl
theorem ZD2 {fr : List Nat} (h : X.length∈fr) (hl : ∀ j∈fr,j < X.length+1) : Tab (X++[.cells (YI Zli (List.replicate 8 (.slice none 0 0))) 1 false false]) X.length Zli (List.replicate 8 (.slice none 0 0)) fr:=by
 refine ⟨Zv,rfl,rfl,fun i lv h2=>?_,h,by simpa using hl,fun i r lv h1 h2=>?_,fun r hr h=>?_⟩
 ·rw [List.eq_of_mem_replicate (List.mem_of_getElem? h2)]
  intro e
  cases e
 ·have e1:=List.mem_of_getElem? h1
  have e2:=List.mem_of_getElem? h2
  rw [List.eq_of_mem_replicate e1,List.eq_of_mem_replicate e2]
  exact ⟨Sl.nil,rfl,(fun id hi=>by cases hi),by simp⟩
 ·rw [List.eq_of_mem_replicate hr]
theorem Zxv {id o k es : Nat} {cs : List Value} {g ro : Bool} (h : X[id]?=some (.cells cs es g ro)) (hk : o+k≤cs.length) : ldA k (pa id o) X=some (.agg ((cs.drop o).take k).toArray,X):=by
 unfold ldA
 simp only
 rw [h]
 simp only
 rw [if_pos hk]
theorem ZCR {id o k es : Nat} {cs vs : List Value} {g : Bool} (h : X[id]?=some (.cells cs es g false)) (hk : o+k≤cs.length) (hv : vs.length=k) (h1 : vs.all oneCell=true) : stA k (pa id o) (.agg vs.toArray) X=some (undef,X.set id (.cells (splice cs vs o) es g false)):=by
 unfold stA
 simp only
 rw [h]
 simp only
 rw [if_pos ⟨hk,by simpa using hv,by simpa using h1⟩]
theorem Zon {es : Nat} {row : List Value} (hrow : row.length=es) : ∀ {rows : List (List Value)} {i : Nat},(∀ r∈rows,r.length=es)→i < rows.length→splice rows.flatten row (i * es)=(rows.set i row).flatten
 | [],i,_,h=>by simp at h
 | r :: rows,0,hr,h=>by
  have : r.length=es:=hr r (by simp)
  unfold splice
  simp [this,hrow]
 | r :: rows,i+1,hr,h=>by
  have h1 : r.length=es:=hr r (by simp)
  have h2:=Zon hrow (fun x hx=>hr x (by simp [hx])) (rows:=rows) (i:=i) (by simpa using h)
  have:=Zp3 (pre:=r) (m:=rows.flatten) (new:=row) (o:=i * es)
  rw [List.flatten_cons,show (i+1) * es=r.length+i * es by rw [h1,Nat.add_mul];omega,this,h2]
  rfl
theorem ZDl {rows : List JI} {lvs : List Value} {c : Nat} {r : JI} {lv : Value} (h1 : rows.length=8) (h2 : lvs.length=8) (hc : c < 8) : splice (YI rows lvs) (Wl r lv) (c * 3)=YI (rows.set c r) (lvs.set c lv):=by
 unfold YI
 rw [Zon (es:=3) (row:=Wl r lv) rfl Zpt (by simp [h1,h2,hc])]
 congr 1
 rw [← List.map_set (f:=fun p : JI × Value=>Wl p.1 p.2) (a:=(r,lv))]
 congr 1
 apply List.ext_getElem?
 intro i
 rw [List.getElem?_set]
 by_cases e : c=i
 ·subst e
  have a1 : (rows.set c r)[c]?=some r:=List.getElem?_set_self (by omega)
  have a2 : (lvs.set c lv)[c]?=some lv:=List.getElem?_set_self (by omega)
  rw [if_pos rfl,Zxy a1 a2,if_pos (by simp [h1,h2,hc])]
 ·rw [if_neg e]
  apply Option.ext
  intro p
  rw [List.getElem?_zip_eq_some,List.getElem?_zip_eq_some,List.getElem?_set_ne e,List.getElem?_set_ne e]
theorem ZC1 {t c : Nat} {rows : List JI} {lvs : List Value} {fr : List Nat} {r : JI} (h : Tab X t rows lvs fr) (hc : c < 8) (hr : rows[c]?=some r) : ∃ v q X',R (n+3) KS [pt t,.int .u8 c] X=some (.agg #[iv r.e,v],X')∧Zo X' v (r.l.map strv) q∧HLe X X'∧∀ j∈q,X.length≤j:=by
 obtain ⟨r',lv,hr',hl⟩:=h.row hc
 rw [hr] at hr'
 cases hr'
 have ht:=h.txt c r lv hr hl
 have hkeep : Za0 r.e r.l=r.l:=by
  unfold Za0
  split
  ·rfl
  ·rename_i he
   exact (h.err r (List.mem_of_getElem? hr) (fun e0=>he (by rw [e0];rfl))).symm
 have a2 : alc 1 (.agg #[.int .i64 0,.slice none 0 0]) X=some (pt X.length,X++[.cells [.int .i64 0,.slice none 0 0] 1 false false]):=rfl
 have k2 : HLe X (X++[Ze.cells [.int .i64 0,.slice none 0 0] 1 false false]):=.app _ _
 have c2 : (X++[Ze.cells [.int .i64 0,.slice none 0 0] 1 false false])[X.length]?=some (.cells [.int .i64 0,.slice none 0 0] 1 false false):=Zv
 have n1 : X.length≤X.length:=Nat.le_refl _
 generalize X++[Ze.cells [.int .i64 0,.slice none 0 0] 1 false false]=X2 at a2 k2 c2
 generalize hp2 : X.length=p2 at a2 c2 n1
 have hcell:=k2 _ _ h.cell
 have hlen:=Zmv h.n8 h.l8
 have hd : ((YI rows lvs).drop (c * 3+1)).take 2=[iv r.e,lv]:=by
  have:=congrArg (List.drop 1) (Zkv hr hl)
  rw [List.drop_take,List.drop_drop] at this
  simpa [Wl] using this
 have q1 : bop .int .geq (.int .u8 c) (.int .u8 8) X2=some (.bool false,X2):=by rw [Qm,decide_eq_false (by omega)]
 have e3 : ldA 2 (pa t (c * 3+1)) X2=some (.agg #[iv r.e,lv],X2):=by rw [Zxv hcell (by rw [hlen];omega),hd]
 obtain ⟨v,q,X3,e4,r4,l4,o4⟩:=Zwq (n:=n) (e:=r.e) (ht.sl.mono k2) ht.few ht.one
 rw [hkeep] at r4
 have f2:=l4 _ _ c2
 have s5 : stA 2 (pt p2) (.agg #[iv r.e,v]) X3=some (undef,X3.set p2 (.cells [iv r.e,v] 1 false false)):=Zb3 (vs:=[iv r.e,v]) f2 rfl rfl (by rw [List.all_cons,List.all_cons,r4.one.1];rfl)
 have g3 : (X3.set p2 (.cells [iv r.e,v] 1 false false))[p2]?=some (.cells [iv r.e,v] 1 false false):=Qa f2
 have hp2l : p2 < X2.length:=ZX c2
 refine ⟨v,q,X3.set p2 (.cells [iv r.e,v] 1 false false),?_,r4.keep fun j hj=>List.getElem?_set_ne (fun e=>by have:=o4 j hj;omega),(k2.trans l4).put (by omega),fun j hj=>by have:=o4 j hj;have:=k2.len;omega⟩
 have e4 : R (n+2) Ww [.agg #[iv r.e,lv]] X2=_:=e4
 rw [R,Zk5 rfl]
 unfold Zdh
 rw [Za a2,Za q1,Zb,if_neg (by simp),Za Zg,Za Zj,Za (Tab.ix hc),Za (show fa 1 (pa t (c * 3)) X2=some (pa t (c * 3+1),X2) from by rw [YA]),Za e3,Za e4,Za s5,Za (Qt (n:=2) g3 rfl)]
 rfl
def Zo8 (rows : List JI) (c m : Nat) : Nat:=match judgeS rows c m with
 | 0=>1
 | 3=>0
 | _=>12
def Zo5 (rows : List JI) (c m e : Nat) (l : List Tx) : List JI:=if judgeS rows c m=3 then rows.set c ⟨m,e,Za0 e l⟩ else rows
theorem ZB5 {rows : List JI} {c m : Nat} (h : judgeS rows c m=3) : c < 8:=by
 unfold judgeS at h
 split at h
 ·cases h
 ·omega
theorem ZBE (rows : List JI) (c m : Nat) : judgeS rows c m≤3:=by
 unfold judgeS
 split
 ·omega
 ·split
  ·split
   ·omega
   ·split <;> omega
  ·omega
theorem ZCb {e : Int} {l : List Tx} : (Za0 e l).length≤l.length:=by
 unfold Za0
 split
 ·exact Nat.le_refl _
 ·exact Nat.zero_le _
theorem Tab.put {t c m e : Nat} {rows : List JI} {lvs : List Value} {fr q : List Nat} {l : List Tx} {v : Value} (h : Tab X t rows lvs fr) (hc : c < 8) (hr : Zo X v ((Za0 e l).map strv) q) (hl : l.length≤1000) (ht : t∉q) (hX : X'[t]?=some (.cells (YI (rows.set c ⟨m,e,Za0 e l⟩) (lvs.set c v)) 1 false false)) (hn : X.length≤X'.length) (hk : ∀ j,j≠t→X'[j]?=X[j]?) : Tab X' t (rows.set c ⟨m,e,Za0 e l⟩) (lvs.set c v) (fr++q):=by
 have hr' : Zo X' v ((Za0 e l).map strv) q:=hr.keep fun j hj=>hk j (fun e=>ht (e ▸ hj))
 refine ⟨hX,by simpa using h.n8,by simpa using h.l8,fun i lv h2=>?_,by simp [h.t],fun j hj=>?_,fun i r lv h1 h2=>?_,fun r hr1 he=>?_⟩
 ·by_cases e1 : c=i
  ·subst e1
   rw [List.getElem?_set_self (by rw [h.l8];exact hc)] at h2
   cases h2
   exact fun hi=>ht (hr'.own_of hi)
  ·rw [List.getElem?_set_ne e1] at h2
   exact h.sep i lv h2
 ·rcases List.mem_append.1 hj with h1 | h1
  ·exact Nat.lt_of_lt_of_le (h.lt j h1) hn
  ·exact hr'.lt j h1
 ·by_cases e1 : c=i
  ·subst e1
   rw [List.getElem?_set_self (by rw [h.n8];exact hc)] at h1
   rw [List.getElem?_set_self (by rw [h.l8];exact hc)] at h2
   cases h1
   cases h2
   exact ⟨hr'.rd,hr'.one.1,(fun id hi=>List.mem_append_right _ (hr'.own_of hi)),Nat.le_trans ZCb hl⟩
  ·rw [List.getElem?_set_ne e1] at h1 h2
   have:=h.txt i r lv h1 h2
   exact ⟨this.sl.keep fun id hi=>hk id (fun e=>h.sep i lv h2 (e ▸ hi)),this.one,(fun id hi=>List.mem_append_left _ (this.fr id hi)),this.few⟩
 ·rcases List.mem_or_eq_of_mem_set hr1 with h1 | h1
  ·exact h.err r h1 he
  ·subst h1
   show Za0 _ _=_
   exact if_neg (fun h0=>he (by exact_mod_cast h0))
theorem ZE6 {t c m e : Nat} {rows : List JI} {lvs : List Value} {fr : List Nat} {l : List Tx} {lv : Value} (h : Tab X t rows lvs fr) (hs : Sl X lv (l.map strv)) (hl : l.length≤1000) (h1 : oneCell lv=true) :
  ∃ X' lvs' q,R (n+4) ZaX [pt t,.int .u8 c,.int .u64 m,.agg #[iv e,lv]] X=some (iv (Zo8 rows c m),X')∧Tab X' t (Zo5 rows c m e l) lvs' (fr++q)∧X.length≤X'.length∧(∀ j,j < X.length→j≠t→X'[j]?=X[j]?)∧∀ j∈q,X.length≤j:=by
 have a1 : alc 1 (.agg #[iv e,lv]) X=some (pt X.length,X++[.cells [iv e,lv] 1 false false]):=by
  unfold alc ZyR
  rw [if_pos (by simp [Value.cells,oneCell,h1] <;> exact h1)]
  rfl
 have k1 : HLe X (X++[Ze.cells [iv e,lv] 1 false false]):=.app _ _
 have c1 : (X++[Ze.cells [iv e,lv] 1 false false])[X.length]?=some (.cells [iv e,lv] 1 false false):=Zv
 have t1 : Tab (X++[Ze.cells [iv e,lv] 1 false false]) t rows lvs fr:=h.keep (fun j hj=>List.getElem?_append_left (h.lt j hj)) (by simp)
 generalize X++[Ze.cells [iv e,lv] 1 false false]=X1 at a1 k1 c1 t1
 obtain ⟨p1,hp1⟩ : ∃ p,p=X.length:=⟨_,rfl⟩
 rw [← hp1] at a1 c1
 have htl : t < X.length:=h.lt t h.t
 have old1 : ∀ j,j < X.length→X1[j]?=X[j]?:=fun j hj=>by rw [List.getElem?_eq_getElem hj];exact k1 _ _ (List.getElem?_eq_getElem hj)
 have ej : R (n+3) YZ [pt t,.int .u8 c,.int .u64 m] X1=some (iv (judgeS rows c m),X1):=Zxw t1
 rw [R,Zno rfl]
 unfold ZeS
 rw [Za a1,Za ej,Za ZE]
 by_cases j0 : judgeS rows c m=0
 ·refine ⟨X1,lvs,[],?_,?_,k1.len,fun j hj _=>old1 j hj,by simp⟩
  ·rw [j0,show Zo8 rows c m=1 by unfold Zo8;rw [j0];rfl]
   rfl
  ·rw [show Zo5 rows c m e l=rows by unfold Zo5;rw [if_neg (by omega)],List.append_nil]
   exact t1
 have q1 : ((judgeS rows c m : Int)==0)=false:=by simpa using j0
 rw [q1,Zb,if_neg (by simp),Za ZE]
 by_cases j3 : judgeS rows c m=3
 ·have hc:=ZB5 j3
  obtain ⟨v,q,X2,e2,r2,l2,o2⟩:=Zwq (n:=n+1) (e:=(e : Int)) (hs.mono k1) hl h1
  have e2 : R (n+3) Ww [.agg #[iv e,lv]] X1=_:=e2
  have c2:=l2 _ _ t1.cell
  have t2 : Tab X2 t rows lvs fr:=t1.keep (fun j hj=>by rw [List.getElem?_eq_getElem (t1.lt j hj)];exact l2 _ _ (List.getElem?_eq_getElem (t1.lt j hj))) l2.len
  have old2 : ∀ j,j < X.length→X2[j]?=X[j]?:=fun j hj=>by
   have hj1 : j < X1.length:=Nat.lt_of_lt_of_le hj k1.len
   have e3:=l2 _ _ (List.getElem?_eq_getElem hj1)
   rw [← List.getElem?_eq_getElem hj1] at e3
   rw [e3]
   exact old1 j hj
  have hb : bld (.agg #[.int .u64 0,.int .i64 0,.slice none 0 0]) [(0,1,.int .u64 m),(1,2,.agg #[iv e,v])] X2=some (.agg #[.int .u64 m,iv e,v],X2):=by
   rw [JL]
   rfl
  have hlen:=Zmv h.n8 h.l8
  have s3 : stA 3 (pa t (c * 3)) (.agg #[.int .u64 m,iv e,v]) X2=some (undef,X2.set t (.cells (YI (rows.set c ⟨m,e,Za0 e l⟩) (lvs.set c v)) 1 false false)):=by
   have:=ZCR (vs:=Wl ⟨m,e,Za0 e l⟩ v) (o:=c * 3) (k:=3) c2 (by rw [hlen];omega) rfl (by unfold Wl;rw [List.all_cons,List.all_cons,List.all_cons,r2.one.1];rfl)
   rw [ZDl h.n8 h.l8 hc] at this
   exact this
  refine ⟨X2.set t (.cells (YI (rows.set c ⟨m,e,Za0 e l⟩) (lvs.set c v)) 1 false false),lvs.set c v,q,?_,?_,?_,fun j hj hne=>?_,fun j hj=>Nat.le_trans k1.len (o2 j hj)⟩
  ·rw [j3,show Zo8 rows c m=0 by unfold Zo8;rw [j3];rfl]
   rw [Zb,if_pos (show (((3 : Nat) : Int)==3)=true from rfl),Za (Qt (n:=2) c1 rfl),Za Zg,Za Zj,Za e2,Za hb,Za (Tab.ix hc),Za s3]
   rfl
  ·rw [show Zo5 rows c m e l=rows.set c ⟨m,e,Za0 e l⟩ by unfold Zo5;rw [if_pos j3]]
   exact t2.put hc r2 hl (fun hq=>by have:=o2 t hq;have:=k1.len;omega) (Qa c2) (by simp) (fun j hj=>List.getElem?_set_ne (fun e=>hj e.symm))
  ·simp only [List.length_set]
   exact Nat.le_trans k1.len l2.len
  ·rw [List.getElem?_set_ne (fun e=>hne e.symm)]
   exact old2 j hj
 ·refine ⟨X1,lvs,[],?_,?_,k1.len,fun j hj _=>old1 j hj,by simp⟩
  ·have q3 : ((judgeS rows c m : Int)==3)=false:=by
    rw [beq_eq_false_iff_ne]
    omega
   have hp : Zo8 rows c m=12:=by
    unfold Zo8
    have:=ZBE rows c m
    generalize judgeS rows c m=k at *
    match k with
    | 0=>exact absurd rfl j0
    | 1=>rfl
    | 2=>rfl
    | 3=>exact absurd rfl j3
    | k+4=>omega
   rw [q3,hp,Zb,if_neg (by simp)]
   rfl
  ·rw [show Zo5 rows c m e l=rows by unfold Zo5;rw [if_neg j3],List.append_nil]
   exact t1
end Go.Proofs.YtgfbgfafajiehaaGreatDoor.A

namespace Go.Proofs.YtgfbgfafajiehaaGreatDoor.A
set_option linter.unusedVariables false
set_option linter.unusedSimpArgs false
open Go.Proofs Go.Proofs.YtgfbgfafajiehaaGreatDoor
variable {X X' Y : Zd} {n : Nat}
def rlv (k : Nat) : Value:=.int .u8 k
structure Brd (X : Zd) (b : Nat) (l : List Nat) (q : List Nat) : Prop where
 at_ : ∃ sl,X[b]?=some (.cells [sl] 1 false false)∧Zo X sl (l.map rlv) q
 out : b∉q
 few : l.length≤7
 rel : ∀ r∈l,r≤3
 one : l≠[]
theorem Brd.keep {b : Nat} {l q : List Nat} (h : Brd X b l q) (hk : ∀ j,j=b∨j∈q→X'[j]?=X[j]?) : Brd X' b l q:=by
 obtain ⟨sl,h1,h2⟩:=h.at_
 exact ⟨⟨sl,by rw [hk b (.inl rfl)];exact h1,h2.keep fun j hj=>hk j (.inr hj)⟩,h.out,h.few,h.rel,h.one⟩
theorem Brd.lt {b : Nat} {l q : List Nat} (h : Brd X b l q) : ∀ j,j=b∨j∈q→j < X.length:=by
 obtain ⟨sl,h1,h2⟩:=h.at_
 rintro j (rfl | hj)
 ·exact ZX h1
 ·exact h2.lt j hj
theorem Brd.hle {b : Nat} {l q : List Nat} (h : Brd X b l q) (hk : HLe X X') : Brd X' b l q:=
 h.keep fun j hj=>by have:=h.lt j hj;rw [List.getElem?_eq_getElem this];exact hk _ _ (List.getElem?_eq_getElem this)
theorem ZzO : R (n+1) Zdz [.int .i64 3] X=some (pt (X++[Ze.cells [.int .u8 0,.int .u8 0,.int .u8 0] 1 false false]).length,X++[Ze.cells [.int .u8 0,.int .u8 0,.int .u8 0] 1 false false]++[.cells [.slice (some ⟨X.length,0,none⟩) 3 3] 1 false false]):=by
 rw [R,Zt1 rfl]
 rfl
theorem ZDq : Brd (X++[Ze.cells [.int .u8 0,.int .u8 0,.int .u8 0] 1 false false]++[.cells [.slice (some ⟨X.length,0,none⟩) 3 3] 1 false false]) (X++[Ze.cells [.int .u8 0,.int .u8 0,.int .u8 0] 1 false false]).length [0,0,0] [X.length]:=by
 refine ⟨⟨_,Zv,.inr ⟨X.length,[],false,rfl,rfl,?_⟩⟩,by simp,by simp,by simp,by simp⟩
 rw [List.getElem?_append_left (by simp)]
 exact Zv
def ZdD (l : List Nat) (a r : Nat) : Nat:=if l.length≤a∨r < 1∨3 < r then 1 else 0
def Znj (l : List Nat) (a r : Nat) : List Nat:=if l.length≤a∨r < 1∨3 < r then l else l.set a r
theorem ZEr {b a r : Nat} {l q : List Nat} (h : Brd X b l q) (ha : a < 256) : ∃ X',R (n+1) WM [pt b,.int .u8 a,.int .u8 r] X=some (iv (ZdD l a r),X')∧Brd X' b (Znj l a r) q∧Zr q X q X'∧X'.length=X.length:=by
 obtain ⟨sl,h1,h2⟩:=h.at_
 have hl : ZA sl X=some (iv l.length,X):=by have:=h2.rd.len (H':=X);simpa using this
 have q1 : bop .int .geq (iv a) (iv l.length) X=some (.bool (decide (l.length≤a)),X):=by
  rw [Qm]
  have hq : decide ((l.length : Int)≤(a : Int))=decide (l.length≤a):=by rw [decide_eq_decide];omega
  rw [hq]
 have q2 : bop .int .lss (.int .u8 r) (.int .u8 1) X=some (.bool (decide (r < 1)),X):=by
  rw [Zu]
  have hq : decide ((r : Int) < 1)=decide (r < 1):=by rw [decide_eq_decide];omega
  rw [hq]
 have q3 : bop .int .gtr (.int .u8 r) (.int .u8 3) X=some (.bool (decide (3 < r)),X):=by
  rw [Qd]
  have hq : decide ((3 : Int) < r)=decide (3 < r):=by rw [decide_eq_decide];omega
  rw [hq]
 have q0 : cvi .i64 (.int .u8 (a : Int)) X=some (iv a,X):=by
  rw [QC,w64 (by omega) (by omega)]
 rw [R,Zlb rfl]
 unfold Zdp
 rw [Za q0,Za Zg,Za Zj,Za (ZC h1 rfl),Za hl,Za q1]
 by_cases c1 : l.length≤a
 ·refine ⟨X,?_,by rw [show Znj l a r=l from if_pos (.inl c1)];exact h,.refl _ _,rfl⟩
  rw [show ZdD l a r=1 from if_pos (.inl c1),decide_eq_true c1,Za (show gate (.bool true) false 2 _ X=some ([Qi,Qi],X) from rfl),Qn,Za Zm]
  simp only [cond_true]
  rw [Za (show gate (.bool true) false 2 _ X=some ([Qi,Qi],X) from rfl),Qn,Za Zm]
  rfl
 rw [decide_eq_false c1,Ql,Zl,Za q2,QF,Qn,Za Zm]
 simp only [cond_false]
 by_cases c2 : r < 1
 ·refine ⟨X,?_,by rw [show Znj l a r=l from if_pos (.inr (.inl c2))];exact h,.refl _ _,rfl⟩
  rw [show ZdD l a r=1 from if_pos (.inr (.inl c2)),decide_eq_true c2,Za (show gate (.bool true) false 2 _ X=some ([Qi,Qi],X) from rfl),Qn,Za Zm]
  rfl
 rw [decide_eq_false c2,Ql,Zl,Za q3,QF,Qn,Za Zm]
 simp only [cond_false]
 by_cases c3 : 3 < r
 ·refine ⟨X,?_,by rw [show Znj l a r=l from if_pos (.inr (.inr c3))];exact h,.refl _ _,rfl⟩
  rw [show ZdD l a r=1 from if_pos (.inr (.inr c3)),decide_eq_true c3,Zb,if_pos rfl]
  rfl
 have hn : ¬ (l.length≤a∨r < 1∨3 < r):=by omega
 obtain ⟨X',s1,s2,s3,s4⟩:=h2.stx (i:=a) (u:=.int .u8 r) (by simp;omega) rfl
 have hb : b∉q:=h.out
 refine ⟨X',?_,?_,s3,s4⟩
 ·rw [show ZdD l a r=0 from if_neg hn,decide_eq_false c3,Zb,if_neg (by simp),Za Zg,Za Zj,Za (ZC h1 rfl),Za (h2.ix (i:=a) (by simp;omega) .u8 X),Za s1]
  rfl
 ·rw [show Znj l a r=l.set a r from if_neg hn]
  refine ⟨⟨sl,by rw [s3.keep b (ZX h1) hb];exact h1,?_⟩,hb,by simpa using h.few,(fun x hx=>?_),(fun e=>h.one (List.eq_nil_of_length_eq_zero (by rw [← List.length_set (i:=a) (a:=r),e];rfl)))⟩
  ·rw [List.map_set]
   exact s2
  ·rcases List.mem_or_eq_of_mem_set hx with h | h'
   ·exact Brd.rel ‹_› x h
   ·omega
theorem ZFe {r : Nat} (h : r≤3) : R (n+1) ZdA [.int .u8 r,.int .u8 2] X=some (.bool (decide (2≤r)),X):=by
 rw [R,ZtN rfl]
 match r,h with
 | 0,_=>rfl
 | 1,_=>rfl
 | 2,_=>rfl
 | 3,_=>rfl
theorem Zsn {sl : Value} {l q : List Nat} {H0 : Zd} (hr : ∀ r∈l,r≤3) (hf : l.length≤7) : ∀ (t k : Nat) (v : Value) (ws : List Value) (own : List Nat) (X : Zd),l.length - k=t→k≤l.length→Zo X sl (l.map rlv) q→(∀ j∈q,j < H0.length)→HLe H0 X→Zo X v ws own→(∀ j∈own,H0.length≤j)→ws.length≤k→
  ∃ v' ws' own' X',Zi (c5 (QT.l1 (R (n+1)))) [.int .u8 2,v,sl,iv l.length,iv k] X=some (.ext 0 [v'],X')∧Zo X' v' ws' own'∧HLe H0 X'∧ws'.length=ws.length+((l.drop k).filter fun r=>!decide (2≤r)).length
 | 0,k,v,ws,own,X,ht,hk,h,hq,hl,h2,ho,hw=>by
  have : k=l.length:=by omega
  subst this
  rw [List.drop_length]
  refine ⟨v,ws,own,X,Qc ?_,h2,hl,rfl⟩
  rw [Q6]
  unfold QT.l1
  rw [Za Zu,Zb,if_neg (by simp)]
  rfl
 | t+1,k,v,ws,own,X,ht,hk,h,hq,hl,h2,ho,hw=>by
  have hkl : k < l.length:=by omega
  have hlt : (k : Int) < l.length:=by omega
  have hg:=List.getElem?_eq_getElem hkl
  have hm : l[k]∈l:=List.getElem_mem hkl
  have hd:=List.drop_eq_getElem_cons hkl
  generalize l[k]=x at hg hd hm
  have x1:=h.ix (i:=k) (by simpa using hkl) .i64 X
  have x2:=h.ldx (i:=k) (v:=.int .u8 x) (by rw [List.getElem?_map,hg];rfl)
  have x3 : R (n+1) ZdA [.int .u8 x,.int .u8 2] X=_:=ZFe (hr x hm)
  rw [hd,List.filter_cons]
  by_cases c : 2≤x
  ·rw [decide_eq_true c] at x3
   obtain ⟨v',ws',own',X',e,r1,r2,r3⟩:=Zsn hr hf t (k+1) v ws own X (by omega) (by omega) h hq hl h2 ho (by omega)
   refine ⟨v',ws',own',X',(ZN ?_).trans e,r1,r2,?_⟩
   ·rw [Q6]
    unfold QT.l1
    rw [Za Zu,Zb,if_pos (by simpa using hlt),Za x1,Za x2,Za x3,Za ZQ]
    refine (ZO (vs:=[.int .u8 2,v,sl,iv l.length,iv k]) (H':=X) rfl).trans ?_
    rw [Q6,Za ZG,Jk (by omega)]
    rfl
   ·rw [r3,decide_eq_true c]
    simp
  ·rw [decide_eq_false c] at x3
   have hv : cvi .u8 (iv k) X=some (.int .u8 (k : Int),X):=by
    rw [QC]
    have : IntKind.u8.wrap (k : Int)=k:=by
     have : k < 8:=by omega
     match k,this with
     | 0,_=>rfl
     | 1,_=>rfl
     | 2,_=>rfl
     | 3,_=>rfl
     | 4,_=>rfl
     | 5,_=>rfl
     | 6,_=>rfl
     | 7,_=>rfl
    rw [this]
   have x4 : bsl 1 1 (.int .u8 0) [(0,1,.int .u8 (k : Int))] X=some (.slice (some ⟨X.length,0,none⟩) 1 1,X++[.cells [.int .u8 (k : Int)] 1 false false]):=Zo2 rfl rfl rfl
   have k1 : HLe X (X++[Ze.cells [.int .u8 (k : Int)] 1 false false]):=.app _ _
   have d1 : Zo (X++[Ze.cells [.int .u8 (k : Int)] 1 false false]) (.slice (some ⟨X.length,0,none⟩) 1 1) [.int .u8 (k : Int)] [X.length]:=.inr ⟨X.length,[],false,rfl,rfl,Zv⟩
   obtain ⟨v2,X2,own2,e2,p2,s2,o2⟩:=(h2.hle k1).push (b:=1) d1.rd (by omega) (by omega)
   have hl1:=hl.trans k1
   have k2 : HLe H0 X2:=fun i o hi=>by
    have hi1:=ZX hi
    have:=hl1.len
    rw [o2 i (by omega) (fun j hj=>by have:=ho j hj;omega)]
    exact hl1 i o hi
   have h3 : Zo X2 sl (l.map rlv) q:=(h.hle k1).keep fun j hj=>by
    have:=hq j hj
    have:=hl1.len
    exact o2 j (by omega) (fun i hi=>by have:=ho i hi;omega)
   obtain ⟨v',ws',own',X',e,r1,r2,r3⟩:=Zsn hr hf t (k+1) v2 (ws++[.int .u8 (k : Int)]) own2 X2 (by omega) (by omega) h3 hq k2 p2 (fun j hj=>by
    rcases s2.own j hj with h | h
    ·exact ho j h
    ·have:=hl1.len;omega) (by simp;omega)
   refine ⟨v',ws',own',X',(ZN ?_).trans e,r1,r2,?_⟩
   ·rw [Q6]
    unfold QT.l1
    rw [Za Zu,Zb,if_pos (by simpa using hlt),Za x1,Za x2,Za x3,Za ZQ]
    refine (ZO (vs:=[.int .u8 2,v2,sl,iv l.length,iv k]) (H':=X2) ?_).trans ?_
    ·rw [Zb,if_pos (show (!false)=true from rfl),Za hv,Za x4,Za e2]
     rfl
    rw [Q6,Za ZG,Jk (by omega)]
    rfl
   ·rw [r3,decide_eq_false c]
    simp
    omega
theorem ZBg {b : Nat} {l q : List Nat} (h : Brd X b l q) : ∃ X',R (n+3) Zaf [pt b,.int .u8 2] X=some (.bool (l.all fun r=>decide (2≤r)),X')∧HLe X X':=by
 obtain ⟨sl,h1,h2⟩:=h.at_
 have hl : ZA sl X=some (iv l.length,X):=by have:=h2.rd.len (H':=X);simpa using this
 obtain ⟨v,ws,own,X',e,r1,r2,r3⟩:=Zsn (n:=n) (q:=q) (H0:=X) h.rel h.few l.length 0 (.slice none 0 0) [] [] X (by omega) (by omega) h2 h2.lt (.refl _) Zo.nil (by simp) (by simp)
 rw [List.drop_zero] at r3
 have e : Zi (c5 (QT.l1 (R (n+1)))) [.int .u8 2,.slice none 0 0,sl,iv l.length,.int .i64 0] X=_:=e
 have e1 : R (n+2) WZ [pt b,.int .u8 2] X=some (v,X'):=by
  rw [R,ZiO rfl]
  unfold QT
  rw [Za Zg,Za Zj,Za (ZC h1 rfl),Za hl,QR e,ZK]
  rfl
 refine ⟨X',?_,r2⟩
 rw [R,ZlC rfl]
 unfold Zd0
 rw [Za e1,Za (r1.rd.len (H':=X')),Za ZE]
 have : ((ws.length : Int)==0)=l.all fun r=>decide (2≤r):=by
  rw [r3,Bool.eq_iff_iff,beq_iff_eq,List.all_eq_true]
  simp only [List.length_nil,Nat.zero_add]
  constructor
  ·intro h0 x hx
   have h1 : (l.filter fun r=>!decide (2≤r))=[]:=List.length_eq_zero_iff.1 (by omega)
   have:=List.filter_eq_nil_iff.1 h1 x hx
   simpa using this
  ·intro ha
   have : (l.filter fun r=>!decide (2≤r))=[]:=List.filter_eq_nil_iff.2 fun x hx=>by simpa using ha x hx
   rw [this]
   rfl
 rw [this]
 rfl
end Go.Proofs.YtgfbgfafajiehaaGreatDoor.A

namespace Go.Proofs.YtgfbgfafajiehaaGreatDoor.A
set_option linter.unusedVariables false
set_option maxRecDepth 100000
set_option linter.unusedSimpArgs false
open Go.Proofs Go.Proofs.YtgfbgfafajiehaaGreatDoor
section
variable {H X X' : Zd} {n p : Nat} {s : RSt} {sl v : Value} {q : List Nat} {l : List Tx}
end
end Go.Proofs.YtgfbgfafajiehaaGreatDoor.A

namespace Go.Proofs.YtgfbgfafajiehaaGreatDoor.A
set_option linter.unusedVariables false
set_option maxRecDepth 100000
set_option linter.unusedSimpArgs false
open Go.Proofs Go.Proofs.YtgfbgfafajiehaaGreatDoor
theorem ZbR.step {X0 X X' : Zd} {sl : Value} {us : List Zt} {q o1 o2 : List Nat} (h : ZbR X0 X sl us q) (hs : Zr o1 X o2 X') (hd : ∀ j,X0.length≤j→j∉o1) : ZbR X0 X' sl us q:=
 ⟨h.r.step hs fun j hj=>hd j (h.o j hj),h.o,fun w hw=>by
  obtain ⟨qu,h1,h2,h3⟩:=h.u w hw
  exact ⟨qu,h1.step hs fun j hj=>hd j (h2 j hj).1,h2,h3⟩,h.un⟩
section
variable {H X X' X0 : Zd} {n p : Nat} {s : RSt} {sl v vg bv : Value} {q qg : List Nat} {l gl : List Tx} {bs : List UInt8}
end
end Go.Proofs.YtgfbgfafajiehaaGreatDoor.A

namespace Go.Proofs.YtgfbgfafajiehaaGreatDoor.A
set_option linter.unusedVariables false
set_option maxRecDepth 100000
set_option linter.unusedSimpArgs false
open Go.Proofs Go.Proofs.YtgfbgfafajiehaaGreatDoor
section
variable {H X X' H0 : Zd} {n p : Nat} {sl v gv uv : Value} {l N : List Tx} {us : List Zt} {u : Zt} {b : Bool}
end
end Go.Proofs.YtgfbgfafajiehaaGreatDoor.A

namespace Go.Proofs.YtgfbgfafajiehaaGreatDoor.A
set_option linter.unusedVariables false
set_option maxRecDepth 100000
set_option linter.unusedSimpArgs false
open Go.Proofs Go.Proofs.YtgfbgfafajiehaaGreatDoor
section
variable {H0 H X : Zd} {n p d b M L : Nat} {a c v : Value} {bs : List UInt8} {s : RSt}
end
end Go.Proofs.YtgfbgfafajiehaaGreatDoor.A

namespace Go.Proofs.YtgfbgfafajiehaaGreatDoor.A
set_option linter.unusedVariables false
set_option maxRecDepth 100000
set_option linter.unusedSimpArgs false
open Go.Proofs Go.Proofs.YtgfbgfafajiehaaGreatDoor
abbrev uZ : Zt:=⟨[],[],[],false,.slice none 0 0,[]⟩
structure B5 (H X : Zd) (P1 P2 P3 P4 P5 : Nat) (s : RSt) (u : Zt) : Prop where
 b1 : X[P1]?=some (.cells (RR s) 1 false false)
 b2 : X[P2]?=some (.cells (RR (0,[])) 1 false false)
 b3 : X[P3]?=some (.cells uZ.cells 1 false false)
 b4 : X[P4]?=some (.cells uZ.cells 1 false false)
 b5 : X[P5]?=some (.cells u.cells 1 false false)
 le : HLe H X
 o : H.length≤P1∧P1 < P2∧P2 < P3∧P3 < P4∧P4 < P5
section
variable {H0 H X X' : Zd} {n p d b M L P1 P2 P3 P4 P5 i : Nat} {a c v : Value} {bs : List UInt8} {s s' : RSt} {u u' : Zt}
theorem B5.hle (h : B5 H X P1 P2 P3 P4 P5 s u) (hl : HLe X X') : B5 H X' P1 P2 P3 P4 P5 s u:=⟨hl _ _ h.b1,hl _ _ h.b2,hl _ _ h.b3,hl _ _ h.b4,hl _ _ h.b5,h.le.trans hl,h.o⟩
theorem B5.putU (h : B5 H X P1 P2 P3 P4 P5 s u) (hi : i < 5) (hv : oneCell v=true) (hu : u.cells.set i v=u'.cells) : ∃ X',st1 (pa P5 i) v X=some (undef,X')∧B5 H X' P1 P2 P3 P4 P5 s u'∧X.length=X'.length∧∀ j,P5 < j→X'[j]?=X[j]?:=by
 have ho:=h.o
 have w:=ZhX (o:=i) h.b5 (by simpa using hi) hv
 rw [hu] at w
 refine ⟨_,w,⟨(List.getElem?_set_ne (by omega)).trans h.b1,(List.getElem?_set_ne (by omega)).trans h.b2,(List.getElem?_set_ne (by omega)).trans h.b3,(List.getElem?_set_ne (by omega)).trans h.b4,Qa h.b5,h.le.put (by omega),ho⟩,by simp,fun j hj=>List.getElem?_set_ne (by omega)⟩
theorem B5.d1 (h : B5 H X P1 P2 P3 P4 P5 s u) : ldA 2 (pt P1) X=some (.agg (RR s).toArray,X):=Qt (n:=2) h.b1 rfl
theorem B5.d5 (h : B5 H X P1 P2 P3 P4 P5 s u) : ldA 5 (pt P5) X=some (.agg u.cells.toArray,X):=Qt (n:=5) h.b5 rfl
theorem Zze (hv : oneCell u.gv=true) : u.cells.all oneCell=true:=by simp only [Zt.cells,List.all_cons,hv];rfl
theorem B5.fin (h : B5 H X P1 P2 P3 P4 P5 s u) {Q : Nat} (hQ : Q=P4∨Q=P5) (bQ : X[Q]?=some (.cells u'.cells 1 false false)) (hv : oneCell u'.gv=true) : ∃ X',(bind (ldA 2 (pt P1)) fun y54=>bind (ldA 5 (pt Q)) fun y55=>bind (stA 2 (pt P2) y54) fun _=>bind (ldA 5 (pt Q)) fun u_56=>same u_56 y55 <| bind (stA 5 (pt P3) y55) fun _=>bind (ldA 2 (pt P2)) fun y57=>bind (ldA 5 (pt P3)) fun y58=>ret (Value.tuple #[y57,y58])) X=some (.tuple #[.agg (RR s).toArray,.agg u'.cells.toArray],X')∧HLe H X'∧∀ j,P5 < j→X'[j]?=X[j]?:=by
 have ho:=h.o
 have we:=Zb3 (vs:=RR s) (n:=2) h.b2 rfl rfl (ZEZ _)
 have x1 : ldA 5 (pt Q) X=some (.agg u'.cells.toArray,X):=Qt (n:=5) bQ rfl
 have x2 : ldA 5 (pt Q) (X.set P2 (.cells (RR s) 1 false false))=some (.agg u'.cells.toArray,_):=Qt (n:=5) ((List.getElem?_set_ne (by omega)).trans bQ) rfl
 have c3 : (X.set P2 (.cells (RR s) 1 false false))[P3]?=some (.cells uZ.cells 1 false false):=(List.getElem?_set_ne (by omega)).trans h.b3
 have x3:=Zb3 (vs:=u'.cells) (n:=5) c3 rfl rfl (Zze hv)
 have x4 : ldA 2 (pt P2) ((X.set P2 (.cells (RR s) 1 false false)).set P3 (.cells u'.cells 1 false false))=some (.agg (RR s).toArray,_):=Qt (n:=2) ((List.getElem?_set_ne (by omega)).trans (Qa h.b2)) rfl
 have x5 : ldA 5 (pt P3) ((X.set P2 (.cells (RR s) 1 false false)).set P3 (.cells u'.cells 1 false false))=some (.agg u'.cells.toArray,_):=Qt (n:=5) (Qa c3) rfl
 refine ⟨(X.set P2 (.cells (RR s) 1 false false)).set P3 (.cells u'.cells 1 false false),?_,(h.le.put (by omega)).put (by omega),fun j hj=>(List.getElem?_set_ne (by omega)).trans (List.getElem?_set_ne (by omega))⟩
 rw [Za h.d1,Za x1,Za we,Za x2,QG,Za x3,Za x4,Za x5]
 rfl
end
end Go.Proofs.YtgfbgfafajiehaaGreatDoor.A

namespace Go.Proofs.YtgfbgfafajiehaaGreatDoor.A
set_option linter.unusedVariables false
set_option maxRecDepth 100000
set_option linter.unusedSimpArgs false
open Go.Proofs Go.Proofs.YtgfbgfafajiehaaGreatDoor
theorem JG.headF {es : Nat} {X : Zd} {w : Value} {rows : List (List Value)} {q : List Nat} (h : JG es X w rows q) (he : 0 < es) {i : Nat} (hi : i≤rows.length) : ∃ v,(∀ X',HLe X X'→slv es w none (some (iv i)) none X'=some (v,X'))∧SlN es X v (rows.take i):=by
 rcases h with ⟨rfl,rfl,rfl⟩ | ⟨sid,rest,r,g,rfl,rfl,hid,hr,hx⟩
 ·have : i=0:=by simpa using hi
  subst this
  exact ⟨.slice none 0 0,fun _ _=>rfl,SlN.nil⟩
 ·have hb : bnd (some (iv i)) rows.length=some i:=by simp [bnd]
  have hb0 : ∀ d,bnd none d=some d:=fun _=>rfl
  have hl : (rows.take i).length=i:=by rw [List.length_take];omega
  have hxt : ∀ y∈rows.take i,y.length=es:=fun y hy=>hx y (List.mem_of_mem_take hy)
  by_cases h0 : rows.length+r=0
  ·have hi0 : i=0:=by omega
   subst hi0
   refine ⟨.slice (some ⟨sid,0,some (bif g then 1 else 0)⟩) 0 0,fun X' hl'=>?_,⟨_,_,rfl,(fun e=>by cases e),rfl,by simp⟩⟩
   simp only [slv,hl' _ _ hid,hb,hb0]
   rw [if_pos ⟨trivial,by omega,by omega,by omega⟩,if_pos h0]
  ·refine ⟨.slice (some ⟨sid,0+0 * es,none⟩) (i - 0) (rows.length+r - 0),fun X' hl'=>?_,?_⟩
   ·simp only [slv,hl' _ _ hid,hb,hb0]
    rw [if_pos ⟨trivial,by omega,by omega,by omega⟩,if_neg h0]
   ·rw [Nat.zero_mul,Nat.add_zero,Nat.sub_zero,Nat.sub_zero]
    refine ⟨some ⟨sid,0,none⟩,rows.length+r,by rw [hl],(fun e=>by cases e),?_,hxt⟩
    unfold Qw
    simp only [hid]
    have hfl:=Zbh hx
    have hft:=Zbh hxt
    rw [hl] at hft
    have hle : i * es≤rows.length * es:=Nat.mul_le_mul_right _ hi
    rw [if_pos (by rw [List.length_append,hfl];omega),List.drop_zero]
    have hs : rows.flatten=(rows.take i).flatten++(rows.drop i).flatten:=by rw [← List.flatten_append,List.take_append_drop]
    rw [hs,List.append_assoc,← hft,List.take_left]
theorem ZbR.cut {X0 X : Zd} {sl : Value} {us : List Zt} {q : List Nat} (h : ZbR X0 X sl us q) : ZFG X sl us:=fun k hk=>by
 obtain ⟨v,h1,h2⟩:=h.r.headF (by omega) (i:=k) (by rw [List.length_map];exact hk)
 exact ⟨v,h1,by rw [List.map_take];exact h2⟩
section
variable {H0 H X X' X0 : Zd} {n p d b P1 P2 P3 : Nat} {v sl gv : Value} {bs : List UInt8} {s : RSt} {q : List Nat} {us : List Zt}
end
end Go.Proofs.YtgfbgfafajiehaaGreatDoor.A

namespace Go.Proofs.YtgfbgfafajiehaaGreatDoor.A
set_option linter.unusedVariables false
set_option maxRecDepth 100000
set_option linter.unusedSimpArgs false
open Go.Proofs Go.Proofs.YtgfbgfafajiehaaGreatDoor
structure Ans (X : Zd) (wv : Value) (r : Nat × (List Tx × List ZaJ)) : Prop where
 one : ∃ uv gv,wv=.agg #[uv,gv]∧oneCell uv=true∧oneCell gv=true
 ok : r.1=0→∃ uv gv us,wv=.agg #[uv,gv]∧YM X uv us∧us.map JK=r.2.2∧Sl X gv (r.2.1.map strv)
theorem Ans.no {X : Zd} {r : Nat × (List Tx × List ZaJ)} (h : r.1≠0) : Ans X (.agg #[.slice none 0 0,.slice none 0 0]) r:=⟨⟨_,_,rfl,rfl,rfl⟩,fun h0=>absurd h0 h⟩
section
variable {H0 H X X' X0 : Zd} {n p d b p2 p4 p5 : Nat} {v sl gv : Value} {bs : List UInt8} {s : RSt} {q : List Nat} {us : List Zt}
end
end Go.Proofs.YtgfbgfafajiehaaGreatDoor.A

namespace Go.Proofs.YtgfbgfafajiehaaGreatDoor.A
set_option linter.unusedVariables false
set_option linter.unusedSimpArgs false
open Go.Proofs Go.Proofs.YtgfbgfafajiehaaGreatDoor
section
variable {X X' H H0 : Zd} {n d c w : Nat} {r : NR} {uv gv sl : Value} {s : NSt} {u : Zep} {ac : List Zep}
end
end Go.Proofs.YtgfbgfafajiehaaGreatDoor.A

namespace Go.Proofs.YtgfbgfafajiehaaGreatDoor.A
set_option linter.unusedVariables false
set_option maxRecDepth 100000
set_option linter.unusedSimpArgs false
open Go.Proofs Go.Proofs.YtgfbgfafajiehaaGreatDoor
section
variable {X X' H H0 : Zd} {n d c w : Nat} {r : NR} {uv gv sl : Value} {s : NSt} {u : Zep} {ac : List Zep}
end
end Go.Proofs.YtgfbgfafajiehaaGreatDoor.A

namespace Go.Proofs.YtgfbgfafajiehaaGreatDoor.A
set_option linter.unusedVariables false
set_option maxRecDepth 100000
set_option linter.unusedSimpArgs false
open Go.Proofs Go.Proofs.YtgfbgfafajiehaaGreatDoor
section
variable {X X' H H0 : Zd} {n d : Nat} {a : Value} {bs : List UInt8}
end
end Go.Proofs.YtgfbgfafajiehaaGreatDoor.A

namespace Go.Proofs.YtgfbgfafajiehaaGreatDoor.A
set_option linter.unusedVariables false
set_option linter.unusedSimpArgs false
open Go.Proofs Go.Proofs.YtgfbgfafajiehaaGreatDoor
section
variable {X X' H H0 : Zd} {n d b : Nat} {v sl gv : Value} {m : List Ent} {e : Ent} {q : List Nat}
theorem Zy1 (h : ZaK e=0) : Jr (ZcQ e)=0:=by
 have h1 : Zs e.1=true∧Kq e.2=true:=by
  unfold ZaK at h
  cases h2 : Zs e.1 with
  | false=>rw [h2] at h;simp at h
  | true=>
   cases h3 : Kq e.2 with
   | false=>rw [h2,h3] at h;simp at h
   | true=>exact ⟨rfl,rfl⟩
 unfold Jr ZcQ
 rw [h1.1,h1.2]
 rfl
theorem Zov : ∀ {us : List Zt},(∀ u∈us,Jr u=0)→Ya us=0
 | [],_=>rfl
 | u :: us,h=>by
  unfold Ya
  rw [h u (by simp),if_pos rfl]
  exact Zov fun w hw=>h w (by simp [hw])
theorem ZFu (hE : ∀ e∈m,ZaK e=0) (hR : YW (m.map (·.1))=true) (hn : m.length≤12) : Zbo (m.map ZcQ) []=0:=by
 have h1 : Ya (m.map ZcQ)=0:=Zov fun u hu=>by
  obtain ⟨e,he,rfl⟩:=List.mem_map.1 hu
  exact Zy1 (hE e he)
 have h2 : (m.map ZcQ).map (·.nm)=m.map (·.1):=by rw [List.map_map];rfl
 have h3 : ZjE (m.map ZcQ)=0:=by
  unfold ZjE
  rw [if_pos h1,h2,hR,List.length_map,if_pos rfl,if_neg (show ¬ 12 < m.length by omega)]
 have h4 : ZcT (m.map ZcQ) []=0:=by
  unfold ZcT
  rw [if_pos h3]
  rfl
 unfold Zbo
 rw [if_pos h4]
 refine ZrZ fun i u hu=>?_
 obtain ⟨e,_,rfl⟩:=List.mem_map.1 (List.mem_of_getElem? hu)
 unfold Zeq
 rw [if_pos (by rfl),if_neg (fun h=>h.1 rfl)]
theorem ZBf : ∃ X',R (n+1) ZjQ [.agg (usr e).toArray] X=some (.agg (usr e).toArray,X')∧HLe X X':=by
 have z1 : alc 1 (.agg (usr e).toArray) X=some (pt X.length,X++[.cells (usr e) 1 false false]):=bx (vs:=usr e) rfl
 have k1 : HLe X (X++[Ze.cells (usr e) 1 false false]):=.app _ _
 have g1 : (X++[Ze.cells (usr e) 1 false false])[X.length]?=some (.cells (usr e) 1 false false):=Zv
 generalize X++[Ze.cells (usr e) 1 false false]=X1 at z1 k1 g1
 have z2 : alc 1 zU X1=some (pt X1.length,X1++[.cells (usr ([],[])) 1 false false]):=bx (vs:=usr ([],[])) rfl
 have k2 : HLe X1 (X1++[Ze.cells (usr ([],[])) 1 false false]):=.app _ _
 have g2 : (X1++[Ze.cells (usr ([],[])) 1 false false])[X1.length]?=some (.cells (usr ([],[])) 1 false false):=Zv
 have g1':=k2 _ _ g1
 have hl:=k1.len
 generalize X1++[Ze.cells (usr ([],[])) 1 false false]=X2 at z2 k2 g2 g1'
 have a0 : ld1 (pa X.length 0) X2=some (strv e.1,X2):=ZC g1' rfl
 have a1 : ld1 (pa X.length 1) X2=some (strv e.2,X2):=ZC g1' rfl
 have zb:=ZxF (k:=e.1) (s:=e.2) (H:=X2)
 refine ⟨X2.set X1.length (.cells (usr e) 1 false false),?_,(k1.trans k2).put hl⟩
 rw [R,ZyD rfl]
 unfold Zo3
 rw [Za z1,Za z2,Za Zj,Za a0,Za Zj,Za a1,Za zb]
 exact ZDc (vs:=usr e) g2 rfl rfl rfl
theorem ZE8 {rows : List (List Value)} {r : List Value} (hr : JG 5 X sl rows q) (hn : rows.length≤1000) (h5 : r.length=5) (h1 : r.all oneCell=true) : ∃ w X1 sl' X2 q',bsl 5 1 zU [(0,5,.agg r.toArray)] X=some (w,X1)∧app 5 80 sl w X1=some (sl',X2)∧JG 5 X2 sl' (rows++[r]) q'∧Zr q X q' X2:=by
 have x4:=Zyu (es:=5) (z:=zU) (H:=X) rfl h5 h1
 have l1 : HLe X (X++[Ze.cells r 5 false false]):=.app _ _
 have s1 : SlN 5 (X++[Ze.cells r 5 false false]) (.slice (some ⟨X.length,0,none⟩) 1 1) [r]:=SlN.whole (rows:=[r]) (c:=1) (e:=5) (g:=false) (ro:=false) (by rw [Zv];simp) (by simpa using h5)
 generalize X++[Ze.cells r 5 false false]=X1 at x4 l1 s1
 obtain ⟨sl',X2,q',x5,hn2,s2⟩:=(hr.step l1.step (by simp)).push (b:=80) s1 h5 (by omega) (by omega)
 exact ⟨_,X1,sl',X2,q',x4,x5,hn2,l1.stepq.trans s2⟩
theorem ZCx (hn : m.length≤100) (hs : SlN 5 H0 v (m.map usr)) : ∀ (t j : Nat) (sl : Value) (q : List Nat) (X : Zd),m.length - j=t→j≤m.length→HLe H0 X→(∀ i∈q,H0.length≤i)→JG 5 X sl ((m.take j).map usr) q→
  ∃ X' sl' q',Zi (c4 (Wr.l1 (R (n+1)))) [sl,v,iv m.length,iv j] X=some (.ext 0 [sl'],X')∧JG 5 X' sl' (m.map usr) q'∧HLe H0 X'∧∀ i∈q',H0.length≤i
 | 0,j,sl,q,X,ht,hj,hle,hq,hr=>by
  have hj : j=m.length:=by omega
  subst hj
  rw [List.take_length] at hr
  refine ⟨X,sl,q,Qc ?_,hr,hle,hq⟩
  rw [ZI]
  unfold Wr.l1
  rw [Za Zu,Zb,if_neg (by simp)]
  rfl
 | t+1,j,sl,q,X,ht,hj,hle,hq,hr=>by
  have hkl : j < m.length:=by omega
  have hlt : (j : Int) < m.length:=by omega
  have hg:=List.getElem?_eq_getElem hkl
  have htk : m.take (j+1)=m.take j++[m[j]]:=by rw [List.take_add_one,hg];rfl
  generalize m[j]=e at hg htk
  have hf:=fun {K : Value→A.M Out}=>(hs.mono hle).fetch (k:=K) (r:=usr e) (i:=j) (by rw [List.getElem?_map,hg];rfl) (by omega) .i64
  have z4 : ∀ K : Value→A.M Out,bind (alc 1 zU) (fun q=>bind (stA 5 q (.agg (usr e).toArray)) fun _=>K q) X=K (pt X.length) (X++[.cells (usr e) 1 false false]):=fun K=>ZbU (n:=5) (zs:=usr ([],[])) (r:=usr e) rfl rfl rfl rfl
  have k1 : HLe X (X++[Ze.cells (usr e) 1 false false]):=.app _ _
  have g1 : (X++[Ze.cells (usr e) 1 false false])[X.length]?=some (.cells (usr e) 1 false false):=Zv
  generalize X++[Ze.cells (usr e) 1 false false]=X1 at z4 k1 g1
  have d1 : ldA 5 (pt X.length) X1=some (.agg (usr e).toArray,X1):=Qt (n:=5) g1 rfl
  obtain ⟨X2,e2,k2⟩:=ZBf (n:=n) (e:=e) (X:=X1)
  have hr2:=hr.step (k1.trans k2).step (by simp)
  obtain ⟨w,X3,sl',X4,q',e3,e4,r4,s4⟩:=ZE8 (r:=usr e) hr2 (by rw [List.length_map,List.length_take];omega) rfl rfl
  have hm:=(hle.trans (k1.trans k2)).more s4 hq
  rw [← List.map_singleton (f:=usr),← List.map_append,← htk] at r4
  obtain ⟨X5,sl5,q5,e5,r5,k5,o5⟩:=ZCx hn hs t (j+1) sl' q' X4 (by omega) (by omega) hm.1 hm.2 r4
  refine ⟨X5,sl5,q5,(ZN ?_).trans e5,r5,k5,o5⟩
  rw [ZI]
  unfold Wr.l1
  rw [Za Zu,Zb,if_pos (by simpa using hlt),hf,z4,Za d1,Za e2,Za e3,Za e4,Za ZG,Jk (by omega)]
  rfl
theorem ZCI {m : QJ} (h : Dir X d b m) (hE : ∀ e∈YN m,ZaK e=0) (hR : YW ((YN m).map (·.1))=true) (hn : (YN m).length≤12) : ∃ X' d' r s c,R (n+13) Zfy [pt d] X=some (pt d',X')∧HLe X X'∧OfS X X' d' r s c [] ((YN m).map ZcQ):=by
 obtain ⟨v,q,X1,e1,r1,k1,o1⟩:=ZuF (n:=n+9) h
 have e1 : R (n+12) WJ [pt d] X=_:=e1
 have hl : ZA v X1=some (iv (YN m).length,X1):=by have:=r1.rd.len (H':=X1);rwa [List.length_map] at this
 obtain ⟨X2,sl,q2,e2,r2,k2,o2⟩:=ZCx (n:=n+11) (H0:=X1) (by omega) r1.rd (YN m).length 0 (.slice none 0 0) [] X1 (by omega) (by omega) (.refl _) (by simp) JG.nil
 have e2 : Zi (c4 (Wr.l1 (R (n+12)))) [.slice none 0 0,v,iv (YN m).length,.int .i64 0] X1=_:=e2
 obtain ⟨X3,k3,h3⟩:=ZA6 (n:=n) (us:=(YN m).map ZcQ) (gs:=[]) (by rw [List.length_map];omega) (by simp) r2.us (Zo.nil (H:=X2)).rd
 rw [if_pos (ZFu hE hR hn)] at h3
 obtain ⟨d',r,s,c,e3,hS⟩:=h3
 have hle:=(k1.trans k2).trans k3
 refine ⟨X3,d',r,s,c,?_,hle,⟨hle,hS.nd,fun i hi=>Nat.le_trans (k1.trans k2).len (hS.own i hi),hS.K,hS.ok⟩⟩
 rw [R,Zt0 rfl]
 unfold Wr
 have q0 : bop .ptr .eql (pt d) (.pointer none) X=some (.bool false,X):=Ji
 rw [Za q0,Zb,if_neg (by simp),Za e1,Za hl,QR e2,ZK,J8,Za e3,Za Zp,Za Zq]
 rfl
end
end Go.Proofs.YtgfbgfafajiehaaGreatDoor.A

namespace Go.Proofs.YtgfbgfafajiehaaGreatDoor.A
set_option linter.unusedVariables false
set_option linter.unusedSimpArgs false
open Go.Proofs Go.Proofs.YtgfbgfafajiehaaGreatDoor
section
variable {X X' H H0 : Zd} {n d b : Nat} {v sl gv bv : Value} {m : List Ent} {e : Ent} {q : List Nat} {bs : List UInt8}
theorem ZAz (hR : Zyi m) : YW (m.map (·.1))=true:=Zhy (List.pairwise_map.2 hR)
end
end Go.Proofs.YtgfbgfafajiehaaGreatDoor.A

namespace Go.Proofs.YtgfbgfafajiehaaGreatDoor.A
set_option linter.unusedVariables false
set_option linter.unusedSimpArgs false
open Go.Proofs Go.Proofs.YtgfbgfafajiehaaGreatDoor
variable {X X' Y : Zd} {n : Nat}
def DX (X : Zd) (D : Jv) (ov nv : Value) (M C : List Nat) (c : Nat) : Prop:=match D with
 | .old m=>∃ d b,ov=pt d∧nv=.pointer none∧Dir X d b m∧(∀ p∈m,ZaK p=0)∧M=[b]∧C=[d]
 | .now s=>∃ d r,ov=.pointer none∧nv=pt d∧ND X d r s c∧M=r.own∧C=[d,r.x,r.g]
theorem DX.lt {D : Jv} {ov nv : Value} {M C : List Nat} {c : Nat} (h : DX X D ov nv M C c) : ∀ j,j∈M∨j∈C→j < X.length:=by
 cases D with
 | old m=>
  obtain ⟨d,b,rfl,rfl,h1,h2,rfl,rfl⟩:=h
  rintro j (hj | hj) <;> cases List.mem_singleton.1 hj
  ·exact h1.lt.2
  ·exact h1.lt.1
 | now s=>
  obtain ⟨d,r,rfl,rfl,h1,rfl,rfl⟩:=h
  rintro j (hj | hj)
  ·exact (h1.isMap hj).1
  ·simp only [List.mem_cons,List.not_mem_nil,or_false] at hj
   rcases hj with rfl | rfl | rfl
   ·exact ZX h1.cell
   ·exact ZX h1.ix.c
   ·exact h1.gr.glt
theorem DX.step {D : Jv} {ov nv : Value} {M C o1 o2 : List Nat} {c : Nat} (h : DX X D ov nv M C c) (hs : Zr o1 X o2 X') (hm : ∀ j∈M,j∉o1) (hc : ∀ j∈C,j∉o1) : DX X' D ov nv M C c:=by
 cases D with
 | old m=>
  obtain ⟨d,b,rfl,rfl,h1,h2,rfl,rfl⟩:=h
  exact ⟨d,b,rfl,rfl,h1.step hs (hc d (by simp)) (hm b (by simp)),h2,rfl,rfl⟩
 | now s=>
  obtain ⟨d,r,rfl,rfl,h1,rfl,rfl⟩:=h
  exact ⟨d,r,rfl,rfl,h1.step hs (hc d (by simp)) (hc r.x (by simp)) (hc r.g (by simp)) hm,rfl,rfl⟩
theorem DX.hle {D : Jv} {ov nv : Value} {M C : List Nat} {c : Nat} (h : DX X D ov nv M C c) (hl : HLe X X') : DX X' D ov nv M C c:=h.step hl.step (by simp) (by simp)
def crE (k s : Tx) : Jv→Int
 | .old m=>Kv k s m
 | .now t=>YP k s t.A
def crD (k s : Tx) : Jv→Jv
 | .old m=>.old (Zfr k s m)
 | .now t=>.now (Zcc k s t)
def deE (k : Tx) : Jv→Int
 | .old m=>JR k m
 | .now t=>ZF k t.A
def deD (k : Tx) : Jv→Jv
 | .old m=>.old (Zfx k m)
 | .now t=>.now (Zca k t)
def seE (k s : Tx) : Jv→Int
 | .old m=>ZbF k s m
 | .now t=>Yc k s t.A
def seD (k s : Tx) : Jv→Jv
 | .old m=>.old (Zpm k s m)
 | .now t=>.now (Zbg k s t)
def Zz5 : Jv→List Tx
 | .old m=>m.map (·.1)
 | .now s=>Wm s
def ZsH : Jv→Value→Value→Value
 | .old _,ov,_=>.iface 77 ov
 | .now _,_,nv=>.iface 79 nv
section
variable {m : QJ} {k h : Tx}
theorem Zs8 {α : Type} {m : List (Tx × α)} {k : Tx} {v : α} {p : Tx × α} (h : p∈Qo k v m) : p=(k,v)∨p∈m:=by
 unfold Qo at h
 split at h
 ·obtain ⟨q,hq,rfl⟩:=List.mem_map.1 h
  by_cases e : q.1=k
  ·rw [if_pos e];exact .inl rfl
  ·rw [if_neg e];exact .inr hq
 ·rcases List.mem_append.1 h with h | h
  ·exact .inr h
  ·exact .inl (by simpa using h)
theorem ZEY (h0 : Kv k h m=0) : Zs k=true∧Kq h=true:=by
 unfold Kv Zz Z6 Wa at h0
 cases hk : Zs k
 ·rw [hk] at h0;simp at h0
 ·cases hh : Kq h
  ·rw [hk,hh] at h0;simp at h0
  ·exact ⟨rfl,rfl⟩
theorem ZEU (h0 : ZbF k h m=0) : Zs k=true∧Kq h=true:=by
 unfold ZbF Zz Z6 Wa at h0
 cases hk : Zs k
 ·rw [hk] at h0;simp at h0
 ·cases hh : Kq h
  ·rw [hk,hh] at h0;simp at h0
  ·exact ⟨rfl,rfl⟩
theorem ZC4 (g : ∀ p∈m,ZaK p=0) : ∀ p∈Zfr k h m,ZaK p=0:=by
 unfold Zfr
 split
 ·rename_i h0
  intro p hp
  rcases Zs8 hp with rfl | hp
  ·exact Zju.2 (ZEY h0)
  ·exact g p hp
 ·exact g
theorem ZCV (g : ∀ p∈m,ZaK p=0) : ∀ p∈Zfx k m,ZaK p=0:=by
 unfold Zfx
 split
 ·intro p hp
  exact g p (List.mem_filter.1 hp).1
 ·exact g
theorem ZDR (g : ∀ p∈m,ZaK p=0) : ∀ p∈Zpm k h m,ZaK p=0:=by
 unfold Zpm
 split
 ·rename_i h0
  intro p hp
  rcases Zs8 hp with rfl | hp
  ·exact Zju.2 (ZEU h0)
  ·exact g p hp
 ·exact g
theorem ZCq {d b : Nat} (D : Dir X d b m) (hE : ∀ p∈m,ZaK p=0) : (∀ e∈YN m,ZaK e=0)∧YW ((YN m).map (·.1))=true∧(YN m).length≤12:=
 ⟨fun e he=>hE e (KI ((ZAa D.g.nod).1 he)),ZAz (Zzh D.g.nod),by rw [Zty];exact D.few⟩
end
theorem Zd6 {P : Program} {Γ : Zc} {t : TypeId} {x : Value} {nm : String} {g : FuncId} {vs : List Value} (h : ZeD P t nm=some g) : Za9 P Γ (.iface t x) nm vs=Γ g (x :: vs):=by
 unfold Za9
 simp only [h]
theorem ZFD : ZeD Tryz.prog 77 "Create" = some Zaw := by kernel_rfl
theorem ZFC : ZeD Tryz.prog 77 "Delete" = some Zay := by kernel_rfl
theorem ZFB : ZeD Tryz.prog 77 "SetHash" = some WR := by kernel_rfl
theorem ZFy : ZeD Tryz.prog 77 "List" = some Zc0 := by kernel_rfl
theorem ZFF : ZeD Tryz.prog 79 "Create" = some Zat := by kernel_rfl
theorem ZFz : ZeD Tryz.prog 79 "Delete" = some Zag := by kernel_rfl
theorem ZFA : ZeD Tryz.prog 79 "SetHash" = some WT := by kernel_rfl
theorem ZFJ : ZeD Tryz.prog 79 "List" = some Zc3 := by kernel_rfl
section
variable {D : Jv} {ov nv : Value} {M C : List Nat} {c : Nat} {k s pre : Tx}
theorem ZzW (h : DX X D ov nv M C c) (hk : k.length ≤ 1000000000) (hs : s.length ≤ 1000000000) : ∃ X', Za9 Tryz.prog (R (n + 10)) (ZsH D ov nv) "Create" [strv k, strv s] X = some (iv (crE k s D), X') ∧ DX X' (crD k s D) ov nv M C c ∧ Zr M X M X' := by
 cases D with
 | old m=>
  obtain ⟨d,b,rfl,rfl,h1,h2,rfl,rfl⟩:=h
  obtain ⟨X',e,D',st⟩:=ZBj (n:=n+3) h1 hk hs
  exact ⟨X',(congrFun (Zd6 ZFD) X).trans e,⟨d,b,rfl,rfl,D',ZC4 h2,rfl,rfl⟩,st⟩
 | now t=>
  obtain ⟨d,r,rfl,rfl,h1,rfl,rfl⟩:=h
  obtain ⟨X',e,D',st⟩:=ZAT (n:=n) (k:=k) (h:=s) h1
  exact ⟨X',(congrFun (Zd6 ZFF) X).trans e,⟨d,r,rfl,rfl,D',rfl,rfl⟩,st⟩
theorem ZzI (h : DX X D ov nv M C c) (hk : k.length ≤ 1000000000) : ∃ X', Za9 Tryz.prog (R (n + 10)) (ZsH D ov nv) "Delete" [strv k] X = some (iv (deE k D), X') ∧ DX X' (deD k D) ov nv M C c ∧ Zr M X M X' := by
 cases D with
 | old m=>
  obtain ⟨d,b,rfl,rfl,h1,h2,rfl,rfl⟩:=h
  obtain ⟨X',e,D',st⟩:=ZBv (n:=n+3) h1 hk
  exact ⟨X',(congrFun (Zd6 ZFC) X).trans e,⟨d,b,rfl,rfl,D',ZCV h2,rfl,rfl⟩,st⟩
 | now t=>
  obtain ⟨d,r,rfl,rfl,h1,rfl,rfl⟩:=h
  obtain ⟨X',e,D',st⟩:=ZAm (n:=n) (k:=k) h1
  exact ⟨X',(congrFun (Zd6 ZFz) X).trans e,⟨d,r,rfl,rfl,D',rfl,rfl⟩,st⟩
theorem ZyU (h : DX X D ov nv M C c) (hk : k.length ≤ 1000000000) (hs : s.length ≤ 1000000000) : ∃ X', Za9 Tryz.prog (R (n + 10)) (ZsH D ov nv) "SetHash" [strv k, strv s] X = some (iv (seE k s D), X') ∧ DX X' (seD k s D) ov nv M C c ∧ Zr M X M X' := by
 cases D with
 | old m=>
  obtain ⟨d,b,rfl,rfl,h1,h2,rfl,rfl⟩:=h
  obtain ⟨X',e,D',st⟩:=ZAs (n:=n+3) h1 hk hs
  exact ⟨X',(congrFun (Zd6 ZFB) X).trans e,⟨d,b,rfl,rfl,D',ZDR h2,rfl,rfl⟩,st⟩
 | now t=>
  obtain ⟨d,r,rfl,rfl,h1,rfl,rfl⟩:=h
  obtain ⟨X',e,D',st⟩:=Zy2 (n:=n) (k:=k) (h:=s) h1
  exact ⟨X',(congrFun (Zd6 ZFA) X).trans e,⟨d,r,rfl,rfl,D',rfl,rfl⟩,st⟩
theorem ZDr (h : DX X D ov nv M C c) (hp : pre.length ≤ 1000000000) : ∃ v q X', Za9 Tryz.prog (R (n + 10)) (ZsH D ov nv) "List" [strv pre] X = some (.tuple #[v, iv (YD pre)], X') ∧ Zo X' v ((if Zij pre then (Z5 (Zz5 D)).filter (Zfj pre) else []).map strv) q ∧ HLe X X' ∧ (if Zij pre then (Z5 (Zz5 D)).filter (Zfj pre) else []).length ≤ 1000 ∧ ∀ j ∈ q, X.length ≤ j := by
 cases D with
 | old m=>
  obtain ⟨d,b,rfl,rfl,h1,h2,rfl,rfl⟩:=h
  obtain ⟨v,q,X',e,r1,l1,o1⟩:=ZAd (n:=n+4) h1 hp
  refine ⟨v,q,X',(congrFun (Zd6 ZFy) X).trans e,r1,l1,?_,o1⟩
  split
  ·refine Nat.le_trans (List.length_filter_le _ _) ?_
   rw [Za2]
   have:=h1.few
   show (m.map (·.1)).length≤1000
   rw [List.length_map]
   omega
  ·simp
 | now t=>
  obtain ⟨d,r,rfl,rfl,h1,rfl,rfl⟩:=h
  obtain ⟨v,q,X',e,r1,l1,o1⟩:=ZCi (n:=n+4) h1 hp
  refine ⟨v,q,X',(congrFun (Zd6 ZFJ) X).trans e,r1,l1,?_,o1⟩
  split
  ·refine Nat.le_trans (List.length_filter_le _ _) ?_
   rw [Za2]
   have:=h1.inv.few
   show (Wm t).length≤1000
   have h3 : (Wm t).length=t.A.length:=by simp
   omega
  ·simp
end
end Go.Proofs.YtgfbgfafajiehaaGreatDoor.A

namespace Go.Proofs.YtgfbgfafajiehaaGreatDoor.A
set_option linter.unusedVariables false
set_option linter.unusedSimpArgs false
open Go.Proofs Go.Proofs.YtgfbgfafajiehaaGreatDoor
variable {X X' Y : Zd} {n : Nat}
structure HP where
 h : Nat
 t : Nat
 b : Nat
 fr : List Nat
 q : List Nat
 M : List Nat
 C : List Nat
 c : Nat
 lvs : List Value
 ov : Value
 nv : Value
def HP.own (p : HP) : List Nat:=p.M++(p.h :: p.t :: p.q)
structure HO (X : Zd) (p : HP) (D : Jv) (T : List JI) (B : List Nat) : Prop where
 cell : X[p.h]?=some (.cells [p.ov,p.nv,pt p.t,pt p.b] 1 false false)
 dir : DX X D p.ov p.nv p.M p.C p.c
 tab : Tab X p.t T p.lvs p.fr
 brd : Brd X p.b B p.q
 hfr : p.h∉p.fr
 hq : p.h∉p.q
 hC : p.h∉p.C
 bh : p.b≠p.h
 bt : p.b≠p.t
 tq : p.t∉p.q
 tC : p.t∉p.C
 fq : ∀ j∈p.fr,j∉p.q
 Cq : ∀ j∈p.C,j∉p.q
 Mo : ∀ j∈p.M,j≠p.h∧j≠p.b∧j∉p.q∧j∉p.fr
variable {p : HP} {D D' : Jv} {T : List JI} {B : List Nat}
theorem HO.lt (h : HO X p D T B) : ∀ j∈p.own,j < X.length:=by
 intro j hj
 unfold HP.own at hj
 rcases List.mem_append.1 hj with hj | hj
 ·exact h.dir.lt j (.inl hj)
 ·rcases List.mem_cons.1 hj with rfl | hj
  ·exact ZX h.cell
  ·rcases List.mem_cons.1 hj with rfl | hj
   ·exact h.tab.lt _ h.tab.t
   ·exact h.brd.lt j (.inr hj)
theorem Tab.hle {t : Nat} {rows : List JI} {lvs : List Value} {fr : List Nat} (h : Tab X t rows lvs fr) (hk : HLe X X') : Tab X' t rows lvs fr:=
 h.keep (fun j hj=>by have:=h.lt j hj;rw [List.getElem?_eq_getElem this];exact hk _ _ (List.getElem?_eq_getElem this)) hk.len
theorem HO.hle (h : HO X p D T B) (hl : HLe X X') : HO X' p D T B:=
 ⟨hl _ _ h.cell,h.dir.hle hl,h.tab.hle hl,h.brd.hle hl,h.hfr,h.hq,h.hC,h.bh,h.bt,h.tq,h.tC,h.fq,h.Cq,h.Mo⟩
theorem HO.step {o1 o2 : List Nat} (h : HO X p D T B) (hs : Zr o1 X o2 X') (h1 : ∀ j∈p.own,j∉o1) (h2 : ∀ j∈p.C,j∉o1) (h3 : p.b∉o1) (h4 : ∀ j∈p.fr,j∉o1) : HO X' p D T B:=
 ⟨hs.get h.cell (h1 p.h (by simp [HP.own])),h.dir.step hs (fun j hj=>h1 j (by simp [HP.own,hj])) h2,h.tab.keep (fun j hj=>hs.keep j (h.tab.lt j hj) (h4 j hj)) hs.len,h.brd.keep (fun j hj=>hs.keep j (h.brd.lt j hj) (by rcases hj with rfl | hj;exact h3;exact h1 j (by simp [HP.own,hj]))),h.hfr,h.hq,h.hC,h.bh,h.bt,h.tq,h.tC,h.fq,h.Cq,h.Mo⟩
theorem HO.act {M' : List Nat} {c' : Nat} (h : HO X p D T B) (hs : Zr p.M X M' X') (hd : DX X' D' p.ov p.nv M' p.C c') : HO X' { p with M:=M',c:=c' } D' T B∧Zr p.own X ({ p with M:=M',c:=c' } : HP).own X':=by
 have hM:=h.Mo
 have hb:=h.brd.lt
 have ht:=h.tab.lt
 have hh:=ZX h.cell
 refine ⟨⟨hs.get h.cell fun hj=>(hM _ hj).1 rfl,hd,h.tab.keep (fun j hj=>hs.keep j (ht j hj) fun hm=>(hM j hm).2.2.2 hj) hs.len,h.brd.keep (fun j hj=>hs.keep j (hb j hj) fun hm=>by
  rcases hj with rfl | hj
  ·exact (hM _ hm).2.1 rfl
  ·exact (hM j hm).2.2.1 hj),h.hfr,h.hq,h.hC,h.bh,h.bt,h.tq,h.tC,h.fq,h.Cq,fun j hj=>?_⟩,⟨hs.len,fun j hj hn=>hs.keep j hj fun hm=>hn (by simp [HP.own,hm]),fun j hj=>?_⟩⟩
 ·rcases hs.own j hj with hj | hj
  ·exact hM j hj
  ·refine ⟨fun e=>?_,fun e=>?_,fun e=>?_,fun e=>?_⟩
   ·subst e;exact absurd hh (Nat.not_lt.2 hj)
   ·subst e;exact absurd (hb _ (.inl rfl)) (Nat.not_lt.2 hj)
   ·exact absurd (hb _ (.inr e)) (Nat.not_lt.2 hj)
   ·exact absurd (ht _ e) (Nat.not_lt.2 hj)
 ·simp only [HP.own] at hj ⊢
  rcases List.mem_append.1 hj with hj | hj
  ·rcases hs.own j hj with hj | hj
   ·exact .inl (List.mem_append_left _ hj)
   ·exact .inr hj
  ·exact .inl (List.mem_append_right _ hj)
def verS : Jv→Nat
 | .old _=>1
 | .now _=>2
theorem DX.nv (h : DX X D p.ov p.nv p.M p.C p.c) (H : Zd) : bop .ptr .eql p.nv (.pointer none) H=some (.bool (decide (verS D=1)),H):=by
 cases D with
 | old m=>
  obtain ⟨d,b,h1,h2,_⟩:=h
  rw [h2]
  rfl
 | now s=>
  obtain ⟨d,r,h1,h2,_⟩:=h
  rw [h2]
  rfl
theorem ZyV (h : HO X p D T B) : R (n+1) J1 [pt p.h] X=some (iv (verS D),X):=by
 rw [R,ZkL rfl]
 unfold Zdg
 rw [Za Zg,Za (show fa 1 (pa p.h 0) X=some (pa p.h 1,X) from rfl),Za (ZC h.cell rfl),Za (h.dir.nv X)]
 cases D <;> rfl
theorem ZDD (h : HO X p D T B) : R (n+1) Y7 [pt p.h] X=some (ZsH D p.ov p.nv,X):=by
 rw [R,Zn3 rfl]
 unfold Zet
 have e0 : ld1 (pa p.h 0) X=some (p.ov,X):=ZC h.cell rfl
 have e1 : ld1 (pa p.h 1) X=some (p.nv,X):=ZC h.cell rfl
 rw [Za Zg,Za (show fa 1 (pa p.h 0) X=some (pa p.h 1,X) from rfl),Za e1,Za (h.dir.nv X)]
 cases D with
 | old m=>
  rw [show decide (verS (.old m)=1)=true from rfl,Zb,if_pos rfl,Za Zg,Za Zj,Za e0]
  rfl
 | now s=>
  rw [show decide (verS (.now s)=1)=false from rfl,Zb,if_neg (by simp),Za Zg,Za (show fa 1 (pa p.h 0) X=some (pa p.h 1,X) from rfl),Za e1]
  rfl
def Zv3 : Jv→List UInt8
 | .old m=>ZBq (YN m)
 | .now s=>ZsA (Z5 s.K) (A.allK s)
theorem ZAx (h : HO X p D T B) : ∃ v X',R (n+13) Qp [pt p.h] X=some (v,X')∧Sl X' v (u8s (Zv3 D))∧HLe X X':=by
 have e0 : ld1 (pa p.h 0) X=some (p.ov,X):=ZC h.cell rfl
 have e1 : ld1 (pa p.h 1) X=some (p.nv,X):=ZC h.cell rfl
 have hnv:=h.dir.nv X
 have hd:=h.dir
 cases D with
 | old m=>
  obtain ⟨d,b,h1,h2,h3,h4,_,_⟩:=hd
  obtain ⟨u1,u2,u3⟩:=ZCq h3 h4
  obtain ⟨v,X',e2,r2,l2⟩:=ZwH (n:=n+4) h3 u1 Zty
  have e2 : R (n+12) ZdC [pt d] X=_:=e2
  refine ⟨v,X',?_,r2,l2⟩
  rw [R,Zio rfl]
  unfold ZdH
  rw [Za Zg,Za (show fa 1 (pa p.h 0) X=some (pa p.h 1,X) from rfl),Za e1,Za hnv,show decide (verS (.old m)=1)=true from rfl,Zb,if_pos rfl,Za Zg,Za Zj,Za e0,h1,Za e2]
  rfl
 | now s=>
  obtain ⟨d,r,h1,h2,h3,_,_⟩:=hd
  obtain ⟨v,q,X',e2,r2,l2,_⟩:=Zuy (n:=n) h3
  refine ⟨v,X',?_,r2.rd,l2⟩
  rw [R,Zio rfl]
  unfold ZdH
  rw [Za Zg,Za (show fa 1 (pa p.h 0) X=some (pa p.h 1,X) from rfl),Za e1,Za hnv,show decide (verS (.now s)=1)=false from rfl,Zb,if_neg (by simp),Za Zg,Za (show fa 1 (pa p.h 0) X=some (pa p.h 1,X) from rfl),Za e1,h2,Za e2]
  rfl
end Go.Proofs.YtgfbgfafajiehaaGreatDoor.A

namespace Go.Proofs.YtgfbgfafajiehaaGreatDoor.A
set_option linter.unusedVariables false
set_option linter.unusedSimpArgs false
open Go.Proofs Go.Proofs.YtgfbgfafajiehaaGreatDoor
variable {X X' Y : Zd} {n : Nat} {p : HP} {D D' : Jv} {T : List JI} {B : List Nat} {k : Tx}
theorem ZEX : ∃ p X',R (n+2) ZcK [.int .i64 3] X=some (pt p.h,X')∧HO X' p (.old []) Zli [0,0,0]∧HLe X X'∧(∀ j∈p.own,X.length≤j)∧p.c=0:=by
 have e1 : R (n+1) Zdz [.int .i64 3] X=_:=ZzO
 have b1:=ZDq (X:=X)
 have k1 : HLe X (X++[Ze.cells [.int .u8 0,.int .u8 0,.int .u8 0] 1 false false]++[Ze.cells [.slice (some ⟨X.length,0,none⟩) 3 3] 1 false false]):=(HLe.app _ _).trans (.app _ _)
 have hb : (X++[Ze.cells [.int .u8 0,.int .u8 0,.int .u8 0] 1 false false]).length=X.length+1:=by simp
 have hl1 : (X++[Ze.cells [.int .u8 0,.int .u8 0,.int .u8 0] 1 false false]++[Ze.cells [.slice (some ⟨X.length,0,none⟩) 3 3] 1 false false]).length=X.length+2:=by simp
 rw [hb] at e1 b1
 generalize X++[Ze.cells [.int .u8 0,.int .u8 0,.int .u8 0] 1 false false]++[Ze.cells [.slice (some ⟨X.length,0,none⟩) 3 3] 1 false false]=X1 at e1 b1 k1 hl1
 obtain ⟨X2,d,m,e2,D2,k2,hd,hm⟩:=ZA8 (n:=n) (H:=X1)
 have e2 : R (n+1) Zc8 [] X1=_:=e2
 have e3 : R (n+1) ZcV [] X2=_:=Zy7
 have t3:=ZD2 (X:=X2) (fr:=[X2.length]) (by simp) (by simp)
 have k3 : HLe X2 (X2++[.cells (YI Zli (List.replicate 8 (.slice none 0 0))) 1 false false]):=.app _ _
 have hl3 : (X2++[Ze.cells (YI Zli (List.replicate 8 (.slice none 0 0))) 1 false false]).length=X2.length+1:=by simp
 generalize X2++[Ze.cells (YI Zli (List.replicate 8 (.slice none 0 0))) 1 false false]=X3 at e3 t3 k3 hl3
 have e4 : alc 1 (.agg #[pt d,.pointer none,pt X2.length,pt (X.length+1)]) X3=some (pt X3.length,X3++[.cells [pt d,.pointer none,pt X2.length,pt (X.length+1)] 1 false false]):=Ziu (vs:=[pt d,.pointer none,pt X2.length,pt (X.length+1)]) rfl
 have k4 : HLe X3 (X3++[.cells [pt d,.pointer none,pt X2.length,pt (X.length+1)] 1 false false]):=.app _ _
 have c4 : (X3++[Ze.cells [pt d,.pointer none,pt X2.length,pt (X.length+1)] 1 false false])[X3.length]?=some (.cells [pt d,.pointer none,pt X2.length,pt (X.length+1)] 1 false false):=Zv
 generalize X3++[Ze.cells [pt d,.pointer none,pt X2.length,pt (X.length+1)] 1 false false]=X4 at e4 k4 c4
 have l2:=k2.len
 have dl:=D2.lt
 refine ⟨⟨X3.length,X2.length,X.length+1,[X2.length],[X.length],[m],[d],0,List.replicate 8 (.slice none 0 0),pt d,.pointer none⟩,X4,?_,⟨c4,⟨d,m,rfl,rfl,(D2.hle k3).hle k4,by simp,rfl,rfl⟩,t3.hle k4,((b1.hle k2).hle k3).hle k4,?_,?_,?_,?_,?_,?_,?_,?_,?_,?_⟩,((k1.trans k2).trans k3).trans k4,?_,rfl⟩
 ·rw [R,Zw0 rfl]
  unfold Zmt
  rw [Za e1,Za (show bop .ptr .eql (pt (X.length+1)) (.pointer none) X1=some (.bool false,X1) from Ji),Zb,if_neg (by simp),Za e2,Za e3,Za (show bld (.agg #[.pointer none,.pointer none,.pointer none,.pointer none]) [(0,1,pt d),(2,1,pt X2.length),(3,1,pt (X.length+1))] X3=some (.agg #[pt d,.pointer none,pt X2.length,pt (X.length+1)],X3) from rfl),Za e4]
  rfl
 ·simp;omega
 ·simp;omega
 ·simp;omega
 ·show X.length+1≠X3.length
  omega
 ·show X.length+1≠X2.length
  omega
 ·simp;omega
 ·simp;omega
 ·simp;omega
 ·simp;omega
 ·simp;omega
 ·simp [HP.own];omega
theorem Zzt (h : HO X p D T B) (hk : k.length≤1000000000) : ∃ (v : Value) (l : List Tx) (q : List Nat) (e : Int) (X' : Zd),R (n+8) Zaj [pt p.h,strv k] X=some (.tuple #[v,iv e],X')∧Zo X' v (l.map strv) q∧HLe X X'∧l.length≤10∧(∀ j∈q,X.length≤j)∧e≠6∧0≤e:=by
 have e0 : ld1 (pa p.h 0) X=some (p.ov,X):=ZC h.cell rfl
 have e1 : ld1 (pa p.h 1) X=some (p.nv,X):=ZC h.cell rfl
 have hnv:=h.dir.nv X
 have hd:=h.dir
 cases D with
 | old m=>
  obtain ⟨d,b,h1,h2,h3,h4,_,_⟩:=hd
  obtain ⟨X1,a2,k2⟩:=ZB7 (n:=n) (k:=k) h3 hk
  have a2 : R (n+7) Zas [pt d,strv k] X=_:=a2
  refine ⟨.slice (some ⟨X1.length,0,none⟩) 1 1,[if JR k m=0 then (Zf k m).getD [] else []],[X1.length],JR k m,X1++[Ze.cells [strv (if JR k m=0 then (Zf k m).getD [] else [])] 1 false false],?_,.inr ⟨X1.length,[],false,rfl,rfl,Zv⟩,k2.trans (.app _ _),by simp,by simpa using k2.len,?_⟩
  ·rw [R,Zf4 rfl]
   unfold ZbQ
   rw [Za Zg,Za (show fa 1 (pa p.h 0) X=some (pa p.h 1,X) from rfl),Za e1,Za hnv,show decide (verS (.old m)=1)=true from rfl,Zb,if_pos rfl,Za Zg,Za Zj,Za e0,h1,Za a2,Za Zp,Za Zq,Za (Zo2 rfl rfl rfl)]
   rfl
  ·unfold JR Zz Y0 Wa
   cases Zs k <;> cases (Zf k m).isSome <;> simp [Wa]
 | now s=>
  obtain ⟨d,r,h1,h2,h3,_,_⟩:=hd
  obtain ⟨u,q,X1,a2,r2,o2,k2,l2,_⟩:=Ztd (n:=n) (k:=k) h3
  have a2 : R (n+7) Kl [pt d,strv k] X=_:=a2
  have hu : u.cells.all oneCell=true:=by
   simp only [Zt.cells,List.all_cons,r2.one.1];rfl
  have z3 : ∀ K : Value→A.M Value,bind (alc 1 (.agg #[.string ⟨#[]⟩,.string ⟨#[]⟩,.string ⟨#[]⟩,.bool false,.slice none 0 0])) (fun q=>bind (stA 5 q (.agg u.cells.toArray)) fun _=>K q) X1=K (pt X1.length) (X1++[.cells u.cells 1 false false]):=fun K=>ZbU (n:=5) (zs:=[.string ⟨#[]⟩,.string ⟨#[]⟩,.string ⟨#[]⟩,.bool false,.slice none 0 0]) (r:=u.cells) rfl rfl rfl hu
  have k3 : HLe X1 (X1++[Ze.cells u.cells 1 false false]):=.app _ _
  have c3 : (X1++[Ze.cells u.cells 1 false false])[X1.length]?=some (.cells u.cells 1 false false):=Zv
  generalize X1++[Ze.cells u.cells 1 false false]=X2 at z3 k3 c3
  have f1 : ld1 (pa X1.length 1) X2=some (strv u.hs,X2):=ZC c3 rfl
  have f2 : ld1 (pa X1.length 2) X2=some (strv u.ml,X2):=ZC c3 rfl
  have f3 : ld1 (pa X1.length 3) X2=some (.bool u.ds,X2):=ZC c3 rfl
  have off : ∃ o : Tx,(o=[49]∨o=[48])∧cnd (.bool u.ds) (ret (Out.nrm [pt X1.length,iv (ZF k s.A),(Value.string ⟨#[49]⟩)])) (ret (Out.nrm [pt X1.length,iv (ZF k s.A),(Value.string ⟨#[48]⟩)])) X2=some (.nrm [pt X1.length,iv (ZF k s.A),strv o],X2):=by
   cases u.ds
   ·exact ⟨[48],.inr rfl,rfl⟩
   ·exact ⟨[49],.inl rfl,rfl⟩
  obtain ⟨o,_,e5⟩:=off
  have e6 : bsl 1 3 (.string ⟨#[]⟩) [(0,1,strv u.hs),(1,1,strv u.ml),(2,1,strv o)] X2=some (.slice (some ⟨X2.length,0,none⟩) 3 3,X2++[.cells [strv u.hs,strv u.ml,strv o] 1 false false]):=rfl
  have k6 : HLe X2 (X2++[Ze.cells [strv u.hs,strv u.ml,strv o] 1 false false]):=.app _ _
  have r6 : Zo (X2++[Ze.cells [strv u.hs,strv u.ml,strv o] 1 false false]) (.slice (some ⟨X2.length,0,none⟩) 3 3) [strv u.hs,strv u.ml,strv o] [X2.length]:=.inr ⟨X2.length,[],false,rfl,rfl,Zv⟩
  generalize X2++[Ze.cells [strv u.hs,strv u.ml,strv o] 1 false false]=X3 at e6 k6 r6
  have f4 : ld1 (pa X1.length 4) X3=some (u.gv,X3):=ZC (k6 _ _ c3) rfl
  have r7:=(r2.hle (k3.trans k6)).rd
  obtain ⟨v,X4,q4,e7,r8,s8⟩:=r6.addN (b:=16) r7.fc r7.flen (by simp;omega) (by simp;omega)
  have kk:=k2.trans k3
  have m8:=(kk.trans k6).more s8 (by simpa using kk.len)
  refine ⟨v,u.hs :: u.ml :: o :: u.gs,q4,ZF k s.A,X4,?_,r8,m8.1,by simp;omega,m8.2,?_⟩
  ·rw [R,Zf4 rfl]
   unfold ZbQ
   rw [Za Zg,Za (show fa 1 (pa p.h 0) X=some (pa p.h 1,X) from rfl),Za e1,Za hnv,show decide (verS (.now s)=1)=false from rfl,Zb,if_neg (by simp),Za Zg,Za (show fa 1 (pa p.h 0) X=some (pa p.h 1,X) from rfl),Za e1,h2,Za a2,Za Zp,Za Zq,z3,Za (show fa 3 (pt X1.length) X2=some (pa X1.length 3,X2) from rfl),Za f3,ZO e5,ZV,Za (show fa 1 (pt X1.length) X2=some (pa X1.length 1,X2) from rfl),Za f1,Za (show fa 2 (pt X1.length) X2=some (pa X1.length 2,X2) from rfl),Za f2,Za e6,Za (show fa 4 (pt X1.length) X3=some (pa X1.length 4,X3) from rfl),Za f4,Za e7]
   rfl
  ·unfold ZF
   cases Zs k <;> cases (Zf k s.A).isSome <;> simp
end Go.Proofs.YtgfbgfafajiehaaGreatDoor.A

namespace Go.Proofs.YtgfbgfafajiehaaGreatDoor.A
set_option linter.unusedVariables false
set_option linter.unusedSimpArgs false
open Go.Proofs Go.Proofs.YtgfbgfafajiehaaGreatDoor
variable {X X' Y : Zd} {n : Nat} {p : HP} {D D' : Jv} {T : List JI} {B : List Nat} {k : Tx}
theorem DX.first {ov nv : Value} {M C : List Nat} {c : Nat} (h : DX X D ov nv M C c) : ∀ j∈C,∃ i cs es g ro,X[j]?=some (.cells (.map i :: cs) es g ro):=by
 cases D with
 | old m=>
  obtain ⟨d,b,rfl,rfl,h1,h2,rfl,rfl⟩:=h
  intro j hj
  cases List.mem_singleton.1 hj
  exact ⟨_,_,_,_,_,h1.c⟩
 | now s=>
  obtain ⟨d,r,rfl,rfl,h1,rfl,rfl⟩:=h
  intro j hj
  simp only [List.mem_cons,List.not_mem_nil,or_false] at hj
  rcases hj with rfl | rfl | rfl
  ·exact ⟨_,_,_,_,_,h1.cell⟩
  ·exact ⟨_,_,_,_,_,h1.ix.c⟩
  ·exact ⟨_,_,_,_,_,h1.gr.cell⟩
theorem HO.ovp (h : DX X D p.ov p.nv p.M p.C p.c) : ∃ q,p.ov=.pointer q:=by
 cases D with
 | old m=>obtain ⟨d,b,h1,_⟩:=h;exact ⟨_,h1⟩
 | now s=>obtain ⟨d,r,h1,_⟩:=h;exact ⟨_,h1⟩
theorem HO.apart (h : HO X p D T B) {j : Nat} {i : Option Nat} {cs : List Value} {es : Nat} {g ro : Bool} (hj : X[j]?=some (.cells (.map i :: cs) es g ro)) : j≠p.h∧j≠p.t∧j∉p.q:=by
 refine ⟨fun e=>?_,fun e=>?_,fun e=>?_⟩
 ·subst e
  rw [h.cell] at hj
  obtain ⟨q,hq⟩:=HO.ovp h.dir
  rw [hq] at hj
  cases hj
 ·subst e
  obtain ⟨r,lv,hr,hl⟩:=h.tab.row (c:=0) (by omega)
  have h1:=ZoR hr hl (f:=0) (v:=.int .u64 r.num) rfl
  have h2:=h.tab.cell
  rw [hj] at h2
  simp only [Option.some.injEq,Ze.cells.injEq] at h2
  rw [← h2.1] at h1
  simp at h1
 ·obtain ⟨sl,h1,h2⟩:=h.brd.at_
  rcases h2 with ⟨h3,h4,_⟩ | ⟨sid,rest,g',_,h4,h5⟩
  ·rw [h4] at e;cases e
  ·rw [h4] at e
   cases List.mem_singleton.1 e
   rw [hj] at h5
   cases hB : B with
   | nil=>exact h.brd.one hB
   | cons a l=>
    rw [hB] at h5
    simp [rlv] at h5
theorem Zyo (h : HO X p D T B) : ∃ (e : Int) (p' : HP) (D' : Jv) (X' : Zd),R (n+14) WQ [pt p.h] X=some (iv e,X')∧HO X' p' D' T B∧Zr p.own X p'.own X'∧p'.h=p.h∧p'.t=p.t∧p'.fr=p.fr∧(e≠0→D'=D)∧0≤e∧e≠6∧p'.c≤p.c:=by
 have e0 : ld1 (pa p.h 0) X=some (p.ov,X):=ZC h.cell rfl
 have e1 : ld1 (pa p.h 1) X=some (p.nv,X):=ZC h.cell rfl
 have e3 : ld1 (pa p.h 3) X=some (pt p.b,X):=ZC h.cell rfl
 have g1 : ∀ H : Zd,fa 1 (pa p.h 0) H=some (pa p.h 1,H):=fun H=>rfl
 have g3 : ∀ H : Zd,fa 3 (pa p.h 0) H=some (pa p.h 3,H):=fun H=>rfl
 have hd:=h.dir
 have f0 : ∀ r X',KX (R (n+13)) (pt p.h) X=some (r,X')→R (n+14) WQ [pt p.h] X=some (r,X'):=fun r X' hr=>by rw [R,ZkX rfl];exact hr
 cases D with
 | now s=>
  obtain ⟨d,r,h1,h2,h3,_,_⟩:=hd
  refine ⟨14,p,.now s,X,f0 _ _ ?_,h,.refl _ _,rfl,rfl,rfl,fun _=>rfl,by omega,by omega,Nat.le_refl _⟩
  unfold KX
  rw [Za Zg,Za (g1 X),Za e1,h2,Za (show bop .ptr .neq (pt d) (.pointer none) X=some (.bool true,X) from JN),Zb,if_pos rfl]
  rfl
 | old m=>
  obtain ⟨d,b,h1,h2,h3,h4,_,_⟩:=hd
  obtain ⟨X1,a1,k1⟩:=ZBg (n:=n+10) h.brd
  have a1 : R (n+13) Zaf [pt p.b,.int .u8 2] X=_:=a1
  have q0 : bop .ptr .neq (.pointer none) (.pointer none) X=some (.bool false,X):=rfl
  cases hB : B.all fun r=>decide (2≤r) with
  | false=>
   rw [hB] at a1
   refine ⟨13,p,.old m,X1,f0 _ _ ?_,h.hle k1,k1.step.more (by simp) (fun j hj=>.inl hj),rfl,rfl,rfl,fun _=>rfl,by omega,by omega,Nat.le_refl _⟩
   unfold KX
   rw [Za Zg,Za (g1 X),Za e1,h2,Za q0,Zb,if_neg (by simp),Za Zg,Za (g3 X),Za e3,Za a1,Za ZQ,Zb,if_pos (show (!false)=true from rfl)]
   rfl
  | true=>
   rw [hB] at a1
   have H1:=h.hle k1
   obtain ⟨u1,u2,u3⟩:=ZCq h3 h4
   obtain ⟨X2,d',r,s,c,a2,k2,hS⟩:=ZCI (n:=n) (h3.hle k1) u1 u2 u3
   have H2:=H1.hle k2
   have hK : r.G=[]:=by
    have:=hS.nd.ks
    rw [hS.K] at this
    exact List.map_eq_nil_iff.1 this
   have hN : ND X2 d' r s 0:=by
    have hg:=hS.nd.gr
    have hg0 : Grp X2 r.g r.o2 r.G s.mem 0:=⟨hg.cell,hg.mo,(fun x hx=>by rw [hK] at hx;cases hx),hg.out,hg.nod,hg.ok,hg.few⟩
    exact ⟨⟨hS.nd.cell,hS.nd.m,hS.nd.ix,hg0,hS.nd.ks,hS.nd.dis⟩,hS.nd.inv⟩
   have hO:=hS.own
   have hl1:=k1.len
   have b1 : st1 (pa p.h 1) (pt d') X2=some (undef,X2.set p.h (.cells [p.ov,pt d',pt p.t,pt p.b] 1 false false)):=ZhX (o:=1) H2.cell (by simp) rfl
   have c3 : (X2.set p.h (.cells [p.ov,pt d',pt p.t,pt p.b] 1 false false))[p.h]?=some (.cells [p.ov,pt d',pt p.t,pt p.b] 1 false false):=Qa H2.cell
   have s3 : Zr [p.h] X2 [p.h] (X2.set p.h (.cells [p.ov,pt d',pt p.t,pt p.b] 1 false false)):=⟨by simp,fun j hj hn=>List.getElem?_set_ne (fun e=>hn (by simp [e])),fun j hj=>.inl hj⟩
   generalize X2.set p.h (.cells [p.ov,pt d',pt p.t,pt p.b] 1 false false)=X3 at b1 c3 s3
   have b2 : st1 (pa p.h 0) (.pointer none) X3=some (undef,X3.set p.h (.cells [.pointer none,pt d',pt p.t,pt p.b] 1 false false)):=ZhX (o:=0) c3 (by simp) rfl
   have c4 : (X3.set p.h (.cells [.pointer none,pt d',pt p.t,pt p.b] 1 false false))[p.h]?=some (.cells [.pointer none,pt d',pt p.t,pt p.b] 1 false false):=Qa c3
   have s4 : Zr [p.h] X3 [p.h] (X3.set p.h (.cells [.pointer none,pt d',pt p.t,pt p.b] 1 false false)):=⟨by simp,fun j hj hn=>List.getElem?_set_ne (fun e=>hn (by simp [e])),fun j hj=>.inl hj⟩
   generalize X3.set p.h (.cells [.pointer none,pt d',pt p.t,pt p.b] 1 false false)=X4 at b2 c4 s4
   have st:=s3.trans s4
   have dx2 : DX X2 (.now s) (.pointer none) (pt d') r.own [d',r.x,r.g] 0:=⟨d',r,rfl,rfl,hN,rfl,rfl⟩
   have hap : ∀ j∈[d',r.x,r.g],j≠p.h∧j≠p.t∧j∉p.q:=fun j hj=>by
    obtain ⟨i,cs,es,g,ro,hc⟩:=dx2.first j hj
    exact H2.apart hc
   have hM : ∀ j∈r.own,j≠p.h∧j≠p.b∧j∉p.q∧j∉p.fr:=fun j hj=>by
    have h0:=hO j hj
    have hh:=ZX H1.cell
    refine ⟨fun e=>?_,fun e=>?_,fun e=>?_,fun e=>?_⟩
    ·omega
    ·have:=H1.brd.lt p.b (.inl rfl);omega
    ·have:=H1.brd.lt j (.inr e);omega
    ·have:=H1.tab.lt j e;omega
   refine ⟨0,{ p with M:=r.own,C:=[d',r.x,r.g],c:=0,ov:=.pointer none,nv:=pt d' },.now s,X4,f0 _ _ ?_,⟨c4,dx2.step st (fun j hj=>by simp [(hM j hj).1]) (fun j hj=>by simp [(hap j hj).1]),H2.tab.keep (fun j hj=>st.keep j (H2.tab.lt j hj) (by simp;exact fun e=>h.hfr (e ▸ hj))) st.len,H2.brd.keep (fun j hj=>st.keep j (H2.brd.lt j hj) (by
    simp
    rcases hj with rfl | hj
    ·exact h.bh
    ·exact fun e=>h.hq (e ▸ hj))),h.hfr,h.hq,fun hh=>(hap _ hh).1 rfl,h.bh,h.bt,h.tq,fun hh=>(hap _ hh).2.1 rfl,h.fq,fun j hj=>(hap j hj).2.2,hM⟩,?_,rfl,rfl,rfl,fun e=>absurd rfl e,by omega,by omega,Nat.zero_le _⟩
   ·unfold KX
    rw [Za Zg,Za (g1 X),Za e1,h2,Za q0,Zb,if_neg (by simp),Za Zg,Za (g3 X),Za e3,Za a1,Za ZQ,Zb,if_neg (by simp),Za Zg,Za Zj,Za (show ld1 (pa p.h 0) X1=some (p.ov,X1) from ZC H1.cell rfl),h1,Za a2,Za Zg,Za (g1 X2),Za b1,Za Zg,Za Zj,Za b2]
    rfl
   ·have k12:=k1.trans k2
    refine ⟨Nat.le_trans k12.len st.len,fun j hj hn=>?_,fun j hj=>?_⟩
    ·rw [st.keep j (Nat.lt_of_lt_of_le hj k12.len) (by simp;exact fun e=>hn (by simp [HP.own,e]))]
     rw [List.getElem?_eq_getElem hj]
     exact k12 _ _ (List.getElem?_eq_getElem hj)
    ·simp only [HP.own] at hj ⊢
     rcases List.mem_append.1 hj with hj | hj
     ·exact .inr (Nat.le_trans hl1 (hO j hj))
     ·exact .inl (List.mem_append_right _ hj)
end Go.Proofs.YtgfbgfafajiehaaGreatDoor.A

namespace Go.Proofs.YtgfbgfafajiehaaGreatDoor.A
set_option linter.unusedVariables false
set_option linter.unusedSimpArgs false
open Go.Proofs Go.Proofs.YtgfbgfafajiehaaGreatDoor
variable {X X' Y : Zd} {n : Nat} {p p' : HP} {D D' : Jv} {T : List JI} {B : List Nat} {k : Tx} {o : OpT}
structure Yg (X X' : Zd) (p p' : HP) (D D' : Jv) (T : List JI) (B : List Nat) (e : Int) : Prop where
 ho : HO X' p' D' T B
 st : Zr p.own X p'.own X'
 h : p'.h=p.h
 t : p'.t=p.t
 fr : p'.fr=p.fr
 no : e≠0→D'=D
 nn : 0≤e
 c : p'.c≤p.c+1
theorem Yg.refl (h : HO X p D T B) {e : Int} (he : 0≤e) : Yg X X p p D D T B e:=⟨h,.refl _ _,rfl,rfl,rfl,fun _=>rfl,he,by omega⟩
theorem Yg.of {e : Int} (h : HO X p D T B) (hl : HLe X X') (he : 0≤e) : Yg X X' p p D D T B e:=⟨h.hle hl,hl.step.more (by simp) (fun j hj=>.inl hj),rfl,rfl,rfl,fun _=>rfl,he,by omega⟩
theorem Yg.pre {e : Int} (hl : HLe Y X) (h : Yg X X' p p' D D' T B e) : Yg Y X' p p' D D' T B e:=
 ⟨h.ho,⟨Nat.le_trans hl.len h.st.len,fun j hj hn=>by rw [h.st.keep j (Nat.lt_of_lt_of_le hj hl.len) hn,List.getElem?_eq_getElem hj];exact hl _ _ (List.getElem?_eq_getElem hj),fun j hj=>by
  rcases h.st.own j hj with h1 | h1
  ·exact .inl h1
  ·exact .inr (Nat.le_trans hl.len h1)⟩,h.h,h.t,h.fr,h.no,h.nn,h.c⟩
theorem Yg.act {e : Int} {M' : List Nat} {c' : Nat} (h : HO X p D T B) (hs : Zr p.M X M' X') (hd : DX X' D' p.ov p.nv M' p.C c') (hn : e≠0→D'=D) (he : 0≤e) (hc : c'≤p.c+1) : Yg X X' p { p with M:=M',c:=c' } D D' T B e:=
 ⟨(h.act hs hd).1,(h.act hs hd).2,rfl,rfl,rfl,hn,he,hc⟩
theorem ZFh {s : Tx} (h : crE k s D≠0) : crD k s D=D:=by
 cases D with
 | old m=>show Jv.old (Zfr k s m)=_;unfold Zfr;rw [if_neg (show ¬ Kv k s m=0 from h)]
 | now t=>show Jv.now (Zcc k s t)=_;unfold Zcc;rw [if_neg (show ¬ YP k s t.A=0 from h)]
theorem ZFf (h : deE k D≠0) : deD k D=D:=by
 cases D with
 | old m=>show Jv.old (Zfx k m)=_;unfold Zfx;rw [if_neg (show ¬ JR k m=0 from h)]
 | now t=>show Jv.now (Zca k t)=_;unfold Zca;rw [if_neg (show ¬ ZF k t.A=0 from h)]
theorem ZFl {s : Tx} (h : seE k s D≠0) : seD k s D=D:=by
 cases D with
 | old m=>show Jv.old (Zpm k s m)=_;unfold Zpm;rw [if_neg (show ¬ ZbF k s m=0 from h)]
 | now t=>show Jv.now (Zbg k s t)=_;unfold Zbg;rw [if_neg (show ¬ Yc k s t.A=0 from h)]
theorem ZmK {e : Int} {l : List Int} (h : 0≤e∧e≠6) (hl : ∀ x∈l,0≤x∧x≠6) : 0≤Wa e l∧Wa e l≠6:=by
 induction l generalizing e with
 | nil=>exact h
 | cons a l ih=>
  have : Wa e (a :: l)=Wa (if e=0 then a else e) l:=rfl
  rw [this]
  refine ih ?_ fun x hx=>hl x (by simp [hx])
  split
  ·exact hl a (by simp)
  ·exact h
theorem ZrR : 0≤Zz k∧Zz k≠6:=by unfold Zz;split <;> omega
theorem ZA0 : 0≤Z6 k∧Z6 k≠6:=by unfold Z6;split <;> omega
theorem ZC5 {m : QJ} : 0≤Zbx k m∧Zbx k m≠6:=by unfold Zbx;split <;> (try split) <;> omega
theorem Zv2 {m : QJ} : 0≤Y0 k m∧Y0 k m≠6:=by unfold Y0;split <;> omega
theorem ZCp {s : Tx} : 0≤crE k s D∧crE k s D≠6:=by
 cases D with
 | old m=>
  refine ZmK ZrR fun x hx=>?_
  simp only [List.mem_cons,List.not_mem_nil,or_false] at hx
  rcases hx with rfl | rfl
  ·exact ZA0
  ·exact ZC5
 | now t=>
  show 0≤YP k s t.A∧YP k s t.A≠6
  unfold YP
  repeat' split
  all_goals omega
theorem ZCr : 0≤deE k D∧deE k D≠6:=by
 cases D with
 | old m=>
  refine ZmK ZrR fun x hx=>?_
  simp only [List.mem_cons,List.not_mem_nil,or_false] at hx
  rcases hx with rfl
  exact Zv2
 | now t=>
  show 0≤ZF k t.A∧ZF k t.A≠6
  unfold ZF
  repeat' split
  all_goals omega
theorem ZCl {s : Tx} : 0≤seE k s D∧seE k s D≠6:=by
 cases D with
 | old m=>
  refine ZmK ZrR fun x hx=>?_
  simp only [List.mem_cons,List.not_mem_nil,or_false] at hx
  rcases hx with rfl | rfl
  ·exact ZA0
  ·exact Zv2
 | now t=>
  show 0≤Yc k s t.A∧Yc k s t.A≠6
  unfold Yc
  repeat' split
  all_goals omega
theorem ZxB : 0≤YD k∧YD k≠6:=by
 unfold YD
 repeat' split
 all_goals omega
theorem lvN {b : Bool} {A E : M Out} {v e : Value} (hb : b=false) (h : E X=some (.nrm [v,e],X')) : jn (cnd (.bool b) A E) (c2 fun x y=>ret (.nrm [x,y])) noX ZH X=some (.nrm [v,e],X'):=by
 subst hb
 exact (ZO (vs:=[v,e]) (H':=X') h).trans rfl
theorem lvY {b : Bool} {A E : M Out} {v e : Value} (hb : b=true) (h : A X=some (.nrm [v,e],X')) : jn (cnd (.bool b) A E) (c2 fun x y=>ret (.nrm [x,y])) noX ZH X=some (.nrm [v,e],X'):=by
 subst hb
 exact (ZO (vs:=[v,e]) (H':=X') h).trans rfl
theorem lvR {b : Bool} {A E : M Out} {w : Value} (hb : b=false) (h : E X=some (.ret w,X')) : jn (cnd (.bool b) A E) (c2 fun x y=>ret (.nrm [x,y])) noX ZH X=some (.ret w,X'):=by
 subst hb
 exact (Kz (v:=w) (H':=X') h).trans rfl
theorem ZAQ (h : HO X p D T B) (ha : o.a.length≤65535) (hb : o.b.length≤65535) (hok : ZpW o) : ∃ (v : Value) (l : List Tx) (q : List Nat) (e : Int) (p' : HP) (D' : Jv) (X' : Zd),
  R (n+15) Wg [pt p.h,.agg o.cells.toArray] X=some (.tuple #[v,iv e,.bool (o.kd≤4 || o.kd==15 || o.kd==16)],X')∧Zo X' v (l.map strv) q∧(∀ j∈q,X.length≤j)∧l.length≤1000∧Yg X X' p p' D D' T B e∧e≠6∧(5≤o.kd∧o.kd≤14→D'=D∧p'=p):=by
 have a1:=ZiV o X
 have k1 : HLe X (X++[Ze.cells o.cells 1 false false]):=.app _ _
 have c1 : (X++[Ze.cells o.cells 1 false false])[X.length]?=some (.cells o.cells 1 false false):=Zv
 generalize X++[Ze.cells o.cells 1 false false]=X1 at a1 k1 c1
 have H1:=h.hle k1
 have l1:=k1.len
 have b0 : ld1 (pa X.length 0) X1=some (.int .u8 o.kd,X1):=Zd2 c1 rfl
 have b1 : ld1 (pa X.length 1) X1=some (strv o.a,X1):=Zd2 c1 rfl
 have b2 : ld1 (pa X.length 2) X1=some (strv o.b,X1):=Zd2 c1 rfl
 have g1 : fa 1 (pt X.length) X1=some (pa X.length 1,X1):=rfl
 have g2 : fa 2 (pt X.length) X1=some (pa X.length 2,X1):=rfl
 have hI : R (n+14) Y7 [pt p.h] X1=some (ZsH D p.ov p.nv,X1):=ZDD H1
 have qq : ∀ j : Int,bop .int .eql (.int .u8 o.kd) (.int .u8 j) X1=some (.bool (decide ((o.kd : Int)=j)),X1):=fun j=>by rw [ZE];rfl
 have sm : ∀ (v : Value) (K : M Out),same v v K X1=K X1:=fun v K=>by unfold same;simp
 have f0 : ∀ r X',Jf (R (n+14)) (pt p.h) (.agg o.cells.toArray) X=some (r,X')→R (n+15) Wg [pt p.h,.agg o.cells.toArray] X=some (r,X'):=fun r X' hr=>by rw [R,ZmZ rfl];exact hr
 have nil : ∀ {Z : Zd},Zo Z (.slice none 0 0) (([] : List Tx).map strv) []:=Zo.nil
 by_cases h0 : o.kd=0
 ·rw [h0] at qq ⊢
  obtain ⟨X2,e2,d2,s2⟩:=ZzW (n:=n+4) (k:=o.a) (s:=o.b) H1.dir (by omega) (by omega)
  refine ⟨.slice none 0 0,[],[],crE o.a o.b D,_,crD o.a o.b D,X2,f0 _ _ ?_,nil,by simp,by simp,(Yg.act H1 s2 d2 ZFh ZCp.1 (by omega)).pre k1,ZCp.2,by omega⟩
  unfold Jf
  rw [Za a1,Za Zj,Za b0,h0,Za (qq 0)]
  refine (ZO (vs:=[.slice none 0 0,iv (crE o.a o.b D)]) (H':=X2) ?_).trans rfl
  rw [Zb,if_pos (by decide),Za g1,Za b1,Za g2,Za b2,Za hI,Za b2,sm,Za b1,sm,Za e2]
  rfl
 by_cases h1 : o.kd=1
 ·rw [h1] at qq ⊢
  obtain ⟨X2,e2,d2,s2⟩:=ZzI (n:=n+4) (k:=o.a) H1.dir (by omega)
  refine ⟨.slice none 0 0,[],[],deE o.a D,_,deD o.a D,X2,f0 _ _ ?_,nil,by simp,by simp,(Yg.act H1 s2 d2 ZFf ZCr.1 (by omega)).pre k1,ZCr.2,by omega⟩
  unfold Jf
  rw [Za a1,Za Zj,Za b0,h1,Za (qq 0)]
  refine (ZO (vs:=[.slice none 0 0,iv (deE o.a D)]) (H':=X2) ?_).trans rfl
  rw [Zb,if_neg (by decide),Za (qq 1)]
  refine lvY (by decide) ?_
  rw [Za g1,Za b1,Za hI,Za b1,sm,Za e2]
  rfl
 by_cases h2 : o.kd=2
 ·rw [h2] at qq ⊢
  obtain ⟨X2,e2,d2,s2⟩:=ZyU (n:=n+4) (k:=o.a) (s:=o.b) H1.dir (by omega) (by omega)
  refine ⟨.slice none 0 0,[],[],seE o.a o.b D,_,seD o.a o.b D,X2,f0 _ _ ?_,nil,by simp,by simp,(Yg.act H1 s2 d2 ZFl ZCl.1 (by omega)).pre k1,ZCl.2,by omega⟩
  unfold Jf
  rw [Za a1,Za Zj,Za b0,h2,Za (qq 0)]
  refine (ZO (vs:=[.slice none 0 0,iv (seE o.a o.b D)]) (H':=X2) ?_).trans rfl
  rw [Zb,if_neg (by decide),Za (qq 1)]
  refine lvN (by decide) ?_
  rw [Za (qq 2)]
  refine lvY (by decide) ?_
  rw [Za g1,Za b1,Za g2,Za b2,Za hI,Za b2,sm,Za b1,sm,Za e2]
  rfl
 by_cases h3 : o.kd=3
 ·rw [h3] at qq ⊢
  obtain ⟨v,l,q,e,X2,e2,r2,k2,n2,o2,ne,nn⟩:=Zzt (n:=n+6) (k:=o.a) H1 (by omega)
  have e2 : R (n+14) Zaj [pt p.h,strv o.a] X1=_:=e2
  refine ⟨v,l,q,e,p,D,X2,f0 _ _ ?_,r2,fun j hj=>Nat.le_trans l1 (o2 j hj),by omega,(Yg.of H1 k2 nn).pre k1,ne,by omega⟩
  unfold Jf
  rw [Za a1,Za Zj,Za b0,h3,Za (qq 0)]
  refine (ZO (vs:=[v,iv e]) (H':=X2) ?_).trans rfl
  rw [Zb,if_neg (by decide),Za (qq 1)]
  refine lvN (by decide) ?_
  rw [Za (qq 2)]
  refine lvN (by decide) ?_
  rw [Za (qq 3)]
  refine lvY (by decide) ?_
  rw [Za g1,Za b1,Za e2,Za Zp,Za Zq]
  rfl
 by_cases h4 : o.kd=4
 ·rw [h4] at qq ⊢
  obtain ⟨v,q,X2,e2,r2,k2,n2,o2⟩:=ZDr (n:=n+4) (pre:=o.a) H1.dir (by omega)
  refine ⟨v,_,q,YD o.a,p,D,X2,f0 _ _ ?_,r2,fun j hj=>Nat.le_trans l1 (o2 j hj),n2,(Yg.of H1 k2 ZxB.1).pre k1,ZxB.2,by omega⟩
  unfold Jf
  rw [Za a1,Za Zj,Za b0,h4,Za (qq 0)]
  refine (ZO (vs:=[v,iv (YD o.a)]) (H':=X2) ?_).trans rfl
  rw [Zb,if_neg (by decide),Za (qq 1)]
  refine lvN (by decide) ?_
  rw [Za (qq 2)]
  refine lvN (by decide) ?_
  rw [Za (qq 3)]
  refine lvN (by decide) ?_
  rw [Za (qq 4)]
  refine lvY (by decide) ?_
  rw [Za g1,Za b1,Za hI,Za b1,sm,Za e2,Za Zp,Za Zq]
  rfl
 by_cases h5 : o.kd=15
 ·rw [h5] at qq ⊢
  obtain ⟨e,p',D',X2,e2,ho,st,i1,i2,i3,no,nn,n6,ic⟩:=Zyo (n:=n) H1
  refine ⟨.slice none 0 0,[],[],e,p',D',X2,f0 _ _ ?_,nil,by simp,by simp,Yg.pre k1 ⟨ho,st,i1,i2,i3,no,nn,by omega⟩,n6,by omega⟩
  unfold Jf
  rw [Za a1,Za Zj,Za b0,h5,Za (qq 0)]
  refine (ZO (vs:=[.slice none 0 0,iv e]) (H':=X2) ?_).trans rfl
  rw [Zb,if_neg (by decide),Za (qq 1)]
  refine lvN (by decide) ?_
  rw [Za (qq 2)]
  refine lvN (by decide) ?_
  rw [Za (qq 3)]
  refine lvN (by decide) ?_
  rw [Za (qq 4)]
  refine lvN (by decide) ?_
  rw [Za (qq 15)]
  refine lvY (by decide) ?_
  rw [Za e2]
  rfl
 by_cases h6 : o.kd=16
 ·rw [h6] at qq ⊢
  refine ⟨.slice none 0 0,[],[],1,p,D,X1,f0 _ _ ?_,nil,by simp,by simp,Yg.of h k1 (by omega),by omega,by omega⟩
  unfold Jf
  rw [Za a1,Za Zj,Za b0,h6,Za (qq 0)]
  refine (ZO (vs:=[.slice none 0 0,iv 1]) (H':=X1) ?_).trans rfl
  rw [Zb,if_neg (by decide),Za (qq 1)]
  refine lvN (by decide) ?_
  rw [Za (qq 2)]
  refine lvN (by decide) ?_
  rw [Za (qq 3)]
  refine lvN (by decide) ?_
  rw [Za (qq 4)]
  refine lvN (by decide) ?_
  rw [Za (qq 15)]
  refine lvN (by decide) ?_
  rw [Za (qq 16),Zb,if_pos (by decide)]
  rfl
 ·have hn : ∀ j : Nat,o.kd≠j→decide ((o.kd : Int)=(j : Int))=false:=fun j hj=>decide_eq_false (by omega)
  have hz : (decide (o.kd≤4) || o.kd==15 || o.kd==16)=false:=by simp;omega
  refine ⟨.slice none 0 0,[],[],0,p,D,X1,f0 _ _ ?_,nil,by simp,by simp,Yg.of h k1 (by omega),by omega,fun _=>⟨rfl,rfl⟩⟩
  rw [hz]
  unfold Jf
  rw [Za a1,Za Zj,Za b0,Za (qq 0)]
  refine (Kz (v:=.tuple #[.slice none 0 0,iv 0,.bool false]) (H':=X1) ?_).trans rfl
  rw [Zb,if_neg (by have:=h0;simp;omega),Za (qq 1)]
  refine lvR (hn 1 h1) ?_
  rw [Za (qq 2)]
  refine lvR (hn 2 h2) ?_
  rw [Za (qq 3)]
  refine lvR (hn 3 h3) ?_
  rw [Za (qq 4)]
  refine lvR (hn 4 h4) ?_
  rw [Za (qq 15)]
  refine lvR (hn 15 h5) ?_
  rw [Za (qq 16),Zb,if_neg (by have:=h6;simp;omega)]
  rfl
end Go.Proofs.YtgfbgfafajiehaaGreatDoor.A

namespace Go.Proofs.YtgfbgfafajiehaaGreatDoor.A
set_option linter.unusedVariables false
set_option linter.unusedSimpArgs false
open Go.Proofs Go.Proofs.YtgfbgfafajiehaaGreatDoor
variable {X X' Y : Zd} {n : Nat} {p p' : HP} {D D' : Jv} {T : List JI} {B : List Nat} {k m g t : Tx} {o : OpT} {s : NSt} {b : Bool}
theorem Zx2 {A : AMp} : 0≤ZF k A∧ZF k A≠6:=by
 unfold ZF
 repeat' split
 all_goals omega
theorem ZCL {OW : QJ} : 0≤Ku k m OW∧Ku k m OW≠6:=by
 unfold Ku
 repeat' split
 all_goals omega
theorem Zq5 : 0≤Ye k m s∧Ye k m s≠6:=by
 unfold Ye
 repeat' split
 all_goals first | exact ZCL | omega
theorem ZgU : 0≤Yn k b s.A∧Yn k b s.A≠6:=by
 unfold Yn
 repeat' split
 all_goals first | exact Zx2 | omega
theorem Zs2 : 0≤Y9 k t s.A∧Y9 k t s.A≠6:=by
 unfold Y9
 repeat' split
 all_goals omega
theorem ZxM : 0≤J9 g s.K∧J9 g s.K≠6:=by
 unfold J9
 repeat' split
 all_goals omega
theorem Zm2 : 0≤JM g s.K∧JM g s.K≠6:=by
 unfold JM
 repeat' split
 all_goals omega
theorem Ztm : 0≤J3 g k s.A∧J3 g k s.A≠6:=by
 unfold J3
 repeat' split
 all_goals first | exact Zx2 | omega
theorem ZvX {ms K : List Tx} : 0≤Q4 g ms K∧Q4 g ms K≠6:=by
 unfold Q4
 repeat' split
 all_goals omega
theorem Zxz : 0≤ZbG g k s∧ZbG g k s≠6:=by
 unfold ZbG
 split
 ·unfold ZaL
  repeat' split
  all_goals first | exact ZvX | omega
 ·exact Ztm
theorem Zwh : 0≤ZaO g k s∧ZaO g k s≠6:=by
 unfold ZaO
 split
 ·unfold ZcE
  repeat' split
  all_goals first | exact ZvX | omega
 ·exact Ztm
theorem Zwn {OW : QJ} : 0≤ZcU m OW∧ZcU m OW≠6:=by
 unfold ZcU
 repeat' split
 all_goals omega
theorem ZyN (h : Ye k m s≠0) : KL k m s=s:=if_neg h
theorem Zro (h : Yn k b s.A≠0) : KJ k b s=s:=if_neg h
theorem Zz9 (h : Y9 k t s.A≠0) : Zcd k t s=s:=if_neg h
theorem ZCZ (h : J9 g s.K≠0) : Zm5 g s=s:=by
 unfold Zm5 Zh8
 rw [if_neg h]
theorem ZC7 (h : JM g s.K≠0) : Znb g s=s:=by
 unfold Znb ZqY
 rw [if_neg h,if_neg h]
theorem ZDs (h : ZbG g k s≠0) : ZfC g k s=s:=if_neg h
theorem ZCj (h : ZaO g k s≠0) : Zdr g k s=s:=if_neg h
theorem ND.still {d c c' : Nat} {r r' : NR} {s s' : NSt} (h : ND X d r s c) (h' : ND X' d r' s' c') (hs : Zr r.own X r'.own X') : r'.x=r.x∧r'.g=r.g:=by
 have h1:=hs.get h.cell fun hj=>(h.isMap hj).2 _ _ _ _ h.cell
 rw [h'.cell] at h1
 simp only [Option.some.injEq,Ze.cells.injEq,List.cons.injEq,Value.pointer.injEq] at h1
 have h2:=h1.1.2.1
 have h3:=h1.1.2.2.1
 simp at h2 h3
 exact ⟨h2,h3⟩
theorem ZAv (h : HO X p (.now s) T B) (hc : p.c≤1000) (h5 : 5≤o.kd) (h14 : o.kd≤14) : ∃ (v : Value) (l : List Tx) (q : List Nat) (e : Int) (p' : HP) (D' : Jv) (X' : Zd),
  R (n+15) Wc [pt p.h,.agg o.cells.toArray] X=some (.tuple #[v,iv e],X')∧Zo X' v (l.map strv) q∧(∀ j∈q,X.length≤j)∧l.length≤1000∧Yg X X' p p' (.now s) D' T B e∧e≠6:=by
 have a1:=ZiV o X
 have k1 : HLe X (X++[Ze.cells o.cells 1 false false]):=.app _ _
 have c1 : (X++[Ze.cells o.cells 1 false false])[X.length]?=some (.cells o.cells 1 false false):=Zv
 generalize X++[Ze.cells o.cells 1 false false]=X1 at a1 k1 c1
 have H1:=h.hle k1
 have l1:=k1.len
 have b0 : ld1 (pa X.length 0) X1=some (.int .u8 o.kd,X1):=Zd2 c1 rfl
 have b1 : ld1 (pa X.length 1) X1=some (strv o.a,X1):=Zd2 c1 rfl
 have b2 : ld1 (pa X.length 2) X1=some (strv o.b,X1):=Zd2 c1 rfl
 have g1 : fa 1 (pt X.length) X1=some (pa X.length 1,X1):=rfl
 have g2 : fa 2 (pt X.length) X1=some (pa X.length 2,X1):=rfl
 have y1 : fa 1 (pa p.h 0) X1=some (pa p.h 1,X1):=rfl
 have qq : ∀ j : Int,bop .int .eql (.int .u8 o.kd) (.int .u8 j) X1=some (.bool (decide ((o.kd : Int)=j)),X1):=fun j=>by rw [ZE];rfl
 have f0 : ∀ r X',QM (R (n+14)) (pt p.h) (.agg o.cells.toArray) X=some (r,X')→R (n+15) Wc [pt p.h,.agg o.cells.toArray] X=some (r,X'):=fun r X' hr=>by rw [R,ZmI rfl];exact hr
 have nil : ∀ {Z : Zd},Zo Z (.slice none 0 0) (([] : List Tx).map strv) []:=Zo.nil
 obtain ⟨d,r,z1,z2,h3,zM,zC⟩:=H1.dir
 have y2 : ld1 (pa p.h 1) X1=some (pt d,X1):=by rw [← z2];exact ZC H1.cell rfl
 by_cases hk : o.kd=5
 ·rw [hk] at qq
  obtain ⟨X2,e2,d2,s2⟩:=Zyf (n:=n+4) (k:=o.a) (m:=o.b) h3
  have dx : DX X2 (.now (KL o.a o.b s)) p.ov p.nv r.own p.C p.c:=⟨d,r,z1,z2,d2,rfl,zC⟩
  have e2 : R (n+14) KU [pt d,strv o.a,strv o.b] X1=_:=e2
  refine ⟨.slice none 0 0,[],[],Ye o.a o.b s,_,.now (KL o.a o.b s),X2,f0 _ _ ?_,nil,by simp,by simp,(Yg.act H1 (by rw [zM];exact s2) dx (fun hne=>by rw [ZyN hne]) Zq5.1 (by omega)).pre k1,Zq5.2⟩
  unfold QM
  rw [Za a1,Za Zj,Za b0,hk,Za (qq 5)]
  refine (ZO (vs:=[.slice none 0 0,iv (Ye o.a o.b s)]) (H':=X2) ?_).trans rfl
  rw [Zb,if_pos (by decide),Za Zg,Za y1,Za y2,Za g1,Za b1,Za g2,Za b2,Za e2]
  rfl
 by_cases hk : o.kd=6
 ·rw [hk] at qq
  obtain ⟨X2,e2,d2,s2⟩:=Zru (n:=n+4) (k:=o.a) (b:=true) h3
  have dx : DX X2 (.now (KJ o.a true s)) p.ov p.nv r.own p.C p.c:=⟨d,r,z1,z2,d2,rfl,zC⟩
  have e2 : R (n+14) Ym [pt d,strv o.a,.bool true] X1=_:=e2
  refine ⟨.slice none 0 0,[],[],Yn o.a true s.A,_,.now (KJ o.a true s),X2,f0 _ _ ?_,nil,by simp,by simp,(Yg.act H1 (by rw [zM];exact s2) dx (fun hne=>by rw [Zro hne]) ZgU.1 (by omega)).pre k1,ZgU.2⟩
  unfold QM
  rw [Za a1,Za Zj,Za b0,hk,Za (qq 5)]
  refine (ZO (vs:=[.slice none 0 0,iv (Yn o.a true s.A)]) (H':=X2) ?_).trans rfl
  rw [Zb,if_neg (by decide),Za (qq 6)]
  refine lvY (by decide) ?_
  rw [Za Zg,Za y1,Za y2,Za g1,Za b1,Za e2]
  rfl
 by_cases hk : o.kd=7
 ·rw [hk] at qq
  obtain ⟨X2,e2,d2,s2⟩:=Zru (n:=n+4) (k:=o.a) (b:=false) h3
  have dx : DX X2 (.now (KJ o.a false s)) p.ov p.nv r.own p.C p.c:=⟨d,r,z1,z2,d2,rfl,zC⟩
  have e2 : R (n+14) Ym [pt d,strv o.a,.bool false] X1=_:=e2
  refine ⟨.slice none 0 0,[],[],Yn o.a false s.A,_,.now (KJ o.a false s),X2,f0 _ _ ?_,nil,by simp,by simp,(Yg.act H1 (by rw [zM];exact s2) dx (fun hne=>by rw [Zro hne]) ZgU.1 (by omega)).pre k1,ZgU.2⟩
  unfold QM
  rw [Za a1,Za Zj,Za b0,hk,Za (qq 5)]
  refine (ZO (vs:=[.slice none 0 0,iv (Yn o.a false s.A)]) (H':=X2) ?_).trans rfl
  rw [Zb,if_neg (by decide),Za (qq 6)]
  refine lvN (by decide) ?_
  rw [Za (qq 7)]
  refine lvY (by decide) ?_
  rw [Za Zg,Za y1,Za y2,Za g1,Za b1,Za e2]
  rfl
 by_cases hk : o.kd=8
 ·rw [hk] at qq
  obtain ⟨X2,e2,d2,s2⟩:=Zz4 (n:=n+4) (o:=o.a) (t:=o.b) h3
  have dx : DX X2 (.now (Zcd o.a o.b s)) p.ov p.nv r.own p.C p.c:=⟨d,r,z1,z2,d2,rfl,zC⟩
  have e2 : R (n+14) Wh [pt d,strv o.a,strv o.b] X1=_:=e2
  refine ⟨.slice none 0 0,[],[],Y9 o.a o.b s.A,_,.now (Zcd o.a o.b s),X2,f0 _ _ ?_,nil,by simp,by simp,(Yg.act H1 (by rw [zM];exact s2) dx (fun hne=>by rw [Zz9 hne]) Zs2.1 (by omega)).pre k1,Zs2.2⟩
  unfold QM
  rw [Za a1,Za Zj,Za b0,hk,Za (qq 5)]
  refine (ZO (vs:=[.slice none 0 0,iv (Y9 o.a o.b s.A)]) (H':=X2) ?_).trans rfl
  rw [Zb,if_neg (by decide),Za (qq 6)]
  refine lvN (by decide) ?_
  rw [Za (qq 7)]
  refine lvN (by decide) ?_
  rw [Za (qq 8)]
  refine lvY (by decide) ?_
  rw [Za Zg,Za y1,Za y2,Za g1,Za b1,Za g2,Za b2,Za e2]
  rfl
 by_cases hk : o.kd=9
 ·rw [hk] at qq
  obtain ⟨X2,r2,e2,d2,s2⟩:=ZDj (n:=n+4) (g:=o.a) h3
  obtain ⟨x1,x2⟩:=h3.still d2 s2
  have dx : DX X2 (.now (Zm5 o.a s)) p.ov p.nv r2.own p.C p.c:=⟨d,r2,z1,z2,d2,rfl,by rw [zC,x1,x2]⟩
  have e2 : R (n+14) K9 [pt d,strv o.a] X1=_:=e2
  refine ⟨.slice none 0 0,[],[],J9 o.a s.K,_,.now (Zm5 o.a s),X2,f0 _ _ ?_,nil,by simp,by simp,(Yg.act H1 (by rw [zM];exact s2) dx (fun hne=>by rw [ZCZ hne]) ZxM.1 (by omega)).pre k1,ZxM.2⟩
  unfold QM
  rw [Za a1,Za Zj,Za b0,hk,Za (qq 5)]
  refine (ZO (vs:=[.slice none 0 0,iv (J9 o.a s.K)]) (H':=X2) ?_).trans rfl
  rw [Zb,if_neg (by decide),Za (qq 6)]
  refine lvN (by decide) ?_
  rw [Za (qq 7)]
  refine lvN (by decide) ?_
  rw [Za (qq 8)]
  refine lvN (by decide) ?_
  rw [Za (qq 9)]
  refine lvY (by decide) ?_
  rw [Za Zg,Za y1,Za y2,Za g1,Za b1,Za e2]
  rfl
 by_cases hk : o.kd=10
 ·rw [hk] at qq
  obtain ⟨X2,r2,e2,d2,s2⟩:=ZC9 (n:=n+4) (g:=o.a) h3
  obtain ⟨x1,x2⟩:=h3.still d2 s2
  have dx : DX X2 (.now (Znb o.a s)) p.ov p.nv r2.own p.C p.c:=⟨d,r2,z1,z2,d2,rfl,by rw [zC,x1,x2]⟩
  have e2 : R (n+14) K8 [pt d,strv o.a] X1=_:=e2
  refine ⟨.slice none 0 0,[],[],JM o.a s.K,_,.now (Znb o.a s),X2,f0 _ _ ?_,nil,by simp,by simp,(Yg.act H1 (by rw [zM];exact s2) dx (fun hne=>by rw [ZC7 hne]) Zm2.1 (by omega)).pre k1,Zm2.2⟩
  unfold QM
  rw [Za a1,Za Zj,Za b0,hk,Za (qq 5)]
  refine (ZO (vs:=[.slice none 0 0,iv (JM o.a s.K)]) (H':=X2) ?_).trans rfl
  rw [Zb,if_neg (by decide),Za (qq 6)]
  refine lvN (by decide) ?_
  rw [Za (qq 7)]
  refine lvN (by decide) ?_
  rw [Za (qq 8)]
  refine lvN (by decide) ?_
  rw [Za (qq 9)]
  refine lvN (by decide) ?_
  rw [Za (qq 10)]
  refine lvY (by decide) ?_
  rw [Za Zg,Za y1,Za y2,Za g1,Za b1,Za e2]
  rfl
 by_cases hk : o.kd=11
 ·rw [hk] at qq
  obtain ⟨X2,e2,d2,s2⟩:=ZCX (n:=n+3) (g:=o.a) (k:=o.b) h3
  have dx : DX X2 (.now (ZfC o.a o.b s)) p.ov p.nv r.own p.C (p.c+1):=⟨d,r,z1,z2,d2,rfl,zC⟩
  have e2 : R (n+14) Zac [pt d,strv o.a,strv o.b] X1=_:=e2
  refine ⟨.slice none 0 0,[],[],ZbG o.a o.b s,_,.now (ZfC o.a o.b s),X2,f0 _ _ ?_,nil,by simp,by simp,(Yg.act H1 (by rw [zM];exact s2) dx (fun hne=>by rw [ZDs hne]) Zxz.1 (by omega)).pre k1,Zxz.2⟩
  unfold QM
  rw [Za a1,Za Zj,Za b0,hk,Za (qq 5)]
  refine (ZO (vs:=[.slice none 0 0,iv (ZbG o.a o.b s)]) (H':=X2) ?_).trans rfl
  rw [Zb,if_neg (by decide),Za (qq 6)]
  refine lvN (by decide) ?_
  rw [Za (qq 7)]
  refine lvN (by decide) ?_
  rw [Za (qq 8)]
  refine lvN (by decide) ?_
  rw [Za (qq 9)]
  refine lvN (by decide) ?_
  rw [Za (qq 10)]
  refine lvN (by decide) ?_
  rw [Za (qq 11)]
  refine lvY (by decide) ?_
  rw [Za Zg,Za y1,Za y2,Za g1,Za b1,Za g2,Za b2,Za e2]
  rfl
 by_cases hk : o.kd=12
 ·rw [hk] at qq
  obtain ⟨X2,e2,d2,s2⟩:=ZBX (n:=n+3) (g:=o.a) (k:=o.b) h3
  have dx : DX X2 (.now (Zdr o.a o.b s)) p.ov p.nv r.own p.C (p.c+1):=⟨d,r,z1,z2,d2,rfl,zC⟩
  have e2 : R (n+14) WD [pt d,strv o.a,strv o.b] X1=_:=e2
  refine ⟨.slice none 0 0,[],[],ZaO o.a o.b s,_,.now (Zdr o.a o.b s),X2,f0 _ _ ?_,nil,by simp,by simp,(Yg.act H1 (by rw [zM];exact s2) dx (fun hne=>by rw [ZCj hne]) Zwh.1 (by omega)).pre k1,Zwh.2⟩
  unfold QM
  rw [Za a1,Za Zj,Za b0,hk,Za (qq 5)]
  refine (ZO (vs:=[.slice none 0 0,iv (ZaO o.a o.b s)]) (H':=X2) ?_).trans rfl
  rw [Zb,if_neg (by decide),Za (qq 6)]
  refine lvN (by decide) ?_
  rw [Za (qq 7)]
  refine lvN (by decide) ?_
  rw [Za (qq 8)]
  refine lvN (by decide) ?_
  rw [Za (qq 9)]
  refine lvN (by decide) ?_
  rw [Za (qq 10)]
  refine lvN (by decide) ?_
  rw [Za (qq 11)]
  refine lvN (by decide) ?_
  rw [Za (qq 12)]
  refine lvY (by decide) ?_
  rw [Za Zg,Za y1,Za y2,Za g1,Za b1,Za g2,Za b2,Za e2]
  rfl
 by_cases hk : o.kd=13
 ·rw [hk] at qq
  obtain ⟨X2,e2,k2⟩:=ZwR (n:=n+4) (m:=o.a) h3
  have e2 : R (n+14) Zby [pt d,strv o.a] X1=_:=e2
  have e3 : bsl 1 1 (.string ⟨#[]⟩) [(0,1,strv (Zh5 o.a s.OW))] X2=some (.slice (some ⟨X2.length,0,none⟩) 1 1,X2++[.cells [strv (Zh5 o.a s.OW)] 1 false false]):=Zo2 rfl rfl rfl
  refine ⟨.slice (some ⟨X2.length,0,none⟩) 1 1,[Zh5 o.a s.OW],[X2.length],ZcU o.a s.OW,p,.now s,X2++[.cells [strv (Zh5 o.a s.OW)] 1 false false],f0 _ _ ?_,.inr ⟨X2.length,[],false,rfl,rfl,Zv⟩,by have:=k2.len;simp;omega,by simp,(Yg.of H1 (k2.trans (.app _ _)) Zwn.1).pre k1,Zwn.2⟩
  unfold QM
  rw [Za a1,Za Zj,Za b0,hk,Za (qq 5)]
  refine (ZO (vs:=[.slice (some ⟨X2.length,0,none⟩) 1 1,iv (ZcU o.a s.OW)]) (H':=(X2++[.cells [strv (Zh5 o.a s.OW)] 1 false false])) ?_).trans rfl
  rw [Zb,if_neg (by decide),Za (qq 6)]
  refine lvN (by decide) ?_
  rw [Za (qq 7)]
  refine lvN (by decide) ?_
  rw [Za (qq 8)]
  refine lvN (by decide) ?_
  rw [Za (qq 9)]
  refine lvN (by decide) ?_
  rw [Za (qq 10)]
  refine lvN (by decide) ?_
  rw [Za (qq 11)]
  refine lvN (by decide) ?_
  rw [Za (qq 12)]
  refine lvN (by decide) ?_
  rw [Za (qq 13)]
  refine lvY (by decide) ?_
  rw [Za Zg,Za y1,Za y2,Za g1,Za b1,Za e2,Za Zp,Za Zq,Za e3]
  rfl
 ·have hk : o.kd=14:=by omega
  rw [hk] at qq
  obtain ⟨v,q,l,X2,e2,r2,_,n2,k2,o2⟩:=ZwW (n:=n+5) (g:=o.a) h3 (by omega)
  have e2 : R (n+14) WL [pt d,strv o.a] X1=_:=e2
  refine ⟨v,l,q,JM o.a s.K,p,.now s,X2,f0 _ _ ?_,r2,fun j hj=>Nat.le_trans l1 (o2 j hj),by omega,(Yg.of H1 k2 Zm2.1).pre k1,Zm2.2⟩
  unfold QM
  rw [Za a1,Za Zj,Za b0,hk,Za (qq 5)]
  refine (ZO (vs:=[v,iv (JM o.a s.K)]) (H':=X2) ?_).trans rfl
  rw [Zb,if_neg (by decide),Za (qq 6)]
  refine lvN (by decide) ?_
  rw [Za (qq 7)]
  refine lvN (by decide) ?_
  rw [Za (qq 8)]
  refine lvN (by decide) ?_
  rw [Za (qq 9)]
  refine lvN (by decide) ?_
  rw [Za (qq 10)]
  refine lvN (by decide) ?_
  rw [Za (qq 11)]
  refine lvN (by decide) ?_
  rw [Za (qq 12)]
  refine lvN (by decide) ?_
  rw [Za (qq 13)]
  refine lvN (by decide) ?_
  rw [Za (qq 14)]
  refine lvY (by decide) ?_
  rw [Za Zg,Za y1,Za y2,Za g1,Za b1,Za e2,Za Zp,Za Zq]
  rfl
end Go.Proofs.YtgfbgfafajiehaaGreatDoor.A

namespace Go.Proofs.YtgfbgfafajiehaaGreatDoor.A
set_option linter.unusedVariables false
set_option linter.unusedSimpArgs false
open Go.Proofs Go.Proofs.YtgfbgfafajiehaaGreatDoor
variable {X X' Y : Zd} {n : Nat} {p p' : HP} {D D' : Jv} {T : List JI} {B : List Nat} {k m g t : Tx} {o : OpT} {s : NSt} {b : Bool}
theorem HO.box {j : Nat} {i : Int} {v w1 w2 : Value} (h : HO X p D T B) (hj : X[j]?=some (.cells [.int .i64 i,v] 1 false false)) (ho : j∉p.own) (hf : j∉p.fr) : HO (X.set j (.cells [w1,w2] 1 false false)) p D T B:=by
 have hs : Zr [j] X [j] (X.set j (.cells [w1,w2] 1 false false)):=⟨by simp,fun a ha hn=>List.getElem?_set_ne (fun e=>hn (by simp [e])),fun a ha=>.inl ha⟩
 refine h.step hs (fun a ha e=>?_) (fun a ha e=>?_) (fun e=>?_) (fun a ha e=>?_)
 ·rw [List.mem_singleton.1 e] at ha;exact ho ha
 ·rw [List.mem_singleton.1 e] at ha
  obtain ⟨_,_,_,_,_,hc⟩:=h.dir.first _ ha
  rw [hj] at hc
  cases hc
 ·have e:=List.mem_singleton.1 e
  obtain ⟨sl,h1,_⟩:=h.brd.at_
  rw [e,hj] at h1
  cases h1
 ·rw [List.mem_singleton.1 e] at ha;exact hf ha
theorem Zjk {j : Nat} {i : Int} {v w : Value} {e : Int} (hj : X[j]?=some (.cells [.int .i64 i,v] 1 false false)) (hw : oneCell w=true) : stA 2 (pt j) (.agg #[iv e,w]) X=some (undef,X.set j (.cells [iv e,w] 1 false false)):=
 Zb3 (vs:=[iv e,w]) hj rfl rfl (by rw [List.all_cons,List.all_cons,hw];rfl)
theorem Zjx {j : Nat} {i : Int} {v w : Value} {e : Int} (hj : X[j]?=some (.cells [.int .i64 i,v] 1 false false)) : ldA 2 (pt j) (X.set j (.cells [iv e,w] 1 false false))=some (.agg #[iv e,w],X.set j (.cells [iv e,w] 1 false false)):=
 Qt (n:=2) (Qa hj) rfl
theorem Zwo (h : checkO o=0) : o.kd < 17:=by
 unfold checkO at h
 split at h
 ·cases h
 ·omega
theorem ZCB : checkO o≠6∧checkO o < 100:=by
 unfold checkO
 repeat' split
 all_goals omega
theorem ZFs (hG : GlH X) (h : HO X p D T B) (hc : p.c≤1000) (hok : ZpW o) (ha : o.a.length≤65535) (hb : o.b.length≤65535) : ∃ (v : Value) (l : List Tx) (q : List Nat) (e : Int) (p' : HP) (D' : Jv) (X' : Zd),
  R (n+17) Zbs [pt p.h,.agg o.cells.toArray] X=some (.agg #[iv e,v],X')∧Zo X' v (l.map strv) q∧(∀ j∈q,X.length≤j)∧l.length≤1000∧Yg X X' p p' D D' T B e∧(e≠0→l=[])∧(e=6↔checkO o=0∧verS D=1∧5≤o.kd∧o.kd≤14):=by
 have a1:=ZiV o X
 have k1 : HLe X (X++[Ze.cells o.cells 1 false false]):=.app _ _
 have c1 : (X++[Ze.cells o.cells 1 false false])[X.length]?=some (.cells o.cells 1 false false):=Zv
 generalize X++[Ze.cells o.cells 1 false false]=X1 at a1 k1 c1
 have a2 : alc 1 (.agg #[.int .i64 0,.slice none 0 0]) X1=some (pt X1.length,X1++[.cells [.int .i64 0,.slice none 0 0] 1 false false]):=rfl
 have k2 : HLe X1 (X1++[Ze.cells [.int .i64 0,.slice none 0 0] 1 false false]):=.app _ _
 have c2 : (X1++[Ze.cells [.int .i64 0,.slice none 0 0] 1 false false])[X1.length]?=some (.cells [.int .i64 0,.slice none 0 0] 1 false false):=Zv
 have d2:=k2 _ _ c1
 generalize X1++[Ze.cells [.int .i64 0,.slice none 0 0] 1 false false]=X2 at a2 k2 c2 d2
 have k12:=k1.trans k2
 obtain ⟨X3,a3,k3⟩:=ZlV (n:=n+11) (o:=o) (hG.le k12) hok ha hb
 have a3 : R (n+16) W4 [.agg o.cells.toArray] X2=_:=a3
 have k13:=k12.trans k3
 have c3:=k3 _ _ c2
 have d3:=k3 _ _ d2
 have H3:=h.hle k13
 have n1:=k1.len
 have n3:=(k2.trans k3).len
 have hp2 : X1.length < X3.length:=ZX c3
 have hp1 : X.length < X1.length:=ZX c1
 have own2 : X1.length∉p.own:=fun hh=>by have:=h.lt _ hh;omega
 have own1 : X.length∉p.own:=fun hh=>by have:=h.lt _ hh;omega
 have fr2 : X1.length∉p.fr:=fun hh=>by have:=h.tab.lt _ hh;omega
 have f0 : ∀ r X',ZaB (R (n+16)) (pt p.h) (.agg o.cells.toArray) X=some (r,X')→R (n+17) Zbs [pt p.h,.agg o.cells.toArray] X=some (r,X'):=fun r X' hr=>by rw [R,Zsq rfl];exact hr
 have nil : ∀ {Z : Zd},Zo Z (.slice none 0 0) (([] : List Tx).map strv) []:=Zo.nil
 have q3 : bop .int .neq (iv (checkO o)) (.int .i64 0) X3=some (.bool (decide (checkO o≠0)),X3):=by
  rw [Zk]
  have hq : ((checkO o : Int) !=0)=decide (checkO o≠0):=by
   by_cases hz : checkO o=0
   ·rw [hz];rfl
   ·have h1 : ((checkO o : Int)==0)=false:=by rw [beq_eq_false_iff_ne];omega
    show (!((checkO o : Int)==0))=_
    rw [h1,decide_eq_true hz]
    rfl
  rw [hq]
 have l2 : ldA 5 (pt X.length) X2=some (.agg o.cells.toArray,X2):=Qt (n:=5) d2 rfl
 have l3 : ldA 5 (pt X.length) X3=some (.agg o.cells.toArray,X3):=Qt (n:=5) d3 rfl
 have fin : ∀ {Z : Zd} {p' : HP} {D' : Jv} {e : Int} {w : Value} {i : Int} {v : Value},Yg X3 Z p p' D D' T B e→Z[X1.length]?=some (.cells [.int .i64 i,v] 1 false false)→Yg X (Z.set X1.length (.cells [iv e,w] 1 false false)) p p' D D' T B e:=fun {Z p' D' e w i v} hA hz=>by
  have ho : X1.length∉p'.own:=fun hh=>by
   rcases hA.st.own _ hh with h1 | h1
   ·exact own2 h1
   ·omega
  have hf : X1.length∉p'.fr:=by rw [hA.fr];exact fr2
  have hB:=Yg.pre k13 hA
  exact ⟨hA.ho.box hz ho hf,⟨by simpa using hB.st.len,fun j hj hn=>by rw [List.getElem?_set_ne (by omega)];exact hB.st.keep j hj hn,hB.st.own⟩,hA.h,hA.t,hA.fr,hA.no,hA.nn,hA.c⟩
 by_cases hk : checkO o=0
 ·have q3' : decide (checkO o≠0)=false:=by simp [hk]
  obtain ⟨v,l,q,e,p',D',X4,a4,r4,o4,n4,A4,e6,sm⟩:=ZAQ (n:=n+1) (o:=o) H3 ha hb hok
  have a4 : R (n+16) Wg [pt p.h,.agg o.cells.toArray] X3=_:=a4
  have c4:=A4.st.get c3 own2
  have d4:=A4.st.get d3 own1
  have hkd:=Zwo hk
  have last : ∀ {Z : Zd} {p' : HP} {D' : Jv} {e : Int} {w : Value} {l : List Tx} {q : List Nat},Yg X3 Z p p' D D' T B e→Zo Z w (l.map strv) q→(∀ j∈q,X3.length≤j)→l.length≤1000→Z[X1.length]?=some (.cells [.int .i64 0,.slice none 0 0] 1 false false)→∃ (v : Value) (l' : List Tx) (q' : List Nat) (Z' : Zd),
    bind (bop .int .neq (iv e) (Value.int .i64 0)) (fun v42x28=>cnd v42x28
     (bind (bld (.agg #[.int .i64 0,.slice none 0 0]) [(0,1,iv e)]) fun v44x29=>bind (stA 2 (pt X1.length) v44x29) fun _=>bind (ldA 2 (pt X1.length)) fun vrx30=>ret vrx30)
     (bind (bld (.agg #[.int .i64 0,.slice none 0 0]) [(1,1,w)]) fun v46x31=>bind (stA 2 (pt X1.length) v46x31) fun _=>bind (ldA 2 (pt X1.length)) fun vrx32=>ret vrx32)) Z=some (.agg #[iv e,v],Z')∧Zo Z' v (l'.map strv) q'∧(∀ j∈q',X.length≤j)∧l'.length≤1000∧Yg X Z' p p' D D' T B e∧(e≠0→l'=[]):=fun {Z p' D' e w l q} hA hr hq hl hz=>by
   by_cases he : e=0
   ·subst he
    obtain ⟨sa,sn,sc,rfl⟩:=hr.isS
    refine ⟨.slice sa sn sc,l,q,Z.set X1.length (.cells [iv 0,.slice sa sn sc] 1 false false),?_,hr.keep (fun j hj=>List.getElem?_set_ne (fun e=>by have:=hq j hj;omega)),fun j hj=>by have:=hq j hj;omega,hl,fin hA hz,fun e=>absurd rfl e⟩
    rw [Za Zk,Zb,if_neg (by simp),Za (show bld (.agg #[.int .i64 0,.slice none 0 0]) [(1,1,.slice sa sn sc)] Z=some (.agg #[iv 0,.slice sa sn sc],Z) from rfl),Za (Zjk hz rfl),Za (Zjx hz)]
    rfl
   ·refine ⟨.slice none 0 0,[],[],Z.set X1.length (.cells [iv e,.slice none 0 0] 1 false false),?_,nil,by simp,by simp,fin hA hz,fun _=>rfl⟩
    rw [Za Zk,Zb,if_pos (by simpa using he),Za (show bld (.agg #[.int .i64 0,.slice none 0 0]) [(0,1,iv e)] Z=some (.agg #[iv e,.slice none 0 0],Z) from rfl),Za (Zjk hz rfl),Za (Zjx hz)]
    rfl
  have e1 : ∀ Z : Zd,fa 1 (pa p.h 0) Z=some (pa p.h 1,Z):=fun Z=>rfl
  cases hi : (decide (o.kd≤4) || o.kd==15 || o.kd==16) with
  | true=>
   rw [hi] at a4
   obtain ⟨w,l',q',Z',b1,b2,b3,b4,b5,b6⟩:=last A4 r4 o4 n4 c4
   refine ⟨w,l',q',e,p',D',Z',f0 _ _ ?_,b2,b3,b4,b5,b6,⟨fun h=>absurd h e6,fun h=>by simp at hi;omega⟩⟩
   unfold ZaB
   rw [Za a1,Za a2,Za l2,Za a3,Za q3,q3',Zb,if_neg (by simp),Za l3,Za a4,Za Qs,Za QN,Za Qv,Za ZQ,Za (show gate (.bool (!true)) true 5 _ X4=some ([Qi,Qi,Qi,Qi,Qi],X4) from rfl),Q6,Za Zm]
   refine (ZO (vs:=[pt X1.length,v,iv e]) (H':=X4) ?_).trans b1
   rw [show cond (!true) Qi (Value.bool false)=.bool false from rfl,Zb,if_neg (by simp),Za ZQ]
   rfl
  | false=>
   rw [hi] at a4
   have hmid : 5≤o.kd∧o.kd≤14:=by simp at hi;omega
   obtain ⟨rfl,rfl⟩:=sm hmid
   have y1 : ld1 (pa p'.h 1) X4=some (p'.nv,X4):=ZC A4.ho.cell rfl
   have yv:=A4.ho.dir.nv X4
   cases D' with
   | old m=>
    have A6 : Yg X3 X4 p' p' (.old m) (.old m) T B 6:=⟨A4.ho,A4.st,rfl,rfl,rfl,fun _=>rfl,by omega,by omega⟩
    obtain ⟨w,l',q',Z',b1,b2,b3,b4,b5,b6⟩:=last A6 r4 o4 n4 c4
    refine ⟨w,l',q',6,p',.old m,Z',f0 _ _ ?_,b2,b3,b4,b5,b6,⟨fun _=>⟨hk,rfl,hmid.1,hmid.2⟩,fun _=>rfl⟩⟩
    unfold ZaB
    rw [Za a1,Za a2,Za l2,Za a3,Za q3,q3',Zb,if_neg (by simp),Za l3,Za a4,Za Qs,Za QN,Za Qv,Za ZQ,show (!false)=true from rfl,Ql,Zl,Za Zg,Zl,Za (e1 X4),Zl,Za y1,Zl,Za yv,QF,Q6,Za Zm]
    refine (ZO (vs:=[pt X1.length,v,iv 6]) (H':=X4) ?_).trans b1
    rfl
   | now s=>
    obtain ⟨v5,l5,q5,ee,p5,D5,X5,a5,r5,o5,n5,A5,ne5⟩:=ZAv (n:=n+1) (o:=o) A4.ho (by have:=A4.c;omega) hmid.1 hmid.2
    have a5 : R (n+16) Wc [pt p'.h,.agg o.cells.toArray] X4=_:=a5
    have l4 : ldA 5 (pt X.length) X4=some (.agg o.cells.toArray,X4):=Qt (n:=5) d4 rfl
    have c5:=A5.st.get c4 own2
    have hst : Zr p'.own X3 p5.own X5:=A4.st.trans A5.st
    have A6 : Yg X3 X5 p' p5 (.now s) D5 T B ee:=⟨A5.ho,hst,A5.h,A5.t,A5.fr,A5.no,A5.nn,A5.c⟩
    obtain ⟨w,l',q',Z',b1,b2,b3,b4,b5,b6⟩:=last A6 r5 (fun j hj=>Nat.le_trans A4.st.len (o5 j hj)) n5 c5
    refine ⟨w,l',q',ee,p5,D5,Z',f0 _ _ ?_,b2,b3,b4,b5,b6,⟨fun h=>absurd h ne5,fun h=>by have:=h.2.1;cases this⟩⟩
    unfold ZaB
    rw [Za a1,Za a2,Za l2,Za a3,Za q3,q3',Zb,if_neg (by simp),Za l3,Za a4,Za Qs,Za QN,Za Qv,Za ZQ,show (!false)=true from rfl,Ql,Zl,Za Zg,Zl,Za (e1 X4),Zl,Za y1,Zl,Za yv,QF,Q6,Za Zm]
    refine (ZO (vs:=[pt X1.length,v5,iv ee]) (H':=X5) ?_).trans b1
    rw [show cond true (Value.bool (decide (verS (.now s)=1))) (Value.bool false)=.bool false from rfl,Zb,if_neg (by simp),Za ZQ]
    refine (ZO (vs:=[pt X1.length,v5,iv ee]) (H':=X5) ?_).trans rfl
    rw [Zb,if_pos (show (!false)=true from rfl),Za l4,Za a5,Za Zp,Za Zq]
    rfl
 ·have q3' : decide (checkO o≠0)=true:=by simp [hk]
  refine ⟨.slice none 0 0,[],[],checkO o,p,D,X3.set X1.length (.cells [iv (checkO o),.slice none 0 0] 1 false false),f0 _ _ ?_,nil,by simp,by simp,fin (Yg.refl H3 (by omega)) c3,fun _=>rfl,⟨fun h=>by have:=ZCB (o:=o);omega,fun h=>absurd h.1 hk⟩⟩
  unfold ZaB
  rw [Za a1,Za a2,Za l2,Za a3,Za q3,q3',Zb,if_pos rfl,Za (show bld (.agg #[.int .i64 0,.slice none 0 0]) [(0,1,iv (checkO o))] X3=some (.agg #[iv (checkO o),.slice none 0 0],X3) from rfl),Za (Zjk c3 rfl),Za (Zjx c3)]
  rfl
end Go.Proofs.YtgfbgfafajiehaaGreatDoor.A

namespace Go.Proofs.YtgfbgfafajiehaaGreatDoor.A
set_option linter.unusedVariables false
set_option linter.unusedSimpArgs false
open Go.Proofs Go.Proofs.YtgfbgfafajiehaaGreatDoor
variable {X X' Y : Zd} {n : Nat} {p p' : HP} {D D' : Jv} {T : List JI} {B : List Nat} {k m g t : Tx} {o : OpT} {s : NSt} {b : Bool} {r : Zdf}
theorem HO.put {T' : List JI} {lvs' : List Value} {q2 : List Nat} (h : HO X p D T B) (ht : Tab X' p.t T' lvs' (p.fr++q2)) (hl : X.length≤X'.length) (hk : ∀ j,j < X.length→j≠p.t→X'[j]?=X[j]?) (hq : ∀ j∈q2,X.length≤j) : HO X' { p with fr:=p.fr++q2,lvs:=lvs' } D T' B∧Zr p.own X ({ p with fr:=p.fr++q2,lvs:=lvs' } : HP).own X':=by
 have hs : Zr [p.t] X [p.t] X':=⟨hl,fun j hj hn=>hk j hj (fun e=>hn (by simp [e])),fun j hj=>.inl hj⟩
 have hh:=ZX h.cell
 have htf:=h.tab.t
 have hht : p.h≠p.t:=fun e=>h.hfr (e ▸ htf)
 have hMt : ∀ j∈p.M,j≠p.t:=fun j hj e=>(h.Mo j hj).2.2.2 (e ▸ htf)
 refine ⟨⟨hs.get h.cell (by simp [hht]),h.dir.step hs (fun j hj=>by simp [hMt j hj]) (fun j hj=>by simp;exact fun e=>h.tC (e ▸ hj)),ht,h.brd.keep (fun j hj=>hk j (h.brd.lt j hj) (by
  rcases hj with rfl | hj
  ·exact h.bt
  ·exact fun e=>h.tq (e ▸ hj))),?_,h.hq,h.hC,h.bh,h.bt,h.tq,h.tC,?_,h.Cq,?_⟩,⟨hl,fun j hj hn=>hk j hj (fun e=>hn (by simp [HP.own,e])),fun j hj=>.inl hj⟩⟩
 ·intro hm
  rcases List.mem_append.1 hm with h1 | h1
  ·exact h.hfr h1
  ·exact absurd hh (Nat.not_lt.2 (hq p.h h1))
 ·intro j hj hm
  rcases List.mem_append.1 hj with h1 | h1
  ·exact h.fq j h1 hm
  ·have:=hq j h1;have:=h.brd.lt j (.inr hm);omega
 ·intro j hj
  obtain ⟨m1,m2,m3,m4⟩:=h.Mo j hj
  refine ⟨m1,m2,m3,fun hm=>?_⟩
  rcases List.mem_append.1 hm with h1 | h1
  ·exact m4 h1
  ·have:=hq j h1;have:=h.dir.lt j (.inl hj);omega
theorem ZxL (r : Zdf) (X : Zd) : alc 1 (.agg r.cells.toArray) X=some (pt X.length,X++[.cells r.cells 1 false false]):=rfl
theorem Zrt {j : Nat} (h : X[j]?=some (.cells r.cells 1 false false)) : ldA 5 (pa j 2) X=some (.agg r.o.cells.toArray,X):=Zxv (o:=2) (k:=5) h (by simp [Zdf.cells,OpT.cells])
theorem HO.note {B' : List Nat} (h : HO X p D T B) (hs : Zr p.q X p.q X') (hb : Brd X' p.b B' p.q) : HO X' p D T B'∧Zr p.own X p.own X':=
 ⟨⟨hs.get h.cell h.hq,h.dir.step hs (fun j hj=>(h.Mo j hj).2.2.1) h.Cq,h.tab.keep (fun j hj=>hs.keep j (h.tab.lt j hj) (h.fq j hj)) hs.len,hb,h.hfr,h.hq,h.hC,h.bh,h.bt,h.tq,h.tC,h.fq,h.Cq,h.Mo⟩,hs.more (fun j hj=>by simp [HP.own,hj]) (fun j hj=>.inl hj)⟩
theorem ZCY {l : List Nat} {a r : Nat} : ZdD l a r=0∨ZdD l a r=1:=by unfold ZdD;split <;> simp
theorem ZD4 (hG : GlH X) (h : HO X p D T B) (hok : Zna r) (ha : r.o.a.length≤65535) (hb : r.o.b.length≤65535) : ∃ (e : Nat) (dn : Bool) (B' : List Nat) (X' : Zd),
  R (n+18) Zaa [pt p.h,.agg r.cells.toArray] X=some (.tuple #[.agg #[iv e,.slice none 0 0],.bool dn],X')∧HO X' p D T B'∧Zr p.own X p.own X'∧e≠6∧(dn=true→r.o.kd=16):=by
 have a1:=ZxL r X
 have k1 : HLe X (X++[Ze.cells r.cells 1 false false]):=.app _ _
 have c1 : (X++[Ze.cells r.cells 1 false false])[X.length]?=some (.cells r.cells 1 false false):=Zv
 generalize X++[Ze.cells r.cells 1 false false]=X1 at a1 k1 c1
 have a2 : alc 1 (.agg #[.int .i64 0,.slice none 0 0]) X1=some (pt X1.length,X1++[.cells [.int .i64 0,.slice none 0 0] 1 false false]):=rfl
 have k2 : HLe X1 (X1++[Ze.cells [.int .i64 0,.slice none 0 0] 1 false false]):=.app _ _
 have c2 : (X1++[Ze.cells [.int .i64 0,.slice none 0 0] 1 false false])[X1.length]?=some (.cells [.int .i64 0,.slice none 0 0] 1 false false):=Zv
 have d2:=k2 _ _ c1
 generalize X1++[Ze.cells [.int .i64 0,.slice none 0 0] 1 false false]=X2 at a2 k2 c2 d2
 have k12:=k1.trans k2
 have H2:=h.hle k12
 have n1:=k1.len
 have hp1 : X.length < X1.length:=ZX c1
 obtain ⟨X3,a3,k3⟩:=ZlV (n:=n+12) (o:=r.o) (hG.le k12) hok.o ha hb
 have a3 : R (n+17) W4 [.agg r.o.cells.toArray] X2=_:=a3
 have H3:=H2.hle k3
 have c3:=k3 _ _ c2
 have d3:=k3 _ _ d2
 have own2 : X1.length∉p.own:=fun hh=>by have:=h.lt _ hh;omega
 have fr2 : X1.length∉p.fr:=fun hh=>by have:=h.tab.lt _ hh;omega
 have f0 : ∀ v X',Wj (R (n+17)) (pt p.h) (.agg r.cells.toArray) X=some (v,X')→R (n+18) Zaa [pt p.h,.agg r.cells.toArray] X=some (v,X'):=fun v X' hr=>by rw [R,Zpe rfl];exact hr
 have b1 : ld1 (pa X.length 1) X2=some (.int .u64 r.num,X2):=ZC d2 rfl
 have b2 : ld1 (pa X.length 2) X2=some (.int .u8 r.o.kd,X2):=ZC d2 rfl
 have q1 : bop .int .neq (.int .u64 r.num) (.int .u64 0) X2=some (.bool (decide (r.num≠0)),X2):=by
  rw [Zk]
  have hq : ((r.num : Int) !=0)=decide (r.num≠0):=by
   by_cases hz : r.num=0
   ·rw [hz];rfl
   ·have h1 : ((r.num : Int)==0)=false:=by rw [beq_eq_false_iff_ne];omega
    show (!((r.num : Int)==0))=_
    rw [h1,decide_eq_true hz];rfl
  rw [hq]
 have q2 : bop .int .neq (.int .u8 r.o.kd) (.int .u8 16) X2=some (.bool (decide (r.o.kd≠16)),X2):=by
  rw [Zk]
  have hq : ((r.o.kd : Int) !=16)=decide (r.o.kd≠16):=by
   by_cases hz : r.o.kd=16
   ·rw [hz];rfl
   ·have h1 : ((r.o.kd : Int)==16)=false:=by rw [beq_eq_false_iff_ne];omega
    show (!((r.o.kd : Int)==16))=_
    rw [h1,decide_eq_true hz];rfl
  rw [hq]
 have q3 : bop .int .neq (iv (checkO r.o)) (.int .i64 0) X3=some (.bool (decide (checkO r.o≠0)),X3):=by
  rw [Zk]
  have hq : ((checkO r.o : Int) !=0)=decide (checkO r.o≠0):=by
   by_cases hz : checkO r.o=0
   ·rw [hz];rfl
   ·have h1 : ((checkO r.o : Int)==0)=false:=by rw [beq_eq_false_iff_ne];omega
    show (!((checkO r.o : Int)==0))=_
    rw [h1,decide_eq_true hz];rfl
  rw [hq]
 have no : ∀ {Z : Zd},HLe X2 Z→(∃ Z',bind (bld (.agg #[.int .i64 0,.slice none 0 0]) [(0,1,(Value.int .i64 1))]) (fun v21x18=>bind (stA 2 (pt X1.length) v21x18) fun _=>bind (ldA 2 (pt X1.length)) fun vrx19=>ret (Value.tuple #[vrx19,(Value.bool false)])) Z=some (.tuple #[.agg #[iv 1,.slice none 0 0],.bool false],Z')∧HO Z' p D T B∧Zr p.own X p.own Z'):=fun {Z} hz=>by
  have cz:=hz _ _ c2
  refine ⟨Z.set X1.length (.cells [iv 1,.slice none 0 0] 1 false false),?_,(H2.hle hz).box cz own2 fr2,?_⟩
  ·rw [Za (show bld (.agg #[.int .i64 0,.slice none 0 0]) [(0,1,(Value.int .i64 1))] Z=some (.agg #[iv 1,.slice none 0 0],Z) from rfl),Za (Zjk cz rfl),Za (Zjx cz)]
   rfl
  ·have kz:=k12.trans hz
   exact ⟨by simpa using kz.len,fun j hj hn=>by rw [List.getElem?_set_ne (by omega),List.getElem?_eq_getElem hj];exact kz _ _ (List.getElem?_eq_getElem hj),fun j hj=>.inl hj⟩
 have g1 : fa 1 (pt X.length) X2=some (pa X.length 1,X2):=rfl
 have g2 : ∀ Z : Zd,fa 2 (pt X.length) Z=some (pa X.length 2,Z):=fun Z=>rfl
 by_cases c_1 : r.num≠0
 ·obtain ⟨Z',e1,e2,e3⟩:=no (.refl X2)
  refine ⟨1,false,B,Z',f0 _ _ ?_,e2,e3,by omega,by simp⟩
  unfold Wj
  rw [Za a1,Za a2,Za g1,Za b1,Za q1,decide_eq_true c_1,Za (show gate (.bool true) false 4 _ X2=some ([Qi,Qi,Qi,Qi],X2) from rfl),ZI,Za Zm]
  simp only [cond_true]
  rw [Za (show gate (.bool true) false 4 _ X2=some ([Qi,Qi,Qi,Qi],X2) from rfl),ZI,Za Zm]
  simp only [cond_true]
  rw [Zb,if_pos rfl]
  exact e1
 by_cases c_2 : r.o.kd≠16
 ·obtain ⟨Z',e1,e2,e3⟩:=no (.refl X2)
  refine ⟨1,false,B,Z',f0 _ _ ?_,e2,e3,by omega,by simp⟩
  unfold Wj
  rw [Za a1,Za a2,Za g1,Za b1,Za q1,decide_eq_false c_1,Ql,Zl,Za (g2 X2),Zl,Za (show fa 0 (pa X.length 2) X2=some (pa X.length 2,X2) from rfl),Zl,Za b2,Zl,Za q2,QF,ZI,Za Zm]
  simp only [cond_false]
  rw [decide_eq_true c_2,Za (show gate (.bool true) false 4 _ X2=some ([Qi,Qi,Qi,Qi],X2) from rfl),ZI,Za Zm]
  simp only [cond_true]
  rw [Zb,if_pos rfl]
  exact e1
 by_cases c_3 : checkO r.o≠0
 ·obtain ⟨Z',e1,e2,e3⟩:=no k3
  refine ⟨1,false,B,Z',f0 _ _ ?_,e2,e3,by omega,by simp⟩
  unfold Wj
  rw [Za a1,Za a2,Za g1,Za b1,Za q1,decide_eq_false c_1,Ql,Zl,Za (g2 X2),Zl,Za (show fa 0 (pa X.length 2) X2=some (pa X.length 2,X2) from rfl),Zl,Za b2,Zl,Za q2,QF,ZI,Za Zm]
  simp only [cond_false]
  rw [decide_eq_false c_2,Ql,Zl,Za (g2 X2),Zl,Za (Zrt d2),Zl,Za a3,Zl,Za q3,QF,ZI,Za Zm]
  simp only [cond_false]
  rw [decide_eq_true c_3,Zb,if_pos rfl]
  exact e1
 ·have hx3 : ld1 (pa p.h 3) X3=some (pt p.b,X3):=ZC H3.cell rfl
  have b3 : ld1 (pa X.length 5) X3=some (.int .u8 r.o.nd,X3):=ZC d3 rfl
  have b4 : ld1 (pa X.length 6) X3=some (.int .u8 r.o.rl,X3):=ZC d3 rfl
  have hnd:=hok.o.nd
  obtain ⟨X4,a4,B4,s4,l4⟩:=ZEr (n:=n+16) (a:=r.o.nd) (r:=r.o.rl) H3.brd (by omega)
  have a4 : R (n+17) WM [pt p.b,.int .u8 r.o.nd,.int .u8 r.o.rl] X3=_:=a4
  obtain ⟨H4,t4⟩:=H3.note s4 B4
  have c4:=t4.get c3 own2
  refine ⟨ZdD B r.o.nd r.o.rl,true,Znj B r.o.nd r.o.rl,X4.set X1.length (.cells [iv (ZdD B r.o.nd r.o.rl),.slice none 0 0] 1 false false),f0 _ _ ?_,H4.box c4 own2 fr2,?_,by rcases ZCY (l:=B) (a:=r.o.nd) (r:=r.o.rl) with h | h <;> omega,fun _=>by omega⟩
  ·unfold Wj
   rw [Za a1,Za a2,Za g1,Za b1,Za q1,decide_eq_false c_1,Ql,Zl,Za (g2 X2),Zl,Za (show fa 0 (pa X.length 2) X2=some (pa X.length 2,X2) from rfl),Zl,Za b2,Zl,Za q2,QF,ZI,Za Zm]
   simp only [cond_false]
   rw [decide_eq_false c_2,Ql,Zl,Za (g2 X2),Zl,Za (Zrt d2),Zl,Za a3,Zl,Za q3,QF,ZI,Za Zm]
   simp only [cond_false]
   rw [decide_eq_false c_3,Zb,if_neg (by simp),Za Zg,Za (show fa 3 (pa p.h 0) X3=some (pa p.h 3,X3) from rfl),Za hx3,Za (g2 X3),Za (show fa 3 (pa X.length 2) X3=some (pa X.length 5,X3) from rfl),Za b3,Za (g2 X3),Za (show fa 4 (pa X.length 2) X3=some (pa X.length 6,X3) from rfl),Za b4,Za a4,Za (show bld (.agg #[.int .i64 0,.slice none 0 0]) [(0,1,iv (ZdD B r.o.nd r.o.rl))] X4=some (.agg #[iv (ZdD B r.o.nd r.o.rl),.slice none 0 0],X4) from rfl),Za (Zjk c4 rfl),Za (Zjx c4)]
   rfl
  ·have kz:=k12.trans k3
   exact ⟨by simpa using Nat.le_trans kz.len t4.len,fun j hj hn=>by rw [List.getElem?_set_ne (by omega),t4.keep j (Nat.lt_of_lt_of_le hj kz.len) hn,List.getElem?_eq_getElem hj];exact kz _ _ (List.getElem?_eq_getElem hj),fun j hj=>.inl hj⟩
end Go.Proofs.YtgfbgfafajiehaaGreatDoor.A

namespace Go.Proofs.YtgfbgfafajiehaaGreatDoor.A
set_option linter.unusedVariables false
set_option linter.unusedSimpArgs false
open Go.Proofs Go.Proofs.YtgfbgfafajiehaaGreatDoor
variable {X X' Y : Zd} {n : Nat} {p p' : HP} {D D' : Jv} {T : List JI} {B : List Nat} {o : OpT} {s : NSt} {r : Zdf}
theorem ZA7 (hG : GlH X) (h : HO X p D T B) (hc : p.c≤1000) (hok : Zna r) (ha : r.o.a.length≤65535) (hb : r.o.b.length≤65535) : ∃ (v : Value) (l : List Tx) (e : Int) (dn : Bool) (p' : HP) (D' : Jv) (T' : List JI) (B' : List Nat) (X' : Zd),
  R (n+19) Jd [pt p.h,.agg r.cells.toArray] X=some (.tuple #[.agg #[iv e,v],.bool dn],X')∧Sl X' v (l.map strv)∧oneCell v=true∧l.length≤1000∧HO X' p' D' T' B'∧Zr p.own X p'.own X'∧p'.h=p.h∧p'.c≤p.c+1∧(e≠0→D'=D∧l=[])∧(dn=true→checkO r.o=0→(e=6↔verS D=1∧5≤r.o.kd∧r.o.kd≤14)):=by
 have a1:=ZxL r X
 have k1 : HLe X (X++[Ze.cells r.cells 1 false false]):=.app _ _
 have c1 : (X++[Ze.cells r.cells 1 false false])[X.length]?=some (.cells r.cells 1 false false):=Zv
 generalize X++[Ze.cells r.cells 1 false false]=X1 at a1 k1 c1
 have a2 : alc 1 (.agg #[.int .i64 0,.slice none 0 0]) X1=some (pt X1.length,X1++[.cells [.int .i64 0,.slice none 0 0] 1 false false]):=rfl
 have k2 : HLe X1 (X1++[Ze.cells [.int .i64 0,.slice none 0 0] 1 false false]):=.app _ _
 have c2 : (X1++[Ze.cells [.int .i64 0,.slice none 0 0] 1 false false])[X1.length]?=some (.cells [.int .i64 0,.slice none 0 0] 1 false false):=Zv
 have d2:=k2 _ _ c1
 generalize X1++[Ze.cells [.int .i64 0,.slice none 0 0] 1 false false]=X2 at a2 k2 c2 d2
 have k12:=k1.trans k2
 have H2:=h.hle k12
 have G2:=hG.le k12
 have n1:=k1.len
 have hp1 : X.length < X1.length:=ZX c1
 have hp2 : X1.length < X2.length:=ZX c2
 have own2 : X1.length∉p.own:=fun hh=>by have:=h.lt _ hh;omega
 have own1 : X.length∉p.own:=fun hh=>by have:=h.lt _ hh;omega
 have fr2 : X1.length∉p.fr:=fun hh=>by have:=h.tab.lt _ hh;omega
 have f0 : ∀ v X',Y6 (R (n+18)) (pt p.h) (.agg r.cells.toArray) X=some (v,X')→R (n+19) Jd [pt p.h,.agg r.cells.toArray] X=some (v,X'):=fun v X' hr=>by rw [R,ZnK rfl];exact hr
 have b0 : ld1 (pa X.length 0) X2=some (.int .u8 r.cl,X2):=ZC d2 rfl
 have b1 : ld1 (pa X.length 1) X2=some (.int .u64 r.num,X2):=ZC d2 rfl
 have bt : ld1 (pa p.h 2) X2=some (pt p.t,X2):=ZC H2.cell rfl
 have g1 : ∀ Z : Zd,fa 1 (pt X.length) Z=some (pa X.length 1,Z):=fun Z=>rfl
 have g2 : ∀ Z : Zd,fa 2 (pt X.length) Z=some (pa X.length 2,Z):=fun Z=>rfl
 have y2 : ∀ Z : Zd,fa 2 (pa p.h 0) Z=some (pa p.h 2,Z):=fun Z=>rfl
 have q0 : bop .int .eql (.int .u8 r.cl) (.int .u8 255) X2=some (.bool (decide (r.cl=255)),X2):=by
  rw [ZE]
  have hq : ((r.cl : Int)==255)=decide (r.cl=255):=by
   by_cases hz : r.cl=255
   ·rw [hz];rfl
   ·rw [decide_eq_false hz,beq_eq_false_iff_ne];omega
  rw [hq]
 have ZdQ : ∀ {Z : Zd} {p' : HP} {D' : Jv} {T' : List JI} {B' : List Nat} {e : Int} {w : Value} {l : List Tx} {q : List Nat} {dn : Bool},HO Z p' D' T' B'→Zr p.own X2 p'.own Z→X1.length∉p'.fr→Zo Z w (l.map strv) q→X1.length∉q→Z[X1.length]?=some (.cells [.int .i64 0,.slice none 0 0] 1 false false)→
   ∃ Z',bind (stA 2 (pt X1.length) (.agg #[iv e,w])) (fun _=>bind (ldA 2 (pt X1.length)) fun vrx=>ret (Value.tuple #[vrx,.bool dn])) Z=some (.tuple #[.agg #[iv e,w],.bool dn],Z')∧Sl Z' w (l.map strv)∧oneCell w=true∧HO Z' p' D' T' B'∧Zr p.own X p'.own Z':=fun {Z p' D' T' B' e w l q dn} hO hs hf hr hq hz=>by
  have ho : X1.length∉p'.own:=fun hh=>by
   rcases hs.own _ hh with h1 | h1
   ·exact own2 h1
   ·omega
  have hr2 : Zo (Z.set X1.length (.cells [iv e,w] 1 false false)) w (l.map strv) q:=hr.keep fun j hj=>List.getElem?_set_ne (fun e0=>by rw [e0] at hq;exact hq hj)
  refine ⟨Z.set X1.length (.cells [iv e,w] 1 false false),?_,hr2.rd,hr.one.1,hO.box hz ho hf,⟨by simpa using Nat.le_trans k12.len hs.len,fun j hj hn=>?_,fun j hj=>?_⟩⟩
  ·rw [Za (Zjk hz hr.one.1),Za (Zjx hz)]
   rfl
  ·rw [List.getElem?_set_ne (by omega),hs.keep j (Nat.lt_of_lt_of_le hj k12.len) hn,List.getElem?_eq_getElem hj]
   exact k12 _ _ (List.getElem?_eq_getElem hj)
  ·rcases hs.own j hj with h1 | h1
   ·exact .inl h1
   ·exact .inr (Nat.le_trans k12.len h1)
 have nil : ∀ {Z : Zd},Zo Z (.slice none 0 0) (([] : List Tx).map strv) []:=Zo.nil
 by_cases hs : r.cl=255
 ·obtain ⟨e,dn,B',X3,e3,H3,s3,n6,k16⟩:=ZD4 (n:=n) (r:=r) G2 H2 hok ha hb
  have e3 : R (n+18) Zaa [pt p.h,.agg r.cells.toArray] X2=_:=e3
  obtain ⟨Z',z1,z2,z3,z4,z5⟩:=ZdQ (e:=(e : Int)) (dn:=dn) H3 s3 fr2 nil (by simp) (s3.get c2 own2)
  refine ⟨.slice none 0 0,[],e,dn,p,D,T,B',Z',f0 _ _ ?_,z2,z3,by simp,z4,z5,rfl,by omega,fun _=>⟨rfl,rfl⟩,fun hd _=>⟨fun h6=>by omega,fun h=>by have:=k16 hd;omega⟩⟩
  unfold Y6
  rw [Za a1,Za a2,Za Zj,Za b0,Za q0,decide_eq_true hs,Zb,if_pos rfl,Za (show ldA 7 (pt X.length) X2=some (.agg r.cells.toArray,X2) from Qt (n:=7) d2 rfl),Za e3,Za Zp,Za Zq]
  exact z1
 have ej : R (n+18) YZ [pt p.t,.int .u8 r.cl,.int .u64 r.num] X2=some (iv (judgeS T r.cl r.num),X2):=Zxw H2.tab
 have qj : ∀ j : Nat,bop .int .eql (iv (judgeS T r.cl r.num)) (iv j) X2=some (.bool (decide (judgeS T r.cl r.num=j)),X2):=fun j=>by
  rw [ZE]
  have hq : ((judgeS T r.cl r.num : Int)==(j : Int))=decide (judgeS T r.cl r.num=j):=by
   by_cases hz : judgeS T r.cl r.num=j
   ·rw [hz];simp
   ·rw [decide_eq_false hz,beq_eq_false_iff_ne];omega
  rw [hq]
 have qj0 : bop .int .eql (iv (judgeS T r.cl r.num)) (.int .i64 0) X2=_:=qj 0
 have qj1 : bop .int .eql (iv (judgeS T r.cl r.num)) (.int .i64 1) X2=_:=qj 1
 have qj2 : bop .int .eql (iv (judgeS T r.cl r.num)) (.int .i64 2) X2=_:=qj 2
 by_cases j0 : judgeS T r.cl r.num=0
 ·obtain ⟨Z',z1,z2,z3,z4,z5⟩:=ZdQ (e:=1) (dn:=false) H2 (.refl _ _) fr2 nil (by simp) c2
  refine ⟨.slice none 0 0,[],1,false,p,D,T,B,Z',f0 _ _ ?_,z2,z3,by simp,z4,z5,rfl,by omega,fun _=>⟨rfl,rfl⟩,fun hd=>by cases hd⟩
  unfold Y6
  rw [Za a1,Za a2,Za Zj,Za b0,Za q0,decide_eq_false hs,Zb,if_neg (by simp),Za Zg,Za (y2 X2),Za bt,Za Zj,Za b0,Za (g1 X2),Za b1,Za ej,Za qj0,decide_eq_true j0,Zb,if_pos rfl,Za (show bld (.agg #[.int .i64 0,.slice none 0 0]) [(0,1,(Value.int .i64 1))] X2=some (.agg #[iv 1,.slice none 0 0],X2) from rfl)]
  exact z1
 by_cases j1 : judgeS T r.cl r.num=1
 ·obtain ⟨Z',z1,z2,z3,z4,z5⟩:=ZdQ (e:=12) (dn:=false) H2 (.refl _ _) fr2 nil (by simp) c2
  refine ⟨.slice none 0 0,[],12,false,p,D,T,B,Z',f0 _ _ ?_,z2,z3,by simp,z4,z5,rfl,by omega,fun _=>⟨rfl,rfl⟩,fun hd=>by cases hd⟩
  unfold Y6
  rw [Za a1,Za a2,Za Zj,Za b0,Za q0,decide_eq_false hs,Zb,if_neg (by simp),Za Zg,Za (y2 X2),Za bt,Za Zj,Za b0,Za (g1 X2),Za b1,Za ej,Za qj0,decide_eq_false j0,Zb,if_neg (by simp),Za qj1,decide_eq_true j1,Zb,if_pos rfl,Za (show bld (.agg #[.int .i64 0,.slice none 0 0]) [(0,1,(Value.int .i64 12))] X2=some (.agg #[iv 12,.slice none 0 0],X2) from rfl)]
  exact z1
 by_cases j2 : judgeS T r.cl r.num=2
 ·have hcl : r.cl < 8:=by
   unfold judgeS at j2
   split at j2
   ·cases j2
   ·omega
  obtain ⟨row,lv,hr,hlv⟩:=H2.tab.row hcl
  obtain ⟨v,q,X3,e3,r3,k3,o3⟩:=ZC1 (n:=n+15) H2.tab hcl hr
  have e3 : R (n+18) KS [pt p.t,.int .u8 r.cl] X2=_:=e3
  have few:=(H2.tab.txt _ _ _ hr hlv).few
  obtain ⟨Z',z1,z2,z3,z4,z5⟩:=ZdQ (e:=(row.e : Int)) (dn:=false) (H2.hle k3) (k3.step.more (by simp) (fun j hj=>.inl hj)) fr2 r3 (fun hh=>by have:=o3 _ hh;omega) (k3 _ _ c2)
  refine ⟨v,row.l,row.e,false,p,D,T,B,Z',f0 _ _ ?_,z2,z3,few,z4,z5,rfl,by omega,fun he=>⟨rfl,H2.tab.err row (List.mem_of_getElem? hr) (fun h0=>he (by rw [h0];rfl))⟩,fun hd=>by cases hd⟩
  unfold Y6
  rw [Za a1,Za a2,Za Zj,Za b0,Za q0,decide_eq_false hs,Zb,if_neg (by simp),Za Zg,Za (y2 X2),Za bt,Za Zj,Za b0,Za (g1 X2),Za b1,Za ej,Za qj0,decide_eq_false j0,Zb,if_neg (by simp),Za qj1,decide_eq_false j1,Zb,if_neg (by simp),Za qj2,decide_eq_true j2,Zb,if_pos rfl,Za Zg,Za (y2 X2),Za bt,Za Zj,Za b0,Za e3]
  exact z1
 ·obtain ⟨v,l,q,e,p1,D1,X3,e3,r3,o3,n3,A,eL,e6⟩:=ZFs (n:=n+1) (o:=r.o) G2 H2 hc hok.o ha hb
  have e3 : R (n+18) Zbs [pt p.h,.agg r.o.cells.toArray] X2=_:=e3
  have d3:=A.st.get d2 own1
  have c3:=A.st.get c2 own2
  have z6 : ∀ K : Value→M Value,bind (alc 1 (.agg #[.int .i64 0,.slice none 0 0])) (fun q=>bind (stA 2 q (.agg #[iv e,v])) fun _=>K q) X3=K (pt X3.length) (X3++[.cells [iv e,v] 1 false false]):=fun K=>ZbU (n:=2) (zs:=[.int .i64 0,.slice none 0 0]) (r:=[iv e,v]) rfl rfl rfl (by rw [List.all_cons,List.all_cons,r3.one.1];rfl)
  have k4 : HLe X3 (X3++[Ze.cells [iv e,v] 1 false false]):=.app _ _
  have c6 : (X3++[Ze.cells [iv e,v] 1 false false])[X3.length]?=some (.cells [iv e,v] 1 false false):=Zv
  generalize X3++[Ze.cells [iv e,v] 1 false false]=X4 at z6 k4 c6
  have H4:=A.ho.hle k4
  have r4:=r3.hle k4
  have hT:=A.t
  have hH:=A.h
  have htl : p.t < X.length:=h.tab.lt _ h.tab.t
  have n4:=k4.len
  have n23:=A.st.len
  obtain ⟨en,rfl⟩ : ∃ en : Nat,e=en:=⟨e.toNat,by have:=A.nn;omega⟩
  obtain ⟨X5,lvs',q2,e5,t5,l5,m5,o5⟩:=ZE6 (n:=n+14) (c:=r.cl) (m:=r.num) (e:=en) H4.tab r4.rd n3 r4.one.1
  have e5 : R (n+18) ZaX [pt p1.t,.int .u8 r.cl,.int .u64 r.num,.agg #[iv en,v]] X4=_:=e5
  obtain ⟨H5,s5⟩:=H4.put t5 l5 m5 o5
  have r5 : Zo X5 v (l.map strv) q:=r4.keep fun j hj=>m5 j (r4.lt j hj) (by have:=o3 j hj;omega)
  have c6' : X5[X3.length]?=some (.cells [iv en,v] 1 false false):=by
   rw [m5 _ (ZX c6) (by omega)];exact c6
  have c5 : X5[X1.length]?=some (.cells [.int .i64 0,.slice none 0 0] 1 false false):=by
   have:=k4 _ _ c3
   rw [m5 _ (ZX this) (by omega)];exact this
  have s24 : Zr p.own X2 p1.own X4:=A.st.trans (k4.step.more (by simp) (fun j hj=>.inl hj))
  obtain ⟨Z',z1,z2,z3,z4,z5⟩:=ZdQ (e:=(en : Int)) (dn:=true) H5 (s24.trans s5) (fun hh=>by
   rcases List.mem_append.1 hh with h1 | h1
   ·rw [A.fr] at h1;exact fr2 h1
   ·have:=o5 _ h1;omega) r5 (fun hh=>by have:=o3 _ hh;omega) c5
  refine ⟨v,l,en,true,_,D1,_,B,Z',f0 _ _ ?_,z2,z3,n3,z4,z5,hH,A.c,fun he=>⟨A.no he,eL he⟩,fun _ hk=>⟨fun h6=>(e6.1 h6).2,fun hx=>e6.2 ⟨hk,hx⟩⟩⟩
  unfold Y6
  rw [Za a1,Za a2,Za Zj,Za b0,Za q0,decide_eq_false hs,Zb,if_neg (by simp),Za Zg,Za (y2 X2),Za bt,Za Zj,Za b0,Za (g1 X2),Za b1,Za ej,Za qj0,decide_eq_false j0,Zb,if_neg (by simp),Za qj1,decide_eq_false j1,Zb,if_neg (by simp),Za qj2,decide_eq_false j2,Zb,if_neg (by simp),Za (g2 X2),Za (Zrt d2),Za e3,z6,Za Zg,Za (y2 X4),Za (show ld1 (pa p.h 2) X4=some (pt p1.t,X4) from by rw [← hH];exact ZC H4.cell rfl),Za Zj,Za (show ld1 (pa X.length 0) X4=some (.int .u8 r.cl,X4) from ZC (k4 _ _ d3) rfl),Za (g1 X4),Za (show ld1 (pa X.length 1) X4=some (.int .u64 r.num,X4) from ZC (k4 _ _ d3) rfl),Za (Qt (n:=2) c6 rfl),Za e5,Za (Qt (n:=2) c6' rfl)]
  exact z1
end Go.Proofs.YtgfbgfafajiehaaGreatDoor.A

namespace Go.Proofs.YtgfbgfafajiehaaGreatDoor.A
set_option linter.unusedVariables false
set_option linter.unusedSimpArgs false
open Go.Proofs Go.Proofs.YtgfbgfafajiehaaGreatDoor
variable {X X' Y H0 : Zd} {n : Nat} {p p' : HP} {D D' : Jv} {T : List JI} {B : List Nat} {r : Zdf} {rs : List Zdf} {sl : Value}
def Zgm (H : Zd) (sl : Value) (rs : List Zdf) : Prop:=SlN 7 H sl (rs.map Zdf.cells)∧∀ r∈rs,Zna r
theorem Zgm.len (h : Zgm X sl rs) : ZA sl X'=some (iv rs.length,X'):=by
 have:=h.1.len (H':=X')
 rwa [List.length_map] at this
theorem Zgm.mono (h : Zgm X sl rs) (hl : HLe X X') : Zgm X' sl rs:=⟨h.1.mono hl,h.2⟩
theorem Zgm.fetch {β : Type} {k : Value→M β} (h : Zgm X sl rs) {j : Nat} (hj : rs[j]?=some r) :
  bind (ixa 7 sl (iv j)) (fun p=>bind (ldA 7 p) fun v=>bind (alc 1 (.agg #[.int .u8 0,.int .u64 0,.int .u8 0,.string ⟨#[]⟩,.string ⟨#[]⟩,.int .u8 0,.int .u8 0])) fun q=>bind (stA 7 q v) fun _=>k q) X=k (pt X.length) (X++[.cells r.cells 1 false false]):=by
 have hr : (rs.map Zdf.cells)[j]?=some r.cells:=by rw [List.getElem?_map,hj];rfl
 rw [h.1.fetch hr (by omega) .i64]
 exact ZbU (n:=7) (zs:=[.int .u8 0,.int .u64 0,.int .u8 0,.string ⟨#[]⟩,.string ⟨#[]⟩,.int .u8 0,.int .u8 0]) (r:=r.cells) rfl rfl rfl rfl
def ZjA (r : Zdf) : Bool:=decide (r.o.a.length≤100) && decide (r.o.b.length≤100)
theorem Zwv {e : Int} {dn : Bool} {v z1 : Value} {a b : Nat} {K : M Out} {z3 : Value} (hG : GlH X) (hok : Zna r) (ha : r.o.a.length≤65535) (hb : r.o.b.length≤65535) (hc : X[a]?=some (.cells r.cells 1 false false)) (hd : X[b]?=some (.cells [iv e,v] 1 false false)) (hv : dn=true→checkO r.o=0→(e=6↔verS D=1∧5≤r.o.kd∧r.o.kd≤14)) :
  ∃ X',HLe X X'∧bind (gateV (.bool dn) true (fa 2 (pt a))) (fun v54x38=>bind (gateV (.bool dn) true (ldA 5 v54x38)) fun v55x39=>bind (gateV (.bool dn) true (R (n+19) W4 [v55x39])) fun v56x40=>bind (gateV (.bool dn) true (bop .int .eql v56x40 (Value.int .i64 0))) fun v57x41=>bind (pick (.bool dn) v57x41 (Value.bool false)) fun v58x42=>
   bind (gateV v58x42 true (fa 0 (pt b))) fun v60x43=>bind (gateV v58x42 true (ld1 v60x43)) fun v61x44=>bind (gateV v58x42 true (bop .int .eql v61x44 (Value.int .i64 6))) fun v62x45=>bind (gateV v58x42 true (fa 2 (pt a))) fun v63x46=>bind (gateV v58x42 true (fa 0 v63x46)) fun v64x47=>bind (gateV v58x42 true (ld1 v64x47)) fun v65x48=>bind (gateV v58x42 true (cvi .i64 v65x48)) fun v66x49=>bind (gateV v58x42 true (ret (iv (verS D)))) fun v68x50=>bind (gateV v58x42 true (R (n+19) Zfs [v66x49])) fun v67x51=>bind (gateV v58x42 true (ld1 v60x43)) fun u_52=>same u_52 v61x44 <|
   bind (gateV v58x42 true (bop .int .gtr v67x51 v68x50)) fun v69x53=>bind (gateV v58x42 true (bop .bool .neq v62x45 v69x53)) fun v70x54=>bind (pick v58x42 v70x54 (Value.bool false)) fun v71x55=>cnd v71x55 (ret (.ret (Value.bool false))) K) X=K X':=by
 cases dn with
 | false=>
  refine ⟨X,.refl _,?_⟩
  rw [QI rfl,QI rfl,QI rfl,QI rfl,Za Zm,show cond false Qi (Value.bool false)=.bool false from rfl]
  rw [QI rfl,QI rfl,QI rfl,QI rfl,QI rfl,QI rfl,QI rfl,QI rfl,QI rfl,QI rfl,QG,QI rfl,QI rfl,Za Zm]
  rfl
 | true=>
  obtain ⟨X1,e1,k1⟩:=ZlV (n:=n+14) (o:=r.o) hG hok.o ha hb
  have e1 : R (n+19) W4 [.agg r.o.cells.toArray] X=_:=e1
  have q1 : bop .int .eql (iv (checkO r.o)) (Value.int .i64 0) X1=some (.bool (decide (checkO r.o=0)),X1):=by
   rw [ZE]
   have hq : ((checkO r.o : Int)==0)=decide (checkO r.o=0):=by
    by_cases hz : checkO r.o=0
    ·rw [hz];rfl
    ·rw [decide_eq_false hz,beq_eq_false_iff_ne];omega
   rw [hq]
  refine ⟨X1,k1,?_⟩
  rw [KZ,Za (show fa 2 (pt a) X=some (pa a 2,X) from rfl),KZ,Za (Zrt hc),KZ,Za e1,KZ,Za q1,Za Zm]
  simp only [cond_true]
  by_cases hk : checkO r.o=0
  ·have hkd:=Zwo hk
   have hv:=hv rfl hk
   have b0 : ld1 (pa b 0) X1=some (iv e,X1):=ZC (k1 _ _ hd) rfl
   have b1 : ld1 (pa a 2) X1=some (.int .u8 r.o.kd,X1):=ZC (k1 _ _ hc) rfl
   have q2 : cvi .i64 (.int .u8 (r.o.kd : Int)) X1=some (iv r.o.kd,X1):=by rw [QC,w64 (by omega) (by omega)]
   have e2 : R (n+19) Zfs [iv r.o.kd] X1=_:=ZBN (n:=n+18) hok.o.kd
   have e3 : (e==6)=decide (decide ((if 17≤r.o.kd then (0 : Int) else if 5≤r.o.kd∧r.o.kd≤14 then 2 else 1) > (verS D : Int))=true):=by
    rw [if_neg (by omega)]
    have hver : verS D=1∨verS D=2:=by cases D <;> simp [verS]
    by_cases h6 : e=6
    ·obtain ⟨h7,h8⟩:=hv.1 h6
     rw [h6,h7,if_pos h8];rfl
    ·have : (e==6)=false:=by rw [beq_eq_false_iff_ne];exact h6
     rw [this]
     by_cases h8 : 5≤r.o.kd∧r.o.kd≤14
     ·have h9 : verS D=2:=by
       rcases hver with h | h
       ·exact absurd (hv.2 ⟨h,h8⟩) h6
       ·exact h
      rw [if_pos h8,h9];rfl
     ·rw [if_neg h8]
      rcases hver with h | h <;> rw [h] <;> rfl
   rw [decide_eq_true hk,KZ,Za Zj,KZ,Za b0,KZ,Za ZE,KZ,Za (show fa 2 (pt a) X1=some (pa a 2,X1) from rfl),KZ,Za (show fa 0 (pa a 2) X1=some (pa a 2,X1) from rfl),KZ,Za b1,KZ,Za q2,KZ,QF,KZ,Za e2,KZ,Za b0,QG,KZ,Za Qd,KZ,e3,Za (JO),Za Zm]
   simp [Zb]
  ·rw [decide_eq_false hk]
   rw [QI rfl,QI rfl,QI rfl,QI rfl,QI rfl,QI rfl,QI rfl,QI rfl,QI rfl,QI rfl,QG,QI rfl,QI rfl,Za Zm]
   rfl
theorem ZAf (hG : GlH H0) (hR : Zgm H0 sl rs) (hF : rs.all ZjA=true) (hn : rs.length≤60) : ∀ (t i : Nat) (p : HP) (D : Jv) (T : List JI) (B : List Nat) (X : Zd),rs.length - i=t→i≤rs.length→HLe H0 X→HO X p D T B→(∀ j∈p.own,H0.length≤j)→p.c+t≤1000→
  ∃ X',Zi (c4 (QK.l1 (R (n+19)))) [pt p.h,sl,iv rs.length,iv i] X=some (.ext 0 [],X')
 | 0,i,p,D,T,B,X,ht,hi,hle,h,ho,hc=>by
  have : i=rs.length:=by omega
  subst this
  refine ⟨X,Qc ?_⟩
  rw [ZI]
  unfold QK.l1
  rw [Za Zu,Zb,if_neg (by simp)]
  rfl
 | t+1,i,p,D,T,B,X,ht,hi,hle,h,ho,hc=>by
  have hil : i < rs.length:=by omega
  have hlt : (i : Int) < rs.length:=by omega
  have hja:=List.getElem?_eq_getElem hil
  have hm : rs[i]∈rs:=List.getElem_mem hil
  generalize rs[i]=r at hja hm
  have hok:=hR.2 r hm
  have hfew : r.o.a.length≤100∧r.o.b.length≤100:=by simpa [ZjA] using List.all_eq_true.1 hF r hm
  have hf:=fun {K : Value→M Out}=>(hR.mono hle).fetch (k:=K) hja
  have k1 : HLe X (X++[Ze.cells r.cells 1 false false]):=.app _ _
  have c1 : (X++[Ze.cells r.cells 1 false false])[X.length]?=some (.cells r.cells 1 false false):=Zv
  generalize X++[Ze.cells r.cells 1 false false]=X1 at hf k1 c1
  obtain ⟨v1,X2,e2,s2,k2⟩:=ZAx (n:=n+6) (h.hle k1)
  have e2 : R (n+19) Qp [pt p.h] X1=_:=e2
  have H2:=(h.hle k1).hle k2
  have c2:=k2 _ _ c1
  have e3 : R (n+19) J1 [pt p.h] X2=_:=ZyV (n:=n+18) H2
  obtain ⟨v,l,e,dn,p',D',T',B',X3,e4,s4,o4,n4,H3,st,hh,hc',hno,hv⟩:=ZA7 (n:=n) (r:=r) (hG.le ((hle.trans k1).trans k2)) H2 (by omega) hok (by omega) (by omega)
  have own1 : X.length∉p.own:=fun hx=>by have:=h.lt _ hx;omega
  have c3:=st.get c2 own1
  have z4 : ∀ K : Value→M Out,bind (alc 1 (.agg #[.int .i64 0,.slice none 0 0])) (fun q=>bind (stA 2 q (.agg #[iv e,v])) fun _=>K q) X3=K (pt X3.length) (X3++[.cells [iv e,v] 1 false false]):=fun K=>ZbU (n:=2) (zs:=[.int .i64 0,.slice none 0 0]) (r:=[iv e,v]) rfl rfl rfl (by rw [List.all_cons,List.all_cons,o4];rfl)
  have k4 : HLe X3 (X3++[Ze.cells [iv e,v] 1 false false]):=.app _ _
  have c6 : (X3++[Ze.cells [iv e,v] 1 false false])[X3.length]?=some (.cells [iv e,v] 1 false false):=Zv
  generalize X3++[Ze.cells [iv e,v] 1 false false]=X4 at z4 k4 c6
  have H4:=H3.hle k4
  have m3:=((hle.trans k1).trans k2).more st ho
  obtain ⟨v5,X5,e5,s5,k5⟩:=ZAx (n:=n+6) H4
  have e5 : R (n+19) Qp [pt p.h] X4=some (v5,X5):=by rw [← hh];exact e5
  have c45:=k4 _ _ c3
  have nx : ∀ Z : Zd,HLe X4 Z→∃ X',Zi (c4 (QK.l1 (R (n+19)))) [pt p.h,sl,iv rs.length,iv ((i+1 : Nat) : Int)] Z=some (.ext 0 [],X'):=fun Z hz=>by
   have:=ZAf hG hR hF hn t (i+1) p' D' T' B' Z (by omega) (by omega) ((m3.1.trans k4).trans hz) (H4.hle hz) m3.2 (by omega)
   rwa [hh] at this
  have q5 : bop .int .neq (iv e) (.int .i64 0) X4=some (.bool (!(e==0)),X4):=by rw [Zk];rfl
  by_cases he : e=0
  ·obtain ⟨X6,k6,e6⟩:=Zwv (n:=n) (D:=D) (e:=e) (v:=v) (dn:=dn) (z1:=v) (z3:=v) (a:=X.length) (b:=X3.length) (K:=bind (bop .int .add (iv i) (Value.int .i64 1)) fun v72x56=>ret (.nrm [pt p.h,sl,iv rs.length,v72x56])) (hG.le (m3.1.trans k4)) hok (by omega) (by omega) c45 c6 hv
   obtain ⟨X',e7⟩:=nx X6 k6
   refine ⟨X',(ZN ?_).trans e7⟩
   rw [ZI]
   unfold QK.l1
   rw [Za Zu,Zb,if_pos (by simpa using hlt),hf,Za e2,Za (Znk s2),Za e3,Za (Znk s2),QG,Za (Qt (n:=7) c2 rfl),Za e4,Za Zp,Za Zq,z4,Za Zj,Za (ZC (o:=0) c6 rfl),Za q5]
   rw [show (!(e==0))=false from by rw [he];rfl]
   rw [Za (show gate (.bool false) true 6 _ X4=some ([Qi,Qi,Qi,Qi,Qi,Qi],X4) from rfl),Yp,Za (show gate Qi false 4 _ X4=some ([Qi,Qi,Qi,Qi],X4) from rfl),ZI,Za (show gate (.bool false) true 1 _ X4=some ([Qi],X4) from rfl),J8,Za Zm,show cond false Qi (Value.bool false)=.bool false from rfl,Zb,if_neg (by simp)]
   refine e6.trans ?_
   rw [Za ZG,Jk (by omega)]
   rfl
  ·obtain ⟨hD,hl⟩:=hno he
   subst hD
   subst hl
   have hne : bop .str .neq (strv (Zv3 D')) (strv (Zv3 D')) X5=some (.bool false,X5):=by rw [Zie];simp
   obtain ⟨X6,k6,e6⟩:=Zwv (n:=n) (D:=D') (e:=e) (v:=v) (dn:=dn) (z1:=v) (z3:=v) (a:=X.length) (b:=X3.length) (K:=bind (bop .int .add (iv i) (Value.int .i64 1)) fun v72x56=>ret (.nrm [pt p.h,sl,iv rs.length,v72x56])) (hG.le ((m3.1.trans k4).trans k5)) hok (by omega) (by omega) (k5 _ _ c45) (k5 _ _ c6) hv
   obtain ⟨X',e7⟩:=nx X6 (k5.trans k6)
   refine ⟨X',(ZN ?_).trans e7⟩
   rw [ZI]
   unfold QK.l1
   rw [Za Zu,Zb,if_pos (by simpa using hlt),hf,Za e2,Za (Znk s2),Za e3,Za (Znk s2),QG,Za (Qt (n:=7) c2 rfl),Za e4,Za Zp,Za Zq,z4,Za Zj,Za (ZC (o:=0) c6 rfl),Za q5]
   rw [show (!(e==0))=true from by simp [he]]
   rw [Ql,Zl,Za e5,Zl,Za (Znk s5),Zl,Za hne,QF,Yp,Ql,Zl,Za (show fa 1 (pt X3.length) X5=some (pa X3.length 1,X5) from rfl),Zl,Za (ZC (o:=1) (k5 _ _ c6) rfl),Zl,Za (show ZA v X5=some (iv 0,X5) from by have:=s4.len (H':=X5);simpa using this),Zl,Za Zk,QF,ZI,Ql,Zl,Za Zm,QF,J8,Za Zm]
   rw [show cond true (cond false (Value.bool true) (Value.bool ((0 : Int) !=0))) (Value.bool false)=.bool false from rfl,Zb,if_neg (by simp)]
   refine e6.trans ?_
   rw [Za ZG,Jk (by omega)]
   rfl
end Go.Proofs.YtgfbgfafajiehaaGreatDoor.A

namespace Go.Proofs.YtgfbgfafajiehaaGreatDoor.A
set_option linter.unusedVariables false
set_option linter.unusedSimpArgs false
open Go.Proofs Go.Proofs.YtgfbgfafajiehaaGreatDoor
variable {X X' Y H H0 : Zd} {n : Nat} {rs : List Zdf} {sl : Value}
theorem Zxx (h : Zgm H0 sl rs) (hn : rs.length≤9223372036854775807) : ∀ (t j : Nat) {X : Zd},rs.length - j=t→j≤rs.length→HLe H0 X→
  ∃ X',Zi (c4 (Wn.l1 (R n))) [sl,sl,iv rs.length,iv j] X=some (if (rs.drop j).all ZjA then .ext 0 [sl] else .ret (.bool false),X')∧HLe H0 X'
 | 0,j,X,ht,hj,hle=>by
  have : j=rs.length:=by omega
  subst this
  rw [List.drop_length]
  refine ⟨X,Qc ?_,hle⟩
  rw [ZI]
  unfold Wn.l1
  rw [Za Zu,Zb,if_neg (by simp)]
  rfl
 | t+1,j,X,ht,hj,hle=>by
  have hjn : j < rs.length:=by omega
  have hlt : (j : Int) < rs.length:=by omega
  have hja:=List.getElem?_eq_getElem hjn
  have hd:=List.drop_eq_getElem_cons hjn
  generalize rs[j]=a at hja hd
  have g1 : (X++[Ze.cells a.cells 1 false false])[X.length]?=some (.cells a.cells 1 false false):=Zv
  have l1 : ld1 (pa X.length 3) (X++[.cells a.cells 1 false false])=some (strv a.o.a,X++[.cells a.cells 1 false false]):=ZC g1 rfl
  have l2 : ld1 (pa X.length 4) (X++[.cells a.cells 1 false false])=some (strv a.o.b,X++[.cells a.cells 1 false false]):=ZC g1 rfl
  have hf:=fun {K : Value→M Out}=>(h.mono hle).fetch (k:=K) hja
  have k1:=hle.trans (HLe.app X [.cells a.cells 1 false false])
  generalize X++[Ze.cells a.cells 1 false false]=X1 at g1 l1 l2 k1 hf
  obtain ⟨X2,e2,k2⟩:=Zxx h hn t (j+1) (by omega) (by omega) k1
  have y2 : fa 2 (pt X.length) X1=some (pa X.length 2,X1):=rfl
  have y3 : fa 1 (pa X.length 2) X1=some (pa X.length 3,X1):=rfl
  have y4 : fa 2 (pa X.length 2) X1=some (pa X.length 4,X1):=rfl
  rw [hd,List.all_cons]
  have hb : Wn.l1 (R n) sl sl (iv rs.length) (iv j) X=some (if ZjA a then .nrm [sl,sl,iv rs.length,iv ((j+1 : Nat) : Int)] else .ret (.bool false),X1):=by
   unfold Wn.l1
   rw [Za Zu,Zb,if_pos (by simpa using hlt),hf,Za y2,Za y3,Za l1,Za ZW,Za Qd]
   unfold ZjA
   by_cases h1 : a.o.a.length≤100
   ·have h1' : ¬ ((a.o.a.length : Int) > 100):=by omega
    rw [decide_eq_false h1',Ql,Zl,Za y2,Zl,Za y4,Zl,Za l2,Zl,Za ZW,Zl,Za Qd,QF,Q6,Za Zm,decide_eq_true h1]
    simp only [cond_false]
    by_cases h2 : a.o.b.length≤100
    ·have h2' : ¬ ((a.o.b.length : Int) > 100):=by omega
     rw [decide_eq_false h2',Zb,if_neg (by simp),Za ZG,Jk (by omega),decide_eq_true h2]
     rfl
    ·have h2' : ((a.o.b.length : Int) > 100):=by omega
     rw [decide_eq_true h2',Zb,if_pos rfl,decide_eq_false h2]
     rfl
   ·have h1' : ((a.o.a.length : Int) > 100):=by omega
    rw [decide_eq_true h1',Za (g_r.trans (if_neg (by simp)))]
    simp only [List.replicate]
    rw [Q6,Za Zm]
    simp only [cond_true]
    rw [Zb,if_pos rfl,decide_eq_false h1]
    rfl
  cases hfa : ZjA a
  ·rw [hfa] at hb
   exact ⟨X1,Yq hb,k1⟩
  ·rw [hfa] at hb
   exact ⟨X2,(ZN hb).trans e2,k2⟩
theorem ZEl (h : Zgm H sl rs) (hn : rs.length≤9223372036854775807) : ∃ H',R (n+1) Zba [sl] H=some (.bool (rs.all ZjA && decide (rs.length≤60)),H')∧HLe H H':=by
 obtain ⟨H',e,k⟩:=Zxx (n:=n) h hn rs.length 0 (by omega) (by omega) (.refl _)
 rw [List.drop_zero] at e
 have e : Zi (c4 (Wn.l1 (R n))) [sl,sl,iv rs.length,.int .i64 0] H=_:=e
 refine ⟨H',?_,k⟩
 rw [R,Zvm rfl]
 unfold Wn
 rw [Za h.len]
 cases hf : rs.all ZjA
 ·rw [hf] at e
  rw [Kz e];rfl
 ·rw [hf] at e
  rw [QR e,ZK,J8,Za h.len,Za Jc]
  simp [ret,decide_eq_decide]
  omega
theorem ZA3 (h : GlH H) : R (n+1) Yh [] H=some (.bool true,H):=by
 have : R (n+1) Yh []=ZhR gl (.bool true) []:=rfl
 rw [this,ZCC h]
theorem ZBJ (hG : GlH H) (h : Zgm H sl rs) (hn : rs.length≤9223372036854775807) : ∃ H',R (n+20) ZaE [sl] H=some (.bool true,H'):=by
 obtain ⟨H1,e1,k1⟩:=ZEl (n:=n+18) h hn
 have e1 : R (n+19) Zba [sl] H=_:=e1
 have e0 : ∀ Z,GlH Z→R (n+19) Yh [] Z=some (.bool true,Z):=fun Z hZ=>ZA3 (n:=n+18) hZ
 rw [R,Zi2 rfl]
 unfold QK
 rw [Za (e0 H hG),Za ZQ,Bool.not_true,Ql,Zl,Za e1,Zl,Za ZQ,QF,ZV,Za Zm]
 simp only [cond_false]
 cases hf : rs.all ZjA && decide (rs.length≤60) with
 | false=>
  rw [Zb,if_pos (show (!false)=true from rfl),Za (e0 H1 (hG.le k1))]
  exact ⟨H1,rfl⟩
 | true=>
  rw [Bool.and_eq_true,decide_eq_true_iff] at hf
  obtain ⟨p,H2,e2,ho,k2,o2,c2⟩:=ZEX (n:=n+17) (X:=H1)
  have e2 : R (n+19) ZcK [.int .i64 3] H1=_:=e2
  obtain ⟨H3,e3⟩:=ZAf (n:=n) hG h hf.1 hf.2 rs.length 0 p (.old []) Zli [0,0,0] H2 (by omega) (by omega) (k1.trans k2) ho (fun j hj=>Nat.le_trans k1.len (o2 j hj)) (by omega)
  have e3 : Zi (c4 (QK.l1 (R (n+19)))) [pt p.h,sl,iv rs.length,.int .i64 0] H2=_:=e3
  rw [Zb,if_neg (by simp),Za e2,Za h.len,QR e3,ZK]
  exact ⟨H3,rfl⟩
abbrev opT : Ty:=.struct (.pair (.int .u8) (.pair .str (.pair .str (.pair (.int .u8) (.pair (.int .u8) .unit)))))
abbrev reqT : Ty:=.struct (.pair (.int .u8) (.pair (.int .u64) (.pair opT .unit)))
theorem ZiY {q : IntKind} {z : Int} (hz : 0≤z) : Value.int q z=Value.int q (z.toNat : Nat):=by rw [Int.toNat_of_nonneg hz]
theorem ZET {x : reqT.den} {H : Zd} {cs : List Value} (hw : reqT.wf x) (h : Rd reqT x H cs) : ∃ r : Zdf,cs=r.cells∧Zna r:=by
 obtain ⟨cl,num,⟨kd,a,b,nd,rl,u1⟩,u2⟩:=x
 obtain ⟨h1,h2,⟨h3,h4,h5,h6,h7,h8⟩,h9⟩:=h
 obtain ⟨w1,w2,⟨w3,w4,w5,w6,w7,_⟩,_⟩:=hw
 have h1 : cs.take 1=[.int .u8 cl]:=h1
 have h2 : (cs.drop 1).take 1=[.int .u64 num]:=h2
 have h3 : (((cs.drop 1).drop 1).take 5).take 1=[.int .u8 kd]:=h3
 have h4 : ((((cs.drop 1).drop 1).take 5).drop 1).take 1=[.string a]:=h4
 have h5 : (((((cs.drop 1).drop 1).take 5).drop 1).drop 1).take 1=[.string b]:=h5
 have h6 : ((((((cs.drop 1).drop 1).take 5).drop 1).drop 1).drop 1).take 1=[.int .u8 nd]:=h6
 have h7 : (((((((cs.drop 1).drop 1).take 5).drop 1).drop 1).drop 1).drop 1).take 1=[.int .u8 rl]:=h7
 have h9 : ((cs.drop 1).drop 1).drop 5=[]:=h9
 match cs,h1,h2,h3,h4,h5,h6,h7,h9 with
 | [c1,c2,c3,c4,c5,c6,c7],h1,h2,h3,h4,h5,h6,h7,_=>
  have w1:=Zup w1
  have w3:=Zup w3
  have w6:=Zup w6
  have w7:=Zup w7
  have w2:=ZEB w2
  have e1 : c1=.int .u8 cl:=by simpa using h1
  have e2 : c2=.int .u64 num:=by simpa using h2
  have e3 : c3=.int .u8 kd:=by simpa using h3
  have e4 : c4=.string a:=by simpa using h4
  have e5 : c5=.string b:=by simpa using h5
  have e6 : c6=.int .u8 nd:=by simpa using h6
  have e7 : c7=.int .u8 rl:=by simpa using h7
  refine ⟨⟨Int.toNat cl,Int.toNat num,⟨Int.toNat kd,(ByteArray.data a).toList,(ByteArray.data b).toList,Int.toNat nd,Int.toNat rl⟩⟩,?_,?_⟩
  ·rw [e1,e2,e3,e4,e5,e6,e7,ZiY w1.1,ZiY w2.1,ZiY w3.1,ZiY w6.1,ZiY w7.1,Zxq a,Zxq b]
   rfl
  ·have k8 : ∀ z : Int,0≤z∧z≤255→z.toNat≤255:=fun z hz=>by omega
   have k64 : ∀ z : Int,0≤z∧z≤18446744073709551615→z.toNat < 18446744073709551616:=fun z hz=>by omega
   exact ⟨k8 cl w1,k64 num w2,⟨k8 kd w3,k8 nd w6,k8 rl w7⟩⟩
theorem ZDv {x : (Ty.slc reqT).den} {H : Zd} {v : Value} (hwf : (Ty.slc reqT).wf x) (h : Rd (.slc reqT) x H [v]) : ∃ rs,Zgm H v rs∧rs.length≤9223372036854775807:=by
 obtain ⟨rows,h1,h2,h3,h4⟩:=ZDy hwf h
 obtain ⟨rs,h5,h6⟩:=Zqu (f:=Zdf.cells) (Q:=fun _ a=>Zna a) (rows:=rows) fun r hr=>by
  obtain ⟨y,hy,hr⟩:=h2 r hr
  exact ZET hy hr
 subst h5
 exact ⟨rs,⟨h1,h6⟩,by simpa using h3⟩
theorem law_HostVersions : ∀ (xs : Ins [.slc reqT]) (H : Zd) (vs : List Value),Zuo [.slc reqT] xs→H.take gl.length=gl→Zh7 [.slc reqT] xs H vs→∃ n H',R n ZaE vs H=some (.bool true,H'):=by
 intro xs H vs hwf hg hrd
 obtain ⟨l,_⟩:=xs
 obtain ⟨hl,_⟩:=hwf
 obtain ⟨c1,_,rfl,hc1,h1,rfl⟩:=hrd
 obtain ⟨a,rfl⟩ : ∃ a,c1=[a]:=by
  match c1,hc1 with
  | [a],_=>exact ⟨a,rfl⟩
 obtain ⟨rs,hA,hn⟩:=ZDv hl h1
 obtain ⟨H',e⟩:=ZBJ (n:=0) hg hA hn
 exact ⟨20,H',e⟩
end Go.Proofs.YtgfbgfafajiehaaGreatDoor.A

