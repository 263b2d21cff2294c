/- What the law FolioReads needs (part 5). -/
import Derived.Test.YtedkoimihknggaaGreatDoorZFolioReads4
namespace Go.Proofs.YtedkoimihknggaaGreatDoor.A
set_option linter.unusedVariables false
set_option linter.unusedSimpArgs false
open Go.Proofs Go.Proofs.YtedkoimihknggaaGreatDoor
def le (x : Nat) : Nat→List UInt8
 | 0=>[]
 | k+1=>UInt8.ofNat (x % 256) :: le (x / 256) k
theorem Zal : ∀ {k x : Nat},(le x k).length=k
 | 0,_=>rfl
 | k+1,x=>by unfold le;rw [List.length_cons,Zal]
def txt (s : List UInt8) : List UInt8:=le s.length 2++s
theorem ZvC (a b : List UInt8) : u8s (a++b)=u8s a++u8s b:=by simp [u8s]
section
variable {H X : Zc} {n p : Nat} {sl x v : Value} {vs ws : List Value} {own : List Nat} {bs s : List UInt8}
theorem Zq.addN {b : Nat} (h : Zq H sl vs own) (hf : Qj 1 H x=some ws) (hn : A.flen x=ws.length) (hb : (vs.length+ws.length) * b≤140737488355328) (hb0 : vs.length+ws.length≤140737488355328) :
  ∃ sl' H' own',app 1 b sl x H=some (sl',H')∧Zq H' sl' (vs++ws) own'∧Zw own H own' H':=by
 by_cases h0 : ws.length=0
 ·have hw : ws=[]:=List.eq_nil_of_length_eq_zero h0
  subst hw
  refine ⟨sl,H,own,?_,by simpa using h,.refl _ _⟩
  rcases h with ⟨rfl,rfl,rfl⟩ | ⟨sid,rest,gr,rfl,rfl,hid⟩
  ·unfold app
   rw [hf]
   simp [hn]
  ·unfold app
   rw [hf]
   simp [hn,hid]
 rcases h with ⟨rfl,rfl,rfl⟩ | ⟨sid,rest,gr,rfl,rfl,hid⟩
 ·refine ⟨_,H++[.cells ws 1 true false],[H.length],?_,.inr ⟨H.length,[],true,rfl,rfl,by simp⟩,⟨by simp,fun j hj _=>List.getElem?_append_left hj,by simp⟩⟩
  unfold app
  rw [hf]
  simp only [hn]
  simp only [List.length_nil,Nat.zero_add] at hb hb0
  rw [if_neg h0,if_pos ⟨hb0,hb⟩]
  simp
 ·have hlt:=Z6 hid
  by_cases hc : ws.length≤rest.length
  ·have hsp : splice (vs++rest) ws vs.length=vs++(ws++rest.drop ws.length):=by
    unfold splice
    rw [List.take_left,List.drop_append,List.drop_eq_nil_of_le (by omega),List.nil_append,Nat.add_sub_cancel_left,List.append_assoc]
   have hset : (H.set sid (.cells (vs++(ws++rest.drop ws.length)) 1 gr false))[sid]?=some (.cells (vs++(ws++rest.drop ws.length)) 1 gr false):=ZT hid
   refine ⟨.slice (some ⟨sid,0,none⟩) (vs.length+ws.length) (vs.length+rest.length),H.set sid (.cells (vs++(ws++rest.drop ws.length)) 1 gr false),[sid],?_,.inr ⟨sid,rest.drop ws.length,gr,?_,rfl,by rw [hset,List.append_assoc]⟩,⟨by simp,fun j hj hn=>List.getElem?_set_ne (fun e=>hn (by simp [e])),by simp⟩⟩
   ·unfold app
    rw [hf]
    simp only [hn,hid,if_true,Nat.mul_one,Nat.zero_add]
    rw [if_pos (by omega),if_neg h0,if_pos ⟨trivial,by rw [List.length_append];omega⟩,hsp]
   ·rw [List.length_append,List.length_drop]
    congr 1;omega
  ·have hold : ((vs++rest).drop 0).take vs.length=vs:=by rw [List.drop_zero,List.take_left]
   have happ : app 1 b (.slice (some ⟨sid,0,none⟩) vs.length (vs.length+rest.length)) x H=some (.slice (some ⟨H.length,0,none⟩) (vs.length+ws.length) (vs.length+ws.length),(bif gr then H.set sid (.view vs 1 H.length) else H)++[.cells (vs++ws) 1 true false]):=by
    unfold app
    rw [hf]
    simp only [hn,hid,if_true,Nat.mul_one,Nat.zero_add]
    rw [if_neg (by omega),if_pos ⟨by simp,by rw [List.length_append];omega,hb0,hb⟩,hold]
    rfl
   have hnew : ((bif gr then H.set sid (.view vs 1 H.length) else H)++[.cells (vs++ws) 1 true false])[H.length]?=some (.cells (vs++ws) 1 true false):=by
    rw [List.getElem?_append_right (by cases gr <;> simp)]
    cases gr <;> simp
   refine ⟨_,_,[H.length],happ,.inr ⟨H.length,[],true,by simp,rfl,by rw [hnew,List.append_nil]⟩,⟨?_,fun j hj hn=>?_,by simp⟩⟩
   ·cases gr <;> simp
   ·rw [List.getElem?_append_left (by cases gr <;> simpa using hj)]
    cases gr
    ·rfl
    ·exact List.getElem?_set_ne (fun e=>hn (by simp [e]))
structure Wtr (H : Zc) (p : Nat) (bs : List UInt8) (own : List Nat) : Prop where
 o : ∃ sl,H[p]?=some (.cells [sl] 1 false false)∧Zq H sl (u8s bs) own
 ne : p∉own
theorem Wtr.lt (h : Wtr H p bs own) : ∀ j∈p :: own,j < H.length:=by
 obtain ⟨sl,hc,hr⟩:=h.o
 intro j hj
 rcases List.mem_cons.1 hj with rfl | hj
 ·exact Z6 hc
 ·exact hr.lt j hj
theorem Wtr.keep (h : Wtr H p bs own) (hk : ∀ j∈p :: own,X[j]?=H[j]?) : Wtr X p bs own:=by
 obtain ⟨sl,hc,hr⟩:=h.o
 exact ⟨⟨sl,by rw [hk p (by simp)];exact hc,hr.keep fun j hj=>hk j (by simp [hj])⟩,h.ne⟩
theorem Wtr.step {o1 o2 : List Nat} (h : Wtr H p bs own) (hs : Zw o1 H o2 X) (hn : ∀ j∈p :: own,j∉o1) : Wtr X p bs own:=
 h.keep fun j hj=>hs.keep j (h.lt j hj) (hn j hj)
theorem Wtr.hle (h : Wtr H p bs own) (hl : HLe H X) : Wtr X p bs own:=h.step hl.step (by simp)
theorem Wtr.put {own' : List Nat} {bs' : List UInt8} (h : Wtr H p bs own) (hr : Zq X sl (u8s bs') own') (hs : Zw own H own' X) : ∃ X',st1 (pt p) sl X=some (undef,X')∧Wtr X' p bs' own'∧Zw (p :: own) H (p :: own') X':=by
 obtain ⟨sl0,hc,hr0⟩:=h.o
 have hc1 : X[p]?=some (.cells [sl0] 1 false false):=hs.get hc h.ne
 have hne : p∉own':=fun hm=>by
  rcases hs.own p hm with h1 | h1
  ·exact h.ne h1
  ·have:=Z6 hc;omega
 have e1 : st1 (pt p) sl X=some (undef,X.set p (.cells [sl] 1 false false)):=ZaH (o:=0) hc1 (by simp) hr.one.1
 refine ⟨_,e1,⟨⟨sl,ZT hc1,hr.keep fun j hj=>List.getElem?_set_ne (fun e=>hne (by rw [e];exact hj))⟩,hne⟩,?_⟩
 have s1 : Zw [p] X [p] (X.set p (.cells [sl] 1 false false)):=⟨by simp,fun j hj hn=>List.getElem?_set_ne (fun e=>hn (by simp [e])),fun j hj=>.inl hj⟩
 refine (hs.more (o2:=p :: own) (o2':=p :: own') (by simp+contextual) ?_).trans (s1.more (by simp) (fun j hj=>.inl hj))
 intro j hj
 rcases List.mem_cons.1 hj with rfl | hj
 ·exact .inl (by simp)
 ·exact .inr (.inl hj)
theorem Zr4 (x : Nat) : ((UInt8.ofNat (x % 256)).toNat : Int)=(x : Int) % 256:=by
 rw [UInt8.toNat_ofNat']
 omega
theorem Zsq {N : Nat} (hN : N≤1000) : ∀ (t k x : Nat) (bs : List UInt8) (own : List Nat) (H : Zc),N - k=t→k≤N→x < 18446744073709551616→bs.length+t≤1000000000000→Wtr H p bs own→
  ∃ H' own',Zk (c4 (JV.l1 (R n))) [pt p,.int .u64 x,iv N,iv k] H=some (.ext 0 [pt p],H')∧Wtr H' p (bs++le x t) own'∧Zw (p :: own) H (p :: own') H'
 | 0,k,x,bs,own,H,ht,hk,hx,hb,h=>by
  have : k=N:=by omega
  subst this
  refine ⟨H,own,ZI ?_,by simpa [le] using h,.refl _ _⟩
  rw [ZB]
  unfold JV.l1
  rw [Za Zg,Zb,if_neg (by simp)]
  rfl
 | t+1,k,x,bs,own,H,ht,hk,hx,hb,h=>by
  have hlt : (k : Int) < N:=by omega
  obtain ⟨sl,hc,hr⟩:=h.o
  have e1 : bsl 1 1 (.int .u8 0) [(0,1,.int .u8 ((UInt8.ofNat (x % 256)).toNat))] H=some (.slice (some ⟨H.length,0,none⟩) 1 1,H++[.cells [.int .u8 ((UInt8.ofNat (x % 256)).toNat)] 1 false false]):=Zrp rfl rfl rfl
  have k1 : HLe H (H++[Zd.cells [.int .u8 ((UInt8.ofNat (x % 256)).toNat)] 1 false false]):=.app _ _
  have s1 : Sl (H++[Zd.cells [.int .u8 ((UInt8.ofNat (x % 256)).toNat)] 1 false false]) (.slice (some ⟨H.length,0,none⟩) 1 1) [.int .u8 ((UInt8.ofNat (x % 256)).toNat)]:=Sl.one (vs:=[.int .u8 ((UInt8.ofNat (x % 256)).toNat)]) Zx
  generalize H++[Zd.cells [.int .u8 ((UInt8.ofNat (x % 256)).toNat)] 1 false false]=X1 at e1 k1 s1
  have h1:=h.hle k1
  have hr1 : Zq X1 sl (u8s bs) own:=hr.step k1.step (by simp)
  have hl : (u8s bs).length=bs.length:=QE bs
  obtain ⟨sl',X2,own',e2,r2,st2,_⟩:=hr1.push (b:=1) s1 (by omega) (by omega)
  rw [show u8s bs++[.int .u8 ((UInt8.ofNat (x % 256)).toNat)]=u8s (bs++[UInt8.ofNat (x % 256)]) from by simp [u8s]] at r2
  obtain ⟨X3,e3,w3,st3⟩:=h1.put r2 st2
  have hx2 : x / 256 < 18446744073709551616:=by omega
  obtain ⟨H',own2,e4,w4,st4⟩:=Zsq hN t (k+1) (x / 256) (bs++[UInt8.ofNat (x % 256)]) own' X3 (by omega) (by omega) hx2 (by rw [List.length_append,List.length_singleton];omega) w3
  have c1 : cvi .u8 (.int .u64 x) H=some (.int .u8 ((UInt8.ofNat (x % 256)).toNat),H):=by rw [Ql,wu8,Zr4]
  have c2 : ∀ Y,bop .int .shr (.int .u64 x) (.int .u64 8) Y=some (.int .u64 ((x / 256 : Nat) : Int),Y):=fun Y=>by
   rw [ZwS,if_neg (by decide)]
   congr 3
   rw [show (2 : Int) ^ min (8 : Int).toNat IntKind.u64.bits=256 from rfl]
   rw [Int.fdiv_eq_ediv_of_nonneg _ (by decide)]
   omega
  have c3 : ld1 (pt p) H=some (sl,H):=Zgj hc
  refine ⟨H',own2,(Zu ?_).trans e4,?_,(k1.step.more (by simp) (fun j hj=>.inl hj)).trans (st3.trans st4)⟩
  ·rw [ZB]
   unfold JV.l1
   rw [Za Zg,Zb,if_pos (by simpa using hlt),Za Zs,Za Zi,Za c3,Za c1,Za e1,Za e2,Za Zs,Za Zi,Za e3,Za (c2 _),Za Zt,Qm (by omega)]
   rfl
  ·rw [List.append_assoc] at w4
   exact w4
theorem Zss {N x : Nat} (hN : N≤1000) (hx : x < 18446744073709551616) (hb : bs.length+N≤1000000000000) (h : Wtr H p bs own) : ∃ H' own',R (n+1) YJ [pt p,.int .u64 x,iv N] H=some (pt p,H')∧Wtr H' p (bs++le x N) own'∧Zw (p :: own) H (p :: own') H':=by
 obtain ⟨H',own',e,w,s⟩:=Zsq (n:=n) hN N 0 x bs own H (by omega) (by omega) hx hb h
 have e : Zk (c4 (JV.l1 (R n))) [pt p,.int .u64 x,iv N,.int .i64 0] H=_:=e
 refine ⟨H',own',?_,w,s⟩
 rw [R,Zil rfl]
 unfold JV
 rw [ZS e,Zv]
 rfl
theorem ZqR {x : Nat} (hx : x < 256) (hb : bs.length≤100000000000) (h : Wtr H p bs own) : ∃ H' own',R (n+2) Jv [pt p,.int .u8 x] H=some (pt p,H')∧Wtr H' p (bs++le x 1) own'∧Zw (p :: own) H (p :: own') H':=by
 obtain ⟨H',own',e,w,s⟩:=Zss (n:=n) (N:=1) (x:=x) (by omega) (by omega) (by omega) h
 have e : R (n+1) YJ [pt p,.int .u64 x,.int .i64 1] H=_:=e
 have c1 : cvi .u64 (.int .u8 x) H=some (.int .u64 x,H):=by rw [Ql,Zer,Int.emod_eq_of_lt (by omega) (by omega)]
 refine ⟨H',own',?_,w,s⟩
 rw [R,Zg1 rfl]
 unfold Zbf
 rw [Za c1,Za e]
 rfl
theorem Zn8 {x : Nat} (hx : x < 65536) (hb : bs.length≤100000000000) (h : Wtr H p bs own) : ∃ H' own',R (n+2) Yj [pt p,.int .u16 x] H=some (pt p,H')∧Wtr H' p (bs++le x 2) own'∧Zw (p :: own) H (p :: own') H':=by
 obtain ⟨H',own',e,w,s⟩:=Zss (n:=n) (N:=2) (x:=x) (by omega) (by omega) (by omega) h
 have e : R (n+1) YJ [pt p,.int .u64 x,.int .i64 2] H=_:=e
 have c1 : cvi .u64 (.int .u16 x) H=some (.int .u64 x,H):=by rw [Ql,Zer,Int.emod_eq_of_lt (by omega) (by omega)]
 refine ⟨H',own',?_,w,s⟩
 rw [R,ZhT rfl]
 unfold ZbE
 rw [Za c1,Za e]
 rfl
theorem Zq9 (n : Int) : IntKind.u16.wrap n=n % 65536:=by simp [IntKind.wrap,IntKind.bits,IntKind.signed]
theorem ZwG : Qj 1 H (strv s)=some (u8s s):=by
 unfold strv Qj
 rfl
theorem Zux : A.flen (strv s)=(u8s s).length:=by
 rw [QE]
 unfold strv A.flen
 exact Zl4
theorem ZiT (hs : s.length≤65535) (hb : bs.length≤1000000000) (h : Wtr H p bs own) : ∃ H' own',R (n+3) Jc [pt p,strv s] H=some (pt p,H')∧Wtr H' p (bs++txt s) own'∧Zw (p :: own) H (p :: own') H':=by
 obtain ⟨H1,q1,e1,w1,s1⟩:=Zn8 (n:=n) (x:=s.length) (by omega) (by omega) h
 obtain ⟨sl,hc,hr⟩:=w1.o
 have hl2 : (u8s (bs++le s.length 2)).length=bs.length+2:=by rw [QE,List.length_append,Zal]
 have hl3 : (u8s s).length=s.length:=QE s
 obtain ⟨sl',H2,q2,e2,r2,s2⟩:=hr.addN (b:=1) (x:=strv s) ZwG Zux (by omega) (by omega)
 rw [← ZvC,List.append_assoc] at r2
 obtain ⟨H3,e3,w3,s3⟩:=w1.put r2 s2
 have c0 : mxi false (iv s.length) (.int .i64 65535) H=some (iv s.length,H):=by rw [Ye,if_neg (by omega)]
 have c1 : sls (strv s) none (some (iv s.length)) H=some (strv s,H):=by
  have:=Zk0 (s:=s) (k:=s.length) (H:=H) (Nat.le_refl _)
  rwa [List.take_length] at this
 have c2 : cvi .u16 (iv s.length) H=some (.int .u16 s.length,H):=by rw [Ql,Zq9,Int.emod_eq_of_lt (by omega) (by omega)]
 have c3 : ld1 (pt p) H1=some (sl,H1):=Zgj hc
 refine ⟨H3,q2,?_,w3,s1.trans s3⟩
 rw [R,Zhb rfl]
 unfold Zbj
 rw [Za ZD,Za c0,Za c1,Za ZD,Za c2,Za e1,Za Zs,Za Zi,Za c3,Za e2,Za Zs,Za Zi,Za e3]
 rfl
theorem ZqN {b : Value} {bs : List UInt8} (hb : Sl H b (u8s bs)) (hp : bs.length≤140737488355328) :
  ∃ v q H',R (n+1) ZaO [b] H=some (v,H')∧Zq H' v (u8s bs) q∧HLe H H'∧∀ j∈q,H.length≤j:=by
 rw [R,ZlM rfl]
 rcases hb.isnil (H':=H) with ⟨rfl,hp0,e⟩ | e
 ·refine ⟨.slice none 0 0,[],H,?_,by rw [hp0];exact Zq.nil,.refl _,by simp⟩
  unfold Zcd
  rw [Za e]
  rfl
 ·have hb2 : Sl (H++[.cells [] 1 false false]) b (u8s bs):=hb.mono (.app _ _)
  obtain ⟨sl',H',own',e2,hr,hle,ho⟩:=ZsR (b:=1) hb2 (by rw [QE];omega) (by rw [QE];omega) (s:=.slice (some ⟨H.length,0,none⟩) 0 0) (.inr ⟨H.length,false,rfl,Zx,rfl⟩)
  refine ⟨sl',own',H',?_,hr,(HLe.app _ _).trans hle,fun j hj=>?_⟩
  ·unfold Zcd
   rw [Za e,Zb,if_neg (by simp),Za Zwn,Za e2]
   rfl
  ·rcases ho j hj with h | ⟨_,h⟩
   ·simp at h;omega
   ·cases h;exact Nat.le_refl _
theorem Zud (hb : bs.length≤1000000000) (h : Wtr H p bs own) : ∃ v q H',R (n+2) Ky [pt p] H=some (v,H')∧Zq H' v (u8s bs) q∧HLe H H'∧∀ j∈q,H.length≤j:=by
 obtain ⟨sl,hc,hr⟩:=h.o
 obtain ⟨v,q,H',e,r,l,o⟩:=ZqN (n:=n) hr.rd (by omega)
 refine ⟨v,q,H',?_,r,l,o⟩
 rw [R,Zgy rfl]
 unfold ZaY
 rw [Za Zs,Za Zi,Za (Zgj hc),Za e]
 rfl
theorem Zvi : bld (.agg #[.slice none 0 0]) [] H=some (.agg #[.slice none 0 0],H)∧alc 1 (.agg #[.slice none 0 0]) H=some (pt H.length,H++[.cells [.slice none 0 0] 1 false false])∧Wtr (H++[.cells [.slice none 0 0] 1 false false]) H.length [] []:=
 ⟨rfl,rfl,⟨⟨.slice none 0 0,Zx,Zq.nil⟩,by simp⟩⟩
end
end Go.Proofs.YtedkoimihknggaaGreatDoor.A
namespace Go.Proofs.YtedkoimihknggaaGreatDoor.A
set_option linter.unusedVariables false
set_option linter.unusedSimpArgs false
open Go.Proofs Go.Proofs.YtedkoimihknggaaGreatDoor
abbrev RSt:=Nat × List UInt8
def leN : List UInt8→Nat
 | []=>0
 | b :: l=>b.toNat+256 * leN l
def QS (e : Nat) (s : RSt) : RSt:=if s.1=0∧e≠0 then (e,[]) else s
def tkS (n : Nat) (s : RSt) : List UInt8 × RSt:=if n≤s.2.length then (s.2.take n,(s.1,s.2.drop n)) else ([],QS 2 s)
def Z4 (k : Nat) (s : RSt) : Nat × RSt:=(leN (tkS k s).1,(tkS k s).2)
def Qn (most : Nat) (s : RSt) : Nat × RSt:=if (Z4 2 s).1 > most then (0,QS 3 (Z4 2 s).2) else Z4 2 s
def Qs (most : Nat) (s : RSt) : List UInt8 × RSt:=tkS (Qn most s).1 (Qn most s).2
def RB (H : Zc) (sl : Value) (bs : List UInt8) : Prop:=
 (bs=[]∧(sl=.slice none 0 0∨∃ id o j,sl=.slice (some ⟨id,o,some j⟩) 0 0))∨
 ∃ id o c cs g ro,sl=.slice (some ⟨id,o,none⟩) bs.length c∧bs.length≤c∧H[id]?=some (.cells cs 1 g ro)∧o+bs.length≤cs.length∧(cs.drop o).take bs.length=u8s bs
def Rdr (H : Zc) (p : Nat) (s : RSt) : Prop:=
 ∃ sl,H[p]?=some (.cells [sl,iv s.1] 1 false false)∧RB H sl s.2∧(∀ j,own1 sl=some j→j < p)∧(s.1≠0→s.2=[])
theorem Zlu : ∀ (l : List UInt8),leN l < 256 ^ l.length
 | []=>by decide
 | b :: l=>by
  have h1:=Zlu l
  have h2 : b.toNat < 256:=b.toNat_lt
  rw [List.length_cons,Nat.pow_succ]
  unfold leN
  omega
theorem ZjR : ∀ (l : List UInt8) (b : UInt8),leN (l++[b])=leN l+b.toNat * 2 ^ (8 * l.length)
 | [],b=>by simp [leN]
 | a :: l,b=>by
  rw [List.cons_append]
  unfold leN
  rw [ZjR l b,List.length_cons,Nat.mul_add,show 8 * (l.length+1)=8 * l.length+8 by omega,Nat.pow_add]
  have : 256 * (b.toNat * 2 ^ (8 * l.length))=b.toNat * (2 ^ (8 * l.length) * 2 ^ 8):=by
   rw [← Nat.mul_assoc,Nat.mul_comm 256,Nat.mul_assoc,Nat.mul_comm 256]
  omega
section
variable {H X : Zc} {n p : Nat} {sl x v : Value} {vs ws : List Value} {own : List Nat} {bs : List UInt8} {s : RSt}
theorem RB.rd (h : RB H sl bs) : Sl H sl (u8s bs):=by
 rcases h with ⟨rfl,rfl | ⟨id,o,j,rfl⟩⟩ | ⟨id,o,c,cs,g,ro,rfl,h1,h2,h3,h4⟩
 ·exact Sl.nil
 ·exact ⟨_,_,rfl,(fun e=>by cases e),rfl⟩
 ·refine ⟨_,c,by rw [QE],(fun e=>by cases e),?_⟩
  unfold Qj
  simp only [h2,Nat.mul_one]
  rw [if_pos h3,h4]
theorem RB.one (h : RB H sl bs) : oneCell sl=true:=by
 rcases h with ⟨rfl,rfl | ⟨id,o,j,rfl⟩⟩ | ⟨id,o,c,cs,g,ro,rfl,_⟩ <;> rfl
theorem RB.keep (h : RB H sl bs) (hk : ∀ j,own1 sl=some j→X[j]?=H[j]?) : RB X sl bs:=by
 rcases h with h | ⟨id,o,c,cs,g,ro,rfl,h1,h2,h3,h4⟩
 ·exact .inl h
 ·exact .inr ⟨id,o,c,cs,g,ro,rfl,h1,by rw [hk id rfl];exact h2,h3,h4⟩
theorem Zq.rb {q : List Nat} (h : Zq H sl (u8s bs) q) : RB H sl bs:=by
 rcases h with ⟨h1,rfl,rfl⟩ | ⟨sid,rest,g,rfl,rfl,hid⟩
 ·refine .inl ⟨?_,.inl rfl⟩
  cases bs with
  | nil=>rfl
  | cons b l=>simp [u8s] at h1
 ·refine .inr ⟨sid,0,_,_,g,false,by rw [QE],by first | omega | (rw [QE];omega),hid,?_,?_⟩
  ·rw [List.length_append,QE];omega
  ·rw [List.drop_zero,← QE bs,List.take_left]
theorem RB.cut (h : RB H sl bs) {k : Nat} (hk : k≤bs.length) : ∃ a b,slv 1 sl none (some (iv k)) none H=some (a,H)∧slv 1 sl (some (iv k)) none none H=some (b,H)∧RB H a (bs.take k)∧RB H b (bs.drop k)∧(∀ j,own1 a=some j→own1 sl=some j)∧(∀ j,own1 b=some j→own1 sl=some j):=by
 have b1 : ∀ d,bnd (some (iv k)) d=some k:=fun d=>by simp [bnd]
 have b2 : ∀ d,bnd none d=some d:=fun _=>rfl
 rcases h with ⟨rfl,h⟩ | ⟨id,o,c,cs,g,ro,rfl,h1,h2,h3,h4⟩
 ·have hk0 : k=0:=by simpa using hk
  subst hk0
  rcases h with rfl | ⟨id,o,j,rfl⟩
  ·exact ⟨_,_,rfl,rfl,.inl ⟨rfl,.inl rfl⟩,.inl ⟨rfl,.inl rfl⟩,fun _ h=>h,fun _ h=>h⟩
  ·exact ⟨_,_,rfl,rfl,.inl ⟨rfl,.inr ⟨_,_,_,rfl⟩⟩,.inl ⟨rfl,.inr ⟨_,_,_,rfl⟩⟩,fun _ h=>h,fun _ h=>h⟩
 ·have hA : ∃ a,slv 1 (.slice (some ⟨id,o,none⟩) bs.length c) none (some (iv k)) none H=some (a,H)∧RB H a (bs.take k)∧(∀ j,own1 a=some j→some id=some j):=by
   by_cases h0 : c=0
   ·have hb : bs=[]:=List.eq_nil_of_length_eq_zero (by omega)
    subst hb
    refine ⟨.slice (some ⟨id,o,some (bif g then 1 else 0)⟩) 0 0,?_,.inl ⟨List.take_nil,.inr ⟨_,_,_,rfl⟩⟩,fun j h=>by cases h⟩
    have hk0 : k=0:=by simpa using hk
    subst hk0
    simp only [slv,h2,b1,b2]
    rw [if_pos ⟨trivial,by omega,by omega,Nat.le_refl _⟩,if_pos (by omega)]
   ·have hl : (bs.take k).length=k:=by simp;omega
    refine ⟨.slice (some ⟨id,o,none⟩) k c,?_,.inr ⟨id,o,c,cs,g,ro,by rw [hl],by omega,h2,by omega,?_⟩,fun j h=>h⟩
    ·simp only [slv,h2,b1,b2]
     rw [if_pos ⟨trivial,by omega,by omega,Nat.le_refl _⟩,if_neg (by omega)]
     simp
    ·have:=congrArg (List.take k) h4
     rw [List.take_take,Nat.min_eq_left hk] at this
     rw [hl,this]
     simp [u8s,List.map_take]
  have hB : ∃ b,slv 1 (.slice (some ⟨id,o,none⟩) bs.length c) (some (iv k)) none none H=some (b,H)∧RB H b (bs.drop k)∧(∀ j,own1 b=some j→some id=some j):=by
   by_cases h0 : c=k
   ·have hb : bs.drop k=[]:=List.drop_eq_nil_of_le (by omega)
    refine ⟨.slice (some ⟨id,o,some (bif g then 1 else 0)⟩) 0 0,?_,.inl ⟨hb,.inr ⟨_,_,_,rfl⟩⟩,fun j h=>by cases h⟩
    simp only [slv,h2,b1,b2]
    rw [if_pos ⟨trivial,by omega,by omega,Nat.le_refl _⟩,if_pos (by omega)]
   ·have hl : (bs.drop k).length=bs.length - k:=by simp
    refine ⟨.slice (some ⟨id,o+k,none⟩) (bs.length - k) (c - k),?_,.inr ⟨id,o+k,c - k,cs,g,ro,by rw [hl],by omega,h2,by omega,?_⟩,fun j h=>h⟩
    ·simp only [slv,h2,b1,b2]
     rw [if_pos ⟨trivial,by omega,by omega,Nat.le_refl _⟩,if_neg (by omega)]
     simp
    ·have:=congrArg (List.drop k) h4
     rw [List.drop_take,List.drop_drop] at this
     rw [hl,this]
     simp [u8s,List.map_drop]
  obtain ⟨a,a1,a2,a3⟩:=hA
  obtain ⟨b,c1,c2,c3⟩:=hB
  exact ⟨a,b,a1,c1,a2,c2,a3,c3⟩
theorem Rdr.lt (h : Rdr H p s) : p < H.length:=by
 obtain ⟨sl,hc,_⟩:=h
 exact Z6 hc
theorem Rdr.other {a : Nat} {o : Zd} (h : Rdr H p s) (ha : p < a) : Rdr (H.set a o) p s:=by
 obtain ⟨sl,h1,h2,h3,h4⟩:=h
 exact ⟨sl,(List.getElem?_set_ne (by omega)).trans h1,h2.keep fun j hj=>List.getElem?_set_ne (by have:=h3 j hj;omega),h3,h4⟩
theorem Rdr.hle (h : Rdr H p s) (hl : HLe H X) : Rdr X p s:=by
 obtain ⟨sl,hc,hr,hn,h0⟩:=h
 refine ⟨sl,hl _ _ hc,hr.keep fun j hj=>?_,hn,h0⟩
 rcases hr with ⟨_,rfl | ⟨id,o,k,rfl⟩⟩ | ⟨id,o,c,cs,g,ro,rfl,h1,h2,h3,h4⟩
 ·cases hj
 ·cases hj
 ·cases hj
  rw [h2,hl _ _ h2]
theorem Rdr.put {s' : RSt} {sl' : Value} (hc : H[p]?=some (.cells [x,v] 1 false false)) (hr : RB H sl' s'.2) (hn : ∀ j,own1 sl'=some j→j < p) (h0 : s'.1≠0→s'.2=[]) : Rdr (H.set p (.cells [sl',iv s'.1] 1 false false)) p s'∧Zw [p] H [p] (H.set p (.cells [sl',iv s'.1] 1 false false)):=
 ⟨⟨sl',ZT hc,hr.keep fun j hj=>List.getElem?_set_ne (fun e=>by have:=hn j hj;omega),hn,h0⟩,⟨by simp,fun j hj hm=>List.getElem?_set_ne (fun e=>hm (by simp [e])),fun j hj=>.inl hj⟩⟩
theorem Zic {e : Nat} (he : e≤1000) (h : Rdr H p s) : ∃ H',R (n+1) ZX [pt p,iv e] H=some (.tuple #[],H')∧Rdr H' p (QS e s)∧Zw [p] H [p] H':=by
 obtain ⟨sl,hc,hr,hn,h0⟩:=h
 have a1 : ld1 (pa p 1) H=some (iv s.1,H):=ZV hc rfl
 have f1 : ∀ H',Y8 (R n) (pt p) (iv e) H=some (.tuple #[],H')→R (n+1) ZX [pt p,iv e] H=some (.tuple #[],H'):=fun H' hr=>by rw [R,Zhc rfl];exact hr
 unfold QS
 by_cases hs : s.1=0
 ·have q1 : bop .int .eql (iv s.1) (.int .i64 0) H=some (.bool true,H):=by rw [ZJ,hs];rfl
  by_cases he0 : e=0
  ·have q2 : bop .int .neq (iv e) (.int .i64 0) H=some (.bool false,H):=by rw [Zp,he0];rfl
   rw [if_neg (by simp [he0])]
   refine ⟨H,f1 _ ?_,⟨sl,hc,hr,hn,h0⟩,.refl _ _⟩
   unfold Y8
   rw [Za Zs,Za Zi,Za a1,Za q1,ZL,Zf,Za q2,ZO,ZW,Za Zh]
   simp only [cond_true]
   refine (QC (vs:=[]) (H':=H) ?_).trans ?_
   ·rw [Zb,if_neg (by simp)];rfl
   ·rfl
  ·have q2 : bop .int .neq (iv e) (.int .i64 0) H=some (.bool true,H):=by rw [Zp];simp [he0]
   rw [if_pos ⟨hs,he0⟩]
   have w1 : st1 (pa p 0) (.slice none 0 0) H=some (undef,H.set p (.cells [.slice none 0 0,iv s.1] 1 false false)):=ZaH (o:=0) hc (by simp) rfl
   have c1 : (H.set p (.cells [.slice none 0 0,iv s.1] 1 false false))[p]?=some (.cells [.slice none 0 0,iv s.1] 1 false false):=ZT hc
   have w2 : st1 (pa p 1) (iv e) (H.set p (.cells [.slice none 0 0,iv s.1] 1 false false))=some (undef,(H.set p (.cells [.slice none 0 0,iv s.1] 1 false false)).set p (.cells [.slice none 0 0,iv e] 1 false false)):=ZaH (o:=1) c1 (by simp) rfl
   rw [List.set_set] at w2
   have hp:=Rdr.put (s':=(e,[])) (sl':=.slice none 0 0) hc (.inl ⟨rfl,.inl rfl⟩) (by simp [own1]) (fun _=>rfl)
   refine ⟨_,f1 _ ?_,hp.1,hp.2⟩
   unfold Y8
   rw [Za Zs,Za Zi,Za a1,Za q1,ZL,Zf,Za q2,ZO,ZW,Za Zh]
   simp only [cond_true]
   refine (QC (vs:=[]) (H':=H.set p (.cells [.slice none 0 0,iv e] 1 false false)) ?_).trans ?_
   ·rw [Zb,if_pos (by simp),Za Zs,Za Zi,Za w1,Za Zs,Za Zi,Za w2];rfl
   ·rfl
 ·have q1 : bop .int .eql (iv s.1) (.int .i64 0) H=some (.bool false,H):=by rw [ZJ];simp [hs]
  rw [if_neg (by simp [hs])]
  refine ⟨H,f1 _ ?_,⟨sl,hc,hr,hn,h0⟩,.refl _ _⟩
  unfold Y8
  rw [Za Zs,Za Zi,Za a1,Za q1,Za (g_r.trans (if_neg (by simp)))]
  simp only [List.replicate]
  rw [ZW,Za Zh]
  simp only [cond_false]
  refine (QC (vs:=[]) (H':=H) ?_).trans ?_
  ·rw [Zb,if_neg (by simp)];rfl
  ·rfl
theorem Zsv {k : Nat} (hk : k≤1000000000) (h : Rdr H p s) : ∃ v H',R (n+2) Yq [pt p,iv k] H=some (v,H')∧RB H' v (tkS k s).1∧Rdr H' p (tkS k s).2∧Zw [p] H [p] H':=by
 have h':=h
 obtain ⟨sl,hc,hr,hn,h0⟩:=h
 have a1 : ld1 (pa p 0) H=some (sl,H):=ZV hc rfl
 have hl : ZC sl H=some (iv s.2.length,H):=by have:=hr.rd.len (H':=H);rwa [QE] at this
 have f1 : ∀ r H',KN (R (n+1)) (pt p) (iv k) H=some (r,H')→R (n+2) Yq [pt p,iv k] H=some (r,H'):=fun r H' hr=>by rw [R,ZgY rfl];exact hr
 unfold tkS
 by_cases hle : k≤s.2.length
 ·rw [if_pos hle]
  obtain ⟨a,b,e1,e2,ra,rb,oa,ob⟩:=hr.cut hle
  have q1 : bop .int .gtr (iv k) (iv s.2.length) H=some (.bool false,H):=by rw [ZK,decide_eq_false (by omega)]
  have w1 : st1 (pa p 0) b H=some (undef,H.set p (.cells [b,iv s.1] 1 false false)):=ZaH (o:=0) hc (by simp) rb.one
  have hp:=Rdr.put (s':=(s.1,s.2.drop k)) (sl':=b) hc rb (fun j e=>hn j (ob _ e)) (fun h=>by simp [h0 h])
  refine ⟨a,_,f1 _ _ ?_,ra.keep fun j hj=>List.getElem?_set_ne (fun e=>by have:=hn j (oa _ hj);omega),hp.1,hp.2⟩
  unfold KN
  rw [Za Zs,Za Zi,Za a1,Za hl,Za q1,Zb,if_neg (by simp),Za Zs,Za Zi,Za a1,Za e1,Za Zs,Za Zi,Za a1,Za e2,Za Zs,Za Zi,Za w1]
  rfl
 ·rw [if_neg hle]
  have q1 : bop .int .gtr (iv k) (iv s.2.length) H=some (.bool true,H):=by rw [ZK,decide_eq_true (by omega)]
  obtain ⟨H',e2,r2,s2⟩:=Zic (n:=n) (e:=2) (by omega) h'
  have e2 : R (n+1) ZX [pt p,.int .i64 2] H=_:=e2
  refine ⟨.slice none 0 0,H',f1 _ _ ?_,.inl ⟨rfl,.inl rfl⟩,r2,s2⟩
  unfold KN
  rw [Za Zs,Za Zi,Za a1,Za hl,Za q1,Zb,if_pos rfl,Za e2]
  rfl
theorem Zqy {bs : List UInt8} (hb : bs.length≤8) (hs : Sl X v (u8s bs)) : ∀ (t k : Nat),bs.length - k=t→k≤bs.length→
  Zk (c4 (JT.l1 (R n))) [.int .u64 (leN (bs.take k)),v,iv bs.length,iv k] X=some (.ext 0 [.int .u64 (leN bs)],X)
 | 0,k,ht,hk=>by
  have : k=bs.length:=by omega
  subst this
  refine ZI ?_
  rw [ZB,List.take_length]
  unfold JT.l1
  rw [Za Zg,Zb,if_neg (by simp)]
  rfl
 | t+1,k,ht,hk=>by
  have hkl : k < bs.length:=by omega
  have hlt : (k : Int) < bs.length:=by omega
  have hg:=List.getElem?_eq_getElem hkl
  have htk : bs.take (k+1)=bs.take k++[bs[k]]:=(List.take_append_getElem hkl).symm
  generalize bs[k]=b at hg htk
  have hkk : (u8s bs)[k]?=some (.int .u8 b.toNat):=by simp [u8s,hg]
  have x1:=hs.ix (i:=k) (by rw [QE];exact hkl) .i64 X
  have x2:=hs.ldx hkk
  have hb2 : b.toNat < 256:=b.toNat_lt
  have hlen : (bs.take k).length=k:=by simp;omega
  have hpow : 2 ^ (8 * k)≤2 ^ 56:=Nat.pow_le_pow_right (by decide) (by omega)
  have hlt2 : leN (bs.take k) < 2 ^ (8 * k):=by
   have:=Zlu (bs.take k)
   rw [hlen] at this
   rwa [Nat.pow_mul]
  have hprod : b.toNat * 2 ^ (8 * k)≤255 * 2 ^ 56:=Nat.mul_le_mul (by omega) hpow
  have c1 : cvi .u64 (.int .u8 b.toNat) X=some (.int .u64 b.toNat,X):=by rw [Ql,Zer,Int.emod_eq_of_lt (by omega) (by omega)]
  have c2 : bop .int .mul (.int .i64 8) (iv k) X=some (iv ((8 * k : Nat) : Int),X):=by rw [Jq,w64 (by omega) (by omega)];simp
  have c3 : bop .int .shl (.int .u64 b.toNat) (iv ((8 * k : Nat) : Int)) X=some (.int .u64 ((b.toNat * 2 ^ (8 * k) : Nat) : Int),X):=by
   rw [Zxb,if_neg (by omega)]
   have hm : min ((8 * k : Nat) : Int).toNat IntKind.u64.bits=8 * k:=by
    rw [Int.toNat_natCast]
    show min (8 * k) 64=8 * k
    omega
   have hc : (b.toNat : Int) * 2 ^ (8 * k)=((b.toNat * 2 ^ (8 * k) : Nat) : Int):=by push_cast;rfl
   rw [hm,hc,Zer,Int.emod_eq_of_lt (by omega) (by omega)]
  have c4' : bop .int .or (.int .u64 (leN (bs.take k))) (.int .u64 ((b.toNat * 2 ^ (8 * k) : Nat) : Int)) X=some (.int .u64 (leN (bs.take (k+1))),X):=by
   rw [Zxi]
   have ho : ((BitVec.ofInt IntKind.u64.bits (leN (bs.take k) : Int) ||| BitVec.ofInt IntKind.u64.bits ((b.toNat * 2 ^ (8 * k) : Nat) : Int)).toNat)=leN (bs.take (k+1)):=by
    rw [BitVec.toNat_or,BitVec.ofInt_natCast,BitVec.ofInt_natCast,BitVec.toNat_ofNat,BitVec.toNat_ofNat]
    show leN (bs.take k) % 2 ^ 64 ||| (b.toNat * 2 ^ (8 * k)) % 2 ^ 64=_
    rw [Nat.mod_eq_of_lt (by omega),Nat.mod_eq_of_lt (by omega),htk,ZjR,hlen,Nat.or_comm,← Nat.shiftLeft_eq,← Nat.shiftLeft_add_eq_or_of_lt hlt2,Nat.add_comm]
   rw [ho]
   have : leN (bs.take (k+1)) < 2 ^ 64:=by
    rw [htk,ZjR,hlen];omega
   rw [Zer,Int.emod_eq_of_lt (by omega) (by omega)]
  refine (Zu ?_).trans (Zqy hb hs t (k+1) (by omega) (by omega))
  rw [ZB]
  unfold JT.l1
  rw [Za Zg,Zb,if_pos (by simpa using hlt),Za x1,Za x2,Za c1,Za c2,Za c3,Za c4',Za Zt,Qm (by omega)]
  rfl
theorem Zmi {k : Nat} : (tkS k s).1.length≤k:=by
 unfold tkS
 split
 ·simp;omega
 ·exact Nat.zero_le _
theorem ZsU {k : Nat} (hk : k≤8) (h : Rdr H p s) : ∃ H',R (n+3) YF [pt p,iv k] H=some (.int .u64 (Z4 k s).1,H')∧Rdr H' p (Z4 k s).2∧Zw [p] H [p] H':=by
 obtain ⟨v,H',e1,rb,r1,s1⟩:=Zsv (n:=n) (k:=k) (by omega) h
 have hl:=Zmi (k:=k) (s:=s)
 have e2 : ZC v H'=some (iv (tkS k s).1.length,H'):=by have:=rb.rd.len (H':=H');rwa [QE] at this
 have e3:=Zqy (n:=n+2) (bs:=(tkS k s).1) (by omega) rb.rd (tkS k s).1.length 0 (by omega) (by omega)
 have e3 : Zk (c4 (JT.l1 (R (n+2)))) [.int .u64 0,v,iv (tkS k s).1.length,.int .i64 0] H'=_:=e3
 refine ⟨H',?_,r1,s1⟩
 rw [R,Zh6 rfl]
 unfold JT
 rw [Za e1,Za e2,ZS e3,Zv]
 rfl
theorem ZbV {k : Nat} : (Z4 k s).1 < 256 ^ k:=
 Nat.lt_of_lt_of_le (Zlu _) (Nat.pow_le_pow_right (by decide) Zmi)
theorem ZsZ (h : Rdr H p s) : ∃ H',R (n+4) Y9 [pt p] H=some (.int .u8 (Z4 1 s).1,H')∧Rdr H' p (Z4 1 s).2∧Zw [p] H [p] H':=by
 obtain ⟨H',e,r,st⟩:=ZsU (n:=n) (k:=1) (by omega) h
 have e : R (n+3) YF [pt p,.int .i64 1] H=_:=e
 have hl:=ZbV (s:=s) (k:=1)
 have c1 : cvi .u8 (.int .u64 (Z4 1 s).1) H'=some (.int .u8 (Z4 1 s).1,H'):=by rw [Ql,wu8,Int.emod_eq_of_lt (by omega) (by omega)]
 refine ⟨H',?_,r,st⟩
 rw [R,ZgT rfl]
 unfold Zbm
 rw [Za e,Za c1]
 rfl
theorem ZuT (h : Rdr H p s) : ∃ H',R (n+4) Kp [pt p] H=some (.int .u16 (Z4 2 s).1,H')∧Rdr H' p (Z4 2 s).2∧Zw [p] H [p] H':=by
 obtain ⟨H',e,r,st⟩:=ZsU (n:=n) (k:=2) (by omega) h
 have e : R (n+3) YF [pt p,.int .i64 2] H=_:=e
 have hl:=ZbV (s:=s) (k:=2)
 have c1 : cvi .u16 (.int .u64 (Z4 2 s).1) H'=some (.int .u16 (Z4 2 s).1,H'):=by rw [Ql,Zq9,Int.emod_eq_of_lt (by omega) (by omega)]
 refine ⟨H',?_,r,st⟩
 rw [R,ZiB rfl]
 unfold ZbH
 rw [Za e,Za c1]
 rfl
theorem ZoX {most : Nat} (hm : most≤1000000) (h : Rdr H p s) : ∃ H',R (n+5) Yf [pt p,iv most] H=some (iv (Qn most s).1,H')∧Rdr H' p (Qn most s).2∧Zw [p] H [p] H':=by
 obtain ⟨H1,e1,r1,s1⟩:=ZuT (n:=n) h
 have hl:=ZbV (s:=s) (k:=2)
 have c1 : cvi .i64 (.int .u16 (Z4 2 s).1) H1=some (iv (Z4 2 s).1,H1):=by rw [Ql,w64 (by omega) (by omega)]
 have c2 : mxi true (.int .i64 0) (iv most) H1=some (iv most,H1):=by
  rw [Yh]
  by_cases h0 : (most : Int) > 0
  ·rw [if_pos h0]
  ·rw [if_neg h0,show (most : Int)=0 by omega]
 have f1 : ∀ r H',KA (R (n+4)) (pt p) (iv most) H=some (r,H')→R (n+5) Yf [pt p,iv most] H=some (r,H'):=fun r H' hr=>by rw [R,ZfT rfl];exact hr
 unfold Qn
 by_cases hg : (Z4 2 s).1 > most
 ·rw [if_pos hg]
  have q1 : bop .int .gtr (iv (Z4 2 s).1) (iv most) H1=some (.bool true,H1):=by rw [ZK,decide_eq_true (by omega)]
  obtain ⟨H2,e2,r2,s2⟩:=Zic (n:=n+3) (e:=3) (by omega) r1
  have e2 : R (n+4) ZX [pt p,.int .i64 3] H1=_:=e2
  refine ⟨H2,f1 _ _ ?_,r2,s1.trans s2⟩
  unfold KA
  rw [Za e1,Za c1,Za c2,Za q1,Zb,if_pos rfl,Za e2]
  rfl
 ·rw [if_neg hg]
  have q1 : bop .int .gtr (iv (Z4 2 s).1) (iv most) H1=some (.bool false,H1):=by rw [ZK,decide_eq_false (by omega)]
  refine ⟨H1,f1 _ _ ?_,r1,s1⟩
  unfold KA
  rw [Za e1,Za c1,Za c2,Za q1,Zb,if_neg (by simp)]
  rfl
theorem Zia {most : Nat} : (Qn most s).1 < 65536:=by
 have hl:=ZbV (s:=s) (k:=2)
 unfold Qn
 split
 ·show 0 < 65536
  decide
 ·exact hl
theorem Zlb {most : Nat} (hm : most≤1000000) (h : Rdr H p s) : ∃ H',R (n+6) Jb [pt p,iv most] H=some (strv (Qs most s).1,H')∧Rdr H' p (Qs most s).2∧Zw [p] H [p] H':=by
 obtain ⟨H1,e1,r1,s1⟩:=ZoX (n:=n) hm h
 have hl:=Zia (s:=s) (most:=most)
 obtain ⟨v,H2,e2,rb,r2,s2⟩:=Zsv (n:=n+3) (k:=(Qn most s).1) (by omega) r1
 have e2 : R (n+5) Yq [pt p,iv (Qn most s).1] H1=_:=e2
 refine ⟨H2,?_,r2,s1.trans s2⟩
 rw [R,Zg2 rfl]
 unfold Zbp
 rw [Za e1,Za e2,Za (Zd0 rb.rd)]
 rfl
theorem Zn1 (h : Rdr H p s) : R (n+1) QO [pt p] H=some (iv s.1,H):=by
 obtain ⟨sl,hc,hr,hn,h0⟩:=h
 have a1 : ld1 (pa p 1) H=some (iv s.1,H):=ZV hc rfl
 rw [R,Zhv rfl]
 unfold ZbK
 rw [Za Zs,Za Zi,Za a1]
 rfl
def ZeJ (s : RSt) : Nat:=if s.1=0 then (if s.2=[] then 0 else 3) else s.1
theorem Zw1 (h : Rdr H p s) : R (n+1) Ks [pt p] H=some (iv (ZeJ s),H):=by
 obtain ⟨sl,hc,hr,hn,h0⟩:=h
 have a0 : ld1 (pa p 0) H=some (sl,H):=ZV hc rfl
 have a1 : ld1 (pa p 1) H=some (iv s.1,H):=ZV hc rfl
 have hl : ZC sl H=some (iv s.2.length,H):=by have:=hr.rd.len (H':=H);rwa [QE] at this
 unfold ZeJ
 rw [R,ZhV rfl]
 unfold ZbJ
 by_cases hs : s.1=0
 ·have q1 : bop .int .eql (iv s.1) (.int .i64 0) H=some (.bool true,H):=by rw [ZJ,hs];rfl
  rw [if_pos hs,Za Zs,Za Zi,Za a1,Za q1,ZL,Zf,Za Zs,Zf,Za Zi,Zf,Za a0,Zf,Za hl,Zf,Za ZK,ZO,JE,Za Zh]
  simp only [cond_true]
  rw [Zb]
  by_cases he : s.2=[]
  ·rw [if_neg (by simp [he]),if_pos he,Za Zs,Za Zi,Za a1,hs]
   rfl
  ·have : 0 < s.2.length:=List.length_pos_iff.2 he
   rw [if_pos (by simp;omega),if_neg he]
   rfl
 ·have q1 : bop .int .eql (iv s.1) (.int .i64 0) H=some (.bool false,H):=by rw [ZJ];simp [hs]
  rw [if_neg hs,Za Zs,Za Zi,Za a1,Za q1,Za (g_r.trans (if_neg (by simp)))]
  simp only [List.replicate]
  rw [JE,Za Zh]
  simp only [cond_false]
  rw [Zb,if_neg (by simp),Za Zs,Za Zi,Za a1]
  rfl
theorem Zrl {b : Value} {bs : List UInt8} (hb : Sl H b (u8s bs)) (hp : bs.length≤140737488355328) : ∃ p H',R (n+2) Zdb [b] H=some (pt p,H')∧Rdr H' p (0,bs)∧HLe H H'∧H.length≤p:=by
 obtain ⟨v,q,H1,e1,r1,l1,o1⟩:=ZqN (n:=n) hb hp
 have e2 : bld (.agg #[.slice none 0 0,.int .i64 0]) [(0,1,v)] H1=some (.agg #[v,iv 0],H1):=by
  rcases r1 with ⟨_,_,rfl⟩ | ⟨_,_,_,rfl,_,_⟩ <;> rfl
 have e3 : alc 1 (.agg #[v,iv 0]) H1=some (pt H1.length,H1++[.cells [v,iv 0] 1 false false]):=Zc8 (vs:=[v,iv 0]) (by rw [List.all_cons,r1.one.1];rfl)
 have hl:=l1.len
 refine ⟨H1.length,_,?_,⟨v,Zx,r1.rb.keep fun j hj=>?_,fun j e=>?_,fun h=>absurd rfl h⟩,l1.trans (.app _ _),hl⟩
 ·rw [R,Zp9 rfl]
  unfold Zhp
  rw [Za e1,Za e2,Za e3]
  rfl
 ·have:=r1.lt j (by rw [r1.own1 hj];simp)
  exact List.getElem?_append_left this
 ·exact r1.lt j (by rw [r1.own1 e];simp)
end
end Go.Proofs.YtedkoimihknggaaGreatDoor.A

namespace Go.Proofs.YtedkoimihknggaaGreatDoor.A
set_option linter.unusedVariables false
set_option linter.unusedSimpArgs false
open Go.Proofs Go.Proofs.YtedkoimihknggaaGreatDoor
def ZtK (e : Ent) : Zm:=⟨e.1,e.2,[],false,.slice none 0 0,[]⟩
theorem Zvt (e : Ent) (H : Zc) : (ZtK e).ok H:=.inl ⟨rfl,.inl rfl⟩
theorem ZqB {k : List UInt8} (h : Zaz k=true) : k.length≤12:=by
 unfold Zaz at h
 simp only [Bool.and_eq_true,decide_eq_true_eq] at h
 exact h.1.2
theorem ZbY {s : List UInt8} : (txt s).length=s.length+2:=by unfold txt;rw [List.length_append,Zal];omega
section
variable {H X : Zc} {n p d b : Nat} {sl x v : Value} {own q : List Nat} {bs : List UInt8} {m : List Ent} {e : Ent}
theorem J9.users (hr : J9 5 H v (m.map usr) q) : KV H v (m.map ZtK):=
 ⟨by have h:=hr.rd;rw [List.map_map];exact h,fun u hu=>by obtain ⟨e,_,rfl⟩:=List.mem_map.1 hu;exact Zvt e H⟩
end
end Go.Proofs.YtedkoimihknggaaGreatDoor.A
namespace Go.Proofs.YtedkoimihknggaaGreatDoor.A
set_option linter.unusedVariables false
set_option linter.unusedSimpArgs false
open Go.Proofs Go.Proofs.YtedkoimihknggaaGreatDoor
theorem Zb9 (k : Nat) : ((k : Int)==0)=(k==0):=by rw [Bool.eq_iff_iff];simp
theorem Zam (k : Nat) : ((k : Int) !=0)=(k !=0):=by rw [Bool.eq_iff_iff];simp
section
variable {H X : Zc} {n p d b : Nat} {sl x v : Value} {own q : List Nat} {bs : List UInt8} {m : List Ent} {e : Ent} {s : RSt}
theorem Rdr.step {o1 o2 : List Nat} (h : Rdr H p s) (hs : Zw o1 H o2 X) (hn : ∀ j∈o1,p < j) : Rdr X p s:=by
 obtain ⟨sl,h1,h2,h3,h4⟩:=h
 refine ⟨sl,hs.get h1 fun hm=>Nat.lt_irrefl _ (hn _ hm),h2.keep fun j hj=>hs.keep j ?_ fun hm=>?_,h3,h4⟩
 ·have:=h3 j hj;have:=Z6 h1;omega
 ·have:=h3 j hj;have:=hn j hm;omega
end
end Go.Proofs.YtedkoimihknggaaGreatDoor.A
namespace Go.Proofs.YtedkoimihknggaaGreatDoor.A
set_option linter.unusedVariables false
set_option linter.unusedSimpArgs false
open Go.Proofs Go.Proofs.YtedkoimihknggaaGreatDoor
theorem Zvv {a r : List UInt8} {k : Nat} (h : a.length=k) : tkS k (0,a++r)=(a,(0,r)):=by
 subst h
 unfold tkS
 simp only []
 rw [if_pos (by simp),List.take_left,List.drop_left]
section
variable {H0 H X : Zc} {n p d b : Nat} {u w : Zm} {us ws : List Zm} {sl a c v : Value} {bs : List UInt8} {m : List Ent}
end
end Go.Proofs.YtedkoimihknggaaGreatDoor.A

namespace Go.Proofs.YtedkoimihknggaaGreatDoor.A
set_option linter.unusedVariables false
set_option linter.unusedSimpArgs false
open Go.Proofs Go.Proofs.YtedkoimihknggaaGreatDoor
section
variable {H0 H X : Zc} {n p d b : Nat} {a c v : Value} {bs s : List UInt8} {β : Type} {K : Value→M β}
theorem HLe.put {H0 X : Zc} (h : HLe H0 X) {b : Nat} {o : Zd} (hb : H0.length≤b) : HLe H0 (X.set b o):=fun i v hi=>by
 have:=Z6 hi
 rw [List.getElem?_set_ne (by omega)]
 exact h i v hi
theorem bx {vs : List Value} (h1 : vs.all oneCell=true) : alc 1 (.agg vs.toArray) X=some (pt X.length,X++[.cells vs 1 false false]):=Zc8 h1
theorem Wm {vs cs : List Value} {es : Nat} (hc : X[p]?=some (.cells cs es false false)) (h2 : cs.length=n) (hv : vs.length=n) (h1 : vs.all oneCell=true) :
  bind (stA n (pt p) (.agg vs.toArray)) (fun _=>bind (ldA n (pt p)) K) X=K (.agg vs.toArray) (X.set p (.cells vs es false false)):=by
 rw [Za (YX hc h2 hv h1),Za (Z9 (ZT hc) hv)]
end
end Go.Proofs.YtedkoimihknggaaGreatDoor.A

namespace Go.Proofs.YtedkoimihknggaaGreatDoor.A
set_option linter.unusedVariables false
set_option linter.unusedSimpArgs false
open Go.Proofs Go.Proofs.YtedkoimihknggaaGreatDoor
abbrev RR (s : RSt) : List Value:=[strv s.2,iv s.1]
theorem Qa (s : RSt) : (RR s).all oneCell=true:=rfl
def okR (s : RSt) : Prop:=s.1≠0→s.2=[]
theorem Zgo {e : Nat} {s : RSt} (h : okR s) : okR (QS e s):=by
 unfold QS okR at *
 split
 ·exact fun _=>rfl
 ·exact h
theorem Zsg {k : Nat} {s : RSt} (h : okR s) : okR (tkS k s).2:=by
 unfold tkS
 split
 ·intro h1
  show s.2.drop k=[]
  rw [h h1];exact List.drop_nil
 ·exact Zgo h
theorem ZcX {k : Nat} {s : RSt} (h : okR s) : okR (Z4 k s).2:=Zsg h
theorem ZmK {m : Nat} {s : RSt} (h : okR s) : okR (Qn m s).2:=by
 unfold Qn
 split
 ·exact Zgo (ZcX h)
 ·exact ZcX h
theorem Zex {m : Nat} {s : RSt} (h : okR s) : okR (Qs m s).2:=Zsg (ZmK h)
theorem ZoY {k : Nat} {s : RSt} (h : okR s) (he : s.1≠0) : tkS k s=([],s):=by
 have h2:=h he
 obtain ⟨e,l⟩:=s
 simp only at h2 he
 subst h2
 unfold tkS
 split
 ·simp
 ·unfold QS
  rw [if_neg (fun h=>he h.1)]
theorem ZqJ {k : Nat} {s : RSt} (h : okR s) (he : s.1≠0) : Z4 k s=(0,s):=by
 unfold Z4
 rw [ZoY h he];rfl
theorem ZiL {k : Nat} {s : RSt} (h : okR s) (he : (Z4 k s).2.1≠0) : (Z4 k s).1=0:=by
 by_cases h0 : s.1=0
 ·unfold Z4 tkS at *
  by_cases hl : k≤s.2.length
  ·rw [if_pos hl] at he;exact absurd h0 he
  ·rw [if_neg hl];rfl
 ·rw [ZqJ h h0]
section
variable {H0 H X : Zc} {n p d b : Nat} {a c v : Value} {bs : List UInt8} {β : Type} {K : Value→M β} {s : RSt}
theorem ZqW {e : Nat} (he : e≤1000) : ∃ H',R (n+1) YU [.agg (RR s).toArray,iv e] H=some (.agg (RR (QS e s)).toArray,H')∧HLe H H':=by
 have z1:=bx (X:=H) (Qa s)
 have z2:=bx (X:=H++[.cells (RR s) 1 false false]) (Qa (0,[]))
 have k2 : HLe H (H++[Zd.cells (RR s) 1 false false]++[Zd.cells (RR (0,[])) 1 false false]):=(HLe.app _ _).trans (.app _ _)
 have c1 : (H++[Zd.cells (RR s) 1 false false]++[Zd.cells (RR (0,[])) 1 false false])[H.length]?=some (.cells (RR s) 1 false false):=Zcu
 have c2 : (H++[Zd.cells (RR s) 1 false false]++[Zd.cells (RR (0,[])) 1 false false])[(H++[Zd.cells (RR s) 1 false false]).length]?=some (.cells (RR (0,[])) 1 false false):=Zx
 have hp2 : H.length≤(H++[Zd.cells (RR s) 1 false false]).length:=by simp
 generalize H++[Zd.cells (RR s) 1 false false]++[Zd.cells (RR (0,[])) 1 false false]=X2 at z2 k2 c1 c2
 generalize (H++[Zd.cells (RR s) 1 false false]).length=p2 at z2 c2 hp2
 have z2 : alc 1 (.agg #[.string ⟨#[]⟩,.int .i64 0]) _=some (pt p2,X2):=z2
 have a1 : ld1 (pa H.length 1) X2=some (iv s.1,X2):=ZV c1 rfl
 have d1 : ldA 2 (pt H.length) X2=some (.agg (RR s).toArray,X2):=Z9 (n:=2) c1 rfl
 have q1 : bop .int .neq (iv s.1) (.int .i64 0) X2=some (.bool (s.1 !=0),X2):=by rw [Zp,Zam]
 have q2 : bop .int .eql (iv e) (.int .i64 0) X2=some (.bool (e==0),X2):=by rw [ZJ,Zb9]
 have f1 : ∀ r H',Zc4 (R n) (.agg (RR s).toArray) (iv e) H=some (r,H')→R (n+1) YU [.agg (RR s).toArray,iv e] H=some (r,H'):=fun r H' hr=>by rw [R,ZnL rfl];exact hr
 have hfin : ∀ t : RSt,bind (stA 2 (pt p2) (.agg (RR t).toArray)) (fun _=>bind (ldA 2 (pt p2)) fun vr=>ret vr) X2=some (.agg (RR t).toArray,X2.set p2 (.cells (RR t) 1 false false)):=fun t=>Wm c2 rfl rfl (Qa t)
 refine ⟨X2.set p2 (.cells (RR (QS e s)) 1 false false),f1 _ _ ?_,k2.put hp2⟩
 unfold Zc4 QS
 rw [Za z1,Za z2,Za Zi,Za a1,Za q1]
 by_cases h0 : s.1=0
 ·rw [show (s.1 !=0)=false from by simp [h0],ZL,Zf,Za q2,ZO,ZW,Za Zh]
  simp only [cond_false]
  by_cases he0 : e=0
  ·rw [if_neg (by simp [he0]),Zb,if_pos (by simp [he0]),Za d1]
   exact hfin s
  ·have zb : bld (.agg #[.string ⟨#[]⟩,.int .i64 0]) [(1,1,iv e)] X2=some (.agg (RR (e,[])).toArray,X2):=rfl
   rw [if_pos ⟨h0,he0⟩,Zb,if_neg (by simp [he0]),Za zb]
   exact hfin (e,[])
 ·rw [show (s.1 !=0)=true from by simp [h0],Za (g_r.trans (if_neg (by simp)))]
  simp only [List.replicate]
  rw [ZW,Za Zh]
  simp only [cond_true]
  rw [if_neg (by simp [h0]),Zb,if_pos rfl,Za d1]
  exact hfin s
theorem ZuS {s : List UInt8} {k : Nat} (hk : k≤s.length) : sls (strv s) (some (iv k)) none H=some (strv (s.drop k),H):=by
 have b1 : ∀ d,bnd (some (iv k)) d=some k:=fun d=>by simp [bnd]
 have b2 : ∀ d,bnd none d=some d:=fun _=>rfl
 unfold strv
 simp only [sls,b1,b2]
 rw [if_pos ⟨by simpa [ByteArray.size] using hk,Nat.le_refl _⟩]
 congr 3
 apply ByteArray.ext
 rw [ByteArray.data_extract]
 simp [ByteArray.size]
 exact List.take_of_length_le (by simp)
theorem ZqE {k : Nat} (hk : k≤1000000000) (hl : s.2.length≤1000000000) (ho : okR s) : ∃ ok H',R (n+2) Ku [.agg (RR s).toArray,iv k] H=some (.tuple #[.agg (RR (tkS k s).2).toArray,strv (tkS k s).1,ok],H')∧HLe H H':=by
 have z1:=bx (X:=H) (Qa s)
 have z2:=bx (X:=H++[.cells (RR s) 1 false false]) (Qa (0,[]))
 have k2 : HLe H (H++[Zd.cells (RR s) 1 false false]++[Zd.cells (RR (0,[])) 1 false false]):=(HLe.app _ _).trans (.app _ _)
 have c1 : (H++[Zd.cells (RR s) 1 false false]++[Zd.cells (RR (0,[])) 1 false false])[H.length]?=some (.cells (RR s) 1 false false):=Zcu
 have c2 : (H++[Zd.cells (RR s) 1 false false]++[Zd.cells (RR (0,[])) 1 false false])[(H++[Zd.cells (RR s) 1 false false]).length]?=some (.cells (RR (0,[])) 1 false false):=Zx
 have hp2 : H.length < (H++[Zd.cells (RR s) 1 false false]).length:=by simp
 generalize H++[Zd.cells (RR s) 1 false false]++[Zd.cells (RR (0,[])) 1 false false]=X2 at z2 k2 c1 c2
 generalize (H++[Zd.cells (RR s) 1 false false]).length=p2 at z2 c2 hp2
 have z2 : alc 1 (.agg #[.string ⟨#[]⟩,.int .i64 0]) _=some (pt p2,X2):=z2
 have a1 : ld1 (pa H.length 1) X2=some (iv s.1,X2):=ZV c1 rfl
 have a0 : ld1 (pa H.length 0) X2=some (strv s.2,X2):=ZV c1 rfl
 have d1 : ldA 2 (pt H.length) X2=some (.agg (RR s).toArray,X2):=Z9 (n:=2) c1 rfl
 have q1 : bop .int .neq (iv s.1) (.int .i64 0) X2=some (.bool (s.1 !=0),X2):=by rw [Zp,Zam]
 have q2 : bop .int .gtr (iv k) (iv s.2.length) X2=some (.bool (decide (k > s.2.length)),X2):=by
  rw [ZK,show decide ((k : Int) > (s.2.length : Int))=decide (k > s.2.length) from by rw [decide_eq_decide];omega]
 have f1 : ∀ r H',Zat (R (n+1)) (.agg (RR s).toArray) (iv k) H=some (r,H')→R (n+2) Ku [.agg (RR s).toArray,iv k] H=some (r,H'):=fun r H' hr=>by rw [R,Znr rfl];exact hr
 have hF : ∃ H',(bind (ldA 2 (pt H.length)) fun v17x12=>bind (R (n+1) YU [v17x12,(Value.int .i64 2)]) fun v18x13=>bind (stA 2 (pt p2) v18x13) fun _=>bind (ldA 2 (pt p2)) fun vrx14=>ret (Value.tuple #[vrx14,(Value.string ⟨#[]⟩),(Value.bool false)])) X2=some (.tuple #[.agg (RR (QS 2 s)).toArray,strv [],.bool false],H')∧HLe H H':=by
  obtain ⟨X3,e3,k3⟩:=ZqW (n:=n) (s:=s) (e:=2) (H:=X2) (by omega)
  have e3 : R (n+1) YU [.agg (RR s).toArray,.int .i64 2] X2=_:=e3
  refine ⟨X3.set p2 (.cells (RR (QS 2 s)) 1 false false),?_,(k2.trans k3).put (Nat.le_of_lt hp2)⟩
  rw [Za d1,Za e3]
  exact Wm (k3 _ _ c2) rfl rfl (Qa _)
 by_cases h0 : s.1=0
 ·by_cases hle : k≤s.2.length
  ·have hlt : ¬ k > s.2.length:=by omega
   have zb : bld (.agg #[.string ⟨#[]⟩,.int .i64 0]) [(0,1,strv (s.2.drop k))] X2=some (.agg (RR (0,s.2.drop k)).toArray,X2):=by
    simp [bld,KW,Value.cells,YC,strv,splice]
   have a0' : ld1 (pa H.length 0) (X2.set p2 (.cells (RR (0,s.2.drop k)) 1 false false))=some (strv s.2,X2.set p2 (.cells (RR (0,s.2.drop k)) 1 false false)):=ZV ((List.getElem?_set_ne (by omega)).trans c1) rfl
   have w2:=YX (vs:=RR (0,s.2.drop k)) (n:=2) c2 rfl rfl (Qa _)
   have d2 : ldA 2 (pt p2) (X2.set p2 (.cells (RR (0,s.2.drop k)) 1 false false))=some (.agg (RR (0,s.2.drop k)).toArray,_):=Z9 (n:=2) (ZT c2) rfl
   have ht : tkS k s=(s.2.take k,(0,s.2.drop k)):=by unfold tkS;rw [if_pos hle,h0]
   rw [ht]
   refine ⟨.bool true,X2.set p2 (.cells (RR (0,s.2.drop k)) 1 false false),f1 _ _ ?_,k2.put (Nat.le_of_lt hp2)⟩
   unfold Zat
   rw [Za z1,Za z2,Za Zi,Za a1,Za q1,show (s.1 !=0)=false from by simp [h0],ZL,Zf,Za Zi,Zf,Za a0,Zf,Za ZD,Zf,Za q2,ZO,ZM,Za Zh]
   simp only [cond_false]
   rw [Zb,if_neg (by simpa using hle),Za Zi,Za a0,Za (ZuS hle),Za zb,Za Zi,Za a0,Za (Zk0 hle),Za w2,Za a0',Qz,Za d2]
   rfl
  ·have ht : tkS k s=([],QS 2 s):=by unfold tkS;rw [if_neg hle]
   rw [ht]
   obtain ⟨H',e,kk⟩:=hF
   refine ⟨.bool false,H',f1 _ _ ?_,kk⟩
   unfold Zat
   rw [Za z1,Za z2,Za Zi,Za a1,Za q1,show (s.1 !=0)=false from by simp [h0],ZL,Zf,Za Zi,Zf,Za a0,Zf,Za ZD,Zf,Za q2,ZO,ZM,Za Zh]
   simp only [cond_false]
   rw [Zb,if_pos (by simpa using hle)]
   exact e
 ·have ht : tkS k s=([],QS 2 s):=by
   rw [ZoY ho h0]
   unfold QS
   rw [if_neg (fun h=>h0 h.1)]
  rw [ht]
  obtain ⟨H',e,kk⟩:=hF
  refine ⟨.bool false,H',f1 _ _ ?_,kk⟩
  unfold Zat
  rw [Za z1,Za z2,Za Zi,Za a1,Za q1,show (s.1 !=0)=true from by simp [h0],Za (g_r.trans (if_neg (by simp)))]
  simp only [List.replicate]
  rw [ZM,Za Zh]
  simp only [cond_true]
  rw [Zb,if_pos rfl]
  exact e
theorem Zoc {t : List UInt8} (ht : t.length≤8) : ∀ (k : Nat),k≤t.length→
  Zk (c3 (Y4.l1 (R n))) [strv t,.int .u64 (leN (t.drop k)),iv ((k : Int) - 1)] X=some (.ext 0 [.int .u64 (leN t)],X)
 | 0,hk=>by
  refine ZI ?_
  rw [ZR]
  unfold Y4.l1
  rw [Za Qu,Zb,if_neg (by simp)]
  rfl
 | k+1,hk=>by
  have hkl : k < t.length:=by omega
  have hg:=List.getElem?_eq_getElem hkl
  have hd:=List.drop_eq_getElem_cons hkl
  generalize t[k]=x at hg hd
  have hv : leN (t.drop k)=x.toNat+256 * leN (t.drop (k+1)):=by rw [hd];rfl
  have hlt:=Zlu (t.drop (k+1))
  have hlen : (t.drop (k+1)).length=t.length - (k+1):=List.length_drop
  have hp : 256 ^ (t.drop (k+1)).length≤256 ^ 7:=Nat.pow_le_pow_right (by decide) (by omega)
  have hx : x.toNat < 256:=x.toNat_lt
  have e0 : ((k+1 : Nat) : Int) - 1=k:=by omega
  have c1 : bop .int .mul (.int .u64 (leN (t.drop (k+1)))) (.int .u64 256) X=some (.int .u64 ((leN (t.drop (k+1)) * 256 : Nat) : Int),X):=by
   rw [Jq,Zer,Int.emod_eq_of_lt (by omega) (by omega)];simp
  have c2 : cvi .u64 (u8v x) X=some (.int .u64 x.toNat,X):=by rw [Ql,Zer,Int.emod_eq_of_lt (by omega) (by omega)]
  have c3' : bop .int .add (.int .u64 ((leN (t.drop (k+1)) * 256 : Nat) : Int)) (.int .u64 x.toNat) X=some (.int .u64 (leN (t.drop k)),X):=by
   rw [Zt,Zer,Int.emod_eq_of_lt (by omega) (by omega),hv]
   congr 3
   omega
  refine (Zu ?_).trans (Zoc ht k (by omega))
  rw [ZR]
  unfold Y4.l1
  rw [e0,Za Qu,Zb,if_pos (by simp),Za c1,Za (WP hg .i64 X),Za c2,Za c3',Za Qo,w64 (by omega) (by omega)]
  rfl
theorem ZvZ {t : List UInt8} (ht : t.length≤8) : R (n+1) ZaL [strv t] X=some (.int .u64 (leN t),X):=by
 have e:=Zoc (n:=n) (X:=X) ht t.length (Nat.le_refl _)
 rw [List.drop_length] at e
 have e : Zk (c3 (Y4.l1 (R n))) [strv t,.int .u64 0,iv ((t.length : Int) - 1)] X=_:=e
 rw [R,ZlT rfl]
 unfold Y4
 rw [Za ZD,Za Qo,w64 (by omega) (by omega),ZS e,Zv]
 rfl
theorem Zlq {k : Nat} (hk : k≤8) (hl : s.2.length≤1000000000) (ho : okR s) : ∃ H',R (n+3) J5 [.agg (RR s).toArray,iv k] H=some (.tuple #[.agg (RR (Z4 k s).2).toArray,.int .u64 (Z4 k s).1],H')∧HLe H H':=by
 have z1:=bx (X:=H) (Qa s)
 have z2:=bx (X:=H++[.cells (RR s) 1 false false]) (Qa (0,[]))
 have k2 : HLe H (H++[Zd.cells (RR s) 1 false false]++[Zd.cells (RR (0,[])) 1 false false]):=(HLe.app _ _).trans (.app _ _)
 have c1 : (H++[Zd.cells (RR s) 1 false false]++[Zd.cells (RR (0,[])) 1 false false])[H.length]?=some (.cells (RR s) 1 false false):=Zcu
 have c2 : (H++[Zd.cells (RR s) 1 false false]++[Zd.cells (RR (0,[])) 1 false false])[(H++[Zd.cells (RR s) 1 false false]).length]?=some (.cells (RR (0,[])) 1 false false):=Zx
 have hp2 : H.length < (H++[Zd.cells (RR s) 1 false false]).length:=by simp
 generalize H++[Zd.cells (RR s) 1 false false]++[Zd.cells (RR (0,[])) 1 false false]=X2 at z2 k2 c1 c2
 generalize (H++[Zd.cells (RR s) 1 false false]).length=p2 at z2 c2 hp2
 have z2 : alc 1 (.agg #[.string ⟨#[]⟩,.int .i64 0]) _=some (pt p2,X2):=z2
 have d1 : ldA 2 (pt H.length) X2=some (.agg (RR s).toArray,X2):=Z9 (n:=2) c1 rfl
 obtain ⟨ok,X3,e3,k3⟩:=ZqE (n:=n) (H:=X2) (k:=k) (by omega) hl ho
 have htl:=Zmi (k:=k) (s:=s)
 unfold Z4
 generalize tkS k s=T at e3 htl
 obtain ⟨t,s'⟩:=T
 have e3 : R (n+2) Ku [.agg (RR s).toArray,iv k] X2=some (.tuple #[.agg (RR s').toArray,strv t,ok],X3):=e3
 have htl : t.length≤k:=htl
 have z4:=bx (X:=X3) (Qa (0,[]))
 have k4 : HLe X3 (X3++[Zd.cells (RR s') 1 false false]):=.app _ _
 have c4' : (X3++[Zd.cells (RR s') 1 false false])[X3.length]?=some (.cells (RR s') 1 false false):=Zx
 have w4 : stA 2 (pt X3.length) (.agg (RR s').toArray) (X3++[.cells (RR (0,[])) 1 false false])=some (undef,X3++[.cells (RR s') 1 false false]):=by
  have:=YX (vs:=RR s') (n:=2) (H:=X3++[Zd.cells (RR (0,[])) 1 false false]) (id:=X3.length) (cs:=RR (0,[])) (es:=1) (g:=false) Zx rfl rfl (Qa _)
  rw [this];simp
 have z4 : alc 1 (.agg #[.string ⟨#[]⟩,.int .i64 0]) X3=some (pt X3.length,X3++[.cells (RR (0,[])) 1 false false]):=z4
 have hc24:=k4 _ _ (k3 _ _ c2)
 generalize X3++[Zd.cells (RR s') 1 false false]=X4 at k4 c4' w4 hc24
 have d4 : ldA 2 (pt X3.length) X4=some (.agg (RR s').toArray,X4):=Z9 (n:=2) c4' rfl
 have e5:=ZvZ (n:=n+1) (X:=X4) (t:=t) (by omega)
 have e5 : R (n+2) ZaL [strv t] X4=_:=e5
 refine ⟨X4.set p2 (.cells (RR s') 1 false false),?_,((k2.trans k3).trans k4).put (Nat.le_of_lt hp2)⟩
 rw [R,Zo0 rfl]
 unfold ZfZ
 rw [Za z1,Za z2,Za d1,Za e3,Za QG,Za QH,Za QI,Za z4,Za w4,Za d4,Za e5,Za d4,Qz]
 exact Wm hc24 rfl rfl (Qa _)
theorem ZuX {k : Nat} : (tkS k s).2.2.length≤s.2.length:=by
 unfold tkS QS
 split
 ·simp
 ·split
  ·simp
  ·exact Nat.le_refl _
theorem Zep {k : Nat} : (Z4 k s).2.2.length≤s.2.length:=ZuX
theorem ZeU {zs r : List Value} {n : Nat} (hz : zs.length=n) (hr : r.length=n) (hz1 : zs.all oneCell=true) (h1 : r.all oneCell=true) {K : Value→M β} :
  bind (alc 1 (.agg zs.toArray)) (fun q=>bind (stA n q (.agg r.toArray)) fun _=>K q) H=K (pt H.length) (H++[.cells r 1 false false]):=Zcl hz hr hz1 h1
end
end Go.Proofs.YtedkoimihknggaaGreatDoor.A

namespace Go.Proofs.YtedkoimihknggaaGreatDoor.A
set_option linter.unusedVariables false
set_option linter.unusedSimpArgs false
open Go.Proofs Go.Proofs.YtedkoimihknggaaGreatDoor
theorem Ztd : ∀ (t : List UInt8),le (leN t) t.length=t
 | []=>rfl
 | b :: t=>by
  have hb : b.toNat < 256:=b.toNat_lt
  rw [List.length_cons]
  unfold leN le
  have h1 : (b.toNat+256 * leN t) / 256=leN t:=by omega
  have h2 : (b.toNat+256 * leN t) % 256=b.toNat:=by omega
  rw [h1,h2,Ztd t]
  simp
theorem Zfy {e : Nat} {s : RSt} {r : List UInt8} (h : QS e s=(0,r)) : s=(0,r)∧e=0∨(s=(0,r)∧e=0):=by
 unfold QS at h
 by_cases hc : s.1=0∧e≠0
 ·rw [if_pos hc] at h
  exact absurd (congrArg (·.1) h) hc.2
 ·rw [if_neg hc] at h
  subst h
  have : e=0:=by
   by_cases he : e=0
   ·exact he
   ·exact absurd ⟨rfl,he⟩ hc
  exact .inl ⟨rfl,this⟩
theorem ZqK {k : Nat} {s : RSt} {t r : List UInt8} (h : tkS k s=(t,(0,r))) : s=(0,t++r)∧t.length=k:=by
 unfold tkS at h
 by_cases hl : k≤s.2.length
 ·rw [if_pos hl] at h
  have h1 : s.2.take k=t:=congrArg (·.1) h
  have h2 : s.1=0:=congrArg (·.2.1) h
  have h3 : s.2.drop k=r:=congrArg (·.2.2) h
  refine ⟨?_,by rw [← h1];simp;omega⟩
  rw [← h1,← h3,List.take_append_drop,← h2]
 ·rw [if_neg hl] at h
  have h2 : QS 2 s=(0,r):=congrArg (·.2) h
  rcases Zfy h2 with ⟨_,h3⟩ | ⟨_,h3⟩ <;> exact absurd h3 (by decide)
theorem ZgA {k x : Nat} {s : RSt} {r : List UInt8} (h : Z4 k s=(x,(0,r))) : s=(0,le x k++r):=by
 unfold Z4 at h
 have h1 : leN (tkS k s).1=x:=congrArg (·.1) h
 have h2 : (tkS k s).2=(0,r):=congrArg (·.2) h
 obtain ⟨h3,h4⟩:=ZqK (k:=k) (s:=s) (t:=(tkS k s).1) (r:=r) (by rw [← h2])
 have h5:=Ztd (tkS k s).1
 rw [h4,h1] at h5
 rw [h5]
 exact h3
theorem ZwI {x : UInt8} {l : List UInt8} : Z4 1 (0,x :: l)=(x.toNat,(0,l)):=by
 unfold Z4
 rw [show x :: l=[x]++l from rfl,Zvv (k:=1) rfl]
 simp [leN]
section
variable {H0 H X : Zc} {n p d b : Nat} {a c v : Value} {bs : List UInt8} {s : RSt} {q : List Nat}
theorem Ztb {x : (Ty.slc (.int .u8)).den} {H : Zc} {v : Value} (hwf : (Ty.slc (.int .u8)).wf x) (h : Rd (.slc (.int .u8)) x H [v]) : ∃ bs : List UInt8,Sl H v (u8s bs)∧bs.length≤9223372036854775807:=by
 obtain ⟨bs,hs⟩:=ZtG hwf h
 obtain ⟨rows,h1,_,h3,_⟩:=Zvz hwf h
 refine ⟨bs,hs,?_⟩
 have e1:=hs.len (H':=H)
 have e2:=h1.len (H':=H)
 rw [e1,QE] at e2
 injection e2 with e2
 injection e2 with e2
 injection e2 with _ e2
 omega
theorem J9.us {m : List Ent} (h : J9 5 H v (m.map usr) q) : Q0 H v (m.map ZtK):=h.users.s (fun u hu=>by obtain ⟨e,_,rfl⟩:=List.mem_map.1 hu;exact Nat.zero_le _)
end
end Go.Proofs.YtedkoimihknggaaGreatDoor.A

namespace Go.Proofs.YtedkoimihknggaaGreatDoor.A
set_option linter.unusedVariables false
set_option maxRecDepth 100000
set_option linter.unusedSimpArgs false
open Go.Proofs Go.Proofs.YtedkoimihknggaaGreatDoor
def Zel (b : Bool) : List UInt8:=le (if b then 1 else 0) 1
def Zfb (l : List Tx) : List UInt8:=le l.length 2++(l.map txt).flatten
def ZfI (k : YG) : List UInt8:=txt k.1++(txt k.2.1++(txt k.2.2.1++(Zel k.2.2.2.1++Zfb k.2.2.2.2)))
def Zaj (l : List YG) : List UInt8:=(l.map ZfI).flatten
def Zf5 (K : List Tx) (ks : List YG) : List UInt8:=le 2 1++(Zfb K++(le ks.length 2++Zaj ks))
abbrev Zxj : YG:=([],[],[],false,[])
def uOf (k : YG) : Zm:=⟨k.1,k.2.1,k.2.2.1,k.2.2.2.1,.slice none 0 0,k.2.2.2.2⟩
def Wk (k : YG) : Nat:=(QR (uOf k)).toNat
def ofK (ks : List YG) (gs : List Tx) : Nat:=(WL (ks.map uOf) gs).toNat
def Kk (s : RSt) : Bool × RSt:=((Z4 1 s).1==1,if 1 < (Z4 1 s).1 then QS 4 (Z4 1 s).2 else (Z4 1 s).2)
def Qv (long : Nat) : Nat→RSt→List Tx × RSt
 | 0,s=>([],s)
 | k+1,s=>((Qs long s).1 :: (Qv long k (Qs long s).2).1,(Qv long k (Qs long s).2).2)
def Kh (most long : Nat) (s : RSt) : List Tx × RSt:=
 (if (Qv long (Qn most s).1 (Qn most s).2).2.1=0 then (Qv long (Qn most s).1 (Qn most s).2).1 else [],(Qv long (Qn most s).1 (Qn most s).2).2)
def Zfc (s : RSt) : YG × RSt:=
 let a:=Qs 65535 s
 let b:=Qs 65535 a.2
 let c:=Qs 65535 b.2
 let d:=Kk c.2
 let e:=Kh 65535 65535 d.2
 ((a.1,b.1,c.1,d.1,e.1),e.2)
def Zag (s : RSt) : YG × RSt:=(if (QS (Wk (Zfc s).1) (Zfc s).2).1=0 then (Zfc s).1 else Zxj,QS (Wk (Zfc s).1) (Zfc s).2)
def Kj : Nat→RSt→List YG × RSt
 | 0,s=>([],s)
 | k+1,s=>((Zag s).1 :: (Kj k (Zag s).2).1,(Kj k (Zag s).2).2)
def Zcc (s : RSt) : Nat × (List Tx × List YG):=
 let g:=Kh 6 12 s
 let n:=Z4 2 g.2
 let m:=if n.1 > 12 then (0,QS 7 n.2) else n
 let u:=Kj m.1 m.2
 if u.2.1≠0 then (u.2.1,[],[]) else
 if ofK u.1 g.1≠0 then (ofK u.1 g.1,[],[]) else
 if u.2.2≠[] then (3,[],[]) else (0,g.1,u.1)
def KQ (bs : List UInt8) : Nat × (List Tx × List YG):=
 let b:=Z4 1 (0,bs)
 if b.2.1=0∧b.1≠2 then (6,[],[]) else Zcc b.2
section
variable {s : RSt} {k : YG} {ks : List YG} {l K : List Tx} {r t : List UInt8} {us : List Zm}
theorem ZuF (k : YG) : ZG (uOf k)=k:=rfl
theorem Zmy (ks : List YG) : (ks.map uOf).map ZG=ks:=by
 rw [List.map_map]
 exact (List.map_congr_left fun a _=>ZuF a).trans (List.map_id ks)
theorem Zf6 {u : Zm} : 0≤QR u∧QR u≤12:=by
 unfold QR Zcw
 repeat' split
 all_goals exact ⟨by decide,by decide⟩
theorem Zti {u w : Zm} (h : ZG u=ZG w) : QR u=QR w:=by
 have h1 : u.nm=w.nm:=congrArg (·.1) h
 have h2 : u.hs=w.hs:=congrArg (·.2.1) h
 have h3 : u.ml=w.ml:=congrArg (·.2.2.1) h
 have h4 : u.gs=w.gs:=congrArg (·.2.2.2.2) h
 unfold QR
 rw [h1,h2,h3,h4]
theorem ZiJ {u : Zm} : QR u=Wk (ZG u):=by
 unfold Wk
 rw [Int.toNat_of_nonneg Zf6.1]
 exact Zti rfl
theorem ZqO : Wk k≤12:=by
 unfold Wk
 have:=Zf6 (u:=uOf k)
 omega
theorem Zll : ∀ {us : List Zm},0≤JD us
 | []=>Int.le_refl _
 | u :: us=>by
  unfold JD
  split
  ·exact Zll
  ·exact Zf6.1
theorem Zub {gs : List Tx} {p : List Zm} {u : Zm} : 0≤Zcp gs p u:=by
 unfold Zcp
 repeat' split
 all_goals decide
theorem Zoj {gs : List Tx} : ∀ {us p : List Zm},0≤YS gs p us
 | [],p=>by unfold YS;exact Int.le_refl _
 | u :: us,p=>by
  unfold YS
  split
  ·exact Zoj
  ·exact Zub
theorem Zva : 0≤Zbk us l:=by
 unfold Zbk Zet
 have:=Zll (us:=us)
 repeat' split
 all_goals first | exact this | decide
theorem ZoL : 0≤WL us l:=by
 unfold WL
 split
 ·exact Zoj
 ·exact Zva
theorem Zmh : WL us l=ofK (us.map ZG) l:=by
 unfold ofK
 rw [Int.toNat_of_nonneg ZoL]
 exact Zuu (Zmy _).symm
theorem Zqu {m : Tx} (h : ZaT m=true) : m.length≤20:=by
 rcases ZiO h with h | ⟨h,_⟩
 ·rw [h];decide
 ·unfold KP at h
  rw [Bool.and_eq_true,decide_eq_true_eq] at h
  exact h.1
structure Zlj (k : YG) : Prop where
 n : k.1.length≤12
 h : k.2.1.length≤12
 m : k.2.2.1.length≤20
 g : k.2.2.2.2.length≤6
 gs : ∀ x∈k.2.2.2.2,x.length≤12
theorem ZuP (h : Wk k=0) : Zlj k:=by
 have h0 : QR (uOf k)=0:=by
  have:=Zf6 (u:=uOf k)
  unfold Wk at h
  omega
 obtain ⟨h1,h2,h3,h4,h5,_⟩:=Zef h0
 exact ⟨ZaP h1,ZqB h2,Zqu h3,h4,fun x hx=>ZaP (List.all_eq_true.1 h5 x hx)⟩
theorem ZuV (h : ofK ks l=0) : (∀ k∈ks,Wk k=0)∧ks.length≤12∧l.length≤6∧(∀ x∈l,x.length≤12)∧Jk l=true∧l.all ZA=true:=by
 have h0 : WL (ks.map uOf) l=0:=by
  have:=ZoL (us:=ks.map uOf) (l:=l)
  unfold ofK at h
  omega
 have hc : Zbk (ks.map uOf) l=0:=by
  unfold WL at h0
  by_cases hc : Zbk (ks.map uOf) l=0
  ·exact hc
  ·rw [if_neg hc] at h0;exact h0
 obtain ⟨h1,_,h3,h4,h5,h6⟩:=Zsi hc
 rw [List.length_map] at h3
 refine ⟨fun k hk=>?_,h3,h6,fun x hx=>ZaP (List.all_eq_true.1 h4 x hx),h5,h4⟩
 have:=ZhK h1 (uOf k) (List.mem_map.2 ⟨k,hk,rfl⟩)
 unfold Wk
 rw [this];rfl
theorem Zho {b : Nat} : ∀ {l : List Tx},(∀ x∈l,x.length≤b)→((l.map txt).flatten).length≤l.length * (b+2)
 | [],_=>by simp
 | x :: l,h=>by
  have h1:=h x (by simp)
  have h2:=Zho (b:=b) (l:=l) fun y hy=>h y (by simp [hy])
  rw [List.map_cons,List.flatten_cons,List.length_append,ZbY,List.length_cons,Nat.add_mul]
  omega
theorem ZjW {b : Nat} (h : ∀ x∈l,x.length≤b) : (Zfb l).length≤2+l.length * (b+2):=by
 unfold Zfb
 rw [List.length_append,Zal]
 have:=Zho h
 omega
theorem ZkR (b : Bool) : (Zel b).length=1:=by unfold Zel;rw [Zal]
theorem Zos (h : Zlj k) : (ZfI k).length≤137:=by
 unfold ZfI
 rw [List.length_append,List.length_append,List.length_append,List.length_append,ZbY,ZbY,ZbY,ZkR]
 have h1:=ZjW h.gs
 have h2:=h.g
 have:=h.n
 have:=h.h
 have:=h.m
 have h3 : k.2.2.2.2.length * (12+2)≤6 * (12+2):=Nat.mul_le_mul_right _ h2
 omega
theorem ZkQ : ∀ {ks : List YG},(∀ k∈ks,Zlj k)→(Zaj ks).length≤ks.length * 137
 | [],_=>by simp [Zaj]
 | k :: ks,h=>by
  have h1:=Zos (h k (by simp))
  have h2:=ZkQ (ks:=ks) fun y hy=>h y (by simp [hy])
  unfold Zaj at h2 ⊢
  rw [List.map_cons,List.flatten_cons,List.length_append,List.length_cons,Nat.add_mul]
  omega
theorem Zut (h : ∀ k∈ks,Zlj k) (hn : ks.length≤12) (hl : l.length≤6) (hx : ∀ x∈l,x.length≤12) : (Zf5 l ks).length≤1733:=by
 unfold Zf5
 rw [List.length_append,List.length_append,List.length_append,Zal,Zal]
 have h1:=ZjW hx
 have h2:=ZkQ h
 have h3 : l.length * (12+2)≤6 * (12+2):=Nat.mul_le_mul_right _ hl
 have h4 : ks.length * 137≤12 * 137:=Nat.mul_le_mul_right _ hn
 omega
theorem ZjG {most c : Nat} {r : List UInt8} (h : Qn most s=(c,(0,r))) : Z4 2 s=(c,(0,r)):=by
 unfold Qn at h
 by_cases hc : (Z4 2 s).1 > most
 ·rw [if_pos hc] at h
  have h2 : QS 3 (Z4 2 s).2=(0,r):=congrArg (·.2) h
  rcases Zfy h2 with ⟨_,h3⟩ | ⟨_,h3⟩ <;> exact absurd h3 (by decide)
 ·rw [if_neg hc] at h
  exact h
theorem Zd7 {most : Nat} (h : Qs most s=(t,(0,r))) : s=(0,txt t++r):=by
 unfold Qs at h
 obtain ⟨h1,h2⟩:=ZqK h
 have h3:=ZjG (most:=most) (s:=s) (c:=(Qn most s).1) (r:=t++r) (by rw [← h1])
 have h4:=ZgA h3
 unfold txt
 rw [h2,List.append_assoc]
 exact h4
theorem Zjv {long : Nat} : ∀ {k : Nat} {s : RSt} {l : List Tx} {r : List UInt8},Qv long k s=(l,(0,r))→s=(0,(l.map txt).flatten++r)∧l.length=k
 | 0,s,l,r,h=>by
  unfold Qv at h
  have h1 : []=l:=congrArg (·.1) h
  have h2 : s=(0,r):=congrArg (·.2) h
  subst h1
  exact ⟨h2,rfl⟩
 | k+1,s,l,r,h=>by
  unfold Qv at h
  have h1:=congrArg (·.1) h
  have h2:=congrArg (·.2) h
  simp only at h1 h2
  obtain ⟨h3,h4⟩:=Zjv (k:=k) (s:=(Qs long s).2) (l:=(Qv long k (Qs long s).2).1) (r:=r) (by rw [← h2])
  have h5:=Zd7 (s:=s) (t:=(Qs long s).1) (r:=((Qv long k (Qs long s).2).1.map txt).flatten++r) (by rw [← h3])
  refine ⟨?_,by rw [← h1,List.length_cons,h4]⟩
  rw [h5,← h1]
  simp
theorem Zm5 {most long : Nat} (h : Kh most long s=(l,(0,r))) : s=(0,Zfb l++r):=by
 unfold Kh at h
 have h1:=congrArg (·.1) h
 have h2:=congrArg (·.2) h
 simp only at h1 h2
 rw [h2] at h1
 simp only [if_true] at h1
 obtain ⟨h3,h4⟩:=Zjv (s:=(Qn most s).2) (l:=l) (r:=r) (by rw [← h1,← h2])
 have h5:=ZjG (most:=most) (s:=s) (c:=(Qn most s).1) (r:=(l.map txt).flatten++r) (by rw [← h3])
 have h6:=ZgA h5
 unfold Zfb
 rw [h4,List.append_assoc]
 exact h6
theorem Zqa {b : Bool} (h : Kk s=(b,(0,r))) : s=(0,Zel b++r):=by
 unfold Kk at h
 have h1:=congrArg (·.1) h
 have h2:=congrArg (·.2) h
 simp only at h1 h2
 by_cases hc : 1 < (Z4 1 s).1
 ·rw [if_pos hc] at h2
  rcases Zfy h2 with ⟨_,h3⟩ | ⟨_,h3⟩ <;> exact absurd h3 (by decide)
 ·rw [if_neg hc] at h2
  have h3:=ZgA (k:=1) (s:=s) (x:=(Z4 1 s).1) (r:=r) (by rw [← h2])
  rw [h3]
  unfold Zel
  have h4 : (Z4 1 s).1=if b then 1 else 0:=by
   rw [← h1]
   by_cases h5 : (Z4 1 s).1=1
   ·simp [h5]
   ·have : (Z4 1 s).1=0:=by omega
    simp [this]
  rw [h4]
theorem Zse (h : Zfc s=(k,(0,r))) : s=(0,ZfI k++r):=by
 unfold Zfc at h
 simp only at h
 have h1:=congrArg (·.1) h
 have h2:=congrArg (·.2) h
 simp only at h1 h2
 generalize ha : Qs 65535 s=a at h1 h2
 generalize hb : Qs 65535 a.2=b at h1 h2
 generalize hc : Qs 65535 b.2=c at h1 h2
 generalize hd : Kk c.2=d at h1 h2
 generalize he : Kh 65535 65535 d.2=e at h1 h2
 obtain ⟨a1,a2⟩:=a
 obtain ⟨b1,b2⟩:=b
 obtain ⟨c1,c2⟩:=c
 obtain ⟨d1,d2⟩:=d
 obtain ⟨e1,e2⟩:=e
 simp only at hb hc hd he h1 h2
 subst h1 h2
 have x1:=Zm5 he
 subst x1
 have x2:=Zqa hd
 subst x2
 have x3:=Zd7 hc
 subst x3
 have x4:=Zd7 hb
 subst x4
 have x5:=Zd7 ha
 rw [x5]
 unfold ZfI
 simp only [List.append_assoc]
theorem Zto (h : Zag s=(k,(0,r))) : s=(0,ZfI k++r):=by
 unfold Zag at h
 have h1:=congrArg (·.1) h
 have h2:=congrArg (·.2) h
 simp only at h1 h2
 rw [h2] at h1
 simp only [if_true] at h1
 have h3 : (Zfc s).2=(0,r):=by
  rcases Zfy h2 with ⟨h4,_⟩ | ⟨h4,_⟩ <;> exact h4
 exact Zse (by rw [← h1,← h3])
theorem Zk4 : ∀ {n : Nat} {s : RSt} {ks : List YG} {r : List UInt8},Kj n s=(ks,(0,r))→s=(0,Zaj ks++r)∧ks.length=n
 | 0,s,l,r,h=>by
  unfold Kj at h
  have h1 : []=l:=congrArg (·.1) h
  have h2 : s=(0,r):=congrArg (·.2) h
  subst h1
  exact ⟨h2,rfl⟩
 | n+1,s,l,r,h=>by
  unfold Kj at h
  have h1:=congrArg (·.1) h
  have h2:=congrArg (·.2) h
  simp only at h1 h2
  obtain ⟨h3,h4⟩:=Zk4 (n:=n) (s:=(Zag s).2) (ks:=(Kj n (Zag s).2).1) (r:=r) (by rw [← h2])
  have h5:=Zto (s:=s) (k:=(Zag s).1) (r:=Zaj (Kj n (Zag s).2).1++r) (by rw [← h3])
  refine ⟨?_,by rw [← h1,List.length_cons,h4]⟩
  rw [h5,← h1]
  simp [Zaj]
theorem ZrC (h : (Zcc s).1=0) : s=(0,Zfb (Zcc s).2.1++(le (Zcc s).2.2.length 2++Zaj (Zcc s).2.2))∧ofK (Zcc s).2.2 (Zcc s).2.1=0:=by
 unfold Zcc at h ⊢
 simp only at h ⊢
 generalize hg : Kh 6 12 s=g at h ⊢
 obtain ⟨gl,gs⟩:=g
 simp only at h ⊢
 generalize hn : Z4 2 gs=n at h ⊢
 obtain ⟨nv,ns⟩:=n
 simp only at h ⊢
 generalize hm : (if nv > 12 then (0,QS 7 ns) else (nv,ns))=m at h ⊢
 generalize hu : Kj m.1 m.2=u at h ⊢
 obtain ⟨ul,ue,ur⟩:=u
 simp only at h ⊢
 by_cases h1 : ue≠0
 ·rw [if_pos h1] at h;exact absurd h h1
 ·have h1 : ue=0:=Decidable.of_not_not h1
  subst h1
  rw [if_neg (fun h=>h rfl)] at h ⊢
  by_cases h2 : ofK ul gl≠0
  ·rw [if_pos h2] at h;exact absurd h h2
  ·rw [if_neg h2] at h ⊢
   have h2 : ofK ul gl=0:=Decidable.of_not_not h2
   by_cases h3 : ur≠[]
   ·rw [if_pos h3] at h;exact absurd h (by simp)
   ·rw [if_neg h3] at h ⊢
    have h3 : ur=[]:=Decidable.of_not_not h3
    subst h3
    obtain ⟨x1,x2⟩:=Zk4 hu
    rw [List.append_nil] at x1
    have hm2 : (nv,ns)=m:=by
     by_cases hc : nv > 12
     ·rw [if_pos hc] at hm
      subst hm
      simp only at x1
      rcases Zfy x1 with ⟨_,h3⟩ | ⟨_,h3⟩ <;> exact absurd h3 (by decide)
     ·rw [if_neg hc] at hm;exact hm
    subst hm2
    simp only at x1 x2
    subst x1
    have x3:=ZgA hn
    subst x3
    have x4:=Zm5 hg
    refine ⟨?_,h2⟩
    rw [x4,x2]
theorem ZmZ : KQ []=(2,[],[]):=rfl
theorem Zn3 {x : UInt8} {l : List UInt8} (h : x.toNat≠2) : KQ (x :: l)=(6,[],[]):=by
 unfold KQ
 rw [ZwI]
 simp only []
 rw [if_pos ⟨trivial,h⟩]
theorem ZmU {x : UInt8} {l : List UInt8} (h : x.toNat=2) : KQ (x :: l)=Zcc (0,l):=by
 unfold KQ
 rw [ZwI]
 simp only []
 rw [if_neg (fun h'=>h'.2 h)]
theorem Zrx {bs : List UInt8} (h : (KQ bs).1=0) : Zf5 (KQ bs).2.1 (KQ bs).2.2=bs∧ofK (KQ bs).2.2 (KQ bs).2.1=0:=by
 cases bs with
 | nil=>rw [ZmZ] at h;exact absurd h (by decide)
 | cons x l=>
  by_cases hx : x.toNat=2
  ·rw [ZmU hx] at h ⊢
   obtain ⟨h1,h2⟩:=ZrC h
   refine ⟨?_,h2⟩
   have h3 : l=_:=congrArg (·.2) h1
   unfold Zf5
   have hx1 : x=UInt8.ofNat (2 % 256):=by
    have : x=UInt8.ofNat x.toNat:=by simp
    rw [this,hx]
   rw [hx1]
   conv=>rhs;rw [h3]
   rfl
  ·rw [Zn3 hx] at h
   exact absurd h (by decide)
end
end Go.Proofs.YtedkoimihknggaaGreatDoor.A

namespace Go.Proofs.YtedkoimihknggaaGreatDoor.A
set_option linter.unusedVariables false
set_option maxRecDepth 100000
set_option linter.unusedSimpArgs false
open Go.Proofs Go.Proofs.YtedkoimihknggaaGreatDoor
section
variable {H X X' : Zc} {n p d c : Nat} {r : NR} {s : NSt} {sl x v gv sv : Value} {own q : List Nat} {bs : List UInt8} {l : List Tx} {u : Zm} {us : List Zm}
theorem ZfR : ∀ {l : List Tx},l.Pairwise (· < ·)→Jk l=true
 | [],_=>rfl
 | [a],_=>rfl
 | a :: b :: l,h=>by
  rw [ZaK,Bool.and_eq_true,decide_eq_true_eq]
  have h1:=List.pairwise_cons.1 h
  exact ⟨h1.1 b (by simp),ZfR h1.2⟩
theorem ND0.kname (hd : ND0 X d r s c) {k : Tx} (hk : k∈s.K) : ZA k=true:=by
 rw [← hd.ks] at hk
 obtain ⟨p,hp,rfl⟩:=List.mem_map.1 hk
 exact hd.gr.ok p hp
theorem Zhj (hO : ROK s us) (hP : ZjX s) (hN : ∀ k∈s.K,ZA k=true) (hu : u∈us) : QR u=0∧(∀ g∈u.gs,g∈s.K)∧u.ml=(Zj u.nm s.OF).getD []:=by
 have hat:=hO.at hu
 unfold Yl at hat
 cases ha : Zj u.nm s.A with
 | none=>rw [ha] at hat;cases hat
 | some p=>
  rw [ha] at hat
  have hk : WN s u.nm p=ZG u:=Option.some.inj hat
  have h1 : p.1=u.hs:=congrArg (·.2.1) hk
  have h2 : (Zj u.nm s.OF).getD []=u.ml:=congrArg (·.2.2.1) hk
  have h3 : ofL u.nm s.K s.mem=u.gs:=congrArg (·.2.2.2.2) hk
  have hnm:=hP.i.nm _ (ZaQ ha)
  have hin : ∀ g∈u.gs,g∈s.K:=fun g hg=>by
   rw [← h3] at hg
   exact (((Zpw hP.k.nod).mem g).1 hg).1
  refine ⟨?_,hin,h2.symm⟩
  unfold QR Zcw
  rw [show ZA u.nm=true from hnm.1,← h1,show Zaz p.1=true from hnm.2]
  have hm : ZaT u.ml=true:=by
   unfold ZaT
   rw [← h2]
   cases ho : Zj u.nm s.OF with
   | none=>rfl
   | some m=>
    obtain ⟨g1,g2⟩:=hP.i.good _ m ho
    show (m==[] || (KP m && Qt m==m))=true
    rw [g1,g2]
    simp
  have hl : u.gs.length≤6:=by
   rw [← h3]
   exact Nat.le_trans Zl2 hP.k.few
  have hall : u.gs.all ZA=true:=List.all_eq_true.2 fun g hg=>hN g (hin g hg)
  have hr : Jk u.gs=true:=by
   rw [← h3]
   exact ZfR (Zpw hP.k.nod).asc
  rw [hm,hall,hr]
  simp only [if_true]
  rw [if_neg (by omega)]
theorem Zqz {gs : List Tx} : ∀ {us prev : List Zm},(∀ (i : Nat) (u : Zm),us[i]?=some u→Zcp gs (prev++us.take i) u=0)→YS gs prev us=0
 | [],prev,_=>by unfold YS;rfl
 | u :: us,prev,h=>by
  have h0:=h 0 u rfl
  rw [List.take_zero,List.append_nil] at h0
  unfold YS
  rw [if_pos h0]
  refine Zqz fun i w hi=>?_
  have h1:=h (i+1) w (by simpa using hi)
  rw [List.take_succ_cons] at h1
  rwa [List.append_assoc]
theorem Zwc (hO : ROK s us) (hP : ZjX s) (hN : ∀ k∈s.K,ZA k=true) : WL us (Qk s.K)=0:=by
 have hlen:=hO.len hP.n
 have hfew:=hP.i.few
 have h1 : JD us=0:=by
  have hall : ∀ u∈us,QR u=0:=fun u hu=>(Zhj hO hP hN hu).1
  clear hO hlen
  induction us with
  | nil=>rfl
  | cons u us ih=>
   unfold JD
   rw [if_pos (hall u (by simp))]
   exact ih fun w hw=>hall w (by simp [hw])
 have h2 : Jk (us.map (·.nm))=true:=by
  refine ZfR ?_
  rw [List.pairwise_map]
  exact hO.rise
 have h3 : (Qk s.K).all ZA=true:=List.all_eq_true.2 fun g hg=>hN g (Wu.1 hg)
 have h4 : Jk (Qk s.K)=true:=ZfR (Zdp hP.k.nod)
 have h5 : (Qk s.K).length≤6:=by rw [W5];exact hP.k.few
 have hc : Zbk us (Qk s.K)=0:=by
  unfold Zbk Zet
  have x1 : ¬ 12 < us.length:=by omega
  have x2 : ¬ 6 < (Qk s.K).length:=by omega
  rw [h1,h2,h3,h4]
  simp [x1,x2,hP.k.few]
 unfold WL
 rw [if_pos hc]
 refine Zqz fun i u hi=>?_
 rw [List.nil_append]
 have hum:=List.mem_of_getElem? hi
 obtain ⟨_,hg,hm⟩:=Zhj hO hP hN hum
 unfold Zcp
 have hall : (u.gs.all fun g=>decide (g∈Qk s.K))=true:=List.all_eq_true.2 fun g hgm=>by
  rw [decide_eq_true_eq]
  exact Wu.2 (hg g hgm)
 rw [hall,if_pos rfl,if_neg]
 rintro ⟨hne,hany⟩
 obtain ⟨w,hw,hwe⟩:=List.any_eq_true.1 hany
 have hwm:=List.mem_of_mem_take hw
 obtain ⟨_,_,hm2⟩:=Zhj hO hP hN hwm
 have hwe : u.ml=w.ml:=by simpa using hwe
 have h6 : ∀ v : Zm,v.ml=(Zj v.nm s.OF).getD []→v.ml≠[]→Zj v.ml s.OW=some v.nm:=fun v hv hvne=>by
  cases ho : Zj v.nm s.OF with
  | none=>rw [ho] at hv;exact absurd hv hvne
  | some m=>
   rw [ho] at hv
   have hv : v.ml=m:=hv
   rw [hv]
   exact (hP.x.inv _ _).1 ho
 have h7:=h6 u hm hne
 have h8:=h6 w hm2 (by rw [← hwe];exact hne)
 rw [← hwe,h7] at h8
 have h9 : u.nm=w.nm:=Option.some.inj h8
 have hri:=hO.rise
 unfold ZcC at hri
 rw [← List.take_append_drop i us,List.pairwise_append] at hri
 have hud : u∈us.drop i:=by
  have hil:=(List.getElem?_eq_some_iff.1 hi).1
  rw [List.drop_eq_getElem_cons hil]
  have:=List.getElem?_eq_getElem hil
  rw [hi] at this
  rw [← Option.some.inj this]
  simp
 have:=hri.2.2 w hw u hud
 rw [h9] at this
 exact absurd this (List.lt_irrefl _)
theorem ROK.allK (hn : (Zad s).Nodup) : ROK s ((A.allK s).map uOf):=⟨by
 have h:=Zna hn
 unfold ZcC
 rw [List.pairwise_map]
 exact h,fun key=>by rw [Zmy];exact Zpm hn⟩
theorem ZwJ (hd : ND X d r s c) : ofK (A.allK s) (Qk s.K)=0:=by
 have:=Zwc (ROK.allK hd.pinv.n) hd.pinv fun k hk=>hd.toND0.kname hk
 rw [Zmh,Zmy] at this
 omega
theorem ZtC {b : Bool} (hb : bs.length≤100000000000) (h : Wtr H p bs own) : ∃ H' own',R (n+3) KB [pt p,.bool b] H=some (pt p,H')∧Wtr H' p (bs++Zel b) own'∧Zw (p :: own) H (p :: own') H':=by
 obtain ⟨H',own',e,w,s⟩:=ZqR (n:=n) (x:=if b then 1 else 0) (by cases b <;> decide) hb h
 refine ⟨H',own',?_,w,s⟩
 rw [R,ZgC rfl]
 unfold ZaX
 cases b
 ·have e : R (n+2) Jv [pt p,.int .u8 0] H=_:=e
  rw [Zb,if_neg (by simp),Za e]
  rfl
 ·have e : R (n+2) Jv [pt p,.int .u8 1] H=_:=e
  rw [Zb,if_pos rfl,Za e]
  rfl
theorem Zq.whole {vs : List Value} (h : Zq X v vs q) : ∃ sv,slv 1 v none (some (iv vs.length)) none X=some (sv,X)∧Sl X sv vs∧∀ j,A.own1 sv=some j→j∈q:=by
 have b1 : ∀ d,bnd (some (iv vs.length)) d=some vs.length:=fun d=>by simp [bnd]
 have b2 : ∀ d,bnd none d=some d:=fun _=>rfl
 rcases h with ⟨rfl,rfl,rfl⟩ | ⟨sid,rest,g,rfl,rfl,hid⟩
 ·exact ⟨.slice none 0 0,rfl,Sl.nil,fun j hj=>by cases hj⟩
 ·by_cases h0 : vs.length+rest.length=0
  ·have hv : vs=[]:=List.eq_nil_of_length_eq_zero (by omega)
   subst hv
   refine ⟨.slice (some ⟨sid,0,some (bif g then 1 else 0)⟩) 0 0,?_,⟨_,_,rfl,(fun e=>by cases e),rfl⟩,fun j hj=>by cases hj⟩
   simp only [slv,hid,b1,b2]
   rw [if_pos ⟨trivial,by omega,by omega,Nat.le_refl _⟩,if_pos (by omega)]
  ·refine ⟨.slice (some ⟨sid,0,none⟩) vs.length (vs.length+rest.length),?_,⟨some ⟨sid,0,none⟩,_,rfl,(fun e=>by cases e),?_⟩,fun j hj=>by cases hj;simp⟩
   ·simp only [slv,hid,b1,b2]
    rw [if_pos ⟨trivial,by omega,by omega,Nat.le_refl _⟩,if_neg (by omega)]
    simp
   ·simp only [Qj,hid]
    rw [if_pos (by simp)]
    simp
theorem Zq1 (hl : ∀ x∈l,x.length≤1000) (hn : l.length≤1000) : ∀ (t j : Nat) (bs : List UInt8) (own : List Nat) (X : Zc),l.length - j=t→j≤l.length→Sl X sv (l.map strv)→(∀ i,own1 sv=some i→i∉p :: own∧i < X.length)→bs.length+t * 1002≤100000000→Wtr X p bs own→
  ∃ X' own',Zk (c4 (Yd.l1 (R (n+3)))) [pt p,sv,iv l.length,iv j] X=some (.ext 0 [pt p],X')∧Wtr X' p (bs++((l.drop j).map txt).flatten) own'∧Zw (p :: own) X (p :: own') X'
 | 0,j,bs,own,X,ht,hj,hs,hd,hb,h=>by
  rw [List.drop_eq_nil_of_le (by omega)]
  refine ⟨X,own,ZI ?_,by simpa using h,.refl _ _⟩
  rw [ZB,show j=l.length by omega]
  unfold Yd.l1
  rw [Za Zg,Zb,if_neg (by simp)]
  rfl
 | t+1,j,bs,own,X,ht,hj,hs,hd,hb,h=>by
  have hkl : j < l.length:=by omega
  have hlt : (j : Int) < l.length:=by omega
  have hg:=List.getElem?_eq_getElem hkl
  have hdr:=List.drop_eq_getElem_cons hkl
  generalize l[j]=y at hg hdr
  have hy:=hl y (List.mem_of_getElem? hg)
  have x1:=hs.ix (i:=j) (by simpa using hkl) .i64 X
  have x2:=hs.ldx (JF hg)
  obtain ⟨X1,own1',e1,w1,s1⟩:=ZiT (n:=n) (s:=y) (by omega) (by omega) h
  have hs1 : Sl X1 sv (l.map strv):=hs.keep fun i hi=>s1.keep i (hd i hi).2 (hd i hi).1
  have hd1 : ∀ i,A.own1 sv=some i→i∉p :: own1'∧i < X1.length:=fun i hi=>⟨fun hm=>by
   rcases s1.own i hm with h1 | h1
   ·exact (hd i hi).1 h1
   ·have:=(hd i hi).2;omega,Nat.lt_of_lt_of_le (hd i hi).2 s1.len⟩
  obtain ⟨X2,own2,e2,w2,s2⟩:=Zq1 hl hn t (j+1) (bs++txt y) own1' X1 (by omega) (by omega) hs1 hd1 (by rw [List.length_append,ZbY];omega) w1
  refine ⟨X2,own2,(Zu ?_).trans e2,?_,s1.trans s2⟩
  ·rw [ZB]
   unfold Yd.l1
   rw [Za Zg,Zb,if_pos (by simpa using hlt),Za x1,Za x2,Za e1,Za Zt,Qm (by omega)]
   rfl
  ·rw [hdr,List.map_cons,List.flatten_cons,← List.append_assoc]
   exact w2
theorem Zr9 (hl : ∀ x∈l,x.length≤1000) (hn : l.length≤1000) (hr : Zq H gv (l.map strv) q) (hd : ∀ j∈q,j∉p :: own) (hb : bs.length≤10000000) (h : Wtr H p bs own) : ∃ H' own',R (n+4) YN [pt p,gv] H=some (pt p,H')∧Wtr H' p (bs++Zfb l) own'∧Zw (p :: own) H (p :: own') H':=by
 have hlen : ZC gv H=some (iv l.length,H):=by have:=hr.rd.len (H':=H);simpa using this
 have hm : mxi false (iv l.length) (.int .i64 65535) H=some (iv l.length,H):=by
  rw [Ye,if_neg (by omega)]
 obtain ⟨sv,e1,s1,o1⟩:=hr.whole
 rw [List.length_map] at e1
 have hsl : ∀ Y,ZC sv Y=some (iv l.length,Y):=fun Y=>by have:=s1.len (H':=Y);simpa using this
 have c1 : cvi .u16 (iv l.length) H=some (.int .u16 l.length,H):=by rw [Ql,Zq9,Int.emod_eq_of_lt (by omega) (by omega)]
 obtain ⟨X1,own1',e2,w2,st2⟩:=Zn8 (n:=n+1) (x:=l.length) (by omega) (by omega) h
 have e2 : R (n+3) Yj [pt p,.int .u16 l.length] H=_:=e2
 have hs1 : Sl X1 sv (l.map strv):=s1.keep fun i hi=>st2.keep i (hr.lt i (o1 i hi)) (hd i (o1 i hi))
 have hd1 : ∀ i,A.own1 sv=some i→i∉p :: own1'∧i < X1.length:=fun i hi=>⟨fun hm=>by
  rcases st2.own i hm with h1 | h1
  ·exact hd i (o1 i hi) h1
  ·have:=hr.lt i (o1 i hi);omega,Nat.lt_of_lt_of_le (hr.lt i (o1 i hi)) st2.len⟩
 obtain ⟨X2,own2,e3,w3,st3⟩:=Zq1 (n:=n) (p:=p) hl hn l.length 0 (bs++le l.length 2) own1' X1 (by omega) (by omega) hs1 hd1 (by rw [List.length_append,Zal];omega) w2
 rw [show iv ((0 : Nat) : Int)=.int .i64 0 from rfl] at e3
 rw [List.drop_zero,List.append_assoc] at w3
 refine ⟨X2,own2,?_,w3,st2.trans st3⟩
 rw [R,Zip rfl]
 unfold Yd
 rw [Za hlen,Za hm,Za e1,Za (hsl _),Za c1,Za e2,Za (hsl _),ZS e3,Zv]
 rfl
theorem ZwE {u : Zm} : ZfI (ZG u)=txt u.nm++(txt u.hs++(txt u.ml++(Zel u.ds++Zfb u.gs))):=rfl
theorem Zbb {o1 o2 : List Nat} (hs : Zw o1 X o2 X') {q : List Nat} (hl : ∀ j∈q,j < X.length) (hd : ∀ j∈q,j∉o1) : ∀ j∈q,j∉o2:=fun j hj hm=>by
 rcases hs.own j hm with h1 | h1
 ·exact hd j hj h1
 ·have:=hl j hj;omega
theorem ZvS (he : QR u=0) (hr : Zq H u.gv (u.gs.map strv) q) (hd : ∀ j∈q,j∉p :: own) (hb : bs.length≤1000000) (h : Wtr H p bs own) : ∃ H' own',R (n+11) ZeM [pt p,iv 2,.agg u.cells.toArray] H=some (.bool true,H')∧Wtr H' p (bs++ZfI (ZG u)) own'∧Zw (p :: own) H (p :: own') H':=by
 obtain ⟨b1,b2,b3,b4,b5,b6⟩:=Zef he
 have hnl:=ZaP b1
 have hhl:=ZqB b2
 have hml:=Zqu b3
 have hgl : ∀ x∈u.gs,x.length≤1000:=fun x hx=>by have:=ZaP (List.all_eq_true.1 b5 x hx);omega
 have ok0 : UOK H u:=⟨hr.rd,hr.one.1,by omega⟩
 have e1:=ok0.cells1
 have k1 : HLe H (H++[.cells u.cells 1 false false]):=.app _ _
 have c1 : (H++[Zd.cells u.cells 1 false false])[H.length]?=some (.cells u.cells 1 false false):=Zx
 have hne : H.length∉p :: own:=fun hm=>Nat.lt_irrefl _ (h.lt _ hm)
 have hq1:=hr.lt
 generalize H++[Zd.cells u.cells 1 false false]=X1 at e1 k1 c1
 have d1 : ldA 5 (pt H.length) X1=some (.agg u.cells.toArray,X1):=Z9 (n:=5) c1 rfl
 obtain ⟨X2,e2,k2⟩:=Zez (n:=n) (ok0.hle k1)
 rw [he] at e2
 have c2:=k2 _ _ c1
 have k12:=k1.trans k2
 have q1 : bop .int .neq (iv 0) (.int .i64 0) X2=some (.bool false,X2):=by rw [Zp];rfl
 have w2:=h.hle k12
 have hr2:=hr.step k12.step (by simp)
 generalize H.length=w at e1 c1 hne d1 c2
 obtain ⟨X3,q3,e3,w3,s3⟩:=ZiT (n:=n+7) (s:=u.nm) (by omega) (by omega) w2
 have e3 : R (n+10) Jc [pt p,strv u.nm] X2=_:=e3
 have c3:=s3.get c2 hne
 have hwl:=Z6 c2
 have n3 : w∉p :: q3:=fun hm=>by
  rcases s3.own w hm with h1 | h1
  ·exact hne h1
  ·omega
 have l3 : (txt u.nm).length≤14:=by rw [ZbY];omega
 have l4 : (txt u.hs).length≤14:=by rw [ZbY];omega
 have l5 : (txt u.ml).length≤22:=by rw [ZbY];omega
 obtain ⟨X4,q4,e4,w4,s4⟩:=ZiT (n:=n+7) (s:=u.hs) (by omega) (by rw [List.length_append];omega) w3
 have e4 : R (n+10) Jc [pt p,strv u.hs] X3=_:=e4
 have c4:=s4.get c3 n3
 have hwl3:=Z6 c3
 have n4 : w∉p :: q4:=fun hm=>by
  rcases s4.own w hm with h1 | h1
  ·exact n3 h1
  ·omega
 obtain ⟨X5,q5,e5,w5,s5⟩:=ZiT (n:=n+7) (s:=u.ml) (by omega) (by rw [List.length_append,List.length_append];omega) w4
 have e5 : R (n+10) Jc [pt p,strv u.ml] X4=_:=e5
 have c5:=s5.get c4 n4
 have hwl4:=Z6 c4
 have n5 : w∉p :: q5:=fun hm=>by
  rcases s5.own w hm with h1 | h1
  ·exact n4 h1
  ·omega
 obtain ⟨X6,q6,e6,w6,s6⟩:=ZtC (n:=n+7) (b:=u.ds) (by rw [List.length_append,List.length_append,List.length_append];omega) w5
 have e6 : R (n+10) KB [pt p,.bool u.ds] X5=_:=e6
 have c6:=s6.get c5 n5
 have a2:=hr2.lt
 have r3:=hr2.step s3 hd
 have f3:=Zbb s3 a2 hd
 have r4:=r3.step s4 f3
 have f4:=Zbb s4 r3.lt f3
 have r5:=r4.step s5 f4
 have f5:=Zbb s5 r4.lt f4
 have r6:=r5.step s6 f5
 have f6:=Zbb s6 r5.lt f5
 obtain ⟨X7,q7,e7,w7,s7⟩:=Zr9 (n:=n+6) hgl (by omega) r6 f6 (by rw [List.length_append,List.length_append,List.length_append,List.length_append,ZkR];omega) w6
 have e7 : R (n+10) YN [pt p,u.gv] X6=_:=e7
 have q2 : bop .int .eql (iv 2) (.int .i64 2) X4=some (.bool true,X4):=by rw [ZJ];rfl
 have a : ∀ {Y : Zc},Y[w]?=some (.cells u.cells 1 false false)→∀ f x,u.cells[f]?=some x→ld1 (pa w f) Y=some (x,Y):=fun hY f x h=>ZV hY h
 refine ⟨X7,q7,?_,by rw [ZwE];simpa [List.append_assoc] using w7,(k12.stepq).trans ((((s3.trans s4).trans s5).trans s6).trans s7)⟩
 rw [R,ZpH rfl]
 unfold Zis
 rw [Za e1,Za d1,Za e2,Za q1,Zb,if_neg (by simp),Za Zi,Za (a c2 0 _ rfl),Za Zi,Za (a c2 1 _ rfl),Za e3,Za (a c3 1 _ rfl),Qz,Za e4,Za q2]
 refine (QC (vs:=[]) (H':=X7) ?_).trans ?_
 ·rw [Zb,if_pos rfl,Za Zi,Za (a c4 2 _ rfl),Za Zi,Za (a c4 3 _ rfl),Za Zi,Za (a c4 4 _ rfl),Za e5,Za (a c5 4 _ rfl),Qz,Za (a c5 3 _ rfl),Qz,Za e6,Za (a c6 4 _ rfl),Qz,Za e7]
  rfl
 ·rfl
theorem ZqL (hn : us.length≤100) (hE : ∀ u∈us,QR u=0) : ∀ (t k : Nat) (bs : List UInt8) (own : List Nat) (X : Zc),us.length - k=t→k≤us.length→J9 5 X v (us.map Zm.cells) q→(∀ j∈q,j∉p :: own)→(∀ u∈us,∃ qu,Zq X u.gv (u.gs.map strv) qu∧∀ j∈qu,j∉p :: own)→bs.length+t * 137≤100000→Wtr X p bs own→
  ∃ X' own',Zk (c4 (Kx.l1 (R (n+11)))) [pt p,v,iv us.length,iv k] X=some (.ext 0 [pt p],X')∧Wtr X' p (bs++Zaj ((us.drop k).map ZG)) own'∧Zw (p :: own) X (p :: own') X'
 | 0,k,bs,own,X,ht,hk,hr,hd,hu,hb,h=>by
  rw [List.drop_eq_nil_of_le (by omega)]
  refine ⟨X,own,ZI ?_,by simpa [Zaj] using h,.refl _ _⟩
  rw [ZB,show k=us.length by omega]
  unfold Kx.l1
  rw [Za Zg,Zb,if_neg (by simp)]
  rfl
 | t+1,k,bs,own,X,ht,hk,hr,hd,hu,hb,h=>by
  have hkl : k < us.length:=by omega
  have hlt : (k : Int) < us.length:=by omega
  have hg:=List.getElem?_eq_getElem hkl
  have hdr:=List.drop_eq_getElem_cons hkl
  generalize us[k]=u at hg hdr
  have hum:=List.mem_of_getElem? hg
  have he:=hE u hum
  obtain ⟨qu,u1,u2⟩:=hu u hum
  have hf:=fun {K : Value→M Out}=>ZcY (k:=K) hr.rd u1.one.1 hg
  have k1 : HLe X (X++[Zd.cells u.cells 1 false false]):=.app _ _
  have c1 : (X++[Zd.cells u.cells 1 false false])[X.length]?=some (.cells u.cells 1 false false):=Zx
  generalize X++[Zd.cells u.cells 1 false false]=X1 at k1 c1 hf
  have d1 : ldA 5 (pt X.length) X1=some (.agg u.cells.toArray,X1):=Z9 (n:=5) c1 rfl
  obtain ⟨X2,own2,e2,w2,s2⟩:=ZvS (n:=n) he (u1.step k1.step (by simp)) u2 (by omega) (h.hle k1)
  have hgk : Zlj (ZG u):=ZuP (by rw [← Int.toNat_natCast (Wk (ZG u)),← ZiJ,he];rfl)
  have hel:=Zos hgk
  have s12:=(k1.stepq (q:=p :: own)).trans s2
  have hu2 : ∀ u∈us,∃ qu,Zq X2 u.gv (u.gs.map strv) qu∧∀ j∈qu,j∉p :: own2:=fun w hw=>by
   obtain ⟨qw,w1,w2⟩:=hu w hw
   exact ⟨qw,w1.step s12 w2,Zbb s12 w1.lt w2⟩
  obtain ⟨X3,own3,e3,w3,s3⟩:=ZqL hn hE t (k+1) (bs++ZfI (ZG u)) own2 X2 (by omega) (by omega) (hr.step s12 hd) (Zbb s12 hr.lt hd) hu2 (by rw [List.length_append];omega) w2
  refine ⟨X3,own3,(Zu ?_).trans e3,?_,s12.trans s3⟩
  ·rw [ZB]
   unfold Kx.l1
   rw [Za Zg,Zb,if_pos (by simpa using hlt),hf,Za d1,Za e2,Za Zt,Qm (by omega)]
   rfl
  ·rw [hdr]
   unfold Zaj at w3 ⊢
   rw [List.map_cons,List.map_cons,List.flatten_cons,← List.append_assoc]
   exact w3
theorem Zhw (hd : ND X d r s c) : ∃ v q H',R (n+12) WR [pt d] X=some (v,H')∧Zq H' v (u8s (Zf5 (Qk s.K) (A.allK s))) q∧HLe X H'∧∀ j∈q,X.length≤j:=by
 have hgood:=ZwJ hd
 obtain ⟨g1,g2,g3,g4,_,_⟩:=ZuV hgood
 have q0 : bop .ptr .eql (pt d) (.pointer none) X=some (.bool false,X):=JA
 obtain ⟨z1,z2,w0⟩:=Zvi (H:=X)
 have k0 : HLe X (X++[Zd.cells [.slice none 0 0] 1 false false]):=.app _ _
 generalize X++[Zd.cells [.slice none 0 0] 1 false false]=X0 at z2 w0 k0
 generalize hpp : X.length=p at z2 w0
 have hp : ∀ j∈[p],X.length≤j:=fun j hj=>by have : j=p:=(by simpa using hj);omega
 obtain ⟨X1,q1,e1,w1,s1⟩:=ZqR (n:=n+9) (x:=2) (by omega) (by simp) w0
 have e1 : R (n+11) Jv [pt p,.int .u8 2] X0=_:=e1
 have m1:=k0.more s1 hp
 rw [List.nil_append] at w1
 obtain ⟨vg,qg,X2,e2,r2,l2,o2⟩:=Znc (n:=n+7) (hd.hle m1.1)
 have e2 : R (n+11) YH [pt d] X1=_:=e2
 have w2:=w1.hle l2
 have m12:=m1.1.trans l2
 have dg : ∀ j∈qg,j∉p :: q1:=fun j hj hm=>by have:=o2 j hj;have:=w1.lt j hm;omega
 obtain ⟨X3,q3,e3,w3,s3⟩:=Zr9 (n:=n+7) (l:=Qk s.K) (fun x hx=>by have:=g4 x hx;omega) (by omega) r2 dg (by rw [Zal];omega) w2
 have e3 : R (n+11) YN [pt p,vg] X2=_:=e3
 have m3:=m12.more s3 m1.2
 have e4 : R (n+11) KK [pt d] X3=some (iv s.A.length,X3):=ZsH (n:=n+10) (hd.hle m3.1)
 have hfew:=hd.inv.few
 have c4 : cvi .u16 (iv s.A.length) X3=some (.int .u16 s.A.length,X3):=by rw [Ql,Zq9,Int.emod_eq_of_lt (by omega) (by omega)]
 have hlr:=ZjW (b:=12) g4
 have hlr2 : (Qk s.K).length * (12+2)≤6 * (12+2):=Nat.mul_le_mul_right _ g3
 obtain ⟨X4,q4,e5,w4,s4⟩:=Zn8 (n:=n+9) (x:=s.A.length) (by omega) (by rw [List.length_append,Zal];omega) w3
 have e5 : R (n+11) Yj [pt p,.int .u16 s.A.length] X3=_:=e5
 have m4:=m3.1.more s4 m3.2
 obtain ⟨va,qa,us,X5,e6,o6,u6,l6⟩:=ZsT (n:=n+3) (hd.hle m4.1)
 have e6 : R (n+11) Wo [pt d] X4=_:=e6
 have w5:=w4.hle l6
 have hlen : us.length=s.A.length:=by
  have h1:=congrArg List.length u6
  unfold A.allK at h1
  rw [List.length_map,List.length_map,W5] at h1
  simpa using h1
 have hla : ZC va X5=some (iv us.length,X5):=by have:=o6.r.rd.len (H':=X5);rwa [List.length_map] at this
 have hE : ∀ u∈us,QR u=0:=fun u hu=>by
  have:=g1 (ZG u) (by rw [← u6];exact List.mem_map.2 ⟨u,hu,rfl⟩)
  rw [ZiJ,this];rfl
 have da : ∀ j,X4.length≤j→j∉p :: q4:=fun j hj hm=>by have:=w4.lt j hm;omega
 obtain ⟨X6,q6,e7,w6,s6⟩:=ZqL (n:=n) (p:=p) (us:=us) (by omega) hE us.length 0 _ q4 X5 (by omega) (by omega) o6.r (fun j hj=>da j (o6.o j hj)) (fun u hu=>by
  obtain ⟨qu,a1,a2,_⟩:=o6.u u hu
  exact ⟨qu,a1,fun j hj=>da j (a2 j hj).1⟩) (by rw [List.length_append,List.length_append,Zal,Zal];omega) w5
 rw [show iv ((0 : Nat) : Int)=.int .i64 0 from rfl] at e7
 rw [List.drop_zero,u6] at w6
 have m6:=(m4.1.trans l6).more s6 m4.2
 have heq : le 2 1++Zfb (Qk s.K)++le s.A.length 2++Zaj (A.allK s)=Zf5 (Qk s.K) (A.allK s):=by
  unfold Zf5
  have : (A.allK s).length=s.A.length:=by rw [← u6,List.length_map,hlen]
  rw [this]
  simp [List.append_assoc]
 rw [heq] at w6
 have hel:=Zut (fun k hk=>ZuP (g1 k hk)) g2 g3 g4
 obtain ⟨v,qv,X7,e8,r7,l7,o7⟩:=Zud (n:=n+9) (by omega) w6
 have e8 : R (n+11) Ky [pt p] X6=_:=e8
 refine ⟨v,qv,X7,?_,r7,m6.1.trans l7,fun j hj=>by have h1:=o7 j hj;have h2:=m6.1.len;omega⟩
 rw [R,ZmB rfl]
 unfold Kx
 rw [Za q0,Zb,if_neg (by simp),Za z1,Za z2,Za e1,Za e2,Za e3,Za e4,Za c4,Za e5,Za e6,Za hla,ZS e7,Zv,JY,Za e8]
 rfl
end
end Go.Proofs.YtedkoimihknggaaGreatDoor.A

namespace Go.Proofs.YtedkoimihknggaaGreatDoor.A
set_option linter.unusedVariables false
set_option maxRecDepth 100000
set_option linter.unusedSimpArgs false
open Go.Proofs Go.Proofs.YtedkoimihknggaaGreatDoor
section
variable {H X X' : Zc} {n p : Nat} {s : RSt} {sl v : Value} {q : List Nat} {l : List Tx}
theorem Zt3 (h : Rdr H p s) : ∃ H',R (n+5) KD [pt p] H=some (.bool (Kk s).1,H')∧Rdr H' p (Kk s).2∧Zw [p] H [p] H':=by
 obtain ⟨H1,e1,r1,s1⟩:=ZsZ (n:=n) h
 have q1 : bop .int .gtr (.int .u8 (Z4 1 s).1) (.int .u8 1) H1=some (.bool (decide (1 < (Z4 1 s).1)),H1):=by
  rw [ZK,show (decide (((Z4 1 s).1 : Int) > 1))=decide (1 < (Z4 1 s).1) from decide_eq_decide.2 (by omega)]
 have q2 : ∀ Y : Zc,bop .int .eql (.int .u8 (Z4 1 s).1) (.int .u8 1) Y=some (.bool ((Z4 1 s).1==1),Y):=fun Y=>by
  rw [ZJ,show (((Z4 1 s).1 : Int)==1)=((Z4 1 s).1==1) from by rw [Bool.eq_iff_iff];simp;omega]
 unfold Kk
 by_cases hc : 1 < (Z4 1 s).1
 ·obtain ⟨H2,e2,r2,s2⟩:=Zic (n:=n+3) (e:=4) (by omega) r1
  have e2 : R (n+4) ZX [pt p,.int .i64 4] H1=_:=e2
  rw [if_pos hc]
  refine ⟨H2,?_,r2,s1.trans s2⟩
  rw [R,Zct rfl]
  unfold Wx
  rw [Za e1,Za q1]
  refine (QC (vs:=[.int .u8 (Z4 1 s).1]) (H':=H2) ?_).trans ?_
  ·rw [decide_eq_true hc,Zb,if_pos rfl,Za e2];rfl
  ·rw [JY,Za (q2 _)];rfl
 ·rw [if_neg hc]
  refine ⟨H1,?_,r1,s1⟩
  rw [R,Zct rfl]
  unfold Wx
  rw [Za e1,Za q1]
  refine (QC (vs:=[.int .u8 (Z4 1 s).1]) (H':=H1) ?_).trans ?_
  ·rw [decide_eq_false hc,Zb,if_neg (by simp)];rfl
  ·rw [JY,Za (q2 _)];rfl
theorem ZkB {long : Nat} : ∀ {k : Nat} {s : RSt},(Qv long k s).1.length=k
 | 0,s=>rfl
 | k+1,s=>by unfold Qv;rw [List.length_cons,ZkB]
theorem ZqC {N long : Nat} (hN : N≤100000) (hl : long≤1000000) : ∀ (t j : Nat) (s : RSt) (sl : Value) (q : List Nat) (acc : List Tx) (X : Zc),N - j=t→j≤N→acc.length≤j→Zq X sl (acc.map strv) q→(∀ i∈q,p < i)→Rdr X p s→
  ∃ X' sl' q',Zk (c5 (JS.l1 (R (n+6)))) [pt p,iv long,sl,iv N,iv j] X=some (.ext 0 [pt p,sl'],X')∧Zq X' sl' ((acc++(Qv long t s).1).map strv) q'∧Rdr X' p (Qv long t s).2∧(∀ i∈q',p < i)∧Zw (p :: q) X (p :: q') X'
 | 0,j,s,sl,q,acc,X,ht,hj,ha,hr,hq,h=>by
  refine ⟨X,sl,q,ZI ?_,by simpa [Qv] using hr,h,hq,.refl _ _⟩
  rw [ZM,show j=N by omega]
  unfold JS.l1
  rw [Za Zg,Zb,if_neg (by simp)]
  rfl
 | t+1,j,s,sl,q,acc,X,ht,hj,ha,hr,hq,h=>by
  have hlt : (j : Int) < N:=by omega
  obtain ⟨X1,e1,r1,s1⟩:=Zlb (n:=n) hl h
  have hr1:=hr.step s1 (fun i hi hm=>by have:=hq i hi;simp only [List.mem_singleton] at hm;omega)
  have x4:=Zrp (es:=1) (z:=.string ⟨#[]⟩) (v:=strv (Qs long s).1) (H:=X1) rfl rfl rfl
  have k2 : HLe X1 (X1++[Zd.cells [strv (Qs long s).1] 1 false false]):=.app _ _
  have s2 : Sl (X1++[Zd.cells [strv (Qs long s).1] 1 false false]) (.slice (some ⟨X1.length,0,none⟩) 1 1) [strv (Qs long s).1]:=Sl.one (c:=1) Zx
  generalize X1++[Zd.cells [strv (Qs long s).1] 1 false false]=X2 at x4 k2 s2
  have hr2:=hr1.step k2.step (by simp)
  obtain ⟨sl',X3,q',x5,hr3,s3,_⟩:=hr2.push (b:=16) s2 (by simp;omega) (by simp;omega)
  have hr3' : Zq X3 sl' ((acc++[(Qs long s).1]).map strv) q':=by rw [List.map_append];exact hr3
  have hp1:=r1.lt
  have hp2:=(r1.hle k2).lt
  have hq3 : ∀ i∈q',p < i:=fun i hi=>by
   rcases s3.own i hi with h1 | h1
   ·exact hq i h1
   ·omega
  have r3:=(r1.hle k2).step s3 hq
  obtain ⟨X4,sl4,q4,e4,r4,d4,o4,st4⟩:=ZqC hN hl t (j+1) (Qs long s).2 sl' q' (acc++[(Qs long s).1]) X3 (by omega) (by omega) (by rw [List.length_append,List.length_singleton];omega) hr3' hq3 r3
  refine ⟨X4,sl4,q4,(Zu ?_).trans e4,by unfold Qv;simpa using r4,d4,o4,?_⟩
  ·rw [ZM]
   unfold JS.l1
   rw [Za Zg,Zb,if_pos (by simpa using hlt),Za e1,Za x4,Za x5,Za Zt,Qm (by omega)]
   rfl
  ·refine Zw.trans ?_ st4
   have a1 : Zw (p :: q) X (p :: q) X1:=s1.more (by simp) (fun i hi=>.inl hi)
   have a2 : Zw (p :: q) X1 (p :: q) X2:=k2.stepq
   have a3 : Zw (p :: q) X2 (p :: q') X3:=s3.more (fun i hi=>List.mem_cons_of_mem _ hi) (fun i hi=>by
    rcases List.mem_cons.1 hi with rfl | hi
    ·exact .inl (by simp)
    ·exact .inr (.inl hi))
   exact (a1.trans a2).trans a3
theorem Zsl {most long : Nat} (hm : most≤1000000) (hl : long≤1000000) (h : Rdr H p s) : ∃ v q H',R (n+7) YM [pt p,iv most,iv long] H=some (v,H')∧Zq H' v ((Kh most long s).1.map strv) q∧Rdr H' p (Kh most long s).2∧(∀ j∈q,H.length≤j)∧Zw [p] H [p] H':=by
 obtain ⟨H1,e1,r1,s1⟩:=ZoX (n:=n+1) hm h
 have e1 : R (n+6) Yf [pt p,iv most] H=_:=e1
 have hc:=Zia (s:=s) (most:=most)
 obtain ⟨H2,sl,q,e2,r2,d2,o2,s2⟩:=ZqC (n:=n) (p:=p) (N:=(Qn most s).1) (by omega) hl (Qn most s).1 0 (Qn most s).2 (.slice none 0 0) [] [] H1 (by omega) (by omega) (by simp) Zq.nil (by simp) r1
 rw [show iv ((0 : Nat) : Int)=.int .i64 0 from rfl] at e2
 rw [List.nil_append] at r2
 have hfresh : ∀ j∈q,H.length≤j:=fun j hj=>by
  rcases s2.own j (by simp [hj]) with h1 | h1
  ·simp only [List.mem_singleton] at h1
   have:=o2 j hj;omega
  ·exact Nat.le_trans s1.len h1
 have hst : Zw [p] H [p] H2:=⟨Nat.le_trans s1.len s2.len,fun j hj hn=>by
  have h1:=s1.keep j hj hn
  have h2 : j < H1.length:=Nat.lt_of_lt_of_le hj s1.len
  rw [s2.keep j h2 hn,h1],fun j hj=>.inl hj⟩
 have hcell : ∃ sv,H2[p]?=some (.cells [sv,iv (Qv long (Qn most s).1 (Qn most s).2).2.1] 1 false false):=by
  obtain ⟨sv,hcc,_⟩:=d2
  exact ⟨sv,hcc⟩
 obtain ⟨sv,hcc⟩:=hcell
 have a1 : ld1 (pa p 1) H2=some (iv (Qv long (Qn most s).1 (Qn most s).2).2.1,H2):=ZV hcc rfl
 have q1 : bop .int .neq (iv (Qv long (Qn most s).1 (Qn most s).2).2.1) (.int .i64 0) H2=some (.bool ((Qv long (Qn most s).1 (Qn most s).2).2.1 !=0),H2):=by rw [Zp,Zam]
 unfold Kh
 by_cases h0 : (Qv long (Qn most s).1 (Qn most s).2).2.1=0
 ·rw [if_pos h0]
  refine ⟨sl,q,H2,?_,r2,d2,hfresh,hst⟩
  rw [R,Zdz rfl]
  unfold JS
  rw [Za e1,ZS e2,Zv,ZW,Za Zs,Za Zi,Za a1,Za q1,Zb,if_neg (by simp [h0])]
  rfl
 ·rw [if_neg h0]
  refine ⟨.slice none 0 0,[],H2,?_,Zq.nil,d2,by simp,hst⟩
  rw [R,Zdz rfl]
  unfold JS
  rw [Za e1,ZS e2,Zv,ZW,Za Zs,Za Zi,Za a1,Za q1,Zb,if_pos (by simp [h0])]
  rfl
theorem Zgf {most long : Nat} : (Kh most long s).1.length≤65535:=by
 unfold Kh
 have:=Zia (s:=s) (most:=most)
 simp only []
 split
 ·rw [ZkB];omega
 ·simp
theorem Zu2 (h : Rdr H p s) : ∃ u q H',R (n+11) ZbX [pt p,iv 2] H=some (.agg (Zm.cells u).toArray,H')∧ZG u=(Zag s).1∧Zq H' u.gv (u.gs.map strv) q∧(∀ j∈q,H.length≤j)∧u.gs.length≤65535∧Rdr H' p (Zag s).2∧Zw [p] H [p] H':=by
 have z0 : alc 1 zU H=some (pt H.length,H++[.cells (usr ([],[])) 1 false false]):=Zc8 (vs:=usr ([],[])) rfl
 have k0 : HLe H (H++[.cells (usr ([],[])) 1 false false]):=.app _ _
 have c0 : (H++[Zd.cells (usr ([],[])) 1 false false])[H.length]?=some (.cells (usr ([],[])) 1 false false):=Zx
 have hlt:=h.lt
 have hn0 : H.length≠p:=by omega
 generalize H++[Zd.cells (usr ([],[])) 1 false false]=X0 at z0 k0 c0
 have hlt4 : p < H.length:=hlt
 generalize hal : H.length=a at z0 c0 hn0 hlt4
 have q1 : bop .int .neq (iv 2) (.int .i64 1) X0=some (.bool true,X0):=by rw [Zp];rfl
 have q1' : bop .int .neq (iv 2) (.int .i64 2) X0=some (.bool false,X0):=by rw [Zp];rfl
 obtain ⟨X1,e1,r1,s1⟩:=Zlb (n:=n+4) (most:=65535) (by omega) (h.hle k0)
 have e1 : R (n+10) Jb [pt p,.int .i64 65535] X0=_:=e1
 obtain ⟨X2,e2,r2,s2⟩:=Zlb (n:=n+4) (most:=65535) (by omega) r1
 have e2 : R (n+10) Jb [pt p,.int .i64 65535] X1=_:=e2
 have c2:=(s1.trans s2).get c0 (by simpa using hn0)
 unfold Zag Zfc
 simp only
 generalize Qs 65535 s=T1 at e1 r1 e2 r2 ⊢
 obtain ⟨nm,t1⟩:=T1
 simp only at e1 r1 e2 r2 ⊢
 generalize Qs 65535 t1=T2 at e2 r2 ⊢
 obtain ⟨hs,t2⟩:=T2
 simp only at e2 r2 ⊢
 have z3:=Zvp (k:=nm) (s:=hs) (H:=X2)
 have z4 : ∀ {β : Type} (K : Value→M β),bind (alc 1 zU) (fun q=>bind (stA 5 q (.agg (usr (nm,hs)).toArray)) fun _=>K q) X2=K (pt X2.length) (X2++[.cells (usr (nm,hs)) 1 false false]):=fun K=>Zcl (n:=5) (zs:=[.string ⟨#[]⟩,.string ⟨#[]⟩,.string ⟨#[]⟩,.bool false,.slice none 0 0]) (r:=usr (nm,hs)) rfl rfl rfl rfl
 have k3 : HLe X2 (X2++[.cells (usr (nm,hs)) 1 false false]):=.app _ _
 have c3 : (X2++[Zd.cells (usr (nm,hs)) 1 false false])[X2.length]?=some (.cells (usr (nm,hs)) 1 false false):=Zx
 have hn3 : X2.length≠p:=by have:=r2.lt;omega
 have hac : a < X2.length:=Z6 c2
 have hpc : p < X2.length:=r2.lt
 generalize X2++[Zd.cells (usr (nm,hs)) 1 false false]=X3 at z4 k3 c3
 generalize X2.length=c at z4 c3 hn3 hac hpc
 have r3:=r2.hle k3
 have c03:=k3 _ _ c2
 have q2 : bop .int .eql (iv 2) (.int .i64 2) X3=some (.bool true,X3):=by rw [ZJ];rfl
 have s03 : Zw [p] H [p] X3:=(k0.stepq.trans (s1.trans s2)).trans k3.stepq
 obtain ⟨X4,e4,r4,s4⟩:=Zlb (n:=n+4) (most:=65535) (by omega) r3
 have e4 : R (n+10) Jb [pt p,.int .i64 65535] X3=_:=e4
 generalize Qs 65535 t2=T3 at e4 r4 ⊢
 obtain ⟨ml,t3⟩:=T3
 simp only at e4 r4 ⊢
 obtain ⟨X5,e5,r5,s5⟩:=Zt3 (n:=n+5) r4
 have e5 : R (n+10) KD [pt p] X4=_:=e5
 generalize Kk t3=T4 at e5 r5 ⊢
 obtain ⟨ds,t4⟩:=T4
 simp only at e5 r5 ⊢
 obtain ⟨gv,q,X6,e6,g6,r6,o6,s6⟩:=Zsl (n:=n+3) (most:=65535) (long:=65535) (by omega) (by omega) r5
 have e6 : R (n+10) YM [pt p,.int .i64 65535,.int .i64 65535] X5=_:=e6
 have hgl:=Zgf (most:=65535) (long:=65535) (s:=t4)
 generalize Kh 65535 65535 t4=T5 at e6 g6 r6 hgl ⊢
 obtain ⟨gs,t5⟩:=T5
 simp only at e6 g6 r6 hgl ⊢
 have s46 : Zw [p] X3 [p] X6:=(s4.trans s5).trans s6
 have c36:=s46.get c3 (by simpa using hn3)
 have c06:=s46.get c03 (by simpa using hn0)
 have hq6 : ∀ j∈q,c < j:=fun j hj=>by
  have h1:=o6 j hj
  have h2:=Z6 ((s4.trans s5).get c3 (by simpa using hn3))
  omega
 have w1 : st1 (pa c 2) (strv ml) X6=some (undef,X6.set c (.cells [strv nm,strv hs,strv ml,.bool false,.slice none 0 0] 1 false false)):=ZaH (o:=2) c36 (by simp [usr]) rfl
 have w2 : st1 (pa c 3) (.bool ds) (X6.set c (.cells [strv nm,strv hs,strv ml,.bool false,.slice none 0 0] 1 false false))=some (undef,(X6.set c (.cells [strv nm,strv hs,strv ml,.bool false,.slice none 0 0] 1 false false)).set c (.cells [strv nm,strv hs,strv ml,.bool ds,.slice none 0 0] 1 false false)):=ZaH (o:=3) (ZT c36) (by simp) rfl
 rw [List.set_set] at w2
 have w3 : st1 (pa c 4) gv (X6.set c (.cells [strv nm,strv hs,strv ml,.bool ds,.slice none 0 0] 1 false false))=some (undef,(X6.set c (.cells [strv nm,strv hs,strv ml,.bool ds,.slice none 0 0] 1 false false)).set c (.cells [strv nm,strv hs,strv ml,.bool ds,gv] 1 false false)):=ZaH (o:=4) (ZT c36) (by simp) g6.one.1
 rw [List.set_set] at w3
 let u : Zm:=⟨nm,hs,ml,ds,gv,gs⟩
 have c37 : (X6.set c (.cells u.cells 1 false false))[c]?=some (.cells u.cells 1 false false):=ZT c36
 have c07 : (X6.set c (.cells u.cells 1 false false))[a]?=some (.cells (usr ([],[])) 1 false false):=(List.getElem?_set_ne (by omega)).trans c06
 have r7 : Rdr (X6.set c (.cells u.cells 1 false false)) p t5:=r6.other hpc
 have g7 : Zq (X6.set c (.cells u.cells 1 false false)) gv (gs.map strv) q:=g6.keep fun j hj=>List.getElem?_set_ne (by have:=hq6 j hj;omega)
 have s07 : Zw [p] H [p] (X6.set c (.cells u.cells 1 false false)):=by
  have h1:=s03.trans s46
  refine ⟨by rw [List.length_set];exact h1.len,fun j hj hm=>?_,fun j hj=>.inl hj⟩
  rw [List.getElem?_set_ne (by omega),h1.keep j hj hm]
 have w3 : st1 (pa c 4) gv (X6.set c (.cells [strv nm,strv hs,strv ml,.bool ds,.slice none 0 0] 1 false false))=some (undef,X6.set c (.cells u.cells 1 false false)):=w3
 generalize X6.set c (.cells u.cells 1 false false)=X7 at w3 c37 c07 r7 g7 s07
 have hoku : UOK X7 u:=⟨g7.rd,g7.one.1,by show gs.length≤1000000;omega⟩
 have f1 : ∀ v H',ZeO (R (n+10)) (pt p) (iv 2) H=some (v,H')→R (n+11) ZbX [pt p,iv 2] H=some (v,H'):=fun v H' hr=>by rw [R,ZjN rfl];exact hr
 have e8:=Zn1 (n:=n+9) r7
 have e8 : R (n+10) QO [pt p] X7=some (iv t5.1,X7):=e8
 have hck : ((nm,hs,ml,ds,gs) : YG)=ZG u:=rfl
 rw [hck]
 have hC : ∃ X8,(cnd (Value.bool (t5.1==0)) (bind (ldA 5 (pt c)) fun v36=>bind (R (n+10) KY [iv 2,v36]) fun v37=>bind (R (n+10) ZX [pt p,v37]) fun v38=>ret (Out.nrm [pt p,pt a,pt c])) (ret (Out.nrm [pt p,pt a,pt c]))) X7=some (Out.nrm [pt p,pt a,pt c],X8)∧Rdr X8 p (QS (Wk (ZG u)) t5)∧Zw [p] X7 [p] X8:=by
  by_cases h0 : t5.1=0
  ·have d3 : ldA 5 (pt c) X7=some (.agg u.cells.toArray,X7):=Z9 (n:=5) c37 rfl
   obtain ⟨X8,e9,k9⟩:=Zez (n:=n) hoku
   rw [ZiJ] at e9
   obtain ⟨X9,e10,r10,s10⟩:=Zic (n:=n+9) (e:=Wk (ZG u)) (by have:=ZqO (k:=ZG u);omega) (r7.hle k9)
   have e10 : R (n+10) ZX [pt p,iv (Wk (ZG u))] X8=_:=e10
   refine ⟨X9,?_,r10,k9.stepq.trans s10⟩
   rw [Zb,if_pos (by simp [h0]),Za d3,Za e9,Za e10]
   rfl
  ·have hfs : QS (Wk (ZG u)) t5=t5:=by unfold QS;rw [if_neg (fun h=>h0 h.1)]
   rw [hfs]
   refine ⟨X7,?_,r7,.refl _ _⟩
   rw [Zb,if_neg (by simp [h0])]
   rfl
 obtain ⟨X8,e9,r9,s9⟩:=hC
 have e10:=Zn1 (n:=n+9) r9
 have e10 : R (n+10) QO [pt p] X8=_:=e10
 have c38:=s9.get c37 (by simpa using hn3)
 have c08:=s9.get c07 (by simpa using hn0)
 have g8:=g7.step s9 (fun j hj hm=>by have:=hq6 j hj;simp only [List.mem_singleton] at hm;omega)
 have s08:=s07.trans s9
 have d4 : ldA 5 (pt c) X8=some (.agg u.cells.toArray,X8):=Z9 (n:=5) c38 rfl
 have q3 : bop .int .eql (iv t5.1) (.int .i64 0) X7=some (.bool (t5.1==0),X7):=by rw [ZJ,Zb9]
 generalize QS (Wk (ZG u)) t5=r' at r9 e10 ⊢
 have q4 : bop .int .neq (iv r'.1) (.int .i64 0) X8=some (.bool (r'.1 !=0),X8):=by rw [Zp,Zam]
 have hfin : ∀ (w : Zm),oneCell w.gv=true→(stA 5 (pt a) (.agg w.cells.toArray) X8=some (undef,X8.set a (.cells w.cells 1 false false))∧ldA 5 (pt a) (X8.set a (.cells w.cells 1 false false))=some (.agg w.cells.toArray,X8.set a (.cells w.cells 1 false false))∧Zw [p] H [p] (X8.set a (.cells w.cells 1 false false))∧Rdr (X8.set a (.cells w.cells 1 false false)) p r'):=fun w hw=>
  ⟨YX (vs:=w.cells) (n:=5) c08 rfl rfl (Zm1 hw),Z9 (n:=5) (ZT c08) rfl,⟨by rw [List.length_set];exact s08.len,fun j hj hm=>by rw [List.getElem?_set_ne (by omega),s08.keep j hj hm],fun j hj=>.inl hj⟩,r9.other (by omega)⟩
 have hpre : ∀ o,(cnd (Value.bool (r'.1 !=0)) (bind (bld zU []) fun v42=>bind (stA 5 (pt a) v42) fun _=>bind (ldA 5 (pt a)) fun vr=>ret vr) (bind (ldA 5 (pt c)) fun v43=>bind (stA 5 (pt a) v43) fun _=>bind (ldA 5 (pt a)) fun vr=>ret vr)) X8=o→R (n+11) ZbX [pt p,iv 2] H=o:=fun o ho=>by
  rw [R,ZjN rfl]
  unfold ZeO
  rw [Za z0,Za q1,ZL,Zf,Za q1',ZO,ZW,Za Zh]
  simp only [cond_true]
  rw [Zb,if_neg (by simp),Za e1,Za e2,Za z3,z4,Za q2]
  refine (QC (vs:=[pt p,iv 2,pt a,pt c]) (H':=X7) ?_).trans ?_
  ·rw [Zb,if_pos rfl,Za e4,Za e5,Za e6,Za Zi,Za w1,Za Zi,Za w2,Za Zi,Za w3];rfl
  ·rw [ZB,Za e8,Za q3]
   refine (QC e9).trans ?_
   rw [ZR,Za e10,Za q4]
   exact ho
 by_cases h0 : r'.1=0
 ·rw [if_pos h0]
  obtain ⟨f1',f2,f3,f4⟩:=hfin u g6.one.1
  refine ⟨u,q,_,hpre _ ?_,rfl,g8.keep fun j hj=>List.getElem?_set_ne (by have:=hq6 j hj;omega),fun j hj=>by have:=hq6 j hj;omega,hgl,f4,f3⟩
  rw [Zb,if_neg (by simp [h0]),Za d4,Za f1',Za f2]
  rfl
 ·rw [if_neg h0]
  obtain ⟨f1',f2,f3,f4⟩:=hfin ZuB rfl
  refine ⟨ZuB,[],_,hpre _ ?_,rfl,Zq.nil,by simp,by decide,f4,f3⟩
  have zb : bld zU [] X8=some (.agg ZuB.cells.toArray,X8):=rfl
  rw [Zb,if_pos (by simp [h0]),Za zb,Za f1',Za f2]
  rfl
end
end Go.Proofs.YtedkoimihknggaaGreatDoor.A

namespace Go.Proofs.YtedkoimihknggaaGreatDoor.A
set_option linter.unusedVariables false
set_option maxRecDepth 100000
set_option linter.unusedSimpArgs false
open Go.Proofs Go.Proofs.YtedkoimihknggaaGreatDoor
theorem KE.step {X0 X X' : Zc} {sl : Value} {us : List Zm} {q o1 o2 : List Nat} (h : KE X0 X sl us q) (hs : Zw o1 X o2 X') (hd : ∀ j,X0.length≤j→j∉o1) : KE X0 X' sl us q:=
 ⟨h.r.step hs fun j hj=>hd j (h.o j hj),h.o,fun w hw=>by
  obtain ⟨qu,h1,h2,h3⟩:=h.u w hw
  exact ⟨qu,h1.step hs fun j hj=>hd j (h2 j hj).1,h2,h3⟩,h.un⟩
section
variable {H X X' X0 : Zc} {n p : Nat} {s : RSt} {sl v vg bv : Value} {q qg : List Nat} {l gl : List Tx} {bs : List UInt8}
theorem ZoT {N : Nat} (hN : N≤12) (hp : p < X0.length) (hqg : ∀ j∈qg,j≠p∧j < X0.length) : ∀ (t j : Nat) (s : RSt) (sl : Value) (q : List Nat) (acc : List Zm) (X : Zc),N - j=t→j≤N→acc.length≤j→X0.length≤X.length→KE X0 X sl acc q→Zq X vg (gl.map strv) qg→Rdr X p s→
  ∃ X' sl' q' us,Zk (c5 (YW.l1 (R (n+12)))) [pt p,vg,sl,iv N,iv j] X=some (.ext 0 [pt p,vg,sl'],X')∧KE X0 X' sl' (acc++us) q'∧us.map ZG=(Kj t s).1∧Zq X' vg (gl.map strv) qg∧Rdr X' p (Kj t s).2∧Zw (p :: q) X (p :: q') X'
 | 0,j,s,sl,q,acc,X,ht,hj,ha,hX,ho,hg,h=>by
  refine ⟨X,sl,q,[],ZI ?_,by rw [List.append_nil];exact ho,rfl,hg,h,.refl _ _⟩
  rw [ZM,show j=N by omega]
  unfold YW.l1
  rw [Za Zg,Zb,if_neg (by simp)]
  rfl
 | t+1,j,s,sl,q,acc,X,ht,hj,ha,hX,ho,hg,h=>by
  have hlt : (j : Int) < N:=by omega
  obtain ⟨u,qu,X1,e1,k1,r1,o1,gl1,d1,s1⟩:=Zu2 (n:=n+1) h
  have ho1:=ho.step s1 (fun j hj hm=>by simp only [List.mem_singleton] at hm;omega)
  have hg1:=hg.step s1 (fun j hj hm=>by simp only [List.mem_singleton] at hm;exact (hqg j hj).1 hm)
  obtain ⟨x,X2,sl',X3,q',a1,a2,ho3,s3⟩:=ho1.push0 (w:=u) (by omega) r1 (fun i hi=>⟨by have:=o1 i hi;omega,fun hm=>by have:=ho.r.lt i hm;have:=o1 i hi;omega⟩) (by omega) (fun a ha i hi hm=>by obtain ⟨qa,b1,_,_⟩:=ho.u a ha;have h1:=b1.lt i (b1.own_of hi);have h2:=o1 i hm;omega) (Nat.le_trans hX s1.len)
  have hg3:=hg1.step s3 (fun j hj hm=>by have:=ho.o j hm;have:=(hqg j hj).2;omega)
  have d3:=d1.step s3 (fun j hj=>by have:=ho.o j hj;omega)
  obtain ⟨X4,sl4,q4,us4,e4,ho4,k4,hg4,d4,s4⟩:=ZoT hN hp hqg t (j+1) (Zag s).2 sl' q' (acc++[u]) X3 (by omega) (by omega) (by rw [List.length_append,List.length_singleton];omega) (Nat.le_trans hX (Nat.le_trans s1.len s3.len)) ho3 hg3 d3
  refine ⟨X4,sl4,q4,u :: us4,(Zu ?_).trans e4,by rw [List.append_assoc] at ho4;exact ho4,?_,hg4,d4,?_⟩
  ·rw [ZM]
   unfold YW.l1
   rw [Za Zg,Zb,if_pos (by simpa using hlt),Za e1,Za a1,Za a2,Za Zt,Qm (by omega)]
   rfl
  ·unfold Kj
   rw [List.map_cons,k1,k4]
  ·have b1 : Zw (p :: q) X (p :: q) X1:=s1.more (fun i hi=>by simp at hi;simp [hi]) (fun i hi=>.inl hi)
   have b2 : Zw (p :: q) X1 (p :: q') X3:=s3.more (fun i hi=>List.mem_cons_of_mem _ hi) (fun i hi=>by
    rcases List.mem_cons.1 hi with rfl | hi
    ·exact .inl (by simp)
    ·exact .inr (.inl hi))
   exact (b1.trans b2).trans s4
theorem Zhu : ∀ (k : Nat) (s : RSt),(Kj k s).1.length=k
 | 0,s=>rfl
 | k+1,s=>by unfold Kj;rw [List.length_cons,Zhu]
theorem Zp1 (hs : Sl X bv (u8s bs)) (hb : bs.length≤100000000) : ∃ dv X',R (n+13) Zap [bv] X=some (.tuple #[dv,iv (KQ bs).1],X')∧HLe X X'∧((KQ bs).1≠0→dv=.pointer none)∧((KQ bs).1=0→∃ d r s c us,dv=pt d∧OfS X X' d r s c (KQ bs).2.1 us∧us.map ZG=(KQ bs).2.2):=by
 obtain ⟨p,X0,e0,r0,k0,hp0⟩:=Zrl (n:=n+10) hs (by omega)
 have e0 : R (n+12) Zdb [bv] X=_:=e0
 obtain ⟨X1,e1,r1,s1⟩:=ZsZ (n:=n+8) r0
 have e1 : R (n+12) Y9 [pt p] X0=_:=e1
 have hpo : ∀ j∈[p],X.length≤j:=by simpa using hp0
 have m1:=k0.more s1 hpo
 have e2 : R (n+12) QO [pt p] X1=_:=Zn1 (n:=n+11) r1
 have f1 : ∀ v X',YW (R (n+12)) bv X=some (v,X')→R (n+13) Zap [bv] X=some (v,X'):=fun v X' hr=>by rw [R,ZgM rfl];exact hr
 unfold KQ
 simp only
 generalize Z4 1 (0,bs)=B at e1 r1 e2 ⊢
 obtain ⟨b0,t1⟩:=B
 simp only at e1 r1 e2 ⊢
 have q1 : bop .int .eql (iv t1.1) (.int .i64 0) X1=some (.bool (t1.1==0),X1):=by rw [ZJ,Zb9]
 have q2 : bop .int .neq (.int .u8 b0) (.int .u8 2) X1=some (.bool (b0 !=2),X1):=by
  rw [Zp,show ((b0 : Int) !=2)=(b0 !=2) from by rw [Bool.eq_iff_iff];simp;omega]
 have hgate : ∀ K : Value→M Value,bind (ZU (.bool (t1.1==0)) true 2 (bind (bop .int .neq (.int .u8 b0) (.int .u8 2)) fun v21=>ret [.int .u8 b0,v21])) (c2 fun _ q=>bind (pick (.bool (t1.1==0)) q (.bool false)) K) X1=K (.bool ((t1.1==0) && (b0 !=2))) X1:=fun K=>by
  cases t1.1==0
  ·rw [Za (g_r.trans (if_neg (by simp)))]
   simp only [List.replicate]
   rw [ZW,Za Zh]
   rfl
  ·rw [ZL,Zf,Za q2,ZO,ZW,Za Zh]
   rfl
 by_cases hbad : t1.1=0∧b0≠2
 ·rw [if_pos hbad]
  have hbb : ((t1.1==0) && (b0 !=2))=true:=by simp [hbad]
  rw [hbb] at hgate
  refine ⟨.pointer none,X1,f1 _ _ ?_,m1.1,fun _=>rfl,fun h=>absurd h (by simp)⟩
  unfold YW
  rw [Za e0,Za e1,Za e2,Za q1]
  refine (hgate _).trans ?_
  rw [Zb,if_pos rfl]
  rfl
 ·rw [if_neg hbad]
  have hbb : ((t1.1==0) && (b0 !=2))=false:=by
   cases h1 : (t1.1==0) <;> cases h2 : (b0 !=2) <;> simp at h1 h2 ⊢
   exact hbad ⟨h1,h2⟩
  rw [hbb] at hgate
  obtain ⟨vg,qg,X2,e3,g3,r3,o3,s3⟩:=Zsl (n:=n+5) (most:=6) (long:=12) (by omega) (by omega) r1
  have e3 : R (n+12) YM [pt p,.int .i64 6,.int .i64 12] X1=_:=e3
  obtain ⟨X3,e4,r4,s4⟩:=ZuT (n:=n+8) r3
  have e4 : R (n+12) Kp [pt p] X2=_:=e4
  have m3:=m1.1.more (s3.trans s4) hpo
  have hpl:=r1.lt
  have hg4:=g3.step s4 (fun j hj hm=>by have:=o3 j hj;simp only [List.mem_singleton] at hm;omega)
  have hnl:=ZbV (s:=(Kh 6 12 t1).2) (k:=2)
  have hrl : (Kh 6 12 t1).1.length≤65535:=Zgf
  unfold Zcc
  simp only
  generalize Kh 6 12 t1=G at e3 g3 r3 e4 r4 hnl hg4 hrl ⊢
  obtain ⟨gl,t2⟩:=G
  simp only at e3 g3 r3 e4 r4 hnl hg4 hrl ⊢
  generalize Z4 2 t2=N at e4 r4 hnl ⊢
  obtain ⟨nv,t3⟩:=N
  simp only at e4 r4 hnl ⊢
  have cI : cvi .i64 (.int .u16 nv) X3=some (iv nv,X3):=by rw [Ql,w64 (by omega) (by omega)]
  have q3 : bop .int .gtr (iv nv) (.int .i64 12) X3=some (.bool (decide (12 < nv)),X3):=by
   rw [ZK,show (decide ((nv : Int) > 12))=decide (12 < nv) from decide_eq_decide.2 (by omega)]
  have hM : ∃ X4,(cnd (Value.bool (decide (12 < nv))) (bind (R (n+12) ZX [pt p,(Value.int .i64 7)]) fun v31=>ret (Out.nrm [pt p,vg,(Value.int .i64 0)])) (ret (Out.nrm [pt p,vg,iv nv]))) X3=some (Out.nrm [pt p,vg,iv ((if nv > 12 then ((0 : Nat),QS 7 t3) else (nv,t3)).1 : Nat)],X4)∧Rdr X4 p (if nv > 12 then ((0 : Nat),QS 7 t3) else (nv,t3)).2∧Zw [p] X3 [p] X4:=by
   by_cases h12 : nv > 12
   ·obtain ⟨X4,e5,r5,s5⟩:=Zic (n:=n+11) (e:=7) (by omega) r4
    have e5 : R (n+12) ZX [pt p,.int .i64 7] X3=_:=e5
    rw [if_pos h12]
    refine ⟨X4,?_,r5,s5⟩
    rw [decide_eq_true h12,Zb,if_pos rfl,Za e5]
    rfl
   ·rw [if_neg h12]
    refine ⟨X3,?_,r4,.refl _ _⟩
    rw [decide_eq_false h12,Zb,if_neg (by simp)]
    rfl
  obtain ⟨X4,e5,r5,s5⟩:=hM
  have hNle : (if nv > 12 then ((0 : Nat),QS 7 t3) else (nv,t3)).1≤12:=by
   split
   ·simp
   ·simp only;omega
  generalize (if nv > 12 then ((0 : Nat),QS 7 t3) else (nv,t3))=Mm at e5 r5 hNle ⊢
  obtain ⟨N,t4⟩:=Mm
  simp only at e5 r5 hNle ⊢
  have m4:=m3.1.more s5 hpo
  have hg5:=hg4.step s5 (fun j hj hm=>by have:=o3 j hj;simp only [List.mem_singleton] at hm;omega)
  have hp4:=r5.lt
  have hqg : ∀ j∈qg,j≠p∧j < X4.length:=fun j hj=>⟨by have:=o3 j hj;omega,hg5.lt j hj⟩
  obtain ⟨X5,sl,q,us,e6,ho6,k6,hg6,r6,s6⟩:=ZoT (n:=n) (X0:=X4) (vg:=vg) (gl:=gl) hNle hp4 hqg N 0 t4 (.slice none 0 0) [] [] X4 (by omega) (by omega) (by simp) (Nat.le_refl _) ⟨J9.nil,by simp,by simp,by simp⟩ hg5 r5
  rw [show iv ((0 : Nat) : Int)=.int .i64 0 from rfl] at e6
  rw [List.nil_append] at ho6
  have hlus : us.length≤12:=by
   have:=congrArg List.length k6
   rw [List.length_map,Zhu] at this
   omega
  have hown6 : ∀ j∈p :: q,X.length≤j:=fun j hj=>by
   rcases List.mem_cons.1 hj with rfl | hj
   ·exact hp0
   ·exact Nat.le_trans m4.1.len (ho6.o j hj)
  have m6 : HLe X X5:=(m4.1.more s6 hpo).1
  generalize Kj N t4=U at k6 r6 ⊢
  obtain ⟨ul,t5⟩:=U
  simp only at k6 r6 ⊢
  subst k6
  have e7 : R (n+12) QO [pt p] X5=_:=Zn1 (n:=n+11) r6
  have hpre : ∀ o,(bind (R (n+12) QO [pt p]) fun y21=>
    bind (bop .int .neq y21 (Value.int .i64 0)) fun y22=>
    cnd y22 (ret (Value.tuple #[(Value.pointer none),y21]))
    (bind (R (n+12) Za0 [sl,vg]) fun y23=>bind (ZE y23 0) fun y24=>bind (ZE y23 1) fun y25=>bind (bop .int .eql y25 (Value.int .i64 0)) fun y26=>
    jn (cnd y26 (bind (R (n+12) Ks [pt p]) fun y27=>ret (.nrm [y24,y27])) (ret (.nrm [y24,y25]))) (c2 fun q28_0 q28_1=>
    bind (bop .int .neq q28_1 (Value.int .i64 0)) fun y29=>
    cnd y29 (ret (Value.tuple #[(Value.pointer none),q28_1])) (ret (Value.tuple #[q28_0,(Value.int .i64 0)]))) noX ret)) X5=o→R (n+13) Zap [bv] X=o:=fun o ho=>by
   rw [R,ZgM rfl]
   unfold YW
   rw [Za e0,Za e1,Za e2,Za q1]
   refine (hgate _).trans ?_
   rw [Zb,if_neg (by simp),Za e3,Za e4,Za cI,Za q3]
   refine (QC e5).trans ?_
   rw [ZR,ZS e6,Zv,ZR]
   exact ho
  by_cases h5 : t5.1≠0
  ·rw [if_pos h5]
   have q4 : bop .int .neq (iv t5.1) (.int .i64 0) X5=some (.bool true,X5):=by rw [Zp,Zam];simp [h5]
   refine ⟨.pointer none,X5,hpre _ ?_,m6,fun _=>rfl,fun h=>absurd h h5⟩
   rw [Za e7,Za q4,Zb,if_pos rfl]
   rfl
  ·rw [if_neg h5]
   have h5 : t5.1=0:=Decidable.of_not_not h5
   have q4 : bop .int .neq (iv t5.1) (.int .i64 0) X5=some (.bool false,X5):=by rw [Zp,Zam];simp [h5]
   obtain ⟨X6,k7,h7⟩:=Zr5 (n:=n) (us:=us) (gs:=gl) (by omega) (by omega) ho6.us hg6.rd
   rw [Zmh] at h7
   have m7:=m6.trans k7
   by_cases hE : ofK (us.map ZG) gl≠0
   ·rw [if_pos hE]
    have hE' : ¬ ((ofK (us.map ZG) gl : Int)=0):=by omega
    rw [if_neg hE'] at h7
    have q5 : bop .int .eql (iv (ofK (us.map ZG) gl)) (.int .i64 0) X6=some (.bool false,X6):=by rw [ZJ,Zb9];simp [hE]
    have q6 : bop .int .neq (iv (ofK (us.map ZG) gl)) (.int .i64 0) X6=some (.bool true,X6):=by rw [Zp,Zam];simp [hE]
    refine ⟨.pointer none,X6,hpre _ ?_,m7,fun _=>rfl,fun h=>absurd h hE⟩
    rw [Za e7,Za q4,Zb,if_neg (by simp),Za h7,Za Zn,Za Zo,Za q5]
    refine (QC (vs:=[.pointer none,iv (ofK (us.map ZG) gl)]) (H':=X6) ?_).trans ?_
    ·rw [Zb,if_neg (by simp)];rfl
    ·rw [ZW,Za q6,Zb,if_pos rfl];rfl
   ·rw [if_neg hE]
    have hE : ofK (us.map ZG) gl=0:=Decidable.of_not_not hE
    rw [if_pos (by rw [hE];rfl)] at h7
    obtain ⟨d,r,st,c,e8,hS⟩:=h7
    have q5 : bop .int .eql (iv 0) (.int .i64 0) X6=some (.bool true,X6):=by rw [ZJ];rfl
    have e9 : R (n+12) Ks [pt p] X6=some (iv (ZeJ t5),X6):=Zw1 (n:=n+11) (r6.hle k7)
    have hS' : OfS X X6 d r st c gl us:=⟨m7,hS.nd,fun i hi=>Nat.le_trans m6.len (hS.own i hi),hS.K,hS.ok⟩
    by_cases h6 : t5.2≠[]
    ·rw [if_pos h6]
     have he : ZeJ t5=3:=by unfold ZeJ;rw [if_pos h5,if_neg h6]
     rw [he] at e9
     have q6 : bop .int .neq (iv ((3 : Nat) : Int)) (.int .i64 0) X6=some (.bool true,X6):=by rw [Zp];rfl
     refine ⟨.pointer none,X6,hpre _ ?_,m7,fun _=>rfl,fun h=>absurd h (by simp)⟩
     rw [Za e7,Za q4,Zb,if_neg (by simp),Za e8,Za Zn,Za Zo,Za q5]
     refine (QC (vs:=[pt d,iv ((3 : Nat) : Int)]) (H':=X6) ?_).trans ?_
     ·rw [Zb,if_pos rfl,Za e9];rfl
     ·rw [ZW,Za q6,Zb,if_pos rfl];rfl
    ·rw [if_neg h6]
     have h6 : t5.2=[]:=Decidable.of_not_not h6
     have he : ZeJ t5=0:=by unfold ZeJ;rw [if_pos h5,if_pos h6]
     rw [he] at e9
     have q6 : bop .int .neq (iv ((0 : Nat) : Int)) (.int .i64 0) X6=some (.bool false,X6):=by rw [Zp];rfl
     refine ⟨pt d,X6,hpre _ ?_,m7,fun h=>absurd rfl h,fun _=>⟨d,r,st,c,us,rfl,hS',rfl⟩⟩
     rw [Za e7,Za q4,Zb,if_neg (by simp),Za e8,Za Zn,Za Zo,Za q5]
     refine (QC (vs:=[pt d,iv ((0 : Nat) : Int)]) (H':=X6) ?_).trans ?_
     ·rw [Zb,if_pos rfl,Za e9];rfl
     ·rw [ZW,Za q6,Zb,if_neg (by simp)];rfl
end
end Go.Proofs.YtedkoimihknggaaGreatDoor.A

namespace Go.Proofs.YtedkoimihknggaaGreatDoor.A
set_option linter.unusedVariables false
set_option maxRecDepth 100000
set_option linter.unusedSimpArgs false
open Go.Proofs Go.Proofs.YtedkoimihknggaaGreatDoor
section
variable {H X X' H0 : Zc} {n p : Nat} {sl v gv uv : Value} {l N : List Tx} {us : List Zm} {u : Zm} {b : Bool}
end
end Go.Proofs.YtedkoimihknggaaGreatDoor.A

namespace Go.Proofs.YtedkoimihknggaaGreatDoor.A
set_option linter.unusedVariables false
set_option maxRecDepth 100000
set_option linter.unusedSimpArgs false
open Go.Proofs Go.Proofs.YtedkoimihknggaaGreatDoor
theorem Zgw {e : Nat} {s : RSt} (h : s.1=0) (he : e≠0) : QS e s=(e,[]):=by unfold QS;rw [if_pos ⟨h,he⟩]
theorem Zsy {s : RSt} (h : okR s) : okR (Kk s).2:=by
 unfold Kk
 simp only
 split
 ·exact Zgo (ZcX h)
 ·exact ZcX h
theorem Znb {m : Nat} : ∀ {k : Nat} {s : RSt},okR s→okR (Qv m k s).2
 | 0,s,h=>h
 | k+1,s,h=>Znb (k:=k) (Zex h)
theorem ZqY {m l : Nat} {s : RSt} (h : okR s) : okR (Kh m l s).2:=Znb (ZmK h)
theorem Zt8 {m : Nat} {s : RSt} (h : okR s) (he : s.1≠0) : Qs m s=([],s):=by
 have h1:=ZqJ (k:=2) h he
 unfold Qs Qn
 rw [h1]
 simp only [Nat.not_lt_zero,gt_iff_lt,if_false]
 exact ZoY h he
theorem ZmJ {m : Nat} : ∀ {k : Nat} {s : RSt},okR s→s.1≠0→(Qv m k s).2=s
 | 0,s,h,he=>rfl
 | k+1,s,h,he=>by
  unfold Qv
  rw [Zt8 h he]
  exact ZmJ (k:=k) h he
theorem ZmD {e : Nat} {s : RSt} : (QS e s).2.length≤s.2.length:=by
 unfold QS
 split
 ·simp
 ·exact Nat.le_refl _
theorem Zo1 {m : Nat} {s : RSt} : (Qn m s).2.2.length≤s.2.length:=by
 unfold Qn
 split
 ·exact Nat.le_trans ZmD Zep
 ·exact Zep
theorem Zeu {m : Nat} {s : RSt} : (Qs m s).2.2.length≤s.2.length:=Nat.le_trans ZuX Zo1
theorem ZpA {m : Nat} : ∀ {k : Nat} {s : RSt},(Qv m k s).2.2.length≤s.2.length
 | 0,s=>Nat.le_refl _
 | k+1,s=>Nat.le_trans (ZpA (k:=k)) Zeu
theorem Zsp {m l : Nat} {s : RSt} : (Kh m l s).2.2.length≤s.2.length:=Nat.le_trans ZpA Zo1
theorem Zuk {s : RSt} : (Kk s).2.2.length≤s.2.length:=by
 unfold Kk
 simp only
 split
 ·exact Nat.le_trans ZmD Zep
 ·exact Zep
section
variable {H0 H X : Zc} {n p d b M L : Nat} {a c v : Value} {bs : List UInt8} {s : RSt}
theorem Zmo {e : Nat} : bld (.agg #[.string ⟨#[]⟩,.int .i64 0]) [(1,1,iv e)] X=some (.agg (RR (e,[])).toArray,X):=by
 simp [bld,KW,Value.cells,YC,strv,splice]
theorem ZdZ (hM : M≤1000000) (hl : s.2.length≤1000000000) (ho : okR s) : ∃ H',R (n+4) Jh [.agg (RR s).toArray,iv M] H=some (.tuple #[.agg (RR (Qs M s).2).toArray,strv (Qs M s).1],H')∧HLe H H':=by
 have z1:=bx (X:=H) (Qa s)
 have z2:=bx (X:=H++[.cells (RR s) 1 false false]) (Qa (0,[]))
 have k2 : HLe H (H++[Zd.cells (RR s) 1 false false]++[Zd.cells (RR (0,[])) 1 false false]):=(HLe.app _ _).trans (.app _ _)
 have c1 : (H++[Zd.cells (RR s) 1 false false]++[Zd.cells (RR (0,[])) 1 false false])[H.length]?=some (.cells (RR s) 1 false false):=Zcu
 have c2 : (H++[Zd.cells (RR s) 1 false false]++[Zd.cells (RR (0,[])) 1 false false])[(H++[Zd.cells (RR s) 1 false false]).length]?=some (.cells (RR (0,[])) 1 false false):=Zx
 have hp2 : H.length < (H++[Zd.cells (RR s) 1 false false]).length:=by simp
 generalize H++[Zd.cells (RR s) 1 false false]++[Zd.cells (RR (0,[])) 1 false false]=X2 at z2 k2 c1 c2
 generalize (H++[Zd.cells (RR s) 1 false false]).length=p2 at z2 c2 hp2
 have z2 : alc 1 (.agg #[.string ⟨#[]⟩,.int .i64 0]) _=some (pt p2,X2):=z2
 have d1 : ldA 2 (pt H.length) X2=some (.agg (RR s).toArray,X2):=Z9 (n:=2) c1 rfl
 obtain ⟨X3,e3,k3⟩:=Zlq (n:=n) (H:=X2) (k:=2) (by omega) hl ho
 have e3 : R (n+3) J5 [.agg (RR s).toArray,.int .i64 2] X2=_:=e3
 have hcl:=ZbV (k:=2) (s:=s)
 have ho' : okR (Z4 2 s).2:=ZcX ho
 have hle' : (Z4 2 s).2.2.length≤1000000000:=Nat.le_trans Zep hl
 have hbad:=ZiL (k:=2) ho
 unfold Qs Qn
 generalize Z4 2 s=C at e3 hcl ho' hle' hbad
 obtain ⟨cv,s'⟩:=C
 have e3 : R (n+3) J5 [.agg (RR s).toArray,.int .i64 2] X2=some (.tuple #[.agg (RR s').toArray,.int .u64 cv],X3):=e3
 have hcl : cv < 65536:=hcl
 have ho' : okR s':=ho'
 have hle' : s'.2.length≤1000000000:=hle'
 have hbad : s'.1≠0→cv=0:=hbad
 simp only
 have k4 : HLe X3 (X3++[Zd.cells (RR s') 1 false false]):=.app _ _
 have c4' : (X3++[Zd.cells (RR s') 1 false false])[X3.length]?=some (.cells (RR s') 1 false false):=Zx
 have z4:=fun {K : Value→A.M Value}=>ZeU (H:=X3) (n:=2) (zs:=RR (0,[])) (r:=RR s') (K:=K) rfl rfl (Qa _) (Qa _)
 have hc24:=k4 _ _ (k3 _ _ c2)
 have hp4 : p2 < X3.length:=Z6 (k3 _ _ c2)
 generalize X3++[Zd.cells (RR s') 1 false false]=X4 at k4 c4' z4 hc24
 generalize X3.length=p4 at c4' z4 hp4
 have z4 : ∀ {K : Value→A.M Value},bind (alc 1 (.agg #[.string ⟨#[]⟩,.int .i64 0])) (fun q=>bind (stA 2 q (.agg (RR s').toArray)) fun _=>K q) X3=K (pt p4) X4:=z4
 have a1 : ld1 (pa p4 1) X4=some (iv s'.1,X4):=ZV c4' rfl
 have q1 : bop .int .eql (iv s'.1) (.int .i64 0) X4=some (.bool (s'.1==0),X4):=by rw [ZJ,Zb9]
 have cI : cvi .i64 (.int .u64 cv) X4=some (iv cv,X4):=by rw [Ql,w64 (by omega) (by omega)]
 have cM : mxi true (.int .i64 0) (iv M) X4=some (iv M,X4):=by
  rw [Yh]
  by_cases h0 : M=0
  ·subst h0;rfl
  ·rw [if_pos (by omega)]
 have cG : bop .int .gtr (iv cv) (iv M) X4=some (.bool (decide (cv > M)),X4):=by rw [ZK,show decide ((cv : Int) > M)=decide (cv > M) from decide_eq_decide.2 (by omega)]
 have hgate : ∀ K : Value→A.M Value,bind (ZU (Value.bool (s'.1==0)) true 5 (bind (cvi .i64 (.int .u64 cv)) fun y11=>
 bind (mxi true (Value.int .i64 0) (iv M)) fun y12=>
 bind (bop .int .gtr y11 y12) fun y13=>
 ret [.int .u64 cv,y11,iv M,y12,y13])) (c5 fun _ _ _ _ q14_4=>
 bind (pick (Value.bool (s'.1==0)) q14_4 (Value.bool false)) K) X4=K (.bool (decide (cv > M))) X4:=fun K=>by
  by_cases h0 : s'.1=0
  ·rw [show (s'.1==0)=true from by simp [h0],ZL,Zf,Za cI,Zf,Za cM,Zf,Za cG,ZO,ZM,Za Zh]
   rfl
  ·rw [show (s'.1==0)=false from by simp [h0],Za (g_r.trans (if_neg (by simp)))]
   simp only [List.replicate]
   rw [ZM,Za Zh,hbad h0]
   rfl
 have f1 : ∀ r X',WQ (R (n+3)) (.agg (RR s).toArray) (iv M) H=some (r,X')→R (n+4) Jh [.agg (RR s).toArray,iv M] H=some (r,X'):=fun r X' hr=>by rw [R,Zkv rfl];exact hr
 by_cases hcm : cv > M
 ·have h0 : s'.1=0:=Decidable.byContradiction fun h=>by have:=hbad h;omega
  rw [if_pos hcm,Zgw h0 (by omega)]
  have ze:=Zmo (e:=3) (X:=X4)
  have ze : bld (.agg #[.string ⟨#[]⟩,.int .i64 0]) [(1,1,.int .i64 3)] X4=_:=ze
  refine ⟨X4.set p2 (.cells (RR (3,[])) 1 false false),f1 _ _ ?_,((k2.trans k3).trans k4).put (by omega)⟩
  unfold WQ
  rw [Za z1,Za z2,Za d1,Za e3,Za Zn,Za Zo,z4,Za Zi,Za a1,Za q1]
  refine (hgate _).trans ?_
  rw [Zb,if_pos (by simpa using hcm),Za ze]
  exact Wm hc24 rfl rfl (Qa _)
 ·rw [if_neg hcm]
  have d4 : ldA 2 (pt p4) X4=some (.agg (RR s').toArray,X4):=Z9 (n:=2) c4' rfl
  obtain ⟨ok,X5,e5,k5⟩:=ZqE (n:=n+1) (H:=X4) (k:=cv) (s:=s') (by omega) hle' ho'
  have e5 : R (n+3) Ku [.agg (RR s').toArray,iv cv] X4=_:=e5
  simp only
  generalize tkS cv s'=T at e5
  obtain ⟨t,s''⟩:=T
  have e5 : R (n+3) Ku [.agg (RR s').toArray,iv cv] X4=some (.tuple #[.agg (RR s'').toArray,strv t,ok],X5):=e5
  have w5:=YX (vs:=RR s'') (n:=2) (k5 _ _ c4') rfl rfl (Qa _)
  have d5 : ldA 2 (pt p4) (X5.set p4 (.cells (RR s'') 1 false false))=some (.agg (RR s'').toArray,_):=Z9 (n:=2) (ZT (k5 _ _ c4')) rfl
  have hc25 : (X5.set p4 (.cells (RR s'') 1 false false))[p2]?=some (.cells (RR (0,[])) 1 false false):=(List.getElem?_set_ne (by omega)).trans (k5 _ _ hc24)
  have hk5 : HLe H (X5.set p4 (.cells (RR s'') 1 false false)):=(((k2.trans k3).trans k4).trans k5).put (by omega)
  refine ⟨(X5.set p4 (.cells (RR s'') 1 false false)).set p2 (.cells (RR s'') 1 false false),f1 _ _ ?_,hk5.put (by omega)⟩
  unfold WQ
  rw [Za z1,Za z2,Za d1,Za e3,Za Zn,Za Zo,z4,Za Zi,Za a1,Za q1]
  refine (hgate _).trans ?_
  rw [Zb,if_neg (by simpa using hcm),Za d4,Za cI,Za e5,Za QG,Za QH,Za QI,Za w5,Za d5]
  exact Wm hc25 rfl rfl (Qa _)
theorem Zqm (hl : s.2.length≤1000000000) (ho : okR s) : ∃ H',R (n+4) KG [.agg (RR s).toArray] H=some (.tuple #[.agg (RR (Kk s).2).toArray,.bool (Kk s).1],H')∧HLe H H':=by
 have z1:=bx (X:=H) (Qa s)
 have z2:=bx (X:=H++[.cells (RR s) 1 false false]) (Qa (0,[]))
 have k2 : HLe H (H++[Zd.cells (RR s) 1 false false]++[Zd.cells (RR (0,[])) 1 false false]):=(HLe.app _ _).trans (.app _ _)
 have c1 : (H++[Zd.cells (RR s) 1 false false]++[Zd.cells (RR (0,[])) 1 false false])[H.length]?=some (.cells (RR s) 1 false false):=Zcu
 have c2 : (H++[Zd.cells (RR s) 1 false false]++[Zd.cells (RR (0,[])) 1 false false])[(H++[Zd.cells (RR s) 1 false false]).length]?=some (.cells (RR (0,[])) 1 false false):=Zx
 have hp2 : H.length < (H++[Zd.cells (RR s) 1 false false]).length:=by simp
 generalize H++[Zd.cells (RR s) 1 false false]++[Zd.cells (RR (0,[])) 1 false false]=X2 at z2 k2 c1 c2
 generalize (H++[Zd.cells (RR s) 1 false false]).length=p2 at z2 c2 hp2
 have z2 : alc 1 (.agg #[.string ⟨#[]⟩,.int .i64 0]) _=some (pt p2,X2):=z2
 have d1 : ldA 2 (pt H.length) X2=some (.agg (RR s).toArray,X2):=Z9 (n:=2) c1 rfl
 obtain ⟨X3,e3,k3⟩:=Zlq (n:=n) (H:=X2) (k:=1) (by omega) hl ho
 have e3 : R (n+3) J5 [.agg (RR s).toArray,.int .i64 1] X2=_:=e3
 have hbad:=ZiL (k:=1) ho
 unfold Kk
 generalize Z4 1 s=C at e3 hbad
 obtain ⟨cv,s'⟩:=C
 have e3 : R (n+3) J5 [.agg (RR s).toArray,.int .i64 1] X2=some (.tuple #[.agg (RR s').toArray,.int .u64 cv],X3):=e3
 have hbad : s'.1≠0→cv=0:=hbad
 simp only
 have k4 : HLe X3 (X3++[Zd.cells (RR s') 1 false false]):=.app _ _
 have c4' : (X3++[Zd.cells (RR s') 1 false false])[X3.length]?=some (.cells (RR s') 1 false false):=Zx
 have z4:=fun {K : Value→A.M Value}=>ZeU (H:=X3) (n:=2) (zs:=RR (0,[])) (r:=RR s') (K:=K) rfl rfl (Qa _) (Qa _)
 have hc24:=k4 _ _ (k3 _ _ c2)
 have hp4 : p2 < X3.length:=Z6 (k3 _ _ c2)
 generalize X3++[Zd.cells (RR s') 1 false false]=X4 at k4 c4' z4 hc24
 generalize X3.length=p4 at c4' z4 hp4
 have z4 : ∀ {K : Value→A.M Value},bind (alc 1 (.agg #[.string ⟨#[]⟩,.int .i64 0])) (fun q=>bind (stA 2 q (.agg (RR s').toArray)) fun _=>K q) X3=K (pt p4) X4:=z4
 have q1 : bop .int .gtr (.int .u64 cv) (.int .u64 1) X4=some (.bool (decide (1 < cv)),X4):=by rw [ZK,show decide ((cv : Int) > 1)=decide (1 < cv) from decide_eq_decide.2 (by omega)]
 have f1 : ∀ r X',Wr (R (n+3)) (.agg (RR s).toArray) H=some (r,X')→R (n+4) KG [.agg (RR s).toArray] H=some (r,X'):=fun r X' hr=>by rw [R,Zjh rfl];exact hr
 by_cases hcm : 1 < cv
 ·have h0 : s'.1=0:=Decidable.byContradiction fun h=>by have:=hbad h;omega
  rw [if_pos hcm,Zgw h0 (by omega),show (cv==1)=false from by simp;omega]
  have ze : bld (.agg #[.string ⟨#[]⟩,.int .i64 0]) [(1,1,.int .i64 4)] X4=_:=Zmo (e:=4) (X:=X4)
  refine ⟨X4.set p2 (.cells (RR (4,[])) 1 false false),f1 _ _ ?_,((k2.trans k3).trans k4).put (by omega)⟩
  unfold Wr
  rw [Za z1,Za z2,Za d1,Za e3,Za Zn,Za Zo,z4,Za q1,Zb,if_pos (by simpa using hcm),Za ze]
  exact Wm hc24 rfl rfl (Qa _)
 ·rw [if_neg hcm]
  have d4 : ldA 2 (pt p4) X4=some (.agg (RR s').toArray,X4):=Z9 (n:=2) c4' rfl
  have q2 : bop .int .eql (.int .u64 cv) (.int .u64 1) X4=some (.bool (cv==1),X4):=by rw [ZJ,show ((cv : Int)==1)=(cv==1) from by rw [Bool.eq_iff_iff];simp;omega]
  refine ⟨X4.set p2 (.cells (RR s') 1 false false),f1 _ _ ?_,((k2.trans k3).trans k4).put (by omega)⟩
  unfold Wr
  rw [Za z1,Za z2,Za d1,Za e3,Za Zn,Za Zo,z4,Za q1,Zb,if_neg (by simpa using hcm),Za d4,Za q2]
  exact Wm hc24 rfl rfl (Qa _)
theorem ZmN {N : Nat} (hL : L≤1000000) (hN : N≤100000) (h68 : p < d) (hp : H0.length≤p) : ∀ (t j : Nat) (s : RSt) (sl : Value) (q : List Nat) (acc : List Tx) (X : Zc),N - j=t→j≤N→acc.length≤j→okR s→s.2.length≤1000000000→HLe H0 X→X[p]?=some (.cells (RR (0,[])) 1 false false)→X[d]?=some (.cells (RR s) 1 false false)→Zq X sl (acc.map strv) q→(∀ i∈q,d < i)→
  ∃ X' o,Zk (c6 (Ji.l1 (R (n+4)))) [iv L,pt p,pt d,sl,.int .u64 N,.int .u64 j] X=some (o,X')∧HLe H0 X'∧(((Qv L t s).2.1≠0∧t≠0∧o=.ret (.tuple #[.agg (RR (Qv L t s).2).toArray,.slice none 0 0]))∨(((Qv L t s).2.1=0∨t=0)∧∃ sl' q',o=.ext 0 [pt p,pt d,sl']∧Zq X' sl' ((acc++(Qv L t s).1).map strv) q'∧(∀ i∈q',d < i)∧X'[p]?=some (.cells (RR (0,[])) 1 false false)∧X'[d]?=some (.cells (RR (Qv L t s).2) 1 false false)))
 | 0,j,s,sl,q,acc,X,ht,hj,ha,ho,hb,hle,h6,h8,hr,hq=>by
  refine ⟨X,.ext 0 [pt p,pt d,sl],ZI ?_,hle,.inr ⟨.inr rfl,sl,q,rfl,by unfold Qv;rw [List.append_nil];exact hr,hq,h6,h8⟩⟩
  rw [JE,show j=N by omega]
  unfold Ji.l1
  rw [Za Zg,Zb,if_neg (by simp)]
  rfl
 | t+1,j,s,sl,q,acc,X,ht,hj,ha,ho,hb,hle,h6,h8,hr,hq=>by
  have hlt : (j : Int) < N:=by omega
  have d1 : ldA 2 (pt d) X=some (.agg (RR s).toArray,X):=Z9 (n:=2) h8 rfl
  obtain ⟨X1,e1,k1⟩:=ZdZ (n:=n) (H:=X) hL hb ho
  have ho1 : okR (Qs L s).2:=Zex ho
  have hb1 : (Qs L s).2.2.length≤1000000000:=Nat.le_trans Zeu hb
  unfold Qv
  generalize Qs L s=T at e1 ho1 hb1
  obtain ⟨tx,s'⟩:=T
  have e1 : R (n+4) Jh [.agg (RR s).toArray,iv L] X=some (.tuple #[.agg (RR s').toArray,strv tx],X1):=e1
  have ho1 : okR s':=ho1
  have hb1 : s'.2.length≤1000000000:=hb1
  simp only
  have hdX:=Z6 (k1 _ _ h8)
  have z4 : ∀ {K : Value→A.M Out},bind (alc 1 (.agg #[.string ⟨#[]⟩,.int .i64 0])) (fun q=>bind (stA 2 q (.agg (RR s').toArray)) fun _=>K q) X1=K (pt X1.length) (X1++[.cells (RR s') 1 false false]):=fun {K}=>ZeU (H:=X1) (n:=2) (zs:=RR (0,[])) (r:=RR s') (K:=K) rfl rfl (Qa _) (Qa _)
  have k2 : HLe X1 (X1++[Zd.cells (RR s') 1 false false]):=.app _ _
  have c2 : (X1++[Zd.cells (RR s') 1 false false])[X1.length]?=some (.cells (RR s') 1 false false):=Zx
  generalize X1++[Zd.cells (RR s') 1 false false]=X2 at z4 k2 c2
  generalize X1.length=b at z4 c2 hdX
  have d2 : ldA 2 (pt b) X2=some (.agg (RR s').toArray,X2):=Z9 (n:=2) c2 rfl
  have k12:=k1.trans k2
  have h8':=k12 _ _ h8
  have w3:=YX (vs:=RR s') (n:=2) h8' rfl rfl (Qa _)
  have k3 : HLe H0 (X2.set d (.cells (RR s') 1 false false)):=(hle.trans k12).put (by omega)
  have h8:=ZT (b:=Zd.cells (RR s') 1 false false) h8'
  have h6:=(List.getElem?_set_ne (a:=Zd.cells (RR s') 1 false false) (show d≠p by omega)).trans (k12 _ _ h6)
  have hr3 : Zq (X2.set d (.cells (RR s') 1 false false)) sl (acc.map strv) q:=(hr.step k12.step (by simp)).keep fun i hi=>List.getElem?_set_ne (by have:=hq i hi;omega)
  generalize X2.set d (.cells (RR s') 1 false false)=X3 at w3 k3 h8 h6 hr3
  have a3 : ld1 (pa d 1) X3=some (iv s'.1,X3):=ZV h8 rfl
  have q3 : bop .int .neq (iv s'.1) (.int .i64 0) X3=some (.bool (s'.1 !=0),X3):=by rw [Zp,Zam]
  by_cases h0 : s'.1=0
  ·have hd3:=Z6 h8
   obtain ⟨w,X4,sl',X5,q',e4,e5,r5,l5,o5,s5⟩:=Zw5 (H0:=H0) (u:=tx) hr3 (by omega) (fun i hi=>by have:=hq i hi;omega) k3
   have hq5 : ∀ i∈q',d < i:=fun i hi=>by
    rcases s5.own i hi with h | h
    ·exact hq i h
    ·omega
   have h8':=s5.get h8 (fun hm=>by have:=hq _ hm;omega)
   have h6':=s5.get h6 (fun hm=>by have:=hq _ hm;omega)
   obtain ⟨X6,o,e6,k6,h⟩:=ZmN hL hN h68 hp t (j+1) s' sl' q' (acc++[tx]) X5 (by omega) (by omega) (by rw [List.length_append,List.length_singleton];omega) ho1 hb1 l5 h6' h8' r5 hq5
   refine ⟨X6,o,(Zu ?_).trans e6,k6,?_⟩
   ·have qa : bop .int .add (.int .u64 j) (.int .u64 1) X5=some (.int .u64 ((j+1 : Nat) : Int),X5):=by rw [Zt,Zer,Int.emod_eq_of_lt (by omega) (by omega)];rfl
    rw [JE]
    unfold Ji.l1
    rw [Za Zg,Zb,if_pos (by simpa using hlt),Za d1,Za e1,Za Zn,Za Zo,z4,Za d2,Za w3,Za Zi,Za a3,Za q3,Zb,if_neg (by simp [h0]),Za e4,Za e5,Za qa]
    rfl
   ·rcases h with ⟨h1,_,h2⟩ | ⟨h1,sl6,q6,h2,h3,h4,h5,h6⟩
    ·exact .inl ⟨h1,by omega,h2⟩
    ·refine .inr ⟨?_,sl6,q6,h2,by rw [List.append_assoc] at h3;exact h3,h4,h5,h6⟩
     rcases h1 with h1 | h1
     ·exact .inl h1
     ·subst h1;exact .inl h0
  ·have hte:=ZmJ (m:=L) (k:=t) ho1 h0
   rw [hte]
   have d3 : ldA 2 (pt d) X3=some (.agg (RR s').toArray,X3):=Z9 (n:=2) h8 rfl
   refine ⟨X3.set p (.cells (RR s') 1 false false),_,Z8 (v:=.tuple #[.agg (RR s').toArray,.slice none 0 0]) ?_,k3.put hp,.inl ⟨h0,by omega,rfl⟩⟩
   rw [JE]
   unfold Ji.l1
   rw [Za Zg,Zb,if_pos (by simpa using hlt),Za d1,Za e1,Za Zn,Za Zo,z4,Za d2,Za w3,Za Zi,Za a3,Za q3,Zb,if_pos (by simp [h0]),Za d3]
   exact Wm h6 rfl rfl (Qa _)
theorem ZmW (hM : M≤1000000) (hL : L≤1000000) (hl : s.2.length≤1000000000) (ho : okR s) : ∃ H' v q,R (n+5) Ke [.agg (RR s).toArray,iv M,iv L] H=some (.tuple #[.agg (RR (Kh M L s).2).toArray,v],H')∧HLe H H'∧Zq H' v ((Kh M L s).1.map strv) q∧∀ i∈q,H.length≤i:=by
 have z1:=bx (X:=H) (Qa s)
 have z2:=bx (X:=H++[.cells (RR s) 1 false false]) (Qa (0,[]))
 have k2 : HLe H (H++[Zd.cells (RR s) 1 false false]++[Zd.cells (RR (0,[])) 1 false false]):=(HLe.app _ _).trans (.app _ _)
 have c1 : (H++[Zd.cells (RR s) 1 false false]++[Zd.cells (RR (0,[])) 1 false false])[H.length]?=some (.cells (RR s) 1 false false):=Zcu
 have c2 : (H++[Zd.cells (RR s) 1 false false]++[Zd.cells (RR (0,[])) 1 false false])[(H++[Zd.cells (RR s) 1 false false]).length]?=some (.cells (RR (0,[])) 1 false false):=Zx
 have hp2 : H.length < (H++[Zd.cells (RR s) 1 false false]).length:=by simp
 generalize H++[Zd.cells (RR s) 1 false false]++[Zd.cells (RR (0,[])) 1 false false]=X2 at z2 k2 c1 c2
 generalize (H++[Zd.cells (RR s) 1 false false]).length=p2 at z2 c2 hp2
 have z2 : alc 1 (.agg #[.string ⟨#[]⟩,.int .i64 0]) _=some (pt p2,X2):=z2
 have d1 : ldA 2 (pt H.length) X2=some (.agg (RR s).toArray,X2):=Z9 (n:=2) c1 rfl
 obtain ⟨X3,e3,k3⟩:=Zlq (n:=n+1) (H:=X2) (k:=2) (by omega) hl ho
 have e3 : R (n+4) J5 [.agg (RR s).toArray,.int .i64 2] X2=_:=e3
 have hcl:=ZbV (k:=2) (s:=s)
 have ho' : okR (Z4 2 s).2:=ZcX ho
 have hle' : (Z4 2 s).2.2.length≤1000000000:=Nat.le_trans Zep hl
 have hbad:=ZiL (k:=2) ho
 unfold Kh Qn
 generalize Z4 2 s=C at e3 hcl ho' hle' hbad
 obtain ⟨cv,s'⟩:=C
 have e3 : R (n+4) J5 [.agg (RR s).toArray,.int .i64 2] X2=some (.tuple #[.agg (RR s').toArray,.int .u64 cv],X3):=e3
 have hcl : cv < 65536:=hcl
 have ho' : okR s':=ho'
 have hle' : s'.2.length≤1000000000:=hle'
 have hbad : s'.1≠0→cv=0:=hbad
 simp only
 have k4 : HLe X3 (X3++[Zd.cells (RR s') 1 false false]):=.app _ _
 have c4' : (X3++[Zd.cells (RR s') 1 false false])[X3.length]?=some (.cells (RR s') 1 false false):=Zx
 have z4:=fun {K : Value→A.M Value}=>ZeU (H:=X3) (n:=2) (zs:=RR (0,[])) (r:=RR s') (K:=K) rfl rfl (Qa _) (Qa _)
 have hc24:=k4 _ _ (k3 _ _ c2)
 have hp4 : p2 < X3.length:=Z6 (k3 _ _ c2)
 generalize X3++[Zd.cells (RR s') 1 false false]=X4 at k4 c4' z4 hc24
 generalize X3.length=p4 at c4' z4 hp4
 have z4 : ∀ {K : Value→A.M Value},bind (alc 1 (.agg #[.string ⟨#[]⟩,.int .i64 0])) (fun q=>bind (stA 2 q (.agg (RR s').toArray)) fun _=>K q) X3=K (pt p4) X4:=z4
 have a1 : ld1 (pa p4 1) X4=some (iv s'.1,X4):=ZV c4' rfl
 have q1 : bop .int .eql (iv s'.1) (.int .i64 0) X4=some (.bool (s'.1==0),X4):=by rw [ZJ,Zb9]
 have cI : cvi .i64 (.int .u64 cv) X4=some (iv cv,X4):=by rw [Ql,w64 (by omega) (by omega)]
 have cM : mxi true (.int .i64 0) (iv M) X4=some (iv M,X4):=by
  rw [Yh]
  by_cases h0 : M=0
  ·subst h0;rfl
  ·rw [if_pos (by omega)]
 have cG : bop .int .gtr (iv cv) (iv M) X4=some (.bool (decide (cv > M)),X4):=by rw [ZK,show decide ((cv : Int) > M)=decide (cv > M) from decide_eq_decide.2 (by omega)]
 have hgate : ∀ K : Value→A.M Value,bind (ZU (Value.bool (s'.1==0)) true 5 (bind (cvi .i64 (.int .u64 cv)) fun y11=>
 bind (mxi true (Value.int .i64 0) (iv M)) fun y12=>
 bind (bop .int .gtr y11 y12) fun y13=>
 ret [.int .u64 cv,y11,iv M,y12,y13])) (c5 fun _ _ _ _ q14_4=>
 bind (pick (Value.bool (s'.1==0)) q14_4 (Value.bool false)) K) X4=K (.bool (decide (cv > M))) X4:=fun K=>by
  by_cases h0 : s'.1=0
  ·rw [show (s'.1==0)=true from by simp [h0],ZL,Zf,Za cI,Zf,Za cM,Zf,Za cG,ZO,ZM,Za Zh]
   rfl
  ·rw [show (s'.1==0)=false from by simp [h0],Za (g_r.trans (if_neg (by simp)))]
   simp only [List.replicate]
   rw [ZM,Za Zh,hbad h0]
   rfl
 have f1 : ∀ r X',Ji (R (n+4)) (.agg (RR s).toArray) (iv M) (iv L) H=some (r,X')→R (n+5) Ke [.agg (RR s).toArray,iv M,iv L] H=some (r,X'):=fun r X' hr=>by rw [R,ZlE rfl];exact hr
 have hk4:=(k2.trans k3).trans k4
 by_cases hcm : cv > M
 ·have h0 : s'.1=0:=Decidable.byContradiction fun h=>by have:=hbad h;omega
  rw [if_pos hcm,Zgw h0 (by omega)]
  have ze : bld (.agg #[.string ⟨#[]⟩,.int .i64 0]) [(1,1,.int .i64 3)] X4=_:=Zmo (e:=3) (X:=X4)
  refine ⟨X4.set p2 (.cells (RR (3,[])) 1 false false),.slice none 0 0,[],f1 _ _ ?_,hk4.put (by omega),Zq.nil,by simp⟩
  unfold Ji
  rw [Za z1,Za z2,Za d1,Za e3,Za Zn,Za Zo,z4,Za Zi,Za a1,Za q1]
  refine (hgate _).trans ?_
  rw [Zb,if_pos (by simpa using hcm),Za ze]
  exact Wm hc24 rfl rfl (Qa _)
 ·rw [if_neg hcm]
  simp only
  have hp4H : H.length≤p2:=by omega
  obtain ⟨X5,o,e5,k5,h5⟩:=ZmN (n:=n) (H0:=H) (N:=cv) hL (by omega) hp4 hp4H cv 0 s' (.slice none 0 0) [] [] X4 (by omega) (by omega) (Nat.le_refl _) ho' hle' hk4 hc24 c4' Zq.nil (by simp)
  have e5 : Zk (c6 (Ji.l1 (R (n+4)))) [iv L,pt p2,pt p4,.slice none 0 0,.int .u64 cv,.int .u64 0] X4=_:=e5
  rcases h5 with ⟨h1,_,rfl⟩ | ⟨h1,sl',q',rfl,h2,h3,h6,h8⟩
  ·rw [if_neg h1]
   refine ⟨X5,.slice none 0 0,[],f1 _ _ ?_,k5,Zq.nil,by simp⟩
   unfold Ji
   rw [Za z1,Za z2,Za d1,Za e3,Za Zn,Za Zo,z4,Za Zi,Za a1,Za q1]
   refine (hgate _).trans ?_
   rw [Zb,if_neg (by simpa using hcm),QM e5]
   rfl
  ·have hv : (if (Qv L cv s').2.1=0 then (Qv L cv s').1 else [])=(Qv L cv s').1:=by
    rcases h1 with h1 | h1
    ·rw [if_pos h1]
    ·subst h1
     unfold Qv
     split <;> rfl
   rw [hv]
   have d8 : ldA 2 (pt p4) X5=some (.agg (RR (Qv L cv s').2).toArray,X5):=Z9 (n:=2) h8 rfl
   refine ⟨X5.set p2 (.cells (RR (Qv L cv s').2) 1 false false),sl',q',f1 _ _ ?_,k5.put hp4H,h2.keep fun i hi=>List.getElem?_set_ne (by have:=h3 i hi;omega),fun i hi=>by have:=h3 i hi;omega⟩
   unfold Ji
   rw [Za z1,Za z2,Za d1,Za e3,Za Zn,Za Zo,z4,Za Zi,Za a1,Za q1]
   refine (hgate _).trans ?_
   rw [Zb,if_neg (by simpa using hcm),ZS e5,Zv,ZR,Za d8]
   exact Wm h6 rfl rfl (Qa _)
end
end Go.Proofs.YtedkoimihknggaaGreatDoor.A

namespace Go.Proofs.YtedkoimihknggaaGreatDoor.A
set_option linter.unusedVariables false
set_option maxRecDepth 100000
set_option linter.unusedSimpArgs false
open Go.Proofs Go.Proofs.YtedkoimihknggaaGreatDoor
abbrev uZ : Zm:=⟨[],[],[],false,.slice none 0 0,[]⟩
structure B5 (H X : Zc) (P1 P2 P3 P4 P5 : Nat) (s : RSt) (u : Zm) : Prop where
 b1 : X[P1]?=some (.cells (RR s) 1 false false)
 b2 : X[P2]?=some (.cells (RR (0,[])) 1 false false)
 b3 : X[P3]?=some (.cells uZ.cells 1 false false)
 b4 : X[P4]?=some (.cells uZ.cells 1 false false)
 b5 : X[P5]?=some (.cells u.cells 1 false false)
 le : HLe H X
 o : H.length≤P1∧P1 < P2∧P2 < P3∧P3 < P4∧P4 < P5
section
variable {H0 H X X' : Zc} {n p d b M L P1 P2 P3 P4 P5 i : Nat} {a c v : Value} {bs : List UInt8} {s s' : RSt} {u u' : Zm}
theorem B5.hle (h : B5 H X P1 P2 P3 P4 P5 s u) (hl : HLe X X') : B5 H X' P1 P2 P3 P4 P5 s u:=⟨hl _ _ h.b1,hl _ _ h.b2,hl _ _ h.b3,hl _ _ h.b4,hl _ _ h.b5,h.le.trans hl,h.o⟩
theorem B5.putR (h : B5 H X P1 P2 P3 P4 P5 s u) (s' : RSt) : ∃ X',stA 2 (pt P1) (.agg (RR s').toArray) X=some (undef,X')∧B5 H X' P1 P2 P3 P4 P5 s' u∧X.length=X'.length∧∀ j,P5 < j→X'[j]?=X[j]?:=by
 have ho:=h.o
 refine ⟨_,YX (vs:=RR s') (n:=2) h.b1 rfl rfl (Qa _),⟨ZT h.b1,(List.getElem?_set_ne (by omega)).trans h.b2,(List.getElem?_set_ne (by omega)).trans h.b3,(List.getElem?_set_ne (by omega)).trans h.b4,(List.getElem?_set_ne (by omega)).trans h.b5,h.le.put (by omega),ho⟩,by simp,fun j hj=>List.getElem?_set_ne (by omega)⟩
theorem B5.putU (h : B5 H X P1 P2 P3 P4 P5 s u) (hi : i < 5) (hv : oneCell v=true) (hu : u.cells.set i v=u'.cells) : ∃ X',st1 (pa P5 i) v X=some (undef,X')∧B5 H X' P1 P2 P3 P4 P5 s u'∧X.length=X'.length∧∀ j,P5 < j→X'[j]?=X[j]?:=by
 have ho:=h.o
 have w:=ZaH (o:=i) h.b5 (by simpa using hi) hv
 rw [hu] at w
 refine ⟨_,w,⟨(List.getElem?_set_ne (by omega)).trans h.b1,(List.getElem?_set_ne (by omega)).trans h.b2,(List.getElem?_set_ne (by omega)).trans h.b3,(List.getElem?_set_ne (by omega)).trans h.b4,ZT h.b5,h.le.put (by omega),ho⟩,by simp,fun j hj=>List.getElem?_set_ne (by omega)⟩
theorem B5.d1 (h : B5 H X P1 P2 P3 P4 P5 s u) : ldA 2 (pt P1) X=some (.agg (RR s).toArray,X):=Z9 (n:=2) h.b1 rfl
theorem B5.d5 (h : B5 H X P1 P2 P3 P4 P5 s u) : ldA 5 (pt P5) X=some (.agg u.cells.toArray,X):=Z9 (n:=5) h.b5 rfl
theorem Zli (hv : oneCell u.gv=true) : u.cells.all oneCell=true:=by simp only [Zm.cells,List.all_cons,hv];rfl
theorem B5.fin (h : B5 H X P1 P2 P3 P4 P5 s u) {Q : Nat} (hQ : Q=P4∨Q=P5) (bQ : X[Q]?=some (.cells u'.cells 1 false false)) (hv : oneCell u'.gv=true) : ∃ X',(bind (ldA 2 (pt P1)) fun y54=>bind (ldA 5 (pt Q)) fun y55=>bind (stA 2 (pt P2) y54) fun _=>bind (ldA 5 (pt Q)) fun u_56=>same u_56 y55 <| bind (stA 5 (pt P3) y55) fun _=>bind (ldA 2 (pt P2)) fun y57=>bind (ldA 5 (pt P3)) fun y58=>ret (Value.tuple #[y57,y58])) X=some (.tuple #[.agg (RR s).toArray,.agg u'.cells.toArray],X')∧HLe H X'∧∀ j,P5 < j→X'[j]?=X[j]?:=by
 have ho:=h.o
 have we:=YX (vs:=RR s) (n:=2) h.b2 rfl rfl (Qa _)
 have x1 : ldA 5 (pt Q) X=some (.agg u'.cells.toArray,X):=Z9 (n:=5) bQ rfl
 have x2 : ldA 5 (pt Q) (X.set P2 (.cells (RR s) 1 false false))=some (.agg u'.cells.toArray,_):=Z9 (n:=5) ((List.getElem?_set_ne (by omega)).trans bQ) rfl
 have c3 : (X.set P2 (.cells (RR s) 1 false false))[P3]?=some (.cells uZ.cells 1 false false):=(List.getElem?_set_ne (by omega)).trans h.b3
 have x3:=YX (vs:=u'.cells) (n:=5) c3 rfl rfl (Zli hv)
 have x4 : ldA 2 (pt P2) ((X.set P2 (.cells (RR s) 1 false false)).set P3 (.cells u'.cells 1 false false))=some (.agg (RR s).toArray,_):=Z9 (n:=2) ((List.getElem?_set_ne (by omega)).trans (ZT h.b2)) rfl
 have x5 : ldA 5 (pt P3) ((X.set P2 (.cells (RR s) 1 false false)).set P3 (.cells u'.cells 1 false false))=some (.agg u'.cells.toArray,_):=Z9 (n:=5) (ZT c3) rfl
 refine ⟨(X.set P2 (.cells (RR s) 1 false false)).set P3 (.cells u'.cells 1 false false),?_,(h.le.put (by omega)).put (by omega),fun j hj=>(List.getElem?_set_ne (by omega)).trans (List.getElem?_set_ne (by omega))⟩
 rw [Za h.d1,Za x1,Za we,Za x2,Qz,Za x3,Za x4,Za x5]
 rfl
theorem Zvc (hl : s.2.length≤1000000000) (ho : okR s) : ∃ u q H',R (n+6) Zbe [.agg (RR s).toArray,iv 2] H=some (.tuple #[.agg (RR (Zag s).2).toArray,.agg (Zm.cells u).toArray],H')∧ZG u=(Zag s).1∧Zq H' u.gv (u.gs.map strv) q∧(∀ j∈q,H.length≤j)∧u.gs.length≤65535∧HLe H H'∧okR (Zag s).2∧(Zag s).2.2.length≤s.2.length:=by
 have U0 : uZ.cells.all oneCell=true:=rfl
 have z1:=bx (X:=H) (Qa s)
 have k1 : HLe H (H++[Zd.cells (RR s) 1 false false]):=.app _ _
 have g1 : (H++[Zd.cells (RR s) 1 false false])[H.length]?=some (.cells (RR s) 1 false false):=Zx
 generalize H++[Zd.cells (RR s) 1 false false]=X1 at z1 k1 g1
 have z2:=bx (X:=X1) (Qa (0,[]))
 have k2 : HLe X1 (X1++[Zd.cells (RR (0,[])) 1 false false]):=.app _ _
 have g2 : (X1++[Zd.cells (RR (0,[])) 1 false false])[X1.length]?=some (.cells (RR (0,[])) 1 false false):=Zx
 generalize X1++[Zd.cells (RR (0,[])) 1 false false]=X2 at z2 k2 g2
 have z3:=bx (X:=X2) U0
 have k3 : HLe X2 (X2++[Zd.cells uZ.cells 1 false false]):=.app _ _
 have g3 : (X2++[Zd.cells uZ.cells 1 false false])[X2.length]?=some (.cells uZ.cells 1 false false):=Zx
 generalize X2++[Zd.cells uZ.cells 1 false false]=X3 at z3 k3 g3
 have z4:=fun {K : Value→A.M Value}=>ZeU (H:=X3) (n:=5) (zs:=uZ.cells) (r:=uZ.cells) (K:=K) rfl rfl U0 U0
 have k4 : HLe X3 (X3++[Zd.cells uZ.cells 1 false false]):=.app _ _
 have g4 : (X3++[Zd.cells uZ.cells 1 false false])[X3.length]?=some (.cells uZ.cells 1 false false):=Zx
 generalize X3++[Zd.cells uZ.cells 1 false false]=X4 at z4 k4 g4
 have z5:=fun {K : Value→A.M Value}=>ZeU (H:=X4) (n:=5) (zs:=uZ.cells) (r:=uZ.cells) (K:=K) rfl rfl U0 U0
 have k5 : HLe X4 (X4++[Zd.cells uZ.cells 1 false false]):=.app _ _
 have g5 : (X4++[Zd.cells uZ.cells 1 false false])[X4.length]?=some (.cells uZ.cells 1 false false):=Zx
 generalize X4++[Zd.cells uZ.cells 1 false false]=X5 at z5 k5 g5
 have l1:=Z6 g1
 have l2:=Z6 g2
 have l3:=Z6 g3
 have l4:=Z6 g4
 have dz : ldA 5 (pt X3.length) X4=some (.agg uZ.cells.toArray,X4):=Z9 (n:=5) g4 rfl
 have B : B5 H X5 H.length X1.length X2.length X3.length X4.length s uZ:=⟨k5 _ _ (k4 _ _ (k3 _ _ (k2 _ _ g1))),k5 _ _ (k4 _ _ (k3 _ _ g2)),k5 _ _ (k4 _ _ g3),k5 _ _ g4,g5,(((k1.trans k2).trans k3).trans k4).trans k5,⟨Nat.le_refl _,l1,l2,l3,l4⟩⟩
 generalize hP1 : H.length=P1 at z1 B
 generalize X1.length=P2 at z2 B
 generalize X2.length=P3 at z3 B
 generalize X3.length=P4 at z4 dz B
 generalize X4.length=P5 at z5 B
 have zb : bld (.agg #[.string ⟨#[]⟩,.string ⟨#[]⟩,.string ⟨#[]⟩,.bool false,.slice none 0 0]) [] X3=some (.agg uZ.cells.toArray,X3):=rfl
 have q1 : bop .int .lss (iv 2) (.int .i64 1) X4=some (.bool false,X4):=by rw [Zg];rfl
 have q2 : bop .int .gtr (iv 2) (.int .i64 2) X4=some (.bool false,X4):=by rw [ZK];rfl
 unfold Zag Zfc
 simp only
 obtain ⟨X6,e6,k6⟩:=ZdZ (n:=n+1) (M:=65535) (H:=X5) (by omega) hl ho
 have e6 : R (n+5) Jh [.agg (RR s).toArray,.int .i64 65535] X5=_:=e6
 have ho1 : okR (Qs 65535 s).2:=Zex ho
 have hl1 : (Qs 65535 s).2.2.length≤s.2.length:=Zeu
 generalize Qs 65535 s=T at e6 ho1 hl1 ⊢
 obtain ⟨nm,s1⟩:=T
 simp only at e6 ho1 hl1 ⊢
 obtain ⟨X7,w6,B7,_,_⟩:=(B.hle k6).putR s1
 obtain ⟨X8,w7,B8,_,_⟩:=B7.putU (i:=0) (v:=strv nm) (u':=⟨nm,[],[],false,.slice none 0 0,[]⟩) (by omega) rfl rfl
 obtain ⟨X9,e9,k9⟩:=ZdZ (n:=n+1) (M:=65535) (s:=s1) (H:=X8) (by omega) (by omega) ho1
 have e9 : R (n+5) Jh [.agg (RR s1).toArray,.int .i64 65535] X8=_:=e9
 have ho2 : okR (Qs 65535 s1).2:=Zex ho1
 have hl2 : (Qs 65535 s1).2.2.length≤s1.2.length:=Zeu
 generalize Qs 65535 s1=T at e9 ho2 hl2 ⊢
 obtain ⟨hs,s2⟩:=T
 simp only at e9 ho2 hl2 ⊢
 obtain ⟨Xa,w9,Ba,_,_⟩:=(B8.hle k9).putR s2
 obtain ⟨Xb,wa,Bb,_,_⟩:=Ba.putU (i:=1) (v:=strv hs) (u':=⟨nm,hs,[],false,.slice none 0 0,[]⟩) (by omega) rfl rfl
 have q3 : bop .int .eql (iv 2) (.int .i64 2) Xb=some (.bool true,Xb):=by rw [ZJ];rfl
 obtain ⟨Xc,ec,kc⟩:=ZdZ (n:=n+1) (M:=65535) (s:=s2) (H:=Xb) (by omega) (by omega) ho2
 have ec : R (n+5) Jh [.agg (RR s2).toArray,.int .i64 65535] Xb=_:=ec
 have ho3 : okR (Qs 65535 s2).2:=Zex ho2
 have hl3 : (Qs 65535 s2).2.2.length≤s2.2.length:=Zeu
 generalize Qs 65535 s2=T at ec ho3 hl3 ⊢
 obtain ⟨ml,s3⟩:=T
 simp only at ec ho3 hl3 ⊢
 obtain ⟨Xd,wc,Bd,_,_⟩:=(Bb.hle kc).putR s3
 obtain ⟨Xe,wd,Be,_,_⟩:=Bd.putU (i:=2) (v:=strv ml) (u':=⟨nm,hs,ml,false,.slice none 0 0,[]⟩) (by omega) rfl rfl
 obtain ⟨Xf,ef,kf⟩:=Zqm (n:=n+1) (s:=s3) (H:=Xe) (by omega) ho3
 have ef : R (n+5) KG [.agg (RR s3).toArray] Xe=_:=ef
 have ho4 : okR (Kk s3).2:=Zsy ho3
 have hl4 : (Kk s3).2.2.length≤s3.2.length:=Zuk
 generalize Kk s3=T at ef ho4 hl4 ⊢
 obtain ⟨ds,s4⟩:=T
 simp only at ef ho4 hl4 ⊢
 obtain ⟨Xg,wf,Bg,_,_⟩:=(Be.hle kf).putR s4
 obtain ⟨Xh,wg,Bh,_,_⟩:=Bg.putU (i:=3) (v:=.bool ds) (u':=⟨nm,hs,ml,ds,.slice none 0 0,[]⟩) (by omega) rfl rfl
 obtain ⟨Xi,gv,q,ei,ki,ri,oi⟩:=ZmW (n:=n) (M:=65535) (L:=65535) (s:=s4) (H:=Xh) (by omega) (by omega) (by omega) ho4
 have ei : R (n+5) Ke [.agg (RR s4).toArray,.int .i64 65535,.int .i64 65535] Xh=_:=ei
 have ho5 : okR (Kh 65535 65535 s4).2:=ZqY ho4
 have hl5 : (Kh 65535 65535 s4).2.2.length≤s4.2.length:=Zsp
 have hg5 : (Kh 65535 65535 s4).1.length≤65535:=Zgf
 have hP5 : P5 < Xh.length:=Z6 Bh.b5
 generalize Kh 65535 65535 s4=T at ei ri ho5 hl5 hg5 ⊢
 obtain ⟨gs,s5⟩:=T
 simp only at ei ri ho5 hl5 hg5 ⊢
 obtain ⟨Xj,wi,Bj,_,kj⟩:=(Bh.hle ki).putR s5
 obtain ⟨Xk,wj,Bk,_,kk⟩:=Bj.putU (i:=4) (v:=gv) (u':=⟨nm,hs,ml,ds,gv,gs⟩) (by omega) ri.one.1 rfl
 have hq : ∀ j∈q,P5 < j:=fun j hj=>by have:=oi j hj;omega
 have rk : Zq Xk gv (gs.map strv) q:=(ri.keep fun j hj=>kj j (hq j hj)).keep fun j hj=>kk j (hq j hj)
 have hok : UOK Xk ⟨nm,hs,ml,ds,gv,gs⟩:=⟨rk.rd,ri.one.1,by show gs.length≤1000000;omega⟩
 obtain ⟨Xl,el,kl⟩:=Zjw (n:=n) hok
 have hke : QR ⟨nm,hs,ml,ds,gv,gs⟩=Wk (nm,hs,ml,ds,gs):=ZiJ
 rw [hke] at el
 have Bl:=Bk.hle kl
 have hek:=ZqO (k:=(nm,hs,ml,ds,gs))
 obtain ⟨Xm,em,km⟩:=ZqW (n:=n+4) (H:=Xl) (s:=s5) (e:=Wk (nm,hs,ml,ds,gs)) (by omega)
 have em : R (n+5) YU [.agg (RR s5).toArray,iv (Wk (nm,hs,ml,ds,gs))] Xl=_:=em
 have ho6 : okR (QS (Wk (nm,hs,ml,ds,gs)) s5):=Zgo ho5
 have hl6 : (QS (Wk (nm,hs,ml,ds,gs)) s5).2.length≤s5.2.length:=ZmD
 generalize QS (Wk (nm,hs,ml,ds,gs)) s5=s6 at em ho6 hl6 ⊢
 obtain ⟨Xn,wm,Bn,_,kn⟩:=(Bl.hle km).putR s6
 have rn : Zq Xn gv (gs.map strv) q:=((rk.step kl.step (by simp)).step km.step (by simp)).keep fun j hj=>kn j (hq j hj)
 have an : ld1 (pa P1 1) Xn=some (iv s6.1,Xn):=ZV Bn.b1 rfl
 have qn : bop .int .neq (iv s6.1) (.int .i64 0) Xn=some (.bool (s6.1 !=0),Xn):=by rw [Zp,Zam]
 have z3 : alc 1 (.agg #[.string ⟨#[]⟩,.string ⟨#[]⟩,.string ⟨#[]⟩,.bool false,.slice none 0 0]) X2=some (pt P3,X3):=z3
 have z4 : ∀ {K : Value→A.M Value},bind (alc 1 (.agg #[.string ⟨#[]⟩,.string ⟨#[]⟩,.string ⟨#[]⟩,.bool false,.slice none 0 0])) (fun q=>bind (stA 5 q (.agg uZ.cells.toArray)) fun _=>K q) X3=K (pt P4) X4:=z4
 have z5 : ∀ {K : Value→A.M Value},bind (alc 1 (.agg #[.string ⟨#[]⟩,.string ⟨#[]⟩,.string ⟨#[]⟩,.bool false,.slice none 0 0])) (fun q=>bind (stA 5 q (.agg uZ.cells.toArray)) fun _=>K q) X4=K (pt P5) X5:=z5
 have z2 : alc 1 (.agg #[.string ⟨#[]⟩,.int .i64 0]) X1=some (pt P2,X2):=z2
 have pre : ∀ r H',((bind (fa 1 (pt P1)) fun y51=>bind (ld1 y51) fun y52=>bind (bop .int .neq y52 (Value.int .i64 0)) fun y53=>
   cnd y53
   (bind (ldA 2 (pt P1)) fun y54=>bind (ldA 5 (pt P4)) fun y55=>bind (stA 2 (pt P2) y54) fun _=>bind (ldA 5 (pt P4)) fun u_56=>same u_56 y55 <| bind (stA 5 (pt P3) y55) fun _=>bind (ldA 2 (pt P2)) fun y57=>bind (ldA 5 (pt P3)) fun y58=>ret (Value.tuple #[y57,y58]))
   (bind (ldA 2 (pt P1)) fun y54=>bind (ldA 5 (pt P5)) fun y55=>bind (stA 2 (pt P2) y54) fun _=>bind (ldA 5 (pt P5)) fun u_56=>same u_56 y55 <| bind (stA 5 (pt P3) y55) fun _=>bind (ldA 2 (pt P2)) fun y57=>bind (ldA 5 (pt P3)) fun y58=>ret (Value.tuple #[y57,y58])))) Xn=some (r,H')→R (n+6) Zbe [.agg (RR s).toArray,iv 2] H=some (r,H'):=fun r H' hr=>by
  rw [R,ZoU rfl]
  unfold Zgc
  rw [Za z1,Za z2,Za z3,Za zb,z4,Za q1,ZL,Zf,Za q2,ZO,ZW,Za Zh]
  simp only [cond_false]
  rw [Zb,if_neg (by simp),Za dz,z5,Za B.d1,Za e6,Za Zn,Za Zo,Za w6,Za Zi,Za w7,Za B8.d1,Za e9,Za Zn,Za Zo,Za w9,Za Zi,Za wa,Za q3]
  refine (QC (vs:=[iv 2,pt P1,pt P2,pt P3,pt P4,pt P5]) (H':=Xk) ?_).trans ?_
  ·rw [Zb,if_pos rfl,Za Bb.d1,Za ec,Za Zn,Za Zo,Za wc,Za Zi,Za wd,Za Be.d1,Za ef,Za Zn,Za Zo,Za wf,Za Zi,Za wg,Za Bh.d1,Za ei,Za Zn,Za Zo,Za wi,Za Zi,Za wj]
   rfl
  ·rw [JE,Za Bk.d1,Za Bk.d5,Za el,Za Bl.d1,Qz,Za em,Za wm]
   exact hr
 by_cases h0 : s6.1=0
 ·rw [if_pos h0]
  obtain ⟨Xo,eo,ko,kko⟩:=Bn.fin (Q:=P5) (.inr rfl) Bn.b5 ri.one.1
  refine ⟨⟨nm,hs,ml,ds,gv,gs⟩,q,Xo,pre _ _ ?_,rfl,rn.keep fun j hj=>kko j (hq j hj),fun j hj=>?_,hg5,ko,ho6,by omega⟩
  ·rw [Za Zi,Za an,Za qn,Zb,if_neg (by simp [h0])]
   exact eo
  ·have:=hq j hj
   have:=Bn.o
   omega
 ·rw [if_neg h0]
  obtain ⟨Xo,eo,ko,kko⟩:=Bn.fin (Q:=P4) (.inl rfl) (u':=uZ) Bn.b4 rfl
  refine ⟨uZ,[],Xo,pre _ _ ?_,rfl,Zq.nil,by simp,by simp,ko,ho6,by omega⟩
  rw [Za Zi,Za an,Za qn,Zb,if_pos (by simp [h0])]
  exact eo
end
end Go.Proofs.YtedkoimihknggaaGreatDoor.A

namespace Go.Proofs.YtedkoimihknggaaGreatDoor.A
set_option linter.unusedVariables false
set_option maxRecDepth 100000
set_option linter.unusedSimpArgs false
open Go.Proofs Go.Proofs.YtedkoimihknggaaGreatDoor
theorem J9.headF {es : Nat} {X : Zc} {w : Value} {rows : List (List Value)} {q : List Nat} (h : J9 es X w rows q) (he : 0 < es) {i : Nat} (hi : i≤rows.length) : ∃ v,(∀ X',HLe X X'→slv es w none (some (iv i)) none X'=some (v,X'))∧SlN es X v (rows.take i):=by
 rcases h with ⟨rfl,rfl,rfl⟩ | ⟨sid,rest,r,g,rfl,rfl,hid,hr,hx⟩
 ·have : i=0:=by simpa using hi
  subst this
  exact ⟨.slice none 0 0,fun _ _=>rfl,SlN.nil⟩
 ·have hb : bnd (some (iv i)) rows.length=some i:=by simp [bnd]
  have hb0 : ∀ d,bnd none d=some d:=fun _=>rfl
  have hl : (rows.take i).length=i:=by rw [List.length_take];omega
  have hxt : ∀ y∈rows.take i,y.length=es:=fun y hy=>hx y (List.mem_of_mem_take hy)
  by_cases h0 : rows.length+r=0
  ·have hi0 : i=0:=by omega
   subst hi0
   refine ⟨.slice (some ⟨sid,0,some (bif g then 1 else 0)⟩) 0 0,fun X' hl'=>?_,⟨_,_,rfl,(fun e=>by cases e),rfl,by simp⟩⟩
   simp only [slv,hl' _ _ hid,hb,hb0]
   rw [if_pos ⟨trivial,by omega,by omega,by omega⟩,if_pos h0]
  ·refine ⟨.slice (some ⟨sid,0+0 * es,none⟩) (i - 0) (rows.length+r - 0),fun X' hl'=>?_,?_⟩
   ·simp only [slv,hl' _ _ hid,hb,hb0]
    rw [if_pos ⟨trivial,by omega,by omega,by omega⟩,if_neg h0]
   ·rw [Nat.zero_mul,Nat.add_zero,Nat.sub_zero,Nat.sub_zero]
    refine ⟨some ⟨sid,0,none⟩,rows.length+r,by rw [hl],(fun e=>by cases e),?_,hxt⟩
    unfold Qj
    simp only [hid]
    have hfl:=Zah hx
    have hft:=Zah hxt
    rw [hl] at hft
    have hle : i * es≤rows.length * es:=Nat.mul_le_mul_right _ hi
    rw [if_pos (by rw [List.length_append,hfl];omega),List.drop_zero]
    have hs : rows.flatten=(rows.take i).flatten++(rows.drop i).flatten:=by rw [← List.flatten_append,List.take_append_drop]
    rw [hs,List.append_assoc,← hft,List.take_left]
theorem KE.cut {X0 X : Zc} {sl : Value} {us : List Zm} {q : List Nat} (h : KE X0 X sl us q) : Zrj X sl us:=fun k hk=>by
 obtain ⟨v,h1,h2⟩:=h.r.headF (by omega) (i:=k) (by rw [List.length_map];exact hk)
 exact ⟨v,h1,by rw [List.map_take];exact h2⟩
section
variable {H0 H X X' X0 : Zc} {n p d b P1 P2 P3 : Nat} {v sl gv : Value} {bs : List UInt8} {s : RSt} {q : List Nat} {us : List Zm}
theorem Zpl {N : Nat} {z1 z2 z3 : Value} (hN : N≤12) (hp : p < X0.length) : ∀ (t j : Nat) (s : RSt) (sl : Value) (q : List Nat) (acc : List Zm) (X : Zc),N - j=t→j≤N→acc.length≤j→X0.length≤X.length→okR s→s.2.length≤1000000000→KE X0 X sl acc q→X[p]?=some (.cells (RR s) 1 false false)→
  ∃ X' sl' q' us,Zk (c7 (J1.l1 (R (n+6)))) [z1,z2,pt p,z3,sl,.int .u64 N,.int .u64 j] X=some (.ext 0 [z1,z2,pt p,z3,sl'],X')∧KE X0 X' sl' (acc++us) q'∧us.map ZG=(Kj t s).1∧X'[p]?=some (.cells (RR (Kj t s).2) 1 false false)∧okR (Kj t s).2∧Zw (p :: q) X (p :: q') X'
 | 0,j,s,sl,q,acc,X,ht,hj,ha,hX,ho,hb,hO,hc=>by
  refine ⟨X,sl,q,[],ZI ?_,by rw [List.append_nil];exact hO,rfl,hc,ho,.refl _ _⟩
  rw [JH,show j=N by omega]
  unfold J1.l1
  rw [Za Zg,Zb,if_neg (by simp)]
  rfl
 | t+1,j,s,sl,q,acc,X,ht,hj,ha,hX,ho,hb,hO,hc=>by
  have hlt : (j : Int) < N:=by omega
  have d1 : ldA 2 (pt p) X=some (.agg (RR s).toArray,X):=Z9 (n:=2) hc rfl
  obtain ⟨u,qu,X1,e1,k1,r1,o1,gl1,l1,ho1,hb1⟩:=Zvc (n:=n) (H:=X) hb ho
  have e1 : R (n+6) Zbe [.agg (RR s).toArray,.int .i64 2] X=_:=e1
  unfold Kj
  generalize Zag s=G at e1 k1 ho1 hb1 ⊢
  obtain ⟨k,s'⟩:=G
  simp only at e1 k1 ho1 hb1 ⊢
  have hc1:=l1 _ _ hc
  have hO1:=hO.hle l1
  have z4 : alc 1 (.agg #[.string ⟨#[]⟩,.int .i64 0]) X1=some (pt X1.length,X1++[.cells (RR (0,[])) 1 false false]):=bx (Qa (0,[]))
  have z5 : alc 1 (.agg #[.string ⟨#[]⟩,.string ⟨#[]⟩,.string ⟨#[]⟩,.bool false,.slice none 0 0]) (X1++[.cells (RR (0,[])) 1 false false])=some (pt (X1++[Zd.cells (RR (0,[])) 1 false false]).length,X1++[.cells (RR (0,[])) 1 false false]++[.cells uZ.cells 1 false false]):=bx (vs:=uZ.cells) rfl
  have k2 : HLe X1 (X1++[Zd.cells (RR (0,[])) 1 false false]++[Zd.cells uZ.cells 1 false false]):=(HLe.app _ _).trans (.app _ _)
  have c4 : (X1++[Zd.cells (RR (0,[])) 1 false false]++[Zd.cells uZ.cells 1 false false])[X1.length]?=some (.cells (RR (0,[])) 1 false false):=Zcu
  have c5 : (X1++[Zd.cells (RR (0,[])) 1 false false]++[Zd.cells uZ.cells 1 false false])[(X1++[Zd.cells (RR (0,[])) 1 false false]).length]?=some (.cells uZ.cells 1 false false):=Zx
  have hx1 : X1.length < (X1++[Zd.cells (RR (0,[])) 1 false false]).length:=by simp
  generalize X1++[Zd.cells (RR (0,[])) 1 false false]++[Zd.cells uZ.cells 1 false false]=X2 at z5 k2 c4 c5
  generalize (X1++[Zd.cells (RR (0,[])) 1 false false]).length=b5 at z5 c5 hx1
  have w4:=YX (vs:=RR s') (n:=2) c4 rfl rfl (Qa _)
  have w5:=YX (vs:=u.cells) (n:=5) ((List.getElem?_set_ne (a:=Zd.cells (RR s') 1 false false) (show X1.length≠b5 by omega)).trans c5) rfl rfl (Zli r1.one.1)
  have c4' : ((X2.set X1.length (.cells (RR s') 1 false false)).set b5 (.cells u.cells 1 false false))[X1.length]?=some (.cells (RR s') 1 false false):=(List.getElem?_set_ne (by omega)).trans (ZT c4)
  have c5' : ((X2.set X1.length (.cells (RR s') 1 false false)).set b5 (.cells u.cells 1 false false))[b5]?=some (.cells u.cells 1 false false):=ZT ((List.getElem?_set_ne (by omega)).trans c5)
  have k3 : HLe X1 ((X2.set X1.length (.cells (RR s') 1 false false)).set b5 (.cells u.cells 1 false false)):=(k2.put (Nat.le_refl _)).put (by omega)
  generalize (X2.set X1.length (.cells (RR s') 1 false false)).set b5 (.cells u.cells 1 false false)=X3 at w5 c4' c5' k3
  have d4 : ldA 2 (pt X1.length) X3=some (.agg (RR s').toArray,X3):=Z9 (n:=2) c4' rfl
  have hpX:=Z6 hc1
  have w6:=YX (vs:=RR s') (n:=2) (k3 _ _ hc1) rfl rfl (Qa _)
  have hc6:=ZT (b:=Zd.cells (RR s') 1 false false) (k3 _ _ hc1)
  have d6 : ldA 5 (pt b5) (X3.set p (.cells (RR s') 1 false false))=some (.agg u.cells.toArray,_):=Z9 (n:=5) ((List.getElem?_set_ne (by omega)).trans c5') rfl
  have s6 : Zw [p] X3 [p] (X3.set p (.cells (RR s') 1 false false)):=⟨by simp,fun i hi hn=>List.getElem?_set_ne (fun e=>hn (by simp [e])),fun i hi=>.inl hi⟩
  have hO6:=(hO1.hle k3).step s6 (fun j hj hm=>by simp only [List.mem_singleton] at hm;omega)
  have r6 : Zq (X3.set p (.cells (RR s') 1 false false)) u.gv (u.gs.map strv) qu:=(r1.step k3.step (by simp)).keep fun i hi=>List.getElem?_set_ne (by have:=o1 i hi;have:=Z6 hc;omega)
  have hl6 : X1.length≤(X3.set p (.cells (RR s') 1 false false)).length:=by rw [List.length_set];exact k3.len
  have s06 : Zw [p] X [p] (X3.set p (.cells (RR s') 1 false false)):=(l1.trans k3).stepq.trans s6
  generalize X3.set p (.cells (RR s') 1 false false)=X6 at w6 hc6 d6 s6 hO6 r6 hl6 s06
  have hXX:=l1.len
  obtain ⟨x,X7,sl',X8,q',a1,a2,ho3,s3⟩:=hO6.push0 (w:=u) (by omega) r6 (fun i hi=>⟨by have:=o1 i hi;omega,fun hm=>by have:=hO.r.lt i hm;have:=o1 i hi;omega⟩) (by omega) (fun a ha i hi hm=>by obtain ⟨qa,b1,_,_⟩:=hO.u a ha;have h1:=b1.lt i (b1.own_of hi);have h2:=o1 i hm;omega) (by omega)
  have hc8:=s3.get hc6 (fun hm=>by have:=hO.o _ hm;omega)
  have h8:=s3.len
  obtain ⟨X9,sl9,q9,us9,e9,ho9,k9,hc9,okk,s9⟩:=Zpl hN hp t (j+1) s' sl' q' (acc++[u]) X8 (by omega) (by omega) (by rw [List.length_append,List.length_singleton];omega) (by omega) ho1 (by omega) ho3 hc8
  refine ⟨X9,sl9,q9,u :: us9,(Zu ?_).trans e9,by rw [List.append_assoc] at ho9;exact ho9,by rw [List.map_cons,k1,k9],hc9,okk,?_⟩
  ·have qa : bop .int .add (.int .u64 j) (.int .u64 1) X8=some (.int .u64 ((j+1 : Nat) : Int),X8):=by rw [Zt,Zer,Int.emod_eq_of_lt (by omega) (by omega)];rfl
   rw [JH]
   unfold J1.l1
   rw [Za Zg,Zb,if_pos (by simpa using hlt),Za d1,Za e1,Za Zn,Za Zo,Za z4,Za z5,Za w4,Za w5,Za d4,Za w6,Za d6,Za a1,Za a2,Za qa]
   rfl
  ·have b1 : Zw (p :: q) X (p :: q) X6:=s06.more (fun i hi=>by simp at hi;simp [hi]) (fun i hi=>.inl hi)
   have b2 : Zw (p :: q) X6 (p :: q') X8:=s3.more (fun i hi=>List.mem_cons_of_mem _ hi) (fun i hi=>by
    rcases List.mem_cons.1 hi with rfl | hi
    ·exact .inl (by simp)
    ·exact .inr (.inl hi))
   exact (b1.trans b2).trans s9
end
end Go.Proofs.YtedkoimihknggaaGreatDoor.A

namespace Go.Proofs.YtedkoimihknggaaGreatDoor.A
set_option linter.unusedVariables false
set_option maxRecDepth 100000
set_option linter.unusedSimpArgs false
open Go.Proofs Go.Proofs.YtedkoimihknggaaGreatDoor
structure Ans (X : Zc) (wv : Value) (r : Nat × (List Tx × List YG)) : Prop where
 one : ∃ uv gv,wv=.agg #[uv,gv]∧oneCell uv=true∧oneCell gv=true
 ok : r.1=0→∃ uv gv us,wv=.agg #[uv,gv]∧Q0 X uv us∧us.map ZG=r.2.2∧Sl X gv (r.2.1.map strv)
theorem Ans.no {X : Zc} {r : Nat × (List Tx × List YG)} (h : r.1≠0) : Ans X (.agg #[.slice none 0 0,.slice none 0 0]) r:=⟨⟨_,_,rfl,rfl,rfl⟩,fun h0=>absurd h0 h⟩
noncomputable def ZuC : List Value→A.M Value:=c5 fun q66_0 q66_1 q66_2 q66_3 q66_4=>
 bind (fa 1 q66_2) fun y67=>
 bind (ld1 y67) fun y68=>
 bind (bop .int .neq y68 (Value.int .i64 0)) fun y69=>
 cnd y69
 (bind (ldA 2 q66_1) fun y70=>
 bind (fa 1 q66_2) fun y71=>
 bind (ld1 y71) fun y72=>
 bind (stA 2 q66_0 y70) fun _=>
 bind (ld1 y71) fun u_73=>same u_73 y72 <|
 bind (ldA 2 q66_0) fun y74=>
 ret (Value.tuple #[y74,y72]))
 (bind (bld (.agg #[.slice none 0 0,.slice none 0 0]) [(0,1,q66_4),(1,1,q66_3)]) fun y75=>
 bind (stA 2 q66_0 y75) fun _=>
 bind (ldA 2 q66_0) fun y76=>
 ret (Value.tuple #[y76,(Value.int .i64 0)]))
noncomputable def ZrB : List Value→A.M Value:=c5 fun q56_0 q56_1 q56_2 q56_3 q56_4=>
 bind (fa 1 q56_2) fun y57=>
 bind (ld1 y57) fun y58=>
 bind (bop .int .eql y58 (Value.int .i64 0)) fun y59=>
 bind (ZU y59 true 3 (bind (fa 0 q56_2) fun y60=>
 bind (ld1 y60) fun y61=>
 bind (bop .str .neq y61 (Value.string ⟨#[]⟩)) fun y62=>
 ret [y60,y61,y62])) (c3 fun _ _ q63_2=>
 bind (pick y59 q63_2 (Value.bool false)) fun y64=>
 jn (cnd y64
 (bind (fa 1 q56_2) fun y65=>
 bind (st1 y65 (Value.int .i64 3)) fun _=>
 ret (.nrm [q56_0,q56_1,q56_2,q56_3,q56_4]))
 (ret (.nrm [q56_0,q56_1,q56_2,q56_3,q56_4]))) ZuC noX ret)
noncomputable def Zpt (Γ : Ze) : List Value→A.M Value:=c5 fun q50_0 q50_1 q50_2 q50_3 q50_4=>
 bind (fa 1 q50_2) fun y51=>
 bind (ld1 y51) fun y52=>
 bind (bop .int .eql y52 (Value.int .i64 0)) fun y53=>
 jn (cnd y53
 (bind (Γ ZbU [q50_4,q50_3]) fun y54=>
 bind (fa 1 q50_2) fun y55=>
 bind (st1 y55 y54) fun _=>
 ret (.nrm [q50_0,q50_1,q50_2,q50_3,q50_4]))
 (ret (.nrm [q50_0,q50_1,q50_2,q50_3,q50_4]))) ZrB noX ret
noncomputable def t12 (Γ : Ze) : List Value→A.M Value:=c5 fun q28_0 q28_1 q28_2 q28_3 q28_4=>
 bind (fa 1 q28_2) fun y29=>
 bind (ld1 y29) fun y30=>
 bind (bop .int .neq y30 (Value.int .i64 0)) fun y31=>
 cnd y31
 (bind (ldA 2 q28_1) fun y32=>
 bind (fa 1 q28_2) fun y33=>
 bind (ld1 y33) fun y34=>
 bind (stA 2 q28_0 y32) fun _=>
 bind (ld1 y33) fun u_35=>same u_35 y34 <|
 bind (ldA 2 q28_0) fun y36=>
 ret (Value.tuple #[y36,y34]))
 (jn (Zk (c7 (J1.l1 Γ)) [q28_0,q28_1,q28_2,q28_3,(Value.slice none 0 0),q28_4,(Value.int .u64 0)]) noN (xk 0 (Zpt Γ) noX) ret)
section
variable {H0 H X X' X0 : Zc} {n p d b p2 p4 p5 : Nat} {v sl gv : Value} {bs : List UInt8} {s : RSt} {q : List Nat} {us : List Zm}
theorem Zka {e : Nat} (h2 : X[p2]?=some (.cells [.slice none 0 0,.slice none 0 0] 1 false false)) (h4 : X[p4]?=some (.cells [.slice none 0 0,.slice none 0 0] 1 false false)) (h5 : X[p5]?=some (.cells [v,iv e] 1 false false)) (h25 : p2≠p5) (h24 : p2≠p4) :
  (bind (ldA 2 (pt p4)) fun y32=>bind (fa 1 (pt p5)) fun y33=>bind (ld1 y33) fun y34=>bind (stA 2 (pt p2) y32) fun _=>bind (ld1 y33) fun u_35=>same u_35 y34 <| bind (ldA 2 (pt p2)) fun y36=>ret (Value.tuple #[y36,y34])) X=some (.tuple #[.agg #[.slice none 0 0,.slice none 0 0],iv e],X.set p2 (.cells [.slice none 0 0,.slice none 0 0] 1 false false)):=by
 have d4 : ldA 2 (pt p4) X=some (.agg #[.slice none 0 0,.slice none 0 0],X):=Z9 (n:=2) h4 rfl
 have a5 : ld1 (pa p5 1) X=some (iv e,X):=ZV h5 rfl
 have w2 : stA 2 (pt p2) (.agg #[.slice none 0 0,.slice none 0 0]) X=_:=YX (vs:=[.slice none 0 0,.slice none 0 0]) (n:=2) h2 rfl rfl rfl
 have a6 : ld1 (pa p5 1) (X.set p2 (.cells [.slice none 0 0,.slice none 0 0] 1 false false))=some (iv e,_):=ZV ((List.getElem?_set_ne h25).trans h5) rfl
 have d6 : ldA 2 (pt p2) (X.set p2 (.cells [.slice none 0 0,.slice none 0 0] 1 false false))=some (.agg #[.slice none 0 0,.slice none 0 0],_):=Z9 (n:=2) (ZT h2) rfl
 rw [Za d4,Za Zi,Za a5,Za w2,Za a6,Qz,Za d6]
 rfl
theorem Zq.isS2 {vs : List Value} (h : Zq X v vs q) : ∃ a n c,v=.slice a n c:=by
 obtain ⟨a,c,rfl,_⟩:=h.rd
 exact ⟨_,_,_,rfl⟩
theorem KE.keepN {Y : Zc} (h : KE X0 X sl us q) (hk : ∀ j,X0.length≤j→Y[j]?=X[j]?) : KE X0 Y sl us q:=
 ⟨h.r.keep fun j hj=>hk j (h.o j hj),h.o,fun w hw=>by
  obtain ⟨qu,h1,h2,h3⟩:=h.u w hw
  exact ⟨qu,h1.keep fun j hj=>hk j (h2 j hj).1,h2,h3⟩,h.un⟩
theorem Ztg {S : Tx} {e : Nat} (h2 : X[p2]?=some (.cells [.slice none 0 0,.slice none 0 0] 1 false false)) (h4 : X[p4]?=some (.cells [.slice none 0 0,.slice none 0 0] 1 false false)) (h5 : X[p5]?=some (.cells [strv S,iv e] 1 false false)) (h25 : p2≠p5) (h24 : p2≠p4) (hs1 : ∃ a n c,sl=.slice a n c) (hs2 : ∃ a n c,gv=.slice a n c) :
  ∃ zs,zs.all oneCell=true∧ZuC [pt p2,pt p4,pt p5,gv,sl] X=some (.tuple #[if e=0 then .agg #[sl,gv] else .agg #[.slice none 0 0,.slice none 0 0],iv e],X.set p2 (.cells zs 1 false false)):=by
 have a5 : ld1 (pa p5 1) X=some (iv e,X):=ZV h5 rfl
 have q5 : bop .int .neq (iv e) (.int .i64 0) X=some (.bool (e !=0),X):=by rw [Zp,Zam]
 unfold ZuC
 by_cases he : e=0
 ·obtain ⟨a1,b1,c1,rfl⟩:=hs1
  obtain ⟨a2,b2,c2,rfl⟩:=hs2
  have zb : bld zD [(0,1,.slice a1 b1 c1),(1,1,.slice a2 b2 c2)] X=some (.agg #[.slice a1 b1 c1,.slice a2 b2 c2],X):=by
   simp [bld,KW,Value.cells,YC,splice]
  refine ⟨[.slice a1 b1 c1,.slice a2 b2 c2],rfl,?_⟩
  rw [ZM,Za Zi,Za a5,Za q5,Zb,if_neg (by simp [he]),if_pos he,Za zb]
  subst he
  exact Wm (vs:=[.slice a1 b1 c1,.slice a2 b2 c2]) h2 rfl rfl rfl
 ·refine ⟨[.slice none 0 0,.slice none 0 0],rfl,?_⟩
  rw [ZM,Za Zi,Za a5,Za q5,Zb,if_pos (by simp [he]),if_neg he]
  exact Zka h2 h4 h5 h25 h24
theorem Ztm {S : Tx} {e : Nat} (h2 : X[p2]?=some (.cells [.slice none 0 0,.slice none 0 0] 1 false false)) (h4 : X[p4]?=some (.cells [.slice none 0 0,.slice none 0 0] 1 false false)) (h5 : X[p5]?=some (.cells [strv S,iv e] 1 false false)) (h25 : p2 < p5) (h24 : p2 < p4) (h45 : p4≠p5) (hs1 : ∃ a n c,sl=.slice a n c) (hs2 : ∃ a n c,gv=.slice a n c) (hH : HLe H X) (hp : H.length≤p2) :
  ∃ X',ZrB [pt p2,pt p4,pt p5,gv,sl] X=some (.tuple #[if (if e=0∧S≠[] then 3 else e)=0 then .agg #[sl,gv] else .agg #[.slice none 0 0,.slice none 0 0],iv ((if e=0∧S≠[] then 3 else e : Nat))],X')∧HLe H X'∧∀ j,j≠p2→j≠p5→X'[j]?=X[j]?:=by
 have a5 : ld1 (pa p5 1) X=some (iv e,X):=ZV h5 rfl
 have a0 : ld1 (pa p5 0) X=some (strv S,X):=ZV h5 rfl
 have q5 : bop .int .eql (iv e) (.int .i64 0) X=some (.bool (e==0),X):=by rw [ZJ,Zb9]
 have q4 : bop .str .neq (strv S) (.string ⟨#[]⟩) X=some (.bool (decide (S≠[])),X):=by
  have:=ZbC (a:=S) (b:=[]) (H:=X)
  rw [show (strv [] : Value)=.string ⟨#[]⟩ from rfl] at this
  rw [this]
  by_cases h : S=[] <;> simp [h]
 have hgate : ∀ K : Value→A.M Value,bind (ZU (Value.bool (e==0)) true 3 (bind (fa 0 (pt p5)) fun y60=>bind (ld1 y60) fun y61=>bind (bop .str .neq y61 (Value.string ⟨#[]⟩)) fun y62=>ret [y60,y61,y62])) (c3 fun _ _ q63_2=>bind (pick (Value.bool (e==0)) q63_2 (Value.bool false)) K) X=K (.bool (decide (e=0∧S≠[]))) X:=fun K=>by
  by_cases h0 : e=0
  ·rw [show (e==0)=true from by simp [h0],ZL,Zf,Za Zi,Zf,Za a0,Zf,Za q4,ZO,ZR,Za Zh]
   simp [h0]
  ·rw [show (e==0)=false from by simp [h0],Za (g_r.trans (if_neg (by simp)))]
   simp only [List.replicate]
   rw [ZR,Za Zh]
   simp [h0]
 unfold ZrB
 by_cases hc : e=0∧S≠[]
 ·rw [if_pos hc]
  have w : st1 (pa p5 1) (iv 3) X=some (undef,X.set p5 (.cells [strv S,iv 3] 1 false false)):=ZaH (o:=1) h5 (by simp) rfl
  obtain ⟨zs,hz,e6⟩:=Ztg (sl:=sl) (gv:=gv) (e:=3) ((List.getElem?_set_ne (by omega)).trans h2) ((List.getElem?_set_ne (by omega)).trans h4) (ZT (b:=Zd.cells [strv S,iv ((3 : Nat) : Int)] 1 false false) h5) (by omega) (by omega) hs1 hs2
  refine ⟨(X.set p5 (.cells [strv S,iv ((3 : Nat) : Int)] 1 false false)).set p2 (.cells zs 1 false false),?_,(hH.put (by omega)).put hp,fun j h1 h2=>(List.getElem?_set_ne (by omega)).trans (List.getElem?_set_ne (by omega))⟩
  rw [ZM,Za Zi,Za a5,Za q5]
  refine (hgate _).trans ?_
  refine (QC (vs:=[pt p2,pt p4,pt p5,gv,sl]) (H':=X.set p5 (.cells [strv S,iv 3] 1 false false)) ?_).trans e6
  rw [decide_eq_true hc,Zb,if_pos rfl,Za Zi,Za w]
  rfl
 ·rw [if_neg hc]
  obtain ⟨zs,hz,e6⟩:=Ztg (sl:=sl) (gv:=gv) h2 h4 h5 (by omega) (by omega) hs1 hs2
  refine ⟨X.set p2 (.cells zs 1 false false),?_,hH.put hp,fun j h1 h2=>List.getElem?_set_ne (by omega)⟩
  rw [ZM,Za Zi,Za a5,Za q5]
  refine (hgate _).trans ?_
  refine (QC (vs:=[pt p2,pt p4,pt p5,gv,sl]) (H':=X) ?_).trans e6
  rw [decide_eq_false hc,Zb,if_neg (by simp)]
  rfl
theorem Zp3 (hb : bs.length≤1000000000) : ∃ wv X',R (n+8) Kv [strv bs] X=some (.tuple #[wv,iv (KQ bs).1],X')∧HLe X X'∧Ans X' wv (KQ bs):=by
 have f1 : ∀ r H',J1 (R (n+7)) (strv bs) X=some (r,H')→R (n+8) Kv [strv bs] X=some (r,H'):=fun r H' hr=>by rw [R,Znk rfl];exact hr
 have D0 : ([Value.slice none 0 0,Value.slice none 0 0]).all oneCell=true:=rfl
 have z1 : alc 1 (.agg #[.slice none 0 0,.slice none 0 0]) X=some (pt X.length,X++[.cells [.slice none 0 0,.slice none 0 0] 1 false false]):=bx (vs:=[.slice none 0 0,.slice none 0 0]) D0
 have k1 : HLe X (X++[Zd.cells [.slice none 0 0,.slice none 0 0] 1 false false]):=.app _ _
 have g1 : (X++[Zd.cells [.slice none 0 0,.slice none 0 0] 1 false false])[X.length]?=some (.cells [.slice none 0 0,.slice none 0 0] 1 false false):=Zx
 generalize X++[Zd.cells [.slice none 0 0,.slice none 0 0] 1 false false]=X1 at z1 k1 g1
 have zb : bld (.agg #[.slice none 0 0,.slice none 0 0]) [] X1=some (.agg #[.slice none 0 0,.slice none 0 0],X1):=rfl
 have z2:=fun {K : Value→A.M Value}=>ZeU (H:=X1) (n:=2) (zs:=[.slice none 0 0,.slice none 0 0]) (r:=[.slice none 0 0,.slice none 0 0]) (K:=K) rfl rfl D0 D0
 have k2 : HLe X1 (X1++[Zd.cells [.slice none 0 0,.slice none 0 0] 1 false false]):=.app _ _
 have g2 : (X1++[Zd.cells [.slice none 0 0,.slice none 0 0] 1 false false])[X1.length]?=some (.cells [.slice none 0 0,.slice none 0 0] 1 false false):=Zx
 generalize X1++[Zd.cells [.slice none 0 0,.slice none 0 0] 1 false false]=X2 at z2 k2 g2
 have h24:=Z6 g1
 have h2:=k2 _ _ g1
 have k12:=k1.trans k2
 generalize hP : X.length=p2 at z1 h24 h2
 generalize X1.length=p4 at z2 g2 h24
 have z2 : ∀ {K : Value→A.M Value},bind (alc 1 (.agg #[.slice none 0 0,.slice none 0 0])) (fun q=>bind (stA 2 q (.agg #[.slice none 0 0,.slice none 0 0])) fun _=>K q) X1=K (pt p4) X2:=z2
 have fin0 : ∀ e : Nat,(bind (ldA 2 (pt p4)) fun y5=>bind (stA 2 (pt p2) y5) fun _=>bind (ldA 2 (pt p2)) fun y6=>ret (Value.tuple #[y6,iv e])) X2=some (.tuple #[.agg #[.slice none 0 0,.slice none 0 0],iv e],X2.set p2 (.cells [.slice none 0 0,.slice none 0 0] 1 false false)):=fun e=>by
  have d4 : ldA 2 (pt p4) X2=some (.agg #[.slice none 0 0,.slice none 0 0],X2):=Z9 (n:=2) g2 rfl
  rw [Za d4]
  exact Wm (vs:=[.slice none 0 0,.slice none 0 0]) h2 rfl rfl D0
 cases bs with
 | nil=>
  have q1 : bop .str .eql (strv []) (.string ⟨#[]⟩) X2=some (.bool true,X2):=Zee
  rw [ZmZ]
  refine ⟨_,X2.set p2 (.cells [.slice none 0 0,.slice none 0 0] 1 false false),f1 _ _ ?_,k12.put (by omega),Ans.no (by simp)⟩
  unfold J1
  rw [Za z1,Za zb,z2,Za q1,Zb,if_pos rfl]
  exact fin0 2
 | cons x l=>
  have q1 : bop .str .eql (strv (x :: l)) (.string ⟨#[]⟩) X2=some (.bool false,X2):=by rw [Zee,decide_eq_false (by simp)]
  have x1 : ixs (strv (x :: l)) (.int .i64 0) X2=some (u8v x,X2):=WP (i:=0) rfl .i64 X2
  have q2 : bop .int .neq (u8v x) (.int .u8 2) X2=some (.bool (decide (x.toNat≠2)),X2):=by
   rw [Zp,show ((x.toNat : Int) !=2)=decide (x.toNat≠2) from by rw [Bool.eq_iff_iff,decide_eq_true_eq,bne_iff_ne];omega]
  by_cases hx : x.toNat=2
  rotate_left
  ·rw [decide_eq_true hx] at q2
   rw [Zn3 hx]
   refine ⟨_,X2.set p2 (.cells [.slice none 0 0,.slice none 0 0] 1 false false),f1 _ _ ?_,k12.put (by omega),Ans.no (by simp)⟩
   unfold J1
   rw [Za z1,Za zb,z2,Za q1,Zb,if_neg (by simp),Za x1,Za q2,Zb,if_pos rfl]
   exact fin0 6
  rw [decide_eq_false (fun h=>h hx)] at q2
  rw [ZmU hx]
  have z3 : sls (strv (x :: l)) (some (.int .i64 1)) none X2=some (strv l,X2):=ZuS (k:=1) (by simp)
  have zc : bld (.agg #[.string ⟨#[]⟩,.int .i64 0]) [(0,1,strv l)] X2=some (.agg (RR (0,l)).toArray,X2):=by
   simp [bld,KW,Value.cells,YC,strv,splice]
  have hbl : ((0,l) : RSt).2.length≤1000000000:=by
   simp only [List.length_cons] at hb ⊢
   omega
  have ho0 : okR (0,l):=fun h=>absurd rfl h
  obtain ⟨X3,gv,qg,e3,k3,r3,o3⟩:=ZmW (n:=n+2) (M:=6) (L:=12) (H:=X2) (by omega) (by omega) hbl ho0
  have e3 : R (n+7) Ke [.agg (RR (0,l)).toArray,.int .i64 6,.int .i64 12] X2=_:=e3
  have ho1 : okR (Kh 6 12 (0,l)).2:=ZqY ho0
  have hl1 : (Kh 6 12 (0,l)).2.2.length≤((0,l) : RSt).2.length:=Zsp
  have hg1 : (Kh 6 12 (0,l)).1.length≤65535:=Zgf
  unfold Zcc
  generalize ((0,l) : RSt)=s0 at zc e3 r3 ho1 hl1 hbl hg1 ⊢
  simp only
  generalize Kh 6 12 s0=G at e3 r3 ho1 hl1 hg1 ⊢
  obtain ⟨gl,s1⟩:=G
  simp only at e3 r3 ho1 hl1 hg1 ⊢
  have z4:=fun {K : Value→A.M Value}=>ZeU (H:=X3) (n:=2) (zs:=RR (0,[])) (r:=RR s1) (K:=K) rfl rfl (Qa _) (Qa _)
  have k4 : HLe X3 (X3++[Zd.cells (RR s1) 1 false false]):=.app _ _
  have g5 : (X3++[Zd.cells (RR s1) 1 false false])[X3.length]?=some (.cells (RR s1) 1 false false):=Zx
  have h2:=k4 _ _ (k3 _ _ h2)
  have g4:=k4 _ _ (k3 _ _ g2)
  have h45 : p4 < X3.length:=Z6 (k3 _ _ g2)
  have r4:=r3.step k4.step (by simp)
  have hk4:=(k12.trans k3).trans k4
  have hqg : ∀ i∈qg,i < X3.length∧p4 < i:=fun i hi=>⟨r3.lt i hi,by have:=o3 i hi;have:=Z6 g2;omega⟩
  generalize X3++[Zd.cells (RR s1) 1 false false]=X4 at z4 k4 g5 h2 g4 r4 hk4
  generalize X3.length=p5 at z4 g5 h45 hqg
  have z4 : ∀ {K : Value→A.M Value},bind (alc 1 (.agg #[.string ⟨#[]⟩,.int .i64 0])) (fun q=>bind (stA 2 q (.agg (RR s1).toArray)) fun _=>K q) X3=K (pt p5) X4:=z4
  have d5 : ldA 2 (pt p5) X4=some (.agg (RR s1).toArray,X4):=Z9 (n:=2) g5 rfl
  obtain ⟨X5,e5,k5⟩:=Zlq (n:=n+4) (H:=X4) (k:=2) (s:=s1) (by omega) (by omega) ho1
  have e5 : R (n+7) J5 [.agg (RR s1).toArray,.int .i64 2] X4=_:=e5
  have ho2 : okR (Z4 2 s1).2:=ZcX ho1
  have hl2 : (Z4 2 s1).2.2.length≤s1.2.length:=Zep
  have hbad:=ZiL (k:=2) ho1
  have hnl:=ZbV (k:=2) (s:=s1)
  generalize Z4 2 s1=N at e5 ho2 hl2 hbad hnl ⊢
  obtain ⟨nv,s2⟩:=N
  simp only at e5 ho2 hl2 hbad hnl ⊢
  have w5:=YX (vs:=RR s2) (n:=2) (k5 _ _ g5) rfl rfl (Qa _)
  have hk6 : HLe X (X5.set p5 (.cells (RR s2) 1 false false)):=(hk4.trans k5).put (by omega)
  have g5:=ZT (b:=Zd.cells (RR s2) 1 false false) (k5 _ _ g5)
  have h2:=(List.getElem?_set_ne (a:=Zd.cells (RR s2) 1 false false) (show p5≠p2 by omega)).trans (k5 _ _ h2)
  have g4:=(List.getElem?_set_ne (a:=Zd.cells (RR s2) 1 false false) (show p5≠p4 by omega)).trans (k5 _ _ g4)
  have r6:=(r4.step k5.step (by simp)).keep (H':=X5.set p5 (.cells (RR s2) 1 false false)) fun i hi=>List.getElem?_set_ne (by have:=hqg i hi;omega)
  generalize X5.set p5 (.cells (RR s2) 1 false false)=X6 at w5 hk6 g5 h2 g4 r6
  have a6 : ld1 (pa p5 1) X6=some (iv s2.1,X6):=ZV g5 rfl
  have q6 : bop .int .eql (iv s2.1) (.int .i64 0) X6=some (.bool (s2.1==0),X6):=by rw [ZJ,Zb9]
  have q7 : bop .int .gtr (.int .u64 nv) (.int .u64 12) X6=some (.bool (decide (nv > 12)),X6):=by
   rw [ZK,show decide ((nv : Int) > 12)=decide (nv > 12) from by rw [decide_eq_decide];omega]
  have hgate : ∀ K : Value→A.M Value,bind (ZU (Value.bool (s2.1==0)) true 2 (bind (bop .int .gtr (.int .u64 nv) (Value.int .u64 12)) fun v20=>ret [.int .u64 nv,v20])) (c2 fun _ q6=>bind (pick (Value.bool (s2.1==0)) q6 (Value.bool false)) K) X6=K (.bool (decide (nv > 12))) X6:=fun K=>by
   by_cases h0 : s2.1=0
   ·rw [show (s2.1==0)=true from by simp [h0],ZL,Zf,Za q7,ZO,ZW,Za Zh]
    rfl
   ·rw [show (s2.1==0)=false from by simp [h0],Za (g_r.trans (if_neg (by simp)))]
    simp only [List.replicate]
    rw [ZW,Za Zh,hbad h0]
    rfl
  have pre : ∀ r H',(jn (cnd (Value.bool (decide (nv > 12)))
    (bind (fa 1 (pt p5)) fun y27=>bind (st1 y27 (Value.int .i64 7)) fun _=>ret (.nrm [pt p2,pt p4,pt p5,gv,.int .u64 nv]))
    (ret (.nrm [pt p2,pt p4,pt p5,gv,.int .u64 nv]))) (t12 (R (n+7))) noX ret) X6=some (r,H')→R (n+8) Kv [strv (x :: l)] X=some (r,H'):=fun r H' hr=>f1 _ _ (by
   unfold J1
   rw [Za z1,Za zb,z2,Za q1,Zb,if_neg (by simp),Za x1,Za q2,Zb,if_neg (by simp),Za z3,Za zc,Za e3,Za Zn,Za Zo,z4,Za d5,Za e5,Za Zn,Za Zo,Za w5,Za Zi,Za a6,Za q6]
   refine (hgate _).trans ?_
   exact hr)
  have h24' : p2≠p4:=by omega
  have h25' : p2≠p5:=by omega
  by_cases hn : nv > 12
  ·have h0 : s2.1=0:=Decidable.byContradiction fun h=>by have:=hbad h;omega
   rw [if_pos hn,Zgw h0 (by omega)]
   unfold Kj
   simp only
   rw [if_pos (by omega)]
   have w7 : st1 (pa p5 1) (.int .i64 7) X6=some (undef,X6.set p5 (.cells [strv s2.2,iv ((7 : Nat) : Int)] 1 false false)):=ZaH (o:=1) g5 (by simp) rfl
   have g7:=ZT (b:=Zd.cells [strv s2.2,iv ((7 : Nat) : Int)] 1 false false) g5
   have h27:=(List.getElem?_set_ne (a:=Zd.cells [strv s2.2,iv ((7 : Nat) : Int)] 1 false false) (show p5≠p2 by omega)).trans h2
   have h47:=(List.getElem?_set_ne (a:=Zd.cells [strv s2.2,iv ((7 : Nat) : Int)] 1 false false) (show p5≠p4 by omega)).trans g4
   have hk7 : HLe X (X6.set p5 (.cells [strv s2.2,iv ((7 : Nat) : Int)] 1 false false)):=hk6.put (by omega)
   generalize X6.set p5 (.cells [strv s2.2,iv ((7 : Nat) : Int)] 1 false false)=X7 at w7 g7 h27 h47 hk7
   have a7 : ld1 (pa p5 1) X7=some (iv ((7 : Nat) : Int),X7):=ZV g7 rfl
   have q8 : bop .int .neq (iv ((7 : Nat) : Int)) (.int .i64 0) X7=some (.bool true,X7):=by rw [Zp];rfl
   refine ⟨_,X7.set p2 (.cells [.slice none 0 0,.slice none 0 0] 1 false false),pre _ _ ?_,hk7.put (by omega),Ans.no (by simp)⟩
   refine (QC (vs:=[pt p2,pt p4,pt p5,gv,.int .u64 nv]) (H':=X7) ?_).trans ?_
   ·rw [decide_eq_true hn,Zb,if_pos rfl,Za Zi,Za w7];rfl
   ·unfold t12
    rw [ZM,Za Zi,Za a7,Za q8,Zb,if_pos rfl]
    exact Zka h27 h47 g7 h25' h24'
  ·rw [if_neg hn]
   simp only
   have q8 : bop .int .neq (iv s2.1) (.int .i64 0) X6=some (.bool (s2.1 !=0),X6):=by rw [Zp,Zam]
   have pre2 : ∀ r H',t12 (R (n+7)) [pt p2,pt p4,pt p5,gv,.int .u64 nv] X6=some (r,H')→R (n+8) Kv [strv (x :: l)] X=some (r,H'):=fun r H' hr=>pre _ _ (by
    refine (QC (vs:=[pt p2,pt p4,pt p5,gv,.int .u64 nv]) (H':=X6) ?_).trans hr
    rw [decide_eq_false hn,Zb,if_neg (by simp)];rfl)
   by_cases h0 : s2.1=0
   rotate_left
   ·have hnv : nv=0:=hbad h0
    subst hnv
    unfold Kj
    simp only
    rw [if_pos h0]
    refine ⟨_,X6.set p2 (.cells [.slice none 0 0,.slice none 0 0] 1 false false),pre2 _ _ ?_,hk6.put (by omega),Ans.no (by simpa using h0)⟩
    unfold t12
    rw [ZM,Za Zi,Za a6,Za q8,Zb,if_pos (by simp [h0])]
    exact Zka h2 g4 g5 h25' h24'
   ·obtain ⟨X7,sl,q,us,e7,hO7,k7,g7,ho7,s7⟩:=Zpl (n:=n+1) (X0:=X6) (p:=p5) (z1:=pt p2) (z2:=pt p4) (z3:=gv) (N:=nv) (by omega) (Z6 g5) nv 0 s2 (.slice none 0 0) [] [] X6 (by omega) (by omega) (Nat.le_refl _) (Nat.le_refl _) ho2 (by omega) ⟨J9.nil,by simp,by simp,by simp⟩ g5
    have e7 : Zk (c7 (J1.l1 (R (n+7)))) [pt p2,pt p4,pt p5,gv,.slice none 0 0,.int .u64 nv,.int .u64 0] X6=_:=e7
    rw [List.nil_append] at hO7
    have h27:=s7.get h2 (by simp;omega)
    have h47:=s7.get g4 (by simp;omega)
    have r7:=r6.step s7 (fun i hi hm=>by have : i=p5:=(by simpa using hm);have:=hqg i hi;omega)
    have hk7:=(hk6.more s7 (fun j hj=>by have : j=p5:=(by simpa using hj);omega)).1
    have hs1 : ∃ a n c,sl=.slice a n c:=hO7.r.isS
    have hs2 : ∃ a n c,gv=.slice a n c:=r7.isS2
    have hone1:=hO7.r.one.1
    have hone2:=r7.one.1
    have hlus : us.length≤12:=by
     have:=congrArg List.length k7
     rw [List.length_map,Zhu] at this
     omega
    generalize Kj nv s2=U at k7 g7 ⊢
    obtain ⟨ul,s3⟩:=U
    simp only at k7 g7 ⊢
    subst k7
    have a7 : ld1 (pa p5 1) X7=some (iv s3.1,X7):=ZV g7 rfl
    have q9 : bop .int .eql (iv s3.1) (.int .i64 0) X7=some (.bool (s3.1==0),X7):=by rw [ZJ,Zb9]
    have pre3 : ∀ r H',Zpt (R (n+7)) [pt p2,pt p4,pt p5,gv,sl] X7=some (r,H')→R (n+8) Kv [strv (x :: l)] X=some (r,H'):=fun r H' hr=>pre2 _ _ (by
     unfold t12
     rw [ZM,Za Zi,Za a6,Za q8,Zb,if_neg (by simp [h0]),ZS e7,Zv]
     exact hr)
    by_cases h3 : s3.1≠0
    ·rw [if_pos h3]
     obtain ⟨X8,e8,k8,_⟩:=Ztm (H:=X) (sl:=sl) (gv:=gv) (e:=s3.1) (S:=s3.2) h27 h47 g7 (by omega) (by omega) (by omega) hs1 hs2 hk7 (by omega)
     rw [if_neg (fun h : s3.1=0∧s3.2≠[]=>h3 h.1),if_neg h3] at e8
     refine ⟨_,X8,pre3 _ _ ?_,k8,Ans.no h3⟩
     unfold Zpt
     rw [ZM,Za Zi,Za a7,Za q9]
     refine (QC (vs:=[pt p2,pt p4,pt p5,gv,sl]) (H':=X7) ?_).trans e8
     rw [Zb,if_neg (by simp [h3])];rfl
    ·rw [if_neg h3]
     have h3 : s3.1=0:=Decidable.of_not_not h3
     obtain ⟨X8,e8,k8⟩:=Zs8 (n:=n) (us:=us) (gs:=gl) (by omega) (by omega) hO7.us hO7.cut r7.rd
     rw [Zmh] at e8
     have w8 : st1 (pa p5 1) (iv (ofK (us.map ZG) gl)) X8=some (undef,X8.set p5 (.cells [strv s3.2,iv (ofK (us.map ZG) gl)] 1 false false)):=ZaH (o:=1) (k8 _ _ g7) (by simp) rfl
     have g9:=ZT (b:=Zd.cells [strv s3.2,iv (ofK (us.map ZG) gl)] 1 false false) (k8 _ _ g7)
     have h29:=(List.getElem?_set_ne (a:=Zd.cells [strv s3.2,iv (ofK (us.map ZG) gl)] 1 false false) (show p5≠p2 by omega)).trans (k8 _ _ h27)
     have h49:=(List.getElem?_set_ne (a:=Zd.cells [strv s3.2,iv (ofK (us.map ZG) gl)] 1 false false) (show p5≠p4 by omega)).trans (k8 _ _ h47)
     have hk9 : HLe X (X8.set p5 (.cells [strv s3.2,iv (ofK (us.map ZG) gl)] 1 false false)):=(hk7.trans k8).put (by omega)
     have s9 : ∀ j,j≠p5→(X8.set p5 (.cells [strv s3.2,iv (ofK (us.map ZG) gl)] 1 false false))[j]?=X8[j]?:=fun j hj=>List.getElem?_set_ne (by omega)
     generalize X8.set p5 (.cells [strv s3.2,iv (ofK (us.map ZG) gl)] 1 false false)=X9 at w8 g9 h29 h49 hk9 s9
     obtain ⟨Xa,ea,ka,keep⟩:=Ztm (H:=X) (sl:=sl) (gv:=gv) (e:=ofK (us.map ZG) gl) (S:=s3.2) h29 h49 g9 (by omega) (by omega) (by omega) hs1 hs2 hk9 (by omega)
     have run : Zpt (R (n+7)) [pt p2,pt p4,pt p5,gv,sl] X7=ZrB [pt p2,pt p4,pt p5,gv,sl] X9:=by
      unfold Zpt
      rw [ZM,Za Zi,Za a7,Za q9]
      refine (QC (vs:=[pt p2,pt p4,pt p5,gv,sl]) (H':=X9) ?_)
      rw [Zb,if_pos (by simp [h3]),Za e8,Za Zi,Za w8];rfl
     rw [← run] at ea
     by_cases hE : ofK (us.map ZG) gl≠0
     ·rw [if_neg (fun h : ofK (us.map ZG) gl=0∧s3.2≠[]=>hE h.1),if_neg hE] at ea
      rw [if_pos hE]
      exact ⟨_,Xa,pre3 _ _ ea,ka,Ans.no hE⟩
     ·rw [if_neg hE]
      have hE : ofK (us.map ZG) gl=0:=Decidable.of_not_not hE
      by_cases hS : s3.2≠[]
      ·rw [if_pos (show ofK (us.map ZG) gl=0∧s3.2≠[] from ⟨hE,hS⟩),if_neg (show ¬ (3 : Nat)=0 by omega)] at ea
       rw [if_pos hS]
       exact ⟨_,Xa,pre3 _ _ ea,ka,Ans.no (by simp)⟩
      ·rw [if_neg (fun h : ofK (us.map ZG) gl=0∧s3.2≠[]=>hS h.2),if_pos hE,hE] at ea
       rw [if_neg hS]
       have hkeep : ∀ j,j≠p2→j≠p5→Xa[j]?=X8[j]?:=fun j h1 h2=>(keep j h1 h2).trans (s9 j h2)
       have ha : Zq Xa gv (gl.map strv) qg:=(r7.step k8.step (by simp)).keep fun j hj=>hkeep j (by have:=hqg j hj;omega) (by have:=hqg j hj;omega)
       have hOa:=(hO7.hle k8).keepN (Y:=Xa) (fun j hj=>hkeep j (by have:=Z6 h2;omega) (by have:=Z6 g5;omega))
       exact ⟨_,Xa,pre3 _ _ ea,ka,⟨_,_,rfl,hone1,hone2⟩,fun _=>⟨_,_,us,rfl,hOa.us,rfl,ha.rd⟩⟩
end
end Go.Proofs.YtedkoimihknggaaGreatDoor.A

namespace Go.Proofs.YtedkoimihknggaaGreatDoor.A
set_option linter.unusedVariables false
set_option linter.unusedSimpArgs false
open Go.Proofs Go.Proofs.YtedkoimihknggaaGreatDoor
section
variable {X X' H H0 : Zc} {n d c w : Nat} {r : NR} {uv gv sl : Value} {s : NSt} {u : Zcj} {ac : List Zcj}
end
end Go.Proofs.YtedkoimihknggaaGreatDoor.A

namespace Go.Proofs.YtedkoimihknggaaGreatDoor.A
set_option linter.unusedVariables false
set_option maxRecDepth 100000
set_option linter.unusedSimpArgs false
open Go.Proofs Go.Proofs.YtedkoimihknggaaGreatDoor
section
variable {X X' H H0 : Zc} {n d c w : Nat} {r : NR} {uv gv sl : Value} {s : NSt} {u : Zcj} {ac : List Zcj}
theorem ZmQ : ∃ H',R (n+13) ZaN [] H=some (.bool true,H')∧HLe H H':=by
 obtain ⟨X1,d,r,e1,D1,l1,o1,o2⟩:=Zs2 (n:=n+10) (X:=H)
 have e1 : R (n+12) Zae [] H=_:=e1
 obtain ⟨v,q,X2,e2,r2,l2,_⟩:=Zhw (n:=n) D1
 have hbs : Zf5 (Qk (⟨[],[],[],[],fun _ _=>false⟩ : NSt).K) (allK ⟨[],[],[],[],fun _ _=>false⟩)=[2,0,0,0,0]:=by
  have a1 : Qk ([] : List Tx)=[]:=List.eq_nil_of_length_eq_zero (by rw [W5];rfl)
  have a2 : allK (⟨[],[],[],[],fun _ _=>false⟩ : NSt)=[]:=by
   unfold allK
   have a3 : Qk (Zad (⟨[],[],[],[],fun _ _=>false⟩ : NSt))=[]:=List.eq_nil_of_length_eq_zero (by rw [W5];rfl)
   rw [a3];rfl
  show Zf5 (Qk []) (allK _)=_
  rw [a1,a2];decide
 rw [hbs] at r2
 have q2 : bop .str .eql (strv [2,0,0,0,0]) (.string ⟨#[2,0,0,0,0]⟩) X2=some (.bool true,X2):=Zda (b:=[2,0,0,0,0])
 refine ⟨X2,?_,l1.trans l2⟩
 rw [R,ZlR rfl]
 unfold ZeH
 rw [Za e1,Za e2,Za (Zd0 r2.rd),Za q2]
 rfl
end
end Go.Proofs.YtedkoimihknggaaGreatDoor.A

namespace Go.Proofs.YtedkoimihknggaaGreatDoor.A
set_option linter.unusedVariables false
set_option maxRecDepth 100000
set_option linter.unusedSimpArgs false
open Go.Proofs Go.Proofs.YtedkoimihknggaaGreatDoor
theorem Zvm {ks : List YG} {gs : List Tx} (h : ofK ks gs=0) : Jk gs=true:=(ZuV h).2.2.2.2.1
theorem ZtR {l : List Tx} (h : Jk l=true) : Qk l=l:=by
 have ha:=ZbF h
 exact Zl6 (Zdp (ha.imp fun h e=>by subst e;exact List.lt_irrefl _ h)) ha fun x=>Wu
section
variable {X X' H H0 : Zc} {n d : Nat} {a : Value} {bs : List UInt8}
theorem ZkO (hA : Sl H a (u8s bs)) (hn : bs.length≤9223372036854775807) : ∃ H',R (n+14) KL [a] H=some (.bool true,H'):=by
 obtain ⟨H1,e1,k1⟩:=ZmQ (n:=n) (H:=H)
 obtain ⟨H1',e1',_⟩:=ZmQ (n:=n) (H:=H1)
 have hs:=hA.mono k1
 have hl : ZC a H1=some (iv bs.length,H1):=by have:=hs.len (H':=H1);rwa [QE] at this
 have f1 : ∀ v H',Kb (R (n+13)) a H=some (v,H')→R (n+14) KL [a] H=some (v,H'):=fun v H' hr=>by rw [R,Zg9 rfl];exact hr
 by_cases h900 : bs.length≤900
 rotate_left
 ·have q1 : bop .int .gtr (iv bs.length) (.int .i64 900) H1=some (.bool true,H1):=by rw [ZK,decide_eq_true (by omega)]
  refine ⟨H1',f1 _ _ ?_⟩
  unfold Kb
  rw [Za e1,Za ZN]
  simp only [Bool.not_true]
  rw [ZL,Zf,Za hl,Zf,Za q1,ZO,ZR,Za Zh]
  simp only [cond_false]
  rw [Zb,if_pos rfl,Za e1']
  rfl
 have q1 : bop .int .gtr (iv bs.length) (.int .i64 900) H1=some (.bool false,H1):=by rw [ZK,decide_eq_false (by omega)]
 have z2:=Zwn (es:=1) (z:=.int .u8 0) (H:=H1)
 have k2 : HLe H1 (H1++[Zd.cells [] 1 false false]):=.app _ _
 have c2 : (H1++[Zd.cells [] 1 false false])[H1.length]?=some (.cells [] 1 false false):=Zx
 generalize H1++[Zd.cells [] 1 false false]=X2 at z2 k2 c2
 obtain ⟨ov,X3,oq,e3,r3,k3,_⟩:=ZsR (b:=1) (hs.mono k2) (by rw [QE];omega) (by rw [QE];omega) (s:=.slice (some ⟨H1.length,0,none⟩) 0 0) (.inr ⟨H1.length,false,rfl,c2,rfl⟩)
 obtain ⟨dv,X4,e4,k4,hz,hok⟩:=Zp1 (n:=n) r3.rd (by omega)
 have hs4:=((hs.mono k2).mono k3).mono k4
 have t4:=Zd0 hs4
 obtain ⟨wv,X5,e5,k5,A5⟩:=Zp3 (n:=n+5) (X:=X4) (bs:=bs) (by omega)
 have e5 : R (n+13) Kv [strv bs] X4=_:=e5
 have hback:=Zrx (bs:=bs)
 generalize KQ bs=r at e4 e5 hz hok A5 hback
 obtain ⟨e,N,ks⟩:=r
 simp only at e4 e5 hz hok hback
 obtain ⟨uv,gv,rfl,o1,o2⟩:=A5.one
 have A5ok:=A5.ok
 simp only at A5ok
 have hal : ([uv,gv].all oneCell)=true:=by simp only [List.all_cons,o1,o2];rfl
 have z6 : ∀ {K : Value→A.M Value},bind (alc 1 zD) (fun q=>bind (stA 2 q (.agg #[uv,gv])) fun _=>K q) X5=K (pt X5.length) (X5++[.cells [uv,gv] 1 false false]):=fun {K}=>Zcl (n:=2) (zs:=[.slice none 0 0,.slice none 0 0]) (r:=[uv,gv]) rfl rfl rfl hal
 have k6 : HLe X5 (X5++[Zd.cells [uv,gv] 1 false false]):=.app _ _
 have g6 : (X5++[Zd.cells [uv,gv] 1 false false])[X5.length]?=some (.cells [uv,gv] 1 false false):=Zx
 generalize X5++[Zd.cells [uv,gv] 1 false false]=X6 at z6 k6 g6
 generalize X5.length=b6 at z6 g6
 have q5 : bop .int .neq (iv e) (iv e) X6=some (.bool false,X6):=by rw [Zp];simp
 have to5:=Zd0 (((r3.rd.mono k4).mono k5).mono k6)
 have hs6:=(hs4.mono k5).mono k6
 have t5:=Zd0 hs6
 have q6 : bop .str .neq (strv bs) (strv bs) X6=some (.bool false,X6):=by rw [ZbC];simp
 have q7 : bop .int .neq (iv e) (.int .i64 0) X6=some (.bool (e !=0),X6):=by rw [Zp,Zam]
 by_cases he : e=0
 ·obtain ⟨d,r,s,c,us,rfl,S4,k4'⟩:=hok he
  obtain ⟨hb1,hb2⟩:=hback he
  obtain ⟨uv',gv',ws,hwv,U5,K5,G5⟩:=A5ok he
  have h12 : uv'=uv∧gv'=gv:=by
   have:=Value.agg.inj hwv
   simp at this
   exact ⟨this.1.symm,this.2.symm⟩
  obtain ⟨rfl,rfl⟩:=h12
  have q8 : bop .ptr .neq (pt d) (.pointer none) X6=some (.bool true,X6):=Jz
  have d6 : ldA 2 (pt b6) X6=some (.agg #[uv',gv'],X6):=Z9 g6 rfl
  have k46:=k5.trans k6
  have hrg:=Zvm hb2
  obtain ⟨X7,e7,k7⟩:=Zuj (n:=n+4) (S4.nd.hle k46) (U5.mono k6) (S4.ok.keys (k4'.trans K5.symm)) (G5.mono k6) ⟨ZbF hrg,fun x=>by rw [S4.K]⟩ o1 o2
  have e7 : R (n+13) Zbr [pt d,.agg #[uv',gv']] X6=_:=e7
  have hs7:=hs6.mono k7
  have t7:=Zd0 hs7
  obtain ⟨bv,bq,X8,e8,r8,k8,_⟩:=Zhw (n:=n+1) ((S4.nd.hle k46).hle k7)
  have e8 : R (n+13) WR [pt d] X7=_:=e8
  have hK : Qk s.K=N:=by rw [S4.K];exact ZtR hrg
  have hU : A.allK s=ks:=by rw [← k4'];exact (S4.ok.all S4.nd.pinv.n).symm
  rw [hK,hU,hb1] at r8
  have t8:=Zd0 (hs7.mono k8)
  have q9 : bop .str .eql (strv bs) (strv bs) X8=some (.bool true,X8):=by rw [Zda];simp
  refine ⟨X8,f1 _ _ ?_⟩
  unfold Kb
  rw [Za e1,Za ZN]
  simp only [Bool.not_true]
  rw [ZL,Zf,Za hl,Zf,Za q1,ZO,ZR,Za Zh]
  simp only [cond_false]
  rw [Zb,if_neg (by simp),Za z2,Za e3,Za e4,Za Zn,Za Zo,Za t4,Za e5,Za Zn,Za Zo,z6,Za q5,ZL,Zf,Za to5,Zf,Za t5,Zf,Za q6,ZO,ZM,Za Zh]
  simp only [cond_false]
  rw [Zb,if_neg (by simp),Za q7,Zb,if_neg (by simp [he]),Za q8,QA,ZO,QA,Za d6,QA,Za e7,Za Zh]
  simp only [cond_true]
  rw [QA,ZO,QA,ZO,QA,Za t7,QA,Za e8,QA,Za t8,Qz,QA,Za (Zd0 r8.rd),QA,Za q9,Za Zh]
  rfl
 ·have hdv:=hz he
  subst hdv
  refine ⟨X6,f1 _ _ ?_⟩
  unfold Kb
  rw [Za e1,Za ZN]
  simp only [Bool.not_true]
  rw [ZL,Zf,Za hl,Zf,Za q1,ZO,ZR,Za Zh]
  simp only [cond_false]
  rw [Zb,if_neg (by simp),Za z2,Za e3,Za e4,Za Zn,Za Zo,Za t4,Za e5,Za Zn,Za Zo,z6,Za q5,ZL,Zf,Za to5,Zf,Za t5,Zf,Za q6,ZO,ZM,Za Zh]
  simp only [cond_false]
  rw [Zb,if_neg (by simp),Za q7,Zb,if_pos (by simp [he]),Za Zws]
  rfl
theorem law_FolioReads : ∀ (xs : Ins [.slc (.int .u8)]) (H : Zc) (vs : List Value),ZnX [.slc (.int .u8)] xs→ZeT [.slc (.int .u8)] xs H vs→∃ n H',R n KL vs H=some (.bool true,H'):=by
 intro xs H vs hwf hrd
 obtain ⟨l,_⟩:=xs
 obtain ⟨hl,_⟩:=hwf
 obtain ⟨c1,_,rfl,hc1,h1,rfl⟩:=hrd
 obtain ⟨a,rfl⟩ : ∃ a,c1=[a]:=by
  match c1,hc1 with
  | [a],_=>exact ⟨a,rfl⟩
 obtain ⟨bs,hs,hn⟩:=Ztb hl h1
 obtain ⟨H',e⟩:=ZkO (n:=0) hs hn
 exact ⟨14,H',e⟩
end
end Go.Proofs.YtedkoimihknggaaGreatDoor.A

