/- What the law MigrateGoes needs (part 5). -/
import Derived.Test.YtedkoimihknggaaGreatDoorZMigrateGoes4
namespace Go.Proofs.YtedkoimihknggaaGreatDoor.A
set_option linter.unusedVariables false
set_option linter.unusedSimpArgs false
open Go.Proofs Go.Proofs.YtedkoimihknggaaGreatDoor
def Zdl (l : List Zm) : Prop:=l.Pairwise fun a b=>a.nm < b.nm
section
variable {x : Zm} {k s : List UInt8}
def ZbC (u : Zm) : List Zm→Bool→List Zm
 | [],_=>[]
 | v :: l,done=>(if !done && decide (u.nm≤v.nm) then [u] else [])++((if v.nm≠u.nm then [v] else [])++ZbC u l (done || decide (u.nm≤v.nm)))
def ZaN (u : Zm) : List Zm→Bool→Bool
 | [],done=>done
 | v :: l,done=>ZaN u l (done || decide (u.nm≤v.nm))
def putU (u : Zm) (l : List Zm) : List Zm:=ZbC u l false++if ZaN u l false then [] else [u]
theorem ZjL {u : Zm} : ∀ {l : List Zm},ZbC u l true=l.filter fun v=>decide (v.nm≠u.nm)
 | []=>rfl
 | v :: l=>by
  unfold ZbC
  rw [Bool.true_or,ZjL,List.filter_cons]
  by_cases h : v.nm=u.nm <;> simp [h]
theorem Zic {u : Zm} : ∀ {l : List Zm},ZaN u l true=true
 | []=>rfl
 | v :: l=>by unfold ZaN;rw [Bool.true_or,Zic]
theorem ZjC {u v : Zm} {l : List Zm} : putU u (v :: l)=if u.nm≤v.nm then u :: (v :: l).filter (fun v=>decide (v.nm≠u.nm)) else v :: putU u l:=by
 have e1 : ZbC u (v :: l) false=(if !false && decide (u.nm≤v.nm) then [u] else [])++((if v.nm≠u.nm then [v] else [])++ZbC u l (false || decide (u.nm≤v.nm))):=rfl
 have e2 : ZaN u (v :: l) false=ZaN u l (false || decide (u.nm≤v.nm)):=rfl
 unfold putU
 rw [e1,e2]
 by_cases h : u.nm≤v.nm
 ·rw [if_pos h]
  simp only [h,decide_true,Bool.or_true,ZjL,Zic,Bool.not_false,Bool.and_self,if_true,List.filter_cons]
  by_cases h2 : v.nm=u.nm <;> simp [h2]
 ·rw [if_neg h]
  have h2 : v.nm≠u.nm:=fun e=>h (by rw [e];exact List.le_refl _)
  simp [h,h2]
theorem ZdJ {u : Zm} : ∀ {l : List Zm},x∈putU u l↔x=u∨(x∈l∧x.nm≠u.nm)
 | []=>by simp [putU,ZbC,ZaN]
 | v :: l=>by
  rw [ZjC]
  by_cases h : u.nm≤v.nm
  ·rw [if_pos h,List.mem_cons,List.mem_filter];simp
  ·have h2 : v.nm≠u.nm:=fun e=>h (by rw [e];exact List.le_refl _)
   rw [if_neg h,List.mem_cons,ZdJ,List.mem_cons]
   constructor
   ·rintro (rfl | h | h)
    ·exact .inr ⟨.inl rfl,h2⟩
    ·exact .inl h
    ·exact .inr ⟨.inr h.1,h.2⟩
   ·rintro (h | ⟨h | h,h3⟩)
    ·exact .inr (.inl h)
    ·exact .inl h
    ·exact .inr (.inr ⟨h,h3⟩)
theorem ZoW {u : Zm} : ∀ {l : List Zm},Zdl l→Zdl (putU u l)
 | [],_=>by simp [putU,ZbC,ZaN,Zdl]
 | v :: l,hr=>by
  have hr2 : (∀ a∈l,v.nm < a.nm)∧Zdl l:=by simpa [Zdl] using hr
  rw [ZjC]
  by_cases h : u.nm≤v.nm
  ·rw [if_pos h]
   refine List.pairwise_cons.2 ⟨fun a ha=>?_,List.Pairwise.filter _ hr⟩
   obtain ⟨h1,h2⟩:=List.mem_filter.1 ha
   have h2 : a.nm≠u.nm:=by simpa using h2
   have h3 : u.nm≤a.nm:=by
    rcases List.mem_cons.1 h1 with rfl | h1
    ·exact h
    ·exact List.le_trans h (List.le_of_lt (hr2.1 a h1))
   rcases ZjW u.nm a.nm with h4 | h4 | h4
   ·exact h4
   ·exact absurd h4.symm h2
   ·exact absurd h4 h3
  ·rw [if_neg h]
   refine List.pairwise_cons.2 ⟨fun a ha=>?_,ZoW hr2.2⟩
   rcases ZdJ.1 ha with rfl | ⟨h1,_⟩
   ·rcases ZjW v.nm a.nm with h4 | h4 | h4
    ·exact h4
    ·exact absurd (by rw [h4];exact List.le_refl _) h
    ·exact absurd (List.le_of_lt h4) h
   ·exact hr2.1 a h1
end
section
variable {H0 H X : Zd} {n d b : Nat} {ws : List Zm} {k s : List UInt8} {wv : Value}
theorem Zva {u : Zm} (h : oneCell u.gv=true) : u.cells.all oneCell=true:=by simp only [Zm.cells,List.all_cons,h];rfl
theorem ZoG {β : Type} {k : Value→M β} {sl : Value} {us : List Zm} (h : SlN 5 H sl (us.map Zm.cells)) {j : Nat} {u : Zm} (ho : oneCell u.gv=true) (hj : us[j]?=some u) :
  bind (ixa 5 sl (iv j)) (fun p=>bind (ldA 5 p) fun v=>bind (alc 1 (.agg #[.string ⟨#[]⟩,.string ⟨#[]⟩,.string ⟨#[]⟩,.bool false,.slice none 0 0])) fun q=>bind (stA 5 q v) fun _=>k q) H=k (pt H.length) (H++[.cells u.cells 1 false false]):=by
 have hr : (us.map Zm.cells)[j]?=some u.cells:=by rw [List.getElem?_map,hj];rfl
 rw [h.fetch hr (by omega) .i64]
 exact Zdo (n:=5) (zs:=[.string ⟨#[]⟩,.string ⟨#[]⟩,.string ⟨#[]⟩,.bool false,.slice none 0 0]) (r:=u.cells) rfl rfl rfl (Zva ho)
end
end Go.Proofs.YtedkoimihknggaaGreatDoor.A
namespace Go.Proofs.YtedkoimihknggaaGreatDoor.A
set_option linter.unusedVariables false
set_option linter.unusedSimpArgs false
open Go.Proofs Go.Proofs.YtedkoimihknggaaGreatDoor
structure ZyM (s : NSt) : Prop where
 nod : s.K.Nodup
 out : ∀ k n,s.mem k n=true→k∈s.K
 few : s.K.length≤6
structure ROK (s : NSt) (us : List Zm) : Prop where
 rise : Zdl us
 look : ∀ key : Wv,key∈us.map Jr↔Jp s key.1=some key
section
variable {X : Zd} {d c : Nat} {r : NR} {s s' : NSt} {us ws : List Zm} {u : Zm} {k h m n o t g : Tx} {key : Wv}
theorem ND0.kn (hd : ND0 X d r s c) : ZyM s:=⟨by rw [← hd.ks];exact hd.gr.mo.nod,fun k n hk=>by
 have:=hd.gr.out k n hk
 rw [Zhu,decide_eq_true_eq] at this
 rw [← hd.ks];exact this,by rw [← hd.ks,List.length_map];exact hd.gr.few⟩
theorem Zab : key∈us.map Jr↔∃ u∈us,Jr u=key:=List.mem_map
theorem ROK.put (h : ROK s us) (h1 : Jp s' u.nm=some (Jr u)) (h2 : ∀ n,n≠u.nm→Jp s' n=Jp s n) : ROK s' (putU u us):=by
 refine ⟨ZoW h.rise,fun key=>?_⟩
 rw [Zab]
 constructor
 ·rintro ⟨v,hv,rfl⟩
  rcases ZdJ.1 hv with rfl | ⟨hv,hne⟩
  ·exact h1
  ·have:=(h.look (Jr v)).1 (Zab.2 ⟨v,hv,rfl⟩)
   rw [show (Jr v).1=v.nm from rfl] at this ⊢
   rw [h2 _ hne];exact this
 ·intro hk
  by_cases e : key.1=u.nm
  ·rw [e,h1] at hk
   exact ⟨u,ZdJ.2 (.inl rfl),Option.some.inj hk⟩
  ·rw [h2 _ e] at hk
   obtain ⟨v,hv,rfl⟩:=Zab.1 ((h.look key).2 hk)
   exact ⟨v,ZdJ.2 (.inr ⟨hv,e⟩),rfl⟩
theorem ROK.drop (h : ROK s us) (h1 : Jp s' k=none) (h2 : ∀ n,n≠k→Jp s' n=Jp s n) : ROK s' (us.filter fun v=>decide (v.nm≠k)):=by
 refine ⟨List.Pairwise.filter _ h.rise,fun key=>?_⟩
 rw [Zab]
 constructor
 ·rintro ⟨v,hv,rfl⟩
  obtain ⟨hv,hne⟩:=List.mem_filter.1 hv
  have hne : v.nm≠k:=by simpa using hne
  have:=(h.look (Jr v)).1 (Zab.2 ⟨v,hv,rfl⟩)
  rw [show (Jr v).1=v.nm from rfl] at this ⊢
  rw [h2 _ hne];exact this
 ·intro hk
  have e : key.1≠k:=fun e=>by rw [e,h1] at hk;cases hk
  rw [h2 _ e] at hk
  obtain ⟨v,hv,rfl⟩:=Zab.1 ((h.look key).2 hk)
  exact ⟨v,List.mem_filter.2 ⟨hv,decide_eq_true e⟩,rfl⟩
theorem ROK.same (h : ROK s us) (h2 : ∀ n,Jp s' n=Jp s n) : ROK s' us:=⟨h.rise,fun key=>by rw [h2];exact h.look key⟩
theorem ROK.at (h : ROK s us) (hu : u∈us) : Jp s u.nm=some (Jr u):=(h.look (Jr u)).1 (Zab.2 ⟨u,hu,rfl⟩)
theorem Zdl.nodup (h : Zdl us) : (us.map (·.nm)).Nodup:=by
 unfold Zdl at h
 rw [List.nodup_iff_pairwise_ne,List.pairwise_map]
 refine h.imp ?_
 intro a b hab e
 rw [e] at hab
 exact ZjA hab
theorem ROK.len (h : ROK s us) (hn : (KF s).Nodup) : us.length=s.A.length:=by
 have hp : (us.map (·.nm)).Perm (KF s):=(List.perm_ext_iff_of_nodup h.rise.nodup hn).2 fun x=>by
  rw [List.mem_map,List.mem_map]
  constructor
  ·rintro ⟨v,hv,rfl⟩
   have:=h.at hv
   unfold Jp at this
   cases ha : Zf v.nm s.A with
   | none=>rw [ha] at this;cases this
   | some p=>exact ⟨_,KK ha,rfl⟩
  ·rintro ⟨p,hp,rfl⟩
   have ha : Zf p.1 s.A=some p.2:=Zaa hn hp
   obtain ⟨v,hv,he⟩:=Zab.1 ((h.look (Yt s p.1 p.2)).2 (by
    show Jp s p.1=_
    unfold Jp;rw [ha];rfl))
   exact ⟨v,hv,congrArg (·.1) he⟩
 have:=hp.length_eq
 simpa using this
theorem Zwo : ∀ {l l' : List Wv},l.Pairwise (fun a b=>a.1 < b.1)→l'.Pairwise (fun a b=>a.1 < b.1)→(∀ x,x∈l↔x∈l')→l=l':=by
 intro l l' h h' hm
 have nd : ∀ {l : List Wv},l.Pairwise (fun a b=>a.1 < b.1)→l.Nodup:=fun h=>by
  rw [List.nodup_iff_pairwise_ne]
  refine List.Pairwise.imp ?_ h
  rintro a b hab rfl
  exact List.lt_irrefl _ hab
 have hp : l.Perm l':=(List.perm_ext_iff_of_nodup (nd h) (nd h')).2 hm
 exact List.Perm.eq_of_pairwise (le:=fun a b=>a.1 < b.1) (fun a b _ _ h1 h2=>absurd h2 (List.lt_asymm h1)) h h' hp
theorem Zpg (hn : (KF s).Nodup) : (allK s).Pairwise fun a b=>a.1 < b.1:=by
 unfold allK
 rw [List.pairwise_map]
 exact Zek hn
theorem Zqm (hn : (KF s).Nodup) : key∈allK s↔Jp s key.1=some key:=by
 unfold allK
 rw [List.mem_map]
 constructor
 ·rintro ⟨k,hk,rfl⟩
  obtain ⟨p,hp,rfl⟩:=List.mem_map.1 (Kz.1 hk)
  have ha : Zf p.1 s.A=some p.2:=Zaa hn hp
  show Jp s p.1=_
  unfold Jp
  rw [ha];rfl
 ·intro hk
  unfold Jp at hk
  cases ha : Zf key.1 s.A with
  | none=>rw [ha] at hk;cases hk
  | some p=>
   rw [ha] at hk
   refine ⟨key.1,Kz.2 (List.mem_map.2 ⟨_,KK ha,rfl⟩),?_⟩
   rw [ha]
   exact Option.some.inj hk
theorem ROK.all (h : ROK s us) (hn : (KF s).Nodup) : us.map Jr=allK s:=by
 refine Zwo ?_ (Zpg hn) fun key=>(h.look key).trans (Zqm hn).symm
 rw [List.pairwise_map]
 exact h.rise
end
end Go.Proofs.YtedkoimihknggaaGreatDoor.A
namespace Go.Proofs.YtedkoimihknggaaGreatDoor.A
set_option linter.unusedVariables false
set_option linter.unusedSimpArgs false
open Go.Proofs Go.Proofs.YtedkoimihknggaaGreatDoor
def UOK (X : Zd) (u : Zm) : Prop:=Sl X u.gv (u.gs.map strv)∧oneCell u.gv=true∧u.gs.length≤1000000
structure RD (X : Zd) (uv gv : Value) (s : NSt) : Prop where
 ex : ∃ us,Yy X uv us∧ROK s us
 n : ∃ q N,Zw X gv (N.map strv) q∧Is N (·∈s.K)
structure ZeD (s : NSt) : Prop where
 i : YP s
 k : ZyM s
 n : (KF s).Nodup
 x : Inv s.OW s.OF
theorem ND.pinv {X : Zd} {d c : Nat} {r : NR} {s : NSt} (h : ND X d r s c) : ZeD s:=⟨h.inv,h.toND0.kn,h.m.nod,h.ix.inv⟩
section
variable {X X' Y H0 : Zd} {n : Nat} {uv gv v : Value} {us : List Zm} {s : NSt} {k h m o t g : Tx} {u w : Zm} {β : Type}
theorem UOK.hle (h : UOK X u) (hl : HLe X X') : UOK X' u:=⟨h.1.mono hl,h.2⟩
theorem Yy.ok (h : Yy X uv us) (hu : u∈us) : UOK X u:=h.2 u hu
theorem Yy.one (h : Yy X uv us) : oneCell uv=true:=h.1.one.1
theorem Zw.hle {vs : List Value} {q : List Nat} (h : Zw X v vs q) (hl : HLe X X') : Zw X' v vs q:=h.step hl.step (by simp)
theorem RD.hle (h : RD X uv gv s) (hl : HLe X X') : RD X' uv gv s:=⟨h.ex.imp fun us ⟨a,b⟩=>⟨a.mono hl,b⟩,h.n.imp fun q ⟨N,a,b⟩=>⟨N,a.hle hl,b⟩⟩
abbrev zU : Value:=.agg #[.string ⟨#[]⟩,.string ⟨#[]⟩,.string ⟨#[]⟩,.bool false,.slice none 0 0]
theorem Yy.put (h : Yy X uv us) (hv : SlN 5 X' v ((putU u us).map Zm.cells)) (hu : UOK X u) (hl : HLe X X') : Yy X' v (putU u us):=⟨hv,fun w hw=>by
 rcases ZdJ.1 hw with rfl | ⟨hw,_⟩
 ·exact hu.hle hl
 ·exact (h.mono hl).2 w hw⟩
end
end Go.Proofs.YtedkoimihknggaaGreatDoor.A
namespace Go.Proofs.YtedkoimihknggaaGreatDoor.A
set_option linter.unusedVariables false
set_option linter.unusedSimpArgs false
open Go.Proofs Go.Proofs.YtedkoimihknggaaGreatDoor
section
variable {X X' Y H0 : Zd} {n : Nat} {uv gv v : Value} {us : List Zm} {s : NSt} {k h m o t g : Tx} {u w : Zm} {β : Type}
def Zfz (v : Value) : Prop:=∃ a n c,v=.slice a n c
theorem Zfz.one (h : Zfz v) : oneCell v=true:=by
 obtain ⟨a,n,c,rfl⟩:=h;rfl
theorem ZoA {x : Tx} (h : Zfz (strv x)) : False:=by
 obtain ⟨a,n,c,h⟩:=h
 cases h
theorem Sl.setD {l : List Tx} {b : Nat} {c1 c2 d1 d2 : Value} (h : Sl Y v (l.map strv)) (hb : Y[b]?=some (.cells [c1,c2] 1 false false)) (i1 : Zfz c1) (i2 : Zfz c2) : Sl (Y.set b (.cells [d1,d2] 1 false false)) v (l.map strv):=by
 by_cases ho : own1 v=some b
 ·obtain ⟨a,c,rfl,h0,hf⟩:=h
  unfold own1 at ho
  split at ho
  ·rename_i id o n x e
   cases e
   cases ho
   have hl : l=[]:=by
    unfold Qr at hf
    simp only [hb] at hf
    split at hf
    ·have hf:=Option.some.inj hf
     cases l with
     | nil=>rfl
     | cons y l=>
      have hm : strv y∈([c1,c2].drop o).take ((List.map strv (y :: l)).length * 1):=by rw [hf];simp
      have hm:=List.mem_of_mem_drop (List.mem_of_mem_take hm)
      simp only [List.mem_cons,List.not_mem_nil,or_false] at hm
      rcases hm with hm | hm
      ·rw [← hm] at i1;exact (ZoA i1).elim
      ·rw [← hm] at i2;exact (ZoA i2).elim
    ·cases hf
   subst hl
   refine ⟨_,c,rfl,(fun e=>by cases e),?_⟩
   unfold Qr at hf ⊢
   simp only [hb,Qv hb] at hf ⊢
   split at hf
   ·rename_i hle
    rw [if_pos (by simpa using hle)]
    simp
   ·cases hf
  ·cases ho
 ·exact h.keep fun id hid=>List.getElem?_set_ne (fun e=>ho (by rw [hid,e]))
theorem SlN.setD {rows : List (List Value)} {b : Nat} {c1 c2 d1 d2 : Value} (h : SlN 5 Y v rows) (hb : Y[b]?=some (.cells [c1,c2] 1 false false)) : SlN 5 (Y.set b (.cells [d1,d2] 1 false false)) v rows:=by
 by_cases ho : own1 v=some b
 ·obtain ⟨a,c,rfl,h0,hf,hr⟩:=h
  unfold own1 at ho
  split at ho
  ·rename_i id o n x e
   cases e
   cases ho
   unfold Qr at hf
   simp only [hb] at hf
   split at hf
   ·rename_i hle
    have hl : rows.length=0:=by
     simp only [List.length_cons,List.length_nil] at hle
     omega
    have hl : rows=[]:=List.eq_nil_of_length_eq_zero hl
    subst hl
    refine ⟨_,c,rfl,(fun e=>by cases e),?_,hr⟩
    unfold Qr
    simp only [Qv hb]
    rw [if_pos (by simpa using hle)]
    simp
   ·cases hf
  ·cases ho
 ·exact h.keep fun id hid=>List.getElem?_set_ne (fun e=>ho (by rw [hid,e]))
theorem Yy.setD {b : Nat} {c1 c2 d1 d2 : Value} (h : Yy Y v us) (hb : Y[b]?=some (.cells [c1,c2] 1 false false)) (i1 : Zfz c1) (i2 : Zfz c2) : Yy (Y.set b (.cells [d1,d2] 1 false false)) v us:=
 ⟨h.1.setD hb,fun u hu=>⟨(h.2 u hu).1.setD hb i1 i2,(h.2 u hu).2⟩⟩
theorem Zw.setD {l : List Tx} {q : List Nat} {b : Nat} {c1 c2 d1 d2 : Value} (h : Zw Y v (l.map strv) q) (hb : Y[b]?=some (.cells [c1,c2] 1 false false)) (i1 : Zfz c1) (i2 : Zfz c2) : Zw (Y.set b (.cells [d1,d2] 1 false false)) v (l.map strv) q:=by
 rcases h with ⟨h1,rfl,rfl⟩ | ⟨sid,rest,gr,rfl,rfl,hid⟩
 ·exact .inl ⟨h1,rfl,rfl⟩
 ·by_cases e : b=sid
  ·subst e
   rw [hb] at hid
   injection hid with hid
   injection hid with hc h2 h3 h4
   cases l with
   | nil=>
    have hc : [c1,c2]=rest:=by simpa using hc
    subst hc
    exact .inr ⟨b,[d1,d2],gr,rfl,rfl,by rw [Qv hb,h3];rfl⟩
   | cons y l=>
    rw [List.map_cons,List.cons_append] at hc
    injection hc with hc _
    rw [hc] at i1
    exact (ZoA i1).elim
  ·exact .inr ⟨sid,rest,gr,rfl,rfl,(List.getElem?_set_ne e).trans hid⟩
theorem RD.back (hR : RD X uv gv s) {s' : NSt} (hl : HLe X X') (he : s'=s) : RD X' uv gv s':=by rw [he];exact hR.hle hl
end
end Go.Proofs.YtedkoimihknggaaGreatDoor.A
namespace Go.Proofs.YtedkoimihknggaaGreatDoor.A
set_option linter.unusedVariables false
set_option linter.unusedSimpArgs false
open Go.Proofs Go.Proofs.YtedkoimihknggaaGreatDoor
section
variable {X X' Y H0 : Zd} {n : Nat} {uv gv v : Value} {us : List Zm} {s : NSt} {k h m o t g x : Tx} {u w : Zm} {β : Type} {l : List Tx}
end
end Go.Proofs.YtedkoimihknggaaGreatDoor.A
namespace Go.Proofs.YtedkoimihknggaaGreatDoor.A
set_option linter.unusedVariables false
set_option linter.unusedSimpArgs false
open Go.Proofs Go.Proofs.YtedkoimihknggaaGreatDoor
section
variable {X X' Y H0 : Zd} {n : Nat} {uv gv v : Value} {us : List Zm} {s s' : NSt} {k h m o t g x : Tx} {u w : Zm} {β : Type} {l : List Tx}
theorem ROK.gs (hO : ROK s us) (hP : ZeD s) (hu : u∈us) : u.gs=ofL u.nm s.K s.mem∧u.gs.length≤6:=by
 have hat:=hO.at hu
 unfold Jp at hat
 cases ha : Zf u.nm s.A with
 | none=>rw [ha] at hat;cases hat
 | some p=>
  rw [ha] at hat
  have h1 : u.gs=ofL u.nm s.K s.mem:=congrArg (·.2.2.2.2) (Option.some.inj hat).symm
  refine ⟨h1,?_⟩
  rw [h1]
  exact Nat.le_trans Zkn hP.k.few
end
end Go.Proofs.YtedkoimihknggaaGreatDoor.A
namespace Go.Proofs.YtedkoimihknggaaGreatDoor.A
set_option linter.unusedVariables false
set_option linter.unusedSimpArgs false
open Go.Proofs Go.Proofs.YtedkoimihknggaaGreatDoor
section
variable {X X' Y H0 : Zd} {n : Nat} {uv gv v : Value} {us : List Zm} {s s' : NSt} {k h m o t g x : Tx} {u w : Zm} {β : Type} {l : List Tx}
end
end Go.Proofs.YtedkoimihknggaaGreatDoor.A

namespace Go.Proofs.YtedkoimihknggaaGreatDoor.A
set_option linter.unusedVariables false
set_option linter.unusedSimpArgs false
open Go.Proofs Go.Proofs.YtedkoimihknggaaGreatDoor
def ZbY (m : Tx) : Bool:=m==[] || (ZaU m && Ji m==m)
def YE : List Tx→Bool
 | a :: b :: l=>decide (a < b) && YE (b :: l)
 | _=>true
def Zex (gs : List Tx) : Int:=if 6 < gs.length then 7 else if gs.all Zy then (if YE gs then 0 else 9) else 10
def Jk (u : Zm) : Int:=if Zy u.nm then (if YD u.hs then (if ZbY u.ml then Zex u.gs else 11) else 4) else 10
section
variable {X X' H H0 : Zd} {n p : Nat} {v sl : Value} {l gs : List Tx} {m : Tx} {u : Zm}
theorem Zgt {a b : Tx} : YE (a :: b :: l)=(decide (a < b) && YE (b :: l)):=rfl
theorem Zne (hl : l.length≤1000000) (hs : Sl X v (l.map strv)) : ∀ (t j : Nat),l.length - j=t→j≤l.length→
  Zh (c4 (Q4.l1 (R (n+5)))) [v,v,iv l.length,iv j] X=some (if (l.drop j).all Zy then .ext 0 [v] else .ret (iv 10),X)
 | 0,j,ht,hj=>by
  rw [List.drop_eq_nil_of_le (by omega)]
  refine ZV ?_
  rw [ZH,show j=l.length by omega]
  unfold Q4.l1
  rw [Za Zk,Zb,if_neg (by simp)]
  rfl
 | t+1,j,ht,hj=>by
  have hkl : j < l.length:=by omega
  have hlt : (j : Int) < l.length:=by omega
  have hg:=List.getElem?_eq_getElem hkl
  have hd:=List.drop_eq_getElem_cons hkl
  generalize l[j]=y at hg hd
  have x1:=hs.ix (i:=j) (by simpa using hkl) .i64 X
  have x2:=hs.ldx (Kd hg)
  have e1 : R (n+5) QW [strv y] X=some (iv (ZF y),X):=ZcK
  rw [hd,List.all_cons]
  cases hn : Zy y
  ·have he : ZF y=10:=by unfold ZF;rw [hn];rfl
   rw [he] at e1
   refine JX ?_
   rw [ZH]
   unfold Q4.l1
   rw [Za Zk,Zb,if_pos (by simpa using hlt),Za x1,Za x2,Za e1,Za Zo,Zb,if_pos (by simp)]
   rfl
  ·have he : ZF y=0:=Zbz.2 hn
   rw [he] at e1
   rw [Bool.true_and]
   refine (ZI ?_).trans (Zne hl hs t (j+1) (by omega) (by omega))
   rw [ZH]
   unfold Q4.l1
   rw [Za Zk,Zb,if_pos (by simpa using hlt),Za x1,Za x2,Za e1,Za Zo,Zb,if_neg (by simp),Za ZC,Q5 (by omega)]
   rfl
theorem Zpb (hl : l.length≤1000000) (hs : Sl X v (l.map strv)) : ∀ (t j : Nat),l.length - j=t→1≤j→(j≤l.length∨j=1)→
  Zh (c2 (Q4.l2 (R n))) [v,iv j] X=some (if YE (l.drop (j - 1)) then .ext 2 [] else .ret (iv 9),X)
 | 0,j,ht,hj,hj2=>by
  have hr : YE (l.drop (j - 1))=true:=by
   have h1 : (l.drop (j - 1)).length≤1:=by rw [List.length_drop];omega
   match l.drop (j - 1),h1 with
   | [],_=>rfl
   | [a],_=>rfl
  have hlen : Zp v X=some (iv l.length,X):=by have:=hs.len (H':=X);simpa using this
  rw [hr]
  refine ZV ?_
  rw [Qd]
  unfold Q4.l2
  rw [Za hlen,Za Zk,Zb,if_neg (by simp;omega)]
  rfl
 | t+1,j,ht,hj,hj2=>by
  have hkl : j < l.length:=by omega
  have hlt : (j : Int) < l.length:=by omega
  have hlen : Zp v X=some (iv l.length,X):=by have:=hs.len (H':=X);simpa using this
  have hk0 : j - 1 < l.length:=by omega
  have hg:=List.getElem?_eq_getElem hkl
  have hg0:=List.getElem?_eq_getElem hk0
  have hd:=List.drop_eq_getElem_cons hkl
  have hd0:=List.drop_eq_getElem_cons hk0
  rw [show j - 1+1=j by omega,hd] at hd0
  generalize l[j]=y at hg hd hd0
  generalize l[j - 1]=y0 at hg0 hd0
  have x1:=hs.ix (i:=j) (by simpa using hkl) .i64 X
  have x2:=hs.ldx (Kd hg)
  have x3:=hs.ix (i:=j - 1) (by simpa using hk0) .i64 X
  have x4:=hs.ldx (Kd hg0)
  have w0 : IntKind.i64.wrap ((j : Int) - 1)=((j - 1 : Nat) : Int):=by rw [w64 (by omega) (by omega)];omega
  have q1 : bop .str .geq (strv y0) (strv y) X=some (.bool (!decide (y0 < y)),X):=Zzk
  rw [hd0,Zgt]
  by_cases hy : y0 < y
  ·rw [decide_eq_true hy] at q1 ⊢
   rw [Bool.true_and,← hd]
   have ih:=Zpb hl hs t (j+1) (by omega) (by omega) (by omega)
   rw [Nat.add_sub_cancel] at ih
   refine (ZI ?_).trans ih
   rw [Qd]
   unfold Q4.l2
   rw [Za hlen,Za Zk,Zb,if_pos (by simpa using hlt),Za QI,w0,Za x3,Za x4,Za x1,Za x2,Za q1,Zb,if_neg (by simp),Za ZC,Q5 (by omega)]
   rfl
  ·rw [decide_eq_false hy] at q1 ⊢
   refine JX ?_
   rw [Qd]
   unfold Q4.l2
   rw [Za hlen,Za Zk,Zb,if_pos (by simpa using hlt),Za QI,w0,Za x3,Za x4,Za x1,Za x2,Za q1,Zb,if_pos (by simp)]
   rfl
theorem Zq4 (hl : l.length≤1000000) (hs : Sl X v (l.map strv)) : R (n+6) Zbs [v] X=some (iv (Zex l),X):=by
 have hlen : Zp v X=some (iv l.length,X):=by have:=hs.len (H':=X);simpa using this
 have e1:=Zne (n:=n) hl hs l.length 0 (by omega) (by omega)
 have e2:=Zpb (n:=n+5) hl hs (l.length - 1) 1 rfl (Nat.le_refl _) (.inr rfl)
 rw [show iv ((0 : Nat) : Int)=.int .i64 0 from rfl,List.drop_zero] at e1
 rw [show iv ((1 : Nat) : Int)=.int .i64 1 from rfl,Nat.sub_self,List.drop_zero] at e2
 rw [R,ZnY rfl]
 unfold Q4 Zex
 rw [Za hlen]
 by_cases h6 : 6 < l.length
 ·rw [Za ZT,Zb,if_pos (by simp;omega),if_pos h6];rfl
 ·rw [Za ZT,Zb,if_neg (by simp;omega),if_neg h6,Za hlen]
  cases ha : l.all Zy
  ·rw [ha] at e1
   rw [Kj e1];rfl
  ·rw [ha] at e1
   rw [Qh e1,ZE,JV]
   cases hr : YE l
   ·rw [hr] at e2
    rw [Kj e2];rfl
   ·rw [hr] at e2
    rw [Qh e2,ZE];rfl
theorem ZtK : ∃ X',R (n+9) Zdc [strv m] X=some (iv (if ZbY m then 0 else 11),X')∧HLe X X':=by
 have f1 : ∀ r X',ZcV (R (n+8)) (strv m) X=some (r,X')→R (n+9) Zdc [strv m] X=some (r,X'):=fun r X' hr=>by rw [R,ZqN rfl];exact hr
 have q1 : bop .str .eql (strv m) (.string ⟨#[]⟩) X=some (.bool (m==[]),X):=Zgq (b:=[])
 unfold ZbY
 by_cases hm : m=[]
 ·refine ⟨X,f1 _ _ ?_,.refl _⟩
  unfold ZcV
  rw [Za q1,Zb,if_pos (by simpa using hm)]
  simp [hm,ret]
 ·have hmb : (m==[])=false:=by simpa using hm
  obtain ⟨X1,e1,k1⟩:=Zuy (n:=n) (s:=m) (X:=X)
  refine ⟨X1,f1 _ _ ?_,k1⟩
  unfold ZcV
  rw [hmb] at q1 ⊢
  rw [Za q1,Zb,if_neg (by simp),Za e1,Za ZA,Za Zz]
  cases hb : ZaU m
  ·have q2 : bop .int .neq (iv 11) (.int .i64 0) X1=some (.bool true,X1):=by rw [Zo];rfl
   simp only [Bool.false_eq_true,if_false,Bool.false_and,Bool.or_false]
   rw [Za q2,Za (g_r.trans (if_neg (by simp)))]
   simp only [List.replicate]
   rw [Z4,Za Zn]
   simp only [cond_true]
   rw [Zb,if_pos rfl]
   rfl
  ·have q2 : bop .int .neq (iv 0) (.int .i64 0) X1=some (.bool false,X1):=by rw [Zo];rfl
   have q3 : bop .str .neq (strv (Ji m)) (strv m) X1=some (.bool (!(Ji m==m)),X1):=Ze7
   simp only [if_true,Bool.true_and,Bool.false_or]
   rw [Za q2,Qq,Zs,Za q3,Qz,Z4,Za Zn]
   simp only [cond_false]
   cases hf : Ji m==m
   ·rw [Zb,if_pos (by rfl)];rfl
   ·rw [Zb,if_neg (by simp)];rfl
theorem UOK.cells1 (h : UOK X u) : alc 1 (.agg u.cells.toArray) X=some (pt X.length,X++[.cells u.cells 1 false false]):=ZyC h.2.1
theorem ZiK (h : UOK X u) : ∃ X',R (n+10) J5 [iv 2,.agg u.cells.toArray] X=some (iv (Jk u),X')∧HLe X X':=by
 have e1:=h.cells1
 have k1 : HLe X (X++[.cells u.cells 1 false false]):=.app _ _
 have c1 : (X++[Zg.cells u.cells 1 false false])[X.length]?=some (.cells u.cells 1 false false):=ZB
 generalize X++[Zg.cells u.cells 1 false false]=X1 at e1 k1 c1
 generalize X.length=p at e1 c1
 have a0 : ∀ Y,HLe X1 Y→∀ f x,u.cells[f]?=some x→ld1 (pa p f) Y=some (x,Y):=fun Y hl f x h=>Qe (hl _ _ c1) h
 have e2 : R (n+9) QW [strv u.nm] X1=some (iv (ZF u.nm),X1):=ZcK (n:=n+4)
 have e3 : R (n+9) YV [strv u.hs] X1=some (iv (ZW u.hs),X1):=Zka (n:=n+5)
 have b2:=Ztw (a:=ZF u.nm) (c:=ZW u.hs) X1
 have k2 : HLe X1 (X1++[Zg.cells [iv (ZF u.nm),iv (ZW u.hs)] 1 false false]):=.app _ _
 have s2 : Sl (X1++[Zg.cells [iv (ZF u.nm),iv (ZW u.hs)] 1 false false]) (.slice (some ⟨X1.length,0,none⟩) 2 2) [iv (ZF u.nm),iv (ZW u.hs)]:=Sl.one (vs:=[iv (ZF u.nm),iv (ZW u.hs)]) (es:=1) (g:=false) (ro:=false) ZB
 generalize X1++[Zg.cells [iv (ZF u.nm),iv (ZW u.hs)] 1 false false]=X2 at b2 k2 s2
 generalize X1.length=p2 at b2 s2
 have e4 : R (n+9) Wf [.slice (some ⟨p2,0,none⟩) 2 2] X2=_:=ZoK (n:=n+8) s2
 have q1 : bop .int .neq (iv 2) (.int .i64 1) X1=some (.bool true,X1):=by rw [Zo];rfl
 have q2 : bop .int .neq (iv 2) (.int .i64 2) X1=some (.bool false,X1):=by rw [Zo];rfl
 have q3 : bop .int .eql (iv 2) (.int .i64 2) X2=some (.bool true,X2):=by rw [ZG];rfl
 have f1 : ∀ r X',Zad (R (n+9)) (iv 2) (.agg u.cells.toArray) X=some (r,X')→R (n+10) J5 [iv 2,.agg u.cells.toArray] X=some (r,X'):=fun r X' hr=>by rw [R,Zie rfl];exact hr
 have hpre : ∀ K : Value→M Value,bind (alc 1 (.agg u.cells.toArray)) (fun v3=>bind (bop .int .neq (iv 2) (.int .i64 1)) fun v7=>bind (ZD v7 true 2 (bind (bop .int .neq (iv 2) (.int .i64 2)) fun v10=>ret [iv 2,v10])) (c2 fun _ q=>bind (pick v7 q (.bool false)) fun v11=>cnd v11 (ret (.int .i64 6)) (K v3))) X=K (pt p) X1:=fun K=>by
  rw [Za e1,Za q1,Qq,Zs,Za q2,Qz,Qd,Za Zn]
  simp only [cond_true]
  rw [Zb,if_neg (by simp)]
 unfold Jk
 cases hn : Zy u.nm
 ·have h0 : ZF u.nm=10:=by unfold ZF;rw [hn];rfl
  refine ⟨X2,f1 _ _ ?_,k1.trans k2⟩
  unfold Zad
  refine (hpre _).trans ?_
  rw [Za Zj,Za (a0 _ (.refl _) 0 _ rfl),Za Zj,Za (a0 _ (.refl _) 1 _ rfl),Za e2,Za (a0 _ (.refl _) 1 _ rfl),Jd,Za e3,Za b2,Za e4,h0,Za Zo,Zb,if_pos (by simp)]
  rfl
 ·have h0 : ZF u.nm=0:=Zbz.2 hn
  cases hs : YD u.hs
  ·have h1 : ZW u.hs=4:=by unfold ZW;rw [hs];rfl
   refine ⟨X2,f1 _ _ ?_,k1.trans k2⟩
   unfold Zad
   refine (hpre _).trans ?_
   rw [Za Zj,Za (a0 _ (.refl _) 0 _ rfl),Za Zj,Za (a0 _ (.refl _) 1 _ rfl),Za e2,Za (a0 _ (.refl _) 1 _ rfl),Jd,Za e3,Za b2,Za e4,h0,h1,Za Zo,Zb,if_pos (by simp)]
   rfl
  ·have h1 : ZW u.hs=0:=Zq8.2 hs
   have k12:=k1.trans k2
   have s4:=(h.hle k12).1
   have hl6:=h.2.2
   obtain ⟨X3,e5,k3⟩:=ZtK (n:=n) (m:=u.ml) (X:=X2)
   have e6 : R (n+9) Zbs [u.gv] X3=_:=Zq4 (n:=n+3) hl6 (s4.mono k3)
   have b7:=Ztw (a:=if ZbY u.ml then 0 else 11) (c:=Zex u.gs) X3
   have k7 : HLe X3 (X3++[Zg.cells [iv (if ZbY u.ml then 0 else 11),iv (Zex u.gs)] 1 false false]):=.app _ _
   have s7 : Sl (X3++[Zg.cells [iv (if ZbY u.ml then 0 else 11),iv (Zex u.gs)] 1 false false]) (.slice (some ⟨X3.length,0,none⟩) 2 2) [iv (if ZbY u.ml then 0 else 11),iv (Zex u.gs)]:=Sl.one (vs:=[iv (if ZbY u.ml then 0 else 11),iv (Zex u.gs)]) (es:=1) (g:=false) (ro:=false) ZB
   generalize X3++[Zg.cells [iv (if ZbY u.ml then 0 else 11),iv (Zex u.gs)] 1 false false]=X7 at b7 k7 s7
   generalize X3.length=p7 at b7 s7
   have e8 : R (n+9) Wf [.slice (some ⟨p7,0,none⟩) 2 2] X7=_:=ZoK (n:=n+8) s7
   refine ⟨X7,f1 _ _ ?_,(k12.trans k3).trans k7⟩
   unfold Zad
   refine (hpre _).trans ?_
   rw [Za Zj,Za (a0 _ (.refl _) 0 _ rfl),Za Zj,Za (a0 _ (.refl _) 1 _ rfl),Za e2,Za (a0 _ (.refl _) 1 _ rfl),Jd,Za e3,Za b2,Za e4,h0,h1,Za Zo,Zb,if_neg (by simp),Za q3,Zb,if_pos rfl,Za Zj,Za (a0 _ k2 2 _ rfl),Za Zj,Za (a0 _ k2 4 _ rfl),Za e5,Za (a0 _ (k2.trans k3) 4 _ rfl),Jd,Za e6,Za b7,Za e8]
   cases hm : ZbY u.ml <;> simp [ret]
end
end Go.Proofs.YtedkoimihknggaaGreatDoor.A

namespace Go.Proofs.YtedkoimihknggaaGreatDoor.A
set_option linter.unusedVariables false
set_option linter.unusedSimpArgs false
open Go.Proofs Go.Proofs.YtedkoimihknggaaGreatDoor
def JT : List Zm→Int
 | []=>0
 | u :: l=>if Jk u=0 then JT l else Jk u
def Zg9 (us : List Zm) : Int:=if JT us=0 then (if YE (us.map (·.nm)) then (if 12 < us.length then 7 else 0) else 9) else JT us
def Zbw (us : List Zm) (gs : List Tx) : Int:=if Zg9 us=0 then (if gs.all Zy then (if YE gs then (if 6 < gs.length then 7 else 0) else 9) else 10) else Zg9 us
def Zdi (gs : List Tx) (prev : List Zm) (u : Zm) : Int:=if u.gs.all (fun g=>decide (g∈gs)) then (if u.ml≠[]∧prev.any (fun v=>u.ml==v.ml)=true then 9 else 0) else 8
def WL (gs : List Tx) : List Zm→List Zm→Int
 | _,[]=>0
 | prev,u :: l=>if Zdi gs prev u=0 then WL gs (prev++[u]) l else Zdi gs prev u
def Zan (us : List Zm) (gs : List Tx) : Int:=if Zbw us gs=0 then WL gs [] us else Zbw us gs
section
variable {X X' H H0 : Zd} {n p d b : Nat} {v sl gv : Value} {l gs : List Tx} {m : Tx} {u : Zm} {us : List Zm}
theorem Zfp : ∀ {l : List Tx},YE l=true→l.Pairwise (· < ·)
 | [],_=>List.Pairwise.nil
 | [a],_=>by simp
 | a :: b :: l,h=>by
  rw [Zgt,Bool.and_eq_true,decide_eq_true_eq] at h
  have ih:=Zfp h.2
  refine List.Pairwise.cons (fun x hx=>?_) ih
  rcases List.mem_cons.1 hx with rfl | hx
  ·exact h.1
  ·exact List.lt_trans h.1 ((List.pairwise_cons.1 ih).1 x hx)
theorem Zjp : ∀ {us : List Zm},JT us=0→∀ u∈us,Jk u=0
 | [],_,_,h=>by simp at h
 | w :: us,h,u,hu=>by
  unfold JT at h
  by_cases hw : Jk w=0
  ·rw [if_pos hw] at h
   rcases List.mem_cons.1 hu with rfl | hu
   ·exact hw
   ·exact Zjp h u hu
  ·rw [if_neg hw] at h;exact absurd h hw
theorem Zlt {k : Nat} (hl : l.length≤1000000) (hs : Sl X v (l.map strv)) : R (n+4) Ki [v,iv k] X=some (iv (if YE l then (if k < l.length then 7 else 0) else 9),X):=by
 have hlen : Zp v X=some (iv l.length,X):=by have:=hs.len (H':=X);simpa using this
 have lp : ∀ (t j : Nat),l.length - j=t→1≤j→(j≤l.length∨j=1)→Zh (c3 (KP.l1 (R (n+3)))) [v,iv k,iv j] X=some (if YE (l.drop (j - 1)) then .ext 0 [v,iv k] else .ret (iv 9),X):=by
  intro t
  induction t with
  | zero=>
   intro j ht hj hj2
   have hr : YE (l.drop (j - 1))=true:=by
    have h1 : (l.drop (j - 1)).length≤1:=by rw [List.length_drop];omega
    match l.drop (j - 1),h1 with
    | [],_=>rfl
    | [a],_=>rfl
   rw [hr]
   refine ZV ?_
   rw [Z4]
   unfold KP.l1
   rw [Za hlen,Za Zk,Zb,if_neg (by simp;omega)]
   rfl
  | succ t ih=>
   intro j ht hj hj2
   have hkl : j < l.length:=by omega
   have hlt : (j : Int) < l.length:=by omega
   have hk0 : j - 1 < l.length:=by omega
   have hg:=List.getElem?_eq_getElem hkl
   have hg0:=List.getElem?_eq_getElem hk0
   have hd:=List.drop_eq_getElem_cons hkl
   have hd0:=List.drop_eq_getElem_cons hk0
   rw [show j - 1+1=j by omega,hd] at hd0
   generalize l[j]=y at hg hd hd0
   generalize l[j - 1]=y0 at hg0 hd0
   have x1:=hs.ix (i:=j) (by simpa using hkl) .i64 X
   have x2:=hs.ldx (Kd hg)
   have x3:=hs.ix (i:=j - 1) (by simpa using hk0) .i64 X
   have x4:=hs.ldx (Kd hg0)
   have w0 : IntKind.i64.wrap ((j : Int) - 1)=((j - 1 : Nat) : Int):=by rw [w64 (by omega) (by omega)];omega
   have e1 : R (n+3) Qk [strv y0,strv y] X=some (iv (ZbX y0 y),X):=Zpp (n:=n)
   have q1 : bop .int .geq (iv (ZbX y0 y)) (.int .i64 0) X=some (.bool (!decide (y0 < y)),X):=by rw [Qp,Zs2]
   rw [hd0,Zgt]
   by_cases hy : y0 < y
   ·rw [decide_eq_true hy] at q1 ⊢
    rw [Bool.true_and,← hd]
    have ih:=ih (j+1) (by omega) (by omega) (by omega)
    rw [Nat.add_sub_cancel] at ih
    refine (ZI ?_).trans ih
    rw [Z4]
    unfold KP.l1
    rw [Za hlen,Za Zk,Zb,if_pos (by simpa using hlt),Za QI,w0,Za x3,Za x4,Za x1,Za x2,Za e1,Za q1,Zb,if_neg (by simp),Za ZC,Q5 (by omega)]
    rfl
   ·rw [decide_eq_false hy] at q1 ⊢
    refine JX ?_
    rw [Z4]
    unfold KP.l1
    rw [Za hlen,Za Zk,Zb,if_pos (by simpa using hlt),Za QI,w0,Za x3,Za x4,Za x1,Za x2,Za e1,Za q1,Zb,if_pos (by simp)]
    rfl
 have e1:=lp (l.length - 1) 1 rfl (Nat.le_refl _) (.inr rfl)
 rw [show iv ((1 : Nat) : Int)=.int .i64 1 from rfl,Nat.sub_self,List.drop_zero] at e1
 rw [R,ZpT rfl]
 unfold KP
 cases hr : YE l
 ·rw [hr] at e1
  rw [Kj e1];rfl
 ·rw [hr] at e1
  rw [Qh e1,ZE,Qd,Za hlen,Za ZT,Zb]
  by_cases h : k < l.length
  ·rw [if_pos (by simp;omega),if_pos h];rfl
  ·rw [if_neg (by simp;omega),if_neg h];rfl
theorem Zq0 (hn : us.length≤1000) (hA : Yy H0 sl us) : ∀ (t j : Nat) (nv : Value) (q : List Nat) (acc : List Tx) (X : Zd),us.length - j=t→j≤us.length→acc.length≤j→HLe H0 X→(∀ i∈q,H0.length≤i)→Zw X nv (acc.map strv) q→
  ∃ X' o,Zh (c5 (QH.l1 (R (n+10)))) [gv,nv,sl,iv us.length,iv j] X=some (o,X')∧HLe H0 X'∧(if JT (us.drop j)=0 then ∃ nv' q',o=.ext 0 [gv,nv']∧Zw X' nv' ((acc++(us.drop j).map (·.nm)).map strv) q' else o=.ret (iv (JT (us.drop j))))
 | 0,j,nv,q,acc,X,ht,hj,ha,hle,hq,hr=>by
  rw [List.drop_eq_nil_of_le (by omega)]
  refine ⟨X,.ext 0 [gv,nv],ZV ?_,hle,?_⟩
  ·rw [Q7,show j=us.length by omega]
   unfold QH.l1
   rw [Za Zk,Zb,if_neg (by simp)]
   rfl
  ·rw [if_pos (show JT []=0 from rfl)]
   exact ⟨nv,q,rfl,by simpa using hr⟩
 | t+1,j,nv,q,acc,X,ht,hj,ha,hle,hq,hr=>by
  have hjl : j < us.length:=by omega
  have hlt : (j : Int) < us.length:=by omega
  have hg:=List.getElem?_eq_getElem hjl
  have hd:=List.drop_eq_getElem_cons hjl
  generalize us[j]=u at hg hd
  have hok:=(hA.mono hle).ok (List.mem_of_getElem? hg)
  have hf:=fun {K : Value→M Out}=>ZoG (k:=K) (hA.mono hle).1 hok.2.1 hg
  have g1 : (X++[Zg.cells u.cells 1 false false])[X.length]?=some (.cells u.cells 1 false false):=ZB
  have k1 : HLe X (X++[Zg.cells u.cells 1 false false]):=.app _ _
  generalize X++[Zg.cells u.cells 1 false false]=X1 at g1 k1 hf
  generalize X.length=p at g1 hf
  have d1 : ldA 5 (pt p) X1=some (.agg u.cells.toArray,X1):=Jz (n:=5) g1 rfl
  obtain ⟨X2,e2,k2⟩:=ZiK (n:=n) (hok.hle k1)
  have k12:=k1.trans k2
  have le2:=hle.trans k12
  rw [hd]
  unfold JT
  by_cases he : Jk u=0
  ·rw [he] at e2
   simp only [if_pos he]
   have q2 : bop .int .neq (iv 0) (.int .i64 0) X2=some (.bool false,X2):=by rw [Zo];rfl
   have l0 : ld1 (pa p 0) X2=some (strv u.nm,X2):=Qe (k2 _ _ g1) rfl
   have x4:=ZtL (es:=1) (z:=.string ⟨#[]⟩) (v:=strv u.nm) (H:=X2) rfl rfl rfl
   have k3 : HLe X2 (X2++[Zg.cells [strv u.nm] 1 false false]):=.app _ _
   have s3 : Sl (X2++[Zg.cells [strv u.nm] 1 false false]) (.slice (some ⟨X2.length,0,none⟩) 1 1) [strv u.nm]:=Sl.one (c:=1) ZB
   generalize X2++[Zg.cells [strv u.nm] 1 false false]=X3 at x4 k3 s3
   have hr3 : Zw X3 nv _ q:=hr.step (k12.trans k3).step (by simp)
   obtain ⟨nv',X4,q',x5,hr4,s4,_⟩:=hr3.push (b:=16) s3 (by simp;omega) (by simp;omega)
   have hm:=(le2.trans k3).more s4 hq
   have hr4' : Zw X4 nv' ((acc++[u.nm]).map strv) q':=by rw [List.map_append];exact hr4
   obtain ⟨X5,o5,e5,k5,h5⟩:=Zq0 hn hA t (j+1) nv' q' (acc++[u.nm]) X4 (by omega) (by omega) (by simp;omega) hm.1 hm.2 hr4'
   refine ⟨X5,o5,(ZI ?_).trans e5,k5,by simpa using h5⟩
   rw [Q7]
   unfold QH.l1
   rw [Za Zk,Zb,if_pos (by simpa using hlt),hf,Za d1,Za e2,Za q2,Zb,if_neg (by simp),Za Zj,Za l0,Za x4,Za x5,Za ZC,Q5 (by omega)]
   rfl
  ·simp only [if_neg he]
   have q2 : bop .int .neq (iv (Jk u)) (.int .i64 0) X2=some (.bool true,X2):=by rw [Zo];simp [he]
   refine ⟨X2,_,JX (v:=iv (Jk u)) ?_,le2,rfl⟩
   rw [Q7]
   unfold QH.l1
   rw [Za Zk,Zb,if_pos (by simpa using hlt),hf,Za d1,Za e2,Za q2,Zb,if_pos rfl]
   rfl
theorem ZqO (hl : l.length≤1000000) (hs : Sl X v (l.map strv)) : ∀ (t j : Nat),l.length - j=t→j≤l.length→
  Zh (c4 (QH.l2 (R (n+5)))) [v,v,iv l.length,iv j] X=some (if (l.drop j).all Zy then .ext 2 [v] else .ret (iv 10),X)
 | 0,j,ht,hj=>by
  rw [List.drop_eq_nil_of_le (by omega)]
  refine ZV ?_
  rw [ZH,show j=l.length by omega]
  unfold QH.l2
  rw [Za Zk,Zb,if_neg (by simp)]
  rfl
 | t+1,j,ht,hj=>by
  have hkl : j < l.length:=by omega
  have hlt : (j : Int) < l.length:=by omega
  have hg:=List.getElem?_eq_getElem hkl
  have hd:=List.drop_eq_getElem_cons hkl
  generalize l[j]=y at hg hd
  have x1:=hs.ix (i:=j) (by simpa using hkl) .i64 X
  have x2:=hs.ldx (Kd hg)
  have e1 : R (n+5) QW [strv y] X=some (iv (ZF y),X):=ZcK
  rw [hd,List.all_cons]
  cases hn : Zy y
  ·have he : ZF y=10:=by unfold ZF;rw [hn];rfl
   rw [he] at e1
   refine JX ?_
   rw [ZH]
   unfold QH.l2
   rw [Za Zk,Zb,if_pos (by simpa using hlt),Za x1,Za x2,Za e1,Za Zo,Zb,if_pos (by simp)]
   rfl
  ·have he : ZF y=0:=Zbz.2 hn
   rw [he] at e1
   rw [Bool.true_and]
   refine (ZI ?_).trans (ZqO hl hs t (j+1) (by omega) (by omega))
   rw [ZH]
   unfold QH.l2
   rw [Za Zk,Zb,if_pos (by simpa using hlt),Za x1,Za x2,Za e1,Za Zo,Zb,if_neg (by simp),Za ZC,Q5 (by omega)]
   rfl
theorem Zrw (hn : us.length≤1000) (hl : gs.length≤1000000) (hA : Yy X sl us) (hs : Sl X gv (gs.map strv)) : ∃ X',R (n+11) Zbq [sl,gv] X=some (iv (Zbw us gs),X')∧HLe X X':=by
 obtain ⟨X1,o,e1,k1,h1⟩:=Zq0 (n:=n) (gv:=gv) hn hA us.length 0 (.slice none 0 0) [] [] X (by omega) (by omega) (by simp) (.refl _) (by simp) Zw.nil
 rw [List.drop_zero] at h1
 have e1 : Zh (c5 (QH.l1 (R (n+10)))) [gv,.slice none 0 0,sl,iv us.length,.int .i64 0] X=_:=e1
 have hlen : Zp sl X=some (iv us.length,X):=by have:=hA.1.len (H':=X);rwa [List.length_map] at this
 have f1 : ∀ r X',QH (R (n+10)) sl gv X=some (r,X')→R (n+11) Zbq [sl,gv] X=some (r,X'):=fun r X' hr=>by rw [R,Zn8 rfl];exact hr
 refine ⟨X1,f1 _ _ ?_,k1⟩
 unfold QH Zbw Zg9
 rw [Za hlen]
 by_cases hf : JT us=0
 ·rw [if_pos hf] at h1
  simp only [if_pos hf]
  obtain ⟨nv,q,rfl,hr⟩:=h1
  rw [List.nil_append] at hr
  have e2 : R (n+10) Ki [nv,iv 12] X1=_:=Zlt (n:=n+6) (k:=12) (l:=us.map (·.nm)) (by rw [List.length_map];omega) hr.rd
  have hs1:=hs.mono k1
  have hgl : Zp gv X1=some (iv gs.length,X1):=by have:=hs1.len (H':=X1);simpa using this
  have e3:=ZqO (n:=n+5) hl hs1 gs.length 0 (by omega) (by omega)
  rw [show iv ((0 : Nat) : Int)=.int .i64 0 from rfl,List.drop_zero] at e3
  have e4 : R (n+10) Ki [gv,iv 6] X1=_:=Zlt (n:=n+6) (k:=6) hl hs1
  rw [List.length_map] at e2
  rw [Qh e1,ZE,Qd]
  cases hr1 : YE (us.map (·.nm))
  ·rw [hr1] at e2
   have e2 : R (n+10) Ki [nv,iv 12] X1=some (iv 9,X1):=e2
   rw [Za e2,Za Zo,Zb,if_pos (by simp)]
   rfl
  ·rw [hr1] at e2
   simp only [if_true] at e2 ⊢
   by_cases h12 : 12 < us.length
   ·rw [if_pos h12] at e2 ⊢
    have e2 : R (n+10) Ki [nv,iv 12] X1=some (iv 7,X1):=e2
    rw [Za e2,Za Zo,Zb,if_pos (by simp)]
    rfl
   ·rw [if_neg h12] at e2 ⊢
    have e2 : R (n+10) Ki [nv,iv 12] X1=some (iv 0,X1):=e2
    rw [Za e2,Za Zo,Zb,if_neg (by simp),Za hgl,if_pos rfl]
    cases ha : gs.all Zy
    ·rw [ha] at e3
     rw [Kj e3];rfl
    ·rw [ha] at e3
     rw [Qh e3,ZE,JV,Za e4]
     rfl
 ·rw [if_neg hf] at h1
  simp only [if_neg hf]
  subst h1
  rw [Kj e1]
  rfl
end
end Go.Proofs.YtedkoimihknggaaGreatDoor.A

namespace Go.Proofs.YtedkoimihknggaaGreatDoor.A
set_option linter.unusedVariables false
set_option linter.unusedSimpArgs false
open Go.Proofs Go.Proofs.YtedkoimihknggaaGreatDoor
structure Zcf where
 kd : Nat
 a : Tx
 b : Tx
 is : Bool
abbrev Zcf.cells (a : Zcf) : List Value:=[.int .u8 a.kd,strv a.a,strv a.b,.bool a.is]
abbrev zNA : Value:=.agg #[.int .u8 0,.string ⟨#[]⟩,.string ⟨#[]⟩,.bool false]
def ZhC (H : Zd) (sl : Value) (ac : List Zcf) : Prop:=SlN 4 H sl (ac.map Zcf.cells)∧∀ a∈ac,a.kd≤255
section
variable {H H' X X' : Zd} {sl : Value} {ac : List Zcf} {n d c : Nat} {s : NSt} {r : NR} {m : Tx}
theorem ZhC.len (h : ZhC H sl ac) : Zp sl H'=some (iv ac.length,H'):=by
 have:=h.1.len (H':=H')
 rwa [List.length_map] at this
theorem ZhC.mono (h : ZhC H sl ac) (hl : HLe H H') : ZhC H' sl ac:=⟨h.1.mono hl,h.2⟩
theorem ZhC.fetch {β : Type} {k : Value→M β} (h : ZhC H sl ac) {j : Nat} {a : Zcf} (hj : ac[j]?=some a) :
  bind (ixa 4 sl (iv j)) (fun p=>bind (ldA 4 p) fun v=>bind (alc 1 zNA) fun q=>bind (stA 4 q v) fun _=>k q) H=k (pt H.length) (H++[.cells a.cells 1 false false]):=by
 have hr : (ac.map Zcf.cells)[j]?=some a.cells:=by rw [List.getElem?_map,hj];rfl
 rw [h.1.fetch hr (by omega) .i64]
 exact Zdo (n:=4) (zs:=[.int .u8 0,.string ⟨#[]⟩,.string ⟨#[]⟩,.bool false]) (r:=a.cells) rfl rfl rfl rfl
end
end Go.Proofs.YtedkoimihknggaaGreatDoor.A
namespace Go.Proofs.YtedkoimihknggaaGreatDoor.A
set_option linter.unusedVariables false
set_option linter.unusedSimpArgs false
open Go.Proofs Go.Proofs.YtedkoimihknggaaGreatDoor
section
variable {X X' Y Y1 Y2 Y3 H0 : Zd} {n d c c' b1 b2 b3 : Nat} {r r' : NR} {uv gv uv' gv' v : Value} {s s' : NSt} {u : Zcf} {e : Int}
theorem RD.setB {b : Nat} {c1 c2 d1 d2 : Value} (h : RD Y uv gv s) (hb : Y[b]?=some (.cells [c1,c2] 1 false false)) (i1 : Zfz c1) (i2 : Zfz c2) : RD (Y.set b (.cells [d1,d2] 1 false false)) uv gv s:=
 ⟨h.ex.imp fun us ⟨a,b⟩=>⟨a.setD hb i1 i2,b⟩,h.n.imp fun q ⟨N,a,b⟩=>⟨N,a.setD hb i1 i2,b⟩⟩
end
end Go.Proofs.YtedkoimihknggaaGreatDoor.A
namespace Go.Proofs.YtedkoimihknggaaGreatDoor.A
set_option linter.unusedVariables false
set_option linter.unusedSimpArgs false
open Go.Proofs Go.Proofs.YtedkoimihknggaaGreatDoor
section
variable {X X' Y Y1 Y2 Y3 H H0 : Zd} {n d c c' b1 b2 b3 w : Nat} {r r' : NR} {uv gv uv' gv' v sl : Value} {s s' : NSt} {u : Zcf} {e : Int} {ac : List Zcf}
theorem ZqV {a c : Value} {l : List (List UInt8)} (hu : l.length≤1000) (ha : Sl X a (l.map strv)) (hc : Sl X c (l.map strv)) : ∀ (t j : Nat),l.length - j=t→j≤l.length→
  Zh (c4 (J1.l1 (R n))) [a,c,iv l.length,iv j] X=some (.ext 0 [],X)
 | 0,j,ht,hj=>by
  have : j=l.length:=by omega
  subst this
  refine ZV ?_
  rw [ZH]
  unfold J1.l1
  rw [Za Zk,Zb,if_neg (by simp)]
  rfl
 | t+1,j,ht,hj=>by
  have hjl : j < l.length:=by omega
  have hlt : (j : Int) < l.length:=by omega
  have hg:=List.getElem?_eq_getElem hjl
  generalize l[j]=x at hg
  have x1:=ha.ix (i:=j) (by simpa using hjl) .i64 X
  have x2:=ha.ldx (Kd hg)
  have x3:=hc.ix (i:=j) (by simpa using hjl) .i64 X
  have x4:=hc.ldx (Kd hg)
  have q0 : bop .str .neq (strv x) (strv x) X=some (.bool false,X):=by rw [Ze7];simp
  refine (ZI ?_).trans (ZqV hu ha hc t (j+1) (by omega) (by omega))
  rw [ZH]
  unfold J1.l1
  rw [Za Zk,Zb,if_pos (by simpa using hlt),Za x1,Za x2,Za x3,Za x4,Za q0,Zb,if_neg (by simp),Za ZC,Q5 (by omega)]
  rfl
theorem ZsG {a c : Value} {l : List (List UInt8)} (hu : l.length≤1000) (ha : Sl X a (l.map strv)) (hc : Sl X c (l.map strv)) : R (n+1) Wz [a,c] X=some (.bool true,X):=by
 have e:=ZqV (n:=n) hu ha hc l.length 0 (by omega) (by omega)
 have e : Zh (c4 (J1.l1 (R n))) [a,c,iv l.length,.int .i64 0] X=_:=e
 have h1:=ha.len (H':=X)
 have h2:=hc.len (H':=X)
 rw [List.length_map] at h1 h2
 rw [R,ZiT rfl]
 unfold J1
 rw [Za h1,Za h2,Za Zo,Zb,if_neg (by simp),Za h1,Qh e,ZE]
 rfl
structure NL (H X : Zd) (d : Nat) (r : NR) (s : NSt) (uv gv : Value) (w c : Nat) : Prop where
 le : HLe H X
 nd : ND X d r s c
 rd : RD X uv gv s
 own : ∀ i∈r.own,H.length≤i
 w : X[w]?=some (.cells [uv,gv] 1 false false)
theorem NL.hle (h : NL H X d r s uv gv w c) (hl : HLe X X') : NL H X' d r s uv gv w c:=⟨h.le.trans hl,h.nd.hle hl,h.rd.hle hl,h.own,hl _ _ h.w⟩
end
end Go.Proofs.YtedkoimihknggaaGreatDoor.A

namespace Go.Proofs.YtedkoimihknggaaGreatDoor.A
set_option linter.unusedVariables false
set_option linter.unusedSimpArgs false
open Go.Proofs Go.Proofs.YtedkoimihknggaaGreatDoor
section
variable {H : Zd} {n : Nat} {s : List UInt8}
end
end Go.Proofs.YtedkoimihknggaaGreatDoor.A

namespace Go.Proofs.YtedkoimihknggaaGreatDoor.A
set_option linter.unusedVariables false
set_option linter.unusedSimpArgs false
open Go.Proofs Go.Proofs.YtedkoimihknggaaGreatDoor
section
variable {X X' Y H H0 : Zd} {n d c w : Nat} {r : NR} {uv gv sl wv : Value} {s : NSt} {us ws : List Zm} {k m g pre : Tx} {q0 : List Nat}
theorem Zv7 {x : Tx} {b : Nat} (hs : x.length≤1000000000) (hp : pre.length≤1000000000) (hc : H[b]?=some (.cells [strv pre] 1 false false)) : R (n+3) WU [strv x,pt b] H=some (.bool (!ZdH pre x),H):=by
 have e1 : run Tryz.prog np lvs (n+2) Ym [strv x,strv pre] H=_:=Zla hs hp
 rw [R,ZkO rfl]
 unfold ZcZ
 rw [Za (Ka hc),Za e1,Za ZU]
 rfl
theorem Zuw (hd : ND X d r s c) {x : Tx} (hx : x∈ZM (KF s)) : x.length≤12:=by
 obtain ⟨p,hp,rfl⟩:=List.mem_map.1 (Kz.1 hx)
 exact Kq (hd.inv.nm p hp).1
theorem ZxS (hd : ND X d r s c) (hp : pre.length≤1000000000) : ∃ v q X',R (n+6) ZaD [pt d,strv pre] X=some (.tuple #[v,iv (Ky pre)],X')∧Zw X' v ((if ZhN pre then (ZM (KF s)).filter (ZdH pre) else []).map strv) q∧HLe X X':=by
 have e0:=Zb9 (v:=strv pre) rfl rfl X
 have l0 : HLe X (X++[Zg.cells [strv pre] 1 false false]):=.app _ _
 have c0 : (X++[Zg.cells [strv pre] 1 false false])[X.length]?=some (.cells [strv pre] 1 false false):=ZB
 have g0 : (X++[Zg.cells [strv pre] 1 false false]).length=X.length+1:=by simp
 generalize X++[Zg.cells [strv pre] 1 false false]=H1 at e0 l0 c0 g0
 generalize hc : X.length=b at e0 c0 g0
 have e1 : run Tryz.prog np lvs (n+5) WI [strv pre] H1=some (iv (Ky pre),H1):=Zq9 hp
 by_cases hb : ZhN pre=true
 ·have he : Ky pre=0:=by unfold Ky;rw [if_pos hb]
  obtain ⟨v,q,H2,e2,r2,l2,o2⟩:=Zri (n:=n+3) (hd.hle l0)
  have hQ : ∀ X X',X[b]?=some (.cells [strv pre] 1 false false)→Zr q X q X'→X'[b]?=some (.cells [strv pre] 1 false false):=fun X X' hx hs=>hs.get hx fun hj=>by have:=o2 b hj;omega
  have hcall : ∀ n X,X[b]?=some (.cells [strv pre] 1 false false)→∀ x∈ZM (KF s),Z6 (R (n+3)) (.func (.func WU) #[] #[pt b]) [strv x] X=some (.bool (!ZdH pre x),X):=fun n X hx x hs=>by
   rw [show (#[pt b] : Array Value)=[pt b].toArray from rfl,ZfH]
   exact Zv7 (Nat.le_trans (Zuw hd hs) (by decide)) hp hx
  have hfew : (ZM (KF s)).length≤12:=by
   rw [KC]
   have:=hd.inv.few
   simpa using this
  obtain ⟨H3,v',e3,r3,s3⟩:=Zj2 (n:=n+3) (f:=.func (.func WU) #[] #[pt b]) (p:=fun x=>!ZdH pre x) (Q:=fun X=>X[b]?=some (.cells [strv pre] 1 false false)) r2 (by omega) hQ (hcall n) (hcall (n+1)) (l2 _ _ c0)
  have hm:=(l0.trans l2).more s3 (fun j hj=>by have:=o2 j hj;omega)
  refine ⟨v',q,H3,?_,by simpa [hb] using r3,hm.1⟩
  rw [R,ZfO rfl]
  unfold ZbM
  rw [Za e0,Za (Ka c0),Za e1,Za Zo,he,Zb,if_neg (by simp)]
  refine (Za e2).trans ((Za e3).trans rfl)
 ·have he : Ky pre=10:=by unfold Ky;rw [if_neg hb]
  refine ⟨.slice none 0 0,[],H1,?_,by rw [if_neg hb];exact Zw.nil,l0⟩
  rw [R,ZfO rfl]
  unfold ZbM
  rw [Za e0,Za (Ka c0),Za e1,Za Zo,he,Zb,if_pos (by simp)]
  rfl
theorem ZuR (hO : ROK s us) (hP : ZeD s) (hm : ZaU m=true) : (us.find? fun u=>u.ml==Ji m).map (·.nm)=Zf (Ji m) s.OW:=by
 have hat : ∀ u∈us,u.ml=Ji m↔Zf (Ji m) s.OW=some u.nm:=fun u hu=>by
  have h1:=hO.at hu
  unfold Jp at h1
  cases ha : Zf u.nm s.A with
  | none=>rw [ha] at h1;cases h1
  | some p=>
   rw [ha] at h1
   have h2 : Yt s u.nm p=Jr u:=Option.some.inj h1
   have h3 : (Zf u.nm s.OF).getD []=u.ml:=congrArg (·.2.2.1) h2
   rw [← hP.x.inv,← h3]
   cases ho : Zf u.nm s.OF with
   | none=>exact ⟨fun h=>absurd h.symm (ZgQ hm).1,fun h=>by cases h⟩
   | some v=>exact ⟨fun h=>by rw [← h];rfl,fun h=>by cases h;rfl⟩
 cases hf : us.find? fun u=>u.ml==Ji m with
 | some u=>
  have h1:=List.find?_some hf
  have h2:=List.mem_of_find?_eq_some hf
  exact ((hat u h2).1 (by simpa using h1)).symm
 | none=>
  rw [List.find?_eq_none] at hf
  cases hw : Zf (Ji m) s.OW with
  | none=>rfl
  | some x=>
   have h1:=(hP.x.inv _ _).2 hw
   have h2:=hP.i.ofA x (by rw [h1];rfl)
   obtain ⟨p,hp⟩:=Option.isSome_iff_exists.1 h2
   have h3 : Jp s x=some (Yt s x p):=by unfold Jp;rw [hp];rfl
   obtain ⟨u,hu,hk⟩:=Zab.1 ((hO.look (Yt s x p)).2 h3)
   have hn : u.nm=x:=congrArg (·.1) hk
   have:=(hat u hu).2 (by rw [hn];exact hw)
   exact absurd (by simpa using this) (hf u hu)
end
end Go.Proofs.YtedkoimihknggaaGreatDoor.A

namespace Go.Proofs.YtedkoimihknggaaGreatDoor.A
set_option linter.unusedVariables false
set_option linter.unusedSimpArgs false
open Go.Proofs Go.Proofs.YtedkoimihknggaaGreatDoor
def K1 (ps : List Tx) (k : Tx) (mem : Mem) : Mem:=fun g n=>mem g n || (decide (g∈ps) && n==k)
section
variable {X X' X0 H H0 : Zd} {n p d b c i : Nat} {r : NR} {s : NSt} {v sl gv ugv zl : Value} {l gs : List Tx} {m k g : Tx} {u : Zm} {us prev : List Zm}
theorem Zpj {i : Nat} (hg : us[i]?=some u) : us.take (i+1)=us.take i++[u]:=by
 rw [List.take_add_one,hg];rfl
end
end Go.Proofs.YtedkoimihknggaaGreatDoor.A

namespace Go.Proofs.YtedkoimihknggaaGreatDoor.A
set_option linter.unusedVariables false
set_option linter.unusedSimpArgs false
open Go.Proofs Go.Proofs.YtedkoimihknggaaGreatDoor
section
variable {X X' X0 H H0 : Zd} {n p d b c i : Nat} {r : NR} {s : NSt} {v sl gv ugv zl : Value} {l gs : List Tx} {m k g : Tx} {u : Zm} {us prev : List Zm}
def nGs (gs : List Tx) : NSt:=⟨[],[],[],gs,fun _ _=>false⟩
theorem Zxa (hr : YE gs=true) (hn : gs.all Zy=true) (h6 : gs.length≤6) {j : Nat} (hg : gs[j]?=some g) : KI g (gs.take j)=0∧Zhb g (gs.take j)=gs.take (j+1):=by
 have hj : j < gs.length:=(List.getElem?_eq_some_iff.1 hg).1
 have hgm:=List.mem_of_getElem? hg
 have h1 : Zy g=true:=List.all_eq_true.1 hn g hgm
 have hd:=List.drop_eq_getElem_cons hj
 have hge : gs[j]=g:=by have:=List.getElem?_eq_getElem hj;rw [hg] at this;exact (Option.some.inj this).symm
 have hp:=Zfp hr
 rw [← List.take_append_drop j gs,List.pairwise_append,hd,hge] at hp
 have h2 : g∉gs.take j:=fun hm=>List.lt_irrefl g (hp.2.2 g hm g (by simp))
 have hl : (gs.take j).length=j:=by rw [List.length_take];omega
 have h0 : KI g (gs.take j)=0:=by
  unfold KI
  rw [h1,if_pos rfl,if_neg h2,hl,if_neg (by omega)]
 refine ⟨h0,?_⟩
 unfold Zhb
 rw [if_pos h0,List.take_add_one,hg]
 rfl
theorem Zu5 (hs : Sl X0 gv (gs.map strv)) (hr : YE gs=true) (hn : gs.all Zy=true) (h6 : gs.length≤6) : ∀ (t j : Nat) (r : NR) (X : Zd),gs.length - j=t→j≤gs.length→HLe X0 X→ND X d r (nGs (gs.take j)) 0→(∀ i∈r.own,X0.length≤i)→
  ∃ X' r',Zh (c5 (QA.l1 (R (n+11)))) [sl,pt d,gv,iv gs.length,iv j] X=some (.ext 0 [sl,pt d],X')∧HLe X0 X'∧ND X' d r' (nGs gs) 0∧∀ i∈r'.own,X0.length≤i
 | 0,j,r,X,ht,hj,hle,hd,ho=>by
  have hj : j=gs.length:=by omega
  subst hj
  rw [List.take_length] at hd
  refine ⟨X,r,ZV ?_,hle,hd,ho⟩
  rw [Q7]
  unfold QA.l1
  rw [Za Zk,Zb,if_neg (by simp)]
  rfl
 | t+1,j,r,X,ht,hj,hle,hd,ho=>by
  have hkl : j < gs.length:=by omega
  have hlt : (j : Int) < gs.length:=by omega
  have hg:=List.getElem?_eq_getElem hkl
  generalize gs[j]=g at hg
  have x1:=(hs.mono hle).ix (i:=j) (by simpa using hkl) .i64 X
  have x2:=(hs.mono hle).ldx (Kd hg)
  obtain ⟨m1,m2⟩:=Zxa hr hn h6 hg
  obtain ⟨X1,G',e1,g1,k1,s1⟩:=Zx3 (n:=n+3) (k:=g) hd.gr
  have e1 : R (n+11) YH [pt r.g,strv g] X=_:=e1
  rw [hd.ks] at e1 k1
  rw [show (nGs (gs.take j)).K=gs.take j from rfl,m2] at k1
  obtain ⟨d1,t1⟩:=hd.toND0.setG g1 s1 k1
  have hm:=hle.more t1 ho
  have hd1 : ND X1 d { r with G:=G' } (nGs (gs.take (j+1))) 0:=⟨d1,⟨by simp [nGs],by simp [nGs],by simp [nGs,Zf],by simp [nGs],by simp [nGs,Zf]⟩⟩
  obtain ⟨X2,r2,e2,k2,h2,o2⟩:=Zu5 hs hr hn h6 t (j+1) _ X1 (by omega) (by omega) hm.1 hd1 hm.2
  refine ⟨X2,r2,(ZI ?_).trans e2,k2,h2,o2⟩
  rw [Q7]
  unfold QA.l1
  rw [Za Zk,Zb,if_pos (by simpa using hlt),Za x1,Za x2,Za Zl,Za Zj,Za hd.l2,Za e1,Za ZC,Q5 (by omega)]
  rfl
theorem ZwG {mem : Mem} : K1 [] k mem=mem:=by
 funext g n
 unfold K1
 simp
theorem Zuu {mem : Mem} {ps : List Tx} : Zm6 g k (K1 ps k mem)=K1 (ps++[g]) k mem:=by
 funext g' n
 unfold Zm6 K1
 by_cases h1 : g'∈ps <;> by_cases h2 : g'=g <;> cases mem g' n <;> cases hn : n==k <;> simp [h1,h2,hn]
theorem Zvo (hnm : Zy u.nm=true) (hall : u.gs.all Zy=true) (hasc : YE u.gs=true) (hl : u.gs.length≤6) (hfree : ∀ g,s.mem g u.nm=false) (hK : s.K=gs) {z1 z2 z3 : Value} : ∀ (t j : Nat) (c : Nat) (X : Zd),u.gs.length - j=t→j≤u.gs.length→ND0 X d r { s with mem:=K1 (u.gs.take j) u.nm s.mem } c→X[b]?=some (.cells u.cells 1 false false)→Sl X ugv (u.gs.map strv)→
  ∃ X',Zh (c8 (QA.l3 (R (n+11)))) [pt d,pt b,z1,z2,z3,ugv,iv u.gs.length,iv j] X=some (if (u.gs.drop j).all (fun g=>decide (g∈gs)) then .ext 4 [pt d,pt b,z1,z2,z3] else .ret (.tuple #[.pointer none,iv 8]),X')∧Zr r.own X r.own X'∧((u.gs.drop j).all (fun g=>decide (g∈gs))=true→∃ c',ND0 X' d r { s with mem:=K1 u.gs u.nm s.mem } c')
 | 0,j,c,X,ht,hj,hd,hb,hs=>by
  have hj : j=u.gs.length:=by omega
  subst hj
  rw [List.take_length] at hd
  rw [List.drop_length]
  refine ⟨X,ZV ?_,.refl _ _,fun _=>⟨c,hd⟩⟩
  rw [Y9]
  unfold QA.l3
  rw [Za Zk,Zb,if_neg (by simp)]
  rfl
 | t+1,j,c,X,ht,hj,hd,hb,hs=>by
  have hkl : j < u.gs.length:=by omega
  have hlt : (j : Int) < u.gs.length:=by omega
  have hg:=List.getElem?_eq_getElem hkl
  have hdr:=List.drop_eq_getElem_cons hkl
  have hsn:=take_snocT hg
  generalize u.gs[j]=g at hg hdr hsn
  have x1:=hs.ix (i:=j) (by simpa using hkl) .i64 X
  have x2:=hs.ldx (Kd hg)
  have l0 : ld1 (pa b 0) X=some (strv u.nm,X):=Qe hb rfl
  obtain ⟨X1,e1,g1,s1⟩:=ZxT (n:=n+3) (k:=g) (m:=u.nm) hd.gr
  have e1 : R (n+11) Ku [pt r.g,strv g,strv u.nm] X=_:=e1
  rw [hd.ks] at e1 g1
  have hKs : ({ s with mem:=K1 (u.gs.take j) u.nm s.mem } : NSt).K=gs:=hK
  rw [hKs] at e1 g1
  have hgn : Zy g=true:=List.all_eq_true.1 hall g (List.mem_of_getElem? hg)
  have hgt : g∉u.gs.take j:=by
   have hp:=Zfp hasc
   rw [← List.take_append_drop j u.gs,List.pairwise_append,hdr] at hp
   exact fun hm=>List.lt_irrefl g (hp.2.2 g hm g (by simp))
  have hmf : K1 (u.gs.take j) u.nm s.mem g u.nm=false:=by
   unfold K1
   rw [hfree]
   simp [hgt]
  have hfd : JU g [u.nm] gs=if g∈gs then 0 else 8:=by
   unfold JU
   simp [hgn,hnm]
  rw [hdr,List.all_cons]
  by_cases hgm : g∈gs
  ·rw [if_pos hgm] at hfd
   have hE : ZdU g u.nm gs (K1 (u.gs.take j) u.nm s.mem)=0:=by
    unfold ZdU
    rw [hfd,if_pos rfl,hmf];rfl
   rw [hE] at e1
   rw [show ({ s with mem:=K1 (u.gs.take j) u.nm s.mem } : NSt).mem=K1 (u.gs.take j) u.nm s.mem from rfl,hE,if_pos rfl,Zuu,← hsn] at g1
   obtain ⟨d1,t1⟩:=hd.setG g1 s1 hd.ks
   have hc1:=hd.cle t1
   rw [decide_eq_true hgm,Bool.true_and]
   have d1' : ND0 X1 d r { s with mem:=K1 (u.gs.take (j+1)) u.nm s.mem } (c+1):=d1
   obtain ⟨X2,e2,t2,h2⟩:=Zvo hnm hall hasc hl hfree hK t (j+1) (c+1) X1 (by omega) (by omega) d1' (hc1 _ _ _ _ _ hb) (hs.cle hc1)
   refine ⟨X2,(ZI ?_).trans e2,Zr.trans t1 t2,h2⟩
   rw [Y9]
   unfold QA.l3
   rw [Za Zk,Zb,if_pos (by simpa using hlt),Za x1,Za x2,Za Zl,Za Zj,Za hd.l2,Za Zj,Za l0,Za e1,Za Zo,Zb,if_neg (by simp),Za ZC,Q5 (by omega)]
   rfl
  ·rw [if_neg hgm] at hfd
   have hE : ZdU g u.nm gs (K1 (u.gs.take j) u.nm s.mem)=8:=by
    unfold ZdU
    rw [hfd,if_neg (by simp)]
   rw [hE] at e1
   obtain ⟨d1,t1⟩:=hd.setG g1 s1 hd.ks
   rw [decide_eq_false hgm,Bool.false_and]
   refine ⟨X1,JX ?_,t1,fun h=>by cases h⟩
   rw [Y9]
   unfold QA.l3
   rw [Za Zk,Zb,if_pos (by simpa using hlt),Za x1,Za x2,Za Zl,Za Zj,Za hd.l2,Za Zj,Za l0,Za e1,Za Zo,Zb,if_pos (by simp)]
   rfl
where
 take_snocT {l : List Tx} {j : Nat} {h : j < l.length} (hg : l[j]?=some l[j]) : l.take (j+1)=l.take j++[l[j]]:=by
  rw [List.take_add_one,hg];rfl
theorem Zpd : ∀ {us : List Zm},(∀ v∈us,v.nm < u.nm)→putU u us=us++[u]
 | [],_=>by simp [putU,ZbC,ZaN]
 | v :: us,h=>by
  rw [ZjC,if_neg (fun hle=>(List.not_lt.2 hle) (h v (by simp))),Zpd fun w hw=>h w (by simp [hw])]
  rfl
theorem ZwB (hO : ROK s prev) (hP : ZeD s) (hm : ZaU m=true) (hf : Ji m=m) : prev.any (fun w=>m==w.ml)=(Zf m s.OW).isSome:=by
 have h1:=ZuR hO hP hm
 rw [hf] at h1
 rw [← h1,Option.isSome_map,List.isSome_find?]
 congr 1
 funext w
 exact BEq.comm
def addN (u : Zm) (s : NSt) : NSt:={ A:=Qt u.nm (u.hs,u.ds) s.A,OW:=Zwm u.nm u.ml s.OW s.OF,OF:=ZhG u.nm u.ml s.OW s.OF,K:=s.K,mem:=K1 u.gs u.nm s.mem }
theorem Zkd (h : ZbY m=true) : m=[]∨(ZaU m=true∧Ji m=m):=by
 unfold ZbY at h
 simpa using h
theorem Zfi (h : Jk u=0) : Zy u.nm=true∧YD u.hs=true∧ZbY u.ml=true∧u.gs.length≤6∧u.gs.all Zy=true∧YE u.gs=true:=by
 unfold Jk at h
 split at h
 ·rename_i h1
  split at h
  ·rename_i h2
   split at h
   ·rename_i h3
    unfold Zex at h
    split at h
    ·exact absurd h (by decide)
    ·rename_i h6
     split at h
     ·rename_i h4
      split at h
      ·rename_i h5
       exact ⟨h1,h2,h3,by omega,h4,h5⟩
      ·exact absurd h (by decide)
     ·exact absurd h (by decide)
   ·exact absurd h (by decide)
  ·exact absurd h (by decide)
 ·exact absurd h (by decide)
theorem Zyc (hO : ROK s prev) (hP : ZeD s) (hu : Jk u=0) (hA : Zf u.nm s.A=none) : Zat u.nm u.ml s.OW=if u.ml≠[]∧prev.any (fun w=>u.ml==w.ml)=true then 9 else 0:=by
 obtain ⟨h1,_,h3,_,_,_⟩:=Zfi hu
 unfold Zat
 rw [h1,if_pos rfl]
 rcases Zkd h3 with hm | ⟨hm,hf⟩
 ·rw [if_pos hm,if_neg (fun h=>h.1 hm)]
 ·have hne : u.ml≠[]:=by have:=(ZgQ hm).1;rwa [hf] at this
  rw [if_neg hne,hm,if_pos rfl,hf,ZwB hO hP hm hf]
  cases hw : Zf u.ml s.OW with
  | none=>simp
  | some w=>
   have hww : w≠u.nm:=fun e=>by
    subst e
    have:=hP.i.ofA u.nm (by rw [(hP.x.inv u.nm u.ml).2 hw];rfl)
    rw [hA] at this;cases this
   simp [hww,hne]
theorem ZvO (hi : YP s) (hu : Jk u=0) (hgs : ∀ g∈u.gs,g∈s.K) (hk : s.K.Nodup) (hA : Zf u.nm s.A=none) (hfree : ∀ g,s.mem g u.nm=false) (he : Zat u.nm u.ml s.OW=0) (x : Tx) : Jp (addN u s) x=if x=u.nm then some (Jr u) else Jp s x:=by
 obtain ⟨h1,h2,h3,h4,h5,h6⟩:=Zfi hu
 by_cases hx : x=u.nm
 ·rw [if_pos hx,hx]
  unfold Jp
  show (Zf u.nm (Qt u.nm (u.hs,u.ds) s.A)).map _=_
  rw [KB]
  show some (Yt _ u.nm (u.hs,u.ds))=_
  unfold Yt Jr
  show some (u.nm,u.hs,(Zf u.nm (ZhG u.nm u.ml s.OW s.OF)).getD [],u.ds,ofL u.nm s.K (K1 u.gs u.nm s.mem))=_
  rw [Zkc he,if_pos rfl]
  have hg : ofL u.nm s.K (K1 u.gs u.nm s.mem)=u.gs:=by
   refine (ZnC hk).uniq ⟨Zfp h6,fun y=>Iff.rfl⟩ fun y=>?_
   unfold K1
   rw [hfree]
   simp
   exact hgs y
  rw [hg]
  rcases Zkd h3 with hm | ⟨hm,hf⟩
  ·rw [if_pos hm,hm];rfl
  ·have hne : u.ml≠[]:=by have:=(ZgQ hm).1;rwa [hf] at this
   rw [if_neg hne,hf];rfl
 ·rw [if_neg hx]
  unfold Jp
  show (Zf x (Qt u.nm (u.hs,u.ds) s.A)).map _=_
  rw [Yo hx]
  cases Zf x s.A with
  | none=>rfl
  | some p=>
   show some (Yt _ x p)=some (Yt s x p)
   unfold Yt
   show some (x,p.1,(Zf x (ZhG u.nm u.ml s.OW s.OF)).getD [],p.2,ofL x s.K (K1 u.gs u.nm s.mem))=_
   rw [Zkc he,if_neg hx]
   have : ofL x s.K (K1 u.gs u.nm s.mem)=ofL x s.K s.mem:=by
    unfold ofL K1
    refine List.filter_congr fun g _=>?_
    simp [hx]
   rw [this]
theorem YP.add (hi : YP s) (hu : Jk u=0) (hA : s.A.length < 12) (he : Zat u.nm u.ml s.OW=0) : YP (addN u s):=by
 obtain ⟨h1,h2,h3,h4,h5,h6⟩:=Zfi hu
 have p1:=hi.putA (k:=u.nm) (v:=(u.hs,u.ds)) h1 h2 (.inr hA)
 refine ⟨p1.nm,p1.few,fun x hx=>?_,fun g x hx=>?_,fun x y hx=>?_⟩
 ·have hx : (Zf x (ZhG u.nm u.ml s.OW s.OF)).isSome=true:=hx
  rw [Zkc he] at hx
  by_cases e : x=u.nm
  ·show (Zf x (Qt u.nm (u.hs,u.ds) s.A)).isSome=true
   rw [e,KB];rfl
  ·rw [if_neg e] at hx
   exact Zec (.inl (hi.ofA x hx))
 ·have hx : K1 u.gs u.nm s.mem g x=true:=hx
  unfold K1 at hx
  rw [Bool.or_eq_true] at hx
  rcases hx with hx | hx
  ·exact Zec (.inl (hi.memA g x hx))
  ·rw [Bool.and_eq_true,beq_iff_eq] at hx
   exact Zec (.inr hx.2)
 ·have hx : Zf x (ZhG u.nm u.ml s.OW s.OF)=some y:=hx
  rw [Zkc he] at hx
  by_cases e : x=u.nm
  ·rw [if_pos e] at hx
   rcases Zkd h3 with hm | ⟨hm,hf⟩
   ·rw [if_pos hm] at hx;cases hx
   ·have hne : u.ml≠[]:=by have:=(ZgQ hm).1;rwa [hf] at this
    rw [if_neg hne,hf] at hx
    cases hx
    exact ⟨hm,hf⟩
  ·rw [if_neg e] at hx
   exact hi.good x y hx
structure OfS (X0 X : Zd) (d : Nat) (r : NR) (s : NSt) (c : Nat) (gs : List Tx) (prev : List Zm) : Prop where
 le : HLe X0 X
 nd : ND X d r s c
 own : ∀ i∈r.own,X0.length≤i
 K : s.K=gs
 ok : ROK s prev
theorem ZuF (hn : us.length≤12) (hA : Yy X0 sl us) (h2 : ∀ u∈us,Jk u=0) (hris : YE (us.map (·.nm))=true) : ∀ (t i : Nat) (s : NSt) (c : Nat) (X : Zd),us.length - i=t→i≤us.length→OfS X0 X d r s c gs (us.take i)→
  ∃ X' o,Zh (c4 (QA.l2 (R (n+11)))) [pt d,sl,iv us.length,iv i] X=some (o,X')∧HLe X0 X'∧(if WL gs (us.take i) (us.drop i)=0 then o=.ext 2 [pt d]∧∃ s' c',OfS X0 X' d r s' c' gs us else o=.ret (.tuple #[.pointer none,iv (WL gs (us.take i) (us.drop i))]))
 | 0,i,s,c,X,ht,hi,hS=>by
  have hi : i=us.length:=by omega
  subst hi
  rw [List.take_length] at hS
  rw [List.drop_length,List.take_length]
  refine ⟨X,.ext 2 [pt d],ZV ?_,hS.le,?_⟩
  ·rw [ZH]
   unfold QA.l2
   rw [Za Zk,Zb,if_neg (by simp)]
   rfl
  ·rw [if_pos (show WL gs us []=0 from by unfold WL;rfl)]
   exact ⟨rfl,s,c,hS⟩
 | t+1,i,s,c,X,ht,hi,hS=>by
  have hjl : i < us.length:=by omega
  have hlt : (i : Int) < us.length:=by omega
  have hg:=List.getElem?_eq_getElem hjl
  have hdr:=List.drop_eq_getElem_cons hjl
  generalize us[i]=u at hg hdr
  have hum:=List.mem_of_getElem? hg
  have hu:=h2 u hum
  obtain ⟨u1,u2,u3,u4,u5,u6⟩:=Zfi hu
  have hP:=hS.nd.pinv
  have hrp : ∀ v∈us.take i,v.nm < u.nm:=fun v hv=>by
   have hp:=Zfp hris
   rw [← List.take_append_drop i us,hdr,List.map_append,List.pairwise_append] at hp
   exact hp.2.2 v.nm (List.mem_map.2 ⟨v,hv,rfl⟩) u.nm (by simp)
  have hlen:=hS.ok.len hP.n
  have hlt' : (us.take i).length=i:=by rw [List.length_take];omega
  have hnone : Zf u.nm s.A=none:=by
   cases ha : Zf u.nm s.A with
   | none=>rfl
   | some p=>
    have h3 : Jp s u.nm=some (Yt s u.nm p):=by unfold Jp;rw [ha];rfl
    obtain ⟨v,hv,hk⟩:=Zab.1 ((hS.ok.look (Yt s u.nm p)).2 h3)
    have hvn : v.nm=u.nm:=congrArg (·.1) hk
    have:=hrp v hv
    rw [hvn] at this
    exact absurd this (List.lt_irrefl _)
  have hfree:=hP.i.memN hnone
  have hok:=(hA.mono hS.le).ok hum
  have hf:=fun {K : Value→M Out}=>ZoG (k:=K) (hA.mono hS.le).1 hok.2.1 hg
  have g1 : (X++[Zg.cells u.cells 1 false false])[X.length]?=some (.cells u.cells 1 false false):=ZB
  have k1 : HLe X (X++[Zg.cells u.cells 1 false false]):=.app _ _
  generalize X++[Zg.cells u.cells 1 false false]=X1 at g1 k1 hf
  generalize X.length=b at g1 hf
  have d1:=hS.nd.hle k1
  have ok1:=hok.hle k1
  have a0 : ∀ f x,u.cells[f]?=some x→ld1 (pa b f) X1=some (x,X1):=fun f x h=>Qe g1 h
  obtain ⟨X2,e2,m2,s2,_⟩:=d1.m.mup (k:=u.nm) (v:=(u.hs,u.ds))
  obtain ⟨d2,t2⟩:=d1.toND0.setA m2 s2
  have c2:=d1.toND0.cle t2
  have g2:=c2 _ _ _ _ _ g1
  have a4 : ld1 (pa b 4) X2=some (u.gv,X2):=Qe g2 rfl
  have hs2:=ok1.1.cle c2
  have hul : Zp u.gv X2=some (iv u.gs.length,X2):=by have:=hs2.len (H':=X2);simpa using this
  have d2' : ND0 X2 d r { ({ s with A:=Qt u.nm (u.hs,u.ds) s.A } : NSt) with mem:=K1 (u.gs.take 0) u.nm s.mem } c:=by
   rw [List.take_zero,ZwG];exact d2
  obtain ⟨X3,e3,t3,h3⟩:=Zvo (n:=n) (s:={ s with A:=Qt u.nm (u.hs,u.ds) s.A }) (gs:=gs) (z1:=sl) (z2:=iv us.length) (z3:=iv i) u1 u5 u6 u4 hfree hS.K u.gs.length 0 c X2 (by omega) (by omega) d2' g2 hs2
  rw [show iv ((0 : Nat) : Int)=.int .i64 0 from rfl,List.drop_zero] at e3
  rw [List.drop_zero] at h3
  obtain ⟨q1,q2⟩:=(hS.le.trans k1).more (t2.trans t3) hS.own
  have hbody : ∀ o Z,jn (Zh (c8 (QA.l3 (R (n+11)))) [pt d,pt b,sl,iv us.length,iv i,u.gv,iv u.gs.length,(Value.int .i64 0)]) noN (xk 4 (c5 fun q45_0 q45_1 q45_2 q45_3 q45_4=>
    bind (Qa q45_0) fun v73x46=>bind (fa 1 v73x46) fun v74x47=>bind (ld1 v74x47) fun v75x48=>bind (fa 0 q45_1) fun v76x49=>bind (ld1 v76x49) fun v77x50=>bind (fa 2 q45_1) fun v78x51=>bind (ld1 v78x51) fun v79x52=>
    bind (R (n+11) Kf [v75x48,v77x50,v79x52]) fun v80x53=>bind (bop .int .neq v80x53 (Value.int .i64 0)) fun v82x54=>
    cnd v82x54 (ret (.ret (Value.tuple #[(Value.pointer none),v80x53]))) (bind (bop .int .add q45_4 (Value.int .i64 1)) fun v84x55=>ret (.nrm [q45_0,q45_2,q45_3,v84x55]))) noX) ZY X2=some (o,Z)→c4 (QA.l2 (R (n+11))) [pt d,sl,iv us.length,iv i] X=some (o,Z):=fun o Z h=>by
   rw [ZH]
   unfold QA.l2
   rw [Za Zk,Zb,if_pos (by simpa using hlt),hf,Za Zl,Za Zj,Za d1.l0,Za Zj,Za (a0 0 _ rfl),Za Zj,Za (a0 1 _ rfl),Za Zj,Za (a0 3 _ rfl),Za ZzH,Za e2,Za Zj,Za a4,Za hul]
   exact h
  rw [hdr]
  unfold WL Zdi
  cases ha : u.gs.all fun g=>decide (g∈gs)
  ·rw [ha] at e3
   simp only [Bool.false_eq_true,if_false]
   exact ⟨X3,_,JX (hbody _ _ ((Kj e3).trans rfl)),q1,rfl⟩
  ·rw [ha] at e3
   simp only [if_true]
   obtain ⟨c3,d3⟩:=h3 ha
   have c23:=d2.cle t3
   have g3:=c23 _ _ _ _ _ g2
   have l0 : ld1 (pa b 0) X3=some (strv u.nm,X3):=Qe g3 rfl
   have l2 : ld1 (pa b 2) X3=some (strv u.ml,X3):=Qe g3 rfl
   obtain ⟨X4,e4,i4,s4⟩:=Zy1 (n:=n+2) (k:=u.nm) (m:=u.ml) d3.ix
   have e4 : R (n+11) Kf [pt r.x,strv u.nm,strv u.ml] X3=some (iv (Zat u.nm u.ml s.OW),X4):=e4
   obtain ⟨d4,t4⟩:=d3.setI i4 s4
   obtain ⟨q3,q4⟩:=q1.more t4 q2
   have hE:=Zyc hS.ok hP hu hnone
   by_cases hp : u.ml≠[]∧(us.take i).any (fun w=>u.ml==w.ml)=true
   ·rw [if_pos hp] at hE
    simp only [if_pos hp]
    rw [hE] at e4
    refine ⟨X4,_,JX (hbody (.ret (.tuple #[.pointer none,iv 9])) X4 ?_),q3,rfl⟩
    rw [Qh e3,ZE,Q7,Za Zl,Za Zj,Za d3.l1,Za Zj,Za l0,Za Zj,Za l2,Za e4,Za Zo,Zb,if_pos (by simp)]
    rfl
   ·rw [if_neg hp] at hE
    simp only [if_neg hp,if_true]
    rw [hE] at e4
    have hgs : ∀ g∈u.gs,g∈s.K:=fun g hgm=>by
     rw [hS.K]
     simpa using List.all_eq_true.1 ha g hgm
    have hadd:=ZvO hP.i hu hgs hP.k.nod hnone hfree hE
    have hd4 : ND X4 d r (addN u s) c3:=⟨d4,hP.i.add hu (by omega) hE⟩
    have hok4 : ROK (addN u s) (us.take (i+1)):=by
     rw [Zpj hg,← Zpd hrp]
     exact hS.ok.put (by rw [hadd,if_pos rfl]) (fun x hx=>by rw [hadd,if_neg hx])
    obtain ⟨X5,o5,e5,k5,h5⟩:=ZuF hn hA h2 hris t (i+1) (addN u s) c3 X4 (by omega) (by omega) ⟨q3,hd4,q4,hS.K,hok4⟩
    rw [Zpj hg] at h5
    refine ⟨X5,o5,(ZI (hbody _ X4 ?_)).trans e5,k5,h5⟩
    rw [Qh e3,ZE,Q7,Za Zl,Za Zj,Za d3.l1,Za Zj,Za l0,Za Zj,Za l2,Za e4,Za Zo,Zb,if_neg (by simp),Za ZC,Q5 (by omega)]
    rfl
theorem ZvA (h : Zbw us gs=0) : JT us=0∧YE (us.map (·.nm))=true∧us.length≤12∧gs.all Zy=true∧YE gs=true∧gs.length≤6:=by
 unfold Zbw Zg9 at h
 by_cases h1 : JT us=0
 ·simp only [if_pos h1] at h
  cases h2 : YE (us.map (·.nm))
  ·rw [h2] at h;simp at h
  ·rw [h2] at h
   by_cases h3 : 12 < us.length
   ·simp [h3] at h
   ·cases h4 : gs.all Zy <;> cases h5 : YE gs <;> rw [h4,h5] at h <;> by_cases h6 : 6 < gs.length <;> simp [h3,h6] at h
    exact ⟨h1,rfl,by omega,rfl,rfl,by omega⟩
 ·simp only [if_neg h1] at h
  exact absurd h h1
theorem ZuE (hn : us.length≤1000) (hl : gs.length≤1000000) (hA : Yy X sl us) (hs : Sl X gv (gs.map strv)) : ∃ X',HLe X X'∧(if Zan us gs=0 then ∃ d r s c,R (n+12) ZaL [sl,gv] X=some (.tuple #[pt d,iv 0],X')∧OfS X X' d r s c gs us else R (n+12) ZaL [sl,gv] X=some (.tuple #[.pointer none,iv (Zan us gs)],X')):=by
 obtain ⟨X1,e1,k1⟩:=Zrw (n:=n) hn hl hA hs
 have f1 : ∀ r X',QA (R (n+11)) sl gv X=some (r,X')→R (n+12) ZaL [sl,gv] X=some (r,X'):=fun r X' hr=>by rw [R,ZsC rfl];exact hr
 unfold Zan
 by_cases hc : Zbw us gs=0
 ·obtain ⟨c1,c2,c3,c4,c5,c6⟩:=ZvA hc
  rw [hc] at e1
  simp only [if_pos hc]
  have q1 : bop .int .neq (iv 0) (.int .i64 0) X1=some (.bool false,X1):=by rw [Zo];rfl
  obtain ⟨X2,d,r,e2,D2,l2,o1,o2⟩:=ZyN (n:=n+9) (X:=X1)
  have e2 : R (n+11) ZaP [] X1=_:=e2
  have k2:=k1.trans l2
  have hgn : Zp gv X2=some (iv gs.length,X2):=by have:=hs.len (H':=X2);simpa using this
  obtain ⟨X3,r3,e3,k3,D3,o3⟩:=Zu5 (n:=n) (sl:=sl) hs c5 c4 c6 gs.length 0 r X2 (by omega) (by omega) k2 D2 (fun i hi=>Nat.le_trans k1.len (o2 i hi))
  rw [show iv ((0 : Nat) : Int)=.int .i64 0 from rfl] at e3
  have hlen : Zp sl X3=some (iv us.length,X3):=by have:=hA.1.len (H':=X3);rwa [List.length_map] at this
  have hS : OfS X X3 d r3 (nGs gs) 0 gs (us.take 0):=⟨k3,D3,o3,rfl,⟨List.Pairwise.nil,fun key=>by simp [Jp,nGs,Zf]⟩⟩
  obtain ⟨X4,o,e4,k4,h4⟩:=ZuF (n:=n) c3 hA (Zjp c1) c2 us.length 0 (nGs gs) 0 X3 (by omega) (by omega) hS
  rw [show iv ((0 : Nat) : Int)=.int .i64 0 from rfl] at e4
  rw [List.take_zero,List.drop_zero] at h4
  refine ⟨X4,k4,?_⟩
  by_cases hz : WL gs [] us=0
  ·rw [if_pos hz] at h4 ⊢
   obtain ⟨rfl,s',c',hS'⟩:=h4
   refine ⟨d,r3,s',c',f1 _ _ ?_,hS'⟩
   unfold QA
   rw [Za e1,Za q1,Zb,if_neg (by simp),Za e2,Za hgn,Qh e3,ZE,Qd,Za hlen,Qh e4,ZE]
   rfl
  ·rw [if_neg hz] at h4 ⊢
   subst h4
   refine f1 _ _ ?_
   unfold QA
   rw [Za e1,Za q1,Zb,if_neg (by simp),Za e2,Za hgn,Qh e3,ZE,Qd,Za hlen,Kj e4]
   rfl
 ·simp only [if_neg hc]
  have q1 : bop .int .neq (iv (Zbw us gs)) (.int .i64 0) X1=some (.bool true,X1):=by rw [Zo];simp [hc]
  refine ⟨X1,k1,f1 _ _ ?_⟩
  unfold QA
  rw [Za e1,Za q1,Zb,if_pos rfl]
  rfl
theorem Zwg {us ws : List Zm} (h : us.map Jr=ws.map Jr) : Zan us gs=Zan ws gs:=by
 have hrest : ∀ (l l' p p' : List Zm),l.map Jr=l'.map Jr→p.map Jr=p'.map Jr→WL gs p l=WL gs p' l':=by
  intro l
  induction l with
  | nil=>
   intro l' p p' hl hp
   cases l' with
   | nil=>unfold WL;rfl
   | cons a b=>simp at hl
  | cons u l ih=>
   intro l' p p' hl hp
   cases l' with
   | nil=>simp at hl
   | cons w l'=>
    rw [List.map_cons,List.map_cons,List.cons.injEq] at hl
    have hg : u.gs=w.gs:=congrArg (·.2.2.2.2) hl.1
    have hm : u.ml=w.ml:=congrArg (·.2.2.1) hl.1
    have hany : p.any (fun v=>u.ml==v.ml)=p'.any (fun v=>w.ml==v.ml):=by
     have h1 : ∀ (p : List Zm) (m : Tx),p.any (fun v=>m==v.ml)=(p.map Jr).any (fun v=>m==v.2.2.1):=fun p m=>by
      rw [List.any_map];rfl
     rw [h1,h1,hp,hm]
    have hpe : Zdi gs p u=Zdi gs p' w:=by
     unfold Zdi
     rw [hg,hm]
     rw [hm] at hany
     rw [hany]
    unfold WL
    rw [hpe,ih l' (p++[u]) (p'++[w]) hl.2 (by rw [List.map_append,List.map_append,hp,List.map_singleton,List.map_singleton,hl.1])]
 have hfirst : ∀ (l l' : List Zm),l.map Jr=l'.map Jr→JT l=JT l':=by
  intro l
  induction l with
  | nil=>
   intro l' hl
   cases l' with
   | nil=>rfl
   | cons a b=>simp at hl
  | cons u l ih=>
   intro l' hl
   cases l' with
   | nil=>simp at hl
   | cons w l'=>
    rw [List.map_cons,List.map_cons,List.cons.injEq] at hl
    have he : Jk u=Jk w:=by
     have h1 : u.nm=w.nm:=congrArg (·.1) hl.1
     have h2 : u.hs=w.hs:=congrArg (·.2.1) hl.1
     have h3 : u.ml=w.ml:=congrArg (·.2.2.1) hl.1
     have h4 : u.gs=w.gs:=congrArg (·.2.2.2.2) hl.1
     unfold Jk
     rw [h1,h2,h3,h4]
    unfold JT
    rw [he,ih l' hl.2]
 have hnm : us.map (·.nm)=ws.map (·.nm):=by
  have h1:=congrArg (List.map (·.1)) h
  rw [List.map_map,List.map_map] at h1
  exact h1
 have hlen : us.length=ws.length:=by
  have h1:=congrArg List.length h
  rwa [List.length_map,List.length_map] at h1
 unfold Zan Zbw Zg9
 rw [hfirst us ws h,hnm,hlen,hrest us ws [] [] h rfl]
end
end Go.Proofs.YtedkoimihknggaaGreatDoor.A

namespace Go.Proofs.YtedkoimihknggaaGreatDoor.A
set_option linter.unusedVariables false
set_option linter.unusedSimpArgs false
open Go.Proofs Go.Proofs.YtedkoimihknggaaGreatDoor
def le (x : Nat) : Nat→List UInt8
 | 0=>[]
 | k+1=>UInt8.ofNat (x % 256) :: le (x / 256) k
theorem Za1 : ∀ {k x : Nat},(le x k).length=k
 | 0,_=>rfl
 | k+1,x=>by unfold le;rw [List.length_cons,Za1]
def txt (s : List UInt8) : List UInt8:=le s.length 2++s
theorem ZxK (a b : List UInt8) : u8s (a++b)=u8s a++u8s b:=by simp [u8s]
section
variable {H X : Zd} {n p : Nat} {sl x v : Value} {vs ws : List Value} {own : List Nat} {bs s : List UInt8}
theorem Zw.addN {b : Nat} (h : Zw H sl vs own) (hf : Qr 1 H x=some ws) (hn : A.flen x=ws.length) (hb : (vs.length+ws.length) * b≤140737488355328) (hb0 : vs.length+ws.length≤140737488355328) :
  ∃ sl' H' own',app 1 b sl x H=some (sl',H')∧Zw H' sl' (vs++ws) own'∧Zr own H own' H':=by
 by_cases h0 : ws.length=0
 ·have hw : ws=[]:=List.eq_nil_of_length_eq_zero h0
  subst hw
  refine ⟨sl,H,own,?_,by simpa using h,.refl _ _⟩
  rcases h with ⟨rfl,rfl,rfl⟩ | ⟨sid,rest,gr,rfl,rfl,hid⟩
  ·unfold app
   rw [hf]
   simp [hn]
  ·unfold app
   rw [hf]
   simp [hn,hid]
 rcases h with ⟨rfl,rfl,rfl⟩ | ⟨sid,rest,gr,rfl,rfl,hid⟩
 ·refine ⟨_,H++[.cells ws 1 true false],[H.length],?_,.inr ⟨H.length,[],true,rfl,rfl,by simp⟩,⟨by simp,fun j hj _=>List.getElem?_append_left hj,by simp⟩⟩
  unfold app
  rw [hf]
  simp only [hn]
  simp only [List.length_nil,Nat.zero_add] at hb hb0
  rw [if_neg h0,if_pos ⟨hb0,hb⟩]
  simp
 ·have hlt:=JS hid
  by_cases hc : ws.length≤rest.length
  ·have hsp : splice (vs++rest) ws vs.length=vs++(ws++rest.drop ws.length):=by
    unfold splice
    rw [List.take_left,List.drop_append,List.drop_eq_nil_of_le (by omega),List.nil_append,Nat.add_sub_cancel_left,List.append_assoc]
   have hset : (H.set sid (.cells (vs++(ws++rest.drop ws.length)) 1 gr false))[sid]?=some (.cells (vs++(ws++rest.drop ws.length)) 1 gr false):=Qv hid
   refine ⟨.slice (some ⟨sid,0,none⟩) (vs.length+ws.length) (vs.length+rest.length),H.set sid (.cells (vs++(ws++rest.drop ws.length)) 1 gr false),[sid],?_,.inr ⟨sid,rest.drop ws.length,gr,?_,rfl,by rw [hset,List.append_assoc]⟩,⟨by simp,fun j hj hn=>List.getElem?_set_ne (fun e=>hn (by simp [e])),by simp⟩⟩
   ·unfold app
    rw [hf]
    simp only [hn,hid,if_true,Nat.mul_one,Nat.zero_add]
    rw [if_pos (by omega),if_neg h0,if_pos ⟨trivial,by rw [List.length_append];omega⟩,hsp]
   ·rw [List.length_append,List.length_drop]
    congr 1;omega
  ·have hold : ((vs++rest).drop 0).take vs.length=vs:=by rw [List.drop_zero,List.take_left]
   have happ : app 1 b (.slice (some ⟨sid,0,none⟩) vs.length (vs.length+rest.length)) x H=some (.slice (some ⟨H.length,0,none⟩) (vs.length+ws.length) (vs.length+ws.length),(bif gr then H.set sid (.view vs 1 H.length) else H)++[.cells (vs++ws) 1 true false]):=by
    unfold app
    rw [hf]
    simp only [hn,hid,if_true,Nat.mul_one,Nat.zero_add]
    rw [if_neg (by omega),if_pos ⟨by simp,by rw [List.length_append];omega,hb0,hb⟩,hold]
    rfl
   have hnew : ((bif gr then H.set sid (.view vs 1 H.length) else H)++[.cells (vs++ws) 1 true false])[H.length]?=some (.cells (vs++ws) 1 true false):=by
    rw [List.getElem?_append_right (by cases gr <;> simp)]
    cases gr <;> simp
   refine ⟨_,_,[H.length],happ,.inr ⟨H.length,[],true,by simp,rfl,by rw [hnew,List.append_nil]⟩,⟨?_,fun j hj hn=>?_,by simp⟩⟩
   ·cases gr <;> simp
   ·rw [List.getElem?_append_left (by cases gr <;> simpa using hj)]
    cases gr
    ·rfl
    ·exact List.getElem?_set_ne (fun e=>hn (by simp [e]))
structure Wtr (H : Zd) (p : Nat) (bs : List UInt8) (own : List Nat) : Prop where
 o : ∃ sl,H[p]?=some (.cells [sl] 1 false false)∧Zw H sl (u8s bs) own
 ne : p∉own
theorem Wtr.lt (h : Wtr H p bs own) : ∀ j∈p :: own,j < H.length:=by
 obtain ⟨sl,hc,hr⟩:=h.o
 intro j hj
 rcases List.mem_cons.1 hj with rfl | hj
 ·exact JS hc
 ·exact hr.lt j hj
theorem Wtr.keep (h : Wtr H p bs own) (hk : ∀ j∈p :: own,X[j]?=H[j]?) : Wtr X p bs own:=by
 obtain ⟨sl,hc,hr⟩:=h.o
 exact ⟨⟨sl,by rw [hk p (by simp)];exact hc,hr.keep fun j hj=>hk j (by simp [hj])⟩,h.ne⟩
theorem Wtr.step {o1 o2 : List Nat} (h : Wtr H p bs own) (hs : Zr o1 H o2 X) (hn : ∀ j∈p :: own,j∉o1) : Wtr X p bs own:=
 h.keep fun j hj=>hs.keep j (h.lt j hj) (hn j hj)
theorem Wtr.hle (h : Wtr H p bs own) (hl : HLe H X) : Wtr X p bs own:=h.step hl.step (by simp)
theorem Wtr.put {own' : List Nat} {bs' : List UInt8} (h : Wtr H p bs own) (hr : Zw X sl (u8s bs') own') (hs : Zr own H own' X) : ∃ X',st1 (pt p) sl X=some (undef,X')∧Wtr X' p bs' own'∧Zr (p :: own) H (p :: own') X':=by
 obtain ⟨sl0,hc,hr0⟩:=h.o
 have hc1 : X[p]?=some (.cells [sl0] 1 false false):=hs.get hc h.ne
 have hne : p∉own':=fun hm=>by
  rcases hs.own p hm with h1 | h1
  ·exact h.ne h1
  ·have:=JS hc;omega
 have e1 : st1 (pt p) sl X=some (undef,X.set p (.cells [sl] 1 false false)):=ZgX (o:=0) hc1 (by simp) hr.one.1
 refine ⟨_,e1,⟨⟨sl,Qv hc1,hr.keep fun j hj=>List.getElem?_set_ne (fun e=>hne (by rw [e];exact hj))⟩,hne⟩,?_⟩
 have s1 : Zr [p] X [p] (X.set p (.cells [sl] 1 false false)):=⟨by simp,fun j hj hn=>List.getElem?_set_ne (fun e=>hn (by simp [e])),fun j hj=>.inl hj⟩
 refine (hs.more (o2:=p :: own) (o2':=p :: own') (by simp+contextual) ?_).trans (s1.more (by simp) (fun j hj=>.inl hj))
 intro j hj
 rcases List.mem_cons.1 hj with rfl | hj
 ·exact .inl (by simp)
 ·exact .inr (.inl hj)
theorem Ztx (x : Nat) : ((UInt8.ofNat (x % 256)).toNat : Int)=(x : Int) % 256:=by
 rw [UInt8.toNat_ofNat']
 omega
theorem ZuO {N : Nat} (hN : N≤1000) : ∀ (t k x : Nat) (bs : List UInt8) (own : List Nat) (H : Zd),N - k=t→k≤N→x < 18446744073709551616→bs.length+t≤1000000000000→Wtr H p bs own→
  ∃ H' own',Zh (c4 (JW.l1 (R n))) [pt p,.int .u64 x,iv N,iv k] H=some (.ext 0 [pt p],H')∧Wtr H' p (bs++le x t) own'∧Zr (p :: own) H (p :: own') H'
 | 0,k,x,bs,own,H,ht,hk,hx,hb,h=>by
  have : k=N:=by omega
  subst this
  refine ⟨H,own,ZV ?_,by simpa [le] using h,.refl _ _⟩
  rw [ZH]
  unfold JW.l1
  rw [Za Zk,Zb,if_neg (by simp)]
  rfl
 | t+1,k,x,bs,own,H,ht,hk,hx,hb,h=>by
  have hlt : (k : Int) < N:=by omega
  obtain ⟨sl,hc,hr⟩:=h.o
  have e1 : bsl 1 1 (.int .u8 0) [(0,1,.int .u8 ((UInt8.ofNat (x % 256)).toNat))] H=some (.slice (some ⟨H.length,0,none⟩) 1 1,H++[.cells [.int .u8 ((UInt8.ofNat (x % 256)).toNat)] 1 false false]):=ZtL rfl rfl rfl
  have k1 : HLe H (H++[Zg.cells [.int .u8 ((UInt8.ofNat (x % 256)).toNat)] 1 false false]):=.app _ _
  have s1 : Sl (H++[Zg.cells [.int .u8 ((UInt8.ofNat (x % 256)).toNat)] 1 false false]) (.slice (some ⟨H.length,0,none⟩) 1 1) [.int .u8 ((UInt8.ofNat (x % 256)).toNat)]:=Sl.one (vs:=[.int .u8 ((UInt8.ofNat (x % 256)).toNat)]) ZB
  generalize H++[Zg.cells [.int .u8 ((UInt8.ofNat (x % 256)).toNat)] 1 false false]=X1 at e1 k1 s1
  have h1:=h.hle k1
  have hr1 : Zw X1 sl (u8s bs) own:=hr.step k1.step (by simp)
  have hl : (u8s bs).length=bs.length:=QY bs
  obtain ⟨sl',X2,own',e2,r2,st2,_⟩:=hr1.push (b:=1) s1 (by omega) (by omega)
  rw [show u8s bs++[.int .u8 ((UInt8.ofNat (x % 256)).toNat)]=u8s (bs++[UInt8.ofNat (x % 256)]) from by simp [u8s]] at r2
  obtain ⟨X3,e3,w3,st3⟩:=h1.put r2 st2
  have hx2 : x / 256 < 18446744073709551616:=by omega
  obtain ⟨H',own2,e4,w4,st4⟩:=ZuO hN t (k+1) (x / 256) (bs++[UInt8.ofNat (x % 256)]) own' X3 (by omega) (by omega) hx2 (by rw [List.length_append,List.length_singleton];omega) w3
  have c1 : cvi .u8 (.int .u64 x) H=some (.int .u8 ((UInt8.ofNat (x % 256)).toNat),H):=by rw [Qj,wu8,Ztx]
  have c2 : ∀ Y,bop .int .shr (.int .u64 x) (.int .u64 8) Y=some (.int .u64 ((x / 256 : Nat) : Int),Y):=fun Y=>by
   rw [Zzi,if_neg (by decide)]
   congr 3
   rw [show (2 : Int) ^ min (8 : Int).toNat IntKind.u64.bits=256 from rfl]
   rw [Int.fdiv_eq_ediv_of_nonneg _ (by decide)]
   omega
  have c3 : ld1 (pt p) H=some (sl,H):=Ka hc
  refine ⟨H',own2,(ZI ?_).trans e4,?_,(k1.step.more (by simp) (fun j hj=>.inl hj)).trans (st3.trans st4)⟩
  ·rw [ZH]
   unfold JW.l1
   rw [Za Zk,Zb,if_pos (by simpa using hlt),Za Zl,Za Zj,Za c3,Za c1,Za e1,Za e2,Za Zl,Za Zj,Za e3,Za (c2 _),Za ZC,Q5 (by omega)]
   rfl
  ·rw [List.append_assoc] at w4
   exact w4
theorem Zvv {N x : Nat} (hN : N≤1000) (hx : x < 18446744073709551616) (hb : bs.length+N≤1000000000000) (h : Wtr H p bs own) : ∃ H' own',R (n+1) Y7 [pt p,.int .u64 x,iv N] H=some (pt p,H')∧Wtr H' p (bs++le x N) own'∧Zr (p :: own) H (p :: own') H':=by
 obtain ⟨H',own',e,w,s⟩:=ZuO (n:=n) hN N 0 x bs own H (by omega) (by omega) hx hb h
 have e : Zh (c4 (JW.l1 (R n))) [pt p,.int .u64 x,iv N,.int .i64 0] H=_:=e
 refine ⟨H',own',?_,w,s⟩
 rw [R,Zjr rfl]
 unfold JW
 rw [Qh e,ZE]
 rfl
theorem ZoO {x : Nat} (hx : x < 256) (hb : bs.length≤100000000000) (h : Wtr H p bs own) : ∃ H' own',R (n+2) QR [pt p,.int .u8 x] H=some (pt p,H')∧Wtr H' p (bs++le x 1) own'∧Zr (p :: own) H (p :: own') H':=by
 obtain ⟨H',own',e,w,s⟩:=Zvv (n:=n) (N:=1) (x:=x) (by omega) (by omega) (by omega) h
 have e : R (n+1) Y7 [pt p,.int .u64 x,.int .i64 1] H=_:=e
 have c1 : cvi .u64 (.int .u8 x) H=some (.int .u64 x,H):=by rw [Qj,Zof,Int.emod_eq_of_lt (by omega) (by omega)]
 refine ⟨H',own',?_,w,s⟩
 rw [R,Ziz rfl]
 unfold ZbQ
 rw [Za c1,Za e]
 rfl
theorem Zmq {x : Nat} (hx : x < 65536) (hb : bs.length≤100000000000) (h : Wtr H p bs own) : ∃ H' own',R (n+2) Ju [pt p,.int .u16 x] H=some (pt p,H')∧Wtr H' p (bs++le x 2) own'∧Zr (p :: own) H (p :: own') H':=by
 obtain ⟨H',own',e,w,s⟩:=Zvv (n:=n) (N:=2) (x:=x) (by omega) (by omega) (by omega) h
 have e : R (n+1) Y7 [pt p,.int .u64 x,.int .i64 2] H=_:=e
 have c1 : cvi .u64 (.int .u16 x) H=some (.int .u64 x,H):=by rw [Qj,Zof,Int.emod_eq_of_lt (by omega) (by omega)]
 refine ⟨H',own',?_,w,s⟩
 rw [R,Zjt rfl]
 unfold Zcq
 rw [Za c1,Za e]
 rfl
theorem ZrY (n : Int) : IntKind.u16.wrap n=n % 65536:=by simp [IntKind.wrap,IntKind.bits,IntKind.signed]
theorem ZyU : Qr 1 H (strv s)=some (u8s s):=by
 unfold strv Qr
 rfl
theorem ZwE : A.flen (strv s)=(u8s s).length:=by
 rw [QY]
 unfold strv A.flen
 exact ZnV
theorem Zfm (hs : s.length≤65535) (hb : bs.length≤1000000000) (h : Wtr H p bs own) : ∃ H' own',R (n+3) QE [pt p,strv s] H=some (pt p,H')∧Wtr H' p (bs++txt s) own'∧Zr (p :: own) H (p :: own') H':=by
 obtain ⟨H1,q1,e1,w1,s1⟩:=Zmq (n:=n) (x:=s.length) (by omega) (by omega) h
 obtain ⟨sl,hc,hr⟩:=w1.o
 have hl2 : (u8s (bs++le s.length 2)).length=bs.length+2:=by rw [QY,List.length_append,Za1]
 have hl3 : (u8s s).length=s.length:=QY s
 obtain ⟨sl',H2,q2,e2,r2,s2⟩:=hr.addN (b:=1) (x:=strv s) ZyU ZwE (by omega) (by omega)
 rw [← ZxK,List.append_assoc] at r2
 obtain ⟨H3,e3,w3,s3⟩:=w1.put r2 s2
 have c0 : mxi false (iv s.length) (.int .i64 65535) H=some (iv s.length,H):=by rw [Ye,if_neg (by omega)]
 have c1 : sls (strv s) none (some (iv s.length)) H=some (strv s,H):=by
  have:=Zp8 (s:=s) (k:=s.length) (H:=H) (Nat.le_refl _)
  rwa [List.take_length] at this
 have c2 : cvi .u16 (iv s.length) H=some (.int .u16 s.length,H):=by rw [Qj,ZrY,Int.emod_eq_of_lt (by omega) (by omega)]
 have c3 : ld1 (pt p) H1=some (sl,H1):=Ka hc
 refine ⟨H3,q2,?_,w3,s1.trans s3⟩
 rw [R,ZiD rfl]
 unfold ZbT
 rw [Za ZP,Za c0,Za c1,Za ZP,Za c2,Za e1,Za Zl,Za Zj,Za c3,Za e2,Za Zl,Za Zj,Za e3]
 rfl
theorem ZsY {b : Value} {bs : List UInt8} (hb : Sl H b (u8s bs)) (hp : bs.length≤140737488355328) :
  ∃ v q H',R (n+1) ZaF [b] H=some (v,H')∧Zw H' v (u8s bs) q∧HLe H H'∧∀ j∈q,H.length≤j:=by
 rw [R,ZnW rfl]
 rcases hb.isnil (H':=H) with ⟨rfl,hp0,e⟩ | e
 ·refine ⟨.slice none 0 0,[],H,?_,by rw [hp0];exact Zw.nil,.refl _,by simp⟩
  unfold Zdd
  rw [Za e]
  rfl
 ·have hb2 : Sl (H++[.cells [] 1 false false]) b (u8s bs):=hb.mono (.app _ _)
  obtain ⟨sl',H',own',e2,hr,hle,ho⟩:=Zyf (b:=1) hb2 (by rw [QY];omega) (by rw [QY];omega) (s:=.slice (some ⟨H.length,0,none⟩) 0 0) (.inr ⟨H.length,false,rfl,ZB,rfl⟩)
  refine ⟨sl',own',H',?_,hr,(HLe.app _ _).trans hle,fun j hj=>?_⟩
  ·unfold Zdd
   rw [Za e,Zb,if_neg (by simp),Za ZzF,Za e2]
   rfl
  ·rcases ho j hj with h | ⟨_,h⟩
   ·simp at h;omega
   ·cases h;exact Nat.le_refl _
theorem Zrn (hb : bs.length≤1000000000) (h : Wtr H p bs own) : ∃ v q H',R (n+2) Yn [pt p] H=some (v,H')∧Zw H' v (u8s bs) q∧HLe H H'∧∀ j∈q,H.length≤j:=by
 obtain ⟨sl,hc,hr⟩:=h.o
 obtain ⟨v,q,H',e,r,l,o⟩:=ZsY (n:=n) hr.rd (by omega)
 refine ⟨v,q,H',?_,r,l,o⟩
 rw [R,ZhQ rfl]
 unfold Zbi
 rw [Za Zl,Za Zj,Za (Ka hc),Za e]
 rfl
theorem Zs3 : bld (.agg #[.slice none 0 0]) [] H=some (.agg #[.slice none 0 0],H)∧alc 1 (.agg #[.slice none 0 0]) H=some (pt H.length,H++[.cells [.slice none 0 0] 1 false false])∧Wtr (H++[.cells [.slice none 0 0] 1 false false]) H.length [] []:=
 ⟨rfl,rfl,⟨⟨.slice none 0 0,ZB,Zw.nil⟩,by simp⟩⟩
end
end Go.Proofs.YtedkoimihknggaaGreatDoor.A
namespace Go.Proofs.YtedkoimihknggaaGreatDoor.A
set_option linter.unusedVariables false
set_option linter.unusedSimpArgs false
open Go.Proofs Go.Proofs.YtedkoimihknggaaGreatDoor
abbrev RSt:=Nat × List UInt8
def leN : List UInt8→Nat
 | []=>0
 | b :: l=>b.toNat+256 * leN l
def Ze9 (e : Nat) (s : RSt) : RSt:=if s.1=0∧e≠0 then (e,[]) else s
def tkS (n : Nat) (s : RSt) : List UInt8 × RSt:=if n≤s.2.length then (s.2.take n,(s.1,s.2.drop n)) else ([],Ze9 2 s)
def Wo (k : Nat) (s : RSt) : Nat × RSt:=(leN (tkS k s).1,(tkS k s).2)
def Zc0 (most : Nat) (s : RSt) : Nat × RSt:=if (Wo 2 s).1 > most then (0,Ze9 3 (Wo 2 s).2) else Wo 2 s
def Zcb (most : Nat) (s : RSt) : List UInt8 × RSt:=tkS (Zc0 most s).1 (Zc0 most s).2
def RB (H : Zd) (sl : Value) (bs : List UInt8) : Prop:=
 (bs=[]∧(sl=.slice none 0 0∨∃ id o j,sl=.slice (some ⟨id,o,some j⟩) 0 0))∨
 ∃ id o c cs g ro,sl=.slice (some ⟨id,o,none⟩) bs.length c∧bs.length≤c∧H[id]?=some (.cells cs 1 g ro)∧o+bs.length≤cs.length∧(cs.drop o).take bs.length=u8s bs
def Rdr (H : Zd) (p : Nat) (s : RSt) : Prop:=
 ∃ sl,H[p]?=some (.cells [sl,iv s.1] 1 false false)∧RB H sl s.2∧(∀ j,own1 sl=some j→j < p)∧(s.1≠0→s.2=[])
theorem ZrP : ∀ (l : List UInt8),leN l < 256 ^ l.length
 | []=>by decide
 | b :: l=>by
  have h1:=ZrP l
  have h2 : b.toNat < 256:=b.toNat_lt
  rw [List.length_cons,Nat.pow_succ]
  unfold leN
  omega
theorem Zl1 : ∀ (l : List UInt8) (b : UInt8),leN (l++[b])=leN l+b.toNat * 2 ^ (8 * l.length)
 | [],b=>by simp [leN]
 | a :: l,b=>by
  rw [List.cons_append]
  unfold leN
  rw [Zl1 l b,List.length_cons,Nat.mul_add,show 8 * (l.length+1)=8 * l.length+8 by omega,Nat.pow_add]
  have : 256 * (b.toNat * 2 ^ (8 * l.length))=b.toNat * (2 ^ (8 * l.length) * 2 ^ 8):=by
   rw [← Nat.mul_assoc,Nat.mul_comm 256,Nat.mul_assoc,Nat.mul_comm 256]
  omega
section
variable {H X : Zd} {n p : Nat} {sl x v : Value} {vs ws : List Value} {own : List Nat} {bs : List UInt8} {s : RSt}
theorem RB.rd (h : RB H sl bs) : Sl H sl (u8s bs):=by
 rcases h with ⟨rfl,rfl | ⟨id,o,j,rfl⟩⟩ | ⟨id,o,c,cs,g,ro,rfl,h1,h2,h3,h4⟩
 ·exact Sl.nil
 ·exact ⟨_,_,rfl,(fun e=>by cases e),rfl⟩
 ·refine ⟨_,c,by rw [QY],(fun e=>by cases e),?_⟩
  unfold Qr
  simp only [h2,Nat.mul_one]
  rw [if_pos h3,h4]
theorem RB.one (h : RB H sl bs) : oneCell sl=true:=by
 rcases h with ⟨rfl,rfl | ⟨id,o,j,rfl⟩⟩ | ⟨id,o,c,cs,g,ro,rfl,_⟩ <;> rfl
theorem RB.keep (h : RB H sl bs) (hk : ∀ j,own1 sl=some j→X[j]?=H[j]?) : RB X sl bs:=by
 rcases h with h | ⟨id,o,c,cs,g,ro,rfl,h1,h2,h3,h4⟩
 ·exact .inl h
 ·exact .inr ⟨id,o,c,cs,g,ro,rfl,h1,by rw [hk id rfl];exact h2,h3,h4⟩
theorem Zw.rb {q : List Nat} (h : Zw H sl (u8s bs) q) : RB H sl bs:=by
 rcases h with ⟨h1,rfl,rfl⟩ | ⟨sid,rest,g,rfl,rfl,hid⟩
 ·refine .inl ⟨?_,.inl rfl⟩
  cases bs with
  | nil=>rfl
  | cons b l=>simp [u8s] at h1
 ·refine .inr ⟨sid,0,_,_,g,false,by rw [QY],by first | omega | (rw [QY];omega),hid,?_,?_⟩
  ·rw [List.length_append,QY];omega
  ·rw [List.drop_zero,← QY bs,List.take_left]
theorem RB.cut (h : RB H sl bs) {k : Nat} (hk : k≤bs.length) : ∃ a b,slv 1 sl none (some (iv k)) none H=some (a,H)∧slv 1 sl (some (iv k)) none none H=some (b,H)∧RB H a (bs.take k)∧RB H b (bs.drop k)∧(∀ j,own1 a=some j→own1 sl=some j)∧(∀ j,own1 b=some j→own1 sl=some j):=by
 have b1 : ∀ d,bnd (some (iv k)) d=some k:=fun d=>by simp [bnd]
 have b2 : ∀ d,bnd none d=some d:=fun _=>rfl
 rcases h with ⟨rfl,h⟩ | ⟨id,o,c,cs,g,ro,rfl,h1,h2,h3,h4⟩
 ·have hk0 : k=0:=by simpa using hk
  subst hk0
  rcases h with rfl | ⟨id,o,j,rfl⟩
  ·exact ⟨_,_,rfl,rfl,.inl ⟨rfl,.inl rfl⟩,.inl ⟨rfl,.inl rfl⟩,fun _ h=>h,fun _ h=>h⟩
  ·exact ⟨_,_,rfl,rfl,.inl ⟨rfl,.inr ⟨_,_,_,rfl⟩⟩,.inl ⟨rfl,.inr ⟨_,_,_,rfl⟩⟩,fun _ h=>h,fun _ h=>h⟩
 ·have hA : ∃ a,slv 1 (.slice (some ⟨id,o,none⟩) bs.length c) none (some (iv k)) none H=some (a,H)∧RB H a (bs.take k)∧(∀ j,own1 a=some j→some id=some j):=by
   by_cases h0 : c=0
   ·have hb : bs=[]:=List.eq_nil_of_length_eq_zero (by omega)
    subst hb
    refine ⟨.slice (some ⟨id,o,some (bif g then 1 else 0)⟩) 0 0,?_,.inl ⟨List.take_nil,.inr ⟨_,_,_,rfl⟩⟩,fun j h=>by cases h⟩
    have hk0 : k=0:=by simpa using hk
    subst hk0
    simp only [slv,h2,b1,b2]
    rw [if_pos ⟨trivial,by omega,by omega,Nat.le_refl _⟩,if_pos (by omega)]
   ·have hl : (bs.take k).length=k:=by simp;omega
    refine ⟨.slice (some ⟨id,o,none⟩) k c,?_,.inr ⟨id,o,c,cs,g,ro,by rw [hl],by omega,h2,by omega,?_⟩,fun j h=>h⟩
    ·simp only [slv,h2,b1,b2]
     rw [if_pos ⟨trivial,by omega,by omega,Nat.le_refl _⟩,if_neg (by omega)]
     simp
    ·have:=congrArg (List.take k) h4
     rw [List.take_take,Nat.min_eq_left hk] at this
     rw [hl,this]
     simp [u8s,List.map_take]
  have hB : ∃ b,slv 1 (.slice (some ⟨id,o,none⟩) bs.length c) (some (iv k)) none none H=some (b,H)∧RB H b (bs.drop k)∧(∀ j,own1 b=some j→some id=some j):=by
   by_cases h0 : c=k
   ·have hb : bs.drop k=[]:=List.drop_eq_nil_of_le (by omega)
    refine ⟨.slice (some ⟨id,o,some (bif g then 1 else 0)⟩) 0 0,?_,.inl ⟨hb,.inr ⟨_,_,_,rfl⟩⟩,fun j h=>by cases h⟩
    simp only [slv,h2,b1,b2]
    rw [if_pos ⟨trivial,by omega,by omega,Nat.le_refl _⟩,if_pos (by omega)]
   ·have hl : (bs.drop k).length=bs.length - k:=by simp
    refine ⟨.slice (some ⟨id,o+k,none⟩) (bs.length - k) (c - k),?_,.inr ⟨id,o+k,c - k,cs,g,ro,by rw [hl],by omega,h2,by omega,?_⟩,fun j h=>h⟩
    ·simp only [slv,h2,b1,b2]
     rw [if_pos ⟨trivial,by omega,by omega,Nat.le_refl _⟩,if_neg (by omega)]
     simp
    ·have:=congrArg (List.drop k) h4
     rw [List.drop_take,List.drop_drop] at this
     rw [hl,this]
     simp [u8s,List.map_drop]
  obtain ⟨a,a1,a2,a3⟩:=hA
  obtain ⟨b,c1,c2,c3⟩:=hB
  exact ⟨a,b,a1,c1,a2,c2,a3,c3⟩
theorem Rdr.lt (h : Rdr H p s) : p < H.length:=by
 obtain ⟨sl,hc,_⟩:=h
 exact JS hc
theorem Rdr.other {a : Nat} {o : Zg} (h : Rdr H p s) (ha : p < a) : Rdr (H.set a o) p s:=by
 obtain ⟨sl,h1,h2,h3,h4⟩:=h
 exact ⟨sl,(List.getElem?_set_ne (by omega)).trans h1,h2.keep fun j hj=>List.getElem?_set_ne (by have:=h3 j hj;omega),h3,h4⟩
theorem Rdr.hle (h : Rdr H p s) (hl : HLe H X) : Rdr X p s:=by
 obtain ⟨sl,hc,hr,hn,h0⟩:=h
 refine ⟨sl,hl _ _ hc,hr.keep fun j hj=>?_,hn,h0⟩
 rcases hr with ⟨_,rfl | ⟨id,o,k,rfl⟩⟩ | ⟨id,o,c,cs,g,ro,rfl,h1,h2,h3,h4⟩
 ·cases hj
 ·cases hj
 ·cases hj
  rw [h2,hl _ _ h2]
theorem Rdr.put {s' : RSt} {sl' : Value} (hc : H[p]?=some (.cells [x,v] 1 false false)) (hr : RB H sl' s'.2) (hn : ∀ j,own1 sl'=some j→j < p) (h0 : s'.1≠0→s'.2=[]) : Rdr (H.set p (.cells [sl',iv s'.1] 1 false false)) p s'∧Zr [p] H [p] (H.set p (.cells [sl',iv s'.1] 1 false false)):=
 ⟨⟨sl',Qv hc,hr.keep fun j hj=>List.getElem?_set_ne (fun e=>by have:=hn j hj;omega),hn,h0⟩,⟨by simp,fun j hj hm=>List.getElem?_set_ne (fun e=>hm (by simp [e])),fun j hj=>.inl hj⟩⟩
theorem Zms {e : Nat} (he : e≤1000) (h : Rdr H p s) : ∃ H',R (n+1) ZX [pt p,iv e] H=some (.tuple #[],H')∧Rdr H' p (Ze9 e s)∧Zr [p] H [p] H':=by
 obtain ⟨sl,hc,hr,hn,h0⟩:=h
 have a1 : ld1 (pa p 1) H=some (iv s.1,H):=Qe hc rfl
 have f1 : ∀ H',Kv (R n) (pt p) (iv e) H=some (.tuple #[],H')→R (n+1) ZX [pt p,iv e] H=some (.tuple #[],H'):=fun H' hr=>by rw [R,Zis rfl];exact hr
 unfold Ze9
 by_cases hs : s.1=0
 ·have q1 : bop .int .eql (iv s.1) (.int .i64 0) H=some (.bool true,H):=by rw [ZG,hs];rfl
  by_cases he0 : e=0
  ·have q2 : bop .int .neq (iv e) (.int .i64 0) H=some (.bool false,H):=by rw [Zo,he0];rfl
   rw [if_neg (by simp [he0])]
   refine ⟨H,f1 _ ?_,⟨sl,hc,hr,hn,h0⟩,.refl _ _⟩
   unfold Kv
   rw [Za Zl,Za Zj,Za a1,Za q1,Qq,Zs,Za q2,Qz,Qd,Za Zn]
   simp only [cond_true]
   refine (QZ (vs:=[]) (H':=H) ?_).trans ?_
   ·rw [Zb,if_neg (by simp)];rfl
   ·rfl
  ·have q2 : bop .int .neq (iv e) (.int .i64 0) H=some (.bool true,H):=by rw [Zo];simp [he0]
   rw [if_pos ⟨hs,he0⟩]
   have w1 : st1 (pa p 0) (.slice none 0 0) H=some (undef,H.set p (.cells [.slice none 0 0,iv s.1] 1 false false)):=ZgX (o:=0) hc (by simp) rfl
   have c1 : (H.set p (.cells [.slice none 0 0,iv s.1] 1 false false))[p]?=some (.cells [.slice none 0 0,iv s.1] 1 false false):=Qv hc
   have w2 : st1 (pa p 1) (iv e) (H.set p (.cells [.slice none 0 0,iv s.1] 1 false false))=some (undef,(H.set p (.cells [.slice none 0 0,iv s.1] 1 false false)).set p (.cells [.slice none 0 0,iv e] 1 false false)):=ZgX (o:=1) c1 (by simp) rfl
   rw [List.set_set] at w2
   have hp:=Rdr.put (s':=(e,[])) (sl':=.slice none 0 0) hc (.inl ⟨rfl,.inl rfl⟩) (by simp [own1]) (fun _=>rfl)
   refine ⟨_,f1 _ ?_,hp.1,hp.2⟩
   unfold Kv
   rw [Za Zl,Za Zj,Za a1,Za q1,Qq,Zs,Za q2,Qz,Qd,Za Zn]
   simp only [cond_true]
   refine (QZ (vs:=[]) (H':=H.set p (.cells [.slice none 0 0,iv e] 1 false false)) ?_).trans ?_
   ·rw [Zb,if_pos (by simp),Za Zl,Za Zj,Za w1,Za Zl,Za Zj,Za w2];rfl
   ·rfl
 ·have q1 : bop .int .eql (iv s.1) (.int .i64 0) H=some (.bool false,H):=by rw [ZG];simp [hs]
  rw [if_neg (by simp [hs])]
  refine ⟨H,f1 _ ?_,⟨sl,hc,hr,hn,h0⟩,.refl _ _⟩
  unfold Kv
  rw [Za Zl,Za Zj,Za a1,Za q1,Za (g_r.trans (if_neg (by simp)))]
  simp only [List.replicate]
  rw [Qd,Za Zn]
  simp only [cond_false]
  refine (QZ (vs:=[]) (H':=H) ?_).trans ?_
  ·rw [Zb,if_neg (by simp)];rfl
  ·rfl
theorem Zu4 {k : Nat} (hk : k≤1000000000) (h : Rdr H p s) : ∃ v H',R (n+2) YA [pt p,iv k] H=some (v,H')∧RB H' v (tkS k s).1∧Rdr H' p (tkS k s).2∧Zr [p] H [p] H':=by
 have h':=h
 obtain ⟨sl,hc,hr,hn,h0⟩:=h
 have a1 : ld1 (pa p 0) H=some (sl,H):=Qe hc rfl
 have hl : Zp sl H=some (iv s.2.length,H):=by have:=hr.rd.len (H':=H);rwa [QY] at this
 have f1 : ∀ r H',K8 (R (n+1)) (pt p) (iv k) H=some (r,H')→R (n+2) YA [pt p,iv k] H=some (r,H'):=fun r H' hr=>by rw [R,Zit rfl];exact hr
 unfold tkS
 by_cases hle : k≤s.2.length
 ·rw [if_pos hle]
  obtain ⟨a,b,e1,e2,ra,rb,oa,ob⟩:=hr.cut hle
  have q1 : bop .int .gtr (iv k) (iv s.2.length) H=some (.bool false,H):=by rw [ZT,decide_eq_false (by omega)]
  have w1 : st1 (pa p 0) b H=some (undef,H.set p (.cells [b,iv s.1] 1 false false)):=ZgX (o:=0) hc (by simp) rb.one
  have hp:=Rdr.put (s':=(s.1,s.2.drop k)) (sl':=b) hc rb (fun j e=>hn j (ob _ e)) (fun h=>by simp [h0 h])
  refine ⟨a,_,f1 _ _ ?_,ra.keep fun j hj=>List.getElem?_set_ne (fun e=>by have:=hn j (oa _ hj);omega),hp.1,hp.2⟩
  unfold K8
  rw [Za Zl,Za Zj,Za a1,Za hl,Za q1,Zb,if_neg (by simp),Za Zl,Za Zj,Za a1,Za e1,Za Zl,Za Zj,Za a1,Za e2,Za Zl,Za Zj,Za w1]
  rfl
 ·rw [if_neg hle]
  have q1 : bop .int .gtr (iv k) (iv s.2.length) H=some (.bool true,H):=by rw [ZT,decide_eq_true (by omega)]
  obtain ⟨H',e2,r2,s2⟩:=Zms (n:=n) (e:=2) (by omega) h'
  have e2 : R (n+1) ZX [pt p,.int .i64 2] H=_:=e2
  refine ⟨.slice none 0 0,H',f1 _ _ ?_,.inl ⟨rfl,.inl rfl⟩,r2,s2⟩
  unfold K8
  rw [Za Zl,Za Zj,Za a1,Za hl,Za q1,Zb,if_pos rfl,Za e2]
  rfl
theorem Ztl {bs : List UInt8} (hb : bs.length≤8) (hs : Sl X v (u8s bs)) : ∀ (t k : Nat),bs.length - k=t→k≤bs.length→
  Zh (c4 (JY.l1 (R n))) [.int .u64 (leN (bs.take k)),v,iv bs.length,iv k] X=some (.ext 0 [.int .u64 (leN bs)],X)
 | 0,k,ht,hk=>by
  have : k=bs.length:=by omega
  subst this
  refine ZV ?_
  rw [ZH,List.take_length]
  unfold JY.l1
  rw [Za Zk,Zb,if_neg (by simp)]
  rfl
 | t+1,k,ht,hk=>by
  have hkl : k < bs.length:=by omega
  have hlt : (k : Int) < bs.length:=by omega
  have hg:=List.getElem?_eq_getElem hkl
  have htk : bs.take (k+1)=bs.take k++[bs[k]]:=(List.take_append_getElem hkl).symm
  generalize bs[k]=b at hg htk
  have hkk : (u8s bs)[k]?=some (.int .u8 b.toNat):=by simp [u8s,hg]
  have x1:=hs.ix (i:=k) (by rw [QY];exact hkl) .i64 X
  have x2:=hs.ldx hkk
  have hb2 : b.toNat < 256:=b.toNat_lt
  have hlen : (bs.take k).length=k:=by simp;omega
  have hpow : 2 ^ (8 * k)≤2 ^ 56:=Nat.pow_le_pow_right (by decide) (by omega)
  have hlt2 : leN (bs.take k) < 2 ^ (8 * k):=by
   have:=ZrP (bs.take k)
   rw [hlen] at this
   rwa [Nat.pow_mul]
  have hprod : b.toNat * 2 ^ (8 * k)≤255 * 2 ^ 56:=Nat.mul_le_mul (by omega) hpow
  have c1 : cvi .u64 (.int .u8 b.toNat) X=some (.int .u64 b.toNat,X):=by rw [Qj,Zof,Int.emod_eq_of_lt (by omega) (by omega)]
  have c2 : bop .int .mul (.int .i64 8) (iv k) X=some (iv ((8 * k : Nat) : Int),X):=by rw [Jy,w64 (by omega) (by omega)];simp
  have c3 : bop .int .shl (.int .u64 b.toNat) (iv ((8 * k : Nat) : Int)) X=some (.int .u64 ((b.toNat * 2 ^ (8 * k) : Nat) : Int),X):=by
   rw [Zzf,if_neg (by omega)]
   have hm : min ((8 * k : Nat) : Int).toNat IntKind.u64.bits=8 * k:=by
    rw [Int.toNat_natCast]
    show min (8 * k) 64=8 * k
    omega
   have hc : (b.toNat : Int) * 2 ^ (8 * k)=((b.toNat * 2 ^ (8 * k) : Nat) : Int):=by push_cast;rfl
   rw [hm,hc,Zof,Int.emod_eq_of_lt (by omega) (by omega)]
  have c4' : bop .int .or (.int .u64 (leN (bs.take k))) (.int .u64 ((b.toNat * 2 ^ (8 * k) : Nat) : Int)) X=some (.int .u64 (leN (bs.take (k+1))),X):=by
   rw [ZzC]
   have ho : ((BitVec.ofInt IntKind.u64.bits (leN (bs.take k) : Int) ||| BitVec.ofInt IntKind.u64.bits ((b.toNat * 2 ^ (8 * k) : Nat) : Int)).toNat)=leN (bs.take (k+1)):=by
    rw [BitVec.toNat_or,BitVec.ofInt_natCast,BitVec.ofInt_natCast,BitVec.toNat_ofNat,BitVec.toNat_ofNat]
    show leN (bs.take k) % 2 ^ 64 ||| (b.toNat * 2 ^ (8 * k)) % 2 ^ 64=_
    rw [Nat.mod_eq_of_lt (by omega),Nat.mod_eq_of_lt (by omega),htk,Zl1,hlen,Nat.or_comm,← Nat.shiftLeft_eq,← Nat.shiftLeft_add_eq_or_of_lt hlt2,Nat.add_comm]
   rw [ho]
   have : leN (bs.take (k+1)) < 2 ^ 64:=by
    rw [htk,Zl1,hlen];omega
   rw [Zof,Int.emod_eq_of_lt (by omega) (by omega)]
  refine (ZI ?_).trans (Ztl hb hs t (k+1) (by omega) (by omega))
  rw [ZH]
  unfold JY.l1
  rw [Za Zk,Zb,if_pos (by simpa using hlt),Za x1,Za x2,Za c1,Za c2,Za c3,Za c4',Za ZC,Q5 (by omega)]
  rfl
theorem Ztq {k : Nat} : (tkS k s).1.length≤k:=by
 unfold tkS
 split
 ·simp;omega
 ·exact Nat.zero_le _
theorem ZuZ {k : Nat} (hk : k≤8) (h : Rdr H p s) : ∃ H',R (n+3) Y4 [pt p,iv k] H=some (.int .u64 (Wo k s).1,H')∧Rdr H' p (Wo k s).2∧Zr [p] H [p] H':=by
 obtain ⟨v,H',e1,rb,r1,s1⟩:=Zu4 (n:=n) (k:=k) (by omega) h
 have hl:=Ztq (k:=k) (s:=s)
 have e2 : Zp v H'=some (iv (tkS k s).1.length,H'):=by have:=rb.rd.len (H':=H');rwa [QY] at this
 have e3:=Ztl (n:=n+2) (bs:=(tkS k s).1) (by omega) rb.rd (tkS k s).1.length 0 (by omega) (by omega)
 have e3 : Zh (c4 (JY.l1 (R (n+2)))) [.int .u64 0,v,iv (tkS k s).1.length,.int .i64 0] H'=_:=e3
 refine ⟨H',?_,r1,s1⟩
 rw [R,Zj6 rfl]
 unfold JY
 rw [Za e1,Za e2,Qh e3,ZE]
 rfl
theorem ZgO {k : Nat} : (Wo k s).1 < 256 ^ k:=
 Nat.lt_of_lt_of_le (ZrP _) (Nat.pow_le_pow_right (by decide) Ztq)
theorem ZyP (h : Rdr H p s) : ∃ H',R (n+4) Yz [pt p] H=some (.int .u8 (Wo 1 s).1,H')∧Rdr H' p (Wo 1 s).2∧Zr [p] H [p] H':=by
 obtain ⟨H',e,r,st⟩:=ZuZ (n:=n) (k:=1) (by omega) h
 have e : R (n+3) Y4 [pt p,.int .i64 1] H=_:=e
 have hl:=ZgO (s:=s) (k:=1)
 have c1 : cvi .u8 (.int .u64 (Wo 1 s).1) H'=some (.int .u8 (Wo 1 s).1,H'):=by rw [Qj,wu8,Int.emod_eq_of_lt (by omega) (by omega)]
 refine ⟨H',?_,r,st⟩
 rw [R,ZiG rfl]
 unfold ZbR
 rw [Za e,Za c1]
 rfl
theorem Zw1 (h : Rdr H p s) : ∃ H',R (n+4) Yl [pt p] H=some (.int .u16 (Wo 2 s).1,H')∧Rdr H' p (Wo 2 s).2∧Zr [p] H [p] H':=by
 obtain ⟨H',e,r,st⟩:=ZuZ (n:=n) (k:=2) (by omega) h
 have e : R (n+3) Y4 [pt p,.int .i64 2] H=_:=e
 have hl:=ZgO (s:=s) (k:=2)
 have c1 : cvi .u16 (.int .u64 (Wo 2 s).1) H'=some (.int .u16 (Wo 2 s).1,H'):=by rw [Qj,ZrY,Int.emod_eq_of_lt (by omega) (by omega)]
 refine ⟨H',?_,r,st⟩
 rw [R,ZjK rfl]
 unfold Zch
 rw [Za e,Za c1]
 rfl
theorem Zwa {most : Nat} (hm : most≤1000000) (h : Rdr H p s) : ∃ H',R (n+5) Ke [pt p,iv most] H=some (iv (Zc0 most s).1,H')∧Rdr H' p (Zc0 most s).2∧Zr [p] H [p] H':=by
 obtain ⟨H1,e1,r1,s1⟩:=Zw1 (n:=n) h
 have hl:=ZgO (s:=s) (k:=2)
 have c1 : cvi .i64 (.int .u16 (Wo 2 s).1) H1=some (iv (Wo 2 s).1,H1):=by rw [Qj,w64 (by omega) (by omega)]
 have c2 : mxi true (.int .i64 0) (iv most) H1=some (iv most,H1):=by
  rw [Ys]
  by_cases h0 : (most : Int) > 0
  ·rw [if_pos h0]
  ·rw [if_neg h0,show (most : Int)=0 by omega]
 have f1 : ∀ r H',KW (R (n+4)) (pt p) (iv most) H=some (r,H')→R (n+5) Ke [pt p,iv most] H=some (r,H'):=fun r H' hr=>by rw [R,ZhZ rfl];exact hr
 unfold Zc0
 by_cases hg : (Wo 2 s).1 > most
 ·rw [if_pos hg]
  have q1 : bop .int .gtr (iv (Wo 2 s).1) (iv most) H1=some (.bool true,H1):=by rw [ZT,decide_eq_true (by omega)]
  obtain ⟨H2,e2,r2,s2⟩:=Zms (n:=n+3) (e:=3) (by omega) r1
  have e2 : R (n+4) ZX [pt p,.int .i64 3] H1=_:=e2
  refine ⟨H2,f1 _ _ ?_,r2,s1.trans s2⟩
  unfold KW
  rw [Za e1,Za c1,Za c2,Za q1,Zb,if_pos rfl,Za e2]
  rfl
 ·rw [if_neg hg]
  have q1 : bop .int .gtr (iv (Wo 2 s).1) (iv most) H1=some (.bool false,H1):=by rw [ZT,decide_eq_false (by omega)]
  refine ⟨H1,f1 _ _ ?_,r1,s1⟩
  unfold KW
  rw [Za e1,Za c1,Za c2,Za q1,Zb,if_neg (by simp)]
  rfl
theorem Zvr {most : Nat} : (Zc0 most s).1 < 65536:=by
 have hl:=ZgO (s:=s) (k:=2)
 unfold Zc0
 split
 ·show 0 < 65536
  decide
 ·exact hl
theorem ZuN {most : Nat} (hm : most≤1000000) (h : Rdr H p s) : ∃ H',R (n+6) JE [pt p,iv most] H=some (strv (Zcb most s).1,H')∧Rdr H' p (Zcb most s).2∧Zr [p] H [p] H':=by
 obtain ⟨H1,e1,r1,s1⟩:=Zwa (n:=n) hm h
 have hl:=Zvr (s:=s) (most:=most)
 obtain ⟨v,H2,e2,rb,r2,s2⟩:=Zu4 (n:=n+3) (k:=(Zc0 most s).1) (by omega) r1
 have e2 : R (n+5) YA [pt p,iv (Zc0 most s).1] H1=_:=e2
 refine ⟨H2,?_,r2,s1.trans s2⟩
 rw [R,Ziu rfl]
 unfold ZbP
 rw [Za e1,Za e2,Za (Zf9 rb.rd)]
 rfl
theorem Zp5 (h : Rdr H p s) : R (n+1) Qf [pt p] H=some (iv s.1,H):=by
 obtain ⟨sl,hc,hr,hn,h0⟩:=h
 have a1 : ld1 (pa p 1) H=some (iv s.1,H):=Qe hc rfl
 rw [R,Zji rfl]
 unfold Zcw
 rw [Za Zl,Za Zj,Za a1]
 rfl
def ZeB (s : RSt) : Nat:=if s.1=0 then (if s.2=[] then 0 else 3) else s.1
theorem Zzh (h : Rdr H p s) : R (n+1) YY [pt p] H=some (iv (ZeB s),H):=by
 obtain ⟨sl,hc,hr,hn,h0⟩:=h
 have a0 : ld1 (pa p 0) H=some (sl,H):=Qe hc rfl
 have a1 : ld1 (pa p 1) H=some (iv s.1,H):=Qe hc rfl
 have hl : Zp sl H=some (iv s.2.length,H):=by have:=hr.rd.len (H':=H);rwa [QY] at this
 unfold ZeB
 rw [R,ZiN rfl]
 unfold Zcl
 by_cases hs : s.1=0
 ·have q1 : bop .int .eql (iv s.1) (.int .i64 0) H=some (.bool true,H):=by rw [ZG,hs];rfl
  rw [if_pos hs,Za Zl,Za Zj,Za a1,Za q1,Qq,Zs,Za Zl,Zs,Za Zj,Zs,Za a0,Zs,Za hl,Zs,Za ZT,Qz,Yr,Za Zn]
  simp only [cond_true]
  rw [Zb]
  by_cases he : s.2=[]
  ·rw [if_neg (by simp [he]),if_pos he,Za Zl,Za Zj,Za a1,hs]
   rfl
  ·have : 0 < s.2.length:=List.length_pos_iff.2 he
   rw [if_pos (by simp;omega),if_neg he]
   rfl
 ·have q1 : bop .int .eql (iv s.1) (.int .i64 0) H=some (.bool false,H):=by rw [ZG];simp [hs]
  rw [if_neg hs,Za Zl,Za Zj,Za a1,Za q1,Za (g_r.trans (if_neg (by simp)))]
  simp only [List.replicate]
  rw [Yr,Za Zn]
  simp only [cond_false]
  rw [Zb,if_neg (by simp),Za Zl,Za Zj,Za a1]
  rfl
theorem Ztu {b : Value} {bs : List UInt8} (hb : Sl H b (u8s bs)) (hp : bs.length≤140737488355328) : ∃ p H',R (n+2) ZcF [b] H=some (pt p,H')∧Rdr H' p (0,bs)∧HLe H H'∧H.length≤p:=by
 obtain ⟨v,q,H1,e1,r1,l1,o1⟩:=ZsY (n:=n) hb hp
 have e2 : bld (.agg #[.slice none 0 0,.int .i64 0]) [(0,1,v)] H1=some (.agg #[v,iv 0],H1):=by
  rcases r1 with ⟨_,_,rfl⟩ | ⟨_,_,_,rfl,_,_⟩ <;> rfl
 have e3 : alc 1 (.agg #[v,iv 0]) H1=some (pt H1.length,H1++[.cells [v,iv 0] 1 false false]):=Zd0 (vs:=[v,iv 0]) (by rw [List.all_cons,r1.one.1];rfl)
 have hl:=l1.len
 refine ⟨H1.length,_,?_,⟨v,ZB,r1.rb.keep fun j hj=>?_,fun j e=>?_,fun h=>absurd rfl h⟩,l1.trans (.app _ _),hl⟩
 ·rw [R,Zsq rfl]
  unfold Zjw
  rw [Za e1,Za e2,Za e3]
  rfl
 ·have:=r1.lt j (by rw [r1.own1 hj];simp)
  exact List.getElem?_append_left this
 ·exact r1.lt j (by rw [r1.own1 e];simp)
end
end Go.Proofs.YtedkoimihknggaaGreatDoor.A

namespace Go.Proofs.YtedkoimihknggaaGreatDoor.A
set_option linter.unusedVariables false
set_option linter.unusedSimpArgs false
open Go.Proofs Go.Proofs.YtedkoimihknggaaGreatDoor
def Ks (e : Ent) : Nat:=if Zy e.1 then (if YD e.2 then 0 else 4) else 10
def Kg (e : Ent) : Zm:=⟨e.1,e.2,[],false,.slice none 0 0,[]⟩
def ZrF (e : Ent) : List UInt8:=txt e.1++txt e.2
def ZhV (m : List Ent) : List UInt8:=(m.map ZrF).flatten
def Zty (m : List Ent) : List UInt8:=le 1 1++(le m.length 2++ZhV m)
theorem Zkl (e : Ent) (H : Zd) : (Kg e).ok H:=.inl ⟨rfl,.inl rfl⟩
theorem Zgh (e : Ent) : ZdS (Kg e)=Ks e:=by
 unfold ZdS Ks
 have : ZiL (Kg e)=true:=rfl
 rw [this]
 show (if Zy e.1=true then if YD e.2=true then _ else _ else _)=_
 split
 ·split <;> rfl
 ·rfl
theorem Zkb {k : List UInt8} (h : YD k=true) : k.length≤12:=by
 unfold YD at h
 simp only [Bool.and_eq_true,decide_eq_true_eq] at h
 exact h.1.2
theorem ZgM {e : Ent} : Ks e=0↔Zy e.1=true∧YD e.2=true:=by
 unfold Ks
 cases Zy e.1 <;> cases YD e.2 <;> simp
theorem Zay {s : List UInt8} : (txt s).length=s.length+2:=by unfold txt;rw [List.length_append,Za1];omega
theorem Zrq {e : Ent} (h : Ks e=0) : (ZrF e).length≤28:=by
 have h1:=Kq (ZgM.1 h).1
 have h2:=Zkb (ZgM.1 h).2
 unfold ZrF
 rw [List.length_append,Zay,Zay];omega
section
variable {H X : Zd} {n p d b : Nat} {sl x v : Value} {own q : List Nat} {bs : List UInt8} {m : List Ent} {e : Ent}
theorem ZyF (he : Ks e=0) (hb : bs.length≤100000000) (h : Wtr H p bs own) : ∃ H' own',R (n+7) ZcL [pt p,iv 1,.agg (usr e).toArray] H=some (.bool true,H')∧Wtr H' p (bs++ZrF e) own'∧Zr (p :: own) H (p :: own') H':=by
 have h1:=Kq (ZgM.1 he).1
 have h2:=Zkb (ZgM.1 he).2
 have e1 : alc 1 (.agg (usr e).toArray) H=some (pt H.length,H++[.cells (usr e) 1 false false]):=Zw4 (Zkl e H)
 have k1 : HLe H (H++[.cells (usr e) 1 false false]):=.app _ _
 have c1 : (H++[Zg.cells (usr e) 1 false false])[H.length]?=some (.cells (usr e) 1 false false):=ZB
 have hne : H.length∉p :: own:=fun hm=>Nat.lt_irrefl _ (h.lt _ hm)
 generalize H++[Zg.cells (usr e) 1 false false]=X1 at e1 k1 c1
 generalize H.length=w at e1 c1 hne
 have d1 : ldA 5 (pt w) X1=some (.agg (usr e).toArray,X1):=Jz (n:=5) c1 rfl
 obtain ⟨X2,e2,k2⟩:=ZgJ (n:=n) (Zkl e X1)
 rw [Zgh,he] at e2
 have e2 : R (n+6) J5 [iv 1,.agg (usr e).toArray] X1=some (iv 0,X2):=e2
 have c2:=k2 _ _ c1
 have q1 : bop .int .neq (iv 0) (.int .i64 0) X2=some (.bool false,X2):=by rw [Zo];rfl
 have a0 : ld1 (pa w 0) X2=some (strv e.1,X2):=Qe c2 rfl
 have a1 : ld1 (pa w 1) X2=some (strv e.2,X2):=Qe c2 rfl
 have w2:=(h.hle k1).hle k2
 obtain ⟨X3,q3,e3,w3,s3⟩:=Zfm (n:=n+3) (s:=e.1) (by omega) (by omega) w2
 have e3 : R (n+6) QE [pt p,strv e.1] X2=_:=e3
 have b1 : ld1 (pa w 1) X3=some (strv e.2,X3):=Qe (s3.get c2 hne) rfl
 obtain ⟨X4,q4,e4,w4,s4⟩:=Zfm (n:=n+3) (s:=e.2) (by omega) (by rw [List.length_append,Zay];omega) w3
 have e4 : R (n+6) QE [pt p,strv e.2] X3=_:=e4
 have q2 : bop .int .eql (iv 1) (.int .i64 2) X4=some (.bool false,X4):=by rw [ZG];rfl
 rw [List.append_assoc] at w4
 refine ⟨X4,q4,?_,w4,((k1.trans k2).step.more (by simp) (fun j hj=>.inl hj)).trans (s3.trans s4)⟩
 rw [R,Zlu rfl]
 unfold Zgf
 rw [Za e1,Za d1,Za e2,Za q1,Zb,if_neg (by simp),Za Zj,Za a0,Za Zj,Za a1,Za e3,Za b1,Jd,Za e4,Za q2]
 refine (QZ (vs:=[]) (H':=X4) ?_).trans ?_
 ·rw [Zb,if_neg (by simp)];rfl
 ·rfl
theorem Jf.users (hr : Jf 5 H v (m.map usr) q) : Users H v (m.map Kg):=
 ⟨by have h:=hr.rd;rw [List.map_map];exact h,fun u hu=>by obtain ⟨e,_,rfl⟩:=List.mem_map.1 hu;exact Zkl e H⟩
theorem Zvg (hA : m.length≤1000) (hE : ∀ e∈m,Ks e=0) : ∀ (t k : Nat) (bs : List UInt8) (own : List Nat) (X : Zd),m.length - k=t→k≤m.length→Jf 5 X v (m.map usr) q→(∀ j∈q,j∉p :: own)→bs.length+t * 28≤100000→Wtr X p bs own→
  ∃ X' own',Zh (c4 (KN.l1 (R (n+7)))) [pt p,v,iv m.length,iv k] X=some (.ext 0 [pt p],X')∧Wtr X' p (bs++ZhV (m.drop k)) own'∧Zr (p :: own) X (p :: own') X'
 | 0,k,bs,own,X,ht,hk,hr,hd,hb,h=>by
  have : k=m.length:=by omega
  subst this
  rw [List.drop_length]
  refine ⟨X,own,ZV ?_,by simpa [ZhV] using h,.refl _ _⟩
  rw [ZH]
  unfold KN.l1
  rw [Za Zk,Zb,if_neg (by simp)]
  rfl
 | t+1,k,bs,own,X,ht,hk,hr,hd,hb,h=>by
  have hkl : k < m.length:=by omega
  have hlt : (k : Int) < m.length:=by omega
  have hg:=List.getElem?_eq_getElem hkl
  have hdr:=List.drop_eq_getElem_cons hkl
  generalize m[k]=e at hg hdr
  have he:=hE e (List.mem_of_getElem? hg)
  have hrow : (m.map Kg)[k]?=some (Kg e):=by rw [List.getElem?_map,hg];rfl
  have hf:=fun {K : Value→M Out}=>(hr.users).fetch (k:=K) hrow
  have k1 : HLe X (X++[Zg.cells (usr e) 1 false false]):=.app _ _
  have c1 : (X++[Zg.cells (usr e) 1 false false])[X.length]?=some (.cells (usr e) 1 false false):=ZB
  change ∀ {K : Value→M Out},_=K _ (X++[Zg.cells (usr e) 1 false false]) at hf
  generalize X++[Zg.cells (usr e) 1 false false]=X1 at k1 c1 hf
  have d1 : ldA 5 (pt X.length) X1=some (.agg (usr e).toArray,X1):=Jz (n:=5) c1 rfl
  obtain ⟨X2,own2,e2,w2,s2⟩:=ZyF (n:=n) he (by omega) (h.hle k1)
  have hel:=Zrq he
  have s12:=(k1.step.more (o2:=p :: own) (o2':=p :: own) (by simp) (fun j hj=>.inl hj)).trans s2
  have hr2:=hr.step s12 hd
  have hd2 : ∀ j∈q,j∉p :: own2:=fun j hj hm=>by
   rcases s12.own j hm with h1 | h1
   ·exact hd j hj h1
   ·have:=hr.lt j hj;omega
  obtain ⟨X3,own3,e3,w3,s3⟩:=Zvg hA hE t (k+1) (bs++ZrF e) own2 X2 (by omega) (by omega) hr2 hd2 (by rw [List.length_append];omega) w2
  refine ⟨X3,own3,(ZI ?_).trans e3,?_,s12.trans s3⟩
  ·rw [ZH]
   unfold KN.l1
   rw [Za Zk,Zb,if_pos (by simpa using hlt)]
   rw [hf,Za d1,Za e2,Za ZC,Q5 (by omega)]
   rfl
  ·rw [hdr]
   unfold ZhV at w3 ⊢
   rw [List.map_cons,List.flatten_cons,← List.append_assoc]
   exact w3
theorem Zk9 (h : Dir H d b m) (hE : ∀ e∈Q9 m,Ks e=0) (hl : (Q9 m).length=m.length) : ∃ v H',R (n+8) W8 [pt d] H=some (v,H')∧Sl H' v (u8s (Zty (Q9 m)))∧HLe H H':=by
 have q0 : bop .ptr .eql (pt d) (.pointer none) H=some (.bool false,H):=Ja
 obtain ⟨z1,z2,w0⟩:=Zs3 (H:=H)
 have k0 : HLe H (H++[Zg.cells [.slice none 0 0] 1 false false]):=.app _ _
 have hp0 : H.length≤H.length:=Nat.le_refl _
 generalize H++[Zg.cells [.slice none 0 0] 1 false false]=X0 at z2 w0 k0
 generalize hpp : H.length=p at z2 w0
 have hp : ∀ j∈[p],H.length≤j:=fun j hj=>by have : j=p:=(by simpa using hj);omega
 have hfew:=h.few
 obtain ⟨X1,q1,e1,w1,s1⟩:=ZoO (n:=n+5) (x:=1) (by omega) (by simp) w0
 have e1 : R (n+7) QR [pt p,.int .u8 1] X0=_:=e1
 have m1:=k0.more s1 hp
 have e2:=Zy8 (n:=n+6) (h.hle m1.1)
 have e2 : R (n+7) Za3 [pt d] X1=some (iv m.length,X1):=e2
 have c2 : cvi .u16 (iv m.length) X1=some (.int .u16 m.length,X1):=by rw [Qj,ZrY,Int.emod_eq_of_lt (by omega) (by omega)]
 obtain ⟨X2,q2,e3,w2,s2⟩:=Zmq (n:=n+5) (x:=m.length) (by omega) (by simp [le]) w1
 have e3 : R (n+7) Ju [pt p,.int .u16 m.length] X1=_:=e3
 have m2:=m1.1.more s2 m1.2
 obtain ⟨av,qa,X3,e4,r4,l4,o4⟩:=ZrL (n:=n+4) (h.hle m2.1)
 have e4 : R (n+7) KA [pt d] X2=_:=e4
 have w3:=w2.hle l4
 have hlen:=r4.rd.len (H':=X3)
 rw [List.length_map] at hlen
 have hlb : ([]++le 1 1++le m.length 2 : List UInt8).length=3:=by simp [le]
 obtain ⟨X4,q4,e5,w4,s4⟩:=Zvg (n:=n) (m:=Q9 m) (by omega) hE (Q9 m).length 0 ([]++le 1 1++le m.length 2) q2 X3 (by omega) (by omega) r4 (fun j hj hm=>by have:=o4 j hj;have:=w2.lt j hm;omega) (by rw [hlb];omega) w3
 have e5 : Zh (c4 (KN.l1 (R (n+7)))) [pt p,av,iv (Q9 m).length,.int .i64 0] X3=_:=e5
 rw [List.drop_zero] at w4
 have hbl : ([]++le 1 1++le m.length 2++ZhV (Q9 m) : List UInt8).length≤1000000000:=by
  have : ∀ (l : List Ent),(∀ e∈l,Ks e=0)→(ZhV l).length≤l.length * 28:=by
   intro l
   induction l with
   | nil=>intro _;exact Nat.zero_le _
   | cons a l ih=>
    intro hh
    have h1:=Zrq (hh a (by simp))
    have h2:=ih fun e he=>hh e (by simp [he])
    unfold ZhV at h2 ⊢
    rw [List.map_cons,List.flatten_cons,List.length_append,List.length_cons];omega
  have:=this _ hE
  rw [List.length_append,hlb];omega
 have m4:=(m2.1.trans l4).more s4 m2.2
 obtain ⟨v,qv,X5,e6,r6,l6,o6⟩:=Zrn (n:=n+5) hbl w4
 have e6 : R (n+7) Yn [pt p] X4=_:=e6
 refine ⟨v,X5,?_,?_,m4.1.trans l6⟩
 ·rw [R,ZpW rfl]
  unfold KN
  rw [Za q0,Zb,if_neg (by simp),Za z1,Za z2,Za e1,Za e2,Za c2,Za e3,Za e4,Za hlen,Qh e5,ZE,JV,Za e6]
  rfl
 ·have:=r6.rd
  unfold Zty
  rw [hl]
  simpa [List.append_assoc] using this
end
end Go.Proofs.YtedkoimihknggaaGreatDoor.A
namespace Go.Proofs.YtedkoimihknggaaGreatDoor.A
set_option linter.unusedVariables false
set_option linter.unusedSimpArgs false
open Go.Proofs Go.Proofs.YtedkoimihknggaaGreatDoor
def Zqn (u : Ent) (r : RSt) : Ent × RSt:=
 let r':=if r.1=0 then Ze9 (Ks u) r else r
 (if r'.1=0 then u else ([],[]),r')
def ZcY (s : RSt) : Ent × RSt:=Zqn ((Zcb 65535 s).1,(Zcb 65535 (Zcb 65535 s).2).1) (Zcb 65535 (Zcb 65535 s).2).2
def Zcd : Nat→RSt→List Ent × RSt
 | 0,s=>([],s)
 | k+1,s=>((ZcY s).1 :: (Zcd k (ZcY s).2).1,(Zcd k (ZcY s).2).2)
def ofN (l : List Ent) : Nat:=(ofE (l.map Kg)).toNat
def ZbE (bs : List UInt8) : Nat × List Ent:=
 let b:=Wo 1 (0,bs)
 if b.2.1=0∧b.1≠1 then (6,[]) else
 let c:=Wo 2 b.2
 let q:=if c.1 > 12 then ([],Ze9 7 c.2) else Zcd c.1 c.2
 if q.2.1≠0 then (q.2.1,[]) else
 let e:=if ofN q.1=0 then ZeB q.2 else ofN q.1
 if e≠0 then (e,[]) else (0,q.1)
theorem Zx7 (e : Ent) : Ks e≤10:=by
 unfold Ks
 split
 ·split <;> omega
 ·omega
theorem Zpt : ∀ {l : List Ent},0≤Za0 (l.map Kg)
 | []=>Int.le_refl _
 | e :: l=>by
  rw [List.map_cons]
  unfold Za0
  split
  ·exact Zpt
  ·rw [Zgh];omega
theorem ZyH {l : List Ent} : 0≤ofE (l.map Kg):=by
 unfold ofE
 have:=Zpt (l:=l)
 split
 ·split
  ·split <;> decide
  ·decide
 ·exact this
theorem ZqY (k : Nat) : ((k : Int)==0)=(k==0):=by rw [Bool.eq_iff_iff];simp
theorem ZqL (k : Nat) : ((k : Int) !=0)=(k !=0):=by rw [Bool.eq_iff_iff];simp
theorem Zw5 (l : List Ent) : ofE (l.map Kg)=ofN l:=(Int.toNat_of_nonneg ZyH).symm
section
variable {H X : Zd} {n p d b : Nat} {sl x v : Value} {own q : List Nat} {bs : List UInt8} {m : List Ent} {e : Ent} {s : RSt}
theorem Zzm (h : Rdr H p s) : ∃ H',R (n+7) ZcC [pt p,iv 1] H=some (.agg (usr (ZcY s).1).toArray,H')∧Rdr H' p (ZcY s).2∧Zr [p] H [p] H':=by
 have z0 : alc 1 (.agg #[.string ⟨#[]⟩,.string ⟨#[]⟩,.string ⟨#[]⟩,.bool false,.slice none 0 0]) H=some (pt H.length,H++[.cells (usr ([],[])) 1 false false]):=Zd0 (vs:=usr ([],[])) rfl
 have k0 : HLe H (H++[.cells (usr ([],[])) 1 false false]):=.app _ _
 have c0 : (H++[Zg.cells (usr ([],[])) 1 false false])[H.length]?=some (.cells (usr ([],[])) 1 false false):=ZB
 have hlt:=h.lt
 have hn0 : H.length≠p:=by omega
 generalize H++[Zg.cells (usr ([],[])) 1 false false]=X0 at z0 k0 c0
 have hlt4 : p < H.length:=hlt
 generalize hal : H.length=a at z0 c0 hn0 hlt4
 have q1 : bop .int .neq (iv 1) (.int .i64 1) X0=some (.bool false,X0):=by rw [Zo];rfl
 obtain ⟨X1,e1,r1,s1⟩:=ZuN (n:=n) (most:=65535) (by omega) (h.hle k0)
 have e1 : R (n+6) JE [pt p,.int .i64 65535] X0=_:=e1
 obtain ⟨X2,e2,r2,s2⟩:=ZuN (n:=n) (most:=65535) (by omega) r1
 have e2 : R (n+6) JE [pt p,.int .i64 65535] X1=_:=e2
 have c2:=(s1.trans s2).get c0 (by simpa using hn0)
 unfold ZcY
 generalize (Zcb 65535 (Zcb 65535 s).2).2=r at r2 e2
 generalize (Zcb 65535 (Zcb 65535 s).2).1=hs at e2
 generalize (Zcb 65535 s).1=nm at e1
 have z3:=Zn6 (k:=nm) (s:=hs) (H:=X2)
 generalize hu : ((nm,hs) : Ent)=u at z3
 have z4 : alc 1 (.agg #[.string ⟨#[]⟩,.string ⟨#[]⟩,.string ⟨#[]⟩,.bool false,.slice none 0 0]) X2=some (pt X2.length,X2++[.cells (usr ([],[])) 1 false false]):=Zd0 (vs:=usr ([],[])) rfl
 have k3 : HLe X2 (X2++[.cells (usr u) 1 false false]):=.app _ _
 have c3 : (X2++[Zg.cells (usr u) 1 false false])[X2.length]?=some (.cells (usr u) 1 false false):=ZB
 have w3 : stA 5 (pt X2.length) (.agg (usr u).toArray) (X2++[.cells (usr ([],[])) 1 false false])=some (undef,X2++[.cells (usr u) 1 false false]):=by
  have:=Zb5 (vs:=usr u) (n:=5) (H:=X2++[Zg.cells (usr ([],[])) 1 false false]) (id:=X2.length) (cs:=usr ([],[])) (es:=1) (g:=false) ZB rfl rfl rfl
  rw [this];simp
 have hn3 : X2.length≠p:=by have:=r2.lt;omega
 generalize X2++[Zg.cells (usr u) 1 false false]=X3 at k3 c3 w3
 generalize X2.length=c at z4 c3 w3 hn3
 have r3:=r2.hle k3
 have c03:=k3 _ _ c2
 have q2 : bop .int .eql (iv 1) (.int .i64 2) X3=some (.bool false,X3):=by rw [ZG];rfl
 have s03 : Zr [p] H [p] X3:=((k0.step.more (o2:=[p]) (o2':=[p]) (by simp) (fun j hj=>.inl hj)).trans (s1.trans s2)).trans (k3.step.more (by simp) (fun j hj=>.inl hj))
 have f1 : ∀ v H',Zgc (R (n+6)) (pt p) (iv 1) H=some (v,H')→R (n+7) ZcC [pt p,iv 1] H=some (v,H'):=fun v H' hr=>by rw [R,ZrZ rfl];exact hr
 have e4:=Zp5 (n:=n+5) r3
 have e4 : R (n+6) Qf [pt p] X3=some (iv r.1,X3):=e4
 have hC : ∃ X4,(cnd (Value.bool (r.1==0)) (bind (ldA 5 (pt c)) fun v36=>bind (R (n+6) J5 [iv 1,v36]) fun v37=>bind (R (n+6) ZX [pt p,v37]) fun v38=>ret (Out.nrm [pt p,pt a,pt c])) (ret (Out.nrm [pt p,pt a,pt c]))) X3=some (Out.nrm [pt p,pt a,pt c],X4)∧Rdr X4 p (if r.1=0 then Ze9 (Ks u) r else r)∧Zr [p] X3 [p] X4:=by
  by_cases h0 : r.1=0
  ·have d3 : ldA 5 (pt c) X3=some (.agg (usr u).toArray,X3):=Jz (n:=5) c3 rfl
   obtain ⟨X4,e5,k5⟩:=ZgJ (n:=n) (Zkl u X3)
   rw [Zgh] at e5
   have e5 : R (n+6) J5 [iv 1,.agg (usr u).toArray] X3=some (iv (Ks u),X4):=e5
   obtain ⟨X5,e6,r6,s6⟩:=Zms (n:=n+5) (e:=Ks u) (by have:=Zx7 u;omega) (r3.hle k5)
   have e6 : R (n+6) ZX [pt p,iv (Ks u)] X4=_:=e6
   rw [if_pos h0]
   refine ⟨X5,?_,r6,(k5.step.more (by simp) (fun j hj=>.inl hj)).trans s6⟩
   rw [Zb,if_pos (by simp [h0]),Za d3,Za e5,Za e6]
   rfl
  ·rw [if_neg h0]
   refine ⟨X3,?_,r3,.refl _ _⟩
   rw [Zb,if_neg (by simp [h0])]
   rfl
 obtain ⟨X4,e5,r4,s4⟩:=hC
 have e6:=Zp5 (n:=n+5) r4
 have e6 : R (n+6) Qf [pt p] X4=_:=e6
 have c34:=s4.get c3 (by simpa using hn3)
 have c04:=s4.get c03 (by simpa using hn0)
 have d4 : ldA 5 (pt c) X4=some (.agg (usr u).toArray,X4):=Jz (n:=5) c34 rfl
 have q3 : bop .int .eql (iv r.1) (.int .i64 0) X3=some (.bool (r.1==0),X3):=by
  rw [ZG,ZqY]
 generalize hr' : (if r.1=0 then Ze9 (Ks u) r else r)=r' at r4 e6
 have hw : ∀ u' : Ent,stA 5 (pt a) (.agg (usr u').toArray) X4=some (undef,X4.set a (.cells (usr u') 1 false false)):=fun u'=>Zb5 (vs:=usr u') (n:=5) c04 rfl rfl rfl
 have hd : ∀ u' : Ent,ldA 5 (pt a) (X4.set a (.cells (usr u') 1 false false))=some (.agg (usr u').toArray,X4.set a (.cells (usr u') 1 false false)):=fun u'=>Jz (n:=5) (Qv c04) rfl
 have s4p : Zr [p] H [p] X4:=s03.trans s4
 have hT : ∀ u' : Ent,Zr [p] H [p] (X4.set a (.cells (usr u') 1 false false)):=fun u'=>⟨by rw [List.length_set];exact s4p.len,fun j hj hm=>by rw [List.getElem?_set_ne (by omega),s4p.keep j hj hm],fun j hj=>.inl hj⟩
 have hF : ∀ (u' : Ent),(Zqn u r).1=u'→(cnd (Value.bool (r'.1 !=0)) (bind (bld (.agg #[.string ⟨#[]⟩,.string ⟨#[]⟩,.string ⟨#[]⟩,.bool false,.slice none 0 0]) []) fun v42=>bind (stA 5 (pt a) v42) fun _=>bind (ldA 5 (pt a)) fun vr=>ret vr) (bind (ldA 5 (pt c)) fun v43=>bind (stA 5 (pt a) v43) fun _=>bind (ldA 5 (pt a)) fun vr=>ret vr)) X4=some (.agg (usr u').toArray,X4.set a (.cells (usr u') 1 false false)):=fun u' h'=>by
  unfold Zqn at h'
  rw [hr'] at h'
  have h' : (if r'.1=0 then u else ([],[]))=u':=h'
  have zb : bld (.agg #[.string ⟨#[]⟩,.string ⟨#[]⟩,.string ⟨#[]⟩,.bool false,.slice none 0 0]) [] X4=some (.agg (usr ([],[])).toArray,X4):=rfl
  by_cases h0 : r'.1=0
  ·rw [if_pos h0] at h'
   subst h'
   rw [Zb,if_neg (by simp [h0]),Za d4,Za (hw u),Za (hd u)]
   rfl
  ·rw [if_neg h0] at h'
   subst h'
   rw [Zb,if_pos (by simp [h0]),Za zb,Za (hw ([],[])),Za (hd ([],[]))]
   rfl
 have hr2 : (Zqn u r).2=r':=hr'
 have q4 : bop .int .neq (iv r'.1) (.int .i64 0) X4=some (.bool (r'.1 !=0),X4):=by
  rw [Zo,ZqL]
 refine ⟨X4.set a (.cells (usr (Zqn u r).1) 1 false false),f1 _ _ ?_,by rw [hr2];exact r4.other hlt4,hT _⟩
 unfold Zgc
 rw [Za z0,Za q1,Za (g_r.trans (if_neg (by simp)))]
 simp only [List.replicate]
 rw [Qd,Za Zn]
 simp only [cond_false]
 rw [Zb,if_neg (by simp),Za e1,Za e2,Za z3,Za z4,Za w3,Za q2]
 refine (QZ (vs:=[pt p,iv 1,pt a,pt c]) (H':=X3) ?_).trans ?_
 ·rw [Zb,if_neg (by simp)];rfl
 ·rw [ZH,Za e4,Za q3]
  refine (QZ e5).trans ?_
  rw [Z4,Za e6,Za q4]
  exact hF _ rfl
theorem Rdr.step {o1 o2 : List Nat} (h : Rdr H p s) (hs : Zr o1 H o2 X) (hn : ∀ j∈o1,p < j) : Rdr X p s:=by
 obtain ⟨sl,h1,h2,h3,h4⟩:=h
 refine ⟨sl,hs.get h1 fun hm=>Nat.lt_irrefl _ (hn _ hm),h2.keep fun j hj=>hs.keep j ?_ fun hm=>?_,h3,h4⟩
 ·have:=h3 j hj;have:=JS h1;omega
 ·have:=h3 j hj;have:=hn j hm;omega
theorem Ztn {N : Nat} (hN : N≤1000) : ∀ (t k : Nat) (l : List Ent) (s : RSt) (sl : Value) (q : List Nat) (X : Zd),N - k=t→k≤N→l.length≤k→Jf 5 X sl (l.map usr) q→(∀ j∈q,p < j)→Rdr X p s→
  ∃ X' sl' q',Zh (c4 (Km.l1 (R (n+7)))) [pt p,sl,iv N,iv k] X=some (.ext 0 [pt p,sl'],X')∧Jf 5 X' sl' ((l++(Zcd t s).1).map usr) q'∧Rdr X' p (Zcd t s).2∧(∀ j∈q',p < j)∧Zr (p :: q) X (p :: q') X'
 | 0,k,l,s,sl,q,X,ht,hk,hl,hr,hq,h=>by
  have : k=N:=by omega
  subst this
  refine ⟨X,sl,q,ZV ?_,by simpa [Zcd] using hr,h,hq,.refl _ _⟩
  rw [ZH]
  unfold Km.l1
  rw [Za Zk,Zb,if_neg (by simp)]
  rfl
 | t+1,k,l,s,sl,q,X,ht,hk,hl,hr,hq,h=>by
  have hlt : (k : Int) < N:=by omega
  obtain ⟨X1,e1,r1,s1⟩:=Zzm (n:=n) h
  have hr1:=hr.step s1 (fun j hj hm=>by have : j=p:=(by simpa using hm);have:=hq j hj;omega)
  have hpx:=r1.lt
  have x4:=Zqf (es:=5) (z:=.agg #[.string ⟨#[]⟩,.string ⟨#[]⟩,.string ⟨#[]⟩,.bool false,.slice none 0 0]) (H:=X1) rfl (Zfn (ZcY s).1) (Zte _)
  have l1 : HLe X1 (X1++[Zg.cells (usr (ZcY s).1) 5 false false]):=.app _ _
  have s4 : SlN 5 (X1++[Zg.cells (usr (ZcY s).1) 5 false false]) (.slice (some ⟨X1.length,0,none⟩) 1 1) [usr (ZcY s).1]:=SlN.whole (rows:=[usr (ZcY s).1]) (c:=1) (e:=5) (g:=false) (ro:=false) (by rw [ZB];simp) (by simp [Zfn])
  generalize X1++[Zg.cells (usr (ZcY s).1) 5 false false]=X2 at x4 l1 s4
  have hr2 : Jf 5 X2 sl (l.map usr) q:=hr1.keep fun j hj=>l1.step.keep j (hr1.lt j hj) (by simp)
  obtain ⟨sl',X3,q',x5,hr3,s3⟩:=hr2.push (b:=80) s4 (Zfn _) (by simp;omega) (by simp;omega)
  rw [← List.map_singleton (f:=usr),← List.map_append] at hr3
  have hq3 : ∀ j∈q',p < j:=fun j hj=>by
   rcases s3.own j hj with h1 | h1
   ·exact hq j h1
   ·have:=l1.len;omega
  have r3:=(r1.hle l1).step s3 hq
  obtain ⟨X4,sl4,q4,e4,hr4,r4,hq4,s5⟩:=Ztn hN t (k+1) (l++[(ZcY s).1]) (ZcY s).2 sl' q' X3 (by omega) (by omega) (by rw [List.length_append,List.length_singleton];omega) hr3 hq3 r3
  have s13 : Zr (p :: q) X (p :: q') X3:=(s1.more (o2:=p :: q) (o2':=p :: q) (by simp) (fun j hj=>.inl hj)).trans ((l1.step.more (o2:=p :: q) (o2':=p :: q) (by simp) (fun j hj=>.inl hj)).trans (s3.more (o2:=p :: q) (o2':=p :: q') (by simp+contextual) (fun j hj=>by
   rcases List.mem_cons.1 hj with rfl | hj
   ·exact .inl (by simp)
   ·exact .inr (.inl hj))))
  refine ⟨X4,sl4,q4,(ZI ?_).trans e4,?_,r4,hq4,s13.trans s5⟩
  ·rw [ZH]
   unfold Km.l1
   rw [Za Zk,Zb,if_pos (by simpa using hlt),Za e1,Za x4,Za x5,Za ZC,Q5 (by omega)]
   rfl
  ·rw [List.append_assoc] at hr4
   exact hr4
theorem ZzA {l : List Ent} (h : ofN l=0) : (∀ e∈l,Ks e=0)∧l.length≤12:=by
 have h : ofE (l.map Kg)=0:=by rw [Zw5,h];rfl
 unfold ofE at h
 by_cases h1 : Za0 (l.map Kg)=0
 ·rw [if_pos h1] at h
  refine ⟨fun e he=>?_,?_⟩
  ·have:=ZlF h1 (Kg e) (List.mem_map.2 ⟨e,he,rfl⟩)
   rw [Zgh] at this
   omega
  ·by_cases h2 : Zem none (l.map Kg)=true
   ·rw [if_pos h2] at h
    by_cases h3 : 12 < (l.map Kg).length
    ·rw [if_pos h3] at h;exact absurd h (by decide)
    ·rw [List.length_map] at h3;omega
   ·rw [if_neg h2] at h;exact absurd h (by decide)
 ·rw [if_neg h1] at h;exact absurd h h1
theorem Zvy {l : Qo} (hn : (l.map (·.1)).Nodup) (hR : ZfP l) : Q9 l=l:=by
 refine ZvQ (ZmO hn) hR fun x=>?_
 rw [Zgi hn]
 exact ⟨fun h=>KK h,fun h=>Zaa hn h⟩
theorem ZpD (l : List Ent) : (l.map Kg).map Zfd=l:=by
 rw [List.map_map];exact (List.map_congr_left fun a _=>rfl).trans (List.map_id l)
theorem Zun {sv : Value} (hs : Sl H sv (u8s bs)) (hb : bs.length≤100000000) : ∃ dv H',R (n+8) ZaQ [sv] H=some (.tuple #[dv,iv (ZbE bs).1],H')∧HLe H H'∧
  ((ZbE bs).1≠0→dv=.pointer none)∧((ZbE bs).1=0→∃ d b,dv=pt d∧Dir H' d b (ZbE bs).2∧ZfP (ZbE bs).2∧ofN (ZbE bs).2=0):=by
 obtain ⟨p,X0,e0,r0,k0,o0⟩:=Ztu (n:=n+5) hs (by omega)
 have e0 : R (n+7) ZcF [sv] H=_:=e0
 obtain ⟨X1,e1,r1,s1⟩:=ZyP (n:=n+3) r0
 have e1 : R (n+7) Yz [pt p] X0=_:=e1
 have e2:=Zp5 (n:=n+6) r1
 have e2 : R (n+7) Qf [pt p] X1=_:=e2
 have hop : ∀ j∈[p],H.length≤j:=fun j hj=>by have : j=p:=(by simpa using hj);omega
 have m1:=k0.more s1 hop
 have f1 : ∀ v H',Km (R (n+7)) sv H=some (v,H')→R (n+8) ZaQ [sv] H=some (v,H'):=fun v H' hr=>by rw [R,ZrQ rfl];exact hr
 unfold ZbE
 generalize Wo 1 (0,bs)=B at r1 e1 e2
 obtain ⟨bv,bst⟩:=B
 have e1 : R (n+7) Yz [pt p] X0=some (.int .u8 bv,X1):=e1
 have e2 : R (n+7) Qf [pt p] X1=some (iv bst.1,X1):=e2
 simp only []
 have q1 : bop .int .eql (iv bst.1) (.int .i64 0) X1=some (.bool (bst.1==0),X1):=by rw [ZG,ZqY]
 have hgate : ∀ K : Value→M Value,bind (ZD (Value.bool (bst.1==0)) true 2 (bind (bop .int .neq (.int .u8 bv) (Value.int .u8 1)) fun v20=>ret [.int .u8 bv,v20])) (c2 fun _ q6=>bind (pick (Value.bool (bst.1==0)) q6 (Value.bool false)) K) X1=K (.bool (decide (bst.1=0∧bv≠1))) X1:=fun K=>by
  by_cases h0 : bst.1=0
  ·have q2 : bop .int .neq (.int .u8 bv) (Value.int .u8 1) X1=some (.bool (decide (bv≠1)),X1):=by
    rw [Zo,show ((bv : Int) !=1)=decide (bv≠1) from by rw [Bool.eq_iff_iff,decide_eq_true_eq,bne_iff_ne];omega]
   rw [show (bst.1==0)=true from by simp [h0],Qq,Zs,Za q2,Qz,Qd,Za Zn]
   simp [h0]
  ·rw [show (bst.1==0)=false from by simp [h0],Za (g_r.trans (if_neg (by simp)))]
   simp only [List.replicate]
   rw [Qd,Za Zn]
   simp [h0]
 by_cases hv : bst.1=0∧bv≠1
 ·rw [if_pos hv]
  refine ⟨.pointer none,X1,f1 _ _ ?_,m1.1,fun _=>rfl,fun h=>by cases h⟩
  unfold Km
  rw [Za e0,Za e1,Za e2,Za q1]
  refine (hgate _).trans ?_
  rw [decide_eq_true hv,Zb,if_pos rfl]
  rfl
 rw [if_neg hv]
 obtain ⟨X2,e3,r2,s2⟩:=Zw1 (n:=n+3) r1
 have e3 : R (n+7) Yl [pt p] X1=_:=e3
 have m2:=m1.1.more s2 m1.2
 have hcl:=ZgO (k:=2) (s:=bst)
 generalize Wo 2 bst=C at r2 e3 hcl
 obtain ⟨cv,cst⟩:=C
 have e3 : R (n+7) Yl [pt p] X1=some (.int .u16 cv,X2):=e3
 have hcl : cv < 65536:=hcl
 have r2 : Rdr X2 p cst:=r2
 simp only []
 have c3 : cvi .i64 (.int .u16 cv) X2=some (iv cv,X2):=by rw [Qj,w64 (by omega) (by omega)]
 have q3 : bop .int .gtr (iv cv) (.int .i64 12) X2=some (.bool (decide (cv > 12)),X2):=by
  rw [ZT,show decide ((cv : Int) > 12)=decide (cv > 12) from by rw [decide_eq_decide];omega]
 have hN : ∃ X3 N st,(cnd (Value.bool (decide (cv > 12))) (bind (R (n+7) ZX [pt p,(Value.int .i64 7)]) fun v28=>ret (Out.nrm [pt p,(Value.int .i64 0)])) (ret (Out.nrm [pt p,iv cv]))) X2=some (Out.nrm [pt p,iv (N : Nat)],X3)∧N≤12∧Rdr X3 p st∧Zr [p] X2 [p] X3∧(if cv > 12 then (([] : List Ent),Ze9 7 cst) else Zcd cv cst)=Zcd N st:=by
  by_cases h12 : cv > 12
  ·obtain ⟨X3,e4,r3,s3⟩:=Zms (n:=n+6) (e:=7) (by omega) r2
   have e4 : R (n+7) ZX [pt p,.int .i64 7] X2=_:=e4
   refine ⟨X3,0,_,?_,by omega,r3,s3,if_pos h12⟩
   rw [decide_eq_true h12,Zb,if_pos rfl,Za e4]
   rfl
  ·refine ⟨X2,cv,cst,?_,by omega,r2,.refl _ _,if_neg h12⟩
   rw [decide_eq_false h12,Zb,if_neg (by simp)]
   rfl
 obtain ⟨X3,N,st,e4,hN,r3,s3,hq⟩:=hN
 rw [hq]
 have m3:=m2.1.more s3 m2.2
 obtain ⟨X4,lv,ql,e5,hr4,r4,hql,s4⟩:=Ztn (n:=n) (N:=N) (by omega) N 0 [] st (.slice none 0 0) [] X3 (by omega) (by omega) (Nat.zero_le _) Jf.nil (by simp) r3
 have e5 : Zh (c4 (Km.l1 (R (n+7)))) [pt p,.slice none 0 0,iv N,.int .i64 0] X3=_:=e5
 rw [List.nil_append] at hr4
 have m4:=m3.1.more s4 m3.2
 have hll : (Zcd N st).1.length=N:=by
  have : ∀ (k : Nat) (s : RSt),(Zcd k s).1.length=k:=by
   intro k
   induction k with
   | zero=>intro s;rfl
   | succ k ih=>intro s;unfold Zcd;rw [List.length_cons,ih]
  exact this _ _
 generalize Zcd N st=G at hr4 r4 hll
 obtain ⟨gl,gs⟩:=G
 have hr4 : Jf 5 X4 lv (gl.map usr) ql:=hr4
 have r4 : Rdr X4 p gs:=r4
 have hll : gl.length=N:=hll
 simp only []
 have e6:=Zp5 (n:=n+6) r4
 have e6 : R (n+7) Qf [pt p] X4=some (iv gs.1,X4):=e6
 have q4 : bop .int .neq (iv gs.1) (.int .i64 0) X4=some (.bool (gs.1 !=0),X4):=by rw [Zo,ZqL]
 have hrun : ∀ v H',(bind (R (n+7) Qf [pt p]) fun v39x20=>
 bind (bop .int .neq v39x20 (Value.int .i64 0)) fun v41x21=>
 cnd v41x21
 (ret (Value.tuple #[(Value.pointer none),v39x20]))
 (bind (R (n+7) ZcI [lv]) fun v45x22=>
 bind (Zq v45x22 0) fun v46x23=>
 bind (Zq v45x22 1) fun v47x24=>
 bind (bop .int .eql v47x24 (Value.int .i64 0)) fun v49x25=>
 jn (cnd v49x25
 (bind (R (n+7) YY [pt p]) fun v51x26=>
 ret (.nrm [v46x23,v51x26]))
 (ret (.nrm [v46x23,v47x24]))) (c2 fun q27_0 q27_1=>
 bind (bop .int .neq q27_1 (Value.int .i64 0)) fun v53x28=>
 cnd v53x28
 (ret (Value.tuple #[(Value.pointer none),q27_1]))
 (ret (Value.tuple #[q27_0,(Value.int .i64 0)]))) noX ret)) X4=some (v,H')→R (n+8) ZaQ [sv] H=some (v,H'):=fun v H' hr=>by
  refine f1 _ _ ?_
  unfold Km
  rw [Za e0,Za e1,Za e2,Za q1]
  refine (hgate _).trans ?_
  rw [decide_eq_false hv,Zb,if_neg (by simp),Za e3,Za c3,Za q3]
  refine (QZ e4).trans ?_
  rw [Qd,Qh e5,ZE,Qd]
  exact hr
 by_cases hg0 : gs.1=0
 ·rw [if_neg (by simp [hg0])]
  obtain ⟨X5,dv,e7,k5,hz,hok⟩:=Zzg (n:=n) (by rw [List.length_map];omega) hr4.users
  rw [Zw5] at e7 hz hok
  have q5 : bop .int .eql (iv (ofN gl)) (.int .i64 0) X5=some (.bool (ofN gl==0),X5):=by rw [ZG,ZqY]
  have r5:=r4.hle k5
  by_cases ho : ofN gl=0
  ·obtain ⟨d,b,rfl,D5,hR,_,_⟩:=hok (by rw [ho];rfl)
   rw [ZpD] at D5 hR
   have e8:=Zzh (n:=n+6) r5
   have e8 : R (n+7) YY [pt p] X5=_:=e8
   rw [if_pos ho]
   by_cases he : ZeB gs=0
   ·rw [if_neg (by simp [he])]
    have q6 : bop .int .neq (iv (ZeB gs)) (.int .i64 0) X5=some (.bool false,X5):=by rw [Zo,he];rfl
    refine ⟨pt d,X5,hrun _ _ ?_,m4.1.trans k5,fun h=>absurd rfl h,fun _=>⟨d,b,rfl,D5,hR,ho⟩⟩
    rw [Za e6,Za q4,Zb,if_neg (by simp [hg0]),Za e7,Za ZA,Za Zz,Za q5]
    refine (QZ (vs:=[pt d,iv (ZeB gs)]) (H':=X5) ?_).trans ?_
    ·rw [Zb,if_pos (by simp [ho]),Za e8];rfl
    ·rw [Qd,Za q6,Zb,if_neg (by simp)];rfl
   ·rw [if_pos he]
    have q6 : bop .int .neq (iv (ZeB gs)) (.int .i64 0) X5=some (.bool true,X5):=by rw [Zo];simp [he]
    refine ⟨.pointer none,X5,hrun _ _ ?_,m4.1.trans k5,fun _=>rfl,fun h=>absurd h he⟩
    rw [Za e6,Za q4,Zb,if_neg (by simp [hg0]),Za e7,Za ZA,Za Zz,Za q5]
    refine (QZ (vs:=[pt d,iv (ZeB gs)]) (H':=X5) ?_).trans ?_
    ·rw [Zb,if_pos (by simp [ho]),Za e8];rfl
    ·rw [Qd,Za q6,Zb,if_pos (by simp)];rfl
  ·rw [if_neg ho,if_pos ho]
   have hdv:=hz (by simpa using ho)
   subst hdv
   have q6 : bop .int .neq (iv (ofN gl)) (.int .i64 0) X5=some (.bool true,X5):=by rw [Zo];simp [ho]
   refine ⟨.pointer none,X5,hrun _ _ ?_,m4.1.trans k5,fun _=>rfl,fun h=>absurd h ho⟩
   rw [Za e6,Za q4,Zb,if_neg (by simp [hg0]),Za e7,Za ZA,Za Zz,Za q5]
   refine (QZ (vs:=[.pointer none,iv (ofN gl)]) (H':=X5) ?_).trans ?_
   ·rw [Zb,if_neg (by simp [ho])];rfl
   ·rw [Qd,Za q6,Zb,if_pos (by simp)];rfl
 ·rw [if_pos hg0]
  refine ⟨.pointer none,X4,hrun _ _ ?_,m4.1,fun _=>rfl,fun h=>absurd h hg0⟩
  rw [Za e6,Za q4,Zb,if_pos (by simp [hg0])]
  rfl
end
end Go.Proofs.YtedkoimihknggaaGreatDoor.A
namespace Go.Proofs.YtedkoimihknggaaGreatDoor.A
set_option linter.unusedVariables false
set_option linter.unusedSimpArgs false
open Go.Proofs Go.Proofs.YtedkoimihknggaaGreatDoor
section
variable {H0 H X : Zd} {n p d b : Nat} {u w : Zm} {us ws : List Zm} {sl a c v : Value} {bs : List UInt8} {m : List Ent}
def schemaS (bs : List UInt8) : Nat:=
 match bs with
 | []=>0
 | b :: _=>if b.toNat=1∨b.toNat=2 then b.toNat else 0
theorem ZvU (hs : Sl H sl (u8s bs)) (hb : bs.length≤100000000) : R (n+1) Zbj [sl] H=some (iv (schemaS bs),H):=by
 have hl : Zp sl H=some (iv bs.length,H):=by have:=hs.len (H':=H);rwa [QY] at this
 rw [R,ZnR rfl]
 unfold Zft
 cases bs with
 | nil=>
  rw [Za hl,Za ZT]
  have hz : decide ((([] : List UInt8).length : Int) > 0)=false:=rfl
  rw [hz,Za (g_r.trans (if_neg (by simp)))]
  simp only [List.replicate]
  rw [Q7,Za Yw]
  simp only [List.replicate]
  rw [ZH,Za (g_r.trans (if_neg (by simp)))]
  simp only [List.replicate]
  rw [JV,Za Zn]
  simp only [cond_false]
  rw [Zb,if_neg (by simp)]
  rfl
 | cons x l=>
  have hz : decide (((x :: l).length : Int) > 0)=true:=by rw [decide_eq_true_eq,List.length_cons];omega
  have hk : (u8s (x :: l))[0]?=some (.int .u8 x.toNat):=rfl
  have x1:=hs.ix (i:=0) (by rw [QY];simp) .i64 H
  have x1 : ixa 1 sl (.int .i64 0) H=some (ixp sl 0,H):=x1
  have x2:=hs.ldx hk
  have q1 : bop .int .eql (.int .u8 x.toNat) (.int .u8 1) H=some (.bool (decide (x.toNat=1)),H):=by
   rw [ZG,show ((x.toNat : Int)==1)=decide (x.toNat=1) from by rw [Bool.eq_iff_iff,decide_eq_true_eq,beq_iff_eq];omega]
  have q2 : bop .int .eql (.int .u8 x.toNat) (.int .u8 2) H=some (.bool (decide (x.toNat=2)),H):=by
   rw [ZG,show ((x.toNat : Int)==2)=decide (x.toNat=2) from by rw [Bool.eq_iff_iff,decide_eq_true_eq,beq_iff_eq];omega]
  have hx : x.toNat < 256:=x.toNat_lt
  have c3 : cvi .i64 (.int .u8 x.toNat) H=some (iv x.toNat,H):=by rw [Qj,w64 (by omega) (by omega)]
  rw [Za hl,Za ZT,hz,Qq,Zs,Za x1,Zs,Za x2,Zs,Za q1,Qz,Q7]
  unfold schemaS
  simp only []
  by_cases h1 : x.toNat=1
  ·rw [decide_eq_true h1,Za (g_r.trans (if_neg (by simp)))]
   simp only [List.replicate]
   rw [ZH,Qq,Zs,Za Zn,Qz,JV,Za Zn]
   simp only [cond_true]
   rw [Zb,if_pos rfl,Za x1,Za x2,Za c3,if_pos (.inl h1)]
   rfl
  ·rw [decide_eq_false h1,Qq,Zs,Za x1,Zs,Za x2,Zs,Za q2,Qz,ZH,Qq,Zs,Za Zn,Qz,JV,Za Zn]
   simp only [cond_true,cond_false]
   rw [Zb]
   by_cases h2 : x.toNat=2
   ·rw [if_pos (by simp [h2]),Za x1,Za x2,Za c3,if_pos (.inr h2)]
    rfl
   ·rw [if_neg (by simp [h2]),if_neg (by omega)]
    rfl
end
end Go.Proofs.YtedkoimihknggaaGreatDoor.A

namespace Go.Proofs.YtedkoimihknggaaGreatDoor.A
set_option linter.unusedVariables false
set_option linter.unusedSimpArgs false
open Go.Proofs Go.Proofs.YtedkoimihknggaaGreatDoor
section
variable {H0 H X : Zd} {n p d b : Nat} {a c v : Value} {bs s : List UInt8} {β : Type} {K : Value→M β}
theorem HLe.put {H0 X : Zd} (h : HLe H0 X) {b : Nat} {o : Zg} (hb : H0.length≤b) : HLe H0 (X.set b o):=fun i v hi=>by
 have:=JS hi
 rw [List.getElem?_set_ne (by omega)]
 exact h i v hi
theorem bx {vs : List Value} (h1 : vs.all oneCell=true) : alc 1 (.agg vs.toArray) X=some (pt X.length,X++[.cells vs 1 false false]):=Zd0 h1
theorem ZxB {vs cs : List Value} {es : Nat} (hc : X[p]?=some (.cells cs es false false)) (h2 : cs.length=n) (hv : vs.length=n) (h1 : vs.all oneCell=true) :
  bind (stA n (pt p) (.agg vs.toArray)) (fun _=>bind (ldA n (pt p)) K) X=K (.agg vs.toArray) (X.set p (.cells vs es false false)):=by
 rw [Za (Zb5 hc h2 hv h1),Za (Jz (Qv hc) hv)]
end
end Go.Proofs.YtedkoimihknggaaGreatDoor.A

namespace Go.Proofs.YtedkoimihknggaaGreatDoor.A
set_option linter.unusedVariables false
set_option linter.unusedSimpArgs false
open Go.Proofs Go.Proofs.YtedkoimihknggaaGreatDoor
abbrev RR (s : RSt) : List Value:=[strv s.2,iv s.1]
theorem Zy5 (s : RSt) : (RR s).all oneCell=true:=rfl
section
variable {H0 H X : Zd} {n p d b : Nat} {a c v : Value} {bs : List UInt8} {β : Type} {K : Value→M β} {s : RSt}
end
end Go.Proofs.YtedkoimihknggaaGreatDoor.A

namespace Go.Proofs.YtedkoimihknggaaGreatDoor.A
set_option linter.unusedVariables false
set_option linter.unusedSimpArgs false
open Go.Proofs Go.Proofs.YtedkoimihknggaaGreatDoor
section
variable {H0 H X : Zd} {n p d b : Nat} {a c v : Value} {bs : List UInt8} {s : RSt} {q : List Nat}
theorem Jf.us {m : List Ent} (h : Jf 5 H v (m.map usr) q) : Yy H v (m.map Kg):=h.users.s (fun u hu=>by obtain ⟨e,_,rfl⟩:=List.mem_map.1 hu;exact Nat.zero_le _)
end
end Go.Proofs.YtedkoimihknggaaGreatDoor.A

namespace Go.Proofs.YtedkoimihknggaaGreatDoor.A
set_option linter.unusedVariables false
set_option maxRecDepth 100000
set_option linter.unusedSimpArgs false
open Go.Proofs Go.Proofs.YtedkoimihknggaaGreatDoor
def Zi5 (b : Bool) : List UInt8:=le (if b then 1 else 0) 1
def ZlH (l : List Tx) : List UInt8:=le l.length 2++(l.map txt).flatten
def Zot (k : Wv) : List UInt8:=txt k.1++(txt k.2.1++(txt k.2.2.1++(Zi5 k.2.2.2.1++ZlH k.2.2.2.2)))
def Zes (l : List Wv) : List UInt8:=(l.map Zot).flatten
def Zfq (K : List Tx) (ks : List Wv) : List UInt8:=le 2 1++(ZlH K++(le ks.length 2++Zes ks))
def uOf (k : Wv) : Zm:=⟨k.1,k.2.1,k.2.2.1,k.2.2.2.1,.slice none 0 0,k.2.2.2.2⟩
def Zmb (k : Wv) : Nat:=(Jk (uOf k)).toNat
def ofK (ks : List Wv) (gs : List Tx) : Nat:=(Zan (ks.map uOf) gs).toNat
section
variable {s : RSt} {k : Wv} {ks : List Wv} {l K : List Tx} {r t : List UInt8} {us : List Zm}
theorem ZwK (k : Wv) : Jr (uOf k)=k:=rfl
theorem ZnT (ks : List Wv) : (ks.map uOf).map Jr=ks:=by
 rw [List.map_map]
 exact (List.map_congr_left fun a _=>ZwK a).trans (List.map_id ks)
theorem ZlS {u : Zm} : 0≤Jk u∧Jk u≤12:=by
 unfold Jk Zex
 repeat' split
 all_goals exact ⟨by decide,by decide⟩
theorem Zu7 {u w : Zm} (h : Jr u=Jr w) : Jk u=Jk w:=by
 have h1 : u.nm=w.nm:=congrArg (·.1) h
 have h2 : u.hs=w.hs:=congrArg (·.2.1) h
 have h3 : u.ml=w.ml:=congrArg (·.2.2.1) h
 have h4 : u.gs=w.gs:=congrArg (·.2.2.2.2) h
 unfold Jk
 rw [h1,h2,h3,h4]
theorem Zs1 {u : Zm} : Jk u=Zmb (Jr u):=by
 unfold Zmb
 rw [Int.toNat_of_nonneg ZlS.1]
 exact Zu7 rfl
theorem Zmx : ∀ {us : List Zm},0≤JT us
 | []=>Int.le_refl _
 | u :: us=>by
  unfold JT
  split
  ·exact Zmx
  ·exact ZlS.1
theorem Zv4 {gs : List Tx} {p : List Zm} {u : Zm} : 0≤Zdi gs p u:=by
 unfold Zdi
 repeat' split
 all_goals decide
theorem ZrA {gs : List Tx} : ∀ {us p : List Zm},0≤WL gs p us
 | [],p=>by unfold WL;exact Int.le_refl _
 | u :: us,p=>by
  unfold WL
  split
  ·exact ZrA
  ·exact Zv4
theorem ZxQ : 0≤Zbw us l:=by
 unfold Zbw Zg9
 have:=Zmx (us:=us)
 repeat' split
 all_goals first | exact this | decide
theorem Zrb : 0≤Zan us l:=by
 unfold Zan
 split
 ·exact ZrA
 ·exact ZxQ
theorem ZxU : Zan us l=ofK (us.map Jr) l:=by
 unfold ofK
 rw [Int.toNat_of_nonneg Zrb]
 exact Zwg (ZnT _).symm
theorem Zti {m : Tx} (h : ZbY m=true) : m.length≤20:=by
 rcases Zkd h with h | ⟨h,_⟩
 ·rw [h];decide
 ·unfold ZaU at h
  rw [Bool.and_eq_true,decide_eq_true_eq] at h
  exact h.1
structure Zm2 (k : Wv) : Prop where
 n : k.1.length≤12
 h : k.2.1.length≤12
 m : k.2.2.1.length≤20
 g : k.2.2.2.2.length≤6
 gs : ∀ x∈k.2.2.2.2,x.length≤12
theorem ZwY (h : Zmb k=0) : Zm2 k:=by
 have h0 : Jk (uOf k)=0:=by
  have:=ZlS (u:=uOf k)
  unfold Zmb at h
  omega
 obtain ⟨h1,h2,h3,h4,h5,_⟩:=Zfi h0
 exact ⟨Kq h1,Zkb h2,Zti h3,h4,fun x hx=>Kq (List.all_eq_true.1 h5 x hx)⟩
theorem Zzw (h : ofK ks l=0) : (∀ k∈ks,Zmb k=0)∧ks.length≤12∧l.length≤6∧(∀ x∈l,x.length≤12)∧YE l=true∧l.all Zy=true:=by
 have h0 : Zan (ks.map uOf) l=0:=by
  have:=Zrb (us:=ks.map uOf) (l:=l)
  unfold ofK at h
  omega
 have hc : Zbw (ks.map uOf) l=0:=by
  unfold Zan at h0
  by_cases hc : Zbw (ks.map uOf) l=0
  ·exact hc
  ·rw [if_neg hc] at h0;exact h0
 obtain ⟨h1,_,h3,h4,h5,h6⟩:=ZvA hc
 rw [List.length_map] at h3
 refine ⟨fun k hk=>?_,h3,h6,fun x hx=>Kq (List.all_eq_true.1 h4 x hx),h5,h4⟩
 have:=Zjp h1 (uOf k) (List.mem_map.2 ⟨k,hk,rfl⟩)
 unfold Zmb
 rw [this];rfl
theorem Zi0 {b : Nat} : ∀ {l : List Tx},(∀ x∈l,x.length≤b)→((l.map txt).flatten).length≤l.length * (b+2)
 | [],_=>by simp
 | x :: l,h=>by
  have h1:=h x (by simp)
  have h2:=Zi0 (b:=b) (l:=l) fun y hy=>h y (by simp [hy])
  rw [List.map_cons,List.flatten_cons,List.length_append,Zay,List.length_cons,Nat.add_mul]
  omega
theorem Zmj {b : Nat} (h : ∀ x∈l,x.length≤b) : (ZlH l).length≤2+l.length * (b+2):=by
 unfold ZlH
 rw [List.length_append,Za1]
 have:=Zi0 h
 omega
theorem Znf (b : Bool) : (Zi5 b).length=1:=by unfold Zi5;rw [Za1]
theorem ZrH (h : Zm2 k) : (Zot k).length≤137:=by
 unfold Zot
 rw [List.length_append,List.length_append,List.length_append,List.length_append,Zay,Zay,Zay,Znf]
 have h1:=Zmj h.gs
 have h2:=h.g
 have:=h.n
 have:=h.h
 have:=h.m
 have h3 : k.2.2.2.2.length * (12+2)≤6 * (12+2):=Nat.mul_le_mul_right _ h2
 omega
theorem Zm9 : ∀ {ks : List Wv},(∀ k∈ks,Zm2 k)→(Zes ks).length≤ks.length * 137
 | [],_=>by simp [Zes]
 | k :: ks,h=>by
  have h1:=ZrH (h k (by simp))
  have h2:=Zm9 (ks:=ks) fun y hy=>h y (by simp [hy])
  unfold Zes at h2 ⊢
  rw [List.map_cons,List.flatten_cons,List.length_append,List.length_cons,Nat.add_mul]
  omega
theorem ZwO (h : ∀ k∈ks,Zm2 k) (hn : ks.length≤12) (hl : l.length≤6) (hx : ∀ x∈l,x.length≤12) : (Zfq l ks).length≤1733:=by
 unfold Zfq
 rw [List.length_append,List.length_append,List.length_append,Za1,Za1]
 have h1:=Zmj hx
 have h2:=Zm9 h
 have h3 : l.length * (12+2)≤6 * (12+2):=Nat.mul_le_mul_right _ hl
 have h4 : ks.length * 137≤12 * 137:=Nat.mul_le_mul_right _ hn
 omega
end
end Go.Proofs.YtedkoimihknggaaGreatDoor.A

namespace Go.Proofs.YtedkoimihknggaaGreatDoor.A
set_option linter.unusedVariables false
set_option maxRecDepth 100000
set_option linter.unusedSimpArgs false
open Go.Proofs Go.Proofs.YtedkoimihknggaaGreatDoor
section
variable {H X X' : Zd} {n p d c : Nat} {r : NR} {s : NSt} {sl x v gv sv : Value} {own q : List Nat} {bs : List UInt8} {l : List Tx} {u : Zm} {us : List Zm}
theorem ZfE : ∀ {l : List Tx},l.Pairwise (· < ·)→YE l=true
 | [],_=>rfl
 | [a],_=>rfl
 | a :: b :: l,h=>by
  rw [Zgt,Bool.and_eq_true,decide_eq_true_eq]
  have h1:=List.pairwise_cons.1 h
  exact ⟨h1.1 b (by simp),ZfE h1.2⟩
theorem ND0.kname (hd : ND0 X d r s c) {k : Tx} (hk : k∈s.K) : Zy k=true:=by
 rw [← hd.ks] at hk
 obtain ⟨p,hp,rfl⟩:=List.mem_map.1 hk
 exact hd.gr.ok p hp
theorem Zjh (hO : ROK s us) (hP : ZeD s) (hN : ∀ k∈s.K,Zy k=true) (hu : u∈us) : Jk u=0∧(∀ g∈u.gs,g∈s.K)∧u.ml=(Zf u.nm s.OF).getD []:=by
 have hat:=hO.at hu
 unfold Jp at hat
 cases ha : Zf u.nm s.A with
 | none=>rw [ha] at hat;cases hat
 | some p=>
  rw [ha] at hat
  have hk : Yt s u.nm p=Jr u:=Option.some.inj hat
  have h1 : p.1=u.hs:=congrArg (·.2.1) hk
  have h2 : (Zf u.nm s.OF).getD []=u.ml:=congrArg (·.2.2.1) hk
  have h3 : ofL u.nm s.K s.mem=u.gs:=congrArg (·.2.2.2.2) hk
  have hnm:=hP.i.nm _ (KK ha)
  have hin : ∀ g∈u.gs,g∈s.K:=fun g hg=>by
   rw [← h3] at hg
   exact (((ZnC hP.k.nod).mem g).1 hg).1
  refine ⟨?_,hin,h2.symm⟩
  unfold Jk Zex
  rw [show Zy u.nm=true from hnm.1,← h1,show YD p.1=true from hnm.2]
  have hm : ZbY u.ml=true:=by
   unfold ZbY
   rw [← h2]
   cases ho : Zf u.nm s.OF with
   | none=>rfl
   | some m=>
    obtain ⟨g1,g2⟩:=hP.i.good _ m ho
    show (m==[] || (ZaU m && Ji m==m))=true
    rw [g1,g2]
    simp
  have hl : u.gs.length≤6:=by
   rw [← h3]
   exact Nat.le_trans Zkn hP.k.few
  have hall : u.gs.all Zy=true:=List.all_eq_true.2 fun g hg=>hN g (hin g hg)
  have hr : YE u.gs=true:=by
   rw [← h3]
   exact ZfE (ZnC hP.k.nod).asc
  rw [hm,hall,hr]
  simp only [if_true]
  rw [if_neg (by omega)]
theorem Zop {gs : List Tx} : ∀ {us prev : List Zm},(∀ (i : Nat) (u : Zm),us[i]?=some u→Zdi gs (prev++us.take i) u=0)→WL gs prev us=0
 | [],prev,_=>by unfold WL;rfl
 | u :: us,prev,h=>by
  have h0:=h 0 u rfl
  rw [List.take_zero,List.append_nil] at h0
  unfold WL
  rw [if_pos h0]
  refine Zop fun i w hi=>?_
  have h1:=h (i+1) w (by simpa using hi)
  rw [List.take_succ_cons] at h1
  rwa [List.append_assoc]
theorem Zys (hO : ROK s us) (hP : ZeD s) (hN : ∀ k∈s.K,Zy k=true) : Zan us (ZM s.K)=0:=by
 have hlen:=hO.len hP.n
 have hfew:=hP.i.few
 have h1 : JT us=0:=by
  have hall : ∀ u∈us,Jk u=0:=fun u hu=>(Zjh hO hP hN hu).1
  clear hO hlen
  induction us with
  | nil=>rfl
  | cons u us ih=>
   unfold JT
   rw [if_pos (hall u (by simp))]
   exact ih fun w hw=>hall w (by simp [hw])
 have h2 : YE (us.map (·.nm))=true:=by
  refine ZfE ?_
  rw [List.pairwise_map]
  exact hO.rise
 have h3 : (ZM s.K).all Zy=true:=List.all_eq_true.2 fun g hg=>hN g (Kz.1 hg)
 have h4 : YE (ZM s.K)=true:=ZfE (Zek hP.k.nod)
 have h5 : (ZM s.K).length≤6:=by rw [KC];exact hP.k.few
 have hc : Zbw us (ZM s.K)=0:=by
  unfold Zbw Zg9
  have x1 : ¬ 12 < us.length:=by omega
  have x2 : ¬ 6 < (ZM s.K).length:=by omega
  rw [h1,h2,h3,h4]
  simp [x1,x2,hP.k.few]
 unfold Zan
 rw [if_pos hc]
 refine Zop fun i u hi=>?_
 rw [List.nil_append]
 have hum:=List.mem_of_getElem? hi
 obtain ⟨_,hg,hm⟩:=Zjh hO hP hN hum
 unfold Zdi
 have hall : (u.gs.all fun g=>decide (g∈ZM s.K))=true:=List.all_eq_true.2 fun g hgm=>by
  rw [decide_eq_true_eq]
  exact Kz.2 (hg g hgm)
 rw [hall,if_pos rfl,if_neg]
 rintro ⟨hne,hany⟩
 obtain ⟨w,hw,hwe⟩:=List.any_eq_true.1 hany
 have hwm:=List.mem_of_mem_take hw
 obtain ⟨_,_,hm2⟩:=Zjh hO hP hN hwm
 have hwe : u.ml=w.ml:=by simpa using hwe
 have h6 : ∀ v : Zm,v.ml=(Zf v.nm s.OF).getD []→v.ml≠[]→Zf v.ml s.OW=some v.nm:=fun v hv hvne=>by
  cases ho : Zf v.nm s.OF with
  | none=>rw [ho] at hv;exact absurd hv hvne
  | some m=>
   rw [ho] at hv
   have hv : v.ml=m:=hv
   rw [hv]
   exact (hP.x.inv _ _).1 ho
 have h7:=h6 u hm hne
 have h8:=h6 w hm2 (by rw [← hwe];exact hne)
 rw [← hwe,h7] at h8
 have h9 : u.nm=w.nm:=Option.some.inj h8
 have hri:=hO.rise
 unfold Zdl at hri
 rw [← List.take_append_drop i us,List.pairwise_append] at hri
 have hud : u∈us.drop i:=by
  have hil:=(List.getElem?_eq_some_iff.1 hi).1
  rw [List.drop_eq_getElem_cons hil]
  have:=List.getElem?_eq_getElem hil
  rw [hi] at this
  rw [← Option.some.inj this]
  simp
 have:=hri.2.2 w hw u hud
 rw [h9] at this
 exact absurd this (List.lt_irrefl _)
theorem ROK.allK (hn : (KF s).Nodup) : ROK s ((A.allK s).map uOf):=⟨by
 have h:=Zpg hn
 unfold Zdl
 rw [List.pairwise_map]
 exact h,fun key=>by rw [ZnT];exact Zqm hn⟩
theorem Zyh (hd : ND X d r s c) : ofK (A.allK s) (ZM s.K)=0:=by
 have:=Zys (ROK.allK hd.pinv.n) hd.pinv fun k hk=>hd.toND0.kname hk
 rw [ZxU,ZnT] at this
 omega
theorem ZwN {b : Bool} (hb : bs.length≤100000000000) (h : Wtr H p bs own) : ∃ H' own',R (n+3) KS [pt p,.bool b] H=some (pt p,H')∧Wtr H' p (bs++Zi5 b) own'∧Zr (p :: own) H (p :: own') H':=by
 obtain ⟨H',own',e,w,s⟩:=ZoO (n:=n) (x:=if b then 1 else 0) (by cases b <;> decide) hb h
 refine ⟨H',own',?_,w,s⟩
 rw [R,Zho rfl]
 unfold Zbk
 cases b
 ·have e : R (n+2) QR [pt p,.int .u8 0] H=_:=e
  rw [Zb,if_neg (by simp),Za e]
  rfl
 ·have e : R (n+2) QR [pt p,.int .u8 1] H=_:=e
  rw [Zb,if_pos rfl,Za e]
  rfl
theorem Zw.whole {vs : List Value} (h : Zw X v vs q) : ∃ sv,slv 1 v none (some (iv vs.length)) none X=some (sv,X)∧Sl X sv vs∧∀ j,A.own1 sv=some j→j∈q:=by
 have b1 : ∀ d,bnd (some (iv vs.length)) d=some vs.length:=fun d=>by simp [bnd]
 have b2 : ∀ d,bnd none d=some d:=fun _=>rfl
 rcases h with ⟨rfl,rfl,rfl⟩ | ⟨sid,rest,g,rfl,rfl,hid⟩
 ·exact ⟨.slice none 0 0,rfl,Sl.nil,fun j hj=>by cases hj⟩
 ·by_cases h0 : vs.length+rest.length=0
  ·have hv : vs=[]:=List.eq_nil_of_length_eq_zero (by omega)
   subst hv
   refine ⟨.slice (some ⟨sid,0,some (bif g then 1 else 0)⟩) 0 0,?_,⟨_,_,rfl,(fun e=>by cases e),rfl⟩,fun j hj=>by cases hj⟩
   simp only [slv,hid,b1,b2]
   rw [if_pos ⟨trivial,by omega,by omega,Nat.le_refl _⟩,if_pos (by omega)]
  ·refine ⟨.slice (some ⟨sid,0,none⟩) vs.length (vs.length+rest.length),?_,⟨some ⟨sid,0,none⟩,_,rfl,(fun e=>by cases e),?_⟩,fun j hj=>by cases hj;simp⟩
   ·simp only [slv,hid,b1,b2]
    rw [if_pos ⟨trivial,by omega,by omega,Nat.le_refl _⟩,if_neg (by omega)]
    simp
   ·simp only [Qr,hid]
    rw [if_pos (by simp)]
    simp
theorem Ztc (hl : ∀ x∈l,x.length≤1000) (hn : l.length≤1000) : ∀ (t j : Nat) (bs : List UInt8) (own : List Nat) (X : Zd),l.length - j=t→j≤l.length→Sl X sv (l.map strv)→(∀ i,own1 sv=some i→i∉p :: own∧i < X.length)→bs.length+t * 1002≤100000000→Wtr X p bs own→
  ∃ X' own',Zh (c4 (Yp.l1 (R (n+3)))) [pt p,sv,iv l.length,iv j] X=some (.ext 0 [pt p],X')∧Wtr X' p (bs++((l.drop j).map txt).flatten) own'∧Zr (p :: own) X (p :: own') X'
 | 0,j,bs,own,X,ht,hj,hs,hd,hb,h=>by
  rw [List.drop_eq_nil_of_le (by omega)]
  refine ⟨X,own,ZV ?_,by simpa using h,.refl _ _⟩
  rw [ZH,show j=l.length by omega]
  unfold Yp.l1
  rw [Za Zk,Zb,if_neg (by simp)]
  rfl
 | t+1,j,bs,own,X,ht,hj,hs,hd,hb,h=>by
  have hkl : j < l.length:=by omega
  have hlt : (j : Int) < l.length:=by omega
  have hg:=List.getElem?_eq_getElem hkl
  have hdr:=List.drop_eq_getElem_cons hkl
  generalize l[j]=y at hg hdr
  have hy:=hl y (List.mem_of_getElem? hg)
  have x1:=hs.ix (i:=j) (by simpa using hkl) .i64 X
  have x2:=hs.ldx (Kd hg)
  obtain ⟨X1,own1',e1,w1,s1⟩:=Zfm (n:=n) (s:=y) (by omega) (by omega) h
  have hs1 : Sl X1 sv (l.map strv):=hs.keep fun i hi=>s1.keep i (hd i hi).2 (hd i hi).1
  have hd1 : ∀ i,A.own1 sv=some i→i∉p :: own1'∧i < X1.length:=fun i hi=>⟨fun hm=>by
   rcases s1.own i hm with h1 | h1
   ·exact (hd i hi).1 h1
   ·have:=(hd i hi).2;omega,Nat.lt_of_lt_of_le (hd i hi).2 s1.len⟩
  obtain ⟨X2,own2,e2,w2,s2⟩:=Ztc hl hn t (j+1) (bs++txt y) own1' X1 (by omega) (by omega) hs1 hd1 (by rw [List.length_append,Zay];omega) w1
  refine ⟨X2,own2,(ZI ?_).trans e2,?_,s1.trans s2⟩
  ·rw [ZH]
   unfold Yp.l1
   rw [Za Zk,Zb,if_pos (by simpa using hlt),Za x1,Za x2,Za e1,Za ZC,Q5 (by omega)]
   rfl
  ·rw [hdr,List.map_cons,List.flatten_cons,← List.append_assoc]
   exact w2
theorem Zup (hl : ∀ x∈l,x.length≤1000) (hn : l.length≤1000) (hr : Zw H gv (l.map strv) q) (hd : ∀ j∈q,j∉p :: own) (hb : bs.length≤10000000) (h : Wtr H p bs own) : ∃ H' own',R (n+4) YZ [pt p,gv] H=some (pt p,H')∧Wtr H' p (bs++ZlH l) own'∧Zr (p :: own) H (p :: own') H':=by
 have hlen : Zp gv H=some (iv l.length,H):=by have:=hr.rd.len (H':=H);simpa using this
 have hm : mxi false (iv l.length) (.int .i64 65535) H=some (iv l.length,H):=by
  rw [Ye,if_neg (by omega)]
 obtain ⟨sv,e1,s1,o1⟩:=hr.whole
 rw [List.length_map] at e1
 have hsl : ∀ Y,Zp sv Y=some (iv l.length,Y):=fun Y=>by have:=s1.len (H':=Y);simpa using this
 have c1 : cvi .u16 (iv l.length) H=some (.int .u16 l.length,H):=by rw [Qj,ZrY,Int.emod_eq_of_lt (by omega) (by omega)]
 obtain ⟨X1,own1',e2,w2,st2⟩:=Zmq (n:=n+1) (x:=l.length) (by omega) (by omega) h
 have e2 : R (n+3) Ju [pt p,.int .u16 l.length] H=_:=e2
 have hs1 : Sl X1 sv (l.map strv):=s1.keep fun i hi=>st2.keep i (hr.lt i (o1 i hi)) (hd i (o1 i hi))
 have hd1 : ∀ i,A.own1 sv=some i→i∉p :: own1'∧i < X1.length:=fun i hi=>⟨fun hm=>by
  rcases st2.own i hm with h1 | h1
  ·exact hd i (o1 i hi) h1
  ·have:=hr.lt i (o1 i hi);omega,Nat.lt_of_lt_of_le (hr.lt i (o1 i hi)) st2.len⟩
 obtain ⟨X2,own2,e3,w3,st3⟩:=Ztc (n:=n) (p:=p) hl hn l.length 0 (bs++le l.length 2) own1' X1 (by omega) (by omega) hs1 hd1 (by rw [List.length_append,Za1];omega) w2
 rw [show iv ((0 : Nat) : Int)=.int .i64 0 from rfl] at e3
 rw [List.drop_zero,List.append_assoc] at w3
 refine ⟨X2,own2,?_,w3,st2.trans st3⟩
 rw [R,Zjy rfl]
 unfold Yp
 rw [Za hlen,Za hm,Za e1,Za (hsl _),Za c1,Za e2,Za (hsl _),Qh e3,ZE]
 rfl
theorem ZyK {u : Zm} : Zot (Jr u)=txt u.nm++(txt u.hs++(txt u.ml++(Zi5 u.ds++ZlH u.gs))):=rfl
theorem ZbO {o1 o2 : List Nat} (hs : Zr o1 X o2 X') {q : List Nat} (hl : ∀ j∈q,j < X.length) (hd : ∀ j∈q,j∉o1) : ∀ j∈q,j∉o2:=fun j hj hm=>by
 rcases hs.own j hm with h1 | h1
 ·exact hd j hj h1
 ·have:=hl j hj;omega
theorem Zxj (he : Jk u=0) (hr : Zw H u.gv (u.gs.map strv) q) (hd : ∀ j∈q,j∉p :: own) (hb : bs.length≤1000000) (h : Wtr H p bs own) : ∃ H' own',R (n+11) ZcL [pt p,iv 2,.agg u.cells.toArray] H=some (.bool true,H')∧Wtr H' p (bs++Zot (Jr u)) own'∧Zr (p :: own) H (p :: own') H':=by
 obtain ⟨b1,b2,b3,b4,b5,b6⟩:=Zfi he
 have hnl:=Kq b1
 have hhl:=Zkb b2
 have hml:=Zti b3
 have hgl : ∀ x∈u.gs,x.length≤1000:=fun x hx=>by have:=Kq (List.all_eq_true.1 b5 x hx);omega
 have ok0 : UOK H u:=⟨hr.rd,hr.one.1,by omega⟩
 have e1:=ok0.cells1
 have k1 : HLe H (H++[.cells u.cells 1 false false]):=.app _ _
 have c1 : (H++[Zg.cells u.cells 1 false false])[H.length]?=some (.cells u.cells 1 false false):=ZB
 have hne : H.length∉p :: own:=fun hm=>Nat.lt_irrefl _ (h.lt _ hm)
 have hq1:=hr.lt
 generalize H++[Zg.cells u.cells 1 false false]=X1 at e1 k1 c1
 have d1 : ldA 5 (pt H.length) X1=some (.agg u.cells.toArray,X1):=Jz (n:=5) c1 rfl
 obtain ⟨X2,e2,k2⟩:=ZiK (n:=n) (ok0.hle k1)
 rw [he] at e2
 have c2:=k2 _ _ c1
 have k12:=k1.trans k2
 have q1 : bop .int .neq (iv 0) (.int .i64 0) X2=some (.bool false,X2):=by rw [Zo];rfl
 have w2:=h.hle k12
 have hr2:=hr.step k12.step (by simp)
 generalize H.length=w at e1 c1 hne d1 c2
 obtain ⟨X3,q3,e3,w3,s3⟩:=Zfm (n:=n+7) (s:=u.nm) (by omega) (by omega) w2
 have e3 : R (n+10) QE [pt p,strv u.nm] X2=_:=e3
 have c3:=s3.get c2 hne
 have hwl:=JS c2
 have n3 : w∉p :: q3:=fun hm=>by
  rcases s3.own w hm with h1 | h1
  ·exact hne h1
  ·omega
 have l3 : (txt u.nm).length≤14:=by rw [Zay];omega
 have l4 : (txt u.hs).length≤14:=by rw [Zay];omega
 have l5 : (txt u.ml).length≤22:=by rw [Zay];omega
 obtain ⟨X4,q4,e4,w4,s4⟩:=Zfm (n:=n+7) (s:=u.hs) (by omega) (by rw [List.length_append];omega) w3
 have e4 : R (n+10) QE [pt p,strv u.hs] X3=_:=e4
 have c4:=s4.get c3 n3
 have hwl3:=JS c3
 have n4 : w∉p :: q4:=fun hm=>by
  rcases s4.own w hm with h1 | h1
  ·exact n3 h1
  ·omega
 obtain ⟨X5,q5,e5,w5,s5⟩:=Zfm (n:=n+7) (s:=u.ml) (by omega) (by rw [List.length_append,List.length_append];omega) w4
 have e5 : R (n+10) QE [pt p,strv u.ml] X4=_:=e5
 have c5:=s5.get c4 n4
 have hwl4:=JS c4
 have n5 : w∉p :: q5:=fun hm=>by
  rcases s5.own w hm with h1 | h1
  ·exact n4 h1
  ·omega
 obtain ⟨X6,q6,e6,w6,s6⟩:=ZwN (n:=n+7) (b:=u.ds) (by rw [List.length_append,List.length_append,List.length_append];omega) w5
 have e6 : R (n+10) KS [pt p,.bool u.ds] X5=_:=e6
 have c6:=s6.get c5 n5
 have a2:=hr2.lt
 have r3:=hr2.step s3 hd
 have f3:=ZbO s3 a2 hd
 have r4:=r3.step s4 f3
 have f4:=ZbO s4 r3.lt f3
 have r5:=r4.step s5 f4
 have f5:=ZbO s5 r4.lt f4
 have r6:=r5.step s6 f5
 have f6:=ZbO s6 r5.lt f5
 obtain ⟨X7,q7,e7,w7,s7⟩:=Zup (n:=n+6) hgl (by omega) r6 f6 (by rw [List.length_append,List.length_append,List.length_append,List.length_append,Znf];omega) w6
 have e7 : R (n+10) YZ [pt p,u.gv] X6=_:=e7
 have q2 : bop .int .eql (iv 2) (.int .i64 2) X4=some (.bool true,X4):=by rw [ZG];rfl
 have a : ∀ {Y : Zd},Y[w]?=some (.cells u.cells 1 false false)→∀ f x,u.cells[f]?=some x→ld1 (pa w f) Y=some (x,Y):=fun hY f x h=>Qe hY h
 refine ⟨X7,q7,?_,by rw [ZyK];simpa [List.append_assoc] using w7,(k12.stepq).trans ((((s3.trans s4).trans s5).trans s6).trans s7)⟩
 rw [R,Zlu rfl]
 unfold Zgf
 rw [Za e1,Za d1,Za e2,Za q1,Zb,if_neg (by simp),Za Zj,Za (a c2 0 _ rfl),Za Zj,Za (a c2 1 _ rfl),Za e3,Za (a c3 1 _ rfl),Jd,Za e4,Za q2]
 refine (QZ (vs:=[]) (H':=X7) ?_).trans ?_
 ·rw [Zb,if_pos rfl,Za Zj,Za (a c4 2 _ rfl),Za Zj,Za (a c4 3 _ rfl),Za Zj,Za (a c4 4 _ rfl),Za e5,Za (a c5 4 _ rfl),Jd,Za (a c5 3 _ rfl),Jd,Za e6,Za (a c6 4 _ rfl),Jd,Za e7]
  rfl
 ·rfl
theorem Ztj (hn : us.length≤100) (hE : ∀ u∈us,Jk u=0) : ∀ (t k : Nat) (bs : List UInt8) (own : List Nat) (X : Zd),us.length - k=t→k≤us.length→Jf 5 X v (us.map Zm.cells) q→(∀ j∈q,j∉p :: own)→(∀ u∈us,∃ qu,Zw X u.gv (u.gs.map strv) qu∧∀ j∈qu,j∉p :: own)→bs.length+t * 137≤100000→Wtr X p bs own→
  ∃ X' own',Zh (c4 (KV.l1 (R (n+11)))) [pt p,v,iv us.length,iv k] X=some (.ext 0 [pt p],X')∧Wtr X' p (bs++Zes ((us.drop k).map Jr)) own'∧Zr (p :: own) X (p :: own') X'
 | 0,k,bs,own,X,ht,hk,hr,hd,hu,hb,h=>by
  rw [List.drop_eq_nil_of_le (by omega)]
  refine ⟨X,own,ZV ?_,by simpa [Zes] using h,.refl _ _⟩
  rw [ZH,show k=us.length by omega]
  unfold KV.l1
  rw [Za Zk,Zb,if_neg (by simp)]
  rfl
 | t+1,k,bs,own,X,ht,hk,hr,hd,hu,hb,h=>by
  have hkl : k < us.length:=by omega
  have hlt : (k : Int) < us.length:=by omega
  have hg:=List.getElem?_eq_getElem hkl
  have hdr:=List.drop_eq_getElem_cons hkl
  generalize us[k]=u at hg hdr
  have hum:=List.mem_of_getElem? hg
  have he:=hE u hum
  obtain ⟨qu,u1,u2⟩:=hu u hum
  have hf:=fun {K : Value→M Out}=>ZoG (k:=K) hr.rd u1.one.1 hg
  have k1 : HLe X (X++[Zg.cells u.cells 1 false false]):=.app _ _
  have c1 : (X++[Zg.cells u.cells 1 false false])[X.length]?=some (.cells u.cells 1 false false):=ZB
  generalize X++[Zg.cells u.cells 1 false false]=X1 at k1 c1 hf
  have d1 : ldA 5 (pt X.length) X1=some (.agg u.cells.toArray,X1):=Jz (n:=5) c1 rfl
  obtain ⟨X2,own2,e2,w2,s2⟩:=Zxj (n:=n) he (u1.step k1.step (by simp)) u2 (by omega) (h.hle k1)
  have hgk : Zm2 (Jr u):=ZwY (by rw [← Int.toNat_natCast (Zmb (Jr u)),← Zs1,he];rfl)
  have hel:=ZrH hgk
  have s12:=(k1.stepq (q:=p :: own)).trans s2
  have hu2 : ∀ u∈us,∃ qu,Zw X2 u.gv (u.gs.map strv) qu∧∀ j∈qu,j∉p :: own2:=fun w hw=>by
   obtain ⟨qw,w1,w2⟩:=hu w hw
   exact ⟨qw,w1.step s12 w2,ZbO s12 w1.lt w2⟩
  obtain ⟨X3,own3,e3,w3,s3⟩:=Ztj hn hE t (k+1) (bs++Zot (Jr u)) own2 X2 (by omega) (by omega) (hr.step s12 hd) (ZbO s12 hr.lt hd) hu2 (by rw [List.length_append];omega) w2
  refine ⟨X3,own3,(ZI ?_).trans e3,?_,s12.trans s3⟩
  ·rw [ZH]
   unfold KV.l1
   rw [Za Zk,Zb,if_pos (by simpa using hlt),hf,Za d1,Za e2,Za ZC,Q5 (by omega)]
   rfl
  ·rw [hdr]
   unfold Zes at w3 ⊢
   rw [List.map_cons,List.map_cons,List.flatten_cons,← List.append_assoc]
   exact w3
theorem ZfJ (hd : ND X d r s c) : ∃ v q H',R (n+12) QG [pt d] X=some (v,H')∧Zw H' v (u8s (Zfq (ZM s.K) (A.allK s))) q∧HLe X H'∧∀ j∈q,X.length≤j:=by
 have hgood:=Zyh hd
 obtain ⟨g1,g2,g3,g4,_,_⟩:=Zzw hgood
 have q0 : bop .ptr .eql (pt d) (.pointer none) X=some (.bool false,X):=Ja
 obtain ⟨z1,z2,w0⟩:=Zs3 (H:=X)
 have k0 : HLe X (X++[Zg.cells [.slice none 0 0] 1 false false]):=.app _ _
 generalize X++[Zg.cells [.slice none 0 0] 1 false false]=X0 at z2 w0 k0
 generalize hpp : X.length=p at z2 w0
 have hp : ∀ j∈[p],X.length≤j:=fun j hj=>by have : j=p:=(by simpa using hj);omega
 obtain ⟨X1,q1,e1,w1,s1⟩:=ZoO (n:=n+9) (x:=2) (by omega) (by simp) w0
 have e1 : R (n+11) QR [pt p,.int .u8 2] X0=_:=e1
 have m1:=k0.more s1 hp
 rw [List.nil_append] at w1
 obtain ⟨vg,qg,X2,e2,r2,l2,o2⟩:=ZuT (n:=n+7) (hd.hle m1.1)
 have e2 : R (n+11) WH [pt d] X1=_:=e2
 have w2:=w1.hle l2
 have m12:=m1.1.trans l2
 have dg : ∀ j∈qg,j∉p :: q1:=fun j hj hm=>by have:=o2 j hj;have:=w1.lt j hm;omega
 obtain ⟨X3,q3,e3,w3,s3⟩:=Zup (n:=n+7) (l:=ZM s.K) (fun x hx=>by have:=g4 x hx;omega) (by omega) r2 dg (by rw [Za1];omega) w2
 have e3 : R (n+11) YZ [pt p,vg] X2=_:=e3
 have m3:=m12.more s3 m1.2
 have e4 : R (n+11) ZaX [pt d] X3=some (iv s.A.length,X3):=Zyi (n:=n+10) (hd.hle m3.1)
 have hfew:=hd.inv.few
 have c4 : cvi .u16 (iv s.A.length) X3=some (.int .u16 s.A.length,X3):=by rw [Qj,ZrY,Int.emod_eq_of_lt (by omega) (by omega)]
 have hlr:=Zmj (b:=12) g4
 have hlr2 : (ZM s.K).length * (12+2)≤6 * (12+2):=Nat.mul_le_mul_right _ g3
 obtain ⟨X4,q4,e5,w4,s4⟩:=Zmq (n:=n+9) (x:=s.A.length) (by omega) (by rw [List.length_append,Za1];omega) w3
 have e5 : R (n+11) Ju [pt p,.int .u16 s.A.length] X3=_:=e5
 have m4:=m3.1.more s4 m3.2
 obtain ⟨va,qa,us,X5,e6,o6,u6,l6⟩:=ZyV (n:=n+3) (hd.hle m4.1)
 have e6 : R (n+11) Za2 [pt d] X4=_:=e6
 have w5:=w4.hle l6
 have hlen : us.length=s.A.length:=by
  have h1:=congrArg List.length u6
  unfold A.allK at h1
  rw [List.length_map,List.length_map,KC] at h1
  simpa using h1
 have hla : Zp va X5=some (iv us.length,X5):=by have:=o6.r.rd.len (H':=X5);rwa [List.length_map] at this
 have hE : ∀ u∈us,Jk u=0:=fun u hu=>by
  have:=g1 (Jr u) (by rw [← u6];exact List.mem_map.2 ⟨u,hu,rfl⟩)
  rw [Zs1,this];rfl
 have da : ∀ j,X4.length≤j→j∉p :: q4:=fun j hj hm=>by have:=w4.lt j hm;omega
 obtain ⟨X6,q6,e7,w6,s6⟩:=Ztj (n:=n) (p:=p) (us:=us) (by omega) hE us.length 0 _ q4 X5 (by omega) (by omega) o6.r (fun j hj=>da j (o6.o j hj)) (fun u hu=>by
  obtain ⟨qu,a1,a2,_⟩:=o6.u u hu
  exact ⟨qu,a1,fun j hj=>da j (a2 j hj).1⟩) (by rw [List.length_append,List.length_append,Za1,Za1];omega) w5
 rw [show iv ((0 : Nat) : Int)=.int .i64 0 from rfl] at e7
 rw [List.drop_zero,u6] at w6
 have m6:=(m4.1.trans l6).more s6 m4.2
 have heq : le 2 1++ZlH (ZM s.K)++le s.A.length 2++Zes (A.allK s)=Zfq (ZM s.K) (A.allK s):=by
  unfold Zfq
  have : (A.allK s).length=s.A.length:=by rw [← u6,List.length_map,hlen]
  rw [this]
  simp [List.append_assoc]
 rw [heq] at w6
 have hel:=ZwO (fun k hk=>ZwY (g1 k hk)) g2 g3 g4
 obtain ⟨v,qv,X7,e8,r7,l7,o7⟩:=Zrn (n:=n+9) (by omega) w6
 have e8 : R (n+11) Yn [pt p] X6=_:=e8
 refine ⟨v,qv,X7,?_,r7,m6.1.trans l7,fun j hj=>by have h1:=o7 j hj;have h2:=m6.1.len;omega⟩
 rw [R,ZoT rfl]
 unfold KV
 rw [Za q0,Zb,if_neg (by simp),Za z1,Za z2,Za e1,Za e2,Za e3,Za e4,Za c4,Za e5,Za e6,Za hla,Qh e7,ZE,JV,Za e8]
 rfl
end
end Go.Proofs.YtedkoimihknggaaGreatDoor.A

namespace Go.Proofs.YtedkoimihknggaaGreatDoor.A
set_option linter.unusedVariables false
set_option maxRecDepth 100000
set_option linter.unusedSimpArgs false
open Go.Proofs Go.Proofs.YtedkoimihknggaaGreatDoor
section
variable {H X X' : Zd} {n p : Nat} {s : RSt} {sl v : Value} {q : List Nat} {l : List Tx}
end
end Go.Proofs.YtedkoimihknggaaGreatDoor.A

namespace Go.Proofs.YtedkoimihknggaaGreatDoor.A
set_option linter.unusedVariables false
set_option maxRecDepth 100000
set_option linter.unusedSimpArgs false
open Go.Proofs Go.Proofs.YtedkoimihknggaaGreatDoor
theorem ZbB.step {X0 X X' : Zd} {sl : Value} {us : List Zm} {q o1 o2 : List Nat} (h : ZbB X0 X sl us q) (hs : Zr o1 X o2 X') (hd : ∀ j,X0.length≤j→j∉o1) : ZbB X0 X' sl us q:=
 ⟨h.r.step hs fun j hj=>hd j (h.o j hj),h.o,fun w hw=>by
  obtain ⟨qu,h1,h2,h3⟩:=h.u w hw
  exact ⟨qu,h1.step hs fun j hj=>hd j (h2 j hj).1,h2,h3⟩,h.un⟩
section
variable {H X X' X0 : Zd} {n p : Nat} {s : RSt} {sl v vg bv : Value} {q qg : List Nat} {l gl : List Tx} {bs : List UInt8}
end
end Go.Proofs.YtedkoimihknggaaGreatDoor.A

namespace Go.Proofs.YtedkoimihknggaaGreatDoor.A
set_option linter.unusedVariables false
set_option maxRecDepth 100000
set_option linter.unusedSimpArgs false
open Go.Proofs Go.Proofs.YtedkoimihknggaaGreatDoor
section
variable {H X X' H0 : Zd} {n p : Nat} {sl v gv uv : Value} {l N : List Tx} {us : List Zm} {u : Zm} {b : Bool}
end
end Go.Proofs.YtedkoimihknggaaGreatDoor.A

namespace Go.Proofs.YtedkoimihknggaaGreatDoor.A
set_option linter.unusedVariables false
set_option maxRecDepth 100000
set_option linter.unusedSimpArgs false
open Go.Proofs Go.Proofs.YtedkoimihknggaaGreatDoor
section
variable {H0 H X : Zd} {n p d b M L : Nat} {a c v : Value} {bs : List UInt8} {s : RSt}
end
end Go.Proofs.YtedkoimihknggaaGreatDoor.A

namespace Go.Proofs.YtedkoimihknggaaGreatDoor.A
set_option linter.unusedVariables false
set_option maxRecDepth 100000
set_option linter.unusedSimpArgs false
open Go.Proofs Go.Proofs.YtedkoimihknggaaGreatDoor
abbrev uZ : Zm:=⟨[],[],[],false,.slice none 0 0,[]⟩
structure B5 (H X : Zd) (P1 P2 P3 P4 P5 : Nat) (s : RSt) (u : Zm) : Prop where
 b1 : X[P1]?=some (.cells (RR s) 1 false false)
 b2 : X[P2]?=some (.cells (RR (0,[])) 1 false false)
 b3 : X[P3]?=some (.cells uZ.cells 1 false false)
 b4 : X[P4]?=some (.cells uZ.cells 1 false false)
 b5 : X[P5]?=some (.cells u.cells 1 false false)
 le : HLe H X
 o : H.length≤P1∧P1 < P2∧P2 < P3∧P3 < P4∧P4 < P5
section
variable {H0 H X X' : Zd} {n p d b M L P1 P2 P3 P4 P5 i : Nat} {a c v : Value} {bs : List UInt8} {s s' : RSt} {u u' : Zm}
theorem B5.hle (h : B5 H X P1 P2 P3 P4 P5 s u) (hl : HLe X X') : B5 H X' P1 P2 P3 P4 P5 s u:=⟨hl _ _ h.b1,hl _ _ h.b2,hl _ _ h.b3,hl _ _ h.b4,hl _ _ h.b5,h.le.trans hl,h.o⟩
theorem B5.putU (h : B5 H X P1 P2 P3 P4 P5 s u) (hi : i < 5) (hv : oneCell v=true) (hu : u.cells.set i v=u'.cells) : ∃ X',st1 (pa P5 i) v X=some (undef,X')∧B5 H X' P1 P2 P3 P4 P5 s u'∧X.length=X'.length∧∀ j,P5 < j→X'[j]?=X[j]?:=by
 have ho:=h.o
 have w:=ZgX (o:=i) h.b5 (by simpa using hi) hv
 rw [hu] at w
 refine ⟨_,w,⟨(List.getElem?_set_ne (by omega)).trans h.b1,(List.getElem?_set_ne (by omega)).trans h.b2,(List.getElem?_set_ne (by omega)).trans h.b3,(List.getElem?_set_ne (by omega)).trans h.b4,Qv h.b5,h.le.put (by omega),ho⟩,by simp,fun j hj=>List.getElem?_set_ne (by omega)⟩
theorem B5.d1 (h : B5 H X P1 P2 P3 P4 P5 s u) : ldA 2 (pt P1) X=some (.agg (RR s).toArray,X):=Jz (n:=2) h.b1 rfl
theorem B5.d5 (h : B5 H X P1 P2 P3 P4 P5 s u) : ldA 5 (pt P5) X=some (.agg u.cells.toArray,X):=Jz (n:=5) h.b5 rfl
theorem Znd (hv : oneCell u.gv=true) : u.cells.all oneCell=true:=by simp only [Zm.cells,List.all_cons,hv];rfl
theorem B5.fin (h : B5 H X P1 P2 P3 P4 P5 s u) {Q : Nat} (hQ : Q=P4∨Q=P5) (bQ : X[Q]?=some (.cells u'.cells 1 false false)) (hv : oneCell u'.gv=true) : ∃ X',(bind (ldA 2 (pt P1)) fun y54=>bind (ldA 5 (pt Q)) fun y55=>bind (stA 2 (pt P2) y54) fun _=>bind (ldA 5 (pt Q)) fun u_56=>same u_56 y55 <| bind (stA 5 (pt P3) y55) fun _=>bind (ldA 2 (pt P2)) fun y57=>bind (ldA 5 (pt P3)) fun y58=>ret (Value.tuple #[y57,y58])) X=some (.tuple #[.agg (RR s).toArray,.agg u'.cells.toArray],X')∧HLe H X'∧∀ j,P5 < j→X'[j]?=X[j]?:=by
 have ho:=h.o
 have we:=Zb5 (vs:=RR s) (n:=2) h.b2 rfl rfl (Zy5 _)
 have x1 : ldA 5 (pt Q) X=some (.agg u'.cells.toArray,X):=Jz (n:=5) bQ rfl
 have x2 : ldA 5 (pt Q) (X.set P2 (.cells (RR s) 1 false false))=some (.agg u'.cells.toArray,_):=Jz (n:=5) ((List.getElem?_set_ne (by omega)).trans bQ) rfl
 have c3 : (X.set P2 (.cells (RR s) 1 false false))[P3]?=some (.cells uZ.cells 1 false false):=(List.getElem?_set_ne (by omega)).trans h.b3
 have x3:=Zb5 (vs:=u'.cells) (n:=5) c3 rfl rfl (Znd hv)
 have x4 : ldA 2 (pt P2) ((X.set P2 (.cells (RR s) 1 false false)).set P3 (.cells u'.cells 1 false false))=some (.agg (RR s).toArray,_):=Jz (n:=2) ((List.getElem?_set_ne (by omega)).trans (Qv h.b2)) rfl
 have x5 : ldA 5 (pt P3) ((X.set P2 (.cells (RR s) 1 false false)).set P3 (.cells u'.cells 1 false false))=some (.agg u'.cells.toArray,_):=Jz (n:=5) (Qv c3) rfl
 refine ⟨(X.set P2 (.cells (RR s) 1 false false)).set P3 (.cells u'.cells 1 false false),?_,(h.le.put (by omega)).put (by omega),fun j hj=>(List.getElem?_set_ne (by omega)).trans (List.getElem?_set_ne (by omega))⟩
 rw [Za h.d1,Za x1,Za we,Za x2,Jd,Za x3,Za x4,Za x5]
 rfl
end
end Go.Proofs.YtedkoimihknggaaGreatDoor.A

namespace Go.Proofs.YtedkoimihknggaaGreatDoor.A
set_option linter.unusedVariables false
set_option maxRecDepth 100000
set_option linter.unusedSimpArgs false
open Go.Proofs Go.Proofs.YtedkoimihknggaaGreatDoor
section
variable {H0 H X X' X0 : Zd} {n p d b P1 P2 P3 : Nat} {v sl gv : Value} {bs : List UInt8} {s : RSt} {q : List Nat} {us : List Zm}
end
end Go.Proofs.YtedkoimihknggaaGreatDoor.A

namespace Go.Proofs.YtedkoimihknggaaGreatDoor.A
set_option linter.unusedVariables false
set_option maxRecDepth 100000
set_option linter.unusedSimpArgs false
open Go.Proofs Go.Proofs.YtedkoimihknggaaGreatDoor
structure Ans (X : Zd) (wv : Value) (r : Nat × (List Tx × List Wv)) : Prop where
 one : ∃ uv gv,wv=.agg #[uv,gv]∧oneCell uv=true∧oneCell gv=true
 ok : r.1=0→∃ uv gv us,wv=.agg #[uv,gv]∧Yy X uv us∧us.map Jr=r.2.2∧Sl X gv (r.2.1.map strv)
theorem Ans.no {X : Zd} {r : Nat × (List Tx × List Wv)} (h : r.1≠0) : Ans X (.agg #[.slice none 0 0,.slice none 0 0]) r:=⟨⟨_,_,rfl,rfl,rfl⟩,fun h0=>absurd h0 h⟩
section
variable {H0 H X X' X0 : Zd} {n p d b p2 p4 p5 : Nat} {v sl gv : Value} {bs : List UInt8} {s : RSt} {q : List Nat} {us : List Zm}
end
end Go.Proofs.YtedkoimihknggaaGreatDoor.A

namespace Go.Proofs.YtedkoimihknggaaGreatDoor.A
set_option linter.unusedVariables false
set_option linter.unusedSimpArgs false
open Go.Proofs Go.Proofs.YtedkoimihknggaaGreatDoor
section
variable {X X' H H0 : Zd} {n d c w : Nat} {r : NR} {uv gv sl : Value} {s : NSt} {u : Zcf} {ac : List Zcf}
end
end Go.Proofs.YtedkoimihknggaaGreatDoor.A

namespace Go.Proofs.YtedkoimihknggaaGreatDoor.A
set_option linter.unusedVariables false
set_option maxRecDepth 100000
set_option linter.unusedSimpArgs false
open Go.Proofs Go.Proofs.YtedkoimihknggaaGreatDoor
section
variable {X X' H H0 : Zd} {n d c w : Nat} {r : NR} {uv gv sl : Value} {s : NSt} {u : Zcf} {ac : List Zcf}
end
end Go.Proofs.YtedkoimihknggaaGreatDoor.A

namespace Go.Proofs.YtedkoimihknggaaGreatDoor.A
set_option linter.unusedVariables false
set_option maxRecDepth 100000
set_option linter.unusedSimpArgs false
open Go.Proofs Go.Proofs.YtedkoimihknggaaGreatDoor
section
variable {X X' H H0 : Zd} {n d : Nat} {a : Value} {bs : List UInt8}
end
end Go.Proofs.YtedkoimihknggaaGreatDoor.A

namespace Go.Proofs.YtedkoimihknggaaGreatDoor.A
set_option linter.unusedVariables false
set_option linter.unusedSimpArgs false
open Go.Proofs Go.Proofs.YtedkoimihknggaaGreatDoor
def kOf (e : Ent) : Wv:=(e.1,e.2,[],false,[])
section
variable {X X' H H0 : Zd} {n d b : Nat} {v sl gv : Value} {m : List Ent} {e : Ent} {q : List Nat}
theorem Zt2 (h : Ks e=0) : Jk (Kg e)=0:=by
 have h1 : Zy e.1=true∧YD e.2=true:=by
  unfold Ks at h
  cases h2 : Zy e.1 with
  | false=>rw [h2] at h;simp at h
  | true=>
   cases h3 : YD e.2 with
   | false=>rw [h2,h3] at h;simp at h
   | true=>exact ⟨rfl,rfl⟩
 unfold Jk Kg
 rw [h1.1,h1.2]
 rfl
theorem Zln : ∀ {us : List Zm},(∀ u∈us,Jk u=0)→JT us=0
 | [],_=>rfl
 | u :: us,h=>by
  unfold JT
  rw [h u (by simp),if_pos rfl]
  exact Zln fun w hw=>h w (by simp [hw])
theorem Zzx (hE : ∀ e∈m,Ks e=0) (hR : YE (m.map (·.1))=true) (hn : m.length≤12) : Zan (m.map Kg) []=0:=by
 have h1 : JT (m.map Kg)=0:=Zln fun u hu=>by
  obtain ⟨e,he,rfl⟩:=List.mem_map.1 hu
  exact Zt2 (hE e he)
 have h2 : (m.map Kg).map (·.nm)=m.map (·.1):=by rw [List.map_map];rfl
 have h3 : Zg9 (m.map Kg)=0:=by
  unfold Zg9
  rw [if_pos h1,h2,hR,List.length_map,if_pos rfl,if_neg (show ¬ 12 < m.length by omega)]
 have h4 : Zbw (m.map Kg) []=0:=by
  unfold Zbw
  rw [if_pos h3]
  rfl
 unfold Zan
 rw [if_pos h4]
 refine Zop fun i u hu=>?_
 obtain ⟨e,_,rfl⟩:=List.mem_map.1 (List.mem_of_getElem? hu)
 unfold Zdi
 rw [if_pos (by rfl),if_neg (fun h=>h.1 rfl)]
theorem ZwC : ∃ X',R (n+1) ZhD [.agg (usr e).toArray] X=some (.agg (usr e).toArray,X')∧HLe X X':=by
 have z1 : alc 1 (.agg (usr e).toArray) X=some (pt X.length,X++[.cells (usr e) 1 false false]):=bx (vs:=usr e) rfl
 have k1 : HLe X (X++[Zg.cells (usr e) 1 false false]):=.app _ _
 have g1 : (X++[Zg.cells (usr e) 1 false false])[X.length]?=some (.cells (usr e) 1 false false):=ZB
 generalize X++[Zg.cells (usr e) 1 false false]=X1 at z1 k1 g1
 have z2 : alc 1 zU X1=some (pt X1.length,X1++[.cells (usr ([],[])) 1 false false]):=bx (vs:=usr ([],[])) rfl
 have k2 : HLe X1 (X1++[Zg.cells (usr ([],[])) 1 false false]):=.app _ _
 have g2 : (X1++[Zg.cells (usr ([],[])) 1 false false])[X1.length]?=some (.cells (usr ([],[])) 1 false false):=ZB
 have g1':=k2 _ _ g1
 have hl:=k1.len
 generalize X1++[Zg.cells (usr ([],[])) 1 false false]=X2 at z2 k2 g2 g1'
 have a0 : ld1 (pa X.length 0) X2=some (strv e.1,X2):=Qe g1' rfl
 have a1 : ld1 (pa X.length 1) X2=some (strv e.2,X2):=Qe g1' rfl
 have zb:=Zn6 (k:=e.1) (s:=e.2) (H:=X2)
 refine ⟨X2.set X1.length (.cells (usr e) 1 false false),?_,(k1.trans k2).put hl⟩
 rw [R,ZtG rfl]
 unfold Zmk
 rw [Za z1,Za z2,Za Zj,Za a0,Za Zj,Za a1,Za zb]
 exact ZxB (vs:=usr e) g2 rfl rfl rfl
theorem Zzz {rows : List (List Value)} {r : List Value} (hr : Jf 5 X sl rows q) (hn : rows.length≤1000) (h5 : r.length=5) (h1 : r.all oneCell=true) : ∃ w X1 sl' X2 q',bsl 5 1 zU [(0,5,.agg r.toArray)] X=some (w,X1)∧app 5 80 sl w X1=some (sl',X2)∧Jf 5 X2 sl' (rows++[r]) q'∧Zr q X q' X2:=by
 have x4:=Zqf (es:=5) (z:=zU) (H:=X) rfl h5 h1
 have l1 : HLe X (X++[Zg.cells r 5 false false]):=.app _ _
 have s1 : SlN 5 (X++[Zg.cells r 5 false false]) (.slice (some ⟨X.length,0,none⟩) 1 1) [r]:=SlN.whole (rows:=[r]) (c:=1) (e:=5) (g:=false) (ro:=false) (by rw [ZB];simp) (by simpa using h5)
 generalize X++[Zg.cells r 5 false false]=X1 at x4 l1 s1
 obtain ⟨sl',X2,q',x5,hn2,s2⟩:=(hr.step l1.step (by simp)).push (b:=80) s1 h5 (by omega) (by omega)
 exact ⟨_,X1,sl',X2,q',x4,x5,hn2,l1.stepq.trans s2⟩
theorem Zw8 (hn : m.length≤100) (hs : SlN 5 H0 v (m.map usr)) : ∀ (t j : Nat) (sl : Value) (q : List Nat) (X : Zd),m.length - j=t→j≤m.length→HLe H0 X→(∀ i∈q,H0.length≤i)→Jf 5 X sl ((m.take j).map usr) q→
  ∃ X' sl' q',Zh (c4 (Kh.l1 (R (n+1)))) [sl,v,iv m.length,iv j] X=some (.ext 0 [sl'],X')∧Jf 5 X' sl' (m.map usr) q'∧HLe H0 X'∧∀ i∈q',H0.length≤i
 | 0,j,sl,q,X,ht,hj,hle,hq,hr=>by
  have hj : j=m.length:=by omega
  subst hj
  rw [List.take_length] at hr
  refine ⟨X,sl,q,ZV ?_,hr,hle,hq⟩
  rw [ZH]
  unfold Kh.l1
  rw [Za Zk,Zb,if_neg (by simp)]
  rfl
 | t+1,j,sl,q,X,ht,hj,hle,hq,hr=>by
  have hkl : j < m.length:=by omega
  have hlt : (j : Int) < m.length:=by omega
  have hg:=List.getElem?_eq_getElem hkl
  have htk : m.take (j+1)=m.take j++[m[j]]:=by rw [List.take_add_one,hg];rfl
  generalize m[j]=e at hg htk
  have hf:=fun {K : Value→A.M Out}=>(hs.mono hle).fetch (k:=K) (r:=usr e) (i:=j) (by rw [List.getElem?_map,hg];rfl) (by omega) .i64
  have z4 : ∀ K : Value→A.M Out,bind (alc 1 zU) (fun q=>bind (stA 5 q (.agg (usr e).toArray)) fun _=>K q) X=K (pt X.length) (X++[.cells (usr e) 1 false false]):=fun K=>Zdo (n:=5) (zs:=usr ([],[])) (r:=usr e) rfl rfl rfl rfl
  have k1 : HLe X (X++[Zg.cells (usr e) 1 false false]):=.app _ _
  have g1 : (X++[Zg.cells (usr e) 1 false false])[X.length]?=some (.cells (usr e) 1 false false):=ZB
  generalize X++[Zg.cells (usr e) 1 false false]=X1 at z4 k1 g1
  have d1 : ldA 5 (pt X.length) X1=some (.agg (usr e).toArray,X1):=Jz (n:=5) g1 rfl
  obtain ⟨X2,e2,k2⟩:=ZwC (n:=n) (e:=e) (X:=X1)
  have hr2:=hr.step (k1.trans k2).step (by simp)
  obtain ⟨w,X3,sl',X4,q',e3,e4,r4,s4⟩:=Zzz (r:=usr e) hr2 (by rw [List.length_map,List.length_take];omega) rfl rfl
  have hm:=(hle.trans (k1.trans k2)).more s4 hq
  rw [← List.map_singleton (f:=usr),← List.map_append,← htk] at r4
  obtain ⟨X5,sl5,q5,e5,r5,k5,o5⟩:=Zw8 hn hs t (j+1) sl' q' X4 (by omega) (by omega) hm.1 hm.2 r4
  refine ⟨X5,sl5,q5,(ZI ?_).trans e5,r5,k5,o5⟩
  rw [ZH]
  unfold Kh.l1
  rw [Za Zk,Zb,if_pos (by simpa using hlt),hf,z4,Za d1,Za e2,Za e3,Za e4,Za ZC,Q5 (by omega)]
  rfl
theorem ZnU {m : Qo} (h : Dir X d b m) (hE : ∀ e∈Q9 m,Ks e=0) (hR : YE ((Q9 m).map (·.1))=true) (hn : (Q9 m).length≤12) : ∃ X' d' r s c,R (n+13) YS [pt d] X=some (pt d',X')∧HLe X X'∧OfS X X' d' r s c [] ((Q9 m).map Kg):=by
 obtain ⟨v,q,X1,e1,r1,k1,o1⟩:=ZrL (n:=n+9) h
 have e1 : R (n+12) KA [pt d] X=_:=e1
 have hl : Zp v X1=some (iv (Q9 m).length,X1):=by have:=r1.rd.len (H':=X1);rwa [List.length_map] at this
 obtain ⟨X2,sl,q2,e2,r2,k2,o2⟩:=Zw8 (n:=n+11) (H0:=X1) (by omega) r1.rd (Q9 m).length 0 (.slice none 0 0) [] X1 (by omega) (by omega) (.refl _) (by simp) Jf.nil
 have e2 : Zh (c4 (Kh.l1 (R (n+12)))) [.slice none 0 0,v,iv (Q9 m).length,.int .i64 0] X1=_:=e2
 obtain ⟨X3,k3,h3⟩:=ZuE (n:=n) (us:=(Q9 m).map Kg) (gs:=[]) (by rw [List.length_map];omega) (by simp) r2.us (Zw.nil (H:=X2)).rd
 rw [if_pos (Zzx hE hR hn)] at h3
 obtain ⟨d',r,s,c,e3,hS⟩:=h3
 have hle:=(k1.trans k2).trans k3
 refine ⟨X3,d',r,s,c,?_,hle,⟨hle,hS.nd,fun i hi=>Nat.le_trans (k1.trans k2).len (hS.own i hi),hS.K,hS.ok⟩⟩
 rw [R,Zih rfl]
 unfold Kh
 have q0 : bop .ptr .eql (pt d) (.pointer none) X=some (.bool false,X):=Ja
 rw [Za q0,Zb,if_neg (by simp),Za e1,Za hl,Qh e2,ZE,JV,Za e3,Za ZA,Za Zz]
 rfl
theorem ZqA {r : NR} {s : NSt} {c d' : Nat} (hS : OfS X X' d' r s c [] (m.map Kg)) : Zfq (ZM s.K) (A.allK s)=Zfq [] (m.map kOf):=by
 have h1 : ZM s.K=[]:=by rw [hS.K];exact List.eq_nil_of_length_eq_zero (by rw [KC];rfl)
 have h2:=hS.ok.all hS.nd.pinv.n
 rw [h1,← h2,List.map_map]
 rfl
end
end Go.Proofs.YtedkoimihknggaaGreatDoor.A

namespace Go.Proofs.YtedkoimihknggaaGreatDoor.A
set_option linter.unusedVariables false
set_option linter.unusedSimpArgs false
open Go.Proofs Go.Proofs.YtedkoimihknggaaGreatDoor
section
variable {X X' H H0 : Zd} {n d b : Nat} {v sl gv bv : Value} {m : List Ent} {e : Ent} {q : List Nat} {bs : List UInt8}
theorem Zo1 (hR : ZfP m) : YE (m.map (·.1))=true:=ZfE (List.pairwise_map.2 hR)
theorem Zr6 (hs : Sl X bv (u8s bs)) (hb : bs.length≤100000000) (h2 : schemaS bs≠2) (h0 : (ZbE bs).1=0) : ∃ v X',R (n+14) ZbJ [bv] X=some (.tuple #[v,iv 0],X')∧HLe X X'∧Sl X' v (u8s (Zfq [] ((ZbE bs).2.map kOf))):=by
 have e0 : R (n+13) Zbj [bv] X=some (iv (schemaS bs),X):=ZvU (n:=n+12) hs hb
 have q0 : bop .int .eql (iv (schemaS bs)) (.int .i64 2) X=some (.bool (decide (schemaS bs=2)),X):=by
  rw [ZG,show ((schemaS bs : Int)==2)=decide (schemaS bs=2) from by rw [Bool.eq_iff_iff,decide_eq_true_eq,beq_iff_eq];omega]
 rw [decide_eq_false h2] at q0
 obtain ⟨dv,X1,e1,k1,hz,hok⟩:=Zun (n:=n+5) hs hb
 have e1 : R (n+13) ZaQ [bv] X=_:=e1
 have q1 : bop .int .neq (iv (ZbE bs).1) (.int .i64 0) X1=some (.bool ((ZbE bs).1 !=0),X1):=by rw [Zo,ZqL]
 obtain ⟨d,b,rfl,D,R1,hof⟩:=hok h0
 have hss:=Zvy D.g.nod R1
 obtain ⟨g1,g2⟩:=ZzA hof
 obtain ⟨X2,d',r,s,c,e2,k2,hS⟩:=ZnU (n:=n) D (by rw [hss];exact g1) (by rw [hss];exact Zo1 R1) (by rw [hss];exact g2)
 rw [hss] at hS
 obtain ⟨w,q,X3,e3,r3,k3,_⟩:=ZfJ (n:=n+1) hS.nd
 have e3 : R (n+13) QG [pt d'] X2=_:=e3
 rw [ZqA hS] at r3
 refine ⟨w,X3,?_,(k1.trans k2).trans k3,r3.rd⟩
 rw [R,ZlY rfl]
 unfold ZdK
 rw [Za e0,Za q0,Zb,if_neg (by simp),Za e1,Za ZA,Za Zz,Za q1,Zb,if_neg (by simp [h0]),Za e2,Za e3]
 rfl
end
end Go.Proofs.YtedkoimihknggaaGreatDoor.A

namespace Go.Proofs.YtedkoimihknggaaGreatDoor.A
set_option linter.unusedVariables false
set_option maxRecDepth 100000
set_option linter.unusedSimpArgs false
open Go.Proofs Go.Proofs.YtedkoimihknggaaGreatDoor
section
variable {α : Type} {x y : List (Tx × α)} {v : α} {j k o p : Tx} {OW OF OW' OF' : Qo} {s t : NSt} {K K' : List Tx} {m : Tx} {u : Zcf}
theorem ZdR : k∈x.map (·.1)↔(Zf k x).isSome=true:=by
 constructor
 ·intro h
  cases hk : Zf k x with
  | none=>
   rw [ZcE] at hk
   obtain ⟨q,hq,rfl⟩:=List.mem_map.1 h
   exact absurd rfl (hk q hq)
  | some v=>rfl
 ·intro h
  obtain ⟨v,hv⟩:=Option.isSome_iff_exists.1 h
  exact List.mem_map.2 ⟨(k,v),KK hv,rfl⟩
theorem Zi8 (h : K.Nodup) (h' : K'.Nodup) (hk : ∀ g,g∈K↔g∈K') : ZM K=ZM K':=
 Zob (Zek h) (Zek h') fun x=>by rw [Kz,Kz];exact hk x
end
end Go.Proofs.YtedkoimihknggaaGreatDoor.A

namespace Go.Proofs.YtedkoimihknggaaGreatDoor.A
set_option linter.unusedVariables false
set_option linter.unusedSimpArgs false
open Go.Proofs Go.Proofs.YtedkoimihknggaaGreatDoor
structure Par (m : Qo) (s : NSt) : Prop where
 a : ∀ k,Zf k s.A=(Zf k m).map fun h=>(h,false)
 K : s.K=[]
 f : ∀ k,Zf k s.OF=none
section
variable {m : Qo} {s : NSt} {k h : Tx} {X X' : Zd} {d c : Nat} {r : NR}
theorem Par.some (p : Par m s) : (Zf k s.A).isSome=(Zf k m).isSome:=by
 rw [p.a]
 cases Zf k m <;> rfl
theorem Par.len (p : Par m s) (hs : ZeD s) (hm : (m.map (·.1)).Nodup) : s.A.length=m.length:=by
 have:=congrArg List.length (Zi8 hs.n hm (fun g=>by unfold KF;rw [ZdR,ZdR,p.some]))
 rw [KC,KC] at this
 simpa using this
theorem Zlf (p : Par m s) (hs : ZeD s) (hm : (m.map (·.1)).Nodup) : Kw k h s.A=YJ k h m:=by
 unfold Kw YJ ZF ZW ZbF WF
 rw [p.some,p.len hs hm]
 cases Zy k <;> cases YD h <;> simp
theorem Zum (p : Par m s) (hs : ZeD s) (hm : (m.map (·.1)).Nodup) : Par (Zfh k h m) (Za8 k h s):=by
 unfold Zfh Za8
 rw [Zlf p hs hm]
 split
 ·refine ⟨fun j=>?_,p.K,p.f⟩
  by_cases e : j=k
  ·subst e
   show Zf j (Qt j (h,false) s.A)=_
   rw [KB,KB];rfl
  ·show Zf j (Qt k (h,false) s.A)=_
   rw [Yo e,Yo e];exact p.a j
 ·exact p
theorem ZgH (p : Par m s) : Qw k s.A=Je k m:=by
 unfold Qw Je ZF Ko WF
 rw [p.some]
 cases Zy k <;> simp
theorem Ztv (p : Par m s) : Par (Zfl k m) (Za6 k s):=by
 unfold Zfl Za6
 rw [ZgH p]
 split
 ·refine ⟨fun j=>?_,p.K,fun j=>?_⟩
  ·by_cases e : j=k
   ·subst e
    show Zf j (KU j s.A)=_
    rw [ZaH,ZaH];rfl
   ·show Zf j (KU k s.A)=_
    rw [YO e,YO e];exact p.a j
  ·show Zf j (KX k s.OF)=none
   unfold KX
   rw [p.f]
   exact p.f j
 ·exact p
theorem Zrl (p : Par m s) : YB k h s.A=WY k h m:=by
 unfold YB WY ZF ZW Ko WF
 rw [p.some]
 have hd : (K9 k s.A).2=false:=by
  unfold K9
  rw [p.a]
  cases Zf k m <;> rfl
 rw [hd]
 cases Zy k <;> cases YD h <;> simp
theorem Zxd (p : Par m s) : Par (ZoB k h m) (W9 k h s):=by
 unfold ZoB W9
 rw [Zrl p]
 split
 ·have hd : (K9 k s.A).2=false:=by
   unfold K9
   rw [p.a]
   cases Zf k m <;> rfl
  refine ⟨fun j=>?_,p.K,p.f⟩
  show Zf j (Qt k (h,(K9 k s.A).2) s.A)=_
  rw [hd]
  by_cases e : j=k
  ·subst e
   rw [KB,KB];rfl
  ·rw [Yo e,Yo e];exact p.a j
 ·exact p
theorem Zxs (p : Par m s) (hs : ZeD s) (hm : (m.map (·.1)).Nodup) : A.allK s=(Q9 m).map kOf:=by
 unfold A.allK Q9
 rw [Zi8 hs.n hm (fun g=>by unfold KF;rw [ZdR,ZdR,p.some]),List.map_map]
 refine List.map_congr_left fun k hk=>?_
 have h1:=ZdR.1 (Kz.1 hk)
 obtain ⟨h,hh⟩:=Option.isSome_iff_exists.1 h1
 have hl : ofL k s.K s.mem=[]:=by
  unfold ofL
  rw [p.K,List.eq_nil_of_length_eq_zero (show (ZM ([] : List Tx)).length=0 by rw [KC];rfl)]
  rfl
 show Yt s k ((Zf k s.A).getD ([],false))=kOf (k,(Zf k m).getD [])
 rw [p.a,hh]
 unfold Yt kOf
 rw [p.f,hl]
 rfl
theorem Zy2 (hS : OfS X X' d r s c [] ((Q9 m).map Kg)) (hm : (m.map (·.1)).Nodup) : Par m s:=by
 have hP:=hS.nd.pinv
 have hU : ∀ e : Ent,e∈Q9 m→Jp s e.1=some (kOf e):=fun e he=>(hS.ok.look (kOf e)).1 (by rw [List.map_map];exact List.mem_map.2 ⟨e,he,rfl⟩)
 have hof : ∀ k,Zf k s.OF=none:=fun k=>by
  cases h1 : Zf k s.OF with
  | none=>rfl
  | some v=>
   have h2:=hP.i.ofA k (by rw [h1];rfl)
   obtain ⟨p,hp⟩:=Option.isSome_iff_exists.1 h2
   have h3 : Jp s k=some (Yt s k p):=by unfold Jp;rw [hp];rfl
   have h4 : Yt s k p∈((Q9 m).map Kg).map Jr:=(hS.ok.look (Yt s k p)).2 h3
   rw [List.map_map] at h4
   obtain ⟨e,he,hek⟩:=List.mem_map.1 h4
   have h5 : (Zf k s.OF).getD []=[]:=(congrArg (·.2.2.1) hek).symm
   rw [h1] at h5
   have h5 : v=[]:=h5
   subst h5
   exact absurd rfl (hP.x.lens _ (KK h1)).2.2.1
 refine ⟨fun k=>?_,hS.K,hof⟩
 cases hk : Zf k m with
 | some h=>
  have h1:=hU (k,h) ((Zgi hm).2 hk)
  unfold Jp at h1
  cases h2 : Zf k s.A with
  | none=>
   have h1 : (Zf k s.A).map (Yt s k)=some (kOf (k,h)):=h1
   rw [h2] at h1;cases h1
  | some p=>
   have h1 : (Zf k s.A).map (Yt s k)=some (kOf (k,h)):=h1
   rw [h2] at h1
   have h3 : Yt s k p=kOf (k,h):=Option.some.inj h1
   have h4 : p.1=h:=congrArg (·.2.1) h3
   have h5 : p.2=false:=congrArg (·.2.2.2.1) h3
   obtain ⟨p1,p2⟩:=p
   simp only at h4 h5
   subst h4 h5
   rfl
 | none=>
  cases h2 : Zf k s.A with
  | none=>rfl
  | some p=>
   have h3 : Jp s k=some (Yt s k p):=by unfold Jp;rw [h2];rfl
   have h4 : Yt s k p∈((Q9 m).map Kg).map Jr:=(hS.ok.look (Yt s k p)).2 h3
   rw [List.map_map] at h4
   obtain ⟨e,he,hek⟩:=List.mem_map.1 h4
   have h5 : e.1=k:=congrArg (·.1) hek
   have h6:=(Zgi hm).1 he
   rw [h5,hk] at h6
   cases h6
end
end Go.Proofs.YtedkoimihknggaaGreatDoor.A

namespace Go.Proofs.YtedkoimihknggaaGreatDoor.A
set_option linter.unusedVariables false
set_option linter.unusedSimpArgs false
open Go.Proofs Go.Proofs.YtedkoimihknggaaGreatDoor
def Zdh (u : ZaC) (m : Qo) : Qo:=match u.kd % 3 with
 | 0=>Zfh u.nm u.hs m
 | 1=>Zfl u.nm m
 | _=>ZoB u.nm u.hs m
def Zgg (u : ZaC) (m : Qo) : Int:=match u.kd % 3 with
 | 0=>YJ u.nm u.hs m
 | 1=>Je u.nm m
 | _=>WY u.nm u.hs m
def ZhA (u : ZaC) (s : NSt) : NSt:=match u.kd % 3 with
 | 0=>Za8 u.nm u.hs s
 | 1=>Za6 u.nm s
 | _=>W9 u.nm u.hs s
section
variable {m : Qo} {s : NSt} {k h : Tx} {X X' : Zd} {n d b c : Nat} {r : NR} {u : ZaC}
theorem Zya (p : Par m s) (hs : ZeD s) (hm : (m.map (·.1)).Nodup) : Par (Zdh u m) (ZhA u s):=by
 unfold Zdh ZhA
 split
 ·exact Zum p hs hm
 ·exact Ztv p
 ·exact Zxd p
theorem Zo0 {α : Type} {m : List (Tx × α)} {k : Tx} {v : α} {p : Tx × α} (h : p∈Qt k v m) : p=(k,v)∨p∈m:=by
 unfold Qt at h
 split at h
 ·obtain ⟨q,hq,rfl⟩:=List.mem_map.1 h
  by_cases e : q.1=k
  ·rw [if_pos e];exact .inl rfl
  ·rw [if_neg e];exact .inr hq
 ·rcases List.mem_append.1 h with h | h
  ·exact .inr h
  ·exact .inl (by simpa using h)
theorem ZyJ (h0 : YJ k h m=0) : Zy k=true∧YD h=true:=by
 unfold YJ ZF ZW WF at h0
 cases hk : Zy k
 ·rw [hk] at h0;simp at h0
 ·cases hh : YD h
  ·rw [hk,hh] at h0;simp at h0
  ·exact ⟨rfl,rfl⟩
theorem ZyY (h0 : WY k h m=0) : Zy k=true∧YD h=true:=by
 unfold WY ZF ZW WF at h0
 cases hk : Zy k
 ·rw [hk] at h0;simp at h0
 ·cases hh : YD h
  ·rw [hk,hh] at h0;simp at h0
  ·exact ⟨rfl,rfl⟩
theorem Zrd (g : ∀ p∈m,Ks p=0) : ∀ p∈Zdh u m,Ks p=0:=by
 unfold Zdh
 split
 ·unfold Zfh
  split
  ·rename_i h0
   intro p hp
   rcases Zo0 hp with rfl | hp
   ·exact ZgM.2 (ZyJ h0)
   ·exact g p hp
  ·exact g
 ·unfold Zfl
  split
  ·intro p hp
   exact g p (List.mem_filter.1 hp).1
  ·exact g
 ·unfold ZoB
  split
  ·rename_i h0
   intro p hp
   rcases Zo0 hp with rfl | hp
   ·exact ZgM.2 (ZyY h0)
   ·exact g p hp
  ·exact g
theorem kd3 (kd : Nat) (X : Zd) : bop .int .rem (.int .u8 kd) (.int .u8 3) X=some (.int .u8 ((kd % 3 : Nat) : Int),X):=by
 rw [Jx,if_neg (by omega)]
 rfl
theorem Zus (D : Dir X d b m) (h1 : u.nm.length≤1000000000) (h2 : u.hs.length≤1000000000) : ∃ X',R (n+8) ZaI [pt d,.agg u.cells.toArray] X=some (iv (Zgg u m),X')∧Dir X' d b (Zdh u m)∧Zr [b] X [b] X':=by
 have z1 : alc 1 (.agg u.cells.toArray) X=some (pt X.length,X++[.cells u.cells 1 false false]):=bx (vs:=u.cells) rfl
 have k1 : HLe X (X++[Zg.cells u.cells 1 false false]):=.app _ _
 have g1 : (X++[Zg.cells u.cells 1 false false])[X.length]?=some (.cells u.cells 1 false false):=ZB
 generalize X++[Zg.cells u.cells 1 false false]=X1 at z1 k1 g1
 have st1' : Zr [b] X [b] X1:=k1.step.more (by simp) (fun j hj=>.inl hj)
 have D1:=D.hle k1
 have a0 : ld1 (pa X.length 0) X1=some (.int .u8 u.kd,X1):=Qe g1 rfl
 have a1 : ld1 (pa X.length 1) X1=some (strv u.nm,X1):=Qe g1 rfl
 have a2 : ld1 (pa X.length 2) X1=some (strv u.hs,X1):=Qe g1 rfl
 have q : ∀ j : Int,bop .int .eql (.int .u8 ((u.kd % 3 : Nat) : Int)) (.int .u8 j) X1=some (.bool (decide (((u.kd % 3 : Nat) : Int)=j)),X1):=fun j=>by rw [ZG];rfl
 have f1 : ∀ r X',ZcB (R (n+7)) (pt d) (.agg u.cells.toArray) X=some (r,X')→R (n+8) ZaI [pt d,.agg u.cells.toArray] X=some (r,X'):=fun r X' hr=>by rw [R,ZsN rfl];exact hr
 unfold Zgg Zdh
 have h3 : u.kd % 3 < 3:=Nat.mod_lt _ (by decide)
 rcases (by omega : u.kd % 3=0∨u.kd % 3=1∨u.kd % 3=2) with h | h | h
 ·rw [h] at q
  rw [h]
  obtain ⟨X2,e2,D2,s2⟩:=ZwQ (n:=n) D1 h1 h2
  refine ⟨X2,f1 _ _ ?_,D2,st1'.trans s2⟩
  unfold ZcB
  rw [Za z1,Za Zj,Za a0,Za (kd3 _ _),h,Za (q 0),Zb,if_pos (by rfl),Za Zj,Za a1,Za Zj,Za a2,Za e2]
  rfl
 ·rw [h] at q
  rw [h]
  obtain ⟨X2,e2,D2,s2⟩:=ZvX (n:=n) D1 h1
  refine ⟨X2,f1 _ _ ?_,D2,st1'.trans s2⟩
  unfold ZcB
  rw [Za z1,Za Zj,Za a0,Za (kd3 _ _),h,Za (q 0),Zb,if_neg (by decide),Za (q 1),Zb,if_pos (by rfl),Za Zj,Za a1,Za e2]
  rfl
 ·rw [h] at q
  rw [h]
  obtain ⟨X2,e2,D2,s2⟩:=ZuK (n:=n) D1 h1 h2
  refine ⟨X2,f1 _ _ ?_,D2,st1'.trans s2⟩
  unfold ZcB
  rw [Za z1,Za Zj,Za a0,Za (kd3 _ _),h,Za (q 0),Zb,if_neg (by decide),Za (q 1),Zb,if_neg (by decide),Za Zj,Za a1,Za Zj,Za a2,Za e2]
  rfl
theorem Zvc (D : ND X d r s c) (p : Par m s) (hm : (m.map (·.1)).Nodup) : ∃ X',R (n+11) Wt [pt d,.agg u.cells.toArray] X=some (iv (Zgg u m),X')∧ND X' d r (ZhA u s) c∧Zr r.own X r.own X':=by
 have hP:=D.pinv
 have z1 : alc 1 (.agg u.cells.toArray) X=some (pt X.length,X++[.cells u.cells 1 false false]):=bx (vs:=u.cells) rfl
 have k1 : HLe X (X++[Zg.cells u.cells 1 false false]):=.app _ _
 have g1 : (X++[Zg.cells u.cells 1 false false])[X.length]?=some (.cells u.cells 1 false false):=ZB
 generalize X++[Zg.cells u.cells 1 false false]=X1 at z1 k1 g1
 have st1' : Zr r.own X r.own X1:=k1.step.more (by simp) (fun j hj=>.inl hj)
 have D1:=D.hle k1
 have a0 : ld1 (pa X.length 0) X1=some (.int .u8 u.kd,X1):=Qe g1 rfl
 have a1 : ld1 (pa X.length 1) X1=some (strv u.nm,X1):=Qe g1 rfl
 have a2 : ld1 (pa X.length 2) X1=some (strv u.hs,X1):=Qe g1 rfl
 have q : ∀ j : Int,bop .int .eql (.int .u8 ((u.kd % 3 : Nat) : Int)) (.int .u8 j) X1=some (.bool (decide (((u.kd % 3 : Nat) : Int)=j)),X1):=fun j=>by rw [ZG];rfl
 have f1 : ∀ r X',Zaq (R (n+10)) (pt d) (.agg u.cells.toArray) X=some (r,X')→R (n+11) Wt [pt d,.agg u.cells.toArray] X=some (r,X'):=fun r X' hr=>by rw [R,Zol rfl];exact hr
 unfold Zgg ZhA
 have h3 : u.kd % 3 < 3:=Nat.mod_lt _ (by decide)
 rcases (by omega : u.kd % 3=0∨u.kd % 3=1∨u.kd % 3=2) with h | h | h
 ·rw [h] at q
  rw [h]
  obtain ⟨X2,e2,D2,s2⟩:=ZvB (n:=n) (k:=u.nm) (h:=u.hs) D1
  rw [Zlf p hP hm] at e2
  refine ⟨X2,f1 _ _ ?_,D2,st1'.trans s2⟩
  unfold Zaq
  rw [Za z1,Za Zj,Za a0,Za (kd3 _ _),h,Za (q 0),Zb,if_pos (by rfl),Za Zj,Za a1,Za Zj,Za a2,Za e2]
  rfl
 ·rw [h] at q
  rw [h]
  obtain ⟨X2,e2,D2,s2⟩:=ZuM (n:=n) (k:=u.nm) D1
  rw [ZgH p] at e2
  refine ⟨X2,f1 _ _ ?_,D2,st1'.trans s2⟩
  unfold Zaq
  rw [Za z1,Za Zj,Za a0,Za (kd3 _ _),h,Za (q 0),Zb,if_neg (by decide),Za (q 1),Zb,if_pos (by rfl),Za Zj,Za a1,Za e2]
  rfl
 ·rw [h] at q
  rw [h]
  obtain ⟨X2,e2,D2,s2⟩:=ZtJ (n:=n) (k:=u.nm) (h:=u.hs) D1
  rw [Zrl p] at e2
  refine ⟨X2,f1 _ _ ?_,D2,st1'.trans s2⟩
  unfold Zaq
  rw [Za z1,Za Zj,Za a0,Za (kd3 _ _),h,Za (q 0),Zb,if_neg (by decide),Za (q 1),Zb,if_neg (by decide),Za Zj,Za a1,Za Zj,Za a2,Za e2]
  rfl
end
end Go.Proofs.YtedkoimihknggaaGreatDoor.A

namespace Go.Proofs.YtedkoimihknggaaGreatDoor.A
set_option linter.unusedVariables false
set_option linter.unusedSimpArgs false
open Go.Proofs Go.Proofs.YtedkoimihknggaaGreatDoor
section
variable {H H' : Zd} {sl : Value} {ac : List ZaC} {n : Nat}
theorem ZsR {H0 : Zd} (h : ZaT H0 sl ac) (hn : ac.length≤9223372036854775807) : ∀ (t j : Nat) {X : Zd},ac.length - j=t→j≤ac.length→HLe H0 X→
  ∃ X',Zh (c4 (KO.l1 (R n))) [sl,sl,iv ac.length,iv j] X=some (if (ac.drop j).all Zcs then .ext 0 [sl] else .ret (.bool false),X')∧HLe H0 X'
 | 0,j,X,ht,hj,hle=>by
  have : j=ac.length:=by omega
  subst this
  rw [List.drop_length]
  refine ⟨X,ZV ?_,hle⟩
  rw [ZH]
  unfold KO.l1
  rw [Za Zk,Zb,if_neg (by simp)]
  rfl
 | t+1,j,X,ht,hj,hle=>by
  have hjn : j < ac.length:=by omega
  have hlt : (j : Int) < ac.length:=by omega
  have hja:=List.getElem?_eq_getElem hjn
  have hd:=List.drop_eq_getElem_cons hjn
  generalize ac[j]=a at hja hd
  have g1 : (X++[Zg.cells a.cells 1 false false])[X.length]?=some (.cells a.cells 1 false false):=ZB
  have l1 : ld1 (pa X.length 1) (X++[.cells a.cells 1 false false])=some (strv a.nm,X++[.cells a.cells 1 false false]):=Qe g1 rfl
  have l2 : ld1 (pa X.length 2) (X++[.cells a.cells 1 false false])=some (strv a.hs,X++[.cells a.cells 1 false false]):=Qe g1 rfl
  have hf:=fun {K : Value→M Out}=>(h.mono hle).fetch (k:=K) hja
  have k1:=hle.trans (HLe.app X [.cells a.cells 1 false false])
  generalize X++[Zg.cells a.cells 1 false false]=X1 at g1 l1 l2 k1 hf
  obtain ⟨X2,e2,k2⟩:=ZsR h hn t (j+1) (by omega) (by omega) k1
  rw [hd,List.all_cons]
  have hb : KO.l1 (R n) sl sl (iv ac.length) (iv j) X=some (if Zcs a then .nrm [sl,sl,iv ac.length,iv ((j+1 : Nat) : Int)] else .ret (.bool false),X1):=by
   unfold KO.l1
   rw [Za Zk,Zb,if_pos (by simpa using hlt),hf,Za J7,Za l1,Za ZP,Za ZT]
   unfold Zcs
   by_cases h1 : a.nm.length≤50
   ·have h1' : ¬ ((a.nm.length : Int) > 50):=by omega
    rw [decide_eq_false h1',Qq,Zs,Za J7,Zs,Za l2,Zs,Za ZP,Zs,Za ZT,Qz,ZH,Za Zn,decide_eq_true h1]
    simp only [cond_false]
    by_cases h2 : a.hs.length≤50
    ·have h2' : ¬ ((a.hs.length : Int) > 50):=by omega
     rw [decide_eq_false h2',Zb,if_neg (by simp),Za ZC,Q5 (by omega),decide_eq_true h2]
     rfl
    ·have h2' : ((a.hs.length : Int) > 50):=by omega
     rw [decide_eq_true h2',Zb,if_pos rfl,decide_eq_false h2]
     rfl
   ·have h1' : ((a.nm.length : Int) > 50):=by omega
    rw [decide_eq_true h1',Za (g_r.trans (if_neg (by simp)))]
    simp only [List.replicate]
    rw [ZH,Za Zn]
    simp only [cond_true]
    rw [Zb,if_pos rfl,decide_eq_false h1]
    rfl
  cases hfa : Zcs a
  ·rw [hfa] at hb
   exact ⟨X1,JX hb,k1⟩
  ·rw [hfa] at hb
   exact ⟨X2,(ZI hb).trans e2,k2⟩
theorem Zta (h : ZaT H sl ac) (hn : ac.length≤9223372036854775807) : ∃ H',R (n+1) Wa [sl] H=some (.bool (ac.all Zcs && decide (ac.length≤60)),H')∧HLe H H':=by
 obtain ⟨H',e,k⟩:=ZsR (n:=n) h hn ac.length 0 (by omega) (by omega) (.refl _)
 rw [List.drop_zero] at e
 have e : Zh (c4 (KO.l1 (R n))) [sl,sl,iv ac.length,.int .i64 0] H=_:=e
 refine ⟨H',?_,k⟩
 rw [R,ZrD rfl]
 unfold KO
 rw [Za h.len]
 cases hf : ac.all Zcs
 ·rw [hf] at e
  rw [Kj e];rfl
 ·rw [hf] at e
  rw [Qh e,ZE,JV,Za h.len,Za Jj]
  simp [ret,decide_eq_decide]
  omega
end
end Go.Proofs.YtedkoimihknggaaGreatDoor.A

namespace Go.Proofs.YtedkoimihknggaaGreatDoor.A
set_option linter.unusedVariables false
set_option linter.unusedSimpArgs false
open Go.Proofs Go.Proofs.YtedkoimihknggaaGreatDoor
section
variable {m : Qo} {s : NSt} {k h pre : Tx} {X X' H0 : Zd} {n d b c e : Nat} {r : NR} {u : ZaC} {ac : List ZaC} {sl z1 z2 z3 : Value}
theorem Dir.isM (D : Dir X d b m) : b < X.length∧∀ cs es g ro,X[b]?≠some (Zg.cells cs es g ro):=D.g.isMap
theorem ZsT (h : Zcs u=true) : u.nm.length≤50∧u.hs.length≤50:=by
 unfold Zcs at h
 simpa using h
theorem Zvt (hn : ac.length≤9223372036854775807) (hA : ZaT H0 sl ac) (hF : ac.all Zcs=true) (hb : H0.length≤b) : ∀ (t j : Nat) (m : Qo) (X : Zd),ac.length - j=t→j≤ac.length→HLe H0 X→Dir X d b m→(∀ p∈m,Ks p=0)→
  ∃ X' m',Zh (c7 (ZK.l1 (R (n+8)))) [z1,z2,z3,pt d,sl,iv ac.length,iv j] X=some (.ext 0 [z1,z2,z3,pt d],X')∧HLe H0 X'∧Dir X' d b m'∧∀ p∈m',Ks p=0
 | 0,j,m,X,ht,hj,hle,D,hE=>by
  have hj : j=ac.length:=by omega
  subst hj
  refine ⟨X,m,ZV ?_,hle,D,hE⟩
  rw [YC]
  unfold ZK.l1
  rw [Za Zk,Zb,if_neg (by simp)]
  rfl
 | t+1,j,m,X,ht,hj,hle,D,hE=>by
  have hkl : j < ac.length:=by omega
  have hlt : (j : Int) < ac.length:=by omega
  have hja:=List.getElem?_eq_getElem hkl
  generalize ac[j]=u at hja
  obtain ⟨h1,h2⟩:=ZsT (List.all_eq_true.1 hF u (List.mem_of_getElem? hja))
  have hf:=fun {K : Value→A.M Out}=>(hA.mono hle).fetch (k:=K) hja
  have k1 : HLe X (X++[Zg.cells u.cells 1 false false]):=.app _ _
  have g1 : (X++[Zg.cells u.cells 1 false false])[X.length]?=some (.cells u.cells 1 false false):=ZB
  generalize X++[Zg.cells u.cells 1 false false]=X1 at hf k1 g1
  have d1 : ldA 3 (pt X.length) X1=some (.agg u.cells.toArray,X1):=Jz (n:=3) g1 rfl
  obtain ⟨X2,e2,D2,s2⟩:=Zus (n:=n) (u:=u) (D.hle k1) (by omega) (by omega)
  have m2:=((hle.trans k1).more s2 (by simpa using hb)).1
  obtain ⟨X3,m3,e3,l3,D3,E3⟩:=Zvt hn hA hF hb t (j+1) (Zdh u m) X2 (by omega) (by omega) m2 D2 (Zrd hE)
  refine ⟨X3,m3,(ZI ?_).trans e3,l3,D3,E3⟩
  rw [YC]
  unfold ZK.l1
  rw [Za Zk,Zb,if_pos (by simpa using hlt),hf,Za d1,Za e2,Za ZC,Q5 (by omega)]
  rfl
theorem ZwX (D : Dir X d b m) (hE : ∀ p∈m,Ks p=0) : (∀ e∈Q9 m,Ks e=0)∧YE ((Q9 m).map (·.1))=true∧(Q9 m).length≤12:=
 ⟨fun e he=>hE e (KK ((Zgi D.g.nod).1 he)),Zo1 (ZmO D.g.nod),by rw [Zjc];exact D.few⟩
structure ZeA (H0 X : Zd) (d b : Nat) (m : Qo) (e : Nat) (r : NR) (s : NSt) (c : Nat) : Prop where
 le : HLe H0 X
 D : Dir X d b m
 N : ND X e r s c
 p : Par m s
 g : ∀ p∈m,Ks p=0
 hb : H0.length≤b
 ho : ∀ i∈r.own,H0.length≤i
 dis : b∉r.own
theorem ZeA.hle (h : ZeA H0 X d b m e r s c) (hl : HLe X X') : ZeA H0 X' d b m e r s c:=⟨h.le.trans hl,h.D.hle hl,h.N.hle hl,h.p,h.g,h.hb,h.ho,h.dis⟩
theorem ZeA.act {q : Nat} (h : ZeA H0 X d b m e r s c) (h1 : u.nm.length≤50) (h2 : u.hs.length≤50) (hq : X[q]?=some (.cells u.cells 1 false false)) : ∃ X1 X2,R (n+11) ZaI [pt d,.agg u.cells.toArray] X=some (iv (Zgg u m),X1)∧X1[q]?=some (.cells u.cells 1 false false)∧R (n+11) Wt [pt e,.agg u.cells.toArray] X1=some (iv (Zgg u m),X2)∧ZeA H0 X2 d b (Zdh u m) e r (ZhA u s) c:=by
 obtain ⟨X1,e1,D1,s1⟩:=Zus (n:=n+3) (u:=u) h.D (by omega) (by omega)
 have hM:=h.D.isM.2
 have N1 : ND X1 e r s c:=h.N.step s1 (fun x=>by have:=List.mem_singleton.1 x;subst this;exact hM _ _ _ _ h.N.cell) (fun x=>by have:=List.mem_singleton.1 x;exact hM _ _ _ _ (by rw [← this];exact h.N.ix.c)) (fun x=>by have:=List.mem_singleton.1 x;exact hM _ _ _ _ (by rw [← this];exact h.N.gr.cell)) (fun j hj x=>by have:=List.mem_singleton.1 x;subst this;exact h.dis hj)
 have hq1:=s1.get hq (fun x=>by have:=List.mem_singleton.1 x;subst this;exact hM _ _ _ _ hq)
 obtain ⟨X2,e2,N2,s2⟩:=Zvc (n:=n) (u:=u) N1 h.p h.D.g.nod
 have D2 : Dir X2 d b (Zdh u m):=⟨s2.get D1.c (fun x=>(N1.isMap x).2 _ _ _ _ D1.c),D1.g.step s2 h.dis,D1.len,D1.few⟩
 have l1:=(h.le.more s1 (by simpa using h.hb)).1
 exact ⟨X1,X2,e1,hq1,e2,⟨(l1.more s2 h.ho).1,D2,N2,Zya h.p h.N.pinv h.D.g.nod,Zrd h.g,h.hb,h.ho,h.dis⟩⟩
end
end Go.Proofs.YtedkoimihknggaaGreatDoor.A

namespace Go.Proofs.YtedkoimihknggaaGreatDoor.A
set_option linter.unusedVariables false
set_option linter.unusedSimpArgs false
open Go.Proofs Go.Proofs.YtedkoimihknggaaGreatDoor
section
variable {X X' H H0 : Zd} {n : Nat} {a : Value} {bs : List UInt8}
theorem ZxC {vs : List Value} {k : Nat} (h : vs.length=k) : Sl (X++[.cells vs 1 false false]) (.slice (some ⟨X.length,0,none⟩) k k) vs:=by
 subst h
 exact Zw.rd (own:=[X.length]) (.inr ⟨X.length,[],false,rfl,rfl,by rw [ZB];simp⟩)
theorem Zpx : ∃ H',R (n+15) KR [] H=some (.bool true,H')∧HLe H H':=by
 have z1 : bsl 1 3 (.int .u8 0) [(0,1,(Value.int .u8 1)),(1,1,(Value.int .u8 0)),(2,1,(Value.int .u8 0))] H=some (.slice (some ⟨H.length,0,none⟩) 3 3,H++[.cells (u8s [1,0,0]) 1 false false]):=rfl
 have k1 : HLe H (H++[Zg.cells (u8s [1,0,0]) 1 false false]):=.app _ _
 have s1 : Sl (H++[Zg.cells (u8s [1,0,0]) 1 false false]) (.slice (some ⟨H.length,0,none⟩) 3 3) (u8s [1,0,0]):=ZxC rfl
 generalize H++[Zg.cells (u8s [1,0,0]) 1 false false]=X1 at z1 k1 s1
 have hm : ZbE [1,0,0]=(0,[]):=by decide
 obtain ⟨v,X2,e2,k2,s2⟩:=Zr6 (n:=n) s1 (by simp) (by decide) (by rw [hm])
 have he : Zfq [] ((ZbE [1,0,0]).2.map kOf)=[2,0,0,0,0]:=by decide
 rw [he] at s2
 have q1 : bop .int .eql (iv 0) (.int .i64 0) X2=some (.bool true,X2):=by rw [ZG];rfl
 have q2 : bop .str .eql (strv [2,0,0,0,0]) (.string ⟨#[2,0,0,0,0]⟩) X2=some (.bool true,X2):=Zgq (b:=[2,0,0,0,0])
 refine ⟨X2,?_,k1.trans k2⟩
 rw [R,ZoJ rfl]
 unfold ZfR
 rw [Za z1,Za e2,Za ZA,Za Zz,Za q1,Qq,Zs,Za (Zf9 s2),Zs,Za q2,Qz,Z4,Za Zn]
 rfl
end
end Go.Proofs.YtedkoimihknggaaGreatDoor.A

namespace Go.Proofs.YtedkoimihknggaaGreatDoor.A
set_option linter.unusedVariables false
set_option linter.unusedSimpArgs false
open Go.Proofs Go.Proofs.YtedkoimihknggaaGreatDoor
section
variable {m : Qo} {s : NSt} {nm pre : Tx} {X X' H H0 : Zd} {n d b c e : Nat} {r : NR} {u : ZaC} {ac : List ZaC} {sl z1 z2 z3 : Value}
theorem Zwx {j : Nat} (hn : ac.length≤9223372036854775807) (hA : ZaT H0 sl ac) (hF : ac.all Zcs=true) (hnm : nm.length≤50) (hpre : pre.length≤50) (hja : ac[j]?=some u) (h : ZeA H0 X d b m e r s c) :
  ∃ X',ZK.l2 (R (n+15)) (strv nm) (strv pre) (pt d) (pt e) sl (iv ac.length) (iv j) X=some (.nrm [strv nm,strv pre,pt d,pt e,sl,iv ac.length,iv ((j+1 : Nat) : Int)],X')∧ZeA H0 X' d b (Zdh u m) e r (ZhA u s) c:=by
 have hkl : j < ac.length:=(List.getElem?_eq_some_iff.1 hja).1
 have hlt : (j : Int) < ac.length:=by omega
 obtain ⟨h1,h2⟩:=ZsT (List.all_eq_true.1 hF u (List.mem_of_getElem? hja))
 have hf:=fun {K : Value→A.M Out}=>(hA.mono h.le).fetch (k:=K) hja
 have k1 : HLe X (X++[Zg.cells u.cells 1 false false]):=.app _ _
 have g1 : (X++[Zg.cells u.cells 1 false false])[X.length]?=some (.cells u.cells 1 false false):=ZB
 generalize X++[Zg.cells u.cells 1 false false]=X1 at hf k1 g1
 have d1 : ldA 3 (pt X.length) X1=some (.agg u.cells.toArray,X1):=Jz (n:=3) g1 rfl
 obtain ⟨X2,X3,e2,g2,e3,B3⟩:=(h.hle k1).act (n:=n+4) h1 h2 g1
 have e2 : R (n+15) ZaI [pt d,.agg u.cells.toArray] X1=_:=e2
 have e3 : R (n+15) Wt [pt e,.agg u.cells.toArray] X2=_:=e3
 have d2 : ldA 3 (pt X.length) X2=some (.agg u.cells.toArray,X2):=Jz (n:=3) g2 rfl
 generalize Zdh u m=m' at B3
 generalize ZhA u s=s' at B3
 have q3 : bop .int .neq (iv (Zgg u m)) (iv (Zgg u m)) X3=some (.bool false,X3):=by rw [Zo];simp
 obtain ⟨u1,u2,u3⟩:=ZwX B3.D B3.g
 obtain ⟨X4,d4,r4,s4,c4',e4,k4,hS4⟩:=ZnU (n:=n+2) B3.D u1 u2 u3
 have e4 : R (n+15) YS [pt d] X3=_:=e4
 obtain ⟨w5,q5,X5,e5,r5,k5,_⟩:=ZfJ (n:=n+3) hS4.nd
 have e5 : R (n+15) QG [pt d4] X4=_:=e5
 rw [ZqA hS4] at r5
 have k45:=k4.trans k5
 obtain ⟨w6,q6,X6,e6,r6,k6,_⟩:=ZfJ (n:=n+3) (B3.N.hle k45)
 have e6 : R (n+15) QG [pt e] X5=_:=e6
 rw [Zxs B3.p B3.N.pinv B3.D.g.nod,B3.p.K,show ZM ([] : List Tx)=[] from List.eq_nil_of_length_eq_zero (by rw [KC];rfl)] at r6
 have y5:=Zf9 r5.rd
 have y5':=Zf9 (r5.rd.mono k6)
 have y6:=Zf9 r6.rd
 have q7 : bop .str .neq (strv (Zfq [] ((Q9 m').map kOf))) (strv (Zfq [] ((Q9 m').map kOf))) X6=some (.bool false,X6):=by rw [Ze7];simp
 have B6:=B3.hle (k45.trans k6)
 obtain ⟨X7,e7,k7⟩:=Zwe (n:=n+8) (k:=nm) B6.D (by omega)
 have e7 : R (n+15) WD [pt d,strv nm] X6=_:=e7
 obtain ⟨v,qv,X8,e8,r8,o8,k8,_,hk8⟩:=Zo6 (n:=n+8) (k:=nm) (B6.N.hle k7)
 have e8 : R (n+15) Y8 [pt e,strv nm] X7=_:=e8
 have hen : Qw nm s'.A=Je nm m':=ZgH B6.p
 rw [hen] at e8 hk8
 have hhs : v.hs=if Je nm m'=0 then (Zf nm m').getD [] else []:=by
  have h3 : v.hs=(Jr v).2.1:=rfl
  rw [h3,hk8]
  by_cases h0 : Je nm m'=0
  ·rw [if_pos h0,if_pos h0]
   show ((Zf nm s'.A).getD ([],false)).1=_
   rw [B6.p.a]
   cases Zf nm m' <;> rfl
  ·rw [if_neg h0,if_neg h0]
 rw [← hhs] at e7
 have z9 : ∀ K : Value→A.M Out,bind (alc 1 zU) (fun q=>bind (stA 5 q (.agg v.cells.toArray)) fun _=>K q) X8=K (pt X8.length) (X8++[.cells v.cells 1 false false]):=fun K=>Zdo (n:=5) (zs:=usr ([],[])) (r:=v.cells) rfl rfl rfl (Znd r8.one.1)
 have k9 : HLe X8 (X8++[Zg.cells v.cells 1 false false]):=.app _ _
 have g9 : (X8++[Zg.cells v.cells 1 false false])[X8.length]?=some (.cells v.cells 1 false false):=ZB
 generalize X8++[Zg.cells v.cells 1 false false]=X9 at z9 k9 g9
 generalize X8.length=b9 at z9 g9
 have B9:=B6.hle ((k7.trans k8).trans k9)
 obtain ⟨lv,ql,Xa,ea,ra,ka,_⟩:=ZuD (n:=n+9) (pre:=pre) B9.D (by omega)
 have ea : R (n+15) ZaA [pt d,strv pre] X9=_:=ea
 obtain ⟨mv,qm,Xb,eb,rb,kb⟩:=ZxS (n:=n+9) (pre:=pre) (B9.N.hle ka) (by omega)
 have eb : R (n+15) ZaD [pt e,strv pre] Xa=_:=eb
 have hks : ZM (KF s')=ZM (m'.map (·.1)):=Zi8 B9.N.pinv.n B9.D.g.nod (fun g=>by unfold KF;rw [ZdR,ZdR,B9.p.some])
 rw [hks] at rb
 have hlen : ((if ZhN pre then (ZM (m'.map (·.1))).filter (ZdH pre) else []) : List Tx).length≤1000:=by
  split
  ·have h5:=List.length_filter_le (ZdH pre) (ZM (m'.map (·.1)))
   rw [KC,List.length_map] at h5
   have:=B9.D.few
   omega
  ·simp
 have ec:=ZsG (n:=n+14) hlen (ra.rd.mono kb) rb.rd
 have ec : R (n+15) Wz [lv,mv] Xb=_:=ec
 have a9 : ld1 (pa b9 1) Xb=some (strv v.hs,Xb):=Qe (kb _ _ (ka _ _ g9)) rfl
 have qa : bop .str .neq (strv v.hs) (strv v.hs) Xb=some (.bool false,Xb):=by rw [Ze7];simp
 have qb : bop .int .neq (iv (Je nm m')) (iv (Je nm m')) Xb=some (.bool false,Xb):=by rw [Zo];simp
 have qc : bop .int .neq (iv (Ky pre)) (iv (Ky pre)) Xb=some (.bool false,Xb):=by rw [Zo];simp
 refine ⟨Xb,?_,B9.hle (ka.trans kb)⟩
 unfold ZK.l2
 rw [Za Zk,Zb,if_pos (by simpa using hlt),hf,Za d1,Za d1,Za e2,Za d2,Jd,Za e3,Za q3]
 rw [Yu,Qz,Yu,Qz,Yu,Za e4,Yu,Za e5,Yu,Za y5,Yu,Za e6,Yu,Za y5',Jd,Yu,Za y6,Yu,Za q7,Za Zn]
 simp only [cond_false]
 rw [Zb,if_neg (by simp),Za e7,Za ZA,Za Zz,Za e8,Za ZA,Za Zz,z9,Za ea,Za ZA,Za Zz,Za eb,Za ZA,Za Zz,Za Zj,Za a9,Za qa]
 rw [Qq,Zs,Za qb,Qz,Z4,Za Zn]
 simp only [cond_false]
 rw [Qq,Zs,Za qc,Qz,Z4,Za Zn]
 simp only [cond_false]
 rw [Qq,Zs,Za ec,Zs,Za ZU,Qz,ZH,Za Zn]
 simp only [cond_false,Bool.not_true]
 rw [Zb,if_neg (by simp),Za ZC,Q5 (by omega)]
 rfl
theorem ZvK (hn : ac.length≤9223372036854775807) (hA : ZaT H0 sl ac) (hF : ac.all Zcs=true) (hnm : nm.length≤50) (hpre : pre.length≤50) : ∀ (t j : Nat) (m : Qo) (s : NSt) (X : Zd),ac.length - j=t→j≤ac.length→ZeA H0 X d b m e r s c→
  ∃ X',Zh (c7 (ZK.l2 (R (n+15)))) [strv nm,strv pre,pt d,pt e,sl,iv ac.length,iv j] X=some (.ext 2 [],X')
 | 0,j,m,s,X,ht,hj,h=>by
  have hj : j=ac.length:=by omega
  subst hj
  refine ⟨X,ZV ?_⟩
  rw [YC]
  unfold ZK.l2
  rw [Za Zk,Zb,if_neg (by simp)]
  rfl
 | t+1,j,m,s,X,ht,hj,h=>by
  have hkl : j < ac.length:=by omega
  have hja:=List.getElem?_eq_getElem hkl
  obtain ⟨X1,e1,h1⟩:=Zwx (n:=n) hn hA hF hnm hpre hja h
  obtain ⟨X2,e2⟩:=ZvK hn hA hF hnm hpre t (j+1) _ _ X1 (by omega) (by omega) h1
  refine ⟨X2,(ZI ?_).trans e2⟩
  rw [YC]
  exact e1
theorem ZuP {x1 x2 : Value} {a1 a2 : List ZaC} (hA : ZaT H x1 a1) (hB : ZaT H x2 a2) (hn1 : a1.length≤9223372036854775807) (hn2 : a2.length≤9223372036854775807) : ∃ H',R (n+16) KT [x1,x2,strv nm,strv pre] H=some (.bool true,H'):=by
 have f1 : ∀ r X',ZK (R (n+15)) x1 x2 (strv nm) (strv pre) H=some (r,X')→R (n+16) KT [x1,x2,strv nm,strv pre] H=some (r,X'):=fun r X' hr=>by rw [R,Zhf rfl];exact hr
 obtain ⟨H1,e1,l1⟩:=Zpx (n:=n) (H:=H)
 obtain ⟨H2,e2,l2⟩:=Zta (n:=n+14) (hA.mono l1) hn1
 have e2 : R (n+15) Wa [x1] H1=_:=e2
 obtain ⟨H3,e3,l3⟩:=Zta (n:=n+14) (hB.mono (l1.trans l2)) hn2
 have e3 : R (n+15) Wa [x2] H2=_:=e3
 generalize hb1 : (a1.all Zcs && decide (a1.length≤60))=b1 at e2
 generalize hb2 : (a2.all Zcs && decide (a2.length≤60))=b2 at e3
 have q4 : ∀ (Y : Zd) (t : Tx),bop .int .gtr (iv t.length) (.int .i64 50) Y=some (.bool (decide (50 < t.length)),Y):=fun Y t=>by
  rw [ZT,show (decide ((t.length : Int) > 50))=decide (50 < t.length) from decide_eq_decide.2 (by omega)]
 have tail : ∀ (Y : Zd) (x : Bool) (K : Value→A.M Value),bind (ZD (.bool x) false 3 (bind (QX (strv nm)) fun v38x11=>bind (bop .int .gtr v38x11 (Value.int .i64 50)) fun v39x12=>ret [strv nm,v38x11,v39x12])) (c3 fun _ _ q13_2=>
   bind (pick (.bool x) (Value.bool true) q13_2) fun v40x14=>
   bind (ZD v40x14 false 3 (bind (QX (strv pre)) fun v43x15=>bind (bop .int .gtr v43x15 (Value.int .i64 50)) fun v44x16=>ret [strv pre,v43x15,v44x16])) (c3 fun _ _ q17_2=>
   bind (pick v40x14 (Value.bool true) q17_2) K)) Y=K (.bool (x || decide (50 < nm.length) || decide (50 < pre.length))) Y:=fun Y x K=>by
  have G : ∀ (t : Tx) (x : Bool) (K : Value→A.M Value),bind (ZD (.bool x) false 3 (bind (QX (strv t)) fun v38x11=>bind (bop .int .gtr v38x11 (Value.int .i64 50)) fun v39x12=>ret [strv t,v38x11,v39x12])) (c3 fun _ _ q13_2=>bind (pick (.bool x) (Value.bool true) q13_2) K) Y=K (.bool (x || decide (50 < t.length))) Y:=fun t x K=>by
   cases x
   ·rw [Qq,Zs,Za ZP,Zs,Za (q4 _ _),Qz,Z4,Za Zn]
    rfl
   ·rw [Zts rfl]
    simp only [List.replicate]
    rw [Z4,Za Zn]
    rfl
  refine (G nm x _).trans ?_
  exact G pre _ K
 have lend : ∀ Y,∃ H',R (n+15) KR [] Y=some (.bool true,H'):=fun Y=>(Zpx (n:=n) (H:=Y)).imp fun _ h=>h.1
 cases b1
 ·obtain ⟨H4,e4⟩:=lend H2
  refine ⟨H4,f1 _ _ ?_⟩
  unfold ZK
  rw [Za e1,Za ZU]
  simp only [Bool.not_true]
  rw [Qq,Zs,Za e2,Zs,Za ZU,Qz,Z4,Za Zn]
  simp only [Bool.not_false,cond_false]
  rw [Zts rfl]
  simp only [List.replicate]
  rw [Z4,Za Zn]
  simp only [cond_true]
  refine (tail _ _ _).trans ?_
  rw [Zb,if_pos (by simp),Za e4]
  rfl
 have step : ∀ K : Value→A.M Value,bind (uop .not (.bool true)) (fun v25x2=>
   bind (ZD v25x2 false 3 (bind (R (n+15) Wa [x1]) fun v28x3=>bind (uop .not v28x3) fun v29x4=>ret [x1,v28x3,v29x4])) (c3 fun _ _ q5_2=>
   bind (pick v25x2 (Value.bool true) q5_2) fun v30x6=>
   bind (ZD v30x6 false 3 (bind (R (n+15) Wa [x2]) fun v33x7=>bind (uop .not v33x7) fun v34x8=>ret [x2,v33x7,v34x8])) (c3 fun _ _ q9_2=>
   bind (pick v30x6 (Value.bool true) q9_2) K))) H1=K (.bool (!b2)) H3:=fun K=>by
  rw [Za ZU]
  simp only [Bool.not_true]
  rw [Qq,Zs,Za e2,Zs,Za ZU,Qz,Z4,Za Zn]
  simp only [Bool.not_true,cond_false]
  rw [Qq,Zs,Za e3,Zs,Za ZU,Qz,Z4,Za Zn]
  rfl
 by_cases hz : ((!b2) || decide (50 < nm.length) || decide (50 < pre.length))=true
 ·obtain ⟨H4,e4⟩:=lend H3
  refine ⟨H4,f1 _ _ ?_⟩
  unfold ZK
  rw [Za e1]
  refine (step _).trans ?_
  refine (tail _ _ _).trans ?_
  rw [hz,Zb,if_pos rfl,Za e4]
  rfl
 have hz : ((!b2) || decide (50 < nm.length) || decide (50 < pre.length))=false:=by simpa using hz
 have hF1 : a1.all Zcs=true:=by rw [Bool.and_eq_true] at hb1;exact hb1.1
 have hb2' : b2=true:=by cases b2 <;> simp_all
 have hF2 : a2.all Zcs=true:=by rw [hb2',Bool.and_eq_true] at hb2;exact hb2.1
 have hnm : nm.length≤50:=by
  have : decide (50 < nm.length)=false:=by cases h : decide (50 < nm.length) <;> simp_all
  have:=of_decide_eq_false this
  omega
 have hpre : pre.length≤50:=by
  have : decide (50 < pre.length)=false:=by cases h : decide (50 < pre.length) <;> simp_all
  have:=of_decide_eq_false this
  omega
 have l13:=(l1.trans l2).trans l3
 obtain ⟨X4,d,b,e4,D4,k4,o1,o2⟩:=Zrh (n:=n+14) (H:=H3)
 have e4 : R (n+15) ZaO [] H3=_:=e4
 obtain ⟨X5,m,e5,k5,D5,E5⟩:=Zvt (n:=n+7) (z1:=x2) (z2:=strv nm) (z3:=strv pre) hn1 (hA.mono l13) hF1 o2 a1.length 0 [] X4 (by omega) (by omega) k4 D4 (by simp)
 have e5 : Zh (c7 (ZK.l1 (R (n+15)))) [x2,strv nm,strv pre,pt d,x1,iv a1.length,.int .i64 0] X4=_:=e5
 obtain ⟨u1,u2,u3⟩:=ZwX D5 E5
 obtain ⟨w6,X6,e6,s6,k6⟩:=Zk9 (n:=n+7) D5 u1 Zjc
 have e6 : R (n+15) W8 [pt d] X5=_:=e6
 have y6:=Zf9 s6
 obtain ⟨X7,d7,r7,s7,c7',e7,k7,hS7⟩:=ZnU (n:=n+2) (D5.hle k6) u1 u2 u3
 have e7 : R (n+15) YS [pt d] X6=_:=e7
 have q7 : bop .ptr .eql (pt d7) (.pointer none) X7=some (.bool false,X7):=Ja
 obtain ⟨w8,X8,e8,s8,k8⟩:=Zk9 (n:=n+7) ((D5.hle k6).hle k7) u1 Zjc
 have e8 : R (n+15) W8 [pt d] X7=_:=e8
 have y8:=Zf9 s8
 have q8 : bop .str .neq (strv (Zty (Q9 m))) (strv (Zty (Q9 m))) X8=some (.bool false,X8):=by rw [Ze7];simp
 have hk8:=(k5.trans k6).trans (k7.trans k8)
 have hBo : ZeA H3 X8 d b m d7 r7 s7 c7':=⟨hk8,((D5.hle k6).hle k7).hle k8,hS7.nd.hle k8,Zy2 hS7 D5.g.nod,E5,o2,fun i hi=>Nat.le_trans (k5.trans k6).len (hS7.own i hi),fun hi=>by
  have h1:=hS7.own b hi
  have h2:=(D5.hle k6).isM.1
  omega⟩
 obtain ⟨X9,e9⟩:=ZvK (n:=n) (sl:=x2) hn2 (hB.mono l13) hF2 hnm hpre a2.length 0 m s7 X8 (by omega) (by omega) hBo
 have e9 : Zh (c7 (ZK.l2 (R (n+15)))) [strv nm,strv pre,pt d,pt d7,x2,iv a2.length,.int .i64 0] X8=_:=e9
 have e10 : R (n+15) YS [.pointer none] X9=some (.pointer none,X9):=by
  rw [R,Zih rfl]
  unfold Kh
  rw [Za ZuX,Zb,if_pos rfl]
  rfl
 refine ⟨X9,f1 _ _ ?_⟩
 unfold ZK
 rw [Za e1]
 refine (step _).trans ?_
 refine (tail _ _ _).trans ?_
 rw [hz,Zb,if_neg (by simp),Za e4,Za hA.len,Qh e5,ZE,ZH,Za e6,Za y6,Za e7,Za q7]
 rw [Qq,Zs,Za e8,Zs,Za y8,Zs,Za q8,Qz,Q7,Za Zn]
 simp only [cond_false]
 rw [Zb,if_neg (by simp),Za hB.len,Qh e9,ZE]
 simp only [c0]
 rw [Za e10,Za ZuX]
 rfl
theorem law_MigrateGoes : ∀ (xs : Ins [.slc eldActT,.slc eldActT,.str,.str]) (H : Zd) (vs : List Value),Zqg [.slc eldActT,.slc eldActT,.str,.str] xs→Zgp [.slc eldActT,.slc eldActT,.str,.str] xs H vs→∃ n H',R n KT vs H=some (.bool true,H'):=by
 intro xs H vs hwf hrd
 obtain ⟨l,y,s,t,_⟩:=xs
 obtain ⟨hl,hy,_⟩:=hwf
 obtain ⟨c1,_,rfl,hc1,h1,c2,_,rfl,hc2,h2,c3,_,rfl,hc3,h3,c4,_,rfl,hc4,h4,rfl⟩:=hrd
 obtain ⟨v,rfl⟩ : ∃ v,c1=[v]:=by
  match c1,hc1 with
  | [v],_=>exact ⟨v,rfl⟩
 obtain ⟨w,rfl⟩ : ∃ w,c2=[w]:=by
  match c2,hc2 with
  | [w],_=>exact ⟨w,rfl⟩
 have h3 : c3=[.string s]:=h3
 have h4 : c4=[.string t]:=h4
 subst h3
 subst h4
 obtain ⟨a1,hA,hn1⟩:=Znk hl h1
 obtain ⟨a2,hB,hn2⟩:=Znk hy h2
 obtain ⟨H',e⟩:=ZuP (n:=0) (nm:=(ByteArray.data s).toList) (pre:=(ByteArray.data t).toList) hA hB hn1 hn2
 refine ⟨16,H',?_⟩
 rw [← Zki s,← Zki t] at e
 exact e
end
end Go.Proofs.YtedkoimihknggaaGreatDoor.A

