/- What the law ImageMost needs (part 3). -/
import Derived.Test.YtgfbgfafajiehaaGreatDoorZImageMost2
import Derived.Maps.Own
import Derived.Sort.KeysCollected
import Derived.Lib.Bytealg
import Derived.Test.YtgfbgfafajiehaaGreatDoorProg
import Derived.WalkKit
import Derived.Maps.RangeWalk
import Derived.Deep.RegionWith
import Derived.Deep.Cut
import Derived.KernelRfl
import Derived.Laws.Cover1
import Derived.Sort.Walk0
import Derived.Sort.OwnSorted
import Derived.Shelf.SlGeneric
import Derived.Shelf.SlIter.Collect
import Derived.Shelf.SlSortCmp.Whole1
import Derived.Shelf.SlMaps.Clone
import Derived.Ground.GgzProg
import Derived.Ground.SlsfProg
import Derived.Ground.SlmcProg
namespace Go.Proofs.YtgfbgfafajiehaaGreatDoor.A
set_option linter.unusedVariables false
set_option linter.unusedSimpArgs false
open Go.Sort
section
variable {P : Program} {w0 : Zi} {ι : Nat→Option Loc} {H H1 : Za} {w w' : World} {v : Value} {G : Nat}
def Zbo (args : List Value) : M Value:=fun H=>
 match args with
 | [.map none]=>some (.map none,H)
 | [.map (some id)]=>match H[id]? with
  | some (.map es clk)=>some (.map (some H.length),H++[.map es clk])
  | some (.mapU es)=>some (.map (some H.length),H++[.mapU es])
  | _=>none
 | _=>none
structure KF (P : Program) (g : FuncId) : Prop where
 c : QP P g
 nil : ∀ w,Calls P g #[.map none] w fun e w'=>e=.returned (.map none)∧w'=w
 some : ∀ b es clock w,w.heap[b]?=some (.map es clock)→Calls P g #[.map (some b)] w fun e w'=>e=.returned (.map (some w.heap.size))∧w'=w.alloc (.map es clock)
theorem Wn {g : FuncId} (hC : KF P g) : QU P G w0 g Zbo:=by
 intro args H v H1 h
 refine .inl ⟨hC.c,fun ι w args' hS hr=>?_⟩
 unfold Zbo at h
 split at h
 ·cases h
  obtain ⟨x,r,rfl,hx,hr2⟩:=hr.cons_inv
  rw [hr2.nil_inv,hx.scalar_inv rfl]
  refine (hC.nil w).mono fun e w' ⟨he,hw⟩=>⟨ι,_,.refl ι,he,.sc rfl,by rw [hw];exact hS⟩
 ·obtain ⟨x,r,rfl,hx,hr2⟩:=hr.cons_inv
  obtain ⟨l,hl,rfl⟩:=hx.map_inv
  rw [hr2.nil_inv]
  split at h
  ·rename_i id _ es clk hid
   cases h
   obtain ⟨en,hb,hge,hE⟩:=hS.mapR hid hl
   refine (hC.some l.blk en clk w hb).mono fun e w' ⟨he,hw⟩=>?_
   have hnew:=hS.new (x:=.map es clk) (l:=⟨w.heap.size,0,0,0,false⟩) (.map en clk) rfl ⟨_,en,Zm _ _ _,Jd w _,hS.size,hE.mono (ZF hS _)⟩
   exact ⟨_,_,ZF hS _,he,.mp (Zm _ _ _),by rw [hw];exact hnew⟩
  ·rename_i id _ es hid
   cases h
   obtain ⟨en,clk,es2,hb,hge,hE,hp⟩:=hS.mapUR hid hl
   refine (hC.some l.blk en clk w hb).mono fun e w' ⟨he,hw⟩=>?_
   have hnew:=hS.new (x:=.mapU es) (l:=⟨w.heap.size,0,0,0,false⟩) (.map en clk) rfl ⟨_,en,clk,es2,Zm _ _ _,Jd w _,hS.size,hE.mono (ZF hS _),hp⟩
   exact ⟨_,_,ZF hS _,he,.mp (Zm _ _ _),by rw [hw];exact hnew⟩
  ·cases h
 ·cases h
abbrev Kv (ks : List (List UInt8)) : List (List UInt8):=ks.mergeSort leB
structure Wy (es : List (Value × Value × Nat)) (ks : List (List UInt8)) : Prop where
 keys : es.map (·.1)=ks.map Zr
 nod : ks.Nodup
 few : ks.length≤1000000
 len : ∀ k∈ks,k.length≤1000000
theorem ZdP {a b : List UInt8} (h : Zr a=Zr b) : a=b:=by simpa [Zr] using h
theorem Zhm {a b : List (List UInt8)} (h : a.map Zr=b.map Zr) : a=b:=by
 have : Function.Injective Zr:=fun _ _ h=>ZdP h
 exact (List.map_inj_right (fun _ _ h=>ZdP h)).1 h
def Zb5 (ks : List (List UInt8)) (H : Za) : Option (Value × Za):=
 if ks=[] then some (.slice none 0 0,H)
 else some (.slice (some ⟨H.length,0,none⟩) ks.length ks.length,H++[.cells ((Kv ks).map Zr) 1 true false])
open Classical in
noncomputable def J8 (gks : List FuncId) (gc : FuncId) (args : List Value) : M Value:=fun H=>
 if h : ∃ gk c id es ks,gk∈gks∧args=[.func (.func gk) #[] #[pt c],.func (.func gc) #[] #[]]∧(∃ e,H[c]?=some (.cells [.map (some id)] e false false))∧Wy es ks∧((∃ clk,H[id]?=some (.map es clk)∧Jx es clk)∨H[id]?=some (.mapU es)) then
  Zb5 (Classical.choose (Classical.choose_spec (Classical.choose_spec (Classical.choose_spec (Classical.choose_spec h))))) H
 else none
theorem ZhS {gks : List FuncId} {gc gk : FuncId} {c id e : Nat} {es : List (Value × Value × Nat)} {ks : List (List UInt8)} (hg : gk∈gks) (hc : H[c]?=some (.cells [.map (some id)] e false false)) (hk : Wy es ks)
  (hm : (∃ clk,H[id]?=some (.map es clk)∧Jx es clk)∨H[id]?=some (.mapU es)) : J8 gks gc [.func (.func gk) #[] #[pt c],.func (.func gc) #[] #[]] H=Zb5 ks H:=by
 have hex : ∃ gk' c' id' es' ks',gk'∈gks∧[Value.func (.func gk) #[] #[pt c],.func (.func gc) #[] #[]]=[.func (.func gk') #[] #[pt c'],.func (.func gc) #[] #[]]∧(∃ e,H[c']?=some (.cells [.map (some id')] e false false))∧Wy es' ks'∧((∃ clk,H[id']?=some (.map es' clk)∧Jx es' clk)∨H[id']?=some (.mapU es')):=
  ⟨gk,c,id,es,ks,hg,rfl,⟨e,hc⟩,hk,hm⟩
 unfold J8
 rw [dif_pos hex]
 congr 1
 obtain ⟨_,h2,⟨e',h3⟩,h4,h5⟩:=Classical.choose_spec (Classical.choose_spec (Classical.choose_spec (Classical.choose_spec (Classical.choose_spec hex))))
 generalize Classical.choose (Classical.choose_spec (Classical.choose_spec (Classical.choose_spec (Classical.choose_spec hex))))=ks' at h4 ⊢
 generalize Classical.choose (Classical.choose_spec (Classical.choose_spec (Classical.choose_spec hex)))=es' at h4 h5
 generalize Classical.choose (Classical.choose_spec (Classical.choose_spec hex))=id' at h3 h5
 generalize Classical.choose (Classical.choose_spec hex)=c' at h2 h3
 have ec : c=c':=by simp at h2;exact h2.2
 subst ec
 rw [hc] at h3
 have ei : id=id':=by simp at h3;exact h3.1
 subst ei
 have ees : es'=es:=by
  rcases hm with ⟨clk,h6,_⟩ | h6 <;> rcases h5 with ⟨clk',h7,_⟩ | h7 <;> rw [h6] at h7 <;> cases h7 <;> rfl
 subst ees
 exact Zhm (h4.keys.symm.trans hk.keys)
theorem Zku {gks : List FuncId} {gc : FuncId} {args : List Value} (h : J8 gks gc args H=some (v,H1)) :
  ∃ gk c id e es ks,gk∈gks∧args=[.func (.func gk) #[] #[pt c],.func (.func gc) #[] #[]]∧H[c]?=some (.cells [.map (some id)] e false false)∧Wy es ks∧((∃ clk,H[id]?=some (.map es clk)∧Jx es clk)∨H[id]?=some (.mapU es))∧Zb5 ks H=some (v,H1):=by
 have h0:=h
 unfold J8 at h
 split at h
 ·rename_i hex
  obtain ⟨gk,c,id,es,ks,h1,rfl,⟨e,h3⟩,h4,h5⟩:=hex
  rw [ZhS h1 h3 h4 h5] at h0
  exact ⟨gk,c,id,e,es,ks,h1,rfl,h3,h4,h5,h0⟩
 ·cases h
structure Kz (P : Program) (g gk gc : FuncId) : Prop where
 c : QP P g
 run : ∀ (w : World) (Bm b : Nat) (es : Array MapEntry) (clock : Nat) (ks : List (List UInt8)),Bm < w.heap.size→w.cell? ⟨Bm,0,none⟩=some (.map (some b))→w.heap[b]?=some (.map es clock)→es.toList.map (·.key)=ks.map Zr→Go.MapKept.Stamped es clock→
  (∀ k∈ks,k.length≤1000000)→ks.length≤1000000→
  Calls P g #[.func (.func gk) #[] #[.pointer (some ⟨Bm,0,none⟩)],.func (.func gc) #[] #[]] w fun e w'=>∃ (v : Value) (t : TypeId),e=.returned v∧w'.ownsRow w.heap.size t 1 v ks.length ((Kv ks).map Zr)∧(v=.slice none 0 0↔ks=[])∧Go.RowKit.Below w.heap.size w w'
theorem Sim.below (h : Sim G w0 ι H w) (hb : Go.RowKit.Below w.heap.size w w') : Sim G w0 ι H w':=by
 refine ⟨fun i x hx=>(h.obj i x hx).blk fun l hl hd=>?_,h.inj,Nat.le_trans h.size hb.size,fun b hlt=>by rw [hb.block b (Nat.lt_of_lt_of_le hlt h.size)];exact h.old b hlt,h.dom,h.glob,?_,fun b hbp=>?_,fun j cs es nx l hj hl=>(h.views j cs es nx l hj hl).to (.refl ι) fun h1 ⟨c0,el0,fr0,hc0⟩=>⟨fun c el fr hc=>⟨fr,by rw [hb.block _ (Array.getElem?_eq_some_iff.1 hc0).1];exact hc⟩,h1⟩⟩
 ·obtain ⟨l',hl',hlt⟩:=(h.obj i x hx).loc hd
  rw [hl] at hl';cases hl'
  exact hb.block _ hlt
 ·rw [hb.os,hb.tape,hb.output];exact h.rest
 ·obtain ⟨p1,p2,p3⟩:=h.prot b hbp
  have hlt : b < w.heap.size:=by
   rcases Nat.lt_or_ge b w.heap.size with h1 | h1
   ·exact h1
   ·rw [Array.getElem?_eq_none h1] at p1;cases p1
  exact ⟨by rw [hb.block b hlt];exact p1,p2,p3⟩
theorem ZB.keys {ι : Nat→Option Loc} : ∀ {es : List (Value × Value × Nat)} {en : List MapEntry},ZB ι es en→en.map (·.key)=es.map (·.1)∧en.map (·.born)=es.map (·.2.2)
 | [],[],_=>⟨rfl,rfl⟩
 | e :: es,n :: ns,h=>by
  obtain ⟨h1,h2⟩:=ZB.keys h.2
  exact ⟨by rw [List.map_cons,List.map_cons,h1,h.1.2.1],by rw [List.map_cons,List.map_cons,h2,h.1.2.2.2]⟩
 | [],_ :: _,h=>h.elim
 | _ :: _,[],h=>h.elim
theorem ZjA {a b : List (List UInt8)} (h : a.Perm b) : Kv a=Kv b:=mergeSort_of_perm h
theorem Zki (ks : List (List UInt8)) : (Kv ks).length=ks.length:=List.length_mergeSort ks
theorem Zae {ks : List (List UInt8)} (h : ks.Nodup) : (ks.map Zr).Nodup:=by
 rw [List.nodup_iff_pairwise_ne] at h ⊢
 rw [List.pairwise_map]
 exact h.imp fun h e=>h (ZdP e)
theorem ZiJ {gks : List FuncId} {g gc : FuncId} (hgks : gks≠[]) (hC : ∀ gk∈gks,Kz P g gk gc) : QU P G w0 g (J8 gks gc):=by
 intro args H v H1 h
 have hcall : QP P g:=by
  cases gks with
  | nil=>exact absurd rfl hgks
  | cons a l=>exact (hC a (by simp)).c
 refine .inl ⟨hcall,fun ι w args' hS hr=>?_⟩
 obtain ⟨gk,c,id,e,es,ks,hg,rfl,hc,hk,hm,ho⟩:=Zku h
 obtain ⟨x,r,rfl,hx,hr2⟩:=hr.cons_inv
 obtain ⟨y,r,rfl,hy,hr3⟩:=hr2.cons_inv
 rw [hr3.nil_inv]
 obtain ⟨a1,b1,rfl,ha1,hb1⟩:=hx.fn_inv
 obtain ⟨a2,b2,rfl,ha2,hb2⟩:=hy.fn_inv
 have ea1 : a1=#[]:=by have:=ha1.nil_inv;simpa using this
 have ea2 : a2=#[]:=by have:=ha2.nil_inv;simpa using this
 have eb2 : b2=#[]:=by have:=hb2.nil_inv;simpa using this
 obtain ⟨p',q',eb1,hp',hq'⟩:=hb1.cons_inv
 have:=hq'.nil_inv
 subst this
 obtain ⟨lc,hlc,rfl⟩:=hp'.ptr_inv
 have eb1 : b1=#[.pointer (some ⟨lc.blk,lc.base+0,none⟩)]:=by
  apply Array.ext'
  simpa using eb1
 subst ea1
 subst ea2
 subst eb2
 subst eb1
 obtain ⟨cc,el,fr,_,hgrow,hbc,hb5,hb6,hrc,hro,_⟩:=hS.cellsR hc hlc
 have hbase : lc.base=0:=(hro rfl).2.2 hgrow
 have hbl : lc.blk < w.heap.size:=by
  rcases Nat.lt_or_ge lc.blk w.heap.size with h1 | h1
  ·exact h1
  ·rw [Array.getElem?_eq_none h1] at hbc;cases hbc
 obtain ⟨u,hu1,hu2⟩:=hrc.at (o:=0) (by simp)
 obtain ⟨lm,hlm,hu3⟩:=RV.map_inv (id:=id) hu2
 subst hu3
 have hcell : w.cell? ⟨lc.blk,0,none⟩=some (.map (some lm.blk)):=by
  rw [Kq hbc]
  simpa [hbase] using hu1
 obtain ⟨en,clock,ks',hmb,hkeys,hst,hperm⟩ : ∃ (en : Array MapEntry) (clock : Nat) (ks' : List (List UInt8)),w.heap[lm.blk]?=some (.map en clock)∧en.toList.map (·.key)=ks'.map Zr∧Go.MapKept.Stamped en clock∧ks'.Perm ks:=by
  rcases hm with ⟨clk,hid,hst⟩ | hid
  ·obtain ⟨en,hb,_,hE⟩:=hS.mapR hid hlm
   obtain ⟨k1,k2⟩:=ZB.keys hE
   refine ⟨en,clk,ks,hb,k1.trans hk.keys,⟨fun x hx=>?_,by rw [k2];exact hst.nod,by rw [k1,hk.keys];exact Zae hk.nod⟩,.refl _⟩
   have : x.born∈en.toList.map (·.born):=List.mem_map.2 ⟨x,hx,rfl⟩
   rw [k2] at this
   obtain ⟨e',h1,h2⟩:=List.mem_map.1 this
   rw [← h2];exact hst.lt e' h1
  ·obtain ⟨en,clk,es2,hb,_,hE,hp⟩:=hS.mapUR hid hlm
   obtain ⟨k1,k2⟩:=ZB.keys hE
   have hpk : (es2.map (·.1)).Perm (es.map (·.1)):=by
    have:=hp.perm.map (·.1)
    rwa [KL,KL] at this
   obtain ⟨ks2,hks2⟩ : ∃ ks2 : List (List UInt8),es2.map (·.1)=ks2.map Zr:=by
    refine ⟨es2.map fun e=>match e.1 with | .string s=>s.data.toList | _=>[],?_⟩
    rw [List.map_map]
    refine List.map_congr_left fun e he=>?_
    obtain ⟨s,hs⟩:=hp.strs e he
    simp [hs,Zr]
   rw [hks2,hk.keys] at hpk
   have hpk2 : ks2.Perm ks:=by
    have h3:=hpk.map fun v : Value=>match v with | .string s=>s.data.toList | _=>([] : List UInt8)
    simpa [List.map_map,Function.comp_def,Zr] using h3
   refine ⟨en,clk,ks2,hb,k1.trans hks2,⟨fun x hx=>?_,by rw [k2];exact hp.st.nod,by rw [k1];exact hp.nod2⟩,hpk2⟩
   have : x.born∈en.toList.map (·.born):=List.mem_map.2 ⟨x,hx,rfl⟩
   rw [k2] at this
   obtain ⟨e',h1,h2⟩:=List.mem_map.1 this
   rw [← h2];exact hp.st.lt e' h1
 have hfew:=hk.few
 have hcon:=(hC gk hg).run w lc.blk lm.blk en clock ks' hbl hcell hmb hkeys hst (fun k hm=>hk.len k (hperm.mem_iff.1 hm)) (by rw [hperm.length_eq];exact hfew)
 rw [ZjA hperm,hperm.length_eq] at hcon
 simp only [Nat.add_zero,hbase]
 refine hcon.mono fun ee w' ⟨v',t,he,hrow,hnil,hb⟩=>?_
 have hnil2 : v'=.slice none 0 0↔ks=[]:=by
  rw [hnil]
  constructor
  ·rintro rfl;exact List.eq_nil_of_length_eq_zero (by rw [← hperm.length_eq];rfl)
  ·rintro rfl;exact List.eq_nil_of_length_eq_zero (by rw [hperm.length_eq];rfl)
 have hS':=hS.below hb
 unfold Zb5 at ho
 by_cases h0 : ks=[]
 ·rw [if_pos h0] at ho
  cases ho
  exact ⟨ι,_,.refl ι,he,by rw [hnil2.2 h0];exact .sc rfl,hS'⟩
 ·rw [if_neg h0] at ho
  cases ho
  rcases hrow.2 with ⟨hv,_⟩ | ⟨gb,cap,cur,rfl,hge,hgb,r1,r2,r3,r4⟩
  ·exact absurd (hnil2.1 hv) h0
  have hlen : ((Kv ks).map Zr).length=ks.length:=by rw [List.length_map,Zki]
  rw [Nat.mul_one] at r3 r4
  have hadd:=hS'.add (o:=.cells ((Kv ks).map Zr) 1 true false) (l:=⟨gb,0,cap,1,true⟩) ⟨⟨gb,0,cap,1,true⟩,cur,t,(0,0),Zm _ _ _,rfl,rfl,hgb,by show 0+_≤cap;omega,by show cap≤cur.size;omega,by
   show RVs _ _ ((cur.toList.drop 0).take _)
   rw [List.drop_zero,hlen,r4]
   refine ⟨rfl,fun i hi=>?_⟩
   rw [List.getD_eq_getElem?_getD,List.getElem?_eq_getElem hi]
   simp only [List.getElem_map,Option.getD_some]
   exact .sc rfl,fun _=>⟨Nat.le_trans hS.size hge,.inl rfl,fun h=>by cases h⟩,by simp,fun x hx=>by
   obtain ⟨k,_,rfl⟩:=List.mem_map.1 hx
   rfl⟩ (fun i oi li hi hw hl=>by
   have:=((hS.obj i oi hi).newer hw li hl).2
   show li.blk≠gb
   omega) (fun b hbp=>by
   have p1:=(hS.prot b hbp).1
   show gb≠b
   rintro rfl
   rw [Array.getElem?_eq_none hge] at p1;cases p1) (fun _ j cs es nx lj hj hlj hbe=>by
   rcases hS.views j cs es nx lj hj hlj with ⟨l',k1,k2⟩ | ⟨⟨c,el,fr,k1,_⟩,_⟩
   ·exact ⟨l',k1,k2⟩
   ·have:=(Array.getElem?_eq_some_iff.1 k1).1
    have hbe : lj.blk=gb:=hbe
    omega)
  refine ⟨_,_,ZF hS' _,he,?_,hadd⟩
  have:=RV.slc (ι:=ZU ι H.length ⟨gb,0,cap,1,true⟩) (id:=H.length) (o:=0) (n:=ks.length) (c:=ks.length) (c':=cap) (Zm _ _ _) (Nat.le_refl _) r1 (fun h=>by cases h) (by simp)
  simpa using this
end
end Go.Proofs.YtgfbgfafajiehaaGreatDoor.A
namespace Go.Proofs.YtgfbgfafajiehaaGreatDoor.A
set_option linter.unusedVariables false
set_option linter.unusedSimpArgs false
section
variable {α : Type}
def Kc (k : List UInt8) : List (List UInt8 × α)→Option α
 | []=>none
 | p :: m=>if p.1=k then some p.2 else Kc k m
def ZbU (k : List UInt8) (m : List (List UInt8 × α)) : List (List UInt8 × α):=m.filter fun p=>decide (p.1≠k)
def Zdr (k : List UInt8) (v : α) (m : List (List UInt8 × α)) : List (List UInt8 × α):=
 if (Kc k m).isSome then m.map fun p=>if p.1=k then (k,v) else p else m++[(k,v)]
variable {k : List UInt8} {v : α} {m : List (List UInt8 × α)}
theorem Za3 : ∀ {m : List (List UInt8 × α)},Kc k m=none↔∀ p∈m,p.1≠k
 | []=>by simp [Kc]
 | p :: m=>by
  simp only [Kc]
  split
  ·rename_i h;simp [h]
  ·rename_i h
   rw [Za3]
   simp [h]
theorem Zep : ∀ {m : List (List UInt8 × α)} {j : Nat} {v0 : α},(m.map (·.1)).Nodup→m[j]?=some (k,v0)→m.set j (k,v)=m.map fun p=>if p.1=k then (k,v) else p
 | [],j,v0,_,h=>by simp at h
 | p :: m,0,v0,hn,h=>by
  have : p=(k,v0):=by simpa using h
  subst this
  simp only [List.map_cons,List.nodup_cons,List.mem_map,not_exists,not_and] at hn
  simp only [List.set_cons_zero,List.map_cons,if_true]
  congr 1
  conv=>lhs;rw [← List.map_id m]
  refine List.map_congr_left fun q hq=>?_
  rw [if_neg (hn.1 q hq)];rfl
 | p :: m,j+1,v0,hn,h=>by
  have h' : m[j]?=some (k,v0):=by simpa using h
  simp only [List.map_cons,List.nodup_cons,List.mem_map,not_exists,not_and] at hn
  have hp : ¬ p.1=k:=fun e=>hn.1 (k,v0) (List.mem_of_getElem? h') e.symm
  simp only [List.set_cons_succ,List.map_cons,if_neg hp]
  rw [Zep hn.2 h']
theorem Zba : ∀ {m : List (List UInt8 × α)} {j : Nat} {v0 : α},(m.map (·.1)).Nodup→m[j]?=some (k,v0)→m.eraseIdx j=ZbU k m
 | [],j,v0,_,h=>by simp at h
 | p :: m,0,v0,hn,h=>by
  have : p=(k,v0):=by simpa using h
  subst this
  simp only [List.map_cons,List.nodup_cons,List.mem_map,not_exists,not_and] at hn
  unfold ZbU
  rw [List.eraseIdx_cons_zero,List.filter_cons,if_neg (by simp)]
  symm
  rw [List.filter_eq_self]
  exact fun q hq=>decide_eq_true (hn.1 q hq)
 | p :: m,j+1,v0,hn,h=>by
  have h' : m[j]?=some (k,v0):=by simpa using h
  simp only [List.map_cons,List.nodup_cons,List.mem_map,not_exists,not_and] at hn
  have hp : ¬ p.1=k:=fun e=>hn.1 (k,v0) (List.mem_of_getElem? h') e.symm
  have ih:=Zba hn.2 h'
  unfold ZbU at ih ⊢
  rw [List.eraseIdx_cons_succ,List.filter_cons,if_pos (by simpa using hp),ih]
theorem ZkL (h : Kc k m=none) : ZbU k m=m:=by
 unfold ZbU
 rw [List.filter_eq_self]
 exact fun p hp=>decide_eq_true (Za3.1 h p hp)
theorem ZjF (h : (m.map (·.1)).Nodup) : ((Zdr k v m).map (·.1)).Nodup:=by
 unfold Zdr
 split
 ·rw [List.map_map]
  have : ((fun p : List UInt8 × α=>p.1) ∘ fun p=>if p.1=k then (k,v) else p)=fun p=>p.1:=by
   funext p
   simp only [Function.comp]
   split
   ·rename_i h;exact h.symm
   ·rfl
  rw [this];exact h
 ·rename_i hs
  have hn : Kc k m=none:=by cases e : Kc k m <;> simp_all
  rw [List.map_append,List.nodup_append]
  refine ⟨h,by simp,fun a ha b hb=>?_⟩
  have hb : b=k:=by simpa using hb
  obtain ⟨p,hp,rfl⟩:=List.mem_map.1 ha
  rw [hb];exact Za3.1 hn p hp
theorem Zjp (h : (m.map (·.1)).Nodup) : ((ZbU k m).map (·.1)).Nodup:=(List.filter_sublist.map _).nodup h
end
theorem Zkw {a b : List UInt8} : ((⟨a.toArray⟩ : ByteArray)==⟨b.toArray⟩)=(a==b):=by
 rw [ZfJ]
 simp
theorem Zb6 {α : Type} {enc : α→Value} {k : List UInt8} : ∀ {es : List (Value × Value × Nat)} {m : List (List UInt8 × α)} (i : Nat),es.map kv=m.map (fun p=>(Zr p.1,enc p.2))→
  (Kc k m=none∧ZG .str (Zr k) es i=some none)∨∃ j v,m[j]?=some (k,v)∧Kc k m=some v∧ZG .str (Zr k) es i=some (some (i+j,enc v))
 | [],[],i,_=>.inl ⟨rfl,rfl⟩
 | e :: es,p :: m,i,h=>by
  simp only [List.map_cons,List.cons.injEq,kv,Prod.mk.injEq] at h
  obtain ⟨⟨h1,h2⟩,h3⟩:=h
  have hs : Q6 .str (Zr k) e.1=some (k==p.1):=by rw [h1];simp only [Q6,Zr,Zkw]
  simp only [ZG,hs,Kc]
  by_cases hk : p.1=k
  ·rw [show (k==p.1)=true by rw [hk];simp,if_pos hk]
   exact .inr ⟨0,p.2,by rw [← hk];rfl,rfl,by rw [h2];rfl⟩
  ·rw [show (k==p.1)=false by rw [beq_eq_false_iff_ne];exact Ne.symm hk,if_neg hk]
   rcases Zb6 (i+1) h3 with ⟨h4,h5⟩ | ⟨j,v,h4,h5,h6⟩
   ·exact .inl ⟨h4,h5⟩
   ·exact .inr ⟨j+1,v,by simpa using h4,h5,by simp only;rw [h6];congr 3;omega⟩
 | [],_ :: _,_,h=>by cases h
 | _ :: _,[],_,h=>by cases h
theorem Zh6 {u : Value} : ∀ {es : List (Value × Value × Nat)} {j : Nat} {p : Value × Value},(es.map kv)[j]?=some p→(ZO es j u).map kv=(es.map kv).set j (p.1,u)
 | [],j,p,h=>by simp at h
 | e :: es,0,p,h=>by
  have : kv e=p:=by simpa using h
  subst this
  simp [ZO,kv]
 | e :: es,j+1,p,h=>by
  have:=Zh6 (u:=u) (es:=es) (j:=j) (p:=p) (by simpa using h)
  simp only [ZO] at this
  simp only [ZO,List.modify_succ_cons,List.map_cons,List.set_cons_succ,this]
section
variable {α : Type} {enc : α→Value} {H H' : Za} {id : Nat} {m : List (List UInt8 × α)} {k : List UInt8} {v : α}
structure Qx (enc : α→Value) (H : Za) (id : Nat) (m : List (List UInt8 × α)) : Prop where
 ex : ∃ es,es.map kv=m.map (fun p=>(Zr p.1,enc p.2))∧((∃ clk,H[id]?=some (.map es clk)∧Jx es clk)∨H[id]?=some (.mapU es))
 nod : (m.map (·.1)).Nodup
theorem Qx.lt (h : Qx enc H id m) : id < H.length:=by
 obtain ⟨es,_,h1 | h1⟩:=h.ex
 ·obtain ⟨clk,h1,_⟩:=h1;exact WL h1
 ·exact WL h1
theorem Qx.keep (h : Qx enc H id m) (hk : H'[id]?=H[id]?) : Qx enc H' id m:=by
 obtain ⟨es,h1,h2⟩:=h.ex
 exact ⟨⟨es,h1,by rw [hk];exact h2⟩,h.nod⟩
theorem Qx.hle (h : Qx enc H id m) (hl : HLe H H') : Qx enc H' id m:=h.keep (hl.step.keep id h.lt (by simp))
theorem Qx.step {o1 o2 : List Nat} (h : Qx enc H id m) (hs : Qm o1 H o2 H') (hn : id∉o1) : Qx enc H' id m:=h.keep (hs.keep id h.lt hn)
theorem Jk : okK .str (Zr k)=true:=rfl
theorem Qx.len (h : Qx enc H id m) : ZdU (.map (some id)) H=some (iv m.length,H):=by
 obtain ⟨es,h1,h2⟩:=h.ex
 have hl : es.length=m.length:=by have:=congrArg List.length h1;simpa using this
 unfold ZdU
 rcases h2 with ⟨clk,h2,_⟩ | h2 <;> simp only [h2,hl]
theorem Qx.lkp (h : Qx enc H id m) {z : Value} {ok : Bool} : A.lkp .str z ok (.map (some id)) (Zr k) H=
  some (match Kc k m with
   | some v=>bif ok then .tuple #[enc v,.bool true] else enc v
   | none=>bif ok then .tuple #[z,.bool false] else z,H):=by
 obtain ⟨es,h1,h2⟩:=h.ex
 unfold A.lkp
 rcases Zb6 (k:=k) 0 h1 with ⟨h3,h4⟩ | ⟨j,v,h3,h4,h5⟩
 ·rcases h2 with ⟨clk,h2,_⟩ | h2 <;> simp only [h2,Jk,cond_true,h3,h4]
 ·rcases h2 with ⟨clk,h2,_⟩ | h2 <;> simp only [h2,Jk,cond_true,h4,h5]
theorem Qx.mup (h : Qx enc H id m) : ∃ H',A.mup .str (.map (some id)) (Zr k) (enc v) H=some (undef,H')∧Qx enc H' id (Zdr k v m)∧Qm [id] H [id] H'∧H'.length=H.length:=by
 obtain ⟨es,h1,h2⟩:=h.ex
 have hst : ∀ o,Qm [id] H [id] (H.set id o):=fun o=>⟨by simp,fun j hj hn=>List.getElem?_set_ne (fun e=>hn (by simp [e])),fun j hj=>.inl hj⟩
 have hnod:=ZjF (k:=k) (v:=v) h.nod
 have hget : ∀ {j : Nat} {v0 : α},m[j]?=some (k,v0)→(es.map kv)[j]?=some (Zr k,enc v0):=fun hj=>by rw [h1,List.getElem?_map,hj];rfl
 rcases Zb6 (k:=k) 0 h1 with ⟨h3,h4⟩ | ⟨j,v0,h3,h4,h5⟩
 ·have ha : Zdr k v m=m++[(k,v)]:=by unfold Zdr;rw [h3];rfl
  rw [ha] at hnod ⊢
  have hm : ∀ b,(es++[(Zr k,enc v,b)]).map kv=(m++[(k,v)]).map fun p=>(Zr p.1,enc p.2):=fun b=>by rw [List.map_append,List.map_append,h1];rfl
  rcases h2 with ⟨clk,h2,hs⟩ | h2
  ·refine ⟨H.set id (.map (es++[(Zr k,enc v,clk)]) (clk+1)),?_,⟨⟨_,hm clk,.inl ⟨clk+1,KA h2,⟨fun e he=>?_,?_⟩⟩⟩,hnod⟩,hst _,by simp⟩
   ·unfold A.mup;simp only [h2,Jk,cond_true,h4]
   ·rcases List.mem_append.1 he with he | he
    ·have:=hs.lt e he;omega
    ·have : e=(Zr k,enc v,clk):=by simpa using he
     rw [this];exact Nat.lt_succ_self _
   ·rw [List.map_append,List.nodup_append]
    refine ⟨hs.nod,by simp,fun a ha b hb=>?_⟩
    have hb : b=clk:=by simpa using hb
    obtain ⟨e,he,rfl⟩:=List.mem_map.1 ha
    have:=hs.lt e he;omega
  ·refine ⟨H.set id (.mapU (es++[(Zr k,enc v,0)])),?_,⟨⟨_,hm 0,.inr (KA h2)⟩,hnod⟩,hst _,by simp⟩
   unfold A.mup;simp only [h2,Jk,cond_true,h4];rfl
 ·have ha : Zdr k v m=m.set j (k,v):=by unfold Zdr;rw [h4];exact (Zep h.nod h3).symm
  rw [ha] at hnod ⊢
  rw [Nat.zero_add] at h5
  have hm : (ZO es j (enc v)).map kv=(m.set j (k,v)).map fun p=>(Zr p.1,enc p.2):=by
   rw [Zh6 (hget h3),h1,List.map_set]
  rcases h2 with ⟨clk,h2,hs⟩ | h2
  ·refine ⟨H.set id (.map (ZO es j (enc v)) clk),?_,⟨⟨_,hm,.inl ⟨clk,KA h2,Zje hs⟩⟩,hnod⟩,hst _,by simp⟩
   unfold A.mup;simp only [h2,Jk,cond_true,h5]
  ·refine ⟨H.set id (.mapU (ZO es j (enc v))),?_,⟨⟨_,hm,.inr (KA h2)⟩,hnod⟩,hst _,by simp⟩
   unfold A.mup;simp only [h2,Jk,cond_true,h5]
theorem Qx.mde (h : Qx enc H id m) : ∃ H',A.mde .str (.map (some id)) (Zr k) H=some (.tuple #[],H')∧Qx enc H' id (ZbU k m)∧Qm [id] H [id] H'∧H'.length=H.length:=by
 obtain ⟨es,h1,h2⟩:=h.ex
 have hst : ∀ o,Qm [id] H [id] (H.set id o):=fun o=>⟨by simp,fun j hj hn=>List.getElem?_set_ne (fun e=>hn (by simp [e])),fun j hj=>.inl hj⟩
 have hnod:=Zjp (k:=k) h.nod
 rcases Zb6 (k:=k) 0 h1 with ⟨h3,h4⟩ | ⟨j,v0,h3,h4,h5⟩
 ·refine ⟨H,?_,by rw [ZkL h3];exact h,.refl _ _,rfl⟩
  unfold A.mde
  rcases h2 with ⟨clk,h2,hs⟩ | h2 <;> simp only [h2,Jk,cond_true,h4]
 ·have ha : ZbU k m=m.eraseIdx j:=(Zba h.nod h3).symm
  rw [ha] at hnod ⊢
  rw [Nat.zero_add] at h5
  have hm : (es.eraseIdx j).map kv=(m.eraseIdx j).map fun p=>(Zr p.1,enc p.2):=by
   have hg : ∀ {β γ : Type} (f : β→γ) (l : List β) (j : Nat),(l.eraseIdx j).map f=(l.map f).eraseIdx j:=fun f l j=>by
    rw [List.eraseIdx_eq_take_drop_succ,List.eraseIdx_eq_take_drop_succ,List.map_append,List.map_take,List.map_drop]
   rw [hg,hg,h1]
  rcases h2 with ⟨clk,h2,hs⟩ | h2
  ·refine ⟨H.set id (.map (es.eraseIdx j) clk),?_,⟨⟨_,hm,.inl ⟨clk,KA h2,⟨fun e he=>hs.lt e ((List.eraseIdx_sublist es j).subset he),((List.eraseIdx_sublist es j).map _).nodup hs.nod⟩⟩⟩,hnod⟩,hst _,by simp⟩
   unfold A.mde;simp only [h2,Jk,cond_true,h5]
  ·refine ⟨H.set id (.mapU (es.eraseIdx j)),?_,⟨⟨_,hm,.inr (KA h2)⟩,hnod⟩,hst _,by simp⟩
   unfold A.mde;simp only [h2,Jk,cond_true,h5]
end
end Go.Proofs.YtgfbgfafajiehaaGreatDoor.A

namespace Go.Proofs.YtgfbgfafajiehaaGreatDoor.A
set_option linter.unusedVariables false
set_option linter.unusedSimpArgs false
def Zj2 (args : List Value) : M Value:=fun H=>
 match args with
 | [.string s,.int .u8 c]=>some (iv (Go.Lib.indexByte s.data.toList c.toNat.toUInt8),H)
 | _=>none
def ZjC (args : List Value) : M Value:=fun H=>
 match args with
 | [.string s,.int .u8 c]=>some (iv (Go.Lib.countByte s.data.toList c.toNat.toUInt8),H)
 | _=>none
section
variable {P : Program} {G : Nat} {w0 : Zi}
theorem Zjr {g : FuncId} (he : ZfH P g Extern.BytealgIndexByte.indexByte) : QU P G w0 g Zj2:=by
 intro args H v H1 h
 refine .inr ⟨_,he,fun ι w args' hS hr=>?_⟩
 unfold Zj2 at h
 split at h
 ·rename_i s c
  cases h
  obtain ⟨p',r',rfl,hp',hr'⟩:=hr.cons_inv
  obtain ⟨y',r2,rfl,hy',hr2⟩:=hr'.cons_inv
  have:=hr2.nil_inv;subst this
  have:=hy'.int_inv;subst this
  have:=hp'.scalar_inv rfl;subst this
  exact ⟨ι,_,w,.refl ι,hS,.sc rfl,Go.Lib.run_indexByteString s c w⟩
 ·cases h
theorem ZjN {g : FuncId} (he : ZfH P g Extern.BytealgCount.count) : QU P G w0 g ZjC:=by
 intro args H v H1 h
 refine .inr ⟨_,he,fun ι w args' hS hr=>?_⟩
 unfold ZjC at h
 split at h
 ·rename_i s c
  cases h
  obtain ⟨p',r',rfl,hp',hr'⟩:=hr.cons_inv
  obtain ⟨y',r2,rfl,hy',hr2⟩:=hr'.cons_inv
  have:=hr2.nil_inv;subst this
  have:=hy'.int_inv;subst this
  have:=hp'.scalar_inv rfl;subst this
  exact ⟨ι,_,w,.refl ι,hS,.sc rfl,Go.Lib.run_countString s c w⟩
 ·cases h
end
end Go.Proofs.YtgfbgfafajiehaaGreatDoor.A

namespace Go.Proofs.YtgfbgfafajiehaaGreatDoor.A
set_option linter.unusedVariables false
set_option linter.unusedSimpArgs false
theorem Zgk {α β : Type} {f : α→β} {m m' : List β} (h : m.Perm m') : ∀ {l : List α},l.map f=m→∃ l' : List α,l'.Perm l∧l'.map f=m':=by
 induction h with
 | nil=>intro l h;exact ⟨l,.refl _,h⟩
 | cons x _ ih=>
  intro l h
  cases l with
  | nil=>cases h
  | cons a l=>
   simp only [List.map_cons,List.cons.injEq] at h
   obtain ⟨l',h1,h2⟩:=ih h.2
   exact ⟨a :: l',h1.cons a,by simp [h.1,h2]⟩
 | swap x y l=>
  intro q h
  match q,h with
  | a :: b :: q,h=>
   simp only [List.map_cons,List.cons.injEq] at h
   exact ⟨b :: a :: q,.swap a b q,by simp [h.1,h.2.1,h.2.2]⟩
 | trans _ _ ih1 ih2=>
  intro l h
  obtain ⟨l1,h1,h2⟩:=ih1 h
  obtain ⟨l2,h3,h4⟩:=ih2 h2
  exact ⟨l2,h3.trans h1,h4⟩
def WI : Zl→Bool
 | .map _ _=>true
 | .mapU _=>true
 | _=>false
def KC (H : Za) : List (Value × Value × Nat)→Option (List Zl)
 | []=>some []
 | e :: es=>match e.2.1,KC H es with
  | .map (some s),some l=>match H[s]? with
   | some x=>if WI x then some (x :: l) else none
   | none=>none
  | _,_=>none
def Yv (base : Nat) : List (Value × Value × Nat)→List (Value × Value × Nat)
 | []=>[]
 | e :: es=>(e.1,.map (some base),0) :: Yv (base+1) es
open Classical in
noncomputable def Zg5 (H : Za) (o : Nat) : Option (List (Value × Value × Nat)):=
 match H[o]? with
 | some (.map es clk)=>if Jx es clk then some es else none
 | some (.mapU es)=>some es
 | _=>none
open Classical in
noncomputable def Zff (args : List Value) : M Value:=fun H=>
 match args with
 | [.pointer (some ⟨g,0,none⟩)]=>match H[g]? with
  | some (.cells [.map (some o)] _ false false)=>match Zg5 H o with
   | some es=>match KC H es with
    | some l=>if ∃ ks,Wy es ks then some (pt (H.length+l.length+1),H++l++[.mapU (Yv H.length es)]++[.cells [.map (some (H.length+l.length))] 1 false false]) else none
    | none=>none
   | none=>none
  | _=>none
 | _=>none
section
variable {P : Program} {w0 : Zi} {ι : Nat→Option Loc} {H H1 : Za} {w w' : World} {v : Value} {G : Nat}
theorem Zky {args : List Value} (h : Zff args H=some (v,H1)) : ∃ g o e es ks l,args=[pt g]∧H[g]?=some (.cells [.map (some o)] e false false)∧Zg5 H o=some es∧Wy es ks∧KC H es=some l∧v=pt (H.length+l.length+1)∧H1=H++l++[.mapU (Yv H.length es)]++[.cells [.map (some (H.length+l.length))] 1 false false]:=by
 unfold Zff at h
 split at h
 ·rename_i g
  split at h
  ·rename_i o e hg
   split at h
   ·rename_i es hes
    split at h
    ·rename_i l hl
     split at h
     ·rename_i hk
      obtain ⟨ks,hk⟩:=hk
      cases h
      exact ⟨g,o,e,es,ks,l,rfl,hg,hes,hk,hl,rfl,rfl⟩
     ·cases h
    ·cases h
   ·cases h
  ·cases h
 ·cases h
structure Zjh (P : Program) (g : FuncId) : Prop where
 c : QP P g
 run : ∀ (w : World) (gb b : Nat) (es : Array MapEntry) (clock : Nat),gb < w.heap.size→w.cell? ⟨gb,0,none⟩=some (.map (some b))→w.heap[b]?=some (.map es clock)→Go.MapKept.Stamped es clock→
  (∀ x∈es.toList,∃ k : List UInt8,x.key=Zr k)→(∀ x∈es.toList,∃ sb ses sclk,x.val=.map (some sb)∧w.heap[sb]?=some (.map ses sclk))→
  Calls P g #[.pointer (some ⟨gb,0,none⟩)] w fun e w'=>∃ (gb' ob : Nat) (el : TypeId) (en : Array MapEntry) (ck : Nat) (L : List (MapEntry × Nat)),e=.returned (.pointer (some ⟨gb',0,none⟩))∧
   w'.heap[gb']?=some (.cells #[.map (some ob)] el (0,0))∧w'.heap[ob]?=some (.map en ck)∧Go.MapKept.Stamped en ck∧
   en.toList.map (fun x=>(x.key,x.val))=L.map (fun p=>(p.1.key,Value.map (some p.2)))∧(L.map (·.1)).Perm es.toList∧
   (∀ p∈L,∃ sb,p.1.val=.map (some sb)∧w'.heap[p.2]?=w.heap[sb]?)∧(gb' :: ob :: L.map (·.2)).Nodup∧(∀ q∈gb' :: ob :: L.map (·.2),w.heap.size≤q)∧Go.RowKit.Below w.heap.size w w'
def Yf (ι : Nat→Option Loc) (H : Za) (b : Nat) : Prop:=(∀ i oi li,H[i]?=some oi→oi.wr=true→ι i=some li→li.blk≠b)∧
 ∀ j cs es nx lj,H[j]?=some (.view cs es nx)→ι j=some lj→lj.blk=b→∃ l',ι nx=some l'∧l'.blk=lj.blk∧l'.base=lj.base
theorem Yf.add {o : Zl} {l : Loc} {b : Nat} (h : Yf ι H b) (hS : Sim G w0 ι H w) (hb : l.blk≠b) (hov : o.isV=false:=by rfl) : Yf (ZU ι H.length l) (H++[o]) b:=by
 refine ⟨?_,fun j cs es nx lj hj hlj hbe=>?_⟩
 rotate_left
 ·rcases Nat.lt_trichotomy j H.length with hlt | rfl | hgt
  ·rw [List.getElem?_append_left hlt] at hj
   have : ZU ι H.length l j=ι j:=by unfold ZU;simp [Nat.ne_of_lt hlt]
   rw [this] at hlj
   obtain ⟨l',k1,k2⟩:=h.2 j cs es nx lj hj hlj hbe
   exact ⟨l',ZF hS _ _ _ k1,k2⟩
  ·rw [Zl6] at hj
   rw [Option.some.inj hj] at hov;cases hov
  ·rw [List.getElem?_eq_none (by simp;omega)] at hj;cases hj
 intro i oi li hi hw hl
 rcases Nat.lt_trichotomy i H.length with hlt | rfl | hgt
 ·rw [List.getElem?_append_left hlt] at hi
  have : ZU ι H.length l i=ι i:=by unfold ZU;simp [Nat.ne_of_lt hlt]
  rw [this] at hl
  exact h.1 i oi li hi hw hl
 ·have : ZU ι H.length l H.length=some l:=Zm _ _ _
  rw [this] at hl
  cases hl
  exact hb
 ·rw [List.getElem?_eq_none (by simp;omega)] at hi;cases hi
abbrev KI (b : Nat) : Loc:=⟨b,0,0,0,false⟩
def Wl (ι : Nat→Option Loc) : Value→Value
 | .map (some s)=>.map ((ι s).map (·.blk))
 | v=>v
theorem ZkZ {H : Za} {w' : World} (hS : Sim G w0 ι H w) : ∀ (es : List (Value × Value × Nat)) (L : List (MapEntry × Nat)) (l : List Zl) (ι0 : Nat→Option Loc) (H0 : Za),Sim G w0 ι0 H0 w'→Le ι ι0→KC H es=some l→
  L.map (fun p=>(p.1.key,p.1.val))=es.map (fun e=>(e.1,Wl ι e.2.1))→(∀ p∈L,∃ sb,p.1.val=.map (some sb)∧w'.heap[p.2]?=w.heap[sb]?)→(L.map (·.2)).Nodup→(∀ p∈L,Yf ι0 H0 p.2∧w0.heap.size≤p.2∧∀ b∈w0.prot,p.2≠b)→
  ∃ ι1,Le ι0 ι1∧Sim G w0 ι1 (H0++l) w'∧l.length=es.length∧(∀ i p,L[i]?=some p→ι1 (H0.length+i)=some (KI p.2))∧(∀ b,Yf ι0 H0 b→b∉L.map (·.2)→Yf ι1 (H0++l) b)
 | [],L,l,ι0,H0,h0,hle,hl,hm,_,_,_=>by
  cases hl
  have : L=[]:=by simpa using hm
  subst this
  exact ⟨ι0,.refl _,by rw [List.append_nil];exact h0,rfl,fun i p h=>by simp at h,fun b h _=>by rw [List.append_nil];exact h⟩
 | e :: es,L,l,ι0,H0,h0,hle,hl,hm,hc,hn,hf=>by
  cases L with
  | nil=>simp at hm
  | cons p L=>
   simp only [List.map_cons,List.cons.injEq,Prod.mk.injEq] at hm
   unfold KC at hl
   split at hl
   ·rename_i _ _ s l' he hl'
    split at hl
    ·rename_i x hx
     split at hl
     ·rename_i hmp
      cases hl
      obtain ⟨sb,hsb,hcp⟩:=hc p (by simp)
      obtain ⟨hfp,hgp,hpp⟩:=hf p (by simp)
      rw [he] at hm
      have hv:=hm.1.2
      rw [hsb] at hv
      have hsl : ∃ ls,ι s=some ls∧ls.blk=sb:=by
       simp only [Wl] at hv
       cases hs : ι s with
       | none=>rw [hs] at hv;simp at hv
       | some ls=>rw [hs] at hv;exact ⟨ls,rfl,by simpa using hv.symm⟩
      obtain ⟨ls,hls,rfl⟩:=hsl
      have hR : Je w0 (ZU ι0 H0.length (KI p.2)) H0.length x w':=by
       have hle2 : Le ι (ZU ι0 H0.length (KI p.2)):=hle.trans (ZF h0 _)
       cases x with
       | map es' clk=>
        obtain ⟨en,hb,hge,hE⟩:=hS.mapR hx hls
        exact ⟨_,en,Zm _ _ _,hcp.trans hb,hgp,hE.mono hle2⟩
       | mapU es'=>
        obtain ⟨en,clk,es2,hb,hge,hE,hp⟩:=hS.mapUR hx hls
        exact ⟨_,en,clk,es2,Zm _ _ _,hcp.trans hb,hgp,hE.mono hle2,hp⟩
       | _=>simp [WI] at hmp
      have hov : x.isV=false:=by cases x <;> first | rfl | simp [WI] at hmp
      have h1:=h0.add hR hfp.1 hpp (fun _=>hfp.2) hov
      simp only [List.map_cons,List.nodup_cons] at hn
      obtain ⟨ι1,a1,a2,a3,a4,a5⟩:=ZkZ hS es L l' _ _ h1 (hle.trans (ZF h0 _)) hl' hm.2 (fun q hq=>hc q (by simp [hq])) hn.2 (fun q hq=>by
       obtain ⟨b1,b2⟩:=hf q (by simp [hq])
       exact ⟨b1.add h0 (fun e=>hn.1 (List.mem_map.2 ⟨q,hq,e.symm⟩)) hov,b2⟩)
      refine ⟨ι1,(ZF h0 _).trans a1,by rw [List.append_assoc,List.singleton_append] at a2;exact a2,by simp [a3],fun i q hi=>?_,fun b hb hnb=>?_⟩
      ·cases i with
       | zero=>
        have : p=q:=by simpa using hi
        subst this
        exact a1 _ _ (Zm _ _ _)
       | succ i=>
        have:=a4 i q (by simpa using hi)
        rwa [List.length_append,List.length_singleton,Nat.add_assoc,Nat.add_comm 1 i] at this
      ·simp only [List.map_cons,List.mem_cons,not_or] at hnb
       have:=a5 b (hb.add h0 (Ne.symm hnb.1) hov) hnb.2
       rwa [List.append_assoc,List.singleton_append] at this
     ·cases hl
    ·cases hl
   ·cases hl
theorem Yf.sim (h : Sim G w0 ι H w) {b : Nat} (hb : w.heap.size≤b) : Yf ι H b:=⟨fun i oi li hi hw hl=>by
 have:=((h.obj i oi hi).newer hw li hl).2
 omega,fun j cs es nx lj hj hlj hbe=>by
 rcases h.views j cs es nx lj hj hlj with ⟨l',k1,k2⟩ | ⟨⟨c,el,fr,k1,_⟩,_⟩
 ·exact ⟨l',k1,k2⟩
 ·have:=(Array.getElem?_eq_some_iff.1 k1).1
  omega⟩
theorem ZfX (h : Sim G w0 ι H w) {b : Nat} (hb : w.heap.size≤b) : ∀ c∈w0.prot,b≠c:=fun c hc e=>by
 have p1:=(h.prot c hc).1
 subst e
 rw [Array.getElem?_eq_none hb] at p1;cases p1
def Zic (B : List ((MapEntry × Nat) × Nat)) (en : List MapEntry) : List (Value × Value × Nat):=List.zipWith (fun b x=>(b.1.1.key,Value.map (some b.2),x.born)) B en
theorem Zg7 : ∀ (B : List ((MapEntry × Nat) × Nat)) (en : List MapEntry),en.map (fun x=>(x.key,x.val))=B.map (fun b=>(b.1.1.key,Value.map (some b.1.2)))→(∀ b∈B,Zp b.1.1.key=true∧ι b.2=some (KI b.1.2))→
  ZB ι (Zic B en) en∧(Zic B en).map kv=B.map (fun b=>(b.1.1.key,Value.map (some b.2)))∧(Zic B en).map (·.2.2)=en.map (·.born)
 | [],[],_,_=>⟨trivial,rfl,rfl⟩
 | [],_ :: _,h,_=>by simp at h
 | _ :: _,[],h,_=>by simp at h
 | b :: B,x :: en,h,hb=>by
  simp only [List.map_cons,List.cons.injEq,Prod.mk.injEq] at h
  obtain ⟨h1,h2,h3⟩:=Zg7 B en h.2 (fun c hc=>hb c (by simp [hc]))
  obtain ⟨g1,g2⟩:=hb b (by simp)
  have hm : RV ι (.map (some b.2)) (.map (some b.1.2)):=.mp (l:=KI b.1.2) g2
  refine ⟨⟨⟨g1,h.1.1,by rw [h.1.2];exact hm,rfl⟩,h1⟩,?_,?_⟩
  ·simp only [List.map_cons]
   rw [← h2];rfl
  ·simp only [List.map_cons]
   rw [← h3];rfl
theorem Zjm : ∀ (es : List (Value × Value × Nat)) (L : List (MapEntry × Nat)) (base : Nat),L.map (fun p=>p.1.key)=es.map (·.1)→
  (Yv base es).map kv=(L.zipIdx base).map (fun b=>(b.1.1.key,Value.map (some b.2)))∧(Yv base es).map (·.1)=es.map (·.1)
 | [],L,base,h=>by
  have : L=[]:=by simpa using h
  subst this
  exact ⟨rfl,rfl⟩
 | e :: es,[],base,h=>by simp at h
 | e :: es,p :: L,base,h=>by
  simp only [List.map_cons,List.cons.injEq] at h
  obtain ⟨h1,h2⟩:=Zjm es L (base+1) h.2
  refine ⟨?_,?_⟩
  ·simp only [Yv,List.map_cons,List.zipIdx_cons]
   rw [h1,← h.1];rfl
  ·simp only [Yv,List.map_cons]
   rw [h2]
theorem ZeO : ∀ {es : List (Value × Value × Nat)} {l : List Zl},KC H es=some l→∀ e∈es,∃ s x,e.2.1=.map (some s)∧H[s]?=some x∧WI x=true
 | [],l,h,e,he=>by cases he
 | e0 :: es,l,h,e,he=>by
  unfold KC at h
  split at h
  ·rename_i _ _ s l' hv hl'
   split at h
   ·rename_i x hx
    split at h
    ·rename_i hm
     rcases List.mem_cons.1 he with rfl | he
     ·exact ⟨s,x,hv,hx,hm⟩
     ·exact ZeO hl' e he
    ·cases h
   ·cases h
  ·cases h
theorem Zf3 (hle : ∀ e : Value × Value × Nat,∀ n,RV ι e.2.1 n→(∃ s,e.2.1=.map (some s))→n=Wl ι e.2.1) : ∀ (es : List (Value × Value × Nat)) (en : List MapEntry),ZB ι es en→(∀ e∈es,∃ s,e.2.1=.map (some s))→en.map (fun x=>(x.key,x.val))=es.map (fun e=>(e.1,Wl ι e.2.1))
 | [],[],_,_=>rfl
 | [],_ :: _,h,_=>h.elim
 | _ :: _,[],h,_=>h.elim
 | e :: es,n :: ns,h,hs=>by
  simp only [List.map_cons]
  rw [Zf3 hle es ns h.2 (fun e he=>hs e (by simp [he])),h.1.2.1,hle e _ h.1.2.2.1 (hs e (by simp))]
theorem Zmu {e : Value × Value × Nat} {n : Value} (h : RV ι e.2.1 n) (hs : ∃ s,e.2.1=.map (some s)) : n=Wl ι e.2.1:=by
 obtain ⟨s,hs⟩:=hs
 rw [hs] at h ⊢
 obtain ⟨l,hl,rfl⟩:=h.map_inv
 simp [Wl,hl]
theorem ZjG {g : FuncId} (hC : Zjh P g) : QU P G w0 g Zff:=by
 intro args H v H1 h
 refine .inl ⟨hC.c,fun ι w args' hS hr=>?_⟩
 obtain ⟨gi,o,e1,es,ks,l,rfl,hg,hes,hk,hl,rfl,rfl⟩:=Zky h
 obtain ⟨x,r,rfl,hx,hr2⟩:=hr.cons_inv
 rw [hr2.nil_inv]
 obtain ⟨lc,hlc,rfl⟩:=hx.ptr_inv
 obtain ⟨cc,el,fr,_,hgrow,hbc,hb5,hb6,hrc,hro,_⟩:=hS.cellsR hg hlc
 have hbase : lc.base=0:=(hro rfl).2.2 hgrow
 have hbl : lc.blk < w.heap.size:=by
  rcases Nat.lt_or_ge lc.blk w.heap.size with h1 | h1
  ·exact h1
  ·rw [Array.getElem?_eq_none h1] at hbc;cases hbc
 obtain ⟨u,hu1,hu2⟩:=hrc.at (o:=0) (by simp)
 obtain ⟨lm,hlm,hu3⟩:=RV.map_inv (id:=o) hu2
 subst hu3
 have hcell : w.cell? ⟨lc.blk,0,none⟩=some (.map (some lm.blk)):=by
  rw [Kq hbc]
  simpa [hbase] using hu1
 have hsets:=ZeO hl
 have hismap : ∀ e∈es,∃ s,e.2.1=.map (some s):=fun e he=>by obtain ⟨s,_,h1,_⟩:=hsets e he;exact ⟨s,h1⟩
 obtain ⟨en,clock,es2,hmb,hE,hperm,hst⟩ : ∃ (en : Array MapEntry) (clock : Nat) (es2 : List (Value × Value × Nat)),w.heap[lm.blk]?=some (.map en clock)∧Q2 ι es2 en∧(es2.map kv).Perm (es.map kv)∧Jx es2 clock:=by
  unfold Zg5 at hes
  split at hes
  ·rename_i es0 clk hid
   split at hes
   ·rename_i hst
    cases hes
    obtain ⟨en,hb,_,hE⟩:=hS.mapR hid hlm
    exact ⟨en,_,_,hb,hE,.refl _,hst⟩
   ·cases hes
  ·rename_i es0 hid
   cases hes
   obtain ⟨en,clk,es2,hb,_,hE,hp⟩:=hS.mapUR hid hlm
   exact ⟨en,clk,es2,hb,hE,hp.perm,hp.st⟩
  ·cases hes
 have hmem2 : ∀ e∈es2,∃ f∈es,f.1=e.1∧f.2.1=e.2.1:=fun e he=>by
  have : kv e∈es.map kv:=hperm.mem_iff.1 (List.mem_map.2 ⟨e,he,rfl⟩)
  obtain ⟨f,hf,h1⟩:=List.mem_map.1 this
  unfold kv at h1
  simp only [Prod.mk.injEq] at h1
  exact ⟨f,hf,h1.1,h1.2⟩
 have hismap2 : ∀ e∈es2,∃ s,e.2.1=.map (some s):=fun e he=>by
  obtain ⟨f,hf,_,h2⟩:=hmem2 e he
  rw [← h2];exact hismap f hf
 obtain ⟨k1,k2⟩:=ZB.keys hE
 have hkv:=Zf3 (fun e n h hs=>Zmu h hs) es2 en.toList hE hismap2
 have hkeyp : (es2.map (·.1)).Perm (ks.map Zr):=by
  have h3:=hperm.map (·.1)
  rw [KL,KL] at h3
  rw [← hk.keys];exact h3
 have hstr : ∀ x∈en.toList,∃ k : List UInt8,x.key=Zr k:=fun x hx=>by
  have h3 : x.key∈es2.map (·.1):=by rw [← k1];exact List.mem_map.2 ⟨x,hx,rfl⟩
  obtain ⟨k,_,h4⟩:=List.mem_map.1 (hkeyp.mem_iff.1 h3)
  exact ⟨k,h4.symm⟩
 have hsets2 : ∀ x∈en.toList,∃ sb ses sclk,x.val=.map (some sb)∧w.heap[sb]?=some (.map ses sclk):=fun x hx=>by
  have h3 : (x.key,x.val)∈es2.map (fun e=>(e.1,Wl ι e.2.1)):=by rw [← hkv];exact List.mem_map.2 ⟨x,hx,rfl⟩
  obtain ⟨e,he,h4⟩:=List.mem_map.1 h3
  obtain ⟨f,hf,_,hf2⟩:=hmem2 e he
  obtain ⟨s,y,hy1,hy2,hy3⟩:=hsets f hf
  simp only [Prod.mk.injEq] at h4
  rw [← hf2,hy1] at h4
  have hd : y≠.dead:=by rintro rfl;simp [WI] at hy3
  obtain ⟨ls,hls,_⟩:=(hS.obj s y hy2).loc hd
  have h5 : x.val=.map (some ls.blk):=by rw [← h4.2];simp [Wl,hls]
  cases y with
  | map es' clk=>
   obtain ⟨en',hb,_,_⟩:=hS.mapR hy2 hls
   exact ⟨_,_,_,h5,hb⟩
  | mapU es'=>
   obtain ⟨en',clk,_,hb,_,_⟩:=hS.mapUR hy2 hls
   exact ⟨_,_,_,h5,hb⟩
  | _=>simp [WI] at hy3
 have hstamp : Go.MapKept.Stamped en clock:=by
  refine ⟨fun x hx=>?_,by rw [k2];exact hst.nod,by rw [k1];exact hkeyp.nodup_iff.2 (Zae hk.nod)⟩
  have h3 : x.born∈en.toList.map (·.born):=List.mem_map.2 ⟨x,hx,rfl⟩
  rw [k2] at h3
  obtain ⟨e',h1,h2⟩:=List.mem_map.1 h3
  rw [← h2];exact hst.lt e' h1
 simp only [Nat.add_zero,hbase]
 refine (hC.run w lc.blk lm.blk en clock hbl hcell hmb hstamp hstr hsets2).mono fun ee w' ⟨gb',ob,el',en',ck,L,he,hgb,hob,hst',hen',hL,hcp,hnd,hge,hb⟩=>?_
 have hS':=hS.below hb
 have hLkv : (L.map fun p=>(p.1.key,p.1.val)).Perm (es.map fun e=>(e.1,Wl ι e.2.1)):=by
  have h3:=hL.map (fun x : MapEntry=>(x.key,x.val))
  rw [List.map_map,hkv] at h3
  have h4:=hperm.map (fun q : Value × Value=>(q.1,Wl ι q.2))
  rw [List.map_map,List.map_map] at h4
  exact h3.trans h4
 obtain ⟨L',hL',hLm⟩:=Zgk hLkv rfl
 simp only [List.nodup_cons,List.mem_cons,not_or] at hnd
 obtain ⟨⟨n1,n2⟩,n3,n4⟩:=hnd
 have hnod' : (L'.map (·.2)).Nodup:=(hL'.map _).nodup_iff.2 n4
 have hgeL : ∀ p∈L',w.heap.size≤p.2:=fun p hp=>hge _ (by simp only [List.mem_cons,List.mem_map];exact .inr (.inr ⟨p,hL'.mem_iff.1 hp,rfl⟩))
 obtain ⟨ι1,a1,a2,a3,a4,a5⟩:=ZkZ hS es L' l ι H hS' (.refl _) hl hLm (fun p hp=>hcp p (hL'.mem_iff.1 hp)) hnod' (fun p hp=>⟨Yf.sim hS (hgeL p hp),Nat.le_trans hS.size (hgeL p hp),ZfX hS (hgeL p hp)⟩)
 have hobge:=hge ob (by simp)
 have hgbge:=hge gb' (by simp)
 have hobF : Yf ι1 (H++l) ob:=a5 ob (Yf.sim hS hobge) fun hm=>n3 ((hL'.map (·.2)).mem_iff.1 hm)
 have hgbF : Yf ι1 (H++l) gb':=a5 gb' (Yf.sim hS hgbge) fun hm=>n2 ((hL'.map (·.2)).mem_iff.1 hm)
 obtain ⟨B,hB,hBm⟩:=Zgk (f:=Prod.fst) (l:=L'.zipIdx H.length) (m':=L) (by rw [List.zipIdx_map_fst];exact hL') rfl
 have hBi : ∀ b∈B,Zp b.1.1.key=true∧ι1 b.2=some (KI b.1.2):=fun b hb=>by
  have hb':=hB.mem_iff.1 hb
  obtain ⟨i,hi⟩:=List.getElem?_of_mem hb'
  rw [List.getElem?_zipIdx] at hi
  cases hq : L'[i]? with
  | none=>rw [hq] at hi;cases hi
  | some q=>
   rw [hq] at hi
   have hi : (q,H.length+i)=b:=by simpa using hi
   subst hi
   refine ⟨?_,a4 i q hq⟩
   have hqL : q.1∈L.map (·.1):=List.mem_map.2 ⟨q,hL'.mem_iff.1 (List.mem_of_getElem? hq),rfl⟩
   obtain ⟨k,hk⟩:=hstr q.1 (hL.mem_iff.1 hqL)
   show Zp q.1.key=true
   rw [hk];rfl
 have hen2 : en'.toList.map (fun x=>(x.key,x.val))=B.map (fun b=>(b.1.1.key,Value.map (some b.1.2))):=by
  rw [hen',← hBm,List.map_map];rfl
 obtain ⟨z1,z2,z3⟩:=Zg7 B en'.toList hen2 hBi
 have hkeysL : L'.map (fun p=>p.1.key)=es.map (·.1):=by
  have:=congrArg (List.map Prod.fst) hLm
  simpa [List.map_map,Function.comp_def] using this
 obtain ⟨y1,y2⟩:=Zjm es L' H.length hkeysL
 have hle1 : Le ι ι1:=a1
 have hlen : (H++l).length=H.length+l.length:=List.length_append
 have hPU : Qg (Zic B en'.toList) ck (Yv H.length es):=by
  refine ⟨?_,⟨fun e he=>?_,?_⟩,⟨fun e he=>?_,?_⟩⟩
  ·rw [z2,y1]
   exact hB.map _
  ·have : e.1∈(Yv H.length es).map (·.1):=List.mem_map.2 ⟨e,he,rfl⟩
   rw [y2,hk.keys] at this
   obtain ⟨k,_,h4⟩:=List.mem_map.1 this
   exact ⟨_,h4.symm⟩
  ·rw [y2,hk.keys];exact Zae hk.nod
  ·have : e.2.2∈(Zic B en'.toList).map (·.2.2):=List.mem_map.2 ⟨e,he,rfl⟩
   rw [z3] at this
   obtain ⟨x,hx,h4⟩:=List.mem_map.1 this
   rw [← h4];exact hst'.1 x hx
  ·rw [z3];exact hst'.2.1
 have hO:=a2.add (o:=.mapU (Yv H.length es)) (l:=KI ob) ⟨KI ob,en',ck,_,Zm _ _ _,hob,Nat.le_trans hS.size hobge,z1.mono (ZF a2 _),hPU⟩ hobF.1 (ZfX hS hobge) (fun _=>hobF.2)
 have hgbF2 : Yf (ZU ι1 (H++l).length (KI ob)) (H++l++[.mapU (Yv H.length es)]) gb':=hgbF.add a2 (Ne.symm n1)
 have hN:=hO.add (o:=.cells [.map (some (H.length+l.length))] 1 false false) (l:=⟨gb',0,1,1,false⟩) (by
  refine ⟨⟨gb',0,1,1,false⟩,_,_,_,Zm _ _ _,rfl,rfl,hgb,by simp,by simp,?_,fun _=>⟨Nat.le_trans hS.size hgbge,.inl rfl,fun _=>rfl⟩,by simp,by simp [oneCell]⟩
  refine ⟨rfl,fun i hi=>?_⟩
  have : i=0:=by simpa using hi
  subst this
  refine .mp (l:=KI ob) (ZF hO _ _ _ ?_)
  rw [← hlen]
  exact Zm _ _ _) hgbF2.1 (ZfX hS hgbge) (fun _=>hgbF2.2)
 refine ⟨_,_,(hle1.trans (ZF a2 _)).trans (ZF hO _),he,?_,hN⟩
 have hp:=RV.ptr (ι:=ZU (ZU ι1 (H++l).length (KI ob)) (H++l++[Zl.mapU (Yv H.length es)]).length ⟨gb',0,1,1,false⟩) (o:=0) (Zm _ _ _)
 have hlen2 : (H++l++[Zl.mapU (Yv H.length es)]).length=H.length+l.length+1:=by rw [List.length_append,List.length_append,List.length_singleton]
 rw [hlen2] at hp ⊢
 exact hp
end
end Go.Proofs.YtgfbgfafajiehaaGreatDoor.A

namespace Go.Proofs.YtgfbgfafajiehaaGreatDoor.A
set_option linter.unusedVariables false
set_option linter.unusedSimpArgs false
open Go.RowKit Go.Maps Go.ChangeMaps Go.MapKept
section
variable {P : Program} (w : World) {ops : Array Oper} {rest : List Oper} {o : Oper} {a : Act} {Q : Exit→Act→World→Prop}
theorem Zdb (hg : o.guard=none) (m : Operand) (t : TypeId) (hop : o.op=Op.range t m) (k e : TypeId) (ht : P.underlying t=some (.map k e)) (b : Nat) (es : Array MapEntry) (clock : Nat)
  (hm : a.eval m=.map (some b)) (hb : w.heap[b]?=some (.map es clock))
  (hK : wpList P ops Q rest (a.put o.dst (.pointer (some ⟨w.heap.size,0,none⟩))) (w.alloc (.mapIter (some b) clock #[] clock))) :
  wpList P ops Q (o :: rest) a w:=by
 refine wpList_plain hg fun K' hK'=>?_
 have hrun:=run_range_map (P:=P) w t k e b es clock ht hb
 unfold Oper.wp
 simp [execOp,hop,hm,hrun,Result.andThen]
 exact hK' _ _ hK
theorem Zed (hg : o.guard=none) (it : Operand) (hop : o.op=Op.next it false) (b r since c0 clock : Nat) (seen : Array Nat) (es : Array MapEntry)
  (hit : a.eval it=.pointer (some ⟨r,0,none⟩)) (hr : w.heap[r]?=some (.mapIter (some b) since seen c0)) (hb : w.heap[b]?=some (.map es clock)) (hst : Go.MapKept.Stamped es clock) (hsince : since=clock) (hsc : since≤c0)
  (hDone : (∀ x∈es.toList,x.born∈seen)→wpList P ops Q rest (a.put o.dst (.tuple #[.bool false])) w)
  (hMore : ∀ (e : MapEntry) (w' : World),e∈es.toList→e.born∉seen→w'.heap[r]?=some (.mapIter (some b) since (seen.push e.born) clock)→(leftOf es (seen.push e.born)).size < (leftOf es seen).size→
   w.grownBy w' (some r)→w'.heap.size=w.heap.size→(Instr.entry (.pointer (some ⟨r,0,none⟩))).run P w'=.ok (.tuple #[e.key,e.val]) w'→wpList P ops Q rest (a.put o.dst (.tuple #[.bool true,e.key,e.val])) w') :
  wpList P ops Q (o :: rest) a w:=by
 refine wpList_plain hg fun K' hK'=>?_
 unfold Oper.wp
 have hold : ∀ x∈es.toList,x.born < since:=by rw [hsince];exact hst.1
 rcases run_next_at (P:=P) w o.type r b since c0 seen es clock hr hb hold hsc with ⟨h0,hrun⟩ | ⟨e,he,w1,hal,hrun⟩
 ·simp [execOp,hop,hit,hrun,Result.andThen]
  refine hK' _ _ (hDone fun x hx=>?_)
  have:=all_seen es seen h0 x hx
  simpa using this
 ·obtain ⟨hem,hes⟩:=mem_left he
  have hr1 : w1.heap[r]?=some (.mapIter (some b) since seen c0):=by rcases hal with rfl | rfl <;> exact hr
  have hb1 : w1.heap[b]?=some (.map es clock):=by rcases hal with rfl | rfl <;> exact hb
  have hset:=heap_set (o':=.mapIter (some b) since (seen.push e.born) clock) hr1
  have hne : r≠b:=by
   intro e1
   rw [e1,hb] at hr
   cases hr
  have hb' : (setBlock w1 r (.mapIter (some b) since (seen.push e.born) clock)).heap[b]?=some (.map es clock):=(hset.2 b (fun e1=>hne e1.symm)).trans hb1
  simp [execOp,hop,hit,hrun,Result.andThen]
  refine hK' _ _ (hMore e _ hem (by simpa using hes) hset.1 (left_shrinks es seen e he) ?_ ?_ (run_entry_at _ r b since seen es clock e hset.1 hb' hem ((stamped_iff es clock).1 hst).2.1))
  ·rcases hal with rfl | rfl <;> exact ⟨rfl,rfl,rfl,by simp [setBlock],fun i _ hi=>hset.2 i (fun e1=>hi (by rw [e1]))⟩
  ·rcases hal with rfl | rfl <;> simp [setBlock]
end
theorem ZW {w : World} {o : Obj} {b : Nat} (h : b < w.heap.size) : (w.alloc o).heap[b]?=w.heap[b]?:=(MapKept.heap_alloc w o).2 b h
theorem Zir {P : Program} {t kt e : TypeId} {k : List UInt8} {en : Array MapEntry} {ck ob : Nat} {W : World} (ht : P.underlying t=some (.map kt e)) (htk : tkT P kt=.str) (hb : W.heap[ob]?=some (.map en ck)) (hkeys : ∀ x∈en.toList,∃ k',x.key=Zr k'∧k'≠k) (v : Value) :
  ∃ W2,(Instr.mapUpdate t (.map (some ob)) (Zr k) v).run P W=.ok () W2∧W2=ZQ W ob (.map (en.push { key:=Zr k,val:=v,born:=ck }) (ck+1)):=by
 have hok : okK (tkT P kt) (Zr k)=true:=by rw [htk];rfl
 obtain ⟨d,hd,hsk,hchk⟩:=Qv hok
 have hE : ∀ l : List MapEntry,(∀ x∈l,∃ k',x.key=Zr k'∧k'≠k)→ZB (fun _=>none) (l.map fun x=>(x.key,Value.tuple #[],x.born)) l∧∀ i,ZG .str (Zr k) (l.map fun x=>(x.key,Value.tuple #[],x.born)) i=some none:=by
  intro l
  induction l with
  | nil=>intro _;exact ⟨trivial,fun _=>rfl⟩
  | cons x l ih=>
   intro h
   obtain ⟨k',hk1,hk2⟩:=h x (by simp)
   obtain ⟨h1,h2⟩:=ih fun y hy=>h y (by simp [hy])
   refine ⟨⟨⟨by show Zp x.key=true;rw [hk1];rfl,rfl,.un,rfl⟩,h1⟩,fun i=>?_⟩
   have hs : Q6 .str (Zr k) x.key=some (k==k'):=by rw [hk1];simp only [Q6,Zr,Zkw]
   simp only [List.map_cons,ZG,hs]
   rw [show (k==k')=false by rw [beq_eq_false_iff_ne];exact Ne.symm hk2]
   exact h2 _
 obtain ⟨h1,h2⟩:=hE en.toList hkeys
 obtain ⟨r',h3,h4⟩:=ZR (k:=Zr k) hd 0 h1 (by rw [htk];exact h2 0)
 cases r' with
 | some p=>exact h4.elim
 | none=>
  refine ⟨_,?_,rfl⟩
  simp only [Instr.mapUpdate,Sem.run_bind,run_underlying ht,Result.andThen_ok,ZC hb,hchk,ZD hd h3,ZI hb]
structure CpR (w : World) (b r gb' ob : Nat) (es : Array MapEntry) (clock : Nat) (seen : Array Nat) (c0 : Nat) (en : Array MapEntry) (ck : Nat) (L : List (MapEntry × Nat)) (el : TypeId) (wr : World) : Prop where
 it : wr.heap[r]?=some (.mapIter (some b) clock seen c0)
 c0 : clock≤c0
 g : wr.heap[gb']?=some (.cells #[.map (some ob)] el (0,0))
 o : wr.heap[ob]?=some (.map en ck)
 st : Go.MapKept.Stamped en ck
 ent : en.toList.map (fun x=>(x.key,x.val))=L.map (fun p=>(p.1.key,Value.map (some p.2)))
 sn : L.map (·.1.born)=seen.toList
 mem : ∀ p∈L,p.1∈es.toList∧∃ sb ses sclk,p.1.val=.map (some sb)∧w.heap[sb]?=some (.map ses sclk)∧wr.heap[p.2]?=some (.map ses sclk)
 nod : (r :: gb' :: ob :: L.map (·.2)).Nodup
 ge : ∀ q∈r :: gb' :: ob :: L.map (·.2),w.heap.size≤q
 snod : seen.toList.Nodup
 bel : Below w.heap.size w wr
section
variable {w wr w1 : World} {b r g o : Nat} {es : Array MapEntry} {clock : Nat} {seen : Array Nat} {c0 : Nat} {en : Array MapEntry} {ck : Nat} {L : List (MapEntry × Nat)} {el : TypeId}
theorem CpR.lts (h : CpR w b r g o es clock seen c0 en ck L el wr) : r < wr.heap.size∧g < wr.heap.size∧o < wr.heap.size:=⟨(Array.getElem?_eq_some_iff.1 h.it).1,(Array.getElem?_eq_some_iff.1 h.g).1,(Array.getElem?_eq_some_iff.1 h.o).1⟩
theorem CpR.keys (h : CpR w b r g o es clock seen c0 en ck L el wr) (hst : Go.MapKept.Stamped es clock) {e : MapEntry} (he1 : e∈es.toList) (he2 : e.born∉seen) : ∀ x∈en.toList,x.key≠e.key:=fun x hx e4=>by
 have h3 : (x.key,x.val)∈L.map (fun p=>(p.1.key,Value.map (some p.2))):=by rw [← h.ent];exact List.mem_map.2 ⟨x,hx,rfl⟩
 obtain ⟨p,hp,h4⟩:=List.mem_map.1 h3
 simp only [Prod.mk.injEq] at h4
 obtain ⟨hm,_⟩:=h.mem p hp
 have h5 : p.1=e:=entry_eq_of_key ((stamped_iff es clock).1 hst).2.2 hm he1 (h4.1.trans e4)
 have : p.1.born∈seen.toList:=by rw [← h.sn];exact List.mem_map.2 ⟨p,hp,rfl⟩
 rw [h5] at this
 exact he2 (by simpa using this)
theorem CpR.next (h : CpR w b r g o es clock seen c0 en ck L el wr) (hst : Go.MapKept.Stamped es clock) {e : MapEntry} {sb sclk : Nat} {ses : Array MapEntry} (he1 : e∈es.toList) (he2 : e.born∉seen) (hev : e.val=.map (some sb)) (hsb : w.heap[sb]?=some (.map ses sclk))
  (hit : w1.heap[r]?=some (.mapIter (some b) clock (seen.push e.born) clock)) (hgr : wr.grownBy w1 (some r)) (hsz : w1.heap.size=wr.heap.size) :
  CpR w b r g o es clock (seen.push e.born) clock (en.push { key:=e.key,val:=.map (some wr.heap.size),born:=ck }) (ck+1) (L++[(e,wr.heap.size)]) el
   (ZQ (w1.alloc (.map ses sclk)).drew o (.map (en.push { key:=e.key,val:=.map (some wr.heap.size),born:=ck }) (ck+1))):=by
 obtain ⟨l1,l2,l3⟩:=h.lts
 have hnod:=h.nod
 simp only [List.nodup_cons,List.mem_cons,not_or] at hnod
 obtain ⟨⟨n1,n2,n3⟩,⟨n4,n5⟩,n6,n7⟩:=hnod
 generalize hX : Obj.map (en.push { key:=e.key,val:=.map (some wr.heap.size),born:=ck }) (ck+1)=X
 have hge:=h.ge
 have hLlt : ∀ p∈L,p.2 < wr.heap.size:=fun p hp=>by
  obtain ⟨_,sb',ses',sclk',h1,h2,h3⟩:=h.mem p hp
  exact (Array.getElem?_eq_some_iff.1 h3).1
 have keep : ∀ c,c < wr.heap.size→c≠o→c≠r→(ZQ (w1.alloc (.map ses sclk)).drew o X).heap[c]?=wr.heap[c]?:=fun c hc h1 h2=>by
  rw [Zy h1]
  show (w1.alloc (.map ses sclk)).heap[c]?=_
  rw [ZW (by omega),hgr.block c hc (by simpa using h2)]
 have hk:=h.keys hst he1 he2
 have hst2:=(stamped_iff en ck).1 h.st
 refine ⟨?_,Nat.le_refl _,by rw [keep g l2 n4 (Ne.symm n1)];exact h.g,?_,?_,?_,?_,?_,?_,?_,?_,?_⟩
 ·rw [Zy n2]
  show (w1.alloc (.map ses sclk)).heap[r]?=_
  rw [ZW (by omega)];exact hit
 ·rw [JS (by show o < (w1.alloc (.map ses sclk)).heap.size;simp;omega),hX]
 ·refine (stamped_iff _ _).2 ⟨fun x hx=>?_,?_,?_⟩
  ·rw [Array.toList_push,List.mem_append] at hx
   rcases hx with hx | hx
   ·exact Nat.lt_succ_of_lt (hst2.1 x hx)
   ·have : x={ key:=e.key,val:=.map (some wr.heap.size),born:=ck }:=by simpa using hx
    rw [this];exact Nat.lt_succ_self _
  ·rw [Array.toList_push,List.map_append,List.nodup_append]
   refine ⟨hst2.2.1,by simp,fun a ha c hc=>?_⟩
   have hc : c=ck:=by simpa using hc
   obtain ⟨x,hx,rfl⟩:=List.mem_map.1 ha
   have:=hst2.1 x hx
   omega
  ·rw [Array.toList_push,List.pairwise_append]
   refine ⟨hst2.2.2,by simp,fun x hx y hy=>?_⟩
   have : y={ key:=e.key,val:=.map (some wr.heap.size),born:=ck }:=by simpa using hy
   rw [this];exact hk x hx
 ·rw [Array.toList_push,List.map_append,List.map_append,h.ent];rfl
 ·rw [List.map_append,h.sn,Array.toList_push];rfl
 ·intro p hp
  rcases List.mem_append.1 hp with hp | hp
  ·obtain ⟨h1,sb',ses',sclk',h2,h4,h3⟩:=h.mem p hp
   have hp2 : p.2∈L.map (·.2):=List.mem_map.2 ⟨p,hp,rfl⟩
   exact ⟨h1,sb',ses',sclk',h2,h4,by rw [keep p.2 (hLlt p hp) (fun e1=>n6 (e1 ▸ hp2)) (fun e1=>n3 (e1 ▸ hp2))];exact h3⟩
  ·have : p=(e,wr.heap.size):=by simpa using hp
   subst this
   refine ⟨he1,sb,ses,sclk,hev,hsb,?_⟩
   rw [Zy (by show wr.heap.size≠o;omega)]
   show (w1.alloc (.map ses sclk)).heap[wr.heap.size]?=_
   rw [← hsz]
   exact (MapKept.heap_alloc w1 _).1
 ·have hnew : ∀ q∈r :: g :: o :: L.map (·.2),q≠wr.heap.size:=fun q hq=>by
   simp only [List.mem_cons] at hq
   rcases hq with rfl | rfl | rfl | hq
   ·omega
   ·omega
   ·omega
   ·obtain ⟨p,hp,rfl⟩:=List.mem_map.1 hq
    exact Nat.ne_of_lt (hLlt p hp)
  have : r :: g :: o :: (L++[(e,wr.heap.size)]).map (·.2)=(r :: g :: o :: L.map (·.2))++[wr.heap.size]:=by simp
  rw [this,List.nodup_append]
  refine ⟨h.nod,by simp,fun a ha c hc=>?_⟩
  have hc : c=wr.heap.size:=by simpa using hc
  rw [hc];exact hnew a ha
 ·intro q hq
  have : r :: g :: o :: (L++[(e,wr.heap.size)]).map (·.2)=(r :: g :: o :: L.map (·.2))++[wr.heap.size]:=by simp
  rw [this] at hq
  rcases List.mem_append.1 hq with hq | hq
  ·exact hge q hq
  ·have : q=wr.heap.size:=by simpa using hq
   rw [this];exact h.bel.size
 ·rw [Array.toList_push,List.nodup_append]
  refine ⟨h.snod,by simp,fun a ha c hc=>?_⟩
  have hc : c=e.born:=by simpa using hc
  rw [hc];rintro rfl;exact he2 (by simpa using ha)
 ·refine ⟨(show w1.os=_ from hgr.os.trans h.bel.os),(show w1.tape=_ from hgr.tape.trans h.bel.tape),(show w1.output=_ from hgr.output.trans h.bel.output),?_,fun i hi=>?_⟩
  ·rw [ZkQ]
   show _≤(w1.alloc (.map ses sclk)).heap.size
   have:=h.bel.size
   simp;omega
  ·have ho:=hge o (by simp)
   have hr:=hge r (by simp)
   rw [keep i (Nat.lt_of_lt_of_le hi h.bel.size) (by omega) (by omega)]
   exact h.bel.block i hi
theorem CpR.left (h : CpR w b r g o es clock seen c0 en ck L el wr) (hb : w.heap[b]?=some (.map es clock)) : wr.heap[b]?=some (.map es clock)∧wr.rangeLeft b r=(leftOf es seen).size:=by
 have hbl : b < w.heap.size:=(Array.getElem?_eq_some_iff.1 hb).1
 have h1 : wr.heap[b]?=some (.map es clock):=(h.bel.block b hbl).trans hb
 refine ⟨h1,?_⟩
 simp only [World.rangeLeft,h1,h.it]
theorem CpR.perm (h : CpR w b r g o es clock seen c0 en ck L el wr) (hst : Go.MapKept.Stamped es clock) (hall : ∀ x∈es.toList,x.born∈seen) : (L.map (·.1)).Perm es.toList:=by
 have hst2:=(stamped_iff es clock).1 hst
 have n1 : (L.map (·.1)).Nodup:=by
  have : ((L.map (·.1)).map (·.born)).Nodup:=by rw [List.map_map];exact h.sn ▸ h.snod
  exact List.Pairwise.of_map _ (fun a b h e=>h (congrArg _ e)) this
 have n2 : es.toList.Nodup:=List.Pairwise.of_map _ (fun a b h e=>h (congrArg _ e)) hst2.2.1
 refine (List.perm_ext_iff_of_nodup n1 n2).2 fun x=>⟨fun hx=>?_,fun hx=>?_⟩
 ·obtain ⟨p,hp,rfl⟩:=List.mem_map.1 hx
  exact (h.mem p hp).1
 ·have h1 : x.born∈L.map (·.1.born):=by rw [h.sn];simpa using hall x hx
  obtain ⟨p,hp,h2⟩:=List.mem_map.1 h1
  have : p.1=x:=born_inj hst2.2.1 (h.mem p hp).1 hx h2
  exact List.mem_map.2 ⟨p,hp,this⟩
end
set_option maxRecDepth 100000 in
theorem ZmG (hCl : KF Tryz.prog 146) : Zjh Tryz.prog 97 where
 c:=⟨Tryz.f97,Tryz.func97,by kernel_rfl,by kernel_rfl⟩
 run:=fun w gb b es clock hgb hcell hb hst hks hvs=>by
  have hmm:=@run_makeMap Tryz.prog
  have hbl : b < w.heap.size:=(Array.getElem?_eq_some_iff.1 hb).1
  go_enter Tryz.func97,Tryz.ntmps97
  go_wp2_with (first
   | (at_range;refine Zdb _ rfl _ 214 rfl _ _ Tryz.underlying214 b es clock rfl ?_ ?_)
   | go_in)
  ·rw [ZW (by simp;omega),ZW hbl];exact hb
  ·go_frame
   have e1 : ((w.alloc (.map #[] 0)).alloc (.cells #[.map (some w.heap.size)] 216)).heap.size=w.heap.size+2:=by simp
   have e2 : (w.alloc (.map #[] 0)).heap.size=w.heap.size+1:=by simp
   rw [e1]
   try rw [e2]
   go_loopw [4,5] (fun _ _ wr=>∃ seen c0 en ck L,CpR w b (w.heap.size+2) (w.heap.size+1) w.heap.size es clock seen c0 en ck L 216 wr) (fun _ _ wr=>wr.rangeLeft b (w.heap.size+2))
   case atStart=>
    refine ⟨#[],clock,#[],0,[],?_⟩
    have hA:=fun (w : World) (o : Obj)=>(MapKept.heap_alloc w o).1
    refine ⟨?_,Nat.le_refl _,?_,?_,⟨by simp,by simp,by simp⟩,rfl,rfl,by simp,by simp,?_,by simp,?_⟩
    ·rw [← e1];exact hA _ _
    ·rw [ZW (by rw [e1];omega),← e2];exact hA _ _
    ·rw [ZW (by rw [e1];omega),ZW (by rw [e2];omega)];exact hA _ _
    ·intro q hq
     simp only [List.map_nil,List.mem_cons,List.not_mem_nil,or_false] at hq
     omega
    ·exact (((Below.refl _ _).alloc (Nat.le_refl _) _).alloc (by rw [e2];omega) _).alloc (by rw [e1];omega) _
   case round=>
    obtain ⟨seen,c0,en,ck,L,hR⟩:=hrel
    go_wp2_with (first
     | (at_next;refine Zed _ rfl _ rfl b (w.heap.size+2) clock c0 clock seen es rfl hR.it ?_ hst rfl hR.c0 ?_ ?_)
     | go_in)
    ·exact (hR.left hb).1
    ·intro hdone
     go_wp2
     go_ret
     have hp:=hR.perm hst (by simpa using hdone)
     have hnod:=hR.nod
     have hge:=hR.ge
     exact ⟨_,_,_,_,_,_,rfl,hR.g,hR.o,hR.st,hR.ent,hp,fun p hp=>(by obtain ⟨_,sb,ses,sclk,h1,h2,h3⟩:=hR.mem p hp;exact ⟨sb,h1,h3.trans h2.symm⟩),(List.nodup_cons.1 hnod).2,fun q hq=>hge q (List.mem_cons_of_mem _ hq),hR.bel⟩
    ·intro e w1 he1 he2 hit1 hlt hgr hsz hen
     go_upto_region 5 with fail
     have he1 : e∈es.toList:=by simpa using he1
     obtain ⟨sb,ses,sclk,hev,hsb⟩:=hvs e he1
     obtain ⟨k,hek⟩:=hks e he1
     obtain ⟨W2,hcg,hcg2,hsz1,hsb1,hmu,hW2⟩ : ∃ W2,w1.cell? ⟨w.heap.size+1,0,none⟩=some (.map (some w.heap.size))∧(w1.alloc (.map ses sclk)).cell? ⟨w.heap.size+1,0,none⟩=some (.map (some w.heap.size))∧w.heap.size+1 < wr.heap.size∧w1.heap[sb]?=some (.map ses sclk)∧
       (Instr.mapUpdate 214 (.map (some w.heap.size)) (Zr k) (.map (some wr.heap.size))).run Tryz.prog (w1.alloc (.map ses sclk)).drew=.ok () W2∧W2=ZQ (w1.alloc (.map ses sclk)).drew w.heap.size (.map (en.push { key:=Zr k,val:=.map (some wr.heap.size),born:=ck }) (ck+1)):=by
      have hw : w.heap.size < wr.heap.size:=(Array.getElem?_eq_some_iff.1 hR.o).1
      have hg1 : w1.heap[w.heap.size+1]?=some (.cells #[.map (some w.heap.size)] 216 (0,0)):=by
       rw [hgr.block _ (Array.getElem?_eq_some_iff.1 hR.g).1 (by simp)];exact hR.g
      have ho1 : w1.heap[w.heap.size]?=some (.map en ck):=by
       rw [hgr.block _ hw (by simp)];exact hR.o
      have hcg : w1.cell? ⟨w.heap.size+1,0,none⟩=some (.map (some w.heap.size)):=by
       rw [Kq hg1];rfl
      have hsbl : sb < w.heap.size:=(Array.getElem?_eq_some_iff.1 hsb).1
      have hsb1 : w1.heap[sb]?=some (.map ses sclk):=by
       rw [hgr.block _ (by omega) (by simp;omega),hR.bel.block sb hsbl];exact hsb
      have hoD : (w1.alloc (.map ses sclk)).drew.heap[w.heap.size]?=some (.map en ck):=by
       show (w1.alloc (.map ses sclk)).heap[w.heap.size]?=_
       rw [ZW (by omega)];exact ho1
      have hkn : ∀ x∈en.toList,∃ k',x.key=Zr k'∧k'≠k:=fun x hx=>by
       have h3 : (x.key,x.val)∈L.map (fun p=>(p.1.key,Value.map (some p.2))):=by rw [← hR.ent];exact List.mem_map.2 ⟨x,hx,rfl⟩
       obtain ⟨p,hp,h4⟩:=List.mem_map.1 h3
       simp only [Prod.mk.injEq] at h4
       obtain ⟨hm,_⟩:=hR.mem p hp
       obtain ⟨k',hk'⟩:=hks p.1 hm
       refine ⟨k',by rw [← h4.1];exact hk',fun e4=>he2 ?_⟩
       have h5 : p.1=e:=entry_eq_of_key ((stamped_iff es clock).1 hst).2.2 hm he1 (by rw [hk',hek,e4])
       have : p.1.born∈seen.toList:=by rw [← hR.sn];exact List.mem_map.2 ⟨p,hp,rfl⟩
       rw [h5] at this
       simpa using this
      obtain ⟨W2,hmu,hW2⟩:=Zir (P:=Tryz.prog) (t:=214) (k:=k) (v:=.map (some wr.heap.size)) Tryz.underlying214 (by kernel_rfl) hoD hkn
      have hs1 : w.heap.size+1 < wr.heap.size:=(Array.getElem?_eq_some_iff.1 hR.g).1
      have hg2 : (w1.alloc (.map ses sclk)).heap[w.heap.size+1]?=some (.cells #[.map (some w.heap.size)] 216 (0,0)):=by
       rw [ZW (by omega)];exact hg1
      exact ⟨W2,hcg,by rw [Kq hg2];rfl,hs1,hsb1,hmu,hW2⟩
     rw [hev,hek]
     go_region_with (first
      | (go_at_call 146;refine (hCl.some sb ses sclk _ ?_).mono ?_;exact hsb1;rintro e w' ⟨rfl,rfl⟩)
      | fail)
     ·have hN:=hR.next hst he1 he2 hev hsb hit1 hgr hsz
      rw [hek] at hN
      go_roundw
      case rel=>(repeat apply Exists.intro);exact ⟨⟨_,_,_,_,_,hN⟩,rfl⟩
      case measure=>rw [(hN.left hb).2,(hR.left hb).2];exact hlt
     ·have hN:=hR.next hst he1 he2 hev hsb hit1 hgr hsz
      rw [hek] at hN
      go_roundw
      case rel=>(repeat apply Exists.intro);exact ⟨⟨_,_,_,_,_,hN⟩,rfl⟩
      case measure=>rw [(hN.left hb).2,(hR.left hb).2];exact hlt
end Go.Proofs.YtgfbgfafajiehaaGreatDoor.A

namespace Go.Proofs.YtgfbgfafajiehaaGreatDoor.A
set_option linter.unusedVariables false
set_option maxRecDepth 100000
set_option linter.unusedSimpArgs false
open Go.Proofs Go.Proofs.YtgfbgfafajiehaaGreatDoor
def RA0 (g : Nat) (F : Zb→M Value) : Prop:=∀ {prim : FuncId→Option (List Value→M Value)} (_ : prim g=none) (n : Nat),run Tryz.prog prim lvs (n+1) g []=F (run Tryz.prog prim lvs n)
theorem ra0 {g : Nat} {fn : Func} {F : Zb→M Value} (hf : Tryz.prog.funcs[g]?=some fn) (hc : (Jb fn && Nat.blt g Z0)=true) (h : ∀ (Γ : Zb),JF Tryz.prog Γ fn (lvs g) []=F Γ) : RA0 g F:=fun hp n=>(Jw hp rfl hf (by cases e : Jb fn <;> simp [e] at hc ⊢) (by cases e : Nat.blt g Z0 <;> simp [e] at hc ⊢)).trans (h _)
def RA1 (g : Nat) (F : Zb→Value→M Value) : Prop:=∀ {prim : FuncId→Option (List Value→M Value)} (_ : prim g=none) (n : Nat) (x0 : Value),run Tryz.prog prim lvs (n+1) g [x0]=F (run Tryz.prog prim lvs n) x0
theorem ra1 {g : Nat} {fn : Func} {F : Zb→Value→M Value} (hf : Tryz.prog.funcs[g]?=some fn) (hc : (Jb fn && Nat.blt g Z0)=true) (h : ∀ (Γ : Zb) (x0 : Value),JF Tryz.prog Γ fn (lvs g) [x0]=F Γ x0) : RA1 g F:=fun hp n x0=>(Jw hp rfl hf (by cases e : Jb fn <;> simp [e] at hc ⊢) (by cases e : Nat.blt g Z0 <;> simp [e] at hc ⊢)).trans (h _ x0)
def RA2 (g : Nat) (F : Zb→Value→Value→M Value) : Prop:=∀ {prim : FuncId→Option (List Value→M Value)} (_ : prim g=none) (n : Nat) (x0 x1 : Value),run Tryz.prog prim lvs (n+1) g [x0,x1]=F (run Tryz.prog prim lvs n) x0 x1
theorem ra2 {g : Nat} {fn : Func} {F : Zb→Value→Value→M Value} (hf : Tryz.prog.funcs[g]?=some fn) (hc : (Jb fn && Nat.blt g Z0)=true) (h : ∀ (Γ : Zb) (x0 x1 : Value),JF Tryz.prog Γ fn (lvs g) [x0,x1]=F Γ x0 x1) : RA2 g F:=fun hp n x0 x1=>(Jw hp rfl hf (by cases e : Jb fn <;> simp [e] at hc ⊢) (by cases e : Nat.blt g Z0 <;> simp [e] at hc ⊢)).trans (h _ x0 x1)
def RA4 (g : Nat) (F : Zb→Value→Value→Value→Value→M Value) : Prop:=∀ {prim : FuncId→Option (List Value→M Value)} (_ : prim g=none) (n : Nat) (x0 x1 x2 x3 : Value),run Tryz.prog prim lvs (n+1) g [x0,x1,x2,x3]=F (run Tryz.prog prim lvs n) x0 x1 x2 x3
theorem ra4 {g : Nat} {fn : Func} {F : Zb→Value→Value→Value→Value→M Value} (hf : Tryz.prog.funcs[g]?=some fn) (hc : (Jb fn && Nat.blt g Z0)=true) (h : ∀ (Γ : Zb) (x0 x1 x2 x3 : Value),JF Tryz.prog Γ fn (lvs g) [x0,x1,x2,x3]=F Γ x0 x1 x2 x3) : RA4 g F:=fun hp n x0 x1 x2 x3=>(Jw hp rfl hf (by cases e : Jb fn <;> simp [e] at hc ⊢) (by cases e : Nat.blt g Z0 <;> simp [e] at hc ⊢)).trans (h _ x0 x1 x2 x3)
def RA5 (g : Nat) (F : Zb→Value→Value→Value→Value→Value→M Value) : Prop:=∀ {prim : FuncId→Option (List Value→M Value)} (_ : prim g=none) (n : Nat) (x0 x1 x2 x3 x4 : Value),run Tryz.prog prim lvs (n+1) g [x0,x1,x2,x3,x4]=F (run Tryz.prog prim lvs n) x0 x1 x2 x3 x4
theorem ra5 {g : Nat} {fn : Func} {F : Zb→Value→Value→Value→Value→Value→M Value} (hf : Tryz.prog.funcs[g]?=some fn) (hc : (Jb fn && Nat.blt g Z0)=true) (h : ∀ (Γ : Zb) (x0 x1 x2 x3 x4 : Value),JF Tryz.prog Γ fn (lvs g) [x0,x1,x2,x3,x4]=F Γ x0 x1 x2 x3 x4) : RA5 g F:=fun hp n x0 x1 x2 x3 x4=>(Jw hp rfl hf (by cases e : Jb fn <;> simp [e] at hc ⊢) (by cases e : Nat.blt g Z0 <;> simp [e] at hc ⊢)).trans (h _ x0 x1 x2 x3 x4)
noncomputable def Yt.l1 (Γ : Zb) (s3 s19 s20 s21 : Value) : M Out:=
 bind (bop .int .lss s21 s20) fun y10=>
 cnd y10
 (bind (ixa 7 s19 s21) fun y11=>
 bind (ldA 7 y11) fun y12=>
 bind (alc 1 (.agg #[.int .u8 0,.int .u64 0,.int .u8 0,.string ⟨#[]⟩,.string ⟨#[]⟩,.int .u8 0,.int .u8 0])) fun y13=>
 bind (stA 7 y13 y12) fun _=>
 bind (Γ ZA [s3]) fun y14=>
 bind (b2s y14) fun y15=>
 bind (Γ Qe [s3]) fun y16=>
 bind (b2s y14) fun u_17=>same u_17 y15 <|
 bind (ldA 7 y13) fun y18=>
 bind (Γ ZT [s3,y18]) fun y19=>
 bind (Zu y19 0) fun y20=>
 bind (Zu y19 1) fun y21=>
 bind (alc 1 (.agg #[.int .i64 0,.slice none 0 0])) fun y22=>
 bind (stA 2 y22 y20) fun _=>
 bind (fa 0 y22) fun y23=>
 bind (ld1 y23) fun y24=>
 bind (bop .int .neq y24 (Value.int .i64 0)) fun y25=>
 bind (gate y25 true 6 (bind (Γ ZA [s3]) fun y26=>
 bind (b2s y26) fun y27=>
 bind (bop .str .neq y27 y15) fun y28=>
 ret [s3,y26,y27,y15,y28,y28])) (c6 fun _ _ _ _ _ q29_5=>
 bind (gate q29_5 false 4 (bind (fa 1 y22) fun y30=>
 bind (ld1 y30) fun y31=>
 bind (Zk y31) fun y32=>
 bind (bop .int .neq y32 (Value.int .i64 0)) fun y33=>
 ret [y30,y31,y32,y33])) (c4 fun _ _ _ q34_3=>
 bind (gate y25 true 1 (bind (pick q29_5 (Value.bool true) q34_3) fun y35=>
 ret [y35])) (c1 fun q36_0=>
 bind (pick y25 q36_0 (Value.bool false)) fun y37=>
 cnd y37
 (ret (.ret (Value.bool false)))
 (bind (gateV y21 true (fa 2 y13)) fun y38=>
 bind (gateV y21 true (ldA 5 y38)) fun y39=>
 bind (gateV y21 true (Γ ZkH [y39])) fun y40=>
 bind (gateV y21 true (bop .int .eql y40 (Value.int .i64 0))) fun y41=>
 bind (pick y21 y41 (Value.bool false)) fun y42=>
 bind (gateV y42 true (fa 0 y22)) fun y43=>
 bind (gateV y42 true (ld1 y43)) fun y44=>
 bind (gateV y42 true (bop .int .eql y44 (Value.int .i64 6))) fun y45=>
 bind (gateV y42 true (fa 2 y13)) fun y46=>
 bind (gateV y42 true (fa 0 y46)) fun y47=>
 bind (gateV y42 true (ld1 y47)) fun y48=>
 bind (gateV y42 true (cvi .i64 y48)) fun y49=>
 bind (gateV y42 true (ret y16)) fun y50=>
 bind (gateV y42 true (Γ ZlE [y49])) fun y51=>
 bind (gateV y42 true (ld1 y43)) fun u_52=>same u_52 y44 <|
 bind (gateV y42 true (bop .int .gtr y51 y50)) fun y53=>
 bind (gateV y42 true (bop .bool .neq y45 y53)) fun y54=>
 bind (pick y42 y54 (Value.bool false)) fun y55=>
 cnd y55
 (ret (.ret (Value.bool false)))
 (bind (bop .int .add s21 (Value.int .i64 1)) fun y56=>
 ret (.nrm [s3,s19,s20,y56])))))))
 (ret (.ext 0 []))
noncomputable def Yt (Γ : Zb) (x0 : Value) : M Value:=
 bind (Γ QL []) fun y1=>
 bind (uop .not y1) fun y2=>
 bind (gate y2 false 3 (bind (Γ Kt [x0]) fun y3=>
 bind (uop .not y3) fun y4=>
 ret [x0,y3,y4])) (c3 fun _ _ q5_2=>
 bind (pick y2 (Value.bool true) q5_2) fun y6=>
 cnd y6
 (bind (Γ QL []) fun y7=>
 ret y7)
 (bind (Γ Zb0 [(Value.int .i64 3)]) fun y8=>
 bind (Zk x0) fun y9=>
 jn (Zd (c4 (Yt.l1 Γ)) [y8,x0,y9,(Value.int .i64 0)]) noN (xk 0 (c0 (ret (Value.bool true))) noX) ret))
noncomputable def K7.l1 (Γ : Zb) (s3 s23 s24 s25 : Value) : M Out:=
 bind (bop .int .lss s25 s24) fun y10=>
 cnd y10
 (jn (bind (ixa 7 s23 s25) fun y11=>
 bind (ldA 7 y11) fun y12=>
 bind (alc 1 (.agg #[.int .u8 0,.int .u64 0,.int .u8 0,.string ⟨#[]⟩,.string ⟨#[]⟩,.int .u8 0,.int .u8 0])) fun y13=>
 bind (stA 7 y13 y12) fun _=>
 bind (fa 0 y13) fun y14=>
 bind (ld1 y14) fun y15=>
 bind (bop .int .eql y15 (Value.int .u8 255)) fun y16=>
 jn (cnd y16
 (bind (fa 0 y13) fun y17=>
 bind (st1 y17 (Value.int .u8 0)) fun _=>
 ret (.nrm [s3,y13,s23,s24,s25]))
 (ret (.nrm [s3,y13,s23,s24,s25]))) (c5 fun q18_0 q18_1 q18_2 q18_3 q18_4=>
 bind (fa 0 q18_1) fun y19=>
 bind (ld1 y19) fun y20=>
 bind (Γ Z8 [q18_0]) fun y21=>
 bind (ld1 y19) fun u_22=>same u_22 y20 <|
 bind (Γ JQ [y21,y20]) fun y23=>
 bind (Γ ZA [q18_0]) fun y24=>
 bind (b2s y24) fun y25=>
 bind (ldA 7 q18_1) fun y26=>
 bind (Γ ZT [q18_0,y26]) fun y27=>
 bind (Zu y27 0) fun y28=>
 bind (Zu y27 1) fun y29=>
 bind (alc 1 (.agg #[.int .i64 0,.slice none 0 0])) fun y30=>
 bind (stA 2 y30 y28) fun _=>
 bind (fa 0 q18_1) fun y31=>
 bind (ld1 y31) fun y32=>
 bind (bop .int .lss y32 (Value.int .u8 8)) fun y33=>
 bind (gate y33 true 4 (bind (fa 1 q18_1) fun y34=>
 bind (ld1 y34) fun y35=>
 bind (bop .int .gtr y35 y23) fun y36=>
 ret [y34,y35,y23,y36])) (c4 fun _ _ _ q37_3=>
 bind (pick y33 q37_3 (Value.bool false)) fun y38=>
 bind (gate y38 true 3 (bind (fa 1 q18_1) fun y39=>
 bind (ld1 y39) fun y40=>
 bind (bop .int .leq y40 (Value.int .u64 1099511627776)) fun y41=>
 ret [y39,y40,y41])) (c3 fun _ _ q42_2=>
 bind (pick y38 q42_2 (Value.bool false)) fun y43=>
 bind (bop .bool .neq y29 y43) fun y44=>
 bind (gate y44 false 3 (bind (uop .not y29) fun y45=>
 ret [y29,y45,y45])) (c3 fun _ _ q46_2=>
 bind (gate q46_2 true 5 (bind (Γ ZA [q18_0]) fun y47=>
 bind (b2s y47) fun y48=>
 bind (bop .str .neq y48 y25) fun y49=>
 ret [q18_0,y47,y48,y25,y49])) (c5 fun _ _ _ _ q50_4=>
 bind (gate y44 false 1 (bind (pick q46_2 q50_4 (Value.bool false)) fun y51=>
 ret [y51])) (c1 fun q52_0=>
 bind (pick y44 (Value.bool true) q52_0) fun y53=>
 cnd y53
 (ret (.ret (Value.bool false)))
 (bind (uop .not y29) fun y54=>
 cnd y54
 (ret (.nrm [q18_0,q18_2,q18_3,q18_4]))
 (bind (Γ ZA [q18_0]) fun y55=>
 bind (b2s y55) fun y56=>
 bind (ldA 7 q18_1) fun y57=>
 bind (Γ ZT [q18_0,y57]) fun y58=>
 bind (Zu y58 0) fun y59=>
 bind (Zu y58 1) fun y60=>
 bind (alc 1 (.agg #[.int .i64 0,.slice none 0 0])) fun y61=>
 bind (stA 2 y61 y59) fun _=>
 bind (gate y60 false 4 (bind (ldA 2 y30) fun y62=>
 bind (ldA 2 y61) fun y63=>
 bind (Γ ZdI [y62,y63]) fun y64=>
 bind (uop .not y64) fun y65=>
 ret [y62,y63,y64,y65])) (c4 fun _ _ _ q66_3=>
 bind (pick y60 (Value.bool true) q66_3) fun y67=>
 bind (gate y67 false 5 (bind (Γ ZA [q18_0]) fun y68=>
 bind (b2s y68) fun y69=>
 bind (bop .str .neq y69 y56) fun y70=>
 ret [q18_0,y68,y69,y56,y70])) (c5 fun _ _ _ _ q71_4=>
 bind (pick y67 (Value.bool true) q71_4) fun y72=>
 cnd y72
 (ret (.ret (Value.bool false)))
 (bind (fa 1 q18_1) fun y73=>
 bind (ld1 y73) fun y74=>
 bind (bop .int .sub y74 (Value.int .u64 1)) fun y75=>
 bind (fa 1 q18_1) fun y76=>
 bind (st1 y76 y75) fun _=>
 bind (ldA 7 q18_1) fun y77=>
 bind (Γ ZT [q18_0,y77]) fun y78=>
 bind (Zu y78 0) fun y79=>
 bind (Zu y78 1) fun y80=>
 bind (alc 1 (.agg #[.int .i64 0,.slice none 0 0])) fun y81=>
 bind (stA 2 y81 y79) fun _=>
 bind (fa 1 q18_1) fun y82=>
 bind (ld1 y82) fun y83=>
 bind (bop .int .gtr y83 (Value.int .u64 0)) fun y84=>
 bind (gate y84 true 2 (ret [y80,y80])) (c2 fun _ q85_1=>
 bind (gate q85_1 false 3 (bind (fa 0 y81) fun y86=>
 bind (ld1 y86) fun y87=>
 bind (bop .int .neq y87 (Value.int .i64 12)) fun y88=>
 ret [y86,y87,y88])) (c3 fun _ _ q89_2=>
 bind (gate y84 true 1 (bind (pick q85_1 (Value.bool true) q89_2) fun y90=>
 ret [y90])) (c1 fun q91_0=>
 bind (pick y84 q91_0 (Value.bool false)) fun y92=>
 bind (gate y92 false 5 (bind (Γ ZA [q18_0]) fun y93=>
 bind (b2s y93) fun y94=>
 bind (bop .str .neq y94 y56) fun y95=>
 ret [q18_0,y93,y94,y56,y95])) (c5 fun _ _ _ _ q96_4=>
 bind (pick y92 (Value.bool true) q96_4) fun y97=>
 bind (gate y97 false 3 (bind (ldA 7 q18_1) fun y98=>
 bind (Γ ZbF [q18_0,y98]) fun y99=>
 ret [q18_0,y98,y99])) (c3 fun _ _ q100_2=>
 bind (pick y97 (Value.bool true) q100_2) fun y101=>
 cnd y101
 (ret (.ret (Value.bool false)))
 (ret (.nrm [q18_0,q18_2,q18_3,q18_4])))))))))))))))))) noX Zt) (c4 fun q103_0 q103_1 q103_2 q103_3=>
 bind (bop .int .add q103_3 (Value.int .i64 1)) fun y104=>
 ret (.nrm [q103_0,q103_1,q103_2,y104])) noX Zt)
 (ret (.ext 0 []))
noncomputable def K7 (Γ : Zb) (x0 : Value) : M Value:=
 bind (Γ QL []) fun y1=>
 bind (uop .not y1) fun y2=>
 bind (gate y2 false 3 (bind (Γ Kt [x0]) fun y3=>
 bind (uop .not y3) fun y4=>
 ret [x0,y3,y4])) (c3 fun _ _ q5_2=>
 bind (pick y2 (Value.bool true) q5_2) fun y6=>
 cnd y6
 (bind (Γ QL []) fun y7=>
 ret y7)
 (bind (Γ Zb0 [(Value.int .i64 3)]) fun y8=>
 bind (Zk x0) fun y9=>
 jn (Zd (c4 (K7.l1 Γ)) [y8,x0,y9,(Value.int .i64 0)]) noN (xk 0 (c0 (ret (Value.bool true))) noX) ret))
noncomputable def JN (Γ : Zb) (x0 : Value) : M Value:=
 bind (Γ QI []) fun y1=>
 bind (uop .not y1) fun y2=>
 cnd y2
 (ret (Value.bool false))
 (bind (Γ Yl [x0]) fun y3=>
 bind (uop .not y3) fun y4=>
 cnd y4
 (bind (Γ Qh [x0]) fun y5=>
 bind (bop .int .eql y5 (Value.int .i64 0)) fun y6=>
 ret y6)
 (bind (Γ Qh [x0]) fun y7=>
 bind (Γ Qh [(Value.int .i64 3)]) fun y8=>
 bind (bop .int .add y8 x0) fun y9=>
 bind (bop .int .sub y9 (Value.int .i64 3)) fun y10=>
 bind (bop .int .eql y7 y10) fun y11=>
 bind (gate y11 true 2 (bind (Γ Qh [(Value.int .i64 3)]) fun y12=>
 bind (bop .int .leq y12 (Value.int .i64 5632)) fun y13=>
 ret [y12,y13])) (c2 fun _ q14_1=>
 bind (pick y11 q14_1 (Value.bool false)) fun y15=>
 ret y15)))
theorem ZbD : RA1 QS JN:=ra1 Tryz.func6 (by kernel_rfl) fun _ _=>by kernel_rfl
noncomputable def JE.l1 (Γ : Zb) (s1 s2 s7 s39 s40 s41 : Value) : M Out:=
 bind (bop .int .lss s41 s40) fun y14=>
 cnd y14
 (bind (ixa 7 s39 s41) fun y15=>
 bind (ldA 7 y15) fun y16=>
 bind (alc 1 (.agg #[.int .u8 0,.int .u64 0,.int .u8 0,.string ⟨#[]⟩,.string ⟨#[]⟩,.int .u8 0,.int .u8 0])) fun y17=>
 bind (stA 7 y17 y16) fun _=>
 bind (ldA 7 y17) fun y18=>
 bind (Γ ZT [s7,y18]) fun y19=>
 bind (bop .int .add s41 (Value.int .i64 1)) fun y20=>
 ret (.nrm [s1,s2,s7,s39,s40,y20]))
 (ret (.ext 0 [s1,s2,s7]))
noncomputable def JE.l2 (Γ : Zb) (s7 s10 s95 s96 s97 : Value) : M Out:=
 bind (bop .int .lss s97 s96) fun y52=>
 cnd y52
 (bind (ixa 7 s95 s97) fun y53=>
 bind (ldA 7 y53) fun y54=>
 bind (alc 1 (.agg #[.int .u8 0,.int .u64 0,.int .u8 0,.string ⟨#[]⟩,.string ⟨#[]⟩,.int .u8 0,.int .u8 0])) fun y55=>
 bind (stA 7 y55 y54) fun _=>
 bind (Γ ZfN [s7]) fun y56=>
 bind (ldA 7 y55) fun y57=>
 bind (Γ ZT [s7,y57]) fun y58=>
 bind (Zu y58 0) fun y59=>
 bind (Zu y58 1) fun y60=>
 bind (alc 1 (.agg #[.int .i64 0,.slice none 0 0])) fun y61=>
 bind (stA 2 y61 y59) fun _=>
 bind (ldA 7 y55) fun y62=>
 bind (Γ ZT [s10,y62]) fun y63=>
 bind (Zu y63 0) fun y64=>
 bind (Zu y63 1) fun y65=>
 bind (alc 1 (.agg #[.int .i64 0,.slice none 0 0])) fun y66=>
 bind (stA 2 y66 y64) fun _=>
 bind (bop .bool .neq y60 y65) fun y67=>
 bind (gateV y67 false (ldA 2 y61)) fun y68=>
 bind (gateV y67 false (ldA 2 y66)) fun y69=>
 bind (gateV y67 false (Γ ZdI [y68,y69])) fun y70=>
 bind (gateV y67 false (uop .not y70)) fun y71=>
 bind (pick y67 (Value.bool true) y71) fun y72=>
 bind (gateV y72 false (ret s7)) fun y73=>
 bind (gateV y72 false (ret s10)) fun y74=>
 bind (gateV y72 false (Γ Qe [y73])) fun y75=>
 bind (gateV y72 false (Γ Qe [y74])) fun y76=>
 bind (gateV y72 false (bop .int .neq y75 y76)) fun y77=>
 bind (pick y72 (Value.bool true) y77) fun y78=>
 bind (gateV y78 false (ret s7)) fun y79=>
 bind (gateV y78 false (ret s10)) fun y80=>
 bind (gateV y78 false (Γ ZA [y79])) fun y81=>
 bind (gateV y78 false (b2s y81)) fun y82=>
 bind (gateV y78 false (Γ ZA [y80])) fun y83=>
 bind (gateV y78 false (b2s y81)) fun u_84=>same u_84 y82 <|
 bind (gateV y78 false (b2s y83)) fun y85=>
 bind (gateV y78 false (bop .str .neq y82 y85)) fun y86=>
 bind (pick y78 (Value.bool true) y86) fun y87=>
 bind (gateV y87 false (ret s7)) fun y88=>
 bind (gateV y87 false (fa 0 y55)) fun y89=>
 bind (gateV y87 false (ld1 y89)) fun y90=>
 bind (gateV y87 false (ret s10)) fun y91=>
 bind (gateV y87 false (fa 0 y55)) fun y92=>
 bind (gateV y87 false (ld1 y92)) fun y93=>
 bind (gateV y87 false (Γ Z8 [y88])) fun y94=>
 bind (gateV y87 false (ld1 y92)) fun u_95=>same u_95 y93 <|
 bind (gateV y87 false (ld1 y89)) fun u_96=>same u_96 y90 <|
 bind (gateV y87 false (Γ JQ [y94,y90])) fun y97=>
 bind (gateV y87 false (ld1 y92)) fun u_98=>same u_98 y93 <|
 bind (gateV y87 false (Γ Z8 [y91])) fun y99=>
 bind (gateV y87 false (ld1 y92)) fun u_100=>same u_100 y93 <|
 bind (gateV y87 false (Γ JQ [y99,y93])) fun y101=>
 bind (gateV y87 false (bop .int .neq y97 y101)) fun y102=>
 bind (pick y87 (Value.bool true) y102) fun y103=>
 cnd y103
 (ret (.ret (Value.bool false)))
 (bind (ldA 7 y55) fun y104=>
 bind (Γ ZT [y56,y104]) fun y105=>
 bind (Zu y105 0) fun y106=>
 bind (Zu y105 1) fun y107=>
 bind (alc 1 (.agg #[.int .i64 0,.slice none 0 0])) fun y108=>
 bind (stA 2 y108 y106) fun _=>
 bind (bop .bool .neq y107 y60) fun y109=>
 bind (gateV y109 false (ldA 2 y108)) fun y110=>
 bind (gateV y109 false (ldA 2 y61)) fun y111=>
 bind (gateV y109 false (Γ ZdI [y110,y111])) fun y112=>
 bind (gateV y109 false (uop .not y112)) fun y113=>
 bind (pick y109 (Value.bool true) y113) fun y114=>
 bind (gateV y114 false (ret y56)) fun y115=>
 bind (gateV y114 false (ret s7)) fun y116=>
 bind (gateV y114 false (Γ ZA [y115])) fun y117=>
 bind (gateV y114 false (b2s y117)) fun y118=>
 bind (gateV y114 false (Γ ZA [y116])) fun y119=>
 bind (gateV y114 false (b2s y117)) fun u_120=>same u_120 y118 <|
 bind (gateV y114 false (b2s y119)) fun y121=>
 bind (gateV y114 false (bop .str .neq y118 y121)) fun y122=>
 bind (pick y114 (Value.bool true) y122) fun y123=>
 cnd y123
 (ret (.ret (Value.bool false)))
 (bind (bop .int .add s97 (Value.int .i64 1)) fun y124=>
 ret (.nrm [s7,s10,s95,s96,y124]))))
 (ret (.ext 2 []))
noncomputable def JE (Γ : Zb) (x0 x1 x2 : Value) : M Value:=
 bind (Γ QL []) fun y1=>
 bind (uop .not y1) fun y2=>
 bind (gate y2 false 3 (bind (Γ Kt [x0]) fun y3=>
 bind (uop .not y3) fun y4=>
 ret [x0,y3,y4])) (c3 fun _ _ q5_2=>
 bind (pick y2 (Value.bool true) q5_2) fun y6=>
 bind (gate y6 false 3 (bind (Γ Kt [x1]) fun y7=>
 bind (uop .not y7) fun y8=>
 ret [x1,y7,y8])) (c3 fun _ _ q9_2=>
 bind (pick y6 (Value.bool true) q9_2) fun y10=>
 cnd y10
 (bind (Γ QL []) fun y11=>
 ret y11)
 (bind (Γ Zb0 [(Value.int .i64 3)]) fun y12=>
 bind (Zk x0) fun y13=>
 jn (Zd (c6 (JE.l1 Γ)) [x1,x2,y12,x0,y13,(Value.int .i64 0)]) noN (xk 0 (c3 fun q22_0 q22_1 q22_2=>
 bind (Γ Qe [q22_2]) fun y23=>
 bind (Γ ZA [q22_2]) fun y24=>
 bind (Γ Z8 [q22_2]) fun y25=>
 bind (Γ K9 [q22_2]) fun y26=>
 bind (Γ Zdd [y23,y24,y25,y26]) fun y27=>
 bind (Zu y27 0) fun y28=>
 bind (Zu y27 1) fun y29=>
 bind (bop .int .neq y29 (Value.int .i64 0)) fun y30=>
 bind (gate y30 false 2 (bind (bop .ptr .eql y28 (Value.pointer none)) fun y31=>
 ret [y28,y31])) (c2 fun _ q32_1=>
 bind (pick y30 (Value.bool true) q32_1) fun y33=>
 cnd y33
 (ret (Value.bool false))
 (bind (Γ Qe [q22_2]) fun y34=>
 bind (bop .int .sub (Value.int .i64 3) y34) fun y35=>
 bind (Γ ZA [q22_2]) fun y36=>
 bind (Γ Z8 [q22_2]) fun y37=>
 bind (Γ K9 [q22_2]) fun y38=>
 bind (Γ Zdd [y35,y36,y37,y38]) fun y39=>
 bind (Zu y39 0) fun y40=>
 bind (Zu y39 1) fun y41=>
 bind (Γ ZA [q22_2]) fun y42=>
 bind (Γ Z8 [q22_2]) fun y43=>
 bind (Γ Zdd [q22_1,y42,y43,(Value.pointer none)]) fun y44=>
 bind (Zu y44 0) fun y45=>
 bind (Zu y44 1) fun y46=>
 bind (bop .int .neq y41 (Value.int .i64 6)) fun y47=>
 bind (gate y47 false 2 (bind (bop .int .neq y46 (Value.int .i64 1)) fun y48=>
 ret [y46,y48])) (c2 fun _ q49_1=>
 bind (pick y47 (Value.bool true) q49_1) fun y50=>
 cnd y50
 (ret (Value.bool false))
 (bind (Zk q22_0) fun y51=>
 jn (Zd (c5 (JE.l2 Γ)) [q22_2,y28,q22_0,y51,(Value.int .i64 0)]) noN (xk 2 (c0 (ret (Value.bool true))) noX) ret))))) noX) ret)))
noncomputable def Zea.l1 (Γ : Zb) (s0 s5 s6 s7 : Value) : M Out:=
 bind (bop .int .lss s7 s6) fun y2=>
 cnd y2
 (bind (ixa 7 s5 s7) fun y3=>
 bind (ldA 7 y3) fun y4=>
 bind (alc 1 (.agg #[.int .u8 0,.int .u64 0,.int .u8 0,.string ⟨#[]⟩,.string ⟨#[]⟩,.int .u8 0,.int .u8 0])) fun y5=>
 bind (stA 7 y5 y4) fun _=>
 bind (fa 2 y5) fun y6=>
 bind (fa 1 y6) fun y7=>
 bind (ld1 y7) fun y8=>
 bind (ZV y8) fun y9=>
 bind (bop .int .gtr y9 (Value.int .i64 100)) fun y10=>
 bind (gate y10 false 5 (bind (fa 2 y5) fun y11=>
 bind (fa 2 y11) fun y12=>
 bind (ld1 y12) fun y13=>
 bind (ZV y13) fun y14=>
 bind (bop .int .gtr y14 (Value.int .i64 100)) fun y15=>
 ret [y11,y12,y13,y14,y15])) (c5 fun _ _ _ _ q16_4=>
 bind (pick y10 (Value.bool true) q16_4) fun y17=>
 cnd y17
 (ret (.ret (Value.bool false)))
 (bind (bop .int .add s7 (Value.int .i64 1)) fun y18=>
 ret (.nrm [s0,s5,s6,y18]))))
 (ret (.ext 0 [s0]))
noncomputable def Zea (Γ : Zb) (x0 : Value) : M Value:=
 bind (Zk x0) fun y1=>
 jn (Zd (c4 (Zea.l1 Γ)) [x0,x0,y1,(Value.int .i64 0)]) noN (xk 0 (c1 fun q20_0=>
 bind (Zk q20_0) fun y21=>
 bind (bop .int .leq y21 (Value.int .i64 60)) fun y22=>
 ret y22) noX) ret
noncomputable def Zgh.l1 (Γ : Zb) (s1 s19 s20 s21 : Value) : M Out:=
 bind (bop .int .lss s21 s20) fun y18=>
 cnd y18
 (bind (ixa 1 s19 s21) fun y19=>
 bind (ld1 y19) fun y20=>
 bind (ldA 5 s1) fun y21=>
 bind (Γ Zis [y21,y20]) fun y22=>
 bind (uop .not y22) fun y23=>
 cnd y23
 (ret (.ret (Value.int .i64 4)))
 (bind (bop .int .add s21 (Value.int .i64 1)) fun y24=>
 ret (.nrm [s1,s19,s20,y24])))
 (ret (.ext 0 [s1]))
noncomputable def Zgh (Γ : Zb) (x0 : Value) : M Value:=
 bind (alc 1 x0) fun y1=>
 bind (fa 0 y1) fun y2=>
 bind (ld1 y2) fun y3=>
 bind (cvi .i64 y3) fun y4=>
 bind (bop .int .geq y4 (Value.int .i64 17)) fun y5=>
 bind (gateV y5 false (ldA 5 y1)) fun y6=>
 bind (gateV y5 false (ldA 5 y1)) fun y7=>
 bind (gateV y5 false (Γ ZjU [y7])) fun y8=>
 bind (gateV y5 false (ldA 5 y1)) fun u_9=>same u_9 y6 <|
 bind (gateV y5 false (bop (.flat [.int,.str,.str,.int,.int]) .neq y6 y8)) fun y10=>
 bind (pick y5 (Value.bool true) y10) fun y11=>
 cnd y11
 (ret (Value.int .i64 4))
 (bind (fa 0 y1) fun y12=>
 bind (ld1 y12) fun y13=>
 bind (K3 17 1 (Value.pointer (some ⟨0,0,none⟩)) y13) fun y14=>
 bind (ld1 y14) fun y15=>
 bind (s2b y15) fun y16=>
 bind (Zk y16) fun y17=>
 jn (Zd (c4 (Zgh.l1 Γ)) [y1,y16,y17,(Value.int .i64 0)]) noN (xk 0 (c1 fun q26_0=>
 bind (fa 1 q26_0) fun y27=>
 bind (ld1 y27) fun y28=>
 bind (ZV y28) fun y29=>
 bind (fa 2 q26_0) fun y30=>
 bind (ld1 y30) fun y31=>
 bind (ZV y31) fun y32=>
 bind (bop .int .add y29 y32) fun y33=>
 bind (bop .int .gtr y33 (Value.int .i64 64)) fun y34=>
 bind (gate y34 false 4 (bind (ldA 5 q26_0) fun y35=>
 bind (Γ Zil [y35]) fun y36=>
 bind (Zk y36) fun y37=>
 bind (bop .int .gtr y37 (Value.int .i64 64)) fun y38=>
 ret [y35,y36,y37,y38])) (c4 fun _ _ _ q39_3=>
 bind (pick y34 (Value.bool true) q39_3) fun y40=>
 cnd y40
 (ret (Value.int .i64 3))
 (ret (Value.int .i64 0)))) noX) ret)
noncomputable def KT (Γ : Zb) (x0 : Value) : M Value:=
 bind (bop .int .eql x0 (Value.int .i64 3)) fun y1=>
 bind (gate y1 false 2 (bind (bop .int .eql x0 (Value.int .i64 5)) fun y2=>
 ret [x0,y2])) (c2 fun _ q3_1=>
 bind (pick y1 (Value.bool true) q3_1) fun y4=>
 bind (gate y4 false 2 (bind (bop .int .eql x0 (Value.int .i64 7)) fun y5=>
 ret [x0,y5])) (c2 fun _ q6_1=>
 bind (pick y4 (Value.bool true) q6_1) fun y7=>
 ret y7))
theorem ZfT : RA1 Yl KT:=ra1 Tryz.func21 (by kernel_rfl) fun _ _=>by kernel_rfl
noncomputable def Wv (Γ : Zb) (x0 : Value) : M Value:=
 bind (Γ YM [x0]) fun y1=>
 bind (bop .ptr .eql y1 (Value.pointer none)) fun y2=>
 cnd y2
 (ret (Value.int .i64 0))
 (bind (Γ YP []) fun y3=>
 bind (bop .int .add (Value.int .i64 3) y3) fun y4=>
 bind (bop .int .add y4 (Value.int .i64 3304)) fun y5=>
 bind (bop .int .add y5 (Value.int .i64 1)) fun y6=>
 bind (bop .int .add y6 x0) fun y7=>
 ret y7)
theorem Zgq : RA1 Qh Wv:=ra1 Tryz.func26 (by kernel_rfl) fun _ _=>by kernel_rfl
noncomputable def Wt (Γ : Zb) (x0 : Value) : M Value:=
 bind (bop .int .eql x0 (Value.int .i64 3)) fun y1=>
 jn (cnd y1
 (ret (.nrm [x0,y1]))
 (bind (bop .int .eql x0 (Value.int .i64 5)) fun y2=>
 jn (cnd y2
 (ret (.nrm [x0,y2]))
 (bind (bop .int .eql x0 (Value.int .i64 7)) fun y3=>
 ret (.nrm [x0,y3]))) (c2 fun q4_0 q4_1=>
 ret (.nrm [q4_0,q4_1])) noX Zt)) (c2 fun q6_0 q6_1=>
 cnd q6_1
 (bind (mks 1 1 (.int .u8 0) q6_0 q6_0) fun y7=>
 bind (bld (.agg #[.slice none 0 0]) [(0,1,y7)]) fun y8=>
 bind (alc 1 y8) fun y9=>
 ret y9)
 (ret (Value.pointer none))) noX ret
theorem ZgC : RA1 YM Wt:=ra1 Tryz.func31 (by kernel_rfl) fun _ _=>by kernel_rfl
noncomputable def Zc7.l1 (Γ : Zb) (s3 s16 s17 s18 : Value) : M Out:=
 bind (bop .int .lss s18 s17) fun y10=>
 cnd y10
 (bind (ixa 5 s16 s18) fun y11=>
 bind (ldA 5 y11) fun y12=>
 bind (alc 1 (.agg #[.string ⟨#[]⟩,.string ⟨#[]⟩,.string ⟨#[]⟩,.bool false,.slice none 0 0])) fun y13=>
 bind (stA 5 y13 y12) fun _=>
 bind (ldA 5 y13) fun y14=>
 bind (Γ Zgf [s3,(Value.int .i64 1),y14]) fun y15=>
 bind (bop .int .add s18 (Value.int .i64 1)) fun y16=>
 ret (.nrm [s3,s16,s17,y16]))
 (ret (.ext 0 [s3]))
noncomputable def Zc7 (Γ : Zb) (x0 : Value) : M Value:=
 bind (bop .ptr .eql x0 (Value.pointer none)) fun y1=>
 cnd y1
 (ret (Value.slice none 0 0))
 (bind (bld (.agg #[.slice none 0 0]) []) fun y2=>
 bind (alc 1 y2) fun y3=>
 bind (Γ ZS [y3,(Value.int .u8 1)]) fun y4=>
 bind (Γ Zgy [x0]) fun y5=>
 bind (cvi .u16 y5) fun y6=>
 bind (Γ JO [y4,y6]) fun y7=>
 bind (Γ ZaO [x0]) fun y8=>
 bind (Zk y8) fun y9=>
 jn (Zd (c4 (Zc7.l1 Γ)) [y7,y8,y9,(Value.int .i64 0)]) noN (xk 0 (c1 fun q18_0=>
 bind (Γ Ji [q18_0]) fun y19=>
 ret y19) noX) ret)
noncomputable def ZbX.l1 (Γ : Zb) (s3 s19 s20 s21 : Value) : M Out:=
 bind (bop .int .lss s21 s20) fun y12=>
 cnd y12
 (bind (ixa 5 s19 s21) fun y13=>
 bind (ldA 5 y13) fun y14=>
 bind (alc 1 (.agg #[.string ⟨#[]⟩,.string ⟨#[]⟩,.string ⟨#[]⟩,.bool false,.slice none 0 0])) fun y15=>
 bind (stA 5 y15 y14) fun _=>
 bind (ldA 5 y15) fun y16=>
 bind (Γ Zgf [s3,(Value.int .i64 2),y16]) fun y17=>
 bind (bop .int .add s21 (Value.int .i64 1)) fun y18=>
 ret (.nrm [s3,s19,s20,y18]))
 (ret (.ext 0 [s3]))
noncomputable def ZbX (Γ : Zb) (x0 : Value) : M Value:=
 bind (bop .ptr .eql x0 (Value.pointer none)) fun y1=>
 cnd y1
 (ret (Value.slice none 0 0))
 (bind (bld (.agg #[.slice none 0 0]) []) fun y2=>
 bind (alc 1 y2) fun y3=>
 bind (Γ ZS [y3,(Value.int .u8 2)]) fun y4=>
 bind (Γ ZdH [x0]) fun y5=>
 bind (Γ ZdR [y4,y5]) fun y6=>
 bind (Γ ZgA [x0]) fun y7=>
 bind (cvi .u16 y7) fun y8=>
 bind (Γ JO [y6,y8]) fun y9=>
 bind (Γ Zgz [x0]) fun y10=>
 bind (Zk y10) fun y11=>
 jn (Zd (c4 (ZbX.l1 Γ)) [y9,y10,y11,(Value.int .i64 0)]) noN (xk 0 (c1 fun q20_0=>
 bind (Γ Ji [q20_0]) fun y21=>
 ret y21) noX) ret)
noncomputable def Zfh.l1 (Γ : Zb) (s1 s2 s3 s13 : Value) : M Out:=
 bind (ZfW s13) fun y12=>
 bind (Zu y12 0) fun y13=>
 cnd y13
 (bind (Zu y12 2) fun y14=>
 bind (bop .int .eql y14 (Value.int .i32 97)) fun y15=>
 jn (cnd y15
 (bind (fa 1 s1) fun y16=>
 bind (ld1 y16) fun y17=>
 bind (fa 1 s3) fun y18=>
 bind (st1 y18 y17) fun _=>
 ret (.nrm [s1,s2,s3,s13]))
 (bind (bop .int .eql y14 (Value.int .i32 98)) fun y19=>
 jn (cnd y19
 (bind (fa 2 s1) fun y20=>
 bind (ld1 y20) fun y21=>
 bind (fa 2 s3) fun y22=>
 bind (st1 y22 y21) fun _=>
 ret (.nrm [s1,s2,s3,s13]))
 (bind (bop .int .eql y14 (Value.int .i32 110)) fun y23=>
 jn (cnd y23
 (bind (fa 3 s1) fun y24=>
 bind (ld1 y24) fun y25=>
 bind (fa 3 s3) fun y26=>
 bind (st1 y26 y25) fun _=>
 ret (.nrm [s1,s2,s3,s13]))
 (bind (bop .int .eql y14 (Value.int .i32 114)) fun y27=>
 jn (cnd y27
 (bind (fa 4 s1) fun y28=>
 bind (ld1 y28) fun y29=>
 bind (fa 4 s3) fun y30=>
 bind (st1 y30 y29) fun _=>
 ret (.nrm [s1,s2,s3,s13]))
 (ret (.nrm [s1,s2,s3,s13]))) (c4 fun q31_0 q31_1 q31_2 q31_3=>
 ret (.nrm [q31_0,q31_1,q31_2,q31_3])) noX Zt)) (c4 fun q33_0 q33_1 q33_2 q33_3=>
 ret (.nrm [q33_0,q33_1,q33_2,q33_3])) noX Zt)) (c4 fun q35_0 q35_1 q35_2 q35_3=>
 ret (.nrm [q35_0,q35_1,q35_2,q35_3])) noX Zt)) (c4 fun q37_0 q37_1 q37_2 q37_3=>
 ret (.nrm [q37_0,q37_1,q37_2,q37_3])) noX Zt)
 (ret (.ext 0 [s2,s3]))
noncomputable def Zfh (Γ : Zb) (x0 : Value) : M Value:=
 bind (alc 1 x0) fun y1=>
 bind (alc 1 (.agg #[.int .u8 0,.string ⟨#[]⟩,.string ⟨#[]⟩,.int .u8 0,.int .u8 0])) fun y2=>
 bind (fa 0 y1) fun y3=>
 bind (ld1 y3) fun y4=>
 bind (bld (.agg #[.int .u8 0,.string ⟨#[]⟩,.string ⟨#[]⟩,.int .u8 0,.int .u8 0]) [(0,1,y4)]) fun y5=>
 bind (alc 1 (.agg #[.int .u8 0,.string ⟨#[]⟩,.string ⟨#[]⟩,.int .u8 0,.int .u8 0])) fun y6=>
 bind (stA 5 y6 y5) fun _=>
 bind (fa 0 y1) fun y7=>
 bind (ld1 y7) fun y8=>
 bind (K3 17 1 (Value.pointer (some ⟨0,0,none⟩)) y8) fun y9=>
 bind (ld1 y9) fun y10=>
 bind (Zfm y10) fun y11=>
 jn (Zd (c4 (Zfh.l1 Γ)) [y1,y2,y6,y11]) noN (xk 0 (c2 fun q40_0 q40_1=>
 bind (ldA 5 q40_1) fun y41=>
 bind (stA 5 q40_0 y41) fun _=>
 bind (ldA 5 q40_0) fun y42=>
 ret y42) noX) ret
noncomputable def ZcS.l1 (Γ : Zb) (s1 s3 s15 : Value) : M Out:=
 bind (ZfW s15) fun y12=>
 bind (Zu y12 0) fun y13=>
 cnd y13
 (bind (Zu y12 2) fun y14=>
 bind (bop .int .eql y14 (Value.int .i32 97)) fun y15=>
 jn (cnd y15
 (bind (fa 1 s1) fun y16=>
 bind (ld1 y16) fun y17=>
 bind (Γ QF [s3,y17]) fun y18=>
 ret (.nrm [s1,s3,s15]))
 (bind (bop .int .eql y14 (Value.int .i32 98)) fun y19=>
 jn (cnd y19
 (bind (fa 2 s1) fun y20=>
 bind (ld1 y20) fun y21=>
 bind (Γ QF [s3,y21]) fun y22=>
 ret (.nrm [s1,s3,s15]))
 (bind (bop .int .eql y14 (Value.int .i32 110)) fun y23=>
 jn (cnd y23
 (bind (fa 3 s1) fun y24=>
 bind (ld1 y24) fun y25=>
 bind (Γ ZS [s3,y25]) fun y26=>
 ret (.nrm [s1,s3,s15]))
 (bind (bop .int .eql y14 (Value.int .i32 114)) fun y27=>
 jn (cnd y27
 (bind (fa 4 s1) fun y28=>
 bind (ld1 y28) fun y29=>
 bind (Γ ZS [s3,y29]) fun y30=>
 ret (.nrm [s1,s3,s15]))
 (ret (.nrm [s1,s3,s15]))) (c3 fun q31_0 q31_1 q31_2=>
 ret (.nrm [q31_0,q31_1,q31_2])) noX Zt)) (c3 fun q33_0 q33_1 q33_2=>
 ret (.nrm [q33_0,q33_1,q33_2])) noX Zt)) (c3 fun q35_0 q35_1 q35_2=>
 ret (.nrm [q35_0,q35_1,q35_2])) noX Zt)) (c3 fun q37_0 q37_1 q37_2=>
 ret (.nrm [q37_0,q37_1,q37_2])) noX Zt)
 (ret (.ext 0 [s3]))
noncomputable def ZcS (Γ : Zb) (x0 : Value) : M Value:=
 bind (alc 1 x0) fun y1=>
 bind (bld (.agg #[.slice none 0 0]) []) fun y2=>
 bind (alc 1 y2) fun y3=>
 bind (fa 0 y1) fun y4=>
 bind (ld1 y4) fun y5=>
 bind (Γ ZS [y3,y5]) fun y6=>
 bind (fa 0 y1) fun y7=>
 bind (ld1 y7) fun y8=>
 bind (K3 17 1 (Value.pointer (some ⟨0,0,none⟩)) y8) fun y9=>
 bind (ld1 y9) fun y10=>
 bind (Zfm y10) fun y11=>
 jn (Zd (c3 (ZcS.l1 Γ)) [y1,y6,y11]) noN (xk 0 (c1 fun q40_0=>
 bind (Γ Ji [q40_0]) fun y41=>
 ret y41) noX) ret
noncomputable def KR.l1 (Γ : Zb) (s3 s10 s11 : Value) : M Out:=
 bind (bop .int .lss s11 (Value.int .i64 8)) fun y5=>
 cnd y5
 (bind (ixv true 8 3 s10 s11) fun y6=>
 bind (alc 1 (.agg #[.int .u64 0,.int .i64 0,.slice none 0 0])) fun y7=>
 bind (stA 3 y7 y6) fun _=>
 bind (fa 0 y7) fun y8=>
 bind (ld1 y8) fun y9=>
 bind (fa 1 y7) fun y10=>
 bind (ldA 2 y10) fun y11=>
 bind (Ql s3) fun y12=>
 bind (fa 0 y12) fun y13=>
 bind (Γ ZhB [y11]) fun y14=>
 bind (ld1 y8) fun u_15=>same u_15 y9 <|
 bind (bld (.agg #[.int .u64 0,.int .i64 0,.slice none 0 0]) [(0,1,y9),(1,2,y14)]) fun y16=>
 bind (K3 8 3 y13 s11) fun y17=>
 bind (stA 3 y17 y16) fun _=>
 bind (bop .int .add s11 (Value.int .i64 1)) fun y18=>
 ret (.nrm [s3,s10,y18]))
 (ret (.ext 0 [s3]))
noncomputable def KR (Γ : Zb) (x0 : Value) : M Value:=
 bind (Γ ZjO []) fun y1=>
 bind (Ql x0) fun y2=>
 bind (fa 0 y2) fun y3=>
 bind (ldA 24 y3) fun y4=>
 jn (Zd (c3 (KR.l1 Γ)) [y1,y4,(Value.int .i64 0)]) noN (xk 0 (c1 fun q20_0=>
 ret q20_0) noX) ret
noncomputable def KV.l1 (Γ : Zb) (s0 s1 s12 s13 : Value) : M Out:=
 bind (bop .int .lss s13 s12) fun y5=>
 cnd y5
 (bind (ixa 1 s0 s13) fun y6=>
 bind (ld1 y6) fun y7=>
 bind (ixa 1 s1 s13) fun y8=>
 bind (ld1 y8) fun y9=>
 bind (bop .str .neq y7 y9) fun y10=>
 cnd y10
 (ret (.ret (Value.bool false)))
 (bind (bop .int .add s13 (Value.int .i64 1)) fun y11=>
 ret (.nrm [s0,s1,s12,y11])))
 (ret (.ext 0 []))
noncomputable def KV (Γ : Zb) (x0 x1 : Value) : M Value:=
 bind (Zk x0) fun y1=>
 bind (Zk x1) fun y2=>
 bind (bop .int .neq y1 y2) fun y3=>
 cnd y3
 (ret (Value.bool false))
 (bind (Zk x0) fun y4=>
 jn (Zd (c4 (KV.l1 Γ)) [x0,x1,y4,(Value.int .i64 0)]) noN (xk 0 (c0 (ret (Value.bool true))) noX) ret)
noncomputable def Ww (Γ : Zb) : M Value:=
 ret (Value.int .i64 1733)
theorem ZgE : RA0 YP Ww:=ra0 Tryz.func54 (by kernel_rfl) fun _=>by kernel_rfl
noncomputable def Yj.l1 (Γ : Zb) (s1 s5 s11 s12 s13 : Value) : M Out:=
 bind (bop .int .lss s13 s12) fun y5=>
 cnd y5
 (bind (ixa 1 s11 s13) fun y6=>
 bind (ld1 y6) fun y7=>
 bind (Γ Zip [y7,s1]) fun y8=>
 bind (uop .not y8) fun y9=>
 jn (cnd y9
 (bind (cvi .u8 s13) fun y10=>
 bind (bsl 1 1 (.int .u8 0) [(0,1,y10)]) fun y11=>
 bind (app 1 1 s5 y11) fun y12=>
 ret (.nrm [s1,y12,s11,s12,s13]))
 (ret (.nrm [s1,s5,s11,s12,s13]))) (c5 fun q13_0 q13_1 q13_2 q13_3 q13_4=>
 bind (bop .int .add q13_4 (Value.int .i64 1)) fun y14=>
 ret (.nrm [q13_0,q13_1,q13_2,q13_3,y14])) noX Zt)
 (ret (.ext 0 [s5]))
noncomputable def Yj (Γ : Zb) (x0 x1 : Value) : M Value:=
 bind (Ql x0) fun y1=>
 bind (fa 0 y1) fun y2=>
 bind (ld1 y2) fun y3=>
 bind (Zk y3) fun y4=>
 jn (Zd (c5 (Yj.l1 Γ)) [x1,(Value.slice none 0 0),y3,y4,(Value.int .i64 0)]) noN (xk 0 (c1 fun q17_0=>
 ret q17_0) noX) ret
noncomputable def Zfe.l1 (Γ : Zb) (s4 s7 s29 s30 : Value) : M Out:=
 bind (bop .int .lss s30 s29) fun y13=>
 cnd y13
 (bind (Γ Zga [s4,(Value.int .i64 1)]) fun y14=>
 bind (bsl 5 1 (.agg #[.string ⟨#[]⟩,.string ⟨#[]⟩,.string ⟨#[]⟩,.bool false,.slice none 0 0]) [(0,5,y14)]) fun y15=>
 bind (app 5 80 s7 y15) fun y16=>
 bind (bop .int .add s30 (Value.int .i64 1)) fun y17=>
 ret (.nrm [s4,y16,s29,y17]))
 (ret (.ext 0 [s4,s7]))
noncomputable def Zfe (Γ : Zb) (x0 : Value) : M Value:=
 bind (Γ Zf6 [x0]) fun y1=>
 bind (Γ Kd [y1]) fun y2=>
 bind (Γ QR [y1]) fun y3=>
 bind (bop .int .eql y3 (Value.int .i64 0)) fun y4=>
 bind (gate y4 true 2 (bind (bop .int .neq y2 (Value.int .u8 1)) fun y5=>
 ret [y2,y5])) (c2 fun _ q6_1=>
 bind (pick y4 q6_1 (Value.bool false)) fun y7=>
 cnd y7
 (ret (Value.tuple #[(Value.pointer none),(Value.int .i64 6)]))
 (bind (Γ KH [y1]) fun y8=>
 bind (cvi .i64 y8) fun y9=>
 bind (bop .int .gtr y9 (Value.int .i64 12)) fun y10=>
 jn (cnd y10
 (bind (Γ Kh [y1,(Value.int .i64 7)]) fun y11=>
 ret (.nrm [y1,(Value.int .i64 0)]))
 (ret (.nrm [y1,y9]))) (c2 fun q12_0 q12_1=>
 jn (Zd (c4 (Zfe.l1 Γ)) [q12_0,(Value.slice none 0 0),q12_1,(Value.int .i64 0)]) noN (xk 0 (c2 fun q19_0 q19_1=>
 bind (Γ QR [q19_0]) fun y20=>
 bind (bop .int .neq y20 (Value.int .i64 0)) fun y21=>
 cnd y21
 (ret (Value.tuple #[(Value.pointer none),y20]))
 (bind (Γ ZkM [q19_1]) fun y22=>
 bind (Zu y22 0) fun y23=>
 bind (Zu y22 1) fun y24=>
 bind (bop .int .eql y24 (Value.int .i64 0)) fun y25=>
 jn (cnd y25
 (bind (Γ KK [q19_0]) fun y26=>
 ret (.nrm [y23,y26]))
 (ret (.nrm [y23,y24]))) (c2 fun q27_0 q27_1=>
 bind (bop .int .neq q27_1 (Value.int .i64 0)) fun y28=>
 cnd y28
 (ret (Value.tuple #[(Value.pointer none),q27_1]))
 (ret (Value.tuple #[q27_0,(Value.int .i64 0)]))) noX ret)) noX) ret) noX ret))
noncomputable def ZcX.l1 (Γ : Zb) (s4 s6 s8 s32 s33 : Value) : M Out:=
 bind (bop .int .lss s33 s32) fun y14=>
 cnd y14
 (bind (Γ Zga [s4,(Value.int .i64 2)]) fun y15=>
 bind (bsl 5 1 (.agg #[.string ⟨#[]⟩,.string ⟨#[]⟩,.string ⟨#[]⟩,.bool false,.slice none 0 0]) [(0,5,y15)]) fun y16=>
 bind (app 5 80 s8 y16) fun y17=>
 bind (bop .int .add s33 (Value.int .i64 1)) fun y18=>
 ret (.nrm [s4,s6,y17,s32,y18]))
 (ret (.ext 0 [s4,s6,s8]))
noncomputable def ZcX (Γ : Zb) (x0 : Value) : M Value:=
 bind (Γ Zf6 [x0]) fun y1=>
 bind (Γ Kd [y1]) fun y2=>
 bind (Γ QR [y1]) fun y3=>
 bind (bop .int .eql y3 (Value.int .i64 0)) fun y4=>
 bind (gate y4 true 2 (bind (bop .int .neq y2 (Value.int .u8 2)) fun y5=>
 ret [y2,y5])) (c2 fun _ q6_1=>
 bind (pick y4 q6_1 (Value.bool false)) fun y7=>
 cnd y7
 (ret (Value.tuple #[(Value.pointer none),(Value.int .i64 6)]))
 (bind (Γ ZdG [y1,(Value.int .i64 6),(Value.int .i64 12)]) fun y8=>
 bind (Γ KH [y1]) fun y9=>
 bind (cvi .i64 y9) fun y10=>
 bind (bop .int .gtr y10 (Value.int .i64 12)) fun y11=>
 jn (cnd y11
 (bind (Γ Kh [y1,(Value.int .i64 7)]) fun y12=>
 ret (.nrm [y1,y8,(Value.int .i64 0)]))
 (ret (.nrm [y1,y8,y10]))) (c3 fun q13_0 q13_1 q13_2=>
 jn (Zd (c5 (ZcX.l1 Γ)) [q13_0,q13_1,(Value.slice none 0 0),q13_2,(Value.int .i64 0)]) noN (xk 0 (c3 fun q20_0 q20_1 q20_2=>
 bind (Γ QR [q20_0]) fun y21=>
 bind (bop .int .neq y21 (Value.int .i64 0)) fun y22=>
 cnd y22
 (ret (Value.tuple #[(Value.pointer none),y21]))
 (bind (Γ Zgb [q20_2,q20_1]) fun y23=>
 bind (Zu y23 0) fun y24=>
 bind (Zu y23 1) fun y25=>
 bind (bop .int .eql y25 (Value.int .i64 0)) fun y26=>
 jn (cnd y26
 (bind (Γ KK [q20_0]) fun y27=>
 ret (.nrm [y24,y27]))
 (ret (.nrm [y24,y25]))) (c2 fun q28_0 q28_1=>
 bind (bop .int .neq q28_1 (Value.int .i64 0)) fun y29=>
 cnd y29
 (ret (Value.tuple #[(Value.pointer none),q28_1]))
 (ret (Value.tuple #[q28_0,(Value.int .i64 0)]))) noX ret)) noX) ret) noX ret))
noncomputable def ZaL.l1 (Γ : Zb) (s0 s3 s7 s8 s9 : Value) : M Out:=
 bind (bop .int .lss s9 s8) fun y3=>
 cnd y3
 (bind (ixa 1 s7 s9) fun y4=>
 bind (ld1 y4) fun y5=>
 bind (Ql s0) fun y6=>
 bind (fa 0 y6) fun y7=>
 bind (ld1 y7) fun y8=>
 bind (lkp .str (.string ⟨#[]⟩) false y8 y5) fun y9=>
 bind (bld (.agg #[.string ⟨#[]⟩,.string ⟨#[]⟩,.string ⟨#[]⟩,.bool false,.slice none 0 0]) [(0,1,y5),(1,1,y9)]) fun y10=>
 bind (bsl 5 1 (.agg #[.string ⟨#[]⟩,.string ⟨#[]⟩,.string ⟨#[]⟩,.bool false,.slice none 0 0]) [(0,5,y10)]) fun y11=>
 bind (app 5 80 s3 y11) fun y12=>
 bind (bop .int .add s9 (Value.int .i64 1)) fun y13=>
 ret (.nrm [s0,y12,s7,s8,y13]))
 (ret (.ext 0 [s3]))
noncomputable def ZaL (Γ : Zb) (x0 : Value) : M Value:=
 bind (Γ Zez [x0]) fun y1=>
 bind (Zk y1) fun y2=>
 jn (Zd (c5 (ZaL.l1 Γ)) [x0,(Value.slice none 0 0),y1,y2,(Value.int .i64 0)]) noN (xk 0 (c1 fun q15_0=>
 ret q15_0) noX) ret
noncomputable def KE.l1 (Γ : Zb) (s0 s17 s18 s19 : Value) : M Out:=
 bind (bop .int .lss s19 s18) fun y8=>
 cnd y8
 (bind (ixa 1 s17 s19) fun y9=>
 bind (ld1 y9) fun y10=>
 bind (Γ QF [s0,y10]) fun y11=>
 bind (bop .int .add s19 (Value.int .i64 1)) fun y12=>
 ret (.nrm [s0,s17,s18,y12]))
 (ret (.ext 0 [s0]))
noncomputable def KE (Γ : Zb) (x0 x1 : Value) : M Value:=
 bind (Zk x1) fun y1=>
 bind (mxi false y1 (Value.int .i64 65535)) fun y2=>
 bind (slv 1 x1 none (some y2) none) fun y3=>
 bind (Zk y3) fun y4=>
 bind (cvi .u16 y4) fun y5=>
 bind (Γ JO [x0,y5]) fun y6=>
 bind (Zk y3) fun y7=>
 jn (Zd (c4 (KE.l1 Γ)) [x0,y3,y7,(Value.int .i64 0)]) noN (xk 0 (c1 fun q14_0=>
 ret q14_0) noX) ret
noncomputable def ZaN.l1 (Γ : Zb) (s0 s3 s9 s10 s11 : Value) : M Out:=
 bind (bop .int .lss s11 s10) fun y3=>
 cnd y3
 (bind (ixa 1 s9 s11) fun y4=>
 bind (ld1 y4) fun y5=>
 bind (Γ ZdD [s0,y5]) fun y6=>
 bind (Zu y6 0) fun y7=>
 bind (Zu y6 1) fun y8=>
 bind (alc 1 (.agg #[.string ⟨#[]⟩,.string ⟨#[]⟩,.string ⟨#[]⟩,.bool false,.slice none 0 0])) fun y9=>
 bind (stA 5 y9 y7) fun _=>
 bind (ldA 5 y9) fun y10=>
 bind (bsl 5 1 (.agg #[.string ⟨#[]⟩,.string ⟨#[]⟩,.string ⟨#[]⟩,.bool false,.slice none 0 0]) [(0,5,y10)]) fun y11=>
 bind (app 5 80 s3 y11) fun y12=>
 bind (bop .int .add s11 (Value.int .i64 1)) fun y13=>
 ret (.nrm [s0,y12,s9,s10,y13]))
 (ret (.ext 0 [s3]))
noncomputable def ZaN (Γ : Zb) (x0 : Value) : M Value:=
 bind (Γ ZeV [x0]) fun y1=>
 bind (Zk y1) fun y2=>
 jn (Zd (c5 (ZaN.l1 Γ)) [x0,(Value.slice none 0 0),y1,y2,(Value.int .i64 0)]) noN (xk 0 (c1 fun q15_0=>
 ret q15_0) noX) ret
noncomputable def Ke.l1 (Γ : Zb) (s1 s9 s10 : Value) : M Out:=
 bind (bop .int .lss s10 (Value.int .i64 8)) fun y4=>
 cnd y4
 (bind (ixv true 8 3 s9 s10) fun y5=>
 bind (alc 1 (.agg #[.int .u64 0,.int .i64 0,.slice none 0 0])) fun y6=>
 bind (stA 3 y6 y5) fun _=>
 bind (fa 0 y6) fun y7=>
 bind (ld1 y7) fun y8=>
 bind (Γ Zbi [s1,y8]) fun y9=>
 bind (fa 0 y6) fun y10=>
 bind (ld1 y10) fun y11=>
 bind (bop .int .gtr y11 (Value.int .u64 0)) fun y12=>
 jn (cnd y12
 (bind (fa 1 y6) fun y13=>
 bind (ldA 2 y13) fun y14=>
 bind (Γ Zml [y14]) fun y15=>
 bind (b2s y15) fun y16=>
 bind (Γ QF [s1,y16]) fun y17=>
 ret (.nrm [s1,s9,s10]))
 (ret (.nrm [s1,s9,s10]))) (c3 fun q18_0 q18_1 q18_2=>
 bind (bop .int .add q18_2 (Value.int .i64 1)) fun y19=>
 ret (.nrm [q18_0,q18_1,y19])) noX Zt)
 (ret (.ext 0 []))
noncomputable def Ke (Γ : Zb) (x0 x1 : Value) : M Value:=
 bind (Ql x0) fun y1=>
 bind (fa 0 y1) fun y2=>
 bind (ldA 24 y2) fun y3=>
 jn (Zd (c3 (Ke.l1 Γ)) [x1,y3,(Value.int .i64 0)]) noN (xk 0 (c0 (ret (Value.tuple #[]))) noX) ret
noncomputable def YW.l1 (Γ : Zb) (s1 s17 s18 s19 : Value) : M Out:=
 bind (bop .int .lss s19 s18) fun y11=>
 cnd y11
 (bind (ixa 1 s17 s19) fun y12=>
 bind (ld1 y12) fun y13=>
 bind (Γ ZS [s1,y13]) fun y14=>
 bind (bop .int .add s19 (Value.int .i64 1)) fun y15=>
 ret (.nrm [s1,s17,s18,y15]))
 (ret (.ext 0 []))
noncomputable def YW (Γ : Zb) (x0 x1 : Value) : M Value:=
 bind (Ql x0) fun y1=>
 bind (fa 0 y1) fun y2=>
 bind (ld1 y2) fun y3=>
 bind (Zk y3) fun y4=>
 bind (cvi .u8 y4) fun y5=>
 bind (Γ ZS [x1,y5]) fun y6=>
 bind (Ql x0) fun y7=>
 bind (fa 0 y7) fun y8=>
 bind (ld1 y8) fun y9=>
 bind (Zk y9) fun y10=>
 jn (Zd (c4 (YW.l1 Γ)) [x1,y9,y10,(Value.int .i64 0)]) noN (xk 0 (c0 (ret (Value.tuple #[]))) noX) ret
noncomputable def Wc.l1 (Γ : Zb) (s0 s4 s11 s12 s13 : Value) : M Out:=
 bind (bop .int .lss s13 s12) fun y3=>
 cnd y3
 (bind (ixa 5 s11 s13) fun y4=>
 bind (ldA 5 y4) fun y5=>
 bind (alc 1 (.agg #[.string ⟨#[]⟩,.string ⟨#[]⟩,.string ⟨#[]⟩,.bool false,.slice none 0 0])) fun y6=>
 bind (stA 5 y6 y5) fun _=>
 bind (ldA 5 y6) fun y7=>
 bind (Γ Zc6 [(Value.int .i64 1),y7]) fun y8=>
 bind (bop .int .neq y8 (Value.int .i64 0)) fun y9=>
 cnd y9
 (ret (.ret (Value.tuple #[(Value.pointer none),y8])))
 (bind (bop .int .add s13 (Value.int .i64 1)) fun y10=>
 ret (.nrm [s0,s4,s11,s12,y10])))
 (ret (.ext 0 [s0,s4]))
noncomputable def Wc.l2 (Γ : Zb) (s0 s4 s23 s24 s25 : Value) : M Out:=
 bind (bop .int .lss s25 s24) fun y14=>
 cnd y14
 (bind (ixa 5 s23 s25) fun y15=>
 bind (ldA 5 y15) fun y16=>
 bind (alc 1 (.agg #[.string ⟨#[]⟩,.string ⟨#[]⟩,.string ⟨#[]⟩,.bool false,.slice none 0 0])) fun y17=>
 bind (stA 5 y17 y16) fun _=>
 bind (bop .int .gtr s25 (Value.int .i64 0)) fun y18=>
 bind (gateV y18 true (ret s0)) fun y19=>
 bind (gateV y18 true (ret s25)) fun y20=>
 bind (gateV y18 true (bop .int .sub y20 (Value.int .i64 1))) fun y21=>
 bind (gateV y18 true (ixa 5 y19 y21)) fun y22=>
 bind (gateV y18 true (fa 0 y22)) fun y23=>
 bind (gateV y18 true (ld1 y23)) fun y24=>
 bind (gateV y18 true (fa 0 y17)) fun y25=>
 bind (gateV y18 true (ld1 y25)) fun y26=>
 bind (gateV y18 true (Γ Qa [y24,y26])) fun y27=>
 bind (gateV y18 true (bop .int .geq y27 (Value.int .i64 0))) fun y28=>
 bind (pick y18 y28 (Value.bool false)) fun y29=>
 cnd y29
 (ret (.ret (Value.tuple #[(Value.pointer none),(Value.int .i64 9)])))
 (bind (Ql s4) fun y30=>
 bind (fa 0 y30) fun y31=>
 bind (ld1 y31) fun y32=>
 bind (fa 0 y17) fun y33=>
 bind (ld1 y33) fun y34=>
 bind (fa 1 y17) fun y35=>
 bind (ld1 y35) fun y36=>
 bind (mup .str y32 y34 y36) fun _=>
 bind (bop .int .add s25 (Value.int .i64 1)) fun y37=>
 ret (.nrm [s0,s4,s23,s24,y37])))
 (ret (.ext 2 [s0,s4]))
noncomputable def Wc (Γ : Zb) (x0 : Value) : M Value:=
 bind (Γ ZjZ []) fun y1=>
 bind (Zk x0) fun y2=>
 jn (Zd (c5 (Wc.l1 Γ)) [x0,y1,x0,y2,(Value.int .i64 0)]) noN (xk 0 (c2 fun q12_0 q12_1=>
 bind (Zk q12_0) fun y13=>
 jn (Zd (c5 (Wc.l2 Γ)) [q12_0,q12_1,q12_0,y13,(Value.int .i64 0)]) noN (xk 2 (c2 fun q39_0 q39_1=>
 bind (Zk q39_0) fun y40=>
 bind (bop .int .gtr y40 (Value.int .i64 12)) fun y41=>
 cnd y41
 (ret (Value.tuple #[(Value.pointer none),(Value.int .i64 7)]))
 (ret (Value.tuple #[q39_1,(Value.int .i64 0)]))) noX) ret) noX) ret
noncomputable def K5.l1 (Γ : Zb) (s0 s2 s7 s10 s11 : Value) : M Out:=
 bind (bop .int .lss s11 s10) fun y2=>
 cnd y2
 (bind (Γ ZcR [s0,s2]) fun y3=>
 bind (bsl 1 1 (.string ⟨#[]⟩) [(0,1,y3)]) fun y4=>
 bind (app 1 16 s7 y4) fun y5=>
 bind (bop .int .add s11 (Value.int .i64 1)) fun y6=>
 ret (.nrm [s0,s2,y5,s10,y6]))
 (ret (.ext 0 [s0,s7]))
noncomputable def K5 (Γ : Zb) (x0 x1 x2 : Value) : M Value:=
 bind (Γ ZbV [x0,x1]) fun y1=>
 jn (Zd (c5 (K5.l1 Γ)) [x0,x2,(Value.slice none 0 0),y1,(Value.int .i64 0)]) noN (xk 0 (c2 fun q8_0 q8_1=>
 bind (Ql q8_0) fun y9=>
 bind (fa 1 y9) fun y10=>
 bind (ld1 y10) fun y11=>
 bind (bop .int .neq y11 (Value.int .i64 0)) fun y12=>
 cnd y12
 (ret (Value.slice none 0 0))
 (ret q8_1)) noX) ret
noncomputable def JU.l1 (Γ : Zb) (s0 s7 s23 s24 s25 : Value) : M Out:=
 bind (bop .int .lss s25 s24) fun y5=>
 cnd y5
 (bind (ixa 1 s23 s25) fun y6=>
 bind (ld1 y6) fun y7=>
 bind (Ql s7) fun y8=>
 bind (fa 2 y8) fun y9=>
 bind (ld1 y9) fun y10=>
 bind (Γ Zci [y10,y7]) fun y11=>
 bind (bop .int .add s25 (Value.int .i64 1)) fun y12=>
 ret (.nrm [s0,s7,s23,s24,y12]))
 (ret (.ext 0 [s0,s7]))
noncomputable def JU.l3 (Γ : Zb) (s7 s11 s36 s37 s38 s54 s55 s56 : Value) : M Out:=
 bind (bop .int .lss s56 s55) fun y33=>
 cnd y33
 (bind (ixa 1 s54 s56) fun y34=>
 bind (ld1 y34) fun y35=>
 bind (Ql s7) fun y36=>
 bind (fa 2 y36) fun y37=>
 bind (ld1 y37) fun y38=>
 bind (fa 0 s11) fun y39=>
 bind (ld1 y39) fun y40=>
 bind (Γ ZcI [y38,y35,y40]) fun y41=>
 bind (bop .int .neq y41 (Value.int .i64 0)) fun y42=>
 cnd y42
 (ret (.ret (Value.tuple #[(Value.pointer none),y41])))
 (bind (bop .int .add s56 (Value.int .i64 1)) fun y43=>
 ret (.nrm [s7,s11,s36,s37,s38,s54,s55,y43])))
 (ret (.ext 4 [s7,s11,s36,s37,s38]))
noncomputable def JU.l2 (Γ : Zb) (s7 s36 s37 s38 : Value) : M Out:=
 bind (bop .int .lss s38 s37) fun y16=>
 cnd y16
 (bind (ixa 5 s36 s38) fun y17=>
 bind (ldA 5 y17) fun y18=>
 bind (alc 1 (.agg #[.string ⟨#[]⟩,.string ⟨#[]⟩,.string ⟨#[]⟩,.bool false,.slice none 0 0])) fun y19=>
 bind (stA 5 y19 y18) fun _=>
 bind (Ql s7) fun y20=>
 bind (fa 0 y20) fun y21=>
 bind (ld1 y21) fun y22=>
 bind (fa 0 y19) fun y23=>
 bind (ld1 y23) fun y24=>
 bind (fa 1 y19) fun y25=>
 bind (ld1 y25) fun y26=>
 bind (fa 3 y19) fun y27=>
 bind (ld1 y27) fun y28=>
 bind (bld (.agg #[.string ⟨#[]⟩,.bool false]) [(0,1,y26),(1,1,y28)]) fun y29=>
 bind (mup .str y22 y24 y29) fun _=>
 bind (fa 4 y19) fun y30=>
 bind (ld1 y30) fun y31=>
 bind (Zk y31) fun y32=>
 jn (Zd (c8 (JU.l3 Γ)) [s7,y19,s36,s37,s38,y31,y32,(Value.int .i64 0)]) noN (xk 4 (c5 fun q45_0 q45_1 q45_2 q45_3 q45_4=>
 bind (Ql q45_0) fun y46=>
 bind (fa 1 y46) fun y47=>
 bind (ld1 y47) fun y48=>
 bind (fa 0 q45_1) fun y49=>
 bind (ld1 y49) fun y50=>
 bind (fa 2 q45_1) fun y51=>
 bind (ld1 y51) fun y52=>
 bind (Γ ZfV [y48,y50,y52]) fun y53=>
 bind (bop .int .neq y53 (Value.int .i64 0)) fun y54=>
 cnd y54
 (ret (.ret (Value.tuple #[(Value.pointer none),y53])))
 (bind (bop .int .add q45_4 (Value.int .i64 1)) fun y55=>
 ret (.nrm [q45_0,q45_2,q45_3,y55]))) noX) Zt)
 (ret (.ext 2 [s7]))
noncomputable def JU (Γ : Zb) (x0 x1 : Value) : M Value:=
 bind (Γ Zh7 [x0,x1]) fun y1=>
 bind (bop .int .neq y1 (Value.int .i64 0)) fun y2=>
 cnd y2
 (ret (Value.tuple #[(Value.pointer none),y1]))
 (bind (Γ Zj4 []) fun y3=>
 bind (Zk x1) fun y4=>
 jn (Zd (c5 (JU.l1 Γ)) [x0,y3,x1,y4,(Value.int .i64 0)]) noN (xk 0 (c2 fun q14_0 q14_1=>
 bind (Zk q14_0) fun y15=>
 jn (Zd (c4 (JU.l2 Γ)) [q14_1,q14_0,y15,(Value.int .i64 0)]) noN (xk 2 (c1 fun q58_0=>
 ret (Value.tuple #[q58_0,(Value.int .i64 0)])) noX) ret) noX) ret)
noncomputable def KW.l1 (Γ : Zb) (s0 s1 s7 s8 : Value) : M Out:=
 bind (bop .int .lss s8 s7) fun y1=>
 cnd y1
 (bind (Ql s0) fun y2=>
 bind (fa 0 y2) fun y3=>
 bind (ld1 y3) fun y4=>
 bind (cvi .u8 s1) fun y5=>
 bind (bsl 1 1 (.int .u8 0) [(0,1,y5)]) fun y6=>
 bind (app 1 1 y4 y6) fun y7=>
 bind (Ql s0) fun y8=>
 bind (fa 0 y8) fun y9=>
 bind (st1 y9 y7) fun _=>
 bind (bop .int .shr s1 (Value.int .u64 8)) fun y10=>
 bind (bop .int .add s8 (Value.int .i64 1)) fun y11=>
 ret (.nrm [s0,y10,s7,y11]))
 (ret (.ext 0 [s0]))
noncomputable def KW (Γ : Zb) (x0 x1 x2 : Value) : M Value:=
 jn (Zd (c4 (KW.l1 Γ)) [x0,x1,x2,(Value.int .i64 0)]) noN (xk 0 (c1 fun q13_0=>
 ret q13_0) noX) ret
noncomputable def Zge.l1 (Γ : Zb) (s2 s3 s6 s7 s8 : Value) : M Out:=
 bind (bop .int .lss s8 s7) fun y3=>
 cnd y3
 (bind (ixa 5 s6 s8) fun y4=>
 bind (ldA 5 y4) fun y5=>
 bind (alc 1 (.agg #[.string ⟨#[]⟩,.string ⟨#[]⟩,.string ⟨#[]⟩,.bool false,.slice none 0 0])) fun y6=>
 bind (stA 5 y6 y5) fun _=>
 bind (fa 0 y6) fun y7=>
 bind (ld1 y7) fun y8=>
 bind (fa 1 y6) fun y9=>
 bind (ld1 y9) fun y10=>
 bind (bld (.agg #[.string ⟨#[]⟩,.string ⟨#[]⟩,.string ⟨#[]⟩,.bool false,.slice none 0 0]) [(0,1,y8),(1,1,y10)]) fun y11=>
 bind (bsl 5 1 (.agg #[.string ⟨#[]⟩,.string ⟨#[]⟩,.string ⟨#[]⟩,.bool false,.slice none 0 0]) [(0,5,y11)]) fun y12=>
 bind (app 5 80 s3 y12) fun y13=>
 bind (bop .int .add s8 (Value.int .i64 1)) fun y14=>
 ret (.nrm [s2,y13,s6,s7,y14]))
 (ret (.ext 0 [s2,s3]))
noncomputable def Zge (Γ : Zb) (x0 : Value) : M Value:=
 bind (alc 1 (.agg #[.slice none 0 0,.slice none 0 0])) fun y1=>
 bind (Zk x0) fun y2=>
 jn (Zd (c5 (Zge.l1 Γ)) [y1,(Value.slice none 0 0),x0,y2,(Value.int .i64 0)]) noN (xk 0 (c2 fun q16_0 q16_1=>
 bind (bld (.agg #[.slice none 0 0,.slice none 0 0]) [(0,1,q16_1)]) fun y17=>
 bind (stA 2 q16_0 y17) fun _=>
 bind (ldA 2 q16_0) fun y18=>
 ret y18) noX) ret
noncomputable def Zbm.l1 (Γ : Zb) (s0 s5 s12 s13 s14 : Value) : M Out:=
 bind (bop .int .lss s14 s13) fun y5=>
 cnd y5
 (bind (ixa 5 s12 s14) fun y6=>
 bind (ldA 5 y6) fun y7=>
 bind (alc 1 (.agg #[.string ⟨#[]⟩,.string ⟨#[]⟩,.string ⟨#[]⟩,.bool false,.slice none 0 0])) fun y8=>
 bind (stA 5 y8 y7) fun _=>
 bind (ldA 5 y8) fun y9=>
 bind (Γ ZiO [s0,y9]) fun y10=>
 bind (bop .str .add s5 y10) fun y11=>
 bind (bop .int .add s14 (Value.int .i64 1)) fun y12=>
 ret (.nrm [s0,y11,s12,s13,y12]))
 (ret (.ext 0 [s5]))
noncomputable def Zbm (Γ : Zb) (x0 x1 : Value) : M Value:=
 bind (Zk x1) fun y1=>
 bind (cvi .u64 y1) fun y2=>
 bind (Γ ZeB [y2,(Value.int .i64 2)]) fun y3=>
 bind (Zk x1) fun y4=>
 jn (Zd (c5 (Zbm.l1 Γ)) [x0,y3,x1,y4,(Value.int .i64 0)]) noN (xk 0 (c1 fun q14_0=>
 ret q14_0) noX) ret
noncomputable def ZeC.l1 (Γ : Zb) (s3 s10 s11 s12 : Value) : M Out:=
 bind (bop .int .lss s12 s11) fun y5=>
 cnd y5
 (bind (ixa 1 s10 s12) fun y6=>
 bind (ld1 y6) fun y7=>
 bind (Γ Ziz [y7]) fun y8=>
 bind (bop .str .add s3 y8) fun y9=>
 bind (bop .int .add s12 (Value.int .i64 1)) fun y10=>
 ret (.nrm [y9,s10,s11,y10]))
 (ret (.ext 0 [s3]))
noncomputable def ZeC (Γ : Zb) (x0 : Value) : M Value:=
 bind (Zk x0) fun y1=>
 bind (cvi .u64 y1) fun y2=>
 bind (Γ ZeB [y2,(Value.int .i64 2)]) fun y3=>
 bind (Zk x0) fun y4=>
 jn (Zd (c4 (ZeC.l1 Γ)) [y3,x0,y4,(Value.int .i64 0)]) noN (xk 0 (c1 fun q12_0=>
 ret q12_0) noX) ret
noncomputable def Zfa.l1 (Γ : Zb) (s0 s5 s6 s7 : Value) : M Out:=
 bind (bop .int .lss s7 s6) fun y1=>
 cnd y1
 (bind (bop .int .rem s0 (Value.int .u64 256)) fun y2=>
 bind (cvi .u8 y2) fun y3=>
 bind (bsl 1 1 (.int .u8 0) [(0,1,y3)]) fun y4=>
 bind (b2s y4) fun y5=>
 bind (bop .str .add s5 y5) fun y6=>
 bind (bop .int .quo s0 (Value.int .u64 256)) fun y7=>
 bind (bop .int .add s7 (Value.int .i64 1)) fun y8=>
 ret (.nrm [y7,y6,s6,y8]))
 (ret (.ext 0 [s5]))
noncomputable def Zfa (Γ : Zb) (x0 x1 : Value) : M Value:=
 jn (Zd (c4 (Zfa.l1 Γ)) [x0,(Value.string ⟨#[]⟩),x1,(Value.int .i64 0)]) noN (xk 0 (c1 fun q10_0=>
 ret q10_0) noX) ret
noncomputable def KX.l1 (Γ : Zb) (s5 s10 s11 s12 : Value) : M Out:=
 bind (bop .int .lss s12 s11) fun y3=>
 cnd y3
 (bind (ixa 1 s10 s12) fun y4=>
 bind (ld1 y4) fun y5=>
 bind (cvi .u64 y5) fun y6=>
 bind (bop .int .mul (Value.int .i64 8) s12) fun y7=>
 bind (bop .int .shl y6 y7) fun y8=>
 bind (bop .int .or s5 y8) fun y9=>
 bind (bop .int .add s12 (Value.int .i64 1)) fun y10=>
 ret (.nrm [y9,s10,s11,y10]))
 (ret (.ext 0 [s5]))
noncomputable def KX (Γ : Zb) (x0 x1 : Value) : M Value:=
 bind (Γ ZcP [x0,x1]) fun y1=>
 bind (Zk y1) fun y2=>
 jn (Zd (c4 (KX.l1 Γ)) [(Value.int .u64 0),y1,y2,(Value.int .i64 0)]) noN (xk 0 (c1 fun q12_0=>
 ret q12_0) noX) ret
noncomputable def J6.l1 (Γ : Zb) (s1 s5 s13 s14 s15 : Value) : M Out:=
 bind (bop .int .lss s15 s14) fun y2=>
 cnd y2
 (bind (ixa 5 s13 s15) fun y3=>
 bind (ldA 5 y3) fun y4=>
 bind (alc 1 (.agg #[.string ⟨#[]⟩,.string ⟨#[]⟩,.string ⟨#[]⟩,.bool false,.slice none 0 0])) fun y5=>
 bind (stA 5 y5 y4) fun _=>
 bind (ldA 5 y5) fun y6=>
 bind (Γ Zc6 [(Value.int .i64 2),y6]) fun y7=>
 bind (bop .int .neq y7 (Value.int .i64 0)) fun y8=>
 cnd y8
 (ret (.ret y7))
 (bind (fa 0 y5) fun y9=>
 bind (ld1 y9) fun y10=>
 bind (bsl 1 1 (.string ⟨#[]⟩) [(0,1,y10)]) fun y11=>
 bind (app 1 16 s5 y11) fun y12=>
 bind (bop .int .add s15 (Value.int .i64 1)) fun y13=>
 ret (.nrm [s1,y12,s13,s14,y13])))
 (ret (.ext 0 [s1,s5]))
noncomputable def J6.l2 (Γ : Zb) (s1 s35 s36 s37 : Value) : M Out:=
 bind (bop .int .lss s37 s36) fun y19=>
 cnd y19
 (bind (ixa 1 s35 s37) fun y20=>
 bind (ld1 y20) fun y21=>
 bind (Γ Ks [y21]) fun y22=>
 bind (bop .int .neq y22 (Value.int .i64 0)) fun y23=>
 cnd y23
 (ret (.ret y22))
 (bind (bop .int .add s37 (Value.int .i64 1)) fun y24=>
 ret (.nrm [s1,s35,s36,y24])))
 (ret (.ext 2 [s1]))
noncomputable def J6 (Γ : Zb) (x0 x1 : Value) : M Value:=
 bind (Zk x0) fun y1=>
 jn (Zd (c5 (J6.l1 Γ)) [x1,(Value.slice none 0 0),x0,y1,(Value.int .i64 0)]) noN (xk 0 (c2 fun q15_0 q15_1=>
 bind (Γ Zc5 [q15_1,(Value.int .i64 12)]) fun y16=>
 bind (bop .int .neq y16 (Value.int .i64 0)) fun y17=>
 cnd y17
 (ret y16)
 (bind (Zk q15_0) fun y18=>
 jn (Zd (c4 (J6.l2 Γ)) [q15_0,q15_0,y18,(Value.int .i64 0)]) noN (xk 2 (c1 fun q26_0=>
 bind (Γ Zc5 [q26_0,(Value.int .i64 6)]) fun y27=>
 ret y27) noX) ret)) noX) ret
noncomputable def Zc1.l1 (Γ : Zb) (s5 s6 s7 : Value) : M Out:=
 bind (bop .int .lss s7 s6) fun y2=>
 cnd y2
 (bind (ixa 1 s5 s7) fun y3=>
 bind (ld1 y3) fun y4=>
 bind (bop .int .neq y4 (Value.int .i64 0)) fun y5=>
 cnd y5
 (ret (.ret y4))
 (bind (bop .int .add s7 (Value.int .i64 1)) fun y6=>
 ret (.nrm [s5,s6,y6])))
 (ret (.ext 0 []))
noncomputable def Zc1 (Γ : Zb) (x0 : Value) : M Value:=
 bind (Zk x0) fun y1=>
 jn (Zd (c3 (Zc1.l1 Γ)) [x0,y1,(Value.int .i64 0)]) noN (xk 0 (c0 (ret (Value.int .i64 0))) noX) ret
noncomputable def J3.l1 (Γ : Zb) (s0 s10 s11 s12 : Value) : M Out:=
 bind (bop .int .lss s12 s11) fun y4=>
 cnd y4
 (bind (ixa 1 s10 s12) fun y5=>
 bind (ld1 y5) fun y6=>
 bind (Γ Ks [y6]) fun y7=>
 bind (bop .int .neq y7 (Value.int .i64 0)) fun y8=>
 cnd y8
 (ret (.ret y7))
 (bind (bop .int .add s12 (Value.int .i64 1)) fun y9=>
 ret (.nrm [s0,s10,s11,y9])))
 (ret (.ext 0 [s0]))
noncomputable def J3.l2 (Γ : Zb) (s0 s6 : Value) : M Out:=
 bind (Zk s0) fun y12=>
 bind (bop .int .lss s6 y12) fun y13=>
 cnd y13
 (bind (bop .int .sub s6 (Value.int .i64 1)) fun y14=>
 bind (ixa 1 s0 y14) fun y15=>
 bind (ld1 y15) fun y16=>
 bind (ixa 1 s0 s6) fun y17=>
 bind (ld1 y17) fun y18=>
 bind (bop .str .geq y16 y18) fun y19=>
 cnd y19
 (ret (.ret (Value.int .i64 9)))
 (bind (bop .int .add s6 (Value.int .i64 1)) fun y20=>
 ret (.nrm [s0,y20])))
 (ret (.ext 2 []))
noncomputable def J3 (Γ : Zb) (x0 : Value) : M Value:=
 bind (Zk x0) fun y1=>
 bind (bop .int .gtr y1 (Value.int .i64 6)) fun y2=>
 cnd y2
 (ret (Value.int .i64 7))
 (bind (Zk x0) fun y3=>
 jn (Zd (c4 (J3.l1 Γ)) [x0,x0,y3,(Value.int .i64 0)]) noN (xk 0 (c1 fun q11_0=>
 jn (Zd (c2 (J3.l2 Γ)) [q11_0,(Value.int .i64 1)]) noN (xk 2 (c0 (ret (Value.int .i64 0))) noX) ret) noX) ret)
noncomputable def ZcY.l1 (Γ : Zb) (s3 s11 s12 s13 : Value) : M Out:=
 bind (bop .int .lss s13 s12) fun y4=>
 cnd y4
 (bind (ixa 5 s11 s13) fun y5=>
 bind (ldA 5 y5) fun y6=>
 bind (alc 1 (.agg #[.string ⟨#[]⟩,.string ⟨#[]⟩,.string ⟨#[]⟩,.bool false,.slice none 0 0])) fun y7=>
 bind (stA 5 y7 y6) fun _=>
 bind (ldA 5 y7) fun y8=>
 bind (Γ Zlk [y8]) fun y9=>
 bind (bsl 5 1 (.agg #[.string ⟨#[]⟩,.string ⟨#[]⟩,.string ⟨#[]⟩,.bool false,.slice none 0 0]) [(0,5,y9)]) fun y10=>
 bind (app 5 80 s3 y10) fun y11=>
 bind (bop .int .add s13 (Value.int .i64 1)) fun y12=>
 ret (.nrm [y11,s11,s12,y12]))
 (ret (.ext 0 [s3]))
noncomputable def ZcY (Γ : Zb) (x0 : Value) : M Value:=
 bind (bop .ptr .eql x0 (Value.pointer none)) fun y1=>
 cnd y1
 (ret (Value.pointer none))
 (bind (Γ ZaO [x0]) fun y2=>
 bind (Zk y2) fun y3=>
 jn (Zd (c4 (ZcY.l1 Γ)) [(Value.slice none 0 0),y2,y3,(Value.int .i64 0)]) noN (xk 0 (c1 fun q14_0=>
 bind (Γ Zgb [q14_0,(Value.slice none 0 0)]) fun y15=>
 bind (Zu y15 0) fun y16=>
 bind (Zu y15 1) fun y17=>
 ret y16) noX) ret)
noncomputable def Zex.l1 (Γ : Zb) (s0 s35 s36 s37 : Value) : M Out:=
 bind (bop .int .lss s37 s36) fun y19=>
 cnd y19
 (bind (ixa 1 s35 s37) fun y20=>
 bind (ld1 y20) fun y21=>
 bind (bop .str .eql y21 (Value.string ⟨#[]⟩)) fun y22=>
 bind (gate y22 false 3 (bind (Γ ZkT [y21,(Value.func (.func 223) #[] #[])]) fun y23=>
 bind (uop .not y23) fun y24=>
 ret [y21,y23,y24])) (c3 fun _ _ q25_2=>
 bind (pick y22 (Value.bool true) q25_2) fun y26=>
 cnd y26
 (ret (.ret (Value.tuple #[(Value.string ⟨#[]⟩),(Value.int .i64 11)])))
 (bind (bop .int .add s37 (Value.int .i64 1)) fun y27=>
 ret (.nrm [s0,s35,s36,y27]))))
 (ret (.ext 0 [s0]))
noncomputable def Zex (Γ : Zb) (x0 : Value) : M Value:=
 bind (ZV x0) fun y1=>
 bind (bop .int .gtr y1 (Value.int .i64 20)) fun y2=>
 cnd y2
 (ret (Value.tuple #[(Value.string ⟨#[]⟩),(Value.int .i64 11)]))
 (bind (Γ ZjS [x0]) fun y3=>
 bind (Γ Zg6 [y3,(Value.string ⟨#[64]⟩)]) fun y4=>
 bind (Zu y4 0) fun y5=>
 bind (Zu y4 1) fun y6=>
 bind (Zu y4 2) fun y7=>
 bind (Γ ZfU [y6,(Value.string ⟨#[46]⟩)]) fun y8=>
 bind (uop .not y7) fun y9=>
 bind (gate y9 false 3 (bind (Γ Zhz [y5]) fun y10=>
 bind (uop .not y10) fun y11=>
 ret [y5,y10,y11])) (c3 fun _ _ q12_2=>
 bind (pick y9 (Value.bool true) q12_2) fun y13=>
 bind (gate y13 false 3 (bind (Zk y8) fun y14=>
 bind (bop .int .lss y14 (Value.int .i64 2)) fun y15=>
 ret [y8,y14,y15])) (c3 fun _ _ q16_2=>
 bind (pick y13 (Value.bool true) q16_2) fun y17=>
 cnd y17
 (ret (Value.tuple #[(Value.string ⟨#[]⟩),(Value.int .i64 11)]))
 (bind (Zk y8) fun y18=>
 jn (Zd (c4 (Zex.l1 Γ)) [y3,y8,y18,(Value.int .i64 0)]) noN (xk 0 (c1 fun q29_0=>
 ret (Value.tuple #[q29_0,(Value.int .i64 0)])) noX) ret))))
noncomputable def Ys.l1 (Γ : Zb) (s0 s1 s2 s26 s27 s28 : Value) : M Out:=
 bind (bop .int .lss s28 s27) fun y10=>
 cnd y10
 (bind (ixa 1 s26 s28) fun y11=>
 bind (ld1 y11) fun y12=>
 bind (Ql s0) fun y13=>
 bind (fa 0 y13) fun y14=>
 bind (ld1 y14) fun y15=>
 bind (lkp .str (.map none) false y15 y12) fun y16=>
 bind (mde .str y16 s1) fun _=>
 bind (Ql s0) fun y17=>
 bind (fa 0 y17) fun y18=>
 bind (ld1 y18) fun y19=>
 bind (lkp .str (.map none) false y19 y12) fun y20=>
 bind (bld (.agg #[]) []) fun y21=>
 bind (mup .str y20 s2 y21) fun _=>
 bind (bop .int .add s28 (Value.int .i64 1)) fun y22=>
 ret (.nrm [s0,s1,s2,s26,s27,y22]))
 (ret (.ext 0 []))
noncomputable def Ys (Γ : Zb) (x0 x1 x2 : Value) : M Value:=
 bind (bsl 1 1 (.string ⟨#[]⟩) [(0,1,x2)]) fun y1=>
 bind (Γ Zh1 [y1]) fun y2=>
 bind (bop .int .neq y2 (Value.int .i64 0)) fun y3=>
 cnd y3
 (ret y2)
 (bind (bop .str .eql x1 x2) fun y4=>
 cnd y4
 (ret (Value.int .i64 0))
 (bind (Γ J7 [x0,x2]) fun y5=>
 bind (Zk y5) fun y6=>
 bind (bop .int .gtr y6 (Value.int .i64 0)) fun y7=>
 cnd y7
 (ret (Value.int .i64 9))
 (bind (Γ J7 [x0,x1]) fun y8=>
 bind (Zk y8) fun y9=>
 jn (Zd (c6 (Ys.l1 Γ)) [x0,x1,x2,y8,y9,(Value.int .i64 0)]) noN (xk 0 (c0 (ret (Value.int .i64 0))) noX) ret)))
noncomputable def Wz.l1 (Γ : Zb) (s1 s3 s6 s8 s10 s41 s42 s43 : Value) : M Out:=
 bind (bop .int .lss s43 s42) fun y26=>
 cnd y26
 (bind (ixa 5 s41 s43) fun y27=>
 bind (ldA 5 y27) fun y28=>
 bind (alc 1 (.agg #[.string ⟨#[]⟩,.string ⟨#[]⟩,.string ⟨#[]⟩,.bool false,.slice none 0 0])) fun y29=>
 bind (stA 5 y29 y28) fun _=>
 bind (bop .str .neq s10 (Value.string ⟨#[]⟩)) fun y30=>
 bind (gate y30 true 4 (bind (fa 2 y29) fun y31=>
 bind (ld1 y31) fun y32=>
 bind (bop .str .eql y32 s10) fun y33=>
 ret [y31,y32,s10,y33])) (c4 fun _ _ _ q34_3=>
 bind (pick y30 q34_3 (Value.bool false)) fun y35=>
 bind (gate y35 true 4 (bind (fa 0 y29) fun y36=>
 bind (ld1 y36) fun y37=>
 bind (bop .str .neq y37 s1) fun y38=>
 ret [y36,y37,s1,y38])) (c4 fun _ _ _ q39_3=>
 bind (pick y35 q39_3 (Value.bool false)) fun y40=>
 cnd y40
 (bind (ldA 2 s3) fun y41=>
 bind (stA 2 s6 y41) fun _=>
 bind (ldA 2 s6) fun y42=>
 ret (.ret (Value.tuple #[y42,(Value.int .i64 9)])))
 (bind (bop .int .add s43 (Value.int .i64 1)) fun y43=>
 ret (.nrm [s1,s3,s6,s8,s10,s41,s42,y43])))))
 (ret (.ext 0 [s3,s6,s8,s10]))
noncomputable def Wz (Γ : Zb) (x0 x1 x2 : Value) : M Value:=
 bind (alc 1 x0) fun y1=>
 bind (alc 1 (.agg #[.slice none 0 0,.slice none 0 0])) fun y2=>
 bind (ldA 2 y1) fun y3=>
 bind (Γ ZiK [y3,x1]) fun y4=>
 bind (Zu y4 0) fun y5=>
 bind (Zu y4 1) fun y6=>
 bind (alc 1 (.agg #[.string ⟨#[]⟩,.string ⟨#[]⟩,.string ⟨#[]⟩,.bool false,.slice none 0 0])) fun y7=>
 bind (stA 5 y7 y5) fun _=>
 bind (Γ ZiU [x2]) fun y8=>
 bind (Zu y8 0) fun y9=>
 bind (Zu y8 1) fun y10=>
 bind (bop .int .eql y6 (Value.int .i64 10)) fun y11=>
 cnd y11
 (bind (ldA 2 y1) fun y12=>
 bind (stA 2 y2 y12) fun _=>
 bind (ldA 2 y2) fun y13=>
 ret (Value.tuple #[y13,y6]))
 (bind (bop .str .neq x2 (Value.string ⟨#[]⟩)) fun y14=>
 bind (gate y14 true 2 (bind (uop .not y10) fun y15=>
 ret [y10,y15])) (c2 fun _ q16_1=>
 bind (pick y14 q16_1 (Value.bool false)) fun y17=>
 cnd y17
 (bind (ldA 2 y1) fun y18=>
 bind (stA 2 y2 y18) fun _=>
 bind (ldA 2 y2) fun y19=>
 ret (Value.tuple #[y19,(Value.int .i64 11)]))
 (bind (bop .int .neq y6 (Value.int .i64 0)) fun y20=>
 cnd y20
 (bind (ldA 2 y1) fun y21=>
 bind (stA 2 y2 y21) fun _=>
 bind (ldA 2 y2) fun y22=>
 ret (Value.tuple #[y22,y6]))
 (bind (fa 0 y1) fun y23=>
 bind (ld1 y23) fun y24=>
 bind (Zk y24) fun y25=>
 jn (Zd (c8 (Wz.l1 Γ)) [x1,y1,y2,y7,y9,y24,y25,(Value.int .i64 0)]) noN (xk 0 (c4 fun q45_0 q45_1 q45_2 q45_3=>
 bind (fa 2 q45_2) fun y46=>
 bind (st1 y46 q45_3) fun _=>
 bind (ldA 2 q45_0) fun y47=>
 bind (ldA 5 q45_2) fun y48=>
 bind (Γ ZjK [y47,y48]) fun y49=>
 bind (stA 2 q45_1 y49) fun _=>
 bind (ldA 2 q45_1) fun y50=>
 ret (Value.tuple #[y50,(Value.int .i64 0)])) noX) ret))))
noncomputable def KS.l1 (Γ : Zb) (s1 s2 s4 s8 s27 s28 s29 : Value) : M Out:=
 bind (bop .int .lss s29 s28) fun y19=>
 cnd y19
 (bind (ixa 5 s27 s29) fun y20=>
 bind (ldA 5 y20) fun y21=>
 bind (alc 1 (.agg #[.string ⟨#[]⟩,.string ⟨#[]⟩,.string ⟨#[]⟩,.bool false,.slice none 0 0])) fun y22=>
 bind (stA 5 y22 y21) fun _=>
 bind (fa 4 y22) fun y23=>
 bind (ld1 y23) fun y24=>
 bind (Γ ZfQ [y24,s1]) fun y25=>
 bind (fa 4 y22) fun y26=>
 bind (st1 y26 y25) fun _=>
 bind (ldA 5 y22) fun y27=>
 bind (bsl 5 1 (.agg #[.string ⟨#[]⟩,.string ⟨#[]⟩,.string ⟨#[]⟩,.bool false,.slice none 0 0]) [(0,5,y27)]) fun y28=>
 bind (app 5 80 s8 y28) fun y29=>
 bind (bop .int .add s29 (Value.int .i64 1)) fun y30=>
 ret (.nrm [s1,s2,s4,y29,s27,s28,y30]))
 (ret (.ext 0 [s2,s4,s8]))
noncomputable def KS (Γ : Zb) (x0 x1 : Value) : M Value:=
 bind (alc 1 x0) fun y1=>
 bind (alc 1 (.agg #[.slice none 0 0,.slice none 0 0])) fun y2=>
 bind (fa 1 y1) fun y3=>
 bind (ld1 y3) fun y4=>
 bind (bld (.agg #[.slice none 0 0,.slice none 0 0]) [(0,1,y4)]) fun y5=>
 bind (Γ Zij [y5,x1]) fun y6=>
 bind (Zu y6 0) fun y7=>
 bind (Zu y6 1) fun y8=>
 bind (alc 1 (.agg #[.slice none 0 0,.slice none 0 0])) fun y9=>
 bind (stA 2 y9 y7) fun _=>
 bind (bop .int .neq y8 (Value.int .i64 0)) fun y10=>
 cnd y10
 (bind (ldA 2 y1) fun y11=>
 bind (stA 2 y2 y11) fun _=>
 bind (ldA 2 y2) fun y12=>
 ret (Value.tuple #[y12,y8]))
 (bind (fa 0 y9) fun y13=>
 bind (ld1 y13) fun y14=>
 bind (fa 1 y1) fun y15=>
 bind (st1 y15 y14) fun _=>
 bind (fa 0 y1) fun y16=>
 bind (ld1 y16) fun y17=>
 bind (Zk y17) fun y18=>
 jn (Zd (c7 (KS.l1 Γ)) [x1,y1,y2,(Value.slice none 0 0),y17,y18,(Value.int .i64 0)]) noN (xk 0 (c3 fun q32_0 q32_1 q32_2=>
 bind (fa 0 q32_0) fun y33=>
 bind (st1 y33 q32_2) fun _=>
 bind (ldA 2 q32_0) fun y34=>
 bind (stA 2 q32_1 y34) fun _=>
 bind (ldA 2 q32_1) fun y35=>
 ret (Value.tuple #[y35,(Value.int .i64 0)])) noX) ret)
noncomputable def ZcU.l1 (Γ : Zb) (s0 s1 s5 : Value) : M Out:=
 bind (Zk s0) fun y1=>
 bind (bop .int .lss s5 y1) fun y2=>
 cnd y2
 (bind (bop .int .sub s5 (Value.int .i64 1)) fun y3=>
 bind (ixa 1 s0 y3) fun y4=>
 bind (ld1 y4) fun y5=>
 bind (ixa 1 s0 s5) fun y6=>
 bind (ld1 y6) fun y7=>
 bind (Γ Qa [y5,y7]) fun y8=>
 bind (bop .int .geq y8 (Value.int .i64 0)) fun y9=>
 cnd y9
 (ret (.ret (Value.int .i64 9)))
 (bind (bop .int .add s5 (Value.int .i64 1)) fun y10=>
 ret (.nrm [s0,s1,y10])))
 (ret (.ext 0 [s0,s1]))
noncomputable def ZcU (Γ : Zb) (x0 x1 : Value) : M Value:=
 jn (Zd (c3 (ZcU.l1 Γ)) [x0,x1,(Value.int .i64 1)]) noN (xk 0 (c2 fun q12_0 q12_1=>
 bind (Zk q12_0) fun y13=>
 bind (bop .int .gtr y13 q12_1) fun y14=>
 cnd y14
 (ret (Value.int .i64 7))
 (ret (Value.int .i64 0))) noX) ret
noncomputable def Z5 (Γ : Zb) (x0 x1 : Value) : M Value:=
 bind (Zk x0) fun y1=>
 bind (cvi .u64 y1) fun y2=>
 bind (Γ JB [y2]) fun y3=>
 bind (Γ Zw [x0,(Value.int .i64 0),y1,y3,x1]) fun y4=>
 ret (Value.tuple #[])
theorem J2 : RA2 Z3 Z5:=ra2 Tryz.func207 (by kernel_rfl) fun _ _ _=>by kernel_rfl
noncomputable def Zgl.l1 (Γ : Zb) (s0 s1 s7 s8 : Value) : M Out:=
 bind (bop .int .lss s8 s7) fun y2=>
 cnd y2
 (bind (ixs s0 s8) fun y3=>
 bind (ZX Γ s1 [y3]) fun y4=>
 bind (uop .not y4) fun y5=>
 cnd y5
 (ret (.ret (Value.bool false)))
 (bind (bop .int .add s8 (Value.int .i64 1)) fun y6=>
 ret (.nrm [s0,s1,s7,y6])))
 (ret (.ext 0 []))
noncomputable def Zgl (Γ : Zb) (x0 x1 : Value) : M Value:=
 bind (ZV x0) fun y1=>
 jn (Zd (c4 (Zgl.l1 Γ)) [x0,x1,y1,(Value.int .i64 0)]) noN (xk 0 (c0 (ret (Value.bool true))) noX) ret
noncomputable def Qp.l1 (Γ : Zb) (s0 s1 s5 s6 : Value) : M Out:=
 bind (Zk s0) fun y4=>
 bind (bop .int .lss s6 y4) fun y5=>
 cnd y5
 (bind (ixa 1 s0 s6) fun y6=>
 bind (ld1 y6) fun y7=>
 bind (ZX Γ s1 [y7]) fun y8=>
 bind (uop .not y8) fun y9=>
 jn (cnd y9
 (bind (ixa 1 s0 s5) fun y10=>
 bind (st1 y10 y7) fun _=>
 bind (bop .int .add s5 (Value.int .i64 1)) fun y11=>
 ret (.nrm [s0,s1,y11,s6]))
 (ret (.nrm [s0,s1,s5,s6]))) (c4 fun q12_0 q12_1 q12_2 q12_3=>
 bind (bop .int .add q12_3 (Value.int .i64 1)) fun y13=>
 ret (.nrm [q12_0,q12_1,q12_2,y13])) noX Zt)
 (ret (.ext 0 [s0,s5]))
noncomputable def Qp (Γ : Zb) (x0 x1 : Value) : M Value:=
 bind (Γ Yq [x0,x1]) fun y1=>
 bind (bop .int .eql y1 (Value.int .i64 (-1))) fun y2=>
 cnd y2
 (ret x0)
 (bind (bop .int .add y1 (Value.int .i64 1)) fun y3=>
 jn (Zd (c4 (Qp.l1 Γ)) [x0,x1,y1,y3]) noN (xk 0 (c2 fun q16_0 q16_1=>
 bind (slv 1 q16_0 (some q16_1) none none) fun y17=>
 bind (clr (.string ⟨#[]⟩) 1 y17) fun _=>
 bind (slv 1 q16_0 none (some q16_1) none) fun y18=>
 ret y18) noX) ret)
noncomputable def Zbs.l1 (Γ : Zb) (s5 s10 s11 s12 : Value) : M Out:=
 bind (bop .int .lss s12 s11) fun y3=>
 cnd y3
 (bind (ixa 1 s10 s12) fun y4=>
 bind (ld1 y4) fun y5=>
 bind (bop .int .eql s5 (Value.int .i64 0)) fun y6=>
 jn (cnd y6
 (bind (ZX Γ y5 []) fun y7=>
 ret (.nrm [y7,s10,s11,s12]))
 (ret (.nrm [s5,s10,s11,s12]))) (c4 fun q8_0 q8_1 q8_2 q8_3=>
 bind (bop .int .add q8_3 (Value.int .i64 1)) fun y9=>
 ret (.nrm [q8_0,q8_1,q8_2,y9])) noX Zt)
 (ret (.ext 0 [s5]))
noncomputable def Zbs (Γ : Zb) (x0 x1 : Value) : M Value:=
 bind (Γ Ks [x0]) fun y1=>
 bind (Zk x1) fun y2=>
 jn (Zd (c4 (Zbs.l1 Γ)) [y1,x1,y2,(Value.int .i64 0)]) noN (xk 0 (c1 fun q12_0=>
 ret q12_0) noX) ret
noncomputable def ZeL.l1 (Γ : Zb) (s3 s8 s9 s10 : Value) : M Out:=
 bind (bop .int .lss s10 s9) fun y3=>
 cnd y3
 (bind (ixa 1 s8 s10) fun y4=>
 bind (ld1 y4) fun y5=>
 bind (bop .int .geq y5 (Value.int .u8 65)) fun y6=>
 bind (gate y6 true 2 (bind (bop .int .leq y5 (Value.int .u8 90)) fun y7=>
 ret [y5,y7])) (c2 fun _ q8_1=>
 bind (pick y6 q8_1 (Value.bool false)) fun y9=>
 jn (cnd y9
 (bind (bop .int .add y5 (Value.int .u8 97)) fun y10=>
 bind (bop .int .sub y10 (Value.int .u8 65)) fun y11=>
 bind (ixa 1 s3 s10) fun y12=>
 bind (st1 y12 y11) fun _=>
 ret (.nrm [s3,s8,s9,s10]))
 (ret (.nrm [s3,s8,s9,s10]))) (c4 fun q13_0 q13_1 q13_2 q13_3=>
 bind (bop .int .add q13_3 (Value.int .i64 1)) fun y14=>
 ret (.nrm [q13_0,q13_1,q13_2,y14])) noX Zt))
 (ret (.ext 0 [s3]))
noncomputable def ZeL (Γ : Zb) (x0 : Value) : M Value:=
 bind (s2b x0) fun y1=>
 bind (Zk y1) fun y2=>
 jn (Zd (c4 (ZeL.l1 Γ)) [y1,y1,y2,(Value.int .i64 0)]) noN (xk 0 (c1 fun q17_0=>
 bind (b2s q17_0) fun y18=>
 ret y18) noX) ret
noncomputable def ZbM.l1 (Γ : Zb) (s6 s7 s8 : Value) : M Out:=
 bind (bop .int .lss s8 s7) fun y2=>
 cnd y2
 (bind (ixa 1 s6 s8) fun y3=>
 bind (ld1 y3) fun y4=>
 bind (Γ Ks [y4]) fun y5=>
 bind (bop .int .neq y5 (Value.int .i64 0)) fun y6=>
 cnd y6
 (ret (.ret y5))
 (bind (bop .int .add s8 (Value.int .i64 1)) fun y7=>
 ret (.nrm [s6,s7,y7])))
 (ret (.ext 0 []))
noncomputable def ZbM (Γ : Zb) (x0 : Value) : M Value:=
 bind (Zk x0) fun y1=>
 jn (Zd (c3 (ZbM.l1 Γ)) [x0,y1,(Value.int .i64 0)]) noN (xk 0 (c0 (ret (Value.int .i64 0))) noX) ret
noncomputable def Zc2.l1 (Γ : Zb) (s1 s7 s8 s9 : Value) : M Out:=
 bind (bop .int .lss s9 s8) fun y2=>
 cnd y2
 (bind (ixa 5 s7 s9) fun y3=>
 bind (ldA 5 y3) fun y4=>
 bind (alc 1 (.agg #[.string ⟨#[]⟩,.string ⟨#[]⟩,.string ⟨#[]⟩,.bool false,.slice none 0 0])) fun y5=>
 bind (stA 5 y5 y4) fun _=>
 bind (fa 0 y5) fun y6=>
 bind (ld1 y6) fun y7=>
 bind (bop .str .eql y7 s1) fun y8=>
 cnd y8
 (ret (.ret s9))
 (bind (bop .int .add s9 (Value.int .i64 1)) fun y9=>
 ret (.nrm [s1,s7,s8,y9])))
 (ret (.ext 0 []))
noncomputable def Zc2 (Γ : Zb) (x0 x1 : Value) : M Value:=
 bind (Zk x0) fun y1=>
 jn (Zd (c4 (Zc2.l1 Γ)) [x1,x0,y1,(Value.int .i64 0)]) noN (xk 0 (c0 (ret (Value.int .i64 (-1)))) noX) ret
noncomputable def Zd9.l1 (Γ : Zb) (s3 s5 s6 s9 s10 s11 : Value) : M Out:=
 bind (bop .int .lss s11 s10) fun y3=>
 cnd y3
 (bind (ixa 5 s9 s11) fun y4=>
 bind (ldA 5 y4) fun y5=>
 bind (alc 1 (.agg #[.string ⟨#[]⟩,.string ⟨#[]⟩,.string ⟨#[]⟩,.bool false,.slice none 0 0])) fun y6=>
 bind (stA 5 y6 y5) fun _=>
 bind (uop .not s6) fun y7=>
 bind (gate y7 true 5 (bind (fa 0 s3) fun y8=>
 bind (ld1 y8) fun y9=>
 bind (fa 0 y6) fun y10=>
 bind (ld1 y10) fun y11=>
 bind (bop .str .leq y9 y11) fun y12=>
 ret [y8,y9,y10,y11,y12])) (c5 fun _ _ _ _ q13_4=>
 bind (pick y7 q13_4 (Value.bool false)) fun y14=>
 jn (cnd y14
 (bind (ldA 5 s3) fun y15=>
 bind (bsl 5 1 (.agg #[.string ⟨#[]⟩,.string ⟨#[]⟩,.string ⟨#[]⟩,.bool false,.slice none 0 0]) [(0,5,y15)]) fun y16=>
 bind (app 5 80 s5 y16) fun y17=>
 ret (.nrm [s3,y17,(Value.bool true),y6,s9,s10,s11]))
 (ret (.nrm [s3,s5,s6,y6,s9,s10,s11]))) (c7 fun q18_0 q18_1 q18_2 q18_3 q18_4 q18_5 q18_6=>
 bind (fa 0 q18_3) fun y19=>
 bind (ld1 y19) fun y20=>
 bind (fa 0 q18_0) fun y21=>
 bind (ld1 y21) fun y22=>
 bind (bop .str .neq y20 y22) fun y23=>
 jn (cnd y23
 (bind (ldA 5 q18_3) fun y24=>
 bind (bsl 5 1 (.agg #[.string ⟨#[]⟩,.string ⟨#[]⟩,.string ⟨#[]⟩,.bool false,.slice none 0 0]) [(0,5,y24)]) fun y25=>
 bind (app 5 80 q18_1 y25) fun y26=>
 ret (.nrm [q18_0,y26,q18_2,q18_4,q18_5,q18_6]))
 (ret (.nrm [q18_0,q18_1,q18_2,q18_4,q18_5,q18_6]))) (c6 fun q27_0 q27_1 q27_2 q27_3 q27_4 q27_5=>
 bind (bop .int .add q27_5 (Value.int .i64 1)) fun y28=>
 ret (.nrm [q27_0,q27_1,q27_2,q27_3,q27_4,y28])) noX Zt) noX Zt))
 (ret (.ext 0 [s3,s5,s6]))
noncomputable def Zd9 (Γ : Zb) (x0 x1 : Value) : M Value:=
 bind (alc 1 x1) fun y1=>
 bind (Zk x0) fun y2=>
 jn (Zd (c6 (Zd9.l1 Γ)) [y1,(Value.slice none 0 0),(Value.bool false),x0,y2,(Value.int .i64 0)]) noN (xk 0 (c3 fun q32_0 q32_1 q32_2=>
 bind (uop .not q32_2) fun y33=>
 jn (cnd y33
 (bind (ldA 5 q32_0) fun y34=>
 bind (bsl 5 1 (.agg #[.string ⟨#[]⟩,.string ⟨#[]⟩,.string ⟨#[]⟩,.bool false,.slice none 0 0]) [(0,5,y34)]) fun y35=>
 bind (app 5 80 q32_1 y35) fun y36=>
 ret (.nrm [y36]))
 (ret (.nrm [q32_1]))) (c1 fun q37_0=>
 ret q37_0) noX ret) noX) ret
noncomputable def ZcZ.l1 (Γ : Zb) (s1 s5 s8 s9 s10 : Value) : M Out:=
 bind (bop .int .lss s10 s9) fun y2=>
 cnd y2
 (bind (ixa 5 s8 s10) fun y3=>
 bind (ldA 5 y3) fun y4=>
 bind (alc 1 (.agg #[.string ⟨#[]⟩,.string ⟨#[]⟩,.string ⟨#[]⟩,.bool false,.slice none 0 0])) fun y5=>
 bind (stA 5 y5 y4) fun _=>
 bind (fa 0 y5) fun y6=>
 bind (ld1 y6) fun y7=>
 bind (bop .str .neq y7 s1) fun y8=>
 jn (cnd y8
 (bind (ldA 5 y5) fun y9=>
 bind (bsl 5 1 (.agg #[.string ⟨#[]⟩,.string ⟨#[]⟩,.string ⟨#[]⟩,.bool false,.slice none 0 0]) [(0,5,y9)]) fun y10=>
 bind (app 5 80 s5 y10) fun y11=>
 ret (.nrm [s1,y11,s8,s9,s10]))
 (ret (.nrm [s1,s5,s8,s9,s10]))) (c5 fun q12_0 q12_1 q12_2 q12_3 q12_4=>
 bind (bop .int .add q12_4 (Value.int .i64 1)) fun y13=>
 ret (.nrm [q12_0,q12_1,q12_2,q12_3,y13])) noX Zt)
 (ret (.ext 0 [s5]))
noncomputable def ZcZ (Γ : Zb) (x0 x1 : Value) : M Value:=
 bind (Zk x0) fun y1=>
 jn (Zd (c5 (ZcZ.l1 Γ)) [x1,(Value.slice none 0 0),x0,y1,(Value.int .i64 0)]) noN (xk 0 (c1 fun q16_0=>
 ret q16_0) noX) ret
noncomputable def YR.l1 (Γ : Zb) (s0 s4 : Value) : M Out:=
 bind (ZV s0) fun y4=>
 bind (bop .int .lss s4 y4) fun y5=>
 bind (gate y5 true 4 (bind (ixs s0 s4) fun y6=>
 bind (bop .int .neq y6 (Value.int .u8 64)) fun y7=>
 ret [s0,s4,y6,y7])) (c4 fun _ _ _ q8_3=>
 bind (pick y5 q8_3 (Value.bool false)) fun y9=>
 cnd y9
 (bind (bop .int .add s4 (Value.int .i64 1)) fun y10=>
 ret (.nrm [s0,y10]))
 (ret (.ext 0 [s0,s4])))
noncomputable def YR.l2 (Γ : Zb) (s0 s5 s6 s7 : Value) : M Out:=
 bind (ZV s0) fun y21=>
 bind (bop .int .lss s7 y21) fun y22=>
 cnd y22
 (bind (ixs s0 s7) fun y23=>
 bind (bop .int .eql y23 (Value.int .u8 46)) fun y24=>
 jn (cnd y24
 (bind (bop .int .eql s6 (Value.int .i64 0)) fun y25=>
 cnd y25
 (ret (.ret (Value.tuple #[(Value.string ⟨#[]⟩),(Value.bool false)])))
 (bind (bop .int .add s5 (Value.int .i64 1)) fun y26=>
 ret (.nrm [s0,y26,(Value.int .i64 0),s7])))
 (bind (ixs s0 s7) fun y27=>
 bind (Γ Zf1 [y27,(Value.string ⟨#[97,98,99,100,101,102,103,104,105,106,107,108,109,110,111,112,113,114,115,116,117,118,119,120,121,122,48,49,50,51,52,53,54,55,56,57]⟩)]) fun y28=>
 bind (uop .not y28) fun y29=>
 cnd y29
 (ret (.ret (Value.tuple #[(Value.string ⟨#[]⟩),(Value.bool false)])))
 (bind (bop .int .add s6 (Value.int .i64 1)) fun y30=>
 ret (.nrm [s0,s5,y30,s7])))) (c4 fun q31_0 q31_1 q31_2 q31_3=>
 bind (bop .int .add q31_3 (Value.int .i64 1)) fun y32=>
 ret (.nrm [q31_0,q31_1,q31_2,y32])) noX Zt)
 (ret (.ext 2 [s0,s5,s6]))
noncomputable def YR (Γ : Zb) (x0 : Value) : M Value:=
 bind (ZV x0) fun y1=>
 bind (bop .int .gtr y1 (Value.int .i64 20)) fun y2=>
 cnd y2
 (ret (Value.tuple #[(Value.string ⟨#[]⟩),(Value.bool false)]))
 (bind (Γ ZiA [x0]) fun y3=>
 jn (Zd (c2 (YR.l1 Γ)) [y3,(Value.int .i64 0)]) noN (xk 0 (c2 fun q12_0 q12_1=>
 bind (ZV q12_0) fun y13=>
 bind (bop .int .eql q12_1 y13) fun y14=>
 bind (gate y14 false 5 (bind (sls q12_0 none (some q12_1)) fun y15=>
 bind (Γ Zc8 [y15]) fun y16=>
 bind (uop .not y16) fun y17=>
 ret [q12_0,q12_1,y15,y16,y17])) (c5 fun _ _ _ _ q18_4=>
 bind (pick y14 (Value.bool true) q18_4) fun y19=>
 cnd y19
 (ret (Value.tuple #[(Value.string ⟨#[]⟩),(Value.bool false)]))
 (bind (bop .int .add q12_1 (Value.int .i64 1)) fun y20=>
 jn (Zd (c4 (YR.l2 Γ)) [q12_0,(Value.int .i64 0),(Value.int .i64 0),y20]) noN (xk 2 (c3 fun q35_0 q35_1 q35_2=>
 bind (bop .int .eql q35_1 (Value.int .i64 0)) fun y36=>
 bind (gate y36 false 2 (bind (bop .int .eql q35_2 (Value.int .i64 0)) fun y37=>
 ret [q35_2,y37])) (c2 fun _ q38_1=>
 bind (pick y36 (Value.bool true) q38_1) fun y39=>
 cnd y39
 (ret (Value.tuple #[(Value.string ⟨#[]⟩),(Value.bool false)]))
 (ret (Value.tuple #[q35_0,(Value.bool true)])))) noX) ret))) noX) ret)
noncomputable def YN.l1 (Γ : Zb) (s1 s2 s4 s6 s23 s24 s25 : Value) : M Out:=
 bind (bop .int .lss s25 s24) fun y16=>
 cnd y16
 (bind (ixa 1 s23 s25) fun y17=>
 bind (ld1 y17) fun y18=>
 bind (bop .str .neq y18 s1) fun y19=>
 jn (cnd y19
 (bind (bsl 1 1 (.string ⟨#[]⟩) [(0,1,y18)]) fun y20=>
 bind (app 1 16 s6 y20) fun y21=>
 ret (.nrm [s1,s2,s4,y21,s23,s24,s25]))
 (ret (.nrm [s1,s2,s4,s6,s23,s24,s25]))) (c7 fun q22_0 q22_1 q22_2 q22_3 q22_4 q22_5 q22_6=>
 bind (bop .int .add q22_6 (Value.int .i64 1)) fun y23=>
 ret (.nrm [q22_0,q22_1,q22_2,q22_3,q22_4,q22_5,y23])) noX Zt)
 (ret (.ext 0 [s1,s2,s4,s6]))
noncomputable def YN.l2 (Γ : Zb) (s1 s4 s6 s9 s38 s39 s40 : Value) : M Out:=
 bind (bop .int .lss s40 s39) fun y30=>
 cnd y30
 (bind (ixa 2 s38 s40) fun y31=>
 bind (ldA 2 y31) fun y32=>
 bind (alc 1 (.agg #[.string ⟨#[]⟩,.string ⟨#[]⟩])) fun y33=>
 bind (stA 2 y33 y32) fun _=>
 bind (fa 0 y33) fun y34=>
 bind (ld1 y34) fun y35=>
 bind (bop .str .neq y35 s1) fun y36=>
 jn (cnd y36
 (bind (ldA 2 y33) fun y37=>
 bind (bsl 2 1 (.agg #[.string ⟨#[]⟩,.string ⟨#[]⟩]) [(0,2,y37)]) fun y38=>
 bind (app 2 32 s9 y38) fun y39=>
 ret (.nrm [s1,s4,s6,y39,s38,s39,s40]))
 (ret (.nrm [s1,s4,s6,s9,s38,s39,s40]))) (c7 fun q40_0 q40_1 q40_2 q40_3 q40_4 q40_5 q40_6=>
 bind (bop .int .add q40_6 (Value.int .i64 1)) fun y41=>
 ret (.nrm [q40_0,q40_1,q40_2,q40_3,q40_4,q40_5,y41])) noX Zt)
 (ret (.ext 2 [s4,s6,s9]))
noncomputable def YN (Γ : Zb) (x0 x1 : Value) : M Value:=
 bind (alc 1 x0) fun y1=>
 bind (alc 1 (.agg #[.slice none 0 0,.slice none 0 0])) fun y2=>
 bind (Γ Zc8 [x1]) fun y3=>
 bind (uop .not y3) fun y4=>
 cnd y4
 (bind (ldA 2 y1) fun y5=>
 bind (stA 2 y2 y5) fun _=>
 bind (ldA 2 y2) fun y6=>
 ret (Value.tuple #[y6,(Value.int .i64 10)]))
 (bind (fa 0 y1) fun y7=>
 bind (ld1 y7) fun y8=>
 bind (Γ Zev [y8,x1]) fun y9=>
 bind (uop .not y9) fun y10=>
 cnd y10
 (bind (ldA 2 y1) fun y11=>
 bind (stA 2 y2 y11) fun _=>
 bind (ldA 2 y2) fun y12=>
 ret (Value.tuple #[y12,(Value.int .i64 8)]))
 (bind (fa 0 y1) fun y13=>
 bind (ld1 y13) fun y14=>
 bind (Zk y14) fun y15=>
 jn (Zd (c7 (YN.l1 Γ)) [x1,y1,y2,(Value.slice none 0 0),y14,y15,(Value.int .i64 0)]) noN (xk 0 (c4 fun q26_0 q26_1 q26_2 q26_3=>
 bind (fa 1 q26_1) fun y27=>
 bind (ld1 y27) fun y28=>
 bind (Zk y28) fun y29=>
 jn (Zd (c7 (YN.l2 Γ)) [q26_0,q26_2,q26_3,(Value.slice none 0 0),y28,y29,(Value.int .i64 0)]) noN (xk 2 (c3 fun q44_0 q44_1 q44_2=>
 bind (bld (.agg #[.slice none 0 0,.slice none 0 0]) [(0,1,q44_1),(1,1,q44_2)]) fun y45=>
 bind (stA 2 q44_0 y45) fun _=>
 bind (ldA 2 q44_0) fun y46=>
 ret (Value.tuple #[y46,(Value.int .i64 0)])) noX) ret) noX) ret))
noncomputable def WA.l1 (Γ : Zb) (s1 s5 s8 s9 s10 : Value) : M Out:=
 bind (bop .int .lss s10 s9) fun y2=>
 cnd y2
 (bind (ixa 1 s8 s10) fun y3=>
 bind (ld1 y3) fun y4=>
 bind (bop .str .neq y4 s1) fun y5=>
 jn (cnd y5
 (bind (bsl 1 1 (.string ⟨#[]⟩) [(0,1,y4)]) fun y6=>
 bind (app 1 16 s5 y6) fun y7=>
 ret (.nrm [s1,y7,s8,s9,s10]))
 (ret (.nrm [s1,s5,s8,s9,s10]))) (c5 fun q8_0 q8_1 q8_2 q8_3 q8_4=>
 bind (bop .int .add q8_4 (Value.int .i64 1)) fun y9=>
 ret (.nrm [q8_0,q8_1,q8_2,q8_3,y9])) noX Zt)
 (ret (.ext 0 [s5]))
noncomputable def WA (Γ : Zb) (x0 x1 : Value) : M Value:=
 bind (Zk x0) fun y1=>
 jn (Zd (c5 (WA.l1 Γ)) [x1,(Value.slice none 0 0),x0,y1,(Value.int .i64 0)]) noN (xk 0 (c1 fun q12_0=>
 ret q12_0) noX) ret
noncomputable def Zem.l1 (Γ : Zb) (s1 s7 s8 s9 : Value) : M Out:=
 bind (bop .int .lss s9 s8) fun y2=>
 cnd y2
 (bind (ixa 1 s7 s9) fun y3=>
 bind (ld1 y3) fun y4=>
 bind (bop .str .eql y4 s1) fun y5=>
 cnd y5
 (ret (.ret (Value.bool true)))
 (bind (bop .int .add s9 (Value.int .i64 1)) fun y6=>
 ret (.nrm [s1,s7,s8,y6])))
 (ret (.ext 0 []))
noncomputable def Zem (Γ : Zb) (x0 x1 : Value) : M Value:=
 bind (Zk x0) fun y1=>
 jn (Zd (c4 (Zem.l1 Γ)) [x1,x0,y1,(Value.int .i64 0)]) noN (xk 0 (c0 (ret (Value.bool false))) noX) ret
noncomputable def JC.l2 (Γ : Zb) (s5 s6 s7 s10 s11 s12 s19 s20 s21 : Value) : M Out:=
 bind (bop .int .lss s21 s20) fun y7=>
 cnd y7
 (bind (ixa 1 s19 s21) fun y8=>
 bind (ld1 y8) fun y9=>
 bind (uop .not s7) fun y10=>
 bind (gate y10 true 3 (bind (bop .str .lss s5 y9) fun y11=>
 ret [s5,y9,y11])) (c3 fun _ _ q12_2=>
 bind (pick y10 q12_2 (Value.bool false)) fun y13=>
 jn (cnd y13
 (bind (bsl 1 1 (.string ⟨#[]⟩) [(0,1,s5)]) fun y14=>
 bind (app 1 16 s6 y14) fun y15=>
 ret (.nrm [s5,y15,(Value.bool true),y9,s10,s11,s12,s19,s20,s21]))
 (ret (.nrm [s5,s6,s7,y9,s10,s11,s12,s19,s20,s21]))) (c10 fun q16_0 q16_1 q16_2 q16_3 q16_4 q16_5 q16_6 q16_7 q16_8 q16_9=>
 bind (bsl 1 1 (.string ⟨#[]⟩) [(0,1,q16_3)]) fun y17=>
 bind (app 1 16 q16_1 y17) fun y18=>
 bind (bop .int .add q16_9 (Value.int .i64 1)) fun y19=>
 ret (.nrm [q16_0,y18,q16_2,q16_4,q16_5,q16_6,q16_7,q16_8,y19])) noX Zt))
 (ret (.ext 2 [s5,s6,s7,s10,s11,s12]))
noncomputable def JC.l1 (Γ : Zb) (s3 s10 s11 s12 : Value) : M Out:=
 bind (bop .int .lss s12 s11) fun y2=>
 cnd y2
 (jn (bind (ixa 1 s10 s12) fun y3=>
 bind (ld1 y3) fun y4=>
 bind (Γ Zev [s3,y4]) fun y5=>
 cnd y5
 (ret (.nrm [s3,s10,s11,s12]))
 (bind (Zk s3) fun y6=>
 jn (Zd (c9 (JC.l2 Γ)) [y4,(Value.slice none 0 0),(Value.bool false),s10,s11,s12,s3,y6,(Value.int .i64 0)]) noN (xk 2 (c6 fun q22_0 q22_1 q22_2 q22_3 q22_4 q22_5=>
 bind (uop .not q22_2) fun y23=>
 jn (cnd y23
 (bind (bsl 1 1 (.string ⟨#[]⟩) [(0,1,q22_0)]) fun y24=>
 bind (app 1 16 q22_1 y24) fun y25=>
 ret (.nrm [y25,q22_3,q22_4,q22_5]))
 (ret (.nrm [q22_1,q22_3,q22_4,q22_5]))) (c4 fun q26_0 q26_1 q26_2 q26_3=>
 ret (.nrm [q26_0,q26_1,q26_2,q26_3])) noX Zt) noX) Zt)) (c4 fun q29_0 q29_1 q29_2 q29_3=>
 bind (bop .int .add q29_3 (Value.int .i64 1)) fun y30=>
 ret (.nrm [q29_0,q29_1,q29_2,y30])) noX Zt)
 (ret (.ext 0 [s3]))
noncomputable def JC (Γ : Zb) (x0 : Value) : M Value:=
 bind (Zk x0) fun y1=>
 jn (Zd (c4 (JC.l1 Γ)) [(Value.slice none 0 0),x0,y1,(Value.int .i64 0)]) noN (xk 0 (c1 fun q33_0=>
 ret q33_0) noX) ret
noncomputable abbrev QA.o1 (s2 : Value) (st : LoopState) (pd : Option Code) : Zl:=.loop Tryz.f245 ZY 26 [0] (ZmQ Tryz.f245 26) [(2,s2)] st pd
noncomputable def QA.r1 (Γ : Zb) (L : Nat) (s2 : Value) (a0 : Value) : M Value:=
 Zdo L (
 bind (ld1 s2) fun y2=>
 bind (bsl 1 1 (.string ⟨#[]⟩) [(0,1,a0)]) fun y3=>
 bind (app 1 16 y2 y3) fun y4=>
 bind (st1 s2 y4) fun _=>
 WU L none)
noncomputable def QA (Γ : Zb) (x0 x1 : Value) : M Value:=
 bind (alc 1 x0) fun y1=>
 Ym (Zen Tryz.prog) Γ x1 Tryz.f245 ZY 26 [0] (ZmQ Tryz.f245 26) [(2,y1)] fun pd_5=>
 (match pd_5 with
 | none=>bind (ld1 y1) fun y6=>
 ret y6
 | some (.exit j_5)=>fail
 | some .ret=>ret (Value.slice none 0 0)
 | _=>fail)
noncomputable def Zz.l1 (Γ : Zb) (s0 s1 s2 s3 s4 s10 s11 : Value) : M Out:=
 jn (bind (bop .int .sub s2 s1) fun y1=>
 bind (bop .int .leq y1 (Value.int .i64 12)) fun y2=>
 cnd y2
 (bind (Γ Zx [s0,s1,s2,s4]) fun y3=>
 ret (.ret (Value.tuple #[])))
 (bind (bop .int .eql s3 (Value.int .i64 0)) fun y4=>
 cnd y4
 (bind (Γ Yo [s0,s1,s2,s4]) fun y5=>
 ret (.ret (Value.tuple #[])))
 (bind (uop .not s10) fun y6=>
 jn (cnd y6
 (bind (Γ Jr [s0,s1,s2,s4]) fun y7=>
 bind (bop .int .sub s3 (Value.int .i64 1)) fun y8=>
 ret (.nrm [s0,s1,s2,y8,s4,s10,s11,y1]))
 (ret (.nrm [s0,s1,s2,s3,s4,s10,s11,y1]))) (c8 fun q9_0 q9_1 q9_2 q9_3 q9_4 q9_5 q9_6 q9_7=>
 bind (Γ JK [q9_0,q9_1,q9_2,q9_4]) fun y10=>
 bind (Zu y10 0) fun y11=>
 bind (Zu y10 1) fun y12=>
 bind (bop .int .eql y12 (Value.int .i64 2)) fun y13=>
 jn (cnd y13
 (bind (Γ JA [q9_0,q9_1,q9_2,q9_4]) fun y14=>
 bind (bop .int .sub q9_2 (Value.int .i64 1)) fun y15=>
 bind (bop .int .sub y11 q9_1) fun y16=>
 bind (bop .int .sub y15 y16) fun y17=>
 ret (.nrm [q9_0,q9_1,q9_2,q9_3,q9_4,q9_5,q9_6,q9_7,y17,(Value.int .i64 1)]))
 (ret (.nrm [q9_0,q9_1,q9_2,q9_3,q9_4,q9_5,q9_6,q9_7,y11,y12]))) (c10 fun q18_0 q18_1 q18_2 q18_3 q18_4 q18_5 q18_6 q18_7 q18_8 q18_9=>
 bind (gate q18_5 true 1 (ret [q18_6])) (c1 fun q19_0=>
 bind (pick q18_5 q19_0 (Value.bool false)) fun y20=>
 bind (gate y20 true 2 (bind (bop .int .eql q18_9 (Value.int .i64 1)) fun y21=>
 ret [q18_9,y21])) (c2 fun _ q22_1=>
 bind (pick y20 q22_1 (Value.bool false)) fun y23=>
 jn (cnd y23
 (bind (Γ QN [q18_0,q18_1,q18_2,q18_4]) fun y24=>
 cnd y24
 (ret (.ret (Value.tuple #[])))
 (ret (.nrm [q18_0,q18_1,q18_2,q18_3,q18_4,q18_5,q18_6,q18_7,q18_8])))
 (ret (.nrm [q18_0,q18_1,q18_2,q18_3,q18_4,q18_5,q18_6,q18_7,q18_8]))) (c9 fun q25_0 q25_1 q25_2 q25_3 q25_4 q25_5 q25_6 q25_7 q25_8=>
 bind (bop .int .gtr q25_1 (Value.int .i64 0)) fun y26=>
 bind (gateV y26 true (ret q25_4)) fun y27=>
 bind (gateV y26 true (ret q25_0)) fun y28=>
 bind (gateV y26 true (ret q25_1)) fun y29=>
 bind (gateV y26 true (bop .int .sub y29 (Value.int .i64 1))) fun y30=>
 bind (gateV y26 true (ixa 1 y28 y30)) fun y31=>
 bind (gateV y26 true (ld1 y31)) fun y32=>
 bind (gateV y26 true (ret q25_0)) fun y33=>
 bind (gateV y26 true (ret q25_8)) fun y34=>
 bind (gateV y26 true (ixa 1 y33 y34)) fun y35=>
 bind (gateV y26 true (ld1 y35)) fun y36=>
 bind (gateV y26 true (ZX Γ y27 [y32,y36])) fun y37=>
 bind (gateV y26 true (bop .int .lss y37 (Value.int .i64 0))) fun y38=>
 bind (gateV y26 true (uop .not y38)) fun y39=>
 bind (pick y26 y39 (Value.bool false)) fun y40=>
 cnd y40
 (bind (Γ Jq [q25_0,q25_1,q25_2,q25_8,q25_4]) fun y41=>
 ret (.nrm [q25_0,y41,q25_2,q25_3,q25_4,q25_5,q25_6]))
 (bind (Γ Yg [q25_0,q25_1,q25_2,q25_8,q25_4]) fun y42=>
 bind (Zu y42 0) fun y43=>
 bind (Zu y42 1) fun y44=>
 bind (bop .int .sub y43 q25_1) fun y45=>
 bind (bop .int .sub q25_2 y43) fun y46=>
 bind (bop .int .quo q25_7 (Value.int .i64 8)) fun y47=>
 bind (bop .int .lss y45 y46) fun y48=>
 jn (cnd y48
 (bind (bop .int .geq y45 y47) fun y49=>
 bind (Γ Zw [q25_0,q25_1,y43,q25_3,q25_4]) fun y50=>
 bind (bop .int .add y43 (Value.int .i64 1)) fun y51=>
 ret (.nrm [q25_0,y51,q25_2,q25_3,q25_4,y49,y44]))
 (bind (bop .int .geq y46 y47) fun y52=>
 bind (bop .int .add y43 (Value.int .i64 1)) fun y53=>
 bind (Γ Zw [q25_0,y53,q25_2,q25_3,q25_4]) fun y54=>
 ret (.nrm [q25_0,q25_1,y43,q25_3,q25_4,y52,y44]))) (c7 fun q55_0 q55_1 q55_2 q55_3 q55_4 q55_5 q55_6=>
 ret (.nrm [q55_0,q55_1,q55_2,q55_3,q55_4,q55_5,q55_6])) noX Zt)) noX Zt))) noX Zt) noX Zt))) (c7 fun q60_0 q60_1 q60_2 q60_3 q60_4 q60_5 q60_6=>
 ret (.nrm [q60_0,q60_1,q60_2,q60_3,q60_4,q60_5,q60_6])) noX Zt
noncomputable def Zz (Γ : Zb) (x0 x1 x2 x3 x4 : Value) : M Value:=
 jn (Zd (c7 (Zz.l1 Γ)) [x0,x1,x2,x3,x4,(Value.bool true),(Value.bool true)]) noN noX ret
theorem Yb : RA5 Zw Zz:=ra5 Tryz.func246 (by kernel_rfl) fun _ _ _ _ _ _=>by kernel_rfl
noncomputable def Y9 (Γ : Zb) (x0 : Value) : M Value:=
 cnd (Value.bool false)
 (bind (cvi .u32 x0) fun y1=>
 bind (Γ Zet [y1]) fun y2=>
 ret y2)
 (bind (Γ Q5 [x0]) fun y3=>
 ret y3)
theorem ZeG : RA1 JB Y9:=ra1 Tryz.func247 (by kernel_rfl) fun _ _=>by kernel_rfl
noncomputable def QD.l1 (Γ : Zb) (s0 s1 s7 s8 : Value) : M Out:=
 bind (bop .int .lss s8 s7) fun y2=>
 cnd y2
 (bind (ixa 1 s0 s8) fun y3=>
 bind (ld1 y3) fun y4=>
 bind (ZX Γ s1 [y4]) fun y5=>
 cnd y5
 (ret (.ret s8))
 (bind (bop .int .add s8 (Value.int .i64 1)) fun y6=>
 ret (.nrm [s0,s1,s7,y6])))
 (ret (.ext 0 []))
noncomputable def QD (Γ : Zb) (x0 x1 : Value) : M Value:=
 bind (Zk x0) fun y1=>
 jn (Zd (c4 (QD.l1 Γ)) [x0,x1,y1,(Value.int .i64 0)]) noN (xk 0 (c0 (ret (Value.int .i64 (-1)))) noX) ret
noncomputable def Kg.l1 (Γ : Zb) (s0 s1 s2 s3 s9 s10 : Value) : M Out:=
 bind (bop .int .lss s10 s3) fun y13=>
 cnd y13
 (bind (Γ WM [s0,s1]) fun y14=>
 bind (bop .int .lss y14 (Value.int .i64 0)) fun y15=>
 cnd y15
 (ret (.ext 0 [s0,s9,s10]))
 (bind (bop .int .add y14 s2) fun y16=>
 bind (sls s0 none (some y16)) fun y17=>
 bind (ixa 1 s9 s10) fun y18=>
 bind (st1 y18 y17) fun _=>
 bind (ZV s1) fun y19=>
 bind (bop .int .add y14 y19) fun y20=>
 bind (sls s0 (some y20) none) fun y21=>
 bind (bop .int .add s10 (Value.int .i64 1)) fun y22=>
 ret (.nrm [y21,s1,s2,s3,s9,y22])))
 (ret (.ext 0 [s0,s9,s10]))
noncomputable def Kg (Γ : Zb) (x0 x1 x2 x3 : Value) : M Value:=
 bind (bop .int .eql x3 (Value.int .i64 0)) fun y1=>
 cnd y1
 (ret (Value.slice none 0 0))
 (bind (bop .str .eql x1 (Value.string ⟨#[]⟩)) fun y2=>
 cnd y2
 (bind (Γ Zdq [x0,x3]) fun y3=>
 ret y3)
 (bind (bop .int .lss x3 (Value.int .i64 0)) fun y4=>
 jn (cnd y4
 (bind (Γ Zfw [x0,x1]) fun y5=>
 bind (bop .int .add y5 (Value.int .i64 1)) fun y6=>
 ret (.nrm [x0,x1,x2,y6]))
 (ret (.nrm [x0,x1,x2,x3]))) (c4 fun q7_0 q7_1 q7_2 q7_3=>
 bind (ZV q7_0) fun y8=>
 bind (bop .int .add y8 (Value.int .i64 1)) fun y9=>
 bind (mxi false q7_3 y9) fun y10=>
 bind (mks 1 16 (.string ⟨#[]⟩) y10 y10) fun y11=>
 bind (bop .int .sub y10 (Value.int .i64 1)) fun y12=>
 jn (jn (Zd (c6 (Kg.l1 Γ)) [q7_0,q7_1,q7_2,y12,y11,(Value.int .i64 0)]) noN (xk 0 (c3 fun q24_0 q24_1 q24_2=>
 ret (.nrm [q24_0,q24_1,q24_2])) noX) Zt) (c3 fun q26_0 q26_1 q26_2=>
 bind (ixa 1 q26_1 q26_2) fun y27=>
 bind (st1 y27 q26_0) fun _=>
 bind (bop .int .add q26_2 (Value.int .i64 1)) fun y28=>
 bind (slv 1 q26_1 none (some y28) none) fun y29=>
 ret y29) noX ret) noX ret))
noncomputable def Zgi.l1 (Γ : Zb) (s0 s1 s5 : Value) : M Out:=
 bind (ZV s0) fun y1=>
 bind (bop .int .lss s5 y1) fun y2=>
 cnd y2
 (bind (ixs s0 s5) fun y3=>
 bind (Γ Zf1 [y3,s1]) fun y4=>
 bind (uop .not y4) fun y5=>
 cnd y5
 (ret (.ret (Value.bool false)))
 (bind (bop .int .add s5 (Value.int .i64 1)) fun y6=>
 ret (.nrm [s0,s1,y6])))
 (ret (.ext 0 []))
noncomputable def Zgi (Γ : Zb) (x0 x1 : Value) : M Value:=
 jn (Zd (c3 (Zgi.l1 Γ)) [x0,x1,(Value.int .i64 0)]) noN (xk 0 (c0 (ret (Value.bool true))) noX) ret
noncomputable def Zf8.l1 (Γ : Zb) (s0 s1 s5 : Value) : M Out:=
 bind (ZV s1) fun y1=>
 bind (bop .int .lss s5 y1) fun y2=>
 cnd y2
 (bind (ixs s1 s5) fun y3=>
 bind (bop .int .eql y3 s0) fun y4=>
 cnd y4
 (ret (.ret (Value.bool true)))
 (bind (bop .int .add s5 (Value.int .i64 1)) fun y5=>
 ret (.nrm [s0,s1,y5])))
 (ret (.ext 0 []))
noncomputable def Zf8 (Γ : Zb) (x0 x1 : Value) : M Value:=
 jn (Zd (c3 (Zf8.l1 Γ)) [x0,x1,(Value.int .i64 0)]) noN (xk 0 (c0 (ret (Value.bool false))) noX) ret
noncomputable def YT.l2 (Γ : Zb) (s0 s3 s4 s5 s6 s19 : Value) : M Out:=
 bind (bop .int .lss s19 (Value.int .i64 26)) fun y5=>
 cnd y5
 (bind (ixs s0 s5) fun y6=>
 bind (ixs s3 s19) fun y7=>
 bind (bop .int .eql y6 y7) fun y8=>
 jn (cnd y8
 (bind (bop .int .add s19 (Value.int .i64 1)) fun y9=>
 bind (sls (Value.string ⟨#[97,98,99,100,101,102,103,104,105,106,107,108,109,110,111,112,113,114,115,116,117,118,119,120,121,122]⟩) (some s19) (some y9)) fun y10=>
 ret (.nrm [s0,s3,s4,s5,y10,s19]))
 (ret (.nrm [s0,s3,s4,s5,s6,s19]))) (c6 fun q11_0 q11_1 q11_2 q11_3 q11_4 q11_5=>
 bind (bop .int .add q11_5 (Value.int .i64 1)) fun y12=>
 ret (.nrm [q11_0,q11_1,q11_2,q11_3,q11_4,y12])) noX Zt)
 (ret (.ext 2 [s0,s3,s4,s5,s6]))
noncomputable def YT.l1 (Γ : Zb) (s0 s3 s4 s5 : Value) : M Out:=
 bind (ZV s0) fun y1=>
 bind (bop .int .lss s5 y1) fun y2=>
 cnd y2
 (bind (bop .int .add s5 (Value.int .i64 1)) fun y3=>
 bind (sls s0 (some s5) (some y3)) fun y4=>
 jn (Zd (c6 (YT.l2 Γ)) [s0,s3,s4,s5,y4,(Value.int .i64 0)]) noN (xk 2 (c5 fun q15_0 q15_1 q15_2 q15_3 q15_4=>
 bind (bop .str .add q15_2 q15_4) fun y16=>
 bind (bop .int .add q15_3 (Value.int .i64 1)) fun y17=>
 ret (.nrm [q15_0,q15_1,y16,y17])) noX) Zt)
 (ret (.ext 0 [s4]))
noncomputable def YT (Γ : Zb) (x0 : Value) : M Value:=
 jn (Zd (c4 (YT.l1 Γ)) [x0,(Value.string ⟨#[65,66,67,68,69,70,71,72,73,74,75,76,77,78,79,80,81,82,83,84,85,86,87,88,89,90]⟩),(Value.string ⟨#[]⟩),(Value.int .i64 0)]) noN (xk 0 (c1 fun q20_0=>
 ret q20_0) noX) ret
noncomputable def ZeR.l1 (Γ : Zb) (s1 s7 s8 s9 : Value) : M Out:=
 bind (bop .int .lss s9 s8) fun y2=>
 cnd y2
 (bind (ixa 1 s7 s9) fun y3=>
 bind (ld1 y3) fun y4=>
 bind (bop .str .eql y4 s1) fun y5=>
 cnd y5
 (ret (.ret (Value.bool true)))
 (bind (bop .int .add s9 (Value.int .i64 1)) fun y6=>
 ret (.nrm [s1,s7,s8,y6])))
 (ret (.ext 0 []))
noncomputable def ZeR (Γ : Zb) (x0 x1 : Value) : M Value:=
 bind (Zk x0) fun y1=>
 jn (Zd (c4 (ZeR.l1 Γ)) [x1,x0,y1,(Value.int .i64 0)]) noN (xk 0 (c0 (ret (Value.bool false))) noX) ret
noncomputable def Zj.l2 (Γ : Zb) (s0 s1 s2 s3 s8 s9 : Value) : M Out:=
 bind (bop .int .gtr s9 s1) fun y3=>
 bind (gateV y3 true (ret s3)) fun y4=>
 bind (gateV y3 true (ret s0)) fun y5=>
 bind (gateV y3 true (ret s9)) fun y6=>
 bind (gateV y3 true (ixa 1 y5 y6)) fun y7=>
 bind (gateV y3 true (ld1 y7)) fun y8=>
 bind (gateV y3 true (ret s0)) fun y9=>
 bind (gateV y3 true (ret s9)) fun y10=>
 bind (gateV y3 true (bop .int .sub y10 (Value.int .i64 1))) fun y11=>
 bind (gateV y3 true (ixa 1 y9 y11)) fun y12=>
 bind (gateV y3 true (ld1 y12)) fun y13=>
 bind (gateV y3 true (ZX Γ y4 [y8,y13])) fun y14=>
 bind (gateV y3 true (bop .int .lss y14 (Value.int .i64 0))) fun y15=>
 bind (pick y3 y15 (Value.bool false)) fun y16=>
 cnd y16
 (bind (bop .int .sub s9 (Value.int .i64 1)) fun y17=>
 bind (bop .int .sub s9 (Value.int .i64 1)) fun y18=>
 bind (ixa 1 s0 y18) fun y19=>
 bind (ld1 y19) fun y20=>
 bind (ixa 1 s0 s9) fun y21=>
 bind (ld1 y21) fun y22=>
 bind (ixa 1 s0 s9) fun y23=>
 bind (st1 y23 y20) fun _=>
 bind (ixa 1 s0 y17) fun y24=>
 bind (st1 y24 y22) fun _=>
 bind (bop .int .sub s9 (Value.int .i64 1)) fun y25=>
 ret (.nrm [s0,s1,s2,s3,s8,y25]))
 (ret (.ext 2 [s0,s1,s2,s3,s8]))
noncomputable def Zj.l1 (Γ : Zb) (s0 s1 s2 s3 s8 : Value) : M Out:=
 bind (bop .int .lss s8 s2) fun y2=>
 cnd y2
 (jn (Zd (c6 (Zj.l2 Γ)) [s0,s1,s2,s3,s8,s8]) noN (xk 2 (c5 fun q27_0 q27_1 q27_2 q27_3 q27_4=>
 bind (bop .int .add q27_4 (Value.int .i64 1)) fun y28=>
 ret (.nrm [q27_0,q27_1,q27_2,q27_3,y28])) noX) Zt)
 (ret (.ext 0 []))
noncomputable def Zj (Γ : Zb) (x0 x1 x2 x3 : Value) : M Value:=
 bind (bop .int .add x1 (Value.int .i64 1)) fun y1=>
 jn (Zd (c5 (Zj.l1 Γ)) [x0,x1,x2,x3,y1]) noN (xk 0 (c0 (ret (Value.tuple #[]))) noX) ret
theorem Jf : RA4 Zx Zj:=ra4 Tryz.func259 (by kernel_rfl) fun _ _ _ _ _=>by kernel_rfl
noncomputable def ZM.l1 (Γ : Zb) (s0 s3 s8 s9 s10 s11 : Value) : M Out:=
 bind (bop .int .geq s11 (Value.int .i64 0)) fun y4=>
 cnd y4
 (bind (Γ QC [s0,s11,s10,s8,s3]) fun y5=>
 bind (bop .int .sub s11 (Value.int .i64 1)) fun y6=>
 ret (.nrm [s0,s3,s8,s9,s10,y6]))
 (ret (.ext 0 [s0,s3,s8,s9,s10]))
noncomputable def ZM.l2 (Γ : Zb) (s0 s3 s8 s9 s12 : Value) : M Out:=
 bind (bop .int .geq s12 (Value.int .i64 0)) fun y10=>
 cnd y10
 (bind (bop .int .add s8 s12) fun y11=>
 bind (bop .int .add s8 s12) fun y12=>
 bind (ixa 1 s0 y12) fun y13=>
 bind (ld1 y13) fun y14=>
 bind (ixa 1 s0 s8) fun y15=>
 bind (ld1 y15) fun y16=>
 bind (ixa 1 s0 s8) fun y17=>
 bind (st1 y17 y14) fun _=>
 bind (ixa 1 s0 y11) fun y18=>
 bind (st1 y18 y16) fun _=>
 bind (Γ QC [s0,s9,s12,s8,s3]) fun y19=>
 bind (bop .int .sub s12 (Value.int .i64 1)) fun y20=>
 ret (.nrm [s0,s3,s8,s9,y20]))
 (ret (.ext 2 []))
noncomputable def ZM (Γ : Zb) (x0 x1 x2 x3 : Value) : M Value:=
 bind (bop .int .sub x2 x1) fun y1=>
 bind (bop .int .sub y1 (Value.int .i64 1)) fun y2=>
 bind (bop .int .quo y2 (Value.int .i64 2)) fun y3=>
 jn (Zd (c6 (ZM.l1 Γ)) [x0,x3,x1,(Value.int .i64 0),y1,y3]) noN (xk 0 (c5 fun q8_0 q8_1 q8_2 q8_3 q8_4=>
 bind (bop .int .sub q8_4 (Value.int .i64 1)) fun y9=>
 jn (Zd (c5 (ZM.l2 Γ)) [q8_0,q8_1,q8_2,q8_3,y9]) noN (xk 2 (c0 (ret (Value.tuple #[]))) noX) ret) noX) ret
noncomputable def Qd.l1 (Γ : Zb) (s0 s1 s8 s9 s10 s11 : Value) : M Out:=
 bind (bop .int .quo s8 (Value.int .i64 4)) fun y10=>
 bind (bop .int .mul y10 (Value.int .i64 2)) fun y11=>
 bind (bop .int .add s1 y11) fun y12=>
 bind (bop .int .add y12 (Value.int .i64 1)) fun y13=>
 bind (bop .int .leq s11 y13) fun y14=>
 cnd y14
 (bind (Γ Zam [s9]) fun y15=>
 bind (bop .int .sub s10 (Value.int .u64 1)) fun y16=>
 bind (bop .int .and y15 y16) fun y17=>
 bind (cvi .i64 y17) fun y18=>
 bind (bop .int .geq y18 s8) fun y19=>
 jn (cnd y19
 (bind (bop .int .sub y18 s8) fun y20=>
 ret (.nrm [s0,s1,s8,s9,s10,s11,y20]))
 (ret (.nrm [s0,s1,s8,s9,s10,s11,y18]))) (c7 fun q21_0 q21_1 q21_2 q21_3 q21_4 q21_5 q21_6=>
 bind (bop .int .add q21_1 q21_6) fun y22=>
 bind (bop .int .add q21_1 q21_6) fun y23=>
 bind (ixa 1 q21_0 y23) fun y24=>
 bind (ld1 y24) fun y25=>
 bind (ixa 1 q21_0 q21_5) fun y26=>
 bind (ld1 y26) fun y27=>
 bind (ixa 1 q21_0 q21_5) fun y28=>
 bind (st1 y28 y25) fun _=>
 bind (ixa 1 q21_0 y22) fun y29=>
 bind (st1 y29 y27) fun _=>
 bind (bop .int .add q21_5 (Value.int .i64 1)) fun y30=>
 ret (.nrm [q21_0,q21_1,q21_2,q21_3,q21_4,y30])) noX Zt)
 (ret (.ext 0 []))
noncomputable def Qd (Γ : Zb) (x0 x1 x2 x3 : Value) : M Value:=
 bind (bop .int .sub x2 x1) fun y1=>
 bind (bop .int .geq y1 (Value.int .i64 8)) fun y2=>
 jn (cnd y2
 (bind (cvi .u64 y1) fun y3=>
 bind (alc 1 (.int .u64 0)) fun y4=>
 bind (st1 y4 y3) fun _=>
 bind (Γ Wo [y1]) fun y5=>
 bind (bop .int .quo y1 (Value.int .i64 4)) fun y6=>
 bind (bop .int .mul y6 (Value.int .i64 2)) fun y7=>
 bind (bop .int .add x1 y7) fun y8=>
 bind (bop .int .sub y8 (Value.int .i64 1)) fun y9=>
 jn (Zd (c6 (Qd.l1 Γ)) [x0,x1,y1,y4,y5,y9]) noN (xk 0 (c0 (ret (.nrm []))) noX) Zt)
 (ret (.nrm []))) (c0 (ret (Value.tuple #[]))) noX ret
noncomputable def Qi.l1 (Γ : Zb) (s0 s8 s9 : Value) : M Out:=
 bind (bop .int .lss s8 s9) fun y2=>
 cnd y2
 (bind (ixa 1 s0 s9) fun y3=>
 bind (ld1 y3) fun y4=>
 bind (ixa 1 s0 s8) fun y5=>
 bind (ld1 y5) fun y6=>
 bind (ixa 1 s0 s8) fun y7=>
 bind (st1 y7 y4) fun _=>
 bind (ixa 1 s0 s9) fun y8=>
 bind (st1 y8 y6) fun _=>
 bind (bop .int .add s8 (Value.int .i64 1)) fun y9=>
 bind (bop .int .sub s9 (Value.int .i64 1)) fun y10=>
 ret (.nrm [s0,y9,y10]))
 (ret (.ext 0 []))
noncomputable def Qi (Γ : Zb) (x0 x1 x2 x3 : Value) : M Value:=
 bind (bop .int .sub x2 (Value.int .i64 1)) fun y1=>
 jn (Zd (c3 (Qi.l1 Γ)) [x0,x1,y1]) noN (xk 0 (c0 (ret (Value.tuple #[]))) noX) ret
noncomputable def Zf.l2 (Γ : Zb) (s0 s1 s2 s3 s9 s10 : Value) : M Out:=
 bind (bop .int .lss s9 s2) fun y3=>
 bind (gateV y3 true (ret s3)) fun y4=>
 bind (gateV y3 true (ret s0)) fun y5=>
 bind (gateV y3 true (ret s9)) fun y6=>
 bind (gateV y3 true (ixa 1 y5 y6)) fun y7=>
 bind (gateV y3 true (ld1 y7)) fun y8=>
 bind (gateV y3 true (ret s0)) fun y9=>
 bind (gateV y3 true (ret s9)) fun y10=>
 bind (gateV y3 true (bop .int .sub y10 (Value.int .i64 1))) fun y11=>
 bind (gateV y3 true (ixa 1 y9 y11)) fun y12=>
 bind (gateV y3 true (ld1 y12)) fun y13=>
 bind (gateV y3 true (ZX Γ y4 [y8,y13])) fun y14=>
 bind (gateV y3 true (bop .int .lss y14 (Value.int .i64 0))) fun y15=>
 bind (gateV y3 true (uop .not y15)) fun y16=>
 bind (pick y3 y16 (Value.bool false)) fun y17=>
 cnd y17
 (bind (bop .int .add s9 (Value.int .i64 1)) fun y18=>
 ret (.nrm [s0,s1,s2,s3,y18,s10]))
 (ret (.ext 2 [s0,s1,s2,s3,s9,s10]))
noncomputable def Zf.l3 (Γ : Zb) (s0 s1 s2 s3 s9 s10 s11 : Value) : M Out:=
 bind (bop .int .geq s11 (Value.int .i64 1)) fun y35=>
 cnd y35
 (bind (ixa 1 s0 s11) fun y36=>
 bind (ld1 y36) fun y37=>
 bind (bop .int .sub s11 (Value.int .i64 1)) fun y38=>
 bind (ixa 1 s0 y38) fun y39=>
 bind (ld1 y39) fun y40=>
 bind (ZX Γ s3 [y37,y40]) fun y41=>
 bind (bop .int .lss y41 (Value.int .i64 0)) fun y42=>
 bind (uop .not y42) fun y43=>
 cnd y43
 (ret (.ext 4 [s0,s1,s2,s3,s9,s10]))
 (bind (bop .int .sub s11 (Value.int .i64 1)) fun y44=>
 bind (bop .int .sub s11 (Value.int .i64 1)) fun y45=>
 bind (ixa 1 s0 y45) fun y46=>
 bind (ld1 y46) fun y47=>
 bind (ixa 1 s0 s11) fun y48=>
 bind (ld1 y48) fun y49=>
 bind (ixa 1 s0 s11) fun y50=>
 bind (st1 y50 y47) fun _=>
 bind (ixa 1 s0 y44) fun y51=>
 bind (st1 y51 y49) fun _=>
 bind (bop .int .sub s11 (Value.int .i64 1)) fun y52=>
 ret (.nrm [s0,s1,s2,s3,s9,s10,y52])))
 (ret (.ext 4 [s0,s1,s2,s3,s9,s10]))
noncomputable def Zf.l4 (Γ : Zb) (s0 s1 s2 s3 s9 s10 s12 : Value) : M Out:=
 bind (bop .int .lss s12 s2) fun y62=>
 cnd y62
 (bind (ixa 1 s0 s12) fun y63=>
 bind (ld1 y63) fun y64=>
 bind (bop .int .sub s12 (Value.int .i64 1)) fun y65=>
 bind (ixa 1 s0 y65) fun y66=>
 bind (ld1 y66) fun y67=>
 bind (ZX Γ s3 [y64,y67]) fun y68=>
 bind (bop .int .lss y68 (Value.int .i64 0)) fun y69=>
 bind (uop .not y69) fun y70=>
 cnd y70
 (ret (.ext 6 [s0,s1,s2,s3,s9,s10]))
 (bind (bop .int .sub s12 (Value.int .i64 1)) fun y71=>
 bind (bop .int .sub s12 (Value.int .i64 1)) fun y72=>
 bind (ixa 1 s0 y72) fun y73=>
 bind (ld1 y73) fun y74=>
 bind (ixa 1 s0 s12) fun y75=>
 bind (ld1 y75) fun y76=>
 bind (ixa 1 s0 s12) fun y77=>
 bind (st1 y77 y74) fun _=>
 bind (ixa 1 s0 y71) fun y78=>
 bind (st1 y78 y76) fun _=>
 bind (bop .int .add s12 (Value.int .i64 1)) fun y79=>
 ret (.nrm [s0,s1,s2,s3,s9,s10,y79])))
 (ret (.ext 6 [s0,s1,s2,s3,s9,s10]))
noncomputable def Zf.l1 (Γ : Zb) (s0 s1 s2 s3 s9 s10 : Value) : M Out:=
 bind (bop .int .lss s10 (Value.int .i64 5)) fun y2=>
 cnd y2
 (jn (Zd (c6 (Zf.l2 Γ)) [s0,s1,s2,s3,s9,s10]) noN (xk 2 (c6 fun q20_0 q20_1 q20_2 q20_3 q20_4 q20_5=>
 bind (bop .int .eql q20_4 q20_2) fun y21=>
 cnd y21
 (ret (.ret (Value.bool true)))
 (bind (bop .int .sub q20_2 q20_1) fun y22=>
 bind (bop .int .lss y22 (Value.int .i64 50)) fun y23=>
 cnd y23
 (ret (.ret (Value.bool false)))
 (bind (bop .int .sub q20_4 (Value.int .i64 1)) fun y24=>
 bind (bop .int .sub q20_4 (Value.int .i64 1)) fun y25=>
 bind (ixa 1 q20_0 y25) fun y26=>
 bind (ld1 y26) fun y27=>
 bind (ixa 1 q20_0 q20_4) fun y28=>
 bind (ld1 y28) fun y29=>
 bind (ixa 1 q20_0 q20_4) fun y30=>
 bind (st1 y30 y27) fun _=>
 bind (ixa 1 q20_0 y24) fun y31=>
 bind (st1 y31 y29) fun _=>
 bind (bop .int .sub q20_4 q20_1) fun y32=>
 bind (bop .int .geq y32 (Value.int .i64 2)) fun y33=>
 jn (cnd y33
 (bind (bop .int .sub q20_4 (Value.int .i64 1)) fun y34=>
 jn (jn (Zd (c7 (Zf.l3 Γ)) [q20_0,q20_1,q20_2,q20_3,q20_4,q20_5,y34]) noN (xk 4 (c6 fun q54_0 q54_1 q54_2 q54_3 q54_4 q54_5=>
 ret (.nrm [q54_0,q54_1,q54_2,q54_3,q54_4,q54_5])) noX) Zt) (c6 fun q56_0 q56_1 q56_2 q56_3 q56_4 q56_5=>
 ret (.nrm [q56_0,q56_1,q56_2,q56_3,q56_4,q56_5])) noX Zt)
 (ret (.nrm [q20_0,q20_1,q20_2,q20_3,q20_4,q20_5]))) (c6 fun q58_0 q58_1 q58_2 q58_3 q58_4 q58_5=>
 bind (bop .int .sub q58_2 q58_4) fun y59=>
 bind (bop .int .geq y59 (Value.int .i64 2)) fun y60=>
 jn (cnd y60
 (bind (bop .int .add q58_4 (Value.int .i64 1)) fun y61=>
 jn (jn (Zd (c7 (Zf.l4 Γ)) [q58_0,q58_1,q58_2,q58_3,q58_4,q58_5,y61]) noN (xk 6 (c6 fun q81_0 q81_1 q81_2 q81_3 q81_4 q81_5=>
 ret (.nrm [q81_0,q81_1,q81_2,q81_3,q81_4,q81_5])) noX) Zt) (c6 fun q83_0 q83_1 q83_2 q83_3 q83_4 q83_5=>
 ret (.nrm [q83_0,q83_1,q83_2,q83_3,q83_4,q83_5])) noX Zt)
 (ret (.nrm [q58_0,q58_1,q58_2,q58_3,q58_4,q58_5]))) (c6 fun q85_0 q85_1 q85_2 q85_3 q85_4 q85_5=>
 bind (bop .int .add q85_5 (Value.int .i64 1)) fun y86=>
 ret (.nrm [q85_0,q85_1,q85_2,q85_3,q85_4,y86])) noX Zt) noX Zt))) noX) Zt)
 (ret (.ext 0 []))
noncomputable def Zf (Γ : Zb) (x0 x1 x2 x3 : Value) : M Value:=
 bind (bop .int .add x1 (Value.int .i64 1)) fun y1=>
 jn (Zd (c6 (Zf.l1 Γ)) [x0,x1,x2,x3,y1,(Value.int .i64 0)]) noN (xk 0 (c0 (ret (Value.bool false))) noX) ret
noncomputable def Zs.l2 (Γ : Zb) (s0 s1 s4 s11 s12 : Value) : M Out:=
 bind (bop .int .leq s11 s12) fun y9=>
 bind (gateV y9 true (ret s4)) fun y10=>
 bind (gateV y9 true (ret s0)) fun y11=>
 bind (gateV y9 true (ret s1)) fun y12=>
 bind (gateV y9 true (ixa 1 y11 y12)) fun y13=>
 bind (gateV y9 true (ld1 y13)) fun y14=>
 bind (gateV y9 true (ret s0)) fun y15=>
 bind (gateV y9 true (ret s11)) fun y16=>
 bind (gateV y9 true (ixa 1 y15 y16)) fun y17=>
 bind (gateV y9 true (ld1 y17)) fun y18=>
 bind (gateV y9 true (ZX Γ y10 [y14,y18])) fun y19=>
 bind (gateV y9 true (bop .int .lss y19 (Value.int .i64 0))) fun y20=>
 bind (gateV y9 true (uop .not y20)) fun y21=>
 bind (pick y9 y21 (Value.bool false)) fun y22=>
 cnd y22
 (bind (bop .int .add s11 (Value.int .i64 1)) fun y23=>
 ret (.nrm [s0,s1,s4,y23,s12]))
 (ret (.ext 2 [s0,s1,s4,s11,s12]))
noncomputable def Zs.l3 (Γ : Zb) (s0 s1 s4 s11 s12 : Value) : M Out:=
 bind (bop .int .leq s11 s12) fun y26=>
 bind (gateV y26 true (ret s4)) fun y27=>
 bind (gateV y26 true (ret s0)) fun y28=>
 bind (gateV y26 true (ret s1)) fun y29=>
 bind (gateV y26 true (ixa 1 y28 y29)) fun y30=>
 bind (gateV y26 true (ld1 y30)) fun y31=>
 bind (gateV y26 true (ret s0)) fun y32=>
 bind (gateV y26 true (ret s12)) fun y33=>
 bind (gateV y26 true (ixa 1 y32 y33)) fun y34=>
 bind (gateV y26 true (ld1 y34)) fun y35=>
 bind (gateV y26 true (ZX Γ y27 [y31,y35])) fun y36=>
 bind (gateV y26 true (bop .int .lss y36 (Value.int .i64 0))) fun y37=>
 bind (pick y26 y37 (Value.bool false)) fun y38=>
 cnd y38
 (bind (bop .int .sub s12 (Value.int .i64 1)) fun y39=>
 ret (.nrm [s0,s1,s4,s11,y39]))
 (ret (.ext 4 [s0,s1,s4,s11,s12]))
noncomputable def Zs.l1 (Γ : Zb) (s0 s1 s4 s11 s12 : Value) : M Out:=
 jn (Zd (c5 (Zs.l2 Γ)) [s0,s1,s4,s11,s12]) noN (xk 2 (c5 fun q25_0 q25_1 q25_2 q25_3 q25_4=>
 jn (Zd (c5 (Zs.l3 Γ)) [q25_0,q25_1,q25_2,q25_3,q25_4]) noN (xk 4 (c5 fun q41_0 q41_1 q41_2 q41_3 q41_4=>
 bind (bop .int .gtr q41_3 q41_4) fun y42=>
 cnd y42
 (ret (.ext 0 [q41_3]))
 (bind (ixa 1 q41_0 q41_4) fun y43=>
 bind (ld1 y43) fun y44=>
 bind (ixa 1 q41_0 q41_3) fun y45=>
 bind (ld1 y45) fun y46=>
 bind (ixa 1 q41_0 q41_3) fun y47=>
 bind (st1 y47 y44) fun _=>
 bind (ixa 1 q41_0 q41_4) fun y48=>
 bind (st1 y48 y46) fun _=>
 bind (bop .int .add q41_3 (Value.int .i64 1)) fun y49=>
 bind (bop .int .sub q41_4 (Value.int .i64 1)) fun y50=>
 ret (.nrm [q41_0,q41_1,q41_2,y49,y50]))) noX) Zt) noX) Zt
noncomputable def Zs (Γ : Zb) (x0 x1 x2 x3 x4 : Value) : M Value:=
 bind (ixa 1 x0 x3) fun y1=>
 bind (ld1 y1) fun y2=>
 bind (ixa 1 x0 x1) fun y3=>
 bind (ld1 y3) fun y4=>
 bind (ixa 1 x0 x1) fun y5=>
 bind (st1 y5 y2) fun _=>
 bind (ixa 1 x0 x3) fun y6=>
 bind (st1 y6 y4) fun _=>
 bind (bop .int .add x1 (Value.int .i64 1)) fun y7=>
 bind (bop .int .sub x2 (Value.int .i64 1)) fun y8=>
 jn (Zd (c5 (Zs.l1 Γ)) [x0,x1,x4,y7,y8]) noN (xk 0 (c1 fun q54_0=>
 ret q54_0) noX) ret
noncomputable def Zh.l1 (Γ : Zb) (s0 s1 s4 s12 s13 : Value) : M Out:=
 bind (bop .int .leq s12 s13) fun y9=>
 bind (gateV y9 true (ret s4)) fun y10=>
 bind (gateV y9 true (ret s0)) fun y11=>
 bind (gateV y9 true (ret s12)) fun y12=>
 bind (gateV y9 true (ixa 1 y11 y12)) fun y13=>
 bind (gateV y9 true (ld1 y13)) fun y14=>
 bind (gateV y9 true (ret s0)) fun y15=>
 bind (gateV y9 true (ret s1)) fun y16=>
 bind (gateV y9 true (ixa 1 y15 y16)) fun y17=>
 bind (gateV y9 true (ld1 y17)) fun y18=>
 bind (gateV y9 true (ZX Γ y10 [y14,y18])) fun y19=>
 bind (gateV y9 true (bop .int .lss y19 (Value.int .i64 0))) fun y20=>
 bind (pick y9 y20 (Value.bool false)) fun y21=>
 cnd y21
 (bind (bop .int .add s12 (Value.int .i64 1)) fun y22=>
 ret (.nrm [s0,s1,s4,y22,s13]))
 (ret (.ext 0 [s0,s1,s4,s12,s13]))
noncomputable def Zh.l2 (Γ : Zb) (s0 s1 s4 s12 s13 : Value) : M Out:=
 bind (bop .int .leq s12 s13) fun y25=>
 bind (gateV y25 true (ret s4)) fun y26=>
 bind (gateV y25 true (ret s0)) fun y27=>
 bind (gateV y25 true (ret s13)) fun y28=>
 bind (gateV y25 true (ixa 1 y27 y28)) fun y29=>
 bind (gateV y25 true (ld1 y29)) fun y30=>
 bind (gateV y25 true (ret s0)) fun y31=>
 bind (gateV y25 true (ret s1)) fun y32=>
 bind (gateV y25 true (ixa 1 y31 y32)) fun y33=>
 bind (gateV y25 true (ld1 y33)) fun y34=>
 bind (gateV y25 true (ZX Γ y26 [y30,y34])) fun y35=>
 bind (gateV y25 true (bop .int .lss y35 (Value.int .i64 0))) fun y36=>
 bind (gateV y25 true (uop .not y36)) fun y37=>
 bind (pick y25 y37 (Value.bool false)) fun y38=>
 cnd y38
 (bind (bop .int .sub s13 (Value.int .i64 1)) fun y39=>
 ret (.nrm [s0,s1,s4,s12,y39]))
 (ret (.ext 2 [s0,s1,s4,s12,s13]))
noncomputable def Zh.l4 (Γ : Zb) (s0 s1 s4 s12 s13 : Value) : M Out:=
 bind (bop .int .leq s12 s13) fun y57=>
 bind (gateV y57 true (ret s4)) fun y58=>
 bind (gateV y57 true (ret s0)) fun y59=>
 bind (gateV y57 true (ret s12)) fun y60=>
 bind (gateV y57 true (ixa 1 y59 y60)) fun y61=>
 bind (gateV y57 true (ld1 y61)) fun y62=>
 bind (gateV y57 true (ret s0)) fun y63=>
 bind (gateV y57 true (ret s1)) fun y64=>
 bind (gateV y57 true (ixa 1 y63 y64)) fun y65=>
 bind (gateV y57 true (ld1 y65)) fun y66=>
 bind (gateV y57 true (ZX Γ y58 [y62,y66])) fun y67=>
 bind (gateV y57 true (bop .int .lss y67 (Value.int .i64 0))) fun y68=>
 bind (pick y57 y68 (Value.bool false)) fun y69=>
 cnd y69
 (bind (bop .int .add s12 (Value.int .i64 1)) fun y70=>
 ret (.nrm [s0,s1,s4,y70,s13]))
 (ret (.ext 6 [s0,s1,s4,s12,s13]))
noncomputable def Zh.l5 (Γ : Zb) (s0 s1 s4 s12 s13 : Value) : M Out:=
 bind (bop .int .leq s12 s13) fun y73=>
 bind (gateV y73 true (ret s4)) fun y74=>
 bind (gateV y73 true (ret s0)) fun y75=>
 bind (gateV y73 true (ret s13)) fun y76=>
 bind (gateV y73 true (ixa 1 y75 y76)) fun y77=>
 bind (gateV y73 true (ld1 y77)) fun y78=>
 bind (gateV y73 true (ret s0)) fun y79=>
 bind (gateV y73 true (ret s1)) fun y80=>
 bind (gateV y73 true (ixa 1 y79 y80)) fun y81=>
 bind (gateV y73 true (ld1 y81)) fun y82=>
 bind (gateV y73 true (ZX Γ y74 [y78,y82])) fun y83=>
 bind (gateV y73 true (bop .int .lss y83 (Value.int .i64 0))) fun y84=>
 bind (gateV y73 true (uop .not y84)) fun y85=>
 bind (pick y73 y85 (Value.bool false)) fun y86=>
 cnd y86
 (bind (bop .int .sub s13 (Value.int .i64 1)) fun y87=>
 ret (.nrm [s0,s1,s4,s12,y87]))
 (ret (.ext 8 [s0,s1,s4,s12,s13]))
noncomputable def Zh.l3 (Γ : Zb) (s0 s1 s4 s12 s13 : Value) : M Out:=
 jn (Zd (c5 (Zh.l4 Γ)) [s0,s1,s4,s12,s13]) noN (xk 6 (c5 fun q72_0 q72_1 q72_2 q72_3 q72_4=>
 jn (Zd (c5 (Zh.l5 Γ)) [q72_0,q72_1,q72_2,q72_3,q72_4]) noN (xk 8 (c5 fun q89_0 q89_1 q89_2 q89_3 q89_4=>
 bind (bop .int .gtr q89_3 q89_4) fun y90=>
 cnd y90
 (ret (.ext 4 [q89_0,q89_1,q89_4]))
 (bind (ixa 1 q89_0 q89_4) fun y91=>
 bind (ld1 y91) fun y92=>
 bind (ixa 1 q89_0 q89_3) fun y93=>
 bind (ld1 y93) fun y94=>
 bind (ixa 1 q89_0 q89_3) fun y95=>
 bind (st1 y95 y92) fun _=>
 bind (ixa 1 q89_0 q89_4) fun y96=>
 bind (st1 y96 y94) fun _=>
 bind (bop .int .add q89_3 (Value.int .i64 1)) fun y97=>
 bind (bop .int .sub q89_4 (Value.int .i64 1)) fun y98=>
 ret (.nrm [q89_0,q89_1,q89_2,y97,y98]))) noX) Zt) noX) Zt
noncomputable def Zh (Γ : Zb) (x0 x1 x2 x3 x4 : Value) : M Value:=
 bind (ixa 1 x0 x3) fun y1=>
 bind (ld1 y1) fun y2=>
 bind (ixa 1 x0 x1) fun y3=>
 bind (ld1 y3) fun y4=>
 bind (ixa 1 x0 x1) fun y5=>
 bind (st1 y5 y2) fun _=>
 bind (ixa 1 x0 x3) fun y6=>
 bind (st1 y6 y4) fun _=>
 bind (bop .int .add x1 (Value.int .i64 1)) fun y7=>
 bind (bop .int .sub x2 (Value.int .i64 1)) fun y8=>
 jn (Zd (c5 (Zh.l1 Γ)) [x0,x1,x4,y7,y8]) noN (xk 0 (c5 fun q24_0 q24_1 q24_2 q24_3 q24_4=>
 jn (Zd (c5 (Zh.l2 Γ)) [q24_0,q24_1,q24_2,q24_3,q24_4]) noN (xk 2 (c5 fun q41_0 q41_1 q41_2 q41_3 q41_4=>
 bind (bop .int .gtr q41_3 q41_4) fun y42=>
 cnd y42
 (bind (ixa 1 q41_0 q41_1) fun y43=>
 bind (ld1 y43) fun y44=>
 bind (ixa 1 q41_0 q41_4) fun y45=>
 bind (ld1 y45) fun y46=>
 bind (ixa 1 q41_0 q41_4) fun y47=>
 bind (st1 y47 y44) fun _=>
 bind (ixa 1 q41_0 q41_1) fun y48=>
 bind (st1 y48 y46) fun _=>
 ret (Value.tuple #[q41_4,(Value.bool true)]))
 (bind (ixa 1 q41_0 q41_4) fun y49=>
 bind (ld1 y49) fun y50=>
 bind (ixa 1 q41_0 q41_3) fun y51=>
 bind (ld1 y51) fun y52=>
 bind (ixa 1 q41_0 q41_3) fun y53=>
 bind (st1 y53 y50) fun _=>
 bind (ixa 1 q41_0 q41_4) fun y54=>
 bind (st1 y54 y52) fun _=>
 bind (bop .int .add q41_3 (Value.int .i64 1)) fun y55=>
 bind (bop .int .sub q41_4 (Value.int .i64 1)) fun y56=>
 jn (Zd (c5 (Zh.l3 Γ)) [q41_0,q41_1,q41_2,y55,y56]) noN (xk 4 (c3 fun q102_0 q102_1 q102_2=>
 bind (ixa 1 q102_0 q102_1) fun y103=>
 bind (ld1 y103) fun y104=>
 bind (ixa 1 q102_0 q102_2) fun y105=>
 bind (ld1 y105) fun y106=>
 bind (ixa 1 q102_0 q102_2) fun y107=>
 bind (st1 y107 y104) fun _=>
 bind (ixa 1 q102_0 q102_1) fun y108=>
 bind (st1 y108 y106) fun _=>
 ret (Value.tuple #[q102_2,(Value.bool false)])) noX) ret)) noX) ret) noX) ret
noncomputable def J5 (Γ : Zb) (x0 : Value) : M Value:=
 bind (bop .int .geq x0 (Value.int .u64 4294967296)) fun y1=>
 jn (cnd y1
 (bind (bop .int .shr x0 (Value.int .u64 32)) fun y2=>
 ret (.nrm [y2,(Value.int .i64 32)]))
 (ret (.nrm [x0,(Value.int .i64 0)]))) (c2 fun q3_0 q3_1=>
 bind (bop .int .geq q3_0 (Value.int .u64 65536)) fun y4=>
 jn (cnd y4
 (bind (bop .int .shr q3_0 (Value.int .u64 16)) fun y5=>
 bind (bop .int .add q3_1 (Value.int .i64 16)) fun y6=>
 ret (.nrm [y5,y6]))
 (ret (.nrm [q3_0,q3_1]))) (c2 fun q7_0 q7_1=>
 bind (bop .int .geq q7_0 (Value.int .u64 256)) fun y8=>
 jn (cnd y8
 (bind (bop .int .shr q7_0 (Value.int .u64 8)) fun y9=>
 bind (bop .int .add q7_1 (Value.int .i64 8)) fun y10=>
 ret (.nrm [y9,y10]))
 (ret (.nrm [q7_0,q7_1]))) (c2 fun q11_0 q11_1=>
 bind (cvi .u8 q11_0) fun y12=>
 bind (ixs (Value.string ⟨#[0,1,2,2,3,3,3,3,4,4,4,4,4,4,4,4,5,5,5,5,5,5,5,5,5,5,5,5,5,5,5,5,6,6,6,6,6,6,6,6,6,6,6,6,6,6,6,6,6,6,6,6,6,6,6,6,6,6,6,6,6,6,6,6,7,7,7,7,7,7,7,7,7,7,7,7,7,7,7,7,7,7,7,7,7,7,7,7,7,7,7,7,7,7,7,7,7,7,7,7,7,7,7,7,7,7,7,7,7,7,7,7,7,7,7,7,7,7,7,7,7,7,7,7,7,7,7,7,8,8,8,8,8,8,8,8,8,8,8,8,8,8,8,8,8,8,8,8,8,8,8,8,8,8,8,8,8,8,8,8,8,8,8,8,8,8,8,8,8,8,8,8,8,8,8,8,8,8,8,8,8,8,8,8,8,8,8,8,8,8,8,8,8,8,8,8,8,8,8,8,8,8,8,8,8,8,8,8,8,8,8,8,8,8,8,8,8,8,8,8,8,8,8,8,8,8,8,8,8,8,8,8,8,8,8,8,8,8,8,8,8,8,8,8,8,8,8,8,8,8,8,8,8,8,8,8]⟩) y12) fun y13=>
 bind (cvi .i64 y13) fun y14=>
 bind (bop .int .add q11_1 y14) fun y15=>
 ret y15) noX ret) noX ret) noX ret
theorem Zcw : RA1 Q5 J5:=ra1 Tryz.func268 (by kernel_rfl) fun _ _=>by kernel_rfl
noncomputable def QV.l1 (Γ : Zb) (s0 s1 s5 s6 s7 s8 s9 s10 : Value) : M Out:=
 bind (bop .int .lss s8 s9) fun y23=>
 cnd y23
 (bind (ixs s0 s8) fun y24=>
 bind (bop .int .neq y24 s6) fun y25=>
 jn (cnd y25
 (bind (bop .int .add s8 (Value.int .i64 1)) fun y26=>
 bind (sls s0 (some y26) (some s9)) fun y27=>
 bind (Γ Qs [y27,s6]) fun y28=>
 bind (bop .int .lss y28 (Value.int .i64 0)) fun y29=>
 cnd y29
 (ret (.ret (Value.int .i64 (-1))))
 (bind (bop .int .add y28 (Value.int .i64 1)) fun y30=>
 bind (bop .int .add s8 y30) fun y31=>
 ret (.nrm [s0,s1,s5,s6,s7,y31,s9,s10])))
 (ret (.nrm [s0,s1,s5,s6,s7,s8,s9,s10]))) (c8 fun q32_0 q32_1 q32_2 q32_3 q32_4 q32_5 q32_6 q32_7=>
 bind (bop .int .add q32_5 (Value.int .i64 1)) fun y33=>
 bind (ixs q32_0 y33) fun y34=>
 bind (bop .int .eql y34 q32_4) fun y35=>
 bind (gate y35 true 8 (bind (bop .int .add q32_5 q32_2) fun y36=>
 bind (sls q32_0 (some q32_5) (some y36)) fun y37=>
 bind (bop .str .eql y37 q32_1) fun y38=>
 ret [q32_0,q32_5,q32_5,q32_2,y36,y37,q32_1,y38])) (c8 fun _ _ _ _ _ _ _ q39_7=>
 bind (pick y35 q39_7 (Value.bool false)) fun y40=>
 cnd y40
 (ret (.ret q32_5))
 (bind (bop .int .add q32_5 (Value.int .i64 1)) fun y41=>
 bind (bop .int .add q32_7 (Value.int .i64 1)) fun y42=>
 bind (ld1 (Value.pointer (some ⟨1,0,none⟩))) fun y43=>
 bind (bop .int .leq q32_2 y43) fun y44=>
 bind (gate y44 true 4 (bind (Γ K1 [y41]) fun y45=>
 bind (bop .int .gtr y42 y45) fun y46=>
 ret [y42,y41,y45,y46])) (c4 fun _ _ _ q47_3=>
 bind (pick y44 q47_3 (Value.bool false)) fun y48=>
 cnd y48
 (bind (sls q32_0 (some y41) none) fun y49=>
 bind (Γ QJ [y49,q32_1]) fun y50=>
 bind (bop .int .geq y50 (Value.int .i64 0)) fun y51=>
 cnd y51
 (bind (bop .int .add y50 y41) fun y52=>
 ret (.ret y52))
 (ret (.ret (Value.int .i64 (-1)))))
 (bind (ld1 (Value.pointer (some ⟨1,0,none⟩))) fun y53=>
 bind (bop .int .gtr q32_2 y53) fun y54=>
 bind (gate y54 true 5 (bind (bop .int .shr y41 (Value.int .u64 4)) fun y55=>
 bind (bop .int .add (Value.int .i64 4) y55) fun y56=>
 bind (bop .int .geq y42 y56) fun y57=>
 ret [y42,y41,y55,y56,y57])) (c5 fun _ _ _ _ q58_4=>
 bind (pick y54 q58_4 (Value.bool false)) fun y59=>
 bind (gate y59 true 3 (bind (bop .int .lss y41 q32_6) fun y60=>
 ret [y41,q32_6,y60])) (c3 fun _ _ q61_2=>
 bind (pick y59 q61_2 (Value.bool false)) fun y62=>
 cnd y62
 (bind (sls q32_0 (some y41) none) fun y63=>
 bind (Γ Q7 [y63,q32_1]) fun y64=>
 bind (bop .int .lss y64 (Value.int .i64 0)) fun y65=>
 cnd y65
 (ret (.ret (Value.int .i64 (-1))))
 (bind (bop .int .add y41 y64) fun y66=>
 ret (.ret y66)))
 (ret (.nrm [q32_0,q32_1,q32_2,q32_3,q32_4,y41,q32_6,y42]))))))))) noX Zt)
 (ret (.ext 1 []))
noncomputable def QV (Γ : Zb) (x0 x1 : Value) : M Value:=
 bind (ZV x1) fun y1=>
 bind (bop .int .eql y1 (Value.int .i64 0)) fun y2=>
 bind (gate y2 false 3 (bind (bop .str .eql x1 x0) fun y3=>
 ret [x1,x0,y3])) (c3 fun _ _ q4_2=>
 bind (pick y2 (Value.bool true) q4_2) fun y5=>
 cnd y5
 (ret (Value.int .i64 0))
 (bind (bop .int .eql y1 (Value.int .i64 1)) fun y6=>
 cnd y6
 (bind (ixs x1 (Value.int .i64 0)) fun y7=>
 bind (Γ Qs [x0,y7]) fun y8=>
 ret y8)
 (bind (ZV x0) fun y9=>
 bind (bop .int .geq y1 y9) fun y10=>
 cnd y10
 (ret (Value.int .i64 (-1)))
 (bind (ld1 (Value.pointer (some ⟨1,0,none⟩))) fun y11=>
 bind (bop .int .leq y1 y11) fun y12=>
 bind (gate y12 true 3 (bind (ZV x0) fun y13=>
 bind (bop .int .leq y13 (Value.int .i64 64)) fun y14=>
 ret [x0,y13,y14])) (c3 fun _ _ q15_2=>
 bind (pick y12 q15_2 (Value.bool false)) fun y16=>
 cnd y16
 (bind (Γ QJ [x0,x1]) fun y17=>
 ret y17)
 (bind (ixs x1 (Value.int .i64 0)) fun y18=>
 bind (ixs x1 (Value.int .i64 1)) fun y19=>
 bind (ZV x0) fun y20=>
 bind (bop .int .sub y20 y1) fun y21=>
 bind (bop .int .add y21 (Value.int .i64 1)) fun y22=>
 jn (Zd (c8 (QV.l1 Γ)) [x0,x1,y1,y18,y19,(Value.int .i64 0),y22,(Value.int .i64 0)]) noN (xk 1 (c0 (ret (Value.int .i64 (-1)))) noX) ret))))))
noncomputable def KD.l1 (Γ : Zb) (s0 s1 s6 s7 : Value) : M Out:=
 bind (bop .int .sub s1 (Value.int .i64 1)) fun y8=>
 bind (bop .int .lss s7 y8) fun y9=>
 cnd y9
 (bind (Γ J0 [s0]) fun y10=>
 bind (Zu y10 0) fun y11=>
 bind (Zu y10 1) fun y12=>
 bind (sls s0 none (some y12)) fun y13=>
 bind (ixa 1 s6 s7) fun y14=>
 bind (st1 y14 y13) fun _=>
 bind (sls s0 (some y12) none) fun y15=>
 bind (bop .int .add s7 (Value.int .i64 1)) fun y16=>
 ret (.nrm [y15,s1,s6,y16]))
 (ret (.ext 0 [s0,s1,s6]))
noncomputable def KD (Γ : Zb) (x0 x1 : Value) : M Value:=
 bind (Γ Qq [x0]) fun y1=>
 bind (bop .int .lss x1 (Value.int .i64 0)) fun y2=>
 bind (gate y2 false 3 (bind (bop .int .gtr x1 y1) fun y3=>
 ret [x1,y1,y3])) (c3 fun _ _ q4_2=>
 bind (pick y2 (Value.bool true) q4_2) fun y5=>
 jn (cnd y5
 (ret (.nrm [x0,y1]))
 (ret (.nrm [x0,x1]))) (c2 fun q6_0 q6_1=>
 bind (mks 1 16 (.string ⟨#[]⟩) q6_1 q6_1) fun y7=>
 jn (Zd (c4 (KD.l1 Γ)) [q6_0,q6_1,y7,(Value.int .i64 0)]) noN (xk 0 (c3 fun q18_0 q18_1 q18_2=>
 bind (bop .int .gtr q18_1 (Value.int .i64 0)) fun y19=>
 jn (cnd y19
 (bind (bop .int .sub q18_1 (Value.int .i64 1)) fun y20=>
 bind (ixa 1 q18_2 y20) fun y21=>
 bind (st1 y21 q18_0) fun _=>
 ret (.nrm [q18_2]))
 (ret (.nrm [q18_2]))) (c1 fun q22_0=>
 ret q22_0) noX ret) noX) ret) noX ret)
noncomputable def WK.l1 (Γ : Zb) (s0 s1 s5 : Value) : M Out:=
 bind (Γ WM [s0,s1]) fun y9=>
 bind (bop .int .eql y9 (Value.int .i64 (-1))) fun y10=>
 cnd y10
 (ret (.ret s5))
 (bind (bop .int .add s5 (Value.int .i64 1)) fun y11=>
 bind (ZV s1) fun y12=>
 bind (bop .int .add y9 y12) fun y13=>
 bind (sls s0 (some y13) none) fun y14=>
 ret (.nrm [y14,s1,y11]))
noncomputable def WK (Γ : Zb) (x0 x1 : Value) : M Value:=
 bind (ZV x1) fun y1=>
 bind (bop .int .eql y1 (Value.int .i64 0)) fun y2=>
 cnd y2
 (bind (Γ Qq [x0]) fun y3=>
 bind (bop .int .add y3 (Value.int .i64 1)) fun y4=>
 ret y4)
 (bind (ZV x1) fun y5=>
 bind (bop .int .eql y5 (Value.int .i64 1)) fun y6=>
 cnd y6
 (bind (ixs x1 (Value.int .i64 0)) fun y7=>
 bind (Γ Yz [x0,y7]) fun y8=>
 ret y8)
 (jn (Zd (c3 (WK.l1 Γ)) [x0,x1,(Value.int .i64 0)]) noN noX ret))
noncomputable def QB.l1 (Γ : Zb) (s0 s2 s3 s4 s10 : Value) : M Out:=
 bind (bop .int .mul (Value.int .i64 2) s10) fun y1=>
 bind (bop .int .add y1 (Value.int .i64 1)) fun y2=>
 bind (bop .int .geq y2 s2) fun y3=>
 cnd y3
 (ret (.ext 0 []))
 (bind (bop .int .add y2 (Value.int .i64 1)) fun y4=>
 bind (bop .int .lss y4 s2) fun y5=>
 bind (gateV y5 true (ret s4)) fun y6=>
 bind (gateV y5 true (ret s0)) fun y7=>
 bind (gateV y5 true (ret s3)) fun y8=>
 bind (gateV y5 true (ret y2)) fun y9=>
 bind (gateV y5 true (bop .int .add y8 y9)) fun y10=>
 bind (gateV y5 true (ixa 1 y7 y10)) fun y11=>
 bind (gateV y5 true (ld1 y11)) fun y12=>
 bind (gateV y5 true (ret s0)) fun y13=>
 bind (gateV y5 true (ret s3)) fun y14=>
 bind (gateV y5 true (ret y2)) fun y15=>
 bind (gateV y5 true (bop .int .add y14 y15)) fun y16=>
 bind (gateV y5 true (bop .int .add y16 (Value.int .i64 1))) fun y17=>
 bind (gateV y5 true (ixa 1 y13 y17)) fun y18=>
 bind (gateV y5 true (ld1 y18)) fun y19=>
 bind (gateV y5 true (ZX Γ y6 [y12,y19])) fun y20=>
 bind (gateV y5 true (bop .int .lss y20 (Value.int .i64 0))) fun y21=>
 bind (pick y5 y21 (Value.bool false)) fun y22=>
 jn (cnd y22
 (bind (bop .int .add y2 (Value.int .i64 1)) fun y23=>
 ret (.nrm [s0,s2,s3,s4,s10,y23]))
 (ret (.nrm [s0,s2,s3,s4,s10,y2]))) (c6 fun q24_0 q24_1 q24_2 q24_3 q24_4 q24_5=>
 bind (bop .int .add q24_2 q24_4) fun y25=>
 bind (ixa 1 q24_0 y25) fun y26=>
 bind (ld1 y26) fun y27=>
 bind (bop .int .add q24_2 q24_5) fun y28=>
 bind (ixa 1 q24_0 y28) fun y29=>
 bind (ld1 y29) fun y30=>
 bind (ZX Γ q24_3 [y27,y30]) fun y31=>
 bind (bop .int .lss y31 (Value.int .i64 0)) fun y32=>
 bind (uop .not y32) fun y33=>
 cnd y33
 (ret (.ret (Value.tuple #[])))
 (bind (bop .int .add q24_2 q24_4) fun y34=>
 bind (bop .int .add q24_2 q24_5) fun y35=>
 bind (bop .int .add q24_2 q24_5) fun y36=>
 bind (ixa 1 q24_0 y36) fun y37=>
 bind (ld1 y37) fun y38=>
 bind (bop .int .add q24_2 q24_4) fun y39=>
 bind (ixa 1 q24_0 y39) fun y40=>
 bind (ld1 y40) fun y41=>
 bind (ixa 1 q24_0 y34) fun y42=>
 bind (st1 y42 y38) fun _=>
 bind (ixa 1 q24_0 y35) fun y43=>
 bind (st1 y43 y41) fun _=>
 ret (.nrm [q24_0,q24_1,q24_2,q24_3,q24_5]))) noX Zt)
noncomputable def QB (Γ : Zb) (x0 x1 x2 x3 x4 : Value) : M Value:=
 jn (Zd (c5 (QB.l1 Γ)) [x0,x2,x3,x4,x1]) noN (xk 0 (c0 (ret (Value.tuple #[]))) noX) ret
noncomputable def ZE.l1 (Γ : Zb) (s0 s1 s5 s6 s7 s8 s9 : Value) : M Out:=
 bind (bop .int .lss s9 s7) fun y5=>
 cnd y5
 (bind (bop .int .mul s8 (Value.int .u32 16777619)) fun y6=>
 bind (ixs s0 s9) fun y7=>
 bind (cvi .u32 y7) fun y8=>
 bind (bop .int .add y6 y8) fun y9=>
 bind (bop .int .add s9 (Value.int .i64 1)) fun y10=>
 ret (.nrm [s0,s1,s5,s6,s7,y9,y10]))
 (ret (.ext 0 [s0,s1,s5,s6,s7,s8]))
noncomputable def ZE.l2 (Γ : Zb) (s0 s1 s5 s6 s7 s8 s10 : Value) : M Out:=
 bind (ZV s0) fun y18=>
 bind (bop .int .lss s10 y18) fun y19=>
 cnd y19
 (bind (bop .int .mul s8 (Value.int .u32 16777619)) fun y20=>
 bind (ixs s0 s10) fun y21=>
 bind (cvi .u32 y21) fun y22=>
 bind (bop .int .add y20 y22) fun y23=>
 bind (bop .int .sub s10 s7) fun y24=>
 bind (ixs s0 y24) fun y25=>
 bind (cvi .u32 y25) fun y26=>
 bind (bop .int .mul s6 y26) fun y27=>
 bind (bop .int .sub y23 y27) fun y28=>
 bind (bop .int .add s10 (Value.int .i64 1)) fun y29=>
 bind (bop .int .eql y28 s5) fun y30=>
 bind (gate y30 true 8 (bind (bop .int .sub y29 s7) fun y31=>
 bind (sls s0 (some y31) (some y29)) fun y32=>
 bind (bop .str .eql y32 s1) fun y33=>
 ret [s0,y29,s7,y31,y29,y32,s1,y33])) (c8 fun _ _ _ _ _ _ _ q34_7=>
 bind (pick y30 q34_7 (Value.bool false)) fun y35=>
 cnd y35
 (bind (bop .int .sub y29 s7) fun y36=>
 ret (.ret y36))
 (ret (.nrm [s0,s1,s5,s6,s7,y28,y29]))))
 (ret (.ext 2 []))
noncomputable def ZE (Γ : Zb) (x0 x1 : Value) : M Value:=
 bind (Γ Yh [x1]) fun y1=>
 bind (Zu y1 0) fun y2=>
 bind (Zu y1 1) fun y3=>
 bind (ZV x1) fun y4=>
 jn (Zd (c7 (ZE.l1 Γ)) [x0,x1,y2,y3,y4,(Value.int .u32 0),(Value.int .i64 0)]) noN (xk 0 (c6 fun q12_0 q12_1 q12_2 q12_3 q12_4 q12_5=>
 bind (bop .int .eql q12_5 q12_2) fun y13=>
 bind (gate y13 true 5 (bind (sls q12_0 none (some q12_4)) fun y14=>
 bind (bop .str .eql y14 q12_1) fun y15=>
 ret [q12_0,q12_4,y14,q12_1,y15])) (c5 fun _ _ _ _ q16_4=>
 bind (pick y13 q16_4 (Value.bool false)) fun y17=>
 cnd y17
 (ret (Value.int .i64 0))
 (jn (Zd (c7 (ZE.l2 Γ)) [q12_0,q12_1,q12_2,q12_3,q12_4,q12_5,q12_4]) noN (xk 2 (c0 (ret (Value.int .i64 (-1)))) noX) ret))) noX) ret
noncomputable def ZJ.l1 (Γ : Zb) (s0 s4 s5 : Value) : M Out:=
 bind (ZV s0) fun y1=>
 bind (bop .int .lss s5 y1) fun y2=>
 cnd y2
 (bind (bop .int .mul s4 (Value.int .u32 16777619)) fun y3=>
 bind (ixs s0 s5) fun y4=>
 bind (cvi .u32 y4) fun y5=>
 bind (bop .int .add y3 y5) fun y6=>
 bind (bop .int .add s5 (Value.int .i64 1)) fun y7=>
 ret (.nrm [s0,y6,y7]))
 (ret (.ext 0 [s0,s4]))
noncomputable def ZJ.l2 (Γ : Zb) (s4 s6 s7 s8 : Value) : M Out:=
 bind (bop .int .gtr s8 (Value.int .i64 0)) fun y11=>
 cnd y11
 (bind (bop .int .and s8 (Value.int .i64 1)) fun y12=>
 bind (bop .int .neq y12 (Value.int .i64 0)) fun y13=>
 jn (cnd y13
 (bind (bop .int .mul s6 s7) fun y14=>
 ret (.nrm [s4,y14,s7,s8]))
 (ret (.nrm [s4,s6,s7,s8]))) (c4 fun q15_0 q15_1 q15_2 q15_3=>
 bind (bop .int .mul q15_2 q15_2) fun y16=>
 bind (bop .int .shr q15_3 (Value.int .u64 1)) fun y17=>
 ret (.nrm [q15_0,q15_1,y16,y17])) noX Zt)
 (ret (.ext 2 [s4,s6]))
noncomputable def ZJ (Γ : Zb) (x0 : Value) : M Value:=
 jn (Zd (c3 (ZJ.l1 Γ)) [x0,(Value.int .u32 0),(Value.int .i64 0)]) noN (xk 0 (c2 fun q9_0 q9_1=>
 bind (ZV q9_0) fun y10=>
 jn (Zd (c4 (ZJ.l2 Γ)) [q9_1,(Value.int .u32 1),(Value.int .u32 16777619),y10]) noN (xk 2 (c2 fun q20_0 q20_1=>
 ret (Value.tuple #[q20_0,q20_1])) noX) ret) noX) ret
noncomputable def Yu.l1 (Γ : Zb) (s0 s1 s5 s11 s12 s13 : Value) : M Out:=
 bind (bop .int .lss s13 s12) fun y3=>
 cnd y3
 (bind (ixa 1 s11 s13) fun y4=>
 bind (ld1 y4) fun y5=>
 bind (Ql s0) fun y6=>
 bind (fa 0 y6) fun y7=>
 bind (ld1 y7) fun y8=>
 bind (lkp .str (.map none) false y8 y5) fun y9=>
 bind (mde .str y9 s1) fun _=>
 bind (bop .int .add s13 (Value.int .i64 1)) fun y10=>
 ret (.nrm [s0,s1,s5,s11,s12,y10]))
 (ret (.ext 0 [s5]))
noncomputable def Yu (Γ : Zb) (x0 x1 : Value) : M Value:=
 bind (Γ J7 [x0,x1]) fun y1=>
 bind (Zk y1) fun y2=>
 jn (Zd (c6 (Yu.l1 Γ)) [x0,x1,y1,y1,y2,(Value.int .i64 0)]) noN (xk 0 (c1 fun q12_0=>
 bind (Zk q12_0) fun y13=>
 ret y13) noX) ret
end Go.Proofs.YtgfbgfafajiehaaGreatDoor.A

namespace Go.Proofs
open Go.RowKit Go.Maps Go.Sort Go.Shelf
def Tryz.cloneA_ren : Go.Shelf.Ren:=⟨fun | 5=>94 | 7=>144 | n=>n,fun | 23=>118 | 25=>9 | 3=>9 | 4=>4 | 20=>20 | n=>n,fun | n=>n⟩
theorem Tryz.cloneA : Go.Proofs.SlLaysW.n5 Tryz.prog Tryz.cloneA_ren:={
 mixed:=by kernel_rfl
 f5:=⟨Tryz.f94.name,by decide,Tryz.func94.trans (congrArg some (by kernel_rfl))⟩
 f7:=Tryz.func144.trans (congrArg some (by kernel_rfl))
 t4:=Tryz.underlying4
 a4:=Tryz.isAgg4
 z4:=Tryz.sizeOf4
 v4:=Tryz.zeroValue4
 t20:=Tryz.underlying20
 a20:=Tryz.isAgg20
 z20:=Tryz.sizeOf20
 v20:=Tryz.zeroValue20
 t23:=Tryz.underlying118
 a23:=Tryz.isAgg118
 z23:=Tryz.sizeOf118
 v23:=Tryz.zeroValue118 }
def Tryz.cloneB_ren : Go.Shelf.Ren:=⟨fun | 5=>95 | 7=>144 | n=>n,fun | 23=>160 | 25=>9 | 3=>163 | 4=>4 | 20=>20 | n=>n,fun | n=>n⟩
theorem Tryz.cloneB : Go.Proofs.SlLaysW.n5 Tryz.prog Tryz.cloneB_ren:={
 mixed:=by kernel_rfl
 f5:=⟨Tryz.f95.name,by decide,Tryz.func95.trans (congrArg some (by kernel_rfl))⟩
 f7:=Tryz.func144.trans (congrArg some (by kernel_rfl))
 t4:=Tryz.underlying4
 a4:=Tryz.isAgg4
 z4:=Tryz.sizeOf4
 v4:=Tryz.zeroValue4
 t20:=Tryz.underlying20
 a20:=Tryz.isAgg20
 z20:=Tryz.sizeOf20
 v20:=Tryz.zeroValue20
 t23:=Tryz.underlying160
 a23:=Tryz.isAgg160
 z23:=Tryz.sizeOf160
 v23:=Tryz.zeroValue160 }
def Tryz.cloneC_ren : Go.Shelf.Ren:=⟨fun | 5=>146 | 7=>144 | n=>n,fun | 23=>218 | 25=>9 | 3=>220 | 4=>4 | 20=>20 | n=>n,fun | n=>n⟩
theorem Tryz.cloneC : Go.Proofs.SlLaysW.n5 Tryz.prog Tryz.cloneC_ren:={
 mixed:=by kernel_rfl
 f5:=⟨Tryz.f146.name,by decide,Tryz.func146.trans (congrArg some (by kernel_rfl))⟩
 f7:=Tryz.func144.trans (congrArg some (by kernel_rfl))
 t4:=Tryz.underlying4
 a4:=Tryz.isAgg4
 z4:=Tryz.sizeOf4
 v4:=Tryz.zeroValue4
 t20:=Tryz.underlying20
 a20:=Tryz.isAgg20
 z20:=Tryz.sizeOf20
 v20:=Tryz.zeroValue20
 t23:=Tryz.underlying218
 a23:=Tryz.isAgg218
 z23:=Tryz.sizeOf218
 v23:=Tryz.zeroValue218 }
def Tryz.keysA_ren : Go.Shelf.Ren:=⟨fun | 7=>158 | 10=>208 | n=>n,fun | 23=>118 | 26=>9 | 3=>9 | 28=>230 | 0=>0 | 27=>229 | 33=>265 | 4=>4 | n=>n,fun | n=>n⟩
theorem Tryz.keysA : Go.Proofs.SlLaysZ.n7 Tryz.prog Tryz.keysA_ren:={
 mixed:=by kernel_rfl
 f7:=⟨Tryz.f158.name,by decide,Tryz.func158.trans (congrArg some (by kernel_rfl))⟩
 f10:=⟨Tryz.f208.name,by decide,Tryz.func208.trans (congrArg some (by kernel_rfl))⟩
 t0:=Tryz.underlying0
 a0:=Tryz.isAgg0
 z0:=Tryz.sizeOf0
 v0:=Tryz.zeroValue0
 t4:=Tryz.underlying4
 a4:=Tryz.isAgg4
 z4:=Tryz.sizeOf4
 v4:=Tryz.zeroValue4
 t23:=Tryz.underlying118
 a23:=Tryz.isAgg118
 z23:=Tryz.sizeOf118
 v23:=Tryz.zeroValue118
 t26:=Tryz.underlying9
 a26:=Tryz.isAgg9
 z26:=Tryz.sizeOf9
 v26:=Tryz.zeroValue9
 t27:=Tryz.underlying229
 a27:=Tryz.isAgg229
 z27:=Tryz.sizeOf229
 v27:=Tryz.zeroValue229
 t28:=Tryz.underlying230
 a28:=Tryz.isAgg230
 z28:=Tryz.sizeOf230
 v28:=Tryz.zeroValue230
 t33:=Tryz.underlying265
 a33:=Tryz.isAgg265
 z33:=Tryz.sizeOf265
 v33:=Tryz.zeroValue265 }
def Tryz.keysB_ren : Go.Shelf.Ren:=⟨fun | 7=>165 | 10=>214 | n=>n,fun | 23=>160 | 26=>9 | 3=>163 | 28=>230 | 0=>0 | 27=>229 | 33=>265 | 4=>4 | n=>n,fun | n=>n⟩
theorem Tryz.keysB : Go.Proofs.SlLaysZ.n7 Tryz.prog Tryz.keysB_ren:={
 mixed:=by kernel_rfl
 f7:=⟨Tryz.f165.name,by decide,Tryz.func165.trans (congrArg some (by kernel_rfl))⟩
 f10:=⟨Tryz.f214.name,by decide,Tryz.func214.trans (congrArg some (by kernel_rfl))⟩
 t0:=Tryz.underlying0
 a0:=Tryz.isAgg0
 z0:=Tryz.sizeOf0
 v0:=Tryz.zeroValue0
 t4:=Tryz.underlying4
 a4:=Tryz.isAgg4
 z4:=Tryz.sizeOf4
 v4:=Tryz.zeroValue4
 t23:=Tryz.underlying160
 a23:=Tryz.isAgg160
 z23:=Tryz.sizeOf160
 v23:=Tryz.zeroValue160
 t26:=Tryz.underlying9
 a26:=Tryz.isAgg9
 z26:=Tryz.sizeOf9
 v26:=Tryz.zeroValue9
 t27:=Tryz.underlying229
 a27:=Tryz.isAgg229
 z27:=Tryz.sizeOf229
 v27:=Tryz.zeroValue229
 t28:=Tryz.underlying230
 a28:=Tryz.isAgg230
 z28:=Tryz.sizeOf230
 v28:=Tryz.zeroValue230
 t33:=Tryz.underlying265
 a33:=Tryz.isAgg265
 z33:=Tryz.sizeOf265
 v33:=Tryz.zeroValue265 }
def Tryz.keysC_ren : Go.Shelf.Ren:=⟨fun | 7=>213 | 10=>249 | n=>n,fun | 23=>214 | 26=>9 | 3=>218 | 28=>230 | 0=>0 | 27=>229 | 33=>265 | 4=>4 | n=>n,fun | n=>n⟩
theorem Tryz.keysC : Go.Proofs.SlLaysZ.n7 Tryz.prog Tryz.keysC_ren:={
 mixed:=by kernel_rfl
 f7:=⟨Tryz.f213.name,by decide,Tryz.func213.trans (congrArg some (by kernel_rfl))⟩
 f10:=⟨Tryz.f249.name,by decide,Tryz.func249.trans (congrArg some (by kernel_rfl))⟩
 t0:=Tryz.underlying0
 a0:=Tryz.isAgg0
 z0:=Tryz.sizeOf0
 v0:=Tryz.zeroValue0
 t4:=Tryz.underlying4
 a4:=Tryz.isAgg4
 z4:=Tryz.sizeOf4
 v4:=Tryz.zeroValue4
 t23:=Tryz.underlying214
 a23:=Tryz.isAgg214
 z23:=Tryz.sizeOf214
 v23:=Tryz.zeroValue214
 t26:=Tryz.underlying9
 a26:=Tryz.isAgg9
 z26:=Tryz.sizeOf9
 v26:=Tryz.zeroValue9
 t27:=Tryz.underlying229
 a27:=Tryz.isAgg229
 z27:=Tryz.sizeOf229
 v27:=Tryz.zeroValue229
 t28:=Tryz.underlying230
 a28:=Tryz.isAgg230
 z28:=Tryz.sizeOf230
 v28:=Tryz.zeroValue230
 t33:=Tryz.underlying265
 a33:=Tryz.isAgg265
 z33:=Tryz.sizeOf265
 v33:=Tryz.zeroValue265 }
def Tryz.keysD_ren : Go.Shelf.Ren:=⟨fun | 7=>254 | 10=>273 | n=>n,fun | 23=>217 | 26=>9 | 3=>220 | 28=>230 | 0=>0 | 27=>229 | 33=>265 | 4=>4 | n=>n,fun | n=>n⟩
theorem Tryz.keysD : Go.Proofs.SlLaysZ.n7 Tryz.prog Tryz.keysD_ren:={
 mixed:=by kernel_rfl
 f7:=⟨Tryz.f254.name,by decide,Tryz.func254.trans (congrArg some (by kernel_rfl))⟩
 f10:=⟨Tryz.f273.name,by decide,Tryz.func273.trans (congrArg some (by kernel_rfl))⟩
 t0:=Tryz.underlying0
 a0:=Tryz.isAgg0
 z0:=Tryz.sizeOf0
 v0:=Tryz.zeroValue0
 t4:=Tryz.underlying4
 a4:=Tryz.isAgg4
 z4:=Tryz.sizeOf4
 v4:=Tryz.zeroValue4
 t23:=Tryz.underlying217
 a23:=Tryz.isAgg217
 z23:=Tryz.sizeOf217
 v23:=Tryz.zeroValue217
 t26:=Tryz.underlying9
 a26:=Tryz.isAgg9
 z26:=Tryz.sizeOf9
 v26:=Tryz.zeroValue9
 t27:=Tryz.underlying229
 a27:=Tryz.isAgg229
 z27:=Tryz.sizeOf229
 v27:=Tryz.zeroValue229
 t28:=Tryz.underlying230
 a28:=Tryz.isAgg230
 z28:=Tryz.sizeOf230
 v28:=Tryz.zeroValue230
 t33:=Tryz.underlying265
 a33:=Tryz.isAgg265
 z33:=Tryz.sizeOf265
 v33:=Tryz.zeroValue265 }
def Tryz.collA_ren : Go.Shelf.Ren:=⟨fun | 8=>206 | 11=>245 | n=>n,fun | 26=>9 | 28=>230 | 24=>37 | 0=>0 | 33=>265 | 4=>4 | n=>n,fun | n=>n⟩
theorem Tryz.collA : Go.Proofs.SlLaysZ.n8 Tryz.prog Tryz.collA_ren:={
 mixed:=by kernel_rfl
 f8:=⟨Tryz.f206.name,by decide,Tryz.func206.trans (congrArg some (by kernel_rfl))⟩
 f11:=⟨Tryz.f245.name,by decide,Tryz.func245.trans (congrArg some (by kernel_rfl))⟩
 t0:=Tryz.underlying0
 a0:=Tryz.isAgg0
 z0:=Tryz.sizeOf0
 v0:=Tryz.zeroValue0
 t24:=Tryz.underlying37
 a24:=Tryz.isAgg37
 z24:=Tryz.sizeOf37
 v24:=Tryz.zeroValue37
 t26:=Tryz.underlying9
 a26:=Tryz.isAgg9
 z26:=Tryz.sizeOf9
 v26:=Tryz.zeroValue9
 t28:=Tryz.underlying230
 a28:=Tryz.isAgg230
 z28:=Tryz.sizeOf230
 v28:=Tryz.zeroValue230
 i26:=by kernel_rfl }
def Tryz.sortA_ren : Go.Shelf.Ren:=⟨fun | 6=>207 | 15=>247 | 14=>246 | 28=>267 | 29=>268 | 20=>259 | 21=>260 | 22=>261 | 23=>262 | 24=>263 | 25=>264 | 26=>265 | 27=>266 | 46=>274 | 47=>275 | 48=>276 | 49=>277 | 50=>278 | 57=>286 | n=>n,fun | 22=>37 | 24=>9 | 25=>225 | 3=>3 | 39=>227 | 0=>0 | 53=>315 | 55=>27 | 4=>4 | 46=>309 | 45=>308 | 50=>197 | 5=>5 | 9=>9 | 66=>318 | 70=>322 | 76=>328 | 77=>329 | n=>n,fun | n=>n⟩
theorem Tryz.sortA : Go.Proofs.SlLaysF.n6 Tryz.prog Tryz.sortA_ren:={
 mixed:=by kernel_rfl
 f6:=⟨Tryz.f207.name,by decide,Tryz.func207.trans (congrArg some (by kernel_rfl))⟩
 f14:=⟨Tryz.f246.name,by decide,Tryz.func246.trans (congrArg some (by kernel_rfl))⟩
 f15:=Tryz.func247.trans (congrArg some (by kernel_rfl))
 f20:=⟨Tryz.f259.name,by decide,Tryz.func259.trans (congrArg some (by kernel_rfl))⟩
 f21:=⟨Tryz.f260.name,by decide,Tryz.func260.trans (congrArg some (by kernel_rfl))⟩
 f22:=⟨Tryz.f261.name,by decide,Tryz.func261.trans (congrArg some (by kernel_rfl))⟩
 f23:=⟨Tryz.f262.name,by decide,Tryz.func262.trans (congrArg some (by kernel_rfl))⟩
 f24:=⟨Tryz.f263.name,by decide,Tryz.func263.trans (congrArg some (by kernel_rfl))⟩
 f25:=⟨Tryz.f264.name,by decide,Tryz.func264.trans (congrArg some (by kernel_rfl))⟩
 f26:=⟨Tryz.f265.name,by decide,Tryz.func265.trans (congrArg some (by kernel_rfl))⟩
 f27:=⟨Tryz.f266.name,by decide,Tryz.func266.trans (congrArg some (by kernel_rfl))⟩
 f28:=Tryz.func267.trans (congrArg some (by kernel_rfl))
 f29:=Tryz.func268.trans (congrArg some (by kernel_rfl))
 f46:=⟨Tryz.f274.name,by decide,Tryz.func274.trans (congrArg some (by kernel_rfl))⟩
 f47:=Tryz.func275.trans (congrArg some (by kernel_rfl))
 f48:=Tryz.func276.trans (congrArg some (by kernel_rfl))
 f49:=⟨Tryz.f277.name,by decide,Tryz.func277.trans (congrArg some (by kernel_rfl))⟩
 f50:=⟨Tryz.f278.name,by decide,Tryz.func278.trans (congrArg some (by kernel_rfl))⟩
 f57:=⟨Tryz.f286.name,by decide,Tryz.func286.trans (congrArg some (by kernel_rfl))⟩
 t0:=Tryz.underlying0
 a0:=Tryz.isAgg0
 z0:=Tryz.sizeOf0
 v0:=Tryz.zeroValue0
 t3:=Tryz.underlying3
 a3:=Tryz.isAgg3
 z3:=Tryz.sizeOf3
 v3:=Tryz.zeroValue3
 t4:=Tryz.underlying4
 a4:=Tryz.isAgg4
 z4:=Tryz.sizeOf4
 v4:=Tryz.zeroValue4
 t5:=Tryz.underlying5
 a5:=Tryz.isAgg5
 z5:=Tryz.sizeOf5
 v5:=Tryz.zeroValue5
 t9:=Tryz.underlying9
 a9:=Tryz.isAgg9
 z9:=Tryz.sizeOf9
 v9:=Tryz.zeroValue9
 t22:=Tryz.underlying37
 a22:=Tryz.isAgg37
 z22:=Tryz.sizeOf37
 v22:=Tryz.zeroValue37
 a24:=Tryz.isAgg9
 z24:=Tryz.sizeOf9
 t25:=Tryz.underlying225
 a25:=Tryz.isAgg225
 z25:=Tryz.sizeOf225
 v25:=Tryz.zeroValue225
 t39:=Tryz.underlying227
 a39:=Tryz.isAgg227
 z39:=Tryz.sizeOf227
 v39:=Tryz.zeroValue227
 t45:=Tryz.underlying308
 a45:=Tryz.isAgg308
 z45:=Tryz.sizeOf308
 v45:=Tryz.zeroValue308
 t46:=Tryz.underlying309
 a46:=Tryz.isAgg309
 z46:=Tryz.sizeOf309
 v46:=Tryz.zeroValue309
 t50:=Tryz.underlying197
 a50:=Tryz.isAgg197
 z50:=Tryz.sizeOf197
 v50:=Tryz.zeroValue197
 t53:=Tryz.underlying315
 a53:=Tryz.isAgg315
 z53:=Tryz.sizeOf315
 v53:=Tryz.zeroValue315
 t55:=Tryz.underlying27
 a55:=Tryz.isAgg27
 z55:=Tryz.sizeOf27
 v55:=Tryz.zeroValue27
 t66:=Tryz.underlying318
 a66:=Tryz.isAgg318
 z66:=Tryz.sizeOf318
 v66:=Tryz.zeroValue318
 t70:=Tryz.underlying322
 a70:=Tryz.isAgg322
 z70:=Tryz.sizeOf322
 v70:=Tryz.zeroValue322
 t76:=Tryz.underlying328
 a76:=Tryz.isAgg328
 z76:=Tryz.sizeOf328
 v76:=Tryz.zeroValue328
 t77:=Tryz.underlying329
 a77:=Tryz.isAgg329
 z77:=Tryz.sizeOf329
 v77:=Tryz.zeroValue329 }
end Go.Proofs
namespace Go.Proofs.YtgfbgfafajiehaaGreatDoor.A
set_option linter.unusedVariables false
set_option linter.unusedSimpArgs false
open Go.RowKit Go.Maps Go.Sort Go.Shelf Go.Proofs
theorem clA : KF Tryz.prog 94 where
 c:=⟨Tryz.f94,Tryz.func94,by kernel_rfl,by kernel_rfl⟩
 nil:=fun w=>AnyW.maps_Clone_nil Tryz.cloneA w
 some:=fun b es clock w hb=>AnyW.maps_Clone Tryz.cloneA b es clock w hb
theorem clB : KF Tryz.prog 95 where
 c:=⟨Tryz.f95,Tryz.func95,by kernel_rfl,by kernel_rfl⟩
 nil:=fun w=>AnyW.maps_Clone_nil Tryz.cloneB w
 some:=fun b es clock w hb=>AnyW.maps_Clone Tryz.cloneB b es clock w hb
theorem clC : KF Tryz.prog 146 where
 c:=⟨Tryz.f146,Tryz.func146,by kernel_rfl,by kernel_rfl⟩
 nil:=fun w=>AnyW.maps_Clone_nil Tryz.cloneC w
 some:=fun b es clock w hb=>AnyW.maps_Clone Tryz.cloneC b es clock w hb
def ZaC (x y : List UInt8) : Int:=if x < y then -1 else if y < x then 1 else 0
theorem Zma (x : List UInt8) (w : World) : Calls Tryz.prog 244 #[encStr x] w fun e w'=>e=.returned (.bool false)∧w'=w:=by
 go_enter Tryz.func244,Tryz.ntmps244
 go_wp2
 go_ret
 exact ⟨by simp,rfl⟩
theorem ZmO (x y : List UInt8) : x < y∨x=y∨y < x:=by
 by_cases h : x < y
 ·exact .inl h
 ·by_cases h2 : y < x
  ·exact .inr (.inr h2)
  ·exact .inr (.inl (List.le_antisymm h2 h))
theorem Zkz (x y : List UInt8) (w : World) : Calls Tryz.prog 201 #[encStr x,encStr y] w fun e w'=>e=.returned (.int .i64 (ZaC x y))∧w'=w:=by
 have e244 : ∀ args w,(callFunc 244 args).run Tryz.prog w=.ok (.enter 244 args) w:=enters_of Tryz.func244 (by kernel_rfl) rfl
 have hb : Op.bytesLess x y=decide (x < y):=bytesLess_eq x y
 have ht:=ZmO x y
 have hn : ∀ a : List UInt8,¬ a < a:=fun a=>List.lt_irrefl a
 have has : x < y→¬ y < x:=fun h=>List.lt_asymm h
 go_enter Tryz.func201,Tryz.ntmps201
 go_wp2_with (go_at_call 244;refine (Zma _ _).mono ?_;rintro e w' ⟨rfl,hw⟩;rw [hw])
 all_goals (go_ret;refine ⟨?_,rfl⟩;unfold ZaC;rw [hb] at *;by_cases h1 : x < y <;> by_cases h2 : y < x <;> simp_all <;> exact absurd h2 (List.lt_irrefl _))
theorem ZgJ (x y : List UInt8) (w : World) : Calls Tryz.prog 150 #[encStr x,encStr y] w fun e w'=>e=.returned (.int .i64 (ZaC x y))∧w'=w:=by
 have e201 : ∀ args w,(callFunc 201 args).run Tryz.prog w=.ok (.enter 201 args) w:=enters_of Tryz.func201 (by kernel_rfl) rfl
 go_enter Tryz.func150,Tryz.ntmps150
 go_wp2_with (go_at_call 201;refine (Zkz _ _ _).mono ?_;rintro e w' ⟨rfl,hw⟩;rw [hw])
 go_ret
 exact ⟨rfl,rfl⟩
theorem ZlU (blk off size : Nat) (w : World) : CmpLays1 Tryz.prog 150 #[] encStr ZaC blk off size w:=fun m os dk hd x y=>
 (ZgJ x y _).mono fun e w' ⟨he,hw⟩=>⟨he,0,#[],by rw [hw];simp [grow,World.drewN]⟩
theorem Wf (x y : List UInt8) : ltOf ZaC x y=decide (x < y):=by
 unfold ltOf ZaC
 by_cases h1 : x < y
 ·simp [h1]
 ·by_cases h2 : y < x <;> simp [h1,h2]
theorem ZmZ : SWO (ltOf ZaC) where
 irrefl x:=by rw [Wf];exact decide_eq_false (List.lt_irrefl x)
 trans x y z h1 h2:=by rw [Wf] at *;simp only [decide_eq_true_eq] at *;exact List.lt_trans h1 h2
 ntrans x y z h1 h2:=by
  rw [Wf] at *
  simp only [decide_eq_false_iff_not] at *
  exact List.le_trans h2 h1
theorem Zkk {ss : List (List UInt8)} {d' : Array (List UInt8)} (hp : PermIn 0 ss.toArray.size ss.toArray d') (hs : SortedIn (ltOf ZaC) 0 ss.toArray.size d') : d'=(ss.mergeSort fun x y=>decide (x≤y)).toArray:=by
 have hsz : d'.size=ss.length:=by simpa using hp.1
 have hperm : d'.toList.Perm ss:=by
  have h3 : d'.toList.Perm (ss.take d'.size):=by simpa [← hsz] using hp.2.2
  rwa [List.take_of_length_le (by omega)] at h3
 have hpw : d'.toList.Pairwise fun x y=>(decide (x≤y))=true:=by
  rw [List.pairwise_iff_getElem]
  intro i j hi hj hij
  have hi' : i < d'.size:=by simpa using hi
  have hj' : j < d'.size:=by simpa using hj
  have:=hs i j (Nat.zero_le _) hij (by simpa [hsz] using hj')
  rw [Wf,getElem!_pos d' j hj',getElem!_pos d' i hi'] at this
  simp only [decide_eq_false_iff_not] at this
  simp only [Array.getElem_toList,decide_eq_true_eq]
  exact this
 have h1 : d'.toList.mergeSort (fun x y=>decide (x≤y))=d'.toList:=List.mergeSort_of_pairwise hpw
 have h2:=mergeSort_of_perm hperm
 apply Array.ext'
 rw [← h1]
 exact h2
theorem Zlf {g : FuncId} {args : List Value} {v : Value} {n : Nat} (hg : g < Z0) (hc : QP Tryz.prog g) (hx : ∀ w : World,RVs (ι0 Tryz.prog.globals.size) args args) (hrun : ∃ H',run Tryz.prog (fun _=>none) lvs n g args (List.replicate Tryz.prog.globals.size Zl.dead)=some (v,H')) (w : World) :
  Calls Tryz.prog g args.toArray w fun e w'=>∃ v',e=.returned v'∧Go.RowKit.Below w.heap.size w w':=by
 obtain ⟨H',hrun⟩:=hrun
 have hs:=JT (P:=Tryz.prog) (prim:=fun _=>none) (lvs:=lvs) (by kernel_rfl) (fun b g m h=>by cases h) n (b0 w) g args _ v H' hrun
 rcases hs with ⟨_,hC | ⟨e,⟨fn',h1,_,h2,_⟩,_⟩⟩ | ⟨hno,_⟩
 ·obtain ⟨_,hC⟩:=hC
  refine (hC (ι0 Tryz.prog.globals.size) w args ZmX (hx w)).mono fun e w' ⟨ι1,v',_,he,_,hS⟩=>⟨v',he,?_⟩
  exact ⟨hS.rest.1,hS.rest.2.1,hS.rest.2.2,hS.size,hS.old⟩
 ·obtain ⟨fn,h3,_,h4⟩:=hc
  rw [h3] at h1;cases h1
  rw [h4] at h2;cases h2
 ·exact absurd hg (Nat.not_lt_of_le hno)
noncomputable abbrev R0 (n : Nat) : Zb:=run Tryz.prog (fun _=>none) lvs n
section
variable {H : Za} {n : Nat} {f : Value}
theorem ZmB : R0 (n+1) Zx [.slice none 0 0,iv 0,iv 0,f] H=some (.tuple #[],H):=by
 rw [R0,Jf rfl]
 unfold Zj
 have w1 : IntKind.i64.wrap (0+1)=1:=w64 (by omega) (by omega)
 rw [Zo Q4,w1]
 refine (ZmA (j:=0) (vs:=[]) (H':=H) (Zk8 ?_)).trans ?_
 ·simp [Zj.l1,↓Q8,Q9,↓YK,JH,JP,JJ,↓JD,WS,KO,ZbB,YB,WQ,YI,ZaH,W6,KY,Zau,KN,Zag,Y3,YY,YU,KJ,Zad,Zd4,ZdJ,Kl,KP,WW,Q4,Ki,WT,Zav,Zal,Kj,W5,Zaz,Kk,Zar,YS,WP,Zaj,Zay,ZaF,↓Zd0,WX,↓g_r,Zdu,Bool.not_true,Bool.not_false,Bool.false_eq_true,Bool.true_eq_false,reduceIte,List.tail_cons,List.headD_cons,decide_true,decide_false,cond_true,cond_false,Nat.beq_refl,Zdv,ZdV,Wq,Zdg,ZdF,Zdc,ZdS,Zb3,ZdE,Zde,ZaE,Zah,Zax,Y2,List.replicate,YH,YC,YL,Yx,Yy,ZdL,K0,KQ,Zt]
 ·rw [Y2];rfl
theorem ZmN {l : Value} : R0 (n+2) Zw [.slice none 0 0,iv 0,iv 0,l,f] H=some (.tuple #[],H):=by
 have e1 : run Tryz.prog (fun _=>none) lvs (n+1) Zx [.slice none 0 0,iv 0,iv 0,f] H=_:=ZmB
 rw [R0,Yb rfl]
 unfold Zz
 refine (Zkx (v:=.tuple #[]) (H':=H) (ZlF ?_)).trans rfl
 have w1 : IntKind.i64.wrap (0 - 0)=0:=w64 (by omega) (by omega)
 rw [Zb3]
 unfold Zz.l1
 refine Zkx ?_
 rw [Zo Ki,w1,Zo Kk,JD,if_pos (by simp),Zo e1]
 rfl
theorem Zl1 {s : ByteArray} {i : Nat} (hi : i < s.size) (q : IntKind) (H : Za) : ∃ b : UInt8,ixs (.string s) (.int q i) H=some (.int .u8 b.toNat,H):=by
 refine ⟨s[i],?_⟩
 unfold ixs
 simp only [Int.toNat_natCast]
 rw [if_pos (by omega),getElem?_pos s i hi]
set_option maxRecDepth 100000 in
theorem ZmD : ∃ v,R0 (n+2) JB [.int .u64 0] H=some (v,H):=by
 have e : ∃ v,R0 (n+1) Q5 [.int .u64 0] H=some (v,H):=by
  rw [R0,Zcw rfl]
  unfold J5
  have w1 : IntKind.u8.wrap 0=((0 : Nat) : Int):=by rw [wu8];rfl
  generalize ht : (⟨#[0,1,2,2,3,3,3,3,4,4,4,4,4,4,4,4,5,5,5,5,5,5,5,5,5,5,5,5,5,5,5,5,6,6,6,6,6,6,6,6,6,6,6,6,6,6,6,6,6,6,6,6,6,6,6,6,6,6,6,6,6,6,6,6,7,7,7,7,7,7,7,7,7,7,7,7,7,7,7,7,7,7,7,7,7,7,7,7,7,7,7,7,7,7,7,7,7,7,7,7,7,7,7,7,7,7,7,7,7,7,7,7,7,7,7,7,7,7,7,7,7,7,7,7,7,7,7,7,8,8,8,8,8,8,8,8,8,8,8,8,8,8,8,8,8,8,8,8,8,8,8,8,8,8,8,8,8,8,8,8,8,8,8,8,8,8,8,8,8,8,8,8,8,8,8,8,8,8,8,8,8,8,8,8,8,8,8,8,8,8,8,8,8,8,8,8,8,8,8,8,8,8,8,8,8,8,8,8,8,8,8,8,8,8,8,8,8,8,8,8,8,8,8,8,8,8,8,8,8,8,8,8,8,8,8,8,8,8,8,8,8,8,8,8,8,8,8,8,8,8,8,8,8,8,8,8]⟩ : ByteArray)=tab
  have hs : tab.size=256:=by rw [← ht];rfl
  obtain ⟨b,hb⟩:=Zl1 (s:=tab) (i:=0) (by omega) .u8 H
  refine ⟨iv (IntKind.i64.wrap (0+IntKind.i64.wrap b.toNat)),?_⟩
  rw [Zo YS]
  refine (Zg8 (vs:=[.int .u64 0,iv 0]) (H':=H) (by rw [JD,if_neg (by simp)];rfl)).trans ?_
  rw [Wq,Zo YS]
  refine (Zg8 (vs:=[.int .u64 0,iv 0]) (H':=H) (by rw [JD,if_neg (by simp)];rfl)).trans ?_
  rw [Wq,Zo YS]
  refine (Zg8 (vs:=[.int .u64 0,iv 0]) (H':=H) (by rw [JD,if_neg (by simp)];rfl)).trans ?_
  rw [Wq,Zo YU,w1,Zo hb,Zo YU,Zo Q4]
  rfl
 obtain ⟨v,e⟩:=e
 refine ⟨v,?_⟩
 rw [R0,ZeG rfl]
 unfold Y9
 rw [JD,if_neg (by simp),Zo e]
 rfl
theorem Zmw : R0 (n+3) Z3 [.slice none 0 0,f] H=some (.tuple #[],H):=by
 obtain ⟨v,e1⟩:=ZmD (n:=n) (H:=H)
 have e2 : R0 (n+2) Zw [.slice none 0 0,iv 0,iv 0,v,f] H=some (.tuple #[],H):=ZmN
 rw [R0,J2 rfl]
 unfold Z5
 have w1 : IntKind.u64.wrap ((0 : Nat) : Int)=0:=by rw [ZmV];rfl
 rw [Zo Y3,Zo YU,w1,Zo e1]
 refine (Zo e2).trans rfl
end
theorem Zlt (w : World) : Calls Tryz.prog 207 #[.slice none 0 0,.func (.func 150) #[] #[]] w fun e w'=>∃ v',e=.returned v'∧Go.RowKit.Below w.heap.size w w':=
 Zlf (args:=[.slice none 0 0,.func (.func 150) #[] #[]]) (n:=3) (by decide) ⟨Tryz.f207,Tryz.func207,by kernel_rfl,by kernel_rfl⟩ (fun w=>.cons (.sc rfl) (.cons (.fn (fun l h=>by cases h) rfl (fun i hi=>by cases hi) rfl (fun i hi=>by cases hi)) .nil)) ⟨_,Zmw (n:=0)⟩ w
theorem Ku {gk : FuncId} (hg : ∀ args w,(callFunc gk args).run Tryz.prog w=.ok (.enter gk args) w)
  (hseq : ∀ (w : World) (Bm b : Nat) (es : Array MapEntry) (clock : Nat) (ks : List (List UInt8)),Bm < w.heap.size→w.cell? ⟨Bm,0,none⟩=some (.map (some b))→w.heap[b]?=some (.map es clock)→es.toList.map (·.key)=ks.map Zr→Go.MapKept.Stamped es clock→
   (∀ k∈ks,k.length≤1000000)→ks.length≤1000000→SeqGives Fence.wide 3 Tryz.prog gk #[.pointer (some ⟨Bm,0,none⟩)] encStr (fun ss=>ss.Perm ks) ks.length w) : Kz Tryz.prog 157 gk 150 where
 c:=⟨Tryz.f157,Tryz.func157,by kernel_rfl,by kernel_rfl⟩
 run:=fun w Bm b es clock ks hB hc hb hk hst hl hf=>by
  have e207 : ∀ args w,(callFunc 207 args).run Tryz.prog w=.ok (.enter 207 args) w:=enters_of Tryz.func207 (by kernel_rfl) rfl
  have e150 : ∀ args w,(callFunc 150 args).run Tryz.prog w=.ok (.enter 150 args) w:=enters_of Tryz.func150 (by kernel_rfl) rfl
  have hmax : ks.length≤maxLen:=Nat.le_trans hf (by decide)
  have cC:=AnyZ.collect_in Tryz.collA Fence.wide 5 trivial trivial rfl (by omega) gk #[.pointer (some ⟨Bm,0,none⟩)] trivial hg _ _ hmax (by omega) w (hseq w Bm b es clock ks hB hc hb hk hst hl hf)
  have cC:=(callsIn_wide (n:=5)).1 cC
  change Calls Tryz.prog 206 _ _ _ at cC
  go_enter Tryz.func157,Tryz.ntmps157
  go_wp2_with (go_at_call 206;refine cC.mono ?_;rintro e W ⟨v,ss,rfl,hS,hrow,hnil,hbl⟩)
  have hlen : ss.length=ks.length:=hS.length_eq
  rcases hrow.2 with ⟨rfl,hz⟩ | ⟨gb,cap,cur,rfl,hbase,hgb,r1,r2,r3,r4⟩
  ·have hss : ss=[]:=List.eq_nil_of_length_eq_zero hz
   go_wp2_with (go_at_call 207;refine (Zlt W).mono ?_;rintro e w' ⟨v',rfl,hb2⟩)
   go_ret
   have hks : ks=[]:=List.eq_nil_of_length_eq_zero (by rw [← hlen,hss];rfl)
   subst hks
   exact ⟨_,0,rfl,⟨by simp [Kv],.inl ⟨rfl,rfl⟩⟩,by simp,hbl.trans (hb2.mono (by have:=hbl.size;omega))⟩
  ·have hH : Holds encStr W gb 0 ss.toArray:=holds_of_block hgb (by simpa using r4)
   have hgl : gb < W.heap.size:=(Array.getElem?_eq_some_iff.1 hgb).1
   have cS:=Any.slices_SortFunc Tryz.sortA encStr (fun _=>rfl) ZaC ZmZ 150 #[] gb 0 cap ss.toArray W e150 (ZlU gb 0 _ W) hH hgl (by simp;omega)
   change Calls Tryz.prog 207 #[.slice (some ⟨gb,0,none⟩) ss.length cap,.func (.func 150) #[] #[]] W _ at cS
   go_wp2_with (go_at_call 207;refine cS.mono ?_;rintro e w' ⟨rfl,d',nn,os,hp,hs,rfl⟩)
   go_ret
   have hd:=Zkk hp hs
   subst hd
   have hks : Kv ks=ss.mergeSort (fun x y=>decide (x≤y)):=(mergeSort_of_perm hS).symm
   rw [← hlen,hks]
   exact ⟨_,_,rfl,ownsRow_sorted (by simp) hbase hgb r1 r2 r3,hnil.trans ⟨fun h=>List.eq_nil_of_length_eq_zero (by rw [← hlen,h];rfl),fun h=>List.eq_nil_of_length_eq_zero (by rw [hlen,h];rfl)⟩,hbl.grown (grownBy_sorted _) hbl.size (fun j hj=>by cases hj;exact hbase)⟩
section
variable {H : Type}
def ZhJ (v : Value) : Option (DataW H × List MemPlace):=some (.nil,[])
theorem Zek {P : Program} {k : TypeId} (hk : P.underlying k=some .string) {w : World} {b clock : Nat} {es : Array MapEntry} {ks : List (List UInt8)} (hb : w.heap[b]?=some (.map es clock)) (hks : es.toList.map (·.key)=ks.map Zr) (hst : Go.MapKept.Stamped es clock)
  (hl : ∀ k∈ks,k.length≤1000000) (hf : ks.length≤1000000) : ∃ D0 : DataW H,w.ownsMap P k ZhJ b ks.length D0∧ks.Perm (strKeys D0)∧Maps.size D0=ks.length:=by
 have hsz : es.size=ks.length:=by
  have:=congrArg List.length hks
  simpa using this
 have hrd : ∀ (x : MapEntry) (s : List UInt8),x.key=Zr s→s.length≤1000000→Go.WideElems.rd (H:=H) P k ZhJ x=some (.string s,.nil):=fun x s hs hlen=>by
  have h1 : (⟨s.toArray⟩ : ByteArray).size≤maxLen:=Nat.le_trans (by simpa [ByteArray.size] using hlen) (by decide)
  simp [Go.WideElems.rd,hs,keyOf,hk,mapKey,ZhJ,h1,Zr]
 have hmap : ∀ (l : List MapEntry) (q : List (List UInt8)),l.map (·.key)=q.map Zr→(∀ s∈q,s.length≤1000000)→l.map (Go.WideElems.rg (H:=H) P k ZhJ)=q.map fun s=>(Lit.string s,DataW.nil):=by
  intro l
  induction l with
  | nil=>intro q h _;cases q with | nil=>rfl | cons a q=>simp at h
  | cons x l ih=>
   intro q h hq
   cases q with
   | nil=>simp at h
   | cons a q=>
    simp only [List.map_cons,List.cons.injEq] at h
    rw [List.map_cons,List.map_cons,ih q h.2 (fun s hs=>hq s (List.mem_cons_of_mem _ hs))]
    congr 1
    unfold Go.WideElems.rg
    rw [hrd x a h.1 (hq a (by simp))]
    rfl
 refine ⟨.map ((es.toList.map (Go.WideElems.rg P k ZhJ)).foldr DataW.insert []),⟨es,clock,hb,⟨by rw [hsz];exact Nat.le_trans hf (by decide),hst,fun x hx=>?_⟩,by omega,rfl⟩,?_,?_⟩
 ·have : x.key∈ks.map Zr:=by rw [← hks];exact List.mem_map.2 ⟨x,hx,rfl⟩
  obtain ⟨s,h1,h2⟩:=List.mem_map.1 this
  exact ⟨_,hrd x s h2.symm (hl s h1)⟩
 ·rw [hmap _ _ hks hl]
  have h1:=(Go.WideShapes.sorted_perm (H:=H) (ks.map fun s=>(Lit.string s,DataW.nil))).map fun p=>Go.strOf p.1
  have h2 : (ks.map fun s=>(Lit.string s,(DataW.nil : DataW H))).map (fun p=>Go.strOf p.1)=ks:=by
   rw [List.map_map];exact (List.map_congr_left fun a _=>rfl).trans (List.map_id ks)
  rw [h2] at h1
  exact h1.symm
 ·rw [hmap _ _ hks hl]
  have:=(Go.WideShapes.sorted_perm (H:=H) (ks.map fun s=>(Lit.string s,DataW.nil))).length_eq
  rw [List.length_map] at this
  exact this
end
theorem W1 {g Bm n : Nat} {ks ks' : List (List UInt8)} {w : World} (h : SeqGives Fence.wide 3 Tryz.prog g #[.pointer (some ⟨Bm,0,none⟩)] encStr (fun ss=>ss.Perm ks') n w) (hn : n=ks.length) (hp : ks.Perm ks') : SeqGives Fence.wide 3 Tryz.prog g #[.pointer (some ⟨Bm,0,none⟩)] encStr (fun ss=>ss.Perm ks) ks.length w:=by
 subst hn
 intro l J W hW hJ hY h0
 refine (h l J W hW hJ hY h0).mono fun e w' ⟨h1,xs,h2,h3⟩=>⟨h1,xs,h2.trans hp.symm,h3⟩
theorem keysA : Kz Tryz.prog 157 208 150:=Ku (enters_of Tryz.func208 (by kernel_rfl) rfl) fun w Bm b es clock ks hB hc hb hk hst hl hf=>by
 obtain ⟨D0,hown,hp,hs⟩:=Zek (H:=Unit) (P:=Tryz.prog) (k:=Tryz.keysA_ren.t 26) (by kernel_rfl) hb hk hst hl hf
 exact W1 (AnyZ.keys_gives (ρ:=Tryz.keysA_ren) { Tryz.keysA with } Fence.wide 3 trivial rfl (by omega) Bm b ks.length D0 w hB hc hown) hs hp
theorem keysB : Kz Tryz.prog 157 214 150:=Ku (enters_of Tryz.func214 (by kernel_rfl) rfl) fun w Bm b es clock ks hB hc hb hk hst hl hf=>by
 obtain ⟨D0,hown,hp,hs⟩:=Zek (H:=Unit) (P:=Tryz.prog) (k:=Tryz.keysB_ren.t 26) (by kernel_rfl) hb hk hst hl hf
 exact W1 (AnyZ.keys_gives (ρ:=Tryz.keysB_ren) { Tryz.keysB with } Fence.wide 3 trivial rfl (by omega) Bm b ks.length D0 w hB hc hown) hs hp
theorem keysC : Kz Tryz.prog 157 249 150:=Ku (enters_of Tryz.func249 (by kernel_rfl) rfl) fun w Bm b es clock ks hB hc hb hk hst hl hf=>by
 obtain ⟨D0,hown,hp,hs⟩:=Zek (H:=Unit) (P:=Tryz.prog) (k:=Tryz.keysC_ren.t 26) (by kernel_rfl) hb hk hst hl hf
 exact W1 (AnyZ.keys_gives (ρ:=Tryz.keysC_ren) { Tryz.keysC with } Fence.wide 3 trivial rfl (by omega) Bm b ks.length D0 w hB hc hown) hs hp
theorem keysD : Kz Tryz.prog 157 273 150:=Ku (enters_of Tryz.func273 (by kernel_rfl) rfl) fun w Bm b es clock ks hB hc hb hk hst hl hf=>by
 obtain ⟨D0,hown,hp,hs⟩:=Zek (H:=Unit) (P:=Tryz.prog) (k:=Tryz.keysD_ren.t 26) (by kernel_rfl) hb hk hst hl hf
 exact W1 (AnyZ.keys_gives (ρ:=Tryz.keysD_ren) { Tryz.keysD with } Fence.wide 3 trivial rfl (by omega) Bm b ks.length D0 w hB hc hown) hs hp
abbrev ZbR : List Nat:=[208,214,249,273]
noncomputable def np : Nat→Option (List Value→M Value)
 | 94=>some Zbo
 | 95=>some Zbo
 | 146=>some Zbo
 | 97=>some Zff
 | 157=>some (J8 ZbR Qa)
 | 287=>some Zj2
 | 285=>some ZjC
 | _=>none
theorem ZhA (w0 : Zi) : ∀ g m,np g=some m→QU Tryz.prog Tryz.prog.globals.size w0 g m:=by
 intro g m h
 unfold np at h
 split at h
 ·cases h;exact Wn clA
 ·cases h;exact Wn clB
 ·cases h;exact Wn clC
 ·cases h;exact ZjG (ZmG clC)
 ·cases h
  exact ZiJ (by simp) fun gk hg=>by
   simp only [List.mem_cons,List.not_mem_nil,or_false] at hg
   rcases hg with rfl | rfl | rfl | rfl
   ·exact keysA
   ·exact keysB
   ·exact keysC
   ·exact keysD
 ·cases h;exact (Zjr ⟨Tryz.f287,Tryz.func287,by kernel_rfl,by kernel_rfl,by kernel_rfl,by kernel_rfl⟩)
 ·cases h;exact (ZjN ⟨Tryz.f285,Tryz.func285,by kernel_rfl,by kernel_rfl,by kernel_rfl,by kernel_rfl⟩)
 ·cases h
noncomputable abbrev R (n : Nat) : Zb:=run Tryz.prog np lvs n
end Go.Proofs.YtgfbgfafajiehaaGreatDoor.A

namespace Go.Proofs.YtgfbgfafajiehaaGreatDoor.A
set_option linter.unusedVariables false
set_option linter.unusedSimpArgs false
open Go.Proofs Go.Proofs.YtgfbgfafajiehaaGreatDoor
def ZeK (gks : List FuncId) (gc : FuncId) (args : List Value) : M Value:=fun H=>
 match args with
 | [.func (.func gk) a b,.func (.func g2) a2 b2]=>match a.toList,b.toList,a2.toList,b2.toList with
  | [],[.pointer (some ⟨c,0,none⟩)],[],[]=>bif gks.any (Nat.beq gk) && Nat.beq g2 gc then (match H[c]? with
   | some (.cells [.map (some id)] _ false false)=>(match H[id]? with
    | some (.map [] _)=>some (.slice none 0 0,H)
    | _=>none)
   | _=>none) else none
  | _,_,_,_=>none
 | _=>none
theorem ZjB {gks : List FuncId} {gc : FuncId} {args : List Value} : Ref (ZeK gks gc args) (J8 gks gc args):=by
 intro H x h
 unfold ZeK at h
 split at h
 ·rename_i gk a b g2 a2 b2
  split at h
  ·rename_i c h1 h2 h3 h4
   have e1 : a=#[]:=by apply Array.ext';exact h1
   have e2 : b=#[pt c]:=by apply Array.ext';exact h2
   have e3 : a2=#[]:=by apply Array.ext';exact h3
   have e4 : b2=#[]:=by apply Array.ext';exact h4
   subst e1;subst e2;subst e3;subst e4
   cases hb : (gks.any (Nat.beq gk) && Nat.beq g2 gc) with
   | false=>rw [hb] at h;cases h
   | true=>
    rw [hb] at h
    simp only [Bool.and_eq_true] at hb
    obtain ⟨hb1,hb2⟩:=hb
    have:=Nat.eq_of_beq_eq_true hb2
    subst this
    obtain ⟨u,hu,hbq⟩:=List.any_eq_true.1 hb1
    have:=Nat.eq_of_beq_eq_true hbq
    subst this
    simp only [cond_true] at h
    split at h
    ·rename_i id es hc
     split at h
     ·rename_i clk hid
      cases h
      rw [ZhS (es:=[]) (ks:=[]) hu hc ⟨rfl,List.nodup_nil,by simp,by simp⟩ (.inl ⟨clk,hid,by simp,by simp⟩)]
      rfl
     ·cases h
    ·cases h
  ·cases h
 ·cases h
noncomputable def npC : Nat→Option (List Value→M Value):=fun g=>
 match np g with
 | none=>none
 | some m=>bif Nat.beq g Qk then some (ZeK ZbR Qa) else some fun _=>fail
def gl : List Zl:=[.cells (signsG.map fun s=>.string ⟨s.toArray⟩) 1 false true,.dead,.dead,.dead]
where signsG : List (List UInt8):=[[97,98],[97],[97,98],[97],[97],[97,98],[97],[97],[97,98],[97],[97],[97,98],[97,98],[97],[97],[],[110,114]]
def ans (x : Option (Value × Za)) : Nat:=match x with
 | some (.bool true,_)=>1
 | some (.bool false,_)=>2
 | some _=>3
 | none=>0
theorem Zlq {x : Option (Value × Za)} (h : ans x=1) : ∃ H1,x=some (.bool true,H1):=by
 unfold ans at h
 split at h
 ·exact ⟨_,rfl⟩
 all_goals simp at h
theorem ZkJ : np Qk=some (J8 ZbR Qa):=rfl
theorem ZmY : ZmL npC np:=by
 intro g
 cases h : np g with
 | none=>left;exact ⟨by unfold npC;rw [h],rfl⟩
 | some m=>
  right
  cases e : Nat.beq g Qk with
  | true=>
   have:=Nat.eq_of_beq_eq_true e
   subst this
   refine ⟨ZeK ZbR Qa,m,by unfold npC;rw [h];rfl,rfl,fun _=>?_⟩
   have : J8 ZbR Qa=m:=Option.some.inj (ZkJ.symm.trans h)
   rw [← this]
   exact ZjB
  | false=>exact ⟨fun _=>fail,m,by unfold npC;rw [h];simp only [e,cond_false],rfl,fun _=>Ref.fail⟩
theorem gl_plain : Zbe gl:=by
 intro g o h
 match g,h with
 | 0,h=>
  cases h
  refine .inr ⟨_,_,_,rfl,fun v hv=>?_⟩
  obtain ⟨s,_,rfl⟩:=List.mem_map.1 hv
  rfl
 | 1,h=>cases h;exact .inl rfl
 | 2,h=>cases h;exact .inl rfl
 | 3,h=>cases h;exact .inl rfl
 | g+4,h=>simp [gl] at h
theorem W4 {g : FuncId} (h : ans (Zdt Tryz.prog npC lvs 1000 60 g [] gl)=1) (hgy : g < Z0) (hbody : ∀ fn,Tryz.prog.funcs[g]?=some fn→fn.body.isNone=false) (w0 : Zi) : QU Tryz.prog Tryz.prog.globals.size w0 g (KZ gl (.bool true)):=by
 obtain ⟨H1,h1⟩:=Zlq h
 exact Ziw (P:=Tryz.prog) (by kernel_rfl) ZhA rfl gl_plain hgy hbody (v:=.bool true) rfl (n:=60) ⟨H1,Zao ZmY 1000 60 g [] gl _ h1⟩ w0
theorem Zmq {H : Za} (h : H.take gl.length=gl) : KZ gl (.bool true) [] H=some (.bool true,H):=by
 unfold KZ
 rw [if_pos ⟨rfl,h⟩]
end Go.Proofs.YtgfbgfafajiehaaGreatDoor.A

namespace Go.Proofs.YtgfbgfafajiehaaGreatDoor.A
set_option linter.unusedVariables false
set_option linter.unusedSimpArgs false
open Go.Proofs Go.Proofs.YtgfbgfafajiehaaGreatDoor
set_option maxRecDepth 1000000 in
theorem Zme : ans (Zdt Tryz.prog npC lvs 1000 60 QI [] gl)=1:=by kernel_rfl
noncomputable def npM : Nat→Option (List Value→M Value):=fun g=>bif Nat.beq g QI then some (KZ gl (.bool true)) else np g
theorem npM_sound (w0 : Zi) (g : FuncId) (m : List Value→M Value) (h : npM g=some m) : QU Tryz.prog Tryz.prog.globals.size w0 g m:=by
 unfold npM at h
 cases e : Nat.beq g QI with
 | true=>
  rw [e] at h
  have:=Nat.eq_of_beq_eq_true e
  subst this
  cases h
  exact W4 Zme (by decide) (fun fn hf=>by cases (Tryz.func25.symm.trans hf);rfl) w0
 | false=>rw [e] at h;exact ZhA w0 g m h
end Go.Proofs.YtgfbgfafajiehaaGreatDoor.A

namespace Go.Proofs.YtgfbgfafajiehaaGreatDoor.A
set_option linter.unusedVariables false
set_option linter.unusedSimpArgs false
open Go.Proofs Go.Proofs.YtgfbgfafajiehaaGreatDoor
noncomputable abbrev RM (n : Nat) : Zb:=run Tryz.prog npM lvs n
variable {n : Nat} {H : Za}
theorem Zlg (h : H.take gl.length=gl) : RM (n+1) QI [] H=some (.bool true,H):=by
 have : RM (n+1) QI []=KZ gl (.bool true) []:=rfl
 rw [this,Zmq h]
def Jl (x : Int) : Bool:=x==3 || (x==5 || x==7)
theorem Zmc {x : Int} : RM (n+1) Yl [.int .i64 x] H=some (.bool (Jl x),H):=by
 rw [RM,ZfT rfl]
 unfold KT Jl
 simp only [↓Q8,Q9,↓YK,JH,JP,JJ,↓JD,WS,KO,ZbB,YB,WQ,YI,ZaH,W6,KY,Zau,KN,Zag,Y3,YY,YU,KJ,Zad,Zd4,ZdJ,Kl,KP,WW,Q4,Ki,WT,Zav,Zal,Kj,W5,Zaz,Kk,Zar,YS,WP,Zaj,Zay,ZaF,↓Zd0,WX,↓g_r,Zdu,Bool.not_true,Bool.not_false,Bool.false_eq_true,Bool.true_eq_false,reduceIte,List.tail_cons,List.headD_cons,decide_true,decide_false,cond_true,cond_false,Nat.beq_refl,Zdv,ZdV,Wq,Zdg,ZdF,Zdc,ZdS,Zb3,ZdE,Zde,ZaE,Zah,Zax,Y2,List.replicate,YH,YC,YL,Yx,Yy,ZdL,K0,KQ,Zt]
 cases h3 : x==3 <;> cases h5 : x==5 <;> cases h7 : x==7 <;> simp [↓Q8,Q9,↓YK,JH,JP,JJ,↓JD,WS,KO,ZbB,YB,WQ,YI,ZaH,W6,KY,Zau,KN,Zag,Y3,YY,YU,KJ,Zad,Zd4,ZdJ,Kl,KP,WW,Q4,Ki,WT,Zav,Zal,Kj,W5,Zaz,Kk,Zar,YS,WP,Zaj,Zay,ZaF,↓Zd0,WX,↓g_r,Zdu,Bool.not_true,Bool.not_false,Bool.false_eq_true,Bool.true_eq_false,reduceIte,List.tail_cons,List.headD_cons,decide_true,decide_false,cond_true,cond_false,Nat.beq_refl,Zdv,ZdV,Wq,Zdg,ZdF,Zdc,ZdS,Zb3,ZdE,Zde,ZaE,Zah,Zax,Y2,List.replicate,YH,YC,YL,Yx,Yy,ZdL,K0,KQ,Zt,h3,h5,h7]
theorem Zls {x : Int} : ∃ p H',RM (n+1) YM [.int .i64 x] H=some (if Jl x then .pointer (some p) else .pointer none,H'):=by
 rw [RM,ZgC rfl]
 unfold Wt
 by_cases h3 : x=3
 ·subst h3;exact ⟨⟨_,_,_⟩,_,by simp [↓Q8,Q9,↓YK,JH,JP,JJ,↓JD,WS,KO,ZbB,YB,WQ,YI,ZaH,W6,KY,Zau,KN,Zag,Y3,YY,YU,KJ,Zad,Zd4,ZdJ,Kl,KP,WW,Q4,Ki,WT,Zav,Zal,Kj,W5,Zaz,Kk,Zar,YS,WP,Zaj,Zay,ZaF,↓Zd0,WX,↓g_r,Zdu,Bool.not_true,Bool.not_false,Bool.false_eq_true,Bool.true_eq_false,reduceIte,List.tail_cons,List.headD_cons,decide_true,decide_false,cond_true,cond_false,Nat.beq_refl,Zdv,ZdV,Wq,Zdg,ZdF,Zdc,ZdS,Zb3,ZdE,Zde,ZaE,Zah,Zax,Y2,List.replicate,YH,YC,YL,Yx,Yy,ZdL,K0,KQ,Zt,Jl,mks,bld,Ka];rfl⟩
 by_cases h5 : x=5
 ·subst h5;exact ⟨⟨_,_,_⟩,_,by simp [↓Q8,Q9,↓YK,JH,JP,JJ,↓JD,WS,KO,ZbB,YB,WQ,YI,ZaH,W6,KY,Zau,KN,Zag,Y3,YY,YU,KJ,Zad,Zd4,ZdJ,Kl,KP,WW,Q4,Ki,WT,Zav,Zal,Kj,W5,Zaz,Kk,Zar,YS,WP,Zaj,Zay,ZaF,↓Zd0,WX,↓g_r,Zdu,Bool.not_true,Bool.not_false,Bool.false_eq_true,Bool.true_eq_false,reduceIte,List.tail_cons,List.headD_cons,decide_true,decide_false,cond_true,cond_false,Nat.beq_refl,Zdv,ZdV,Wq,Zdg,ZdF,Zdc,ZdS,Zb3,ZdE,Zde,ZaE,Zah,Zax,Y2,List.replicate,YH,YC,YL,Yx,Yy,ZdL,K0,KQ,Zt,Jl,mks,bld,Ka];rfl⟩
 by_cases h7 : x=7
 ·subst h7;exact ⟨⟨_,_,_⟩,_,by simp [↓Q8,Q9,↓YK,JH,JP,JJ,↓JD,WS,KO,ZbB,YB,WQ,YI,ZaH,W6,KY,Zau,KN,Zag,Y3,YY,YU,KJ,Zad,Zd4,ZdJ,Kl,KP,WW,Q4,Ki,WT,Zav,Zal,Kj,W5,Zaz,Kk,Zar,YS,WP,Zaj,Zay,ZaF,↓Zd0,WX,↓g_r,Zdu,Bool.not_true,Bool.not_false,Bool.false_eq_true,Bool.true_eq_false,reduceIte,List.tail_cons,List.headD_cons,decide_true,decide_false,cond_true,cond_false,Nat.beq_refl,Zdv,ZdV,Wq,Zdg,ZdF,Zdc,ZdS,Zb3,ZdE,Zde,ZaE,Zah,Zax,Y2,List.replicate,YH,YC,YL,Yx,Yy,ZdL,K0,KQ,Zt,Jl,mks,bld,Ka];rfl⟩
 have e3 : (x==3)=false:=by simpa using h3
 have e5 : (x==5)=false:=by simpa using h5
 have e7 : (x==7)=false:=by simpa using h7
 exact ⟨⟨0,0,none⟩,H,by simp [↓Q8,Q9,↓YK,JH,JP,JJ,↓JD,WS,KO,ZbB,YB,WQ,YI,ZaH,W6,KY,Zau,KN,Zag,Y3,YY,YU,KJ,Zad,Zd4,ZdJ,Kl,KP,WW,Q4,Ki,WT,Zav,Zal,Kj,W5,Zaz,Kk,Zar,YS,WP,Zaj,Zay,ZaF,↓Zd0,WX,↓g_r,Zdu,Bool.not_true,Bool.not_false,Bool.false_eq_true,Bool.true_eq_false,reduceIte,List.tail_cons,List.headD_cons,decide_true,decide_false,cond_true,cond_false,Nat.beq_refl,Zdv,ZdV,Wq,Zdg,ZdF,Zdc,ZdS,Zb3,ZdE,Zde,ZaE,Zah,Zax,Y2,List.replicate,YH,YC,YL,Yx,Yy,ZdL,K0,KQ,Zt,Jl,e3,e5,e7]⟩
theorem ZiL : RM (n+1) YP [] H=some (.int .i64 1733,H):=by
 rw [RM,ZgE rfl]
 unfold Ww
 rfl
theorem Zj0 {β : Type} {a b : M β} : cnd (.bool false) a b=b:=rfl
theorem ZlO {β : Type} {a b : M β} : cnd (.bool true) a b=a:=rfl
theorem Zhw {x : Int} : ∃ H',RM (n+2) Qh [.int .i64 x] H=some (.int .i64 (if Jl x then 5041+x else 0),H'):=by
 obtain ⟨p,H',e⟩:=Zls (n:=n) (H:=H) (x:=x)
 refine ⟨H',?_⟩
 rw [RM,Zgq rfl]
 unfold Wv
 rw [Zo e]
 cases ht : Jl x with
 | false=>
  rw [if_neg (by simp),Zo (show bop .ptr .eql (.pointer none) (.pointer none) H'=some (.bool true,H') from rfl),ZlO]
  rfl
 | true=>
  have hx : x=3∨x=5∨x=7:=by
   simp only [Jl,Bool.or_eq_true,beq_iff_eq] at ht
   exact ht
  have e2:=ZiL (n:=n) (H:=H')
  rw [if_pos rfl,Zo (show bop .ptr .eql (.pointer (some p)) (.pointer none) H'=some (.bool false,H') from rfl),Zj0,Zo e2,Zo Q4,Zo Q4,Zo Q4,Zo Q4]
  rcases hx with rfl | rfl | rfl <;> rfl
theorem ZlM {b : Bool} : uop .not (.bool b) H=some (.bool (!b),H):=rfl
theorem Zmj {x : Int} (h : H.take gl.length=gl) : ∃ H',RM (n+3) QS [.int .i64 x] H=some (.bool true,H'):=by
 rw [RM,ZbD rfl]
 unfold JN
 rw [Zo (Zlg (n:=n+1) h),Zo ZlM,Bool.not_true,Zj0,Zo (Zmc (n:=n+1) (H:=H) (x:=x)),Zo ZlM]
 obtain ⟨H1,e1⟩:=Zhw (n:=n) (H:=H) (x:=x)
 cases ht : Jl x with
 | false=>
  rw [ht] at e1
  rw [Bool.not_false,ZlO,Zo e1,Zo Kj]
  exact ⟨H1,rfl⟩
 | true=>
  have hx : x=3∨x=5∨x=7:=by
   simp only [Jl,Bool.or_eq_true,beq_iff_eq] at ht
   exact ht
  rw [ht,if_pos rfl] at e1
  obtain ⟨H2,e2⟩:=Zhw (n:=n) (H:=H1) (x:=3)
  obtain ⟨H3,e3⟩:=Zhw (n:=n) (H:=H2) (x:=3)
  have t3 : Jl 3=true:=by decide
  rw [t3,if_pos rfl] at e2 e3
  rw [Bool.not_true,Zj0,Zo e1,Zo e2,Zo Q4,Zo Ki,Zo Kj]
  refine ⟨H3,?_⟩
  have hq : ((5041+x : Int)==IntKind.i64.wrap (IntKind.i64.wrap (5041+3+x) - 3))=true:=by rcases hx with rfl | rfl | rfl <;> rfl
  rw [hq]
  have hg : gate (.bool true) true 2 (bind (run Tryz.prog npM lvs (n+2) Qh [.int .i64 3]) fun v19x12=>bind (bop .int .leq v19x12 (.int .i64 5632)) fun v20x13=>ret [v19x12,v20x13]) H2=some ([.int .i64 (5041+3),.bool true],H3):=by
   rw [g_r,if_pos rfl,Zo e3,Zo Kk,show decide ((5041+3 : Int)≤5632)=true from by decide]
   rfl
  rw [Zo hg]
  rfl
theorem law_ImageMost : ∀ (xs : Ins [.int .i64]) (H : Za) (vs : List Value),ZgZ [.int .i64] xs→H.take gl.length=gl→ZgX [.int .i64] xs H vs→∃ n H',RM n QS vs H=some (.bool true,H'):=by
 intro xs H vs hwf hg hrd
 obtain ⟨x,_⟩:=xs
 obtain ⟨c2,_,rfl,hc2,h2,rfl⟩:=hrd
 have h2 : c2=[.int .i64 x]:=h2
 subst h2
 obtain ⟨H',e⟩:=Zmj (n:=0) (x:=x) hg
 exact ⟨3,H',e⟩
end Go.Proofs.YtgfbgfafajiehaaGreatDoor.A

