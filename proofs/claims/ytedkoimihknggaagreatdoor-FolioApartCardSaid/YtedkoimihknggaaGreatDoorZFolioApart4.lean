/- What the law FolioApart needs (part 4). -/
import Derived.Test.YtedkoimihknggaaGreatDoorZFolioApart3
import Derived.Maps.Own
import Derived.Sort.KeysCollected
import Derived.Lib.Bytealg
import Derived.Test.YtedkoimihknggaaGreatDoorProg
import Derived.WalkKit
import Derived.Maps.RangeWalk
import Derived.Deep.RegionWith
import Derived.Deep.Cut
import Derived.Laws.Cover1
import Derived.Sort.Walk0
import Derived.Sort.OwnSorted
import Derived.Shelf.SlGeneric
import Derived.Shelf.SlIter.Collect
import Derived.Shelf.SlSortCmp.Whole1
import Derived.Shelf.SlMaps.Clone
import Derived.Ground.GgzProg
import Derived.Ground.SlsfProg
import Derived.Ground.SlmcProg
import Derived.KernelRfl
namespace Go.Proofs.YtedkoimihknggaaGreatDoor.A
set_option linter.unusedVariables false
set_option linter.unusedSimpArgs false
open Go.Sort
section
variable {P : Program} {w0 : Qj} {ι : Nat→Option Loc} {H H1 : Zd} {w w' : World} {v : Value} {G : Nat}
def Zb5 (args : List Value) : M Value:=fun H=>
 match args with
 | [.map none]=>some (.map none,H)
 | [.map (some id)]=>match H[id]? with
  | some (.map es clk)=>some (.map (some H.length),H++[.map es clk])
  | some (.mapU es)=>some (.map (some H.length),H++[.mapU es])
  | _=>none
 | _=>none
structure Zg4 (P : Program) (g : FuncId) : Prop where
 c : Zdb P g
 nil : ∀ w,Calls P g #[.map none] w fun e w'=>e=.returned (.map none)∧w'=w
 some : ∀ b es clock w,w.heap[b]?=some (.map es clock)→Calls P g #[.map (some b)] w fun e w'=>e=.returned (.map (some w.heap.size))∧w'=w.alloc (.map es clock)
theorem Zib {g : FuncId} (hC : Zg4 P g) : ZfS P G w0 g Zb5:=by
 intro args H v H1 h
 refine .inl ⟨hC.c,fun ι w args' hS hr=>?_⟩
 unfold Zb5 at h
 split at h
 ·cases h
  obtain ⟨x,r,rfl,hx,hr2⟩:=hr.cons_inv
  rw [hr2.nil_inv,hx.scalar_inv rfl]
  refine (hC.nil w).mono fun e w' ⟨he,hw⟩=>⟨ι,_,.refl ι,he,.sc rfl,by rw [hw];exact hS⟩
 ·obtain ⟨x,r,rfl,hx,hr2⟩:=hr.cons_inv
  obtain ⟨l,hl,rfl⟩:=hx.map_inv
  rw [hr2.nil_inv]
  split at h
  ·rename_i id _ es clk hid
   cases h
   obtain ⟨en,hb,hge,hE⟩:=hS.mapR hid hl
   refine (hC.some l.blk en clk w hb).mono fun e w' ⟨he,hw⟩=>?_
   have hnew:=hS.new (x:=.map es clk) (l:=⟨w.heap.size,0,0,0,false⟩) (.map en clk) rfl ⟨_,en,Qp _ _ _,Zeh w _,hS.size,hE.mono (Yq hS _)⟩
   exact ⟨_,_,Yq hS _,he,.mp (Qp _ _ _),by rw [hw];exact hnew⟩
  ·rename_i id _ es hid
   cases h
   obtain ⟨en,clk,es2,hb,hge,hE,hp⟩:=hS.mapUR hid hl
   refine (hC.some l.blk en clk w hb).mono fun e w' ⟨he,hw⟩=>?_
   have hnew:=hS.new (x:=.mapU es) (l:=⟨w.heap.size,0,0,0,false⟩) (.map en clk) rfl ⟨_,en,clk,es2,Qp _ _ _,Zeh w _,hS.size,hE.mono (Yq hS _),hp⟩
   exact ⟨_,_,Yq hS _,he,.mp (Qp _ _ _),by rw [hw];exact hnew⟩
  ·cases h
 ·cases h
abbrev Z4 (ks : List (List UInt8)) : List (List UInt8):=ks.mergeSort leB
structure Zf2 (es : List (Value × Value × Nat)) (ks : List (List UInt8)) : Prop where
 keys : es.map (·.1)=ks.map strv
 nod : ks.Nodup
 few : ks.length≤1000000
 len : ∀ k∈ks,k.length≤1000000
theorem Znz {a b : List UInt8} (h : strv a=strv b) : a=b:=by simpa [strv] using h
theorem Zt1 {a b : List (List UInt8)} (h : a.map strv=b.map strv) : a=b:=by
 have : Function.Injective strv:=fun _ _ h=>Znz h
 exact (List.map_inj_right (fun _ _ h=>Znz h)).1 h
def ZiO (ks : List (List UInt8)) (H : Zd) : Option (Value × Zd):=
 if ks=[] then some (.slice none 0 0,H)
 else some (.slice (some ⟨H.length,0,none⟩) ks.length ks.length,H++[.cells ((Z4 ks).map strv) 1 true false])
open Classical in
noncomputable def ZeU (gks : List FuncId) (gc : FuncId) (args : List Value) : M Value:=fun H=>
 if h : ∃ gk c id es ks,gk∈gks∧args=[.func (.func gk) #[] #[pt c],.func (.func gc) #[] #[]]∧(∃ e,H[c]?=some (.cells [.map (some id)] e false false))∧Zf2 es ks∧((∃ clk,H[id]?=some (.map es clk)∧Zcn es clk)∨H[id]?=some (.mapU es)) then
  ZiO (Classical.choose (Classical.choose_spec (Classical.choose_spec (Classical.choose_spec (Classical.choose_spec h))))) H
 else none
theorem ZsJ {gks : List FuncId} {gc gk : FuncId} {c id e : Nat} {es : List (Value × Value × Nat)} {ks : List (List UInt8)} (hg : gk∈gks) (hc : H[c]?=some (.cells [.map (some id)] e false false)) (hk : Zf2 es ks)
  (hm : (∃ clk,H[id]?=some (.map es clk)∧Zcn es clk)∨H[id]?=some (.mapU es)) : ZeU gks gc [.func (.func gk) #[] #[pt c],.func (.func gc) #[] #[]] H=ZiO ks H:=by
 have hex : ∃ gk' c' id' es' ks',gk'∈gks∧[Value.func (.func gk) #[] #[pt c],.func (.func gc) #[] #[]]=[.func (.func gk') #[] #[pt c'],.func (.func gc) #[] #[]]∧(∃ e,H[c']?=some (.cells [.map (some id')] e false false))∧Zf2 es' ks'∧((∃ clk,H[id']?=some (.map es' clk)∧Zcn es' clk)∨H[id']?=some (.mapU es')):=
  ⟨gk,c,id,es,ks,hg,rfl,⟨e,hc⟩,hk,hm⟩
 unfold ZeU
 rw [dif_pos hex]
 congr 1
 obtain ⟨_,h2,⟨e',h3⟩,h4,h5⟩:=Classical.choose_spec (Classical.choose_spec (Classical.choose_spec (Classical.choose_spec (Classical.choose_spec hex))))
 generalize Classical.choose (Classical.choose_spec (Classical.choose_spec (Classical.choose_spec (Classical.choose_spec hex))))=ks' at h4 ⊢
 generalize Classical.choose (Classical.choose_spec (Classical.choose_spec (Classical.choose_spec hex)))=es' at h4 h5
 generalize Classical.choose (Classical.choose_spec (Classical.choose_spec hex))=id' at h3 h5
 generalize Classical.choose (Classical.choose_spec hex)=c' at h2 h3
 have ec : c=c':=by simp at h2;exact h2.2
 subst ec
 rw [hc] at h3
 have ei : id=id':=by simp at h3;exact h3.1
 subst ei
 have ees : es'=es:=by
  rcases hm with ⟨clk,h6,_⟩ | h6 <;> rcases h5 with ⟨clk',h7,_⟩ | h7 <;> rw [h6] at h7 <;> cases h7 <;> rfl
 subst ees
 exact Zt1 (h4.keys.symm.trans hk.keys)
theorem ZyK {gks : List FuncId} {gc : FuncId} {args : List Value} (h : ZeU gks gc args H=some (v,H1)) :
  ∃ gk c id e es ks,gk∈gks∧args=[.func (.func gk) #[] #[pt c],.func (.func gc) #[] #[]]∧H[c]?=some (.cells [.map (some id)] e false false)∧Zf2 es ks∧((∃ clk,H[id]?=some (.map es clk)∧Zcn es clk)∨H[id]?=some (.mapU es))∧ZiO ks H=some (v,H1):=by
 have h0:=h
 unfold ZeU at h
 split at h
 ·rename_i hex
  obtain ⟨gk,c,id,es,ks,h1,rfl,⟨e,h3⟩,h4,h5⟩:=hex
  rw [ZsJ h1 h3 h4 h5] at h0
  exact ⟨gk,c,id,e,es,ks,h1,rfl,h3,h4,h5,h0⟩
 ·cases h
structure Zik (P : Program) (g gk gc : FuncId) : Prop where
 c : Zdb P g
 run : ∀ (w : World) (Bm b : Nat) (es : Array MapEntry) (clock : Nat) (ks : List (List UInt8)),Bm < w.heap.size→w.cell? ⟨Bm,0,none⟩=some (.map (some b))→w.heap[b]?=some (.map es clock)→es.toList.map (·.key)=ks.map strv→Go.MapKept.Stamped es clock→
  (∀ k∈ks,k.length≤1000000)→ks.length≤1000000→
  Calls P g #[.func (.func gk) #[] #[.pointer (some ⟨Bm,0,none⟩)],.func (.func gc) #[] #[]] w fun e w'=>∃ (v : Value) (t : TypeId),e=.returned v∧w'.ownsRow w.heap.size t 1 v ks.length ((Z4 ks).map strv)∧(v=.slice none 0 0↔ks=[])∧Go.RowKit.Below w.heap.size w w'
theorem Sim.below (h : Sim G w0 ι H w) (hb : Go.RowKit.Below w.heap.size w w') : Sim G w0 ι H w':=by
 refine ⟨fun i x hx=>(h.obj i x hx).blk fun l hl hd=>?_,h.inj,Nat.le_trans h.size hb.size,fun b hlt=>by rw [hb.block b (Nat.lt_of_lt_of_le hlt h.size)];exact h.old b hlt,h.dom,h.glob,?_,fun b hbp=>?_,fun j cs es nx l hj hl=>(h.views j cs es nx l hj hl).to (.refl ι) fun h1 ⟨c0,el0,fr0,hc0⟩=>⟨fun c el fr hc=>⟨fr,by rw [hb.block _ (Array.getElem?_eq_some_iff.1 hc0).1];exact hc⟩,h1⟩⟩
 ·obtain ⟨l',hl',hlt⟩:=(h.obj i x hx).loc hd
  rw [hl] at hl';cases hl'
  exact hb.block _ hlt
 ·rw [hb.os,hb.tape,hb.output];exact h.rest
 ·obtain ⟨p1,p2,p3⟩:=h.prot b hbp
  have hlt : b < w.heap.size:=by
   rcases Nat.lt_or_ge b w.heap.size with h1 | h1
   ·exact h1
   ·rw [Array.getElem?_eq_none h1] at p1;cases p1
  exact ⟨by rw [hb.block b hlt];exact p1,p2,p3⟩
theorem JC.keys {ι : Nat→Option Loc} : ∀ {es : List (Value × Value × Nat)} {en : List MapEntry},JC ι es en→en.map (·.key)=es.map (·.1)∧en.map (·.born)=es.map (·.2.2)
 | [],[],_=>⟨rfl,rfl⟩
 | e :: es,n :: ns,h=>by
  obtain ⟨h1,h2⟩:=JC.keys h.2
  exact ⟨by rw [List.map_cons,List.map_cons,h1,h.1.2.1],by rw [List.map_cons,List.map_cons,h2,h.1.2.2.2]⟩
 | [],_ :: _,h=>h.elim
 | _ :: _,[],h=>h.elim
theorem ZwS {a b : List (List UInt8)} (h : a.Perm b) : Z4 a=Z4 b:=mergeSort_of_perm h
theorem Zrd (ks : List (List UInt8)) : (Z4 ks).length=ks.length:=List.length_mergeSort ks
theorem Zjk {ks : List (List UInt8)} (h : ks.Nodup) : (ks.map strv).Nodup:=by
 rw [List.nodup_iff_pairwise_ne] at h ⊢
 rw [List.pairwise_map]
 exact h.imp fun h e=>h (Znz e)
theorem ZuP {gks : List FuncId} {g gc : FuncId} (hgks : gks≠[]) (hC : ∀ gk∈gks,Zik P g gk gc) : ZfS P G w0 g (ZeU gks gc):=by
 intro args H v H1 h
 have hcall : Zdb P g:=by
  cases gks with
  | nil=>exact absurd rfl hgks
  | cons a l=>exact (hC a (by simp)).c
 refine .inl ⟨hcall,fun ι w args' hS hr=>?_⟩
 obtain ⟨gk,c,id,e,es,ks,hg,rfl,hc,hk,hm,ho⟩:=ZyK h
 obtain ⟨x,r,rfl,hx,hr2⟩:=hr.cons_inv
 obtain ⟨y,r,rfl,hy,hr3⟩:=hr2.cons_inv
 rw [hr3.nil_inv]
 obtain ⟨a1,b1,rfl,ha1,hb1⟩:=hx.fn_inv
 obtain ⟨a2,b2,rfl,ha2,hb2⟩:=hy.fn_inv
 have ea1 : a1=#[]:=by have:=ha1.nil_inv;simpa using this
 have ea2 : a2=#[]:=by have:=ha2.nil_inv;simpa using this
 have eb2 : b2=#[]:=by have:=hb2.nil_inv;simpa using this
 obtain ⟨p',q',eb1,hp',hq'⟩:=hb1.cons_inv
 have:=hq'.nil_inv
 subst this
 obtain ⟨lc,hlc,rfl⟩:=hp'.ptr_inv
 have eb1 : b1=#[.pointer (some ⟨lc.blk,lc.base+0,none⟩)]:=by
  apply Array.ext'
  simpa using eb1
 subst ea1
 subst ea2
 subst eb2
 subst eb1
 obtain ⟨cc,el,fr,_,hgrow,hbc,hb5,hb6,hrc,hro,_⟩:=hS.cellsR hc hlc
 have hbase : lc.base=0:=(hro rfl).2.2 hgrow
 have hbl : lc.blk < w.heap.size:=by
  rcases Nat.lt_or_ge lc.blk w.heap.size with h1 | h1
  ·exact h1
  ·rw [Array.getElem?_eq_none h1] at hbc;cases hbc
 obtain ⟨u,hu1,hu2⟩:=hrc.at (o:=0) (by simp)
 obtain ⟨lm,hlm,hu3⟩:=RV.map_inv (id:=id) hu2
 subst hu3
 have hcell : w.cell? ⟨lc.blk,0,none⟩=some (.map (some lm.blk)):=by
  rw [ZgT hbc]
  simpa [hbase] using hu1
 obtain ⟨en,clock,ks',hmb,hkeys,hst,hperm⟩ : ∃ (en : Array MapEntry) (clock : Nat) (ks' : List (List UInt8)),w.heap[lm.blk]?=some (.map en clock)∧en.toList.map (·.key)=ks'.map strv∧Go.MapKept.Stamped en clock∧ks'.Perm ks:=by
  rcases hm with ⟨clk,hid,hst⟩ | hid
  ·obtain ⟨en,hb,_,hE⟩:=hS.mapR hid hlm
   obtain ⟨k1,k2⟩:=JC.keys hE
   refine ⟨en,clk,ks,hb,k1.trans hk.keys,⟨fun x hx=>?_,by rw [k2];exact hst.nod,by rw [k1,hk.keys];exact Zjk hk.nod⟩,.refl _⟩
   have : x.born∈en.toList.map (·.born):=List.mem_map.2 ⟨x,hx,rfl⟩
   rw [k2] at this
   obtain ⟨e',h1,h2⟩:=List.mem_map.1 this
   rw [← h2];exact hst.lt e' h1
  ·obtain ⟨en,clk,es2,hb,_,hE,hp⟩:=hS.mapUR hid hlm
   obtain ⟨k1,k2⟩:=JC.keys hE
   have hpk : (es2.map (·.1)).Perm (es.map (·.1)):=by
    have:=hp.perm.map (·.1)
    rwa [ZeM,ZeM] at this
   obtain ⟨ks2,hks2⟩ : ∃ ks2 : List (List UInt8),es2.map (·.1)=ks2.map strv:=by
    refine ⟨es2.map fun e=>match e.1 with | .string s=>s.data.toList | _=>[],?_⟩
    rw [List.map_map]
    refine List.map_congr_left fun e he=>?_
    obtain ⟨s,hs⟩:=hp.strs e he
    simp [hs,strv]
   rw [hks2,hk.keys] at hpk
   have hpk2 : ks2.Perm ks:=by
    have h3:=hpk.map fun v : Value=>match v with | .string s=>s.data.toList | _=>([] : List UInt8)
    simpa [List.map_map,Function.comp_def,strv] using h3
   refine ⟨en,clk,ks2,hb,k1.trans hks2,⟨fun x hx=>?_,by rw [k2];exact hp.st.nod,by rw [k1];exact hp.nod2⟩,hpk2⟩
   have : x.born∈en.toList.map (·.born):=List.mem_map.2 ⟨x,hx,rfl⟩
   rw [k2] at this
   obtain ⟨e',h1,h2⟩:=List.mem_map.1 this
   rw [← h2];exact hp.st.lt e' h1
 have hfew:=hk.few
 have hcon:=(hC gk hg).run w lc.blk lm.blk en clock ks' hbl hcell hmb hkeys hst (fun k hm=>hk.len k (hperm.mem_iff.1 hm)) (by rw [hperm.length_eq];exact hfew)
 rw [ZwS hperm,hperm.length_eq] at hcon
 simp only [Nat.add_zero,hbase]
 refine hcon.mono fun ee w' ⟨v',t,he,hrow,hnil,hb⟩=>?_
 have hnil2 : v'=.slice none 0 0↔ks=[]:=by
  rw [hnil]
  constructor
  ·rintro rfl;exact List.eq_nil_of_length_eq_zero (by rw [← hperm.length_eq];rfl)
  ·rintro rfl;exact List.eq_nil_of_length_eq_zero (by rw [hperm.length_eq];rfl)
 have hS':=hS.below hb
 unfold ZiO at ho
 by_cases h0 : ks=[]
 ·rw [if_pos h0] at ho
  cases ho
  exact ⟨ι,_,.refl ι,he,by rw [hnil2.2 h0];exact .sc rfl,hS'⟩
 ·rw [if_neg h0] at ho
  cases ho
  rcases hrow.2 with ⟨hv,_⟩ | ⟨gb,cap,cur,rfl,hge,hgb,r1,r2,r3,r4⟩
  ·exact absurd (hnil2.1 hv) h0
  have hlen : ((Z4 ks).map strv).length=ks.length:=by rw [List.length_map,Zrd]
  rw [Nat.mul_one] at r3 r4
  have hadd:=hS'.add (o:=.cells ((Z4 ks).map strv) 1 true false) (l:=⟨gb,0,cap,1,true⟩) ⟨⟨gb,0,cap,1,true⟩,cur,t,(0,0),Qp _ _ _,rfl,rfl,hgb,by show 0+_≤cap;omega,by show cap≤cur.size;omega,by
   show RVs _ _ ((cur.toList.drop 0).take _)
   rw [List.drop_zero,hlen,r4]
   refine ⟨rfl,fun i hi=>?_⟩
   rw [List.getD_eq_getElem?_getD,List.getElem?_eq_getElem hi]
   simp only [List.getElem_map,Option.getD_some]
   exact .sc rfl,fun _=>⟨Nat.le_trans hS.size hge,.inl rfl,fun h=>by cases h⟩,by simp,fun x hx=>by
   obtain ⟨k,_,rfl⟩:=List.mem_map.1 hx
   rfl⟩ (fun i oi li hi hw hl=>by
   have:=((hS.obj i oi hi).newer hw li hl).2
   show li.blk≠gb
   omega) (fun b hbp=>by
   have p1:=(hS.prot b hbp).1
   show gb≠b
   rintro rfl
   rw [Array.getElem?_eq_none hge] at p1;cases p1) (fun _ j cs es nx lj hj hlj hbe=>by
   rcases hS.views j cs es nx lj hj hlj with ⟨l',k1,k2⟩ | ⟨⟨c,el,fr,k1,_⟩,_⟩
   ·exact ⟨l',k1,k2⟩
   ·have:=(Array.getElem?_eq_some_iff.1 k1).1
    have hbe : lj.blk=gb:=hbe
    omega)
  refine ⟨_,_,Yq hS' _,he,?_,hadd⟩
  have:=RV.slc (ι:=Kz ι H.length ⟨gb,0,cap,1,true⟩) (id:=H.length) (o:=0) (n:=ks.length) (c:=ks.length) (c':=cap) (Qp _ _ _) (Nat.le_refl _) r1 (fun h=>by cases h) (by simp)
  simpa using this
end
end Go.Proofs.YtedkoimihknggaaGreatDoor.A
namespace Go.Proofs.YtedkoimihknggaaGreatDoor.A
set_option linter.unusedVariables false
set_option linter.unusedSimpArgs false
section
variable {α : Type}
def Ze (k : List UInt8) : List (List UInt8 × α)→Option α
 | []=>none
 | p :: m=>if p.1=k then some p.2 else Ze k m
def JY (k : List UInt8) (m : List (List UInt8 × α)) : List (List UInt8 × α):=m.filter fun p=>decide (p.1≠k)
def Qr (k : List UInt8) (v : α) (m : List (List UInt8 × α)) : List (List UInt8 × α):=
 if (Ze k m).isSome then m.map fun p=>if p.1=k then (k,v) else p else m++[(k,v)]
variable {k : List UInt8} {v : α} {m : List (List UInt8 × α)}
theorem Zem : ∀ {m : List (List UInt8 × α)},Ze k m=none↔∀ p∈m,p.1≠k
 | []=>by simp [Ze]
 | p :: m=>by
  simp only [Ze]
  split
  ·rename_i h;simp [h]
  ·rename_i h
   rw [Zem]
   simp [h]
theorem Wk : ∀ {m : List (List UInt8 × α)} {v : α},Ze k m=some v→(k,v)∈m
 | [],v,h=>by cases h
 | p :: m,v,h=>by
  simp only [Ze] at h
  split at h
  ·rename_i hp
   cases h
   subst hp
   simp
  ·exact List.mem_cons_of_mem _ (Wk h)
theorem ZdJ : ∀ {m : List (List UInt8 × α)} {v : α},(m.map (·.1)).Nodup→(k,v)∈m→Ze k m=some v
 | [],v,_,h=>by cases h
 | p :: m,v,hn,h=>by
  simp only [List.map_cons,List.nodup_cons,List.mem_map,not_exists,not_and] at hn
  simp only [Ze]
  rcases List.mem_cons.1 h with h | h
  ·subst h;rw [if_pos rfl]
  ·rw [if_neg fun e=>hn.1 _ h e.symm]
   exact ZdJ hn.2 h
theorem ZzS : ∀ {m : List (List UInt8 × α)} {v : α},Ze k m=some v→∃ j : Nat,m[j]?=some (k,v)
 | m,v,h=>List.getElem?_of_mem (Wk h)
theorem ZiU : ∀ {m : List (List UInt8 × α)} {j : Nat} {v0 : α},(m.map (·.1)).Nodup→m[j]?=some (k,v0)→m.set j (k,v)=m.map fun p=>if p.1=k then (k,v) else p
 | [],j,v0,_,h=>by simp at h
 | p :: m,0,v0,hn,h=>by
  have : p=(k,v0):=by simpa using h
  subst this
  simp only [List.map_cons,List.nodup_cons,List.mem_map,not_exists,not_and] at hn
  simp only [List.set_cons_zero,List.map_cons,if_true]
  congr 1
  conv=>lhs;rw [← List.map_id m]
  refine List.map_congr_left fun q hq=>?_
  rw [if_neg (hn.1 q hq)];rfl
 | p :: m,j+1,v0,hn,h=>by
  have h' : m[j]?=some (k,v0):=by simpa using h
  simp only [List.map_cons,List.nodup_cons,List.mem_map,not_exists,not_and] at hn
  have hp : ¬ p.1=k:=fun e=>hn.1 (k,v0) (List.mem_of_getElem? h') e.symm
  simp only [List.set_cons_succ,List.map_cons,if_neg hp]
  rw [ZiU hn.2 h']
theorem Ze1 : ∀ {m : List (List UInt8 × α)} {j : Nat} {v0 : α},(m.map (·.1)).Nodup→m[j]?=some (k,v0)→m.eraseIdx j=JY k m
 | [],j,v0,_,h=>by simp at h
 | p :: m,0,v0,hn,h=>by
  have : p=(k,v0):=by simpa using h
  subst this
  simp only [List.map_cons,List.nodup_cons,List.mem_map,not_exists,not_and] at hn
  unfold JY
  rw [List.eraseIdx_cons_zero,List.filter_cons,if_neg (by simp)]
  symm
  rw [List.filter_eq_self]
  exact fun q hq=>decide_eq_true (hn.1 q hq)
 | p :: m,j+1,v0,hn,h=>by
  have h' : m[j]?=some (k,v0):=by simpa using h
  simp only [List.map_cons,List.nodup_cons,List.mem_map,not_exists,not_and] at hn
  have hp : ¬ p.1=k:=fun e=>hn.1 (k,v0) (List.mem_of_getElem? h') e.symm
  have ih:=Ze1 hn.2 h'
  unfold JY at ih ⊢
  rw [List.eraseIdx_cons_succ,List.filter_cons,if_pos (by simpa using hp),ih]
theorem Zrg (h : Ze k m=none) : JY k m=m:=by
 unfold JY
 rw [List.filter_eq_self]
 exact fun p hp=>decide_eq_true (Zem.1 h p hp)
theorem ZpS (h : (m.map (·.1)).Nodup) : ((Qr k v m).map (·.1)).Nodup:=by
 unfold Qr
 split
 ·rw [List.map_map]
  have : ((fun p : List UInt8 × α=>p.1) ∘ fun p=>if p.1=k then (k,v) else p)=fun p=>p.1:=by
   funext p
   simp only [Function.comp]
   split
   ·rename_i h;exact h.symm
   ·rfl
  rw [this];exact h
 ·rename_i hs
  have hn : Ze k m=none:=by cases e : Ze k m <;> simp_all
  rw [List.map_append,List.nodup_append]
  refine ⟨h,by simp,fun a ha b hb=>?_⟩
  have hb : b=k:=by simpa using hb
  obtain ⟨p,hp,rfl⟩:=List.mem_map.1 ha
  rw [hb];exact Zem.1 hn p hp
theorem Zpd (h : (m.map (·.1)).Nodup) : ((JY k m).map (·.1)).Nodup:=(List.filter_sublist.map _).nodup h
end
theorem ZxM {a b : List UInt8} : ((⟨a.toArray⟩ : ByteArray)==⟨b.toArray⟩)=(a==b):=by
 rw [Zqk]
 simp
theorem Zg0 {α : Type} {enc : α→Value} {k : List UInt8} : ∀ {es : List (Value × Value × Nat)} {m : List (List UInt8 × α)} (i : Nat),es.map kv=m.map (fun p=>(strv p.1,enc p.2))→
  (Ze k m=none∧Ym .str (strv k) es i=some none)∨∃ j v,m[j]?=some (k,v)∧Ze k m=some v∧Ym .str (strv k) es i=some (some (i+j,enc v))
 | [],[],i,_=>.inl ⟨rfl,rfl⟩
 | e :: es,p :: m,i,h=>by
  simp only [List.map_cons,List.cons.injEq,kv,Prod.mk.injEq] at h
  obtain ⟨⟨h1,h2⟩,h3⟩:=h
  have hs : ZcM .str (strv k) e.1=some (k==p.1):=by rw [h1];simp only [ZcM,strv,ZxM]
  simp only [Ym,hs,Ze]
  by_cases hk : p.1=k
  ·rw [show (k==p.1)=true by rw [hk];simp,if_pos hk]
   exact .inr ⟨0,p.2,by rw [← hk];rfl,rfl,by rw [h2];rfl⟩
  ·rw [show (k==p.1)=false by rw [beq_eq_false_iff_ne];exact Ne.symm hk,if_neg hk]
   rcases Zg0 (i+1) h3 with ⟨h4,h5⟩ | ⟨j,v,h4,h5,h6⟩
   ·exact .inl ⟨h4,h5⟩
   ·exact .inr ⟨j+1,v,by simpa using h4,h5,by simp only;rw [h6];congr 3;omega⟩
 | [],_ :: _,_,h=>by cases h
 | _ :: _,[],_,h=>by cases h
theorem Zi7 {u : Value} : ∀ {es : List (Value × Value × Nat)} {j : Nat} {p : Value × Value},(es.map kv)[j]?=some p→(YS es j u).map kv=(es.map kv).set j (p.1,u)
 | [],j,p,h=>by simp at h
 | e :: es,0,p,h=>by
  have : kv e=p:=by simpa using h
  subst this
  simp [YS,kv]
 | e :: es,j+1,p,h=>by
  have:=Zi7 (u:=u) (es:=es) (j:=j) (p:=p) (by simpa using h)
  simp only [YS] at this
  simp only [YS,List.modify_succ_cons,List.map_cons,List.set_cons_succ,this]
section
variable {α : Type} {enc : α→Value} {H H' : Zd} {id : Nat} {m : List (List UInt8 × α)} {k : List UInt8} {v : α}
structure J8 (enc : α→Value) (H : Zd) (id : Nat) (m : List (List UInt8 × α)) : Prop where
 ex : ∃ es,es.map kv=m.map (fun p=>(strv p.1,enc p.2))∧((∃ clk,H[id]?=some (.map es clk)∧Zcn es clk)∨H[id]?=some (.mapU es))
 nod : (m.map (·.1)).Nodup
theorem J8.lt (h : J8 enc H id m) : id < H.length:=by
 obtain ⟨es,_,h1 | h1⟩:=h.ex
 ·obtain ⟨clk,h1,_⟩:=h1;exact Ql h1
 ·exact Ql h1
theorem J8.keep (h : J8 enc H id m) (hk : H'[id]?=H[id]?) : J8 enc H' id m:=by
 obtain ⟨es,h1,h2⟩:=h.ex
 exact ⟨⟨es,h1,by rw [hk];exact h2⟩,h.nod⟩
theorem J8.hle (h : J8 enc H id m) (hl : HLe H H') : J8 enc H' id m:=h.keep (hl.step.keep id h.lt (by simp))
theorem J8.step {o1 o2 : List Nat} (h : J8 enc H id m) (hs : Zx o1 H o2 H') (hn : id∉o1) : J8 enc H' id m:=h.keep (hs.keep id h.lt hn)
theorem ZaJ : okK .str (strv k)=true:=rfl
theorem J8.len (h : J8 enc H id m) : lenM (.map (some id)) H=some (iv m.length,H):=by
 obtain ⟨es,h1,h2⟩:=h.ex
 have hl : es.length=m.length:=by have:=congrArg List.length h1;simpa using this
 unfold lenM
 rcases h2 with ⟨clk,h2,_⟩ | h2 <;> simp only [h2,hl]
theorem J8.lkp (h : J8 enc H id m) {z : Value} {ok : Bool} : A.lkp .str z ok (.map (some id)) (strv k) H=
  some (match Ze k m with
   | some v=>bif ok then .tuple #[enc v,.bool true] else enc v
   | none=>bif ok then .tuple #[z,.bool false] else z,H):=by
 obtain ⟨es,h1,h2⟩:=h.ex
 unfold A.lkp
 rcases Zg0 (k:=k) 0 h1 with ⟨h3,h4⟩ | ⟨j,v,h3,h4,h5⟩
 ·rcases h2 with ⟨clk,h2,_⟩ | h2 <;> simp only [h2,ZaJ,cond_true,h3,h4]
 ·rcases h2 with ⟨clk,h2,_⟩ | h2 <;> simp only [h2,ZaJ,cond_true,h4,h5]
theorem J8.mup (h : J8 enc H id m) : ∃ H',A.mup .str (.map (some id)) (strv k) (enc v) H=some (undef,H')∧J8 enc H' id (Qr k v m)∧Zx [id] H [id] H'∧H'.length=H.length:=by
 obtain ⟨es,h1,h2⟩:=h.ex
 have hst : ∀ o,Zx [id] H [id] (H.set id o):=fun o=>⟨by simp,fun j hj hn=>List.getElem?_set_ne (fun e=>hn (by simp [e])),fun j hj=>.inl hj⟩
 have hnod:=ZpS (k:=k) (v:=v) h.nod
 have hget : ∀ {j : Nat} {v0 : α},m[j]?=some (k,v0)→(es.map kv)[j]?=some (strv k,enc v0):=fun hj=>by rw [h1,List.getElem?_map,hj];rfl
 rcases Zg0 (k:=k) 0 h1 with ⟨h3,h4⟩ | ⟨j,v0,h3,h4,h5⟩
 ·have ha : Qr k v m=m++[(k,v)]:=by unfold Qr;rw [h3];rfl
  rw [ha] at hnod ⊢
  have hm : ∀ b,(es++[(strv k,enc v,b)]).map kv=(m++[(k,v)]).map fun p=>(strv p.1,enc p.2):=fun b=>by rw [List.map_append,List.map_append,h1];rfl
  rcases h2 with ⟨clk,h2,hs⟩ | h2
  ·refine ⟨H.set id (.map (es++[(strv k,enc v,clk)]) (clk+1)),?_,⟨⟨_,hm clk,.inl ⟨clk+1,ZM h2,⟨fun e he=>?_,?_⟩⟩⟩,hnod⟩,hst _,by simp⟩
   ·unfold A.mup;simp only [h2,ZaJ,cond_true,h4]
   ·rcases List.mem_append.1 he with he | he
    ·have:=hs.lt e he;omega
    ·have : e=(strv k,enc v,clk):=by simpa using he
     rw [this];exact Nat.lt_succ_self _
   ·rw [List.map_append,List.nodup_append]
    refine ⟨hs.nod,by simp,fun a ha b hb=>?_⟩
    have hb : b=clk:=by simpa using hb
    obtain ⟨e,he,rfl⟩:=List.mem_map.1 ha
    have:=hs.lt e he;omega
  ·refine ⟨H.set id (.mapU (es++[(strv k,enc v,0)])),?_,⟨⟨_,hm 0,.inr (ZM h2)⟩,hnod⟩,hst _,by simp⟩
   unfold A.mup;simp only [h2,ZaJ,cond_true,h4];rfl
 ·have ha : Qr k v m=m.set j (k,v):=by unfold Qr;rw [h4];exact (ZiU h.nod h3).symm
  rw [ha] at hnod ⊢
  rw [Nat.zero_add] at h5
  have hm : (YS es j (enc v)).map kv=(m.set j (k,v)).map fun p=>(strv p.1,enc p.2):=by
   rw [Zi7 (hget h3),h1,List.map_set]
  rcases h2 with ⟨clk,h2,hs⟩ | h2
  ·refine ⟨H.set id (.map (YS es j (enc v)) clk),?_,⟨⟨_,hm,.inl ⟨clk,ZM h2,Zmr hs⟩⟩,hnod⟩,hst _,by simp⟩
   unfold A.mup;simp only [h2,ZaJ,cond_true,h5]
  ·refine ⟨H.set id (.mapU (YS es j (enc v))),?_,⟨⟨_,hm,.inr (ZM h2)⟩,hnod⟩,hst _,by simp⟩
   unfold A.mup;simp only [h2,ZaJ,cond_true,h5]
theorem J8.mde (h : J8 enc H id m) : ∃ H',A.mde .str (.map (some id)) (strv k) H=some (.tuple #[],H')∧J8 enc H' id (JY k m)∧Zx [id] H [id] H'∧H'.length=H.length:=by
 obtain ⟨es,h1,h2⟩:=h.ex
 have hst : ∀ o,Zx [id] H [id] (H.set id o):=fun o=>⟨by simp,fun j hj hn=>List.getElem?_set_ne (fun e=>hn (by simp [e])),fun j hj=>.inl hj⟩
 have hnod:=Zpd (k:=k) h.nod
 rcases Zg0 (k:=k) 0 h1 with ⟨h3,h4⟩ | ⟨j,v0,h3,h4,h5⟩
 ·refine ⟨H,?_,by rw [Zrg h3];exact h,.refl _ _,rfl⟩
  unfold A.mde
  rcases h2 with ⟨clk,h2,hs⟩ | h2 <;> simp only [h2,ZaJ,cond_true,h4]
 ·have ha : JY k m=m.eraseIdx j:=(Ze1 h.nod h3).symm
  rw [ha] at hnod ⊢
  rw [Nat.zero_add] at h5
  have hm : (es.eraseIdx j).map kv=(m.eraseIdx j).map fun p=>(strv p.1,enc p.2):=by
   have hg : ∀ {β γ : Type} (f : β→γ) (l : List β) (j : Nat),(l.eraseIdx j).map f=(l.map f).eraseIdx j:=fun f l j=>by
    rw [List.eraseIdx_eq_take_drop_succ,List.eraseIdx_eq_take_drop_succ,List.map_append,List.map_take,List.map_drop]
   rw [hg,hg,h1]
  rcases h2 with ⟨clk,h2,hs⟩ | h2
  ·refine ⟨H.set id (.map (es.eraseIdx j) clk),?_,⟨⟨_,hm,.inl ⟨clk,ZM h2,⟨fun e he=>hs.lt e ((List.eraseIdx_sublist es j).subset he),((List.eraseIdx_sublist es j).map _).nodup hs.nod⟩⟩⟩,hnod⟩,hst _,by simp⟩
   unfold A.mde;simp only [h2,ZaJ,cond_true,h5]
  ·refine ⟨H.set id (.mapU (es.eraseIdx j)),?_,⟨⟨_,hm,.inr (ZM h2)⟩,hnod⟩,hst _,by simp⟩
   unfold A.mde;simp only [h2,ZaJ,cond_true,h5]
theorem J8.clone (h : J8 enc H id m) : ∃ H',Zb5 [.map (some id)] H=some (.map (some H.length),H')∧J8 enc H' H.length m∧HLe H H':=by
 obtain ⟨es,h1,h2⟩:=h.ex
 rcases h2 with ⟨clk,h2,hs⟩ | h2
 ·exact ⟨_,by unfold Zb5;simp only [h2],⟨⟨es,h1,.inl ⟨clk,ZC,hs⟩⟩,h.nod⟩,.app _ _⟩
 ·exact ⟨_,by unfold Zb5;simp only [h2],⟨⟨es,h1,.inr ZC⟩,h.nod⟩,.app _ _⟩
theorem ZwC (H : Zd) : ∃ H',mkm H=some (.map (some H.length),H')∧J8 enc H' H.length []∧HLe H H':=
 ⟨_,rfl,⟨⟨[],rfl,.inl ⟨0,ZC,⟨by simp,by simp⟩⟩⟩,by simp⟩,.app _ _⟩
theorem J8.keys (h : J8 enc H id m) {gks : List FuncId} {gc gk : FuncId} {c e : Nat} (hg : gk∈gks) (hc : H[c]?=some (.cells [.map (some id)] e false false)) (hf : m.length≤1000000) (hl : ∀ p∈m,p.1.length≤1000000) :
  ∃ v q H',ZeU gks gc [.func (.func gk) #[] #[pt c],.func (.func gc) #[] #[]] H=some (v,H')∧Zw H' v ((Z4 (m.map (·.1))).map strv) q∧HLe H H'∧∀ j∈q,H.length≤j:=by
 obtain ⟨es,h1,h2⟩:=h.ex
 have hk : Zf2 es (m.map (·.1)):=⟨by
  have:=congrArg (List.map (·.1)) h1
  rw [ZeM] at this
  rw [this];simp [Function.comp_def],h.nod,by simpa using hf,fun k hk=>by
  obtain ⟨p,hp,rfl⟩:=List.mem_map.1 hk
  exact hl p hp⟩
 rw [ZsJ hg hc hk h2]
 unfold ZiO
 by_cases h0 : m.map (·.1)=[]
 ·rw [if_pos h0,h0]
  have hz : Z4 ([] : List (List UInt8))=[]:=List.mergeSort_nil
  rw [hz]
  exact ⟨_,[],_,rfl,Zw.nil,.refl _,by simp⟩
 ·rw [if_neg h0]
  refine ⟨_,[H.length],_,rfl,.inr ⟨H.length,[],true,?_,rfl,by simp⟩,.app _ _,by simp⟩
  simp [Zrd]
end
end Go.Proofs.YtedkoimihknggaaGreatDoor.A

namespace Go.Proofs.YtedkoimihknggaaGreatDoor.A
set_option linter.unusedVariables false
set_option linter.unusedSimpArgs false
def Zjz (args : List Value) : M Value:=fun H=>
 match args with
 | [.string s,.int .u8 c]=>some (iv (Go.Lib.indexByte s.data.toList c.toNat.toUInt8),H)
 | _=>none
def ZiZ (args : List Value) : M Value:=fun H=>
 match args with
 | [.string s,.int .u8 c]=>some (iv (Go.Lib.countByte s.data.toList c.toNat.toUInt8),H)
 | _=>none
section
variable {P : Program} {G : Nat} {w0 : Qj}
theorem Zw1 {g : FuncId} (he : ZqM P g Extern.BytealgIndexByte.indexByte) : ZfS P G w0 g Zjz:=by
 intro args H v H1 h
 refine .inr ⟨_,he,fun ι w args' hS hr=>?_⟩
 unfold Zjz at h
 split at h
 ·rename_i s c
  cases h
  obtain ⟨p',r',rfl,hp',hr'⟩:=hr.cons_inv
  obtain ⟨y',r2,rfl,hy',hr2⟩:=hr'.cons_inv
  have:=hr2.nil_inv;subst this
  have:=hy'.int_inv;subst this
  have:=hp'.scalar_inv rfl;subst this
  exact ⟨ι,_,w,.refl ι,hS,.sc rfl,Go.Lib.run_indexByteString s c w⟩
 ·cases h
theorem Zwy {g : FuncId} (he : ZqM P g Extern.BytealgCount.count) : ZfS P G w0 g ZiZ:=by
 intro args H v H1 h
 refine .inr ⟨_,he,fun ι w args' hS hr=>?_⟩
 unfold ZiZ at h
 split at h
 ·rename_i s c
  cases h
  obtain ⟨p',r',rfl,hp',hr'⟩:=hr.cons_inv
  obtain ⟨y',r2,rfl,hy',hr2⟩:=hr'.cons_inv
  have:=hr2.nil_inv;subst this
  have:=hy'.int_inv;subst this
  have:=hp'.scalar_inv rfl;subst this
  exact ⟨ι,_,w,.refl ι,hS,.sc rfl,Go.Lib.run_countString s c w⟩
 ·cases h
end
theorem ZvF (b : UInt8) : (b.toNat : Int).toNat.toUInt8=b:=by
 rw [Int.toNat_natCast]
 simp
theorem ZBz {s : List UInt8} {b : UInt8} {H : Zd} : Zjz [strv s,.int .u8 b.toNat] H=some (iv (Go.Lib.indexByte s b),H):=by
 unfold Zjz strv
 simp only [ZvF]
theorem ZB7 {s : List UInt8} {b : UInt8} {H : Zd} : ZiZ [strv s,.int .u8 b.toNat] H=some (iv (s.count b),H):=by
 unfold ZiZ strv Go.Lib.countByte
 simp only [ZvF]
theorem Zft {b : UInt8} : ∀ {s : List UInt8},Go.Lib.indexByte s b=if b∈s then (((s.takeWhile (· !=b)).length : Nat) : Int) else -1
 | []=>rfl
 | c :: s=>by
  have ih:=Zft (b:=b) (s:=s)
  unfold Go.Lib.indexByte
  by_cases hc : c=b
  ·subst hc;simp
  ·have h1 : (c==b)=false:=beq_eq_false_iff_ne.2 hc
   have h2 : (c !=b)=true:=by simp [hc]
   rw [h1,List.takeWhile_cons,h2,ih]
   by_cases hm : b∈s
   ·have : ¬ ((((s.takeWhile (· !=b)).length : Nat) : Int)==-1)=true:=by simp
    simp [hm,this]
   ·have hm2 : ¬ b∈c :: s:=by simp [hm,Ne.symm hc]
    simp [hm,Ne.symm hc]
end Go.Proofs.YtedkoimihknggaaGreatDoor.A

namespace Go.Proofs.YtedkoimihknggaaGreatDoor.A
set_option linter.unusedVariables false
set_option linter.unusedSimpArgs false
theorem Zrm {α β : Type} {f : α→β} {m m' : List β} (h : m.Perm m') : ∀ {l : List α},l.map f=m→∃ l' : List α,l'.Perm l∧l'.map f=m':=by
 induction h with
 | nil=>intro l h;exact ⟨l,.refl _,h⟩
 | cons x _ ih=>
  intro l h
  cases l with
  | nil=>cases h
  | cons a l=>
   simp only [List.map_cons,List.cons.injEq] at h
   obtain ⟨l',h1,h2⟩:=ih h.2
   exact ⟨a :: l',h1.cons a,by simp [h.1,h2]⟩
 | swap x y l=>
  intro q h
  match q,h with
  | a :: b :: q,h=>
   simp only [List.map_cons,List.cons.injEq] at h
   exact ⟨b :: a :: q,.swap a b q,by simp [h.1,h.2.1,h.2.2]⟩
 | trans _ _ ih1 ih2=>
  intro l h
  obtain ⟨l1,h1,h2⟩:=ih1 h
  obtain ⟨l2,h3,h4⟩:=ih2 h2
  exact ⟨l2,h3.trans h1,h4⟩
def Zhj : Zf→Bool
 | .map _ _=>true
 | .mapU _=>true
 | _=>false
def Zfa (H : Zd) : List (Value × Value × Nat)→Option (List Zf)
 | []=>some []
 | e :: es=>match e.2.1,Zfa H es with
  | .map (some s),some l=>match H[s]? with
   | some x=>if Zhj x then some (x :: l) else none
   | none=>none
  | _,_=>none
def Zcd (base : Nat) : List (Value × Value × Nat)→List (Value × Value × Nat)
 | []=>[]
 | e :: es=>(e.1,.map (some base),0) :: Zcd (base+1) es
open Classical in
noncomputable def Zma (H : Zd) (o : Nat) : Option (List (Value × Value × Nat)):=
 match H[o]? with
 | some (.map es clk)=>if Zcn es clk then some es else none
 | some (.mapU es)=>some es
 | _=>none
open Classical in
noncomputable def ZiD (args : List Value) : M Value:=fun H=>
 match args with
 | [.pointer (some ⟨g,0,none⟩)]=>match H[g]? with
  | some (.cells [.map (some o)] _ false false)=>match Zma H o with
   | some es=>match Zfa H es with
    | some l=>if ∃ ks,Zf2 es ks then some (pt (H.length+l.length+1),H++l++[.mapU (Zcd H.length es)]++[.cells [.map (some (H.length+l.length))] 1 false false]) else none
    | none=>none
   | none=>none
  | _=>none
 | _=>none
section
variable {P : Program} {w0 : Qj} {ι : Nat→Option Loc} {H H1 : Zd} {w w' : World} {v : Value} {G : Nat}
theorem ZxE {args : List Value} (h : ZiD args H=some (v,H1)) : ∃ g o e es ks l,args=[pt g]∧H[g]?=some (.cells [.map (some o)] e false false)∧Zma H o=some es∧Zf2 es ks∧Zfa H es=some l∧v=pt (H.length+l.length+1)∧H1=H++l++[.mapU (Zcd H.length es)]++[.cells [.map (some (H.length+l.length))] 1 false false]:=by
 unfold ZiD at h
 split at h
 ·rename_i g
  split at h
  ·rename_i o e hg
   split at h
   ·rename_i es hes
    split at h
    ·rename_i l hl
     split at h
     ·rename_i hk
      obtain ⟨ks,hk⟩:=hk
      cases h
      exact ⟨g,o,e,es,ks,l,rfl,hg,hes,hk,hl,rfl,rfl⟩
     ·cases h
    ·cases h
   ·cases h
  ·cases h
 ·cases h
structure ZvU (P : Program) (g : FuncId) : Prop where
 c : Zdb P g
 run : ∀ (w : World) (gb b : Nat) (es : Array MapEntry) (clock : Nat),gb < w.heap.size→w.cell? ⟨gb,0,none⟩=some (.map (some b))→w.heap[b]?=some (.map es clock)→Go.MapKept.Stamped es clock→
  (∀ x∈es.toList,∃ k : List UInt8,x.key=strv k)→(∀ x∈es.toList,∃ sb ses sclk,x.val=.map (some sb)∧w.heap[sb]?=some (.map ses sclk))→
  Calls P g #[.pointer (some ⟨gb,0,none⟩)] w fun e w'=>∃ (gb' ob : Nat) (el : TypeId) (en : Array MapEntry) (ck : Nat) (L : List (MapEntry × Nat)),e=.returned (.pointer (some ⟨gb',0,none⟩))∧
   w'.heap[gb']?=some (.cells #[.map (some ob)] el (0,0))∧w'.heap[ob]?=some (.map en ck)∧Go.MapKept.Stamped en ck∧
   en.toList.map (fun x=>(x.key,x.val))=L.map (fun p=>(p.1.key,Value.map (some p.2)))∧(L.map (·.1)).Perm es.toList∧
   (∀ p∈L,∃ sb,p.1.val=.map (some sb)∧w'.heap[p.2]?=w.heap[sb]?)∧(gb' :: ob :: L.map (·.2)).Nodup∧(∀ q∈gb' :: ob :: L.map (·.2),w.heap.size≤q)∧Go.RowKit.Below w.heap.size w w'
def ZeI (ι : Nat→Option Loc) (H : Zd) (b : Nat) : Prop:=(∀ i oi li,H[i]?=some oi→oi.wr=true→ι i=some li→li.blk≠b)∧
 ∀ j cs es nx lj,H[j]?=some (.view cs es nx)→ι j=some lj→lj.blk=b→∃ l',ι nx=some l'∧l'.blk=lj.blk∧l'.base=lj.base
theorem ZeI.add {o : Zf} {l : Loc} {b : Nat} (h : ZeI ι H b) (hS : Sim G w0 ι H w) (hb : l.blk≠b) (hov : o.isV=false:=by rfl) : ZeI (Kz ι H.length l) (H++[o]) b:=by
 refine ⟨?_,fun j cs es nx lj hj hlj hbe=>?_⟩
 rotate_left
 ·rcases Nat.lt_trichotomy j H.length with hlt | rfl | hgt
  ·rw [List.getElem?_append_left hlt] at hj
   have : Kz ι H.length l j=ι j:=by unfold Kz;simp [Nat.ne_of_lt hlt]
   rw [this] at hlj
   obtain ⟨l',k1,k2⟩:=h.2 j cs es nx lj hj hlj hbe
   exact ⟨l',Yq hS _ _ _ k1,k2⟩
  ·rw [ZC] at hj
   rw [Option.some.inj hj] at hov;cases hov
  ·rw [List.getElem?_eq_none (by simp;omega)] at hj;cases hj
 intro i oi li hi hw hl
 rcases Nat.lt_trichotomy i H.length with hlt | rfl | hgt
 ·rw [List.getElem?_append_left hlt] at hi
  have : Kz ι H.length l i=ι i:=by unfold Kz;simp [Nat.ne_of_lt hlt]
  rw [this] at hl
  exact h.1 i oi li hi hw hl
 ·have : Kz ι H.length l H.length=some l:=Qp _ _ _
  rw [this] at hl
  cases hl
  exact hb
 ·rw [List.getElem?_eq_none (by simp;omega)] at hi;cases hi
abbrev Zhc (b : Nat) : Loc:=⟨b,0,0,0,false⟩
def Zia (ι : Nat→Option Loc) : Value→Value
 | .map (some s)=>.map ((ι s).map (·.blk))
 | v=>v
theorem Zx2 {H : Zd} {w' : World} (hS : Sim G w0 ι H w) : ∀ (es : List (Value × Value × Nat)) (L : List (MapEntry × Nat)) (l : List Zf) (ι0 : Nat→Option Loc) (H0 : Zd),Sim G w0 ι0 H0 w'→Le ι ι0→Zfa H es=some l→
  L.map (fun p=>(p.1.key,p.1.val))=es.map (fun e=>(e.1,Zia ι e.2.1))→(∀ p∈L,∃ sb,p.1.val=.map (some sb)∧w'.heap[p.2]?=w.heap[sb]?)→(L.map (·.2)).Nodup→(∀ p∈L,ZeI ι0 H0 p.2∧w0.heap.size≤p.2∧∀ b∈w0.prot,p.2≠b)→
  ∃ ι1,Le ι0 ι1∧Sim G w0 ι1 (H0++l) w'∧l.length=es.length∧(∀ i p,L[i]?=some p→ι1 (H0.length+i)=some (Zhc p.2))∧(∀ b,ZeI ι0 H0 b→b∉L.map (·.2)→ZeI ι1 (H0++l) b)
 | [],L,l,ι0,H0,h0,hle,hl,hm,_,_,_=>by
  cases hl
  have : L=[]:=by simpa using hm
  subst this
  exact ⟨ι0,.refl _,by rw [List.append_nil];exact h0,rfl,fun i p h=>by simp at h,fun b h _=>by rw [List.append_nil];exact h⟩
 | e :: es,L,l,ι0,H0,h0,hle,hl,hm,hc,hn,hf=>by
  cases L with
  | nil=>simp at hm
  | cons p L=>
   simp only [List.map_cons,List.cons.injEq,Prod.mk.injEq] at hm
   unfold Zfa at hl
   split at hl
   ·rename_i _ _ s l' he hl'
    split at hl
    ·rename_i x hx
     split at hl
     ·rename_i hmp
      cases hl
      obtain ⟨sb,hsb,hcp⟩:=hc p (by simp)
      obtain ⟨hfp,hgp,hpp⟩:=hf p (by simp)
      rw [he] at hm
      have hv:=hm.1.2
      rw [hsb] at hv
      have hsl : ∃ ls,ι s=some ls∧ls.blk=sb:=by
       simp only [Zia] at hv
       cases hs : ι s with
       | none=>rw [hs] at hv;simp at hv
       | some ls=>rw [hs] at hv;exact ⟨ls,rfl,by simpa using hv.symm⟩
      obtain ⟨ls,hls,rfl⟩:=hsl
      have hR : Zc0 w0 (Kz ι0 H0.length (Zhc p.2)) H0.length x w':=by
       have hle2 : Le ι (Kz ι0 H0.length (Zhc p.2)):=hle.trans (Yq h0 _)
       cases x with
       | map es' clk=>
        obtain ⟨en,hb,hge,hE⟩:=hS.mapR hx hls
        exact ⟨_,en,Qp _ _ _,hcp.trans hb,hgp,hE.mono hle2⟩
       | mapU es'=>
        obtain ⟨en,clk,es2,hb,hge,hE,hp⟩:=hS.mapUR hx hls
        exact ⟨_,en,clk,es2,Qp _ _ _,hcp.trans hb,hgp,hE.mono hle2,hp⟩
       | _=>simp [Zhj] at hmp
      have hov : x.isV=false:=by cases x <;> first | rfl | simp [Zhj] at hmp
      have h1:=h0.add hR hfp.1 hpp (fun _=>hfp.2) hov
      simp only [List.map_cons,List.nodup_cons] at hn
      obtain ⟨ι1,a1,a2,a3,a4,a5⟩:=Zx2 hS es L l' _ _ h1 (hle.trans (Yq h0 _)) hl' hm.2 (fun q hq=>hc q (by simp [hq])) hn.2 (fun q hq=>by
       obtain ⟨b1,b2⟩:=hf q (by simp [hq])
       exact ⟨b1.add h0 (fun e=>hn.1 (List.mem_map.2 ⟨q,hq,e.symm⟩)) hov,b2⟩)
      refine ⟨ι1,(Yq h0 _).trans a1,by rw [List.append_assoc,List.singleton_append] at a2;exact a2,by simp [a3],fun i q hi=>?_,fun b hb hnb=>?_⟩
      ·cases i with
       | zero=>
        have : p=q:=by simpa using hi
        subst this
        exact a1 _ _ (Qp _ _ _)
       | succ i=>
        have:=a4 i q (by simpa using hi)
        rwa [List.length_append,List.length_singleton,Nat.add_assoc,Nat.add_comm 1 i] at this
      ·simp only [List.map_cons,List.mem_cons,not_or] at hnb
       have:=a5 b (hb.add h0 (Ne.symm hnb.1) hov) hnb.2
       rwa [List.append_assoc,List.singleton_append] at this
     ·cases hl
    ·cases hl
   ·cases hl
theorem ZeI.sim (h : Sim G w0 ι H w) {b : Nat} (hb : w.heap.size≤b) : ZeI ι H b:=⟨fun i oi li hi hw hl=>by
 have:=((h.obj i oi hi).newer hw li hl).2
 omega,fun j cs es nx lj hj hlj hbe=>by
 rcases h.views j cs es nx lj hj hlj with ⟨l',k1,k2⟩ | ⟨⟨c,el,fr,k1,_⟩,_⟩
 ·exact ⟨l',k1,k2⟩
 ·have:=(Array.getElem?_eq_some_iff.1 k1).1
  omega⟩
theorem Zp8 (h : Sim G w0 ι H w) {b : Nat} (hb : w.heap.size≤b) : ∀ c∈w0.prot,b≠c:=fun c hc e=>by
 have p1:=(h.prot c hc).1
 subst e
 rw [Array.getElem?_eq_none hb] at p1;cases p1
def Zs6 (B : List ((MapEntry × Nat) × Nat)) (en : List MapEntry) : List (Value × Value × Nat):=List.zipWith (fun b x=>(b.1.1.key,Value.map (some b.2),x.born)) B en
theorem Zt3 : ∀ (B : List ((MapEntry × Nat) × Nat)) (en : List MapEntry),en.map (fun x=>(x.key,x.val))=B.map (fun b=>(b.1.1.key,Value.map (some b.1.2)))→(∀ b∈B,QN b.1.1.key=true∧ι b.2=some (Zhc b.1.2))→
  JC ι (Zs6 B en) en∧(Zs6 B en).map kv=B.map (fun b=>(b.1.1.key,Value.map (some b.2)))∧(Zs6 B en).map (·.2.2)=en.map (·.born)
 | [],[],_,_=>⟨trivial,rfl,rfl⟩
 | [],_ :: _,h,_=>by simp at h
 | _ :: _,[],h,_=>by simp at h
 | b :: B,x :: en,h,hb=>by
  simp only [List.map_cons,List.cons.injEq,Prod.mk.injEq] at h
  obtain ⟨h1,h2,h3⟩:=Zt3 B en h.2 (fun c hc=>hb c (by simp [hc]))
  obtain ⟨g1,g2⟩:=hb b (by simp)
  have hm : RV ι (.map (some b.2)) (.map (some b.1.2)):=.mp (l:=Zhc b.1.2) g2
  refine ⟨⟨⟨g1,h.1.1,by rw [h.1.2];exact hm,rfl⟩,h1⟩,?_,?_⟩
  ·simp only [List.map_cons]
   rw [← h2];rfl
  ·simp only [List.map_cons]
   rw [← h3];rfl
theorem Zvr : ∀ (es : List (Value × Value × Nat)) (L : List (MapEntry × Nat)) (base : Nat),L.map (fun p=>p.1.key)=es.map (·.1)→
  (Zcd base es).map kv=(L.zipIdx base).map (fun b=>(b.1.1.key,Value.map (some b.2)))∧(Zcd base es).map (·.1)=es.map (·.1)
 | [],L,base,h=>by
  have : L=[]:=by simpa using h
  subst this
  exact ⟨rfl,rfl⟩
 | e :: es,[],base,h=>by simp at h
 | e :: es,p :: L,base,h=>by
  simp only [List.map_cons,List.cons.injEq] at h
  obtain ⟨h1,h2⟩:=Zvr es L (base+1) h.2
  refine ⟨?_,?_⟩
  ·simp only [Zcd,List.map_cons,List.zipIdx_cons]
   rw [h1,← h.1];rfl
  ·simp only [Zcd,List.map_cons]
   rw [h2]
theorem Zpa : ∀ {es : List (Value × Value × Nat)} {l : List Zf},Zfa H es=some l→∀ e∈es,∃ s x,e.2.1=.map (some s)∧H[s]?=some x∧Zhj x=true
 | [],l,h,e,he=>by cases he
 | e0 :: es,l,h,e,he=>by
  unfold Zfa at h
  split at h
  ·rename_i _ _ s l' hv hl'
   split at h
   ·rename_i x hx
    split at h
    ·rename_i hm
     rcases List.mem_cons.1 he with rfl | he
     ·exact ⟨s,x,hv,hx,hm⟩
     ·exact Zpa hl' e he
    ·cases h
   ·cases h
  ·cases h
theorem Zrc (hle : ∀ e : Value × Value × Nat,∀ n,RV ι e.2.1 n→(∃ s,e.2.1=.map (some s))→n=Zia ι e.2.1) : ∀ (es : List (Value × Value × Nat)) (en : List MapEntry),JC ι es en→(∀ e∈es,∃ s,e.2.1=.map (some s))→en.map (fun x=>(x.key,x.val))=es.map (fun e=>(e.1,Zia ι e.2.1))
 | [],[],_,_=>rfl
 | [],_ :: _,h,_=>h.elim
 | _ :: _,[],h,_=>h.elim
 | e :: es,n :: ns,h,hs=>by
  simp only [List.map_cons]
  rw [Zrc hle es ns h.2 (fun e he=>hs e (by simp [he])),h.1.2.1,hle e _ h.1.2.2.1 (hs e (by simp))]
theorem ZAv {e : Value × Value × Nat} {n : Value} (h : RV ι e.2.1 n) (hs : ∃ s,e.2.1=.map (some s)) : n=Zia ι e.2.1:=by
 obtain ⟨s,hs⟩:=hs
 rw [hs] at h ⊢
 obtain ⟨l,hl,rfl⟩:=h.map_inv
 simp [Zia,hl]
theorem ZwZ {g : FuncId} (hC : ZvU P g) : ZfS P G w0 g ZiD:=by
 intro args H v H1 h
 refine .inl ⟨hC.c,fun ι w args' hS hr=>?_⟩
 obtain ⟨gi,o,e1,es,ks,l,rfl,hg,hes,hk,hl,rfl,rfl⟩:=ZxE h
 obtain ⟨x,r,rfl,hx,hr2⟩:=hr.cons_inv
 rw [hr2.nil_inv]
 obtain ⟨lc,hlc,rfl⟩:=hx.ptr_inv
 obtain ⟨cc,el,fr,_,hgrow,hbc,hb5,hb6,hrc,hro,_⟩:=hS.cellsR hg hlc
 have hbase : lc.base=0:=(hro rfl).2.2 hgrow
 have hbl : lc.blk < w.heap.size:=by
  rcases Nat.lt_or_ge lc.blk w.heap.size with h1 | h1
  ·exact h1
  ·rw [Array.getElem?_eq_none h1] at hbc;cases hbc
 obtain ⟨u,hu1,hu2⟩:=hrc.at (o:=0) (by simp)
 obtain ⟨lm,hlm,hu3⟩:=RV.map_inv (id:=o) hu2
 subst hu3
 have hcell : w.cell? ⟨lc.blk,0,none⟩=some (.map (some lm.blk)):=by
  rw [ZgT hbc]
  simpa [hbase] using hu1
 have hsets:=Zpa hl
 have hismap : ∀ e∈es,∃ s,e.2.1=.map (some s):=fun e he=>by obtain ⟨s,_,h1,_⟩:=hsets e he;exact ⟨s,h1⟩
 obtain ⟨en,clock,es2,hmb,hE,hperm,hst⟩ : ∃ (en : Array MapEntry) (clock : Nat) (es2 : List (Value × Value × Nat)),w.heap[lm.blk]?=some (.map en clock)∧ZcG ι es2 en∧(es2.map kv).Perm (es.map kv)∧Zcn es2 clock:=by
  unfold Zma at hes
  split at hes
  ·rename_i es0 clk hid
   split at hes
   ·rename_i hst
    cases hes
    obtain ⟨en,hb,_,hE⟩:=hS.mapR hid hlm
    exact ⟨en,_,_,hb,hE,.refl _,hst⟩
   ·cases hes
  ·rename_i es0 hid
   cases hes
   obtain ⟨en,clk,es2,hb,_,hE,hp⟩:=hS.mapUR hid hlm
   exact ⟨en,clk,es2,hb,hE,hp.perm,hp.st⟩
  ·cases hes
 have hmem2 : ∀ e∈es2,∃ f∈es,f.1=e.1∧f.2.1=e.2.1:=fun e he=>by
  have : kv e∈es.map kv:=hperm.mem_iff.1 (List.mem_map.2 ⟨e,he,rfl⟩)
  obtain ⟨f,hf,h1⟩:=List.mem_map.1 this
  unfold kv at h1
  simp only [Prod.mk.injEq] at h1
  exact ⟨f,hf,h1.1,h1.2⟩
 have hismap2 : ∀ e∈es2,∃ s,e.2.1=.map (some s):=fun e he=>by
  obtain ⟨f,hf,_,h2⟩:=hmem2 e he
  rw [← h2];exact hismap f hf
 obtain ⟨k1,k2⟩:=JC.keys hE
 have hkv:=Zrc (fun e n h hs=>ZAv h hs) es2 en.toList hE hismap2
 have hkeyp : (es2.map (·.1)).Perm (ks.map strv):=by
  have h3:=hperm.map (·.1)
  rw [ZeM,ZeM] at h3
  rw [← hk.keys];exact h3
 have hstr : ∀ x∈en.toList,∃ k : List UInt8,x.key=strv k:=fun x hx=>by
  have h3 : x.key∈es2.map (·.1):=by rw [← k1];exact List.mem_map.2 ⟨x,hx,rfl⟩
  obtain ⟨k,_,h4⟩:=List.mem_map.1 (hkeyp.mem_iff.1 h3)
  exact ⟨k,h4.symm⟩
 have hsets2 : ∀ x∈en.toList,∃ sb ses sclk,x.val=.map (some sb)∧w.heap[sb]?=some (.map ses sclk):=fun x hx=>by
  have h3 : (x.key,x.val)∈es2.map (fun e=>(e.1,Zia ι e.2.1)):=by rw [← hkv];exact List.mem_map.2 ⟨x,hx,rfl⟩
  obtain ⟨e,he,h4⟩:=List.mem_map.1 h3
  obtain ⟨f,hf,_,hf2⟩:=hmem2 e he
  obtain ⟨s,y,hy1,hy2,hy3⟩:=hsets f hf
  simp only [Prod.mk.injEq] at h4
  rw [← hf2,hy1] at h4
  have hd : y≠.dead:=by rintro rfl;simp [Zhj] at hy3
  obtain ⟨ls,hls,_⟩:=(hS.obj s y hy2).loc hd
  have h5 : x.val=.map (some ls.blk):=by rw [← h4.2];simp [Zia,hls]
  cases y with
  | map es' clk=>
   obtain ⟨en',hb,_,_⟩:=hS.mapR hy2 hls
   exact ⟨_,_,_,h5,hb⟩
  | mapU es'=>
   obtain ⟨en',clk,_,hb,_,_⟩:=hS.mapUR hy2 hls
   exact ⟨_,_,_,h5,hb⟩
  | _=>simp [Zhj] at hy3
 have hstamp : Go.MapKept.Stamped en clock:=by
  refine ⟨fun x hx=>?_,by rw [k2];exact hst.nod,by rw [k1];exact hkeyp.nodup_iff.2 (Zjk hk.nod)⟩
  have h3 : x.born∈en.toList.map (·.born):=List.mem_map.2 ⟨x,hx,rfl⟩
  rw [k2] at h3
  obtain ⟨e',h1,h2⟩:=List.mem_map.1 h3
  rw [← h2];exact hst.lt e' h1
 simp only [Nat.add_zero,hbase]
 refine (hC.run w lc.blk lm.blk en clock hbl hcell hmb hstamp hstr hsets2).mono fun ee w' ⟨gb',ob,el',en',ck,L,he,hgb,hob,hst',hen',hL,hcp,hnd,hge,hb⟩=>?_
 have hS':=hS.below hb
 have hLkv : (L.map fun p=>(p.1.key,p.1.val)).Perm (es.map fun e=>(e.1,Zia ι e.2.1)):=by
  have h3:=hL.map (fun x : MapEntry=>(x.key,x.val))
  rw [List.map_map,hkv] at h3
  have h4:=hperm.map (fun q : Value × Value=>(q.1,Zia ι q.2))
  rw [List.map_map,List.map_map] at h4
  exact h3.trans h4
 obtain ⟨L',hL',hLm⟩:=Zrm hLkv rfl
 simp only [List.nodup_cons,List.mem_cons,not_or] at hnd
 obtain ⟨⟨n1,n2⟩,n3,n4⟩:=hnd
 have hnod' : (L'.map (·.2)).Nodup:=(hL'.map _).nodup_iff.2 n4
 have hgeL : ∀ p∈L',w.heap.size≤p.2:=fun p hp=>hge _ (by simp only [List.mem_cons,List.mem_map];exact .inr (.inr ⟨p,hL'.mem_iff.1 hp,rfl⟩))
 obtain ⟨ι1,a1,a2,a3,a4,a5⟩:=Zx2 hS es L' l ι H hS' (.refl _) hl hLm (fun p hp=>hcp p (hL'.mem_iff.1 hp)) hnod' (fun p hp=>⟨ZeI.sim hS (hgeL p hp),Nat.le_trans hS.size (hgeL p hp),Zp8 hS (hgeL p hp)⟩)
 have hobge:=hge ob (by simp)
 have hgbge:=hge gb' (by simp)
 have hobF : ZeI ι1 (H++l) ob:=a5 ob (ZeI.sim hS hobge) fun hm=>n3 ((hL'.map (·.2)).mem_iff.1 hm)
 have hgbF : ZeI ι1 (H++l) gb':=a5 gb' (ZeI.sim hS hgbge) fun hm=>n2 ((hL'.map (·.2)).mem_iff.1 hm)
 obtain ⟨B,hB,hBm⟩:=Zrm (f:=Prod.fst) (l:=L'.zipIdx H.length) (m':=L) (by rw [List.zipIdx_map_fst];exact hL') rfl
 have hBi : ∀ b∈B,QN b.1.1.key=true∧ι1 b.2=some (Zhc b.1.2):=fun b hb=>by
  have hb':=hB.mem_iff.1 hb
  obtain ⟨i,hi⟩:=List.getElem?_of_mem hb'
  rw [List.getElem?_zipIdx] at hi
  cases hq : L'[i]? with
  | none=>rw [hq] at hi;cases hi
  | some q=>
   rw [hq] at hi
   have hi : (q,H.length+i)=b:=by simpa using hi
   subst hi
   refine ⟨?_,a4 i q hq⟩
   have hqL : q.1∈L.map (·.1):=List.mem_map.2 ⟨q,hL'.mem_iff.1 (List.mem_of_getElem? hq),rfl⟩
   obtain ⟨k,hk⟩:=hstr q.1 (hL.mem_iff.1 hqL)
   show QN q.1.key=true
   rw [hk];rfl
 have hen2 : en'.toList.map (fun x=>(x.key,x.val))=B.map (fun b=>(b.1.1.key,Value.map (some b.1.2))):=by
  rw [hen',← hBm,List.map_map];rfl
 obtain ⟨z1,z2,z3⟩:=Zt3 B en'.toList hen2 hBi
 have hkeysL : L'.map (fun p=>p.1.key)=es.map (·.1):=by
  have:=congrArg (List.map Prod.fst) hLm
  simpa [List.map_map,Function.comp_def] using this
 obtain ⟨y1,y2⟩:=Zvr es L' H.length hkeysL
 have hle1 : Le ι ι1:=a1
 have hlen : (H++l).length=H.length+l.length:=List.length_append
 have hPU : Zak (Zs6 B en'.toList) ck (Zcd H.length es):=by
  refine ⟨?_,⟨fun e he=>?_,?_⟩,⟨fun e he=>?_,?_⟩⟩
  ·rw [z2,y1]
   exact hB.map _
  ·have : e.1∈(Zcd H.length es).map (·.1):=List.mem_map.2 ⟨e,he,rfl⟩
   rw [y2,hk.keys] at this
   obtain ⟨k,_,h4⟩:=List.mem_map.1 this
   exact ⟨_,h4.symm⟩
  ·rw [y2,hk.keys];exact Zjk hk.nod
  ·have : e.2.2∈(Zs6 B en'.toList).map (·.2.2):=List.mem_map.2 ⟨e,he,rfl⟩
   rw [z3] at this
   obtain ⟨x,hx,h4⟩:=List.mem_map.1 this
   rw [← h4];exact hst'.1 x hx
  ·rw [z3];exact hst'.2.1
 have hO:=a2.add (o:=.mapU (Zcd H.length es)) (l:=Zhc ob) ⟨Zhc ob,en',ck,_,Qp _ _ _,hob,Nat.le_trans hS.size hobge,z1.mono (Yq a2 _),hPU⟩ hobF.1 (Zp8 hS hobge) (fun _=>hobF.2)
 have hgbF2 : ZeI (Kz ι1 (H++l).length (Zhc ob)) (H++l++[.mapU (Zcd H.length es)]) gb':=hgbF.add a2 (Ne.symm n1)
 have hN:=hO.add (o:=.cells [.map (some (H.length+l.length))] 1 false false) (l:=⟨gb',0,1,1,false⟩) (by
  refine ⟨⟨gb',0,1,1,false⟩,_,_,_,Qp _ _ _,rfl,rfl,hgb,by simp,by simp,?_,fun _=>⟨Nat.le_trans hS.size hgbge,.inl rfl,fun _=>rfl⟩,by simp,by simp [oneCell]⟩
  refine ⟨rfl,fun i hi=>?_⟩
  have : i=0:=by simpa using hi
  subst this
  refine .mp (l:=Zhc ob) (Yq hO _ _ _ ?_)
  rw [← hlen]
  exact Qp _ _ _) hgbF2.1 (Zp8 hS hgbge) (fun _=>hgbF2.2)
 refine ⟨_,_,(hle1.trans (Yq a2 _)).trans (Yq hO _),he,?_,hN⟩
 have hp:=RV.ptr (ι:=Kz (Kz ι1 (H++l).length (Zhc ob)) (H++l++[Zf.mapU (Zcd H.length es)]).length ⟨gb',0,1,1,false⟩) (o:=0) (Qp _ _ _)
 have hlen2 : (H++l++[Zf.mapU (Zcd H.length es)]).length=H.length+l.length+1:=by rw [List.length_append,List.length_append,List.length_singleton]
 rw [hlen2] at hp ⊢
 exact hp
end
end Go.Proofs.YtedkoimihknggaaGreatDoor.A

namespace Go.Proofs.YtedkoimihknggaaGreatDoor.A
set_option linter.unusedVariables false
set_option linter.unusedSimpArgs false
open Go.RowKit Go.Maps Go.ChangeMaps Go.MapKept
section
variable {P : Program} (w : World) {ops : Array Oper} {rest : List Oper} {o : Oper} {a : Act} {Q : Exit→Act→World→Prop}
theorem Zod (hg : o.guard=none) (m : Operand) (t : TypeId) (hop : o.op=Op.range t m) (k e : TypeId) (ht : P.underlying t=some (.map k e)) (b : Nat) (es : Array MapEntry) (clock : Nat)
  (hm : a.eval m=.map (some b)) (hb : w.heap[b]?=some (.map es clock))
  (hK : wpList P ops Q rest (a.put o.dst (.pointer (some ⟨w.heap.size,0,none⟩))) (w.alloc (.mapIter (some b) clock #[] clock))) :
  wpList P ops Q (o :: rest) a w:=by
 refine wpList_plain hg fun K' hK'=>?_
 have hrun:=run_range_map (P:=P) w t k e b es clock ht hb
 unfold Oper.wp
 simp [execOp,hop,hm,hrun,Result.andThen]
 exact hK' _ _ hK
theorem Zpw (hg : o.guard=none) (it : Operand) (hop : o.op=Op.next it false) (b r since c0 clock : Nat) (seen : Array Nat) (es : Array MapEntry)
  (hit : a.eval it=.pointer (some ⟨r,0,none⟩)) (hr : w.heap[r]?=some (.mapIter (some b) since seen c0)) (hb : w.heap[b]?=some (.map es clock)) (hst : Go.MapKept.Stamped es clock) (hsince : since=clock) (hsc : since≤c0)
  (hDone : (∀ x∈es.toList,x.born∈seen)→wpList P ops Q rest (a.put o.dst (.tuple #[.bool false])) w)
  (hMore : ∀ (e : MapEntry) (w' : World),e∈es.toList→e.born∉seen→w'.heap[r]?=some (.mapIter (some b) since (seen.push e.born) clock)→(leftOf es (seen.push e.born)).size < (leftOf es seen).size→
   w.grownBy w' (some r)→w'.heap.size=w.heap.size→(Instr.entry (.pointer (some ⟨r,0,none⟩))).run P w'=.ok (.tuple #[e.key,e.val]) w'→wpList P ops Q rest (a.put o.dst (.tuple #[.bool true,e.key,e.val])) w') :
  wpList P ops Q (o :: rest) a w:=by
 refine wpList_plain hg fun K' hK'=>?_
 unfold Oper.wp
 have hold : ∀ x∈es.toList,x.born < since:=by rw [hsince];exact hst.1
 rcases run_next_at (P:=P) w o.type r b since c0 seen es clock hr hb hold hsc with ⟨h0,hrun⟩ | ⟨e,he,w1,hal,hrun⟩
 ·simp [execOp,hop,hit,hrun,Result.andThen]
  refine hK' _ _ (hDone fun x hx=>?_)
  have:=all_seen es seen h0 x hx
  simpa using this
 ·obtain ⟨hem,hes⟩:=mem_left he
  have hr1 : w1.heap[r]?=some (.mapIter (some b) since seen c0):=by rcases hal with rfl | rfl <;> exact hr
  have hb1 : w1.heap[b]?=some (.map es clock):=by rcases hal with rfl | rfl <;> exact hb
  have hset:=heap_set (o':=.mapIter (some b) since (seen.push e.born) clock) hr1
  have hne : r≠b:=by
   intro e1
   rw [e1,hb] at hr
   cases hr
  have hb' : (setBlock w1 r (.mapIter (some b) since (seen.push e.born) clock)).heap[b]?=some (.map es clock):=(hset.2 b (fun e1=>hne e1.symm)).trans hb1
  simp [execOp,hop,hit,hrun,Result.andThen]
  refine hK' _ _ (hMore e _ hem (by simpa using hes) hset.1 (left_shrinks es seen e he) ?_ ?_ (run_entry_at _ r b since seen es clock e hset.1 hb' hem ((stamped_iff es clock).1 hst).2.1))
  ·rcases hal with rfl | rfl <;> exact ⟨rfl,rfl,rfl,by simp [setBlock],fun i _ hi=>hset.2 i (fun e1=>hi (by rw [e1]))⟩
  ·rcases hal with rfl | rfl <;> simp [setBlock]
end
theorem KG {w : World} {o : Obj} {b : Nat} (h : b < w.heap.size) : (w.alloc o).heap[b]?=w.heap[b]?:=(MapKept.heap_alloc w o).2 b h
theorem ZuH {P : Program} {t kt e : TypeId} {k : List UInt8} {en : Array MapEntry} {ck ob : Nat} {W : World} (ht : P.underlying t=some (.map kt e)) (htk : tkT P kt=.str) (hb : W.heap[ob]?=some (.map en ck)) (hkeys : ∀ x∈en.toList,∃ k',x.key=strv k'∧k'≠k) (v : Value) :
  ∃ W2,(Instr.mapUpdate t (.map (some ob)) (strv k) v).run P W=.ok () W2∧W2=setB W ob (.map (en.push { key:=strv k,val:=v,born:=ck }) (ck+1)):=by
 have hok : okK (tkT P kt) (strv k)=true:=by rw [htk];rfl
 obtain ⟨d,hd,hsk,hchk⟩:=Zby hok
 have hE : ∀ l : List MapEntry,(∀ x∈l,∃ k',x.key=strv k'∧k'≠k)→JC (fun _=>none) (l.map fun x=>(x.key,Value.tuple #[],x.born)) l∧∀ i,Ym .str (strv k) (l.map fun x=>(x.key,Value.tuple #[],x.born)) i=some none:=by
  intro l
  induction l with
  | nil=>intro _;exact ⟨trivial,fun _=>rfl⟩
  | cons x l ih=>
   intro h
   obtain ⟨k',hk1,hk2⟩:=h x (by simp)
   obtain ⟨h1,h2⟩:=ih fun y hy=>h y (by simp [hy])
   refine ⟨⟨⟨by show QN x.key=true;rw [hk1];rfl,rfl,.un,rfl⟩,h1⟩,fun i=>?_⟩
   have hs : ZcM .str (strv k) x.key=some (k==k'):=by rw [hk1];simp only [ZcM,strv,ZxM]
   simp only [List.map_cons,Ym,hs]
   rw [show (k==k')=false by rw [beq_eq_false_iff_ne];exact Ne.symm hk2]
   exact h2 _
 obtain ⟨h1,h2⟩:=hE en.toList hkeys
 obtain ⟨r',h3,h4⟩:=Kr (k:=strv k) hd 0 h1 (by rw [htk];exact h2 0)
 cases r' with
 | some p=>exact h4.elim
 | none=>
  refine ⟨_,?_,rfl⟩
  simp only [Instr.mapUpdate,Sem.run_bind,run_underlying ht,Result.andThen_ok,JE hb,hchk,JO hd h3,YP hb]
structure CpR (w : World) (b r gb' ob : Nat) (es : Array MapEntry) (clock : Nat) (seen : Array Nat) (c0 : Nat) (en : Array MapEntry) (ck : Nat) (L : List (MapEntry × Nat)) (el : TypeId) (wr : World) : Prop where
 it : wr.heap[r]?=some (.mapIter (some b) clock seen c0)
 c0 : clock≤c0
 g : wr.heap[gb']?=some (.cells #[.map (some ob)] el (0,0))
 o : wr.heap[ob]?=some (.map en ck)
 st : Go.MapKept.Stamped en ck
 ent : en.toList.map (fun x=>(x.key,x.val))=L.map (fun p=>(p.1.key,Value.map (some p.2)))
 sn : L.map (·.1.born)=seen.toList
 mem : ∀ p∈L,p.1∈es.toList∧∃ sb ses sclk,p.1.val=.map (some sb)∧w.heap[sb]?=some (.map ses sclk)∧wr.heap[p.2]?=some (.map ses sclk)
 nod : (r :: gb' :: ob :: L.map (·.2)).Nodup
 ge : ∀ q∈r :: gb' :: ob :: L.map (·.2),w.heap.size≤q
 snod : seen.toList.Nodup
 bel : Below w.heap.size w wr
section
variable {w wr w1 : World} {b r g o : Nat} {es : Array MapEntry} {clock : Nat} {seen : Array Nat} {c0 : Nat} {en : Array MapEntry} {ck : Nat} {L : List (MapEntry × Nat)} {el : TypeId}
theorem CpR.lts (h : CpR w b r g o es clock seen c0 en ck L el wr) : r < wr.heap.size∧g < wr.heap.size∧o < wr.heap.size:=⟨(Array.getElem?_eq_some_iff.1 h.it).1,(Array.getElem?_eq_some_iff.1 h.g).1,(Array.getElem?_eq_some_iff.1 h.o).1⟩
theorem CpR.keys (h : CpR w b r g o es clock seen c0 en ck L el wr) (hst : Go.MapKept.Stamped es clock) {e : MapEntry} (he1 : e∈es.toList) (he2 : e.born∉seen) : ∀ x∈en.toList,x.key≠e.key:=fun x hx e4=>by
 have h3 : (x.key,x.val)∈L.map (fun p=>(p.1.key,Value.map (some p.2))):=by rw [← h.ent];exact List.mem_map.2 ⟨x,hx,rfl⟩
 obtain ⟨p,hp,h4⟩:=List.mem_map.1 h3
 simp only [Prod.mk.injEq] at h4
 obtain ⟨hm,_⟩:=h.mem p hp
 have h5 : p.1=e:=entry_eq_of_key ((stamped_iff es clock).1 hst).2.2 hm he1 (h4.1.trans e4)
 have : p.1.born∈seen.toList:=by rw [← h.sn];exact List.mem_map.2 ⟨p,hp,rfl⟩
 rw [h5] at this
 exact he2 (by simpa using this)
theorem CpR.next (h : CpR w b r g o es clock seen c0 en ck L el wr) (hst : Go.MapKept.Stamped es clock) {e : MapEntry} {sb sclk : Nat} {ses : Array MapEntry} (he1 : e∈es.toList) (he2 : e.born∉seen) (hev : e.val=.map (some sb)) (hsb : w.heap[sb]?=some (.map ses sclk))
  (hit : w1.heap[r]?=some (.mapIter (some b) clock (seen.push e.born) clock)) (hgr : wr.grownBy w1 (some r)) (hsz : w1.heap.size=wr.heap.size) :
  CpR w b r g o es clock (seen.push e.born) clock (en.push { key:=e.key,val:=.map (some wr.heap.size),born:=ck }) (ck+1) (L++[(e,wr.heap.size)]) el
   (setB (w1.alloc (.map ses sclk)).drew o (.map (en.push { key:=e.key,val:=.map (some wr.heap.size),born:=ck }) (ck+1))):=by
 obtain ⟨l1,l2,l3⟩:=h.lts
 have hnod:=h.nod
 simp only [List.nodup_cons,List.mem_cons,not_or] at hnod
 obtain ⟨⟨n1,n2,n3⟩,⟨n4,n5⟩,n6,n7⟩:=hnod
 generalize hX : Obj.map (en.push { key:=e.key,val:=.map (some wr.heap.size),born:=ck }) (ck+1)=X
 have hge:=h.ge
 have hLlt : ∀ p∈L,p.2 < wr.heap.size:=fun p hp=>by
  obtain ⟨_,sb',ses',sclk',h1,h2,h3⟩:=h.mem p hp
  exact (Array.getElem?_eq_some_iff.1 h3).1
 have keep : ∀ c,c < wr.heap.size→c≠o→c≠r→(setB (w1.alloc (.map ses sclk)).drew o X).heap[c]?=wr.heap[c]?:=fun c hc h1 h2=>by
  rw [JI h1]
  show (w1.alloc (.map ses sclk)).heap[c]?=_
  rw [KG (by omega),hgr.block c hc (by simpa using h2)]
 have hk:=h.keys hst he1 he2
 have hst2:=(stamped_iff en ck).1 h.st
 refine ⟨?_,Nat.le_refl _,by rw [keep g l2 n4 (Ne.symm n1)];exact h.g,?_,?_,?_,?_,?_,?_,?_,?_,?_⟩
 ·rw [JI n2]
  show (w1.alloc (.map ses sclk)).heap[r]?=_
  rw [KG (by omega)];exact hit
 ·rw [Zef (by show o < (w1.alloc (.map ses sclk)).heap.size;simp;omega),hX]
 ·refine (stamped_iff _ _).2 ⟨fun x hx=>?_,?_,?_⟩
  ·rw [Array.toList_push,List.mem_append] at hx
   rcases hx with hx | hx
   ·exact Nat.lt_succ_of_lt (hst2.1 x hx)
   ·have : x={ key:=e.key,val:=.map (some wr.heap.size),born:=ck }:=by simpa using hx
    rw [this];exact Nat.lt_succ_self _
  ·rw [Array.toList_push,List.map_append,List.nodup_append]
   refine ⟨hst2.2.1,by simp,fun a ha c hc=>?_⟩
   have hc : c=ck:=by simpa using hc
   obtain ⟨x,hx,rfl⟩:=List.mem_map.1 ha
   have:=hst2.1 x hx
   omega
  ·rw [Array.toList_push,List.pairwise_append]
   refine ⟨hst2.2.2,by simp,fun x hx y hy=>?_⟩
   have : y={ key:=e.key,val:=.map (some wr.heap.size),born:=ck }:=by simpa using hy
   rw [this];exact hk x hx
 ·rw [Array.toList_push,List.map_append,List.map_append,h.ent];rfl
 ·rw [List.map_append,h.sn,Array.toList_push];rfl
 ·intro p hp
  rcases List.mem_append.1 hp with hp | hp
  ·obtain ⟨h1,sb',ses',sclk',h2,h4,h3⟩:=h.mem p hp
   have hp2 : p.2∈L.map (·.2):=List.mem_map.2 ⟨p,hp,rfl⟩
   exact ⟨h1,sb',ses',sclk',h2,h4,by rw [keep p.2 (hLlt p hp) (fun e1=>n6 (e1 ▸ hp2)) (fun e1=>n3 (e1 ▸ hp2))];exact h3⟩
  ·have : p=(e,wr.heap.size):=by simpa using hp
   subst this
   refine ⟨he1,sb,ses,sclk,hev,hsb,?_⟩
   rw [JI (by show wr.heap.size≠o;omega)]
   show (w1.alloc (.map ses sclk)).heap[wr.heap.size]?=_
   rw [← hsz]
   exact (MapKept.heap_alloc w1 _).1
 ·have hnew : ∀ q∈r :: g :: o :: L.map (·.2),q≠wr.heap.size:=fun q hq=>by
   simp only [List.mem_cons] at hq
   rcases hq with rfl | rfl | rfl | hq
   ·omega
   ·omega
   ·omega
   ·obtain ⟨p,hp,rfl⟩:=List.mem_map.1 hq
    exact Nat.ne_of_lt (hLlt p hp)
  have : r :: g :: o :: (L++[(e,wr.heap.size)]).map (·.2)=(r :: g :: o :: L.map (·.2))++[wr.heap.size]:=by simp
  rw [this,List.nodup_append]
  refine ⟨h.nod,by simp,fun a ha c hc=>?_⟩
  have hc : c=wr.heap.size:=by simpa using hc
  rw [hc];exact hnew a ha
 ·intro q hq
  have : r :: g :: o :: (L++[(e,wr.heap.size)]).map (·.2)=(r :: g :: o :: L.map (·.2))++[wr.heap.size]:=by simp
  rw [this] at hq
  rcases List.mem_append.1 hq with hq | hq
  ·exact hge q hq
  ·have : q=wr.heap.size:=by simpa using hq
   rw [this];exact h.bel.size
 ·rw [Array.toList_push,List.nodup_append]
  refine ⟨h.snod,by simp,fun a ha c hc=>?_⟩
  have hc : c=e.born:=by simpa using hc
  rw [hc];rintro rfl;exact he2 (by simpa using ha)
 ·refine ⟨(show w1.os=_ from hgr.os.trans h.bel.os),(show w1.tape=_ from hgr.tape.trans h.bel.tape),(show w1.output=_ from hgr.output.trans h.bel.output),?_,fun i hi=>?_⟩
  ·rw [Zx3]
   show _≤(w1.alloc (.map ses sclk)).heap.size
   have:=h.bel.size
   simp;omega
  ·have ho:=hge o (by simp)
   have hr:=hge r (by simp)
   rw [keep i (Nat.lt_of_lt_of_le hi h.bel.size) (by omega) (by omega)]
   exact h.bel.block i hi
theorem CpR.left (h : CpR w b r g o es clock seen c0 en ck L el wr) (hb : w.heap[b]?=some (.map es clock)) : wr.heap[b]?=some (.map es clock)∧wr.rangeLeft b r=(leftOf es seen).size:=by
 have hbl : b < w.heap.size:=(Array.getElem?_eq_some_iff.1 hb).1
 have h1 : wr.heap[b]?=some (.map es clock):=(h.bel.block b hbl).trans hb
 refine ⟨h1,?_⟩
 simp only [World.rangeLeft,h1,h.it]
theorem CpR.perm (h : CpR w b r g o es clock seen c0 en ck L el wr) (hst : Go.MapKept.Stamped es clock) (hall : ∀ x∈es.toList,x.born∈seen) : (L.map (·.1)).Perm es.toList:=by
 have hst2:=(stamped_iff es clock).1 hst
 have n1 : (L.map (·.1)).Nodup:=by
  have : ((L.map (·.1)).map (·.born)).Nodup:=by rw [List.map_map];exact h.sn ▸ h.snod
  exact List.Pairwise.of_map _ (fun a b h e=>h (congrArg _ e)) this
 have n2 : es.toList.Nodup:=List.Pairwise.of_map _ (fun a b h e=>h (congrArg _ e)) hst2.2.1
 refine (List.perm_ext_iff_of_nodup n1 n2).2 fun x=>⟨fun hx=>?_,fun hx=>?_⟩
 ·obtain ⟨p,hp,rfl⟩:=List.mem_map.1 hx
  exact (h.mem p hp).1
 ·have h1 : x.born∈L.map (·.1.born):=by rw [h.sn];simpa using hall x hx
  obtain ⟨p,hp,h2⟩:=List.mem_map.1 h1
  have : p.1=x:=born_inj hst2.2.1 (h.mem p hp).1 hx h2
  exact List.mem_map.2 ⟨p,hp,this⟩
end
set_option maxRecDepth 100000 in
theorem ZB1 (hCl : Zg4 Tryz.prog 196) : ZvU Tryz.prog 158 where
 c:=⟨Tryz.f158,Tryz.func158,by kernel_rfl,by kernel_rfl⟩
 run:=fun w gb b es clock hgb hcell hb hst hks hvs=>by
  have hmm:=@run_makeMap Tryz.prog
  have hbl : b < w.heap.size:=(Array.getElem?_eq_some_iff.1 hb).1
  go_enter Tryz.func158,Tryz.ntmps158
  go_wp2_with (first
   | (at_range;refine Zod _ rfl _ 154 rfl _ _ Tryz.underlying154 b es clock rfl ?_ ?_)
   | go_in)
  ·rw [KG (by simp;omega),KG hbl];exact hb
  ·go_frame
   have e1 : ((w.alloc (.map #[] 0)).alloc (.cells #[.map (some w.heap.size)] 156)).heap.size=w.heap.size+2:=by simp
   have e2 : (w.alloc (.map #[] 0)).heap.size=w.heap.size+1:=by simp
   rw [e1]
   try rw [e2]
   go_loopw [4,5] (fun _ _ wr=>∃ seen c0 en ck L,CpR w b (w.heap.size+2) (w.heap.size+1) w.heap.size es clock seen c0 en ck L 156 wr) (fun _ _ wr=>wr.rangeLeft b (w.heap.size+2))
   case atStart=>
    refine ⟨#[],clock,#[],0,[],?_⟩
    have hA:=fun (w : World) (o : Obj)=>(MapKept.heap_alloc w o).1
    refine ⟨?_,Nat.le_refl _,?_,?_,⟨by simp,by simp,by simp⟩,rfl,rfl,by simp,by simp,?_,by simp,?_⟩
    ·rw [← e1];exact hA _ _
    ·rw [KG (by rw [e1];omega),← e2];exact hA _ _
    ·rw [KG (by rw [e1];omega),KG (by rw [e2];omega)];exact hA _ _
    ·intro q hq
     simp only [List.map_nil,List.mem_cons,List.not_mem_nil,or_false] at hq
     omega
    ·exact (((Below.refl _ _).alloc (Nat.le_refl _) _).alloc (by rw [e2];omega) _).alloc (by rw [e1];omega) _
   case round=>
    obtain ⟨seen,c0,en,ck,L,hR⟩:=hrel
    go_wp2_with (first
     | (at_next;refine Zpw _ rfl _ rfl b (w.heap.size+2) clock c0 clock seen es rfl hR.it ?_ hst rfl hR.c0 ?_ ?_)
     | go_in)
    ·exact (hR.left hb).1
    ·intro hdone
     go_wp2
     go_ret
     have hp:=hR.perm hst (by simpa using hdone)
     have hnod:=hR.nod
     have hge:=hR.ge
     exact ⟨_,_,_,_,_,_,rfl,hR.g,hR.o,hR.st,hR.ent,hp,fun p hp=>(by obtain ⟨_,sb,ses,sclk,h1,h2,h3⟩:=hR.mem p hp;exact ⟨sb,h1,h3.trans h2.symm⟩),(List.nodup_cons.1 hnod).2,fun q hq=>hge q (List.mem_cons_of_mem _ hq),hR.bel⟩
    ·intro e w1 he1 he2 hit1 hlt hgr hsz hen
     go_upto_region 5 with fail
     have he1 : e∈es.toList:=by simpa using he1
     obtain ⟨sb,ses,sclk,hev,hsb⟩:=hvs e he1
     obtain ⟨k,hek⟩:=hks e he1
     obtain ⟨W2,hcg,hcg2,hsz1,hsb1,hmu,hW2⟩ : ∃ W2,w1.cell? ⟨w.heap.size+1,0,none⟩=some (.map (some w.heap.size))∧(w1.alloc (.map ses sclk)).cell? ⟨w.heap.size+1,0,none⟩=some (.map (some w.heap.size))∧w.heap.size+1 < wr.heap.size∧w1.heap[sb]?=some (.map ses sclk)∧
       (Instr.mapUpdate 154 (.map (some w.heap.size)) (strv k) (.map (some wr.heap.size))).run Tryz.prog (w1.alloc (.map ses sclk)).drew=.ok () W2∧W2=setB (w1.alloc (.map ses sclk)).drew w.heap.size (.map (en.push { key:=strv k,val:=.map (some wr.heap.size),born:=ck }) (ck+1)):=by
      have hw : w.heap.size < wr.heap.size:=(Array.getElem?_eq_some_iff.1 hR.o).1
      have hg1 : w1.heap[w.heap.size+1]?=some (.cells #[.map (some w.heap.size)] 156 (0,0)):=by
       rw [hgr.block _ (Array.getElem?_eq_some_iff.1 hR.g).1 (by simp)];exact hR.g
      have ho1 : w1.heap[w.heap.size]?=some (.map en ck):=by
       rw [hgr.block _ hw (by simp)];exact hR.o
      have hcg : w1.cell? ⟨w.heap.size+1,0,none⟩=some (.map (some w.heap.size)):=by
       rw [ZgT hg1];rfl
      have hsbl : sb < w.heap.size:=(Array.getElem?_eq_some_iff.1 hsb).1
      have hsb1 : w1.heap[sb]?=some (.map ses sclk):=by
       rw [hgr.block _ (by omega) (by simp;omega),hR.bel.block sb hsbl];exact hsb
      have hoD : (w1.alloc (.map ses sclk)).drew.heap[w.heap.size]?=some (.map en ck):=by
       show (w1.alloc (.map ses sclk)).heap[w.heap.size]?=_
       rw [KG (by omega)];exact ho1
      have hkn : ∀ x∈en.toList,∃ k',x.key=strv k'∧k'≠k:=fun x hx=>by
       have h3 : (x.key,x.val)∈L.map (fun p=>(p.1.key,Value.map (some p.2))):=by rw [← hR.ent];exact List.mem_map.2 ⟨x,hx,rfl⟩
       obtain ⟨p,hp,h4⟩:=List.mem_map.1 h3
       simp only [Prod.mk.injEq] at h4
       obtain ⟨hm,_⟩:=hR.mem p hp
       obtain ⟨k',hk'⟩:=hks p.1 hm
       refine ⟨k',by rw [← h4.1];exact hk',fun e4=>he2 ?_⟩
       have h5 : p.1=e:=entry_eq_of_key ((stamped_iff es clock).1 hst).2.2 hm he1 (by rw [hk',hek,e4])
       have : p.1.born∈seen.toList:=by rw [← hR.sn];exact List.mem_map.2 ⟨p,hp,rfl⟩
       rw [h5] at this
       simpa using this
      obtain ⟨W2,hmu,hW2⟩:=ZuH (P:=Tryz.prog) (t:=154) (k:=k) (v:=.map (some wr.heap.size)) Tryz.underlying154 (by kernel_rfl) hoD hkn
      have hs1 : w.heap.size+1 < wr.heap.size:=(Array.getElem?_eq_some_iff.1 hR.g).1
      have hg2 : (w1.alloc (.map ses sclk)).heap[w.heap.size+1]?=some (.cells #[.map (some w.heap.size)] 156 (0,0)):=by
       rw [KG (by omega)];exact hg1
      exact ⟨W2,hcg,by rw [ZgT hg2];rfl,hs1,hsb1,hmu,hW2⟩
     rw [hev,hek]
     go_region_with (first
      | (go_at_call 196;refine (hCl.some sb ses sclk _ ?_).mono ?_;exact hsb1;rintro e w' ⟨rfl,rfl⟩)
      | fail)
     ·have hN:=hR.next hst he1 he2 hev hsb hit1 hgr hsz
      rw [hek] at hN
      go_roundw
      case rel=>(repeat apply Exists.intro);exact ⟨⟨_,_,_,_,_,hN⟩,rfl⟩
      case measure=>rw [(hN.left hb).2,(hR.left hb).2];exact hlt
     ·have hN:=hR.next hst he1 he2 hev hsb hit1 hgr hsz
      rw [hek] at hN
      go_roundw
      case rel=>(repeat apply Exists.intro);exact ⟨⟨_,_,_,_,_,hN⟩,rfl⟩
      case measure=>rw [(hN.left hb).2,(hR.left hb).2];exact hlt
end Go.Proofs.YtedkoimihknggaaGreatDoor.A

namespace Go.Proofs
open Go.RowKit Go.Maps Go.Sort Go.Shelf
def Tryz.cloneA_ren : Go.Shelf.Ren := ⟨fun | 5 => 156 | 7 => 194 | n => n, fun | 23 => 82 | 25 => 9 | 3 => 89 | 4 => 4 | 20 => 20 | n => n, fun | n => n⟩
theorem Tryz.cloneA : Go.Proofs.SlLaysW.n5 Tryz.prog Tryz.cloneA_ren := {
  mixed := by kernel_rfl
  f5 := ⟨Tryz.f156.name, by decide, Tryz.func156.trans (congrArg some (by kernel_rfl))⟩
  f7 := Tryz.func194.trans (congrArg some (by kernel_rfl))
  t4 := Tryz.underlying4
  a4 := Tryz.isAgg4
  z4 := Tryz.sizeOf4
  v4 := Tryz.zeroValue4
  t20 := Tryz.underlying20
  a20 := Tryz.isAgg20
  z20 := Tryz.sizeOf20
  v20 := Tryz.zeroValue20
  t23 := Tryz.underlying82
  a23 := Tryz.isAgg82
  z23 := Tryz.sizeOf82
  v23 := Tryz.zeroValue82 }
def Tryz.cloneB_ren : Go.Shelf.Ren := ⟨fun | 5 => 195 | 7 => 194 | n => n, fun | 23 => 130 | 25 => 9 | 3 => 9 | 4 => 4 | 20 => 20 | n => n, fun | n => n⟩
theorem Tryz.cloneB : Go.Proofs.SlLaysW.n5 Tryz.prog Tryz.cloneB_ren := {
  mixed := by kernel_rfl
  f5 := ⟨Tryz.f195.name, by decide, Tryz.func195.trans (congrArg some (by kernel_rfl))⟩
  f7 := Tryz.func194.trans (congrArg some (by kernel_rfl))
  t4 := Tryz.underlying4
  a4 := Tryz.isAgg4
  z4 := Tryz.sizeOf4
  v4 := Tryz.zeroValue4
  t20 := Tryz.underlying20
  a20 := Tryz.isAgg20
  z20 := Tryz.sizeOf20
  v20 := Tryz.zeroValue20
  t23 := Tryz.underlying130
  a23 := Tryz.isAgg130
  z23 := Tryz.sizeOf130
  v23 := Tryz.zeroValue130 }
def Tryz.cloneC_ren : Go.Shelf.Ren := ⟨fun | 5 => 196 | 7 => 194 | n => n, fun | 23 => 151 | 25 => 9 | 3 => 157 | 4 => 4 | 20 => 20 | n => n, fun | n => n⟩
theorem Tryz.cloneC : Go.Proofs.SlLaysW.n5 Tryz.prog Tryz.cloneC_ren := {
  mixed := by kernel_rfl
  f5 := ⟨Tryz.f196.name, by decide, Tryz.func196.trans (congrArg some (by kernel_rfl))⟩
  f7 := Tryz.func194.trans (congrArg some (by kernel_rfl))
  t4 := Tryz.underlying4
  a4 := Tryz.isAgg4
  z4 := Tryz.sizeOf4
  v4 := Tryz.zeroValue4
  t20 := Tryz.underlying20
  a20 := Tryz.isAgg20
  z20 := Tryz.sizeOf20
  v20 := Tryz.zeroValue20
  t23 := Tryz.underlying151
  a23 := Tryz.isAgg151
  z23 := Tryz.sizeOf151
  v23 := Tryz.zeroValue151 }
def Tryz.keysA_ren : Go.Shelf.Ren := ⟨fun | 7 => 171 | 10 => 202 | n => n, fun | 23 => 130 | 26 => 9 | 3 => 9 | 28 => 208 | 0 => 0 | 27 => 207 | 33 => 143 | 4 => 4 | n => n, fun | n => n⟩
theorem Tryz.keysA : Go.Proofs.SlLaysZ.n7 Tryz.prog Tryz.keysA_ren := {
  mixed := by kernel_rfl
  f7 := ⟨Tryz.f171.name, by decide, Tryz.func171.trans (congrArg some (by kernel_rfl))⟩
  f10 := ⟨Tryz.f202.name, by decide, Tryz.func202.trans (congrArg some (by kernel_rfl))⟩
  t0 := Tryz.underlying0
  a0 := Tryz.isAgg0
  z0 := Tryz.sizeOf0
  v0 := Tryz.zeroValue0
  t4 := Tryz.underlying4
  a4 := Tryz.isAgg4
  z4 := Tryz.sizeOf4
  v4 := Tryz.zeroValue4
  t23 := Tryz.underlying130
  a23 := Tryz.isAgg130
  z23 := Tryz.sizeOf130
  v23 := Tryz.zeroValue130
  t26 := Tryz.underlying9
  a26 := Tryz.isAgg9
  z26 := Tryz.sizeOf9
  v26 := Tryz.zeroValue9
  t27 := Tryz.underlying207
  a27 := Tryz.isAgg207
  z27 := Tryz.sizeOf207
  v27 := Tryz.zeroValue207
  t28 := Tryz.underlying208
  a28 := Tryz.isAgg208
  z28 := Tryz.sizeOf208
  v28 := Tryz.zeroValue208
  t33 := Tryz.underlying143
  a33 := Tryz.isAgg143
  z33 := Tryz.sizeOf143
  v33 := Tryz.zeroValue143 }
def Tryz.keysB_ren : Go.Shelf.Ren := ⟨fun | 7 => 174 | 10 => 204 | n => n, fun | 23 => 82 | 26 => 9 | 3 => 89 | 28 => 208 | 0 => 0 | 27 => 207 | 33 => 143 | 4 => 4 | n => n, fun | n => n⟩
theorem Tryz.keysB : Go.Proofs.SlLaysZ.n7 Tryz.prog Tryz.keysB_ren := {
  mixed := by kernel_rfl
  f7 := ⟨Tryz.f174.name, by decide, Tryz.func174.trans (congrArg some (by kernel_rfl))⟩
  f10 := ⟨Tryz.f204.name, by decide, Tryz.func204.trans (congrArg some (by kernel_rfl))⟩
  t0 := Tryz.underlying0
  a0 := Tryz.isAgg0
  z0 := Tryz.sizeOf0
  v0 := Tryz.zeroValue0
  t4 := Tryz.underlying4
  a4 := Tryz.isAgg4
  z4 := Tryz.sizeOf4
  v4 := Tryz.zeroValue4
  t23 := Tryz.underlying82
  a23 := Tryz.isAgg82
  z23 := Tryz.sizeOf82
  v23 := Tryz.zeroValue82
  t26 := Tryz.underlying9
  a26 := Tryz.isAgg9
  z26 := Tryz.sizeOf9
  v26 := Tryz.zeroValue9
  t27 := Tryz.underlying207
  a27 := Tryz.isAgg207
  z27 := Tryz.sizeOf207
  v27 := Tryz.zeroValue207
  t28 := Tryz.underlying208
  a28 := Tryz.isAgg208
  z28 := Tryz.sizeOf208
  v28 := Tryz.zeroValue208
  t33 := Tryz.underlying143
  a33 := Tryz.isAgg143
  z33 := Tryz.sizeOf143
  v33 := Tryz.zeroValue143 }
def Tryz.keysC_ren : Go.Shelf.Ren := ⟨fun | 7 => 207 | 10 => 216 | n => n, fun | 23 => 154 | 26 => 9 | 3 => 151 | 28 => 208 | 0 => 0 | 27 => 207 | 33 => 143 | 4 => 4 | n => n, fun | n => n⟩
theorem Tryz.keysC : Go.Proofs.SlLaysZ.n7 Tryz.prog Tryz.keysC_ren := {
  mixed := by kernel_rfl
  f7 := ⟨Tryz.f207.name, by decide, Tryz.func207.trans (congrArg some (by kernel_rfl))⟩
  f10 := ⟨Tryz.f216.name, by decide, Tryz.func216.trans (congrArg some (by kernel_rfl))⟩
  t0 := Tryz.underlying0
  a0 := Tryz.isAgg0
  z0 := Tryz.sizeOf0
  v0 := Tryz.zeroValue0
  t4 := Tryz.underlying4
  a4 := Tryz.isAgg4
  z4 := Tryz.sizeOf4
  v4 := Tryz.zeroValue4
  t23 := Tryz.underlying154
  a23 := Tryz.isAgg154
  z23 := Tryz.sizeOf154
  v23 := Tryz.zeroValue154
  t26 := Tryz.underlying9
  a26 := Tryz.isAgg9
  z26 := Tryz.sizeOf9
  v26 := Tryz.zeroValue9
  t27 := Tryz.underlying207
  a27 := Tryz.isAgg207
  z27 := Tryz.sizeOf207
  v27 := Tryz.zeroValue207
  t28 := Tryz.underlying208
  a28 := Tryz.isAgg208
  z28 := Tryz.sizeOf208
  v28 := Tryz.zeroValue208
  t33 := Tryz.underlying143
  a33 := Tryz.isAgg143
  z33 := Tryz.sizeOf143
  v33 := Tryz.zeroValue143 }
def Tryz.collA_ren : Go.Shelf.Ren := ⟨fun | 8 => 200 | 11 => 208 | n => n, fun | 26 => 9 | 28 => 208 | 24 => 25 | 0 => 0 | 33 => 143 | 4 => 4 | n => n, fun | n => n⟩
theorem Tryz.collA : Go.Proofs.SlLaysZ.n8 Tryz.prog Tryz.collA_ren := {
  mixed := by kernel_rfl
  f8 := ⟨Tryz.f200.name, by decide, Tryz.func200.trans (congrArg some (by kernel_rfl))⟩
  f11 := ⟨Tryz.f208.name, by decide, Tryz.func208.trans (congrArg some (by kernel_rfl))⟩
  t0 := Tryz.underlying0
  a0 := Tryz.isAgg0
  z0 := Tryz.sizeOf0
  v0 := Tryz.zeroValue0
  t24 := Tryz.underlying25
  a24 := Tryz.isAgg25
  z24 := Tryz.sizeOf25
  v24 := Tryz.zeroValue25
  t26 := Tryz.underlying9
  a26 := Tryz.isAgg9
  z26 := Tryz.sizeOf9
  v26 := Tryz.zeroValue9
  t28 := Tryz.underlying208
  a28 := Tryz.isAgg208
  z28 := Tryz.sizeOf208
  v28 := Tryz.zeroValue208
  i26 := by kernel_rfl }
def Tryz.sortA_ren : Go.Shelf.Ren := ⟨fun | 6 => 201 | 15 => 210 | 14 => 209 | 28 => 225 | 29 => 226 | 20 => 217 | 21 => 218 | 22 => 219 | 23 => 220 | 24 => 221 | 25 => 222 | 26 => 223 | 27 => 224 | 46 => 234 | 47 => 235 | 48 => 236 | 49 => 237 | 50 => 238 | 57 => 242 | n => n, fun | 22 => 25 | 24 => 9 | 25 => 210 | 3 => 3 | 39 => 219 | 0 => 0 | 53 => 248 | 55 => 113 | 4 => 4 | 46 => 241 | 45 => 240 | 50 => 245 | 5 => 5 | 9 => 9 | 66 => 253 | 70 => 257 | 76 => 261 | 77 => 262 | n => n, fun | n => n⟩
theorem Tryz.sortA : Go.Proofs.SlLaysF.n6 Tryz.prog Tryz.sortA_ren := {
  mixed := by kernel_rfl
  f6 := ⟨Tryz.f201.name, by decide, Tryz.func201.trans (congrArg some (by kernel_rfl))⟩
  f14 := ⟨Tryz.f209.name, by decide, Tryz.func209.trans (congrArg some (by kernel_rfl))⟩
  f15 := Tryz.func210.trans (congrArg some (by kernel_rfl))
  f20 := ⟨Tryz.f217.name, by decide, Tryz.func217.trans (congrArg some (by kernel_rfl))⟩
  f21 := ⟨Tryz.f218.name, by decide, Tryz.func218.trans (congrArg some (by kernel_rfl))⟩
  f22 := ⟨Tryz.f219.name, by decide, Tryz.func219.trans (congrArg some (by kernel_rfl))⟩
  f23 := ⟨Tryz.f220.name, by decide, Tryz.func220.trans (congrArg some (by kernel_rfl))⟩
  f24 := ⟨Tryz.f221.name, by decide, Tryz.func221.trans (congrArg some (by kernel_rfl))⟩
  f25 := ⟨Tryz.f222.name, by decide, Tryz.func222.trans (congrArg some (by kernel_rfl))⟩
  f26 := ⟨Tryz.f223.name, by decide, Tryz.func223.trans (congrArg some (by kernel_rfl))⟩
  f27 := ⟨Tryz.f224.name, by decide, Tryz.func224.trans (congrArg some (by kernel_rfl))⟩
  f28 := Tryz.func225.trans (congrArg some (by kernel_rfl))
  f29 := Tryz.func226.trans (congrArg some (by kernel_rfl))
  f46 := ⟨Tryz.f234.name, by decide, Tryz.func234.trans (congrArg some (by kernel_rfl))⟩
  f47 := Tryz.func235.trans (congrArg some (by kernel_rfl))
  f48 := Tryz.func236.trans (congrArg some (by kernel_rfl))
  f49 := ⟨Tryz.f237.name, by decide, Tryz.func237.trans (congrArg some (by kernel_rfl))⟩
  f50 := ⟨Tryz.f238.name, by decide, Tryz.func238.trans (congrArg some (by kernel_rfl))⟩
  f57 := ⟨Tryz.f242.name, by decide, Tryz.func242.trans (congrArg some (by kernel_rfl))⟩
  t0 := Tryz.underlying0
  a0 := Tryz.isAgg0
  z0 := Tryz.sizeOf0
  v0 := Tryz.zeroValue0
  t3 := Tryz.underlying3
  a3 := Tryz.isAgg3
  z3 := Tryz.sizeOf3
  v3 := Tryz.zeroValue3
  t4 := Tryz.underlying4
  a4 := Tryz.isAgg4
  z4 := Tryz.sizeOf4
  v4 := Tryz.zeroValue4
  t5 := Tryz.underlying5
  a5 := Tryz.isAgg5
  z5 := Tryz.sizeOf5
  v5 := Tryz.zeroValue5
  t9 := Tryz.underlying9
  a9 := Tryz.isAgg9
  z9 := Tryz.sizeOf9
  v9 := Tryz.zeroValue9
  t22 := Tryz.underlying25
  a22 := Tryz.isAgg25
  z22 := Tryz.sizeOf25
  v22 := Tryz.zeroValue25
  a24 := Tryz.isAgg9
  z24 := Tryz.sizeOf9
  t25 := Tryz.underlying210
  a25 := Tryz.isAgg210
  z25 := Tryz.sizeOf210
  v25 := Tryz.zeroValue210
  t39 := Tryz.underlying219
  a39 := Tryz.isAgg219
  z39 := Tryz.sizeOf219
  v39 := Tryz.zeroValue219
  t45 := Tryz.underlying240
  a45 := Tryz.isAgg240
  z45 := Tryz.sizeOf240
  v45 := Tryz.zeroValue240
  t46 := Tryz.underlying241
  a46 := Tryz.isAgg241
  z46 := Tryz.sizeOf241
  v46 := Tryz.zeroValue241
  t50 := Tryz.underlying245
  a50 := Tryz.isAgg245
  z50 := Tryz.sizeOf245
  v50 := Tryz.zeroValue245
  t53 := Tryz.underlying248
  a53 := Tryz.isAgg248
  z53 := Tryz.sizeOf248
  v53 := Tryz.zeroValue248
  t55 := Tryz.underlying113
  a55 := Tryz.isAgg113
  z55 := Tryz.sizeOf113
  v55 := Tryz.zeroValue113
  t66 := Tryz.underlying253
  a66 := Tryz.isAgg253
  z66 := Tryz.sizeOf253
  v66 := Tryz.zeroValue253
  t70 := Tryz.underlying257
  a70 := Tryz.isAgg257
  z70 := Tryz.sizeOf257
  v70 := Tryz.zeroValue257
  t76 := Tryz.underlying261
  a76 := Tryz.isAgg261
  z76 := Tryz.sizeOf261
  v76 := Tryz.zeroValue261
  t77 := Tryz.underlying262
  a77 := Tryz.isAgg262
  z77 := Tryz.sizeOf262
  v77 := Tryz.zeroValue262 }
end Go.Proofs
namespace Go.Proofs.YtedkoimihknggaaGreatDoor.A
set_option linter.unusedVariables false
set_option linter.unusedSimpArgs false
open Go.RowKit Go.Maps Go.Sort Go.Shelf Go.Proofs
theorem clA : Zg4 Tryz.prog 156 where
 c:=⟨Tryz.f156,Tryz.func156,by kernel_rfl,by kernel_rfl⟩
 nil:=fun w=>AnyW.maps_Clone_nil Tryz.cloneA w
 some:=fun b es clock w hb=>AnyW.maps_Clone Tryz.cloneA b es clock w hb
theorem clB : Zg4 Tryz.prog 195 where
 c:=⟨Tryz.f195,Tryz.func195,by kernel_rfl,by kernel_rfl⟩
 nil:=fun w=>AnyW.maps_Clone_nil Tryz.cloneB w
 some:=fun b es clock w hb=>AnyW.maps_Clone Tryz.cloneB b es clock w hb
theorem clC : Zg4 Tryz.prog 196 where
 c:=⟨Tryz.f196,Tryz.func196,by kernel_rfl,by kernel_rfl⟩
 nil:=fun w=>AnyW.maps_Clone_nil Tryz.cloneC w
 some:=fun b es clock w hb=>AnyW.maps_Clone Tryz.cloneC b es clock w hb
def Zds (x y : List UInt8) : Int:=if x < y then -1 else if y < x then 1 else 0
theorem ZA5 (x : List UInt8) (w : World) : Calls Tryz.prog 211 #[encStr x] w fun e w'=>e=.returned (.bool false)∧w'=w:=by
 go_enter Tryz.func211,Tryz.ntmps211
 go_wp2
 go_ret
 exact ⟨by simp,rfl⟩
theorem Zmb (x y : List UInt8) : x < y∨x=y∨y < x:=by
 by_cases h : x < y
 ·exact .inl h
 ·by_cases h2 : y < x
  ·exact .inr (.inr h2)
  ·exact .inr (.inl (List.le_antisymm h2 h))
theorem ZyA (x y : List UInt8) (w : World) : Calls Tryz.prog 203 #[encStr x,encStr y] w fun e w'=>e=.returned (.int .i64 (Zds x y))∧w'=w:=by
 have e211 : ∀ args w,(callFunc 211 args).run Tryz.prog w=.ok (.enter 211 args) w:=enters_of Tryz.func211 (by kernel_rfl) rfl
 have hb : Op.bytesLess x y=decide (x < y):=bytesLess_eq x y
 have ht:=Zmb x y
 have hn : ∀ a : List UInt8,¬ a < a:=fun a=>List.lt_irrefl a
 have has : x < y→¬ y < x:=fun h=>List.lt_asymm h
 go_enter Tryz.func203,Tryz.ntmps203
 go_wp2_with (go_at_call 211;refine (ZA5 _ _).mono ?_;rintro e w' ⟨rfl,hw⟩;rw [hw])
 all_goals (go_ret;refine ⟨?_,rfl⟩;unfold Zds;rw [hb] at *;by_cases h1 : x < y <;> by_cases h2 : y < x <;> simp_all <;> exact absurd h2 (List.lt_irrefl _))
theorem ZrY (x y : List UInt8) (w : World) : Calls Tryz.prog 172 #[encStr x,encStr y] w fun e w'=>e=.returned (.int .i64 (Zds x y))∧w'=w:=by
 have e203 : ∀ args w,(callFunc 203 args).run Tryz.prog w=.ok (.enter 203 args) w:=enters_of Tryz.func203 (by kernel_rfl) rfl
 go_enter Tryz.func172,Tryz.ntmps172
 go_wp2_with (go_at_call 203;refine (ZyA _ _ _).mono ?_;rintro e w' ⟨rfl,hw⟩;rw [hw])
 go_ret
 exact ⟨rfl,rfl⟩
theorem ZAe (blk off size : Nat) (w : World) : CmpLays1 Tryz.prog 172 #[] encStr Zds blk off size w:=fun m os dk hd x y=>
 (ZrY x y _).mono fun e w' ⟨he,hw⟩=>⟨he,0,#[],by rw [hw];simp [grow,World.drewN]⟩
theorem ZhD (x y : List UInt8) : ltOf Zds x y=decide (x < y):=by
 unfold ltOf Zds
 by_cases h1 : x < y
 ·simp [h1]
 ·by_cases h2 : y < x <;> simp [h1,h2]
theorem ZCC : SWO (ltOf Zds) where
 irrefl x:=by rw [ZhD];exact decide_eq_false (List.lt_irrefl x)
 trans x y z h1 h2:=by rw [ZhD] at *;simp only [decide_eq_true_eq] at *;exact List.lt_trans h1 h2
 ntrans x y z h1 h2:=by
  rw [ZhD] at *
  simp only [decide_eq_false_iff_not] at *
  exact List.le_trans h2 h1
theorem ZxF {ss : List (List UInt8)} {d' : Array (List UInt8)} (hp : PermIn 0 ss.toArray.size ss.toArray d') (hs : SortedIn (ltOf Zds) 0 ss.toArray.size d') : d'=(ss.mergeSort fun x y=>decide (x≤y)).toArray:=by
 have hsz : d'.size=ss.length:=by simpa using hp.1
 have hperm : d'.toList.Perm ss:=by
  have h3 : d'.toList.Perm (ss.take d'.size):=by simpa [← hsz] using hp.2.2
  rwa [List.take_of_length_le (by omega)] at h3
 have hpw : d'.toList.Pairwise fun x y=>(decide (x≤y))=true:=by
  rw [List.pairwise_iff_getElem]
  intro i j hi hj hij
  have hi' : i < d'.size:=by simpa using hi
  have hj' : j < d'.size:=by simpa using hj
  have:=hs i j (Nat.zero_le _) hij (by simpa [hsz] using hj')
  rw [ZhD,getElem!_pos d' j hj',getElem!_pos d' i hi'] at this
  simp only [decide_eq_false_iff_not] at this
  simp only [Array.getElem_toList,decide_eq_true_eq]
  exact this
 have h1 : d'.toList.mergeSort (fun x y=>decide (x≤y))=d'.toList:=List.mergeSort_of_pairwise hpw
 have h2:=mergeSort_of_perm hperm
 apply Array.ext'
 rw [← h1]
 exact h2
theorem ZzR {g : FuncId} {args : List Value} {v : Value} {n : Nat} (hg : g < Zb0) (hc : Zdb Tryz.prog g) (hx : ∀ w : World,RVs (ι0 Tryz.prog.globals.size) args args) (hrun : ∃ H',run Tryz.prog (fun _=>none) lvs n g args (List.replicate Tryz.prog.globals.size Zf.dead)=some (v,H')) (w : World) :
  Calls Tryz.prog g args.toArray w fun e w'=>∃ v',e=.returned v'∧Go.RowKit.Below w.heap.size w w':=by
 obtain ⟨H',hrun⟩:=hrun
 have hs:=ZhE (P:=Tryz.prog) (prim:=fun _=>none) (lvs:=lvs) (by kernel_rfl) (fun b g m h=>by cases h) n (b0 w) g args _ v H' hrun
 rcases hs with ⟨_,hC | ⟨e,⟨fn',h1,_,h2,_⟩,_⟩⟩ | ⟨hno,_⟩
 ·obtain ⟨_,hC⟩:=hC
  refine (hC (ι0 Tryz.prog.globals.size) w args ZBu (hx w)).mono fun e w' ⟨ι1,v',_,he,_,hS⟩=>⟨v',he,?_⟩
  exact ⟨hS.rest.1,hS.rest.2.1,hS.rest.2.2,hS.size,hS.old⟩
 ·obtain ⟨fn,h3,_,h4⟩:=hc
  rw [h3] at h1;cases h1
  rw [h4] at h2;cases h2
 ·exact absurd hg (Nat.not_lt_of_le hno)
noncomputable abbrev R0 (n : Nat) : Zc:=run Tryz.prog (fun _=>none) lvs n
section
variable {H : Zd} {n : Nat} {f : Value}
theorem ZB0 : R0 (n+1) Jk [.slice none 0 0,iv 0,iv 0,f] H=some (.tuple #[],H):=by
 rw [R0,Zdf rfl]
 unfold Qd
 have w1 : IntKind.i64.wrap (0+1)=1:=w64 (by omega) (by omega)
 rw [Za ZB,w1]
 refine (Z5 (j:=0) (vs:=[]) (H':=H) (ZN ?_)).trans ?_
 ·simp [Qd.l1,↓Z9,Qa,↓QG,Qn,Qq,Qo,↓Zb,Ye,Zu,YM,Qx,JG,QA,JH,JF,QT,JR,QU,Q0,Q8,Q4,QH,Zn,ZF,Y9,YN,Jq,Jc,Yd,ZB,Q1,J0,Yg,J2,ZD,Zq,Zk,Ja,Qk,Qm,Jy,JS,JU,Yc,↓Kj,Yf,↓g_r,Kh,Bool.not_true,Bool.not_false,Bool.false_eq_true,Bool.true_eq_false,reduceIte,List.tail_cons,List.headD_cons,decide_true,decide_false,cond_true,cond_false,Nat.beq_refl,Ww,YT,Qf,ZU,ZJ,Qs,Jw,Jj,Ki,KL,YE,YZ,Y6,ZG,List.replicate,Zt,Zs,Jn,Jm,Jl,Zg,J1,ZP,ZX]
 ·rw [ZG];rfl
theorem ZBK {l : Value} : R0 (n+2) QX [.slice none 0 0,iv 0,iv 0,l,f] H=some (.tuple #[],H):=by
 have e1 : run Tryz.prog (fun _=>none) lvs (n+1) Jk [.slice none 0 0,iv 0,iv 0,f] H=_:=ZB0
 rw [R0,Ze9 rfl]
 unfold Jv
 refine (Yh (v:=.tuple #[]) (H':=H) (QR ?_)).trans rfl
 have w1 : IntKind.i64.wrap (0 - 0)=0:=w64 (by omega) (by omega)
 rw [Jj]
 unfold Jv.l1
 refine Yh ?_
 rw [Za Q1,w1,Za Ja,Zb,if_pos (by simp),Za e1]
 rfl
theorem ZBh {s : ByteArray} {i : Nat} (hi : i < s.size) (q : IntKind) (H : Zd) : ∃ b : UInt8,ixs (.string s) (.int q i) H=some (.int .u8 b.toNat,H):=by
 refine ⟨s[i],?_⟩
 unfold ixs
 simp only [Int.toNat_natCast]
 rw [if_pos (by omega),getElem?_pos s i hi]
set_option maxRecDepth 100000 in
theorem ZBM : ∃ v,R0 (n+2) ZdP [.int .u64 0] H=some (v,H):=by
 have e : ∃ v,R0 (n+1) ZcP [.int .u64 0] H=some (v,H):=by
  rw [R0,ZmE rfl]
  unfold ZeJ
  have w1 : IntKind.u8.wrap 0=((0 : Nat) : Int):=by rw [wu8];rfl
  generalize ht : (⟨#[0,1,2,2,3,3,3,3,4,4,4,4,4,4,4,4,5,5,5,5,5,5,5,5,5,5,5,5,5,5,5,5,6,6,6,6,6,6,6,6,6,6,6,6,6,6,6,6,6,6,6,6,6,6,6,6,6,6,6,6,6,6,6,6,7,7,7,7,7,7,7,7,7,7,7,7,7,7,7,7,7,7,7,7,7,7,7,7,7,7,7,7,7,7,7,7,7,7,7,7,7,7,7,7,7,7,7,7,7,7,7,7,7,7,7,7,7,7,7,7,7,7,7,7,7,7,7,7,8,8,8,8,8,8,8,8,8,8,8,8,8,8,8,8,8,8,8,8,8,8,8,8,8,8,8,8,8,8,8,8,8,8,8,8,8,8,8,8,8,8,8,8,8,8,8,8,8,8,8,8,8,8,8,8,8,8,8,8,8,8,8,8,8,8,8,8,8,8,8,8,8,8,8,8,8,8,8,8,8,8,8,8,8,8,8,8,8,8,8,8,8,8,8,8,8,8,8,8,8,8,8,8,8,8,8,8,8,8,8,8,8,8,8,8,8,8,8,8,8,8,8,8,8,8,8,8]⟩ : ByteArray)=tab
  have hs : tab.size=256:=by rw [← ht];rfl
  obtain ⟨b,hb⟩:=ZBh (s:=tab) (i:=0) (by omega) .u8 H
  refine ⟨iv (IntKind.i64.wrap (0+IntKind.i64.wrap b.toNat)),?_⟩
  rw [Za Qm]
  refine (ZS (vs:=[.int .u64 0,iv 0]) (H':=H) (by rw [Zb,if_neg (by simp)];rfl)).trans ?_
  rw [Qf,Za Qm]
  refine (ZS (vs:=[.int .u64 0,iv 0]) (H':=H) (by rw [Zb,if_neg (by simp)];rfl)).trans ?_
  rw [Qf,Za Qm]
  refine (ZS (vs:=[.int .u64 0,iv 0]) (H':=H) (by rw [Zb,if_neg (by simp)];rfl)).trans ?_
  rw [Qf,Za QH,w1,Za hb,Za QH,Za ZB]
  rfl
 obtain ⟨v,e⟩:=e
 refine ⟨v,?_⟩
 rw [R0,ZoQ rfl]
 unfold Zgn
 rw [Zb,if_neg (by simp),Za e]
 rfl
theorem ZAk : R0 (n+3) WH [.slice none 0 0,f] H=some (.tuple #[],H):=by
 obtain ⟨v,e1⟩:=ZBM (n:=n) (H:=H)
 have e2 : R0 (n+2) QX [.slice none 0 0,iv 0,iv 0,v,f] H=some (.tuple #[],H):=ZBK
 rw [R0,Zex rfl]
 unfold WD
 have w1 : IntKind.u64.wrap ((0 : Nat) : Int)=0:=by rw [Zqd];rfl
 rw [Za Q8,Za QH,w1,Za e1]
 refine (Za e2).trans rfl
end
theorem Zy5 (w : World) : Calls Tryz.prog 201 #[.slice none 0 0,.func (.func 172) #[] #[]] w fun e w'=>∃ v',e=.returned v'∧Go.RowKit.Below w.heap.size w w':=
 ZzR (args:=[.slice none 0 0,.func (.func 172) #[] #[]]) (n:=3) (by decide) ⟨Tryz.f201,Tryz.func201,by kernel_rfl,by kernel_rfl⟩ (fun w=>.cons (.sc rfl) (.cons (.fn (fun l h=>by cases h) rfl (fun i hi=>by cases hi) rfl (fun i hi=>by cases hi)) .nil)) ⟨_,ZAk (n:=0)⟩ w
theorem ZjJ {gk : FuncId} (hg : ∀ args w,(callFunc gk args).run Tryz.prog w=.ok (.enter gk args) w)
  (hseq : ∀ (w : World) (Bm b : Nat) (es : Array MapEntry) (clock : Nat) (ks : List (List UInt8)),Bm < w.heap.size→w.cell? ⟨Bm,0,none⟩=some (.map (some b))→w.heap[b]?=some (.map es clock)→es.toList.map (·.key)=ks.map strv→Go.MapKept.Stamped es clock→
   (∀ k∈ks,k.length≤1000000)→ks.length≤1000000→SeqGives Fence.wide 3 Tryz.prog gk #[.pointer (some ⟨Bm,0,none⟩)] encStr (fun ss=>ss.Perm ks) ks.length w) : Zik Tryz.prog 170 gk 172 where
 c:=⟨Tryz.f170,Tryz.func170,by kernel_rfl,by kernel_rfl⟩
 run:=fun w Bm b es clock ks hB hc hb hk hst hl hf=>by
  have e201 : ∀ args w,(callFunc 201 args).run Tryz.prog w=.ok (.enter 201 args) w:=enters_of Tryz.func201 (by kernel_rfl) rfl
  have e172 : ∀ args w,(callFunc 172 args).run Tryz.prog w=.ok (.enter 172 args) w:=enters_of Tryz.func172 (by kernel_rfl) rfl
  have hmax : ks.length≤maxLen:=Nat.le_trans hf (by decide)
  have cC:=AnyZ.collect_in Tryz.collA Fence.wide 5 trivial trivial rfl (by omega) gk #[.pointer (some ⟨Bm,0,none⟩)] trivial hg _ _ hmax (by omega) w (hseq w Bm b es clock ks hB hc hb hk hst hl hf)
  have cC:=(callsIn_wide (n:=5)).1 cC
  change Calls Tryz.prog 200 _ _ _ at cC
  go_enter Tryz.func170,Tryz.ntmps170
  go_wp2_with (go_at_call 200;refine cC.mono ?_;rintro e W ⟨v,ss,rfl,hS,hrow,hnil,hbl⟩)
  have hlen : ss.length=ks.length:=hS.length_eq
  rcases hrow.2 with ⟨rfl,hz⟩ | ⟨gb,cap,cur,rfl,hbase,hgb,r1,r2,r3,r4⟩
  ·have hss : ss=[]:=List.eq_nil_of_length_eq_zero hz
   go_wp2_with (go_at_call 201;refine (Zy5 W).mono ?_;rintro e w' ⟨v',rfl,hb2⟩)
   go_ret
   have hks : ks=[]:=List.eq_nil_of_length_eq_zero (by rw [← hlen,hss];rfl)
   subst hks
   exact ⟨_,0,rfl,⟨by simp [Z4],.inl ⟨rfl,rfl⟩⟩,by simp,hbl.trans (hb2.mono (by have:=hbl.size;omega))⟩
  ·have hH : Holds encStr W gb 0 ss.toArray:=holds_of_block hgb (by simpa using r4)
   have hgl : gb < W.heap.size:=(Array.getElem?_eq_some_iff.1 hgb).1
   have cS:=Any.slices_SortFunc Tryz.sortA encStr (fun _=>rfl) Zds ZCC 172 #[] gb 0 cap ss.toArray W e172 (ZAe gb 0 _ W) hH hgl (by simp;omega)
   change Calls Tryz.prog 201 #[.slice (some ⟨gb,0,none⟩) ss.length cap,.func (.func 172) #[] #[]] W _ at cS
   go_wp2_with (go_at_call 201;refine cS.mono ?_;rintro e w' ⟨rfl,d',nn,os,hp,hs,rfl⟩)
   go_ret
   have hd:=ZxF hp hs
   subst hd
   have hks : Z4 ks=ss.mergeSort (fun x y=>decide (x≤y)):=(mergeSort_of_perm hS).symm
   rw [← hlen,hks]
   exact ⟨_,_,rfl,ownsRow_sorted (by simp) hbase hgb r1 r2 r3,hnil.trans ⟨fun h=>List.eq_nil_of_length_eq_zero (by rw [← hlen,h];rfl),fun h=>List.eq_nil_of_length_eq_zero (by rw [hlen,h];rfl)⟩,hbl.grown (grownBy_sorted _) hbl.size (fun j hj=>by cases hj;exact hbase)⟩
section
variable {H : Type}
def Zud (v : Value) : Option (DataW H × List MemPlace):=some (.nil,[])
theorem own_of {P : Program} {k : TypeId} (hk : P.underlying k=some .string) {w : World} {b clock : Nat} {es : Array MapEntry} {ks : List (List UInt8)} (hb : w.heap[b]?=some (.map es clock)) (hks : es.toList.map (·.key)=ks.map strv) (hst : Go.MapKept.Stamped es clock)
  (hl : ∀ k∈ks,k.length≤1000000) (hf : ks.length≤1000000) : ∃ D0 : DataW H,w.ownsMap P k Zud b ks.length D0∧ks.Perm (strKeys D0)∧Maps.size D0=ks.length:=by
 have hsz : es.size=ks.length:=by
  have:=congrArg List.length hks
  simpa using this
 have hrd : ∀ (x : MapEntry) (s : List UInt8),x.key=strv s→s.length≤1000000→Go.WideElems.rd (H:=H) P k Zud x=some (.string s,.nil):=fun x s hs hlen=>by
  have h1 : (⟨s.toArray⟩ : ByteArray).size≤maxLen:=Nat.le_trans (by simpa [ByteArray.size] using hlen) (by decide)
  simp [Go.WideElems.rd,hs,keyOf,hk,mapKey,Zud,h1,strv]
 have hmap : ∀ (l : List MapEntry) (q : List (List UInt8)),l.map (·.key)=q.map strv→(∀ s∈q,s.length≤1000000)→l.map (Go.WideElems.rg (H:=H) P k Zud)=q.map fun s=>(Lit.string s,DataW.nil):=by
  intro l
  induction l with
  | nil=>intro q h _;cases q with | nil=>rfl | cons a q=>simp at h
  | cons x l ih=>
   intro q h hq
   cases q with
   | nil=>simp at h
   | cons a q=>
    simp only [List.map_cons,List.cons.injEq] at h
    rw [List.map_cons,List.map_cons,ih q h.2 (fun s hs=>hq s (List.mem_cons_of_mem _ hs))]
    congr 1
    unfold Go.WideElems.rg
    rw [hrd x a h.1 (hq a (by simp))]
    rfl
 refine ⟨.map ((es.toList.map (Go.WideElems.rg P k Zud)).foldr DataW.insert []),⟨es,clock,hb,⟨by rw [hsz];exact Nat.le_trans hf (by decide),hst,fun x hx=>?_⟩,by omega,rfl⟩,?_,?_⟩
 ·have : x.key∈ks.map strv:=by rw [← hks];exact List.mem_map.2 ⟨x,hx,rfl⟩
  obtain ⟨s,h1,h2⟩:=List.mem_map.1 this
  exact ⟨_,hrd x s h2.symm (hl s h1)⟩
 ·rw [hmap _ _ hks hl]
  have h1:=(Go.WideShapes.sorted_perm (H:=H) (ks.map fun s=>(Lit.string s,DataW.nil))).map fun p=>Go.strOf p.1
  have h2 : (ks.map fun s=>(Lit.string s,(DataW.nil : DataW H))).map (fun p=>Go.strOf p.1)=ks:=by
   rw [List.map_map];exact (List.map_congr_left fun a _=>rfl).trans (List.map_id ks)
  rw [h2] at h1
  exact h1.symm
 ·rw [hmap _ _ hks hl]
  have:=(Go.WideShapes.sorted_perm (H:=H) (ks.map fun s=>(Lit.string s,DataW.nil))).length_eq
  rw [List.length_map] at this
  exact this
end
theorem Zos {g Bm n : Nat} {ks ks' : List (List UInt8)} {w : World} (h : SeqGives Fence.wide 3 Tryz.prog g #[.pointer (some ⟨Bm,0,none⟩)] encStr (fun ss=>ss.Perm ks') n w) (hn : n=ks.length) (hp : ks.Perm ks') : SeqGives Fence.wide 3 Tryz.prog g #[.pointer (some ⟨Bm,0,none⟩)] encStr (fun ss=>ss.Perm ks) ks.length w:=by
 subst hn
 intro l J W hW hJ hY h0
 refine (h l J W hW hJ hY h0).mono fun e w' ⟨h1,xs,h2,h3⟩=>⟨h1,xs,h2.trans hp.symm,h3⟩
theorem keysA : Zik Tryz.prog 170 202 172:=ZjJ (enters_of Tryz.func202 (by kernel_rfl) rfl) fun w Bm b es clock ks hB hc hb hk hst hl hf=>by
 obtain ⟨D0,hown,hp,hs⟩:=own_of (H:=Unit) (P:=Tryz.prog) (k:=Tryz.keysA_ren.t 26) (by kernel_rfl) hb hk hst hl hf
 exact Zos (AnyZ.keys_gives (ρ:=Tryz.keysA_ren) { Tryz.keysA with } Fence.wide 3 trivial rfl (by omega) Bm b ks.length D0 w hB hc hown) hs hp
theorem keysB : Zik Tryz.prog 170 204 172:=ZjJ (enters_of Tryz.func204 (by kernel_rfl) rfl) fun w Bm b es clock ks hB hc hb hk hst hl hf=>by
 obtain ⟨D0,hown,hp,hs⟩:=own_of (H:=Unit) (P:=Tryz.prog) (k:=Tryz.keysB_ren.t 26) (by kernel_rfl) hb hk hst hl hf
 exact Zos (AnyZ.keys_gives (ρ:=Tryz.keysB_ren) { Tryz.keysB with } Fence.wide 3 trivial rfl (by omega) Bm b ks.length D0 w hB hc hown) hs hp
theorem keysC : Zik Tryz.prog 170 216 172:=ZjJ (enters_of Tryz.func216 (by kernel_rfl) rfl) fun w Bm b es clock ks hB hc hb hk hst hl hf=>by
 obtain ⟨D0,hown,hp,hs⟩:=own_of (H:=Unit) (P:=Tryz.prog) (k:=Tryz.keysC_ren.t 26) (by kernel_rfl) hb hk hst hl hf
 exact Zos (AnyZ.keys_gives (ρ:=Tryz.keysC_ren) { Tryz.keysC with } Fence.wide 3 trivial rfl (by omega) Bm b ks.length D0 w hB hc hown) hs hp
abbrev ZlS : List Nat:=[202,204,216]
noncomputable def np : Nat→Option (List Value→M Value)
 | 156=>some Zb5
 | 195=>some Zb5
 | 196=>some Zb5
 | 158=>some ZiD
 | 170=>some (ZeU ZlS JW)
 | 239=>some Zjz
 | 233=>some ZiZ
 | _=>none
theorem np_sound (w0 : Qj) : ∀ g m,np g=some m→ZfS Tryz.prog Tryz.prog.globals.size w0 g m:=by
 intro g m h
 unfold np at h
 split at h
 ·cases h;exact Zib clA
 ·cases h;exact Zib clB
 ·cases h;exact Zib clC
 ·cases h;exact ZwZ (ZB1 clC)
 ·cases h
  exact ZuP (by simp) fun gk hg=>by
   simp only [List.mem_cons,List.not_mem_nil,or_false] at hg
   rcases hg with rfl | rfl | rfl
   ·exact keysA
   ·exact keysB
   ·exact keysC
 ·cases h;exact (Zw1 ⟨Tryz.f239,Tryz.func239,by kernel_rfl,by kernel_rfl,by kernel_rfl,by kernel_rfl⟩)
 ·cases h;exact (Zwy ⟨Tryz.f233,Tryz.func233,by kernel_rfl,by kernel_rfl,by kernel_rfl,by kernel_rfl⟩)
 ·cases h
noncomputable abbrev R (n : Nat) : Zc:=run Tryz.prog np lvs n
end Go.Proofs.YtedkoimihknggaaGreatDoor.A

namespace Go.Proofs.YtedkoimihknggaaGreatDoor.A
set_option linter.unusedVariables false
set_option linter.unusedSimpArgs false
open Go.Proofs Go.Proofs.YtedkoimihknggaaGreatDoor
abbrev u8v (b : UInt8) : Value:=.int .u8 b.toNat
def Wn (b : UInt8) : Bool:=decide (97≤b.toNat) && decide (b.toNat≤122)
def Zde (b : UInt8) : Bool:=decide (48≤b.toNat) && decide (b.toNat≤57)
def ZgV (b : UInt8) : Bool:=Wn b || (Zde b || (decide (b.toNat=45) || decide (b.toNat=46)))
def Zl7 (b : UInt8) : Bool:=Zde b || (decide (97≤b.toNat) && decide (b.toNat≤102))
def WV (b : UInt8) : Bool:=Wn b || Zde b
def Zo (s : List UInt8) : Bool:=decide (1≤s.length) && decide (s.length≤12) && s.all ZgV && Wn (s.getD 0 0) && WV (s.getD (s.length - 1) 0)
def WB (s : List UInt8) : Bool:=decide (1≤s.length) && decide (s.length≤12) && s.all Zl7
section
variable {H : Zd} {n : Nat} {b : UInt8} {s : List UInt8}
theorem ZcN {i : Nat} {x : UInt8} (hi : s[i]?=some x) (q : IntKind) (H : Zd) : ixs (strv s) (.int q i) H=some (u8v x,H):=by
 have hlt : i < s.length:=(List.getElem?_eq_some_iff.1 hi).1
 have hx : s[i]=x:=(List.getElem?_eq_some_iff.1 hi).2
 have hs : i < (⟨s.toArray⟩ : ByteArray).size:=by simpa [ByteArray.size] using hlt
 unfold ixs strv
 simp only [Int.toNat_natCast]
 rw [if_pos (by omega),getElem?_pos (⟨s.toArray⟩ : ByteArray) i hs]
 have : (⟨s.toArray⟩ : ByteArray)[i]=x:=by rw [← hx];rfl
 rw [this]
theorem Zjq : R (n+1) Y7 [u8v b] H=some (.bool (Wn b),H):=by
 rw [R,Zqc rfl]
 unfold Wn
 by_cases h1 : (97 : Int)≤b.toNat
 ·have h1' : 97≤b.toNat:=by omega
  by_cases h2 : (b.toNat : Int)≤122
  ·have h2' : b.toNat≤122:=by omega
   simp [ZcV,↓Z9,Qa,↓QG,Qn,Qq,Qo,↓Zb,Ye,Zu,YM,Qx,JG,QA,JH,JF,QT,JR,QU,Q0,Q8,Q4,QH,Zn,ZF,Y9,YN,Jq,Jc,Yd,ZB,Q1,J0,Yg,J2,ZD,Zq,Zk,Ja,Qk,Qm,Jy,JS,JU,Yc,↓Kj,Yf,↓g_r,Kh,Bool.not_true,Bool.not_false,Bool.false_eq_true,Bool.true_eq_false,reduceIte,List.tail_cons,List.headD_cons,decide_true,decide_false,cond_true,cond_false,Nat.beq_refl,Ww,YT,Qf,ZU,ZJ,Qs,Jw,Jj,Ki,KL,YE,YZ,Y6,ZG,List.replicate,Zt,Zs,Jn,Jm,Jl,Zg,J1,ZP,ZX,h1,h2,h1',h2']
  ·have h2' : ¬ b.toNat≤122:=by omega
   simp [ZcV,↓Z9,Qa,↓QG,Qn,Qq,Qo,↓Zb,Ye,Zu,YM,Qx,JG,QA,JH,JF,QT,JR,QU,Q0,Q8,Q4,QH,Zn,ZF,Y9,YN,Jq,Jc,Yd,ZB,Q1,J0,Yg,J2,ZD,Zq,Zk,Ja,Qk,Qm,Jy,JS,JU,Yc,↓Kj,Yf,↓g_r,Kh,Bool.not_true,Bool.not_false,Bool.false_eq_true,Bool.true_eq_false,reduceIte,List.tail_cons,List.headD_cons,decide_true,decide_false,cond_true,cond_false,Nat.beq_refl,Ww,YT,Qf,ZU,ZJ,Qs,Jw,Jj,Ki,KL,YE,YZ,Y6,ZG,List.replicate,Zt,Zs,Jn,Jm,Jl,Zg,J1,ZP,ZX,h1,h2,h1',h2']
 ·have h1' : ¬ 97≤b.toNat:=by omega
  simp [ZcV,↓Z9,Qa,↓QG,Qn,Qq,Qo,↓Zb,Ye,Zu,YM,Qx,JG,QA,JH,JF,QT,JR,QU,Q0,Q8,Q4,QH,Zn,ZF,Y9,YN,Jq,Jc,Yd,ZB,Q1,J0,Yg,J2,ZD,Zq,Zk,Ja,Qk,Qm,Jy,JS,JU,Yc,↓Kj,Yf,↓g_r,Kh,Bool.not_true,Bool.not_false,Bool.false_eq_true,Bool.true_eq_false,reduceIte,List.tail_cons,List.headD_cons,decide_true,decide_false,cond_true,cond_false,Nat.beq_refl,Ww,YT,Qf,ZU,ZJ,Qs,Jw,Jj,Ki,KL,YE,YZ,Y6,ZG,List.replicate,Zt,Zs,Jn,Jm,Jl,Zg,J1,ZP,ZX,h1,h1']
theorem Zmh : R (n+1) KB [u8v b] H=some (.bool (Zde b),H):=by
 rw [R,Zr7 rfl]
 unfold Zde
 by_cases h1 : (48 : Int)≤b.toNat
 ·have h1' : 48≤b.toNat:=by omega
  by_cases h2 : (b.toNat : Int)≤57
  ·have h2' : b.toNat≤57:=by omega
   simp [ZdN,↓Z9,Qa,↓QG,Qn,Qq,Qo,↓Zb,Ye,Zu,YM,Qx,JG,QA,JH,JF,QT,JR,QU,Q0,Q8,Q4,QH,Zn,ZF,Y9,YN,Jq,Jc,Yd,ZB,Q1,J0,Yg,J2,ZD,Zq,Zk,Ja,Qk,Qm,Jy,JS,JU,Yc,↓Kj,Yf,↓g_r,Kh,Bool.not_true,Bool.not_false,Bool.false_eq_true,Bool.true_eq_false,reduceIte,List.tail_cons,List.headD_cons,decide_true,decide_false,cond_true,cond_false,Nat.beq_refl,Ww,YT,Qf,ZU,ZJ,Qs,Jw,Jj,Ki,KL,YE,YZ,Y6,ZG,List.replicate,Zt,Zs,Jn,Jm,Jl,Zg,J1,ZP,ZX,h1,h2,h1',h2']
  ·have h2' : ¬ b.toNat≤57:=by omega
   simp [ZdN,↓Z9,Qa,↓QG,Qn,Qq,Qo,↓Zb,Ye,Zu,YM,Qx,JG,QA,JH,JF,QT,JR,QU,Q0,Q8,Q4,QH,Zn,ZF,Y9,YN,Jq,Jc,Yd,ZB,Q1,J0,Yg,J2,ZD,Zq,Zk,Ja,Qk,Qm,Jy,JS,JU,Yc,↓Kj,Yf,↓g_r,Kh,Bool.not_true,Bool.not_false,Bool.false_eq_true,Bool.true_eq_false,reduceIte,List.tail_cons,List.headD_cons,decide_true,decide_false,cond_true,cond_false,Nat.beq_refl,Ww,YT,Qf,ZU,ZJ,Qs,Jw,Jj,Ki,KL,YE,YZ,Y6,ZG,List.replicate,Zt,Zs,Jn,Jm,Jl,Zg,J1,ZP,ZX,h1,h2,h1',h2']
 ·have h1' : ¬ 48≤b.toNat:=by omega
  simp [ZdN,↓Z9,Qa,↓QG,Qn,Qq,Qo,↓Zb,Ye,Zu,YM,Qx,JG,QA,JH,JF,QT,JR,QU,Q0,Q8,Q4,QH,Zn,ZF,Y9,YN,Jq,Jc,Yd,ZB,Q1,J0,Yg,J2,ZD,Zq,Zk,Ja,Qk,Qm,Jy,JS,JU,Yc,↓Kj,Yf,↓g_r,Kh,Bool.not_true,Bool.not_false,Bool.false_eq_true,Bool.true_eq_false,reduceIte,List.tail_cons,List.headD_cons,decide_true,decide_false,cond_true,cond_false,Nat.beq_refl,Ww,YT,Qf,ZU,ZJ,Qs,Jw,Jj,Ki,KL,YE,YZ,Y6,ZG,List.replicate,Zt,Zs,Jn,Jm,Jl,Zg,J1,ZP,ZX,h1,h1']
theorem Zm9 {a b : Nat} : ((a : Int)==(b : Int))=decide (a=b):=by
 rw [Bool.eq_iff_iff,beq_iff_eq,decide_eq_true_eq];omega
theorem ZBA : R (n+2) ZeW [u8v b] H=some (.bool (ZgV b),H):=by
 have e1 : run Tryz.prog np lvs (n+1) Y7 [u8v b] H=some (.bool (Wn b),H):=Zjq
 have e2 : run Tryz.prog np lvs (n+1) KB [u8v b] H=some (.bool (Zde b),H):=Zmh
 have q1 : ((b.toNat : Int)==45)=decide (b.toNat=45):=Zm9 (b:=45)
 have q2 : ((b.toNat : Int)==46)=decide (b.toNat=46):=Zm9 (b:=46)
 rw [R,ZsI rfl]
 unfold ZgV
 generalize Wn b=p at e1 ⊢
 generalize Zde b=q at e2 ⊢
 cases p <;> cases q <;> cases h3 : decide (b.toNat=45) <;> simp [ZiR,↓Z9,Qa,↓QG,Qn,Qq,Qo,↓Zb,Ye,Zu,YM,Qx,JG,QA,JH,JF,QT,JR,QU,Q0,Q8,Q4,QH,Zn,ZF,Y9,YN,Jq,Jc,Yd,ZB,Q1,J0,Yg,J2,ZD,Zq,Zk,Ja,Qk,Qm,Jy,JS,JU,Yc,↓Kj,Yf,↓g_r,Kh,Bool.not_true,Bool.not_false,Bool.false_eq_true,Bool.true_eq_false,reduceIte,List.tail_cons,List.headD_cons,decide_true,decide_false,cond_true,cond_false,Nat.beq_refl,Ww,YT,Qf,ZU,ZJ,Qs,Jw,Jj,Ki,KL,YE,YZ,Y6,ZG,List.replicate,Zt,Zs,Jn,Jm,Jl,Zg,J1,ZP,ZX,e1,e2,q1,q2,h3] <;> (cases h4 : decide (b.toNat=46) <;> simp_all)
theorem ZCm : R (n+2) ZdK [u8v b] H=some (.bool (Zl7 b),H):=by
 have e2 : run Tryz.prog np lvs (n+1) KB [u8v b] H=some (.bool (Zde b),H):=Zmh
 rw [R,Zsh rfl]
 unfold Zl7
 generalize Zde b=q at e2 ⊢
 cases q
 ·by_cases h1 : (97 : Int)≤b.toNat
  ·have h1' : 97≤b.toNat:=by omega
   by_cases h2 : (b.toNat : Int)≤102
   ·have h2' : b.toNat≤102:=by omega
    simp [ZcA,↓Z9,Qa,↓QG,Qn,Qq,Qo,↓Zb,Ye,Zu,YM,Qx,JG,QA,JH,JF,QT,JR,QU,Q0,Q8,Q4,QH,Zn,ZF,Y9,YN,Jq,Jc,Yd,ZB,Q1,J0,Yg,J2,ZD,Zq,Zk,Ja,Qk,Qm,Jy,JS,JU,Yc,↓Kj,Yf,↓g_r,Kh,Bool.not_true,Bool.not_false,Bool.false_eq_true,Bool.true_eq_false,reduceIte,List.tail_cons,List.headD_cons,decide_true,decide_false,cond_true,cond_false,Nat.beq_refl,Ww,YT,Qf,ZU,ZJ,Qs,Jw,Jj,Ki,KL,YE,YZ,Y6,ZG,List.replicate,Zt,Zs,Jn,Jm,Jl,Zg,J1,ZP,ZX,e2,h1,h2,h1',h2']
   ·have h2' : ¬ b.toNat≤102:=by omega
    simp [ZcA,↓Z9,Qa,↓QG,Qn,Qq,Qo,↓Zb,Ye,Zu,YM,Qx,JG,QA,JH,JF,QT,JR,QU,Q0,Q8,Q4,QH,Zn,ZF,Y9,YN,Jq,Jc,Yd,ZB,Q1,J0,Yg,J2,ZD,Zq,Zk,Ja,Qk,Qm,Jy,JS,JU,Yc,↓Kj,Yf,↓g_r,Kh,Bool.not_true,Bool.not_false,Bool.false_eq_true,Bool.true_eq_false,reduceIte,List.tail_cons,List.headD_cons,decide_true,decide_false,cond_true,cond_false,Nat.beq_refl,Ww,YT,Qf,ZU,ZJ,Qs,Jw,Jj,Ki,KL,YE,YZ,Y6,ZG,List.replicate,Zt,Zs,Jn,Jm,Jl,Zg,J1,ZP,ZX,e2,h1,h2,h1',h2']
  ·have h1' : ¬ 97≤b.toNat:=by omega
   simp [ZcA,↓Z9,Qa,↓QG,Qn,Qq,Qo,↓Zb,Ye,Zu,YM,Qx,JG,QA,JH,JF,QT,JR,QU,Q0,Q8,Q4,QH,Zn,ZF,Y9,YN,Jq,Jc,Yd,ZB,Q1,J0,Yg,J2,ZD,Zq,Zk,Ja,Qk,Qm,Jy,JS,JU,Yc,↓Kj,Yf,↓g_r,Kh,Bool.not_true,Bool.not_false,Bool.false_eq_true,Bool.true_eq_false,reduceIte,List.tail_cons,List.headD_cons,decide_true,decide_false,cond_true,cond_false,Nat.beq_refl,Ww,YT,Qf,ZU,ZJ,Qs,Jw,Jj,Ki,KL,YE,YZ,Y6,ZG,List.replicate,Zt,Zs,Jn,Jm,Jl,Zg,J1,ZP,ZX,e2,h1,h1']
 ·simp [ZcA,↓Z9,Qa,↓QG,Qn,Qq,Qo,↓Zb,Ye,Zu,YM,Qx,JG,QA,JH,JF,QT,JR,QU,Q0,Q8,Q4,QH,Zn,ZF,Y9,YN,Jq,Jc,Yd,ZB,Q1,J0,Yg,J2,ZD,Zq,Zk,Ja,Qk,Qm,Jy,JS,JU,Yc,↓Kj,Yf,↓g_r,Kh,Bool.not_true,Bool.not_false,Bool.false_eq_true,Bool.true_eq_false,reduceIte,List.tail_cons,List.headD_cons,decide_true,decide_false,cond_true,cond_false,Nat.beq_refl,Ww,YT,Qf,ZU,ZJ,Qs,Jw,Jj,Ki,KL,YE,YZ,Y6,ZG,List.replicate,Zt,Zs,Jn,Jm,Jl,Zg,J1,ZP,ZX,e2]
theorem Zyq {f : Value} {p : UInt8→Bool} (hf : ∀ (b : UInt8) (H : Zd),Jr (R n) f [u8v b] H=some (.bool (p b),H)) (hs : s.length≤1000000000) : ∀ (t k : Nat),s.length - k=t→k≤s.length→
  Zi (c4 (Zay.l1 (R n))) [strv s,f,iv s.length,iv k] H=some (if (s.drop k).all p then .ext 0 [] else .ret (.bool false),H)
 | 0,k,ht,hk=>by
  have : k=s.length:=by omega
  subst this
  rw [List.drop_length]
  refine ZN ?_
  simp [Zay.l1,↓Z9,Qa,↓QG,Qn,Qq,Qo,↓Zb,Ye,Zu,YM,Qx,JG,QA,JH,JF,QT,JR,QU,Q0,Q8,Q4,QH,Zn,ZF,Y9,YN,Jq,Jc,Yd,ZB,Q1,J0,Yg,J2,ZD,Zq,Zk,Ja,Qk,Qm,Jy,JS,JU,Yc,↓Kj,Yf,↓g_r,Kh,Bool.not_true,Bool.not_false,Bool.false_eq_true,Bool.true_eq_false,reduceIte,List.tail_cons,List.headD_cons,decide_true,decide_false,cond_true,cond_false,Nat.beq_refl,Ww,YT,Qf,ZU,ZJ,Qs,Jw,Jj,Ki,KL,YE,YZ,Y6,ZG,List.replicate,Zt,Zs,Jn,Jm,Jl,Zg,J1,ZP,ZX]
 | t+1,k,ht,hk=>by
  have hkl : k < s.length:=by omega
  have hlt : (k : Int) < s.length:=by omega
  have hg:=List.getElem?_eq_getElem hkl
  have hd:=List.drop_eq_getElem_cons hkl
  generalize s[k]=b at hg hd
  have x1:=ZcN hg .i64 H
  have ih:=Zyq hf hs t (k+1) (by omega) (by omega)
  rw [hd,List.all_cons]
  cases hp : p b
  ·refine QR ?_
   have e:=hf b H
   rw [hp] at e
   rw [ZJ]
   unfold Zay.l1
   rw [Za Zk,Zb,if_pos (by simpa using hlt),Za x1,Za e,Za ZF,Zb,if_pos (by rfl)]
   rfl
  ·rw [Bool.true_and]
   refine (ZA ?_).trans ih
   have e:=hf b H
   rw [hp] at e
   rw [ZJ]
   unfold Zay.l1
   rw [Za Zk,Zb,if_pos (by simpa using hlt),Za x1,Za e,Za ZF,Zb,if_neg (by simp),Za ZB,Qi (by omega)]
   rfl
theorem ZwA {f : Value} {p : UInt8→Bool} (hf : ∀ (b : UInt8) (H : Zd),Jr (R n) f [u8v b] H=some (.bool (p b),H)) (hs : s.length≤1000000000) : R (n+1) Wu [strv s,f] H=some (.bool (s.all p),H):=by
 have e:=Zyq (H:=H) hf hs s.length 0 (by omega) (by omega)
 rw [List.drop_zero] at e
 have e : Zi (c4 (Zay.l1 (R n))) [strv s,f,iv s.length,.int .i64 0] H=_:=e
 rw [R,ZuM rfl]
 unfold Zay
 rw [Za ZP]
 cases h : s.all p
 ·rw [h] at e
  rw [Yh e];rfl
 ·rw [h] at e
  rw [Z5 e,ZG];rfl
theorem ZsX {g : Nat} {args : List Value} (hy : Nat.blt g Zb0=true:=by rfl) : Jr (R n) (.func (.func g) #[] #[]) args=R n g args:=by
 have : Jr (R n) (.func (.func g) #[] #[]) args=R n g ([]++(args++[])):=by
  simp only [Jr,hy,cond_true]
 rw [this];simp
theorem Zxu (hs : s.length≤1000000000) : R (n+3) Wu [strv s,.func (.func ZeW) #[] #[]] H=some (.bool (s.all ZgV),H):=
 ZwA (fun b H=>by rw [ZsX];exact ZBA) hs
theorem ZyZ (hs : s.length≤1000000000) : R (n+3) Wu [strv s,.func (.func ZdK) #[] #[]] H=some (.bool (s.all Zl7),H):=
 ZwA (fun b H=>by rw [ZsX];exact ZCm) hs
theorem Zmm : bop .str .eql (strv s) (.string ⟨#[]⟩) H=some (.bool (decide (s.length=0)),H):=by
 have:=Zdh (H:=H) (a:=s) (b:=[])
 have h : (s==[])=decide (s.length=0):=by cases s <;> simp
 rw [h] at this
 exact this
theorem Zrp : R (n+4) ZaR [strv s] H=some (.bool (Zo s),H):=by
 rw [R,ZqT rfl]
 unfold Zo
 by_cases h0 : s.length=0
 ·have h1 : ¬ 1≤s.length:=by omega
  unfold ZcU
  rw [Za Zmm,decide_eq_true h0]
  simp [↓Z9,Qa,↓QG,Qn,Qq,Qo,↓Zb,Ye,Zu,YM,Qx,JG,QA,JH,JF,QT,JR,QU,Q0,Q8,Q4,QH,Zn,ZF,Y9,YN,Jq,Jc,Yd,ZB,Q1,J0,Yg,J2,ZD,Zq,Zk,Ja,Qk,Qm,Jy,JS,JU,Yc,↓Kj,Yf,↓g_r,Kh,Bool.not_true,Bool.not_false,Bool.false_eq_true,Bool.true_eq_false,reduceIte,List.tail_cons,List.headD_cons,decide_true,decide_false,cond_true,cond_false,Nat.beq_refl,Ww,YT,Qf,ZU,ZJ,Qs,Jw,Jj,Ki,KL,YE,YZ,Y6,ZG,List.replicate,Zt,Zs,Jn,Jm,Jl,Zg,J1,ZP,ZX,h1]
 ·have h1 : 1≤s.length:=by omega
  by_cases h12 : s.length≤12
  ·have e1 : run Tryz.prog np lvs (n+3) Wu [strv s,.func (.func ZeW) #[] #[]] H=some (.bool (s.all ZgV),H):=Zxu (by omega)
   have g0 : s[0]?=some (s.getD 0 0):=by rw [List.getElem?_eq_getElem (by omega)];simp [List.getD_eq_getElem?_getD,List.getElem?_eq_getElem (show 0 < s.length by omega)]
   have gl : s[s.length - 1]?=some (s.getD (s.length - 1) 0):=by rw [List.getElem?_eq_getElem (by omega)];simp [List.getD_eq_getElem?_getD,List.getElem?_eq_getElem (show s.length - 1 < s.length by omega)]
   have x0 : ixs (strv s) (.int .i64 0) H=some (u8v (s.getD 0 0),H):=ZcN g0 .i64 H
   have xl:=ZcN gl .i64 H
   have wl:=Zw3 (k:=s.length) (by omega) (by omega)
   generalize s.getD 0 0=b0 at x0
   generalize s.getD (s.length - 1) 0=bl at xl
   have e2 : run Tryz.prog np lvs (n+3) Y7 [u8v b0] H=some (.bool (Wn b0),H):=Zjq
   have e3 : run Tryz.prog np lvs (n+3) Y7 [u8v bl] H=some (.bool (Wn bl),H):=Zjq
   have e4 : run Tryz.prog np lvs (n+3) KB [u8v bl] H=some (.bool (Zde bl),H):=Zmh
   have q1 : bop .int .gtr (iv s.length) (.int .i64 12) H=some (.bool false,H):=by rw [Qk,decide_eq_false (by omega)]
   unfold ZcU
   rw [Za Zmm,decide_eq_false h0,decide_eq_true h1,decide_eq_true h12]
   rw [Z8,Zp,Za ZP,Zp,Za q1,Qb,ZU,Za Zn]
   simp only [cond_false]
   rw [Z8,Zp,Za x0,Zp,Za e2,Zp,Za ZF,Qb,ZJ,Za Zn]
   simp only [cond_false]
   cases hb0 : Wn b0
   ·simp [↓Z9,Qa,↓QG,Qn,Qq,Qo,↓Zb,Ye,Zu,YM,Qx,JG,QA,JH,JF,QT,JR,QU,Q0,Q8,Q4,QH,Zn,ZF,Y9,YN,Jq,Jc,Yd,ZB,Q1,J0,Yg,J2,ZD,Zq,Zk,Ja,Qk,Qm,Jy,JS,JU,Yc,↓Kj,Yf,↓g_r,Kh,Bool.not_true,Bool.not_false,Bool.false_eq_true,Bool.true_eq_false,reduceIte,List.tail_cons,List.headD_cons,decide_true,decide_false,cond_true,cond_false,Nat.beq_refl,Ww,YT,Qf,ZU,ZJ,Qs,Jw,Jj,Ki,KL,YE,YZ,Y6,ZG,List.replicate,Zt,Zs,Jn,Jm,Jl,Zg,J1,ZP,ZX]
   ·simp only [Bool.not_true]
    rw [Z8,Zp,Za e1,Zp,Za ZF,Qb,ZU,Za Zn]
    simp only [cond_false]
    cases hall : s.all ZgV
    ·simp [↓Z9,Qa,↓QG,Qn,Qq,Qo,↓Zb,Ye,Zu,YM,Qx,JG,QA,JH,JF,QT,JR,QU,Q0,Q8,Q4,QH,Zn,ZF,Y9,YN,Jq,Jc,Yd,ZB,Q1,J0,Yg,J2,ZD,Zq,Zk,Ja,Qk,Qm,Jy,JS,JU,Yc,↓Kj,Yf,↓g_r,Kh,Bool.not_true,Bool.not_false,Bool.false_eq_true,Bool.true_eq_false,reduceIte,List.tail_cons,List.headD_cons,decide_true,decide_false,cond_true,cond_false,Nat.beq_refl,Ww,YT,Qf,ZU,ZJ,Qs,Jw,Jj,Ki,KL,YE,YZ,Y6,ZG,List.replicate,Zt,Zs,Jn,Jm,Jl,Zg,J1,ZP,ZX]
    ·simp only [Bool.not_true]
     rw [Zb,if_neg (by simp),Za ZP,Za Q1,wl,Za xl,Za e3]
     unfold WV
     cases hl : Wn bl
     ·rw [Z8,Zp,Za e4,Qb,Qf,Za Zn]
      simp [ret]
     ·simp [↓Z9,Qa,↓QG,Qn,Qq,Qo,↓Zb,Ye,Zu,YM,Qx,JG,QA,JH,JF,QT,JR,QU,Q0,Q8,Q4,QH,Zn,ZF,Y9,YN,Jq,Jc,Yd,ZB,Q1,J0,Yg,J2,ZD,Zq,Zk,Ja,Qk,Qm,Jy,JS,JU,Yc,↓Kj,Yf,↓g_r,Kh,Bool.not_true,Bool.not_false,Bool.false_eq_true,Bool.true_eq_false,reduceIte,List.tail_cons,List.headD_cons,decide_true,decide_false,cond_true,cond_false,Nat.beq_refl,Ww,YT,Qf,ZU,ZJ,Qs,Jw,Jj,Ki,KL,YE,YZ,Y6,ZG,List.replicate,Zt,Zs,Jn,Jm,Jl,Zg,J1,ZP,ZX]
  ·have q1 : bop .int .gtr (iv s.length) (.int .i64 12) H=some (.bool true,H):=by rw [Qk,decide_eq_true (by omega)]
   unfold ZcU
   rw [Za Zmm,decide_eq_false h0]
   rw [Z8,Zp,Za ZP,Zp,Za q1,Qb,ZU,Za Zn]
   simp [↓Z9,Qa,↓QG,Qn,Qq,Qo,↓Zb,Ye,Zu,YM,Qx,JG,QA,JH,JF,QT,JR,QU,Q0,Q8,Q4,QH,Zn,ZF,Y9,YN,Jq,Jc,Yd,ZB,Q1,J0,Yg,J2,ZD,Zq,Zk,Ja,Qk,Qm,Jy,JS,JU,Yc,↓Kj,Yf,↓g_r,Kh,Bool.not_true,Bool.not_false,Bool.false_eq_true,Bool.true_eq_false,reduceIte,List.tail_cons,List.headD_cons,decide_true,decide_false,cond_true,cond_false,Nat.beq_refl,Ww,YT,Qf,ZU,ZJ,Qs,Jw,Jj,Ki,KL,YE,YZ,Y6,ZG,List.replicate,Zt,Zs,Jn,Jm,Jl,Zg,J1,ZP,ZX,h12]
def ZV (s : List UInt8) : Int:=if Zo s then 0 else 10
def Yu (s : List UInt8) : Int:=if WB s then 0 else 4
theorem Zej : R (n+5) Q9 [strv s] H=some (iv (ZV s),H):=by
 have e1 : run Tryz.prog np lvs (n+4) ZaR [strv s] H=some (.bool (Zo s),H):=Zrp
 rw [R,Zub rfl]
 unfold ZV
 generalize Zo s=q at e1 ⊢
 cases q <;> simp [ZjB,↓Z9,Qa,↓QG,Qn,Qq,Qo,↓Zb,Ye,Zu,YM,Qx,JG,QA,JH,JF,QT,JR,QU,Q0,Q8,Q4,QH,Zn,ZF,Y9,YN,Jq,Jc,Yd,ZB,Q1,J0,Yg,J2,ZD,Zq,Zk,Ja,Qk,Qm,Jy,JS,JU,Yc,↓Kj,Yf,↓g_r,Kh,Bool.not_true,Bool.not_false,Bool.false_eq_true,Bool.true_eq_false,reduceIte,List.tail_cons,List.headD_cons,decide_true,decide_false,cond_true,cond_false,Nat.beq_refl,Ww,YT,Qf,ZU,ZJ,Qs,Jw,Jj,Ki,KL,YE,YZ,Y6,ZG,List.replicate,Zt,Zs,Jn,Jm,Jl,Zg,J1,ZP,ZX,e1]
theorem ZvV : R (n+4) Zbi [strv s] H=some (iv (Yu s),H):=by
 have e1 : s.length≤12→run Tryz.prog np lvs (n+3) Wu [strv s,.func (.func ZdK) #[] #[]] H=some (.bool (s.all Zl7),H):=fun h12=>ZyZ (by omega)
 rw [R,Ztg rfl]
 unfold Yu WB Zjj
 rw [Za Zmm]
 by_cases h0 : s.length=0
 ·have h1 : ¬ 1≤s.length:=by omega
  rw [decide_eq_true h0]
  simp [↓Z9,Qa,↓QG,Qn,Qq,Qo,↓Zb,Ye,Zu,YM,Qx,JG,QA,JH,JF,QT,JR,QU,Q0,Q8,Q4,QH,Zn,ZF,Y9,YN,Jq,Jc,Yd,ZB,Q1,J0,Yg,J2,ZD,Zq,Zk,Ja,Qk,Qm,Jy,JS,JU,Yc,↓Kj,Yf,↓g_r,Kh,Bool.not_true,Bool.not_false,Bool.false_eq_true,Bool.true_eq_false,reduceIte,List.tail_cons,List.headD_cons,decide_true,decide_false,cond_true,cond_false,Nat.beq_refl,Ww,YT,Qf,ZU,ZJ,Qs,Jw,Jj,Ki,KL,YE,YZ,Y6,ZG,List.replicate,Zt,Zs,Jn,Jm,Jl,Zg,J1,ZP,ZX,h1]
 ·have h1 : 1≤s.length:=by omega
  rw [decide_eq_false h0,Z8,Zp,Za ZP]
  by_cases h12 : s.length≤12
  ·have q1 : bop .int .gtr (iv s.length) (.int .i64 12) H=some (.bool false,H):=by rw [Qk,decide_eq_false (by omega)]
   rw [Zp,Za q1,Qb,ZU,Za Zn]
   simp only [cond_false]
   rw [Z8,Zp,Za (e1 h12),Zp,Za ZF,Qb,ZJ,Za Zn]
   cases s.all Zl7 <;> simp [↓Z9,Qa,↓QG,Qn,Qq,Qo,↓Zb,Ye,Zu,YM,Qx,JG,QA,JH,JF,QT,JR,QU,Q0,Q8,Q4,QH,Zn,ZF,Y9,YN,Jq,Jc,Yd,ZB,Q1,J0,Yg,J2,ZD,Zq,Zk,Ja,Qk,Qm,Jy,JS,JU,Yc,↓Kj,Yf,↓g_r,Kh,Bool.not_true,Bool.not_false,Bool.false_eq_true,Bool.true_eq_false,reduceIte,List.tail_cons,List.headD_cons,decide_true,decide_false,cond_true,cond_false,Nat.beq_refl,Ww,YT,Qf,ZU,ZJ,Qs,Jw,Jj,Ki,KL,YE,YZ,Y6,ZG,List.replicate,Zt,Zs,Jn,Jm,Jl,Zg,J1,ZP,ZX,h12,h1]
  ·have q1 : bop .int .gtr (iv s.length) (.int .i64 12) H=some (.bool true,H):=by rw [Qk,decide_eq_true (by omega)]
   rw [Zp,Za q1,Qb,ZU,Za Zn]
   simp [↓Z9,Qa,↓QG,Qn,Qq,Qo,↓Zb,Ye,Zu,YM,Qx,JG,QA,JH,JF,QT,JR,QU,Q0,Q8,Q4,QH,Zn,ZF,Y9,YN,Jq,Jc,Yd,ZB,Q1,J0,Yg,J2,ZD,Zq,Zk,Ja,Qk,Qm,Jy,JS,JU,Yc,↓Kj,Yf,↓g_r,Kh,Bool.not_true,Bool.not_false,Bool.false_eq_true,Bool.true_eq_false,reduceIte,List.tail_cons,List.headD_cons,decide_true,decide_false,cond_true,cond_false,Nat.beq_refl,Ww,YT,Qf,ZU,ZJ,Qs,Jw,Jj,Ki,KL,YE,YZ,Y6,ZG,List.replicate,Zt,Zs,Jn,Jm,Jl,Zg,J1,ZP,ZX,h12]
theorem Ziu {a b : UInt8} : ((a.toNat : Int)==(b.toNat : Int))=(a==b):=by
 rw [Bool.eq_iff_iff,beq_iff_eq,beq_iff_eq,Int.ofNat_inj,UInt8.toNat_inj]
theorem Zz4 {t : List UInt8} (ht : t.length≤1000000) : ∀ (d k : Nat),t.length - k=d→k≤t.length→
  Zi (c3 (Zav.l1 (R n))) [u8v b,strv t,iv k] H=some (if (t.drop k).any (·==b) then .ret (.bool true) else .ext 0 [],H)
 | 0,k,hd,hk=>by
  have : k=t.length:=by omega
  subst this
  rw [List.drop_length]
  refine ZN ?_
  rw [ZU]
  unfold Zav.l1
  rw [Za ZP,Za Zk,Zb,if_neg (by simp)]
  rfl
 | d+1,k,hd,hk=>by
  have hkl : k < t.length:=by omega
  have hlt : (k : Int) < t.length:=by omega
  have hg:=List.getElem?_eq_getElem hkl
  have hdr:=List.drop_eq_getElem_cons hkl
  generalize t[k]=c at hg hdr
  have x1:=ZcN hg .i64 H
  have ih:=Zz4 ht d (k+1) (by omega) (by omega)
  rw [hdr,List.any_cons]
  cases hc : c==b
  ·rw [Bool.false_or]
   refine (ZA ?_).trans ih
   rw [ZU]
   unfold Zav.l1
   rw [Za ZP,Za Zk,Zb,if_pos (by simpa using hlt),Za x1,Za ZD,Ziu,hc,Zb,if_neg (by simp),Za ZB,Qi (by omega)]
   rfl
  ·refine QR ?_
   rw [ZU]
   unfold Zav.l1
   rw [Za ZP,Za Zk,Zb,if_pos (by simpa using hlt),Za x1,Za ZD,Ziu,hc,Zb,if_pos rfl]
   rfl
theorem Zwe {t : List UInt8} (ht : t.length≤1000000) : R (n+1) Zau [u8v b,strv t] H=some (.bool (t.any (·==b)),H):=by
 have e:=Zz4 (n:=n) (H:=H) (b:=b) ht t.length 0 (by omega) (by omega)
 rw [List.drop_zero] at e
 have e : Zi (c3 (Zav.l1 (R n))) [u8v b,strv t,.int .i64 0] H=_:=e
 rw [R,Zvi rfl]
 unfold Zav
 cases h : t.any (·==b)
 ·rw [h] at e
  rw [Z5 e,ZG];rfl
 ·rw [h] at e
  rw [Yh e];rfl
theorem Zz6 {t : List UInt8} (ht : t.length≤1000000) (hs : s.length≤1000000000) : ∀ (d k : Nat),s.length - k=d→k≤s.length→
  Zi (c3 (ZaB.l1 (R (n+1)))) [strv s,strv t,iv k] H=some (if (s.drop k).all (fun b=>t.any (·==b)) then .ext 0 [] else .ret (.bool false),H)
 | 0,k,hd,hk=>by
  have : k=s.length:=by omega
  subst this
  rw [List.drop_length]
  refine ZN ?_
  rw [ZU]
  unfold ZaB.l1
  rw [Za ZP,Za Zk,Zb,if_neg (by simp)]
  rfl
 | d+1,k,hd,hk=>by
  have hkl : k < s.length:=by omega
  have hlt : (k : Int) < s.length:=by omega
  have hg:=List.getElem?_eq_getElem hkl
  have hdr:=List.drop_eq_getElem_cons hkl
  generalize s[k]=c at hg hdr
  have x1:=ZcN hg .i64 H
  have e1:=Zwe (n:=n) (b:=c) (H:=H) ht
  have ih:=Zz6 ht hs d (k+1) (by omega) (by omega)
  rw [hdr,List.all_cons]
  cases hc : t.any (·==c)
  ·rw [hc] at e1
   refine QR ?_
   rw [ZU]
   unfold ZaB.l1
   rw [Za ZP,Za Zk,Zb,if_pos (by simpa using hlt),Za x1,Za e1,Za ZF,Zb,if_pos (by rfl)]
   rfl
  ·rw [hc] at e1
   rw [Bool.true_and]
   refine (ZA ?_).trans ih
   rw [ZU]
   unfold ZaB.l1
   rw [Za ZP,Za Zk,Zb,if_pos (by simpa using hlt),Za x1,Za e1,Za ZF,Zb,if_neg (by simp),Za ZB,Qi (by omega)]
   rfl
theorem ZBI {t : List UInt8} {p : UInt8→Bool} (ht : t.length≤1000000) (hs : s.length≤1000000000) (hp : ∀ b,t.any (·==b)=p b) : R (n+2) Zc5 [strv s,strv t] H=some (.bool (s.all p),H):=by
 have e:=Zz6 (n:=n) (H:=H) ht hs s.length 0 (by omega) (by omega)
 rw [List.drop_zero] at e
 rw [show (fun b=>t.any (·==b))=p from funext hp] at e
 have e : Zi (c3 (ZaB.l1 (R (n+1)))) [strv s,strv t,.int .i64 0] H=_:=e
 rw [R,Zvj rfl]
 unfold ZaB
 cases h : s.all p
 ·rw [h] at e
  rw [Yh e];rfl
 ·rw [h] at e
  rw [Z5 e,ZG];rfl
def Zg6 : List UInt8:=[97,98,99,100,101,102,103,104,105,106,107,108,109,110,111,112,113,114,115,116,117,118,119,120,121,122]
def ZtC : List UInt8:=[97,98,99,100,101,102,103,104,105,106,107,108,109,110,111,112,113,114,115,116,117,118,119,120,121,122,48,49,50,51,52,53,54,55,56,57]
def Zxr : List UInt8:=[97,98,99,100,101,102,103,104,105,106,107,108,109,110,111,112,113,114,115,116,117,118,119,120,121,122,48,49,50,51,52,53,54,55,56,57,45,46]
def ZBX : List UInt8:=[48,49,50,51,52,53,54,55,56,57,97,98,99,100,101,102]
theorem Zg7 {p : UInt8→Prop} (h : ∀ n : Nat,n < 256→p (UInt8.ofNat n)) (b : UInt8) : p b:=by
 have:=h b.toNat b.toNat_lt
 rwa [UInt8.ofNat_toNat] at this
theorem Zwu : ∀ b,Zg6.any (·==b)=Wn b:=Zg7 (by decide+kernel)
theorem Zuk : ∀ b,ZtC.any (·==b)=WV b:=Zg7 (by decide+kernel)
theorem ZzA : ∀ b,Zxr.any (·==b)=ZgV b:=Zg7 (by decide+kernel)
theorem ZBH : ∀ b,ZBX.any (·==b)=Zl7 b:=Zg7 (by decide+kernel)
theorem Zpe : R (n+3) Zaz [strv s] H=some (.bool (WB s),H):=by
 have e1 : s.length≤12→run Tryz.prog np lvs (n+2) Zc5 [strv s,strv ZBX] H=some (.bool (s.all Zl7),H):=fun h12=>ZBI (by decide) (by omega) ZBH
 rw [R,Zr4 rfl]
 unfold WB Zih
 rw [Za ZP]
 by_cases h1 : 1≤s.length
 ·have q1 : bop .int .geq (iv s.length) (.int .i64 1) H=some (.bool true,H):=by rw [Qm,decide_eq_true (by omega)]
  rw [Za q1,Z8,Zp,Za ZP]
  by_cases h12 : s.length≤12
  ·have q2 : bop .int .leq (iv s.length) (.int .i64 12) H=some (.bool true,H):=by rw [Ja,decide_eq_true (by omega)]
   rw [Zp,Za q2,Qb,ZU,Za Zn]
   simp only [cond_true]
   rw [Z8,Zp]
   refine (Za (e1 h12)).trans ?_
   rw [Qb,Qf,Za Zn,decide_eq_true h12,decide_eq_true h1]
   rfl
  ·have q2 : bop .int .leq (iv s.length) (.int .i64 12) H=some (.bool false,H):=by rw [Ja,decide_eq_false (by omega)]
   rw [Zp,Za q2,Qb,ZU,Za Zn]
   simp [↓Z9,Qa,↓QG,Qn,Qq,Qo,↓Zb,Ye,Zu,YM,Qx,JG,QA,JH,JF,QT,JR,QU,Q0,Q8,Q4,QH,Zn,ZF,Y9,YN,Jq,Jc,Yd,ZB,Q1,J0,Yg,J2,ZD,Zq,Zk,Ja,Qk,Qm,Jy,JS,JU,Yc,↓Kj,Yf,↓g_r,Kh,Bool.not_true,Bool.not_false,Bool.false_eq_true,Bool.true_eq_false,reduceIte,List.tail_cons,List.headD_cons,decide_true,decide_false,cond_true,cond_false,Nat.beq_refl,Ww,YT,Qf,ZU,ZJ,Qs,Jw,Jj,Ki,KL,YE,YZ,Y6,ZG,List.replicate,Zt,Zs,Jn,Jm,Jl,Zg,J1,ZP,ZX,h12]
 ·have q1 : bop .int .geq (iv s.length) (.int .i64 1) H=some (.bool false,H):=by rw [Qm,decide_eq_false (by omega)]
  rw [Za q1]
  simp [↓Z9,Qa,↓QG,Qn,Qq,Qo,↓Zb,Ye,Zu,YM,Qx,JG,QA,JH,JF,QT,JR,QU,Q0,Q8,Q4,QH,Zn,ZF,Y9,YN,Jq,Jc,Yd,ZB,Q1,J0,Yg,J2,ZD,Zq,Zk,Ja,Qk,Qm,Jy,JS,JU,Yc,↓Kj,Yf,↓g_r,Kh,Bool.not_true,Bool.not_false,Bool.false_eq_true,Bool.true_eq_false,reduceIte,List.tail_cons,List.headD_cons,decide_true,decide_false,cond_true,cond_false,Nat.beq_refl,Ww,YT,Qf,ZU,ZJ,Qs,Jw,Jj,Ki,KL,YE,YZ,Y6,ZG,List.replicate,Zt,Zs,Jn,Jm,Jl,Zg,J1,ZP,ZX,h1]
theorem Zce : R (n+3) QL [strv s] H=some (.bool (Zo s),H):=by
 have e1 : s.length≤12→run Tryz.prog np lvs (n+2) Zc5 [strv s,strv Zxr] H=some (.bool (s.all ZgV),H):=fun h12=>ZBI (by decide) (by omega) ZzA
 rw [R,ZrW rfl]
 unfold Zo Zij
 rw [Za ZP]
 by_cases h1 : 1≤s.length
 ·have q1 : bop .int .geq (iv s.length) (.int .i64 1) H=some (.bool true,H):=by rw [Qm,decide_eq_true (by omega)]
  rw [Za q1,Z8,Zp]
  by_cases h12 : s.length≤12
  ·have q2 : bop .int .leq (iv s.length) (.int .i64 12) H=some (.bool true,H):=by rw [Ja,decide_eq_true (by omega)]
   have g0 : s[0]?=some (s.getD 0 0):=by rw [List.getElem?_eq_getElem (by omega)];simp [List.getD_eq_getElem?_getD,List.getElem?_eq_getElem (show 0 < s.length by omega)]
   have gl : s[s.length - 1]?=some (s.getD (s.length - 1) 0):=by rw [List.getElem?_eq_getElem (by omega)];simp [List.getD_eq_getElem?_getD,List.getElem?_eq_getElem (show s.length - 1 < s.length by omega)]
   have x0 : ixs (strv s) (.int .i64 0) H=some (u8v (s.getD 0 0),H):=ZcN g0 .i64 H
   have xl:=ZcN gl .i64 H
   have wl:=Zw3 (k:=s.length) (by omega) (by omega)
   generalize s.getD 0 0=b0 at x0
   generalize s.getD (s.length - 1) 0=bl at xl
   have e2 : run Tryz.prog np lvs (n+2) Zau [u8v b0,strv Zg6] H=some (.bool (Wn b0),H):=by rw [← Zwu];exact Zwe (by decide)
   have e3 : run Tryz.prog np lvs (n+2) Zau [u8v bl,strv ZtC] H=some (.bool (WV bl),H):=by rw [← Zuk];exact Zwe (by decide)
   rw [Za q2,Qb,Qf,Za Zn]
   simp only [cond_true]
   rw [Z8,Zp]
   refine (Za (e1 h12)).trans ?_
   rw [Qb,Qf,Za Zn,decide_eq_true h12,decide_eq_true h1]
   simp only [cond_true]
   cases hall : s.all ZgV
   ·simp [↓Z9,Qa,↓QG,Qn,Qq,Qo,↓Zb,Ye,Zu,YM,Qx,JG,QA,JH,JF,QT,JR,QU,Q0,Q8,Q4,QH,Zn,ZF,Y9,YN,Jq,Jc,Yd,ZB,Q1,J0,Yg,J2,ZD,Zq,Zk,Ja,Qk,Qm,Jy,JS,JU,Yc,↓Kj,Yf,↓g_r,Kh,Bool.not_true,Bool.not_false,Bool.false_eq_true,Bool.true_eq_false,reduceIte,List.tail_cons,List.headD_cons,decide_true,decide_false,cond_true,cond_false,Nat.beq_refl,Ww,YT,Qf,ZU,ZJ,Qs,Jw,Jj,Ki,KL,YE,YZ,Y6,ZG,List.replicate,Zt,Zs,Jn,Jm,Jl,Zg,J1,ZP,ZX]
   ·rw [Z8,Zp,Za x0,Zp]
    refine (Za e2).trans ?_
    rw [Qb,ZU,Za Zn]
    simp only [cond_true]
    cases hb : Wn b0
    ·simp [↓Z9,Qa,↓QG,Qn,Qq,Qo,↓Zb,Ye,Zu,YM,Qx,JG,QA,JH,JF,QT,JR,QU,Q0,Q8,Q4,QH,Zn,ZF,Y9,YN,Jq,Jc,Yd,ZB,Q1,J0,Yg,J2,ZD,Zq,Zk,Ja,Qk,Qm,Jy,JS,JU,Yc,↓Kj,Yf,↓g_r,Kh,Bool.not_true,Bool.not_false,Bool.false_eq_true,Bool.true_eq_false,reduceIte,List.tail_cons,List.headD_cons,decide_true,decide_false,cond_true,cond_false,Nat.beq_refl,Ww,YT,Qf,ZU,ZJ,Qs,Jw,Jj,Ki,KL,YE,YZ,Y6,ZG,List.replicate,Zt,Zs,Jn,Jm,Jl,Zg,J1,ZP,ZX]
    ·rw [Z8,Zp,Za Q1,wl,Zp,Za xl,Zp]
     refine (Za e3).trans ?_
     rw [Qb,Qs,Za Zn]
     rfl
  ·have q2 : bop .int .leq (iv s.length) (.int .i64 12) H=some (.bool false,H):=by rw [Ja,decide_eq_false (by omega)]
   rw [Za q2,Qb,Qf,Za Zn]
   simp [↓Z9,Qa,↓QG,Qn,Qq,Qo,↓Zb,Ye,Zu,YM,Qx,JG,QA,JH,JF,QT,JR,QU,Q0,Q8,Q4,QH,Zn,ZF,Y9,YN,Jq,Jc,Yd,ZB,Q1,J0,Yg,J2,ZD,Zq,Zk,Ja,Qk,Qm,Jy,JS,JU,Yc,↓Kj,Yf,↓g_r,Kh,Bool.not_true,Bool.not_false,Bool.false_eq_true,Bool.true_eq_false,reduceIte,List.tail_cons,List.headD_cons,decide_true,decide_false,cond_true,cond_false,Nat.beq_refl,Ww,YT,Qf,ZU,ZJ,Qs,Jw,Jj,Ki,KL,YE,YZ,Y6,ZG,List.replicate,Zt,Zs,Jn,Jm,Jl,Zg,J1,ZP,ZX,h12]
 ·have q1 : bop .int .geq (iv s.length) (.int .i64 1) H=some (.bool false,H):=by rw [Qm,decide_eq_false (by omega)]
  rw [Za q1]
  simp [↓Z9,Qa,↓QG,Qn,Qq,Qo,↓Zb,Ye,Zu,YM,Qx,JG,QA,JH,JF,QT,JR,QU,Q0,Q8,Q4,QH,Zn,ZF,Y9,YN,Jq,Jc,Yd,ZB,Q1,J0,Yg,J2,ZD,Zq,Zk,Ja,Qk,Qm,Jy,JS,JU,Yc,↓Kj,Yf,↓g_r,Kh,Bool.not_true,Bool.not_false,Bool.false_eq_true,Bool.true_eq_false,reduceIte,List.tail_cons,List.headD_cons,decide_true,decide_false,cond_true,cond_false,Nat.beq_refl,Ww,YT,Qf,ZU,ZJ,Qs,Jw,Jj,Ki,KL,YE,YZ,Y6,ZG,List.replicate,Zt,Zs,Jn,Jm,Jl,Zg,J1,ZP,ZX,h1]
end
end Go.Proofs.YtedkoimihknggaaGreatDoor.A

namespace Go.Proofs.YtedkoimihknggaaGreatDoor.A
set_option linter.unusedVariables false
set_option linter.unusedSimpArgs false
open Go.Proofs Go.Proofs.YtedkoimihknggaaGreatDoor
abbrev YU:=List (List UInt8 × List UInt8)
structure Dir (H : Zd) (d b : Nat) (m : YU) : Prop where
 c : H[d]?=some (.cells [.map (some b)] 1 false false)
 g : J8 strv H b m
 len : ∀ p∈m,p.1.length≤12
 few : m.length≤12
section
variable {H H' : Zd} {n d b p q : Nat} {m : YU} {k s : List UInt8}
theorem Zsw {v : Value} (h : oneCell v=true) (hc : v.cells=#[v]) (H : Zd) : alc 1 v H=some (pt H.length,H++[.cells [v] 1 false false]):=by
 rw [Q0]
 simp [hc,h]
theorem ZjD {v : Value} {e : Nat} {g ro : Bool} (h : H[p]?=some (.cells [v] e g ro)) : ld1 (pt p) H=some (v,H):=Zv h rfl
theorem ZBG {g : Nat} {bs args : List Value} (hy : Nat.blt g Zb0=true:=by rfl) : Jr (R n) (.func (.func g) #[] bs.toArray) args=R n g (args++bs):=by
 have : Jr (R n) (.func (.func g) #[] bs.toArray) args=R n g ([]++(args++bs.toArray.toList)):=by
  simp only [Jr,hy,cond_true]
 rw [this];simp
theorem Dir.hle (h : Dir H d b m) (hl : HLe H H') : Dir H' d b m:=⟨hl _ _ h.c,h.g.hle hl,h.len,h.few⟩
theorem Dir.ne (h : Dir H d b m) : d≠b:=fun e=>by
 subst e
 obtain ⟨es,_,h1⟩:=h.g.ex
 rw [h.c] at h1
 rcases h1 with ⟨_,h1,_⟩ | h1 <;> cases h1
end
end Go.Proofs.YtedkoimihknggaaGreatDoor.A

namespace Go.Proofs.YtedkoimihknggaaGreatDoor.A
set_option linter.unusedVariables false
set_option linter.unusedSimpArgs false
section
variable {α : Type} {k k' : List UInt8} {v : α} {m : List (List UInt8 × α)}
theorem ZfF : ∀ {m m' : List (List UInt8 × α)},Ze k (m++m')=(Ze k m).or (Ze k m')
 | [],m'=>rfl
 | p :: m,m'=>by
  simp only [List.cons_append,Ze]
  split
  ·rfl
  ·exact ZfF
theorem JZ (h : k'≠k) : Ze k' (Qr k v m)=Ze k' m:=by
 unfold Qr
 split
 ·have : ∀ m : List (List UInt8 × α),Ze k' (m.map fun p=>if p.1=k then (k,v) else p)=Ze k' m:=by
   intro m
   induction m with
   | nil=>rfl
   | cons p m ih=>
    simp only [List.map_cons,Ze]
    by_cases hp : p.1=k
    ·rw [if_pos hp,if_neg (Ne.symm h),if_neg (fun e=>h (e.symm.trans hp)),ih]
    ·rw [if_neg hp,ih]
  exact this m
 ·rw [ZfF]
  have : Ze k' [(k,v)]=none:=by simp [Ze,Ne.symm h]
  rw [this];cases Ze k' m <;> rfl
theorem Kb : Ze k (Qr k v m)=some v:=by
 unfold Qr
 split
 ·rename_i hs
  have : ∀ m : List (List UInt8 × α),(Ze k m).isSome=true→Ze k (m.map fun p=>if p.1=k then (k,v) else p)=some v:=by
   intro m
   induction m with
   | nil=>intro h;cases h
   | cons p m ih=>
    intro h
    simp only [List.map_cons,Ze] at h ⊢
    by_cases hp : p.1=k
    ·simp [hp]
    ·rw [if_neg hp] at h
     rw [if_neg hp,if_neg hp];exact ih h
  exact this m hs
 ·rename_i hs
  rw [ZfF]
  have : Ze k m=none:=by cases e : Ze k m <;> simp_all
  rw [this];simp [Ze]
theorem Wt : Ze k (JY k m)=none:=by
 rw [Zem]
 intro p hp
 simpa [JY] using (List.mem_filter.1 hp).2
theorem Q6 (h : k'≠k) : Ze k' (JY k m)=Ze k' m:=by
 unfold JY
 induction m with
 | nil=>rfl
 | cons p m ih=>
  rw [List.filter_cons]
  by_cases hp : p.1=k
  ·rw [if_neg (by simp [hp]),ih]
   simp only [Ze]
   rw [if_neg (fun e=>h (e.symm.trans hp))]
  ·rw [if_pos (by simpa using hp)]
   simp only [Ze]
   rw [ih]
theorem Zog (hn : (m.map (·.1)).Nodup) (h : (Ze k m).isSome=true) : (JY k m).length=m.length - 1:=by
 obtain ⟨v,hv⟩:=Option.isSome_iff_exists.1 h
 obtain ⟨j,hj⟩:=ZzS hv
 rw [← Ze1 hn hj,List.length_eraseIdx,if_pos (List.getElem?_eq_some_iff.1 hj).1]
end
end Go.Proofs.YtedkoimihknggaaGreatDoor.A

namespace Go.Proofs.YtedkoimihknggaaGreatDoor.A
set_option linter.unusedVariables false
set_option linter.unusedSimpArgs false
open Go.Proofs Go.Proofs.YtedkoimihknggaaGreatDoor
section
variable {H H' : Zd} {n d b p q : Nat} {m : YU} {k s : List UInt8}
theorem Zk6 {H : Zd} {a c : Zf} : (H++[a]++[c])[H.length]?=some a:=by simp [List.getElem?_append]
theorem ZBP {H : Zd} {a c : Zf} : (H++[a]++[c])[H.length+1]?=some c:=by simp [List.getElem?_append]
theorem Zfx {α : Type} {m : List (List UInt8 × α)} {v : α} : (Qr k v m).length=if (Ze k m).isSome then m.length else m.length+1:=by
 unfold Qr
 split <;> simp
theorem Zch (h : Zo k=true) : k.length≤12:=by
 unfold Zo at h
 simp only [Bool.and_eq_true,decide_eq_true_eq] at h
 exact h.1.1.1.2
theorem ZfT : ZV k=0↔Zo k=true:=by unfold ZV;split <;> simp_all
theorem Zzl : Yu s=0↔WB s=true:=by unfold Yu;split <;> simp_all
theorem Zdc {g : Nat} {mm : List Value→M Value} {args : List Value} (hp : np g=some mm) (hy : Nat.blt g Zb0=true:=by rfl) : run Tryz.prog np lvs (n+1) g args=mm args:=by
 unfold run
 simp only [hy,hp,cond_true]
end
end Go.Proofs.YtedkoimihknggaaGreatDoor.A

namespace Go.Proofs.YtedkoimihknggaaGreatDoor.A
set_option linter.unusedVariables false
set_option linter.unusedSimpArgs false
open Go.Proofs Go.Proofs.YtedkoimihknggaaGreatDoor
section
variable {H H' : Zd} {n : Nat} {s pre : List UInt8}
theorem Zst {k : Nat} (hk : k≤s.length) : sls (strv s) none (some (iv k)) H=some (strv (s.take k),H):=by
 have h1 : (⟨s.toArray⟩ : ByteArray).size=s.length:=by simp [ByteArray.size]
 have h2 : (⟨s.toArray⟩ : ByteArray).extract 0 k=⟨(s.take k).toArray⟩:=by
  apply ByteArray.ext
  rw [ByteArray.data_extract]
  simp
 have hb : bnd (some (iv k)) s.length=some k:=by simp [bnd]
 have hb0 : bnd none 0=some 0:=rfl
 unfold strv sls
 simp only [h1,hb,hb0]
 rw [if_pos ⟨Nat.zero_le _,hk⟩,h2]
section
variable {f v : Value} {p : List UInt8→Bool} {l : List (List UInt8)} {q : List Nat} {Q : Zd→Prop}
theorem Yt {ss : List (List UInt8)} {i : Nat} {x : List UInt8} (h : ss[i]?=some x) : (ss.map strv)[i]?=some (strv x):=by rw [List.getElem?_map,h];rfl
theorem ZB2 (hr : Zw H v (l.map strv) q) (hl : l.length≤1000000) (hf : ∀ s∈l,Jr (R n) f [strv s] H=some (.bool (p s),H)) : ∀ (t k : Nat),l.length - k=t→k≤l.length→
  Zi (c4 (ZL.l1 (R n))) [v,f,iv l.length,iv k] H=some (match (l.drop k).findIdx? p with | some i=>.ret (iv (k+i : Nat)) | none=>.ext 0 [],H)
 | 0,k,ht,hk=>by
  have : k=l.length:=by omega
  subst this
  rw [List.drop_length]
  refine ZN ?_
  rw [ZJ]
  unfold ZL.l1
  rw [Za Zk,Zb,if_neg (by simp)]
  rfl
 | t+1,k,ht,hk=>by
  have hkl : k < l.length:=by omega
  have hlt : (k : Int) < l.length:=by omega
  have hg:=List.getElem?_eq_getElem hkl
  have hm : l[k]∈l:=List.getElem_mem hkl
  have hd:=List.drop_eq_getElem_cons hkl
  generalize l[k]=x at hg hd hm
  have x1:=hr.ix (i:=k) (by simpa using hkl) .i64 H
  have x2:=hr.ldx (Yt hg)
  have x3:=hf x hm
  have ih:=ZB2 hr hl hf t (k+1) (by omega) (by omega)
  rw [hd,List.findIdx?_cons]
  cases hp : p x
  ·rw [hp] at x3
   refine (ZA ?_).trans (ih.trans ?_)
   ·rw [ZJ]
    unfold ZL.l1
    rw [Za Zk,Zb,if_pos (by simpa using hlt),Za x1,Za x2,Za x3,Zb,if_neg (by simp),Za ZB,Qi (by omega)]
    rfl
   ·cases (l.drop (k+1)).findIdx? p with
    | none=>rfl
    | some i=>simp only [Bool.false_eq_true,if_false,Option.map_some];rw [show k+1+i=k+(i+1) by omega]
  ·rw [hp] at x3
   refine QR ?_
   rw [ZJ]
   unfold ZL.l1
   rw [Za Zk,Zb,if_pos (by simpa using hlt),Za x1,Za x2,Za x3,Zb,if_pos rfl]
   rfl
theorem ZjM : ∀ {l : List (List UInt8)},(match l.findIdx? p with | some i=>l.filter (fun s=>!p s)=l.take i++(l.drop (i+1)).filter (fun s=>!p s)∧i < l.length | none=>l.filter (fun s=>!p s)=l)
 | []=>by simp
 | x :: l=>by
  have ih:=ZjM (l:=l)
  rw [List.findIdx?_cons]
  cases hp : p x
  ·simp only [Bool.false_eq_true,if_false]
   cases h : l.findIdx? p with
   | none=>rw [h] at ih;simp [hp];simpa using ih
   | some i=>rw [h] at ih;simp [hp,ih.1,ih.2]
  ·simp [hp]
theorem ZBv (k : Nat) : reps k (Value.string ⟨#[]⟩).cells.toList=List.replicate k (strv []):=by
 induction k with
 | zero=>rfl
 | succ k ih=>
  unfold reps at ih ⊢
  rw [List.replicate_succ,List.flatten_cons,ih];rfl
theorem ZxC {cs : List (List UInt8)} {i : Nat} (hr : Zw H v (cs.map strv) q) (hi : i < cs.length) : ∃ a H' v',slv 1 v (some (iv i)) none none H=some (a,H)∧clr (.string ⟨#[]⟩) 1 a H=some (.tuple #[],H')∧slv 1 v none (some (iv i)) none H'=some (v',H')∧Zw H' v' ((cs.take i).map strv) q∧Zx q H q H':=by
 rcases hr with ⟨h1,_,_⟩ | ⟨sid,rest,g,rfl,rfl,hid⟩
 ·simp at h1;simp [h1] at hi
 ·rw [List.length_map] at *
  have b1 : bnd (some (iv i)) 0=some i:=by simp [bnd]
  have b1' : bnd (some (iv i)) cs.length=some i:=by simp [bnd]
  have b2 : ∀ k,bnd none k=some k:=fun _=>rfl
  have hsp : splice (cs.map strv++rest) (List.replicate (cs.length - i) (strv [])) i=(cs.take i).map strv++(List.replicate (cs.length - i) (strv [])++rest):=by
   unfold splice
   rw [List.length_replicate,Nat.add_sub_cancel' (Nat.le_of_lt hi),List.take_append_of_le_length (by simp;omega),List.drop_append_of_le_length (by simp),List.drop_eq_nil_of_le (by simp),List.map_take]
   simp
  refine ⟨.slice (some ⟨sid,0+i * 1,none⟩) (cs.length - i) (cs.length+rest.length - i),H.set sid (.cells ((cs.take i).map strv++(List.replicate (cs.length - i) (strv [])++rest)) 1 g false),.slice (some ⟨sid,0,none⟩) i (cs.length+rest.length),?_,?_,?_,?_,⟨by simp,fun j hj hn=>List.getElem?_set_ne (fun e=>hn (by simp [e])),fun j hj=>.inl hj⟩⟩
  ·simp only [slv,hid,b1,b2]
   rw [if_pos ⟨trivial,by omega,by omega,Nat.le_refl _⟩,if_neg (by omega)]
  ·simp only [clr]
   rw [if_neg (by omega)]
   simp only [hid]
   rw [if_pos ⟨trivial,by simp;omega⟩,ZBv]
   rw [Nat.zero_add,Nat.mul_one,hsp]
  ·simp only [slv,ZM hid,b1',b2]
   rw [if_pos ⟨trivial,by omega,by omega,Nat.le_refl _⟩,if_neg (by omega)]
   simp
  ·have hl : ((cs.take i).map strv).length=i:=by simp;omega
   refine .inr ⟨sid,List.replicate (cs.length - i) (strv [])++rest,g,?_,rfl,ZM hid⟩
   rw [hl]
   simp;omega
end
end
end Go.Proofs.YtedkoimihknggaaGreatDoor.A

namespace Go.Proofs.YtedkoimihknggaaGreatDoor.A
set_option linter.unusedVariables false
set_option linter.unusedSimpArgs false
open Go.Proofs Go.Proofs.YtedkoimihknggaaGreatDoor
def usr (u : List UInt8 × List UInt8) : List Value:=[strv u.1,strv u.2,strv [],.bool false,.slice none 0 0]
section
variable {H H' : Zd} {n d b : Nat} {m : YU} {pre : List UInt8}
theorem ZvI {k s : List UInt8} {H : Zd} : bld (.agg #[.string ⟨#[]⟩,.string ⟨#[]⟩,.string ⟨#[]⟩,.bool false,.slice none 0 0]) [(0,1,strv k),(1,1,strv s)] H=some (.agg (usr (k,s)).toArray,H):=by
 simp [↓Z9,Qa,↓QG,Qn,Qq,Qo,↓Zb,Ye,Zu,YM,Qx,JG,QA,JH,JF,QT,JR,QU,Q0,Q8,Q4,QH,Zn,ZF,Y9,YN,Jq,Jc,Yd,ZB,Q1,J0,Yg,J2,ZD,Zq,Zk,Ja,Qk,Qm,Jy,JS,JU,Yc,↓Kj,Yf,↓g_r,Kh,Ks,W9,splice,Value.cells,strv,usr,oneCell]
end
end Go.Proofs.YtedkoimihknggaaGreatDoor.A

namespace Go.Proofs.YtedkoimihknggaaGreatDoor.A
set_option linter.unusedVariables false
set_option linter.unusedSimpArgs false
open Go.Proofs Go.Proofs.YtedkoimihknggaaGreatDoor
theorem ZvN (s : ByteArray) : Value.string s=strv s.data.toList:=by simp [strv]
section
variable {H : Zd} {n : Nat}
end
end Go.Proofs.YtedkoimihknggaaGreatDoor.A

namespace Go.Proofs.YtedkoimihknggaaGreatDoor.A
set_option linter.unusedVariables false
set_option linter.unusedSimpArgs false
open Go.Proofs Go.Proofs.YtedkoimihknggaaGreatDoor
abbrev Ent:=List UInt8 × List UInt8
def ZCz (l : YU) : Prop:=l.Pairwise fun a b=>a.1 < b.1
section
variable {m : YU} {k s : List UInt8} {x : Ent}
end
end Go.Proofs.YtedkoimihknggaaGreatDoor.A

namespace Go.Proofs.YtedkoimihknggaaGreatDoor.A
set_option linter.unusedVariables false
set_option linter.unusedSimpArgs false
open Go.Proofs Go.Proofs.YtedkoimihknggaaGreatDoor
def GV (H : Zd) (gv : Value) (gs : List (List UInt8)) : Prop:=
 (gs=[]∧(gv=.slice none 0 0∨gv=.slice (some ⟨0,0,some 1⟩) 0 0))∨
 ∃ id rest,gv=.slice (some ⟨id,0,none⟩) gs.length (gs.length+rest.length)∧H[id]?=some (.cells (gs.map strv++rest) 1 false true)
section
variable {H H' X : Zd} {n p : Nat} {gv : Value} {gs : List (List UInt8)}
theorem GV.sl (h : GV H gv gs) : Sl H gv (gs.map strv):=by
 rcases h with ⟨rfl,rfl | rfl⟩ | ⟨id,rest,rfl,h2⟩
 ·exact Sl.nil
 ·exact ⟨_,_,rfl,(fun e=>by cases e),rfl⟩
 ·refine ⟨some ⟨id,0,none⟩,gs.length+rest.length,by rw [List.length_map],(fun e=>by cases e),?_⟩
  simp only [QD,h2]
  rw [if_pos (by simp)]
  simp
theorem GV.len (h : GV H gv gs) : Zy gv H'=some (iv gs.length,H'):=by
 have:=h.sl.len (H':=H')
 rwa [List.length_map] at this
theorem GV.one (h : GV H gv gs) : oneCell gv=true:=by
 rcases h with ⟨_,rfl | rfl⟩ | ⟨id,rest,rfl,_⟩ <;> rfl
structure Zj where
 nm : List UInt8
 hs : List UInt8
 ml : List UInt8
 ds : Bool
 gv : Value
 gs : List (List UInt8)
abbrev Zj.cells (u : Zj) : List Value:=[strv u.nm,strv u.hs,strv u.ml,.bool u.ds,u.gv]
def Zj.ok (H : Zd) (u : Zj) : Prop:=GV H u.gv u.gs
theorem Zj.all {u : Zj} (h : u.ok H) : u.cells.all oneCell=true:=by
 have:=GV.one h
 simp only [Zj.cells,List.all_cons,this];rfl
def Users (H : Zd) (sl : Value) (us : List Zj) : Prop:=SlN 5 H sl (us.map Zj.cells)∧∀ u∈us,u.ok H
variable {sl : Value} {us : List Zj}
theorem Users.len (h : Users H sl us) : Zy sl H'=some (iv us.length,H'):=by
 have:=h.1.len (H':=H')
 rwa [List.length_map] at this
theorem Users.fetch {β : Type} {k : Value→M β} (h : Users H sl us) {j : Nat} {u : Zj} (hj : us[j]?=some u) :
  bind (ixa 5 sl (iv j)) (fun p=>bind (ldA 5 p) fun v=>bind (alc 1 (.agg #[.string ⟨#[]⟩,.string ⟨#[]⟩,.string ⟨#[]⟩,.bool false,.slice none 0 0])) fun q=>bind (stA 5 q v) fun _=>k q) H=k (pt H.length) (H++[.cells u.cells 1 false false]):=by
 have hr : (us.map Zj.cells)[j]?=some u.cells:=by rw [List.getElem?_map,hj];rfl
 rw [h.1.fetch hr (by omega) .i64]
 exact Zao (n:=5) (zs:=[.string ⟨#[]⟩,.string ⟨#[]⟩,.string ⟨#[]⟩,.bool false,.slice none 0 0]) (r:=u.cells) rfl rfl rfl (Zj.all (h.2 u (List.mem_of_getElem? hj)))
end
end Go.Proofs.YtedkoimihknggaaGreatDoor.A

namespace Go.Proofs.YtedkoimihknggaaGreatDoor.A
set_option linter.unusedVariables false
set_option linter.unusedSimpArgs false
open Go.Proofs Go.Proofs.YtedkoimihknggaaGreatDoor
def ZBY (u : Zj) : Bool:=(u.ml==[]) && (!u.ds && decide (u.gs.length=0))
def ZBZ (u : Zj) : Int:=if Zo u.nm then (if WB u.hs then (if ZBY u then 0 else 12) else 4) else 10
def Zts : List Zj→Int
 | []=>0
 | u :: l=>if ZBZ u=0 then Zts l else ZBZ u
def Zsu (u : Zj) : Ent:=(u.nm,u.hs)
def Zxl : Option (List UInt8)→List Zj→Bool
 | _,[]=>true
 | p,u :: l=>(match p with | none=>true | some p=>decide (p < u.nm)) && Zxl (some u.nm) l
section
variable {H0 H X : Zd} {n p : Nat} {u : Zj} {us : List Zj} {sl : Value}
theorem ZvB {a c : Int} {v : Value} (hs : Sl X v [iv a,iv c]) : R (n+1) Zbx [v] X=some (iv (if a=0 then c else a),X):=by
 have e1 : Zy v X=some (iv 2,X):=hs.len
 have x1 : ixa 1 v (.int .i64 0) X=some (ixp v 0,X):=hs.ix (i:=0) (by simp) .i64 X
 have x2:=hs.ldx (i:=0) (v:=iv a) rfl
 have x3 : ixa 1 v (.int .i64 1) X=some (ixp v 1,X):=hs.ix (i:=1) (by simp) .i64 X
 have x4:=hs.ldx (i:=1) (v:=iv c) rfl
 have w1 : IntKind.i64.wrap (0+1)=1:=w64 (by omega) (by omega)
 have w2 : IntKind.i64.wrap (1+1)=2:=w64 (by omega) (by omega)
 rw [R,Zsi rfl]
 unfold Yb
 rw [Za e1]
 by_cases ha : a=0
 ·rw [if_pos ha]
  have s1 : c3 (Yb.l1 (run Tryz.prog np lvs n)) [v,iv 2,.int .i64 0] X=some (.nrm [v,iv 2,.int .i64 1],X):=by
   rw [ZU]
   unfold Yb.l1
   rw [Za Zk,Zb,if_pos (by decide),Za x1,Za x2,Za Zq,Zb,if_neg (by simp [ha]),Za ZB,w1]
   rfl
  by_cases hc : c=0
  ·have s2 : c3 (Yb.l1 (run Tryz.prog np lvs n)) [v,iv 2,.int .i64 1] X=some (.nrm [v,iv 2,.int .i64 2],X):=by
    rw [ZU]
    unfold Yb.l1
    rw [Za Zk,Zb,if_pos (by decide),Za x3,Za x4,Za Zq,Zb,if_neg (by simp [hc]),Za ZB,w2]
    rfl
   have s3 : c3 (Yb.l1 (run Tryz.prog np lvs n)) [v,iv 2,.int .i64 2] X=some (.ext 0 [],X):=by
    rw [ZU]
    unfold Yb.l1
    rw [Za Zk,Zb,if_neg (by decide)]
    rfl
   rw [Z5 ((ZA s1).trans ((ZA s2).trans (ZN s3))),ZG,hc]
   rfl
  ·have s2 : c3 (Yb.l1 (run Tryz.prog np lvs n)) [v,iv 2,.int .i64 1] X=some (.ret (iv c),X):=by
    rw [ZU]
    unfold Yb.l1
    rw [Za Zk,Zb,if_pos (by decide),Za x3,Za x4,Za Zq,Zb,if_pos (by simp [hc])]
    rfl
   rw [Yh ((ZA s1).trans (QR s2))]
   rfl
 ·rw [if_neg ha]
  have s1 : c3 (Yb.l1 (run Tryz.prog np lvs n)) [v,iv 2,.int .i64 0] X=some (.ret (iv a),X):=by
   rw [ZU]
   unfold Yb.l1
   rw [Za Zk,Zb,if_pos (by decide),Za x1,Za x2,Za Zq,Zb,if_pos (by simp [ha])]
   rfl
  rw [Yh (QR s1)]
  rfl
theorem ZzY {a c : Int} (H : Zd) : bsl 1 2 (.int .i64 0) [(0,1,iv a),(1,1,iv c)] H=some (.slice (some ⟨H.length,0,none⟩) 2 2,H++[.cells [iv a,iv c] 1 false false]):=rfl
theorem ZCl {a c : List UInt8} {H : Zd} : bop .str .lss (strv a) (strv c) H=some (.bool (decide (a < c)),H):=by
 rw [← bytesLess_eq]
 show (sop .lss (⟨a.toArray⟩ : ByteArray) (⟨c.toArray⟩ : ByteArray)).map (·,H)=_
 unfold sop
 rw [Kt,Kt]
 rfl
theorem ZCo {a c : List UInt8} {H : Zd} : bop .str .geq (strv a) (strv c) H=some (.bool (!decide (a < c)),H):=by
 rw [← bytesLess_eq]
 show (sop .geq (⟨a.toArray⟩ : ByteArray) (⟨c.toArray⟩ : ByteArray)).map (·,H)=_
 unfold sop
 rw [Kt,Kt]
 rfl
theorem ZCd {a c : List UInt8} {H : Zd} : bop .str .gtr (strv a) (strv c) H=some (.bool (decide (c < a)),H):=by
 have h : (!(Op.bytesLess a c || a==c))=decide (c < a):=by
  rw [bytesLess_eq,Bool.eq_iff_iff]
  simp only [Bool.not_eq_true',Bool.or_eq_false_iff,decide_eq_false_iff_not,beq_eq_false_iff_ne,decide_eq_true_eq]
  constructor
  ·rintro ⟨h1,h2⟩
   rcases Zmb a c with h4 | h4 | h4
   ·exact absurd h4 h1
   ·exact absurd h4 h2
   ·exact h4
  ·intro h
   exact ⟨List.lt_asymm h,by rintro rfl;exact List.lt_irrefl _ h⟩
 rw [← h]
 show (sop .gtr (⟨a.toArray⟩ : ByteArray) (⟨c.toArray⟩ : ByteArray)).map (·,H)=_
 unfold sop
 rw [Kt,Kt]
 rfl
theorem ZvA {a : List UInt8} : R (n+1) KT [strv a] X=some (.bool false,X):=by
 rw [R,Zk7 rfl]
 unfold ZdW
 rw [Za WM]
 simp [ret]
theorem ZxV {a c : List UInt8} : R (n+3) JW [strv a,strv c] X=some (iv (Zds a c),X):=by
 have e0 : run Tryz.prog np lvs (n+1) KT [strv a] X=_:=ZvA
 have e1 : run Tryz.prog np lvs (n+1) KT [strv c] X=_:=ZvA
 have e2 : run Tryz.prog np lvs (n+2) Zbn [strv a,strv c] X=some (iv (Zds a c),X):=by
  rw [ZjC rfl]
  unfold Zc1 Zds
  rw [Za e0,Za e1,Zb,if_neg (by simp),Zb,if_neg (by simp),Za ZCl,Zb]
  by_cases h1 : a < c
  ·rw [if_pos (by simpa using h1),if_pos h1];rfl
  ·rw [if_neg (by simpa using h1),Za ZCd,Zb,if_neg h1]
   by_cases h2 : c < a
   ·rw [if_pos (by simpa using h2),if_pos h2];rfl
   ·rw [if_neg (by simpa using h2),if_neg h2];rfl
 rw [R,ZoM rfl]
 unfold Zgm
 rw [Za e2]
 rfl
theorem ZAa {a c : List UInt8} : decide (Zds a c≥0)=!decide (a < c):=by
 unfold Zds
 by_cases h1 : a < c
 ·simp [h1]
 ·by_cases h2 : c < a <;> simp [h1,h2]
end
end Go.Proofs.YtedkoimihknggaaGreatDoor.A

namespace Go.Proofs.YtedkoimihknggaaGreatDoor.A
set_option linter.unusedVariables false
set_option linter.unusedSimpArgs false
open Go.Proofs Go.Proofs.YtedkoimihknggaaGreatDoor
section
variable {H0 H X : Zd} {n p d b : Nat} {u : Zj} {us : List Zj} {sl dv : Value}
def upB (prev : Option (List UInt8)) (u : Zj) : Bool:=match prev with | none=>true | some p=>decide (p < u.nm)
def Zwz (m : YU) (p : Option (List UInt8)) : Prop:=ZCz m∧∀ x∈m,∃ q,p=some q∧x.1≤q
theorem Zwz.put {m : YU} {p : Option (List UInt8)} (h : Zwz m p) (hu : upB p u=true) : Qr u.nm u.hs m=m++[Zsu u]∧Zwz (m++[Zsu u]) (some u.nm):=by
 have hlt : ∀ x∈m,x.1 < u.nm:=fun x hx=>by
  obtain ⟨q,rfl,h2⟩:=h.2 x hx
  have h3 : q < u.nm:=by simpa [upB] using hu
  exact List.lt_of_le_of_lt h2 h3
 have hn : Ze u.nm m=none:=Zem.2 fun x hx e=>by
  have:=hlt x hx
  rw [e] at this
  exact List.lt_irrefl _ this
 refine ⟨by unfold Qr;rw [hn];rfl,List.pairwise_append.2 ⟨h.1,by simp,fun a ha c hc=>?_⟩,fun x hx=>⟨u.nm,rfl,?_⟩⟩
 ·have : c=Zsu u:=by simpa using hc
  subst this
  exact hlt a ha
 ·rcases List.mem_append.1 hx with hx | hx
  ·exact List.le_of_lt (hlt x hx)
  ·have : x=Zsu u:=by simpa using hx
   subst this
   exact List.le_refl _
def ofE (us : List Zj) : Int:=if Zts us=0 then (if Zxl none us then (if 12 < us.length then 7 else 0) else 9) else Zts us
end
end Go.Proofs.YtedkoimihknggaaGreatDoor.A

namespace Go.Proofs.YtedkoimihknggaaGreatDoor.A
set_option linter.unusedVariables false
set_option linter.unusedSimpArgs false
open Go.Proofs Go.Proofs.YtedkoimihknggaaGreatDoor
abbrev Kp:=List UInt8 × List UInt8 × List UInt8 × Bool × List (List UInt8)
def ZI (u : Zj) : Kp:=(u.nm,u.hs,u.ml,u.ds,u.gs)
section
variable {H0 H X : Zd} {n p p1 p2 d b : Nat} {u w : Zj} {us ws : List Zj} {a c : Value}
theorem ZsE (h1 : Sl X u.gv (u.gs.map strv)) (h2 : Sl X w.gv (w.gs.map strv)) (hl : u.gs.length=w.gs.length) (hb : u.gs.length≤1000000) (c1 : X[p1]?=some (.cells u.cells 1 false false)) (c2 : X[p2]?=some (.cells w.cells 1 false false)) : ∀ (t j : Nat),u.gs.length - j=t→j≤u.gs.length→
  Zi (c4 (K5.l1 (R n))) [pt p1,pt p2,iv u.gs.length,iv j] X=some (if u.gs.drop j=w.gs.drop j then .ext 0 [] else .ret (.bool false),X)
 | 0,j,ht,hj=>by
  rw [List.drop_eq_nil_of_le (by omega),List.drop_eq_nil_of_le (by omega),if_pos rfl]
  refine ZN ?_
  rw [ZJ]
  unfold K5.l1
  rw [Za Zk,Zb,if_neg (by simp;omega)]
  rfl
 | t+1,j,ht,hj=>by
  have hj1 : j < u.gs.length:=by omega
  have hj2 : j < w.gs.length:=by omega
  have hlt : (j : Int) < u.gs.length:=by omega
  have g1:=List.getElem?_eq_getElem hj1
  have g2:=List.getElem?_eq_getElem hj2
  have d1:=List.drop_eq_getElem_cons hj1
  have d2:=List.drop_eq_getElem_cons hj2
  generalize u.gs[j]=x at g1 d1
  generalize w.gs[j]=y at g2 d2
  have x1:=h1.ix (i:=j) (by simpa using hj1) .i64 X
  have x2:=h1.ldx (Yt g1)
  have y1:=h2.ix (i:=j) (by simpa using hj2) .i64 X
  have y2:=h2.ldx (Yt g2)
  have a4 : ld1 (pa p1 4) X=some (u.gv,X):=Zv c1 rfl
  have b4 : ld1 (pa p2 4) X=some (w.gv,X):=Zv c2 rfl
  have q1 : bop .str .neq (strv x) (strv y) X=some (.bool (!(x==y)),X):=WM
  rw [d1,d2]
  by_cases hxy : x=y
  ·subst hxy
   have ih:=ZsE h1 h2 hl hb c1 c2 t (j+1) (by omega) (by omega)
   have hi : (x :: u.gs.drop (j+1)=x :: w.gs.drop (j+1))↔(u.gs.drop (j+1)=w.gs.drop (j+1)):=by simp
   simp only [hi]
   refine (ZA ?_).trans ih
   rw [ZJ]
   unfold K5.l1
   rw [Za Zk,Zb,if_pos (by simpa using hlt),Za Zg,Za a4,Za x1,Za x2,Za Zg,Za b4,Za y1,Za y2,Za q1,Zb,if_neg (by simp),Za ZB,Qi (by omega)]
   rfl
  ·rw [if_neg (by simp [hxy])]
   refine QR ?_
   rw [ZJ]
   unfold K5.l1
   rw [Za Zk,Zb,if_pos (by simpa using hlt),Za Zg,Za a4,Za x1,Za x2,Za Zg,Za b4,Za y1,Za y2,Za q1,Zb,if_pos (by simp [hxy])]
   rfl
theorem ZoL {u : Zj} (h : oneCell u.gv=true) : alc 1 (.agg u.cells.toArray) X=some (pt X.length,X++[.cells u.cells 1 false false]):=by
 rw [Q0]
 exact if_pos (show u.cells.toArray.toList.all oneCell=true by simp only [Zj.cells,List.all_cons,h];rfl)
theorem ZBj (h1 : Sl X u.gv (u.gs.map strv)) (h2 : Sl X w.gv (w.gs.map strv)) (o1 : oneCell u.gv=true) (o2 : oneCell w.gv=true) (hb1 : u.gs.length≤1000000) (hb2 : w.gs.length≤1000000) :
  ∃ X',R (n+1) ZfC [.agg u.cells.toArray,.agg w.cells.toArray] X=some (.bool (decide (ZI u=ZI w)),X')∧HLe X X':=by
 have e1:=ZoL (X:=X) o1
 have e2:=ZoL (X:=X++[.cells u.cells 1 false false]) o2
 have k1 : HLe X (X++[Zf.cells u.cells 1 false false]++[Zf.cells w.cells 1 false false]):=(HLe.app _ _).trans (.app _ _)
 have c1 : (X++[Zf.cells u.cells 1 false false]++[Zf.cells w.cells 1 false false])[X.length]?=some (.cells u.cells 1 false false):=Zk6
 have c2 : (X++[Zf.cells u.cells 1 false false]++[Zf.cells w.cells 1 false false])[(X++[Zf.cells u.cells 1 false false]).length]?=some (.cells w.cells 1 false false):=ZC
 generalize X++[Zf.cells u.cells 1 false false]++[Zf.cells w.cells 1 false false]=X2 at e2 k1 c1 c2
 generalize (X++[Zf.cells u.cells 1 false false]).length=p2 at e2 c2
 generalize X.length=p1 at e1 c1
 have a0 : ∀ f x,u.cells[f]?=some x→ld1 (pa p1 f) X2=some (x,X2):=fun f x h=>Zv c1 h
 have b0 : ∀ f x,w.cells[f]?=some x→ld1 (pa p2 f) X2=some (x,X2):=fun f x h=>Zv c2 h
 have q0 : ∀ x y : List UInt8,bop .str .neq (strv x) (strv y) X2=some (.bool (decide (x≠y)),X2):=fun x y=>by
  rw [WM];by_cases h : x=y <;> simp [h]
 have q1 : bop .bool .neq (.bool u.ds) (.bool w.ds) X2=some (.bool (decide (u.ds≠w.ds)),X2):=by
  rw [JS];cases u.ds <;> cases w.ds <;> rfl
 have q2 : bop .int .neq (iv u.gs.length) (iv w.gs.length) X2=some (.bool (decide (u.gs.length≠w.gs.length)),X2):=by
  rw [Zq];by_cases h : u.gs.length=w.gs.length
  ·simp [h]
  ·have : ((u.gs.length : Int) !=w.gs.length)=true:=by rw [bne_iff_ne];omega
   rw [this];simp [h]
 have g1:=h1.mono k1
 have g2:=h2.mono k1
 have l1 : Zy u.gv X2=some (iv u.gs.length,X2):=by have:=g1.len (H':=X2);rwa [List.length_map] at this
 have l2 : Zy w.gv X2=some (iv w.gs.length,X2):=by have:=g2.len (H':=X2);rwa [List.length_map] at this
 refine ⟨X2,?_,k1⟩
 rw [R,Zr0 rfl]
 unfold K5
 rw [Za e1,Za e2,Za Zg,Za (a0 0 _ rfl),Za Zg,Za (b0 0 _ rfl),Za (q0 _ _)]
 by_cases n1 : u.nm=w.nm
 rotate_left
 ·rw [decide_eq_true n1,Za (g_r.trans (if_neg (by simp)))]
  simp only [List.replicate]
  rw [Qs,Za Zn]
  simp only [cond_true]
  rw [Za (g_r.trans (if_neg (by simp)))]
  simp only [List.replicate]
  rw [Qs,Za Zn]
  simp only [cond_true]
  rw [Za (g_r.trans (if_neg (by simp)))]
  simp only [List.replicate]
  rw [Qs,Za Zn]
  simp only [cond_true]
  rw [Za (g_r.trans (if_neg (by simp)))]
  simp only [List.replicate]
  rw [Jj,Za Zn]
  simp only [cond_true]
  rw [Zb,if_pos rfl,decide_eq_false (fun e=>n1 (congrArg (·.1) e))]
  rfl
 rw [decide_eq_false (fun h=>h n1),Z8,Zp,Za Zg,Zp,Za (a0 1 _ rfl),Zp,Za Zg,Zp,Za (b0 1 _ rfl),Zp,Za (q0 _ _),Qb,Qs,Za Zn]
 simp only [cond_false]
 by_cases n2 : u.hs=w.hs
 rotate_left
 ·rw [decide_eq_true n2,Za (g_r.trans (if_neg (by simp)))]
  simp only [List.replicate]
  rw [Qs,Za Zn]
  simp only [cond_true]
  rw [Za (g_r.trans (if_neg (by simp)))]
  simp only [List.replicate]
  rw [Qs,Za Zn]
  simp only [cond_true]
  rw [Za (g_r.trans (if_neg (by simp)))]
  simp only [List.replicate]
  rw [Jj,Za Zn]
  simp only [cond_true]
  rw [Zb,if_pos rfl,decide_eq_false (fun e=>n2 (congrArg (·.2.1) e))]
  rfl
 rw [decide_eq_false (fun h=>h n2),Z8,Zp,Za Zg,Zp,Za (a0 2 _ rfl),Zp,Za Zg,Zp,Za (b0 2 _ rfl),Zp,Za (q0 _ _),Qb,Qs,Za Zn]
 simp only [cond_false]
 by_cases n3 : u.ml=w.ml
 rotate_left
 ·rw [decide_eq_true n3,Za (g_r.trans (if_neg (by simp)))]
  simp only [List.replicate]
  rw [Qs,Za Zn]
  simp only [cond_true]
  rw [Za (g_r.trans (if_neg (by simp)))]
  simp only [List.replicate]
  rw [Jj,Za Zn]
  simp only [cond_true]
  rw [Zb,if_pos rfl,decide_eq_false (fun e=>n3 (congrArg (·.2.2.1) e))]
  rfl
 rw [decide_eq_false (fun h=>h n3),Z8,Zp,Za Zg,Zp,Za (a0 3 _ rfl),Zp,Za Zg,Zp,Za (b0 3 _ rfl),Zp,Za q1,Qb,Qs,Za Zn]
 simp only [cond_false]
 by_cases n4 : u.ds=w.ds
 rotate_left
 ·rw [decide_eq_true n4,Za (g_r.trans (if_neg (by simp)))]
  simp only [List.replicate]
  rw [Jj,Za Zn]
  simp only [cond_true]
  rw [Zb,if_pos rfl,decide_eq_false (fun e=>n4 (congrArg (·.2.2.2.1) e))]
  rfl
 rw [decide_eq_false (fun h=>h n4),Z8,Zp,Za Zg,Zp,Za (a0 4 _ rfl),Zp,Za l1,Zp,Za Zg,Zp,Za (b0 4 _ rfl),Zp,Za l2,Zp,Za q2,Qb,Jj,Za Zn]
 simp only [cond_false]
 by_cases n5 : u.gs.length=w.gs.length
 rotate_left
 ·rw [decide_eq_true n5,Zb,if_pos rfl,decide_eq_false (fun e=>n5 (congrArg (·.2.2.2.2.length) e))]
  rfl
 rw [decide_eq_false (fun h=>h n5),Zb,if_neg (by simp),Za Zg,Za (a0 4 _ rfl),Za l1]
 have e3:=ZsE (n:=n) g1 g2 n5 hb1 c1 c2 u.gs.length 0 (by omega) (by omega)
 rw [List.drop_zero,List.drop_zero] at e3
 have e3 : Zi (c4 (K5.l1 (R n))) [pt p1,pt p2,iv u.gs.length,.int .i64 0] X2=_:=e3
 by_cases n6 : u.gs=w.gs
 ·rw [if_pos n6] at e3
  rw [Z5 e3,ZG,decide_eq_true (show ZI u=ZI w by unfold ZI;rw [n1,n2,n3,n4,n6])]
  rfl
 ·rw [if_neg n6] at e3
  rw [Yh e3,decide_eq_false (fun e=>n6 (congrArg (·.2.2.2.2) e))]
  rfl
def Qg (H : Zd) (sl : Value) (us : List Zj) : Prop:=SlN 5 H sl (us.map Zj.cells)∧∀ u∈us,Sl H u.gv (u.gs.map strv)∧oneCell u.gv=true∧u.gs.length≤1000000
theorem Qg.mono (h : Qg H a us) (hl : HLe H X) : Qg X a us:=⟨h.1.mono hl,fun u hu=>⟨(h.2 u hu).1.mono hl,(h.2 u hu).2⟩⟩
theorem Users.s (h : Users H a us) (hb : ∀ u∈us,u.gs.length≤1000000) : Qg H a us:=⟨h.1,fun u hu=>⟨GV.sl (h.2 u hu),GV.one (h.2 u hu),hb u hu⟩⟩
theorem Zs9 (hn : us.length≤1000000) (hl : us.length=ws.length) (ha : Qg H0 a us) (hc : Qg H0 c ws) : ∀ (t j : Nat) (X : Zd),us.length - j=t→j≤us.length→HLe H0 X→
  ∃ X',Zi (c4 (Jf.l1 (R (n+1)))) [a,c,iv us.length,iv j] X=some (if (us.drop j).map ZI=(ws.drop j).map ZI then .ext 0 [] else .ret (.bool false),X')∧HLe H0 X'
 | 0,j,X,ht,hj,hle=>by
  rw [List.drop_eq_nil_of_le (by omega),List.drop_eq_nil_of_le (by omega),if_pos rfl]
  refine ⟨X,ZN ?_,hle⟩
  rw [ZJ]
  unfold Jf.l1
  rw [Za Zk,Zb,if_neg (by simp;omega)]
  rfl
 | t+1,j,X,ht,hj,hle=>by
  have hj1 : j < us.length:=by omega
  have hj2 : j < ws.length:=by omega
  have hlt : (j : Int) < us.length:=by omega
  have g1:=List.getElem?_eq_getElem hj1
  have g2:=List.getElem?_eq_getElem hj2
  have d1:=List.drop_eq_getElem_cons hj1
  have d2:=List.drop_eq_getElem_cons hj2
  generalize us[j]=u at g1 d1
  generalize ws[j]=w at g2 d2
  have hr1 : (us.map Zj.cells)[j]?=some u.cells:=by rw [List.getElem?_map,g1];rfl
  have hr2 : (ws.map Zj.cells)[j]?=some w.cells:=by rw [List.getElem?_map,g2];rfl
  have hf1:=fun {K : Value→M Out}=>(ha.1.mono hle).fetch (k:=K) hr1 (by omega) .i64
  have hf2:=fun {K : Value→M Out}=>(hc.1.mono hle).fetch (k:=K) hr2 (by omega) .i64
  obtain ⟨p1,p2,p3⟩:=(ha.mono hle).2 u (List.mem_of_getElem? g1)
  obtain ⟨r1,r2,r3⟩:=(hc.mono hle).2 w (List.mem_of_getElem? g2)
  obtain ⟨X1,e1,l1⟩:=ZBj (n:=n) p1 r1 p2 r2 p3 r3
  rw [d1,d2]
  by_cases hk : ZI u=ZI w
  ·rw [decide_eq_true hk] at e1
   obtain ⟨X2,e2,l2⟩:=Zs9 hn hl ha hc t (j+1) X1 (by omega) (by omega) (hle.trans l1)
   have hi : ((u :: us.drop (j+1)).map ZI=(w :: ws.drop (j+1)).map ZI)↔((us.drop (j+1)).map ZI=(ws.drop (j+1)).map ZI):=by simp [hk]
   simp only [hi]
   refine ⟨X2,(ZA ?_).trans e2,l2⟩
   rw [ZJ]
   unfold Jf.l1
   rw [Za Zk,Zb,if_pos (by simpa using hlt),hf1,hf2,Za e1,Za ZF,Zb,if_neg (by simp),Za ZB,Qi (by omega)]
   rfl
  ·rw [decide_eq_false hk] at e1
   rw [if_neg (by simp [hk])]
   refine ⟨X1,QR ?_,hle.trans l1⟩
   rw [ZJ]
   unfold Jf.l1
   rw [Za Zk,Zb,if_pos (by simpa using hlt),hf1,hf2,Za e1,Za ZF,Zb,if_pos (by simp)]
   rfl
theorem Zyy (hn : us.length≤1000000) (hn2 : ws.length≤1000000) (ha : Qg X a us) (hc : Qg X c ws) : ∃ X',R (n+2) KN [a,c] X=some (.bool (decide (us.map ZI=ws.map ZI)),X')∧HLe X X':=by
 have h1 : Zy a X=some (iv us.length,X):=by have:=ha.1.len (H':=X);rwa [List.length_map] at this
 have h2 : Zy c X=some (iv ws.length,X):=by have:=hc.1.len (H':=X);rwa [List.length_map] at this
 have f1 : ∀ v H',Jf (R (n+1)) a c X=some (v,H')→R (n+2) KN [a,c] X=some (v,H'):=fun v H' hr=>by rw [R,Zkv rfl];exact hr
 by_cases hl : us.length=ws.length
 ·obtain ⟨X',e,l⟩:=Zs9 (n:=n) hn hl ha hc us.length 0 X (by omega) (by omega) (.refl _)
  have e : Zi (c4 (Jf.l1 (R (n+1)))) [a,c,iv us.length,.int .i64 0] X=_:=e
  rw [List.drop_zero,List.drop_zero] at e
  refine ⟨X',f1 _ _ ?_,l⟩
  unfold Jf
  rw [Za h1,Za h2,Za Zq,Zb,if_neg (by simp [hl]),Za h1]
  by_cases hk : us.map ZI=ws.map ZI
  ·rw [if_pos hk] at e
   rw [Z5 e,ZG,decide_eq_true hk];rfl
  ·rw [if_neg hk] at e
   rw [Yh e,decide_eq_false hk];rfl
 ·refine ⟨X,f1 _ _ ?_,.refl _⟩
  unfold Jf
  have hk : ¬ us.map ZI=ws.map ZI:=fun e=>hl (by have:=congrArg List.length e;simpa using this)
  have hne : ((us.length : Int) !=ws.length)=true:=by rw [bne_iff_ne];omega
  rw [Za h1,Za h2,Za Zq,Zb,if_pos hne,decide_eq_false hk]
  rfl
end
end Go.Proofs.YtedkoimihknggaaGreatDoor.A

namespace Go.Proofs.YtedkoimihknggaaGreatDoor.A
set_option linter.unusedVariables false
set_option linter.unusedSimpArgs false
open Go.Proofs Go.Proofs.YtedkoimihknggaaGreatDoor
section
variable {H H' : Zd} {n d b p q : Nat} {m : YU} {k s : List UInt8}
end
end Go.Proofs.YtedkoimihknggaaGreatDoor.A

namespace Go.Proofs.YtedkoimihknggaaGreatDoor.A
set_option linter.unusedVariables false
set_option linter.unusedSimpArgs false
open Go.Proofs Go.Proofs.YtedkoimihknggaaGreatDoor
structure ZnZ where
 kd : Nat
 nm : List UInt8
 hs : List UInt8
abbrev ZnZ.cells (a : ZnZ) : List Value:=[.int .u8 a.kd,strv a.nm,strv a.hs]
def Zsz (H : Zd) (sl : Value) (ac : List ZnZ) : Prop:=SlN 3 H sl (ac.map ZnZ.cells)∧∀ a∈ac,a.kd≤255
section
variable {H H' : Zd} {sl : Value} {ac : List ZnZ} {n : Nat}
theorem Zsz.len (h : Zsz H sl ac) : Zy sl H'=some (iv ac.length,H'):=by
 have:=h.1.len (H':=H')
 rwa [List.length_map] at this
theorem Zsz.fetch {β : Type} {k : Value→M β} (h : Zsz H sl ac) {j : Nat} {a : ZnZ} (hj : ac[j]?=some a) :
  bind (ixa 3 sl (iv j)) (fun p=>bind (ldA 3 p) fun v=>bind (alc 1 (.agg #[.int .u8 0,.string ⟨#[]⟩,.string ⟨#[]⟩])) fun q=>bind (stA 3 q v) fun _=>k q) H=k (pt H.length) (H++[.cells a.cells 1 false false]):=by
 have hr : (ac.map ZnZ.cells)[j]?=some a.cells:=by rw [List.getElem?_map,hj];rfl
 rw [h.1.fetch hr (by omega) .i64]
 exact Zao (n:=3) (zs:=[.int .u8 0,.string ⟨#[]⟩,.string ⟨#[]⟩]) (r:=a.cells) rfl rfl rfl rfl
end
end Go.Proofs.YtedkoimihknggaaGreatDoor.A

namespace Go.Proofs.YtedkoimihknggaaGreatDoor.A
set_option linter.unusedVariables false
set_option linter.unusedSimpArgs false
open Go.Proofs Go.Proofs.YtedkoimihknggaaGreatDoor
section
variable {H : Zd} {n : Nat} {f v : Value} {p : List UInt8→Bool} {l : List (List UInt8)} {q : List Nat} {Q : Zd→Prop}
theorem HLe.stepq {X X' : Zd} (h : HLe X X') : Zx q X q X':=h.step.more (by simp) (fun j hj=>.inl hj)
theorem Zvq (hl : l.length≤1000000) (hQ : ∀ X X',Q X→HLe X X'→Q X') (hf : ∀ X,Q X→∀ s∈l,∃ X',Jr (R n) f [strv s] X=some (.bool (p s),X')∧HLe X X') : ∀ (t k : Nat) (X : Zd),l.length - k=t→k≤l.length→Q X→Zw X v (l.map strv) q→
  ∃ X',Zi (c4 (ZL.l1 (R n))) [v,f,iv l.length,iv k] X=some (match (l.drop k).findIdx? p with | some i=>.ret (iv (k+i : Nat)) | none=>.ext 0 [],X')∧HLe X X'
 | 0,k,X,ht,hk,hq,hr=>by
  have : k=l.length:=by omega
  subst this
  rw [List.drop_length]
  refine ⟨X,ZN ?_,.refl _⟩
  rw [ZJ]
  unfold ZL.l1
  rw [Za Zk,Zb,if_neg (by simp)]
  rfl
 | t+1,k,X,ht,hk,hq,hr=>by
  have hkl : k < l.length:=by omega
  have hlt : (k : Int) < l.length:=by omega
  have hg:=List.getElem?_eq_getElem hkl
  have hm : l[k]∈l:=List.getElem_mem hkl
  have hd:=List.drop_eq_getElem_cons hkl
  generalize l[k]=x at hg hd hm
  have x1:=hr.ix (i:=k) (by simpa using hkl) .i64 X
  have x2:=hr.ldx (Yt hg)
  obtain ⟨X1,x3,l1⟩:=hf X hq x hm
  obtain ⟨X2,ih,l2⟩:=Zvq hl hQ hf t (k+1) X1 (by omega) (by omega) (hQ _ _ hq l1) (hr.step l1.step (by simp))
  rw [hd,List.findIdx?_cons]
  cases hp : p x
  ·rw [hp] at x3
   refine ⟨X2,(ZA ?_).trans (ih.trans ?_),l1.trans l2⟩
   ·rw [ZJ]
    unfold ZL.l1
    rw [Za Zk,Zb,if_pos (by simpa using hlt),Za x1,Za x2,Za x3,Zb,if_neg (by simp),Za ZB,Qi (by omega)]
    rfl
   ·cases (l.drop (k+1)).findIdx? p with
    | none=>rfl
    | some i=>simp only [Bool.false_eq_true,if_false,Option.map_some];rw [show k+1+i=k+(i+1) by omega]
  ·rw [hp] at x3
   refine ⟨X1,QR ?_,l1⟩
   rw [ZJ]
   unfold ZL.l1
   rw [Za Zk,Zb,if_pos (by simpa using hlt),Za x1,Za x2,Za x3,Zb,if_pos rfl]
   rfl
theorem ZxW (hr : Zw H v (l.map strv) q) (hl : l.length≤1000000) (hQ : ∀ X X',Q X→HLe X X'→Q X') (hf : ∀ X,Q X→∀ s∈l,∃ X',Jr (R n) f [strv s] X=some (.bool (p s),X')∧HLe X X') (h0 : Q H) :
  ∃ H',R (n+1) Yi [v,f] H=some (match l.findIdx? p with | some i=>iv i | none=>iv (-1),H')∧HLe H H':=by
 obtain ⟨H',e,le⟩:=Zvq hl hQ hf l.length 0 H (by omega) (by omega) h0 hr
 rw [List.drop_zero] at e
 have e : Zi (c4 (ZL.l1 (R n))) [v,f,iv l.length,.int .i64 0] H=_:=e
 have hlen : Zy v H=some (iv l.length,H):=by have:=hr.rd.len (H':=H);simpa using this
 refine ⟨H',?_,le⟩
 rw [R,Zeq rfl]
 unfold ZL
 rw [Za hlen]
 cases h : l.findIdx? p with
 | none=>rw [h] at e;rw [Z5 e,ZG];rfl
 | some i=>
  rw [h] at e
  rw [Yh e]
  simp [ret]
theorem Zqt (hl : l.length≤1000000) (hQ : ∀ X X',Q X→Zx q X q X'→Q X') (hf : ∀ X,Q X→∀ s∈l,∃ X',Jr (R n) f [strv s] X=some (.bool (p s),X')∧HLe X X') : ∀ (t j i : Nat) (cs : List (List UInt8)) (X : Zd),l.length - j=t→j≤l.length→i≤j→cs.length=l.length→cs.drop j=l.drop j→Zw X v (cs.map strv) q→Q X→
  ∃ (X' : Zd) (cs' : List (List UInt8)),Zi (c4 (Z3.l1 (R n))) [v,f,iv i,iv j] X=some (.ext 0 [v,iv (i+((l.drop j).filter fun s=>!p s).length : Nat)],X')∧Zw X' v (cs'.map strv) q∧cs'.length=l.length∧
   cs'.take (i+((l.drop j).filter fun s=>!p s).length)=cs.take i++(l.drop j).filter (fun s=>!p s)∧Zx q X q X'
 | 0,j,i,cs,X,ht,hj,hi,hc,hd,hr,hq=>by
  have : j=l.length:=by omega
  subst this
  rw [List.drop_length]
  have hlen : Zy v X=some (iv l.length,X):=by have:=hr.rd.len (H':=X);simpa [hc] using this
  refine ⟨X,cs,ZN ?_,hr,hc,by simp,.refl _ _⟩
  rw [ZJ]
  unfold Z3.l1
  rw [Za hlen,Za Zk,Zb,if_neg (by simp)]
  rfl
 | t+1,j,i,cs,X,ht,hj,hi,hc,hd,hr,hq=>by
  have hjl : j < l.length:=by omega
  have hlt : (j : Int) < l.length:=by omega
  have hg:=List.getElem?_eq_getElem hjl
  have hm : l[j]∈l:=List.getElem_mem hjl
  have hdl:=List.drop_eq_getElem_cons hjl
  generalize l[j]=x at hg hdl hm
  have hgc : cs[j]?=some x:=by
   have h1 : (cs.drop j)[0]?=(l.drop j)[0]?:=by rw [hd]
   simpa [hg] using h1
  have hlen : Zy v X=some (iv l.length,X):=by have:=hr.rd.len (H':=X);simpa [hc] using this
  have x1:=hr.ix (i:=j) (by simpa [hc] using hjl) .i64 X
  have x2:=hr.ldx (Yt hgc)
  obtain ⟨Y,x3,ly⟩:=hf X hq x hm
  have hqy:=hQ _ _ hq (ly.stepq (q:=q))
  have hry:=hr.step ly.step (by simp)
  have hd1 : cs.drop (j+1)=l.drop (j+1):=by
   rw [← List.drop_drop,hd,List.drop_drop]
  rw [hdl,List.filter_cons]
  cases hp : p x
  ·rw [hp] at x3
   have x4:=hry.ix (i:=i) (by simp [hc];omega) .i64 Y
   obtain ⟨X1,x5,r1,s1,_⟩:=hry.stx (i:=i) (u:=strv x) (by simp [hc];omega) rfl
   have hset : (cs.map strv).set i (strv x)=(cs.set i x).map strv:=by rw [List.map_set]
   rw [hset] at r1
   obtain ⟨X',cs',e,r',hc',ht',s'⟩:=Zqt hl hQ hf t (j+1) (i+1) (cs.set i x) X1 (by omega) (by omega) (by omega) (by simpa using hc) (by rw [List.drop_set_of_lt (by omega)];exact hd1) r1 (hQ _ _ hqy s1)
   have hn : i+1+((l.drop (j+1)).filter fun s=>!p s).length=i+(((l.drop (j+1)).filter fun s=>!p s).length+1):=by omega
   rw [hn] at e ht'
   simp only [Bool.not_false,if_true,List.length_cons]
   refine ⟨X',cs',(ZA ?_).trans e,r',hc',?_,(ly.stepq.trans s1).trans s'⟩
   ·rw [ZJ]
    unfold Z3.l1
    rw [Za hlen,Za Zk,Zb,if_pos (by simpa using hlt),Za x1,Za x2,Za x3,Za ZF]
    refine (ZS (vs:=[v,f,iv ((i+1 : Nat) : Int),iv j]) (H':=X1) ?_).trans ?_
    ·rw [Zb,if_pos (by rfl),Za x4,Za x5,Za ZB,Qi (by omega)];rfl
    ·rw [ZJ,Za ZB,Qi (by omega)];rfl
   ·rw [ht']
    have : (cs.set i x).take (i+1)=cs.take i++[x]:=by
     have hil : i < (cs.set i x).length:=by simp [hc];omega
     rw [List.take_succ_eq_append_getElem hil,List.take_set_of_le (Nat.le_refl _)]
     simp
    rw [this];simp
  ·rw [hp] at x3
   obtain ⟨X',cs',e,r',hc',ht',s'⟩:=Zqt hl hQ hf t (j+1) i cs Y (by omega) (by omega) (by omega) hc hd1 hry hqy
   simp only [Bool.not_true,Bool.false_eq_true,if_false]
   refine ⟨X',cs',(ZA ?_).trans e,r',hc',ht',ly.stepq.trans s'⟩
   rw [ZJ]
   unfold Z3.l1
   rw [Za hlen,Za Zk,Zb,if_pos (by simpa using hlt),Za x1,Za x2,Za x3,Za ZF]
   refine (ZS (vs:=[v,f,iv i,iv j]) (H':=Y) ?_).trans ?_
   ·rw [Zb,if_neg (by simp)];rfl
   ·rw [ZJ,Za ZB,Qi (by omega)];rfl
theorem Zsg (hr : Zw H v (l.map strv) q) (hl : l.length≤1000000) (hQ : ∀ X X',Q X→Zx q X q X'→Q X') (hf : ∀ X,Q X→∀ s∈l,∃ X',Jr (R n) f [strv s] X=some (.bool (p s),X')∧HLe X X') (hf1 : ∀ X,Q X→∀ s∈l,∃ X',Jr (R (n+1)) f [strv s] X=some (.bool (p s),X')∧HLe X X') (h0 : Q H) :
  ∃ H' v',R (n+2) Jb [v,f] H=some (v',H')∧Zw H' v' ((l.filter fun s=>!p s).map strv) q∧Zx q H q H':=by
 obtain ⟨Y,e1,ly⟩:=ZxW hr hl (fun X X' hq hx=>hQ X X' hq hx.stepq) hf h0
 have e1 : run Tryz.prog np lvs (n+1) Yi [v,f] H=_:=e1
 have hry:=hr.step ly.step (by simp)
 have hqy:=hQ _ _ h0 (ly.stepq (q:=q))
 have hfi:=ZjM (p:=p) (l:=l)
 have hrun : R (n+2) Jb [v,f] H=Z3 (R (n+1)) v f H:=by rw [R,ZdT rfl]
 rw [hrun]
 unfold Z3
 cases h : l.findIdx? p with
 | none=>
  rw [h] at e1 hfi
  refine ⟨Y,v,?_,by rw [hfi];exact hry,ly.stepq⟩
  rw [Za e1,Za ZD,Zb,if_pos (by simp)]
  rfl
 | some i=>
  rw [h] at e1 hfi
  simp only at e1 hfi
  obtain ⟨X',cs',e2,r2,hc2,ht2,s2⟩:=Zqt (n:=n+1) hl hQ hf1 (l.length - (i+1)) (i+1) i l Y rfl (by omega) (by omega) rfl rfl hry hqy
  have hle : ((l.drop (i+1)).filter fun s=>!p s).length≤l.length - (i+1):=by
   have:=List.length_filter_le (fun s=>!p s) (l.drop (i+1))
   simpa using this
  obtain ⟨a,X2,v',a1,a2,a3,a4,a5⟩:=ZxC r2 (i:=i+((l.drop (i+1)).filter fun s=>!p s).length) (by omega)
  refine ⟨X2,v',?_,by rw [hfi.1,← ht2];exact a4,(ly.stepq.trans s2).trans a5⟩
  rw [Za e1,Za ZD,Zb,if_neg (by simp),Za ZB,Qi (by omega),Z5 e2,ZG,Qf,Za a1,Za a2,Za a3]
  rfl
end
abbrev Tx:=List UInt8
def Asc (l : List Tx) : Prop:=l.Pairwise (· < ·)
theorem Zlm {a : Tx} : ¬ a < a:=List.lt_irrefl a
theorem Zqa : ∀ {l l' : List Tx},Asc l→Asc l'→(∀ x,x∈l↔x∈l')→l=l'
 | [],[],_,_,_=>rfl
 | [],b :: l',_,_,h=>by have:=(h b).2 (by simp);cases this
 | a :: l,[],_,_,h=>by have:=(h a).1 (by simp);cases this
 | a :: l,b :: l',h1,h2,h=>by
  obtain ⟨a1,a2⟩:=List.pairwise_cons.1 h1
  obtain ⟨b1,b2⟩:=List.pairwise_cons.1 h2
  have hab : a=b:=by
   rcases List.mem_cons.1 ((h a).1 (by simp)) with e | e
   ·exact e
   ·rcases List.mem_cons.1 ((h b).2 (by simp)) with e' | e'
    ·exact e'.symm
    ·exact absurd (List.lt_trans (b1 a e) (a1 b e')) Zlm
  subst hab
  congr 1
  refine Zqa a2 b2 fun x=>⟨fun hx=>?_,fun hx=>?_⟩
  ·rcases List.mem_cons.1 ((h x).1 (List.mem_cons_of_mem _ hx)) with e | e
   ·subst e;exact absurd (a1 _ hx) Zlm
   ·exact e
  ·rcases List.mem_cons.1 ((h x).2 (List.mem_cons_of_mem _ hx)) with e | e
   ·subst e;exact absurd (b1 _ hx) Zlm
   ·exact e
theorem Zee {l : List Tx} (hn : l.Nodup) : Asc (Z4 l):=by
 have h1 : (Z4 l).Pairwise (fun a b=>leB a b=true):=List.pairwise_mergeSort (fun a b c h h'=>by
  simp only [leB,decide_eq_true_eq] at *
  exact List.le_trans h h') (fun a b=>by
  simp only [leB,Bool.or_eq_true,decide_eq_true_eq]
  exact List.le_total a b) l
 have h2 : (Z4 l).Nodup:=((List.mergeSort_perm l _).nodup_iff).2 hn
 unfold Asc
 have h3:=h1.and h2
 refine h3.imp fun {a b} h=>?_
 obtain ⟨h4,h5⟩:=h
 simp only [leB,decide_eq_true_eq] at h4
 exact Decidable.byContradiction fun h6=>h5 (List.le_antisymm h4 (List.not_lt.1 h6))
theorem KX {l : List Tx} {x : Tx} : x∈Z4 l↔x∈l:=List.mem_mergeSort
structure Is (l : List Tx) (p : Tx→Prop) : Prop where
 asc : Asc l
 mem : ∀ x,x∈l↔p x
theorem Is.uniq {l l' : List Tx} {p p' : Tx→Prop} (h : Is l p) (h' : Is l' p') (hp : ∀ x,p x↔p' x) : l=l':=Zqa h.asc h'.asc fun x=>(h.mem x).trans ((hp x).trans (h'.mem x).symm)
theorem Is.nil {l : List Tx} {p : Tx→Prop} (h : Is l p) : l=[]↔∀ x,¬ p x:=by
 constructor
 ·rintro rfl x hx;have:=(h.mem x).2 hx;cases this
 ·intro hx;exact List.eq_nil_iff_forall_not_mem.2 fun x hm=>hx x ((h.mem x).1 hm)
theorem Asc.nodup {l : List Tx} (h : Asc l) : l.Nodup:=h.imp fun {a b} hab e=>by subst e;exact Zlm hab
theorem Asc.filter {l : List Tx} (h : Asc l) (p : Tx→Bool) : Asc (l.filter p):=List.Pairwise.filter p h
end Go.Proofs.YtedkoimihknggaaGreatDoor.A
namespace Go.Proofs.YtedkoimihknggaaGreatDoor.A
set_option linter.unusedVariables false
set_option linter.unusedSimpArgs false
open Go.Proofs Go.Proofs.YtedkoimihknggaaGreatDoor
abbrev ZqG (s : Nat) : Value:=.map (some s)
abbrev ZpU (_ : Unit) : Value:=.agg #[]
abbrev Zc4:=List (Tx × Nat)
abbrev ZzE:=List (Tx × Unit)
abbrev Mem:=Tx→Tx→Bool
abbrev Q5 (o : Nat) (G : Zc4) : List Nat:=o :: G.map (·.2)
abbrev ZO (G : Zc4) : List Tx:=G.map (·.1)
structure Grp (X : Zd) (g o : Nat) (G : Zc4) (mem : Mem) (c : Nat) : Prop where
 cell : X[g]?=some (.cells [.map (some o)] 1 false false)
 mo : J8 ZqG X o G
 ms : ∀ p∈G,∃ S : ZzE,J8 ZpU X p.2 S∧(∀ n,(Ze n S).isSome=mem p.1 n)∧S.length≤c∧∀ q∈S,Zo q.1=true
 out : ∀ k n,mem k n=true→(Ze k G).isSome=true
 nod : (Q5 o G).Nodup
 ok : ∀ p∈G,Zo p.1=true
 few : G.length≤6
theorem Zjf {α : Type} {k : Tx} : ∀ {m : List (Tx × α)},(Ze k m).isSome=decide (k∈m.map (·.1))
 | []=>rfl
 | p :: m=>by
  simp only [Ze,List.map_cons,List.mem_cons]
  by_cases h : p.1=k
  ·rw [if_pos h];simp [h]
  ·rw [if_neg h,Zjf]
   have : k≠p.1:=Ne.symm h
   simp [this]
section
variable {X X' : Zd} {n g o c c' : Nat} {G : Zc4} {mem mem' : Mem} {k m s t : Tx}
theorem Grp.isMap (h : Grp X g o G mem c) {j : Nat} (hj : j∈Q5 o G) : j < X.length∧∀ cs es gr ro,X[j]?≠some (.cells cs es gr ro):=by
 have key : ∀ {α : Type} {enc : α→Value} {id : Nat} {mm : List (Tx × α)},J8 enc X id mm→id < X.length∧∀ cs es gr ro,X[id]?≠some (.cells cs es gr ro):=fun hm=>⟨hm.lt,fun cs es gr ro e=>by
  obtain ⟨es',_,h1 | h1⟩:=hm.ex
  ·obtain ⟨clk,h1,_⟩:=h1;rw [e] at h1;cases h1
  ·rw [e] at h1;cases h1⟩
 rcases List.mem_cons.1 hj with rfl | hj
 ·exact key h.mo
 ·obtain ⟨p,hp,rfl⟩:=List.mem_map.1 hj
  obtain ⟨S,hS,_⟩:=h.ms p hp
  exact key hS
theorem Grp.gnot (h : Grp X g o G mem c) : g∉Q5 o G:=fun hj=>(h.isMap hj).2 _ _ _ _ h.cell
theorem Grp.glt (h : Grp X g o G mem c) : g < X.length:=Ql h.cell
theorem Grp.step {o1 o2 : List Nat} (h : Grp X g o G mem c) (hs : Zx o1 X o2 X') (hg : g∉o1) (ho : ∀ j∈Q5 o G,j∉o1) : Grp X' g o G mem c:=
 ⟨hs.get h.cell hg,h.mo.step hs (ho o (by simp)),fun p hp=>by
  obtain ⟨S,h1,h2⟩:=h.ms p hp
  exact ⟨S,h1.step hs (ho p.2 (List.mem_cons_of_mem _ (List.mem_map.2 ⟨p,hp,rfl⟩))),h2⟩,h.out,h.nod,h.ok,h.few⟩
theorem Grp.hle (h : Grp X g o G mem c) (hl : HLe X X') : Grp X' g o G mem c:=h.step hl.step (by simp) (by simp)
theorem Grp.more (h : Grp X g o G mem c) (hc : c≤c') (hm : ∀ k n,mem' k n=mem k n) : Grp X g o G mem' c':=
 ⟨h.cell,h.mo,fun p hp=>by
  obtain ⟨S,h1,h2,h3,h4⟩:=h.ms p hp
  exact ⟨S,h1,fun n=>(h2 n).trans (hm _ _).symm,Nat.le_trans h3 hc,h4⟩,fun k n hk=>h.out k n (by rw [← hm];exact hk),h.nod,h.ok,h.few⟩
theorem Grp.ldo (h : Grp X g o G mem c) : ld1 (pt g) X=some (.map (some o),X):=ZjD h.cell
theorem Grp.upd (h : Grp X g o G mem c) {id : Nat} {S' : ZzE} (hk : Ze k G=some id) (hm : J8 ZpU X' id S') (hs : Zx [id] X [id] X') (hn : ∀ q∈S',Zo q.1=true) (hc : S'.length≤c') (hcc : c≤c')
  (hmem : ∀ k' n,mem' k' n=if k'=k then (Ze n S').isSome else mem k' n) : Grp X' g o G mem' c':=by
 have hpm:=Wk hk
 have hnod:=h.nod
 simp only [List.nodup_cons] at hnod
 have hidm : id∈G.map (·.2):=List.mem_map.2 ⟨_,hpm,rfl⟩
 have hido : o≠id:=fun e=>hnod.1 (e ▸ hidm)
 have hidg : g≠id:=fun e=>h.gnot (e ▸ List.mem_cons_of_mem _ hidm)
 refine ⟨hs.get h.cell (by simpa using hidg),h.mo.step hs (by simpa using hido),fun p hp=>?_,fun k' n hk'=>?_,h.nod,h.ok,h.few⟩
 ·by_cases hpid : p.2=id
  ·have hpk : p.1=k:=by
    have h1 : Ze p.1 G=some p.2:=ZdJ h.mo.nod hp
    have hinj : ∀ (G : Zc4),(G.map (·.2)).Nodup→p∈G→(k,id)∈G→p=(k,id):=by
     intro G hG h1 h2
     induction G with
     | nil=>cases h1
     | cons a G ih=>
      simp only [List.map_cons,List.nodup_cons,List.mem_map,not_exists,not_and] at hG
      rcases List.mem_cons.1 h1 with e1 | e1
      ·rcases List.mem_cons.1 h2 with e2 | e2
       ·rw [e1,e2]
       ·exact absurd (by rw [← e1];exact hpid.symm) (hG.1 _ e2)
      ·rcases List.mem_cons.1 h2 with e2 | e2
       ·exact absurd (by rw [← e2];exact hpid) (hG.1 _ e1)
       ·exact ih hG.2 e1 e2
    rw [hinj G hnod.2 hp hpm]
   exact ⟨S',by rw [hpid];exact hm,fun n=>by rw [hmem,if_pos hpk],hc,hn⟩
  ·obtain ⟨S,h1,h2,h3,h4⟩:=h.ms p hp
   have hpk : p.1≠k:=fun e=>hpid (by
    have h5 : Ze p.1 G=some p.2:=ZdJ h.mo.nod hp
    rw [e,hk] at h5;exact (Option.some.inj h5).symm)
   exact ⟨S,h1.step hs (by simpa using hpid),fun n=>by rw [hmem,if_neg hpk];exact h2 n,Nat.le_trans h3 hcc,h4⟩
 ·rw [hmem] at hk'
  by_cases e : k'=k
  ·rw [e,hk];rfl
  ·rw [if_neg e] at hk';exact h.out k' n hk'
theorem Grp.step1 (h : Grp X g o G mem c) {id : Nat} (hk : Ze k G=some id) (hs : Zx [id] X [id] X') : Zx (Q5 o G) X (Q5 o G) X':=
 hs.more (fun j hj=>by
  have hj : j=id:=by simpa using hj
  subst hj
  exact List.mem_cons_of_mem _ (List.mem_map.2 ⟨_,Wk hk,rfl⟩)) (fun j hj=>.inl hj)
theorem Grp.set (h : Grp X g o G mem c) {id : Nat} (hk : Ze k G=some id) : ∃ S : ZzE,J8 ZpU X id S∧(∀ n,(Ze n S).isSome=mem k n)∧S.length≤c∧∀ q∈S,Zo q.1=true:=h.ms _ (Wk hk)
theorem Grp.key (h : Grp X g o G mem c) : (Ze k G).isSome=decide (k∈ZO G):=Zjf
theorem Zro {v : Value} {l : List Tx} (hl : l.length≤1000) (hs : Sl X v (l.map strv)) : ∀ (t j : Nat),l.length - j=t→j≤l.length→
  Zi (c3 (Wh.l1 (R (n+5)))) [v,iv l.length,iv j] X=some (if (l.drop j).all Zo then .ext 0 [] else .ret (iv 10),X)
 | 0,j,ht,hj=>by
  rw [List.drop_eq_nil_of_le (by omega)]
  refine ZN ?_
  rw [ZU,show j=l.length by omega]
  unfold Wh.l1
  rw [Za Zk,Zb,if_neg (by simp)]
  rfl
 | t+1,j,ht,hj=>by
  have hkl : j < l.length:=by omega
  have hlt : (j : Int) < l.length:=by omega
  have hg:=List.getElem?_eq_getElem hkl
  have hd:=List.drop_eq_getElem_cons hkl
  generalize l[j]=x at hg hd
  have x1:=hs.ix (i:=j) (by simpa using hkl) .i64 X
  have x2:=hs.ldx (Yt hg)
  have x3 : R (n+5) Q9 [strv x] X=some (iv (ZV x),X):=Zej
  rw [hd,List.all_cons]
  cases hx : Zo x
  ·refine QR ?_
   rw [ZU]
   unfold Wh.l1
   rw [Za Zk,Zb,if_pos (by simpa using hlt),Za x1,Za x2,Za x3,show ZV x=10 by unfold ZV;rw [hx];rfl,Za Zq,Zb,if_pos (by simp)]
   rfl
  ·refine (ZA ?_).trans (Zro hl hs t (j+1) (by omega) (by omega))
   rw [ZU]
   unfold Wh.l1
   rw [Za Zk,Zb,if_pos (by simpa using hlt),Za x1,Za x2,Za x3,show ZV x=0 by unfold ZV;rw [hx];rfl,Za Zq,Zb,if_neg (by simp),Za ZB,Qi (by omega)]
   rfl
def Zd8 (l : List Tx) : Int:=if l.all Zo then 0 else 10
theorem Zue {v : Value} {l : List Tx} (hl : l.length≤1000) (hs : Sl X v (l.map strv)) : R (n+6) Za0 [v] X=some (iv (Zd8 l),X):=by
 have e:=Zro (n:=n) hl hs l.length 0 (by omega) (by omega)
 rw [show iv ((0 : Nat) : Int)=.int .i64 0 from rfl,List.drop_zero] at e
 have hlen : Zy v X=some (iv l.length,X):=by have:=hs.len (H':=X);simpa using this
 rw [R,Zq4 rfl]
 unfold Wh Zd8
 rw [Za hlen]
 by_cases h : l.all Zo=true
 ·rw [if_pos h] at e ⊢
  rw [Z5 e,ZG];rfl
 ·rw [if_neg h] at e ⊢
  rw [Yh e];rfl
def QS (k : Tx) (ms : List Tx) (K : List Tx) : Int:=if (k :: ms).all Zo then (if k∈K then 0 else 8) else 10
theorem Zv2 (h : Grp X g o G mem c) {mv : Value} {ms : List Tx} (hml : ms.length≤5)
  (hrow : ∃ w X1 v X2,bsl 1 1 (.string ⟨#[]⟩) [(0,1,strv k)] X=some (w,X1)∧app 1 16 w mv X1=some (v,X2)∧Sl X2 v ((k :: ms).map strv)∧HLe X X2) :
  ∃ X',R (n+7) Yo [pt g,strv k,mv] X=some (.tuple #[.map (if QS k ms (ZO G)=0 then Ze k G else none),iv (QS k ms (ZO G))],X')∧HLe X X':=by
 obtain ⟨w,X1,v,X2,e1,e2,s2,l2⟩:=hrow
 have e3 : R (n+6) Za0 [v] X2=_:=Zue (n:=n) (l:=k :: ms) (by simp;omega) s2
 have h2:=h.hle l2
 refine ⟨X2,?_,l2⟩
 rw [R,Zkl rfl]
 unfold Zdx QS
 rw [Za e1,Za e2,Za e3]
 unfold Zd8
 by_cases hn : (k :: ms).all Zo=true
 ·rw [if_pos hn,if_pos hn]
  have e4:=h2.mo.lkp (k:=k) (z:=.map none) (ok:=true)
  have hkey:=h2.key (k:=k)
  rw [Za Zq,Zb,if_neg (by simp),Za Zu,Za Zg,Za h2.ldo]
  cases hk : Ze k G with
  | none=>
   rw [hk] at e4 hkey
   have hnk : ¬ k∈ZO G:=by simpa using hkey.symm
   rw [if_neg hnk,if_neg (by decide)]
   simp only [cond_true] at e4
   rw [Za e4,Za Zt,Za Zs,Za ZF,Zb,if_pos (by rfl)]
   rfl
  | some id=>
   rw [hk] at e4 hkey
   have hnk : k∈ZO G:=by simpa using hkey.symm
   rw [if_pos hnk,if_pos rfl]
   simp only [cond_true] at e4
   rw [Za e4,Za Zt,Za Zs,Za ZF,Zb,if_neg (by simp)]
   rfl
 ·rw [if_neg hn,if_neg hn,Za Zq,Zb,if_pos (by rfl)]
  rfl
theorem ZqE {x : Tx} {H : Zd} : bsl 1 1 (.string ⟨#[]⟩) [(0,1,strv x)] H=some (.slice (some ⟨H.length,0,none⟩) 1 1,H++[.cells [strv x] 1 false false]):=ZwW rfl rfl rfl
theorem Zi1 {x : Tx} {H : Zd} : Zw (H++[.cells [strv x] 1 false false]) (.slice (some ⟨H.length,0,none⟩) 1 1) ([x].map strv) [H.length]:=.inr ⟨H.length,[],false,rfl,rfl,by rw [ZC];rfl⟩
theorem ZAx {b : Nat} {sl : Value} {vs : List Value} {q : List Nat} (h : Zw X sl vs q) : app 1 b sl (.slice none 0 0) X=some (sl,X):=by
 rcases h with ⟨rfl,rfl,rfl⟩ | ⟨sid,rest,gr,rfl,rfl,hid⟩
 ·rfl
 ·unfold app
  simp only [QD,flen,hid,Nat.add_zero,Nat.le_add_right,if_true]
theorem ZtZ (h : Grp X g o G mem c) : ∃ X',R (n+7) Yo [pt g,strv k,.slice none 0 0] X=some (.tuple #[.map (if QS k [] (ZO G)=0 then Ze k G else none),iv (QS k [] (ZO G))],X')∧HLe X X':=
 Zv2 h (by simp) ⟨_,_,_,_,ZqE,ZAx Zi1,Zi1.rd,.app _ _⟩
theorem ZtK (h : Grp X g o G mem c) {mv : Value} (hm : Sl X mv [strv m]) : ∃ X',R (n+7) Yo [pt g,strv k,mv] X=some (.tuple #[.map (if QS k [m] (ZO G)=0 then Ze k G else none),iv (QS k [m] (ZO G))],X')∧HLe X X':=by
 have l1 : HLe X (X++[.cells [strv k] 1 false false]):=.app _ _
 obtain ⟨v,X2,q,e2,r2,s2,_⟩:=(Zi1 (x:=k) (H:=X)).push (b:=16) (hm.mono l1) (by simp) (by simp)
 have l2:=(l1.more s2 (by simp)).1
 exact Zv2 h (by simp) ⟨_,_,_,_,ZqE,e2,r2.rd,l2⟩
theorem ZBx : ∃ X' g o,R (n+1) ZgN [] X=some (pt g,X')∧Grp X' g o [] (fun _ _=>false) 0∧HLe X X'∧X.length≤g∧X.length≤o:=by
 obtain ⟨H1,e1,g1,l1⟩:=ZwC (α:=Nat) (enc:=ZqG) X
 have e2 : bld (.agg #[.map none]) [(0,1,.map (some X.length))] H1=some (.agg #[.map (some X.length)],H1):=by simp [↓Z9,Qa,↓QG,Qn,Qq,Qo,↓Zb,Ye,Zu,YM,Qx,JG,QA,JH,JF,QT,JR,QU,Q0,Q8,Q4,QH,Zn,ZF,Y9,YN,Jq,Jc,Yd,ZB,Q1,J0,Yg,J2,ZD,Zq,Zk,Ja,Qk,Qm,Jy,JS,JU,Yc,↓Kj,Yf,↓g_r,Kh,Ks,W9,splice,Value.cells]
 have e3 : alc 1 (.agg #[.map (some X.length)]) H1=some (pt H1.length,H1++[.cells [.map (some X.length)] 1 false false]):=by
  rw [Q0];simp [Value.cells,oneCell]
 refine ⟨H1++[.cells [.map (some X.length)] 1 false false],H1.length,X.length,?_,⟨ZC,g1.hle (.app _ _),by simp,by simp,by simp,by simp,by simp⟩,l1.trans (.app _ _),l1.len,Nat.le_refl _⟩
 rw [R,Zt9 rfl]
 unfold Zjp
 rw [Za e1,Za e2,Za e3]
 rfl
def Qz (k : Tx) (K : List Tx) : Int:=if Zo k then (if k∈K then 9 else if 6≤K.length then 7 else 0) else 10
def Zcf (k : Tx) (K : List Tx) : List Tx:=if Qz k K=0 then K++[k] else K
theorem ZvE (h : Grp X g o G mem c) : ∃ X' G',R (n+8) Yk [pt g,strv k] X=some (iv (Qz k (ZO G)),X')∧Grp X' g o G' mem c∧ZO G'=Zcf k (ZO G)∧Zx (Q5 o G) X (Q5 o G') X':=by
 obtain ⟨X1,e1,l1⟩:=ZtZ (n:=n) (k:=k) h
 have h1:=h.hle l1
 have f1 : ∀ r X',YI (R (n+7)) (pt g) (strv k) X=some (r,X')→R (n+8) Yk [pt g,strv k] X=some (r,X'):=fun r X' hr=>by rw [R,Zkj rfl];exact hr
 have same : ∀ e,Qz k (ZO G)=e→e≠0→(YI (R (n+7)) (pt g) (strv k) X=some (iv e,X1))→∃ X' G',R (n+8) Yk [pt g,strv k] X=some (iv (Qz k (ZO G)),X')∧Grp X' g o G' mem c∧ZO G'=Zcf k (ZO G)∧Zx (Q5 o G) X (Q5 o G') X':=fun e he hne hr=>by
  refine ⟨X1,G,by rw [he];exact f1 _ _ hr,h1,?_,l1.stepq⟩
  unfold Zcf;rw [if_neg (by rw [he];exact hne)]
 cases hn : Zo k
 ·have hE : Qz k (ZO G)=10:=by unfold Qz;rw [hn];rfl
  have hF : QS k [] (ZO G)=10:=by unfold QS;simp [hn]
  rw [hF] at e1
  refine same _ hE (by decide) ?_
  unfold YI
  rw [Za e1,Za Zt,Za Zs,Za ZD,Zb,if_neg (by decide),Za Zq,Zb,if_pos (by decide)]
  rfl
 ·by_cases hk : k∈ZO G
  ·have hE : Qz k (ZO G)=9:=by unfold Qz;rw [hn,if_pos rfl,if_pos hk]
   have hF : QS k [] (ZO G)=0:=by unfold QS;simp [hn,hk]
   rw [hF] at e1
   refine same _ hE (by decide) ?_
   unfold YI
   rw [Za e1,Za Zt,Za Zs,Za ZD,Zb,if_pos (by decide)]
   rfl
  ·have hF : QS k [] (ZO G)=8:=by unfold QS;simp [hn,hk]
   rw [hF] at e1
   have hkl : (ZO G).length=G.length:=by simp
   by_cases hl : 6≤(ZO G).length
   ·have hE : Qz k (ZO G)=7:=by unfold Qz;rw [hn,if_pos rfl,if_neg hk,if_pos hl]
    refine same _ hE (by decide) ?_
    unfold YI
    rw [Za e1,Za Zt,Za Zs,Za ZD,Zb,if_neg (by decide),Za Zq,Zb,if_neg (by decide),Za Zu,Za Zg,Za h1.ldo,Za h1.mo.len,Za Qm,Zb,if_pos (by simp;omega)]
    rfl
   ·have hE : Qz k (ZO G)=0:=by unfold Qz;rw [hn,if_pos rfl,if_neg hk,if_neg hl]
    obtain ⟨X2,e2,m2,l2⟩:=ZwC (α:=Unit) (enc:=ZpU) X1
    have h2:=h1.hle l2
    have hkn : Ze k G=none:=by
     have:=h.key (k:=k)
     cases ha : Ze k G with
     | none=>rfl
     | some v=>rw [ha] at this;exact absurd (by simpa using this.symm) hk
    obtain ⟨X3,e3,m3,s3,len3⟩:=h2.mo.mup (k:=k) (v:=X1.length)
    have ha : Qr k X1.length G=G++[(k,X1.length)]:=by unfold Qr;rw [hkn];rfl
    rw [ha] at m3
    have hlt : ∀ j∈Q5 o G,j < X1.length:=fun j hj=>(h1.isMap hj).1
    refine ⟨X3,G++[(k,X1.length)],?_,?_,?_,?_⟩
    ·rw [hE]
     refine f1 _ _ ?_
     unfold YI
     rw [Za e1,Za Zt,Za Zs,Za ZD,Zb,if_neg (by decide),Za Zq,Zb,if_neg (by decide),Za Zu,Za Zg,Za h1.ldo,Za h1.mo.len,Za Qm,Zb,if_neg (by simp;omega),Za Zu,Za Zg,Za h1.ldo,Za e2,Za e3]
     rfl
    ·have hgo : g≠o:=fun e=>h.gnot (by rw [e];simp)
     have hoid : ∀ p∈G,p.2≠o:=fun p hp e=>by
      have:=h.nod
      simp only [List.nodup_cons] at this
      exact this.1 (List.mem_map.2 ⟨p,hp,e⟩)
     refine ⟨s3.get h2.cell (by simpa using hgo),m3,fun p hp=>?_,fun k' n' hk'=>?_,?_,fun p hp=>?_,by simp;omega⟩
     ·rcases List.mem_append.1 hp with hp | hp
      ·obtain ⟨S,h5,h6⟩:=h2.ms p hp
       exact ⟨S,h5.step s3 (by simpa using hoid p hp),h6⟩
      ·have : p=(k,X1.length):=by simpa using hp
       subst this
       refine ⟨[],m2.step s3 (by have:=hlt o (by simp);simp;omega),fun n'=>?_,Nat.zero_le _,by simp⟩
       cases hb : mem k n' with
       | false=>rfl
       | true=>have:=h.out k n' hb;rw [hkn] at this;cases this
     ·rw [ZfF]
      have:=h.out k' n' hk'
      cases hg : Ze k' G with
      | none=>rw [hg] at this;cases this
      | some v=>rfl
     ·have : Q5 o (G++[(k,X1.length)])=Q5 o G++[X1.length]:=by simp
      rw [this,List.nodup_append]
      refine ⟨h.nod,by simp,fun a ha b hb e=>?_⟩
      have:=hlt a ha
      have hb : b=X1.length:=by simpa using hb
      omega
     ·rcases List.mem_append.1 hp with hp | hp
      ·exact h.ok p hp
      ·have : p=(k,X1.length):=by simpa using hp
       subst this;exact hn
    ·unfold Zcf;rw [if_pos hE];simp
    ·have s:=(l1.trans l2).stepq (q:=Q5 o G)
     have s:=s.trans (s3.more (o2:=Q5 o G) (o2':=Q5 o G) (by simp) (fun j hj=>.inl hj))
     refine ⟨s.len,s.keep,fun j hj=>?_⟩
     ·have : Q5 o (G++[(k,X1.length)])=Q5 o G++[X1.length]:=by simp
      rw [this] at hj
      rcases List.mem_append.1 hj with hj | hj
      ·exact .inl hj
      ·have hj : j=X1.length:=by simpa using hj
       exact .inr (by rw [hj];exact l1.len)
def QP (k : Tx) (K : List Tx) : Int:=if Zo k then (if k∈K then 0 else 8) else 10
def ZbL (k : Tx) (K : List Tx) : List Tx:=if QP k K=0 then K.filter (fun x=>decide (x≠k)) else K
def ZaD (k : Tx) (mem : Mem) : Mem:=fun k' n=>mem k' n && !(k'==k)
theorem ZnH {k : Tx} {K : List Tx} : QS k [] K=QP k K:=by unfold QS QP;simp
theorem ZAf (h : Grp X g o G mem c) : ∃ X' G',R (n+8) Wp [pt g,strv k] X=some (iv (QP k (ZO G)),X')∧Grp X' g o G' (if QP k (ZO G)=0 then ZaD k mem else mem) c∧ZO G'=ZbL k (ZO G)∧Zx (Q5 o G) X (Q5 o G') X':=by
 obtain ⟨X1,e1,l1⟩:=ZtZ (n:=n) (k:=k) h
 rw [ZnH] at e1
 have h1:=h.hle l1
 have f1 : ∀ r X',Zab (R (n+7)) (pt g) (strv k) X=some (r,X')→R (n+8) Wp [pt g,strv k] X=some (r,X'):=fun r X' hr=>by rw [R,Zj9 rfl];exact hr
 by_cases hE : QP k (ZO G)=0
 ·rw [hE] at e1 ⊢
  obtain ⟨X2,e2,m2,s2,_⟩:=h1.mo.mde (k:=k)
  have hgo : g≠o:=fun e=>h.gnot (by rw [e];simp)
  have hoid : ∀ p∈G,p.2≠o:=fun p hp e=>by
   have:=h.nod
   simp only [List.nodup_cons] at this
   exact this.1 (List.mem_map.2 ⟨p,hp,e⟩)
  have hsub : (JY k G).Sublist G:=List.filter_sublist
  refine ⟨X2,JY k G,f1 _ _ ?_,?_,?_,?_⟩
  ·unfold Zab
   rw [Za e1,Za Zt,Za Zs,Za ZD]
   refine (ZS (vs:=[iv 0]) (H':=X2) ?_).trans ?_
   ·rw [Zb,if_pos (by rfl),Za Zu,Za Zg,Za h1.ldo,Za e2];rfl
   ·rfl
  ·rw [if_pos rfl]
   refine ⟨s2.get h1.cell (by simpa using hgo),m2,fun p hp=>?_,fun k' n' hk'=>?_,?_,fun p hp=>h.ok p (hsub.subset hp),Nat.le_trans hsub.length_le h.few⟩
   ·obtain ⟨S,h5,h6,h7⟩:=h1.ms p (hsub.subset hp)
    have hpk : p.1≠k:=by simpa [JY] using (List.mem_filter.1 hp).2
    refine ⟨S,h5.step s2 (by simpa using hoid p (hsub.subset hp)),fun n'=>?_,h7⟩
    rw [h6];unfold ZaD;simp [hpk]
   ·unfold ZaD at hk'
    simp only [Bool.and_eq_true,Bool.not_eq_true',beq_eq_false_iff_ne] at hk'
    rw [Q6 hk'.2];exact h.out k' n' hk'.1
   ·exact ((hsub.map (·.2)).cons_cons o).nodup h.nod
  ·unfold ZbL;rw [if_pos hE]
   unfold JY ZO
   rw [List.filter_map];rfl
  ·have s:=l1.stepq (q:=Q5 o G)
   have s:=s.trans (s2.more (o2:=Q5 o G) (o2':=Q5 o G) (by simp) (fun j hj=>.inl hj))
   refine ⟨s.len,s.keep,fun j hj=>.inl ?_⟩
   exact ((hsub.map (·.2)).cons_cons o).subset hj
 ·refine ⟨X1,G,f1 _ _ ?_,by rw [if_neg hE];exact h1,by unfold ZbL;rw [if_neg hE],l1.stepq⟩
  unfold Zab
  rw [Za e1,Za Zt,Za Zs,Za ZD]
  refine (ZS (vs:=[iv (QP k (ZO G))]) (H':=X1) ?_).trans ?_
  ·rw [Zb,if_neg (by simpa using hE)];rfl
  ·rfl
end
end Go.Proofs.YtedkoimihknggaaGreatDoor.A
namespace Go.Proofs.YtedkoimihknggaaGreatDoor.A
set_option linter.unusedVariables false
set_option linter.unusedSimpArgs false
open Go.Proofs Go.Proofs.YtedkoimihknggaaGreatDoor
theorem ZiP {α : Type} {k : Tx} {v : α} {m : List (Tx × α)} {q : Tx × α} (h : q∈Qr k v m) : q=(k,v)∨q∈m:=by
 unfold Qr at h
 split at h
 ·obtain ⟨p,hp,rfl⟩:=List.mem_map.1 h
  by_cases e : p.1=k
  ·rw [if_pos e];exact .inl rfl
  ·rw [if_neg e];exact .inr hp
 ·rcases List.mem_append.1 h with h | h
  ·exact .inr h
  ·exact .inl (by simpa using h)
section
variable {X X' : Zd} {n g o c c' : Nat} {G : Zc4} {mem mem' : Mem} {k m s t : Tx}
def W0 (k m : Tx) (K : List Tx) (mem : Mem) : Int:=if QS k [m] K=0 then (if mem k m then 9 else 0) else QS k [m] K
def Zbz (k m : Tx) (K : List Tx) (mem : Mem) : Int:=if QS k [m] K=0 then (if mem k m then 0 else 12) else QS k [m] K
def ZaU (k m : Tx) (mem : Mem) : Mem:=fun k' n=>mem k' n || (k'==k && n==m)
def Zb1 (k m : Tx) (mem : Mem) : Mem:=fun k' n=>mem k' n && !(k'==k && n==m)
theorem ZgO {k m : Tx} {K : List Tx} (h : QS k [m] K=0) : Zo k=true∧Zo m=true∧k∈K:=by
 unfold QS at h
 by_cases h1 : (k :: [m]).all Zo=true
 ·rw [if_pos h1] at h
  simp only [List.all_cons,List.all_nil,Bool.and_true,Bool.and_eq_true] at h1
  by_cases h2 : k∈K
  ·exact ⟨h1.1,h1.2,h2⟩
  ·rw [if_neg h2] at h;cases h
 ·rw [if_neg h1] at h;cases h
theorem ZB8 {H : Zd} : bld (.agg #[]) [] H=some (.agg #[],H):=by simp [↓Z9,Qa,↓QG,Qn,Qq,Qo,↓Zb,Ye,Zu,YM,Qx,JG,QA,JH,JF,QT,JR,QU,Q0,Q8,Q4,QH,Zn,ZF,Y9,YN,Jq,Jc,Yd,ZB,Q1,J0,Yg,J2,ZD,Zq,Zk,Ja,Qk,Qm,Jy,JS,JU,Yc,↓Kj,Yf,↓g_r,Kh,Ks,W9,splice,Value.cells]
theorem Grp.has (h : Grp X g o G mem c) (hk : k∈ZO G) : ∃ id,Ze k G=some id:=by
 have:=h.key (k:=k)
 cases ha : Ze k G with
 | none=>rw [ha] at this;exact absurd hk (by simpa using this.symm)
 | some v=>exact ⟨v,rfl⟩
theorem ZvH (h : Grp X g o G mem c) : ∃ X',R (n+8) YJ [pt g,strv k,strv m] X=some (iv (W0 k m (ZO G) mem),X')∧Grp X' g o G (if W0 k m (ZO G) mem=0 then ZaU k m mem else mem) (c+1)∧Zx (Q5 o G) X (Q5 o G) X':=by
 have l0 : HLe X (X++[.cells [strv m] 1 false false]):=.app _ _
 have s0:=(Zi1 (x:=m) (H:=X)).rd
 have e0:=ZqE (x:=m) (H:=X)
 generalize X++[Zf.cells [strv m] 1 false false]=X0 at l0 s0 e0
 obtain ⟨X1,e1,l1⟩:=ZtK (n:=n) (k:=k) (m:=m) (h.hle l0) s0
 have l01:=l0.trans l1
 have h1:=h.hle l01
 have f1 : ∀ r X',Wr (R (n+7)) (pt g) (strv k) (strv m) X=some (r,X')→R (n+8) YJ [pt g,strv k,strv m] X=some (r,X'):=fun r X' hr=>by rw [R,Zj5 rfl];exact hr
 unfold W0
 by_cases hE : QS k [m] (ZO G)=0
 ·rw [hE] at e1 ⊢
  rw [if_pos rfl] at e1 ⊢
  obtain ⟨b1,b2,b3⟩:=ZgO hE
  obtain ⟨id,hid⟩:=h.has b3
  rw [hid] at e1
  obtain ⟨S,m1,m2,m3,m4⟩:=h1.set hid
  have e2:=m1.lkp (k:=m) (z:=.agg #[]) (ok:=true)
  have l2 : HLe X1 (X1++[.cells [] 1 false false]):=.app _ _
  have hbox:=fun {K : Value→M Value}=>Zao (k:=K) (zs:=[]) (r:=[]) (n:=0) (H:=X1) rfl rfl rfl rfl
  have h2:=h1.hle l2
  have m1:=m1.hle l2
  generalize X1++[Zf.cells [] 1 false false]=X2 at hbox l2 h2 m1
  have hmm:=m2 m
  cases hg : Ze m S with
  | some u=>
   rw [hg] at hmm e2
   have hmm : mem k m=true:=hmm.symm
   rw [if_pos hmm,if_neg (by decide)]
   refine ⟨X2,f1 _ _ ?_,h2.more (Nat.le_succ _) (fun _ _=>rfl),(l01.trans l2).stepq⟩
   unfold Wr
   simp only [cond_true] at e2
   rw [Za e0,Za e1,Za Zt,Za Zs,Za Zq,Zb,if_neg (by decide),Za e2,Za Zt,Za Zs]
   refine hbox.trans ?_
   rw [Zb,if_pos rfl]
   rfl
  | none=>
   rw [hg] at hmm e2
   have hmm : mem k m=false:=hmm.symm
   rw [if_neg (by simp [hmm]),if_pos rfl]
   simp only [cond_true] at e2
   obtain ⟨X3,e3,m5,s3,_⟩:=m1.mup (k:=m) (v:=())
   have hlen : (Qr m () S).length≤c+1:=by rw [Zfx,hg];simp;omega
   refine ⟨X3,f1 _ _ ?_,h2.upd hid m5 s3 (fun q hq=>?_) hlen (Nat.le_succ _) (fun k' n'=>?_),(l01.trans l2).stepq.trans (h2.step1 hid s3)⟩
   ·unfold Wr
    rw [Za e0,Za e1,Za Zt,Za Zs,Za Zq,Zb,if_neg (by decide),Za e2,Za Zt,Za Zs]
    refine hbox.trans ?_
    rw [Zb,if_neg (by simp),Za ZB8,Za e3]
    rfl
   ·rcases ZiP hq with rfl | hq
    ·exact b2
    ·exact m4 q hq
   ·unfold ZaU
    by_cases hk : k'=k
    ·subst hk
     rw [if_pos rfl]
     by_cases hn : n'=m
     ·subst hn;rw [Kb];simp
     ·rw [JZ hn,m2];simp [hn]
    ·rw [if_neg hk];simp [hk]
 ·rw [if_neg hE,if_neg hE]
  refine ⟨X1,f1 _ _ ?_,h1.more (Nat.le_succ _) (fun _ _=>rfl),l01.stepq⟩
  unfold Wr
  rw [Za e0,Za e1,Za Zt,Za Zs,Za Zq,Zb,if_pos (by simpa using hE)]
  rfl
theorem ZzI (h : Grp X g o G mem c) : ∃ X',R (n+8) K0 [pt g,strv k,strv m] X=some (iv (Zbz k m (ZO G) mem),X')∧Grp X' g o G (if Zbz k m (ZO G) mem=0 then Zb1 k m mem else mem) (c+1)∧Zx (Q5 o G) X (Q5 o G) X':=by
 have l0 : HLe X (X++[.cells [strv m] 1 false false]):=.app _ _
 have s0:=(Zi1 (x:=m) (H:=X)).rd
 have e0:=ZqE (x:=m) (H:=X)
 generalize X++[Zf.cells [strv m] 1 false false]=X0 at l0 s0 e0
 obtain ⟨X1,e1,l1⟩:=ZtK (n:=n) (k:=k) (m:=m) (h.hle l0) s0
 have l01:=l0.trans l1
 have h1:=h.hle l01
 have f1 : ∀ r X',KV (R (n+7)) (pt g) (strv k) (strv m) X=some (r,X')→R (n+8) K0 [pt g,strv k,strv m] X=some (r,X'):=fun r X' hr=>by rw [R,Zjv rfl];exact hr
 unfold Zbz
 by_cases hE : QS k [m] (ZO G)=0
 ·rw [hE] at e1 ⊢
  rw [if_pos rfl] at e1 ⊢
  obtain ⟨b1,b2,b3⟩:=ZgO hE
  obtain ⟨id,hid⟩:=h.has b3
  rw [hid] at e1
  obtain ⟨S,m1,m2,m3,m4⟩:=h1.set hid
  have e2:=m1.lkp (k:=m) (z:=.agg #[]) (ok:=true)
  have l2 : HLe X1 (X1++[.cells [] 1 false false]):=.app _ _
  have hbox:=fun {K : Value→M Value}=>Zao (k:=K) (zs:=[]) (r:=[]) (n:=0) (H:=X1) rfl rfl rfl rfl
  have h2:=h1.hle l2
  have m1:=m1.hle l2
  generalize X1++[Zf.cells [] 1 false false]=X2 at hbox l2 h2 m1
  have hmm:=m2 m
  cases hg : Ze m S with
  | some u=>
   rw [hg] at hmm e2
   have hmm : mem k m=true:=hmm.symm
   rw [if_pos hmm,if_pos rfl]
   simp only [cond_true] at e2
   obtain ⟨X3,e3,m5,s3,_⟩:=m1.mde (k:=m)
   have hsub : (JY m S).Sublist S:=List.filter_sublist
   refine ⟨X3,f1 _ _ ?_,h2.upd hid m5 s3 (fun q hq=>m4 q (hsub.subset hq)) (Nat.le_trans hsub.length_le (Nat.le_trans m3 (Nat.le_succ _))) (Nat.le_succ _) (fun k' n'=>?_),(l01.trans l2).stepq.trans (h2.step1 hid s3)⟩
   ·unfold KV
    rw [Za e0,Za e1,Za Zt,Za Zs,Za Zq,Zb,if_neg (by decide),Za e2,Za Zt,Za Zs]
    refine hbox.trans ?_
    rw [Za ZF,Zb,if_neg (by simp),Za e3]
    rfl
   ·unfold Zb1
    by_cases hk : k'=k
    ·subst hk
     rw [if_pos rfl]
     by_cases hn : n'=m
     ·subst hn;rw [Wt];simp
     ·rw [Q6 hn,m2];simp [hn]
    ·rw [if_neg hk];simp [hk]
  | none=>
   rw [hg] at hmm e2
   have hmm : mem k m=false:=hmm.symm
   rw [if_neg (by simp [hmm]),if_neg (by decide)]
   refine ⟨X2,f1 _ _ ?_,h2.more (Nat.le_succ _) (fun _ _=>rfl),(l01.trans l2).stepq⟩
   unfold KV
   simp only [cond_true] at e2
   rw [Za e0,Za e1,Za Zt,Za Zs,Za Zq,Zb,if_neg (by decide),Za e2,Za Zt,Za Zs]
   refine hbox.trans ?_
   rw [Za ZF,Zb,if_pos (by rfl)]
   rfl
 ·rw [if_neg hE,if_neg hE]
  refine ⟨X1,f1 _ _ ?_,h1.more (Nat.le_succ _) (fun _ _=>rfl),l01.stepq⟩
  unfold KV
  rw [Za e0,Za e1,Za Zt,Za Zs,Za Zq,Zb,if_pos (by simpa using hE)]
  rfl
theorem Zys (h : Grp X g o G mem c) : ∃ v q X',R (n+3) KS [pt g] X=some (v,X')∧Zw X' v ((Z4 (ZO G)).map strv) q∧HLe X X'∧∀ j∈q,X.length≤j:=by
 have e1 : R (n+1) Ji [.map (some o)] X=some (.func (.func Ys) #[] #[pt X.length],X++[.cells [.map (some o)] 1 false false]):=by
  rw [R,ZbJ rfl]
  unfold Yv
  rw [Za (Zsw rfl rfl _)]
  rfl
 have l1 : HLe X (X++[.cells [.map (some o)] 1 false false]):=.app _ _
 obtain ⟨v,q,X2,e2,r2,l2,o2⟩:=(h.mo.hle l1).keys (gks:=ZlS) (gc:=JW) (gk:=Ys) (c:=X.length) (by decide) ZC (Nat.le_trans h.few (by decide)) (fun p hp=>Nat.le_trans (Zch (h.ok p hp)) (by decide))
 have e2' : R (n+1) Yr [.func (.func Ys) #[] #[pt X.length],.func (.func JW) #[] #[]] (X++[.cells [.map (some o)] 1 false false])=some (v,X2):=by
  rw [R,Zdc (show np Yr=some (ZeU ZlS JW) from rfl)]
  exact e2
 have e3 : R (n+2) W4 [.map (some o)] X=some (v,X2):=by
  rw [R,Zht rfl]
  unfold Zb6
  rw [Za e1,Za e2']
  rfl
 refine ⟨v,q,X2,?_,r2,l1.trans l2,fun j hj=>Nat.le_trans l1.len (o2 j hj)⟩
 rw [R,Zkx rfl]
 unfold ZdU
 rw [Za Zu,Za Zg,Za h.ldo,Za e3]
 rfl
theorem KY {l : List Tx} : (Z4 l).length=l.length:=List.length_mergeSort l
def ofL (m : Tx) (K : List Tx) (mem : Mem) : List Tx:=(Z4 K).filter fun k=>mem k m
theorem Zcq {K : List Tx} (hn : K.Nodup) : Is (ofL m K mem) (fun k=>k∈K∧mem k m=true):=⟨(Zee hn).filter _,fun x=>by unfold ofL;rw [List.mem_filter,KX]⟩
theorem Zfu {K : List Tx} : (ofL m K mem).length≤K.length:=by
 unfold ofL
 have:=List.length_filter_le (fun k=>mem k m) (Z4 K)
 rwa [KY] at this
theorem ZBp {b1 b2 : Nat} (h : Grp X g o G mem c) (h1 : X[b1]?=some (.cells [pt g] 1 false false)) (h2 : X[b2]?=some (.cells [strv m] 1 false false)) (hk : k∈ZO G) :
  ∃ X',R (n+1) KQ [strv k,pt b1,pt b2] X=some (.bool (!mem k m),X')∧HLe X X':=by
 obtain ⟨id,hid⟩:=h.has hk
 obtain ⟨S,m1,m2,m3,m4⟩:=h.set hid
 have e2 : lkp .str (.map none) false (.map (some o)) (strv k) X=some (.map (some id),X):=by rw [h.mo.lkp,hid];rfl
 have e3 : lkp .str (.agg #[]) true (.map (some id)) (strv m) X=some (.tuple #[.agg #[],.bool (mem k m)],X):=by
  rw [m1.lkp,← m2 m]
  cases Ze m S <;> rfl
 have l2 : HLe X (X++[.cells [] 1 false false]):=.app _ _
 have e4 : alc 1 (.agg #[]) X=some (pt X.length,X++[.cells [] 1 false false]):=K4 (vs:=[]) rfl
 have a4 : (X++[Zf.cells [] 1 false false])[X.length]?=some (.cells [] 1 false false):=ZC
 have e5 : stA 0 (pt X.length) (.agg #[]) (X++[Zf.cells [] 1 false false])=some (undef,(X++[Zf.cells [] 1 false false]).set X.length (.cells [] 1 false false)):=KW (vs:=[]) a4 rfl rfl rfl
 rw [ZAn] at e5
 have h':=h.hle l2
 have m1':=m1.hle l2
 have b1':=l2 _ _ h1
 have b2':=l2 _ _ h2
 generalize X++[Zf.cells [] 1 false false]=X2 at l2 e4 e5 h' m1' b1' b2'
 have e2' : lkp .str (.map none) false (.map (some o)) (strv k) X2=some (.map (some id),X2):=by rw [h'.mo.lkp,hid];rfl
 have e3' : lkp .str (.agg #[]) true (.map (some id)) (strv m) X2=some (.tuple #[.agg #[],.bool (mem k m)],X2):=by
  rw [m1'.lkp,← m2 m]
  cases Ze m S <;> rfl
 refine ⟨X2,?_,l2⟩
 rw [R,Zl5 rfl]
 unfold Zd2
 rw [Za (ZjD h1),Za Zu,Za Zg,Za h.ldo,Za e2,Za (ZjD h2),Za e3,Za Zt,Za Zs,Za e4,Za e3',ZZ,Za (ZjD b2'),ZZ,Za e2',ZZ]
 refine (Za h'.ldo).trans ?_
 rw [ZZ,Za (ZjD b1'),ZZ,Za e5,Za ZF]
 rfl
theorem Zsq (h : Grp X g o G mem c) : ∃ v q X',R (n+4) J4 [pt g,strv m] X=some (v,X')∧Zw X' v ((ofL m (ZO G) mem).map strv) q∧HLe X X'∧∀ j∈q,X.length≤j:=by
 have e1:=Zsw (v:=pt g) rfl rfl X
 have l1 : HLe X (X++[Zf.cells [pt g] 1 false false]):=.app _ _
 have c1 : (X++[Zf.cells [pt g] 1 false false])[X.length]?=some (.cells [pt g] 1 false false):=ZC
 generalize X++[Zf.cells [pt g] 1 false false]=X1 at e1 l1 c1
 have e2:=Zsw (v:=strv m) rfl rfl X1
 have l2 : HLe X1 (X1++[Zf.cells [strv m] 1 false false]):=.app _ _
 have c2 : (X1++[Zf.cells [strv m] 1 false false])[X1.length]?=some (.cells [strv m] 1 false false):=ZC
 generalize X1++[Zf.cells [strv m] 1 false false]=X2 at e2 l2 c2
 have c1:=l2 _ _ c1
 have h2:=h.hle (l1.trans l2)
 obtain ⟨v,q,X3,e3,r3,l3,o3⟩:=Zys (n:=n) h2
 have e3 : R (n+3) KS [pt g] X2=_:=e3
 have l123:=(l1.trans l2).trans l3
 have hq : ∀ j∈q,j∉Q5 o G∧j≠g∧j≠X.length∧j≠X1.length:=fun j hj=>by
  have:=o3 j hj
  have a1:=Ql c1
  have a2:=Ql c2
  have a3:=h2.glt
  exact ⟨fun hm=>by have:=(h2.isMap hm).1;omega,by omega,by omega,by omega⟩
 have hkeep : ∀ Y Y',(Grp Y g o G mem c∧Y[X.length]?=some (.cells [pt g] 1 false false)∧Y[X1.length]?=some (.cells [strv m] 1 false false))→Zx q Y q Y'→(Grp Y' g o G mem c∧Y'[X.length]?=some (.cells [pt g] 1 false false)∧Y'[X1.length]?=some (.cells [strv m] 1 false false)):=fun Y Y' ⟨a1,a2,a3⟩ hs=>
  ⟨a1.step hs (fun hm=>(hq g hm).2.1 rfl) (fun j hj hm=>(hq j hm).1 hj),hs.get a2 (fun hm=>(hq _ hm).2.2.1 rfl),hs.get a3 (fun hm=>(hq _ hm).2.2.2 rfl)⟩
 have hf : ∀ i Y,(Grp Y g o G mem c∧Y[X.length]?=some (.cells [pt g] 1 false false)∧Y[X1.length]?=some (.cells [strv m] 1 false false))→∀ s∈Z4 (ZO G),∃ Y',Jr (R (i+1)) (.func (.func KQ) #[] #[pt X.length,pt X1.length]) [strv s] Y=some (.bool (!mem s m),Y')∧HLe Y Y':=fun i Y ⟨a1,a2,a3⟩ s hs=>by
  obtain ⟨Y',e,l⟩:=ZBp (n:=i) a1 a2 a3 (KX.1 hs)
  refine ⟨Y',?_,l⟩
  have:=ZBG (n:=i+1) (g:=KQ) (bs:=[pt X.length,pt X1.length]) (args:=[strv s])
  exact (congrFun this Y).trans e
 obtain ⟨X4,v',e4,r4,s4⟩:=Zsg (n:=n+1) (p:=fun s=>!mem s m) (f:=.func (.func KQ) #[] #[pt X.length,pt X1.length]) (Q:=fun Y=>Grp Y g o G mem c∧Y[X.length]?=some (.cells [pt g] 1 false false)∧Y[X1.length]?=some (.cells [strv m] 1 false false)) r3 (by rw [KY];have:=h.few;simp;omega) hkeep (hf n) (hf (n+1)) ⟨h2.hle l3,l3 _ _ c1,l3 _ _ c2⟩
 have e4 : R (n+3) Jb [v,.func (.func KQ) #[] #[pt X.length,pt X1.length]] X3=_:=e4
 have hm:=l123.more s4 (fun j hj=>Nat.le_trans (l1.trans l2).len (o3 j hj))
 refine ⟨v',q,X4,?_,by simpa [ofL] using r4,hm.1,hm.2⟩
 rw [R,ZmK rfl]
 unfold ZeC
 rw [Za e1,Za e2,Za (ZjD c1),Za e3,Za e4]
 rfl
end
end Go.Proofs.YtedkoimihknggaaGreatDoor.A
namespace Go.Proofs.YtedkoimihknggaaGreatDoor.A
set_option linter.unusedVariables false
set_option linter.unusedSimpArgs false
open Go.Proofs Go.Proofs.YtedkoimihknggaaGreatDoor
section
variable {X X' : Zd} {n g o c c' : Nat} {G : Zc4} {mem mem' : Mem} {k m s t : Tx}
theorem Zw.grp {v : Value} {vs : List Value} {q S' : List Nat} (h : Zw X v vs q) (hG : Grp X g o G mem c) (hs : Zx (Q5 o G) X S' X') : Zw X' v vs q:=by
 refine h.step hs fun j hj hm=>?_
 rcases h with ⟨_,rfl,_⟩ | ⟨sid,rest,gr,_,rfl,hid⟩
 ·cases hj
 ·have hj : j=sid:=by simpa using hj
  subst hj
  exact (hG.isMap hm).2 _ _ _ _ hid
def Zis (s t : Tx) (K : List Tx) (mem : Mem) : Int:=if Zo t then (if s=t then 0 else if ofL t K mem=[] then 0 else 9) else 10
def WT (s t : Tx) (mem : Mem) : Mem:=fun k n=>if mem k s then (n==t || (mem k n && !(n==s))) else mem k n
def Zcu (m : Tx) (mem : Mem) : Mem:=fun k n=>mem k n && !(n==m)
def Zh6 (s t : Tx) (l : List Tx) (mem : Mem) (j : Nat) : Mem:=fun k n=>if k∈l.take j then (n==t || (mem k n && !(n==s))) else mem k n
def Zi9 (m : Tx) (l : List Tx) (mem : Mem) (j : Nat) : Mem:=fun k n=>if k∈l.take j then mem k n && !(n==m) else mem k n
theorem Zei {l : List Tx} {j : Nat} {x k : Tx} (hx : l[j]?=some x) : k∈l.take (j+1)↔k∈l.take j∨k=x:=by
 rw [List.take_add_one,hx];simp
theorem Ztu {l : List Tx} {j : Nat} {x : Tx} (hn : l.Nodup) (hx : l[j]?=some x) : x∉l.take j:=fun hm=>by
 obtain ⟨i,hi⟩:=List.getElem?_of_mem hm
 rw [List.getElem?_take] at hi
 split at hi
 ·rename_i hij
  obtain ⟨h1,h2⟩:=List.getElem?_eq_some_iff.1 hi
  obtain ⟨h3,h4⟩:=List.getElem?_eq_some_iff.1 hx
  exact List.pairwise_iff_getElem.1 hn i j h1 h3 hij (h2.trans h4.symm)
 ·cases hi
theorem Zxt {v : Value} {q : List Nat} {l : List Tx} (hl : l.length≤1000) (hn : l.Nodup) (hK : ∀ x∈l,x∈ZO G∧mem x s=true) : ∀ (r j : Nat) (X : Zd),l.length - j=r→j≤l.length→Grp X g o G (Zh6 s t l mem j) c→Zo t=true→Zw X v (l.map strv) q→
  ∃ X',Zi (c6 (QF.l1 (R n))) [pt g,strv s,strv t,v,iv l.length,iv j] X=some (.ext 0 [],X')∧Grp X' g o G (Zh6 s t l mem l.length) c∧Zx (Q5 o G) X (Q5 o G) X'
 | 0,j,X,hr,hj,h,ht,hrow=>by
  have : j=l.length:=by omega
  subst this
  refine ⟨X,ZN ?_,h,.refl _ _⟩
  rw [Jw]
  unfold QF.l1
  rw [Za Zk,Zb,if_neg (by simp)]
  rfl
 | r+1,j,X,hr,hj,h,ht,hrow=>by
  have hkl : j < l.length:=by omega
  have hlt : (j : Int) < l.length:=by omega
  have hg:=List.getElem?_eq_getElem hkl
  have hmm:=List.getElem_mem hkl
  generalize l[j]=k at hg hmm
  obtain ⟨hkK,hks⟩:=hK k hmm
  have hnot:=Ztu hn hg
  have x1:=hrow.ix (i:=j) (by simpa using hkl) .i64 X
  have x2:=hrow.ldx (Yt hg)
  obtain ⟨id,hid⟩:=h.has hkK
  obtain ⟨S,m1,m2,m3,m4⟩:=h.set hid
  have hmk : ∀ n',(Ze n' S).isSome=mem k n':=fun n'=>by rw [m2 n'];unfold Zh6;rw [if_neg hnot]
  have e2 : lkp .str (.map none) false (.map (some o)) (strv k) X=some (.map (some id),X):=by rw [h.mo.lkp,hid];rfl
  obtain ⟨X1,e3,m5,s3,_⟩:=m1.mde (k:=s)
  have hsub : (JY s S).Sublist S:=List.filter_sublist
  have h1:=h.upd (mem':=fun k' n'=>if k'=k then (Ze n' (JY s S)).isSome else Zh6 s t l mem j k' n') hid m5 s3 (fun q hq=>m4 q (hsub.subset hq)) (Nat.le_trans hsub.length_le m3) (Nat.le_refl _) (fun _ _=>rfl)
  have e4 : lkp .str (.map none) false (.map (some o)) (strv k) X1=some (.map (some id),X1):=by rw [h1.mo.lkp,hid];rfl
  obtain ⟨X2,e5,m6,s5,_⟩:=m5.mup (k:=t) (v:=())
  have hsS : (Ze s S).isSome=true:=by rw [hmk];exact hks
  have hpos : 0 < S.length:=by
   cases hS : S with
   | nil=>rw [hS] at hsS;cases hsS
   | cons a b=>simp
  have hlen : (Qr t () (JY s S)).length≤c:=by
   rw [Zfx]
   have:=Zog m1.nod hsS
   split <;> omega
  have h2:=h1.upd (mem':=Zh6 s t l mem (j+1)) hid m6 s5 (fun q hq=>by
   rcases ZiP hq with rfl | hq
   ·exact ht
   ·exact m4 q (hsub.subset hq)) hlen (Nat.le_refl _) (fun k' n'=>by
   by_cases hk : k'=k
   ·subst hk
    rw [if_pos rfl]
    unfold Zh6
    rw [if_pos ((Zei hg).2 (.inr rfl))]
    by_cases hnt : n'=t
    ·subst hnt;rw [Kb];simp
    ·rw [JZ hnt]
     by_cases hns : n'=s
     ·subst hns;rw [Wt];simp [hnt]
     ·rw [Q6 hns,hmk,beq_eq_false_iff_ne.2 hnt,beq_eq_false_iff_ne.2 hns];simp
   ·rw [if_neg hk,if_neg hk]
    unfold Zh6
    by_cases hin : k'∈l.take j
    ·rw [if_pos hin,if_pos ((Zei hg).2 (.inl hin))]
    ·rw [if_neg hin,if_neg fun h=>(Zei hg).1 h |>.elim hin hk])
  have st:=(h.step1 hid s3).trans (h1.step1 hid s5)
  obtain ⟨X3,e6,h3,s6⟩:=Zxt hl hn hK r (j+1) X2 (by omega) (by omega) h2 ht (hrow.grp h st)
  refine ⟨X3,(ZA ?_).trans e6,h3,st.trans s6⟩
  rw [Jw]
  unfold QF.l1
  rw [Za Zk,Zb,if_pos (by simpa using hlt),Za x1,Za x2,Za Zu,Za Zg,Za h.ldo,Za e2,Za e3,Za Zu,Za Zg,Za h1.ldo,Za e4,Za ZB8,Za e5,Za ZB,Qi (by omega)]
  rfl
theorem Zcr {K : List Tx} {x : Tx} : x∈ofL m K mem↔x∈K∧mem x m=true:=by unfold ofL;rw [List.mem_filter,KX]
theorem ZBo (h : Grp X g o G mem c) : ∃ X',R (n+8) Kx [pt g,strv s,strv t] X=some (iv (Zis s t (ZO G) mem),X')∧Grp X' g o G (if Zis s t (ZO G) mem=0 then WT s t mem else mem) c∧Zx (Q5 o G) X (Q5 o G) X':=by
 have l0 : HLe X (X++[.cells [strv t] 1 false false]):=.app _ _
 have s0:=(Zi1 (x:=t) (H:=X)).rd
 have e0:=ZqE (x:=t) (H:=X)
 generalize X++[Zf.cells [strv t] 1 false false]=X0 at l0 s0 e0
 have f1 : ∀ r X',QF (R (n+7)) (pt g) (strv s) (strv t) X=some (r,X')→R (n+8) Kx [pt g,strv s,strv t] X=some (r,X'):=fun r X' hr=>by rw [R,Zix rfl];exact hr
 have e1 : R (n+7) Za0 [_] X0=_:=Zue (n:=n+1) (l:=[t]) (by simp) s0
 have h0:=h.hle l0
 unfold Zis
 by_cases ht : Zo t=true
 ·have hN : Zd8 [t]=0:=by unfold Zd8;simp [ht]
  rw [hN] at e1
  rw [if_pos ht]
  have q1 : bop .str .eql (strv s) (strv t) X0=some (.bool (s==t),X0):=Zdh
  by_cases hst : s=t
  ·rw [if_pos hst,if_pos rfl]
   refine ⟨X0,f1 _ _ ?_,h0.more (Nat.le_refl _) (fun k' n'=>?_),l0.stepq⟩
   ·unfold QF
    rw [Za e0,Za e1,Za Zq,Zb,if_neg (by decide),Za q1,Zb,if_pos (by simpa using hst)]
    rfl
   ·unfold WT
    subst hst
    split
    ·rename_i hm
     by_cases hn : n'=s
     ·subst hn;simp [hm]
     ·rw [beq_eq_false_iff_ne.2 hn];simp
    ·rfl
  ·rw [if_neg hst]
   obtain ⟨v1,q1',X1,e2,r2,l2,o2⟩:=Zsq (n:=n+3) (m:=t) h0
   have e2 : R (n+7) J4 [pt g,strv t] X0=_:=e2
   have hlen1 : Zy v1 X1=some (iv (ofL t (ZO G) mem).length,X1):=by have:=r2.rd.len (H':=X1);simpa using this
   have h1:=h0.hle l2
   by_cases hO : ofL t (ZO G) mem=[]
   ·rw [if_pos hO,if_pos rfl]
    rw [hO] at hlen1
    obtain ⟨v2,q2,X2,e3,r3,l3,o3⟩:=Zsq (n:=n+3) (m:=s) h1
    have e3 : R (n+7) J4 [pt g,strv s] X1=_:=e3
    have h2:=h1.hle l3
    have hlen2 : Zy v2 X2=some (iv (ofL s (ZO G) mem).length,X2):=by have:=r3.rd.len (H':=X2);simpa using this
    have hfew : (ofL s (ZO G) mem).length≤1000:=by have:=Zfu (m:=s) (mem:=mem) (K:=ZO G);have:=h.few;simp at *;omega
    have hnod : (ofL s (ZO G) mem).Nodup:=(Zcq h.mo.nod).asc.nodup
    have hr0 : ∀ k n',Zh6 s t (ofL s (ZO G) mem) mem 0 k n'=mem k n':=fun k n'=>by unfold Zh6;simp
    obtain ⟨X3,e4,h3,s4⟩:=Zxt (n:=n+7) (s:=s) (t:=t) hfew hnod (fun x hx=>Zcr.1 hx) (ofL s (ZO G) mem).length 0 X2 (by omega) (by omega) (h2.more (Nat.le_refl _) hr0) ht r3
    rw [show iv ((0 : Nat) : Int)=.int .i64 0 from rfl] at e4
    refine ⟨X3,f1 _ _ ?_,h3.more (Nat.le_refl _) (fun k' n'=>?_),((l0.trans l2).trans l3).stepq.trans s4⟩
    ·unfold QF
     rw [Za e0,Za e1,Za Zq,Zb,if_neg (by decide),Za q1,Zb,if_neg (by simpa using hst),Za e2,Za hlen1,Za Qk,Zb,if_neg (by simp),Za e3,Za hlen2,Z5 e4,ZG]
     rfl
    ·unfold WT Zh6
     rw [List.take_length]
     by_cases hm : mem k' s=true
     ·have hin : k'∈ofL s (ZO G) mem:=Zcr.2 ⟨by
       have:=h.out k' s hm
       rw [h.key] at this;simpa using this,hm⟩
      rw [if_pos hm,if_pos hin]
     ·rw [if_neg hm,if_neg fun hin=>hm (Zcr.1 hin).2]
   ·rw [if_neg hO,if_neg (by decide)]
    have hpos : 0 < (ofL t (ZO G) mem).length:=List.length_pos_iff.2 hO
    refine ⟨X1,f1 _ _ ?_,h1,(l0.trans l2).stepq⟩
    unfold QF
    rw [Za e0,Za e1,Za Zq,Zb,if_neg (by decide),Za q1,Zb,if_neg (by simpa using hst),Za e2,Za hlen1,Za Qk,Zb,if_pos (by simpa using hpos)]
    rfl
 ·have hN : Zd8 [t]=10:=by unfold Zd8;simp [ht]
  rw [hN] at e1
  rw [if_neg ht,if_neg (by decide)]
  refine ⟨X0,f1 _ _ ?_,h0,l0.stepq⟩
  unfold QF
  rw [Za e0,Za e1,Za Zq,Zb,if_pos (by decide)]
  rfl
theorem Zx7 {v z : Value} {q : List Nat} {l : List Tx} (hl : l.length≤1000) (hn : l.Nodup) (hK : ∀ x∈l,x∈ZO G) : ∀ (r j : Nat) (X : Zd),l.length - j=r→j≤l.length→Grp X g o G (Zi9 m l mem j) c→Zw X v (l.map strv) q→
  ∃ X',Zi (c6 (Yj.l1 (R n))) [pt g,strv m,z,v,iv l.length,iv j] X=some (.ext 0 [z],X')∧Grp X' g o G (Zi9 m l mem l.length) c∧Zx (Q5 o G) X (Q5 o G) X'
 | 0,j,X,hr,hj,h,hrow=>by
  have : j=l.length:=by omega
  subst this
  refine ⟨X,ZN ?_,h,.refl _ _⟩
  rw [Jw]
  unfold Yj.l1
  rw [Za Zk,Zb,if_neg (by simp)]
  rfl
 | r+1,j,X,hr,hj,h,hrow=>by
  have hkl : j < l.length:=by omega
  have hlt : (j : Int) < l.length:=by omega
  have hg:=List.getElem?_eq_getElem hkl
  have hmm:=List.getElem_mem hkl
  generalize l[j]=k at hg hmm
  have hkK:=hK k hmm
  have hnot:=Ztu hn hg
  have x1:=hrow.ix (i:=j) (by simpa using hkl) .i64 X
  have x2:=hrow.ldx (Yt hg)
  obtain ⟨id,hid⟩:=h.has hkK
  obtain ⟨S,m1,m2,m3,m4⟩:=h.set hid
  have hmk : ∀ n',(Ze n' S).isSome=mem k n':=fun n'=>by rw [m2 n'];unfold Zi9;rw [if_neg hnot]
  have e2 : lkp .str (.map none) false (.map (some o)) (strv k) X=some (.map (some id),X):=by rw [h.mo.lkp,hid];rfl
  obtain ⟨X1,e3,m5,s3,_⟩:=m1.mde (k:=m)
  have hsub : (JY m S).Sublist S:=List.filter_sublist
  have h1:=h.upd (mem':=Zi9 m l mem (j+1)) hid m5 s3 (fun q hq=>m4 q (hsub.subset hq)) (Nat.le_trans hsub.length_le m3) (Nat.le_refl _) (fun k' n'=>by
   by_cases hk : k'=k
   ·subst hk
    rw [if_pos rfl]
    unfold Zi9
    rw [if_pos ((Zei hg).2 (.inr rfl))]
    by_cases hns : n'=m
    ·subst hns;rw [Wt];simp
    ·rw [Q6 hns,hmk];simp [hns]
   ·rw [if_neg hk]
    unfold Zi9
    by_cases hin : k'∈l.take j
    ·rw [if_pos hin,if_pos ((Zei hg).2 (.inl hin))]
    ·rw [if_neg hin,if_neg fun h=>(Zei hg).1 h |>.elim hin hk])
  have st:=h.step1 hid s3
  obtain ⟨X3,e6,h3,s6⟩:=Zx7 hl hn hK r (j+1) X1 (by omega) (by omega) h1 (hrow.grp h st)
  refine ⟨X3,(ZA ?_).trans e6,h3,st.trans s6⟩
  rw [Jw]
  unfold Yj.l1
  rw [Za Zk,Zb,if_pos (by simpa using hlt),Za x1,Za x2,Za Zu,Za Zg,Za h.ldo,Za e2,Za e3,Za ZB,Qi (by omega)]
  rfl
theorem ZyI (h : Grp X g o G mem c) : ∃ X',R (n+8) Wx [pt g,strv m] X=some (iv (ofL m (ZO G) mem).length,X')∧Grp X' g o G (Zcu m mem) c∧Zx (Q5 o G) X (Q5 o G) X':=by
 obtain ⟨v2,q2,X2,e3,r3,l3,o3⟩:=Zsq (n:=n+3) (m:=m) h
 have e3 : R (n+7) J4 [pt g,strv m] X=_:=e3
 have h2:=h.hle l3
 have hlen2 : ∀ Y,Zy v2 Y=some (iv (ofL m (ZO G) mem).length,Y):=fun Y=>by have:=r3.rd.len (H':=Y);simpa using this
 have hfew : (ofL m (ZO G) mem).length≤1000:=by have:=Zfu (m:=m) (mem:=mem) (K:=ZO G);have:=h.few;simp at *;omega
 have hnod : (ofL m (ZO G) mem).Nodup:=(Zcq h.mo.nod).asc.nodup
 have hr0 : ∀ k n',Zi9 m (ofL m (ZO G) mem) mem 0 k n'=mem k n':=fun k n'=>by unfold Zi9;simp
 obtain ⟨X3,e4,h3,s4⟩:=Zx7 (n:=n+7) (m:=m) (z:=v2) hfew hnod (fun x hx=>(Zcr.1 hx).1) (ofL m (ZO G) mem).length 0 X2 (by omega) (by omega) (h2.more (Nat.le_refl _) hr0) r3
 rw [show iv ((0 : Nat) : Int)=.int .i64 0 from rfl] at e4
 refine ⟨X3,?_,h3.more (Nat.le_refl _) (fun k' n'=>?_),l3.stepq.trans s4⟩
 ·rw [R,Ziw rfl]
  unfold Yj
  rw [Za e3,Za (hlen2 _),Z5 e4,ZG,YT,Za (hlen2 _)]
  rfl
 ·unfold Zcu Zi9
  rw [List.take_length]
  by_cases hin : k'∈ofL m (ZO G) mem
  ·rw [if_pos hin]
  ·rw [if_neg hin]
   by_cases hn : n'=m
   ·subst hn
    cases hm : mem k' n' with
    | false=>rfl
    | true=>exact absurd (Zcr.2 ⟨by have:=h.out k' n' hm;rw [h.key] at this;simpa using this,hm⟩) hin
   ·simp [hn]
def Zdq (b : Nat) : Zc4→Zc4
 | []=>[]
 | p :: G=>(p.1,b) :: Zdq (b+1) G
theorem ZjI : ∀ {G : Zc4} {b : Nat},ZO (Zdq b G)=ZO G
 | [],_=>rfl
 | p :: G,b=>by
  show p.1 :: ZO (Zdq (b+1) G)=p.1 :: ZO G
  rw [ZjI]
theorem Zoq : ∀ {G : Zc4} {b : Nat} {p : Tx × Nat},p∈Zdq b G→∃ i q,G[i]?=some q∧p=(q.1,b+i)
 | [],_,_,h=>by cases h
 | q :: G,b,p,h=>by
  rcases List.mem_cons.1 h with rfl | h
  ·exact ⟨0,q,rfl,rfl⟩
  ·obtain ⟨i,r,h1,h2⟩:=Zoq h
   exact ⟨i+1,r,by simpa using h1,by rw [h2];congr 1;omega⟩
theorem Zhy : ∀ {G : Zc4} {b : Nat},(Zdq b G).map (·.2)=List.range' b G.length
 | [],_=>rfl
 | p :: G,b=>by
  show b :: (Zdq (b+1) G).map (·.2)=_
  rw [Zhy,List.length_cons,List.range'_succ]
theorem Zo0 : ∀ {G : Zc4} {b : Nat},(Ze k (Zdq b G)).isSome=(Ze k G).isSome
 | [],_=>rfl
 | p :: G,b=>by
  simp only [Zdq,Ze]
  by_cases h : p.1=k
  ·rw [if_pos h,if_pos h];rfl
  ·rw [if_neg h,if_neg h,Zo0]
theorem Zpg : ∀ {es : List (Value × Value × Nat)} {G : Zc4} {b : Nat},es.map kv=G.map (fun p=>(strv p.1,ZqG p.2))→(Zcd b es).map kv=(Zdq b G).map (fun p=>(strv p.1,ZqG p.2))
 | [],[],_,_=>rfl
 | [],_ :: _,_,h=>by cases h
 | _ :: _,[],_,h=>by cases h
 | e :: es,p :: G,b,h=>by
  simp only [List.map_cons,List.cons.injEq,kv,Prod.mk.injEq] at h
  simp only [Zcd,Zdq,List.map_cons,kv,h.1.1]
  rw [Zpg h.2]
theorem Zo3 : ∀ {es : List (Value × Value × Nat)} {G : Zc4},es.map kv=G.map (fun p=>(strv p.1,ZqG p.2))→(∀ p∈G,∃ S,J8 ZpU X p.2 S)→∃ l,Zfa X es=some l∧l.length=G.length∧∀ (i : Nat) (p : Tx × Nat),G[i]?=some p→l[i]?=X[p.2]?
 | [],[],_,_=>⟨[],rfl,rfl,fun i p h=>by simp at h⟩
 | [],_ :: _,h,_=>by cases h
 | _ :: _,[],h,_=>by cases h
 | e :: es,p :: G,h,hS=>by
  simp only [List.map_cons,List.cons.injEq,kv,Prod.mk.injEq] at h
  obtain ⟨l,h1,h2,h3⟩:=Zo3 h.2 (fun p hp=>hS p (List.mem_cons_of_mem _ hp))
  obtain ⟨S,hm⟩:=hS p (by simp)
  obtain ⟨x,hx,hmx⟩ : ∃ x,X[p.2]?=some x∧Zhj x=true:=by
   obtain ⟨es',_,h4 | h4⟩:=hm.ex
   ·obtain ⟨clk,h4,_⟩:=h4;exact ⟨_,h4,rfl⟩
   ·exact ⟨_,h4,rfl⟩
  refine ⟨x :: l,?_,by simp [h2],fun i q hi=>?_⟩
  ·unfold Zfa
   simp only [h.1.2,h1,ZqG,hx,hmx,if_true]
  ·cases i with
   | zero=>
    have : p=q:=by simpa using hi
    subst this
    simp [hx]
   | succ i=>simpa using h3 i q (by simpa using hi)
theorem J8.move {α : Type} {enc : α→Value} {id id' : Nat} {mm : List (Tx × α)} (h : J8 enc X id mm) (he : X'[id']?=X[id]?) : J8 enc X' id' mm:=by
 obtain ⟨es,h1,h2⟩:=h.ex
 exact ⟨⟨es,h1,by rw [he];exact h2⟩,h.nod⟩
theorem ZAm (h : Grp X g o G mem c) : ∃ X' g' o' G',R (n+1) Zad [pt g] X=some (pt g',X')∧Grp X' g' o' G' mem c∧ZO G'=ZO G∧HLe X X'∧X.length≤g'∧∀ j∈Q5 o' G',X.length≤j:=by
 obtain ⟨es,h1,h2⟩:=h.mo.ex
 obtain ⟨l,h3,h4,h5⟩:=Zo3 h1 (fun p hp=>by obtain ⟨S,hS,_⟩:=h.ms p hp;exact ⟨S,hS⟩)
 have hents : Zma X o=some es:=by
  unfold Zma
  rcases h2 with ⟨clk,h2,hst⟩ | h2
  ·simp only [h2];rw [if_pos hst]
  ·simp only [h2]
 have hk : Zf2 es (ZO G):=⟨by
  have:=congrArg (List.map (·.1)) h1
  rw [ZeM] at this
  rw [this];simp [Function.comp_def],h.mo.nod,by have:=h.few;simp;omega,fun k hk=>by
  obtain ⟨p,hp,rfl⟩:=List.mem_map.1 hk
  exact Nat.le_trans (Zch (h.ok p hp)) (by decide)⟩
 have hrun : R (n+1) Zad [pt g] X=some (pt (X.length+l.length+1),X++l++[.mapU (Zcd X.length es)]++[.cells [.map (some (X.length+l.length))] 1 false false]):=by
  rw [R,Zdc (show np Zad=some ZiD from rfl)]
  unfold ZiD
  simp only [h.cell,hents,h3]
  rw [if_pos ⟨_,hk⟩]
 have hlen1 : (X++l).length=X.length+l.length:=List.length_append
 have hlen2 : (X++l++[Zf.mapU (Zcd X.length es)]).length=X.length+l.length+1:=by rw [List.length_append,hlen1,List.length_singleton]
 have hle : HLe X (X++l++[.mapU (Zcd X.length es)]++[.cells [.map (some (X.length+l.length))] 1 false false]):=fun i v hi=>by
  rw [List.append_assoc,List.append_assoc,List.getElem?_append_left (Ql hi)];exact hi
 refine ⟨_,_,X.length+l.length,Zdq X.length G,hrun,⟨?_,⟨⟨Zcd X.length es,Zpg h1,.inr ?_⟩,?_⟩,fun p hp=>?_,fun k' n' hk'=>by rw [Zo0];exact h.out k' n' hk',?_,fun p hp=>?_,?_⟩,ZjI,hle,by omega,fun j hj=>?_⟩
 ·rw [← hlen2];exact ZC
 ·rw [List.getElem?_append_left (by rw [hlen2];omega),← hlen1];exact ZC
 ·have : (ZO (Zdq X.length G)).Nodup:=by rw [ZjI];exact h.mo.nod
  exact this
 ·obtain ⟨i,q,hq,rfl⟩:=Zoq hp
  obtain ⟨S,a1,a2,a3,a4⟩:=h.ms q (List.mem_of_getElem? hq)
  refine ⟨S,a1.move ?_,a2,a3,a4⟩
  have hil : i < l.length:=by rw [h4];exact (List.getElem?_eq_some_iff.1 hq).1
  show (_ : Zd)[X.length+i]?=_
  rw [List.getElem?_append_left (by rw [hlen2];omega),List.getElem?_append_left (by rw [hlen1];omega),List.getElem?_append_right (by omega),Nat.add_sub_cancel_left]
  exact h5 i q hq
 ·rw [Q5,Zhy,List.nodup_cons]
  refine ⟨fun hm=>?_,List.nodup_range'⟩
  have:=List.mem_range'_1.1 hm
  omega
 ·obtain ⟨i,q,hq,rfl⟩:=Zoq hp
  exact h.ok q (List.mem_of_getElem? hq)
 ·have : (Zdq X.length G).length=G.length:=by
   have:=congrArg List.length (Zhy (G:=G) (b:=X.length))
   simpa using this
  rw [this];exact h.few
 ·rw [Q5,Zhy] at hj
  rcases List.mem_cons.1 hj with rfl | hj
  ·omega
  ·exact (List.mem_range'_1.1 hj).1
end
end Go.Proofs.YtedkoimihknggaaGreatDoor.A

namespace Go.Proofs.YtedkoimihknggaaGreatDoor.A
set_option linter.unusedVariables false
set_option linter.unusedSimpArgs false
open Go.Proofs Go.Proofs.YtedkoimihknggaaGreatDoor
def KE (b : UInt8) : UInt8:=if decide (65≤b.toNat) && decide (b.toNat≤90) then UInt8.ofNat (b.toNat+32) else b
def Z7 (s : List UInt8) : List UInt8:=s.map KE
theorem Zzu : ∀ b : UInt8,(decide (65≤b.toNat) && decide (b.toNat≤90))=true→IntKind.u8.wrap (IntKind.u8.wrap ((b.toNat : Int)+97) - 65)=(KE b).toNat:=Zg7 (by decide+kernel)
section
variable {H X : Zd} {n : Nat} {s : List UInt8}
theorem ZB3 {cs : List UInt8} {k : Nat} {b : UInt8} (h : cs[k]?=some b) : (u8s cs)[k]?=some (u8v b):=by unfold u8s;rw [List.getElem?_map,h];rfl
theorem ZAV {cs : List UInt8} {k : Nat} {b : UInt8} : (u8s cs).set k (u8v b)=u8s (cs.set k b):=by unfold u8s;rw [List.map_set]
theorem ZCp : s2b (strv s) H=some (.slice (some ⟨H.length,0,none⟩) s.length s.length,H++[.cells (u8s s) 1 true false]):=by
 unfold s2b strv ZlT
 simp [ByteArray.size]
theorem ZqN {v : Value} {q : List Nat} (hs : s.length≤1000000) : ∀ (t k : Nat) (cs : List UInt8) (X : Zd),s.length - k=t→k≤s.length→cs.length=s.length→cs.take k=(s.take k).map KE→cs.drop k=s.drop k→Zw X v (u8s cs) q→
  ∃ X',Zi (c4 (WL.l1 (R n))) [v,v,iv s.length,iv k] X=some (.ext 0 [v],X')∧Zw X' v (u8s (Z7 s)) q∧Zx q X q X'
 | 0,k,cs,X,ht,hk,hl,h1,h2,hr=>by
  have : k=s.length:=by omega
  subst this
  have : cs=Z7 s:=by
   rw [List.take_of_length_le (by omega),List.take_of_length_le (by omega)] at h1
   exact h1
  subst this
  refine ⟨X,ZN ?_,hr,.refl _ _⟩
  rw [ZJ]
  unfold WL.l1
  rw [Za Zk,Zb,if_neg (by simp)]
  rfl
 | t+1,k,cs,X,ht,hk,hl,h1,h2,hr=>by
  have hkl : k < s.length:=by omega
  have hlt : (k : Int) < s.length:=by omega
  have hg:=List.getElem?_eq_getElem hkl
  have htk:=List.take_succ_eq_append_getElem hkl
  have hdk:=List.drop_eq_getElem_cons hkl
  generalize s[k]=b at hg htk hdk
  have hgc : cs[k]?=some b:=by
   have h3 : (cs.drop k)[0]?=(s.drop k)[0]?:=by rw [h2]
   simpa [hg] using h3
  have hul : (u8s cs).length=s.length:=by rw [JX,hl]
  have x1:=hr.ix (i:=k) (by omega) .i64 X
  have x2:=hr.ldx (ZB3 hgc)
  have hd1 : cs.drop (k+1)=s.drop (k+1):=by rw [← List.drop_drop,h2,List.drop_drop]
  have htc : cs.take (k+1)=cs.take k++[b]:=by
   have:=List.take_succ_eq_append_getElem (show k < cs.length by omega)
   rw [this,(List.getElem?_eq_some_iff.1 hgc).2]
  have hpk : ∀ (K : Value→M Out),bind (bop .int .geq (u8v b) (Value.int .u8 65)) (fun v16x6=>bind (ZH v16x6 true 2 (bind (bop .int .leq (u8v b) (Value.int .u8 90)) fun v19x7=>ret [u8v b,v19x7])) (c2 fun _ q8_1=>bind (pick v16x6 q8_1 (Value.bool false)) K)) X=K (.bool (decide (65≤b.toNat) && decide (b.toNat≤90))) X:=fun K=>by
   have e1 : decide ((b.toNat : Int)≥65)=decide (65≤b.toNat):=by rw [decide_eq_decide];omega
   have e2 : decide ((b.toNat : Int)≤90)=decide (b.toNat≤90):=by rw [decide_eq_decide];omega
   rw [Za Qm,e1]
   cases decide (65≤b.toNat)
   ·rw [Za (g_r.trans (if_neg (by simp)))]
    simp only [List.replicate]
    rw [Qf,Za Zn]
    rfl
   ·rw [Z8,Zp,Za Ja,Qb,Qf,Za Zn,e2]
    rfl
  cases hup : (decide (65≤b.toNat) && decide (b.toNat≤90))
  ·have hfb : KE b=b:=by unfold KE;rw [hup];rfl
   rw [hup] at hpk
   obtain ⟨X',e,r',s'⟩:=ZqN hs t (k+1) cs X (by omega) (by omega) hl (by rw [htc,h1,htk,List.map_append,List.map_singleton,hfb]) hd1 hr
   refine ⟨X',(ZA ?_).trans e,r',s'⟩
   rw [ZJ]
   unfold WL.l1
   rw [Za Zk,Zb,if_pos (by simpa using hlt),Za x1,Za x2]
   refine (hpk _).trans ?_
   refine (ZS (vs:=[v,v,iv s.length,iv k]) (H':=X) ?_).trans ?_
   ·rw [Zb,if_neg (by simp)];rfl
   ·rw [ZJ,Za ZB,Qi (by omega)];rfl
  ·have hfu:=Zzu b hup
   rw [hup] at hpk
   obtain ⟨X1,x3,r1,s1,_⟩:=hr.stx (i:=k) (u:=u8v (KE b)) (by omega) rfl
   rw [ZAV] at r1
   obtain ⟨X',e,r',s'⟩:=ZqN hs t (k+1) (cs.set k (KE b)) X1 (by omega) (by omega) (by simpa using hl) (by
    have h5 : k < (cs.set k (KE b)).length:=by simp;omega
    rw [List.take_succ_eq_append_getElem h5,List.take_set_of_le (Nat.le_refl _),h1,htk,List.map_append]
    simp) (by rw [List.drop_set_of_lt (by omega)];exact hd1) r1
   refine ⟨X',(ZA ?_).trans e,r',s1.trans s'⟩
   rw [ZJ]
   unfold WL.l1
   rw [Za Zk,Zb,if_pos (by simpa using hlt),Za x1,Za x2]
   refine (hpk _).trans ?_
   refine (ZS (vs:=[v,v,iv s.length,iv k]) (H':=X1) ?_).trans ?_
   ·rw [Zb,if_pos rfl,Za ZB,Za Q1,hfu,Za x1,Za x3];rfl
   ·rw [ZJ,Za ZB,Qi (by omega)];rfl
theorem ZBJ (hs : s.length≤1000000) : ∃ H',R (n+1) Ze8 [strv s] H=some (strv (Z7 s),H')∧HLe H H':=by
 have e1:=ZCp (s:=s) (H:=H)
 have k1 : HLe H (H++[.cells (u8s s) 1 true false]):=.app _ _
 have r1 : Zw (H++[.cells (u8s s) 1 true false]) (.slice (some ⟨H.length,0,none⟩) s.length s.length) (u8s s) [H.length]:=.inr ⟨H.length,[],true,by rw [JX];rfl,rfl,by rw [ZC,List.append_nil]⟩
 have hnl : ∀ j∈[H.length],H.length≤j:=by simp
 generalize H++[Zf.cells (u8s s) 1 true false]=H1 at e1 k1 r1
 obtain ⟨H2,e2,r2,s2⟩:=ZqN (n:=n) hs s.length 0 s H1 (by omega) (by omega) rfl rfl rfl r1
 have e2 : Zi (c4 (WL.l1 (R n))) [.slice (some ⟨H.length,0,none⟩) s.length s.length,.slice (some ⟨H.length,0,none⟩) s.length s.length,iv s.length,.int .i64 0] H1=_:=e2
 refine ⟨H2,?_,(k1.more s2 hnl).1⟩
 rw [R,Zs1 rfl]
 unfold WL
 have hl : Zy (.slice (some ⟨H.length,0,none⟩) s.length s.length) H1=some (iv s.length,H1):=rfl
 rw [Za e1,Za hl,Z5 e2,ZG,YT,Za (Ze6 r2.rd)]
 rfl
def Zco : List UInt8:=[65,66,67,68,69,70,71,72,73,74,75,76,77,78,79,80,81,82,83,84,85,86,87,88,89,90]
theorem Zwf : ∀ k < 26,∀ b,Zco[k]?=some b→Zg6[k]?=some (KE b):=by
 intro k hk b hb
 have : ∀ k < 26,(Zco[k]?).map KE=Zg6[k]?:=by decide
 rw [← this k hk,hb];rfl
theorem Zzh : ∀ b : UInt8,(if Zco.contains b then KE b else b)=KE b:=Zg7 (by decide+kernel)
theorem ZxZ {i j : Nat} (hij : i≤j) (hj : j≤s.length) : sls (strv s) (some (iv i)) (some (iv j)) H=some (strv ((s.take j).drop i),H):=by
 have h1 : (⟨s.toArray⟩ : ByteArray).size=s.length:=by simp [ByteArray.size]
 have h2 : (⟨s.toArray⟩ : ByteArray).extract i j=⟨((s.take j).drop i).toArray⟩:=by
  apply ByteArray.ext
  rw [ByteArray.data_extract]
  simp [List.drop_take]
 have hb : ∀ k : Nat,∀ d,bnd (some (iv k)) d=some k:=fun k d=>by simp [bnd]
 unfold strv sls
 simp only [h1,hb]
 rw [if_pos ⟨hij,hj⟩,h2]
theorem Zz1 {i : Nat} (hi : i≤s.length) : sls (strv s) (some (iv i)) none H=some (strv (s.drop i),H):=by
 have h1 : (⟨s.toArray⟩ : ByteArray).size=s.length:=by simp [ByteArray.size]
 have h2 : (⟨s.toArray⟩ : ByteArray).extract i s.length=⟨(s.drop i).toArray⟩:=by
  apply ByteArray.ext
  rw [ByteArray.data_extract]
  simp [List.take_of_length_le]
 have hb : ∀ k : Nat,∀ d,bnd (some (iv k)) d=some k:=fun k d=>by simp [bnd]
 have hb0 : ∀ d,bnd none d=some d:=fun _=>rfl
 unfold strv sls
 simp only [h1,hb,hb0]
 rw [if_pos ⟨hi,Nat.le_refl _⟩,h2]
theorem ZxH {k : Nat} {b : UInt8} (h : s[k]?=some b) : (s.take (k+1)).drop k=[b]:=by
 have hk:=(List.getElem?_eq_some_iff.1 h).1
 rw [List.take_succ_eq_append_getElem hk,(List.getElem?_eq_some_iff.1 h).2,List.drop_append_of_le_length (by rw [List.length_take];omega),List.drop_eq_nil_of_le (by rw [List.length_take];omega)]
 rfl
theorem ZkM {i : Nat} {b : UInt8} (hi : s[i]?=some b) (hs : s.length≤1000000) : ∀ (t k : Nat) (cur : UInt8) (z1 : Value),26 - k=t→k≤26→
  Zi (c6 (JQ.l2 (R n))) [strv s,strv Zco,z1,iv i,strv [cur],iv k] X=some (.ext 2 [strv s,strv Zco,z1,iv i,strv [if (Zco.drop k).contains b then KE b else cur]],X)
 | 0,k,cur,z1,ht,hk=>by
  have : k=26:=by omega
  subst this
  refine ZN ?_
  rw [Jw]
  unfold JQ.l2
  rw [Za Zk,Zb,if_neg (by decide)]
  rfl
 | t+1,k,cur,z1,ht,hk=>by
  have hkl : k < Zco.length:=by show k < 26;omega
  have hlt : (k : Int) < 26:=by omega
  have hg:=List.getElem?_eq_getElem hkl
  have hd:=List.drop_eq_getElem_cons hkl
  generalize Zco[k]=g at hg hd
  have x1:=ZcN hi .i64 X
  have x2:=ZcN hg .i64 X
  have hgf:=Zwf k (by omega) g hg
  rw [hd,List.contains_cons]
  by_cases hb : b=g
  ·subst hb
   have e3 : sls (strv Zg6) (some (iv k)) (some (iv ((k+1 : Nat) : Int))) X=some (strv [KE b],X):=by
    rw [ZxZ (by omega) (by show k+1≤26;omega),ZxH hgf]
   have e3 : sls (.string ⟨#[97,98,99,100,101,102,103,104,105,106,107,108,109,110,111,112,113,114,115,116,117,118,119,120,121,122]⟩) (some (iv k)) (some (iv ((k+1 : Nat) : Int))) X=some (strv [KE b],X):=e3
   refine (ZA ?_).trans ((ZkM hi hs t (k+1) (KE b) z1 (by omega) (by omega)).trans (by simp))
   rw [Jw]
   unfold JQ.l2
   rw [Za Zk,Zb,if_pos (by simpa using hlt),Za x1,Za x2,Za ZD,Ziu]
   refine (ZS (vs:=[strv s,strv Zco,z1,iv i,strv [KE b],iv k]) (H':=X) ?_).trans ?_
   ·rw [Zb,if_pos (by simp),Za ZB,Qi (by omega),Za e3];rfl
   ·rw [Jw,Za ZB,Qi (by omega)];rfl
  ·have hbf : (b==g)=false:=beq_eq_false_iff_ne.2 hb
   rw [hbf,Bool.false_or]
   refine (ZA ?_).trans (ZkM hi hs t (k+1) cur z1 (by omega) (by omega))
   rw [Jw]
   unfold JQ.l2
   rw [Za Zk,Zb,if_pos (by simpa using hlt),Za x1,Za x2,Za ZD,Ziu,hbf]
   refine (ZS (vs:=[strv s,strv Zco,z1,iv i,strv [cur],iv k]) (H':=X) ?_).trans ?_
   ·rw [Zb,if_neg (by simp)];rfl
   ·rw [Jw,Za ZB,Qi (by omega)];rfl
theorem Zrn (hs : s.length≤1000000) : ∀ (t k : Nat),s.length - k=t→k≤s.length→
  Zi (c4 (JQ.l1 (R n))) [strv s,strv Zco,strv ((s.take k).map KE),iv k] X=some (.ext 0 [strv (Z7 s)],X)
 | 0,k,ht,hk=>by
  have : k=s.length:=by omega
  subst this
  rw [List.take_length]
  refine ZN ?_
  rw [ZJ]
  unfold JQ.l1
  rw [Za ZP,Za Zk,Zb,if_neg (by simp)]
  rfl
 | t+1,k,ht,hk=>by
  have hkl : k < s.length:=by omega
  have hlt : (k : Int) < s.length:=by omega
  have hg:=List.getElem?_eq_getElem hkl
  have htk:=List.take_succ_eq_append_getElem hkl
  generalize s[k]=b at hg htk
  have e1 : sls (strv s) (some (iv k)) (some (iv ((k+1 : Nat) : Int))) X=some (strv [b],X):=by rw [ZxZ (by omega) (by omega),ZxH hg]
  have e2:=ZkM (n:=n) (X:=X) hg hs 26 0 b (strv ((s.take k).map KE)) rfl (by omega)
  rw [List.drop_zero,Zzh] at e2
  have e2 : Zi (c6 (JQ.l2 (R n))) [strv s,strv Zco,strv ((s.take k).map KE),iv k,strv [b],.int .i64 0] X=_:=e2
  have e3:=J1 (a:=(s.take k).map KE) (b:=[KE b]) (H:=X) (by simp;omega)
  refine (ZA ?_).trans (Zrn hs t (k+1) (by omega) (by omega))
  rw [ZJ]
  unfold JQ.l1
  rw [Za ZP,Za Zk,Zb,if_pos (by simpa using hlt),Za ZB,Qi (by omega),Za e1,Z5 e2,ZG,Qs,Za e3,Za ZB,Qi (by omega),htk,List.map_append]
  rfl
theorem Zxv (hs : s.length≤1000000) : R (n+1) ZdG [strv s] H=some (strv (Z7 s),H):=by
 have e:=Zrn (n:=n) (X:=H) hs s.length 0 (by omega) (by omega)
 have e : Zi (c4 (JQ.l1 (R n))) [strv s,.string ⟨#[65,66,67,68,69,70,71,72,73,74,75,76,77,78,79,80,81,82,83,84,85,86,87,88,89,90]⟩,.string ⟨#[]⟩,.int .i64 0] H=_:=e
 rw [R,Zsa rfl]
 unfold JQ
 rw [Z5 e,ZG]
 rfl
end
end Go.Proofs.YtedkoimihknggaaGreatDoor.A
namespace Go.Proofs.YtedkoimihknggaaGreatDoor.A
set_option linter.unusedVariables false
set_option linter.unusedSimpArgs false
open Go.Proofs Go.Proofs.YtedkoimihknggaaGreatDoor
def Qy (c : UInt8) : List UInt8→List (List UInt8)
 | []=>[[]]
 | b :: l=>if b=c then [] :: Qy c l else match Qy c l with
  | h :: t=>(b :: h) :: t
  | []=>[[b]]
theorem ZfY {c : UInt8} : ∀ {s : List UInt8},Qy c s≠[]
 | []=>by simp [Qy]
 | b :: s=>by
  unfold Qy
  split
  ·simp
  ·split <;> simp
theorem ZoA {c : UInt8} : ∀ {s : List UInt8},c∉s→Qy c s=[s]
 | [],_=>rfl
 | b :: s,h=>by
  simp only [List.mem_cons,not_or] at h
  unfold Qy
  rw [if_neg (Ne.symm h.1),ZoA h.2]
theorem Zk1 {c : UInt8} : ∀ {s : List UInt8},c∈s→Qy c s=s.takeWhile (· !=c) :: Qy c (s.drop ((s.takeWhile (· !=c)).length+1))
 | [],h=>by cases h
 | b :: s,h=>by
  rw [show Qy c (b :: s)=(if b=c then [] :: Qy c s else match Qy c s with | h :: t=>(b :: h) :: t | []=>[[b]]) from rfl]
  by_cases hb : b=c
  ·subst hb
   rw [if_pos rfl]
   simp
  ·rw [if_neg hb]
   have hm : c∈s:=by
    rcases List.mem_cons.1 h with h | h
    ·exact absurd h.symm hb
    ·exact h
   rw [Zk1 hm]
   have h2 : (b !=c)=true:=by simp [hb]
   simp [List.takeWhile_cons,h2]
theorem ZeS {c : UInt8} : ∀ {s : List UInt8},(Qy c s).length=s.count c+1
 | []=>rfl
 | b :: s=>by
  have ih:=ZeS (c:=c) (s:=s)
  unfold Qy
  by_cases hb : b=c
  ·subst hb
   rw [if_pos rfl,List.length_cons,ih,List.count_cons_self]
  ·rw [if_neg hb,List.count_cons_of_ne (by simpa using hb)]
   cases h : Qy c s with
   | nil=>exact absurd h ZfY
   | cons a t=>rw [h] at ih;simpa using ih
theorem Zy6 {c : UInt8} : ∀ {s : List UInt8},c∈s→s.count c=(s.drop ((s.takeWhile (· !=c)).length+1)).count c+1:=by
 intro s h
 have h1:=ZeS (c:=c) (s:=s)
 rw [Zk1 h,List.length_cons,ZeS] at h1
 omega
def Zh5 (l : List UInt8) : Bool:=!(l==[]) && l.all WV
def Zal (f : List UInt8) : List UInt8:=if 64∈f then f.drop ((f.takeWhile (· !=64)).length+1) else []
def okM (f : List UInt8) : Bool:=decide (64∈f) && (Zo (f.takeWhile (· !=64)) && (decide (2≤(Qy 46 (Zal f)).length) && (Qy 46 (Zal f)).all Zh5))
def QB (s : List UInt8) : Bool:=decide (s.length≤20) && okM (Z7 s)
def Zcc : List UInt8→Nat→Nat→Option (Nat × Nat)
 | [],st,lg=>some (st,lg)
 | c :: l,st,lg=>if c=46 then (if lg=0 then none else Zcc l (st+1) 0) else if WV c then Zcc l st (lg+1) else none
def Zhf (l : List UInt8) (st lg : Nat) : Bool:=match Zcc l st lg with
 | some (a,b)=>decide (a≠0) && decide (b≠0)
 | none=>false
def Zfk (lg : Nat) : List (List UInt8)→Bool
 | h :: t=>(h.all WV && decide (lg+h.length≠0)) && t.all Zh5
 | []=>false
theorem Zqp : ∀ (l : List UInt8) (st lg : Nat),Zhf l st lg=(decide (st+(Qy 46 l).length≠1) && Zfk lg (Qy 46 l))
 | [],st,lg=>by simp [Zhf,Zcc,Qy,Zfk]
 | c :: l,st,lg=>by
  unfold Zhf Zcc Qy
  by_cases hc : c=46
  ·rw [if_pos hc,if_pos hc]
   by_cases hl : lg=0
   ·simp [hl,Zfk]
   ·rw [if_neg hl]
    have ih:=Zqp l (st+1) 0
    unfold Zhf at ih
    rw [ih]
    have hne:=ZfY (c:=46) (s:=l)
    cases hsp : Qy 46 l with
    | nil=>exact absurd hsp hne
    | cons h t=>
     have h1 : decide (st+1+(h :: t).length≠1)=true:=by simp;omega
     have h2 : decide (st+([] :: h :: t).length≠1)=true:=by simp;omega
     rw [h1,h2]
     simp only [Zfk,List.all_nil,List.all_cons,Zh5,List.length_nil,Nat.zero_add,Nat.add_zero,Bool.true_and]
     have h3 : decide (lg≠0)=true:=by simp [hl]
     rw [h3,Bool.true_and]
     have h4 : (!(h==[]))=decide (h.length≠0):=by cases h <;> simp
     rw [h4,Bool.and_comm (h.all WV)]
  ·rw [if_neg hc,if_neg hc]
   cases hsp : Qy 46 l with
   | nil=>exact absurd hsp ZfY
   | cons h t=>
    cases ha : WV c
    ·simp [Zfk,ha]
    ·have ih:=Zqp l st (lg+1)
     unfold Zhf at ih
     simp only [if_true]
     rw [ih,hsp]
     have e : ∀ x : Nat,lg+1+x=lg+(x+1):=fun x=>by omega
     simp [Zfk,ha,e]
theorem Zzy {l : List UInt8} : Zhf l 0 0=(decide (2≤(Qy 46 l).length) && (Qy 46 l).all Zh5):=by
 rw [Zqp]
 cases hsp : Qy 46 l with
 | nil=>exact absurd hsp ZfY
 | cons h t=>
  have h1 : decide (0+(h :: t).length≠1)=decide (2≤(h :: t).length):=by
   rw [decide_eq_decide]
   have : (h :: t).length=t.length+1:=rfl
   omega
  rw [h1]
  have h4 : (!(h==[]))=decide (h.length≠0):=by cases h <;> simp
  simp only [Zfk,List.all_cons,Zh5,Nat.zero_add,h4]
  rw [Bool.and_comm (h.all WV)]
section
variable {H X : Zd} {n : Nat} {s : List UInt8} {c : UInt8}
theorem ZAj {args : List Value} : run Tryz.prog np lvs (n+1) Yy args=Zjz args:=Zdc (show np Yy=some Zjz from rfl)
theorem ZAC {args : List Value} : run Tryz.prog np lvs (n+1) Ke args=ZiZ args:=Zdc (show np Ke=some ZiZ from rfl)
theorem Zta : R (n+3) Je [strv s,strv [c]] H=some (iv (Go.Lib.indexByte s c),H):=by
 have e1 : run Tryz.prog np lvs (n+2) J5 [strv s,u8v c] H=some (iv (Go.Lib.indexByte s c),H):=by
  have e0 : run Tryz.prog np lvs (n+1) Yy [strv s,u8v c] H=some (iv (Go.Lib.indexByte s c),H):=by rw [ZAj];exact ZBz
  rw [ZdZ rfl]
  unfold We
  rw [Za e0]
  rfl
 have q0 : bop .int .eql (iv [c].length) (.int .i64 0) H=some (.bool false,H):=by rw [ZD];rfl
 have q1 : bop .int .eql (iv [c].length) (.int .i64 1) H=some (.bool true,H):=by rw [ZD];rfl
 have x1 : ixs (strv [c]) (.int .i64 0) H=some (u8v c,H):=ZcN (s:=[c]) (i:=0) rfl .i64 H
 rw [R,Zfp rfl]
 unfold YC
 rw [Za ZP,Za q0,Z8,Zp,Za Zdh,Qb,ZU,Za Zn]
 simp only [cond_false]
 by_cases h : s=[c]
 ·subst h
  rw [Zb,if_pos (by simp)]
  unfold Go.Lib.indexByte
  simp [ret]
 ·rw [Zb,if_neg (by simp;exact fun e=>h e.symm),Za q1,Zb,if_pos rfl,Za x1,Za e1]
  rfl
theorem Zzj : R (n+4) ZaH [strv s,strv [c]] H=some (iv (Go.Lib.indexByte s c),H):=by
 have e1 : run Tryz.prog np lvs (n+3) Je [strv s,strv [c]] H=_:=Zta
 rw [R,Zoe rfl]
 unfold Zfv
 rw [Za e1]
 rfl
theorem ZAL : R (n+2) ZbP [strv s,strv [c]] H=some (iv (s.count c),H):=by
 have e0 : run Tryz.prog np lvs (n+1) Ke [strv s,u8v c] H=some (iv (s.count c),H):=by rw [ZAC];exact ZB7
 have q0 : bop .int .eql (iv [c].length) (.int .i64 0) H=some (.bool false,H):=by rw [ZD];rfl
 have q1 : bop .int .eql (iv [c].length) (.int .i64 1) H=some (.bool true,H):=by rw [ZD];rfl
 have x1 : ixs (strv [c]) (.int .i64 0) H=some (u8v c,H):=ZcN (s:=[c]) (i:=0) rfl .i64 H
 rw [R,Zoj rfl]
 unfold ZbS
 rw [Za ZP,Za q0,Zb,if_neg (by simp),Za ZP,Za q1,Zb,if_pos rfl,Za x1,Za e0]
 rfl
theorem ZoS {s : List UInt8} {c : UInt8} (h : c∈s) : (s.takeWhile (· !=c)).length < s.length:=by
 rcases Nat.lt_or_ge (s.takeWhile (· !=c)).length s.length with h1 | h1
 ·exact h1
 ·have h2 : s.takeWhile (· !=c)=s:=by
   have:=List.takeWhile_prefix (p:=(· !=c)) (l:=s)
   exact this.eq_of_length (by have:=this.length_le;omega)
  have h3:=List.all_eq_true.1 (List.all_takeWhile (p:=(· !=c)) (l:=s)) c (by rw [h2];exact h)
  simp at h3
theorem ZqJ {s : List UInt8} {p : UInt8→Bool} : s.take (s.takeWhile p).length=s.takeWhile p:=
 (List.prefix_iff_eq_take.1 (List.takeWhile_prefix p)).symm
theorem ZCf (hs : s.length≤1000000) : R (n+5) ZaY [strv s,strv [c]] H=some (if c∈s then .tuple #[strv (s.takeWhile (· !=c)),strv (s.drop ((s.takeWhile (· !=c)).length+1)),.bool true] else .tuple #[strv s,strv [],.bool false],H):=by
 have e1 : run Tryz.prog np lvs (n+3) Je [strv s,strv [c]] H=_:=Zta
 have e2 : run Tryz.prog np lvs (n+4) Wb [strv s,strv [c]] H=some (if c∈s then .tuple #[strv (s.takeWhile (· !=c)),strv (s.drop ((s.takeWhile (· !=c)).length+1)),.bool true] else .tuple #[strv s,strv [],.bool false],H):=by
  rw [Zgj rfl]
  unfold ZaP
  rw [Za e1,Zft,Za Qm,Zb]
  by_cases h : c∈s
  ·have hl:=ZoS h
   have w : IntKind.i64.wrap (((s.takeWhile (· !=c)).length : Int)+(([c] : List UInt8).length : Nat))=(((s.takeWhile (· !=c)).length+1 : Nat) : Int):=Qi (by omega)
   rw [if_pos h,if_pos (by simp),Za (Zst (by omega)),ZqJ,Za ZP,Za ZB,w,Za (Zz1 (by omega)),if_pos h]
   rfl
  ·rw [if_neg h,if_neg (by decide),if_neg h]
   rfl
 rw [R,ZqZ rfl]
 unfold Zg8
 rw [Za e2]
 by_cases h : c∈s
 ·rw [if_pos h];rfl
 ·rw [if_neg h];rfl
theorem Zui {v : Value} {q : List Nat} {N : Nat} (hN : N≤1000001) : ∀ (t i : Nat) (s : List UInt8) (cs : List (List UInt8)) (X : Zd),N - 1 - i=t→i < N→s.length≤1000000→s.count c+1+i=N→cs.length=N→Zw X v (cs.map strv) q→
  ∃ (X' : Zd) (s' : List UInt8) (cs' : List (List UInt8)),Zi (c6 (Yl.l1 (R (n+4)))) [strv s,strv [c],iv 0,iv ((N - 1 : Nat) : Int),v,iv i] X=some (.ext 0 [strv s',v,iv ((N - 1 : Nat) : Int)],X')∧Zw X' v (cs'.map strv) q∧cs'.length=N∧cs'.take (N - 1)++[s']=cs.take i++Qy c s∧Zx q X q X'
 | 0,i,s,cs,X,ht,hi,hs,hc,hl,hr=>by
  have hi2 : i=N - 1:=by omega
  subst hi2
  have hcs : c∉s:=by
   intro h
   have:=List.count_pos_iff.2 h
   omega
  refine ⟨X,s,cs,ZN ?_,hr,hl,by rw [ZoA hcs],.refl _ _⟩
  rw [Jw]
  unfold Yl.l1
  rw [Za Zk,Zb,if_neg (by simp)]
  rfl
 | t+1,i,s,cs,X,ht,hi,hs,hc,hl,hr=>by
  have hlt : (i : Int) < ((N - 1 : Nat) : Int):=by omega
  have hcs : c∈s:=List.count_pos_iff.1 (by omega)
  have htl:=ZoS hcs
  have hct:=Zy6 hcs
  have e1 : R (n+4) ZaH [strv s,strv [c]] X=_:=Zzj
  rw [Zft,if_pos hcs] at e1
  have w0 : IntKind.i64.wrap (((s.takeWhile (· !=c)).length : Int)+0)=((s.takeWhile (· !=c)).length : Int):=by rw [Int.add_zero];exact w64 (by omega) (by omega)
  have w : IntKind.i64.wrap (((s.takeWhile (· !=c)).length : Int)+(([c] : List UInt8).length : Nat))=(((s.takeWhile (· !=c)).length+1 : Nat) : Int):=Qi (by omega)
  have x1:=hr.ix (i:=i) (by simp;omega) .i64 X
  obtain ⟨X1,x2,r1,s1,_⟩:=hr.stx (i:=i) (u:=strv (s.takeWhile (· !=c))) (by simp;omega) rfl
  rw [show (cs.map strv).set i (strv (s.takeWhile (· !=c)))=(cs.set i (s.takeWhile (· !=c))).map strv from by rw [List.map_set]] at r1
  obtain ⟨X',s',cs',e2,r2,l2,h2,s2⟩:=Zui hN t (i+1) (s.drop ((s.takeWhile (· !=c)).length+1)) (cs.set i (s.takeWhile (· !=c))) X1 (by omega) (by omega) (by simp;omega) (by omega) (by simpa using hl) r1
  refine ⟨X',s',cs',(ZA ?_).trans e2,r2,l2,?_,s1.trans s2⟩
  ·have q1 : bop .int .lss (iv ((s.takeWhile (· !=c)).length : Nat)) (.int .i64 0) X=some (.bool false,X):=by rw [Zk,decide_eq_false (by omega)]
   rw [Jw]
   unfold Yl.l1
   rw [Za Zk,Zb,if_pos (by simpa using hlt),Za e1,Za q1,Zb,if_neg (by simp),Za ZB,w0,Za (Zst (by omega)),ZqJ,Za x1,Za x2,Za ZP,Za ZB,w,Za (Zz1 (by omega)),Za ZB,Qi (by omega)]
   rfl
  ·have h5 : i < (cs.set i (s.takeWhile (· !=c))).length:=by simp;omega
   rw [h2,Zk1 hcs,List.take_succ_eq_append_getElem h5,List.take_set_of_le (Nat.le_refl _)]
   simp
theorem ZAw (hs : s.length≤1000000) : ∃ X' v q,R (n+6) Zb4 [strv s,strv [c]] X=some (v,X')∧Zw X' v ((Qy c s).map strv) q∧HLe X X':=by
 have hcl : s.count c≤s.length:=List.count_le_length
 have e0 : run Tryz.prog np lvs (n+4) ZbP [strv s,strv [c]] X=_:=ZAL (n:=n+2)
 have w1 : IntKind.i64.wrap ((s.count c : Int)+1)=((s.count c+1 : Nat) : Int):=Qi (by omega)
 have w2 : IntKind.i64.wrap ((s.length : Int)+1)=((s.length+1 : Nat) : Int):=Qi (by omega)
 have q0 : bop .int .eql (.int .i64 (-1)) (.int .i64 0) X=some (.bool false,X):=by rw [ZD];rfl
 have q1 : bop .str .eql (strv [c]) (.string ⟨#[]⟩) X=some (.bool false,X):=Zdh (b:=[])
 have q2 : bop .int .lss (.int .i64 (-1)) (.int .i64 0) X=some (.bool true,X):=by rw [Zk];rfl
 have hm : mxi false (iv ((s.count c+1 : Nat) : Int)) (iv ((s.length+1 : Nat) : Int)) X=some (iv ((s.count c+1 : Nat) : Int),X):=by rw [YN,if_neg (by omega)]
 have e1:=ZCi (k:=s.count c+1) (b:=16) (z:=.string ⟨#[]⟩) (H:=X) rfl (by omega) (by omega)
 have k1 : HLe X (X++[.cells (List.replicate (s.count c+1) (Value.string ⟨#[]⟩)) 1 false false]):=.app _ _
 have r1 : Zw (X++[.cells (List.replicate (s.count c+1) (Value.string ⟨#[]⟩)) 1 false false]) (.slice (some ⟨X.length,0,none⟩) (s.count c+1) (s.count c+1)) ((List.replicate (s.count c+1) ([] : List UInt8)).map strv) [X.length]:=by
  rw [List.map_replicate]
  exact Zw.new ZC
 have ho : ∀ j∈[X.length],X.length≤j:=by simp
 generalize X++[Zf.cells (List.replicate (s.count c+1) (Value.string ⟨#[]⟩)) 1 false false]=X1 at e1 k1 r1
 generalize hv : Value.slice (some ⟨X.length,0,none⟩) (s.count c+1) (s.count c+1)=v at e1 r1
 have w3 : IntKind.i64.wrap (((s.count c+1 : Nat) : Int) - 1)=((s.count c+1 - 1 : Nat) : Int):=Zw3 (by omega) (by omega)
 obtain ⟨X2,s',cs',e2,r2,l2,h2,s2⟩:=Zui (n:=n) (c:=c) (N:=s.count c+1) (by omega) (s.count c+1 - 1 - 0) 0 s _ X1 rfl (by omega) hs (by omega) (by simp) r1
 have e2 : Zi (c6 (Yl.l1 (R (n+4)))) [strv s,strv [c],.int .i64 0,iv ((s.count c+1 - 1 : Nat) : Int),v,.int .i64 0] X1=_:=e2
 have x1:=r2.ix (i:=s.count c+1 - 1) (by simp;omega) .i64 X2
 obtain ⟨X3,x2,r3,s3,_⟩:=r2.stx (i:=s.count c+1 - 1) (u:=strv s') (by simp;omega) rfl
 have hfin : (cs'.set (s.count c+1 - 1) s')=Qy c s:=by
  have h6 : s.count c+1 - 1 < cs'.length:=by omega
  rw [← List.take_append_drop (s.count c+1 - 1) (cs'.set (s.count c+1 - 1) s'),List.take_set_of_le (Nat.le_refl _),List.drop_set]
  rw [if_neg (by omega),Nat.sub_self]
  have hd : (cs'.drop (s.count c+1 - 1)).length=1:=by simp;omega
  obtain ⟨a,ha⟩:=List.length_eq_one_iff.1 hd
  rw [ha,List.set_cons_zero,h2]
  rfl
 rw [show (cs'.map strv).set (s.count c+1 - 1) (strv s')=(cs'.set (s.count c+1 - 1) s').map strv from by rw [List.map_set],hfin] at r3
 have hlen : ((Qy c s).map strv).length=s.count c+1:=by rw [List.length_map,ZeS]
 have x3 : ∃ v',slv 1 v none (some (iv ((s.count c+1 : Nat) : Int))) none X3=some (v',X3)∧Zw X3 v' ((Qy c s).map strv) [X.length]:=by
  rcases r3 with ⟨h,_,_⟩ | ⟨sid,rest,g,h1,h3,h4⟩
  ·rw [h] at hlen;simp at hlen
  ·rw [hlen] at h1
   refine ⟨.slice (some ⟨sid,0,none⟩) (s.count c+1) (s.count c+1+rest.length),?_,.inr ⟨sid,rest,g,by rw [hlen],h3,h4⟩⟩
   have b1 : bnd (some (iv ((s.count c+1 : Nat) : Int))) (s.count c+1)=some (s.count c+1):=by simp [bnd];omega
   have b2 : ∀ d,bnd none d=some d:=fun _=>rfl
   rw [h1]
   simp only [slv,h4,b1,b2]
   rw [if_pos ⟨trivial,by omega,by omega,Nat.le_refl _⟩,if_neg (by omega)]
   simp
 obtain ⟨v',x3,r4⟩:=x3
 have w4 : IntKind.i64.wrap (((s.count c+1 - 1 : Nat) : Int)+1)=((s.count c+1 : Nat) : Int):=by rw [Qi (by omega)];congr 1
 have e3 : run Tryz.prog np lvs (n+5) ZbK [strv s,strv [c],.int .i64 0,.int .i64 (-1)] X=some (v',X3):=by
  rw [Zkp rfl]
  unfold Yl
  rw [Za q0,Zb,if_neg (by simp),Za q1,Zb,if_neg (by simp),Za q2]
  refine (ZS (vs:=[strv s,strv [c],.int .i64 0,iv ((s.count c+1 : Nat) : Int)]) (H':=X) ?_).trans ?_
  ·rw [Zb,if_pos rfl,Za e0,Za ZB,w1];rfl
  ·rw [ZJ,Za ZP,Za ZB,w2,Za hm,Za e1,Za Q1,w3]
   refine (ZS (vs:=[strv s',v,iv ((s.count c+1 - 1 : Nat) : Int)]) (H':=X2) ?_).trans ?_
   ·rw [Z5 e2,ZG,ZU];rfl
   ·rw [ZU,Za x1,Za x2,Za ZB,w4,Za x3];rfl
 refine ⟨X3,v',[X.length],?_,r4,(k1.more (s2.trans s3) ho).1⟩
 rw [R,Zok rfl]
 unfold Zfs
 rw [Za e3]
 rfl
end
end Go.Proofs.YtedkoimihknggaaGreatDoor.A
namespace Go.Proofs.YtedkoimihknggaaGreatDoor.A
set_option linter.unusedVariables false
set_option linter.unusedSimpArgs false
open Go.Proofs Go.Proofs.YtedkoimihknggaaGreatDoor
section
variable {H X : Zd} {n : Nat} {s f : List UInt8} {c : UInt8}
theorem ZA4 {b : UInt8} : R (n+2) ZdH [u8v b] H=some (.bool (WV b),H):=by
 have e1 : run Tryz.prog np lvs (n+1) Y7 [u8v b] H=some (.bool (Wn b),H):=Zjq
 have e2 : run Tryz.prog np lvs (n+1) KB [u8v b] H=some (.bool (Zde b),H):=Zmh
 rw [R,ZrX rfl]
 unfold WV Zh4
 rw [Za e1]
 cases Wn b
 ·rw [Z8,Zp,Za e2,Qb,Qf,Za Zn]
  rfl
 ·rw [Za (g_r.trans (if_neg (by simp)))]
  simp only [List.replicate]
  rw [Qf,Za Zn]
  rfl
theorem Zxd (hs : s.length≤1000000000) : R (n+3) Wu [strv s,.func (.func ZdH) #[] #[]] H=some (.bool (s.all WV),H):=
 ZwA (fun b H=>by rw [ZsX];exact ZA4) hs
theorem ZxO {v : Value} {q : List Nat} {ls : List (List UInt8)} (hl : ls.length≤1000) (hb : ∀ l∈ls,l.length≤1000000) (hr : Zw X v (ls.map strv) q) : ∀ (t k : Nat),ls.length - k=t→k≤ls.length→
  Zi (c4 (KC.l1 (R (n+3)))) [strv f,v,iv ls.length,iv k] X=some (if (ls.drop k).all Zh5 then .ext 0 [strv f] else .ret (.tuple #[strv [],iv 11]),X)
 | 0,k,ht,hk=>by
  have : k=ls.length:=by omega
  subst this
  rw [List.drop_length]
  refine ZN ?_
  rw [ZJ]
  unfold KC.l1
  rw [Za Zk,Zb,if_neg (by simp)]
  rfl
 | t+1,k,ht,hk=>by
  have hkl : k < ls.length:=by omega
  have hlt : (k : Int) < ls.length:=by omega
  have hg:=List.getElem?_eq_getElem hkl
  have hm:=List.getElem_mem hkl
  have hd:=List.drop_eq_getElem_cons hkl
  generalize ls[k]=l at hg hd hm
  have x1:=hr.ix (i:=k) (by simpa using hkl) .i64 X
  have x2:=hr.ldx (Yt hg)
  have e1 : R (n+3) Wu [strv l,.func (.func ZdH) #[] #[]] X=some (.bool (l.all WV),X):=Zxd (Nat.le_trans (hb l hm) (by decide))
  have ih:=ZxO hl hb hr t (k+1) (by omega) (by omega)
  have q1 : bop .str .eql (strv l) (.string ⟨#[]⟩) X=some (.bool (l==[]),X):=Zdh (b:=[])
  have hb1 : c4 (KC.l1 (R (n+3))) [strv f,v,iv ls.length,iv k] X=some (if Zh5 l then .nrm [strv f,v,iv ls.length,iv ((k+1 : Nat) : Int)] else .ret (.tuple #[strv [],iv 11]),X):=by
   rw [ZJ]
   unfold KC.l1 Zh5
   rw [Za Zk,Zb,if_pos (by simpa using hlt),Za x1,Za x2,Za q1]
   cases l==[]
   ·rw [Z8,Zp,Za e1,Zp,Za ZF,Qb,ZU,Za Zn]
    simp only [cond_false]
    cases l.all WV
    ·rw [Zb,if_pos (by rfl)];rfl
    ·rw [Zb,if_neg (by simp),Za ZB,Qi (by omega)];rfl
   ·rw [Za (g_r.trans (if_neg (by simp)))]
    simp only [List.replicate]
    rw [ZU,Za Zn]
    simp only [cond_true]
    rw [Zb,if_pos rfl]
    rfl
  rw [hd,List.all_cons]
  cases hlb : Zh5 l
  ·rw [hlb] at hb1
   exact QR hb1
  ·rw [hlb] at hb1
   rw [Bool.true_and]
   exact (ZA hb1).trans ih
theorem ZfD {c : UInt8} : ∀ {s : List UInt8},∀ l∈Qy c s,l.length≤s.length
 | [],l,h=>by simp [Qy] at h;simp [h]
 | b :: s,l,h=>by
  rw [show Qy c (b :: s)=(if b=c then [] :: Qy c s else match Qy c s with | h :: t=>(b :: h) :: t | []=>[[b]]) from rfl] at h
  split at h
  ·rcases List.mem_cons.1 h with rfl | h
   ·simp
   ·have:=ZfD l h
    simp;omega
  ·cases hsp : Qy c s with
   | nil=>exact absurd hsp ZfY
   | cons a t=>
    rw [hsp] at h
    rcases List.mem_cons.1 h with rfl | h
    ·have:=ZfD (c:=c) (s:=s) a (by rw [hsp];simp)
     simpa using this
    ·have:=ZfD (c:=c) (s:=s) l (by rw [hsp];simp [h])
     simp;omega
theorem Zln : (Z7 s).length=s.length:=by simp [Z7]
theorem ZsO : ∃ X',R (n+8) Zbu [strv s] X=some (.tuple #[strv (if QB s then Z7 s else []),iv (if QB s then 0 else 11)],X')∧HLe X X':=by
 have f1 : ∀ r X',KC (R (n+7)) (strv s) X=some (r,X')→R (n+8) Zbu [strv s] X=some (r,X'):=fun r X' hr=>by rw [R,Zuz rfl];exact hr
 unfold QB
 by_cases h20 : s.length≤20
 ·have q1 : bop .int .gtr (iv s.length) (.int .i64 20) X=some (.bool false,X):=by rw [Qk,decide_eq_false (by omega)]
  obtain ⟨X1,e1,k1⟩:=ZBJ (n:=n+6) (s:=s) (H:=X) (by omega)
  have e1 : R (n+7) Ze8 [strv s] X=_:=e1
  have hfl : (Z7 s).length≤20:=by rw [Zln];exact h20
  generalize Z7 s=f at e1 hfl
  have e2 : R (n+7) ZaY [strv f,strv [64]] X1=_:=ZCf (n:=n+2) (c:=64) (by omega)
  obtain ⟨loc,e2'⟩ : ∃ loc : List UInt8,R (n+7) ZaY [strv f,strv [64]] X1=some (.tuple #[strv loc,strv (Zal f),.bool (decide (64∈f))],X1)∧(64∈f→loc=f.takeWhile (· !=64)):=by
   unfold Zal
   by_cases h : 64∈f
   ·rw [if_pos h] at e2
    exact ⟨_,by rw [e2,if_pos h,decide_eq_true h],fun _=>rfl⟩
   ·rw [if_neg h] at e2
    exact ⟨_,by rw [e2,if_neg h,decide_eq_false h],fun h2=>absurd h2 h⟩
  obtain ⟨e2',hloc⟩:=e2'
  have hdl : (Zal f).length≤20:=by unfold Zal;split <;> simp;omega
  obtain ⟨X2,v,q,e3,r3,k3⟩:=ZAw (n:=n+1) (c:=46) (s:=Zal f) (X:=X1) (by omega)
  have e3 : R (n+7) Zb4 [strv (Zal f),.string ⟨#[46]⟩] X1=_:=e3
  have e2'' : R (n+7) ZaY [strv f,.string ⟨#[64]⟩] X1=_:=e2'
  have hcl : (Zal f).count 46≤(Zal f).length:=List.count_le_length
  have hsl:=ZeS (c:=46) (s:=Zal f)
  have hl : Zy v X2=some (iv (Qy 46 (Zal f)).length,X2):=by have:=r3.rd.len (H':=X2);rwa [List.length_map] at this
  have e4 : R (n+7) ZaR [strv loc] X2=some (.bool (Zo loc),X2):=Zrp (n:=n+3)
  have e5:=ZxO (n:=n+4) (f:=f) (ls:=Qy 46 (Zal f)) (by omega) (fun l h=>Nat.le_trans (ZfD l h) (by omega)) r3 (Qy 46 (Zal f)).length 0 (by omega) (by omega)
  rw [List.drop_zero] at e5
  have e5 : Zi (c4 (KC.l1 (R (n+7)))) [strv f,v,iv (Qy 46 (Zal f)).length,.int .i64 0] X2=_:=e5
  refine ⟨X2,f1 _ _ ?_,k1.trans k3⟩
  unfold KC
  rw [Za ZP,Za q1,Zb,if_neg (by simp),Za e1,Za e2'']
  have t0 : Zm (.tuple #[strv loc,strv (Zal f),.bool (decide (64∈f))]) 0 X1=some (strv loc,X1):=rfl
  have t1 : Zm (.tuple #[strv loc,strv (Zal f),.bool (decide (64∈f))]) 1 X1=some (strv (Zal f),X1):=rfl
  have t2 : Zm (.tuple #[strv loc,strv (Zal f),.bool (decide (64∈f))]) 2 X1=some (.bool (decide (64∈f)),X1):=rfl
  rw [Za t0,Za t1,Za t2,Za e3,Za ZF]
  unfold okM
  rw [decide_eq_true h20]
  by_cases h : 64∈f
  ·rw [decide_eq_true h,← hloc h]
   simp only [Bool.not_true,Bool.true_and]
   rw [Z8,Zp,Za e4,Zp,Za ZF,Qb,ZU,Za Zn]
   simp only [cond_false]
   cases Zo loc
   ·simp only [Bool.not_false,Bool.false_and]
    rw [Za (g_r.trans (if_neg (by simp)))]
    simp only [List.replicate]
    rw [ZU,Za Zn]
    simp only [cond_true]
    rw [Zb,if_pos rfl]
    rfl
   ·simp only [Bool.not_true,Bool.true_and]
    rw [Z8,Zp,Za hl,Zp,Za Zk,Qb,ZU,Za Zn]
    simp only [cond_false]
    by_cases h2 : 2≤(Qy 46 (Zal f)).length
    ·rw [decide_eq_false (by omega),Zb,if_neg (by simp),Za hl,decide_eq_true h2,Bool.true_and]
     cases ha : (Qy 46 (Zal f)).all Zh5
     ·rw [ha] at e5
      rw [Yh e5]
      rfl
     ·rw [ha] at e5
      rw [Z5 e5,ZG]
      rfl
    ·rw [decide_eq_true (by omega),Zb,if_pos rfl,decide_eq_false h2]
     rfl
  ·rw [decide_eq_false h]
   simp only [Bool.not_false,Bool.false_and,Bool.and_false]
   rw [Za (g_r.trans (if_neg (by simp)))]
   simp only [List.replicate]
   rw [ZU,Za Zn]
   simp only [cond_true]
   rw [Za (g_r.trans (if_neg (by simp)))]
   simp only [List.replicate]
   rw [ZU,Za Zn]
   simp only [cond_true]
   rw [Zb,if_pos rfl]
   rfl
 ·have q1 : bop .int .gtr (iv s.length) (.int .i64 20) X=some (.bool true,X):=by rw [Qk,decide_eq_true (by omega)]
  refine ⟨X,f1 _ _ ?_,.refl _⟩
  unfold KC
  rw [Za ZP,Za q1,Zb,if_pos rfl,decide_eq_false h20]
  rfl
theorem ZCg {i : Nat} (hi : i < (f.takeWhile (· !=c)).length) : ∃ x,f[i]?=some x∧x≠c:=by
 have h1 : (f.takeWhile (· !=c))[i]?=f[i]?:=by
  conv=>rhs;rw [← List.takeWhile_append_dropWhile (p:=(· !=c)) (l:=f)]
  rw [List.getElem?_append_left hi]
 have h2:=List.getElem?_eq_getElem hi
 have hm:=List.getElem_mem hi
 generalize (f.takeWhile (· !=c))[i]=x at h2 hm
 refine ⟨x,by rw [← h1,h2],?_⟩
 have:=List.all_eq_true.1 (List.all_takeWhile (p:=(· !=c)) (l:=f)) x hm
 simpa using this
theorem ZyF : ∀ {f : List UInt8},c∈f→f[(f.takeWhile (· !=c)).length]?=some c
 | [],h=>by cases h
 | b :: f,h=>by
  by_cases hb : b=c
  ·subst hb;simp
  ·have hm : c∈f:=by
    rcases List.mem_cons.1 h with h | h
    ·exact absurd h.symm hb
    ·exact h
   have ih:=ZyF hm
   have h2 : (b !=c)=true:=by simp [hb]
   rw [List.takeWhile_cons,h2]
   simpa using ih
theorem Ztc : ∀ {f : List UInt8},c∉f→(f.takeWhile (· !=c)).length=f.length
 | [],_=>rfl
 | b :: f,h=>by
  simp only [List.mem_cons,not_or] at h
  have h2 : (b !=c)=true:=by simp [Ne.symm h.1]
  rw [List.takeWhile_cons,h2]
  simpa using Ztc h.2
theorem ZzW (hf : f.length≤1000000) : ∀ (t k : Nat),(f.takeWhile (· !=64)).length - k=t→k≤(f.takeWhile (· !=64)).length→
  Zi (c2 (Q2.l1 (R n))) [strv f,iv k] X=some (.ext 0 [strv f,iv (f.takeWhile (· !=64)).length],X)
 | 0,k,ht,hk=>by
  have : k=(f.takeWhile (· !=64)).length:=by omega
  subst this
  refine ZN ?_
  rw [Qf]
  unfold Q2.l1
  rw [Za ZP,Za Zk]
  by_cases h : 64∈f
  ·have hl:=ZoS h
   have x1:=ZcN (ZyF h) .i64 X
   have q1 : bop .int .neq (u8v 64) (.int .u8 64) X=some (.bool false,X):=by rw [Zq];rfl
   rw [decide_eq_true (by omega),Z8,Zp,Za x1,Zp,Za q1,Qb,ZJ,Za Zn]
   simp only [cond_true]
   rw [Zb,if_neg (by simp)]
   rfl
  ·have hl:=Ztc h
   rw [decide_eq_false (by omega),Za (g_r.trans (if_neg (by simp)))]
   simp only [List.replicate]
   rw [ZJ,Za Zn]
   simp only [cond_false]
   rw [Zb,if_neg (by simp)]
   rfl
 | t+1,k,ht,hk=>by
  have hkt : k < (f.takeWhile (· !=64)).length:=by omega
  have hle : (f.takeWhile (· !=64)).length≤f.length:=(List.takeWhile_prefix _).length_le
  obtain ⟨x,hx,hne⟩:=ZCg hkt
  have x1:=ZcN hx .i64 X
  have q1 : bop .int .neq (u8v x) (.int .u8 64) X=some (.bool true,X):=by
   have:=Ziu (a:=x) (b:=64)
   have h2 : (x==64)=false:=beq_eq_false_iff_ne.2 hne
   rw [h2] at this
   rw [Zq]
   have h3 : ((x.toNat : Int)==64)=false:=this
   simp only [bne,h3];rfl
  refine (ZA ?_).trans (ZzW hf t (k+1) (by omega) (by omega))
  rw [Qf]
  unfold Q2.l1
  rw [Za ZP,Za Zk,decide_eq_true (by omega),Z8,Zp,Za x1,Zp,Za q1,Qb,ZJ,Za Zn]
  simp only [cond_true]
  rw [Zb,if_pos rfl,Za ZB,Qi (by omega)]
  rfl
theorem Zqw (hf : f.length≤1000000) : ∀ (t k st lg : Nat),f.length - k=t→k≤f.length→st≤k→lg≤k→
  Zi (c4 (Q2.l2 (R (n+1)))) [strv f,iv st,iv lg,iv k] X=some (match Zcc (f.drop k) st lg with | some (a,b)=>.ext 2 [strv f,iv a,iv b] | none=>.ret (.tuple #[strv [],.bool false]),X)
 | 0,k,st,lg,ht,hk,h1,h2=>by
  have : k=f.length:=by omega
  subst this
  rw [List.drop_length]
  refine ZN ?_
  rw [ZJ]
  unfold Q2.l2
  rw [Za ZP,Za Zk,Zb,if_neg (by simp)]
  rfl
 | t+1,k,st,lg,ht,hk,h1,h2=>by
  have hkl : k < f.length:=by omega
  have hlt : (k : Int) < f.length:=by omega
  have hg:=List.getElem?_eq_getElem hkl
  have hd:=List.drop_eq_getElem_cons hkl
  generalize f[k]=x at hg hd
  have x1:=ZcN hg .i64 X
  have q1 : bop .int .eql (u8v x) (.int .u8 46) X=some (.bool (x==46),X):=by
   rw [ZD]
   congr 2
   exact congrArg Value.bool (Ziu (a:=x) (b:=46))
  have e1 : R (n+1) Zau [u8v x,.string ⟨#[97,98,99,100,101,102,103,104,105,106,107,108,109,110,111,112,113,114,115,116,117,118,119,120,121,122,48,49,50,51,52,53,54,55,56,57]⟩] X=some (.bool (WV x),X):=by
   rw [← Zuk]
   exact Zwe (t:=ZtC) (by decide)
  rw [hd]
  by_cases hx : x=46
  ·subst hx
   by_cases hl : lg=0
   ·subst hl
    refine (QR (v:=.tuple #[strv [],.bool false]) (H':=X) ?_).trans (by simp [Zcc])
    rw [ZJ]
    unfold Q2.l2
    rw [Za ZP,Za Zk,Zb,if_pos (by simpa using hlt),Za x1,Za q1]
    refine (Yh (v:=.tuple #[strv [],.bool false]) (H':=X) ?_).trans rfl
    rw [Zb,if_pos (by simp),Za ZD,Zb,if_pos (by rfl)]
    rfl
   ·have hs : Zcc (46 :: f.drop (k+1)) st lg=Zcc (f.drop (k+1)) (st+1) 0:=by simp [Zcc,hl]
    rw [hs]
    refine (ZA ?_).trans (Zqw hf t (k+1) (st+1) 0 (by omega) (by omega) (by omega) (by omega))
    rw [ZJ]
    unfold Q2.l2
    rw [Za ZP,Za Zk,Zb,if_pos (by simpa using hlt),Za x1,Za q1]
    refine (ZS (vs:=[strv f,iv ((st+1 : Nat) : Int),iv (0 : Nat),iv k]) (H':=X) ?_).trans ?_
    ·rw [Zb,if_pos (by simp),Za ZD,Zb,if_neg (by simp;omega),Za ZB,Qi (by omega)];rfl
    ·rw [ZJ,Za ZB,Qi (by omega)];rfl
  ·have hxf : (x==46)=false:=beq_eq_false_iff_ne.2 hx
   rw [hxf] at q1
   cases ha : WV x
   ·rw [ha] at e1
    refine (QR (v:=.tuple #[strv [],.bool false]) (H':=X) ?_).trans (by simp [Zcc,hx,ha])
    rw [ZJ]
    unfold Q2.l2
    rw [Za ZP,Za Zk,Zb,if_pos (by simpa using hlt),Za x1,Za q1]
    refine (Yh (v:=.tuple #[strv [],.bool false]) (H':=X) ?_).trans rfl
    rw [Zb,if_neg (by simp),Za x1,Za e1,Za ZF,Zb,if_pos (by rfl)]
    rfl
   ·rw [ha] at e1
    have hs : Zcc (x :: f.drop (k+1)) st lg=Zcc (f.drop (k+1)) st (lg+1):=by simp [Zcc,hx,ha]
    rw [hs]
    refine (ZA ?_).trans (Zqw hf t (k+1) st (lg+1) (by omega) (by omega) (by omega) (by omega))
    rw [ZJ]
    unfold Q2.l2
    rw [Za ZP,Za Zk,Zb,if_pos (by simpa using hlt),Za x1,Za q1]
    refine (ZS (vs:=[strv f,iv st,iv ((lg+1 : Nat) : Int),iv k]) (H':=X) ?_).trans ?_
    ·rw [Zb,if_neg (by simp),Za x1,Za e1,Za ZF,Zb,if_neg (by simp),Za ZB,Qi (by omega)];rfl
    ·rw [ZJ,Za ZB,Qi (by omega)];rfl
theorem ZxI : R (n+4) ZbD [strv s] X=some (.tuple #[strv (if QB s then Z7 s else []),.bool (QB s)],X):=by
 have f1 : ∀ r,Q2 (R (n+3)) (strv s) X=r→R (n+4) ZbD [strv s] X=r:=fun r hr=>by rw [R,ZrT rfl];exact hr
 refine f1 _ ?_
 unfold QB Q2
 by_cases h20 : s.length≤20
 ·have q1 : bop .int .gtr (iv s.length) (.int .i64 20) X=some (.bool false,X):=by rw [Qk,decide_eq_false (by omega)]
  have e1 : R (n+3) ZdG [strv s] X=some (strv (Z7 s),X):=Zxv (n:=n+2) (by omega)
  have hfl : (Z7 s).length≤20:=by rw [Zln];exact h20
  generalize Z7 s=f at e1 hfl
  have e2:=ZzW (n:=n+3) (X:=X) (f:=f) (by omega) (f.takeWhile (· !=64)).length 0 (by omega) (by omega)
  have e2 : Zi (c2 (Q2.l1 (R (n+3)))) [strv f,.int .i64 0] X=_:=e2
  have hle : (f.takeWhile (· !=64)).length≤f.length:=(List.takeWhile_prefix _).length_le
  rw [Za ZP,Za q1,Zb,if_neg (by simp),Za e1,Z5 e2,ZG,Qf,Za ZP,Za ZD,decide_eq_true h20]
  unfold okM
  by_cases h : 64∈f
  ·have hl:=ZoS h
   have hne : (((f.takeWhile (· !=64)).length : Int)==(f.length : Int))=false:=by rw [beq_eq_false_iff_ne];omega
   have e3 : R (n+3) QL [strv (f.takeWhile (· !=64))] X=some (.bool (Zo (f.takeWhile (· !=64))),X):=Zce
   rw [hne,Z8,Zp,Za (Zst (by omega)),ZqJ,Zp,Za e3,Zp,Za ZF,Qb,Qs,Za Zn,decide_eq_true h]
   simp only [cond_false,Bool.true_and]
   cases Zo (f.takeWhile (· !=64))
   ·rw [Zb,if_pos (by rfl)];rfl
   ·have hdm : Zal f=f.drop ((f.takeWhile (· !=64)).length+1):=by unfold Zal;rw [if_pos h]
    have e4:=Zqw (n:=n+2) (X:=X) (f:=f) (by omega) (f.length - ((f.takeWhile (· !=64)).length+1)) ((f.takeWhile (· !=64)).length+1) 0 0 rfl (by omega) (by omega) (by omega)
    have e4 : Zi (c4 (Q2.l2 (R (n+3)))) [strv f,.int .i64 0,.int .i64 0,iv (((f.takeWhile (· !=64)).length+1 : Nat) : Int)] X=_:=e4
    rw [← hdm] at e4
    rw [Zb,if_neg (by simp),Za ZB,Qi (by omega),Bool.true_and,← Zzy]
    unfold Zhf
    cases hsc : Zcc (Zal f) 0 0 with
    | none=>
     rw [hsc] at e4
     rw [Yh e4]
     rfl
    | some p=>
     obtain ⟨a,b⟩:=p
     rw [hsc] at e4
     rw [Z5 e4,ZG,ZU,Za ZD]
     by_cases ha : a=0
     ·subst ha
      have q2 : (((0 : Nat) : Int)==0)=true:=rfl
      rw [q2,Za (g_r.trans (if_neg (by simp)))]
      simp only [List.replicate]
      rw [Qf,Za Zn]
      simp only [cond_true]
      rw [Zb,if_pos rfl]
      rfl
     ·have q2 : (((a : Nat) : Int)==0)=false:=by rw [beq_eq_false_iff_ne];omega
      rw [q2,Z8,Zp,Za ZD,Qb,Qf,Za Zn]
      simp only [cond_false]
      by_cases hb : b=0
      ·subst hb
       rw [Zb,if_pos (by rfl)]
       simp [ret]
       rfl
      ·have q3 : (((b : Nat) : Int)==0)=false:=by rw [beq_eq_false_iff_ne];omega
       rw [q3,Zb,if_neg (by simp)]
       simp [ret,ha,hb]
  ·have hl:=Ztc h
   have hne : (((f.takeWhile (· !=64)).length : Int)==(f.length : Int))=true:=by rw [hl];simp
   rw [hne,Za (g_r.trans (if_neg (by simp))),decide_eq_false h]
   simp only [List.replicate]
   rw [Qs,Za Zn]
   simp only [cond_true]
   rw [Zb,if_pos rfl]
   rfl
 ·have q1 : bop .int .gtr (iv s.length) (.int .i64 20) X=some (.bool true,X):=by rw [Qk,decide_eq_true (by omega)]
  rw [Za ZP,Za q1,Zb,if_pos rfl,decide_eq_false h20]
  rfl
end
end Go.Proofs.YtedkoimihknggaaGreatDoor.A

namespace Go.Proofs.YtedkoimihknggaaGreatDoor.A
set_option linter.unusedVariables false
set_option linter.unusedSimpArgs false
structure W7 {α : Type} (enc : α→Value) (H : Zd) (id : Nat) (m : List (List UInt8 × α)) : Prop where
 ex : ∃ es clk,es.map kv=m.map (fun p=>(strv p.1,enc p.2))∧H[id]?=some (.map es clk)∧Zcn es clk
 nod : (m.map (·.1)).Nodup
section
variable {α : Type} {enc : α→Value} {H H' : Zd} {id : Nat} {m : List (List UInt8 × α)} {k : List UInt8} {v : α} {z : Value}
theorem W7.g (h : W7 enc H id m) : J8 enc H id m:=by
 obtain ⟨es,clk,h1,h2,h3⟩:=h.ex
 exact ⟨⟨es,h1,.inl ⟨clk,h2,h3⟩⟩,h.nod⟩
theorem W7.lt (h : W7 enc H id m) : id < H.length:=h.g.lt
theorem W7.keep (h : W7 enc H id m) (hk : H'[id]?=H[id]?) : W7 enc H' id m:=by
 obtain ⟨es,clk,h1,h2,h3⟩:=h.ex
 exact ⟨⟨es,clk,h1,by rw [hk];exact h2,h3⟩,h.nod⟩
theorem W7.hle (h : W7 enc H id m) (hl : HLe H H') : W7 enc H' id m:=h.keep (hl.step.keep id h.lt (by simp))
theorem W7.step {o1 o2 : List Nat} (h : W7 enc H id m) (hs : Zx o1 H o2 H') (hn : id∉o1) : W7 enc H' id m:=h.keep (hs.keep id h.lt hn)
theorem ZzX (H : Zd) : ∃ H',mkm H=some (.map (some H.length),H')∧W7 enc H' H.length ([] : List (List UInt8 × α))∧HLe H H'∧H'.length=H.length+1:=
 ⟨_,rfl,⟨⟨[],0,rfl,ZC,⟨by simp,by simp⟩⟩,by simp⟩,.app _ _,by simp⟩
theorem W7.clone (h : W7 enc H id m) : ∃ H',Zb5 [.map (some id)] H=some (.map (some H.length),H')∧W7 enc H' H.length m∧HLe H H'∧H'.length=H.length+1:=by
 obtain ⟨es,clk,h1,h2,h3⟩:=h.ex
 exact ⟨_,by unfold Zb5;simp only [h2],⟨⟨es,clk,h1,ZC,h3⟩,h.nod⟩,.app _ _,by simp⟩
theorem W7.mde (h : W7 enc H id m) : ∃ H',A.mde .str (.map (some id)) (strv k) H=some (.tuple #[],H')∧W7 enc H' id (JY k m)∧Zx [id] H [id] H'∧H'.length=H.length:=by
 obtain ⟨es,clk,h1,h2,hs⟩:=h.ex
 have hst : ∀ o,Zx [id] H [id] (H.set id o):=fun o=>⟨by simp,fun j hj hn=>List.getElem?_set_ne (fun e=>hn (by simp [e])),fun j hj=>.inl hj⟩
 have hnod:=Zpd (k:=k) h.nod
 rcases Zg0 (k:=k) 0 h1 with ⟨h3,h4⟩ | ⟨j,v0,h3,h4,h5⟩
 ·refine ⟨H,?_,by rw [Zrg h3];exact h,.refl _ _,rfl⟩
  unfold A.mde
  simp only [h2,ZaJ,cond_true,h4]
 ·have ha : JY k m=m.eraseIdx j:=(Ze1 h.nod h3).symm
  rw [ha] at hnod ⊢
  rw [Nat.zero_add] at h5
  have hm : (es.eraseIdx j).map kv=(m.eraseIdx j).map fun p=>(strv p.1,enc p.2):=by
   have hg : ∀ {β γ : Type} (f : β→γ) (l : List β) (j : Nat),(l.eraseIdx j).map f=(l.map f).eraseIdx j:=fun f l j=>by
    rw [List.eraseIdx_eq_take_drop_succ,List.eraseIdx_eq_take_drop_succ,List.map_append,List.map_take,List.map_drop]
   rw [hg,hg,h1]
  refine ⟨H.set id (.map (es.eraseIdx j) clk),?_,⟨⟨_,clk,hm,ZM h2,⟨fun e he=>hs.lt e ((List.eraseIdx_sublist es j).subset he),((List.eraseIdx_sublist es j).map _).nodup hs.nod⟩⟩,hnod⟩,hst _,by simp⟩
  unfold A.mde;simp only [h2,ZaJ,cond_true,h5]
theorem ZjO {es : List (Value × Value × Nat)} {j : Nat} {e : Value × Value × Nat} (hn : (es.map (·.2.2)).Nodup) (hj : es[j]?=some e) : es.findIdx? (fun x=>(x.2.2 : Int)==(e.2.2 : Nat))=some j:=by
 rw [List.findIdx?_eq_some_iff_getElem]
 have hlt:=(List.getElem?_eq_some_iff.1 hj).1
 have he:=(List.getElem?_eq_some_iff.1 hj).2
 refine ⟨hlt,by rw [he];simp,fun i hi=>?_⟩
 have hil : i < es.length:=by omega
 simp only [Bool.not_eq_true,beq_eq_false_iff_ne,ne_eq]
 intro h
 have h2 : es[i].2.2=e.2.2:=by omega
 have hp:=List.pairwise_iff_getElem.1 (List.nodup_iff_pairwise_ne.1 hn) i j (by simpa using hil) (by simpa using hlt) hi
 rw [List.getElem_map,List.getElem_map,he] at hp
 exact hp h2
theorem W7.put (h : W7 enc H id m) : ∃ t st H1 H2,men .str z (.map (some id)) (strv k) H=some (t,H1)∧Zm t 1 H1=some (st,H1)∧ens (.map (some id)) st (enc v) H1=some (undef,H2)∧W7 enc H2 id (Qr k v m)∧Zx [id] H [id] H1∧Zx [id] H [id] H2∧H2.length=H.length:=by
 obtain ⟨es,clk,h1,h2,hs⟩:=h.ex
 have hst : ∀ o,Zx [id] H [id] (H.set id o):=fun o=>⟨by simp,fun j hj hn=>List.getElem?_set_ne (fun e=>hn (by simp [e])),fun j hj=>.inl hj⟩
 have hst2 : ∀ o o',Zx [id] H [id] ((H.set id o).set id o'):=fun o o'=>⟨by simp,fun j hj hn=>by rw [List.getElem?_set_ne (fun e=>hn (by simp [e])),List.getElem?_set_ne (fun e=>hn (by simp [e]))],fun j hj=>.inl hj⟩
 have hnod:=ZpS (k:=k) (v:=v) h.nod
 rcases Zg0 (k:=k) 0 h1 with ⟨h3,h4⟩ | ⟨j,v0,h3,h4,h5⟩
 ·have ha : Qr k v m=m++[(k,v)]:=by unfold Qr;rw [h3];rfl
  rw [ha] at hnod ⊢
  have hS : Zcn (es++[(strv k,z,clk)]) (clk+1):=⟨fun e he=>by
   rcases List.mem_append.1 he with he | he
   ·have:=hs.lt e he;omega
   ·have : e=(strv k,z,clk):=by simpa using he
    rw [this];exact Nat.lt_succ_self _,by
   rw [List.map_append,List.nodup_append]
   refine ⟨hs.nod,by simp,fun a ha b hb=>?_⟩
   have hb : b=clk:=by simpa using hb
   obtain ⟨e,he,rfl⟩:=List.mem_map.1 ha
   have:=hs.lt e he;omega⟩
  have hlen : es.length=m.length:=by have:=congrArg List.length h1;simpa using this
  have hget : (es++[(strv k,z,clk)])[es.length]?=some (strv k,z,clk):=by simp
  have hfi:=ZjO hS.nod hget
  have hgk : ((es++[(strv k,z,clk)]).map kv)[es.length]?=some (strv k,z):=by rw [List.getElem?_map,hget];rfl
  refine ⟨.tuple #[z,.int .i64 (clk : Nat)],.int .i64 (clk : Nat),H.set id (.map (es++[(strv k,z,clk)]) (clk+1)),(H.set id (.map (es++[(strv k,z,clk)]) (clk+1))).set id (.map (YS (es++[(strv k,z,clk)]) es.length (enc v)) (clk+1)),?_,rfl,?_,⟨⟨_,clk+1,?_,ZM (ZM h2),Zmr hS⟩,hnod⟩,hst _,hst2 _ _,by simp⟩
  ·unfold men;simp only [h2,ZaJ,cond_true,h4]
  ·unfold ens
   simp only [ZM h2,hfi]
  ·rw [Zi7 hgk,List.map_append,h1,List.map_append]
   have : es.length=(m.map fun p=>(strv p.1,enc p.2)).length:=by rw [List.length_map,hlen]
   rw [this]
   simp [kv]
 ·have ha : Qr k v m=m.set j (k,v):=by unfold Qr;rw [h4];exact (ZiU h.nod h3).symm
  rw [ha] at hnod ⊢
  rw [Nat.zero_add] at h5
  have hget : (es.map kv)[j]?=some (strv k,enc v0):=by rw [h1,List.getElem?_map,h3];rfl
  obtain ⟨e,he,hek⟩ : ∃ e,es[j]?=some e∧kv e=(strv k,enc v0):=by
   rw [List.getElem?_map] at hget
   cases hh : es[j]? with
   | none=>rw [hh] at hget;cases hget
   | some e=>rw [hh] at hget;exact ⟨e,rfl,by simpa using hget⟩
  have hfi:=ZjO hs.nod he
  have hgd : (es.getD j (undef,undef,0)).2.2=e.2.2:=by rw [List.getD_eq_getElem?_getD,he];rfl
  refine ⟨.tuple #[enc v0,.int .i64 (e.2.2 : Nat)],.int .i64 (e.2.2 : Nat),H,H.set id (.map (YS es j (enc v)) clk),?_,rfl,?_,⟨⟨_,clk,?_,ZM h2,Zmr hs⟩,hnod⟩,.refl _ _,hst _,by simp⟩
  ·unfold men;simp only [h2,ZaJ,cond_true,h5,hgd]
  ·unfold ens
   simp only [h2,hfi]
  ·rw [Zi7 hget,h1,List.map_set]
end
end Go.Proofs.YtedkoimihknggaaGreatDoor.A

namespace Go.Proofs.YtedkoimihknggaaGreatDoor.A
set_option linter.unusedVariables false
set_option linter.unusedSimpArgs false
open Go.Proofs Go.Proofs.YtedkoimihknggaaGreatDoor
structure Inv (OW OF : YU) : Prop where
 inv : ∀ k v,Ze k OF=some v↔Ze v OW=some k
 same : OW.length=OF.length
 lens : ∀ p∈OF,p.1≠[]∧p.1.length≤12∧p.2≠[]∧p.2.length≤20
def W3 (k : List UInt8) (OW OF : YU) : YU:=match Ze k OF with
 | some m=>JY m OW
 | none=>OW
def Ku (k : List UInt8) (OF : YU) : YU:=match Ze k OF with
 | some _=>JY k OF
 | none=>OF
section
variable {OW OF : YU} {k f : List UInt8}
theorem Inv.drop (h : Inv OW OF) (n1 : (OW.map (·.1)).Nodup) (n2 : (OF.map (·.1)).Nodup) : Inv (W3 k OW OF) (Ku k OF):=by
 unfold W3 Ku
 cases hk : Ze k OF with
 | none=>exact h
 | some m=>
  have hm:=(h.inv k m).1 hk
  refine ⟨fun j v=>?_,?_,fun p hp=>h.lens p (List.mem_filter.1 hp).1⟩
  ·by_cases hj : j=k
   ·subst hj
    rw [Wt]
    constructor
    ·intro e;cases e
    ·intro e
     by_cases hv : v=m
     ·subst hv;rw [Wt] at e;cases e
     ·rw [Q6 hv,← h.inv] at e
      rw [hk] at e
      exact absurd (Option.some.inj e).symm hv
   ·rw [Q6 hj]
    by_cases hv : v=m
    ·subst hv
     rw [Wt,h.inv,hm]
     constructor
     ·intro e;exact absurd (Option.some.inj e).symm hj
     ·intro e;cases e
    ·rw [Q6 hv,h.inv]
  ·rw [Zog n1 (by rw [hm];rfl),Zog n2 (by rw [hk];rfl),h.same]
theorem Inv.put (h : Inv OW OF) (h1 : Ze f OW=none) (h2 : Ze k OF=none) (hk : k≠[]∧k.length≤12) (hf : f≠[]∧f.length≤20) : Inv (Qr f k OW) (Qr k f OF):=by
 refine ⟨fun j v=>?_,?_,fun p hp=>?_⟩
 ·by_cases hj : j=k
  ·subst hj
   rw [Kb]
   by_cases hv : v=f
   ·subst hv;rw [Kb];simp
   ·rw [JZ hv,← h.inv,h2]
    constructor
    ·intro e;exact absurd (Option.some.inj e).symm hv
    ·intro e;cases e
  ·rw [JZ hj]
   by_cases hv : v=f
   ·subst hv
    rw [Kb,h.inv,h1]
    constructor
    ·intro e;cases e
    ·intro e;exact absurd (Option.some.inj e).symm hj
   ·rw [JZ hv,h.inv]
 ·rw [Zfx,Zfx,h1,h2,h.same]
 ·unfold Qr at hp
  rw [h2] at hp
  simp only [Option.isSome_none,Bool.false_eq_true,if_false,List.mem_append,List.mem_singleton] at hp
  rcases hp with hp | rfl
  ·exact h.lens p hp
  ·exact ⟨hk.1,hk.2,hf.1,hf.2⟩
theorem Zdm : Ze k (Ku k OF)=none:=by
 unfold Ku
 cases hk : Ze k OF with
 | none=>exact hk
 | some m=>exact Wt
theorem ZoC (h : Inv OW OF) (hf : ∀ w,Ze f OW=some w→w=k) : Ze f (W3 k OW OF)=none:=by
 unfold W3
 cases hk : Ze k OF with
 | none=>
  cases ho : Ze f OW with
  | none=>rfl
  | some w=>
   have:=hf w ho
   subst this
   rw [← h.inv,hk] at ho
   cases ho
 | some m=>
  by_cases hm : f=m
  ·subst hm;exact Wt
  ·simp only
   rw [Q6 hm]
   cases ho : Ze f OW with
   | none=>rfl
   | some w=>
    have:=hf w ho
    subst this
    rw [← h.inv,hk] at ho
    exact absurd (Option.some.inj ho).symm hm
theorem ZdX {j : List UInt8} (hj : j≠k) : Ze j (Ku k OF)=Ze j OF:=by
 unfold Ku
 cases hk : Ze k OF with
 | none=>rfl
 | some m=>exact Q6 hj
def Yp (k m : List UInt8) (OW : YU) : Int:=
 if Zo k then (if m=[] then 0 else if QB m then (match Ze (Z7 m) OW with
  | some w=>if w=k then 0 else 9
  | none=>0) else 11) else 10
def Zig (k m : List UInt8) (OW OF : YU) : YU:=if Yp k m OW=0 then (if m=[] then W3 k OW OF else Qr (Z7 m) k (W3 k OW OF)) else OW
def ZbW (k m : List UInt8) (OW OF : YU) : YU:=if Yp k m OW=0 then (if m=[] then Ku k OF else Qr k (Z7 m) (Ku k OF)) else OF
def Zdn (old next : List UInt8) (OF : YU) : Int:=
 if Zo next then (match Ze old OF with
  | some _=>if (Ze next OF).isSome && !(next==old) then 9 else 0
  | none=>8) else 10
def Zop (old next : List UInt8) (OW OF : YU) : YU:=if Zdn old next OF=0 then Qr ((Ze old OF).getD []) next (W3 old OW OF) else OW
def Zfn (old next : List UInt8) (OF : YU) : YU:=if Zdn old next OF=0 then Qr next ((Ze old OF).getD []) (Ku old OF) else OF
theorem Zv3 (h : Zo k=true) : k≠[]∧k.length≤12:=by
 refine ⟨?_,Zch h⟩
 rintro rfl
 revert h;decide
theorem ZgZ {m : List UInt8} (h : QB m=true) : Z7 m≠[]∧(Z7 m).length≤20:=by
 unfold QB at h
 simp only [Bool.and_eq_true,decide_eq_true_eq] at h
 refine ⟨fun e=>?_,by rw [Zln];exact h.1⟩
 have h2:=h.2
 rw [e] at h2
 revert h2;decide
end
structure Idx (X : Zd) (x o a : Nat) (OW OF : YU) : Prop where
 c : X[x]?=some (.cells [.map (some o),.map (some a)] 1 false false)
 ow : W7 strv X o OW
 of : W7 strv X a OF
 ne : o≠a
 inv : Inv OW OF
section
variable {X X' : Zd} {n x o a : Nat} {OW OF : YU} {k m : List UInt8}
theorem Idx.not (h : Idx X x o a OW OF) : x≠o∧x≠a:=by
 constructor
 ·rintro rfl
  obtain ⟨es,clk,_,h2,_⟩:=h.ow.ex
  rw [h.c] at h2;cases h2
 ·rintro rfl
  obtain ⟨es,clk,_,h2,_⟩:=h.of.ex
  rw [h.c] at h2;cases h2
theorem Idx.hle (h : Idx X x o a OW OF) (hl : HLe X X') : Idx X' x o a OW OF:=⟨hl _ _ h.c,h.ow.hle hl,h.of.hle hl,h.ne,h.inv⟩
theorem Idx.lt (h : Idx X x o a OW OF) : x < X.length∧o < X.length∧a < X.length:=⟨Ql h.c,h.ow.lt,h.of.lt⟩
theorem Idx.step {o1 o2 : List Nat} (h : Idx X x o a OW OF) (hs : Zx o1 X o2 X') (h1 : x∉o1) (h2 : o∉o1) (h3 : a∉o1) : Idx X' x o a OW OF:=
 ⟨hs.get h.c h1,h.ow.step hs h2,h.of.step hs h3,h.ne,h.inv⟩
theorem Idx.l0 (h : Idx X x o a OW OF) : ld1 (pa x 0) X=some (.map (some o),X):=Zv h.c rfl
theorem Idx.l1 (h : Idx X x o a OW OF) : ld1 (pa x 1) X=some (.map (some a),X):=Zv h.c rfl
theorem ZsF {id : Nat} {mm : YU} (h : J8 strv X id mm) : lkp .str (.string ⟨#[]⟩) true (.map (some id)) (strv k) X=some (.tuple #[strv ((Ze k mm).getD []),.bool (Ze k mm).isSome],X):=by
 rw [h.lkp]
 cases Ze k mm <;> rfl
theorem Zx.mono2 {o1 o2 : List Nat} (h : Zx o1 X o1 X') (hs : ∀ j∈o1,j∈o2) : Zx o2 X o2 X':=h.more hs (fun j hj=>.inl hj)
theorem ZBD : ∃ X' x o a,R (n+1) ZhO [] X=some (pt x,X')∧Idx X' x o a [] []∧HLe X X'∧X.length≤x∧X.length≤o∧X.length≤a:=by
 obtain ⟨X1,e1,g1,l1,n1⟩:=ZzX (α:=List UInt8) (enc:=strv) X
 obtain ⟨X2,e2,g2,l2,n2⟩:=ZzX (α:=List UInt8) (enc:=strv) X1
 have e3 : bld (.agg #[.map none,.map none]) [(0,1,.map (some X.length)),(1,1,.map (some X1.length))] X2=some (.agg #[.map (some X.length),.map (some X1.length)],X2):=by simp [↓Z9,Qa,↓QG,Qn,Qq,Qo,↓Zb,Ye,Zu,YM,Qx,JG,QA,JH,JF,QT,JR,QU,Q0,Q8,Q4,QH,Zn,ZF,Y9,YN,Jq,Jc,Yd,ZB,Q1,J0,Yg,J2,ZD,Zq,Zk,Ja,Qk,Qm,Jy,JS,JU,Yc,↓Kj,Yf,↓g_r,Kh,Ks,W9,splice,Value.cells]
 have e4 : alc 1 (.agg #[.map (some X.length),.map (some X1.length)]) X2=some (pt X2.length,X2++[.cells [.map (some X.length),.map (some X1.length)] 1 false false]):=by
  rw [Q0];simp [Value.cells,oneCell]
 refine ⟨X2++[.cells [.map (some X.length),.map (some X1.length)] 1 false false],X2.length,X.length,X1.length,?_,⟨ZC,(g1.hle l2).hle (.app _ _),g2.hle (.app _ _),by omega,⟨fun k v=>by simp [Ze],rfl,by simp⟩⟩,(l1.trans l2).trans (.app _ _),by omega,Nat.le_refl _,by omega⟩
 rw [R,Zvg rfl]
 unfold ZlC
 rw [Za e1,Za e2,Za e3,Za e4]
 rfl
theorem Zmu (h : Idx X x o a OW OF) : ∃ X',R (n+1) Jz [pt x,strv k] X=some (.bool (Ze k OF).isSome,X')∧Idx X' x o a (W3 k OW OF) (Ku k OF)∧Zx [o,a] X [o,a] X':=by
 have e1:=ZsF (k:=k) h.of.g
 have f1 : ∀ r X',Zbs (R n) (pt x) (strv k) X=some (r,X')→R (n+1) Jz [pt x,strv k] X=some (r,X'):=fun r X' hr=>by rw [R,Zmz rfl];exact hr
 cases hk : Ze k OF with
 | none=>
  rw [hk] at e1
  simp only [Option.isSome_none,Option.getD_none] at e1 ⊢
  have hi : Idx X x o a (W3 k OW OF) (Ku k OF):=by unfold W3 Ku;rw [hk];exact h
  refine ⟨X,f1 _ _ ?_,hi,.refl _ _⟩
  unfold Zbs
  rw [Za Zu,Za Zg,Za h.l1,Za e1,Za Zt,Za Zs]
  refine (ZS (vs:=[.bool false]) (H':=X) ?_).trans rfl
  rw [Zb,if_neg (by simp)]
  rfl
 | some mm=>
  rw [hk] at e1
  simp only [Option.isSome_some,Option.getD_some] at e1 ⊢
  obtain ⟨X1,e2,m2,s2,_⟩:=h.ow.mde (k:=mm)
  have of1:=h.of.step s2 (by simp [Ne.symm h.ne])
  have c1:=s2.get h.c (by simp [h.not.1])
  obtain ⟨X2,e3,m3,s3,_⟩:=of1.mde (k:=k)
  have s12:=(s2.mono2 (o2:=[o,a]) (by simp)).trans (s3.mono2 (o2:=[o,a]) (by simp))
  have hinv:=h.inv.drop (k:=k) h.ow.nod h.of.nod
  have hi : Idx X2 x o a (W3 k OW OF) (Ku k OF):=by
   unfold W3 Ku at hinv ⊢
   rw [hk] at hinv ⊢
   exact ⟨s3.get c1 (by simp [h.not.2]),m2.step s3 (by simp [h.ne]),m3,h.ne,hinv⟩
  refine ⟨X2,f1 _ _ ?_,hi,s12⟩
  have l0' : ld1 (pa x 0) X=some (.map (some o),X):=h.l0
  have l1' : ld1 (pa x 1) X1=some (.map (some a),X1):=Zv c1 rfl
  unfold Zbs
  rw [Za Zu,Za Zg,Za h.l1,Za e1,Za Zt,Za Zs]
  refine (ZS (vs:=[.bool true]) (H':=X2) ?_).trans rfl
  rw [Zb,if_pos rfl,Za Zu,Za Zg,Za l0']
  refine (Za e2).trans ?_
  rw [Za Zu,Za Zg,Za l1',Za e3]
  rfl
theorem Zs4 {f : List UInt8} (h : Idx X x o a OW OF) (h1 : Ze f OW=none) (h2 : Ze k OF=none) (hk : k≠[]∧k.length≤12) (hf : f≠[]∧f.length≤20) :
  ∃ X',(∀ K : M Value,bind (men .str (.string ⟨#[]⟩) (.map (some o)) (strv f)) (fun v60=>bind (Zm v60 1) fun v61=>bind (ens (.map (some o)) v61 (strv k)) fun _=>bind (men .str (.string ⟨#[]⟩) (.map (some a)) (strv k)) fun v62=>bind (Zm v62 1) fun v63=>bind (ens (.map (some a)) v63 (strv f)) fun _=>K) X=K X')∧Idx X' x o a (Qr f k OW) (Qr k f OF)∧Zx [o,a] X [o,a] X':=by
 obtain ⟨t1,st1,Y1,Y2,e1,e2,e3,m1,_,s1,_⟩:=h.ow.put (k:=f) (v:=k) (z:=.string ⟨#[]⟩)
 have of1:=h.of.step s1 (by simp [Ne.symm h.ne])
 have c1:=s1.get h.c (by simp [h.not.1])
 obtain ⟨t2,st2,Z1,Z2,e4,e5,e6,m2,_,s2,_⟩:=of1.put (k:=k) (v:=f) (z:=.string ⟨#[]⟩)
 refine ⟨Z2,fun K=>?_,⟨s2.get c1 (by simp [h.not.2]),m1.step s2 (by simp [h.ne]),m2,h.ne,h.inv.put h1 h2 hk hf⟩,(s1.mono2 (o2:=[o,a]) (by simp)).trans (s2.mono2 (o2:=[o,a]) (by simp))⟩
 rw [Za e1,Za e2,Za e3,Za e4,Za e5,Za e6]
theorem Zxz (h : Idx X x o a OW OF) : ∃ X',R (n+9) Kf [pt x,strv k,strv m] X=some (iv (Yp k m OW),X')∧Idx X' x o a (Zig k m OW OF) (ZbW k m OW OF)∧Zx [o,a] X [o,a] X':=by
 have f1 : ∀ r X',K1 (R (n+8)) (pt x) (strv k) (strv m) X=some (r,X')→R (n+9) Kf [pt x,strv k,strv m] X=some (r,X'):=fun r X' hr=>by rw [R,Zoo rfl];exact hr
 have e1 : R (n+8) Q9 [strv k] X=some (iv (ZV k),X):=Zej (n:=n+3)
 have q1 : bop .str .eql (strv m) (.string ⟨#[]⟩) X=some (.bool (m==[]),X):=Zdh (b:=[])
 unfold Yp Zig ZbW Yp
 cases hn : Zo k
 ·have he : ZV k=10:=by unfold ZV;rw [hn];rfl
  refine ⟨X,f1 _ _ ?_,by simpa using h,.refl _ _⟩
  unfold K1
  rw [Za e1,he,Za Zq,Zb,if_pos (by rfl)]
  rfl
 ·have he : ZV k=0:=ZfT.2 hn
  by_cases hm0 : m=[]
  ·obtain ⟨X1,e2,i2,s2⟩:=Zmu (n:=n+7) (k:=k) h
   have e2 : R (n+8) Jz [pt x,strv k] X=_:=e2
   refine ⟨X1,f1 _ _ ?_,by simpa [hm0] using i2,s2⟩
   unfold K1
   rw [Za e1,he,Za Zq,Zb,if_neg (by decide),Za q1,Zb,if_pos (by simp [hm0]),Za e2]
   simp [hm0,ret]
  ·obtain ⟨X1,e2,k2⟩:=ZsO (n:=n) (s:=m) (X:=X)
   have h1:=h.hle k2
   have ks:=k2.step.more (o2:=[o,a]) (o2':=[o,a]) (by simp) (fun j hj=>.inl hj)
   cases hmb : QB m
   ·rw [hmb] at e2
    refine ⟨X1,f1 _ _ ?_,by simpa [hm0] using h1,ks⟩
    unfold K1
    rw [Za e1,he,Za Zq,Zb,if_neg (by decide),Za q1,Zb,if_neg (by simpa using hm0),Za e2,Za Zt,Za Zs]
    have q3 : bop .int .neq (iv (if false=true then 0 else 11)) (.int .i64 0) X1=some (.bool true,X1):=by rw [Zq];rfl
    rw [Za q3,Zb,if_pos rfl]
    simp [hm0,ret]
   ·rw [hmb] at e2
    simp only [if_true] at e2
    have e3:=ZsF (k:=Z7 m) h1.ow.g
    have hfm:=ZgZ hmb
    have hkn:=Zv3 hn
    have q3 : bop .int .neq (iv 0) (.int .i64 0) X1=some (.bool false,X1):=by rw [Zq];rfl
    simp only [if_true,if_neg hm0]
    have hgo : (∀ w,Ze (Z7 m) OW=some w→w=k)→∃ X',R (n+9) Kf [pt x,strv k,strv m] X=some (iv 0,X')∧Idx X' x o a (Qr (Z7 m) k (W3 k OW OF)) (Qr k (Z7 m) (Ku k OF))∧Zx [o,a] X [o,a] X':=fun hw=>by
     obtain ⟨X2,e4,i4,s4⟩:=Zmu (n:=n+7) (k:=k) h1
     have e4 : R (n+8) Jz [pt x,strv k] X1=_:=e4
     obtain ⟨X3,e5,i5,s5⟩:=Zs4 (k:=k) (f:=Z7 m) i4 (ZoC h.inv hw) Zdm hkn hfm
     refine ⟨X3,f1 _ _ ?_,i5,(ks.trans s4).trans s5⟩
     unfold K1
     rw [Za e1,he,Za Zq,Zb,if_neg (by decide),Za q1,Zb,if_neg (by simpa using hm0),Za e2,Za Zt,Za Zs,Za q3,Zb,if_neg (by simp),Za Zu,Za Zg,Za h1.l0,Za e3,Za Zt,Za Zs]
     cases ho : Ze (Z7 m) OW with
     | none=>
      simp only [Option.isSome_none]
      rw [Za (g_r.trans (if_neg (by simp)))]
      simp only [List.replicate]
      rw [ZU,Za Zn]
      simp only [cond_false]
      rw [Zb,if_neg (by simp),Za e4,Za Zu,Za Zg,Za i4.l0,Za Zu,Za Zg,Za i4.l1]
      exact e5 _
     | some w=>
      have:=hw w ho
      subst this
      have q4 : bop .str .neq (strv w) (strv w) X1=some (.bool false,X1):=by rw [WM];simp
      simp only [Option.isSome_some,Option.getD_some]
      rw [Z8,Zp,Za q4,Qb,ZU,Za Zn]
      simp only [cond_true]
      rw [Zb,if_neg (by simp),Za e4,Za Zu,Za Zg,Za i4.l0,Za Zu,Za Zg,Za i4.l1]
      exact e5 _
    cases ho : Ze (Z7 m) OW with
    | none=>simpa using hgo (fun w hw=>by rw [ho] at hw;cases hw)
    | some w=>
     by_cases hw : w=k
     ·simpa [hw] using hgo (fun w' hw'=>by rw [ho] at hw';cases hw';exact hw)
     ·simp only [if_neg hw]
      refine ⟨X1,f1 _ _ ?_,by simpa using h1,ks⟩
      have q4 : bop .str .neq (strv w) (strv k) X1=some (.bool true,X1):=by rw [WM,beq_eq_false_iff_ne.2 hw];rfl
      rw [ho] at e3
      simp only [Option.isSome_some,Option.getD_some] at e3
      unfold K1
      rw [Za e1,he,Za Zq,Zb,if_neg (by decide),Za q1,Zb,if_neg (by simpa using hm0),Za e2,Za Zt,Za Zs,Za q3,Zb,if_neg (by simp),Za Zu,Za Zg,Za h1.l0,Za e3,Za Zt,Za Zs,Z8,Zp,Za q4,Qb,ZU,Za Zn]
      simp only [cond_true]
      rw [Zb,if_pos rfl]
      rfl
theorem ZB5 {old next : List UInt8} (h : Idx X x o a OW OF) : ∃ X',R (n+6) Wm [pt x,strv old,strv next] X=some (iv (Zdn old next OF),X')∧Idx X' x o a (Zop old next OW OF) (Zfn old next OF)∧Zx [o,a] X [o,a] X':=by
 have f1 : ∀ r X',Kq (R (n+5)) (pt x) (strv old) (strv next) X=some (r,X')→R (n+6) Wm [pt x,strv old,strv next] X=some (r,X'):=fun r X' hr=>by rw [R,Zkd rfl];exact hr
 have e1 : R (n+5) Q9 [strv next] X=some (iv (ZV next),X):=Zej
 have e2:=ZsF (k:=old) h.of.g
 have e3:=ZsF (k:=next) h.of.g
 unfold Zdn Zop Zfn Zdn
 cases hn : Zo next
 ·have he : ZV next=10:=by unfold ZV;rw [hn];rfl
  refine ⟨X,f1 _ _ ?_,by simpa using h,.refl _ _⟩
  unfold Kq
  rw [Za e1,he,Za Zq,Zb,if_pos (by rfl)]
  rfl
 ·have he : ZV next=0:=ZfT.2 hn
  simp only [if_true]
  cases ho : Ze old OF with
  | none=>
   rw [ho] at e2
   simp only [Option.isSome_none,Option.getD_none] at e2
   refine ⟨X,f1 _ _ ?_,by simpa using h,.refl _ _⟩
   unfold Kq
   rw [Za e1,he,Za Zq,Zb,if_neg (by decide),Za Zu,Za Zg,Za h.l1,Za e2,Za Zt,Za Zs,Za Zu,Za Zg,Za h.l1,Za e3,Za Zt,Za Zs,Za ZF,Zb,if_pos (by rfl)]
   rfl
  | some mm=>
   rw [ho] at e2
   simp only [Option.isSome_some,Option.getD_some] at e2 ⊢
   have hml:=h.inv.lens (old,mm) (Wk ho)
   have hmo:=(h.inv.inv old mm).1 ho
   have q4 : bop .str .neq (strv next) (strv old) X=some (.bool (!(next==old)),X):=WM
   have hpk : ∀ K : Value→M Value,bind (ZH (.bool (Ze next OF).isSome) true 3 (bind (bop .str .neq (strv next) (strv old)) fun v43x16=>ret [strv next,strv old,v43x16])) (c3 fun _ _ q17_2=>bind (pick (.bool (Ze next OF).isSome) q17_2 (Value.bool false)) K) X=K (.bool ((Ze next OF).isSome && !(next==old))) X:=fun K=>by
    cases (Ze next OF).isSome
    ·rw [Za (g_r.trans (if_neg (by simp)))]
     simp only [List.replicate]
     rw [ZU,Za Zn]
     rfl
    ·rw [Z8,Zp,Za q4,Qb,ZU,Za Zn]
     rfl
   cases ht : (Ze next OF).isSome && !(next==old)
   ·rw [ht] at hpk
    simp only [Bool.false_eq_true,if_false,if_true]
    obtain ⟨X2,e4,i4,s4⟩:=Zmu (n:=n+4) (k:=old) h
    have e4 : R (n+5) Jz [pt x,strv old] X=_:=e4
    have hnn : Ze next (Ku old OF)=none:=by
     by_cases hno : next=old
     ·subst hno;exact Zdm
     ·rw [ZdX hno]
      have h5 : (next==old)=false:=beq_eq_false_iff_ne.2 hno
      rw [h5] at ht
      cases hx : Ze next OF with
      | none=>rfl
      | some y=>rw [hx] at ht;simp at ht
    obtain ⟨X3,e5,i5,s5⟩:=Zs4 (k:=next) (f:=mm) i4 (ZoC h.inv (fun w hw=>by rw [hmo] at hw;exact (Option.some.inj hw).symm)) hnn (Zv3 hn) ⟨hml.2.2.1,hml.2.2.2⟩
    refine ⟨X3,f1 _ _ ?_,i5,s4.trans s5⟩
    unfold Kq
    rw [Za e1,he,Za Zq,Zb,if_neg (by decide),Za Zu,Za Zg,Za h.l1,Za e2,Za Zt,Za Zs,Za Zu,Za Zg,Za h.l1,Za e3,Za Zt,Za Zs,Za ZF,Zb,if_neg (by simp)]
    refine (hpk _).trans ?_
    rw [Zb,if_neg (by simp),Za e4,Za Zu,Za Zg,Za i4.l0,Za Zu,Za Zg,Za i4.l1]
    exact e5 _
   ·rw [ht] at hpk
    simp only [if_true]
    refine ⟨X,f1 _ _ ?_,by simpa using h,.refl _ _⟩
    unfold Kq
    rw [Za e1,he,Za Zq,Zb,if_neg (by decide),Za Zu,Za Zg,Za h.l1,Za e2,Za Zt,Za Zs,Za Zu,Za Zg,Za h.l1,Za e3,Za Zt,Za Zs,Za ZF,Zb,if_neg (by simp)]
    refine (hpk _).trans ?_
    rw [Zb,if_pos rfl]
    rfl
theorem ZCk (h : Idx X x o a OW OF) : R (n+1) Zct [pt x,strv k] X=some (.tuple #[strv ((Ze k OF).getD []),.bool (Ze k OF).isSome],X):=by
 have e1:=ZsF (k:=k) h.of.g
 rw [R,Zoy rfl]
 unfold Zgd
 rw [Za Zu,Za Zg,Za h.l1,Za e1,Za Zt,Za Zs]
 rfl
end
end Go.Proofs.YtedkoimihknggaaGreatDoor.A
namespace Go.Proofs.YtedkoimihknggaaGreatDoor.A
set_option linter.unusedVariables false
set_option linter.unusedSimpArgs false
open Go.Proofs Go.Proofs.YtedkoimihknggaaGreatDoor
section
variable {H X X' : Zd} {n x o a : Nat} {OW OF : YU} {k m : List UInt8}
theorem ZA2 (h : Idx X x o a OW OF) : ∃ X' x' o' a',R (n+2) Zbg [pt x] X=some (pt x',X')∧Idx X' x' o' a' OW OF∧HLe X X'∧X.length≤x'∧X.length≤o'∧X.length≤a':=by
 obtain ⟨X1,e1,g1,l1,n1⟩:=h.ow.clone
 obtain ⟨X2,e2,g2,l2,n2⟩:=(h.of.hle l1).clone
 have e1' : run Tryz.prog np lvs (n+1) Qw [.map (some o)] X=some (.map (some X.length),X1):=by
  rw [Zdc (show np Qw=some Zb5 from rfl)]
  exact e1
 have e2' : run Tryz.prog np lvs (n+1) Qw [.map (some a)] X1=some (.map (some X1.length),X2):=by
  rw [Zdc (show np Qw=some Zb5 from rfl)]
  exact e2
 have e3 : bld (.agg #[.map none,.map none]) [(0,1,.map (some X.length)),(1,1,.map (some X1.length))] X2=some (.agg #[.map (some X.length),.map (some X1.length)],X2):=by simp [↓Z9,Qa,↓QG,Qn,Qq,Qo,↓Zb,Ye,Zu,YM,Qx,JG,QA,JH,JF,QT,JR,QU,Q0,Q8,Q4,QH,Zn,ZF,Y9,YN,Jq,Jc,Yd,ZB,Q1,J0,Yg,J2,ZD,Zq,Zk,Ja,Qk,Qm,Jy,JS,JU,Yc,↓Kj,Yf,↓g_r,Kh,Ks,W9,splice,Value.cells]
 have e4 : alc 1 (.agg #[.map (some X.length),.map (some X1.length)]) X2=some (pt X2.length,X2++[.cells [.map (some X.length),.map (some X1.length)] 1 false false]):=by
  rw [Q0];simp [Value.cells,oneCell]
 refine ⟨X2++[.cells [.map (some X.length),.map (some X1.length)] 1 false false],X2.length,X.length,X1.length,?_,⟨ZC,(g1.hle l2).hle (.app _ _),g2.hle (.app _ _),by omega,h.inv⟩,(l1.trans l2).trans (.app _ _),by omega,Nat.le_refl _,by omega⟩
 rw [R,ZmL rfl]
 unfold ZeG
 rw [Za Zu,Za Zg,Za h.l0,Za Zu,Za Zg,Za h.l1,Za e1',Za (h.hle l1).l1,ZZ,Za e2',Za e3,Za e4]
 rfl
end
end Go.Proofs.YtedkoimihknggaaGreatDoor.A
namespace Go.Proofs.YtedkoimihknggaaGreatDoor.A
set_option linter.unusedVariables false
set_option linter.unusedSimpArgs false
open Go.Proofs Go.Proofs.YtedkoimihknggaaGreatDoor
section
variable {n : Nat}
variable {X : Zd} {x o a : Nat} {OW OF : YU}
end
end Go.Proofs.YtedkoimihknggaaGreatDoor.A

