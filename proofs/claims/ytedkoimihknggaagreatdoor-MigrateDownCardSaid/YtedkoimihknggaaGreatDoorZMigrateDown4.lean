/- What the law MigrateDown needs (part 4). -/
import Derived.Test.YtedkoimihknggaaGreatDoorZMigrateDown3
import Derived.Maps.Own
import Derived.Sort.KeysCollected
import Derived.Lib.Bytealg
import Derived.Test.YtedkoimihknggaaGreatDoorProg
import Derived.WalkKit
import Derived.Maps.RangeWalk
import Derived.Deep.RegionWith
import Derived.Deep.Cut
import Derived.Laws.Cover1
import Derived.Sort.Walk0
import Derived.Sort.OwnSorted
import Derived.Shelf.SlGeneric
import Derived.Shelf.SlIter.Collect
import Derived.Shelf.SlSortCmp.Whole1
import Derived.Shelf.SlMaps.Clone
import Derived.Ground.GgzProg
import Derived.Ground.SlsfProg
import Derived.Ground.SlmcProg
import Derived.KernelRfl
namespace Go.Proofs.YtedkoimihknggaaGreatDoor.A
set_option linter.unusedVariables false
set_option linter.unusedSimpArgs false
open Go.Sort
section
variable {P : Program} {w0 : Qn} {ι : Nat→Option Loc} {H H1 : Zd} {w w' : World} {v : Value} {G : Nat}
def Zb1 (args : List Value) : M Value:=fun H=>
 match args with
 | [.map none]=>some (.map none,H)
 | [.map (some id)]=>match H[id]? with
  | some (.map es clk)=>some (.map (some H.length),H++[.map es clk])
  | some (.mapU es)=>some (.map (some H.length),H++[.mapU es])
  | _=>none
 | _=>none
structure Zhq (P : Program) (g : FuncId) : Prop where
 c : Zc5 P g
 nil : ∀ w,Calls P g #[.map none] w fun e w'=>e=.returned (.map none)∧w'=w
 some : ∀ b es clock w,w.heap[b]?=some (.map es clock)→Calls P g #[.map (some b)] w fun e w'=>e=.returned (.map (some w.heap.size))∧w'=w.alloc (.map es clock)
theorem Ziq {g : FuncId} (hC : Zhq P g) : ZfY P G w0 g Zb1:=by
 intro args H v H1 h
 refine .inl ⟨hC.c,fun ι w args' hS hr=>?_⟩
 unfold Zb1 at h
 split at h
 ·cases h
  obtain ⟨x,r,rfl,hx,hr2⟩:=hr.cons_inv
  rw [hr2.nil_inv,hx.scalar_inv rfl]
  refine (hC.nil w).mono fun e w' ⟨he,hw⟩=>⟨ι,_,.refl ι,he,.sc rfl,by rw [hw];exact hS⟩
 ·obtain ⟨x,r,rfl,hx,hr2⟩:=hr.cons_inv
  obtain ⟨l,hl,rfl⟩:=hx.map_inv
  rw [hr2.nil_inv]
  split at h
  ·rename_i id _ es clk hid
   cases h
   obtain ⟨en,hb,hge,hE⟩:=hS.mapR hid hl
   refine (hC.some l.blk en clk w hb).mono fun e w' ⟨he,hw⟩=>?_
   have hnew:=hS.new (x:=.map es clk) (l:=⟨w.heap.size,0,0,0,false⟩) (.map en clk) rfl ⟨_,en,Qs _ _ _,Zel w _,hS.size,hE.mono (Yp hS _)⟩
   exact ⟨_,_,Yp hS _,he,.mp (Qs _ _ _),by rw [hw];exact hnew⟩
  ·rename_i id _ es hid
   cases h
   obtain ⟨en,clk,es2,hb,hge,hE,hp⟩:=hS.mapUR hid hl
   refine (hC.some l.blk en clk w hb).mono fun e w' ⟨he,hw⟩=>?_
   have hnew:=hS.new (x:=.mapU es) (l:=⟨w.heap.size,0,0,0,false⟩) (.map en clk) rfl ⟨_,en,clk,es2,Qs _ _ _,Zel w _,hS.size,hE.mono (Yp hS _),hp⟩
   exact ⟨_,_,Yp hS _,he,.mp (Qs _ _ _),by rw [hw];exact hnew⟩
  ·cases h
 ·cases h
abbrev Qx (ks : List (List UInt8)) : List (List UInt8):=ks.mergeSort leB
structure ZfW (es : List (Value × Value × Nat)) (ks : List (List UInt8)) : Prop where
 keys : es.map (·.1)=ks.map strv
 nod : ks.Nodup
 few : ks.length≤1000000
 len : ∀ k∈ks,k.length≤1000000
theorem Zop {a b : List UInt8} (h : strv a=strv b) : a=b:=by simpa [strv] using h
theorem Zs9 {a b : List (List UInt8)} (h : a.map strv=b.map strv) : a=b:=by
 have : Function.Injective strv:=fun _ _ h=>Zop h
 exact (List.map_inj_right (fun _ _ h=>Zop h)).1 h
def ZiI (ks : List (List UInt8)) (H : Zd) : Option (Value × Zd):=
 if ks=[] then some (.slice none 0 0,H)
 else some (.slice (some ⟨H.length,0,none⟩) ks.length ks.length,H++[.cells ((Qx ks).map strv) 1 true false])
open Classical in
noncomputable def ZdO (gks : List FuncId) (gc : FuncId) (args : List Value) : M Value:=fun H=>
 if h : ∃ gk c id es ks,gk∈gks∧args=[.func (.func gk) #[] #[pt c],.func (.func gc) #[] #[]]∧(∃ e,H[c]?=some (.cells [.map (some id)] e false false))∧ZfW es ks∧((∃ clk,H[id]?=some (.map es clk)∧Zco es clk)∨H[id]?=some (.mapU es)) then
  ZiI (Classical.choose (Classical.choose_spec (Classical.choose_spec (Classical.choose_spec (Classical.choose_spec h))))) H
 else none
theorem Ztz {gks : List FuncId} {gc gk : FuncId} {c id e : Nat} {es : List (Value × Value × Nat)} {ks : List (List UInt8)} (hg : gk∈gks) (hc : H[c]?=some (.cells [.map (some id)] e false false)) (hk : ZfW es ks)
  (hm : (∃ clk,H[id]?=some (.map es clk)∧Zco es clk)∨H[id]?=some (.mapU es)) : ZdO gks gc [.func (.func gk) #[] #[pt c],.func (.func gc) #[] #[]] H=ZiI ks H:=by
 have hex : ∃ gk' c' id' es' ks',gk'∈gks∧[Value.func (.func gk) #[] #[pt c],.func (.func gc) #[] #[]]=[.func (.func gk') #[] #[pt c'],.func (.func gc) #[] #[]]∧(∃ e,H[c']?=some (.cells [.map (some id')] e false false))∧ZfW es' ks'∧((∃ clk,H[id']?=some (.map es' clk)∧Zco es' clk)∨H[id']?=some (.mapU es')):=
  ⟨gk,c,id,es,ks,hg,rfl,⟨e,hc⟩,hk,hm⟩
 unfold ZdO
 rw [dif_pos hex]
 congr 1
 obtain ⟨_,h2,⟨e',h3⟩,h4,h5⟩:=Classical.choose_spec (Classical.choose_spec (Classical.choose_spec (Classical.choose_spec (Classical.choose_spec hex))))
 generalize Classical.choose (Classical.choose_spec (Classical.choose_spec (Classical.choose_spec (Classical.choose_spec hex))))=ks' at h4 ⊢
 generalize Classical.choose (Classical.choose_spec (Classical.choose_spec (Classical.choose_spec hex)))=es' at h4 h5
 generalize Classical.choose (Classical.choose_spec (Classical.choose_spec hex))=id' at h3 h5
 generalize Classical.choose (Classical.choose_spec hex)=c' at h2 h3
 have ec : c=c':=by simp at h2;exact h2.2
 subst ec
 rw [hc] at h3
 have ei : id=id':=by simp at h3;exact h3.1
 subst ei
 have ees : es'=es:=by
  rcases hm with ⟨clk,h6,_⟩ | h6 <;> rcases h5 with ⟨clk',h7,_⟩ | h7 <;> rw [h6] at h7 <;> cases h7 <;> rfl
 subst ees
 exact Zs9 (h4.keys.symm.trans hk.keys)
theorem Zy8 {gks : List FuncId} {gc : FuncId} {args : List Value} (h : ZdO gks gc args H=some (v,H1)) :
  ∃ gk c id e es ks,gk∈gks∧args=[.func (.func gk) #[] #[pt c],.func (.func gc) #[] #[]]∧H[c]?=some (.cells [.map (some id)] e false false)∧ZfW es ks∧((∃ clk,H[id]?=some (.map es clk)∧Zco es clk)∨H[id]?=some (.mapU es))∧ZiI ks H=some (v,H1):=by
 have h0:=h
 unfold ZdO at h
 split at h
 ·rename_i hex
  obtain ⟨gk,c,id,es,ks,h1,rfl,⟨e,h3⟩,h4,h5⟩:=hex
  rw [Ztz h1 h3 h4 h5] at h0
  exact ⟨gk,c,id,e,es,ks,h1,rfl,h3,h4,h5,h0⟩
 ·cases h
structure ZiJ (P : Program) (g gk gc : FuncId) : Prop where
 c : Zc5 P g
 run : ∀ (w : World) (Bm b : Nat) (es : Array MapEntry) (clock : Nat) (ks : List (List UInt8)),Bm < w.heap.size→w.cell? ⟨Bm,0,none⟩=some (.map (some b))→w.heap[b]?=some (.map es clock)→es.toList.map (·.key)=ks.map strv→Go.MapKept.Stamped es clock→
  (∀ k∈ks,k.length≤1000000)→ks.length≤1000000→
  Calls P g #[.func (.func gk) #[] #[.pointer (some ⟨Bm,0,none⟩)],.func (.func gc) #[] #[]] w fun e w'=>∃ (v : Value) (t : TypeId),e=.returned v∧w'.ownsRow w.heap.size t 1 v ks.length ((Qx ks).map strv)∧(v=.slice none 0 0↔ks=[])∧Go.RowKit.Below w.heap.size w w'
theorem Sim.below (h : Sim G w0 ι H w) (hb : Go.RowKit.Below w.heap.size w w') : Sim G w0 ι H w':=by
 refine ⟨fun i x hx=>(h.obj i x hx).blk fun l hl hd=>?_,h.inj,Nat.le_trans h.size hb.size,fun b hlt=>by rw [hb.block b (Nat.lt_of_lt_of_le hlt h.size)];exact h.old b hlt,h.dom,h.glob,?_,fun b hbp=>?_,fun j cs es nx l hj hl=>(h.views j cs es nx l hj hl).to (.refl ι) fun h1 ⟨c0,el0,fr0,hc0⟩=>⟨fun c el fr hc=>⟨fr,by rw [hb.block _ (Array.getElem?_eq_some_iff.1 hc0).1];exact hc⟩,h1⟩⟩
 ·obtain ⟨l',hl',hlt⟩:=(h.obj i x hx).loc hd
  rw [hl] at hl';cases hl'
  exact hb.block _ hlt
 ·rw [hb.os,hb.tape,hb.output];exact h.rest
 ·obtain ⟨p1,p2,p3⟩:=h.prot b hbp
  have hlt : b < w.heap.size:=by
   rcases Nat.lt_or_ge b w.heap.size with h1 | h1
   ·exact h1
   ·rw [Array.getElem?_eq_none h1] at p1;cases p1
  exact ⟨by rw [hb.block b hlt];exact p1,p2,p3⟩
theorem JF.keys {ι : Nat→Option Loc} : ∀ {es : List (Value × Value × Nat)} {en : List MapEntry},JF ι es en→en.map (·.key)=es.map (·.1)∧en.map (·.born)=es.map (·.2.2)
 | [],[],_=>⟨rfl,rfl⟩
 | e :: es,n :: ns,h=>by
  obtain ⟨h1,h2⟩:=JF.keys h.2
  exact ⟨by rw [List.map_cons,List.map_cons,h1,h.1.2.1],by rw [List.map_cons,List.map_cons,h2,h.1.2.2.2]⟩
 | [],_ :: _,h=>h.elim
 | _ :: _,[],h=>h.elim
theorem ZwI {a b : List (List UInt8)} (h : a.Perm b) : Qx a=Qx b:=mergeSort_of_perm h
theorem Zld (ks : List (List UInt8)) : (Qx ks).length=ks.length:=List.length_mergeSort ks
theorem ZjS {ks : List (List UInt8)} (h : ks.Nodup) : (ks.map strv).Nodup:=by
 rw [List.nodup_iff_pairwise_ne] at h ⊢
 rw [List.pairwise_map]
 exact h.imp fun h e=>h (Zop e)
theorem Zvf {gks : List FuncId} {g gc : FuncId} (hgks : gks≠[]) (hC : ∀ gk∈gks,ZiJ P g gk gc) : ZfY P G w0 g (ZdO gks gc):=by
 intro args H v H1 h
 have hcall : Zc5 P g:=by
  cases gks with
  | nil=>exact absurd rfl hgks
  | cons a l=>exact (hC a (by simp)).c
 refine .inl ⟨hcall,fun ι w args' hS hr=>?_⟩
 obtain ⟨gk,c,id,e,es,ks,hg,rfl,hc,hk,hm,ho⟩:=Zy8 h
 obtain ⟨x,r,rfl,hx,hr2⟩:=hr.cons_inv
 obtain ⟨y,r,rfl,hy,hr3⟩:=hr2.cons_inv
 rw [hr3.nil_inv]
 obtain ⟨a1,b1,rfl,ha1,hb1⟩:=hx.fn_inv
 obtain ⟨a2,b2,rfl,ha2,hb2⟩:=hy.fn_inv
 have ea1 : a1=#[]:=by have:=ha1.nil_inv;simpa using this
 have ea2 : a2=#[]:=by have:=ha2.nil_inv;simpa using this
 have eb2 : b2=#[]:=by have:=hb2.nil_inv;simpa using this
 obtain ⟨p',q',eb1,hp',hq'⟩:=hb1.cons_inv
 have:=hq'.nil_inv
 subst this
 obtain ⟨lc,hlc,rfl⟩:=hp'.ptr_inv
 have eb1 : b1=#[.pointer (some ⟨lc.blk,lc.base+0,none⟩)]:=by
  apply Array.ext'
  simpa using eb1
 subst ea1
 subst ea2
 subst eb2
 subst eb1
 obtain ⟨cc,el,fr,_,hgrow,hbc,hb5,hb6,hrc,hro,_⟩:=hS.cellsR hc hlc
 have hbase : lc.base=0:=(hro rfl).2.2 hgrow
 have hbl : lc.blk < w.heap.size:=by
  rcases Nat.lt_or_ge lc.blk w.heap.size with h1 | h1
  ·exact h1
  ·rw [Array.getElem?_eq_none h1] at hbc;cases hbc
 obtain ⟨u,hu1,hu2⟩:=hrc.at (o:=0) (by simp)
 obtain ⟨lm,hlm,hu3⟩:=RV.map_inv (id:=id) hu2
 subst hu3
 have hcell : w.cell? ⟨lc.blk,0,none⟩=some (.map (some lm.blk)):=by
  rw [ZgV hbc]
  simpa [hbase] using hu1
 obtain ⟨en,clock,ks',hmb,hkeys,hst,hperm⟩ : ∃ (en : Array MapEntry) (clock : Nat) (ks' : List (List UInt8)),w.heap[lm.blk]?=some (.map en clock)∧en.toList.map (·.key)=ks'.map strv∧Go.MapKept.Stamped en clock∧ks'.Perm ks:=by
  rcases hm with ⟨clk,hid,hst⟩ | hid
  ·obtain ⟨en,hb,_,hE⟩:=hS.mapR hid hlm
   obtain ⟨k1,k2⟩:=JF.keys hE
   refine ⟨en,clk,ks,hb,k1.trans hk.keys,⟨fun x hx=>?_,by rw [k2];exact hst.nod,by rw [k1,hk.keys];exact ZjS hk.nod⟩,.refl _⟩
   have : x.born∈en.toList.map (·.born):=List.mem_map.2 ⟨x,hx,rfl⟩
   rw [k2] at this
   obtain ⟨e',h1,h2⟩:=List.mem_map.1 this
   rw [← h2];exact hst.lt e' h1
  ·obtain ⟨en,clk,es2,hb,_,hE,hp⟩:=hS.mapUR hid hlm
   obtain ⟨k1,k2⟩:=JF.keys hE
   have hpk : (es2.map (·.1)).Perm (es.map (·.1)):=by
    have:=hp.perm.map (·.1)
    rwa [Ze1,Ze1] at this
   obtain ⟨ks2,hks2⟩ : ∃ ks2 : List (List UInt8),es2.map (·.1)=ks2.map strv:=by
    refine ⟨es2.map fun e=>match e.1 with | .string s=>s.data.toList | _=>[],?_⟩
    rw [List.map_map]
    refine List.map_congr_left fun e he=>?_
    obtain ⟨s,hs⟩:=hp.strs e he
    simp [hs,strv]
   rw [hks2,hk.keys] at hpk
   have hpk2 : ks2.Perm ks:=by
    have h3:=hpk.map fun v : Value=>match v with | .string s=>s.data.toList | _=>([] : List UInt8)
    simpa [List.map_map,Function.comp_def,strv] using h3
   refine ⟨en,clk,ks2,hb,k1.trans hks2,⟨fun x hx=>?_,by rw [k2];exact hp.st.nod,by rw [k1];exact hp.nod2⟩,hpk2⟩
   have : x.born∈en.toList.map (·.born):=List.mem_map.2 ⟨x,hx,rfl⟩
   rw [k2] at this
   obtain ⟨e',h1,h2⟩:=List.mem_map.1 this
   rw [← h2];exact hp.st.lt e' h1
 have hfew:=hk.few
 have hcon:=(hC gk hg).run w lc.blk lm.blk en clock ks' hbl hcell hmb hkeys hst (fun k hm=>hk.len k (hperm.mem_iff.1 hm)) (by rw [hperm.length_eq];exact hfew)
 rw [ZwI hperm,hperm.length_eq] at hcon
 simp only [Nat.add_zero,hbase]
 refine hcon.mono fun ee w' ⟨v',t,he,hrow,hnil,hb⟩=>?_
 have hnil2 : v'=.slice none 0 0↔ks=[]:=by
  rw [hnil]
  constructor
  ·rintro rfl;exact List.eq_nil_of_length_eq_zero (by rw [← hperm.length_eq];rfl)
  ·rintro rfl;exact List.eq_nil_of_length_eq_zero (by rw [hperm.length_eq];rfl)
 have hS':=hS.below hb
 unfold ZiI at ho
 by_cases h0 : ks=[]
 ·rw [if_pos h0] at ho
  cases ho
  exact ⟨ι,_,.refl ι,he,by rw [hnil2.2 h0];exact .sc rfl,hS'⟩
 ·rw [if_neg h0] at ho
  cases ho
  rcases hrow.2 with ⟨hv,_⟩ | ⟨gb,cap,cur,rfl,hge,hgb,r1,r2,r3,r4⟩
  ·exact absurd (hnil2.1 hv) h0
  have hlen : ((Qx ks).map strv).length=ks.length:=by rw [List.length_map,Zld]
  rw [Nat.mul_one] at r3 r4
  have hadd:=hS'.add (o:=.cells ((Qx ks).map strv) 1 true false) (l:=⟨gb,0,cap,1,true⟩) ⟨⟨gb,0,cap,1,true⟩,cur,t,(0,0),Qs _ _ _,rfl,rfl,hgb,by show 0+_≤cap;omega,by show cap≤cur.size;omega,by
   show RVs _ _ ((cur.toList.drop 0).take _)
   rw [List.drop_zero,hlen,r4]
   refine ⟨rfl,fun i hi=>?_⟩
   rw [List.getD_eq_getElem?_getD,List.getElem?_eq_getElem hi]
   simp only [List.getElem_map,Option.getD_some]
   exact .sc rfl,fun _=>⟨Nat.le_trans hS.size hge,.inl rfl,fun h=>by cases h⟩,by simp,fun x hx=>by
   obtain ⟨k,_,rfl⟩:=List.mem_map.1 hx
   rfl⟩ (fun i oi li hi hw hl=>by
   have:=((hS.obj i oi hi).newer hw li hl).2
   show li.blk≠gb
   omega) (fun b hbp=>by
   have p1:=(hS.prot b hbp).1
   show gb≠b
   rintro rfl
   rw [Array.getElem?_eq_none hge] at p1;cases p1) (fun _ j cs es nx lj hj hlj hbe=>by
   rcases hS.views j cs es nx lj hj hlj with ⟨l',k1,k2⟩ | ⟨⟨c,el,fr,k1,_⟩,_⟩
   ·exact ⟨l',k1,k2⟩
   ·have:=(Array.getElem?_eq_some_iff.1 k1).1
    have hbe : lj.blk=gb:=hbe
    omega)
  refine ⟨_,_,Yp hS' _,he,?_,hadd⟩
  have:=RV.slc (ι:=Ku ι H.length ⟨gb,0,cap,1,true⟩) (id:=H.length) (o:=0) (n:=ks.length) (c:=ks.length) (c':=cap) (Qs _ _ _) (Nat.le_refl _) r1 (fun h=>by cases h) (by simp)
  simpa using this
end
end Go.Proofs.YtedkoimihknggaaGreatDoor.A
namespace Go.Proofs.YtedkoimihknggaaGreatDoor.A
set_option linter.unusedVariables false
set_option linter.unusedSimpArgs false
section
variable {α : Type}
def Zf (k : List UInt8) : List (List UInt8 × α)→Option α
 | []=>none
 | p :: m=>if p.1=k then some p.2 else Zf k m
def Yg (k : List UInt8) (m : List (List UInt8 × α)) : List (List UInt8 × α):=m.filter fun p=>decide (p.1≠k)
def Qw (k : List UInt8) (v : α) (m : List (List UInt8 × α)) : List (List UInt8 × α):=
 if (Zf k m).isSome then m.map fun p=>if p.1=k then (k,v) else p else m++[(k,v)]
variable {k : List UInt8} {v : α} {m : List (List UInt8 × α)}
theorem Zf3 : ∀ {m : List (List UInt8 × α)},Zf k m=none↔∀ p∈m,p.1≠k
 | []=>by simp [Zf]
 | p :: m=>by
  simp only [Zf]
  split
  ·rename_i h;simp [h]
  ·rename_i h
   rw [Zf3]
   simp [h]
theorem K6 : ∀ {m : List (List UInt8 × α)} {v : α},Zf k m=some v→(k,v)∈m
 | [],v,h=>by cases h
 | p :: m,v,h=>by
  simp only [Zf] at h
  split at h
  ·rename_i hp
   cases h
   subst hp
   simp
  ·exact List.mem_cons_of_mem _ (K6 h)
theorem ZbA : ∀ {m : List (List UInt8 × α)} {v : α},(m.map (·.1)).Nodup→(k,v)∈m→Zf k m=some v
 | [],v,_,h=>by cases h
 | p :: m,v,hn,h=>by
  simp only [List.map_cons,List.nodup_cons,List.mem_map,not_exists,not_and] at hn
  simp only [Zf]
  rcases List.mem_cons.1 h with h | h
  ·subst h;rw [if_pos rfl]
  ·rw [if_neg fun e=>hn.1 _ h e.symm]
   exact ZbA hn.2 h
theorem Zz4 : ∀ {m : List (List UInt8 × α)} {v : α},Zf k m=some v→∃ j : Nat,m[j]?=some (k,v)
 | m,v,h=>List.getElem?_of_mem (K6 h)
theorem Zjx : ∀ {m : List (List UInt8 × α)} {j : Nat} {v0 : α},(m.map (·.1)).Nodup→m[j]?=some (k,v0)→m.set j (k,v)=m.map fun p=>if p.1=k then (k,v) else p
 | [],j,v0,_,h=>by simp at h
 | p :: m,0,v0,hn,h=>by
  have : p=(k,v0):=by simpa using h
  subst this
  simp only [List.map_cons,List.nodup_cons,List.mem_map,not_exists,not_and] at hn
  simp only [List.set_cons_zero,List.map_cons,if_true]
  congr 1
  conv=>lhs;rw [← List.map_id m]
  refine List.map_congr_left fun q hq=>?_
  rw [if_neg (hn.1 q hq)];rfl
 | p :: m,j+1,v0,hn,h=>by
  have h' : m[j]?=some (k,v0):=by simpa using h
  simp only [List.map_cons,List.nodup_cons,List.mem_map,not_exists,not_and] at hn
  have hp : ¬ p.1=k:=fun e=>hn.1 (k,v0) (List.mem_of_getElem? h') e.symm
  simp only [List.set_cons_succ,List.map_cons,if_neg hp]
  rw [Zjx hn.2 h']
theorem Ze9 : ∀ {m : List (List UInt8 × α)} {j : Nat} {v0 : α},(m.map (·.1)).Nodup→m[j]?=some (k,v0)→m.eraseIdx j=Yg k m
 | [],j,v0,_,h=>by simp at h
 | p :: m,0,v0,hn,h=>by
  have : p=(k,v0):=by simpa using h
  subst this
  simp only [List.map_cons,List.nodup_cons,List.mem_map,not_exists,not_and] at hn
  unfold Yg
  rw [List.eraseIdx_cons_zero,List.filter_cons,if_neg (by simp)]
  symm
  rw [List.filter_eq_self]
  exact fun q hq=>decide_eq_true (hn.1 q hq)
 | p :: m,j+1,v0,hn,h=>by
  have h' : m[j]?=some (k,v0):=by simpa using h
  simp only [List.map_cons,List.nodup_cons,List.mem_map,not_exists,not_and] at hn
  have hp : ¬ p.1=k:=fun e=>hn.1 (k,v0) (List.mem_of_getElem? h') e.symm
  have ih:=Ze9 hn.2 h'
  unfold Yg at ih ⊢
  rw [List.eraseIdx_cons_succ,List.filter_cons,if_pos (by simpa using hp),ih]
theorem Zru (h : Zf k m=none) : Yg k m=m:=by
 unfold Yg
 rw [List.filter_eq_self]
 exact fun p hp=>decide_eq_true (Zf3.1 h p hp)
theorem Zpy (h : (m.map (·.1)).Nodup) : ((Qw k v m).map (·.1)).Nodup:=by
 unfold Qw
 split
 ·rw [List.map_map]
  have : ((fun p : List UInt8 × α=>p.1) ∘ fun p=>if p.1=k then (k,v) else p)=fun p=>p.1:=by
   funext p
   simp only [Function.comp]
   split
   ·rename_i h;exact h.symm
   ·rfl
  rw [this];exact h
 ·rename_i hs
  have hn : Zf k m=none:=by cases e : Zf k m <;> simp_all
  rw [List.map_append,List.nodup_append]
  refine ⟨h,by simp,fun a ha b hb=>?_⟩
  have hb : b=k:=by simpa using hb
  obtain ⟨p,hp,rfl⟩:=List.mem_map.1 ha
  rw [hb];exact Zf3.1 hn p hp
theorem ZpI (h : (m.map (·.1)).Nodup) : ((Yg k m).map (·.1)).Nodup:=(List.filter_sublist.map _).nodup h
end
theorem ZxF {a b : List UInt8} : ((⟨a.toArray⟩ : ByteArray)==⟨b.toArray⟩)=(a==b):=by
 rw [Zrc]
 simp
theorem Zg5 {α : Type} {enc : α→Value} {k : List UInt8} : ∀ {es : List (Value × Value × Nat)} {m : List (List UInt8 × α)} (i : Nat),es.map kv=m.map (fun p=>(strv p.1,enc p.2))→
  (Zf k m=none∧Yi .str (strv k) es i=some none)∨∃ j v,m[j]?=some (k,v)∧Zf k m=some v∧Yi .str (strv k) es i=some (some (i+j,enc v))
 | [],[],i,_=>.inl ⟨rfl,rfl⟩
 | e :: es,p :: m,i,h=>by
  simp only [List.map_cons,List.cons.injEq,kv,Prod.mk.injEq] at h
  obtain ⟨⟨h1,h2⟩,h3⟩:=h
  have hs : ZcV .str (strv k) e.1=some (k==p.1):=by rw [h1];simp only [ZcV,strv,ZxF]
  simp only [Yi,hs,Zf]
  by_cases hk : p.1=k
  ·rw [show (k==p.1)=true by rw [hk];simp,if_pos hk]
   exact .inr ⟨0,p.2,by rw [← hk];rfl,rfl,by rw [h2];rfl⟩
  ·rw [show (k==p.1)=false by rw [beq_eq_false_iff_ne];exact Ne.symm hk,if_neg hk]
   rcases Zg5 (i+1) h3 with ⟨h4,h5⟩ | ⟨j,v,h4,h5,h6⟩
   ·exact .inl ⟨h4,h5⟩
   ·exact .inr ⟨j+1,v,by simpa using h4,h5,by simp only;rw [h6];congr 3;omega⟩
 | [],_ :: _,_,h=>by cases h
 | _ :: _,[],_,h=>by cases h
theorem ZjU {u : Value} : ∀ {es : List (Value × Value × Nat)} {j : Nat} {p : Value × Value},(es.map kv)[j]?=some p→(YQ es j u).map kv=(es.map kv).set j (p.1,u)
 | [],j,p,h=>by simp at h
 | e :: es,0,p,h=>by
  have : kv e=p:=by simpa using h
  subst this
  simp [YQ,kv]
 | e :: es,j+1,p,h=>by
  have:=ZjU (u:=u) (es:=es) (j:=j) (p:=p) (by simpa using h)
  simp only [YQ] at this
  simp only [YQ,List.modify_succ_cons,List.map_cons,List.set_cons_succ,this]
section
variable {α : Type} {enc : α→Value} {H H' : Zd} {id : Nat} {m : List (List UInt8 × α)} {k : List UInt8} {v : α}
structure JH (enc : α→Value) (H : Zd) (id : Nat) (m : List (List UInt8 × α)) : Prop where
 ex : ∃ es,es.map kv=m.map (fun p=>(strv p.1,enc p.2))∧((∃ clk,H[id]?=some (.map es clk)∧Zco es clk)∨H[id]?=some (.mapU es))
 nod : (m.map (·.1)).Nodup
theorem JH.lt (h : JH enc H id m) : id < H.length:=by
 obtain ⟨es,_,h1 | h1⟩:=h.ex
 ·obtain ⟨clk,h1,_⟩:=h1;exact QD h1
 ·exact QD h1
theorem JH.keep (h : JH enc H id m) (hk : H'[id]?=H[id]?) : JH enc H' id m:=by
 obtain ⟨es,h1,h2⟩:=h.ex
 exact ⟨⟨es,h1,by rw [hk];exact h2⟩,h.nod⟩
theorem JH.hle (h : JH enc H id m) (hl : HLe H H') : JH enc H' id m:=h.keep (hl.step.keep id h.lt (by simp))
theorem JH.step {o1 o2 : List Nat} (h : JH enc H id m) (hs : ZC o1 H o2 H') (hn : id∉o1) : JH enc H' id m:=h.keep (hs.keep id h.lt hn)
theorem ZaC : okK .str (strv k)=true:=rfl
theorem JH.len (h : JH enc H id m) : lenM (.map (some id)) H=some (iv m.length,H):=by
 obtain ⟨es,h1,h2⟩:=h.ex
 have hl : es.length=m.length:=by have:=congrArg List.length h1;simpa using this
 unfold lenM
 rcases h2 with ⟨clk,h2,_⟩ | h2 <;> simp only [h2,hl]
theorem JH.lkp (h : JH enc H id m) {z : Value} {ok : Bool} : A.lkp .str z ok (.map (some id)) (strv k) H=
  some (match Zf k m with
   | some v=>bif ok then .tuple #[enc v,.bool true] else enc v
   | none=>bif ok then .tuple #[z,.bool false] else z,H):=by
 obtain ⟨es,h1,h2⟩:=h.ex
 unfold A.lkp
 rcases Zg5 (k:=k) 0 h1 with ⟨h3,h4⟩ | ⟨j,v,h3,h4,h5⟩
 ·rcases h2 with ⟨clk,h2,_⟩ | h2 <;> simp only [h2,ZaC,cond_true,h3,h4]
 ·rcases h2 with ⟨clk,h2,_⟩ | h2 <;> simp only [h2,ZaC,cond_true,h4,h5]
theorem JH.mup (h : JH enc H id m) : ∃ H',A.mup .str (.map (some id)) (strv k) (enc v) H=some (undef,H')∧JH enc H' id (Qw k v m)∧ZC [id] H [id] H'∧H'.length=H.length:=by
 obtain ⟨es,h1,h2⟩:=h.ex
 have hst : ∀ o,ZC [id] H [id] (H.set id o):=fun o=>⟨by simp,fun j hj hn=>List.getElem?_set_ne (fun e=>hn (by simp [e])),fun j hj=>.inl hj⟩
 have hnod:=Zpy (k:=k) (v:=v) h.nod
 have hget : ∀ {j : Nat} {v0 : α},m[j]?=some (k,v0)→(es.map kv)[j]?=some (strv k,enc v0):=fun hj=>by rw [h1,List.getElem?_map,hj];rfl
 rcases Zg5 (k:=k) 0 h1 with ⟨h3,h4⟩ | ⟨j,v0,h3,h4,h5⟩
 ·have ha : Qw k v m=m++[(k,v)]:=by unfold Qw;rw [h3];rfl
  rw [ha] at hnod ⊢
  have hm : ∀ b,(es++[(strv k,enc v,b)]).map kv=(m++[(k,v)]).map fun p=>(strv p.1,enc p.2):=fun b=>by rw [List.map_append,List.map_append,h1];rfl
  rcases h2 with ⟨clk,h2,hs⟩ | h2
  ·refine ⟨H.set id (.map (es++[(strv k,enc v,clk)]) (clk+1)),?_,⟨⟨_,hm clk,.inl ⟨clk+1,ZM h2,⟨fun e he=>?_,?_⟩⟩⟩,hnod⟩,hst _,by simp⟩
   ·unfold A.mup;simp only [h2,ZaC,cond_true,h4]
   ·rcases List.mem_append.1 he with he | he
    ·have:=hs.lt e he;omega
    ·have : e=(strv k,enc v,clk):=by simpa using he
     rw [this];exact Nat.lt_succ_self _
   ·rw [List.map_append,List.nodup_append]
    refine ⟨hs.nod,by simp,fun a ha b hb=>?_⟩
    have hb : b=clk:=by simpa using hb
    obtain ⟨e,he,rfl⟩:=List.mem_map.1 ha
    have:=hs.lt e he;omega
  ·refine ⟨H.set id (.mapU (es++[(strv k,enc v,0)])),?_,⟨⟨_,hm 0,.inr (ZM h2)⟩,hnod⟩,hst _,by simp⟩
   unfold A.mup;simp only [h2,ZaC,cond_true,h4];rfl
 ·have ha : Qw k v m=m.set j (k,v):=by unfold Qw;rw [h4];exact (Zjx h.nod h3).symm
  rw [ha] at hnod ⊢
  rw [Nat.zero_add] at h5
  have hm : (YQ es j (enc v)).map kv=(m.set j (k,v)).map fun p=>(strv p.1,enc p.2):=by
   rw [ZjU (hget h3),h1,List.map_set]
  rcases h2 with ⟨clk,h2,hs⟩ | h2
  ·refine ⟨H.set id (.map (YQ es j (enc v)) clk),?_,⟨⟨_,hm,.inl ⟨clk,ZM h2,ZmA hs⟩⟩,hnod⟩,hst _,by simp⟩
   unfold A.mup;simp only [h2,ZaC,cond_true,h5]
  ·refine ⟨H.set id (.mapU (YQ es j (enc v))),?_,⟨⟨_,hm,.inr (ZM h2)⟩,hnod⟩,hst _,by simp⟩
   unfold A.mup;simp only [h2,ZaC,cond_true,h5]
theorem JH.mde (h : JH enc H id m) : ∃ H',A.mde .str (.map (some id)) (strv k) H=some (.tuple #[],H')∧JH enc H' id (Yg k m)∧ZC [id] H [id] H'∧H'.length=H.length:=by
 obtain ⟨es,h1,h2⟩:=h.ex
 have hst : ∀ o,ZC [id] H [id] (H.set id o):=fun o=>⟨by simp,fun j hj hn=>List.getElem?_set_ne (fun e=>hn (by simp [e])),fun j hj=>.inl hj⟩
 have hnod:=ZpI (k:=k) h.nod
 rcases Zg5 (k:=k) 0 h1 with ⟨h3,h4⟩ | ⟨j,v0,h3,h4,h5⟩
 ·refine ⟨H,?_,by rw [Zru h3];exact h,.refl _ _,rfl⟩
  unfold A.mde
  rcases h2 with ⟨clk,h2,hs⟩ | h2 <;> simp only [h2,ZaC,cond_true,h4]
 ·have ha : Yg k m=m.eraseIdx j:=(Ze9 h.nod h3).symm
  rw [ha] at hnod ⊢
  rw [Nat.zero_add] at h5
  have hm : (es.eraseIdx j).map kv=(m.eraseIdx j).map fun p=>(strv p.1,enc p.2):=by
   have hg : ∀ {β γ : Type} (f : β→γ) (l : List β) (j : Nat),(l.eraseIdx j).map f=(l.map f).eraseIdx j:=fun f l j=>by
    rw [List.eraseIdx_eq_take_drop_succ,List.eraseIdx_eq_take_drop_succ,List.map_append,List.map_take,List.map_drop]
   rw [hg,hg,h1]
  rcases h2 with ⟨clk,h2,hs⟩ | h2
  ·refine ⟨H.set id (.map (es.eraseIdx j) clk),?_,⟨⟨_,hm,.inl ⟨clk,ZM h2,⟨fun e he=>hs.lt e ((List.eraseIdx_sublist es j).subset he),((List.eraseIdx_sublist es j).map _).nodup hs.nod⟩⟩⟩,hnod⟩,hst _,by simp⟩
   unfold A.mde;simp only [h2,ZaC,cond_true,h5]
  ·refine ⟨H.set id (.mapU (es.eraseIdx j)),?_,⟨⟨_,hm,.inr (ZM h2)⟩,hnod⟩,hst _,by simp⟩
   unfold A.mde;simp only [h2,ZaC,cond_true,h5]
theorem JH.clone (h : JH enc H id m) : ∃ H',Zb1 [.map (some id)] H=some (.map (some H.length),H')∧JH enc H' H.length m∧HLe H H':=by
 obtain ⟨es,h1,h2⟩:=h.ex
 rcases h2 with ⟨clk,h2,hs⟩ | h2
 ·exact ⟨_,by unfold Zb1;simp only [h2],⟨⟨es,h1,.inl ⟨clk,Zw,hs⟩⟩,h.nod⟩,.app _ _⟩
 ·exact ⟨_,by unfold Zb1;simp only [h2],⟨⟨es,h1,.inr Zw⟩,h.nod⟩,.app _ _⟩
theorem ZsO (H : Zd) : ∃ H',mkm H=some (.map (some H.length),H')∧JH enc H' H.length []∧HLe H H':=
 ⟨_,rfl,⟨⟨[],rfl,.inl ⟨0,Zw,⟨by simp,by simp⟩⟩⟩,by simp⟩,.app _ _⟩
theorem JH.keys (h : JH enc H id m) {gks : List FuncId} {gc gk : FuncId} {c e : Nat} (hg : gk∈gks) (hc : H[c]?=some (.cells [.map (some id)] e false false)) (hf : m.length≤1000000) (hl : ∀ p∈m,p.1.length≤1000000) :
  ∃ v q H',ZdO gks gc [.func (.func gk) #[] #[pt c],.func (.func gc) #[] #[]] H=some (v,H')∧ZA H' v ((Qx (m.map (·.1))).map strv) q∧HLe H H'∧∀ j∈q,H.length≤j:=by
 obtain ⟨es,h1,h2⟩:=h.ex
 have hk : ZfW es (m.map (·.1)):=⟨by
  have:=congrArg (List.map (·.1)) h1
  rw [Ze1] at this
  rw [this];simp [Function.comp_def],h.nod,by simpa using hf,fun k hk=>by
  obtain ⟨p,hp,rfl⟩:=List.mem_map.1 hk
  exact hl p hp⟩
 rw [Ztz hg hc hk h2]
 unfold ZiI
 by_cases h0 : m.map (·.1)=[]
 ·rw [if_pos h0,h0]
  have hz : Qx ([] : List (List UInt8))=[]:=List.mergeSort_nil
  rw [hz]
  exact ⟨_,[],_,rfl,ZA.nil,.refl _,by simp⟩
 ·rw [if_neg h0]
  refine ⟨_,[H.length],_,rfl,.inr ⟨H.length,[],true,?_,rfl,by simp⟩,.app _ _,by simp⟩
  simp [Zld]
end
end Go.Proofs.YtedkoimihknggaaGreatDoor.A

namespace Go.Proofs.YtedkoimihknggaaGreatDoor.A
set_option linter.unusedVariables false
set_option linter.unusedSimpArgs false
def Zjo (args : List Value) : M Value:=fun H=>
 match args with
 | [.string s,.int .u8 c]=>some (iv (Go.Lib.indexByte s.data.toList c.toNat.toUInt8),H)
 | _=>none
def ZjD (args : List Value) : M Value:=fun H=>
 match args with
 | [.string s,.int .u8 c]=>some (iv (Go.Lib.countByte s.data.toList c.toNat.toUInt8),H)
 | _=>none
section
variable {P : Program} {G : Nat} {w0 : Qn}
theorem Zxv {g : FuncId} (he : ZqE P g Extern.BytealgIndexByte.indexByte) : ZfY P G w0 g Zjo:=by
 intro args H v H1 h
 refine .inr ⟨_,he,fun ι w args' hS hr=>?_⟩
 unfold Zjo at h
 split at h
 ·rename_i s c
  cases h
  obtain ⟨p',r',rfl,hp',hr'⟩:=hr.cons_inv
  obtain ⟨y',r2,rfl,hy',hr2⟩:=hr'.cons_inv
  have:=hr2.nil_inv;subst this
  have:=hy'.int_inv;subst this
  have:=hp'.scalar_inv rfl;subst this
  exact ⟨ι,_,w,.refl ι,hS,.sc rfl,Go.Lib.run_indexByteString s c w⟩
 ·cases h
theorem Zw9 {g : FuncId} (he : ZqE P g Extern.BytealgCount.count) : ZfY P G w0 g ZjD:=by
 intro args H v H1 h
 refine .inr ⟨_,he,fun ι w args' hS hr=>?_⟩
 unfold ZjD at h
 split at h
 ·rename_i s c
  cases h
  obtain ⟨p',r',rfl,hp',hr'⟩:=hr.cons_inv
  obtain ⟨y',r2,rfl,hy',hr2⟩:=hr'.cons_inv
  have:=hr2.nil_inv;subst this
  have:=hy'.int_inv;subst this
  have:=hp'.scalar_inv rfl;subst this
  exact ⟨ι,_,w,.refl ι,hS,.sc rfl,Go.Lib.run_countString s c w⟩
 ·cases h
end
theorem Zv0 (b : UInt8) : (b.toNat : Int).toNat.toUInt8=b:=by
 rw [Int.toNat_natCast]
 simp
theorem ZCd {s : List UInt8} {b : UInt8} {H : Zd} : Zjo [strv s,.int .u8 b.toNat] H=some (iv (Go.Lib.indexByte s b),H):=by
 unfold Zjo strv
 simp only [Zv0]
theorem ZCa {s : List UInt8} {b : UInt8} {H : Zd} : ZjD [strv s,.int .u8 b.toNat] H=some (iv (s.count b),H):=by
 unfold ZjD strv Go.Lib.countByte
 simp only [Zv0]
theorem Zfs {b : UInt8} : ∀ {s : List UInt8},Go.Lib.indexByte s b=if b∈s then (((s.takeWhile (· !=b)).length : Nat) : Int) else -1
 | []=>rfl
 | c :: s=>by
  have ih:=Zfs (b:=b) (s:=s)
  unfold Go.Lib.indexByte
  by_cases hc : c=b
  ·subst hc;simp
  ·have h1 : (c==b)=false:=beq_eq_false_iff_ne.2 hc
   have h2 : (c !=b)=true:=by simp [hc]
   rw [h1,List.takeWhile_cons,h2,ih]
   by_cases hm : b∈s
   ·have : ¬ ((((s.takeWhile (· !=b)).length : Nat) : Int)==-1)=true:=by simp
    simp [hm,this]
   ·have hm2 : ¬ b∈c :: s:=by simp [hm,Ne.symm hc]
    simp [hm,Ne.symm hc]
end Go.Proofs.YtedkoimihknggaaGreatDoor.A

namespace Go.Proofs.YtedkoimihknggaaGreatDoor.A
set_option linter.unusedVariables false
set_option linter.unusedSimpArgs false
theorem ZrB {α β : Type} {f : α→β} {m m' : List β} (h : m.Perm m') : ∀ {l : List α},l.map f=m→∃ l' : List α,l'.Perm l∧l'.map f=m':=by
 induction h with
 | nil=>intro l h;exact ⟨l,.refl _,h⟩
 | cons x _ ih=>
  intro l h
  cases l with
  | nil=>cases h
  | cons a l=>
   simp only [List.map_cons,List.cons.injEq] at h
   obtain ⟨l',h1,h2⟩:=ih h.2
   exact ⟨a :: l',h1.cons a,by simp [h.1,h2]⟩
 | swap x y l=>
  intro q h
  match q,h with
  | a :: b :: q,h=>
   simp only [List.map_cons,List.cons.injEq] at h
   exact ⟨b :: a :: q,.swap a b q,by simp [h.1,h.2.1,h.2.2]⟩
 | trans _ _ ih1 ih2=>
  intro l h
  obtain ⟨l1,h1,h2⟩:=ih1 h
  obtain ⟨l2,h3,h4⟩:=ih2 h2
  exact ⟨l2,h3.trans h1,h4⟩
def Zhk : Ze→Bool
 | .map _ _=>true
 | .mapU _=>true
 | _=>false
def ZeM (H : Zd) : List (Value × Value × Nat)→Option (List Ze)
 | []=>some []
 | e :: es=>match e.2.1,ZeM H es with
  | .map (some s),some l=>match H[s]? with
   | some x=>if Zhk x then some (x :: l) else none
   | none=>none
  | _,_=>none
def Zcf (base : Nat) : List (Value × Value × Nat)→List (Value × Value × Nat)
 | []=>[]
 | e :: es=>(e.1,.map (some base),0) :: Zcf (base+1) es
open Classical in
noncomputable def ZkJ (H : Zd) (o : Nat) : Option (List (Value × Value × Nat)):=
 match H[o]? with
 | some (.map es clk)=>if Zco es clk then some es else none
 | some (.mapU es)=>some es
 | _=>none
open Classical in
noncomputable def ZiL (args : List Value) : M Value:=fun H=>
 match args with
 | [.pointer (some ⟨g,0,none⟩)]=>match H[g]? with
  | some (.cells [.map (some o)] _ false false)=>match ZkJ H o with
   | some es=>match ZeM H es with
    | some l=>if ∃ ks,ZfW es ks then some (pt (H.length+l.length+1),H++l++[.mapU (Zcf H.length es)]++[.cells [.map (some (H.length+l.length))] 1 false false]) else none
    | none=>none
   | none=>none
  | _=>none
 | _=>none
section
variable {P : Program} {w0 : Qn} {ι : Nat→Option Loc} {H H1 : Zd} {w w' : World} {v : Value} {G : Nat}
theorem ZyX {args : List Value} (h : ZiL args H=some (v,H1)) : ∃ g o e es ks l,args=[pt g]∧H[g]?=some (.cells [.map (some o)] e false false)∧ZkJ H o=some es∧ZfW es ks∧ZeM H es=some l∧v=pt (H.length+l.length+1)∧H1=H++l++[.mapU (Zcf H.length es)]++[.cells [.map (some (H.length+l.length))] 1 false false]:=by
 unfold ZiL at h
 split at h
 ·rename_i g
  split at h
  ·rename_i o e hg
   split at h
   ·rename_i es hes
    split at h
    ·rename_i l hl
     split at h
     ·rename_i hk
      obtain ⟨ks,hk⟩:=hk
      cases h
      exact ⟨g,o,e,es,ks,l,rfl,hg,hes,hk,hl,rfl,rfl⟩
     ·cases h
    ·cases h
   ·cases h
  ·cases h
 ·cases h
structure ZvZ (P : Program) (g : FuncId) : Prop where
 c : Zc5 P g
 run : ∀ (w : World) (gb b : Nat) (es : Array MapEntry) (clock : Nat),gb < w.heap.size→w.cell? ⟨gb,0,none⟩=some (.map (some b))→w.heap[b]?=some (.map es clock)→Go.MapKept.Stamped es clock→
  (∀ x∈es.toList,∃ k : List UInt8,x.key=strv k)→(∀ x∈es.toList,∃ sb ses sclk,x.val=.map (some sb)∧w.heap[sb]?=some (.map ses sclk))→
  Calls P g #[.pointer (some ⟨gb,0,none⟩)] w fun e w'=>∃ (gb' ob : Nat) (el : TypeId) (en : Array MapEntry) (ck : Nat) (L : List (MapEntry × Nat)),e=.returned (.pointer (some ⟨gb',0,none⟩))∧
   w'.heap[gb']?=some (.cells #[.map (some ob)] el (0,0))∧w'.heap[ob]?=some (.map en ck)∧Go.MapKept.Stamped en ck∧
   en.toList.map (fun x=>(x.key,x.val))=L.map (fun p=>(p.1.key,Value.map (some p.2)))∧(L.map (·.1)).Perm es.toList∧
   (∀ p∈L,∃ sb,p.1.val=.map (some sb)∧w'.heap[p.2]?=w.heap[sb]?)∧(gb' :: ob :: L.map (·.2)).Nodup∧(∀ q∈gb' :: ob :: L.map (·.2),w.heap.size≤q)∧Go.RowKit.Below w.heap.size w w'
def ZeS (ι : Nat→Option Loc) (H : Zd) (b : Nat) : Prop:=(∀ i oi li,H[i]?=some oi→oi.wr=true→ι i=some li→li.blk≠b)∧
 ∀ j cs es nx lj,H[j]?=some (.view cs es nx)→ι j=some lj→lj.blk=b→∃ l',ι nx=some l'∧l'.blk=lj.blk∧l'.base=lj.base
theorem ZeS.add {o : Ze} {l : Loc} {b : Nat} (h : ZeS ι H b) (hS : Sim G w0 ι H w) (hb : l.blk≠b) (hov : o.isV=false:=by rfl) : ZeS (Ku ι H.length l) (H++[o]) b:=by
 refine ⟨?_,fun j cs es nx lj hj hlj hbe=>?_⟩
 rotate_left
 ·rcases Nat.lt_trichotomy j H.length with hlt | rfl | hgt
  ·rw [List.getElem?_append_left hlt] at hj
   have : Ku ι H.length l j=ι j:=by unfold Ku;simp [Nat.ne_of_lt hlt]
   rw [this] at hlj
   obtain ⟨l',k1,k2⟩:=h.2 j cs es nx lj hj hlj hbe
   exact ⟨l',Yp hS _ _ _ k1,k2⟩
  ·rw [Zw] at hj
   rw [Option.some.inj hj] at hov;cases hov
  ·rw [List.getElem?_eq_none (by simp;omega)] at hj;cases hj
 intro i oi li hi hw hl
 rcases Nat.lt_trichotomy i H.length with hlt | rfl | hgt
 ·rw [List.getElem?_append_left hlt] at hi
  have : Ku ι H.length l i=ι i:=by unfold Ku;simp [Nat.ne_of_lt hlt]
  rw [this] at hl
  exact h.1 i oi li hi hw hl
 ·have : Ku ι H.length l H.length=some l:=Qs _ _ _
  rw [this] at hl
  cases hl
  exact hb
 ·rw [List.getElem?_eq_none (by simp;omega)] at hi;cases hi
abbrev Zhl (b : Nat) : Loc:=⟨b,0,0,0,false⟩
def Zii (ι : Nat→Option Loc) : Value→Value
 | .map (some s)=>.map ((ι s).map (·.blk))
 | v=>v
theorem ZxN {H : Zd} {w' : World} (hS : Sim G w0 ι H w) : ∀ (es : List (Value × Value × Nat)) (L : List (MapEntry × Nat)) (l : List Ze) (ι0 : Nat→Option Loc) (H0 : Zd),Sim G w0 ι0 H0 w'→Le ι ι0→ZeM H es=some l→
  L.map (fun p=>(p.1.key,p.1.val))=es.map (fun e=>(e.1,Zii ι e.2.1))→(∀ p∈L,∃ sb,p.1.val=.map (some sb)∧w'.heap[p.2]?=w.heap[sb]?)→(L.map (·.2)).Nodup→(∀ p∈L,ZeS ι0 H0 p.2∧w0.heap.size≤p.2∧∀ b∈w0.prot,p.2≠b)→
  ∃ ι1,Le ι0 ι1∧Sim G w0 ι1 (H0++l) w'∧l.length=es.length∧(∀ i p,L[i]?=some p→ι1 (H0.length+i)=some (Zhl p.2))∧(∀ b,ZeS ι0 H0 b→b∉L.map (·.2)→ZeS ι1 (H0++l) b)
 | [],L,l,ι0,H0,h0,hle,hl,hm,_,_,_=>by
  cases hl
  have : L=[]:=by simpa using hm
  subst this
  exact ⟨ι0,.refl _,by rw [List.append_nil];exact h0,rfl,fun i p h=>by simp at h,fun b h _=>by rw [List.append_nil];exact h⟩
 | e :: es,L,l,ι0,H0,h0,hle,hl,hm,hc,hn,hf=>by
  cases L with
  | nil=>simp at hm
  | cons p L=>
   simp only [List.map_cons,List.cons.injEq,Prod.mk.injEq] at hm
   unfold ZeM at hl
   split at hl
   ·rename_i _ _ s l' he hl'
    split at hl
    ·rename_i x hx
     split at hl
     ·rename_i hmp
      cases hl
      obtain ⟨sb,hsb,hcp⟩:=hc p (by simp)
      obtain ⟨hfp,hgp,hpp⟩:=hf p (by simp)
      rw [he] at hm
      have hv:=hm.1.2
      rw [hsb] at hv
      have hsl : ∃ ls,ι s=some ls∧ls.blk=sb:=by
       simp only [Zii] at hv
       cases hs : ι s with
       | none=>rw [hs] at hv;simp at hv
       | some ls=>rw [hs] at hv;exact ⟨ls,rfl,by simpa using hv.symm⟩
      obtain ⟨ls,hls,rfl⟩:=hsl
      have hR : Zdc w0 (Ku ι0 H0.length (Zhl p.2)) H0.length x w':=by
       have hle2 : Le ι (Ku ι0 H0.length (Zhl p.2)):=hle.trans (Yp h0 _)
       cases x with
       | map es' clk=>
        obtain ⟨en,hb,hge,hE⟩:=hS.mapR hx hls
        exact ⟨_,en,Qs _ _ _,hcp.trans hb,hgp,hE.mono hle2⟩
       | mapU es'=>
        obtain ⟨en,clk,es2,hb,hge,hE,hp⟩:=hS.mapUR hx hls
        exact ⟨_,en,clk,es2,Qs _ _ _,hcp.trans hb,hgp,hE.mono hle2,hp⟩
       | _=>simp [Zhk] at hmp
      have hov : x.isV=false:=by cases x <;> first | rfl | simp [Zhk] at hmp
      have h1:=h0.add hR hfp.1 hpp (fun _=>hfp.2) hov
      simp only [List.map_cons,List.nodup_cons] at hn
      obtain ⟨ι1,a1,a2,a3,a4,a5⟩:=ZxN hS es L l' _ _ h1 (hle.trans (Yp h0 _)) hl' hm.2 (fun q hq=>hc q (by simp [hq])) hn.2 (fun q hq=>by
       obtain ⟨b1,b2⟩:=hf q (by simp [hq])
       exact ⟨b1.add h0 (fun e=>hn.1 (List.mem_map.2 ⟨q,hq,e.symm⟩)) hov,b2⟩)
      refine ⟨ι1,(Yp h0 _).trans a1,by rw [List.append_assoc,List.singleton_append] at a2;exact a2,by simp [a3],fun i q hi=>?_,fun b hb hnb=>?_⟩
      ·cases i with
       | zero=>
        have : p=q:=by simpa using hi
        subst this
        exact a1 _ _ (Qs _ _ _)
       | succ i=>
        have:=a4 i q (by simpa using hi)
        rwa [List.length_append,List.length_singleton,Nat.add_assoc,Nat.add_comm 1 i] at this
      ·simp only [List.map_cons,List.mem_cons,not_or] at hnb
       have:=a5 b (hb.add h0 (Ne.symm hnb.1) hov) hnb.2
       rwa [List.append_assoc,List.singleton_append] at this
     ·cases hl
    ·cases hl
   ·cases hl
theorem ZeS.sim (h : Sim G w0 ι H w) {b : Nat} (hb : w.heap.size≤b) : ZeS ι H b:=⟨fun i oi li hi hw hl=>by
 have:=((h.obj i oi hi).newer hw li hl).2
 omega,fun j cs es nx lj hj hlj hbe=>by
 rcases h.views j cs es nx lj hj hlj with ⟨l',k1,k2⟩ | ⟨⟨c,el,fr,k1,_⟩,_⟩
 ·exact ⟨l',k1,k2⟩
 ·have:=(Array.getElem?_eq_some_iff.1 k1).1
  omega⟩
theorem Zrq (h : Sim G w0 ι H w) {b : Nat} (hb : w.heap.size≤b) : ∀ c∈w0.prot,b≠c:=fun c hc e=>by
 have p1:=(h.prot c hc).1
 subst e
 rw [Array.getElem?_eq_none hb] at p1;cases p1
def Zuk (B : List ((MapEntry × Nat) × Nat)) (en : List MapEntry) : List (Value × Value × Nat):=List.zipWith (fun b x=>(b.1.1.key,Value.map (some b.2),x.born)) B en
theorem Zti : ∀ (B : List ((MapEntry × Nat) × Nat)) (en : List MapEntry),en.map (fun x=>(x.key,x.val))=B.map (fun b=>(b.1.1.key,Value.map (some b.1.2)))→(∀ b∈B,QR b.1.1.key=true∧ι b.2=some (Zhl b.1.2))→
  JF ι (Zuk B en) en∧(Zuk B en).map kv=B.map (fun b=>(b.1.1.key,Value.map (some b.2)))∧(Zuk B en).map (·.2.2)=en.map (·.born)
 | [],[],_,_=>⟨trivial,rfl,rfl⟩
 | [],_ :: _,h,_=>by simp at h
 | _ :: _,[],h,_=>by simp at h
 | b :: B,x :: en,h,hb=>by
  simp only [List.map_cons,List.cons.injEq,Prod.mk.injEq] at h
  obtain ⟨h1,h2,h3⟩:=Zti B en h.2 (fun c hc=>hb c (by simp [hc]))
  obtain ⟨g1,g2⟩:=hb b (by simp)
  have hm : RV ι (.map (some b.2)) (.map (some b.1.2)):=.mp (l:=Zhl b.1.2) g2
  refine ⟨⟨⟨g1,h.1.1,by rw [h.1.2];exact hm,rfl⟩,h1⟩,?_,?_⟩
  ·simp only [List.map_cons]
   rw [← h2];rfl
  ·simp only [List.map_cons]
   rw [← h3];rfl
theorem Zwl : ∀ (es : List (Value × Value × Nat)) (L : List (MapEntry × Nat)) (base : Nat),L.map (fun p=>p.1.key)=es.map (·.1)→
  (Zcf base es).map kv=(L.zipIdx base).map (fun b=>(b.1.1.key,Value.map (some b.2)))∧(Zcf base es).map (·.1)=es.map (·.1)
 | [],L,base,h=>by
  have : L=[]:=by simpa using h
  subst this
  exact ⟨rfl,rfl⟩
 | e :: es,[],base,h=>by simp at h
 | e :: es,p :: L,base,h=>by
  simp only [List.map_cons,List.cons.injEq] at h
  obtain ⟨h1,h2⟩:=Zwl es L (base+1) h.2
  refine ⟨?_,?_⟩
  ·simp only [Zcf,List.map_cons,List.zipIdx_cons]
   rw [h1,← h.1];rfl
  ·simp only [Zcf,List.map_cons]
   rw [h2]
theorem Zpo : ∀ {es : List (Value × Value × Nat)} {l : List Ze},ZeM H es=some l→∀ e∈es,∃ s x,e.2.1=.map (some s)∧H[s]?=some x∧Zhk x=true
 | [],l,h,e,he=>by cases he
 | e0 :: es,l,h,e,he=>by
  unfold ZeM at h
  split at h
  ·rename_i _ _ s l' hv hl'
   split at h
   ·rename_i x hx
    split at h
    ·rename_i hm
     rcases List.mem_cons.1 he with rfl | he
     ·exact ⟨s,x,hv,hx,hm⟩
     ·exact Zpo hl' e he
    ·cases h
   ·cases h
  ·cases h
theorem ZrD (hle : ∀ e : Value × Value × Nat,∀ n,RV ι e.2.1 n→(∃ s,e.2.1=.map (some s))→n=Zii ι e.2.1) : ∀ (es : List (Value × Value × Nat)) (en : List MapEntry),JF ι es en→(∀ e∈es,∃ s,e.2.1=.map (some s))→en.map (fun x=>(x.key,x.val))=es.map (fun e=>(e.1,Zii ι e.2.1))
 | [],[],_,_=>rfl
 | [],_ :: _,h,_=>h.elim
 | _ :: _,[],h,_=>h.elim
 | e :: es,n :: ns,h,hs=>by
  simp only [List.map_cons]
  rw [ZrD hle es ns h.2 (fun e he=>hs e (by simp [he])),h.1.2.1,hle e _ h.1.2.2.1 (hs e (by simp))]
theorem ZBA {e : Value × Value × Nat} {n : Value} (h : RV ι e.2.1 n) (hs : ∃ s,e.2.1=.map (some s)) : n=Zii ι e.2.1:=by
 obtain ⟨s,hs⟩:=hs
 rw [hs] at h ⊢
 obtain ⟨l,hl,rfl⟩:=h.map_inv
 simp [Zii,hl]
theorem Zxs {g : FuncId} (hC : ZvZ P g) : ZfY P G w0 g ZiL:=by
 intro args H v H1 h
 refine .inl ⟨hC.c,fun ι w args' hS hr=>?_⟩
 obtain ⟨gi,o,e1,es,ks,l,rfl,hg,hes,hk,hl,rfl,rfl⟩:=ZyX h
 obtain ⟨x,r,rfl,hx,hr2⟩:=hr.cons_inv
 rw [hr2.nil_inv]
 obtain ⟨lc,hlc,rfl⟩:=hx.ptr_inv
 obtain ⟨cc,el,fr,_,hgrow,hbc,hb5,hb6,hrc,hro,_⟩:=hS.cellsR hg hlc
 have hbase : lc.base=0:=(hro rfl).2.2 hgrow
 have hbl : lc.blk < w.heap.size:=by
  rcases Nat.lt_or_ge lc.blk w.heap.size with h1 | h1
  ·exact h1
  ·rw [Array.getElem?_eq_none h1] at hbc;cases hbc
 obtain ⟨u,hu1,hu2⟩:=hrc.at (o:=0) (by simp)
 obtain ⟨lm,hlm,hu3⟩:=RV.map_inv (id:=o) hu2
 subst hu3
 have hcell : w.cell? ⟨lc.blk,0,none⟩=some (.map (some lm.blk)):=by
  rw [ZgV hbc]
  simpa [hbase] using hu1
 have hsets:=Zpo hl
 have hismap : ∀ e∈es,∃ s,e.2.1=.map (some s):=fun e he=>by obtain ⟨s,_,h1,_⟩:=hsets e he;exact ⟨s,h1⟩
 obtain ⟨en,clock,es2,hmb,hE,hperm,hst⟩ : ∃ (en : Array MapEntry) (clock : Nat) (es2 : List (Value × Value × Nat)),w.heap[lm.blk]?=some (.map en clock)∧ZcK ι es2 en∧(es2.map kv).Perm (es.map kv)∧Zco es2 clock:=by
  unfold ZkJ at hes
  split at hes
  ·rename_i es0 clk hid
   split at hes
   ·rename_i hst
    cases hes
    obtain ⟨en,hb,_,hE⟩:=hS.mapR hid hlm
    exact ⟨en,_,_,hb,hE,.refl _,hst⟩
   ·cases hes
  ·rename_i es0 hid
   cases hes
   obtain ⟨en,clk,es2,hb,_,hE,hp⟩:=hS.mapUR hid hlm
   exact ⟨en,clk,es2,hb,hE,hp.perm,hp.st⟩
  ·cases hes
 have hmem2 : ∀ e∈es2,∃ f∈es,f.1=e.1∧f.2.1=e.2.1:=fun e he=>by
  have : kv e∈es.map kv:=hperm.mem_iff.1 (List.mem_map.2 ⟨e,he,rfl⟩)
  obtain ⟨f,hf,h1⟩:=List.mem_map.1 this
  unfold kv at h1
  simp only [Prod.mk.injEq] at h1
  exact ⟨f,hf,h1.1,h1.2⟩
 have hismap2 : ∀ e∈es2,∃ s,e.2.1=.map (some s):=fun e he=>by
  obtain ⟨f,hf,_,h2⟩:=hmem2 e he
  rw [← h2];exact hismap f hf
 obtain ⟨k1,k2⟩:=JF.keys hE
 have hkv:=ZrD (fun e n h hs=>ZBA h hs) es2 en.toList hE hismap2
 have hkeyp : (es2.map (·.1)).Perm (ks.map strv):=by
  have h3:=hperm.map (·.1)
  rw [Ze1,Ze1] at h3
  rw [← hk.keys];exact h3
 have hstr : ∀ x∈en.toList,∃ k : List UInt8,x.key=strv k:=fun x hx=>by
  have h3 : x.key∈es2.map (·.1):=by rw [← k1];exact List.mem_map.2 ⟨x,hx,rfl⟩
  obtain ⟨k,_,h4⟩:=List.mem_map.1 (hkeyp.mem_iff.1 h3)
  exact ⟨k,h4.symm⟩
 have hsets2 : ∀ x∈en.toList,∃ sb ses sclk,x.val=.map (some sb)∧w.heap[sb]?=some (.map ses sclk):=fun x hx=>by
  have h3 : (x.key,x.val)∈es2.map (fun e=>(e.1,Zii ι e.2.1)):=by rw [← hkv];exact List.mem_map.2 ⟨x,hx,rfl⟩
  obtain ⟨e,he,h4⟩:=List.mem_map.1 h3
  obtain ⟨f,hf,_,hf2⟩:=hmem2 e he
  obtain ⟨s,y,hy1,hy2,hy3⟩:=hsets f hf
  simp only [Prod.mk.injEq] at h4
  rw [← hf2,hy1] at h4
  have hd : y≠.dead:=by rintro rfl;simp [Zhk] at hy3
  obtain ⟨ls,hls,_⟩:=(hS.obj s y hy2).loc hd
  have h5 : x.val=.map (some ls.blk):=by rw [← h4.2];simp [Zii,hls]
  cases y with
  | map es' clk=>
   obtain ⟨en',hb,_,_⟩:=hS.mapR hy2 hls
   exact ⟨_,_,_,h5,hb⟩
  | mapU es'=>
   obtain ⟨en',clk,_,hb,_,_⟩:=hS.mapUR hy2 hls
   exact ⟨_,_,_,h5,hb⟩
  | _=>simp [Zhk] at hy3
 have hstamp : Go.MapKept.Stamped en clock:=by
  refine ⟨fun x hx=>?_,by rw [k2];exact hst.nod,by rw [k1];exact hkeyp.nodup_iff.2 (ZjS hk.nod)⟩
  have h3 : x.born∈en.toList.map (·.born):=List.mem_map.2 ⟨x,hx,rfl⟩
  rw [k2] at h3
  obtain ⟨e',h1,h2⟩:=List.mem_map.1 h3
  rw [← h2];exact hst.lt e' h1
 simp only [Nat.add_zero,hbase]
 refine (hC.run w lc.blk lm.blk en clock hbl hcell hmb hstamp hstr hsets2).mono fun ee w' ⟨gb',ob,el',en',ck,L,he,hgb,hob,hst',hen',hL,hcp,hnd,hge,hb⟩=>?_
 have hS':=hS.below hb
 have hLkv : (L.map fun p=>(p.1.key,p.1.val)).Perm (es.map fun e=>(e.1,Zii ι e.2.1)):=by
  have h3:=hL.map (fun x : MapEntry=>(x.key,x.val))
  rw [List.map_map,hkv] at h3
  have h4:=hperm.map (fun q : Value × Value=>(q.1,Zii ι q.2))
  rw [List.map_map,List.map_map] at h4
  exact h3.trans h4
 obtain ⟨L',hL',hLm⟩:=ZrB hLkv rfl
 simp only [List.nodup_cons,List.mem_cons,not_or] at hnd
 obtain ⟨⟨n1,n2⟩,n3,n4⟩:=hnd
 have hnod' : (L'.map (·.2)).Nodup:=(hL'.map _).nodup_iff.2 n4
 have hgeL : ∀ p∈L',w.heap.size≤p.2:=fun p hp=>hge _ (by simp only [List.mem_cons,List.mem_map];exact .inr (.inr ⟨p,hL'.mem_iff.1 hp,rfl⟩))
 obtain ⟨ι1,a1,a2,a3,a4,a5⟩:=ZxN hS es L' l ι H hS' (.refl _) hl hLm (fun p hp=>hcp p (hL'.mem_iff.1 hp)) hnod' (fun p hp=>⟨ZeS.sim hS (hgeL p hp),Nat.le_trans hS.size (hgeL p hp),Zrq hS (hgeL p hp)⟩)
 have hobge:=hge ob (by simp)
 have hgbge:=hge gb' (by simp)
 have hobF : ZeS ι1 (H++l) ob:=a5 ob (ZeS.sim hS hobge) fun hm=>n3 ((hL'.map (·.2)).mem_iff.1 hm)
 have hgbF : ZeS ι1 (H++l) gb':=a5 gb' (ZeS.sim hS hgbge) fun hm=>n2 ((hL'.map (·.2)).mem_iff.1 hm)
 obtain ⟨B,hB,hBm⟩:=ZrB (f:=Prod.fst) (l:=L'.zipIdx H.length) (m':=L) (by rw [List.zipIdx_map_fst];exact hL') rfl
 have hBi : ∀ b∈B,QR b.1.1.key=true∧ι1 b.2=some (Zhl b.1.2):=fun b hb=>by
  have hb':=hB.mem_iff.1 hb
  obtain ⟨i,hi⟩:=List.getElem?_of_mem hb'
  rw [List.getElem?_zipIdx] at hi
  cases hq : L'[i]? with
  | none=>rw [hq] at hi;cases hi
  | some q=>
   rw [hq] at hi
   have hi : (q,H.length+i)=b:=by simpa using hi
   subst hi
   refine ⟨?_,a4 i q hq⟩
   have hqL : q.1∈L.map (·.1):=List.mem_map.2 ⟨q,hL'.mem_iff.1 (List.mem_of_getElem? hq),rfl⟩
   obtain ⟨k,hk⟩:=hstr q.1 (hL.mem_iff.1 hqL)
   show QR q.1.key=true
   rw [hk];rfl
 have hen2 : en'.toList.map (fun x=>(x.key,x.val))=B.map (fun b=>(b.1.1.key,Value.map (some b.1.2))):=by
  rw [hen',← hBm,List.map_map];rfl
 obtain ⟨z1,z2,z3⟩:=Zti B en'.toList hen2 hBi
 have hkeysL : L'.map (fun p=>p.1.key)=es.map (·.1):=by
  have:=congrArg (List.map Prod.fst) hLm
  simpa [List.map_map,Function.comp_def] using this
 obtain ⟨y1,y2⟩:=Zwl es L' H.length hkeysL
 have hle1 : Le ι ι1:=a1
 have hlen : (H++l).length=H.length+l.length:=List.length_append
 have hPU : Zan (Zuk B en'.toList) ck (Zcf H.length es):=by
  refine ⟨?_,⟨fun e he=>?_,?_⟩,⟨fun e he=>?_,?_⟩⟩
  ·rw [z2,y1]
   exact hB.map _
  ·have : e.1∈(Zcf H.length es).map (·.1):=List.mem_map.2 ⟨e,he,rfl⟩
   rw [y2,hk.keys] at this
   obtain ⟨k,_,h4⟩:=List.mem_map.1 this
   exact ⟨_,h4.symm⟩
  ·rw [y2,hk.keys];exact ZjS hk.nod
  ·have : e.2.2∈(Zuk B en'.toList).map (·.2.2):=List.mem_map.2 ⟨e,he,rfl⟩
   rw [z3] at this
   obtain ⟨x,hx,h4⟩:=List.mem_map.1 this
   rw [← h4];exact hst'.1 x hx
  ·rw [z3];exact hst'.2.1
 have hO:=a2.add (o:=.mapU (Zcf H.length es)) (l:=Zhl ob) ⟨Zhl ob,en',ck,_,Qs _ _ _,hob,Nat.le_trans hS.size hobge,z1.mono (Yp a2 _),hPU⟩ hobF.1 (Zrq hS hobge) (fun _=>hobF.2)
 have hgbF2 : ZeS (Ku ι1 (H++l).length (Zhl ob)) (H++l++[.mapU (Zcf H.length es)]) gb':=hgbF.add a2 (Ne.symm n1)
 have hN:=hO.add (o:=.cells [.map (some (H.length+l.length))] 1 false false) (l:=⟨gb',0,1,1,false⟩) (by
  refine ⟨⟨gb',0,1,1,false⟩,_,_,_,Qs _ _ _,rfl,rfl,hgb,by simp,by simp,?_,fun _=>⟨Nat.le_trans hS.size hgbge,.inl rfl,fun _=>rfl⟩,by simp,by simp [oneCell]⟩
  refine ⟨rfl,fun i hi=>?_⟩
  have : i=0:=by simpa using hi
  subst this
  refine .mp (l:=Zhl ob) (Yp hO _ _ _ ?_)
  rw [← hlen]
  exact Qs _ _ _) hgbF2.1 (Zrq hS hgbge) (fun _=>hgbF2.2)
 refine ⟨_,_,(hle1.trans (Yp a2 _)).trans (Yp hO _),he,?_,hN⟩
 have hp:=RV.ptr (ι:=Ku (Ku ι1 (H++l).length (Zhl ob)) (H++l++[Ze.mapU (Zcf H.length es)]).length ⟨gb',0,1,1,false⟩) (o:=0) (Qs _ _ _)
 have hlen2 : (H++l++[Ze.mapU (Zcf H.length es)]).length=H.length+l.length+1:=by rw [List.length_append,List.length_append,List.length_singleton]
 rw [hlen2] at hp ⊢
 exact hp
end
end Go.Proofs.YtedkoimihknggaaGreatDoor.A

namespace Go.Proofs.YtedkoimihknggaaGreatDoor.A
set_option linter.unusedVariables false
set_option linter.unusedSimpArgs false
open Go.RowKit Go.Maps Go.ChangeMaps Go.MapKept
section
variable {P : Program} (w : World) {ops : Array Oper} {rest : List Oper} {o : Oper} {a : Act} {Q : Exit→Act→World→Prop}
theorem Zn0 (hg : o.guard=none) (m : Operand) (t : TypeId) (hop : o.op=Op.range t m) (k e : TypeId) (ht : P.underlying t=some (.map k e)) (b : Nat) (es : Array MapEntry) (clock : Nat)
  (hm : a.eval m=.map (some b)) (hb : w.heap[b]?=some (.map es clock))
  (hK : wpList P ops Q rest (a.put o.dst (.pointer (some ⟨w.heap.size,0,none⟩))) (w.alloc (.mapIter (some b) clock #[] clock))) :
  wpList P ops Q (o :: rest) a w:=by
 refine wpList_plain hg fun K' hK'=>?_
 have hrun:=run_range_map (P:=P) w t k e b es clock ht hb
 unfold Oper.wp
 simp [execOp,hop,hm,hrun,Result.andThen]
 exact hK' _ _ hK
theorem Zqc (hg : o.guard=none) (it : Operand) (hop : o.op=Op.next it false) (b r since c0 clock : Nat) (seen : Array Nat) (es : Array MapEntry)
  (hit : a.eval it=.pointer (some ⟨r,0,none⟩)) (hr : w.heap[r]?=some (.mapIter (some b) since seen c0)) (hb : w.heap[b]?=some (.map es clock)) (hst : Go.MapKept.Stamped es clock) (hsince : since=clock) (hsc : since≤c0)
  (hDone : (∀ x∈es.toList,x.born∈seen)→wpList P ops Q rest (a.put o.dst (.tuple #[.bool false])) w)
  (hMore : ∀ (e : MapEntry) (w' : World),e∈es.toList→e.born∉seen→w'.heap[r]?=some (.mapIter (some b) since (seen.push e.born) clock)→(leftOf es (seen.push e.born)).size < (leftOf es seen).size→
   w.grownBy w' (some r)→w'.heap.size=w.heap.size→(Instr.entry (.pointer (some ⟨r,0,none⟩))).run P w'=.ok (.tuple #[e.key,e.val]) w'→wpList P ops Q rest (a.put o.dst (.tuple #[.bool true,e.key,e.val])) w') :
  wpList P ops Q (o :: rest) a w:=by
 refine wpList_plain hg fun K' hK'=>?_
 unfold Oper.wp
 have hold : ∀ x∈es.toList,x.born < since:=by rw [hsince];exact hst.1
 rcases run_next_at (P:=P) w o.type r b since c0 seen es clock hr hb hold hsc with ⟨h0,hrun⟩ | ⟨e,he,w1,hal,hrun⟩
 ·simp [execOp,hop,hit,hrun,Result.andThen]
  refine hK' _ _ (hDone fun x hx=>?_)
  have:=all_seen es seen h0 x hx
  simpa using this
 ·obtain ⟨hem,hes⟩:=mem_left he
  have hr1 : w1.heap[r]?=some (.mapIter (some b) since seen c0):=by rcases hal with rfl | rfl <;> exact hr
  have hb1 : w1.heap[b]?=some (.map es clock):=by rcases hal with rfl | rfl <;> exact hb
  have hset:=heap_set (o':=.mapIter (some b) since (seen.push e.born) clock) hr1
  have hne : r≠b:=by
   intro e1
   rw [e1,hb] at hr
   cases hr
  have hb' : (setBlock w1 r (.mapIter (some b) since (seen.push e.born) clock)).heap[b]?=some (.map es clock):=(hset.2 b (fun e1=>hne e1.symm)).trans hb1
  simp [execOp,hop,hit,hrun,Result.andThen]
  refine hK' _ _ (hMore e _ hem (by simpa using hes) hset.1 (left_shrinks es seen e he) ?_ ?_ (run_entry_at _ r b since seen es clock e hset.1 hb' hem ((stamped_iff es clock).1 hst).2.1))
  ·rcases hal with rfl | rfl <;> exact ⟨rfl,rfl,rfl,by simp [setBlock],fun i _ hi=>hset.2 i (fun e1=>hi (by rw [e1]))⟩
  ·rcases hal with rfl | rfl <;> simp [setBlock]
end
theorem KD {w : World} {o : Obj} {b : Nat} (h : b < w.heap.size) : (w.alloc o).heap[b]?=w.heap[b]?:=(MapKept.heap_alloc w o).2 b h
theorem Zvn {P : Program} {t kt e : TypeId} {k : List UInt8} {en : Array MapEntry} {ck ob : Nat} {W : World} (ht : P.underlying t=some (.map kt e)) (htk : tkT P kt=.str) (hb : W.heap[ob]?=some (.map en ck)) (hkeys : ∀ x∈en.toList,∃ k',x.key=strv k'∧k'≠k) (v : Value) :
  ∃ W2,(Instr.mapUpdate t (.map (some ob)) (strv k) v).run P W=.ok () W2∧W2=setB W ob (.map (en.push { key:=strv k,val:=v,born:=ck }) (ck+1)):=by
 have hok : okK (tkT P kt) (strv k)=true:=by rw [htk];rfl
 obtain ⟨d,hd,hsk,hchk⟩:=Zbz hok
 have hE : ∀ l : List MapEntry,(∀ x∈l,∃ k',x.key=strv k'∧k'≠k)→JF (fun _=>none) (l.map fun x=>(x.key,Value.tuple #[],x.born)) l∧∀ i,Yi .str (strv k) (l.map fun x=>(x.key,Value.tuple #[],x.born)) i=some none:=by
  intro l
  induction l with
  | nil=>intro _;exact ⟨trivial,fun _=>rfl⟩
  | cons x l ih=>
   intro h
   obtain ⟨k',hk1,hk2⟩:=h x (by simp)
   obtain ⟨h1,h2⟩:=ih fun y hy=>h y (by simp [hy])
   refine ⟨⟨⟨by show QR x.key=true;rw [hk1];rfl,rfl,.un,rfl⟩,h1⟩,fun i=>?_⟩
   have hs : ZcV .str (strv k) x.key=some (k==k'):=by rw [hk1];simp only [ZcV,strv,ZxF]
   simp only [List.map_cons,Yi,hs]
   rw [show (k==k')=false by rw [beq_eq_false_iff_ne];exact Ne.symm hk2]
   exact h2 _
 obtain ⟨h1,h2⟩:=hE en.toList hkeys
 obtain ⟨r',h3,h4⟩:=Kn (k:=strv k) hd 0 h1 (by rw [htk];exact h2 0)
 cases r' with
 | some p=>exact h4.elim
 | none=>
  refine ⟨_,?_,rfl⟩
  simp only [Instr.mapUpdate,Sem.run_bind,run_underlying ht,Result.andThen_ok,JN hb,hchk,JU hd h3,YN hb]
structure CpR (w : World) (b r gb' ob : Nat) (es : Array MapEntry) (clock : Nat) (seen : Array Nat) (c0 : Nat) (en : Array MapEntry) (ck : Nat) (L : List (MapEntry × Nat)) (el : TypeId) (wr : World) : Prop where
 it : wr.heap[r]?=some (.mapIter (some b) clock seen c0)
 c0 : clock≤c0
 g : wr.heap[gb']?=some (.cells #[.map (some ob)] el (0,0))
 o : wr.heap[ob]?=some (.map en ck)
 st : Go.MapKept.Stamped en ck
 ent : en.toList.map (fun x=>(x.key,x.val))=L.map (fun p=>(p.1.key,Value.map (some p.2)))
 sn : L.map (·.1.born)=seen.toList
 mem : ∀ p∈L,p.1∈es.toList∧∃ sb ses sclk,p.1.val=.map (some sb)∧w.heap[sb]?=some (.map ses sclk)∧wr.heap[p.2]?=some (.map ses sclk)
 nod : (r :: gb' :: ob :: L.map (·.2)).Nodup
 ge : ∀ q∈r :: gb' :: ob :: L.map (·.2),w.heap.size≤q
 snod : seen.toList.Nodup
 bel : Below w.heap.size w wr
section
variable {w wr w1 : World} {b r g o : Nat} {es : Array MapEntry} {clock : Nat} {seen : Array Nat} {c0 : Nat} {en : Array MapEntry} {ck : Nat} {L : List (MapEntry × Nat)} {el : TypeId}
theorem CpR.lts (h : CpR w b r g o es clock seen c0 en ck L el wr) : r < wr.heap.size∧g < wr.heap.size∧o < wr.heap.size:=⟨(Array.getElem?_eq_some_iff.1 h.it).1,(Array.getElem?_eq_some_iff.1 h.g).1,(Array.getElem?_eq_some_iff.1 h.o).1⟩
theorem CpR.keys (h : CpR w b r g o es clock seen c0 en ck L el wr) (hst : Go.MapKept.Stamped es clock) {e : MapEntry} (he1 : e∈es.toList) (he2 : e.born∉seen) : ∀ x∈en.toList,x.key≠e.key:=fun x hx e4=>by
 have h3 : (x.key,x.val)∈L.map (fun p=>(p.1.key,Value.map (some p.2))):=by rw [← h.ent];exact List.mem_map.2 ⟨x,hx,rfl⟩
 obtain ⟨p,hp,h4⟩:=List.mem_map.1 h3
 simp only [Prod.mk.injEq] at h4
 obtain ⟨hm,_⟩:=h.mem p hp
 have h5 : p.1=e:=entry_eq_of_key ((stamped_iff es clock).1 hst).2.2 hm he1 (h4.1.trans e4)
 have : p.1.born∈seen.toList:=by rw [← h.sn];exact List.mem_map.2 ⟨p,hp,rfl⟩
 rw [h5] at this
 exact he2 (by simpa using this)
theorem CpR.next (h : CpR w b r g o es clock seen c0 en ck L el wr) (hst : Go.MapKept.Stamped es clock) {e : MapEntry} {sb sclk : Nat} {ses : Array MapEntry} (he1 : e∈es.toList) (he2 : e.born∉seen) (hev : e.val=.map (some sb)) (hsb : w.heap[sb]?=some (.map ses sclk))
  (hit : w1.heap[r]?=some (.mapIter (some b) clock (seen.push e.born) clock)) (hgr : wr.grownBy w1 (some r)) (hsz : w1.heap.size=wr.heap.size) :
  CpR w b r g o es clock (seen.push e.born) clock (en.push { key:=e.key,val:=.map (some wr.heap.size),born:=ck }) (ck+1) (L++[(e,wr.heap.size)]) el
   (setB (w1.alloc (.map ses sclk)).drew o (.map (en.push { key:=e.key,val:=.map (some wr.heap.size),born:=ck }) (ck+1))):=by
 obtain ⟨l1,l2,l3⟩:=h.lts
 have hnod:=h.nod
 simp only [List.nodup_cons,List.mem_cons,not_or] at hnod
 obtain ⟨⟨n1,n2,n3⟩,⟨n4,n5⟩,n6,n7⟩:=hnod
 generalize hX : Obj.map (en.push { key:=e.key,val:=.map (some wr.heap.size),born:=ck }) (ck+1)=X
 have hge:=h.ge
 have hLlt : ∀ p∈L,p.2 < wr.heap.size:=fun p hp=>by
  obtain ⟨_,sb',ses',sclk',h1,h2,h3⟩:=h.mem p hp
  exact (Array.getElem?_eq_some_iff.1 h3).1
 have keep : ∀ c,c < wr.heap.size→c≠o→c≠r→(setB (w1.alloc (.map ses sclk)).drew o X).heap[c]?=wr.heap[c]?:=fun c hc h1 h2=>by
  rw [JM h1]
  show (w1.alloc (.map ses sclk)).heap[c]?=_
  rw [KD (by omega),hgr.block c hc (by simpa using h2)]
 have hk:=h.keys hst he1 he2
 have hst2:=(stamped_iff en ck).1 h.st
 refine ⟨?_,Nat.le_refl _,by rw [keep g l2 n4 (Ne.symm n1)];exact h.g,?_,?_,?_,?_,?_,?_,?_,?_,?_⟩
 ·rw [JM n2]
  show (w1.alloc (.map ses sclk)).heap[r]?=_
  rw [KD (by omega)];exact hit
 ·rw [Zer (by show o < (w1.alloc (.map ses sclk)).heap.size;simp;omega),hX]
 ·refine (stamped_iff _ _).2 ⟨fun x hx=>?_,?_,?_⟩
  ·rw [Array.toList_push,List.mem_append] at hx
   rcases hx with hx | hx
   ·exact Nat.lt_succ_of_lt (hst2.1 x hx)
   ·have : x={ key:=e.key,val:=.map (some wr.heap.size),born:=ck }:=by simpa using hx
    rw [this];exact Nat.lt_succ_self _
  ·rw [Array.toList_push,List.map_append,List.nodup_append]
   refine ⟨hst2.2.1,by simp,fun a ha c hc=>?_⟩
   have hc : c=ck:=by simpa using hc
   obtain ⟨x,hx,rfl⟩:=List.mem_map.1 ha
   have:=hst2.1 x hx
   omega
  ·rw [Array.toList_push,List.pairwise_append]
   refine ⟨hst2.2.2,by simp,fun x hx y hy=>?_⟩
   have : y={ key:=e.key,val:=.map (some wr.heap.size),born:=ck }:=by simpa using hy
   rw [this];exact hk x hx
 ·rw [Array.toList_push,List.map_append,List.map_append,h.ent];rfl
 ·rw [List.map_append,h.sn,Array.toList_push];rfl
 ·intro p hp
  rcases List.mem_append.1 hp with hp | hp
  ·obtain ⟨h1,sb',ses',sclk',h2,h4,h3⟩:=h.mem p hp
   have hp2 : p.2∈L.map (·.2):=List.mem_map.2 ⟨p,hp,rfl⟩
   exact ⟨h1,sb',ses',sclk',h2,h4,by rw [keep p.2 (hLlt p hp) (fun e1=>n6 (e1 ▸ hp2)) (fun e1=>n3 (e1 ▸ hp2))];exact h3⟩
  ·have : p=(e,wr.heap.size):=by simpa using hp
   subst this
   refine ⟨he1,sb,ses,sclk,hev,hsb,?_⟩
   rw [JM (by show wr.heap.size≠o;omega)]
   show (w1.alloc (.map ses sclk)).heap[wr.heap.size]?=_
   rw [← hsz]
   exact (MapKept.heap_alloc w1 _).1
 ·have hnew : ∀ q∈r :: g :: o :: L.map (·.2),q≠wr.heap.size:=fun q hq=>by
   simp only [List.mem_cons] at hq
   rcases hq with rfl | rfl | rfl | hq
   ·omega
   ·omega
   ·omega
   ·obtain ⟨p,hp,rfl⟩:=List.mem_map.1 hq
    exact Nat.ne_of_lt (hLlt p hp)
  have : r :: g :: o :: (L++[(e,wr.heap.size)]).map (·.2)=(r :: g :: o :: L.map (·.2))++[wr.heap.size]:=by simp
  rw [this,List.nodup_append]
  refine ⟨h.nod,by simp,fun a ha c hc=>?_⟩
  have hc : c=wr.heap.size:=by simpa using hc
  rw [hc];exact hnew a ha
 ·intro q hq
  have : r :: g :: o :: (L++[(e,wr.heap.size)]).map (·.2)=(r :: g :: o :: L.map (·.2))++[wr.heap.size]:=by simp
  rw [this] at hq
  rcases List.mem_append.1 hq with hq | hq
  ·exact hge q hq
  ·have : q=wr.heap.size:=by simpa using hq
   rw [this];exact h.bel.size
 ·rw [Array.toList_push,List.nodup_append]
  refine ⟨h.snod,by simp,fun a ha c hc=>?_⟩
  have hc : c=e.born:=by simpa using hc
  rw [hc];rintro rfl;exact he2 (by simpa using ha)
 ·refine ⟨(show w1.os=_ from hgr.os.trans h.bel.os),(show w1.tape=_ from hgr.tape.trans h.bel.tape),(show w1.output=_ from hgr.output.trans h.bel.output),?_,fun i hi=>?_⟩
  ·rw [Zy7]
   show _≤(w1.alloc (.map ses sclk)).heap.size
   have:=h.bel.size
   simp;omega
  ·have ho:=hge o (by simp)
   have hr:=hge r (by simp)
   rw [keep i (Nat.lt_of_lt_of_le hi h.bel.size) (by omega) (by omega)]
   exact h.bel.block i hi
theorem CpR.left (h : CpR w b r g o es clock seen c0 en ck L el wr) (hb : w.heap[b]?=some (.map es clock)) : wr.heap[b]?=some (.map es clock)∧wr.rangeLeft b r=(leftOf es seen).size:=by
 have hbl : b < w.heap.size:=(Array.getElem?_eq_some_iff.1 hb).1
 have h1 : wr.heap[b]?=some (.map es clock):=(h.bel.block b hbl).trans hb
 refine ⟨h1,?_⟩
 simp only [World.rangeLeft,h1,h.it]
theorem CpR.perm (h : CpR w b r g o es clock seen c0 en ck L el wr) (hst : Go.MapKept.Stamped es clock) (hall : ∀ x∈es.toList,x.born∈seen) : (L.map (·.1)).Perm es.toList:=by
 have hst2:=(stamped_iff es clock).1 hst
 have n1 : (L.map (·.1)).Nodup:=by
  have : ((L.map (·.1)).map (·.born)).Nodup:=by rw [List.map_map];exact h.sn ▸ h.snod
  exact List.Pairwise.of_map _ (fun a b h e=>h (congrArg _ e)) this
 have n2 : es.toList.Nodup:=List.Pairwise.of_map _ (fun a b h e=>h (congrArg _ e)) hst2.2.1
 refine (List.perm_ext_iff_of_nodup n1 n2).2 fun x=>⟨fun hx=>?_,fun hx=>?_⟩
 ·obtain ⟨p,hp,rfl⟩:=List.mem_map.1 hx
  exact (h.mem p hp).1
 ·have h1 : x.born∈L.map (·.1.born):=by rw [h.sn];simpa using hall x hx
  obtain ⟨p,hp,h2⟩:=List.mem_map.1 h1
  have : p.1=x:=born_inj hst2.2.1 (h.mem p hp).1 hx h2
  exact List.mem_map.2 ⟨p,hp,this⟩
end
set_option maxRecDepth 100000 in
theorem ZB2 (hCl : Zhq Tryz.prog 196) : ZvZ Tryz.prog 158 where
 c:=⟨Tryz.f158,Tryz.func158,by kernel_rfl,by kernel_rfl⟩
 run:=fun w gb b es clock hgb hcell hb hst hks hvs=>by
  have hmm:=@run_makeMap Tryz.prog
  have hbl : b < w.heap.size:=(Array.getElem?_eq_some_iff.1 hb).1
  go_enter Tryz.func158,Tryz.ntmps158
  go_wp2_with (first
   | (at_range;refine Zn0 _ rfl _ 154 rfl _ _ Tryz.underlying154 b es clock rfl ?_ ?_)
   | go_in)
  ·rw [KD (by simp;omega),KD hbl];exact hb
  ·go_frame
   have e1 : ((w.alloc (.map #[] 0)).alloc (.cells #[.map (some w.heap.size)] 156)).heap.size=w.heap.size+2:=by simp
   have e2 : (w.alloc (.map #[] 0)).heap.size=w.heap.size+1:=by simp
   rw [e1]
   try rw [e2]
   go_loopw [4,5] (fun _ _ wr=>∃ seen c0 en ck L,CpR w b (w.heap.size+2) (w.heap.size+1) w.heap.size es clock seen c0 en ck L 156 wr) (fun _ _ wr=>wr.rangeLeft b (w.heap.size+2))
   case atStart=>
    refine ⟨#[],clock,#[],0,[],?_⟩
    have hA:=fun (w : World) (o : Obj)=>(MapKept.heap_alloc w o).1
    refine ⟨?_,Nat.le_refl _,?_,?_,⟨by simp,by simp,by simp⟩,rfl,rfl,by simp,by simp,?_,by simp,?_⟩
    ·rw [← e1];exact hA _ _
    ·rw [KD (by rw [e1];omega),← e2];exact hA _ _
    ·rw [KD (by rw [e1];omega),KD (by rw [e2];omega)];exact hA _ _
    ·intro q hq
     simp only [List.map_nil,List.mem_cons,List.not_mem_nil,or_false] at hq
     omega
    ·exact (((Below.refl _ _).alloc (Nat.le_refl _) _).alloc (by rw [e2];omega) _).alloc (by rw [e1];omega) _
   case round=>
    obtain ⟨seen,c0,en,ck,L,hR⟩:=hrel
    go_wp2_with (first
     | (at_next;refine Zqc _ rfl _ rfl b (w.heap.size+2) clock c0 clock seen es rfl hR.it ?_ hst rfl hR.c0 ?_ ?_)
     | go_in)
    ·exact (hR.left hb).1
    ·intro hdone
     go_wp2
     go_ret
     have hp:=hR.perm hst (by simpa using hdone)
     have hnod:=hR.nod
     have hge:=hR.ge
     exact ⟨_,_,_,_,_,_,rfl,hR.g,hR.o,hR.st,hR.ent,hp,fun p hp=>(by obtain ⟨_,sb,ses,sclk,h1,h2,h3⟩:=hR.mem p hp;exact ⟨sb,h1,h3.trans h2.symm⟩),(List.nodup_cons.1 hnod).2,fun q hq=>hge q (List.mem_cons_of_mem _ hq),hR.bel⟩
    ·intro e w1 he1 he2 hit1 hlt hgr hsz hen
     go_upto_region 5 with fail
     have he1 : e∈es.toList:=by simpa using he1
     obtain ⟨sb,ses,sclk,hev,hsb⟩:=hvs e he1
     obtain ⟨k,hek⟩:=hks e he1
     obtain ⟨W2,hcg,hcg2,hsz1,hsb1,hmu,hW2⟩ : ∃ W2,w1.cell? ⟨w.heap.size+1,0,none⟩=some (.map (some w.heap.size))∧(w1.alloc (.map ses sclk)).cell? ⟨w.heap.size+1,0,none⟩=some (.map (some w.heap.size))∧w.heap.size+1 < wr.heap.size∧w1.heap[sb]?=some (.map ses sclk)∧
       (Instr.mapUpdate 154 (.map (some w.heap.size)) (strv k) (.map (some wr.heap.size))).run Tryz.prog (w1.alloc (.map ses sclk)).drew=.ok () W2∧W2=setB (w1.alloc (.map ses sclk)).drew w.heap.size (.map (en.push { key:=strv k,val:=.map (some wr.heap.size),born:=ck }) (ck+1)):=by
      have hw : w.heap.size < wr.heap.size:=(Array.getElem?_eq_some_iff.1 hR.o).1
      have hg1 : w1.heap[w.heap.size+1]?=some (.cells #[.map (some w.heap.size)] 156 (0,0)):=by
       rw [hgr.block _ (Array.getElem?_eq_some_iff.1 hR.g).1 (by simp)];exact hR.g
      have ho1 : w1.heap[w.heap.size]?=some (.map en ck):=by
       rw [hgr.block _ hw (by simp)];exact hR.o
      have hcg : w1.cell? ⟨w.heap.size+1,0,none⟩=some (.map (some w.heap.size)):=by
       rw [ZgV hg1];rfl
      have hsbl : sb < w.heap.size:=(Array.getElem?_eq_some_iff.1 hsb).1
      have hsb1 : w1.heap[sb]?=some (.map ses sclk):=by
       rw [hgr.block _ (by omega) (by simp;omega),hR.bel.block sb hsbl];exact hsb
      have hoD : (w1.alloc (.map ses sclk)).drew.heap[w.heap.size]?=some (.map en ck):=by
       show (w1.alloc (.map ses sclk)).heap[w.heap.size]?=_
       rw [KD (by omega)];exact ho1
      have hkn : ∀ x∈en.toList,∃ k',x.key=strv k'∧k'≠k:=fun x hx=>by
       have h3 : (x.key,x.val)∈L.map (fun p=>(p.1.key,Value.map (some p.2))):=by rw [← hR.ent];exact List.mem_map.2 ⟨x,hx,rfl⟩
       obtain ⟨p,hp,h4⟩:=List.mem_map.1 h3
       simp only [Prod.mk.injEq] at h4
       obtain ⟨hm,_⟩:=hR.mem p hp
       obtain ⟨k',hk'⟩:=hks p.1 hm
       refine ⟨k',by rw [← h4.1];exact hk',fun e4=>he2 ?_⟩
       have h5 : p.1=e:=entry_eq_of_key ((stamped_iff es clock).1 hst).2.2 hm he1 (by rw [hk',hek,e4])
       have : p.1.born∈seen.toList:=by rw [← hR.sn];exact List.mem_map.2 ⟨p,hp,rfl⟩
       rw [h5] at this
       simpa using this
      obtain ⟨W2,hmu,hW2⟩:=Zvn (P:=Tryz.prog) (t:=154) (k:=k) (v:=.map (some wr.heap.size)) Tryz.underlying154 (by kernel_rfl) hoD hkn
      have hs1 : w.heap.size+1 < wr.heap.size:=(Array.getElem?_eq_some_iff.1 hR.g).1
      have hg2 : (w1.alloc (.map ses sclk)).heap[w.heap.size+1]?=some (.cells #[.map (some w.heap.size)] 156 (0,0)):=by
       rw [KD (by omega)];exact hg1
      exact ⟨W2,hcg,by rw [ZgV hg2];rfl,hs1,hsb1,hmu,hW2⟩
     rw [hev,hek]
     go_region_with (first
      | (go_at_call 196;refine (hCl.some sb ses sclk _ ?_).mono ?_;exact hsb1;rintro e w' ⟨rfl,rfl⟩)
      | fail)
     ·have hN:=hR.next hst he1 he2 hev hsb hit1 hgr hsz
      rw [hek] at hN
      go_roundw
      case rel=>(repeat apply Exists.intro);exact ⟨⟨_,_,_,_,_,hN⟩,rfl⟩
      case measure=>rw [(hN.left hb).2,(hR.left hb).2];exact hlt
     ·have hN:=hR.next hst he1 he2 hev hsb hit1 hgr hsz
      rw [hek] at hN
      go_roundw
      case rel=>(repeat apply Exists.intro);exact ⟨⟨_,_,_,_,_,hN⟩,rfl⟩
      case measure=>rw [(hN.left hb).2,(hR.left hb).2];exact hlt
end Go.Proofs.YtedkoimihknggaaGreatDoor.A

namespace Go.Proofs
open Go.RowKit Go.Maps Go.Sort Go.Shelf
def Tryz.cloneA_ren : Go.Shelf.Ren:=⟨fun | 5=>156 | 7=>194 | n=>n,fun | 23=>82 | 25=>9 | 3=>89 | 4=>4 | 20=>20 | n=>n,fun | n=>n⟩
theorem Tryz.cloneA : Go.Proofs.SlLaysW.n5 Tryz.prog Tryz.cloneA_ren:={
 mixed:=by kernel_rfl
 f5:=⟨Tryz.f156.name,by decide,Tryz.func156.trans (congrArg some (by kernel_rfl))⟩
 f7:=Tryz.func194.trans (congrArg some (by kernel_rfl))
 t4:=Tryz.underlying4
 a4:=Tryz.isAgg4
 z4:=Tryz.sizeOf4
 v4:=Tryz.zeroValue4
 t20:=Tryz.underlying20
 a20:=Tryz.isAgg20
 z20:=Tryz.sizeOf20
 v20:=Tryz.zeroValue20
 t23:=Tryz.underlying82
 a23:=Tryz.isAgg82
 z23:=Tryz.sizeOf82
 v23:=Tryz.zeroValue82 }
def Tryz.cloneB_ren : Go.Shelf.Ren:=⟨fun | 5=>195 | 7=>194 | n=>n,fun | 23=>130 | 25=>9 | 3=>9 | 4=>4 | 20=>20 | n=>n,fun | n=>n⟩
theorem Tryz.cloneB : Go.Proofs.SlLaysW.n5 Tryz.prog Tryz.cloneB_ren:={
 mixed:=by kernel_rfl
 f5:=⟨Tryz.f195.name,by decide,Tryz.func195.trans (congrArg some (by kernel_rfl))⟩
 f7:=Tryz.func194.trans (congrArg some (by kernel_rfl))
 t4:=Tryz.underlying4
 a4:=Tryz.isAgg4
 z4:=Tryz.sizeOf4
 v4:=Tryz.zeroValue4
 t20:=Tryz.underlying20
 a20:=Tryz.isAgg20
 z20:=Tryz.sizeOf20
 v20:=Tryz.zeroValue20
 t23:=Tryz.underlying130
 a23:=Tryz.isAgg130
 z23:=Tryz.sizeOf130
 v23:=Tryz.zeroValue130 }
def Tryz.cloneC_ren : Go.Shelf.Ren:=⟨fun | 5=>196 | 7=>194 | n=>n,fun | 23=>151 | 25=>9 | 3=>157 | 4=>4 | 20=>20 | n=>n,fun | n=>n⟩
theorem Tryz.cloneC : Go.Proofs.SlLaysW.n5 Tryz.prog Tryz.cloneC_ren:={
 mixed:=by kernel_rfl
 f5:=⟨Tryz.f196.name,by decide,Tryz.func196.trans (congrArg some (by kernel_rfl))⟩
 f7:=Tryz.func194.trans (congrArg some (by kernel_rfl))
 t4:=Tryz.underlying4
 a4:=Tryz.isAgg4
 z4:=Tryz.sizeOf4
 v4:=Tryz.zeroValue4
 t20:=Tryz.underlying20
 a20:=Tryz.isAgg20
 z20:=Tryz.sizeOf20
 v20:=Tryz.zeroValue20
 t23:=Tryz.underlying151
 a23:=Tryz.isAgg151
 z23:=Tryz.sizeOf151
 v23:=Tryz.zeroValue151 }
def Tryz.keysA_ren : Go.Shelf.Ren:=⟨fun | 7=>171 | 10=>202 | n=>n,fun | 23=>130 | 26=>9 | 3=>9 | 28=>208 | 0=>0 | 27=>207 | 33=>143 | 4=>4 | n=>n,fun | n=>n⟩
theorem Tryz.keysA : Go.Proofs.SlLaysZ.n7 Tryz.prog Tryz.keysA_ren:={
 mixed:=by kernel_rfl
 f7:=⟨Tryz.f171.name,by decide,Tryz.func171.trans (congrArg some (by kernel_rfl))⟩
 f10:=⟨Tryz.f202.name,by decide,Tryz.func202.trans (congrArg some (by kernel_rfl))⟩
 t0:=Tryz.underlying0
 a0:=Tryz.isAgg0
 z0:=Tryz.sizeOf0
 v0:=Tryz.zeroValue0
 t4:=Tryz.underlying4
 a4:=Tryz.isAgg4
 z4:=Tryz.sizeOf4
 v4:=Tryz.zeroValue4
 t23:=Tryz.underlying130
 a23:=Tryz.isAgg130
 z23:=Tryz.sizeOf130
 v23:=Tryz.zeroValue130
 t26:=Tryz.underlying9
 a26:=Tryz.isAgg9
 z26:=Tryz.sizeOf9
 v26:=Tryz.zeroValue9
 t27:=Tryz.underlying207
 a27:=Tryz.isAgg207
 z27:=Tryz.sizeOf207
 v27:=Tryz.zeroValue207
 t28:=Tryz.underlying208
 a28:=Tryz.isAgg208
 z28:=Tryz.sizeOf208
 v28:=Tryz.zeroValue208
 t33:=Tryz.underlying143
 a33:=Tryz.isAgg143
 z33:=Tryz.sizeOf143
 v33:=Tryz.zeroValue143 }
def Tryz.keysB_ren : Go.Shelf.Ren:=⟨fun | 7=>174 | 10=>204 | n=>n,fun | 23=>82 | 26=>9 | 3=>89 | 28=>208 | 0=>0 | 27=>207 | 33=>143 | 4=>4 | n=>n,fun | n=>n⟩
theorem Tryz.keysB : Go.Proofs.SlLaysZ.n7 Tryz.prog Tryz.keysB_ren:={
 mixed:=by kernel_rfl
 f7:=⟨Tryz.f174.name,by decide,Tryz.func174.trans (congrArg some (by kernel_rfl))⟩
 f10:=⟨Tryz.f204.name,by decide,Tryz.func204.trans (congrArg some (by kernel_rfl))⟩
 t0:=Tryz.underlying0
 a0:=Tryz.isAgg0
 z0:=Tryz.sizeOf0
 v0:=Tryz.zeroValue0
 t4:=Tryz.underlying4
 a4:=Tryz.isAgg4
 z4:=Tryz.sizeOf4
 v4:=Tryz.zeroValue4
 t23:=Tryz.underlying82
 a23:=Tryz.isAgg82
 z23:=Tryz.sizeOf82
 v23:=Tryz.zeroValue82
 t26:=Tryz.underlying9
 a26:=Tryz.isAgg9
 z26:=Tryz.sizeOf9
 v26:=Tryz.zeroValue9
 t27:=Tryz.underlying207
 a27:=Tryz.isAgg207
 z27:=Tryz.sizeOf207
 v27:=Tryz.zeroValue207
 t28:=Tryz.underlying208
 a28:=Tryz.isAgg208
 z28:=Tryz.sizeOf208
 v28:=Tryz.zeroValue208
 t33:=Tryz.underlying143
 a33:=Tryz.isAgg143
 z33:=Tryz.sizeOf143
 v33:=Tryz.zeroValue143 }
def Tryz.keysC_ren : Go.Shelf.Ren:=⟨fun | 7=>207 | 10=>216 | n=>n,fun | 23=>154 | 26=>9 | 3=>151 | 28=>208 | 0=>0 | 27=>207 | 33=>143 | 4=>4 | n=>n,fun | n=>n⟩
theorem Tryz.keysC : Go.Proofs.SlLaysZ.n7 Tryz.prog Tryz.keysC_ren:={
 mixed:=by kernel_rfl
 f7:=⟨Tryz.f207.name,by decide,Tryz.func207.trans (congrArg some (by kernel_rfl))⟩
 f10:=⟨Tryz.f216.name,by decide,Tryz.func216.trans (congrArg some (by kernel_rfl))⟩
 t0:=Tryz.underlying0
 a0:=Tryz.isAgg0
 z0:=Tryz.sizeOf0
 v0:=Tryz.zeroValue0
 t4:=Tryz.underlying4
 a4:=Tryz.isAgg4
 z4:=Tryz.sizeOf4
 v4:=Tryz.zeroValue4
 t23:=Tryz.underlying154
 a23:=Tryz.isAgg154
 z23:=Tryz.sizeOf154
 v23:=Tryz.zeroValue154
 t26:=Tryz.underlying9
 a26:=Tryz.isAgg9
 z26:=Tryz.sizeOf9
 v26:=Tryz.zeroValue9
 t27:=Tryz.underlying207
 a27:=Tryz.isAgg207
 z27:=Tryz.sizeOf207
 v27:=Tryz.zeroValue207
 t28:=Tryz.underlying208
 a28:=Tryz.isAgg208
 z28:=Tryz.sizeOf208
 v28:=Tryz.zeroValue208
 t33:=Tryz.underlying143
 a33:=Tryz.isAgg143
 z33:=Tryz.sizeOf143
 v33:=Tryz.zeroValue143 }
def Tryz.collA_ren : Go.Shelf.Ren:=⟨fun | 8=>200 | 11=>208 | n=>n,fun | 26=>9 | 28=>208 | 24=>25 | 0=>0 | 33=>143 | 4=>4 | n=>n,fun | n=>n⟩
theorem Tryz.collA : Go.Proofs.SlLaysZ.n8 Tryz.prog Tryz.collA_ren:={
 mixed:=by kernel_rfl
 f8:=⟨Tryz.f200.name,by decide,Tryz.func200.trans (congrArg some (by kernel_rfl))⟩
 f11:=⟨Tryz.f208.name,by decide,Tryz.func208.trans (congrArg some (by kernel_rfl))⟩
 t0:=Tryz.underlying0
 a0:=Tryz.isAgg0
 z0:=Tryz.sizeOf0
 v0:=Tryz.zeroValue0
 t24:=Tryz.underlying25
 a24:=Tryz.isAgg25
 z24:=Tryz.sizeOf25
 v24:=Tryz.zeroValue25
 t26:=Tryz.underlying9
 a26:=Tryz.isAgg9
 z26:=Tryz.sizeOf9
 v26:=Tryz.zeroValue9
 t28:=Tryz.underlying208
 a28:=Tryz.isAgg208
 z28:=Tryz.sizeOf208
 v28:=Tryz.zeroValue208
 i26:=by kernel_rfl }
def Tryz.sortA_ren : Go.Shelf.Ren:=⟨fun | 6=>201 | 15=>210 | 14=>209 | 28=>225 | 29=>226 | 20=>217 | 21=>218 | 22=>219 | 23=>220 | 24=>221 | 25=>222 | 26=>223 | 27=>224 | 46=>234 | 47=>235 | 48=>236 | 49=>237 | 50=>238 | 57=>242 | n=>n,fun | 22=>25 | 24=>9 | 25=>210 | 3=>3 | 39=>219 | 0=>0 | 53=>248 | 55=>113 | 4=>4 | 46=>241 | 45=>240 | 50=>245 | 5=>5 | 9=>9 | 66=>253 | 70=>257 | 76=>261 | 77=>262 | n=>n,fun | n=>n⟩
theorem Tryz.sortA : Go.Proofs.SlLaysF.n6 Tryz.prog Tryz.sortA_ren:={
 mixed:=by kernel_rfl
 f6:=⟨Tryz.f201.name,by decide,Tryz.func201.trans (congrArg some (by kernel_rfl))⟩
 f14:=⟨Tryz.f209.name,by decide,Tryz.func209.trans (congrArg some (by kernel_rfl))⟩
 f15:=Tryz.func210.trans (congrArg some (by kernel_rfl))
 f20:=⟨Tryz.f217.name,by decide,Tryz.func217.trans (congrArg some (by kernel_rfl))⟩
 f21:=⟨Tryz.f218.name,by decide,Tryz.func218.trans (congrArg some (by kernel_rfl))⟩
 f22:=⟨Tryz.f219.name,by decide,Tryz.func219.trans (congrArg some (by kernel_rfl))⟩
 f23:=⟨Tryz.f220.name,by decide,Tryz.func220.trans (congrArg some (by kernel_rfl))⟩
 f24:=⟨Tryz.f221.name,by decide,Tryz.func221.trans (congrArg some (by kernel_rfl))⟩
 f25:=⟨Tryz.f222.name,by decide,Tryz.func222.trans (congrArg some (by kernel_rfl))⟩
 f26:=⟨Tryz.f223.name,by decide,Tryz.func223.trans (congrArg some (by kernel_rfl))⟩
 f27:=⟨Tryz.f224.name,by decide,Tryz.func224.trans (congrArg some (by kernel_rfl))⟩
 f28:=Tryz.func225.trans (congrArg some (by kernel_rfl))
 f29:=Tryz.func226.trans (congrArg some (by kernel_rfl))
 f46:=⟨Tryz.f234.name,by decide,Tryz.func234.trans (congrArg some (by kernel_rfl))⟩
 f47:=Tryz.func235.trans (congrArg some (by kernel_rfl))
 f48:=Tryz.func236.trans (congrArg some (by kernel_rfl))
 f49:=⟨Tryz.f237.name,by decide,Tryz.func237.trans (congrArg some (by kernel_rfl))⟩
 f50:=⟨Tryz.f238.name,by decide,Tryz.func238.trans (congrArg some (by kernel_rfl))⟩
 f57:=⟨Tryz.f242.name,by decide,Tryz.func242.trans (congrArg some (by kernel_rfl))⟩
 t0:=Tryz.underlying0
 a0:=Tryz.isAgg0
 z0:=Tryz.sizeOf0
 v0:=Tryz.zeroValue0
 t3:=Tryz.underlying3
 a3:=Tryz.isAgg3
 z3:=Tryz.sizeOf3
 v3:=Tryz.zeroValue3
 t4:=Tryz.underlying4
 a4:=Tryz.isAgg4
 z4:=Tryz.sizeOf4
 v4:=Tryz.zeroValue4
 t5:=Tryz.underlying5
 a5:=Tryz.isAgg5
 z5:=Tryz.sizeOf5
 v5:=Tryz.zeroValue5
 t9:=Tryz.underlying9
 a9:=Tryz.isAgg9
 z9:=Tryz.sizeOf9
 v9:=Tryz.zeroValue9
 t22:=Tryz.underlying25
 a22:=Tryz.isAgg25
 z22:=Tryz.sizeOf25
 v22:=Tryz.zeroValue25
 a24:=Tryz.isAgg9
 z24:=Tryz.sizeOf9
 t25:=Tryz.underlying210
 a25:=Tryz.isAgg210
 z25:=Tryz.sizeOf210
 v25:=Tryz.zeroValue210
 t39:=Tryz.underlying219
 a39:=Tryz.isAgg219
 z39:=Tryz.sizeOf219
 v39:=Tryz.zeroValue219
 t45:=Tryz.underlying240
 a45:=Tryz.isAgg240
 z45:=Tryz.sizeOf240
 v45:=Tryz.zeroValue240
 t46:=Tryz.underlying241
 a46:=Tryz.isAgg241
 z46:=Tryz.sizeOf241
 v46:=Tryz.zeroValue241
 t50:=Tryz.underlying245
 a50:=Tryz.isAgg245
 z50:=Tryz.sizeOf245
 v50:=Tryz.zeroValue245
 t53:=Tryz.underlying248
 a53:=Tryz.isAgg248
 z53:=Tryz.sizeOf248
 v53:=Tryz.zeroValue248
 t55:=Tryz.underlying113
 a55:=Tryz.isAgg113
 z55:=Tryz.sizeOf113
 v55:=Tryz.zeroValue113
 t66:=Tryz.underlying253
 a66:=Tryz.isAgg253
 z66:=Tryz.sizeOf253
 v66:=Tryz.zeroValue253
 t70:=Tryz.underlying257
 a70:=Tryz.isAgg257
 z70:=Tryz.sizeOf257
 v70:=Tryz.zeroValue257
 t76:=Tryz.underlying261
 a76:=Tryz.isAgg261
 z76:=Tryz.sizeOf261
 v76:=Tryz.zeroValue261
 t77:=Tryz.underlying262
 a77:=Tryz.isAgg262
 z77:=Tryz.sizeOf262
 v77:=Tryz.zeroValue262 }
end Go.Proofs
namespace Go.Proofs.YtedkoimihknggaaGreatDoor.A
set_option linter.unusedVariables false
set_option linter.unusedSimpArgs false
open Go.RowKit Go.Maps Go.Sort Go.Shelf Go.Proofs
theorem clA : Zhq Tryz.prog 156 where
 c:=⟨Tryz.f156,Tryz.func156,by kernel_rfl,by kernel_rfl⟩
 nil:=fun w=>AnyW.maps_Clone_nil Tryz.cloneA w
 some:=fun b es clock w hb=>AnyW.maps_Clone Tryz.cloneA b es clock w hb
theorem clB : Zhq Tryz.prog 195 where
 c:=⟨Tryz.f195,Tryz.func195,by kernel_rfl,by kernel_rfl⟩
 nil:=fun w=>AnyW.maps_Clone_nil Tryz.cloneB w
 some:=fun b es clock w hb=>AnyW.maps_Clone Tryz.cloneB b es clock w hb
theorem clC : Zhq Tryz.prog 196 where
 c:=⟨Tryz.f196,Tryz.func196,by kernel_rfl,by kernel_rfl⟩
 nil:=fun w=>AnyW.maps_Clone_nil Tryz.cloneC w
 some:=fun b es clock w hb=>AnyW.maps_Clone Tryz.cloneC b es clock w hb
def ZdG (x y : List UInt8) : Int:=if x < y then -1 else if y < x then 1 else 0
theorem ZAU (x : List UInt8) (w : World) : Calls Tryz.prog 211 #[encStr x] w fun e w'=>e=.returned (.bool false)∧w'=w:=by
 go_enter Tryz.func211,Tryz.ntmps211
 go_wp2
 go_ret
 exact ⟨by simp,rfl⟩
theorem ZiF (x y : List UInt8) : x < y∨x=y∨y < x:=by
 by_cases h : x < y
 ·exact .inl h
 ·by_cases h2 : y < x
  ·exact .inr (.inr h2)
  ·exact .inr (.inl (List.le_antisymm h2 h))
theorem ZyG (x y : List UInt8) (w : World) : Calls Tryz.prog 203 #[encStr x,encStr y] w fun e w'=>e=.returned (.int .i64 (ZdG x y))∧w'=w:=by
 have e211 : ∀ args w,(callFunc 211 args).run Tryz.prog w=.ok (.enter 211 args) w:=enters_of Tryz.func211 (by kernel_rfl) rfl
 have hb : Op.bytesLess x y=decide (x < y):=bytesLess_eq x y
 have ht:=ZiF x y
 have hn : ∀ a : List UInt8,¬ a < a:=fun a=>List.lt_irrefl a
 have has : x < y→¬ y < x:=fun h=>List.lt_asymm h
 go_enter Tryz.func203,Tryz.ntmps203
 go_wp2_with (go_at_call 211;refine (ZAU _ _).mono ?_;rintro e w' ⟨rfl,hw⟩;rw [hw])
 all_goals (go_ret;refine ⟨?_,rfl⟩;unfold ZdG;rw [hb] at *;by_cases h1 : x < y <;> by_cases h2 : y < x <;> simp_all <;> exact absurd h2 (List.lt_irrefl _))
theorem Zr7 (x y : List UInt8) (w : World) : Calls Tryz.prog 172 #[encStr x,encStr y] w fun e w'=>e=.returned (.int .i64 (ZdG x y))∧w'=w:=by
 have e203 : ∀ args w,(callFunc 203 args).run Tryz.prog w=.ok (.enter 203 args) w:=enters_of Tryz.func203 (by kernel_rfl) rfl
 go_enter Tryz.func172,Tryz.ntmps172
 go_wp2_with (go_at_call 203;refine (ZyG _ _ _).mono ?_;rintro e w' ⟨rfl,hw⟩;rw [hw])
 go_ret
 exact ⟨rfl,rfl⟩
theorem ZBq (blk off size : Nat) (w : World) : CmpLays1 Tryz.prog 172 #[] encStr ZdG blk off size w:=fun m os dk hd x y=>
 (Zr7 x y _).mono fun e w' ⟨he,hw⟩=>⟨he,0,#[],by rw [hw];simp [grow,World.drewN]⟩
theorem ZhX (x y : List UInt8) : ltOf ZdG x y=decide (x < y):=by
 unfold ltOf ZdG
 by_cases h1 : x < y
 ·simp [h1]
 ·by_cases h2 : y < x <;> simp [h1,h2]
theorem ZC6 : SWO (ltOf ZdG) where
 irrefl x:=by rw [ZhX];exact decide_eq_false (List.lt_irrefl x)
 trans x y z h1 h2:=by rw [ZhX] at *;simp only [decide_eq_true_eq] at *;exact List.lt_trans h1 h2
 ntrans x y z h1 h2:=by
  rw [ZhX] at *
  simp only [decide_eq_false_iff_not] at *
  exact List.le_trans h2 h1
theorem Zy0 {ss : List (List UInt8)} {d' : Array (List UInt8)} (hp : PermIn 0 ss.toArray.size ss.toArray d') (hs : SortedIn (ltOf ZdG) 0 ss.toArray.size d') : d'=(ss.mergeSort fun x y=>decide (x≤y)).toArray:=by
 have hsz : d'.size=ss.length:=by simpa using hp.1
 have hperm : d'.toList.Perm ss:=by
  have h3 : d'.toList.Perm (ss.take d'.size):=by simpa [← hsz] using hp.2.2
  rwa [List.take_of_length_le (by omega)] at h3
 have hpw : d'.toList.Pairwise fun x y=>(decide (x≤y))=true:=by
  rw [List.pairwise_iff_getElem]
  intro i j hi hj hij
  have hi' : i < d'.size:=by simpa using hi
  have hj' : j < d'.size:=by simpa using hj
  have:=hs i j (Nat.zero_le _) hij (by simpa [hsz] using hj')
  rw [ZhX,getElem!_pos d' j hj',getElem!_pos d' i hi'] at this
  simp only [decide_eq_false_iff_not] at this
  simp only [Array.getElem_toList,decide_eq_true_eq]
  exact this
 have h1 : d'.toList.mergeSort (fun x y=>decide (x≤y))=d'.toList:=List.mergeSort_of_pairwise hpw
 have h2:=mergeSort_of_perm hperm
 apply Array.ext'
 rw [← h1]
 exact h2
theorem ZzB {g : FuncId} {args : List Value} {v : Value} {n : Nat} (hg : g < Zb0) (hc : Zc5 Tryz.prog g) (hx : ∀ w : World,RVs (ι0 Tryz.prog.globals.size) args args) (hrun : ∃ H',run Tryz.prog (fun _=>none) lvs n g args (List.replicate Tryz.prog.globals.size Ze.dead)=some (v,H')) (w : World) :
  Calls Tryz.prog g args.toArray w fun e w'=>∃ v',e=.returned v'∧Go.RowKit.Below w.heap.size w w':=by
 obtain ⟨H',hrun⟩:=hrun
 have hs:=Zh7 (P:=Tryz.prog) (prim:=fun _=>none) (lvs:=lvs) (by kernel_rfl) (fun b g m h=>by cases h) n (b0 w) g args _ v H' hrun
 rcases hs with ⟨_,hC | ⟨e,⟨fn',h1,_,h2,_⟩,_⟩⟩ | ⟨hno,_⟩
 ·obtain ⟨_,hC⟩:=hC
  refine (hC (ι0 Tryz.prog.globals.size) w args ZBR (hx w)).mono fun e w' ⟨ι1,v',_,he,_,hS⟩=>⟨v',he,?_⟩
  exact ⟨hS.rest.1,hS.rest.2.1,hS.rest.2.2,hS.size,hS.old⟩
 ·obtain ⟨fn,h3,_,h4⟩:=hc
  rw [h3] at h1;cases h1
  rw [h4] at h2;cases h2
 ·exact absurd hg (Nat.not_lt_of_le hno)
noncomputable abbrev R0 (n : Nat) : Zc:=run Tryz.prog (fun _=>none) lvs n
section
variable {H : Zd} {n : Nat} {f : Value}
theorem ZBW : R0 (n+1) Jo [.slice none 0 0,iv 0,iv 0,f] H=some (.tuple #[],H):=by
 rw [R0,Zc3 rfl]
 unfold Qf
 have w1 : IntKind.i64.wrap (0+1)=1:=w64 (by omega) (by omega)
 rw [Za ZB,w1]
 refine (ZT (j:=0) (vs:=[]) (H':=H) (ZK ?_)).trans ?_
 ·simp [Qf.l1,↓Qa,Z9,↓QI,Qp,Qo,Ql,↓Zb,J9,Zt,Ys,Qq,JD,QA,JC,Jn,QW,JL,QX,QV,Q6,Q7,QG,Zl,ZH,YT,Yz,Jl,Ja,J5,ZB,QU,JY,J8,JZ,ZD,Zq,Zm,Je,Z0,Qj,Jt,JW,Ju,J2,↓Y8,J3,↓g_r,YS,Bool.not_true,Bool.not_false,Bool.false_eq_true,Bool.true_eq_false,reduceIte,List.tail_cons,List.headD_cons,decide_true,decide_false,cond_true,cond_false,Nat.beq_refl,Ws,YC,ZX,Z3,ZI,Qc,Jy,JA,Kj,KL,YD,YZ,YX,ZE,List.replicate,Zr,Zs,Jp,Jq,Jr,Zh,J7,ZP,Z5]
 ·rw [ZE];rfl
theorem ZCt {l : Value} : R0 (n+2) Q2 [.slice none 0 0,iv 0,iv 0,l,f] H=some (.tuple #[],H):=by
 have e1 : run Tryz.prog (fun _=>none) lvs (n+1) Jo [.slice none 0 0,iv 0,iv 0,f] H=_:=ZBW
 rw [R0,Zff rfl]
 unfold JB
 refine (JJ (v:=.tuple #[]) (H':=H) (QE ?_)).trans rfl
 have w1 : IntKind.i64.wrap (0 - 0)=0:=w64 (by omega) (by omega)
 rw [JA]
 unfold JB.l1
 refine JJ ?_
 rw [Za QU,w1,Za Je,Zb,if_pos (by simp),Za e1]
 rfl
theorem ZAR {s : ByteArray} {i : Nat} (hi : i < s.size) (q : IntKind) (H : Zd) : ∃ b : UInt8,ixs (.string s) (.int q i) H=some (.int .u8 b.toNat,H):=by
 refine ⟨s[i],?_⟩
 unfold ixs
 simp only [Int.toNat_natCast]
 rw [if_pos (by omega),getElem?_pos s i hi]
set_option maxRecDepth 100000 in
theorem ZB4 : ∃ v,R0 (n+2) ZdY [.int .u64 0] H=some (v,H):=by
 have e : ∃ v,R0 (n+1) ZcT [.int .u64 0] H=some (v,H):=by
  rw [R0,ZmK rfl]
  unfold ZeU
  have w1 : IntKind.u8.wrap 0=((0 : Nat) : Int):=by rw [wu8];rfl
  generalize ht : (⟨#[0,1,2,2,3,3,3,3,4,4,4,4,4,4,4,4,5,5,5,5,5,5,5,5,5,5,5,5,5,5,5,5,6,6,6,6,6,6,6,6,6,6,6,6,6,6,6,6,6,6,6,6,6,6,6,6,6,6,6,6,6,6,6,6,7,7,7,7,7,7,7,7,7,7,7,7,7,7,7,7,7,7,7,7,7,7,7,7,7,7,7,7,7,7,7,7,7,7,7,7,7,7,7,7,7,7,7,7,7,7,7,7,7,7,7,7,7,7,7,7,7,7,7,7,7,7,7,7,8,8,8,8,8,8,8,8,8,8,8,8,8,8,8,8,8,8,8,8,8,8,8,8,8,8,8,8,8,8,8,8,8,8,8,8,8,8,8,8,8,8,8,8,8,8,8,8,8,8,8,8,8,8,8,8,8,8,8,8,8,8,8,8,8,8,8,8,8,8,8,8,8,8,8,8,8,8,8,8,8,8,8,8,8,8,8,8,8,8,8,8,8,8,8,8,8,8,8,8,8,8,8,8,8,8,8,8,8,8,8,8,8,8,8,8,8,8,8,8,8,8,8,8,8,8,8,8]⟩ : ByteArray)=tab
  have hs : tab.size=256:=by rw [← ht];rfl
  obtain ⟨b,hb⟩:=ZAR (s:=tab) (i:=0) (by omega) .u8 H
  refine ⟨iv (IntKind.i64.wrap (0+IntKind.i64.wrap b.toNat)),?_⟩
  rw [Za Qj]
  refine (ZZ (vs:=[.int .u64 0,iv 0]) (H':=H) (by rw [Zb,if_neg (by simp)];rfl)).trans ?_
  rw [ZX,Za Qj]
  refine (ZZ (vs:=[.int .u64 0,iv 0]) (H':=H) (by rw [Zb,if_neg (by simp)];rfl)).trans ?_
  rw [ZX,Za Qj]
  refine (ZZ (vs:=[.int .u64 0,iv 0]) (H':=H) (by rw [Zb,if_neg (by simp)];rfl)).trans ?_
  rw [ZX,Za QG,w1,Za hb,Za QG,Za ZB]
  rfl
 obtain ⟨v,e⟩:=e
 refine ⟨v,?_⟩
 rw [R0,Zqh rfl]
 unfold Zgl
 rw [Zb,if_neg (by simp),Za e]
 rfl
theorem ZBo : R0 (n+3) WG [.slice none 0 0,f] H=some (.tuple #[],H):=by
 obtain ⟨v,e1⟩:=ZB4 (n:=n) (H:=H)
 have e2 : R0 (n+2) Q2 [.slice none 0 0,iv 0,iv 0,v,f] H=some (.tuple #[],H):=ZCt
 rw [R0,ZeF rfl]
 unfold WF
 have w1 : IntKind.u64.wrap ((0 : Nat) : Int)=0:=by rw [Zqr];rfl
 rw [Za Q6,Za QG,w1,Za e1]
 refine (Za e2).trans rfl
end
theorem Zzc (w : World) : Calls Tryz.prog 201 #[.slice none 0 0,.func (.func 172) #[] #[]] w fun e w'=>∃ v',e=.returned v'∧Go.RowKit.Below w.heap.size w w':=
 ZzB (args:=[.slice none 0 0,.func (.func 172) #[] #[]]) (n:=3) (by decide) ⟨Tryz.f201,Tryz.func201,by kernel_rfl,by kernel_rfl⟩ (fun w=>.cons (.sc rfl) (.cons (.fn (fun l h=>by cases h) rfl (fun i hi=>by cases hi) rfl (fun i hi=>by cases hi)) .nil)) ⟨_,ZBo (n:=0)⟩ w
theorem ZiY {gk : FuncId} (hg : ∀ args w,(callFunc gk args).run Tryz.prog w=.ok (.enter gk args) w)
  (hseq : ∀ (w : World) (Bm b : Nat) (es : Array MapEntry) (clock : Nat) (ks : List (List UInt8)),Bm < w.heap.size→w.cell? ⟨Bm,0,none⟩=some (.map (some b))→w.heap[b]?=some (.map es clock)→es.toList.map (·.key)=ks.map strv→Go.MapKept.Stamped es clock→
   (∀ k∈ks,k.length≤1000000)→ks.length≤1000000→SeqGives Fence.wide 3 Tryz.prog gk #[.pointer (some ⟨Bm,0,none⟩)] encStr (fun ss=>ss.Perm ks) ks.length w) : ZiJ Tryz.prog 170 gk 172 where
 c:=⟨Tryz.f170,Tryz.func170,by kernel_rfl,by kernel_rfl⟩
 run:=fun w Bm b es clock ks hB hc hb hk hst hl hf=>by
  have e201 : ∀ args w,(callFunc 201 args).run Tryz.prog w=.ok (.enter 201 args) w:=enters_of Tryz.func201 (by kernel_rfl) rfl
  have e172 : ∀ args w,(callFunc 172 args).run Tryz.prog w=.ok (.enter 172 args) w:=enters_of Tryz.func172 (by kernel_rfl) rfl
  have hmax : ks.length≤maxLen:=Nat.le_trans hf (by decide)
  have cC:=AnyZ.collect_in Tryz.collA Fence.wide 5 trivial trivial rfl (by omega) gk #[.pointer (some ⟨Bm,0,none⟩)] trivial hg _ _ hmax (by omega) w (hseq w Bm b es clock ks hB hc hb hk hst hl hf)
  have cC:=(callsIn_wide (n:=5)).1 cC
  change Calls Tryz.prog 200 _ _ _ at cC
  go_enter Tryz.func170,Tryz.ntmps170
  go_wp2_with (go_at_call 200;refine cC.mono ?_;rintro e W ⟨v,ss,rfl,hS,hrow,hnil,hbl⟩)
  have hlen : ss.length=ks.length:=hS.length_eq
  rcases hrow.2 with ⟨rfl,hz⟩ | ⟨gb,cap,cur,rfl,hbase,hgb,r1,r2,r3,r4⟩
  ·have hss : ss=[]:=List.eq_nil_of_length_eq_zero hz
   go_wp2_with (go_at_call 201;refine (Zzc W).mono ?_;rintro e w' ⟨v',rfl,hb2⟩)
   go_ret
   have hks : ks=[]:=List.eq_nil_of_length_eq_zero (by rw [← hlen,hss];rfl)
   subst hks
   exact ⟨_,0,rfl,⟨by simp [Qx],.inl ⟨rfl,rfl⟩⟩,by simp,hbl.trans (hb2.mono (by have:=hbl.size;omega))⟩
  ·have hH : Holds encStr W gb 0 ss.toArray:=holds_of_block hgb (by simpa using r4)
   have hgl : gb < W.heap.size:=(Array.getElem?_eq_some_iff.1 hgb).1
   have cS:=Any.slices_SortFunc Tryz.sortA encStr (fun _=>rfl) ZdG ZC6 172 #[] gb 0 cap ss.toArray W e172 (ZBq gb 0 _ W) hH hgl (by simp;omega)
   change Calls Tryz.prog 201 #[.slice (some ⟨gb,0,none⟩) ss.length cap,.func (.func 172) #[] #[]] W _ at cS
   go_wp2_with (go_at_call 201;refine cS.mono ?_;rintro e w' ⟨rfl,d',nn,os,hp,hs,rfl⟩)
   go_ret
   have hd:=Zy0 hp hs
   subst hd
   have hks : Qx ks=ss.mergeSort (fun x y=>decide (x≤y)):=(mergeSort_of_perm hS).symm
   rw [← hlen,hks]
   exact ⟨_,_,rfl,ownsRow_sorted (by simp) hbase hgb r1 r2 r3,hnil.trans ⟨fun h=>List.eq_nil_of_length_eq_zero (by rw [← hlen,h];rfl),fun h=>List.eq_nil_of_length_eq_zero (by rw [hlen,h];rfl)⟩,hbl.grown (grownBy_sorted _) hbl.size (fun j hj=>by cases hj;exact hbase)⟩
section
variable {H : Type}
def Zua (v : Value) : Option (DataW H × List MemPlace):=some (.nil,[])
theorem own_of {P : Program} {k : TypeId} (hk : P.underlying k=some .string) {w : World} {b clock : Nat} {es : Array MapEntry} {ks : List (List UInt8)} (hb : w.heap[b]?=some (.map es clock)) (hks : es.toList.map (·.key)=ks.map strv) (hst : Go.MapKept.Stamped es clock)
  (hl : ∀ k∈ks,k.length≤1000000) (hf : ks.length≤1000000) : ∃ D0 : DataW H,w.ownsMap P k Zua b ks.length D0∧ks.Perm (strKeys D0)∧Maps.size D0=ks.length:=by
 have hsz : es.size=ks.length:=by
  have:=congrArg List.length hks
  simpa using this
 have hrd : ∀ (x : MapEntry) (s : List UInt8),x.key=strv s→s.length≤1000000→Go.WideElems.rd (H:=H) P k Zua x=some (.string s,.nil):=fun x s hs hlen=>by
  have h1 : (⟨s.toArray⟩ : ByteArray).size≤maxLen:=Nat.le_trans (by simpa [ByteArray.size] using hlen) (by decide)
  simp [Go.WideElems.rd,hs,keyOf,hk,mapKey,Zua,h1,strv]
 have hmap : ∀ (l : List MapEntry) (q : List (List UInt8)),l.map (·.key)=q.map strv→(∀ s∈q,s.length≤1000000)→l.map (Go.WideElems.rg (H:=H) P k Zua)=q.map fun s=>(Lit.string s,DataW.nil):=by
  intro l
  induction l with
  | nil=>intro q h _;cases q with | nil=>rfl | cons a q=>simp at h
  | cons x l ih=>
   intro q h hq
   cases q with
   | nil=>simp at h
   | cons a q=>
    simp only [List.map_cons,List.cons.injEq] at h
    rw [List.map_cons,List.map_cons,ih q h.2 (fun s hs=>hq s (List.mem_cons_of_mem _ hs))]
    congr 1
    unfold Go.WideElems.rg
    rw [hrd x a h.1 (hq a (by simp))]
    rfl
 refine ⟨.map ((es.toList.map (Go.WideElems.rg P k Zua)).foldr DataW.insert []),⟨es,clock,hb,⟨by rw [hsz];exact Nat.le_trans hf (by decide),hst,fun x hx=>?_⟩,by omega,rfl⟩,?_,?_⟩
 ·have : x.key∈ks.map strv:=by rw [← hks];exact List.mem_map.2 ⟨x,hx,rfl⟩
  obtain ⟨s,h1,h2⟩:=List.mem_map.1 this
  exact ⟨_,hrd x s h2.symm (hl s h1)⟩
 ·rw [hmap _ _ hks hl]
  have h1:=(Go.WideShapes.sorted_perm (H:=H) (ks.map fun s=>(Lit.string s,DataW.nil))).map fun p=>Go.strOf p.1
  have h2 : (ks.map fun s=>(Lit.string s,(DataW.nil : DataW H))).map (fun p=>Go.strOf p.1)=ks:=by
   rw [List.map_map];exact (List.map_congr_left fun a _=>rfl).trans (List.map_id ks)
  rw [h2] at h1
  exact h1.symm
 ·rw [hmap _ _ hks hl]
  have:=(Go.WideShapes.sorted_perm (H:=H) (ks.map fun s=>(Lit.string s,DataW.nil))).length_eq
  rw [List.length_map] at this
  exact this
end
theorem Zog {g Bm n : Nat} {ks ks' : List (List UInt8)} {w : World} (h : SeqGives Fence.wide 3 Tryz.prog g #[.pointer (some ⟨Bm,0,none⟩)] encStr (fun ss=>ss.Perm ks') n w) (hn : n=ks.length) (hp : ks.Perm ks') : SeqGives Fence.wide 3 Tryz.prog g #[.pointer (some ⟨Bm,0,none⟩)] encStr (fun ss=>ss.Perm ks) ks.length w:=by
 subst hn
 intro l J W hW hJ hY h0
 refine (h l J W hW hJ hY h0).mono fun e w' ⟨h1,xs,h2,h3⟩=>⟨h1,xs,h2.trans hp.symm,h3⟩
theorem keysA : ZiJ Tryz.prog 170 202 172:=ZiY (enters_of Tryz.func202 (by kernel_rfl) rfl) fun w Bm b es clock ks hB hc hb hk hst hl hf=>by
 obtain ⟨D0,hown,hp,hs⟩:=own_of (H:=Unit) (P:=Tryz.prog) (k:=Tryz.keysA_ren.t 26) (by kernel_rfl) hb hk hst hl hf
 exact Zog (AnyZ.keys_gives (ρ:=Tryz.keysA_ren) { Tryz.keysA with } Fence.wide 3 trivial rfl (by omega) Bm b ks.length D0 w hB hc hown) hs hp
theorem keysB : ZiJ Tryz.prog 170 204 172:=ZiY (enters_of Tryz.func204 (by kernel_rfl) rfl) fun w Bm b es clock ks hB hc hb hk hst hl hf=>by
 obtain ⟨D0,hown,hp,hs⟩:=own_of (H:=Unit) (P:=Tryz.prog) (k:=Tryz.keysB_ren.t 26) (by kernel_rfl) hb hk hst hl hf
 exact Zog (AnyZ.keys_gives (ρ:=Tryz.keysB_ren) { Tryz.keysB with } Fence.wide 3 trivial rfl (by omega) Bm b ks.length D0 w hB hc hown) hs hp
theorem keysC : ZiJ Tryz.prog 170 216 172:=ZiY (enters_of Tryz.func216 (by kernel_rfl) rfl) fun w Bm b es clock ks hB hc hb hk hst hl hf=>by
 obtain ⟨D0,hown,hp,hs⟩:=own_of (H:=Unit) (P:=Tryz.prog) (k:=Tryz.keysC_ren.t 26) (by kernel_rfl) hb hk hst hl hf
 exact Zog (AnyZ.keys_gives (ρ:=Tryz.keysC_ren) { Tryz.keysC with } Fence.wide 3 trivial rfl (by omega) Bm b ks.length D0 w hB hc hown) hs hp
abbrev ZlD : Nat:=202
abbrev Zhu : List Nat:=[202,204,216]
noncomputable def np : Nat→Option (List Value→M Value)
 | 156=>some Zb1
 | 195=>some Zb1
 | 196=>some Zb1
 | 158=>some ZiL
 | 170=>some (ZdO Zhu Qv)
 | 239=>some Zjo
 | 233=>some ZjD
 | _=>none
theorem np_sound (w0 : Qn) : ∀ g m,np g=some m→ZfY Tryz.prog Tryz.prog.globals.size w0 g m:=by
 intro g m h
 unfold np at h
 split at h
 ·cases h;exact Ziq clA
 ·cases h;exact Ziq clB
 ·cases h;exact Ziq clC
 ·cases h;exact Zxs (ZB2 clC)
 ·cases h
  exact Zvf (by simp) fun gk hg=>by
   simp only [List.mem_cons,List.not_mem_nil,or_false] at hg
   rcases hg with rfl | rfl | rfl
   ·exact keysA
   ·exact keysB
   ·exact keysC
 ·cases h;exact (Zxv ⟨Tryz.f239,Tryz.func239,by kernel_rfl,by kernel_rfl,by kernel_rfl,by kernel_rfl⟩)
 ·cases h;exact (Zw9 ⟨Tryz.f233,Tryz.func233,by kernel_rfl,by kernel_rfl,by kernel_rfl,by kernel_rfl⟩)
 ·cases h
noncomputable abbrev R (n : Nat) : Zc:=run Tryz.prog np lvs n
end Go.Proofs.YtedkoimihknggaaGreatDoor.A

namespace Go.Proofs.YtedkoimihknggaaGreatDoor.A
set_option linter.unusedVariables false
set_option linter.unusedSimpArgs false
open Go.Proofs Go.Proofs.YtedkoimihknggaaGreatDoor
abbrev u8v (b : UInt8) : Value:=.int .u8 b.toNat
def Wm (b : UInt8) : Bool:=decide (97≤b.toNat) && decide (b.toNat≤122)
def Zde (b : UInt8) : Bool:=decide (48≤b.toNat) && decide (b.toNat≤57)
def ZgZ (b : UInt8) : Bool:=Wm b || (Zde b || (decide (b.toNat=45) || decide (b.toNat=46)))
def ZkB (b : UInt8) : Bool:=Zde b || (decide (97≤b.toNat) && decide (b.toNat≤102))
def WV (b : UInt8) : Bool:=Wm b || Zde b
def Zp (s : List UInt8) : Bool:=decide (1≤s.length) && decide (s.length≤12) && s.all ZgZ && Wm (s.getD 0 0) && WV (s.getD (s.length - 1) 0)
def YR (s : List UInt8) : Bool:=decide (1≤s.length) && decide (s.length≤12) && s.all ZkB
section
variable {H : Zd} {n : Nat} {b : UInt8} {s : List UInt8}
theorem ZcU {i : Nat} {x : UInt8} (hi : s[i]?=some x) (q : IntKind) (H : Zd) : ixs (strv s) (.int q i) H=some (u8v x,H):=by
 have hlt : i < s.length:=(List.getElem?_eq_some_iff.1 hi).1
 have hx : s[i]=x:=(List.getElem?_eq_some_iff.1 hi).2
 have hs : i < (⟨s.toArray⟩ : ByteArray).size:=by simpa [ByteArray.size] using hlt
 unfold ixs strv
 simp only [Int.toNat_natCast]
 rw [if_pos (by omega),getElem?_pos (⟨s.toArray⟩ : ByteArray) i hs]
 have : (⟨s.toArray⟩ : ByteArray)[i]=x:=by rw [← hx];rfl
 rw [this]
theorem Zi8 : R (n+1) Kb [u8v b] H=some (.bool (Wm b),H):=by
 rw [R,ZqD rfl]
 unfold Wm
 by_cases h1 : (97 : Int)≤b.toNat
 ·have h1' : 97≤b.toNat:=by omega
  by_cases h2 : (b.toNat : Int)≤122
  ·have h2' : b.toNat≤122:=by omega
   simp [ZcX,↓Qa,Z9,↓QI,Qp,Qo,Ql,↓Zb,J9,Zt,Ys,Qq,JD,QA,JC,Jn,QW,JL,QX,QV,Q6,Q7,QG,Zl,ZH,YT,Yz,Jl,Ja,J5,ZB,QU,JY,J8,JZ,ZD,Zq,Zm,Je,Z0,Qj,Jt,JW,Ju,J2,↓Y8,J3,↓g_r,YS,Bool.not_true,Bool.not_false,Bool.false_eq_true,Bool.true_eq_false,reduceIte,List.tail_cons,List.headD_cons,decide_true,decide_false,cond_true,cond_false,Nat.beq_refl,Ws,YC,ZX,Z3,ZI,Qc,Jy,JA,Kj,KL,YD,YZ,YX,ZE,List.replicate,Zr,Zs,Jp,Jq,Jr,Zh,J7,ZP,Z5,h1,h2,h1',h2']
  ·have h2' : ¬ b.toNat≤122:=by omega
   simp [ZcX,↓Qa,Z9,↓QI,Qp,Qo,Ql,↓Zb,J9,Zt,Ys,Qq,JD,QA,JC,Jn,QW,JL,QX,QV,Q6,Q7,QG,Zl,ZH,YT,Yz,Jl,Ja,J5,ZB,QU,JY,J8,JZ,ZD,Zq,Zm,Je,Z0,Qj,Jt,JW,Ju,J2,↓Y8,J3,↓g_r,YS,Bool.not_true,Bool.not_false,Bool.false_eq_true,Bool.true_eq_false,reduceIte,List.tail_cons,List.headD_cons,decide_true,decide_false,cond_true,cond_false,Nat.beq_refl,Ws,YC,ZX,Z3,ZI,Qc,Jy,JA,Kj,KL,YD,YZ,YX,ZE,List.replicate,Zr,Zs,Jp,Jq,Jr,Zh,J7,ZP,Z5,h1,h2,h1',h2']
 ·have h1' : ¬ 97≤b.toNat:=by omega
  simp [ZcX,↓Qa,Z9,↓QI,Qp,Qo,Ql,↓Zb,J9,Zt,Ys,Qq,JD,QA,JC,Jn,QW,JL,QX,QV,Q6,Q7,QG,Zl,ZH,YT,Yz,Jl,Ja,J5,ZB,QU,JY,J8,JZ,ZD,Zq,Zm,Je,Z0,Qj,Jt,JW,Ju,J2,↓Y8,J3,↓g_r,YS,Bool.not_true,Bool.not_false,Bool.false_eq_true,Bool.true_eq_false,reduceIte,List.tail_cons,List.headD_cons,decide_true,decide_false,cond_true,cond_false,Nat.beq_refl,Ws,YC,ZX,Z3,ZI,Qc,Jy,JA,Kj,KL,YD,YZ,YX,ZE,List.replicate,Zr,Zs,Jp,Jq,Jr,Zh,J7,ZP,Z5,h1,h1']
theorem ZmF : R (n+1) Kx [u8v b] H=some (.bool (Zde b),H):=by
 rw [R,Zr4 rfl]
 unfold Zde
 by_cases h1 : (48 : Int)≤b.toNat
 ·have h1' : 48≤b.toNat:=by omega
  by_cases h2 : (b.toNat : Int)≤57
  ·have h2' : b.toNat≤57:=by omega
   simp [ZdR,↓Qa,Z9,↓QI,Qp,Qo,Ql,↓Zb,J9,Zt,Ys,Qq,JD,QA,JC,Jn,QW,JL,QX,QV,Q6,Q7,QG,Zl,ZH,YT,Yz,Jl,Ja,J5,ZB,QU,JY,J8,JZ,ZD,Zq,Zm,Je,Z0,Qj,Jt,JW,Ju,J2,↓Y8,J3,↓g_r,YS,Bool.not_true,Bool.not_false,Bool.false_eq_true,Bool.true_eq_false,reduceIte,List.tail_cons,List.headD_cons,decide_true,decide_false,cond_true,cond_false,Nat.beq_refl,Ws,YC,ZX,Z3,ZI,Qc,Jy,JA,Kj,KL,YD,YZ,YX,ZE,List.replicate,Zr,Zs,Jp,Jq,Jr,Zh,J7,ZP,Z5,h1,h2,h1',h2']
  ·have h2' : ¬ b.toNat≤57:=by omega
   simp [ZdR,↓Qa,Z9,↓QI,Qp,Qo,Ql,↓Zb,J9,Zt,Ys,Qq,JD,QA,JC,Jn,QW,JL,QX,QV,Q6,Q7,QG,Zl,ZH,YT,Yz,Jl,Ja,J5,ZB,QU,JY,J8,JZ,ZD,Zq,Zm,Je,Z0,Qj,Jt,JW,Ju,J2,↓Y8,J3,↓g_r,YS,Bool.not_true,Bool.not_false,Bool.false_eq_true,Bool.true_eq_false,reduceIte,List.tail_cons,List.headD_cons,decide_true,decide_false,cond_true,cond_false,Nat.beq_refl,Ws,YC,ZX,Z3,ZI,Qc,Jy,JA,Kj,KL,YD,YZ,YX,ZE,List.replicate,Zr,Zs,Jp,Jq,Jr,Zh,J7,ZP,Z5,h1,h2,h1',h2']
 ·have h1' : ¬ 48≤b.toNat:=by omega
  simp [ZdR,↓Qa,Z9,↓QI,Qp,Qo,Ql,↓Zb,J9,Zt,Ys,Qq,JD,QA,JC,Jn,QW,JL,QX,QV,Q6,Q7,QG,Zl,ZH,YT,Yz,Jl,Ja,J5,ZB,QU,JY,J8,JZ,ZD,Zq,Zm,Je,Z0,Qj,Jt,JW,Ju,J2,↓Y8,J3,↓g_r,YS,Bool.not_true,Bool.not_false,Bool.false_eq_true,Bool.true_eq_false,reduceIte,List.tail_cons,List.headD_cons,decide_true,decide_false,cond_true,cond_false,Nat.beq_refl,Ws,YC,ZX,Z3,ZI,Qc,Jy,JA,Kj,KL,YD,YZ,YX,ZE,List.replicate,Zr,Zs,Jp,Jq,Jr,Zh,J7,ZP,Z5,h1,h1']
theorem ZnB {a b : Nat} : ((a : Int)==(b : Int))=decide (a=b):=by
 rw [Bool.eq_iff_iff,beq_iff_eq,decide_eq_true_eq];omega
theorem ZCl : R (n+2) ZeD [u8v b] H=some (.bool (ZgZ b),H):=by
 have e1 : run Tryz.prog np lvs (n+1) Kb [u8v b] H=some (.bool (Wm b),H):=Zi8
 have e2 : run Tryz.prog np lvs (n+1) Kx [u8v b] H=some (.bool (Zde b),H):=ZmF
 have q1 : ((b.toNat : Int)==45)=decide (b.toNat=45):=ZnB (b:=45)
 have q2 : ((b.toNat : Int)==46)=decide (b.toNat=46):=ZnB (b:=46)
 rw [R,ZuO rfl]
 unfold ZgZ
 generalize Wm b=p at e1 ⊢
 generalize Zde b=q at e2 ⊢
 cases p <;> cases q <;> cases h3 : decide (b.toNat=45) <;> simp [Zi4,↓Qa,Z9,↓QI,Qp,Qo,Ql,↓Zb,J9,Zt,Ys,Qq,JD,QA,JC,Jn,QW,JL,QX,QV,Q6,Q7,QG,Zl,ZH,YT,Yz,Jl,Ja,J5,ZB,QU,JY,J8,JZ,ZD,Zq,Zm,Je,Z0,Qj,Jt,JW,Ju,J2,↓Y8,J3,↓g_r,YS,Bool.not_true,Bool.not_false,Bool.false_eq_true,Bool.true_eq_false,reduceIte,List.tail_cons,List.headD_cons,decide_true,decide_false,cond_true,cond_false,Nat.beq_refl,Ws,YC,ZX,Z3,ZI,Qc,Jy,JA,Kj,KL,YD,YZ,YX,ZE,List.replicate,Zr,Zs,Jp,Jq,Jr,Zh,J7,ZP,Z5,e1,e2,q1,q2,h3] <;> (cases h4 : decide (b.toNat=46) <;> simp_all)
theorem ZCR : R (n+2) ZdJ [u8v b] H=some (.bool (ZkB b),H):=by
 have e2 : run Tryz.prog np lvs (n+1) Kx [u8v b] H=some (.bool (Zde b),H):=ZmF
 rw [R,ZsD rfl]
 unfold ZkB
 generalize Zde b=q at e2 ⊢
 cases q
 ·by_cases h1 : (97 : Int)≤b.toNat
  ·have h1' : 97≤b.toNat:=by omega
   by_cases h2 : (b.toNat : Int)≤102
   ·have h2' : b.toNat≤102:=by omega
    simp [ZcF,↓Qa,Z9,↓QI,Qp,Qo,Ql,↓Zb,J9,Zt,Ys,Qq,JD,QA,JC,Jn,QW,JL,QX,QV,Q6,Q7,QG,Zl,ZH,YT,Yz,Jl,Ja,J5,ZB,QU,JY,J8,JZ,ZD,Zq,Zm,Je,Z0,Qj,Jt,JW,Ju,J2,↓Y8,J3,↓g_r,YS,Bool.not_true,Bool.not_false,Bool.false_eq_true,Bool.true_eq_false,reduceIte,List.tail_cons,List.headD_cons,decide_true,decide_false,cond_true,cond_false,Nat.beq_refl,Ws,YC,ZX,Z3,ZI,Qc,Jy,JA,Kj,KL,YD,YZ,YX,ZE,List.replicate,Zr,Zs,Jp,Jq,Jr,Zh,J7,ZP,Z5,e2,h1,h2,h1',h2']
   ·have h2' : ¬ b.toNat≤102:=by omega
    simp [ZcF,↓Qa,Z9,↓QI,Qp,Qo,Ql,↓Zb,J9,Zt,Ys,Qq,JD,QA,JC,Jn,QW,JL,QX,QV,Q6,Q7,QG,Zl,ZH,YT,Yz,Jl,Ja,J5,ZB,QU,JY,J8,JZ,ZD,Zq,Zm,Je,Z0,Qj,Jt,JW,Ju,J2,↓Y8,J3,↓g_r,YS,Bool.not_true,Bool.not_false,Bool.false_eq_true,Bool.true_eq_false,reduceIte,List.tail_cons,List.headD_cons,decide_true,decide_false,cond_true,cond_false,Nat.beq_refl,Ws,YC,ZX,Z3,ZI,Qc,Jy,JA,Kj,KL,YD,YZ,YX,ZE,List.replicate,Zr,Zs,Jp,Jq,Jr,Zh,J7,ZP,Z5,e2,h1,h2,h1',h2']
  ·have h1' : ¬ 97≤b.toNat:=by omega
   simp [ZcF,↓Qa,Z9,↓QI,Qp,Qo,Ql,↓Zb,J9,Zt,Ys,Qq,JD,QA,JC,Jn,QW,JL,QX,QV,Q6,Q7,QG,Zl,ZH,YT,Yz,Jl,Ja,J5,ZB,QU,JY,J8,JZ,ZD,Zq,Zm,Je,Z0,Qj,Jt,JW,Ju,J2,↓Y8,J3,↓g_r,YS,Bool.not_true,Bool.not_false,Bool.false_eq_true,Bool.true_eq_false,reduceIte,List.tail_cons,List.headD_cons,decide_true,decide_false,cond_true,cond_false,Nat.beq_refl,Ws,YC,ZX,Z3,ZI,Qc,Jy,JA,Kj,KL,YD,YZ,YX,ZE,List.replicate,Zr,Zs,Jp,Jq,Jr,Zh,J7,ZP,Z5,e2,h1,h1']
 ·simp [ZcF,↓Qa,Z9,↓QI,Qp,Qo,Ql,↓Zb,J9,Zt,Ys,Qq,JD,QA,JC,Jn,QW,JL,QX,QV,Q6,Q7,QG,Zl,ZH,YT,Yz,Jl,Ja,J5,ZB,QU,JY,J8,JZ,ZD,Zq,Zm,Je,Z0,Qj,Jt,JW,Ju,J2,↓Y8,J3,↓g_r,YS,Bool.not_true,Bool.not_false,Bool.false_eq_true,Bool.true_eq_false,reduceIte,List.tail_cons,List.headD_cons,decide_true,decide_false,cond_true,cond_false,Nat.beq_refl,Ws,YC,ZX,Z3,ZI,Qc,Jy,JA,Kj,KL,YD,YZ,YX,ZE,List.replicate,Zr,Zs,Jp,Jq,Jr,Zh,J7,ZP,Z5,e2]
theorem ZyL {f : Value} {p : UInt8→Bool} (hf : ∀ (b : UInt8) (H : Zd),Jv (R n) f [u8v b] H=some (.bool (p b),H)) (hs : s.length≤1000000000) : ∀ (t k : Nat),s.length - k=t→k≤s.length→
  Zi (c4 (Zau.l1 (R n))) [strv s,f,iv s.length,iv k] H=some (if (s.drop k).all p then .ext 0 [] else .ret (.bool false),H)
 | 0,k,ht,hk=>by
  have : k=s.length:=by omega
  subst this
  rw [List.drop_length]
  refine ZK ?_
  simp [Zau.l1,↓Qa,Z9,↓QI,Qp,Qo,Ql,↓Zb,J9,Zt,Ys,Qq,JD,QA,JC,Jn,QW,JL,QX,QV,Q6,Q7,QG,Zl,ZH,YT,Yz,Jl,Ja,J5,ZB,QU,JY,J8,JZ,ZD,Zq,Zm,Je,Z0,Qj,Jt,JW,Ju,J2,↓Y8,J3,↓g_r,YS,Bool.not_true,Bool.not_false,Bool.false_eq_true,Bool.true_eq_false,reduceIte,List.tail_cons,List.headD_cons,decide_true,decide_false,cond_true,cond_false,Nat.beq_refl,Ws,YC,ZX,Z3,ZI,Qc,Jy,JA,Kj,KL,YD,YZ,YX,ZE,List.replicate,Zr,Zs,Jp,Jq,Jr,Zh,J7,ZP,Z5]
 | t+1,k,ht,hk=>by
  have hkl : k < s.length:=by omega
  have hlt : (k : Int) < s.length:=by omega
  have hg:=List.getElem?_eq_getElem hkl
  have hd:=List.drop_eq_getElem_cons hkl
  generalize s[k]=b at hg hd
  have x1:=ZcU hg .i64 H
  have ih:=ZyL hf hs t (k+1) (by omega) (by omega)
  rw [hd,List.all_cons]
  cases hp : p b
  ·refine QE ?_
   have e:=hf b H
   rw [hp] at e
   rw [ZI]
   unfold Zau.l1
   rw [Za Zm,Zb,if_pos (by simpa using hlt),Za x1,Za e,Za ZH,Zb,if_pos (by rfl)]
   rfl
  ·rw [Bool.true_and]
   refine (Zy ?_).trans ih
   have e:=hf b H
   rw [hp] at e
   rw [ZI]
   unfold Zau.l1
   rw [Za Zm,Zb,if_pos (by simpa using hlt),Za x1,Za e,Za ZH,Zb,if_neg (by simp),Za ZB,Qg (by omega)]
   rfl
theorem Zxz {f : Value} {p : UInt8→Bool} (hf : ∀ (b : UInt8) (H : Zd),Jv (R n) f [u8v b] H=some (.bool (p b),H)) (hs : s.length≤1000000000) : R (n+1) Wq [strv s,f] H=some (.bool (s.all p),H):=by
 have e:=ZyL (H:=H) hf hs s.length 0 (by omega) (by omega)
 rw [List.drop_zero] at e
 have e : Zi (c4 (Zau.l1 (R n))) [strv s,f,iv s.length,.int .i64 0] H=_:=e
 rw [R,Zvz rfl]
 unfold Zau
 rw [Za ZP]
 cases h : s.all p
 ·rw [h] at e
  rw [JJ e];rfl
 ·rw [h] at e
  rw [ZT e,ZE];rfl
theorem Zts {g : Nat} {args : List Value} (hy : Nat.blt g Zb0=true:=by rfl) : Jv (R n) (.func (.func g) #[] #[]) args=R n g args:=by
 have : Jv (R n) (.func (.func g) #[] #[]) args=R n g ([]++(args++[])):=by
  simp only [Jv,hy,cond_true]
 rw [this];simp
theorem Zy5 (hs : s.length≤1000000000) : R (n+3) Wq [strv s,.func (.func ZeD) #[] #[]] H=some (.bool (s.all ZgZ),H):=
 Zxz (fun b H=>by rw [Zts];exact ZCl) hs
theorem Zzp (hs : s.length≤1000000000) : R (n+3) Wq [strv s,.func (.func ZdJ) #[] #[]] H=some (.bool (s.all ZkB),H):=
 Zxz (fun b H=>by rw [Zts];exact ZCR) hs
theorem Zmu : bop .str .eql (strv s) (.string ⟨#[]⟩) H=some (.bool (decide (s.length=0)),H):=by
 have:=Zdp (H:=H) (a:=s) (b:=[])
 have h : (s==[])=decide (s.length=0):=by cases s <;> simp
 rw [h] at this
 exact this
theorem ZrW : R (n+4) ZaJ [strv s] H=some (.bool (Zp s),H):=by
 rw [R,Zq6 rfl]
 unfold Zp
 by_cases h0 : s.length=0
 ·have h1 : ¬ 1≤s.length:=by omega
  unfold Zdi
  rw [Za Zmu,decide_eq_true h0]
  simp [↓Qa,Z9,↓QI,Qp,Qo,Ql,↓Zb,J9,Zt,Ys,Qq,JD,QA,JC,Jn,QW,JL,QX,QV,Q6,Q7,QG,Zl,ZH,YT,Yz,Jl,Ja,J5,ZB,QU,JY,J8,JZ,ZD,Zq,Zm,Je,Z0,Qj,Jt,JW,Ju,J2,↓Y8,J3,↓g_r,YS,Bool.not_true,Bool.not_false,Bool.false_eq_true,Bool.true_eq_false,reduceIte,List.tail_cons,List.headD_cons,decide_true,decide_false,cond_true,cond_false,Nat.beq_refl,Ws,YC,ZX,Z3,ZI,Qc,Jy,JA,Kj,KL,YD,YZ,YX,ZE,List.replicate,Zr,Zs,Jp,Jq,Jr,Zh,J7,ZP,Z5,h1]
 ·have h1 : 1≤s.length:=by omega
  by_cases h12 : s.length≤12
  ·have e1 : run Tryz.prog np lvs (n+3) Wq [strv s,.func (.func ZeD) #[] #[]] H=some (.bool (s.all ZgZ),H):=Zy5 (by omega)
   have g0 : s[0]?=some (s.getD 0 0):=by rw [List.getElem?_eq_getElem (by omega)];simp [List.getD_eq_getElem?_getD,List.getElem?_eq_getElem (show 0 < s.length by omega)]
   have gl : s[s.length - 1]?=some (s.getD (s.length - 1) 0):=by rw [List.getElem?_eq_getElem (by omega)];simp [List.getD_eq_getElem?_getD,List.getElem?_eq_getElem (show s.length - 1 < s.length by omega)]
   have x0 : ixs (strv s) (.int .i64 0) H=some (u8v (s.getD 0 0),H):=ZcU g0 .i64 H
   have xl:=ZcU gl .i64 H
   have wl:=Zqa (k:=s.length) (by omega) (by omega)
   generalize s.getD 0 0=b0 at x0
   generalize s.getD (s.length - 1) 0=bl at xl
   have e2 : run Tryz.prog np lvs (n+3) Kb [u8v b0] H=some (.bool (Wm b0),H):=Zi8
   have e3 : run Tryz.prog np lvs (n+3) Kb [u8v bl] H=some (.bool (Wm bl),H):=Zi8
   have e4 : run Tryz.prog np lvs (n+3) Kx [u8v bl] H=some (.bool (Zde bl),H):=ZmF
   have q1 : bop .int .gtr (iv s.length) (.int .i64 12) H=some (.bool false,H):=by rw [Z0,decide_eq_false (by omega)]
   unfold Zdi
   rw [Za Zmu,decide_eq_false h0,decide_eq_true h1,decide_eq_true h12]
   rw [ZU,Zk,Za ZP,Zk,Za q1,ZV,Z3,Za Zl]
   simp only [cond_false]
   rw [ZU,Zk,Za x0,Zk,Za e2,Zk,Za ZH,ZV,ZI,Za Zl]
   simp only [cond_false]
   cases hb0 : Wm b0
   ·simp [↓Qa,Z9,↓QI,Qp,Qo,Ql,↓Zb,J9,Zt,Ys,Qq,JD,QA,JC,Jn,QW,JL,QX,QV,Q6,Q7,QG,Zl,ZH,YT,Yz,Jl,Ja,J5,ZB,QU,JY,J8,JZ,ZD,Zq,Zm,Je,Z0,Qj,Jt,JW,Ju,J2,↓Y8,J3,↓g_r,YS,Bool.not_true,Bool.not_false,Bool.false_eq_true,Bool.true_eq_false,reduceIte,List.tail_cons,List.headD_cons,decide_true,decide_false,cond_true,cond_false,Nat.beq_refl,Ws,YC,ZX,Z3,ZI,Qc,Jy,JA,Kj,KL,YD,YZ,YX,ZE,List.replicate,Zr,Zs,Jp,Jq,Jr,Zh,J7,ZP,Z5]
   ·simp only [Bool.not_true]
    rw [ZU,Zk,Za e1,Zk,Za ZH,ZV,Z3,Za Zl]
    simp only [cond_false]
    cases hall : s.all ZgZ
    ·simp [↓Qa,Z9,↓QI,Qp,Qo,Ql,↓Zb,J9,Zt,Ys,Qq,JD,QA,JC,Jn,QW,JL,QX,QV,Q6,Q7,QG,Zl,ZH,YT,Yz,Jl,Ja,J5,ZB,QU,JY,J8,JZ,ZD,Zq,Zm,Je,Z0,Qj,Jt,JW,Ju,J2,↓Y8,J3,↓g_r,YS,Bool.not_true,Bool.not_false,Bool.false_eq_true,Bool.true_eq_false,reduceIte,List.tail_cons,List.headD_cons,decide_true,decide_false,cond_true,cond_false,Nat.beq_refl,Ws,YC,ZX,Z3,ZI,Qc,Jy,JA,Kj,KL,YD,YZ,YX,ZE,List.replicate,Zr,Zs,Jp,Jq,Jr,Zh,J7,ZP,Z5]
    ·simp only [Bool.not_true]
     rw [Zb,if_neg (by simp),Za ZP,Za QU,wl,Za xl,Za e3]
     unfold WV
     cases hl : Wm bl
     ·rw [ZU,Zk,Za e4,ZV,ZX,Za Zl]
      simp [ret]
     ·simp [↓Qa,Z9,↓QI,Qp,Qo,Ql,↓Zb,J9,Zt,Ys,Qq,JD,QA,JC,Jn,QW,JL,QX,QV,Q6,Q7,QG,Zl,ZH,YT,Yz,Jl,Ja,J5,ZB,QU,JY,J8,JZ,ZD,Zq,Zm,Je,Z0,Qj,Jt,JW,Ju,J2,↓Y8,J3,↓g_r,YS,Bool.not_true,Bool.not_false,Bool.false_eq_true,Bool.true_eq_false,reduceIte,List.tail_cons,List.headD_cons,decide_true,decide_false,cond_true,cond_false,Nat.beq_refl,Ws,YC,ZX,Z3,ZI,Qc,Jy,JA,Kj,KL,YD,YZ,YX,ZE,List.replicate,Zr,Zs,Jp,Jq,Jr,Zh,J7,ZP,Z5]
  ·have q1 : bop .int .gtr (iv s.length) (.int .i64 12) H=some (.bool true,H):=by rw [Z0,decide_eq_true (by omega)]
   unfold Zdi
   rw [Za Zmu,decide_eq_false h0]
   rw [ZU,Zk,Za ZP,Zk,Za q1,ZV,Z3,Za Zl]
   simp [↓Qa,Z9,↓QI,Qp,Qo,Ql,↓Zb,J9,Zt,Ys,Qq,JD,QA,JC,Jn,QW,JL,QX,QV,Q6,Q7,QG,Zl,ZH,YT,Yz,Jl,Ja,J5,ZB,QU,JY,J8,JZ,ZD,Zq,Zm,Je,Z0,Qj,Jt,JW,Ju,J2,↓Y8,J3,↓g_r,YS,Bool.not_true,Bool.not_false,Bool.false_eq_true,Bool.true_eq_false,reduceIte,List.tail_cons,List.headD_cons,decide_true,decide_false,cond_true,cond_false,Nat.beq_refl,Ws,YC,ZX,Z3,ZI,Qc,Jy,JA,Kj,KL,YD,YZ,YX,ZE,List.replicate,Zr,Zs,Jp,Jq,Jr,Zh,J7,ZP,Z5,h12]
def ZJ (s : List UInt8) : Int:=if Zp s then 0 else 10
def Qt (s : List UInt8) : Int:=if YR s then 0 else 4
theorem ZcB : R (n+5) QZ [strv s] H=some (iv (ZJ s),H):=by
 have e1 : run Tryz.prog np lvs (n+4) ZaJ [strv s] H=some (.bool (Zp s),H):=ZrW
 rw [R,Zto rfl]
 unfold ZJ
 generalize Zp s=q at e1 ⊢
 cases q <;> simp [Zjm,↓Qa,Z9,↓QI,Qp,Qo,Ql,↓Zb,J9,Zt,Ys,Qq,JD,QA,JC,Jn,QW,JL,QX,QV,Q6,Q7,QG,Zl,ZH,YT,Yz,Jl,Ja,J5,ZB,QU,JY,J8,JZ,ZD,Zq,Zm,Je,Z0,Qj,Jt,JW,Ju,J2,↓Y8,J3,↓g_r,YS,Bool.not_true,Bool.not_false,Bool.false_eq_true,Bool.true_eq_false,reduceIte,List.tail_cons,List.headD_cons,decide_true,decide_false,cond_true,cond_false,Nat.beq_refl,Ws,YC,ZX,Z3,ZI,Qc,Jy,JA,Kj,KL,YD,YZ,YX,ZE,List.replicate,Zr,Zs,Jp,Jq,Jr,Zh,J7,ZP,Z5,e1]
theorem Zmz : R (n+4) WH [strv s] H=some (iv (Qt s),H):=by
 have e1 : s.length≤12→run Tryz.prog np lvs (n+3) Wq [strv s,.func (.func ZdJ) #[] #[]] H=some (.bool (s.all ZkB),H):=fun h12=>Zzp (by omega)
 rw [R,Zs6 rfl]
 unfold Qt YR ZjN
 rw [Za Zmu]
 by_cases h0 : s.length=0
 ·have h1 : ¬ 1≤s.length:=by omega
  rw [decide_eq_true h0]
  simp [↓Qa,Z9,↓QI,Qp,Qo,Ql,↓Zb,J9,Zt,Ys,Qq,JD,QA,JC,Jn,QW,JL,QX,QV,Q6,Q7,QG,Zl,ZH,YT,Yz,Jl,Ja,J5,ZB,QU,JY,J8,JZ,ZD,Zq,Zm,Je,Z0,Qj,Jt,JW,Ju,J2,↓Y8,J3,↓g_r,YS,Bool.not_true,Bool.not_false,Bool.false_eq_true,Bool.true_eq_false,reduceIte,List.tail_cons,List.headD_cons,decide_true,decide_false,cond_true,cond_false,Nat.beq_refl,Ws,YC,ZX,Z3,ZI,Qc,Jy,JA,Kj,KL,YD,YZ,YX,ZE,List.replicate,Zr,Zs,Jp,Jq,Jr,Zh,J7,ZP,Z5,h1]
 ·have h1 : 1≤s.length:=by omega
  rw [decide_eq_false h0,ZU,Zk,Za ZP]
  by_cases h12 : s.length≤12
  ·have q1 : bop .int .gtr (iv s.length) (.int .i64 12) H=some (.bool false,H):=by rw [Z0,decide_eq_false (by omega)]
   rw [Zk,Za q1,ZV,Z3,Za Zl]
   simp only [cond_false]
   rw [ZU,Zk,Za (e1 h12),Zk,Za ZH,ZV,ZI,Za Zl]
   cases s.all ZkB <;> simp [↓Qa,Z9,↓QI,Qp,Qo,Ql,↓Zb,J9,Zt,Ys,Qq,JD,QA,JC,Jn,QW,JL,QX,QV,Q6,Q7,QG,Zl,ZH,YT,Yz,Jl,Ja,J5,ZB,QU,JY,J8,JZ,ZD,Zq,Zm,Je,Z0,Qj,Jt,JW,Ju,J2,↓Y8,J3,↓g_r,YS,Bool.not_true,Bool.not_false,Bool.false_eq_true,Bool.true_eq_false,reduceIte,List.tail_cons,List.headD_cons,decide_true,decide_false,cond_true,cond_false,Nat.beq_refl,Ws,YC,ZX,Z3,ZI,Qc,Jy,JA,Kj,KL,YD,YZ,YX,ZE,List.replicate,Zr,Zs,Jp,Jq,Jr,Zh,J7,ZP,Z5,h12,h1]
  ·have q1 : bop .int .gtr (iv s.length) (.int .i64 12) H=some (.bool true,H):=by rw [Z0,decide_eq_true (by omega)]
   rw [Zk,Za q1,ZV,Z3,Za Zl]
   simp [↓Qa,Z9,↓QI,Qp,Qo,Ql,↓Zb,J9,Zt,Ys,Qq,JD,QA,JC,Jn,QW,JL,QX,QV,Q6,Q7,QG,Zl,ZH,YT,Yz,Jl,Ja,J5,ZB,QU,JY,J8,JZ,ZD,Zq,Zm,Je,Z0,Qj,Jt,JW,Ju,J2,↓Y8,J3,↓g_r,YS,Bool.not_true,Bool.not_false,Bool.false_eq_true,Bool.true_eq_false,reduceIte,List.tail_cons,List.headD_cons,decide_true,decide_false,cond_true,cond_false,Nat.beq_refl,Ws,YC,ZX,Z3,ZI,Qc,Jy,JA,Kj,KL,YD,YZ,YX,ZE,List.replicate,Zr,Zs,Jp,Jq,Jr,Zh,J7,ZP,Z5,h12]
theorem Ziw {a b : UInt8} : ((a.toNat : Int)==(b.toNat : Int))=(a==b):=by
 rw [Bool.eq_iff_iff,beq_iff_eq,beq_iff_eq,Int.ofNat_inj,UInt8.toNat_inj]
theorem ZAp {t : List UInt8} (ht : t.length≤1000000) : ∀ (d k : Nat),t.length - k=d→k≤t.length→
  Zi (c3 (Zaq.l1 (R n))) [u8v b,strv t,iv k] H=some (if (t.drop k).any (·==b) then .ret (.bool true) else .ext 0 [],H)
 | 0,k,hd,hk=>by
  have : k=t.length:=by omega
  subst this
  rw [List.drop_length]
  refine ZK ?_
  rw [Z3]
  unfold Zaq.l1
  rw [Za ZP,Za Zm,Zb,if_neg (by simp)]
  rfl
 | d+1,k,hd,hk=>by
  have hkl : k < t.length:=by omega
  have hlt : (k : Int) < t.length:=by omega
  have hg:=List.getElem?_eq_getElem hkl
  have hdr:=List.drop_eq_getElem_cons hkl
  generalize t[k]=c at hg hdr
  have x1:=ZcU hg .i64 H
  have ih:=ZAp ht d (k+1) (by omega) (by omega)
  rw [hdr,List.any_cons]
  cases hc : c==b
  ·rw [Bool.false_or]
   refine (Zy ?_).trans ih
   rw [Z3]
   unfold Zaq.l1
   rw [Za ZP,Za Zm,Zb,if_pos (by simpa using hlt),Za x1,Za ZD,Ziw,hc,Zb,if_neg (by simp),Za ZB,Qg (by omega)]
   rfl
  ·refine QE ?_
   rw [Z3]
   unfold Zaq.l1
   rw [Za ZP,Za Zm,Zb,if_pos (by simpa using hlt),Za x1,Za ZD,Ziw,hc,Zb,if_pos rfl]
   rfl
theorem Zxb {t : List UInt8} (ht : t.length≤1000000) : R (n+1) Zao [u8v b,strv t] H=some (.bool (t.any (·==b)),H):=by
 have e:=ZAp (n:=n) (H:=H) (b:=b) ht t.length 0 (by omega) (by omega)
 rw [List.drop_zero] at e
 have e : Zi (c3 (Zaq.l1 (R n))) [u8v b,strv t,.int .i64 0] H=_:=e
 rw [R,Zu8 rfl]
 unfold Zaq
 cases h : t.any (·==b)
 ·rw [h] at e
  rw [ZT e,ZE];rfl
 ·rw [h] at e
  rw [JJ e];rfl
theorem ZAq {t : List UInt8} (ht : t.length≤1000000) (hs : s.length≤1000000000) : ∀ (d k : Nat),s.length - k=d→k≤s.length→
  Zi (c3 (Zap.l1 (R (n+1)))) [strv s,strv t,iv k] H=some (if (s.drop k).all (fun b=>t.any (·==b)) then .ext 0 [] else .ret (.bool false),H)
 | 0,k,hd,hk=>by
  have : k=s.length:=by omega
  subst this
  rw [List.drop_length]
  refine ZK ?_
  rw [Z3]
  unfold Zap.l1
  rw [Za ZP,Za Zm,Zb,if_neg (by simp)]
  rfl
 | d+1,k,hd,hk=>by
  have hkl : k < s.length:=by omega
  have hlt : (k : Int) < s.length:=by omega
  have hg:=List.getElem?_eq_getElem hkl
  have hdr:=List.drop_eq_getElem_cons hkl
  generalize s[k]=c at hg hdr
  have x1:=ZcU hg .i64 H
  have e1:=Zxb (n:=n) (b:=c) (H:=H) ht
  have ih:=ZAq ht hs d (k+1) (by omega) (by omega)
  rw [hdr,List.all_cons]
  cases hc : t.any (·==c)
  ·rw [hc] at e1
   refine QE ?_
   rw [Z3]
   unfold Zap.l1
   rw [Za ZP,Za Zm,Zb,if_pos (by simpa using hlt),Za x1,Za e1,Za ZH,Zb,if_pos (by rfl)]
   rfl
  ·rw [hc] at e1
   rw [Bool.true_and]
   refine (Zy ?_).trans ih
   rw [Z3]
   unfold Zap.l1
   rw [Za ZP,Za Zm,Zb,if_pos (by simpa using hlt),Za x1,Za e1,Za ZH,Zb,if_neg (by simp),Za ZB,Qg (by omega)]
   rfl
theorem ZCw {t : List UInt8} {p : UInt8→Bool} (ht : t.length≤1000000) (hs : s.length≤1000000000) (hp : ∀ b,t.any (·==b)=p b) : R (n+2) Zdk [strv s,strv t] H=some (.bool (s.all p),H):=by
 have e:=ZAq (n:=n) (H:=H) ht hs s.length 0 (by omega) (by omega)
 rw [List.drop_zero] at e
 rw [show (fun b=>t.any (·==b))=p from funext hp] at e
 have e : Zi (c3 (Zap.l1 (R (n+1)))) [strv s,strv t,.int .i64 0] H=_:=e
 rw [R,ZvM rfl]
 unfold Zap
 cases h : s.all p
 ·rw [h] at e
  rw [JJ e];rfl
 ·rw [h] at e
  rw [ZT e,ZE];rfl
def Zhn : List UInt8:=[97,98,99,100,101,102,103,104,105,106,107,108,109,110,111,112,113,114,115,116,117,118,119,120,121,122]
def ZuJ : List UInt8:=[97,98,99,100,101,102,103,104,105,106,107,108,109,110,111,112,113,114,115,116,117,118,119,120,121,122,48,49,50,51,52,53,54,55,56,57]
def ZyV : List UInt8:=[97,98,99,100,101,102,103,104,105,106,107,108,109,110,111,112,113,114,115,116,117,118,119,120,121,122,48,49,50,51,52,53,54,55,56,57,45,46]
def ZCp : List UInt8:=[48,49,50,51,52,53,54,55,56,57,97,98,99,100,101,102]
theorem ZhB {p : UInt8→Prop} (h : ∀ n : Nat,n < 256→p (UInt8.ofNat n)) (b : UInt8) : p b:=by
 have:=h b.toNat b.toNat_lt
 rwa [UInt8.ofNat_toNat] at this
theorem Zxt : ∀ b,Zhn.any (·==b)=Wm b:=ZhB (by decide+kernel)
theorem Zut : ∀ b,ZuJ.any (·==b)=WV b:=ZhB (by decide+kernel)
theorem ZzA : ∀ b,ZyV.any (·==b)=ZgZ b:=ZhB (by decide+kernel)
theorem ZBY : ∀ b,ZCp.any (·==b)=ZkB b:=ZhB (by decide+kernel)
theorem ZpZ : R (n+3) Zaw [strv s] H=some (.bool (YR s),H):=by
 have e1 : s.length≤12→run Tryz.prog np lvs (n+2) Zdk [strv s,strv ZCp] H=some (.bool (s.all ZkB),H):=fun h12=>ZCw (by decide) (by omega) ZBY
 rw [R,Zsf rfl]
 unfold YR Zig
 rw [Za ZP]
 by_cases h1 : 1≤s.length
 ·have q1 : bop .int .geq (iv s.length) (.int .i64 1) H=some (.bool true,H):=by rw [Qj,decide_eq_true (by omega)]
  rw [Za q1,ZU,Zk,Za ZP]
  by_cases h12 : s.length≤12
  ·have q2 : bop .int .leq (iv s.length) (.int .i64 12) H=some (.bool true,H):=by rw [Je,decide_eq_true (by omega)]
   rw [Zk,Za q2,ZV,Z3,Za Zl]
   simp only [cond_true]
   rw [ZU,Zk]
   refine (Za (e1 h12)).trans ?_
   rw [ZV,ZX,Za Zl,decide_eq_true h12,decide_eq_true h1]
   rfl
  ·have q2 : bop .int .leq (iv s.length) (.int .i64 12) H=some (.bool false,H):=by rw [Je,decide_eq_false (by omega)]
   rw [Zk,Za q2,ZV,Z3,Za Zl]
   simp [↓Qa,Z9,↓QI,Qp,Qo,Ql,↓Zb,J9,Zt,Ys,Qq,JD,QA,JC,Jn,QW,JL,QX,QV,Q6,Q7,QG,Zl,ZH,YT,Yz,Jl,Ja,J5,ZB,QU,JY,J8,JZ,ZD,Zq,Zm,Je,Z0,Qj,Jt,JW,Ju,J2,↓Y8,J3,↓g_r,YS,Bool.not_true,Bool.not_false,Bool.false_eq_true,Bool.true_eq_false,reduceIte,List.tail_cons,List.headD_cons,decide_true,decide_false,cond_true,cond_false,Nat.beq_refl,Ws,YC,ZX,Z3,ZI,Qc,Jy,JA,Kj,KL,YD,YZ,YX,ZE,List.replicate,Zr,Zs,Jp,Jq,Jr,Zh,J7,ZP,Z5,h12]
 ·have q1 : bop .int .geq (iv s.length) (.int .i64 1) H=some (.bool false,H):=by rw [Qj,decide_eq_false (by omega)]
  rw [Za q1]
  simp [↓Qa,Z9,↓QI,Qp,Qo,Ql,↓Zb,J9,Zt,Ys,Qq,JD,QA,JC,Jn,QW,JL,QX,QV,Q6,Q7,QG,Zl,ZH,YT,Yz,Jl,Ja,J5,ZB,QU,JY,J8,JZ,ZD,Zq,Zm,Je,Z0,Qj,Jt,JW,Ju,J2,↓Y8,J3,↓g_r,YS,Bool.not_true,Bool.not_false,Bool.false_eq_true,Bool.true_eq_false,reduceIte,List.tail_cons,List.headD_cons,decide_true,decide_false,cond_true,cond_false,Nat.beq_refl,Ws,YC,ZX,Z3,ZI,Qc,Jy,JA,Kj,KL,YD,YZ,YX,ZE,List.replicate,Zr,Zs,Jp,Jq,Jr,Zh,J7,ZP,Z5,h1]
theorem Zca : R (n+3) QP [strv s] H=some (.bool (Zp s),H):=by
 have e1 : s.length≤12→run Tryz.prog np lvs (n+2) Zdk [strv s,strv ZyV] H=some (.bool (s.all ZgZ),H):=fun h12=>ZCw (by decide) (by omega) ZzA
 rw [R,Zsa rfl]
 unfold Zp Zif
 rw [Za ZP]
 by_cases h1 : 1≤s.length
 ·have q1 : bop .int .geq (iv s.length) (.int .i64 1) H=some (.bool true,H):=by rw [Qj,decide_eq_true (by omega)]
  rw [Za q1,ZU,Zk]
  by_cases h12 : s.length≤12
  ·have q2 : bop .int .leq (iv s.length) (.int .i64 12) H=some (.bool true,H):=by rw [Je,decide_eq_true (by omega)]
   have g0 : s[0]?=some (s.getD 0 0):=by rw [List.getElem?_eq_getElem (by omega)];simp [List.getD_eq_getElem?_getD,List.getElem?_eq_getElem (show 0 < s.length by omega)]
   have gl : s[s.length - 1]?=some (s.getD (s.length - 1) 0):=by rw [List.getElem?_eq_getElem (by omega)];simp [List.getD_eq_getElem?_getD,List.getElem?_eq_getElem (show s.length - 1 < s.length by omega)]
   have x0 : ixs (strv s) (.int .i64 0) H=some (u8v (s.getD 0 0),H):=ZcU g0 .i64 H
   have xl:=ZcU gl .i64 H
   have wl:=Zqa (k:=s.length) (by omega) (by omega)
   generalize s.getD 0 0=b0 at x0
   generalize s.getD (s.length - 1) 0=bl at xl
   have e2 : run Tryz.prog np lvs (n+2) Zao [u8v b0,strv Zhn] H=some (.bool (Wm b0),H):=by rw [← Zxt];exact Zxb (by decide)
   have e3 : run Tryz.prog np lvs (n+2) Zao [u8v bl,strv ZuJ] H=some (.bool (WV bl),H):=by rw [← Zut];exact Zxb (by decide)
   rw [Za q2,ZV,ZX,Za Zl]
   simp only [cond_true]
   rw [ZU,Zk]
   refine (Za (e1 h12)).trans ?_
   rw [ZV,ZX,Za Zl,decide_eq_true h12,decide_eq_true h1]
   simp only [cond_true]
   cases hall : s.all ZgZ
   ·simp [↓Qa,Z9,↓QI,Qp,Qo,Ql,↓Zb,J9,Zt,Ys,Qq,JD,QA,JC,Jn,QW,JL,QX,QV,Q6,Q7,QG,Zl,ZH,YT,Yz,Jl,Ja,J5,ZB,QU,JY,J8,JZ,ZD,Zq,Zm,Je,Z0,Qj,Jt,JW,Ju,J2,↓Y8,J3,↓g_r,YS,Bool.not_true,Bool.not_false,Bool.false_eq_true,Bool.true_eq_false,reduceIte,List.tail_cons,List.headD_cons,decide_true,decide_false,cond_true,cond_false,Nat.beq_refl,Ws,YC,ZX,Z3,ZI,Qc,Jy,JA,Kj,KL,YD,YZ,YX,ZE,List.replicate,Zr,Zs,Jp,Jq,Jr,Zh,J7,ZP,Z5]
   ·rw [ZU,Zk,Za x0,Zk]
    refine (Za e2).trans ?_
    rw [ZV,Z3,Za Zl]
    simp only [cond_true]
    cases hb : Wm b0
    ·simp [↓Qa,Z9,↓QI,Qp,Qo,Ql,↓Zb,J9,Zt,Ys,Qq,JD,QA,JC,Jn,QW,JL,QX,QV,Q6,Q7,QG,Zl,ZH,YT,Yz,Jl,Ja,J5,ZB,QU,JY,J8,JZ,ZD,Zq,Zm,Je,Z0,Qj,Jt,JW,Ju,J2,↓Y8,J3,↓g_r,YS,Bool.not_true,Bool.not_false,Bool.false_eq_true,Bool.true_eq_false,reduceIte,List.tail_cons,List.headD_cons,decide_true,decide_false,cond_true,cond_false,Nat.beq_refl,Ws,YC,ZX,Z3,ZI,Qc,Jy,JA,Kj,KL,YD,YZ,YX,ZE,List.replicate,Zr,Zs,Jp,Jq,Jr,Zh,J7,ZP,Z5]
    ·rw [ZU,Zk,Za QU,wl,Zk,Za xl,Zk]
     refine (Za e3).trans ?_
     rw [ZV,Qc,Za Zl]
     rfl
  ·have q2 : bop .int .leq (iv s.length) (.int .i64 12) H=some (.bool false,H):=by rw [Je,decide_eq_false (by omega)]
   rw [Za q2,ZV,ZX,Za Zl]
   simp [↓Qa,Z9,↓QI,Qp,Qo,Ql,↓Zb,J9,Zt,Ys,Qq,JD,QA,JC,Jn,QW,JL,QX,QV,Q6,Q7,QG,Zl,ZH,YT,Yz,Jl,Ja,J5,ZB,QU,JY,J8,JZ,ZD,Zq,Zm,Je,Z0,Qj,Jt,JW,Ju,J2,↓Y8,J3,↓g_r,YS,Bool.not_true,Bool.not_false,Bool.false_eq_true,Bool.true_eq_false,reduceIte,List.tail_cons,List.headD_cons,decide_true,decide_false,cond_true,cond_false,Nat.beq_refl,Ws,YC,ZX,Z3,ZI,Qc,Jy,JA,Kj,KL,YD,YZ,YX,ZE,List.replicate,Zr,Zs,Jp,Jq,Jr,Zh,J7,ZP,Z5,h12]
 ·have q1 : bop .int .geq (iv s.length) (.int .i64 1) H=some (.bool false,H):=by rw [Qj,decide_eq_false (by omega)]
  rw [Za q1]
  simp [↓Qa,Z9,↓QI,Qp,Qo,Ql,↓Zb,J9,Zt,Ys,Qq,JD,QA,JC,Jn,QW,JL,QX,QV,Q6,Q7,QG,Zl,ZH,YT,Yz,Jl,Ja,J5,ZB,QU,JY,J8,JZ,ZD,Zq,Zm,Je,Z0,Qj,Jt,JW,Ju,J2,↓Y8,J3,↓g_r,YS,Bool.not_true,Bool.not_false,Bool.false_eq_true,Bool.true_eq_false,reduceIte,List.tail_cons,List.headD_cons,decide_true,decide_false,cond_true,cond_false,Nat.beq_refl,Ws,YC,ZX,Z3,ZI,Qc,Jy,JA,Kj,KL,YD,YZ,YX,ZE,List.replicate,Zr,Zs,Jp,Jq,Jr,Zh,J7,ZP,Z5,h1]
end
end Go.Proofs.YtedkoimihknggaaGreatDoor.A

namespace Go.Proofs.YtedkoimihknggaaGreatDoor.A
set_option linter.unusedVariables false
set_option linter.unusedSimpArgs false
open Go.Proofs Go.Proofs.YtedkoimihknggaaGreatDoor
abbrev J4:=List (List UInt8 × List UInt8)
structure Dir (H : Zd) (d b : Nat) (m : J4) : Prop where
 c : H[d]?=some (.cells [.map (some b)] 1 false false)
 g : JH strv H b m
 len : ∀ p∈m,p.1.length≤12
 few : m.length≤12
section
variable {H H' : Zd} {n d b p q : Nat} {m : J4} {k s : List UInt8}
theorem ZoV {v : Value} (h : oneCell v=true) (hc : v.cells=#[v]) (H : Zd) : alc 1 v H=some (pt H.length,H++[.cells [v] 1 false false]):=by
 rw [QV]
 simp [hc,h]
theorem Zft {v : Value} {e : Nat} {g ro : Bool} (h : H[p]?=some (.cells [v] e g ro)) : ld1 (pt p) H=some (v,H):=Zv h rfl
theorem ZCi {g : Nat} {bs args : List Value} (hy : Nat.blt g Zb0=true:=by rfl) : Jv (R n) (.func (.func g) #[] bs.toArray) args=R n g (args++bs):=by
 have : Jv (R n) (.func (.func g) #[] bs.toArray) args=R n g ([]++(args++bs.toArray.toList)):=by
  simp only [Jv,hy,cond_true]
 rw [this];simp
theorem Dir.lt (h : Dir H d b m) : d < H.length∧b < H.length:=⟨QD h.c,h.g.lt⟩
theorem Dir.keep (h : Dir H d b m) (h1 : H'[d]?=H[d]?) (h2 : H'[b]?=H[b]?) : Dir H' d b m:=⟨by rw [h1];exact h.c,h.g.keep h2,h.len,h.few⟩
theorem Dir.hle (h : Dir H d b m) (hl : HLe H H') : Dir H' d b m:=⟨hl _ _ h.c,h.g.hle hl,h.len,h.few⟩
theorem Dir.step {o1 o2 : List Nat} (h : Dir H d b m) (hs : ZC o1 H o2 H') (h1 : d∉o1) (h2 : b∉o1) : Dir H' d b m:=h.keep (hs.keep d h.lt.1 h1) (hs.keep b h.lt.2 h2)
theorem Dir.ne (h : Dir H d b m) : d≠b:=fun e=>by
 subst e
 obtain ⟨es,_,h1⟩:=h.g.ex
 rw [h.c] at h1
 rcases h1 with ⟨_,h1,_⟩ | h1 <;> cases h1
theorem Zue : ∃ H' d b,R (n+1) Zcd [] H=some (pt d,H')∧Dir H' d b []∧HLe H H'∧H.length≤d∧H.length≤b:=by
 obtain ⟨H1,e1,g1,l1⟩:=ZsO (α:=List UInt8) (enc:=strv) H
 have e2 : bld (.agg #[.map none]) [(0,1,.map (some H.length))] H1=some (.agg #[.map (some H.length)],H1):=by simp [↓Qa,Z9,↓QI,Qp,Qo,Ql,↓Zb,J9,Zt,Ys,Qq,JD,QA,JC,Jn,QW,JL,QX,QV,Q6,Q7,QG,Zl,ZH,YT,Yz,Jl,Ja,J5,ZB,QU,JY,J8,JZ,ZD,Zq,Zm,Je,Z0,Qj,Jt,JW,Ju,J2,↓Y8,J3,↓g_r,YS,Kg,WP,splice,Value.cells]
 have e3 : alc 1 (.agg #[.map (some H.length)]) H1=some (pt H1.length,H1++[.cells [.map (some H.length)] 1 false false]):=by
  rw [QV];simp [Value.cells,oneCell]
 refine ⟨H1++[.cells [.map (some H.length)] 1 false false],H1.length,H.length,?_,⟨Zw,g1.hle (.app _ _),by simp,by simp⟩,l1.trans (.app _ _),l1.len,Nat.le_refl _⟩
 rw [R,Zuy rfl]
 unfold Zjl
 rw [Za e1,Za e2,Za e3]
 rfl
end
end Go.Proofs.YtedkoimihknggaaGreatDoor.A

namespace Go.Proofs.YtedkoimihknggaaGreatDoor.A
set_option linter.unusedVariables false
set_option linter.unusedSimpArgs false
section
variable {α : Type} {k k' : List UInt8} {v : α} {m : List (List UInt8 × α)}
theorem ZfK : ∀ {m m' : List (List UInt8 × α)},Zf k (m++m')=(Zf k m).or (Zf k m')
 | [],m'=>rfl
 | p :: m,m'=>by
  simp only [List.cons_append,Zf]
  split
  ·rfl
  ·exact ZfK
theorem YA (h : k'≠k) : Zf k' (Qw k v m)=Zf k' m:=by
 unfold Qw
 split
 ·have : ∀ m : List (List UInt8 × α),Zf k' (m.map fun p=>if p.1=k then (k,v) else p)=Zf k' m:=by
   intro m
   induction m with
   | nil=>rfl
   | cons p m ih=>
    simp only [List.map_cons,Zf]
    by_cases hp : p.1=k
    ·rw [if_pos hp,if_neg (Ne.symm h),if_neg (fun e=>h (e.symm.trans hp)),ih]
    ·rw [if_neg hp,ih]
  exact this m
 ·rw [ZfK]
  have : Zf k' [(k,v)]=none:=by simp [Zf,Ne.symm h]
  rw [this];cases Zf k' m <;> rfl
theorem KT : Zf k (Qw k v m)=some v:=by
 unfold Qw
 split
 ·rename_i hs
  have : ∀ m : List (List UInt8 × α),(Zf k m).isSome=true→Zf k (m.map fun p=>if p.1=k then (k,v) else p)=some v:=by
   intro m
   induction m with
   | nil=>intro h;cases h
   | cons p m ih=>
    intro h
    simp only [List.map_cons,Zf] at h ⊢
    by_cases hp : p.1=k
    ·simp [hp]
    ·rw [if_neg hp] at h
     rw [if_neg hp,if_neg hp];exact ih h
  exact this m hs
 ·rename_i hs
  rw [ZfK]
  have : Zf k m=none:=by cases e : Zf k m <;> simp_all
  rw [this];simp [Zf]
theorem Zar : Zf k (Yg k m)=none:=by
 rw [Zf3]
 intro p hp
 simpa [Yg] using (List.mem_filter.1 hp).2
theorem JK (h : k'≠k) : Zf k' (Yg k m)=Zf k' m:=by
 unfold Yg
 induction m with
 | nil=>rfl
 | cons p m ih=>
  rw [List.filter_cons]
  by_cases hp : p.1=k
  ·rw [if_neg (by simp [hp]),ih]
   simp only [Zf]
   rw [if_neg (fun e=>h (e.symm.trans hp))]
  ·rw [if_pos (by simpa using hp)]
   simp only [Zf]
   rw [ih]
theorem Zow (hn : (m.map (·.1)).Nodup) (h : (Zf k m).isSome=true) : (Yg k m).length=m.length - 1:=by
 obtain ⟨v,hv⟩:=Option.isSome_iff_exists.1 h
 obtain ⟨j,hj⟩:=Zz4 hv
 rw [← Ze9 hn hj,List.length_eraseIdx,if_pos (List.getElem?_eq_some_iff.1 hj).1]
end
end Go.Proofs.YtedkoimihknggaaGreatDoor.A

namespace Go.Proofs.YtedkoimihknggaaGreatDoor.A
set_option linter.unusedVariables false
set_option linter.unusedSimpArgs false
open Go.Proofs Go.Proofs.YtedkoimihknggaaGreatDoor
section
variable {H H' : Zd} {n d b p q : Nat} {m : J4} {k s : List UInt8}
theorem ZkP {H : Zd} {a c : Ze} : (H++[a]++[c])[H.length]?=some a:=by simp [List.getElem?_append]
theorem ZCD {H : Zd} {a c : Ze} : (H++[a]++[c])[H.length+1]?=some c:=by simp [List.getElem?_append]
theorem Zfr {α : Type} {m : List (List UInt8 × α)} {v : α} : (Qw k v m).length=if (Zf k m).isSome then m.length else m.length+1:=by
 unfold Qw
 split <;> simp
theorem ZaU (h : Zp k=true) : k.length≤12:=by
 unfold Zp at h
 simp only [Bool.and_eq_true,decide_eq_true_eq] at h
 exact h.1.1.1.2
theorem Zdd : ZJ k=0↔Zp k=true:=by unfold ZJ;split <;> simp_all
theorem Zof : Qt s=0↔YR s=true:=by unfold Qt;split <;> simp_all
theorem Zcl {g : Nat} {mm : List Value→M Value} {args : List Value} (hp : np g=some mm) (hy : Nat.blt g Zb0=true:=by rfl) : run Tryz.prog np lvs (n+1) g args=mm args:=by
 unfold run
 simp only [hy,hp,cond_true]
theorem ZAQ (h : Dir H d b m) : ∃ v q H',R (n+2) ZcR [pt d] H=some (v,H')∧ZA H' v ((Qx (m.map (·.1))).map strv) q∧HLe H H'∧∀ j∈q,H.length≤j:=by
 have e1 : run Tryz.prog np lvs (n+1) JV [.map (some b)] H=some (.func (.func ZlD) #[] #[pt H.length],H++[.cells [.map (some b)] 1 false false]):=by
  rw [Zcm rfl]
  unfold YU
  rw [Za (ZoV rfl rfl _)]
  rfl
 have l1 : HLe H (H++[.cells [.map (some b)] 1 false false]):=.app _ _
 obtain ⟨v,q,H2,e2,r2,l2,o2⟩:=(h.g.hle l1).keys (gks:=Zhu) (gc:=Qv) (gk:=ZlD) (c:=H.length) (by decide) Zw (Nat.le_trans h.few (by decide)) (fun p hp=>Nat.le_trans (h.len p hp) (by decide))
 have e2' : run Tryz.prog np lvs (n+1) QS [.func (.func ZlD) #[] #[pt H.length],.func (.func Qv) #[] #[]] (H++[.cells [.map (some b)] 1 false false])=some (v,H2):=by
  rw [Zcl (show np QS=some (ZdO Zhu Qv) from rfl)]
  exact e2
 refine ⟨v,q,H2,?_,r2,l1.trans l2,fun j hj=>Nat.le_trans l1.len (o2 j hj)⟩
 rw [R,ZmN rfl]
 unfold Ze2
 rw [Za Zt,Za Zh,Za (Zft h.c),Za e1,Za e2']
 rfl
end
end Go.Proofs.YtedkoimihknggaaGreatDoor.A

namespace Go.Proofs.YtedkoimihknggaaGreatDoor.A
set_option linter.unusedVariables false
set_option linter.unusedSimpArgs false
open Go.Proofs Go.Proofs.YtedkoimihknggaaGreatDoor
section
variable {H H' : Zd} {n : Nat} {s pre : List UInt8}
theorem ZsQ {k : Nat} (hk : k≤s.length) : sls (strv s) none (some (iv k)) H=some (strv (s.take k),H):=by
 have h1 : (⟨s.toArray⟩ : ByteArray).size=s.length:=by simp [ByteArray.size]
 have h2 : (⟨s.toArray⟩ : ByteArray).extract 0 k=⟨(s.take k).toArray⟩:=by
  apply ByteArray.ext
  rw [ByteArray.data_extract]
  simp
 have hb : bnd (some (iv k)) s.length=some k:=by simp [bnd]
 have hb0 : bnd none 0=some 0:=rfl
 unfold strv sls
 simp only [h1,hb,hb0]
 rw [if_pos ⟨Nat.zero_le _,hk⟩,h2]
section
variable {f v : Value} {p : List UInt8→Bool} {l : List (List UInt8)} {q : List Nat} {Q : Zd→Prop}
theorem Yt {ss : List (List UInt8)} {i : Nat} {x : List UInt8} (h : ss[i]?=some x) : (ss.map strv)[i]?=some (strv x):=by rw [List.getElem?_map,h];rfl
theorem ZCr (hr : ZA H v (l.map strv) q) (hl : l.length≤1000000) (hf : ∀ s∈l,Jv (R n) f [strv s] H=some (.bool (p s),H)) : ∀ (t k : Nat),l.length - k=t→k≤l.length→
  Zi (c4 (ZL.l1 (R n))) [v,f,iv l.length,iv k] H=some (match (l.drop k).findIdx? p with | some i=>.ret (iv (k+i : Nat)) | none=>.ext 0 [],H)
 | 0,k,ht,hk=>by
  have : k=l.length:=by omega
  subst this
  rw [List.drop_length]
  refine ZK ?_
  rw [ZI]
  unfold ZL.l1
  rw [Za Zm,Zb,if_neg (by simp)]
  rfl
 | t+1,k,ht,hk=>by
  have hkl : k < l.length:=by omega
  have hlt : (k : Int) < l.length:=by omega
  have hg:=List.getElem?_eq_getElem hkl
  have hm : l[k]∈l:=List.getElem_mem hkl
  have hd:=List.drop_eq_getElem_cons hkl
  generalize l[k]=x at hg hd hm
  have x1:=hr.ix (i:=k) (by simpa using hkl) .i64 H
  have x2:=hr.ldx (Yt hg)
  have x3:=hf x hm
  have ih:=ZCr hr hl hf t (k+1) (by omega) (by omega)
  rw [hd,List.findIdx?_cons]
  cases hp : p x
  ·rw [hp] at x3
   refine (Zy ?_).trans (ih.trans ?_)
   ·rw [ZI]
    unfold ZL.l1
    rw [Za Zm,Zb,if_pos (by simpa using hlt),Za x1,Za x2,Za x3,Zb,if_neg (by simp),Za ZB,Qg (by omega)]
    rfl
   ·cases (l.drop (k+1)).findIdx? p with
    | none=>rfl
    | some i=>simp only [Bool.false_eq_true,if_false,Option.map_some];rw [show k+1+i=k+(i+1) by omega]
  ·rw [hp] at x3
   refine QE ?_
   rw [ZI]
   unfold ZL.l1
   rw [Za Zm,Zb,if_pos (by simpa using hlt),Za x1,Za x2,Za x3,Zb,if_pos rfl]
   rfl
theorem Zkb : ∀ {l : List (List UInt8)},(match l.findIdx? p with | some i=>l.filter (fun s=>!p s)=l.take i++(l.drop (i+1)).filter (fun s=>!p s)∧i < l.length | none=>l.filter (fun s=>!p s)=l)
 | []=>by simp
 | x :: l=>by
  have ih:=Zkb (l:=l)
  rw [List.findIdx?_cons]
  cases hp : p x
  ·simp only [Bool.false_eq_true,if_false]
   cases h : l.findIdx? p with
   | none=>rw [h] at ih;simp [hp];simpa using ih
   | some i=>rw [h] at ih;simp [hp,ih.1,ih.2]
  ·simp [hp]
theorem ZCy (k : Nat) : reps k (Value.string ⟨#[]⟩).cells.toList=List.replicate k (strv []):=by
 induction k with
 | zero=>rfl
 | succ k ih=>
  unfold reps at ih ⊢
  rw [List.replicate_succ,List.flatten_cons,ih];rfl
theorem Zy6 {cs : List (List UInt8)} {i : Nat} (hr : ZA H v (cs.map strv) q) (hi : i < cs.length) : ∃ a H' v',slv 1 v (some (iv i)) none none H=some (a,H)∧clr (.string ⟨#[]⟩) 1 a H=some (.tuple #[],H')∧slv 1 v none (some (iv i)) none H'=some (v',H')∧ZA H' v' ((cs.take i).map strv) q∧ZC q H q H':=by
 rcases hr with ⟨h1,_,_⟩ | ⟨sid,rest,g,rfl,rfl,hid⟩
 ·simp at h1;simp [h1] at hi
 ·rw [List.length_map] at *
  have b1 : bnd (some (iv i)) 0=some i:=by simp [bnd]
  have b1' : bnd (some (iv i)) cs.length=some i:=by simp [bnd]
  have b2 : ∀ k,bnd none k=some k:=fun _=>rfl
  have hsp : splice (cs.map strv++rest) (List.replicate (cs.length - i) (strv [])) i=(cs.take i).map strv++(List.replicate (cs.length - i) (strv [])++rest):=by
   unfold splice
   rw [List.length_replicate,Nat.add_sub_cancel' (Nat.le_of_lt hi),List.take_append_of_le_length (by simp;omega),List.drop_append_of_le_length (by simp),List.drop_eq_nil_of_le (by simp),List.map_take]
   simp
  refine ⟨.slice (some ⟨sid,0+i * 1,none⟩) (cs.length - i) (cs.length+rest.length - i),H.set sid (.cells ((cs.take i).map strv++(List.replicate (cs.length - i) (strv [])++rest)) 1 g false),.slice (some ⟨sid,0,none⟩) i (cs.length+rest.length),?_,?_,?_,?_,⟨by simp,fun j hj hn=>List.getElem?_set_ne (fun e=>hn (by simp [e])),fun j hj=>.inl hj⟩⟩
  ·simp only [slv,hid,b1,b2]
   rw [if_pos ⟨trivial,by omega,by omega,Nat.le_refl _⟩,if_neg (by omega)]
  ·simp only [clr]
   rw [if_neg (by omega)]
   simp only [hid]
   rw [if_pos ⟨trivial,by simp;omega⟩,ZCy]
   rw [Nat.zero_add,Nat.mul_one,hsp]
  ·simp only [slv,ZM hid,b1',b2]
   rw [if_pos ⟨trivial,by omega,by omega,Nat.le_refl _⟩,if_neg (by omega)]
   simp
  ·have hl : ((cs.take i).map strv).length=i:=by simp;omega
   refine .inr ⟨sid,List.replicate (cs.length - i) (strv [])++rest,g,?_,rfl,ZM hid⟩
   rw [hl]
   simp;omega
end
end
end Go.Proofs.YtedkoimihknggaaGreatDoor.A

namespace Go.Proofs.YtedkoimihknggaaGreatDoor.A
set_option linter.unusedVariables false
set_option linter.unusedSimpArgs false
open Go.Proofs Go.Proofs.YtedkoimihknggaaGreatDoor
def usr (u : List UInt8 × List UInt8) : List Value:=[strv u.1,strv u.2,strv [],.bool false,.slice none 0 0]
def Zci (m : J4) : J4:=(Qx (m.map (·.1))).map fun k=>(k,(Zf k m).getD [])
section
variable {H H' : Zd} {n d b : Nat} {m : J4} {pre : List UInt8}
theorem ZzX {k : List UInt8} (hk : k∈Qx (m.map (·.1))) : k∈m.map (·.1):=(List.mem_mergeSort).1 hk
theorem ZzQ (h : Dir H d b m) : (Qx (m.map (·.1))).length≤12:=by
 rw [Zld,List.length_map];exact h.few
theorem Zmy {k s : List UInt8} {H : Zd} : bld (.agg #[.string ⟨#[]⟩,.string ⟨#[]⟩,.string ⟨#[]⟩,.bool false,.slice none 0 0]) [(0,1,strv k),(1,1,strv s)] H=some (.agg (usr (k,s)).toArray,H):=by
 simp [↓Qa,Z9,↓QI,Qp,Qo,Ql,↓Zb,J9,Zt,Ys,Qq,JD,QA,JC,Jn,QW,JL,QX,QV,Q6,Q7,QG,Zl,ZH,YT,Yz,Jl,Ja,J5,ZB,QU,JY,J8,JZ,ZD,Zq,Zm,Je,Z0,Qj,Jt,JW,Ju,J2,↓Y8,J3,↓g_r,YS,Kg,WP,splice,Value.cells,strv,usr,oneCell]
theorem Zg6 (u : List UInt8 × List UInt8) : (usr u).length=5:=rfl
theorem Zwc (u : List UInt8 × List UInt8) : (usr u).all oneCell=true:=rfl
theorem ZvS {v : Value} {q0 : List Nat} {ks : List (List UInt8)} (h : Dir H d b m) (hr : ZA H v (ks.map strv) q0) (hk : ks.length≤1000) (hH0 : ∀ j∈q0,j < H.length) : ∀ (t k : Nat) (sl : Value) (q : List Nat) (X : Zd),ks.length - k=t→k≤ks.length→HLe H X→(∀ j∈q,H.length≤j)→Qu 5 X sl ((ks.take k).map fun k=>usr (k,(Zf k m).getD [])) q→
  ∃ X' sl' q',Zi (c5 (Kz.l1 (R n))) [pt d,sl,v,iv ks.length,iv k] X=some (.ext 0 [sl'],X')∧Qu 5 X' sl' (ks.map fun k=>usr (k,(Zf k m).getD [])) q'∧HLe H X'∧(∀ j∈q',H.length≤j)
 | 0,k,sl,q,X,ht,hkl,hl,hq,hn=>by
  have : k=ks.length:=by omega
  subst this
  rw [List.take_length] at hn
  refine ⟨X,sl,q,ZK ?_,hn,hl,hq⟩
  rw [Qc]
  unfold Kz.l1
  rw [Za Zm,Zb,if_neg (by simp)]
  rfl
 | t+1,k,sl,q,X,ht,hkl,hl,hq,hn=>by
  have hlt : k < ks.length:=by omega
  have hlt' : (k : Int) < ks.length:=by omega
  have hg:=List.getElem?_eq_getElem hlt
  have htk:=List.take_succ_eq_append_getElem hlt
  generalize ks[k]=x at hg htk
  have hX:=h.hle hl
  have hrx : ZA X v (ks.map strv) q0:=hr.keep fun j hj=>hl.step.keep j (hH0 j hj) (by simp)
  have x1:=hrx.ix (i:=k) (by simpa using hlt) .i64 X
  have x2:=hrx.ldx (Yt hg)
  have x3:=hX.g.lkp (k:=x) (z:=.string ⟨#[]⟩) (ok:=false)
  have x3 : lkp .str (.string ⟨#[]⟩) false (.map (some b)) (strv x) X=some (strv ((Zf x m).getD []),X):=by
   rw [x3];cases Zf x m <;> rfl
  have x4:=ZmB (es:=5) (z:=.agg #[.string ⟨#[]⟩,.string ⟨#[]⟩,.string ⟨#[]⟩,.bool false,.slice none 0 0]) (H:=X) rfl (Zg6 (x,(Zf x m).getD [])) (Zwc _)
  have l1 : HLe X (X++[Ze.cells (usr (x,(Zf x m).getD [])) 5 false false]):=.app _ _
  have s1 : SlN 5 (X++[Ze.cells (usr (x,(Zf x m).getD [])) 5 false false]) (.slice (some ⟨X.length,0,none⟩) 1 1) [usr (x,(Zf x m).getD [])]:=SlN.whole (rows:=[usr (x,(Zf x m).getD [])]) (c:=1) (e:=5) (g:=false) (ro:=false) (by rw [Zw];simp) (by simp [Zg6])
  generalize X++[Ze.cells (usr (x,(Zf x m).getD [])) 5 false false]=X1 at x4 l1 s1
  have hn1 : Qu 5 X1 sl _ q:=hn.keep fun j hj=>l1.step.keep j (hn.lt j hj) (by simp)
  obtain ⟨sl',X2,q',x5,hn2,s2⟩:=hn1.push (b:=80) s1 (Zg6 _) (by simp;omega) (by simp;omega)
  have hm:=(hl.trans l1).more s2 hq
  rw [← List.map_singleton (f:=fun k=>usr (k,(Zf k m).getD [])),← List.map_append,← htk] at hn2
  obtain ⟨X',sl2,q2,e,r⟩:=ZvS h hr hk hH0 t (k+1) sl' q' X2 (by omega) (by omega) hm.1 hm.2 hn2
  refine ⟨X',sl2,q2,(Zy ?_).trans e,r⟩
  rw [Qc]
  unfold Kz.l1
  rw [Za Zm,Zb,if_pos (by simpa using hlt'),Za x1,Za x2,Za Zt,Za Zh,Za (Zft hX.c),Za x3,Za Zmy,Za x4,Za x5,Za ZB,Qg (by omega)]
  rfl
theorem Ztd (h : Dir H d b m) : ∃ v q H',R (n+3) KB [pt d] H=some (v,H')∧Qu 5 H' v ((Zci m).map usr) q∧HLe H H'∧∀ j∈q,H.length≤j:=by
 obtain ⟨v,q,H1,e1,r1,l1,o1⟩:=ZAQ (n:=n) h
 have hfew:=ZzQ h
 obtain ⟨H2,sl,q2,e2,r2,l2,o2⟩:=ZvS (n:=n+2) (h.hle l1) r1 (by omega) (fun j hj=>r1.lt j hj) (Qx (m.map (·.1))).length 0 (.slice none 0 0) [] H1 rfl (by omega) (.refl _) (by simp) Qu.nil
 have e2 : Zi (c5 (Kz.l1 (R (n+2)))) [pt d,.slice none 0 0,v,iv (Qx (m.map (·.1))).length,.int .i64 0] H1=_:=e2
 have hlen : Zx v H1=some (iv (Qx (m.map (·.1))).length,H1):=by have:=r1.rd.len (H':=H1);simpa using this
 refine ⟨sl,q2,H2,?_,by unfold Zci;rw [List.map_map];exact r2,l1.trans l2,fun j hj=>Nat.le_trans l1.len (o2 j hj)⟩
 rw [R,Zqn rfl]
 unfold Kz
 refine (Za e1).trans ?_
 rw [Za hlen,ZT e2,ZE]
 rfl
end
end Go.Proofs.YtedkoimihknggaaGreatDoor.A

namespace Go.Proofs.YtedkoimihknggaaGreatDoor.A
set_option linter.unusedVariables false
set_option linter.unusedSimpArgs false
open Go.Proofs Go.Proofs.YtedkoimihknggaaGreatDoor
theorem ZvV (s : ByteArray) : Value.string s=strv s.data.toList:=by simp [strv]
section
variable {H : Zd} {n : Nat}
end
end Go.Proofs.YtedkoimihknggaaGreatDoor.A

namespace Go.Proofs.YtedkoimihknggaaGreatDoor.A
set_option linter.unusedVariables false
set_option linter.unusedSimpArgs false
open Go.Proofs Go.Proofs.YtedkoimihknggaaGreatDoor
abbrev Ent:=List UInt8 × List UInt8
def ZeO (l : J4) : Prop:=l.Pairwise fun a b=>a.1 < b.1
theorem Zz1 : ∀ {l l' : J4},ZeO l→ZeO l'→(∀ x,x∈l↔x∈l')→l=l':=by
 intro l l' h h' hm
 have nd : ∀ {l : J4},ZeO l→l.Nodup:=fun h=>by
  rw [List.nodup_iff_pairwise_ne]
  refine List.Pairwise.imp ?_ h
  rintro a b hab rfl
  exact List.lt_irrefl _ hab
 have hp : l.Perm l':=(List.perm_ext_iff_of_nodup (nd h) (nd h')).2 hm
 refine List.Perm.eq_of_pairwise (le:=fun a b=>a.1 < b.1) (fun a b _ _ h1 h2=>absurd h2 (List.lt_asymm h1)) (show l.Pairwise (fun a b : Ent=>a.1 < b.1) from h) (show l'.Pairwise (fun a b : Ent=>a.1 < b.1) from h') hp
section
variable {m : J4} {k s : List UInt8} {x : Ent}
theorem Zyd (hn : (m.map (·.1)).Nodup) : x∈Zci m↔Zf x.1 m=some x.2:=by
 unfold Zci
 rw [List.mem_map]
 constructor
 ·rintro ⟨k,hk,rfl⟩
  have hk:=ZzX hk
  obtain ⟨p,hp,rfl⟩:=List.mem_map.1 hk
  have : Zf p.1 m=some p.2:=ZbA hn hp
  simp [this]
 ·intro h
  refine ⟨x.1,List.mem_mergeSort.2 (List.mem_map.2 ⟨_,K6 h,rfl⟩),?_⟩
  rw [h];rfl
theorem ZwX (hn : (m.map (·.1)).Nodup) : ZeO (Zci m):=by
 have hk : (Qx (m.map (·.1))).Pairwise (· < ·):=by
  have tr : ∀ a b c : List UInt8,leB a b=true→leB b c=true→leB a c=true:=fun a b c h1 h2=>by simp only [leB,decide_eq_true_eq] at *;exact List.le_trans h1 h2
  have to : ∀ a b : List UInt8,(leB a b || leB b a)=true:=fun a b=>by simp only [leB,Bool.or_eq_true,decide_eq_true_eq];exact List.le_total a b
  have h1:=List.pairwise_mergeSort tr to (m.map (·.1))
  have h2 : (Qx (m.map (·.1))).Pairwise (·≠·):=List.nodup_iff_pairwise_ne.1 ((List.mergeSort_perm _ _).nodup_iff.2 hn)
  refine (h1.and h2).imp fun {a b} h=>?_
  have h3 : a≤b:=by have:=h.1;simpa [leB] using this
  rcases ZiF a b with h4 | h4 | h4
  ·exact h4
  ·exact absurd h4 h.2
  ·exact absurd h4 h3
 unfold ZeO Zci
 rw [List.pairwise_map]
 exact hk
end
end Go.Proofs.YtedkoimihknggaaGreatDoor.A

namespace Go.Proofs.YtedkoimihknggaaGreatDoor.A
set_option linter.unusedVariables false
set_option linter.unusedSimpArgs false
open Go.Proofs Go.Proofs.YtedkoimihknggaaGreatDoor
def GV (H : Zd) (gv : Value) (gs : List (List UInt8)) : Prop:=
 (gs=[]∧(gv=.slice none 0 0∨gv=.slice (some ⟨0,0,some 1⟩) 0 0))∨
 ∃ id rest,gv=.slice (some ⟨id,0,none⟩) gs.length (gs.length+rest.length)∧H[id]?=some (.cells (gs.map strv++rest) 1 false true)
section
variable {H H' X : Zd} {n p : Nat} {gv : Value} {gs : List (List UInt8)}
theorem GV.mono (h : GV H gv gs) (hl : HLe H H') : GV H' gv gs:=by
 rcases h with h | ⟨id,rest,h1,h2⟩
 ·exact .inl h
 ·exact .inr ⟨id,rest,h1,hl _ _ h2⟩
theorem GV.sl (h : GV H gv gs) : Sl H gv (gs.map strv):=by
 rcases h with ⟨rfl,rfl | rfl⟩ | ⟨id,rest,rfl,h2⟩
 ·exact Sl.nil
 ·exact ⟨_,_,rfl,(fun e=>by cases e),rfl⟩
 ·refine ⟨some ⟨id,0,none⟩,gs.length+rest.length,by rw [List.length_map],(fun e=>by cases e),?_⟩
  simp only [QK,h2]
  rw [if_pos (by simp)]
  simp
theorem GV.len (h : GV H gv gs) : Zx gv H'=some (iv gs.length,H'):=by
 have:=h.sl.len (H':=H')
 rwa [List.length_map] at this
theorem GV.one (h : GV H gv gs) : oneCell gv=true:=by
 rcases h with ⟨_,rfl | rfl⟩ | ⟨id,rest,rfl,_⟩ <;> rfl
structure Zj where
 nm : List UInt8
 hs : List UInt8
 ml : List UInt8
 ds : Bool
 gv : Value
 gs : List (List UInt8)
abbrev Zj.cells (u : Zj) : List Value:=[strv u.nm,strv u.hs,strv u.ml,.bool u.ds,u.gv]
def Zj.ok (H : Zd) (u : Zj) : Prop:=GV H u.gv u.gs
theorem Zj.all {u : Zj} (h : u.ok H) : u.cells.all oneCell=true:=by
 have:=GV.one h
 simp only [Zj.cells,List.all_cons,this];rfl
def Users (H : Zd) (sl : Value) (us : List Zj) : Prop:=SlN 5 H sl (us.map Zj.cells)∧∀ u∈us,u.ok H
variable {sl : Value} {us : List Zj}
theorem Users.mono (h : Users H sl us) (hl : HLe H H') : Users H' sl us:=⟨h.1.mono hl,fun u hu=>(h.2 u hu).mono hl⟩
theorem Users.len (h : Users H sl us) : Zx sl H'=some (iv us.length,H'):=by
 have:=h.1.len (H':=H')
 rwa [List.length_map] at this
theorem Users.fetch {β : Type} {k : Value→M β} (h : Users H sl us) {j : Nat} {u : Zj} (hj : us[j]?=some u) :
  bind (ixa 5 sl (iv j)) (fun p=>bind (ldA 5 p) fun v=>bind (alc 1 (.agg #[.string ⟨#[]⟩,.string ⟨#[]⟩,.string ⟨#[]⟩,.bool false,.slice none 0 0])) fun q=>bind (stA 5 q v) fun _=>k q) H=k (pt H.length) (H++[.cells u.cells 1 false false]):=by
 have hr : (us.map Zj.cells)[j]?=some u.cells:=by rw [List.getElem?_map,hj];rfl
 rw [h.1.fetch hr (by omega) .i64]
 exact WZ (n:=5) (zs:=[.string ⟨#[]⟩,.string ⟨#[]⟩,.string ⟨#[]⟩,.bool false,.slice none 0 0]) (r:=u.cells) rfl rfl rfl (Zj.all (h.2 u (List.mem_of_getElem? hj)))
theorem ZCE {u : Zj} (h : u.ok X) : alc 1 (.agg u.cells.toArray) X=some (pt X.length,X++[.cells u.cells 1 false false]):=by
 rw [QV]
 exact if_pos (show u.cells.toArray.toList.all oneCell=true by simpa using Zj.all h)
end
end Go.Proofs.YtedkoimihknggaaGreatDoor.A

namespace Go.Proofs.YtedkoimihknggaaGreatDoor.A
set_option linter.unusedVariables false
set_option linter.unusedSimpArgs false
open Go.Proofs Go.Proofs.YtedkoimihknggaaGreatDoor
def ZdL (u : Zj) : Bool:=(u.ml==[]) && (!u.ds && decide (u.gs.length=0))
def Za5 (u : Zj) : Int:=if Zp u.nm then (if YR u.hs then (if ZdL u then 0 else 12) else 4) else 10
def Wv : List Zj→Int
 | []=>0
 | u :: l=>if Za5 u=0 then Wv l else Za5 u
def ZcN (u : Zj) : Ent:=(u.nm,u.hs)
def Zbo : Option (List UInt8)→List Zj→Bool
 | _,[]=>true
 | p,u :: l=>(match p with | none=>true | some p=>decide (p < u.nm)) && Zbo (some u.nm) l
def Zbn (us : List Zj) (k : Nat) : Option (List UInt8):=if k=0 then none else (us[k - 1]?).map (·.nm)
section
variable {H0 H X : Zd} {n p : Nat} {u : Zj} {us : List Zj} {sl : Value}
theorem ZxM {β : Type} {K : Value→M β} (hc : X[p]?=some (.cells u.cells 1 false false)) (hg : GV X u.gv u.gs) :
  bind (bop .str .neq (strv u.ml) (.string ⟨#[]⟩)) (fun v35=>bind (ZG v35 false 2 (bind (fa 3 (pt p)) fun a=>bind (ld1 a) fun b=>ret [a,b])) (c2 fun _ q=>bind (pick v35 (Value.bool true) q) fun v39=>bind (ZG v39 false 4 (bind (fa 4 (pt p)) fun a=>bind (ld1 a) fun b=>bind (Zx b) fun c=>bind (bop .int .gtr c (Value.int .i64 0)) fun d=>ret [a,b,c,d])) (c4 fun _ _ _ q=>bind (pick v39 (Value.bool true) q) K))) X=K (.bool (!ZdL u)) X:=by
 have a0 : ∀ f x,u.cells[f]?=some x→ld1 (pa p f) X=some (x,X):=fun f x h=>Zv hc h
 have q1 : bop .str .neq (strv u.ml) (.string ⟨#[]⟩) X=some (.bool (!(u.ml==[])),X):=Wt (b:=[])
 have hl : decide ((u.gs.length : Int) > 0)=!decide (u.gs.length=0):=by by_cases h : u.gs.length=0 <;> simp [h] <;> omega
 unfold ZdL
 rw [Za q1]
 cases u.ml==[]
 ·simp only [Bool.not_false]
  rw [Za (g_r.trans (if_neg (by simp)))]
  simp only [List.replicate]
  rw [ZX,Za Zl]
  simp only [cond_true]
  rw [Za (g_r.trans (if_neg (by simp)))]
  simp only [List.replicate]
  rw [ZI,Za Zl]
  rfl
 ·simp only [Bool.not_true]
  rw [ZU,Zk,Za Zh,Zk,Za (a0 3 _ rfl),ZV,ZX,Za Zl]
  simp only [cond_false]
  cases u.ds
  ·rw [ZU,Zk,Za Zh,Zk,Za (a0 4 _ rfl),Zk,Za hg.len,Zk,Za Z0,ZV,ZI,Za Zl,hl]
   simp
  ·rw [Za (g_r.trans (if_neg (by simp)))]
   simp only [List.replicate]
   rw [ZI,Za Zl]
   rfl
theorem Zmr {a c : Int} {v : Value} (hs : Sl X v [iv a,iv c]) : R (n+1) WK [v] X=some (iv (if a=0 then c else a),X):=by
 have e1 : Zx v X=some (iv 2,X):=hs.len
 have x1 : ixa 1 v (.int .i64 0) X=some (ixp v 0,X):=hs.ix (i:=0) (by simp) .i64 X
 have x2:=hs.ldx (i:=0) (v:=iv a) rfl
 have x3 : ixa 1 v (.int .i64 1) X=some (ixp v 1,X):=hs.ix (i:=1) (by simp) .i64 X
 have x4:=hs.ldx (i:=1) (v:=iv c) rfl
 have w1 : IntKind.i64.wrap (0+1)=1:=w64 (by omega) (by omega)
 have w2 : IntKind.i64.wrap (1+1)=2:=w64 (by omega) (by omega)
 rw [R,ZsA rfl]
 unfold Yd
 rw [Za e1]
 by_cases ha : a=0
 ·rw [if_pos ha]
  have s1 : c3 (Yd.l1 (run Tryz.prog np lvs n)) [v,iv 2,.int .i64 0] X=some (.nrm [v,iv 2,.int .i64 1],X):=by
   rw [Z3]
   unfold Yd.l1
   rw [Za Zm,Zb,if_pos (by decide),Za x1,Za x2,Za Zq,Zb,if_neg (by simp [ha]),Za ZB,w1]
   rfl
  by_cases hc : c=0
  ·have s2 : c3 (Yd.l1 (run Tryz.prog np lvs n)) [v,iv 2,.int .i64 1] X=some (.nrm [v,iv 2,.int .i64 2],X):=by
    rw [Z3]
    unfold Yd.l1
    rw [Za Zm,Zb,if_pos (by decide),Za x3,Za x4,Za Zq,Zb,if_neg (by simp [hc]),Za ZB,w2]
    rfl
   have s3 : c3 (Yd.l1 (run Tryz.prog np lvs n)) [v,iv 2,.int .i64 2] X=some (.ext 0 [],X):=by
    rw [Z3]
    unfold Yd.l1
    rw [Za Zm,Zb,if_neg (by decide)]
    rfl
   rw [ZT ((Zy s1).trans ((Zy s2).trans (ZK s3))),ZE,hc]
   rfl
  ·have s2 : c3 (Yd.l1 (run Tryz.prog np lvs n)) [v,iv 2,.int .i64 1] X=some (.ret (iv c),X):=by
    rw [Z3]
    unfold Yd.l1
    rw [Za Zm,Zb,if_pos (by decide),Za x3,Za x4,Za Zq,Zb,if_pos (by simp [hc])]
    rfl
   rw [JJ ((Zy s1).trans (QE s2))]
   rfl
 ·rw [if_neg ha]
  have s1 : c3 (Yd.l1 (run Tryz.prog np lvs n)) [v,iv 2,.int .i64 0] X=some (.ret (iv a),X):=by
   rw [Z3]
   unfold Yd.l1
   rw [Za Zm,Zb,if_pos (by decide),Za x1,Za x2,Za Zq,Zb,if_pos (by simp [ha])]
   rfl
  rw [JJ (QE s1)]
  rfl
theorem ZsR {a c : Int} (H : Zd) : bsl 1 2 (.int .i64 0) [(0,1,iv a),(1,1,iv c)] H=some (.slice (some ⟨H.length,0,none⟩) 2 2,H++[.cells [iv a,iv c] 1 false false]):=rfl
theorem ZnL (h : u.ok X) : ∃ X',R (n+6) Yq [iv 1,.agg u.cells.toArray] X=some (iv (Za5 u),X')∧HLe X X':=by
 have e1:=ZCE h
 have k1 : HLe X (X++[.cells u.cells 1 false false]):=.app _ _
 have c1 : (X++[Ze.cells u.cells 1 false false])[X.length]?=some (.cells u.cells 1 false false):=Zw
 generalize X++[Ze.cells u.cells 1 false false]=X1 at e1 k1 c1
 generalize X.length=p at e1 c1
 have a0 : ∀ f x,u.cells[f]?=some x→ld1 (pa p f) X1=some (x,X1):=fun f x h=>Zv c1 h
 have e2 : run Tryz.prog np lvs (n+5) QZ [strv u.nm] X1=some (iv (ZJ u.nm),X1):=ZcB
 have e3 : run Tryz.prog np lvs (n+5) WH [strv u.hs] X1=some (iv (Qt u.hs),X1):=Zmz (n:=n+1)
 have e4:=ZsR (a:=ZJ u.nm) (c:=Qt u.hs) X1
 have k2 : HLe X1 (X1++[.cells [iv (ZJ u.nm),iv (Qt u.hs)] 1 false false]):=.app _ _
 have s4 : Sl (X1++[.cells [iv (ZJ u.nm),iv (Qt u.hs)] 1 false false]) (.slice (some ⟨X1.length,0,none⟩) 2 2) [iv (ZJ u.nm),iv (Qt u.hs)]:=Sl.one (c:=2) Zw
 generalize X1++[Ze.cells [iv (ZJ u.nm),iv (Qt u.hs)] 1 false false]=X2 at e4 k2 s4
 generalize (Value.slice (some ⟨X1.length,0,none⟩) 2 2)=sv at e4 s4
 have e5 : run Tryz.prog np lvs (n+5) WK [sv] X2=_:=Zmr s4
 have c2:=k2 _ _ c1
 have hg : GV X2 u.gv u.gs:=GV.mono (GV.mono h k1) k2
 have b0 : ∀ f x,u.cells[f]?=some x→ld1 (pa p f) X2=some (x,X2):=fun f x h=>Zv c2 h
 have q1 : bop .int .neq (iv 1) (.int .i64 1) X1=some (.bool false,X1):=by rw [Zq];rfl
 have q2 : bop .int .eql (iv 1) (.int .i64 2) X2=some (.bool false,X2):=by rw [ZD];rfl
 refine ⟨X2,?_,k1.trans k2⟩
 rw [R,Zgn rfl]
 unfold Zax
 rw [Za e1,Za q1,Za (g_r.trans (if_neg (by simp)))]
 simp only [List.replicate]
 rw [ZX,Za Zl]
 simp only [cond_false]
 rw [Zb,if_neg (by simp),Za Zh,Za (a0 0 _ rfl),Za Zh,Za (a0 1 _ rfl),Za e2,Za (a0 1 _ rfl),QY,Za e3,Za e4,Za e5,Za Zq]
 unfold Za5
 cases hn : Zp u.nm
 ·have : ZJ u.nm=10:=by unfold ZJ;rw [hn];rfl
  rw [this]
  simp [Zb,ret]
 ·have h0 : ZJ u.nm=0:=Zdd.2 hn
  rw [h0]
  cases hs : YR u.hs
  ·have : Qt u.hs=4:=by unfold Qt;rw [hs];rfl
   rw [this]
   simp [Zb,ret]
  ·have h1 : Qt u.hs=0:=Zof.2 hs
   rw [h1]
   simp only [if_true]
   rw [Zb,if_neg (by simp),Za q2,Zb,if_neg (by simp),Za Zh,Za (b0 2 _ rfl)]
   refine (ZxM c2 hg).trans ?_
   cases ZdL u
   ·simp [Zb,ret]
   ·simp [Zb,ret]
theorem ZCX {a c : List UInt8} {H : Zd} : bop .str .lss (strv a) (strv c) H=some (.bool (decide (a < c)),H):=by
 rw [← bytesLess_eq]
 show (sop .lss (⟨a.toArray⟩ : ByteArray) (⟨c.toArray⟩ : ByteArray)).map (·,H)=_
 unfold sop
 rw [Kp,Kp]
 rfl
theorem ZC5 {a c : List UInt8} {H : Zd} : bop .str .geq (strv a) (strv c) H=some (.bool (!decide (a < c)),H):=by
 rw [← bytesLess_eq]
 show (sop .geq (⟨a.toArray⟩ : ByteArray) (⟨c.toArray⟩ : ByteArray)).map (·,H)=_
 unfold sop
 rw [Kp,Kp]
 rfl
theorem ZCG {a c : List UInt8} {H : Zd} : bop .str .gtr (strv a) (strv c) H=some (.bool (decide (c < a)),H):=by
 have h : (!(Op.bytesLess a c || a==c))=decide (c < a):=by
  rw [bytesLess_eq,Bool.eq_iff_iff]
  simp only [Bool.not_eq_true',Bool.or_eq_false_iff,decide_eq_false_iff_not,beq_eq_false_iff_ne,decide_eq_true_eq]
  constructor
  ·rintro ⟨h1,h2⟩
   rcases ZiF a c with h4 | h4 | h4
   ·exact absurd h4 h1
   ·exact absurd h4 h2
   ·exact h4
  ·intro h
   exact ⟨List.lt_asymm h,by rintro rfl;exact List.lt_irrefl _ h⟩
 rw [← h]
 show (sop .gtr (⟨a.toArray⟩ : ByteArray) (⟨c.toArray⟩ : ByteArray)).map (·,H)=_
 unfold sop
 rw [Kp,Kp]
 rfl
theorem Zwr {a : List UInt8} : R (n+1) KG [strv a] X=some (.bool false,X):=by
 rw [R,Zla rfl]
 unfold Zd5
 rw [Za Wt]
 simp [ret]
theorem Zlw {a c : List UInt8} : R (n+3) Qv [strv a,strv c] X=some (iv (ZdG a c),X):=by
 have e0 : run Tryz.prog np lvs (n+1) KG [strv a] X=_:=Zwr
 have e1 : run Tryz.prog np lvs (n+1) KG [strv c] X=_:=Zwr
 have e2 : run Tryz.prog np lvs (n+2) Zbr [strv a,strv c] X=some (iv (ZdG a c),X):=by
  rw [ZjK rfl]
  unfold Zdl ZdG
  rw [Za e0,Za e1,Zb,if_neg (by simp),Zb,if_neg (by simp),Za ZCX,Zb]
  by_cases h1 : a < c
  ·rw [if_pos (by simpa using h1),if_pos h1];rfl
  ·rw [if_neg (by simpa using h1),Za ZCG,Zb,if_neg h1]
   by_cases h2 : c < a
   ·rw [if_pos (by simpa using h2),if_pos h2];rfl
   ·rw [if_neg (by simpa using h2),if_neg h2];rfl
 rw [R,ZpX rfl]
 unfold Zgs
 rw [Za e2]
 rfl
theorem ZqU {a c : List UInt8} : decide (ZdG a c≥0)=!decide (a < c):=by
 unfold ZdG
 by_cases h1 : a < c
 ·simp [h1]
 ·by_cases h2 : c < a <;> simp [h1,h2]
end
end Go.Proofs.YtedkoimihknggaaGreatDoor.A

namespace Go.Proofs.YtedkoimihknggaaGreatDoor.A
set_option linter.unusedVariables false
set_option linter.unusedSimpArgs false
open Go.Proofs Go.Proofs.YtedkoimihknggaaGreatDoor
section
variable {H0 H X : Zd} {n p d b : Nat} {u : Zj} {us : List Zj} {sl dv : Value}
theorem ZyA (hn : us.length≤1000) (hA : Users H0 sl us) : ∀ (t k : Nat) (X : Zd),us.length - k=t→k≤us.length→HLe H0 X→
  ∃ X',Zi (c5 (Z6.l1 (R (n+6)))) [sl,dv,sl,iv us.length,iv k] X=some (if Wv (us.drop k)=0 then .ext 0 [sl,dv] else .ret (.tuple #[.pointer none,iv (Wv (us.drop k))]),X')∧HLe H0 X'
 | 0,k,X,ht,hk,hle=>by
  have : k=us.length:=by omega
  subst this
  rw [List.drop_length]
  refine ⟨X,ZK ?_,hle⟩
  rw [Qc]
  unfold Z6.l1
  rw [Za Zm,Zb,if_neg (by simp)]
  rfl
 | t+1,k,X,ht,hk,hle=>by
  have hkl : k < us.length:=by omega
  have hlt : (k : Int) < us.length:=by omega
  have hg:=List.getElem?_eq_getElem hkl
  have hd:=List.drop_eq_getElem_cons hkl
  generalize us[k]=u at hg hd
  have hf:=fun {K : Value→M Out}=>(hA.mono hle).fetch (k:=K) hg
  have hok:=(hA.mono hle).2 u (List.mem_of_getElem? hg)
  have g1 : (X++[Ze.cells u.cells 1 false false])[X.length]?=some (.cells u.cells 1 false false):=Zw
  have k1 : HLe X (X++[Ze.cells u.cells 1 false false]):=.app _ _
  generalize X++[Ze.cells u.cells 1 false false]=X1 at g1 k1 hf
  have e1 : ldA 5 (pt X.length) X1=some (.agg u.cells.toArray,X1):=ZR (n:=5) g1 rfl
  obtain ⟨X2,e2,k2⟩:=ZnL (n:=n) (u:=u) (X:=X1) (GV.mono hok k1)
  have hb : c5 (Z6.l1 (R (n+6))) [sl,dv,sl,iv us.length,iv k] X=some (if Za5 u=0 then .nrm [sl,dv,sl,iv us.length,iv ((k+1 : Nat) : Int)] else .ret (.tuple #[.pointer none,iv (Za5 u)]),X2):=by
   rw [Qc]
   unfold Z6.l1
   have e2 : R (n+6) Yq [.int .i64 1,.agg u.cells.toArray] X1=_:=e2
   rw [Za Zm,Zb,if_pos (by simpa using hlt),hf,Za e1,Za e2,Za Zq,Zb]
   by_cases h : Za5 u=0
   ·rw [if_neg (by simp [h]),if_pos h,Za ZB,Qg (by omega)];rfl
   ·rw [if_pos (by simp [h]),if_neg h];rfl
  rw [hd]
  unfold Wv
  by_cases h : Za5 u=0
  ·rw [if_pos h] at hb
   simp only [if_pos h]
   obtain ⟨X3,e3,k3⟩:=ZyA hn hA t (k+1) X2 (by omega) (by omega) (hle.trans (k1.trans k2))
   exact ⟨X3,(Zy hb).trans e3,k3⟩
  ·rw [if_neg h] at hb
   simp only [if_neg h]
   exact ⟨X2,QE hb,hle.trans (k1.trans k2)⟩
theorem Users.nmAt (hA : Users X sl us) {i : Nat} (hi : us[i]?=some u) : ∃ id o,ixa 5 sl (iv i) X=some (pa id o,X)∧ld1 (pa id (o+0)) X=some (strv u.nm,X):=by
 obtain ⟨id,o,cs,e,g,ro,e1,e2,e3,e4,_⟩:=hA.1.at (i:=i) (r:=u.cells) (by rw [List.getElem?_map,hi];rfl) (by omega) .i64
 refine ⟨id,o,e1 X,?_⟩
 rw [Qq,e2,Jn]
 have : cs[o+0]?=some (strv u.nm):=by
  have h0 : ((cs.drop o).take 5)[0]?=some (strv u.nm):=by rw [e3];rfl
  rw [List.getElem?_take,if_pos (by omega),List.getElem?_drop] at h0
  exact h0
 rw [this];rfl
def upB (prev : Option (List UInt8)) (u : Zj) : Bool:=match prev with | none=>true | some p=>decide (p < u.nm)
theorem ZfO {p : Option (List UInt8)} {l : List Zj} : Zbo p (u :: l)=(upB p u && Zbo (some u.nm) l):=rfl
theorem ZgX {k : Nat} (hk : us[k]?=some u) : Zbn us (k+1)=some u.nm:=by
 unfold Zbn
 rw [if_neg (by omega),Nat.add_sub_cancel,hk];rfl
theorem ZpQ : Zbn us 0=none:=rfl
def Zo7 (m : J4) (p : Option (List UInt8)) : Prop:=ZeO m∧∀ x∈m,∃ q,p=some q∧x.1≤q
theorem Zo7.put {m : J4} {p : Option (List UInt8)} (h : Zo7 m p) (hu : upB p u=true) : Qw u.nm u.hs m=m++[ZcN u]∧Zo7 (m++[ZcN u]) (some u.nm):=by
 have hlt : ∀ x∈m,x.1 < u.nm:=fun x hx=>by
  obtain ⟨q,rfl,h2⟩:=h.2 x hx
  have h3 : q < u.nm:=by simpa [upB] using hu
  exact List.lt_of_le_of_lt h2 h3
 have hn : Zf u.nm m=none:=Zf3.2 fun x hx e=>by
  have:=hlt x hx
  rw [e] at this
  exact List.lt_irrefl _ this
 refine ⟨by unfold Qw;rw [hn];rfl,List.pairwise_append.2 ⟨h.1,by simp,fun a ha c hc=>?_⟩,fun x hx=>⟨u.nm,rfl,?_⟩⟩
 ·have : c=ZcN u:=by simpa using hc
  subst this
  exact hlt a ha
 ·rcases List.mem_append.1 hx with hx | hx
  ·exact List.le_of_lt (hlt x hx)
  ·have : x=ZcN u:=by simpa using hx
   subst this
   exact List.le_refl _
theorem Zyf (hn : us.length≤1000) (hA : Users H0 sl us) (hb : H0.length≤b) : ∀ (t k : Nat) (m : J4) (X : Zd),us.length - k=t→k≤us.length→HLe H0 X→X[d]?=some (.cells [.map (some b)] 1 false false)→JH strv X b m→Zo7 m (Zbn us k)→d≠b→
  ∃ X',Zi (c5 (Z6.l2 (R (n+6)))) [sl,pt d,sl,iv us.length,iv k] X=some (if Zbo (Zbn us k) (us.drop k) then .ext 2 [sl,pt d] else .ret (.tuple #[.pointer none,iv 9]),X')∧HLe H0 X'∧
   (Zbo (Zbn us k) (us.drop k)=true→X'[d]?=some (.cells [.map (some b)] 1 false false)∧JH strv X' b (m++(us.drop k).map ZcN)∧ZeO (m++(us.drop k).map ZcN))
 | 0,k,m,X,ht,hk,hle,hc,hm,hL,hdb=>by
  have : k=us.length:=by omega
  subst this
  rw [List.drop_length]
  refine ⟨X,ZK ?_,hle,fun _=>⟨hc,by simpa using hm,by simpa using hL.1⟩⟩
  rw [Qc]
  unfold Z6.l2
  rw [Za Zm,Zb,if_neg (by simp)]
  rfl
 | t+1,k,m,X,ht,hk,hle,hc,hm,hL,hdb=>by
  have hkl : k < us.length:=by omega
  have hlt : (k : Int) < us.length:=by omega
  have hg:=List.getElem?_eq_getElem hkl
  have hd:=List.drop_eq_getElem_cons hkl
  generalize us[k]=u at hg hd
  have hf:=fun {K : Value→M Out}=>(hA.mono hle).fetch (k:=K) hg
  have g1 : (X++[Ze.cells u.cells 1 false false])[X.length]?=some (.cells u.cells 1 false false):=Zw
  have k1 : HLe X (X++[Ze.cells u.cells 1 false false]):=.app _ _
  generalize X++[Ze.cells u.cells 1 false false]=X1 at g1 k1 hf
  generalize X.length=p at g1 hf
  have a0 : ∀ f x,u.cells[f]?=some x→ld1 (pa p f) X1=some (x,X1):=fun f x h=>Zv g1 h
  have hA1:=(hA.mono hle).mono k1
  have hcmp : ∀ K : Value→M Out,
    bind (bop .int .gtr (iv k) (Value.int .i64 0)) (fun v31x18=>bind (Zg v31x18 true (ret sl)) fun v33x19=>bind (Zg v31x18 true (ret (iv k))) fun v34x20=>bind (Zg v31x18 true (bop .int .sub v34x20 (Value.int .i64 1))) fun v35x21=>bind (Zg v31x18 true (ixa 5 v33x19 v35x21)) fun v36x22=>bind (Zg v31x18 true (fa 0 v36x22)) fun v37x23=>bind (Zg v31x18 true (ld1 v37x23)) fun v38x24=>bind (Zg v31x18 true (fa 0 (pt p))) fun v39x25=>bind (Zg v31x18 true (ld1 v39x25)) fun v40x26=>bind (Zg v31x18 true (R (n+6) Qv [v38x24,v40x26])) fun v41x27=>bind (Zg v31x18 true (bop .int .geq v41x27 (Value.int .i64 0))) fun v42x28=>bind (pick v31x18 v42x28 (Value.bool false)) K) X1=K (.bool (!upB (Zbn us k) u)) X1:=fun K=>by
   by_cases h0 : k=0
   ·subst h0
    have q1 : bop .int .gtr (iv (0 : Nat)) (Value.int .i64 0) X1=some (.bool false,X1):=by rw [Z0];rfl
    rw [Za q1]
    iterate 10 rw [ZuD (by rfl)]
    rw [Za Zl]
    rfl
   ·have q1 : bop .int .gtr (iv k) (Value.int .i64 0) X1=some (.bool true,X1):=by rw [Z0,decide_eq_true (by omega)]
    obtain ⟨v,hv⟩ : ∃ v,us[k - 1]?=some v:=⟨_,List.getElem?_eq_getElem (by omega)⟩
    obtain ⟨id,o,x1,x2⟩:=hA1.nmAt hv
    have e3 : R (n+6) Qv [strv v.nm,strv u.nm] X1=_:=Zlw (n:=n+3)
    have hp : upB (Zbn us k) u=decide (v.nm < u.nm):=by unfold Zbn upB;rw [if_neg h0,hv];rfl
    rw [Za q1,Qr,ZV,Qr,ZV,Qr,Za QU,Zqa (by omega) (by omega),Qr,Za x1,Qr,Za Ys,Qr,Za x2,Qr,Za Zh,Qr,Za (a0 0 _ rfl),Qr,Za e3,Qr,Za Qj,ZqU,Za Zl,hp]
    rfl
  rw [hd,ZfO]
  cases hup : upB (Zbn us k) u
  ·rw [hup] at hcmp
   refine ⟨X1,QE ?_,hle.trans k1,fun h=>by cases h⟩
   rw [Qc]
   unfold Z6.l2
   rw [Za Zm,Zb,if_pos (by simpa using hlt),hf]
   refine (hcmp _).trans ?_
   rw [Zb,if_pos (by rfl)]
   rfl
  ·rw [hup] at hcmp
   obtain ⟨hput,hL2⟩:=hL.put hup
   have hm1:=hm.hle k1
   obtain ⟨X2,e2,m2,s2,_⟩:=hm1.mup (k:=u.nm) (v:=u.hs)
   rw [hput] at m2
   have hc2:=s2.get (k1 _ _ hc) (by simp [hdb])
   have hle2:=(hle.trans k1).more s2 (by simpa using hb)
   obtain ⟨X3,e3,k3,h3⟩:=Zyf hn hA hb t (k+1) _ X2 (by omega) (by omega) hle2.1 hc2 m2 (by rw [ZgX hg];exact hL2) hdb
   rw [ZgX hg] at e3 h3
   refine ⟨X3,(Zy ?_).trans e3,k3,fun h=>by simpa using h3 (by simpa using h)⟩
   rw [Qc]
   unfold Z6.l2
   rw [Za Zm,Zb,if_pos (by simpa using hlt),hf]
   refine (hcmp _).trans ?_
   rw [Zb,if_neg (by simp),Za Zt,Za Zh,Za (Zft (k1 _ _ hc)),Za Zh,Za (a0 0 _ rfl),Za Zh,Za (a0 1 _ rfl),Za e2,Za ZB,Qg (by omega)]
   rfl
def ofE (us : List Zj) : Int:=if Wv us=0 then (if Zbo none us then (if 12 < us.length then 7 else 0) else 9) else Wv us
theorem Zjs : ∀ {us : List Zj},Wv us=0→∀ u∈us,Za5 u=0
 | [],_,u,hu=>by cases hu
 | v :: l,h,u,hu=>by
  unfold Wv at h
  by_cases h1 : Za5 v=0
  ·rw [if_pos h1] at h
   rcases List.mem_cons.1 hu with rfl | hu
   ·exact h1
   ·exact Zjs h u hu
  ·rw [if_neg h1] at h;exact absurd h h1
theorem ZCW (hn : us.length≤1000) (hA : Users X sl us) : ∃ X' dv,R (n+7) WT [sl] X=some (.tuple #[dv,iv (ofE us)],X')∧HLe X X'∧
  (ofE us≠0→dv=.pointer none)∧(ofE us=0→∃ d b,dv=pt d∧Dir X' d b (us.map ZcN)∧ZeO (us.map ZcN)∧X.length≤d∧X.length≤b):=by
 obtain ⟨X0,d,b,e0,D0,k0,o1,o2⟩:=Zue (n:=n+5) (H:=X)
 have e0 : R (n+6) Zcd [] X=_:=e0
 have hA0:=hA.mono k0
 obtain ⟨X1,e1,k1⟩:=ZyA (n:=n) (dv:=pt d) hn hA0 us.length 0 X0 (by omega) (by omega) (.refl _)
 rw [List.drop_zero] at e1
 have e1 : Zi (c5 (Z6.l1 (R (n+6)))) [sl,pt d,sl,iv us.length,.int .i64 0] X0=_:=e1
 have f1 : ∀ r X',Z6 (R (n+6)) sl X=some (r,X')→R (n+7) WT [sl] X=some (r,X'):=fun r X' hr=>by rw [R,Znz rfl];exact hr
 have D1:=D0.hle k1
 unfold ofE
 by_cases h1 : Wv us=0
 ·rw [if_pos h1] at e1
  rw [if_pos h1]
  obtain ⟨X2,e2,k2,h2⟩:=Zyf (n:=n) hn hA o2 us.length 0 [] X1 (by omega) (by omega) (k0.trans k1) D1.c D1.g ⟨List.Pairwise.nil,by simp⟩ D1.ne
  rw [List.drop_zero,ZpQ] at e2 h2
  have e2 : Zi (c5 (Z6.l2 (R (n+6)))) [sl,pt d,sl,iv us.length,.int .i64 0] X1=_:=e2
  cases hr : Zbo none us
  ·rw [hr] at e2
   refine ⟨X2,.pointer none,f1 _ _ ?_,k2,fun _=>rfl,fun h=>by simp at h⟩
   unfold Z6
   rw [Za e0,Za hA.len,ZT e1,ZE,ZX,Za hA.len,JJ e2]
   rfl
  ·rw [hr] at e2
   obtain ⟨hc,hm,hR⟩:=h2 hr
   rw [List.nil_append] at hm hR
   by_cases h3 : 12 < us.length
   ·refine ⟨X2,.pointer none,f1 _ _ ?_,k2,fun _=>rfl,fun h=>by simp [h3] at h⟩
    unfold Z6
    rw [Za e0,Za hA.len,ZT e1,ZE,ZX,Za hA.len,ZT e2,ZE,ZX,Za hA.len,Za Z0,Zb,if_pos (by simp;omega),if_pos rfl,if_pos h3]
    rfl
   ·refine ⟨X2,pt d,f1 _ _ ?_,k2,fun h=>by simp [h3] at h,fun _=>⟨d,b,rfl,⟨hc,hm,fun p hp=>?_,by simpa using h3⟩,hR,o1,o2⟩⟩
    ·unfold Z6
     rw [Za e0,Za hA.len,ZT e1,ZE,ZX,Za hA.len,ZT e2,ZE,ZX,Za hA.len,Za Z0,Zb,if_neg (by simp;omega),if_pos rfl,if_neg h3]
     rfl
    ·obtain ⟨u,hu,rfl⟩:=List.mem_map.1 hp
     have he:=Zjs h1 u hu
     unfold Za5 at he
     refine ZaU ?_
     cases hn : Zp u.nm
     ·rw [hn] at he;simp at he
     ·exact hn
 ·rw [if_neg h1] at e1
  rw [if_neg h1]
  refine ⟨X1,.pointer none,f1 _ _ ?_,k0.trans k1,fun _=>rfl,fun h=>absurd h h1⟩
  unfold Z6
  rw [Za e0,Za hA.len,JJ e1]
  rfl
end
end Go.Proofs.YtedkoimihknggaaGreatDoor.A

namespace Go.Proofs.YtedkoimihknggaaGreatDoor.A
set_option linter.unusedVariables false
set_option linter.unusedSimpArgs false
open Go.Proofs Go.Proofs.YtedkoimihknggaaGreatDoor
abbrev Zaj:=List UInt8 × List UInt8 × List UInt8 × Bool × List (List UInt8)
def ZQ (u : Zj) : Zaj:=(u.nm,u.hs,u.ml,u.ds,u.gs)
section
variable {H0 H X : Zd} {n p p1 p2 d b : Nat} {u w : Zj} {us ws : List Zj} {a c : Value}
theorem ZtC (h1 : Sl X u.gv (u.gs.map strv)) (h2 : Sl X w.gv (w.gs.map strv)) (hl : u.gs.length=w.gs.length) (hb : u.gs.length≤1000000) (c1 : X[p1]?=some (.cells u.cells 1 false false)) (c2 : X[p2]?=some (.cells w.cells 1 false false)) : ∀ (t j : Nat),u.gs.length - j=t→j≤u.gs.length→
  Zi (c4 (KY.l1 (R n))) [pt p1,pt p2,iv u.gs.length,iv j] X=some (if u.gs.drop j=w.gs.drop j then .ext 0 [] else .ret (.bool false),X)
 | 0,j,ht,hj=>by
  rw [List.drop_eq_nil_of_le (by omega),List.drop_eq_nil_of_le (by omega),if_pos rfl]
  refine ZK ?_
  rw [ZI]
  unfold KY.l1
  rw [Za Zm,Zb,if_neg (by simp;omega)]
  rfl
 | t+1,j,ht,hj=>by
  have hj1 : j < u.gs.length:=by omega
  have hj2 : j < w.gs.length:=by omega
  have hlt : (j : Int) < u.gs.length:=by omega
  have g1:=List.getElem?_eq_getElem hj1
  have g2:=List.getElem?_eq_getElem hj2
  have d1:=List.drop_eq_getElem_cons hj1
  have d2:=List.drop_eq_getElem_cons hj2
  generalize u.gs[j]=x at g1 d1
  generalize w.gs[j]=y at g2 d2
  have x1:=h1.ix (i:=j) (by simpa using hj1) .i64 X
  have x2:=h1.ldx (Yt g1)
  have y1:=h2.ix (i:=j) (by simpa using hj2) .i64 X
  have y2:=h2.ldx (Yt g2)
  have a4 : ld1 (pa p1 4) X=some (u.gv,X):=Zv c1 rfl
  have b4 : ld1 (pa p2 4) X=some (w.gv,X):=Zv c2 rfl
  have q1 : bop .str .neq (strv x) (strv y) X=some (.bool (!(x==y)),X):=Wt
  rw [d1,d2]
  by_cases hxy : x=y
  ·subst hxy
   have ih:=ZtC h1 h2 hl hb c1 c2 t (j+1) (by omega) (by omega)
   have hi : (x :: u.gs.drop (j+1)=x :: w.gs.drop (j+1))↔(u.gs.drop (j+1)=w.gs.drop (j+1)):=by simp
   simp only [hi]
   refine (Zy ?_).trans ih
   rw [ZI]
   unfold KY.l1
   rw [Za Zm,Zb,if_pos (by simpa using hlt),Za Zh,Za a4,Za x1,Za x2,Za Zh,Za b4,Za y1,Za y2,Za q1,Zb,if_neg (by simp),Za ZB,Qg (by omega)]
   rfl
  ·rw [if_neg (by simp [hxy])]
   refine QE ?_
   rw [ZI]
   unfold KY.l1
   rw [Za Zm,Zb,if_pos (by simpa using hlt),Za Zh,Za a4,Za x1,Za x2,Za Zh,Za b4,Za y1,Za y2,Za q1,Zb,if_pos (by simp [hxy])]
   rfl
theorem ZlS {u : Zj} (h : oneCell u.gv=true) : alc 1 (.agg u.cells.toArray) X=some (pt X.length,X++[.cells u.cells 1 false false]):=by
 rw [QV]
 exact if_pos (show u.cells.toArray.toList.all oneCell=true by simp only [Zj.cells,List.all_cons,h];rfl)
theorem ZA8 (h1 : Sl X u.gv (u.gs.map strv)) (h2 : Sl X w.gv (w.gs.map strv)) (o1 : oneCell u.gv=true) (o2 : oneCell w.gv=true) (hb1 : u.gs.length≤1000000) (hb2 : w.gs.length≤1000000) :
  ∃ X',R (n+1) ZfJ [.agg u.cells.toArray,.agg w.cells.toArray] X=some (.bool (decide (ZQ u=ZQ w)),X')∧HLe X X':=by
 have e1:=ZlS (X:=X) o1
 have e2:=ZlS (X:=X++[.cells u.cells 1 false false]) o2
 have k1 : HLe X (X++[Ze.cells u.cells 1 false false]++[Ze.cells w.cells 1 false false]):=(HLe.app _ _).trans (.app _ _)
 have c1 : (X++[Ze.cells u.cells 1 false false]++[Ze.cells w.cells 1 false false])[X.length]?=some (.cells u.cells 1 false false):=ZkP
 have c2 : (X++[Ze.cells u.cells 1 false false]++[Ze.cells w.cells 1 false false])[(X++[Ze.cells u.cells 1 false false]).length]?=some (.cells w.cells 1 false false):=Zw
 generalize X++[Ze.cells u.cells 1 false false]++[Ze.cells w.cells 1 false false]=X2 at e2 k1 c1 c2
 generalize (X++[Ze.cells u.cells 1 false false]).length=p2 at e2 c2
 generalize X.length=p1 at e1 c1
 have a0 : ∀ f x,u.cells[f]?=some x→ld1 (pa p1 f) X2=some (x,X2):=fun f x h=>Zv c1 h
 have b0 : ∀ f x,w.cells[f]?=some x→ld1 (pa p2 f) X2=some (x,X2):=fun f x h=>Zv c2 h
 have q0 : ∀ x y : List UInt8,bop .str .neq (strv x) (strv y) X2=some (.bool (decide (x≠y)),X2):=fun x y=>by
  rw [Wt];by_cases h : x=y <;> simp [h]
 have q1 : bop .bool .neq (.bool u.ds) (.bool w.ds) X2=some (.bool (decide (u.ds≠w.ds)),X2):=by
  rw [JW];cases u.ds <;> cases w.ds <;> rfl
 have q2 : bop .int .neq (iv u.gs.length) (iv w.gs.length) X2=some (.bool (decide (u.gs.length≠w.gs.length)),X2):=by
  rw [Zq];by_cases h : u.gs.length=w.gs.length
  ·simp [h]
  ·have : ((u.gs.length : Int) !=w.gs.length)=true:=by rw [bne_iff_ne];omega
   rw [this];simp [h]
 have g1:=h1.mono k1
 have g2:=h2.mono k1
 have l1 : Zx u.gv X2=some (iv u.gs.length,X2):=by have:=g1.len (H':=X2);rwa [List.length_map] at this
 have l2 : Zx w.gv X2=some (iv w.gs.length,X2):=by have:=g2.len (H':=X2);rwa [List.length_map] at this
 refine ⟨X2,?_,k1⟩
 rw [R,Zsy rfl]
 unfold KY
 rw [Za e1,Za e2,Za Zh,Za (a0 0 _ rfl),Za Zh,Za (b0 0 _ rfl),Za (q0 _ _)]
 by_cases n1 : u.nm=w.nm
 rotate_left
 ·rw [decide_eq_true n1,Za (g_r.trans (if_neg (by simp)))]
  simp only [List.replicate]
  rw [Qc,Za Zl]
  simp only [cond_true]
  rw [Za (g_r.trans (if_neg (by simp)))]
  simp only [List.replicate]
  rw [Qc,Za Zl]
  simp only [cond_true]
  rw [Za (g_r.trans (if_neg (by simp)))]
  simp only [List.replicate]
  rw [Qc,Za Zl]
  simp only [cond_true]
  rw [Za (g_r.trans (if_neg (by simp)))]
  simp only [List.replicate]
  rw [JA,Za Zl]
  simp only [cond_true]
  rw [Zb,if_pos rfl,decide_eq_false (fun e=>n1 (congrArg (·.1) e))]
  rfl
 rw [decide_eq_false (fun h=>h n1),ZU,Zk,Za Zh,Zk,Za (a0 1 _ rfl),Zk,Za Zh,Zk,Za (b0 1 _ rfl),Zk,Za (q0 _ _),ZV,Qc,Za Zl]
 simp only [cond_false]
 by_cases n2 : u.hs=w.hs
 rotate_left
 ·rw [decide_eq_true n2,Za (g_r.trans (if_neg (by simp)))]
  simp only [List.replicate]
  rw [Qc,Za Zl]
  simp only [cond_true]
  rw [Za (g_r.trans (if_neg (by simp)))]
  simp only [List.replicate]
  rw [Qc,Za Zl]
  simp only [cond_true]
  rw [Za (g_r.trans (if_neg (by simp)))]
  simp only [List.replicate]
  rw [JA,Za Zl]
  simp only [cond_true]
  rw [Zb,if_pos rfl,decide_eq_false (fun e=>n2 (congrArg (·.2.1) e))]
  rfl
 rw [decide_eq_false (fun h=>h n2),ZU,Zk,Za Zh,Zk,Za (a0 2 _ rfl),Zk,Za Zh,Zk,Za (b0 2 _ rfl),Zk,Za (q0 _ _),ZV,Qc,Za Zl]
 simp only [cond_false]
 by_cases n3 : u.ml=w.ml
 rotate_left
 ·rw [decide_eq_true n3,Za (g_r.trans (if_neg (by simp)))]
  simp only [List.replicate]
  rw [Qc,Za Zl]
  simp only [cond_true]
  rw [Za (g_r.trans (if_neg (by simp)))]
  simp only [List.replicate]
  rw [JA,Za Zl]
  simp only [cond_true]
  rw [Zb,if_pos rfl,decide_eq_false (fun e=>n3 (congrArg (·.2.2.1) e))]
  rfl
 rw [decide_eq_false (fun h=>h n3),ZU,Zk,Za Zh,Zk,Za (a0 3 _ rfl),Zk,Za Zh,Zk,Za (b0 3 _ rfl),Zk,Za q1,ZV,Qc,Za Zl]
 simp only [cond_false]
 by_cases n4 : u.ds=w.ds
 rotate_left
 ·rw [decide_eq_true n4,Za (g_r.trans (if_neg (by simp)))]
  simp only [List.replicate]
  rw [JA,Za Zl]
  simp only [cond_true]
  rw [Zb,if_pos rfl,decide_eq_false (fun e=>n4 (congrArg (·.2.2.2.1) e))]
  rfl
 rw [decide_eq_false (fun h=>h n4),ZU,Zk,Za Zh,Zk,Za (a0 4 _ rfl),Zk,Za l1,Zk,Za Zh,Zk,Za (b0 4 _ rfl),Zk,Za l2,Zk,Za q2,ZV,JA,Za Zl]
 simp only [cond_false]
 by_cases n5 : u.gs.length=w.gs.length
 rotate_left
 ·rw [decide_eq_true n5,Zb,if_pos rfl,decide_eq_false (fun e=>n5 (congrArg (·.2.2.2.2.length) e))]
  rfl
 rw [decide_eq_false (fun h=>h n5),Zb,if_neg (by simp),Za Zh,Za (a0 4 _ rfl),Za l1]
 have e3:=ZtC (n:=n) g1 g2 n5 hb1 c1 c2 u.gs.length 0 (by omega) (by omega)
 rw [List.drop_zero,List.drop_zero] at e3
 have e3 : Zi (c4 (KY.l1 (R n))) [pt p1,pt p2,iv u.gs.length,.int .i64 0] X2=_:=e3
 by_cases n6 : u.gs=w.gs
 ·rw [if_pos n6] at e3
  rw [ZT e3,ZE,decide_eq_true (show ZQ u=ZQ w by unfold ZQ;rw [n1,n2,n3,n4,n6])]
  rfl
 ·rw [if_neg n6] at e3
  rw [JJ e3,decide_eq_false (fun e=>n6 (congrArg (·.2.2.2.2) e))]
  rfl
def Qh (H : Zd) (sl : Value) (us : List Zj) : Prop:=SlN 5 H sl (us.map Zj.cells)∧∀ u∈us,Sl H u.gv (u.gs.map strv)∧oneCell u.gv=true∧u.gs.length≤1000000
theorem Qh.mono (h : Qh H a us) (hl : HLe H X) : Qh X a us:=⟨h.1.mono hl,fun u hu=>⟨(h.2 u hu).1.mono hl,(h.2 u hu).2⟩⟩
theorem Users.s (h : Users H a us) (hb : ∀ u∈us,u.gs.length≤1000000) : Qh H a us:=⟨h.1,fun u hu=>⟨GV.sl (h.2 u hu),GV.one (h.2 u hu),hb u hu⟩⟩
theorem Zuv (hn : us.length≤1000000) (hl : us.length=ws.length) (ha : Qh H0 a us) (hc : Qh H0 c ws) : ∀ (t j : Nat) (X : Zd),us.length - j=t→j≤us.length→HLe H0 X→
  ∃ X',Zi (c4 (Jk.l1 (R (n+1)))) [a,c,iv us.length,iv j] X=some (if (us.drop j).map ZQ=(ws.drop j).map ZQ then .ext 0 [] else .ret (.bool false),X')∧HLe H0 X'
 | 0,j,X,ht,hj,hle=>by
  rw [List.drop_eq_nil_of_le (by omega),List.drop_eq_nil_of_le (by omega),if_pos rfl]
  refine ⟨X,ZK ?_,hle⟩
  rw [ZI]
  unfold Jk.l1
  rw [Za Zm,Zb,if_neg (by simp;omega)]
  rfl
 | t+1,j,X,ht,hj,hle=>by
  have hj1 : j < us.length:=by omega
  have hj2 : j < ws.length:=by omega
  have hlt : (j : Int) < us.length:=by omega
  have g1:=List.getElem?_eq_getElem hj1
  have g2:=List.getElem?_eq_getElem hj2
  have d1:=List.drop_eq_getElem_cons hj1
  have d2:=List.drop_eq_getElem_cons hj2
  generalize us[j]=u at g1 d1
  generalize ws[j]=w at g2 d2
  have hr1 : (us.map Zj.cells)[j]?=some u.cells:=by rw [List.getElem?_map,g1];rfl
  have hr2 : (ws.map Zj.cells)[j]?=some w.cells:=by rw [List.getElem?_map,g2];rfl
  have hf1:=fun {K : Value→M Out}=>(ha.1.mono hle).fetch (k:=K) hr1 (by omega) .i64
  have hf2:=fun {K : Value→M Out}=>(hc.1.mono hle).fetch (k:=K) hr2 (by omega) .i64
  obtain ⟨p1,p2,p3⟩:=(ha.mono hle).2 u (List.mem_of_getElem? g1)
  obtain ⟨r1,r2,r3⟩:=(hc.mono hle).2 w (List.mem_of_getElem? g2)
  obtain ⟨X1,e1,l1⟩:=ZA8 (n:=n) p1 r1 p2 r2 p3 r3
  rw [d1,d2]
  by_cases hk : ZQ u=ZQ w
  ·rw [decide_eq_true hk] at e1
   obtain ⟨X2,e2,l2⟩:=Zuv hn hl ha hc t (j+1) X1 (by omega) (by omega) (hle.trans l1)
   have hi : ((u :: us.drop (j+1)).map ZQ=(w :: ws.drop (j+1)).map ZQ)↔((us.drop (j+1)).map ZQ=(ws.drop (j+1)).map ZQ):=by simp [hk]
   simp only [hi]
   refine ⟨X2,(Zy ?_).trans e2,l2⟩
   rw [ZI]
   unfold Jk.l1
   rw [Za Zm,Zb,if_pos (by simpa using hlt),hf1,hf2,Za e1,Za ZH,Zb,if_neg (by simp),Za ZB,Qg (by omega)]
   rfl
  ·rw [decide_eq_false hk] at e1
   rw [if_neg (by simp [hk])]
   refine ⟨X1,QE ?_,hle.trans l1⟩
   rw [ZI]
   unfold Jk.l1
   rw [Za Zm,Zb,if_pos (by simpa using hlt),hf1,hf2,Za e1,Za ZH,Zb,if_pos (by simp)]
   rfl
theorem Zx4 (hn : us.length≤1000000) (hn2 : ws.length≤1000000) (ha : Qh X a us) (hc : Qh X c ws) : ∃ X',R (n+2) KK [a,c] X=some (.bool (decide (us.map ZQ=ws.map ZQ)),X')∧HLe X X':=by
 have h1 : Zx a X=some (iv us.length,X):=by have:=ha.1.len (H':=X);rwa [List.length_map] at this
 have h2 : Zx c X=some (iv ws.length,X):=by have:=hc.1.len (H':=X);rwa [List.length_map] at this
 have f1 : ∀ v H',Jk (R (n+1)) a c X=some (v,H')→R (n+2) KK [a,c] X=some (v,H'):=fun v H' hr=>by rw [R,Zme rfl];exact hr
 by_cases hl : us.length=ws.length
 ·obtain ⟨X',e,l⟩:=Zuv (n:=n) hn hl ha hc us.length 0 X (by omega) (by omega) (.refl _)
  have e : Zi (c4 (Jk.l1 (R (n+1)))) [a,c,iv us.length,.int .i64 0] X=_:=e
  rw [List.drop_zero,List.drop_zero] at e
  refine ⟨X',f1 _ _ ?_,l⟩
  unfold Jk
  rw [Za h1,Za h2,Za Zq,Zb,if_neg (by simp [hl]),Za h1]
  by_cases hk : us.map ZQ=ws.map ZQ
  ·rw [if_pos hk] at e
   rw [ZT e,ZE,decide_eq_true hk];rfl
  ·rw [if_neg hk] at e
   rw [JJ e,decide_eq_false hk];rfl
 ·refine ⟨X,f1 _ _ ?_,.refl _⟩
  unfold Jk
  have hk : ¬ us.map ZQ=ws.map ZQ:=fun e=>hl (by have:=congrArg List.length e;simpa using this)
  have hne : ((us.length : Int) !=ws.length)=true:=by rw [bne_iff_ne];omega
  rw [Za h1,Za h2,Za Zq,Zb,if_pos hne,decide_eq_false hk]
  rfl
end
end Go.Proofs.YtedkoimihknggaaGreatDoor.A

namespace Go.Proofs.YtedkoimihknggaaGreatDoor.A
set_option linter.unusedVariables false
set_option linter.unusedSimpArgs false
open Go.Proofs Go.Proofs.YtedkoimihknggaaGreatDoor
section
variable {H H' : Zd} {n d b p q : Nat} {m : J4} {k s : List UInt8}
end
end Go.Proofs.YtedkoimihknggaaGreatDoor.A

namespace Go.Proofs.YtedkoimihknggaaGreatDoor.A
set_option linter.unusedVariables false
set_option linter.unusedSimpArgs false
open Go.Proofs Go.Proofs.YtedkoimihknggaaGreatDoor
structure ZoM where
 kd : Nat
 nm : List UInt8
 hs : List UInt8
abbrev ZoM.cells (a : ZoM) : List Value:=[.int .u8 a.kd,strv a.nm,strv a.hs]
def ZsY (H : Zd) (sl : Value) (ac : List ZoM) : Prop:=SlN 3 H sl (ac.map ZoM.cells)∧∀ a∈ac,a.kd≤255
section
variable {H H' : Zd} {sl : Value} {ac : List ZoM} {n : Nat}
theorem ZsY.len (h : ZsY H sl ac) : Zx sl H'=some (iv ac.length,H'):=by
 have:=h.1.len (H':=H')
 rwa [List.length_map] at this
theorem ZsY.fetch {β : Type} {k : Value→M β} (h : ZsY H sl ac) {j : Nat} {a : ZoM} (hj : ac[j]?=some a) :
  bind (ixa 3 sl (iv j)) (fun p=>bind (ldA 3 p) fun v=>bind (alc 1 (.agg #[.int .u8 0,.string ⟨#[]⟩,.string ⟨#[]⟩])) fun q=>bind (stA 3 q v) fun _=>k q) H=k (pt H.length) (H++[.cells a.cells 1 false false]):=by
 have hr : (ac.map ZoM.cells)[j]?=some a.cells:=by rw [List.getElem?_map,hj];rfl
 rw [h.1.fetch hr (by omega) .i64]
 exact WZ (n:=3) (zs:=[.int .u8 0,.string ⟨#[]⟩,.string ⟨#[]⟩]) (r:=a.cells) rfl rfl rfl rfl
end
end Go.Proofs.YtedkoimihknggaaGreatDoor.A

namespace Go.Proofs.YtedkoimihknggaaGreatDoor.A
set_option linter.unusedVariables false
set_option linter.unusedSimpArgs false
open Go.Proofs Go.Proofs.YtedkoimihknggaaGreatDoor
section
variable {H : Zd} {n : Nat} {f v : Value} {p : List UInt8→Bool} {l : List (List UInt8)} {q : List Nat} {Q : Zd→Prop}
theorem HLe.stepq {X X' : Zd} (h : HLe X X') : ZC q X q X':=h.step.more (by simp) (fun j hj=>.inl hj)
theorem Zwe (hl : l.length≤1000000) (hQ : ∀ X X',Q X→HLe X X'→Q X') (hf : ∀ X,Q X→∀ s∈l,∃ X',Jv (R n) f [strv s] X=some (.bool (p s),X')∧HLe X X') : ∀ (t k : Nat) (X : Zd),l.length - k=t→k≤l.length→Q X→ZA X v (l.map strv) q→
  ∃ X',Zi (c4 (ZL.l1 (R n))) [v,f,iv l.length,iv k] X=some (match (l.drop k).findIdx? p with | some i=>.ret (iv (k+i : Nat)) | none=>.ext 0 [],X')∧HLe X X'
 | 0,k,X,ht,hk,hq,hr=>by
  have : k=l.length:=by omega
  subst this
  rw [List.drop_length]
  refine ⟨X,ZK ?_,.refl _⟩
  rw [ZI]
  unfold ZL.l1
  rw [Za Zm,Zb,if_neg (by simp)]
  rfl
 | t+1,k,X,ht,hk,hq,hr=>by
  have hkl : k < l.length:=by omega
  have hlt : (k : Int) < l.length:=by omega
  have hg:=List.getElem?_eq_getElem hkl
  have hm : l[k]∈l:=List.getElem_mem hkl
  have hd:=List.drop_eq_getElem_cons hkl
  generalize l[k]=x at hg hd hm
  have x1:=hr.ix (i:=k) (by simpa using hkl) .i64 X
  have x2:=hr.ldx (Yt hg)
  obtain ⟨X1,x3,l1⟩:=hf X hq x hm
  obtain ⟨X2,ih,l2⟩:=Zwe hl hQ hf t (k+1) X1 (by omega) (by omega) (hQ _ _ hq l1) (hr.step l1.step (by simp))
  rw [hd,List.findIdx?_cons]
  cases hp : p x
  ·rw [hp] at x3
   refine ⟨X2,(Zy ?_).trans (ih.trans ?_),l1.trans l2⟩
   ·rw [ZI]
    unfold ZL.l1
    rw [Za Zm,Zb,if_pos (by simpa using hlt),Za x1,Za x2,Za x3,Zb,if_neg (by simp),Za ZB,Qg (by omega)]
    rfl
   ·cases (l.drop (k+1)).findIdx? p with
    | none=>rfl
    | some i=>simp only [Bool.false_eq_true,if_false,Option.map_some];rw [show k+1+i=k+(i+1) by omega]
  ·rw [hp] at x3
   refine ⟨X1,QE ?_,l1⟩
   rw [ZI]
   unfold ZL.l1
   rw [Za Zm,Zb,if_pos (by simpa using hlt),Za x1,Za x2,Za x3,Zb,if_pos rfl]
   rfl
theorem ZyB (hr : ZA H v (l.map strv) q) (hl : l.length≤1000000) (hQ : ∀ X X',Q X→HLe X X'→Q X') (hf : ∀ X,Q X→∀ s∈l,∃ X',Jv (R n) f [strv s] X=some (.bool (p s),X')∧HLe X X') (h0 : Q H) :
  ∃ H',R (n+1) Yf [v,f] H=some (match l.findIdx? p with | some i=>iv i | none=>iv (-1),H')∧HLe H H':=by
 obtain ⟨H',e,le⟩:=Zwe hl hQ hf l.length 0 H (by omega) (by omega) h0 hr
 rw [List.drop_zero] at e
 have e : Zi (c4 (ZL.l1 (R n))) [v,f,iv l.length,.int .i64 0] H=_:=e
 have hlen : Zx v H=some (iv l.length,H):=by have:=hr.rd.len (H':=H);simpa using this
 refine ⟨H',?_,le⟩
 rw [R,Zey rfl]
 unfold ZL
 rw [Za hlen]
 cases h : l.findIdx? p with
 | none=>rw [h] at e;rw [ZT e,ZE];rfl
 | some i=>
  rw [h] at e
  rw [JJ e]
  simp [ret]
theorem Zq3 (hl : l.length≤1000000) (hQ : ∀ X X',Q X→ZC q X q X'→Q X') (hf : ∀ X,Q X→∀ s∈l,∃ X',Jv (R n) f [strv s] X=some (.bool (p s),X')∧HLe X X') : ∀ (t j i : Nat) (cs : List (List UInt8)) (X : Zd),l.length - j=t→j≤l.length→i≤j→cs.length=l.length→cs.drop j=l.drop j→ZA X v (cs.map strv) q→Q X→
  ∃ (X' : Zd) (cs' : List (List UInt8)),Zi (c4 (Z7.l1 (R n))) [v,f,iv i,iv j] X=some (.ext 0 [v,iv (i+((l.drop j).filter fun s=>!p s).length : Nat)],X')∧ZA X' v (cs'.map strv) q∧cs'.length=l.length∧
   cs'.take (i+((l.drop j).filter fun s=>!p s).length)=cs.take i++(l.drop j).filter (fun s=>!p s)∧ZC q X q X'
 | 0,j,i,cs,X,ht,hj,hi,hc,hd,hr,hq=>by
  have : j=l.length:=by omega
  subst this
  rw [List.drop_length]
  have hlen : Zx v X=some (iv l.length,X):=by have:=hr.rd.len (H':=X);simpa [hc] using this
  refine ⟨X,cs,ZK ?_,hr,hc,by simp,.refl _ _⟩
  rw [ZI]
  unfold Z7.l1
  rw [Za hlen,Za Zm,Zb,if_neg (by simp)]
  rfl
 | t+1,j,i,cs,X,ht,hj,hi,hc,hd,hr,hq=>by
  have hjl : j < l.length:=by omega
  have hlt : (j : Int) < l.length:=by omega
  have hg:=List.getElem?_eq_getElem hjl
  have hm : l[j]∈l:=List.getElem_mem hjl
  have hdl:=List.drop_eq_getElem_cons hjl
  generalize l[j]=x at hg hdl hm
  have hgc : cs[j]?=some x:=by
   have h1 : (cs.drop j)[0]?=(l.drop j)[0]?:=by rw [hd]
   simpa [hg] using h1
  have hlen : Zx v X=some (iv l.length,X):=by have:=hr.rd.len (H':=X);simpa [hc] using this
  have x1:=hr.ix (i:=j) (by simpa [hc] using hjl) .i64 X
  have x2:=hr.ldx (Yt hgc)
  obtain ⟨Y,x3,ly⟩:=hf X hq x hm
  have hqy:=hQ _ _ hq (ly.stepq (q:=q))
  have hry:=hr.step ly.step (by simp)
  have hd1 : cs.drop (j+1)=l.drop (j+1):=by
   rw [← List.drop_drop,hd,List.drop_drop]
  rw [hdl,List.filter_cons]
  cases hp : p x
  ·rw [hp] at x3
   have x4:=hry.ix (i:=i) (by simp [hc];omega) .i64 Y
   obtain ⟨X1,x5,r1,s1,_⟩:=hry.stx (i:=i) (u:=strv x) (by simp [hc];omega) rfl
   have hset : (cs.map strv).set i (strv x)=(cs.set i x).map strv:=by rw [List.map_set]
   rw [hset] at r1
   obtain ⟨X',cs',e,r',hc',ht',s'⟩:=Zq3 hl hQ hf t (j+1) (i+1) (cs.set i x) X1 (by omega) (by omega) (by omega) (by simpa using hc) (by rw [List.drop_set_of_lt (by omega)];exact hd1) r1 (hQ _ _ hqy s1)
   have hn : i+1+((l.drop (j+1)).filter fun s=>!p s).length=i+(((l.drop (j+1)).filter fun s=>!p s).length+1):=by omega
   rw [hn] at e ht'
   simp only [Bool.not_false,if_true,List.length_cons]
   refine ⟨X',cs',(Zy ?_).trans e,r',hc',?_,(ly.stepq.trans s1).trans s'⟩
   ·rw [ZI]
    unfold Z7.l1
    rw [Za hlen,Za Zm,Zb,if_pos (by simpa using hlt),Za x1,Za x2,Za x3,Za ZH]
    refine (ZZ (vs:=[v,f,iv ((i+1 : Nat) : Int),iv j]) (H':=X1) ?_).trans ?_
    ·rw [Zb,if_pos (by rfl),Za x4,Za x5,Za ZB,Qg (by omega)];rfl
    ·rw [ZI,Za ZB,Qg (by omega)];rfl
   ·rw [ht']
    have : (cs.set i x).take (i+1)=cs.take i++[x]:=by
     have hil : i < (cs.set i x).length:=by simp [hc];omega
     rw [List.take_succ_eq_append_getElem hil,List.take_set_of_le (Nat.le_refl _)]
     simp
    rw [this];simp
  ·rw [hp] at x3
   obtain ⟨X',cs',e,r',hc',ht',s'⟩:=Zq3 hl hQ hf t (j+1) i cs Y (by omega) (by omega) (by omega) hc hd1 hry hqy
   simp only [Bool.not_true,Bool.false_eq_true,if_false]
   refine ⟨X',cs',(Zy ?_).trans e,r',hc',ht',ly.stepq.trans s'⟩
   rw [ZI]
   unfold Z7.l1
   rw [Za hlen,Za Zm,Zb,if_pos (by simpa using hlt),Za x1,Za x2,Za x3,Za ZH]
   refine (ZZ (vs:=[v,f,iv i,iv j]) (H':=Y) ?_).trans ?_
   ·rw [Zb,if_neg (by simp)];rfl
   ·rw [ZI,Za ZB,Qg (by omega)];rfl
theorem Zsn (hr : ZA H v (l.map strv) q) (hl : l.length≤1000000) (hQ : ∀ X X',Q X→ZC q X q X'→Q X') (hf : ∀ X,Q X→∀ s∈l,∃ X',Jv (R n) f [strv s] X=some (.bool (p s),X')∧HLe X X') (hf1 : ∀ X,Q X→∀ s∈l,∃ X',Jv (R (n+1)) f [strv s] X=some (.bool (p s),X')∧HLe X X') (h0 : Q H) :
  ∃ H' v',R (n+2) Jf [v,f] H=some (v',H')∧ZA H' v' ((l.filter fun s=>!p s).map strv) q∧ZC q H q H':=by
 obtain ⟨Y,e1,ly⟩:=ZyB hr hl (fun X X' hq hx=>hQ X X' hq hx.stepq) hf h0
 have e1 : run Tryz.prog np lvs (n+1) Yf [v,f] H=_:=e1
 have hry:=hr.step ly.step (by simp)
 have hqy:=hQ _ _ h0 (ly.stepq (q:=q))
 have hfi:=Zkb (p:=p) (l:=l)
 have hrun : R (n+2) Jf [v,f] H=Z7 (R (n+1)) v f H:=by rw [R,Zd8 rfl]
 rw [hrun]
 unfold Z7
 cases h : l.findIdx? p with
 | none=>
  rw [h] at e1 hfi
  refine ⟨Y,v,?_,by rw [hfi];exact hry,ly.stepq⟩
  rw [Za e1,Za ZD,Zb,if_pos (by simp)]
  rfl
 | some i=>
  rw [h] at e1 hfi
  simp only at e1 hfi
  obtain ⟨X',cs',e2,r2,hc2,ht2,s2⟩:=Zq3 (n:=n+1) hl hQ hf1 (l.length - (i+1)) (i+1) i l Y rfl (by omega) (by omega) rfl rfl hry hqy
  have hle : ((l.drop (i+1)).filter fun s=>!p s).length≤l.length - (i+1):=by
   have:=List.length_filter_le (fun s=>!p s) (l.drop (i+1))
   simpa using this
  obtain ⟨a,X2,v',a1,a2,a3,a4,a5⟩:=Zy6 r2 (i:=i+((l.drop (i+1)).filter fun s=>!p s).length) (by omega)
  refine ⟨X2,v',?_,by rw [hfi.1,← ht2];exact a4,(ly.stepq.trans s2).trans a5⟩
  rw [Za e1,Za ZD,Zb,if_neg (by simp),Za ZB,Qg (by omega),ZT e2,ZE,ZX,Za a1,Za a2,Za a3]
  rfl
end
abbrev Tx:=List UInt8
def Asc (l : List Tx) : Prop:=l.Pairwise (· < ·)
theorem Zl0 {a : Tx} : ¬ a < a:=List.lt_irrefl a
theorem Zv2 : ∀ {l l' : List Tx},Asc l→Asc l'→(∀ x,x∈l↔x∈l')→l=l'
 | [],[],_,_,_=>rfl
 | [],b :: l',_,_,h=>by have:=(h b).2 (by simp);cases this
 | a :: l,[],_,_,h=>by have:=(h a).1 (by simp);cases this
 | a :: l,b :: l',h1,h2,h=>by
  obtain ⟨a1,a2⟩:=List.pairwise_cons.1 h1
  obtain ⟨b1,b2⟩:=List.pairwise_cons.1 h2
  have hab : a=b:=by
   rcases List.mem_cons.1 ((h a).1 (by simp)) with e | e
   ·exact e
   ·rcases List.mem_cons.1 ((h b).2 (by simp)) with e' | e'
    ·exact e'.symm
    ·exact absurd (List.lt_trans (b1 a e) (a1 b e')) Zl0
  subst hab
  congr 1
  refine Zv2 a2 b2 fun x=>⟨fun hx=>?_,fun hx=>?_⟩
  ·rcases List.mem_cons.1 ((h x).1 (List.mem_cons_of_mem _ hx)) with e | e
   ·subst e;exact absurd (a1 _ hx) Zl0
   ·exact e
  ·rcases List.mem_cons.1 ((h x).2 (List.mem_cons_of_mem _ hx)) with e | e
   ·subst e;exact absurd (b1 _ hx) Zl0
   ·exact e
theorem Zh1 {l : List Tx} (hn : l.Nodup) : Asc (Qx l):=by
 have h1 : (Qx l).Pairwise (fun a b=>leB a b=true):=List.pairwise_mergeSort (fun a b c h h'=>by
  simp only [leB,decide_eq_true_eq] at *
  exact List.le_trans h h') (fun a b=>by
  simp only [leB,Bool.or_eq_true,decide_eq_true_eq]
  exact List.le_total a b) l
 have h2 : (Qx l).Nodup:=((List.mergeSort_perm l _).nodup_iff).2 hn
 unfold Asc
 have h3:=h1.and h2
 refine h3.imp fun {a b} h=>?_
 obtain ⟨h4,h5⟩:=h
 simp only [leB,decide_eq_true_eq] at h4
 exact Decidable.byContradiction fun h6=>h5 (List.le_antisymm h4 (List.not_lt.1 h6))
theorem Zbq {l : List Tx} {x : Tx} : x∈Qx l↔x∈l:=List.mem_mergeSort
structure Is (l : List Tx) (p : Tx→Prop) : Prop where
 asc : Asc l
 mem : ∀ x,x∈l↔p x
theorem Is.uniq {l l' : List Tx} {p p' : Tx→Prop} (h : Is l p) (h' : Is l' p') (hp : ∀ x,p x↔p' x) : l=l':=Zv2 h.asc h'.asc fun x=>(h.mem x).trans ((hp x).trans (h'.mem x).symm)
theorem Is.nil {l : List Tx} {p : Tx→Prop} (h : Is l p) : l=[]↔∀ x,¬ p x:=by
 constructor
 ·rintro rfl x hx;have:=(h.mem x).2 hx;cases this
 ·intro hx;exact List.eq_nil_iff_forall_not_mem.2 fun x hm=>hx x ((h.mem x).1 hm)
theorem Asc.nodup {l : List Tx} (h : Asc l) : l.Nodup:=h.imp fun {a b} hab e=>by subst e;exact Zl0 hab
theorem Asc.filter {l : List Tx} (h : Asc l) (p : Tx→Bool) : Asc (l.filter p):=List.Pairwise.filter p h
end Go.Proofs.YtedkoimihknggaaGreatDoor.A
namespace Go.Proofs.YtedkoimihknggaaGreatDoor.A
set_option linter.unusedVariables false
set_option linter.unusedSimpArgs false
open Go.Proofs Go.Proofs.YtedkoimihknggaaGreatDoor
abbrev Zqy (s : Nat) : Value:=.map (some s)
abbrev Zpv (_ : Unit) : Value:=.agg #[]
abbrev Zc8:=List (Tx × Nat)
abbrev ZzL:=List (Tx × Unit)
abbrev Mem:=Tx→Tx→Bool
abbrev Jd (o : Nat) (G : Zc8) : List Nat:=o :: G.map (·.2)
abbrev ZO (G : Zc8) : List Tx:=G.map (·.1)
structure Grp (X : Zd) (g o : Nat) (G : Zc8) (mem : Mem) (c : Nat) : Prop where
 cell : X[g]?=some (.cells [.map (some o)] 1 false false)
 mo : JH Zqy X o G
 ms : ∀ p∈G,∃ S : ZzL,JH Zpv X p.2 S∧(∀ n,(Zf n S).isSome=mem p.1 n)∧S.length≤c∧∀ q∈S,Zp q.1=true
 out : ∀ k n,mem k n=true→(Zf k G).isSome=true
 nod : (Jd o G).Nodup
 ok : ∀ p∈G,Zp p.1=true
 few : G.length≤6
theorem Zjr {α : Type} {k : Tx} : ∀ {m : List (Tx × α)},(Zf k m).isSome=decide (k∈m.map (·.1))
 | []=>rfl
 | p :: m=>by
  simp only [Zf,List.map_cons,List.mem_cons]
  by_cases h : p.1=k
  ·rw [if_pos h];simp [h]
  ·rw [if_neg h,Zjr]
   have : k≠p.1:=Ne.symm h
   simp [this]
section
variable {X X' : Zd} {n g o c c' : Nat} {G : Zc8} {mem mem' : Mem} {k m s t : Tx}
theorem Grp.isMap (h : Grp X g o G mem c) {j : Nat} (hj : j∈Jd o G) : j < X.length∧∀ cs es gr ro,X[j]?≠some (.cells cs es gr ro):=by
 have key : ∀ {α : Type} {enc : α→Value} {id : Nat} {mm : List (Tx × α)},JH enc X id mm→id < X.length∧∀ cs es gr ro,X[id]?≠some (.cells cs es gr ro):=fun hm=>⟨hm.lt,fun cs es gr ro e=>by
  obtain ⟨es',_,h1 | h1⟩:=hm.ex
  ·obtain ⟨clk,h1,_⟩:=h1;rw [e] at h1;cases h1
  ·rw [e] at h1;cases h1⟩
 rcases List.mem_cons.1 hj with rfl | hj
 ·exact key h.mo
 ·obtain ⟨p,hp,rfl⟩:=List.mem_map.1 hj
  obtain ⟨S,hS,_⟩:=h.ms p hp
  exact key hS
theorem Grp.gnot (h : Grp X g o G mem c) : g∉Jd o G:=fun hj=>(h.isMap hj).2 _ _ _ _ h.cell
theorem Grp.glt (h : Grp X g o G mem c) : g < X.length:=QD h.cell
theorem Grp.step {o1 o2 : List Nat} (h : Grp X g o G mem c) (hs : ZC o1 X o2 X') (hg : g∉o1) (ho : ∀ j∈Jd o G,j∉o1) : Grp X' g o G mem c:=
 ⟨hs.get h.cell hg,h.mo.step hs (ho o (by simp)),fun p hp=>by
  obtain ⟨S,h1,h2⟩:=h.ms p hp
  exact ⟨S,h1.step hs (ho p.2 (List.mem_cons_of_mem _ (List.mem_map.2 ⟨p,hp,rfl⟩))),h2⟩,h.out,h.nod,h.ok,h.few⟩
theorem Grp.hle (h : Grp X g o G mem c) (hl : HLe X X') : Grp X' g o G mem c:=h.step hl.step (by simp) (by simp)
theorem Grp.more (h : Grp X g o G mem c) (hc : c≤c') (hm : ∀ k n,mem' k n=mem k n) : Grp X g o G mem' c':=
 ⟨h.cell,h.mo,fun p hp=>by
  obtain ⟨S,h1,h2,h3,h4⟩:=h.ms p hp
  exact ⟨S,h1,fun n=>(h2 n).trans (hm _ _).symm,Nat.le_trans h3 hc,h4⟩,fun k n hk=>h.out k n (by rw [← hm];exact hk),h.nod,h.ok,h.few⟩
theorem Grp.ldo (h : Grp X g o G mem c) : ld1 (pt g) X=some (.map (some o),X):=Zft h.cell
theorem Grp.upd (h : Grp X g o G mem c) {id : Nat} {S' : ZzL} (hk : Zf k G=some id) (hm : JH Zpv X' id S') (hs : ZC [id] X [id] X') (hn : ∀ q∈S',Zp q.1=true) (hc : S'.length≤c') (hcc : c≤c')
  (hmem : ∀ k' n,mem' k' n=if k'=k then (Zf n S').isSome else mem k' n) : Grp X' g o G mem' c':=by
 have hpm:=K6 hk
 have hnod:=h.nod
 simp only [List.nodup_cons] at hnod
 have hidm : id∈G.map (·.2):=List.mem_map.2 ⟨_,hpm,rfl⟩
 have hido : o≠id:=fun e=>hnod.1 (e ▸ hidm)
 have hidg : g≠id:=fun e=>h.gnot (e ▸ List.mem_cons_of_mem _ hidm)
 refine ⟨hs.get h.cell (by simpa using hidg),h.mo.step hs (by simpa using hido),fun p hp=>?_,fun k' n hk'=>?_,h.nod,h.ok,h.few⟩
 ·by_cases hpid : p.2=id
  ·have hpk : p.1=k:=by
    have h1 : Zf p.1 G=some p.2:=ZbA h.mo.nod hp
    have hinj : ∀ (G : Zc8),(G.map (·.2)).Nodup→p∈G→(k,id)∈G→p=(k,id):=by
     intro G hG h1 h2
     induction G with
     | nil=>cases h1
     | cons a G ih=>
      simp only [List.map_cons,List.nodup_cons,List.mem_map,not_exists,not_and] at hG
      rcases List.mem_cons.1 h1 with e1 | e1
      ·rcases List.mem_cons.1 h2 with e2 | e2
       ·rw [e1,e2]
       ·exact absurd (by rw [← e1];exact hpid.symm) (hG.1 _ e2)
      ·rcases List.mem_cons.1 h2 with e2 | e2
       ·exact absurd (by rw [← e2];exact hpid) (hG.1 _ e1)
       ·exact ih hG.2 e1 e2
    rw [hinj G hnod.2 hp hpm]
   exact ⟨S',by rw [hpid];exact hm,fun n=>by rw [hmem,if_pos hpk],hc,hn⟩
  ·obtain ⟨S,h1,h2,h3,h4⟩:=h.ms p hp
   have hpk : p.1≠k:=fun e=>hpid (by
    have h5 : Zf p.1 G=some p.2:=ZbA h.mo.nod hp
    rw [e,hk] at h5;exact (Option.some.inj h5).symm)
   exact ⟨S,h1.step hs (by simpa using hpid),fun n=>by rw [hmem,if_neg hpk];exact h2 n,Nat.le_trans h3 hcc,h4⟩
 ·rw [hmem] at hk'
  by_cases e : k'=k
  ·rw [e,hk];rfl
  ·rw [if_neg e] at hk';exact h.out k' n hk'
theorem Grp.step1 (h : Grp X g o G mem c) {id : Nat} (hk : Zf k G=some id) (hs : ZC [id] X [id] X') : ZC (Jd o G) X (Jd o G) X':=
 hs.more (fun j hj=>by
  have hj : j=id:=by simpa using hj
  subst hj
  exact List.mem_cons_of_mem _ (List.mem_map.2 ⟨_,K6 hk,rfl⟩)) (fun j hj=>.inl hj)
theorem Grp.set (h : Grp X g o G mem c) {id : Nat} (hk : Zf k G=some id) : ∃ S : ZzL,JH Zpv X id S∧(∀ n,(Zf n S).isSome=mem k n)∧S.length≤c∧∀ q∈S,Zp q.1=true:=h.ms _ (K6 hk)
theorem Grp.key (h : Grp X g o G mem c) : (Zf k G).isSome=decide (k∈ZO G):=Zjr
theorem Zr1 {v : Value} {l : List Tx} (hl : l.length≤1000) (hs : Sl X v (l.map strv)) : ∀ (t j : Nat),l.length - j=t→j≤l.length→
  Zi (c3 (K9.l1 (R (n+5)))) [v,iv l.length,iv j] X=some (if (l.drop j).all Zp then .ext 0 [] else .ret (iv 10),X)
 | 0,j,ht,hj=>by
  rw [List.drop_eq_nil_of_le (by omega)]
  refine ZK ?_
  rw [Z3,show j=l.length by omega]
  unfold K9.l1
  rw [Za Zm,Zb,if_neg (by simp)]
  rfl
 | t+1,j,ht,hj=>by
  have hkl : j < l.length:=by omega
  have hlt : (j : Int) < l.length:=by omega
  have hg:=List.getElem?_eq_getElem hkl
  have hd:=List.drop_eq_getElem_cons hkl
  generalize l[j]=x at hg hd
  have x1:=hs.ix (i:=j) (by simpa using hkl) .i64 X
  have x2:=hs.ldx (Yt hg)
  have x3 : R (n+5) QZ [strv x] X=some (iv (ZJ x),X):=ZcB
  rw [hd,List.all_cons]
  cases hx : Zp x
  ·refine QE ?_
   rw [Z3]
   unfold K9.l1
   rw [Za Zm,Zb,if_pos (by simpa using hlt),Za x1,Za x2,Za x3,show ZJ x=10 by unfold ZJ;rw [hx];rfl,Za Zq,Zb,if_pos (by simp)]
   rfl
  ·refine (Zy ?_).trans (Zr1 hl hs t (j+1) (by omega) (by omega))
   rw [Z3]
   unfold K9.l1
   rw [Za Zm,Zb,if_pos (by simpa using hlt),Za x1,Za x2,Za x3,show ZJ x=0 by unfold ZJ;rw [hx];rfl,Za Zq,Zb,if_neg (by simp),Za ZB,Qg (by omega)]
   rfl
def Zd2 (l : List Tx) : Int:=if l.all Zp then 0 else 10
theorem Ztr {v : Value} {l : List Tx} (hl : l.length≤1000) (hs : Sl X v (l.map strv)) : R (n+6) ZaP [v] X=some (iv (Zd2 l),X):=by
 have e:=Zr1 (n:=n) hl hs l.length 0 (by omega) (by omega)
 rw [show iv ((0 : Nat) : Int)=.int .i64 0 from rfl,List.drop_zero] at e
 have hlen : Zx v X=some (iv l.length,X):=by have:=hs.len (H':=X);simpa using this
 rw [R,Zq8 rfl]
 unfold K9 Zd2
 rw [Za hlen]
 by_cases h : l.all Zp=true
 ·rw [if_pos h] at e ⊢
  rw [ZT e,ZE];rfl
 ·rw [if_neg h] at e ⊢
  rw [JJ e];rfl
def Jg (k : Tx) (ms : List Tx) (K : List Tx) : Int:=if (k :: ms).all Zp then (if k∈K then 0 else 8) else 10
theorem Zwj (h : Grp X g o G mem c) {mv : Value} {ms : List Tx} (hml : ms.length≤5)
  (hrow : ∃ w X1 v X2,bsl 1 1 (.string ⟨#[]⟩) [(0,1,strv k)] X=some (w,X1)∧app 1 16 w mv X1=some (v,X2)∧Sl X2 v ((k :: ms).map strv)∧HLe X X2) :
  ∃ X',R (n+7) Yl [pt g,strv k,mv] X=some (.tuple #[.map (if Jg k ms (ZO G)=0 then Zf k G else none),iv (Jg k ms (ZO G))],X')∧HLe X X':=by
 obtain ⟨w,X1,v,X2,e1,e2,s2,l2⟩:=hrow
 have e3 : R (n+6) ZaP [v] X2=_:=Ztr (n:=n) (l:=k :: ms) (by simp;omega) s2
 have h2:=h.hle l2
 refine ⟨X2,?_,l2⟩
 rw [R,Zkh rfl]
 unfold ZdA Jg
 rw [Za e1,Za e2,Za e3]
 unfold Zd2
 by_cases hn : (k :: ms).all Zp=true
 ·rw [if_pos hn,if_pos hn]
  have e4:=h2.mo.lkp (k:=k) (z:=.map none) (ok:=true)
  have hkey:=h2.key (k:=k)
  rw [Za Zq,Zb,if_neg (by simp),Za Zt,Za Zh,Za h2.ldo]
  cases hk : Zf k G with
  | none=>
   rw [hk] at e4 hkey
   have hnk : ¬ k∈ZO G:=by simpa using hkey.symm
   rw [if_neg hnk,if_neg (by decide)]
   simp only [cond_true] at e4
   rw [Za e4,Za Zr,Za Zs,Za ZH,Zb,if_pos (by rfl)]
   rfl
  | some id=>
   rw [hk] at e4 hkey
   have hnk : k∈ZO G:=by simpa using hkey.symm
   rw [if_pos hnk,if_pos rfl]
   simp only [cond_true] at e4
   rw [Za e4,Za Zr,Za Zs,Za ZH,Zb,if_neg (by simp)]
   rfl
 ·rw [if_neg hn,if_neg hn,Za Zq,Zb,if_pos (by rfl)]
  rfl
theorem Zrg {x : Tx} {H : Zd} : bsl 1 1 (.string ⟨#[]⟩) [(0,1,strv x)] H=some (.slice (some ⟨H.length,0,none⟩) 1 1,H++[.cells [strv x] 1 false false]):=ZzW rfl rfl rfl
theorem ZjE {x : Tx} {H : Zd} : ZA (H++[.cells [strv x] 1 false false]) (.slice (some ⟨H.length,0,none⟩) 1 1) ([x].map strv) [H.length]:=.inr ⟨H.length,[],false,rfl,rfl,by rw [Zw];rfl⟩
theorem ZBn {b : Nat} {sl : Value} {vs : List Value} {q : List Nat} (h : ZA X sl vs q) : app 1 b sl (.slice none 0 0) X=some (sl,X):=by
 rcases h with ⟨rfl,rfl,rfl⟩ | ⟨sid,rest,gr,rfl,rfl,hid⟩
 ·rfl
 ·unfold app
  simp only [QK,flen,hid,Nat.add_zero,Nat.le_add_right,if_true]
theorem Zs8 (h : Grp X g o G mem c) : ∃ X',R (n+7) Yl [pt g,strv k,.slice none 0 0] X=some (.tuple #[.map (if Jg k [] (ZO G)=0 then Zf k G else none),iv (Jg k [] (ZO G))],X')∧HLe X X':=
 Zwj h (by simp) ⟨_,_,_,_,Zrg,ZBn ZjE,ZjE.rd,.app _ _⟩
theorem ZuN (h : Grp X g o G mem c) {mv : Value} (hm : Sl X mv [strv m]) : ∃ X',R (n+7) Yl [pt g,strv k,mv] X=some (.tuple #[.map (if Jg k [m] (ZO G)=0 then Zf k G else none),iv (Jg k [m] (ZO G))],X')∧HLe X X':=by
 have l1 : HLe X (X++[.cells [strv k] 1 false false]):=.app _ _
 obtain ⟨v,X2,q,e2,r2,s2,_⟩:=(ZjE (x:=k) (H:=X)).push (b:=16) (hm.mono l1) (by simp) (by simp)
 have l2:=(l1.more s2 (by simp)).1
 exact Zwj h (by simp) ⟨_,_,_,_,Zrg,e2,r2.rd,l2⟩
theorem ZCe : ∃ X' g o,R (n+1) Zg2 [] X=some (pt g,X')∧Grp X' g o [] (fun _ _=>false) 0∧HLe X X'∧X.length≤g∧X.length≤o:=by
 obtain ⟨H1,e1,g1,l1⟩:=ZsO (α:=Nat) (enc:=Zqy) X
 have e2 : bld (.agg #[.map none]) [(0,1,.map (some X.length))] H1=some (.agg #[.map (some X.length)],H1):=by simp [↓Qa,Z9,↓QI,Qp,Qo,Ql,↓Zb,J9,Zt,Ys,Qq,JD,QA,JC,Jn,QW,JL,QX,QV,Q6,Q7,QG,Zl,ZH,YT,Yz,Jl,Ja,J5,ZB,QU,JY,J8,JZ,ZD,Zq,Zm,Je,Z0,Qj,Jt,JW,Ju,J2,↓Y8,J3,↓g_r,YS,Kg,WP,splice,Value.cells]
 have e3 : alc 1 (.agg #[.map (some X.length)]) H1=some (pt H1.length,H1++[.cells [.map (some X.length)] 1 false false]):=by
  rw [QV];simp [Value.cells,oneCell]
 refine ⟨H1++[.cells [.map (some X.length)] 1 false false],H1.length,X.length,?_,⟨Zw,g1.hle (.app _ _),by simp,by simp,by simp,by simp,by simp⟩,l1.trans (.app _ _),l1.len,Nat.le_refl _⟩
 rw [R,Ztk rfl]
 unfold Zjz
 rw [Za e1,Za e2,Za e3]
 rfl
def QT (k : Tx) (K : List Tx) : Int:=if Zp k then (if k∈K then 9 else if 6≤K.length then 7 else 0) else 10
def ZcP (k : Tx) (K : List Tx) : List Tx:=if QT k K=0 then K++[k] else K
theorem Zww (h : Grp X g o G mem c) : ∃ X' G',R (n+8) Yk [pt g,strv k] X=some (iv (QT k (ZO G)),X')∧Grp X' g o G' mem c∧ZO G'=ZcP k (ZO G)∧ZC (Jd o G) X (Jd o G') X':=by
 obtain ⟨X1,e1,l1⟩:=Zs8 (n:=n) (k:=k) h
 have h1:=h.hle l1
 have f1 : ∀ r X',YG (R (n+7)) (pt g) (strv k) X=some (r,X')→R (n+8) Yk [pt g,strv k] X=some (r,X'):=fun r X' hr=>by rw [R,Zks rfl];exact hr
 have same : ∀ e,QT k (ZO G)=e→e≠0→(YG (R (n+7)) (pt g) (strv k) X=some (iv e,X1))→∃ X' G',R (n+8) Yk [pt g,strv k] X=some (iv (QT k (ZO G)),X')∧Grp X' g o G' mem c∧ZO G'=ZcP k (ZO G)∧ZC (Jd o G) X (Jd o G') X':=fun e he hne hr=>by
  refine ⟨X1,G,by rw [he];exact f1 _ _ hr,h1,?_,l1.stepq⟩
  unfold ZcP;rw [if_neg (by rw [he];exact hne)]
 cases hn : Zp k
 ·have hE : QT k (ZO G)=10:=by unfold QT;rw [hn];rfl
  have hF : Jg k [] (ZO G)=10:=by unfold Jg;simp [hn]
  rw [hF] at e1
  refine same _ hE (by decide) ?_
  unfold YG
  rw [Za e1,Za Zr,Za Zs,Za ZD,Zb,if_neg (by decide),Za Zq,Zb,if_pos (by decide)]
  rfl
 ·by_cases hk : k∈ZO G
  ·have hE : QT k (ZO G)=9:=by unfold QT;rw [hn,if_pos rfl,if_pos hk]
   have hF : Jg k [] (ZO G)=0:=by unfold Jg;simp [hn,hk]
   rw [hF] at e1
   refine same _ hE (by decide) ?_
   unfold YG
   rw [Za e1,Za Zr,Za Zs,Za ZD,Zb,if_pos (by decide)]
   rfl
  ·have hF : Jg k [] (ZO G)=8:=by unfold Jg;simp [hn,hk]
   rw [hF] at e1
   have hkl : (ZO G).length=G.length:=by simp
   by_cases hl : 6≤(ZO G).length
   ·have hE : QT k (ZO G)=7:=by unfold QT;rw [hn,if_pos rfl,if_neg hk,if_pos hl]
    refine same _ hE (by decide) ?_
    unfold YG
    rw [Za e1,Za Zr,Za Zs,Za ZD,Zb,if_neg (by decide),Za Zq,Zb,if_neg (by decide),Za Zt,Za Zh,Za h1.ldo,Za h1.mo.len,Za Qj,Zb,if_pos (by simp;omega)]
    rfl
   ·have hE : QT k (ZO G)=0:=by unfold QT;rw [hn,if_pos rfl,if_neg hk,if_neg hl]
    obtain ⟨X2,e2,m2,l2⟩:=ZsO (α:=Unit) (enc:=Zpv) X1
    have h2:=h1.hle l2
    have hkn : Zf k G=none:=by
     have:=h.key (k:=k)
     cases ha : Zf k G with
     | none=>rfl
     | some v=>rw [ha] at this;exact absurd (by simpa using this.symm) hk
    obtain ⟨X3,e3,m3,s3,len3⟩:=h2.mo.mup (k:=k) (v:=X1.length)
    have ha : Qw k X1.length G=G++[(k,X1.length)]:=by unfold Qw;rw [hkn];rfl
    rw [ha] at m3
    have hlt : ∀ j∈Jd o G,j < X1.length:=fun j hj=>(h1.isMap hj).1
    refine ⟨X3,G++[(k,X1.length)],?_,?_,?_,?_⟩
    ·rw [hE]
     refine f1 _ _ ?_
     unfold YG
     rw [Za e1,Za Zr,Za Zs,Za ZD,Zb,if_neg (by decide),Za Zq,Zb,if_neg (by decide),Za Zt,Za Zh,Za h1.ldo,Za h1.mo.len,Za Qj,Zb,if_neg (by simp;omega),Za Zt,Za Zh,Za h1.ldo,Za e2,Za e3]
     rfl
    ·have hgo : g≠o:=fun e=>h.gnot (by rw [e];simp)
     have hoid : ∀ p∈G,p.2≠o:=fun p hp e=>by
      have:=h.nod
      simp only [List.nodup_cons] at this
      exact this.1 (List.mem_map.2 ⟨p,hp,e⟩)
     refine ⟨s3.get h2.cell (by simpa using hgo),m3,fun p hp=>?_,fun k' n' hk'=>?_,?_,fun p hp=>?_,by simp;omega⟩
     ·rcases List.mem_append.1 hp with hp | hp
      ·obtain ⟨S,h5,h6⟩:=h2.ms p hp
       exact ⟨S,h5.step s3 (by simpa using hoid p hp),h6⟩
      ·have : p=(k,X1.length):=by simpa using hp
       subst this
       refine ⟨[],m2.step s3 (by have:=hlt o (by simp);simp;omega),fun n'=>?_,Nat.zero_le _,by simp⟩
       cases hb : mem k n' with
       | false=>rfl
       | true=>have:=h.out k n' hb;rw [hkn] at this;cases this
     ·rw [ZfK]
      have:=h.out k' n' hk'
      cases hg : Zf k' G with
      | none=>rw [hg] at this;cases this
      | some v=>rfl
     ·have : Jd o (G++[(k,X1.length)])=Jd o G++[X1.length]:=by simp
      rw [this,List.nodup_append]
      refine ⟨h.nod,by simp,fun a ha b hb e=>?_⟩
      have:=hlt a ha
      have hb : b=X1.length:=by simpa using hb
      omega
     ·rcases List.mem_append.1 hp with hp | hp
      ·exact h.ok p hp
      ·have : p=(k,X1.length):=by simpa using hp
       subst this;exact hn
    ·unfold ZcP;rw [if_pos hE];simp
    ·have s:=(l1.trans l2).stepq (q:=Jd o G)
     have s:=s.trans (s3.more (o2:=Jd o G) (o2':=Jd o G) (by simp) (fun j hj=>.inl hj))
     refine ⟨s.len,s.keep,fun j hj=>?_⟩
     ·have : Jd o (G++[(k,X1.length)])=Jd o G++[X1.length]:=by simp
      rw [this] at hj
      rcases List.mem_append.1 hj with hj | hj
      ·exact .inl hj
      ·have hj : j=X1.length:=by simpa using hj
       exact .inr (by rw [hj];exact l1.len)
def Q1 (k : Tx) (K : List Tx) : Int:=if Zp k then (if k∈K then 0 else 8) else 10
def Zch (k : Tx) (K : List Tx) : List Tx:=if Q1 k K=0 then K.filter (fun x=>decide (x≠k)) else K
def Zbc (k : Tx) (mem : Mem) : Mem:=fun k' n=>mem k' n && !(k'==k)
theorem Zzl {k : Tx} {K : List Tx} : Jg k [] K=Q1 k K:=by unfold Jg Q1;simp
theorem ZBJ (h : Grp X g o G mem c) : ∃ X' G',R (n+8) Wi [pt g,strv k] X=some (iv (Q1 k (ZO G)),X')∧Grp X' g o G' (if Q1 k (ZO G)=0 then Zbc k mem else mem) c∧ZO G'=Zch k (ZO G)∧ZC (Jd o G) X (Jd o G') X':=by
 obtain ⟨X1,e1,l1⟩:=Zs8 (n:=n) (k:=k) h
 rw [Zzl] at e1
 have h1:=h.hle l1
 have f1 : ∀ r X',W8 (R (n+7)) (pt g) (strv k) X=some (r,X')→R (n+8) Wi [pt g,strv k] X=some (r,X'):=fun r X' hr=>by rw [R,Zkf rfl];exact hr
 by_cases hE : Q1 k (ZO G)=0
 ·rw [hE] at e1 ⊢
  obtain ⟨X2,e2,m2,s2,_⟩:=h1.mo.mde (k:=k)
  have hgo : g≠o:=fun e=>h.gnot (by rw [e];simp)
  have hoid : ∀ p∈G,p.2≠o:=fun p hp e=>by
   have:=h.nod
   simp only [List.nodup_cons] at this
   exact this.1 (List.mem_map.2 ⟨p,hp,e⟩)
  have hsub : (Yg k G).Sublist G:=List.filter_sublist
  refine ⟨X2,Yg k G,f1 _ _ ?_,?_,?_,?_⟩
  ·unfold W8
   rw [Za e1,Za Zr,Za Zs,Za ZD]
   refine (ZZ (vs:=[iv 0]) (H':=X2) ?_).trans ?_
   ·rw [Zb,if_pos (by rfl),Za Zt,Za Zh,Za h1.ldo,Za e2];rfl
   ·rfl
  ·rw [if_pos rfl]
   refine ⟨s2.get h1.cell (by simpa using hgo),m2,fun p hp=>?_,fun k' n' hk'=>?_,?_,fun p hp=>h.ok p (hsub.subset hp),Nat.le_trans hsub.length_le h.few⟩
   ·obtain ⟨S,h5,h6,h7⟩:=h1.ms p (hsub.subset hp)
    have hpk : p.1≠k:=by simpa [Yg] using (List.mem_filter.1 hp).2
    refine ⟨S,h5.step s2 (by simpa using hoid p (hsub.subset hp)),fun n'=>?_,h7⟩
    rw [h6];unfold Zbc;simp [hpk]
   ·unfold Zbc at hk'
    simp only [Bool.and_eq_true,Bool.not_eq_true',beq_eq_false_iff_ne] at hk'
    rw [JK hk'.2];exact h.out k' n' hk'.1
   ·exact ((hsub.map (·.2)).cons_cons o).nodup h.nod
  ·unfold Zch;rw [if_pos hE]
   unfold Yg ZO
   rw [List.filter_map];rfl
  ·have s:=l1.stepq (q:=Jd o G)
   have s:=s.trans (s2.more (o2:=Jd o G) (o2':=Jd o G) (by simp) (fun j hj=>.inl hj))
   refine ⟨s.len,s.keep,fun j hj=>.inl ?_⟩
   exact ((hsub.map (·.2)).cons_cons o).subset hj
 ·refine ⟨X1,G,f1 _ _ ?_,by rw [if_neg hE];exact h1,by unfold Zch;rw [if_neg hE],l1.stepq⟩
  unfold W8
  rw [Za e1,Za Zr,Za Zs,Za ZD]
  refine (ZZ (vs:=[iv (Q1 k (ZO G))]) (H':=X1) ?_).trans ?_
  ·rw [Zb,if_neg (by simpa using hE)];rfl
  ·rfl
end
end Go.Proofs.YtedkoimihknggaaGreatDoor.A
namespace Go.Proofs.YtedkoimihknggaaGreatDoor.A
set_option linter.unusedVariables false
set_option linter.unusedSimpArgs false
open Go.Proofs Go.Proofs.YtedkoimihknggaaGreatDoor
theorem Zjf {α : Type} {k : Tx} {v : α} {m : List (Tx × α)} {q : Tx × α} (h : q∈Qw k v m) : q=(k,v)∨q∈m:=by
 unfold Qw at h
 split at h
 ·obtain ⟨p,hp,rfl⟩:=List.mem_map.1 h
  by_cases e : p.1=k
  ·rw [if_pos e];exact .inl rfl
  ·rw [if_neg e];exact .inr hp
 ·rcases List.mem_append.1 h with h | h
  ·exact .inr h
  ·exact .inl (by simpa using h)
section
variable {X X' : Zd} {n g o c c' : Nat} {G : Zc8} {mem mem' : Mem} {k m s t : Tx}
def ZaG (k m : Tx) (K : List Tx) (mem : Mem) : Int:=if Jg k [m] K=0 then (if mem k m then 9 else 0) else Jg k [m] K
def Zcj (k m : Tx) (K : List Tx) (mem : Mem) : Int:=if Jg k [m] K=0 then (if mem k m then 0 else 12) else Jg k [m] K
def Zcn (k m : Tx) (mem : Mem) : Mem:=fun k' n=>mem k' n || (k'==k && n==m)
def ZdU (k m : Tx) (mem : Mem) : Mem:=fun k' n=>mem k' n && !(k'==k && n==m)
theorem ZgW {k m : Tx} {K : List Tx} (h : Jg k [m] K=0) : Zp k=true∧Zp m=true∧k∈K:=by
 unfold Jg at h
 by_cases h1 : (k :: [m]).all Zp=true
 ·rw [if_pos h1] at h
  simp only [List.all_cons,List.all_nil,Bool.and_true,Bool.and_eq_true] at h1
  by_cases h2 : k∈K
  ·exact ⟨h1.1,h1.2,h2⟩
  ·rw [if_neg h2] at h;cases h
 ·rw [if_neg h1] at h;cases h
theorem ZBU {H : Zd} : bld (.agg #[]) [] H=some (.agg #[],H):=by simp [↓Qa,Z9,↓QI,Qp,Qo,Ql,↓Zb,J9,Zt,Ys,Qq,JD,QA,JC,Jn,QW,JL,QX,QV,Q6,Q7,QG,Zl,ZH,YT,Yz,Jl,Ja,J5,ZB,QU,JY,J8,JZ,ZD,Zq,Zm,Je,Z0,Qj,Jt,JW,Ju,J2,↓Y8,J3,↓g_r,YS,Kg,WP,splice,Value.cells]
theorem Grp.has (h : Grp X g o G mem c) (hk : k∈ZO G) : ∃ id,Zf k G=some id:=by
 have:=h.key (k:=k)
 cases ha : Zf k G with
 | none=>rw [ha] at this;exact absurd hk (by simpa using this.symm)
 | some v=>exact ⟨v,rfl⟩
theorem Zwn (h : Grp X g o G mem c) : ∃ X',R (n+8) YI [pt g,strv k,strv m] X=some (iv (ZaG k m (ZO G) mem),X')∧Grp X' g o G (if ZaG k m (ZO G) mem=0 then Zcn k m mem else mem) (c+1)∧ZC (Jd o G) X (Jd o G) X':=by
 have l0 : HLe X (X++[.cells [strv m] 1 false false]):=.app _ _
 have s0:=(ZjE (x:=m) (H:=X)).rd
 have e0:=Zrg (x:=m) (H:=X)
 generalize X++[Ze.cells [strv m] 1 false false]=X0 at l0 s0 e0
 obtain ⟨X1,e1,l1⟩:=ZuN (n:=n) (k:=k) (m:=m) (h.hle l0) s0
 have l01:=l0.trans l1
 have h1:=h.hle l01
 have f1 : ∀ r X',Wo (R (n+7)) (pt g) (strv k) (strv m) X=some (r,X')→R (n+8) YI [pt g,strv k,strv m] X=some (r,X'):=fun r X' hr=>by rw [R,Zkz rfl];exact hr
 unfold ZaG
 by_cases hE : Jg k [m] (ZO G)=0
 ·rw [hE] at e1 ⊢
  rw [if_pos rfl] at e1 ⊢
  obtain ⟨b1,b2,b3⟩:=ZgW hE
  obtain ⟨id,hid⟩:=h.has b3
  rw [hid] at e1
  obtain ⟨S,m1,m2,m3,m4⟩:=h1.set hid
  have e2:=m1.lkp (k:=m) (z:=.agg #[]) (ok:=true)
  have l2 : HLe X1 (X1++[.cells [] 1 false false]):=.app _ _
  have hbox:=fun {K : Value→M Value}=>WZ (k:=K) (zs:=[]) (r:=[]) (n:=0) (H:=X1) rfl rfl rfl rfl
  have h2:=h1.hle l2
  have m1:=m1.hle l2
  generalize X1++[Ze.cells [] 1 false false]=X2 at hbox l2 h2 m1
  have hmm:=m2 m
  cases hg : Zf m S with
  | some u=>
   rw [hg] at hmm e2
   have hmm : mem k m=true:=hmm.symm
   rw [if_pos hmm,if_neg (by decide)]
   refine ⟨X2,f1 _ _ ?_,h2.more (Nat.le_succ _) (fun _ _=>rfl),(l01.trans l2).stepq⟩
   unfold Wo
   simp only [cond_true] at e2
   rw [Za e0,Za e1,Za Zr,Za Zs,Za Zq,Zb,if_neg (by decide),Za e2,Za Zr,Za Zs]
   refine hbox.trans ?_
   rw [Zb,if_pos rfl]
   rfl
  | none=>
   rw [hg] at hmm e2
   have hmm : mem k m=false:=hmm.symm
   rw [if_neg (by simp [hmm]),if_pos rfl]
   simp only [cond_true] at e2
   obtain ⟨X3,e3,m5,s3,_⟩:=m1.mup (k:=m) (v:=())
   have hlen : (Qw m () S).length≤c+1:=by rw [Zfr,hg];simp;omega
   refine ⟨X3,f1 _ _ ?_,h2.upd hid m5 s3 (fun q hq=>?_) hlen (Nat.le_succ _) (fun k' n'=>?_),(l01.trans l2).stepq.trans (h2.step1 hid s3)⟩
   ·unfold Wo
    rw [Za e0,Za e1,Za Zr,Za Zs,Za Zq,Zb,if_neg (by decide),Za e2,Za Zr,Za Zs]
    refine hbox.trans ?_
    rw [Zb,if_neg (by simp),Za ZBU,Za e3]
    rfl
   ·rcases Zjf hq with rfl | hq
    ·exact b2
    ·exact m4 q hq
   ·unfold Zcn
    by_cases hk : k'=k
    ·subst hk
     rw [if_pos rfl]
     by_cases hn : n'=m
     ·subst hn;rw [KT];simp
     ·rw [YA hn,m2];simp [hn]
    ·rw [if_neg hk];simp [hk]
 ·rw [if_neg hE,if_neg hE]
  refine ⟨X1,f1 _ _ ?_,h1.more (Nat.le_succ _) (fun _ _=>rfl),l01.stepq⟩
  unfold Wo
  rw [Za e0,Za e1,Za Zr,Za Zs,Za Zq,Zb,if_pos (by simpa using hE)]
  rfl
theorem Zzs (h : Grp X g o G mem c) : ∃ X',R (n+8) KX [pt g,strv k,strv m] X=some (iv (Zcj k m (ZO G) mem),X')∧Grp X' g o G (if Zcj k m (ZO G) mem=0 then ZdU k m mem else mem) (c+1)∧ZC (Jd o G) X (Jd o G) X':=by
 have l0 : HLe X (X++[.cells [strv m] 1 false false]):=.app _ _
 have s0:=(ZjE (x:=m) (H:=X)).rd
 have e0:=Zrg (x:=m) (H:=X)
 generalize X++[Ze.cells [strv m] 1 false false]=X0 at l0 s0 e0
 obtain ⟨X1,e1,l1⟩:=ZuN (n:=n) (k:=k) (m:=m) (h.hle l0) s0
 have l01:=l0.trans l1
 have h1:=h.hle l01
 have f1 : ∀ r X',KQ (R (n+7)) (pt g) (strv k) (strv m) X=some (r,X')→R (n+8) KX [pt g,strv k,strv m] X=some (r,X'):=fun r X' hr=>by rw [R,Zjc rfl];exact hr
 unfold Zcj
 by_cases hE : Jg k [m] (ZO G)=0
 ·rw [hE] at e1 ⊢
  rw [if_pos rfl] at e1 ⊢
  obtain ⟨b1,b2,b3⟩:=ZgW hE
  obtain ⟨id,hid⟩:=h.has b3
  rw [hid] at e1
  obtain ⟨S,m1,m2,m3,m4⟩:=h1.set hid
  have e2:=m1.lkp (k:=m) (z:=.agg #[]) (ok:=true)
  have l2 : HLe X1 (X1++[.cells [] 1 false false]):=.app _ _
  have hbox:=fun {K : Value→M Value}=>WZ (k:=K) (zs:=[]) (r:=[]) (n:=0) (H:=X1) rfl rfl rfl rfl
  have h2:=h1.hle l2
  have m1:=m1.hle l2
  generalize X1++[Ze.cells [] 1 false false]=X2 at hbox l2 h2 m1
  have hmm:=m2 m
  cases hg : Zf m S with
  | some u=>
   rw [hg] at hmm e2
   have hmm : mem k m=true:=hmm.symm
   rw [if_pos hmm,if_pos rfl]
   simp only [cond_true] at e2
   obtain ⟨X3,e3,m5,s3,_⟩:=m1.mde (k:=m)
   have hsub : (Yg m S).Sublist S:=List.filter_sublist
   refine ⟨X3,f1 _ _ ?_,h2.upd hid m5 s3 (fun q hq=>m4 q (hsub.subset hq)) (Nat.le_trans hsub.length_le (Nat.le_trans m3 (Nat.le_succ _))) (Nat.le_succ _) (fun k' n'=>?_),(l01.trans l2).stepq.trans (h2.step1 hid s3)⟩
   ·unfold KQ
    rw [Za e0,Za e1,Za Zr,Za Zs,Za Zq,Zb,if_neg (by decide),Za e2,Za Zr,Za Zs]
    refine hbox.trans ?_
    rw [Za ZH,Zb,if_neg (by simp),Za e3]
    rfl
   ·unfold ZdU
    by_cases hk : k'=k
    ·subst hk
     rw [if_pos rfl]
     by_cases hn : n'=m
     ·subst hn;rw [Zar];simp
     ·rw [JK hn,m2];simp [hn]
    ·rw [if_neg hk];simp [hk]
  | none=>
   rw [hg] at hmm e2
   have hmm : mem k m=false:=hmm.symm
   rw [if_neg (by simp [hmm]),if_neg (by decide)]
   refine ⟨X2,f1 _ _ ?_,h2.more (Nat.le_succ _) (fun _ _=>rfl),(l01.trans l2).stepq⟩
   unfold KQ
   simp only [cond_true] at e2
   rw [Za e0,Za e1,Za Zr,Za Zs,Za Zq,Zb,if_neg (by decide),Za e2,Za Zr,Za Zs]
   refine hbox.trans ?_
   rw [Za ZH,Zb,if_pos (by rfl)]
   rfl
 ·rw [if_neg hE,if_neg hE]
  refine ⟨X1,f1 _ _ ?_,h1.more (Nat.le_succ _) (fun _ _=>rfl),l01.stepq⟩
  unfold KQ
  rw [Za e0,Za e1,Za Zr,Za Zs,Za Zq,Zb,if_pos (by simpa using hE)]
  rfl
theorem ZxI (h : Grp X g o G mem c) : ∃ v q X',R (n+3) KN [pt g] X=some (v,X')∧ZA X' v ((Qx (ZO G)).map strv) q∧HLe X X'∧∀ j∈q,X.length≤j:=by
 have e1 : R (n+1) Jm [.map (some o)] X=some (.func (.func Yn) #[] #[pt X.length],X++[.cells [.map (some o)] 1 false false]):=by
  rw [R,ZbI rfl]
  unfold Yr
  rw [Za (ZoV rfl rfl _)]
  rfl
 have l1 : HLe X (X++[.cells [.map (some o)] 1 false false]):=.app _ _
 obtain ⟨v,q,X2,e2,r2,l2,o2⟩:=(h.mo.hle l1).keys (gks:=Zhu) (gc:=Qv) (gk:=Yn) (c:=X.length) (by decide) Zw (Nat.le_trans h.few (by decide)) (fun p hp=>Nat.le_trans (ZaU (h.ok p hp)) (by decide))
 have e2' : R (n+1) QS [.func (.func Yn) #[] #[pt X.length],.func (.func Qv) #[] #[]] (X++[.cells [.map (some o)] 1 false false])=some (v,X2):=by
  rw [R,Zcl (show np QS=some (ZdO Zhu Qv) from rfl)]
  exact e2
 have e3 : R (n+2) WX [.map (some o)] X=some (v,X2):=by
  rw [R,ZhE rfl]
  unfold ZbQ
  rw [Za e1,Za e2']
  rfl
 refine ⟨v,q,X2,?_,r2,l1.trans l2,fun j hj=>Nat.le_trans l1.len (o2 j hj)⟩
 rw [R,Zmh rfl]
 unfold Zec
 rw [Za Zt,Za Zh,Za h.ldo,Za e3]
 rfl
theorem Zat {l : List Tx} : (Qx l).length=l.length:=List.length_mergeSort l
def ofL (m : Tx) (K : List Tx) (mem : Mem) : List Tx:=(Qx K).filter fun k=>mem k m
theorem Zcu {K : List Tx} (hn : K.Nodup) : Is (ofL m K mem) (fun k=>k∈K∧mem k m=true):=⟨(Zh1 hn).filter _,fun x=>by unfold ofL;rw [List.mem_filter,Zbq]⟩
theorem ZfB {K : List Tx} : (ofL m K mem).length≤K.length:=by
 unfold ofL
 have:=List.length_filter_le (fun k=>mem k m) (Qx K)
 rwa [Zat] at this
theorem ZCx {b1 b2 : Nat} (h : Grp X g o G mem c) (h1 : X[b1]?=some (.cells [pt g] 1 false false)) (h2 : X[b2]?=some (.cells [strv m] 1 false false)) (hk : k∈ZO G) :
  ∃ X',R (n+1) KM [strv k,pt b1,pt b2] X=some (.bool (!mem k m),X')∧HLe X X':=by
 obtain ⟨id,hid⟩:=h.has hk
 obtain ⟨S,m1,m2,m3,m4⟩:=h.set hid
 have e2 : lkp .str (.map none) false (.map (some o)) (strv k) X=some (.map (some id),X):=by rw [h.mo.lkp,hid];rfl
 have e3 : lkp .str (.agg #[]) true (.map (some id)) (strv m) X=some (.tuple #[.agg #[],.bool (mem k m)],X):=by
  rw [m1.lkp,← m2 m]
  cases Zf m S <;> rfl
 have l2 : HLe X (X++[.cells [] 1 false false]):=.app _ _
 have e4 : alc 1 (.agg #[]) X=some (pt X.length,X++[.cells [] 1 false false]):=Wd (vs:=[]) rfl
 have a4 : (X++[Ze.cells [] 1 false false])[X.length]?=some (.cells [] 1 false false):=Zw
 have e5 : stA 0 (pt X.length) (.agg #[]) (X++[Ze.cells [] 1 false false])=some (undef,(X++[Ze.cells [] 1 false false]).set X.length (.cells [] 1 false false)):=Kv (vs:=[]) a4 rfl rfl rfl
 rw [ZBm] at e5
 have h':=h.hle l2
 have m1':=m1.hle l2
 have b1':=l2 _ _ h1
 have b2':=l2 _ _ h2
 generalize X++[Ze.cells [] 1 false false]=X2 at l2 e4 e5 h' m1' b1' b2'
 have e2' : lkp .str (.map none) false (.map (some o)) (strv k) X2=some (.map (some id),X2):=by rw [h'.mo.lkp,hid];rfl
 have e3' : lkp .str (.agg #[]) true (.map (some id)) (strv m) X2=some (.tuple #[.agg #[],.bool (mem k m)],X2):=by
  rw [m1'.lkp,← m2 m]
  cases Zf m S <;> rfl
 refine ⟨X2,?_,l2⟩
 rw [R,Zk5 rfl]
 unfold Zd6
 rw [Za (Zft h1),Za Zt,Za Zh,Za h.ldo,Za e2,Za (Zft h2),Za e3,Za Zr,Za Zs,Za e4,Za e3',QY,Za (Zft b2'),QY,Za e2',QY]
 refine (Za h'.ldo).trans ?_
 rw [QY,Za (Zft b1'),QY,Za e5,Za ZH]
 rfl
theorem ZsX (h : Grp X g o G mem c) : ∃ v q X',R (n+4) J6 [pt g,strv m] X=some (v,X')∧ZA X' v ((ofL m (ZO G) mem).map strv) q∧HLe X X'∧∀ j∈q,X.length≤j:=by
 have e1:=ZoV (v:=pt g) rfl rfl X
 have l1 : HLe X (X++[Ze.cells [pt g] 1 false false]):=.app _ _
 have c1 : (X++[Ze.cells [pt g] 1 false false])[X.length]?=some (.cells [pt g] 1 false false):=Zw
 generalize X++[Ze.cells [pt g] 1 false false]=X1 at e1 l1 c1
 have e2:=ZoV (v:=strv m) rfl rfl X1
 have l2 : HLe X1 (X1++[Ze.cells [strv m] 1 false false]):=.app _ _
 have c2 : (X1++[Ze.cells [strv m] 1 false false])[X1.length]?=some (.cells [strv m] 1 false false):=Zw
 generalize X1++[Ze.cells [strv m] 1 false false]=X2 at e2 l2 c2
 have c1:=l2 _ _ c1
 have h2:=h.hle (l1.trans l2)
 obtain ⟨v,q,X3,e3,r3,l3,o3⟩:=ZxI (n:=n) h2
 have e3 : R (n+3) KN [pt g] X2=_:=e3
 have l123:=(l1.trans l2).trans l3
 have hq : ∀ j∈q,j∉Jd o G∧j≠g∧j≠X.length∧j≠X1.length:=fun j hj=>by
  have:=o3 j hj
  have a1:=QD c1
  have a2:=QD c2
  have a3:=h2.glt
  exact ⟨fun hm=>by have:=(h2.isMap hm).1;omega,by omega,by omega,by omega⟩
 have hkeep : ∀ Y Y',(Grp Y g o G mem c∧Y[X.length]?=some (.cells [pt g] 1 false false)∧Y[X1.length]?=some (.cells [strv m] 1 false false))→ZC q Y q Y'→(Grp Y' g o G mem c∧Y'[X.length]?=some (.cells [pt g] 1 false false)∧Y'[X1.length]?=some (.cells [strv m] 1 false false)):=fun Y Y' ⟨a1,a2,a3⟩ hs=>
  ⟨a1.step hs (fun hm=>(hq g hm).2.1 rfl) (fun j hj hm=>(hq j hm).1 hj),hs.get a2 (fun hm=>(hq _ hm).2.2.1 rfl),hs.get a3 (fun hm=>(hq _ hm).2.2.2 rfl)⟩
 have hf : ∀ i Y,(Grp Y g o G mem c∧Y[X.length]?=some (.cells [pt g] 1 false false)∧Y[X1.length]?=some (.cells [strv m] 1 false false))→∀ s∈Qx (ZO G),∃ Y',Jv (R (i+1)) (.func (.func KM) #[] #[pt X.length,pt X1.length]) [strv s] Y=some (.bool (!mem s m),Y')∧HLe Y Y':=fun i Y ⟨a1,a2,a3⟩ s hs=>by
  obtain ⟨Y',e,l⟩:=ZCx (n:=i) a1 a2 a3 (Zbq.1 hs)
  refine ⟨Y',?_,l⟩
  have:=ZCi (n:=i+1) (g:=KM) (bs:=[pt X.length,pt X1.length]) (args:=[strv s])
  exact (congrFun this Y).trans e
 obtain ⟨X4,v',e4,r4,s4⟩:=Zsn (n:=n+1) (p:=fun s=>!mem s m) (f:=.func (.func KM) #[] #[pt X.length,pt X1.length]) (Q:=fun Y=>Grp Y g o G mem c∧Y[X.length]?=some (.cells [pt g] 1 false false)∧Y[X1.length]?=some (.cells [strv m] 1 false false)) r3 (by rw [Zat];have:=h.few;simp;omega) hkeep (hf n) (hf (n+1)) ⟨h2.hle l3,l3 _ _ c1,l3 _ _ c2⟩
 have e4 : R (n+3) Jf [v,.func (.func KM) #[] #[pt X.length,pt X1.length]] X3=_:=e4
 have hm:=l123.more s4 (fun j hj=>Nat.le_trans (l1.trans l2).len (o3 j hj))
 refine ⟨v',q,X4,?_,by simpa [ofL] using r4,hm.1,hm.2⟩
 rw [R,Zm0 rfl]
 unfold ZeK
 rw [Za e1,Za e2,Za (Zft c1),Za e3,Za e4]
 rfl
end
end Go.Proofs.YtedkoimihknggaaGreatDoor.A
namespace Go.Proofs.YtedkoimihknggaaGreatDoor.A
set_option linter.unusedVariables false
set_option linter.unusedSimpArgs false
open Go.Proofs Go.Proofs.YtedkoimihknggaaGreatDoor
section
variable {X X' : Zd} {n g o c c' : Nat} {G : Zc8} {mem mem' : Mem} {k m s t : Tx}
theorem ZA.grp {v : Value} {vs : List Value} {q S' : List Nat} (h : ZA X v vs q) (hG : Grp X g o G mem c) (hs : ZC (Jd o G) X S' X') : ZA X' v vs q:=by
 refine h.step hs fun j hj hm=>?_
 rcases h with ⟨_,rfl,_⟩ | ⟨sid,rest,gr,_,rfl,hid⟩
 ·cases hj
 ·have hj : j=sid:=by simpa using hj
  subst hj
  exact (hG.isMap hm).2 _ _ _ _ hid
def ZiN (s t : Tx) (K : List Tx) (mem : Mem) : Int:=if Zp t then (if s=t then 0 else if ofL t K mem=[] then 0 else 9) else 10
def Zbs (s t : Tx) (mem : Mem) : Mem:=fun k n=>if mem k s then (n==t || (mem k n && !(n==s))) else mem k n
def Ze8 (m : Tx) (mem : Mem) : Mem:=fun k n=>mem k n && !(n==m)
def Zie (s t : Tx) (l : List Tx) (mem : Mem) (j : Nat) : Mem:=fun k n=>if k∈l.take j then (n==t || (mem k n && !(n==s))) else mem k n
def Zi7 (m : Tx) (l : List Tx) (mem : Mem) (j : Nat) : Mem:=fun k n=>if k∈l.take j then mem k n && !(n==m) else mem k n
theorem Zem {l : List Tx} {j : Nat} {x k : Tx} (hx : l[j]?=some x) : k∈l.take (j+1)↔k∈l.take j∨k=x:=by
 rw [List.take_add_one,hx];simp
theorem Ztj {l : List Tx} {j : Nat} {x : Tx} (hn : l.Nodup) (hx : l[j]?=some x) : x∉l.take j:=fun hm=>by
 obtain ⟨i,hi⟩:=List.getElem?_of_mem hm
 rw [List.getElem?_take] at hi
 split at hi
 ·rename_i hij
  obtain ⟨h1,h2⟩:=List.getElem?_eq_some_iff.1 hi
  obtain ⟨h3,h4⟩:=List.getElem?_eq_some_iff.1 hx
  exact List.pairwise_iff_getElem.1 hn i j h1 h3 hij (h2.trans h4.symm)
 ·cases hi
theorem Zx1 {v : Value} {q : List Nat} {l : List Tx} (hl : l.length≤1000) (hn : l.Nodup) (hK : ∀ x∈l,x∈ZO G∧mem x s=true) : ∀ (r j : Nat) (X : Zd),l.length - j=r→j≤l.length→Grp X g o G (Zie s t l mem j) c→Zp t=true→ZA X v (l.map strv) q→
  ∃ X',Zi (c6 (QM.l1 (R n))) [pt g,strv s,strv t,v,iv l.length,iv j] X=some (.ext 0 [],X')∧Grp X' g o G (Zie s t l mem l.length) c∧ZC (Jd o G) X (Jd o G) X'
 | 0,j,X,hr,hj,h,ht,hrow=>by
  have : j=l.length:=by omega
  subst this
  refine ⟨X,ZK ?_,h,.refl _ _⟩
  rw [Jy]
  unfold QM.l1
  rw [Za Zm,Zb,if_neg (by simp)]
  rfl
 | r+1,j,X,hr,hj,h,ht,hrow=>by
  have hkl : j < l.length:=by omega
  have hlt : (j : Int) < l.length:=by omega
  have hg:=List.getElem?_eq_getElem hkl
  have hmm:=List.getElem_mem hkl
  generalize l[j]=k at hg hmm
  obtain ⟨hkK,hks⟩:=hK k hmm
  have hnot:=Ztj hn hg
  have x1:=hrow.ix (i:=j) (by simpa using hkl) .i64 X
  have x2:=hrow.ldx (Yt hg)
  obtain ⟨id,hid⟩:=h.has hkK
  obtain ⟨S,m1,m2,m3,m4⟩:=h.set hid
  have hmk : ∀ n',(Zf n' S).isSome=mem k n':=fun n'=>by rw [m2 n'];unfold Zie;rw [if_neg hnot]
  have e2 : lkp .str (.map none) false (.map (some o)) (strv k) X=some (.map (some id),X):=by rw [h.mo.lkp,hid];rfl
  obtain ⟨X1,e3,m5,s3,_⟩:=m1.mde (k:=s)
  have hsub : (Yg s S).Sublist S:=List.filter_sublist
  have h1:=h.upd (mem':=fun k' n'=>if k'=k then (Zf n' (Yg s S)).isSome else Zie s t l mem j k' n') hid m5 s3 (fun q hq=>m4 q (hsub.subset hq)) (Nat.le_trans hsub.length_le m3) (Nat.le_refl _) (fun _ _=>rfl)
  have e4 : lkp .str (.map none) false (.map (some o)) (strv k) X1=some (.map (some id),X1):=by rw [h1.mo.lkp,hid];rfl
  obtain ⟨X2,e5,m6,s5,_⟩:=m5.mup (k:=t) (v:=())
  have hsS : (Zf s S).isSome=true:=by rw [hmk];exact hks
  have hpos : 0 < S.length:=by
   cases hS : S with
   | nil=>rw [hS] at hsS;cases hsS
   | cons a b=>simp
  have hlen : (Qw t () (Yg s S)).length≤c:=by
   rw [Zfr]
   have:=Zow m1.nod hsS
   split <;> omega
  have h2:=h1.upd (mem':=Zie s t l mem (j+1)) hid m6 s5 (fun q hq=>by
   rcases Zjf hq with rfl | hq
   ·exact ht
   ·exact m4 q (hsub.subset hq)) hlen (Nat.le_refl _) (fun k' n'=>by
   by_cases hk : k'=k
   ·subst hk
    rw [if_pos rfl]
    unfold Zie
    rw [if_pos ((Zem hg).2 (.inr rfl))]
    by_cases hnt : n'=t
    ·subst hnt;rw [KT];simp
    ·rw [YA hnt]
     by_cases hns : n'=s
     ·subst hns;rw [Zar];simp [hnt]
     ·rw [JK hns,hmk,beq_eq_false_iff_ne.2 hnt,beq_eq_false_iff_ne.2 hns];simp
   ·rw [if_neg hk,if_neg hk]
    unfold Zie
    by_cases hin : k'∈l.take j
    ·rw [if_pos hin,if_pos ((Zem hg).2 (.inl hin))]
    ·rw [if_neg hin,if_neg fun h=>(Zem hg).1 h |>.elim hin hk])
  have st:=(h.step1 hid s3).trans (h1.step1 hid s5)
  obtain ⟨X3,e6,h3,s6⟩:=Zx1 hl hn hK r (j+1) X2 (by omega) (by omega) h2 ht (hrow.grp h st)
  refine ⟨X3,(Zy ?_).trans e6,h3,st.trans s6⟩
  rw [Jy]
  unfold QM.l1
  rw [Za Zm,Zb,if_pos (by simpa using hlt),Za x1,Za x2,Za Zt,Za Zh,Za h.ldo,Za e2,Za e3,Za Zt,Za Zh,Za h1.ldo,Za e4,Za ZBU,Za e5,Za ZB,Qg (by omega)]
  rfl
theorem ZdV {K : List Tx} {x : Tx} : x∈ofL m K mem↔x∈K∧mem x m=true:=by unfold ofL;rw [List.mem_filter,Zbq]
theorem ZCs (h : Grp X g o G mem c) : ∃ X',R (n+8) Ks [pt g,strv s,strv t] X=some (iv (ZiN s t (ZO G) mem),X')∧Grp X' g o G (if ZiN s t (ZO G) mem=0 then Zbs s t mem else mem) c∧ZC (Jd o G) X (Jd o G) X':=by
 have l0 : HLe X (X++[.cells [strv t] 1 false false]):=.app _ _
 have s0:=(ZjE (x:=t) (H:=X)).rd
 have e0:=Zrg (x:=t) (H:=X)
 generalize X++[Ze.cells [strv t] 1 false false]=X0 at l0 s0 e0
 have f1 : ∀ r X',QM (R (n+7)) (pt g) (strv s) (strv t) X=some (r,X')→R (n+8) Ks [pt g,strv s,strv t] X=some (r,X'):=fun r X' hr=>by rw [R,ZiS rfl];exact hr
 have e1 : R (n+7) ZaP [_] X0=_:=Ztr (n:=n+1) (l:=[t]) (by simp) s0
 have h0:=h.hle l0
 unfold ZiN
 by_cases ht : Zp t=true
 ·have hN : Zd2 [t]=0:=by unfold Zd2;simp [ht]
  rw [hN] at e1
  rw [if_pos ht]
  have q1 : bop .str .eql (strv s) (strv t) X0=some (.bool (s==t),X0):=Zdp
  by_cases hst : s=t
  ·rw [if_pos hst,if_pos rfl]
   refine ⟨X0,f1 _ _ ?_,h0.more (Nat.le_refl _) (fun k' n'=>?_),l0.stepq⟩
   ·unfold QM
    rw [Za e0,Za e1,Za Zq,Zb,if_neg (by decide),Za q1,Zb,if_pos (by simpa using hst)]
    rfl
   ·unfold Zbs
    subst hst
    split
    ·rename_i hm
     by_cases hn : n'=s
     ·subst hn;simp [hm]
     ·rw [beq_eq_false_iff_ne.2 hn];simp
    ·rfl
  ·rw [if_neg hst]
   obtain ⟨v1,q1',X1,e2,r2,l2,o2⟩:=ZsX (n:=n+3) (m:=t) h0
   have e2 : R (n+7) J6 [pt g,strv t] X0=_:=e2
   have hlen1 : Zx v1 X1=some (iv (ofL t (ZO G) mem).length,X1):=by have:=r2.rd.len (H':=X1);simpa using this
   have h1:=h0.hle l2
   by_cases hO : ofL t (ZO G) mem=[]
   ·rw [if_pos hO,if_pos rfl]
    rw [hO] at hlen1
    obtain ⟨v2,q2,X2,e3,r3,l3,o3⟩:=ZsX (n:=n+3) (m:=s) h1
    have e3 : R (n+7) J6 [pt g,strv s] X1=_:=e3
    have h2:=h1.hle l3
    have hlen2 : Zx v2 X2=some (iv (ofL s (ZO G) mem).length,X2):=by have:=r3.rd.len (H':=X2);simpa using this
    have hfew : (ofL s (ZO G) mem).length≤1000:=by have:=ZfB (m:=s) (mem:=mem) (K:=ZO G);have:=h.few;simp at *;omega
    have hnod : (ofL s (ZO G) mem).Nodup:=(Zcu h.mo.nod).asc.nodup
    have hr0 : ∀ k n',Zie s t (ofL s (ZO G) mem) mem 0 k n'=mem k n':=fun k n'=>by unfold Zie;simp
    obtain ⟨X3,e4,h3,s4⟩:=Zx1 (n:=n+7) (s:=s) (t:=t) hfew hnod (fun x hx=>ZdV.1 hx) (ofL s (ZO G) mem).length 0 X2 (by omega) (by omega) (h2.more (Nat.le_refl _) hr0) ht r3
    rw [show iv ((0 : Nat) : Int)=.int .i64 0 from rfl] at e4
    refine ⟨X3,f1 _ _ ?_,h3.more (Nat.le_refl _) (fun k' n'=>?_),((l0.trans l2).trans l3).stepq.trans s4⟩
    ·unfold QM
     rw [Za e0,Za e1,Za Zq,Zb,if_neg (by decide),Za q1,Zb,if_neg (by simpa using hst),Za e2,Za hlen1,Za Z0,Zb,if_neg (by simp),Za e3,Za hlen2,ZT e4,ZE]
     rfl
    ·unfold Zbs Zie
     rw [List.take_length]
     by_cases hm : mem k' s=true
     ·have hin : k'∈ofL s (ZO G) mem:=ZdV.2 ⟨by
       have:=h.out k' s hm
       rw [h.key] at this;simpa using this,hm⟩
      rw [if_pos hm,if_pos hin]
     ·rw [if_neg hm,if_neg fun hin=>hm (ZdV.1 hin).2]
   ·rw [if_neg hO,if_neg (by decide)]
    have hpos : 0 < (ofL t (ZO G) mem).length:=List.length_pos_iff.2 hO
    refine ⟨X1,f1 _ _ ?_,h1,(l0.trans l2).stepq⟩
    unfold QM
    rw [Za e0,Za e1,Za Zq,Zb,if_neg (by decide),Za q1,Zb,if_neg (by simpa using hst),Za e2,Za hlen1,Za Z0,Zb,if_pos (by simpa using hpos)]
    rfl
 ·have hN : Zd2 [t]=10:=by unfold Zd2;simp [ht]
  rw [hN] at e1
  rw [if_neg ht,if_neg (by decide)]
  refine ⟨X0,f1 _ _ ?_,h0,l0.stepq⟩
  unfold QM
  rw [Za e0,Za e1,Za Zq,Zb,if_pos (by decide)]
  rfl
theorem ZxY {v z : Value} {q : List Nat} {l : List Tx} (hl : l.length≤1000) (hn : l.Nodup) (hK : ∀ x∈l,x∈ZO G) : ∀ (r j : Nat) (X : Zd),l.length - j=r→j≤l.length→Grp X g o G (Zi7 m l mem j) c→ZA X v (l.map strv) q→
  ∃ X',Zi (c6 (Yh.l1 (R n))) [pt g,strv m,z,v,iv l.length,iv j] X=some (.ext 0 [z],X')∧Grp X' g o G (Zi7 m l mem l.length) c∧ZC (Jd o G) X (Jd o G) X'
 | 0,j,X,hr,hj,h,hrow=>by
  have : j=l.length:=by omega
  subst this
  refine ⟨X,ZK ?_,h,.refl _ _⟩
  rw [Jy]
  unfold Yh.l1
  rw [Za Zm,Zb,if_neg (by simp)]
  rfl
 | r+1,j,X,hr,hj,h,hrow=>by
  have hkl : j < l.length:=by omega
  have hlt : (j : Int) < l.length:=by omega
  have hg:=List.getElem?_eq_getElem hkl
  have hmm:=List.getElem_mem hkl
  generalize l[j]=k at hg hmm
  have hkK:=hK k hmm
  have hnot:=Ztj hn hg
  have x1:=hrow.ix (i:=j) (by simpa using hkl) .i64 X
  have x2:=hrow.ldx (Yt hg)
  obtain ⟨id,hid⟩:=h.has hkK
  obtain ⟨S,m1,m2,m3,m4⟩:=h.set hid
  have hmk : ∀ n',(Zf n' S).isSome=mem k n':=fun n'=>by rw [m2 n'];unfold Zi7;rw [if_neg hnot]
  have e2 : lkp .str (.map none) false (.map (some o)) (strv k) X=some (.map (some id),X):=by rw [h.mo.lkp,hid];rfl
  obtain ⟨X1,e3,m5,s3,_⟩:=m1.mde (k:=m)
  have hsub : (Yg m S).Sublist S:=List.filter_sublist
  have h1:=h.upd (mem':=Zi7 m l mem (j+1)) hid m5 s3 (fun q hq=>m4 q (hsub.subset hq)) (Nat.le_trans hsub.length_le m3) (Nat.le_refl _) (fun k' n'=>by
   by_cases hk : k'=k
   ·subst hk
    rw [if_pos rfl]
    unfold Zi7
    rw [if_pos ((Zem hg).2 (.inr rfl))]
    by_cases hns : n'=m
    ·subst hns;rw [Zar];simp
    ·rw [JK hns,hmk];simp [hns]
   ·rw [if_neg hk]
    unfold Zi7
    by_cases hin : k'∈l.take j
    ·rw [if_pos hin,if_pos ((Zem hg).2 (.inl hin))]
    ·rw [if_neg hin,if_neg fun h=>(Zem hg).1 h |>.elim hin hk])
  have st:=h.step1 hid s3
  obtain ⟨X3,e6,h3,s6⟩:=ZxY hl hn hK r (j+1) X1 (by omega) (by omega) h1 (hrow.grp h st)
  refine ⟨X3,(Zy ?_).trans e6,h3,st.trans s6⟩
  rw [Jy]
  unfold Yh.l1
  rw [Za Zm,Zb,if_pos (by simpa using hlt),Za x1,Za x2,Za Zt,Za Zh,Za h.ldo,Za e2,Za e3,Za ZB,Qg (by omega)]
  rfl
theorem ZyO (h : Grp X g o G mem c) : ∃ X',R (n+8) Wx [pt g,strv m] X=some (iv (ofL m (ZO G) mem).length,X')∧Grp X' g o G (Ze8 m mem) c∧ZC (Jd o G) X (Jd o G) X':=by
 obtain ⟨v2,q2,X2,e3,r3,l3,o3⟩:=ZsX (n:=n+3) (m:=m) h
 have e3 : R (n+7) J6 [pt g,strv m] X=_:=e3
 have h2:=h.hle l3
 have hlen2 : ∀ Y,Zx v2 Y=some (iv (ofL m (ZO G) mem).length,Y):=fun Y=>by have:=r3.rd.len (H':=Y);simpa using this
 have hfew : (ofL m (ZO G) mem).length≤1000:=by have:=ZfB (m:=m) (mem:=mem) (K:=ZO G);have:=h.few;simp at *;omega
 have hnod : (ofL m (ZO G) mem).Nodup:=(Zcu h.mo.nod).asc.nodup
 have hr0 : ∀ k n',Zi7 m (ofL m (ZO G) mem) mem 0 k n'=mem k n':=fun k n'=>by unfold Zi7;simp
 obtain ⟨X3,e4,h3,s4⟩:=ZxY (n:=n+7) (m:=m) (z:=v2) hfew hnod (fun x hx=>(ZdV.1 hx).1) (ofL m (ZO G) mem).length 0 X2 (by omega) (by omega) (h2.more (Nat.le_refl _) hr0) r3
 rw [show iv ((0 : Nat) : Int)=.int .i64 0 from rfl] at e4
 refine ⟨X3,?_,h3.more (Nat.le_refl _) (fun k' n'=>?_),l3.stepq.trans s4⟩
 ·rw [R,ZiT rfl]
  unfold Yh
  rw [Za e3,Za (hlen2 _),ZT e4,ZE,YC,Za (hlen2 _)]
  rfl
 ·unfold Ze8 Zi7
  rw [List.take_length]
  by_cases hin : k'∈ofL m (ZO G) mem
  ·rw [if_pos hin]
  ·rw [if_neg hin]
   by_cases hn : n'=m
   ·subst hn
    cases hm : mem k' n' with
    | false=>rfl
    | true=>exact absurd (ZdV.2 ⟨by have:=h.out k' n' hm;rw [h.key] at this;simpa using this,hm⟩) hin
   ·simp [hn]
def Zds (b : Nat) : Zc8→Zc8
 | []=>[]
 | p :: G=>(p.1,b) :: Zds (b+1) G
theorem ZjL : ∀ {G : Zc8} {b : Nat},ZO (Zds b G)=ZO G
 | [],_=>rfl
 | p :: G,b=>by
  show p.1 :: ZO (Zds (b+1) G)=p.1 :: ZO G
  rw [ZjL]
theorem Zn5 : ∀ {G : Zc8} {b : Nat} {p : Tx × Nat},p∈Zds b G→∃ i q,G[i]?=some q∧p=(q.1,b+i)
 | [],_,_,h=>by cases h
 | q :: G,b,p,h=>by
  rcases List.mem_cons.1 h with rfl | h
  ·exact ⟨0,q,rfl,rfl⟩
  ·obtain ⟨i,r,h1,h2⟩:=Zn5 h
   exact ⟨i+1,r,by simpa using h1,by rw [h2];congr 1;omega⟩
theorem Zh2 : ∀ {G : Zc8} {b : Nat},(Zds b G).map (·.2)=List.range' b G.length
 | [],_=>rfl
 | p :: G,b=>by
  show b :: (Zds (b+1) G).map (·.2)=_
  rw [Zh2,List.length_cons,List.range'_succ]
theorem Zpj : ∀ {G : Zc8} {b : Nat},(Zf k (Zds b G)).isSome=(Zf k G).isSome
 | [],_=>rfl
 | p :: G,b=>by
  simp only [Zds,Zf]
  by_cases h : p.1=k
  ·rw [if_pos h,if_pos h];rfl
  ·rw [if_neg h,if_neg h,Zpj]
theorem Zqm : ∀ {es : List (Value × Value × Nat)} {G : Zc8} {b : Nat},es.map kv=G.map (fun p=>(strv p.1,Zqy p.2))→(Zcf b es).map kv=(Zds b G).map (fun p=>(strv p.1,Zqy p.2))
 | [],[],_,_=>rfl
 | [],_ :: _,_,h=>by cases h
 | _ :: _,[],_,h=>by cases h
 | e :: es,p :: G,b,h=>by
  simp only [List.map_cons,List.cons.injEq,kv,Prod.mk.injEq] at h
  simp only [Zcf,Zds,List.map_cons,kv,h.1.1]
  rw [Zqm h.2]
theorem ZpL : ∀ {es : List (Value × Value × Nat)} {G : Zc8},es.map kv=G.map (fun p=>(strv p.1,Zqy p.2))→(∀ p∈G,∃ S,JH Zpv X p.2 S)→∃ l,ZeM X es=some l∧l.length=G.length∧∀ (i : Nat) (p : Tx × Nat),G[i]?=some p→l[i]?=X[p.2]?
 | [],[],_,_=>⟨[],rfl,rfl,fun i p h=>by simp at h⟩
 | [],_ :: _,h,_=>by cases h
 | _ :: _,[],h,_=>by cases h
 | e :: es,p :: G,h,hS=>by
  simp only [List.map_cons,List.cons.injEq,kv,Prod.mk.injEq] at h
  obtain ⟨l,h1,h2,h3⟩:=ZpL h.2 (fun p hp=>hS p (List.mem_cons_of_mem _ hp))
  obtain ⟨S,hm⟩:=hS p (by simp)
  obtain ⟨x,hx,hmx⟩ : ∃ x,X[p.2]?=some x∧Zhk x=true:=by
   obtain ⟨es',_,h4 | h4⟩:=hm.ex
   ·obtain ⟨clk,h4,_⟩:=h4;exact ⟨_,h4,rfl⟩
   ·exact ⟨_,h4,rfl⟩
  refine ⟨x :: l,?_,by simp [h2],fun i q hi=>?_⟩
  ·unfold ZeM
   simp only [h.1.2,h1,Zqy,hx,hmx,if_true]
  ·cases i with
   | zero=>
    have : p=q:=by simpa using hi
    subst this
    simp [hx]
   | succ i=>simpa using h3 i q (by simpa using hi)
theorem JH.move {α : Type} {enc : α→Value} {id id' : Nat} {mm : List (Tx × α)} (h : JH enc X id mm) (he : X'[id']?=X[id]?) : JH enc X' id' mm:=by
 obtain ⟨es,h1,h2⟩:=h.ex
 exact ⟨⟨es,h1,by rw [he];exact h2⟩,h.nod⟩
theorem ZBE (h : Grp X g o G mem c) : ∃ X' g' o' G',R (n+1) W6 [pt g] X=some (pt g',X')∧Grp X' g' o' G' mem c∧ZO G'=ZO G∧HLe X X'∧X.length≤g'∧∀ j∈Jd o' G',X.length≤j:=by
 obtain ⟨es,h1,h2⟩:=h.mo.ex
 obtain ⟨l,h3,h4,h5⟩:=ZpL h1 (fun p hp=>by obtain ⟨S,hS,_⟩:=h.ms p hp;exact ⟨S,hS⟩)
 have hents : ZkJ X o=some es:=by
  unfold ZkJ
  rcases h2 with ⟨clk,h2,hst⟩ | h2
  ·simp only [h2];rw [if_pos hst]
  ·simp only [h2]
 have hk : ZfW es (ZO G):=⟨by
  have:=congrArg (List.map (·.1)) h1
  rw [Ze1] at this
  rw [this];simp [Function.comp_def],h.mo.nod,by have:=h.few;simp;omega,fun k hk=>by
  obtain ⟨p,hp,rfl⟩:=List.mem_map.1 hk
  exact Nat.le_trans (ZaU (h.ok p hp)) (by decide)⟩
 have hrun : R (n+1) W6 [pt g] X=some (pt (X.length+l.length+1),X++l++[.mapU (Zcf X.length es)]++[.cells [.map (some (X.length+l.length))] 1 false false]):=by
  rw [R,Zcl (show np W6=some ZiL from rfl)]
  unfold ZiL
  simp only [h.cell,hents,h3]
  rw [if_pos ⟨_,hk⟩]
 have hlen1 : (X++l).length=X.length+l.length:=List.length_append
 have hlen2 : (X++l++[Ze.mapU (Zcf X.length es)]).length=X.length+l.length+1:=by rw [List.length_append,hlen1,List.length_singleton]
 have hle : HLe X (X++l++[.mapU (Zcf X.length es)]++[.cells [.map (some (X.length+l.length))] 1 false false]):=fun i v hi=>by
  rw [List.append_assoc,List.append_assoc,List.getElem?_append_left (QD hi)];exact hi
 refine ⟨_,_,X.length+l.length,Zds X.length G,hrun,⟨?_,⟨⟨Zcf X.length es,Zqm h1,.inr ?_⟩,?_⟩,fun p hp=>?_,fun k' n' hk'=>by rw [Zpj];exact h.out k' n' hk',?_,fun p hp=>?_,?_⟩,ZjL,hle,by omega,fun j hj=>?_⟩
 ·rw [← hlen2];exact Zw
 ·rw [List.getElem?_append_left (by rw [hlen2];omega),← hlen1];exact Zw
 ·have : (ZO (Zds X.length G)).Nodup:=by rw [ZjL];exact h.mo.nod
  exact this
 ·obtain ⟨i,q,hq,rfl⟩:=Zn5 hp
  obtain ⟨S,a1,a2,a3,a4⟩:=h.ms q (List.mem_of_getElem? hq)
  refine ⟨S,a1.move ?_,a2,a3,a4⟩
  have hil : i < l.length:=by rw [h4];exact (List.getElem?_eq_some_iff.1 hq).1
  show (_ : Zd)[X.length+i]?=_
  rw [List.getElem?_append_left (by rw [hlen2];omega),List.getElem?_append_left (by rw [hlen1];omega),List.getElem?_append_right (by omega),Nat.add_sub_cancel_left]
  exact h5 i q hq
 ·rw [Jd,Zh2,List.nodup_cons]
  refine ⟨fun hm=>?_,List.nodup_range'⟩
  have:=List.mem_range'_1.1 hm
  omega
 ·obtain ⟨i,q,hq,rfl⟩:=Zn5 hp
  exact h.ok q (List.mem_of_getElem? hq)
 ·have : (Zds X.length G).length=G.length:=by
   have:=congrArg List.length (Zh2 (G:=G) (b:=X.length))
   simpa using this
  rw [this];exact h.few
 ·rw [Jd,Zh2] at hj
  rcases List.mem_cons.1 hj with rfl | hj
  ·omega
  ·exact (List.mem_range'_1.1 hj).1
end
end Go.Proofs.YtedkoimihknggaaGreatDoor.A

