/- What the law NewerAsks needs (part 4). -/
import Derived.Test.YtnnehafmjfmbnaaGreatDoorZNewerAsks3
import Derived.Test.YtnnehafmjfmbnaaGreatDoorProg
import Derived.WalkKit
import Derived.Maps.RangeWalk
import Derived.Deep.RegionWith
import Derived.Deep.Cut
import Derived.Laws.Cover1
import Derived.Sort.Walk0
import Derived.Sort.OwnSorted
import Derived.Shelf.SlGeneric
import Derived.Shelf.SlIter.Collect
import Derived.Shelf.SlSortCmp.Whole1
import Derived.Shelf.SlMaps.Clone
import Derived.Ground.GgzProg
import Derived.Ground.SlsfProg
import Derived.Ground.SlmcProg
import Derived.KernelRfl
namespace Go.Proofs.YtnnehafmjfmbnaaGreatDoor.A
set_option linter.unusedVariables false
set_option linter.unusedSimpArgs false
open Go.RowKit Go.Maps Go.ChangeMaps Go.MapKept
section
variable {P : Program} (w : World) {ops : Array Oper} {rest : List Oper} {o : Oper} {a : Act} {Q : Exit→Act→World→Prop}
theorem ZkV (hg : o.guard=none) (m : Operand) (t : TypeId) (hop : o.op=Op.range t m) (k e : TypeId) (ht : P.underlying t=some (.map k e)) (b : Nat) (es : Array MapEntry) (clock : Nat)
  (hm : a.eval m=.map (some b)) (hb : w.heap[b]?=some (.map es clock))
  (hK : wpList P ops Q rest (a.put o.dst (.pointer (some ⟨w.heap.size,0,none⟩))) (w.alloc (.mapIter (some b) clock #[] clock))) :
  wpList P ops Q (o :: rest) a w:=by
 refine wpList_plain hg fun K' hK'=>?_
 have hrun:=run_range_map (P:=P) w t k e b es clock ht hb
 unfold Oper.wp
 simp [execOp,hop,hm,hrun,Result.andThen]
 exact hK' _ _ hK
theorem Zl7 (hg : o.guard=none) (it : Operand) (hop : o.op=Op.next it false) (b r since c0 clock : Nat) (seen : Array Nat) (es : Array MapEntry)
  (hit : a.eval it=.pointer (some ⟨r,0,none⟩)) (hr : w.heap[r]?=some (.mapIter (some b) since seen c0)) (hb : w.heap[b]?=some (.map es clock)) (hst : Go.MapKept.Stamped es clock) (hsince : since=clock) (hsc : since≤c0)
  (hDone : (∀ x∈es.toList,x.born∈seen)→wpList P ops Q rest (a.put o.dst (.tuple #[.bool false])) w)
  (hMore : ∀ (e : MapEntry) (w' : World),e∈es.toList→e.born∉seen→w'.heap[r]?=some (.mapIter (some b) since (seen.push e.born) clock)→(leftOf es (seen.push e.born)).size < (leftOf es seen).size→
   w.grownBy w' (some r)→w'.heap.size=w.heap.size→(Instr.entry (.pointer (some ⟨r,0,none⟩))).run P w'=.ok (.tuple #[e.key,e.val]) w'→wpList P ops Q rest (a.put o.dst (.tuple #[.bool true,e.key,e.val])) w') :
  wpList P ops Q (o :: rest) a w:=by
 refine wpList_plain hg fun K' hK'=>?_
 unfold Oper.wp
 have hold : ∀ x∈es.toList,x.born < since:=by rw [hsince];exact hst.1
 rcases run_next_at (P:=P) w o.type r b since c0 seen es clock hr hb hold hsc with ⟨h0,hrun⟩ | ⟨e,he,w1,hal,hrun⟩
 ·simp [execOp,hop,hit,hrun,Result.andThen]
  refine hK' _ _ (hDone fun x hx=>?_)
  have:=all_seen es seen h0 x hx
  simpa using this
 ·obtain ⟨hem,hes⟩:=mem_left he
  have hr1 : w1.heap[r]?=some (.mapIter (some b) since seen c0):=by rcases hal with rfl | rfl <;> exact hr
  have hb1 : w1.heap[b]?=some (.map es clock):=by rcases hal with rfl | rfl <;> exact hb
  have hset:=heap_set (o':=.mapIter (some b) since (seen.push e.born) clock) hr1
  have hne : r≠b:=by
   intro e1
   rw [e1,hb] at hr
   cases hr
  have hb' : (setBlock w1 r (.mapIter (some b) since (seen.push e.born) clock)).heap[b]?=some (.map es clock):=(hset.2 b (fun e1=>hne e1.symm)).trans hb1
  simp [execOp,hop,hit,hrun,Result.andThen]
  refine hK' _ _ (hMore e _ hem (by simpa using hes) hset.1 (left_shrinks es seen e he) ?_ ?_ (run_entry_at _ r b since seen es clock e hset.1 hb' hem ((stamped_iff es clock).1 hst).2.1))
  ·rcases hal with rfl | rfl <;> exact ⟨rfl,rfl,rfl,by simp [setBlock],fun i _ hi=>hset.2 i (fun e1=>hi (by rw [e1]))⟩
  ·rcases hal with rfl | rfl <;> simp [setBlock]
end
theorem Kj {w : World} {o : Obj} {b : Nat} (h : b < w.heap.size) : (w.alloc o).heap[b]?=w.heap[b]?:=(MapKept.heap_alloc w o).2 b h
theorem ZqY {P : Program} {t kt e : TypeId} {k : List UInt8} {en : Array MapEntry} {ck ob : Nat} {W : World} (ht : P.underlying t=some (.map kt e)) (htk : tkT P kt=.str) (hb : W.heap[ob]?=some (.map en ck)) (hkeys : ∀ x∈en.toList,∃ k',x.key=strv k'∧k'≠k) (v : Value) :
  ∃ W2,(Instr.mapUpdate t (.map (some ob)) (strv k) v).run P W=.ok () W2∧W2=setB W ob (.map (en.push { key:=strv k,val:=v,born:=ck }) (ck+1)):=by
 have hok : okK (tkT P kt) (strv k)=true:=by rw [htk];rfl
 obtain ⟨d,hd,hsk,hchk⟩:=ZaU hok
 have hE : ∀ l : List MapEntry,(∀ x∈l,∃ k',x.key=strv k'∧k'≠k)→JI (fun _=>none) (l.map fun x=>(x.key,Value.tuple #[],x.born)) l∧∀ i,J5 .str (strv k) (l.map fun x=>(x.key,Value.tuple #[],x.born)) i=some none:=by
  intro l
  induction l with
  | nil=>intro _;exact ⟨trivial,fun _=>rfl⟩
  | cons x l ih=>
   intro h
   obtain ⟨k',hk1,hk2⟩:=h x (by simp)
   obtain ⟨h1,h2⟩:=ih fun y hy=>h y (by simp [hy])
   refine ⟨⟨⟨by show QL x.key=true;rw [hk1];rfl,rfl,.un,rfl⟩,h1⟩,fun i=>?_⟩
   have hs : ZbX .str (strv k) x.key=some (k==k'):=by rw [hk1];simp only [ZbX,strv,ZsU]
   simp only [List.map_cons,J5,hs]
   rw [show (k==k')=false by rw [beq_eq_false_iff_ne];exact Ne.symm hk2]
   exact h2 _
 obtain ⟨h1,h2⟩:=hE en.toList hkeys
 obtain ⟨r',h3,h4⟩:=Y6 (k:=strv k) hd 0 h1 (by rw [htk];exact h2 0)
 cases r' with
 | some p=>exact h4.elim
 | none=>
  refine ⟨_,?_,rfl⟩
  simp only [Instr.mapUpdate,Sem.run_bind,run_underlying ht,Result.andThen_ok,JJ hb,hchk,JQ hd h3,YC hb]
structure CpR (w : World) (b r gb' ob : Nat) (es : Array MapEntry) (clock : Nat) (seen : Array Nat) (c0 : Nat) (en : Array MapEntry) (ck : Nat) (L : List (MapEntry × Nat)) (el : TypeId) (wr : World) : Prop where
 it : wr.heap[r]?=some (.mapIter (some b) clock seen c0)
 c0 : clock≤c0
 g : wr.heap[gb']?=some (.cells #[.map (some ob)] el (0,0))
 o : wr.heap[ob]?=some (.map en ck)
 st : Go.MapKept.Stamped en ck
 ent : en.toList.map (fun x=>(x.key,x.val))=L.map (fun p=>(p.1.key,Value.map (some p.2)))
 sn : L.map (·.1.born)=seen.toList
 mem : ∀ p∈L,p.1∈es.toList∧∃ sb ses sclk,p.1.val=.map (some sb)∧w.heap[sb]?=some (.map ses sclk)∧wr.heap[p.2]?=some (.map ses sclk)
 nod : (r :: gb' :: ob :: L.map (·.2)).Nodup
 ge : ∀ q∈r :: gb' :: ob :: L.map (·.2),w.heap.size≤q
 snod : seen.toList.Nodup
 bel : Below w.heap.size w wr
section
variable {w wr w1 : World} {b r g o : Nat} {es : Array MapEntry} {clock : Nat} {seen : Array Nat} {c0 : Nat} {en : Array MapEntry} {ck : Nat} {L : List (MapEntry × Nat)} {el : TypeId}
theorem CpR.lts (h : CpR w b r g o es clock seen c0 en ck L el wr) : r < wr.heap.size∧g < wr.heap.size∧o < wr.heap.size:=⟨(Array.getElem?_eq_some_iff.1 h.it).1,(Array.getElem?_eq_some_iff.1 h.g).1,(Array.getElem?_eq_some_iff.1 h.o).1⟩
theorem CpR.keys (h : CpR w b r g o es clock seen c0 en ck L el wr) (hst : Go.MapKept.Stamped es clock) {e : MapEntry} (he1 : e∈es.toList) (he2 : e.born∉seen) : ∀ x∈en.toList,x.key≠e.key:=fun x hx e4=>by
 have h3 : (x.key,x.val)∈L.map (fun p=>(p.1.key,Value.map (some p.2))):=by rw [← h.ent];exact List.mem_map.2 ⟨x,hx,rfl⟩
 obtain ⟨p,hp,h4⟩:=List.mem_map.1 h3
 simp only [Prod.mk.injEq] at h4
 obtain ⟨hm,_⟩:=h.mem p hp
 have h5 : p.1=e:=entry_eq_of_key ((stamped_iff es clock).1 hst).2.2 hm he1 (h4.1.trans e4)
 have : p.1.born∈seen.toList:=by rw [← h.sn];exact List.mem_map.2 ⟨p,hp,rfl⟩
 rw [h5] at this
 exact he2 (by simpa using this)
theorem CpR.next (h : CpR w b r g o es clock seen c0 en ck L el wr) (hst : Go.MapKept.Stamped es clock) {e : MapEntry} {sb sclk : Nat} {ses : Array MapEntry} (he1 : e∈es.toList) (he2 : e.born∉seen) (hev : e.val=.map (some sb)) (hsb : w.heap[sb]?=some (.map ses sclk))
  (hit : w1.heap[r]?=some (.mapIter (some b) clock (seen.push e.born) clock)) (hgr : wr.grownBy w1 (some r)) (hsz : w1.heap.size=wr.heap.size) :
  CpR w b r g o es clock (seen.push e.born) clock (en.push { key:=e.key,val:=.map (some wr.heap.size),born:=ck }) (ck+1) (L++[(e,wr.heap.size)]) el
   (setB (w1.alloc (.map ses sclk)).drew o (.map (en.push { key:=e.key,val:=.map (some wr.heap.size),born:=ck }) (ck+1))):=by
 obtain ⟨l1,l2,l3⟩:=h.lts
 have hnod:=h.nod
 simp only [List.nodup_cons,List.mem_cons,not_or] at hnod
 obtain ⟨⟨n1,n2,n3⟩,⟨n4,n5⟩,n6,n7⟩:=hnod
 generalize hX : Obj.map (en.push { key:=e.key,val:=.map (some wr.heap.size),born:=ck }) (ck+1)=X
 have hge:=h.ge
 have hLlt : ∀ p∈L,p.2 < wr.heap.size:=fun p hp=>by
  obtain ⟨_,sb',ses',sclk',h1,h2,h3⟩:=h.mem p hp
  exact (Array.getElem?_eq_some_iff.1 h3).1
 have keep : ∀ c,c < wr.heap.size→c≠o→c≠r→(setB (w1.alloc (.map ses sclk)).drew o X).heap[c]?=wr.heap[c]?:=fun c hc h1 h2=>by
  rw [JK h1]
  show (w1.alloc (.map ses sclk)).heap[c]?=_
  rw [Kj (by omega),hgr.block c hc (by simpa using h2)]
 have hk:=h.keys hst he1 he2
 have hst2:=(stamped_iff en ck).1 h.st
 refine ⟨?_,Nat.le_refl _,by rw [keep g l2 n4 (Ne.symm n1)];exact h.g,?_,?_,?_,?_,?_,?_,?_,?_,?_⟩
 ·rw [JK n2]
  show (w1.alloc (.map ses sclk)).heap[r]?=_
  rw [Kj (by omega)];exact hit
 ·rw [Zdf (by show o < (w1.alloc (.map ses sclk)).heap.size;simp;omega),hX]
 ·refine (stamped_iff _ _).2 ⟨fun x hx=>?_,?_,?_⟩
  ·rw [Array.toList_push,List.mem_append] at hx
   rcases hx with hx | hx
   ·exact Nat.lt_succ_of_lt (hst2.1 x hx)
   ·have : x={ key:=e.key,val:=.map (some wr.heap.size),born:=ck }:=by simpa using hx
    rw [this];exact Nat.lt_succ_self _
  ·rw [Array.toList_push,List.map_append,List.nodup_append]
   refine ⟨hst2.2.1,by simp,fun a ha c hc=>?_⟩
   have hc : c=ck:=by simpa using hc
   obtain ⟨x,hx,rfl⟩:=List.mem_map.1 ha
   have:=hst2.1 x hx
   omega
  ·rw [Array.toList_push,List.pairwise_append]
   refine ⟨hst2.2.2,by simp,fun x hx y hy=>?_⟩
   have : y={ key:=e.key,val:=.map (some wr.heap.size),born:=ck }:=by simpa using hy
   rw [this];exact hk x hx
 ·rw [Array.toList_push,List.map_append,List.map_append,h.ent];rfl
 ·rw [List.map_append,h.sn,Array.toList_push];rfl
 ·intro p hp
  rcases List.mem_append.1 hp with hp | hp
  ·obtain ⟨h1,sb',ses',sclk',h2,h4,h3⟩:=h.mem p hp
   have hp2 : p.2∈L.map (·.2):=List.mem_map.2 ⟨p,hp,rfl⟩
   exact ⟨h1,sb',ses',sclk',h2,h4,by rw [keep p.2 (hLlt p hp) (fun e1=>n6 (e1 ▸ hp2)) (fun e1=>n3 (e1 ▸ hp2))];exact h3⟩
  ·have : p=(e,wr.heap.size):=by simpa using hp
   subst this
   refine ⟨he1,sb,ses,sclk,hev,hsb,?_⟩
   rw [JK (by show wr.heap.size≠o;omega)]
   show (w1.alloc (.map ses sclk)).heap[wr.heap.size]?=_
   rw [← hsz]
   exact (MapKept.heap_alloc w1 _).1
 ·have hnew : ∀ q∈r :: g :: o :: L.map (·.2),q≠wr.heap.size:=fun q hq=>by
   simp only [List.mem_cons] at hq
   rcases hq with rfl | rfl | rfl | hq
   ·omega
   ·omega
   ·omega
   ·obtain ⟨p,hp,rfl⟩:=List.mem_map.1 hq
    exact Nat.ne_of_lt (hLlt p hp)
  have : r :: g :: o :: (L++[(e,wr.heap.size)]).map (·.2)=(r :: g :: o :: L.map (·.2))++[wr.heap.size]:=by simp
  rw [this,List.nodup_append]
  refine ⟨h.nod,by simp,fun a ha c hc=>?_⟩
  have hc : c=wr.heap.size:=by simpa using hc
  rw [hc];exact hnew a ha
 ·intro q hq
  have : r :: g :: o :: (L++[(e,wr.heap.size)]).map (·.2)=(r :: g :: o :: L.map (·.2))++[wr.heap.size]:=by simp
  rw [this] at hq
  rcases List.mem_append.1 hq with hq | hq
  ·exact hge q hq
  ·have : q=wr.heap.size:=by simpa using hq
   rw [this];exact h.bel.size
 ·rw [Array.toList_push,List.nodup_append]
  refine ⟨h.snod,by simp,fun a ha c hc=>?_⟩
  have hc : c=e.born:=by simpa using hc
  rw [hc];rintro rfl;exact he2 (by simpa using ha)
 ·refine ⟨(show w1.os=_ from hgr.os.trans h.bel.os),(show w1.tape=_ from hgr.tape.trans h.bel.tape),(show w1.output=_ from hgr.output.trans h.bel.output),?_,fun i hi=>?_⟩
  ·rw [Ztv]
   show _≤(w1.alloc (.map ses sclk)).heap.size
   have:=h.bel.size
   simp;omega
  ·have ho:=hge o (by simp)
   have hr:=hge r (by simp)
   rw [keep i (Nat.lt_of_lt_of_le hi h.bel.size) (by omega) (by omega)]
   exact h.bel.block i hi
theorem CpR.left (h : CpR w b r g o es clock seen c0 en ck L el wr) (hb : w.heap[b]?=some (.map es clock)) : wr.heap[b]?=some (.map es clock)∧wr.rangeLeft b r=(leftOf es seen).size:=by
 have hbl : b < w.heap.size:=(Array.getElem?_eq_some_iff.1 hb).1
 have h1 : wr.heap[b]?=some (.map es clock):=(h.bel.block b hbl).trans hb
 refine ⟨h1,?_⟩
 simp only [World.rangeLeft,h1,h.it]
theorem CpR.perm (h : CpR w b r g o es clock seen c0 en ck L el wr) (hst : Go.MapKept.Stamped es clock) (hall : ∀ x∈es.toList,x.born∈seen) : (L.map (·.1)).Perm es.toList:=by
 have hst2:=(stamped_iff es clock).1 hst
 have n1 : (L.map (·.1)).Nodup:=by
  have : ((L.map (·.1)).map (·.born)).Nodup:=by rw [List.map_map];exact h.sn ▸ h.snod
  exact List.Pairwise.of_map _ (fun a b h e=>h (congrArg _ e)) this
 have n2 : es.toList.Nodup:=List.Pairwise.of_map _ (fun a b h e=>h (congrArg _ e)) hst2.2.1
 refine (List.perm_ext_iff_of_nodup n1 n2).2 fun x=>⟨fun hx=>?_,fun hx=>?_⟩
 ·obtain ⟨p,hp,rfl⟩:=List.mem_map.1 hx
  exact (h.mem p hp).1
 ·have h1 : x.born∈L.map (·.1.born):=by rw [h.sn];simpa using hall x hx
  obtain ⟨p,hp,h2⟩:=List.mem_map.1 h1
  have : p.1=x:=born_inj hst2.2.1 (h.mem p hp).1 hx h2
  exact List.mem_map.2 ⟨p,hp,this⟩
end
set_option maxRecDepth 100000 in
theorem Zv6 (hCl : ZfM Tryz.prog 126) : ZrA Tryz.prog 94 where
 c:=⟨Tryz.f94,Tryz.func94,by kernel_rfl,by kernel_rfl⟩
 run:=fun w gb b es clock hgb hcell hb hst hks hvs=>by
  have hmm:=@run_makeMap Tryz.prog
  have hbl : b < w.heap.size:=(Array.getElem?_eq_some_iff.1 hb).1
  go_enter Tryz.func94,Tryz.ntmps94
  go_wp2_with (first
   | (at_range;refine ZkV _ rfl _ 96 rfl _ _ Tryz.underlying96 b es clock rfl ?_ ?_)
   | go_in)
  ·rw [Kj (by simp;omega),Kj hbl];exact hb
  ·go_frame
   have e1 : ((w.alloc (.map #[] 0)).alloc (.cells #[.map (some w.heap.size)] 98)).heap.size=w.heap.size+2:=by simp
   have e2 : (w.alloc (.map #[] 0)).heap.size=w.heap.size+1:=by simp
   rw [e1]
   try rw [e2]
   go_loopw [4,5] (fun _ _ wr=>∃ seen c0 en ck L,CpR w b (w.heap.size+2) (w.heap.size+1) w.heap.size es clock seen c0 en ck L 98 wr) (fun _ _ wr=>wr.rangeLeft b (w.heap.size+2))
   case atStart=>
    refine ⟨#[],clock,#[],0,[],?_⟩
    have hA:=fun (w : World) (o : Obj)=>(MapKept.heap_alloc w o).1
    refine ⟨?_,Nat.le_refl _,?_,?_,⟨by simp,by simp,by simp⟩,rfl,rfl,by simp,by simp,?_,by simp,?_⟩
    ·rw [← e1];exact hA _ _
    ·rw [Kj (by rw [e1];omega),← e2];exact hA _ _
    ·rw [Kj (by rw [e1];omega),Kj (by rw [e2];omega)];exact hA _ _
    ·intro q hq
     simp only [List.map_nil,List.mem_cons,List.not_mem_nil,or_false] at hq
     omega
    ·exact (((Below.refl _ _).alloc (Nat.le_refl _) _).alloc (by rw [e2];omega) _).alloc (by rw [e1];omega) _
   case round=>
    obtain ⟨seen,c0,en,ck,L,hR⟩:=hrel
    go_wp2_with (first
     | (at_next;refine Zl7 _ rfl _ rfl b (w.heap.size+2) clock c0 clock seen es rfl hR.it ?_ hst rfl hR.c0 ?_ ?_)
     | go_in)
    ·exact (hR.left hb).1
    ·intro hdone
     go_wp2
     go_ret
     have hp:=hR.perm hst (by simpa using hdone)
     have hnod:=hR.nod
     have hge:=hR.ge
     exact ⟨_,_,_,_,_,_,rfl,hR.g,hR.o,hR.st,hR.ent,hp,fun p hp=>(by obtain ⟨_,sb,ses,sclk,h1,h2,h3⟩:=hR.mem p hp;exact ⟨sb,h1,h3.trans h2.symm⟩),(List.nodup_cons.1 hnod).2,fun q hq=>hge q (List.mem_cons_of_mem _ hq),hR.bel⟩
    ·intro e w1 he1 he2 hit1 hlt hgr hsz hen
     go_upto_region 5 with fail
     have he1 : e∈es.toList:=by simpa using he1
     obtain ⟨sb,ses,sclk,hev,hsb⟩:=hvs e he1
     obtain ⟨k,hek⟩:=hks e he1
     obtain ⟨W2,hcg,hcg2,hsz1,hsb1,hmu,hW2⟩ : ∃ W2,w1.cell? ⟨w.heap.size+1,0,none⟩=some (.map (some w.heap.size))∧(w1.alloc (.map ses sclk)).cell? ⟨w.heap.size+1,0,none⟩=some (.map (some w.heap.size))∧w.heap.size+1 < wr.heap.size∧w1.heap[sb]?=some (.map ses sclk)∧
       (Instr.mapUpdate 96 (.map (some w.heap.size)) (strv k) (.map (some wr.heap.size))).run Tryz.prog (w1.alloc (.map ses sclk)).drew=.ok () W2∧W2=setB (w1.alloc (.map ses sclk)).drew w.heap.size (.map (en.push { key:=strv k,val:=.map (some wr.heap.size),born:=ck }) (ck+1)):=by
      have hw : w.heap.size < wr.heap.size:=(Array.getElem?_eq_some_iff.1 hR.o).1
      have hg1 : w1.heap[w.heap.size+1]?=some (.cells #[.map (some w.heap.size)] 98 (0,0)):=by
       rw [hgr.block _ (Array.getElem?_eq_some_iff.1 hR.g).1 (by simp)];exact hR.g
      have ho1 : w1.heap[w.heap.size]?=some (.map en ck):=by
       rw [hgr.block _ hw (by simp)];exact hR.o
      have hcg : w1.cell? ⟨w.heap.size+1,0,none⟩=some (.map (some w.heap.size)):=by
       rw [Zfg hg1];rfl
      have hsbl : sb < w.heap.size:=(Array.getElem?_eq_some_iff.1 hsb).1
      have hsb1 : w1.heap[sb]?=some (.map ses sclk):=by
       rw [hgr.block _ (by omega) (by simp;omega),hR.bel.block sb hsbl];exact hsb
      have hoD : (w1.alloc (.map ses sclk)).drew.heap[w.heap.size]?=some (.map en ck):=by
       show (w1.alloc (.map ses sclk)).heap[w.heap.size]?=_
       rw [Kj (by omega)];exact ho1
      have hkn : ∀ x∈en.toList,∃ k',x.key=strv k'∧k'≠k:=fun x hx=>by
       have h3 : (x.key,x.val)∈L.map (fun p=>(p.1.key,Value.map (some p.2))):=by rw [← hR.ent];exact List.mem_map.2 ⟨x,hx,rfl⟩
       obtain ⟨p,hp,h4⟩:=List.mem_map.1 h3
       simp only [Prod.mk.injEq] at h4
       obtain ⟨hm,_⟩:=hR.mem p hp
       obtain ⟨k',hk'⟩:=hks p.1 hm
       refine ⟨k',by rw [← h4.1];exact hk',fun e4=>he2 ?_⟩
       have h5 : p.1=e:=entry_eq_of_key ((stamped_iff es clock).1 hst).2.2 hm he1 (by rw [hk',hek,e4])
       have : p.1.born∈seen.toList:=by rw [← hR.sn];exact List.mem_map.2 ⟨p,hp,rfl⟩
       rw [h5] at this
       simpa using this
      obtain ⟨W2,hmu,hW2⟩:=ZqY (P:=Tryz.prog) (t:=96) (k:=k) (v:=.map (some wr.heap.size)) Tryz.underlying96 (by kernel_rfl) hoD hkn
      have hs1 : w.heap.size+1 < wr.heap.size:=(Array.getElem?_eq_some_iff.1 hR.g).1
      have hg2 : (w1.alloc (.map ses sclk)).heap[w.heap.size+1]?=some (.cells #[.map (some w.heap.size)] 98 (0,0)):=by
       rw [Kj (by omega)];exact hg1
      exact ⟨W2,hcg,by rw [Zfg hg2];rfl,hs1,hsb1,hmu,hW2⟩
     rw [hev,hek]
     go_region_with (first
      | (go_at_call 126;refine (hCl.some sb ses sclk _ ?_).mono ?_;exact hsb1;rintro e w' ⟨rfl,rfl⟩)
      | fail)
     ·have hN:=hR.next hst he1 he2 hev hsb hit1 hgr hsz
      rw [hek] at hN
      go_roundw
      case rel=>(repeat apply Exists.intro);exact ⟨⟨_,_,_,_,_,hN⟩,rfl⟩
      case measure=>rw [(hN.left hb).2,(hR.left hb).2];exact hlt
     ·have hN:=hR.next hst he1 he2 hev hsb hit1 hgr hsz
      rw [hek] at hN
      go_roundw
      case rel=>(repeat apply Exists.intro);exact ⟨⟨_,_,_,_,_,hN⟩,rfl⟩
      case measure=>rw [(hN.left hb).2,(hR.left hb).2];exact hlt
end Go.Proofs.YtnnehafmjfmbnaaGreatDoor.A

namespace Go.Proofs
open Go.RowKit Go.Maps Go.Sort Go.Shelf
def Tryz.cloneA_ren : Go.Shelf.Ren := ⟨fun | 5 => 92 | 7 => 124 | n => n, fun | 23 => 64 | 25 => 9 | 3 => 78 | 4 => 4 | 20 => 20 | n => n, fun | n => n⟩
theorem Tryz.cloneA : Go.Proofs.SlLaysW.n5 Tryz.prog Tryz.cloneA_ren := {
  mixed := by kernel_rfl
  f5 := ⟨Tryz.f92.name, by decide, Tryz.func92.trans (congrArg some (by kernel_rfl))⟩
  f7 := Tryz.func124.trans (congrArg some (by kernel_rfl))
  t4 := Tryz.underlying4
  a4 := Tryz.isAgg4
  z4 := Tryz.sizeOf4
  v4 := Tryz.zeroValue4
  t20 := Tryz.underlying20
  a20 := Tryz.isAgg20
  z20 := Tryz.sizeOf20
  v20 := Tryz.zeroValue20
  t23 := Tryz.underlying64
  a23 := Tryz.isAgg64
  z23 := Tryz.sizeOf64
  v23 := Tryz.zeroValue64 }
def Tryz.cloneB_ren : Go.Shelf.Ren := ⟨fun | 5 => 125 | 7 => 124 | n => n, fun | 23 => 93 | 25 => 9 | 3 => 9 | 4 => 4 | 20 => 20 | n => n, fun | n => n⟩
theorem Tryz.cloneB : Go.Proofs.SlLaysW.n5 Tryz.prog Tryz.cloneB_ren := {
  mixed := by kernel_rfl
  f5 := ⟨Tryz.f125.name, by decide, Tryz.func125.trans (congrArg some (by kernel_rfl))⟩
  f7 := Tryz.func124.trans (congrArg some (by kernel_rfl))
  t4 := Tryz.underlying4
  a4 := Tryz.isAgg4
  z4 := Tryz.sizeOf4
  v4 := Tryz.zeroValue4
  t20 := Tryz.underlying20
  a20 := Tryz.isAgg20
  z20 := Tryz.sizeOf20
  v20 := Tryz.zeroValue20
  t23 := Tryz.underlying93
  a23 := Tryz.isAgg93
  z23 := Tryz.sizeOf93
  v23 := Tryz.zeroValue93 }
def Tryz.cloneC_ren : Go.Shelf.Ren := ⟨fun | 5 => 126 | 7 => 124 | n => n, fun | 23 => 123 | 25 => 9 | 3 => 120 | 4 => 4 | 20 => 20 | n => n, fun | n => n⟩
theorem Tryz.cloneC : Go.Proofs.SlLaysW.n5 Tryz.prog Tryz.cloneC_ren := {
  mixed := by kernel_rfl
  f5 := ⟨Tryz.f126.name, by decide, Tryz.func126.trans (congrArg some (by kernel_rfl))⟩
  f7 := Tryz.func124.trans (congrArg some (by kernel_rfl))
  t4 := Tryz.underlying4
  a4 := Tryz.isAgg4
  z4 := Tryz.sizeOf4
  v4 := Tryz.zeroValue4
  t20 := Tryz.underlying20
  a20 := Tryz.isAgg20
  z20 := Tryz.sizeOf20
  v20 := Tryz.zeroValue20
  t23 := Tryz.underlying123
  a23 := Tryz.isAgg123
  z23 := Tryz.sizeOf123
  v23 := Tryz.zeroValue123 }
def Tryz.keysA_ren : Go.Shelf.Ren := ⟨fun | 7 => 96 | 10 => 129 | n => n, fun | 23 => 64 | 26 => 9 | 3 => 78 | 28 => 116 | 0 => 0 | 27 => 115 | 33 => 85 | 4 => 4 | n => n, fun | n => n⟩
theorem Tryz.keysA : Go.Proofs.SlLaysZ.n7 Tryz.prog Tryz.keysA_ren := {
  mixed := by kernel_rfl
  f7 := ⟨Tryz.f96.name, by decide, Tryz.func96.trans (congrArg some (by kernel_rfl))⟩
  f10 := ⟨Tryz.f129.name, by decide, Tryz.func129.trans (congrArg some (by kernel_rfl))⟩
  t0 := Tryz.underlying0
  a0 := Tryz.isAgg0
  z0 := Tryz.sizeOf0
  v0 := Tryz.zeroValue0
  t4 := Tryz.underlying4
  a4 := Tryz.isAgg4
  z4 := Tryz.sizeOf4
  v4 := Tryz.zeroValue4
  t23 := Tryz.underlying64
  a23 := Tryz.isAgg64
  z23 := Tryz.sizeOf64
  v23 := Tryz.zeroValue64
  t26 := Tryz.underlying9
  a26 := Tryz.isAgg9
  z26 := Tryz.sizeOf9
  v26 := Tryz.zeroValue9
  t27 := Tryz.underlying115
  a27 := Tryz.isAgg115
  z27 := Tryz.sizeOf115
  v27 := Tryz.zeroValue115
  t28 := Tryz.underlying116
  a28 := Tryz.isAgg116
  z28 := Tryz.sizeOf116
  v28 := Tryz.zeroValue116
  t33 := Tryz.underlying85
  a33 := Tryz.isAgg85
  z33 := Tryz.sizeOf85
  v33 := Tryz.zeroValue85 }
def Tryz.keysB_ren : Go.Shelf.Ren := ⟨fun | 7 => 135 | 10 => 143 | n => n, fun | 23 => 122 | 26 => 9 | 3 => 120 | 28 => 116 | 0 => 0 | 27 => 115 | 33 => 85 | 4 => 4 | n => n, fun | n => n⟩
theorem Tryz.keysB : Go.Proofs.SlLaysZ.n7 Tryz.prog Tryz.keysB_ren := {
  mixed := by kernel_rfl
  f7 := ⟨Tryz.f135.name, by decide, Tryz.func135.trans (congrArg some (by kernel_rfl))⟩
  f10 := ⟨Tryz.f143.name, by decide, Tryz.func143.trans (congrArg some (by kernel_rfl))⟩
  t0 := Tryz.underlying0
  a0 := Tryz.isAgg0
  z0 := Tryz.sizeOf0
  v0 := Tryz.zeroValue0
  t4 := Tryz.underlying4
  a4 := Tryz.isAgg4
  z4 := Tryz.sizeOf4
  v4 := Tryz.zeroValue4
  t23 := Tryz.underlying122
  a23 := Tryz.isAgg122
  z23 := Tryz.sizeOf122
  v23 := Tryz.zeroValue122
  t26 := Tryz.underlying9
  a26 := Tryz.isAgg9
  z26 := Tryz.sizeOf9
  v26 := Tryz.zeroValue9
  t27 := Tryz.underlying115
  a27 := Tryz.isAgg115
  z27 := Tryz.sizeOf115
  v27 := Tryz.zeroValue115
  t28 := Tryz.underlying116
  a28 := Tryz.isAgg116
  z28 := Tryz.sizeOf116
  v28 := Tryz.zeroValue116
  t33 := Tryz.underlying85
  a33 := Tryz.isAgg85
  z33 := Tryz.sizeOf85
  v33 := Tryz.zeroValue85 }
def Tryz.keysC_ren : Go.Shelf.Ren := ⟨fun | 7 => 142 | 10 => 158 | n => n, fun | 23 => 96 | 26 => 9 | 3 => 123 | 28 => 116 | 0 => 0 | 27 => 115 | 33 => 85 | 4 => 4 | n => n, fun | n => n⟩
theorem Tryz.keysC : Go.Proofs.SlLaysZ.n7 Tryz.prog Tryz.keysC_ren := {
  mixed := by kernel_rfl
  f7 := ⟨Tryz.f142.name, by decide, Tryz.func142.trans (congrArg some (by kernel_rfl))⟩
  f10 := ⟨Tryz.f158.name, by decide, Tryz.func158.trans (congrArg some (by kernel_rfl))⟩
  t0 := Tryz.underlying0
  a0 := Tryz.isAgg0
  z0 := Tryz.sizeOf0
  v0 := Tryz.zeroValue0
  t4 := Tryz.underlying4
  a4 := Tryz.isAgg4
  z4 := Tryz.sizeOf4
  v4 := Tryz.zeroValue4
  t23 := Tryz.underlying96
  a23 := Tryz.isAgg96
  z23 := Tryz.sizeOf96
  v23 := Tryz.zeroValue96
  t26 := Tryz.underlying9
  a26 := Tryz.isAgg9
  z26 := Tryz.sizeOf9
  v26 := Tryz.zeroValue9
  t27 := Tryz.underlying115
  a27 := Tryz.isAgg115
  z27 := Tryz.sizeOf115
  v27 := Tryz.zeroValue115
  t28 := Tryz.underlying116
  a28 := Tryz.isAgg116
  z28 := Tryz.sizeOf116
  v28 := Tryz.zeroValue116
  t33 := Tryz.underlying85
  a33 := Tryz.isAgg85
  z33 := Tryz.sizeOf85
  v33 := Tryz.zeroValue85 }
def Tryz.collA_ren : Go.Shelf.Ren := ⟨fun | 8 => 127 | 11 => 138 | n => n, fun | 26 => 9 | 28 => 116 | 24 => 30 | 0 => 0 | 33 => 85 | 4 => 4 | n => n, fun | n => n⟩
theorem Tryz.collA : Go.Proofs.SlLaysZ.n8 Tryz.prog Tryz.collA_ren := {
  mixed := by kernel_rfl
  f8 := ⟨Tryz.f127.name, by decide, Tryz.func127.trans (congrArg some (by kernel_rfl))⟩
  f11 := ⟨Tryz.f138.name, by decide, Tryz.func138.trans (congrArg some (by kernel_rfl))⟩
  t0 := Tryz.underlying0
  a0 := Tryz.isAgg0
  z0 := Tryz.sizeOf0
  v0 := Tryz.zeroValue0
  t24 := Tryz.underlying30
  a24 := Tryz.isAgg30
  z24 := Tryz.sizeOf30
  v24 := Tryz.zeroValue30
  t26 := Tryz.underlying9
  a26 := Tryz.isAgg9
  z26 := Tryz.sizeOf9
  v26 := Tryz.zeroValue9
  t28 := Tryz.underlying116
  a28 := Tryz.isAgg116
  z28 := Tryz.sizeOf116
  v28 := Tryz.zeroValue116
  i26 := by kernel_rfl }
def Tryz.sortA_ren : Go.Shelf.Ren := ⟨fun | 6 => 128 | 15 => 140 | 14 => 139 | 28 => 156 | 29 => 157 | 20 => 148 | 21 => 149 | 22 => 150 | 23 => 151 | 24 => 152 | 25 => 153 | 26 => 154 | 27 => 155 | 46 => 166 | 47 => 167 | 48 => 168 | 49 => 169 | 50 => 170 | 57 => 174 | n => n, fun | 22 => 30 | 24 => 9 | 25 => 118 | 3 => 3 | 39 => 157 | 0 => 0 | 53 => 170 | 55 => 172 | 4 => 4 | 46 => 163 | 45 => 162 | 50 => 167 | 5 => 5 | 9 => 9 | 66 => 177 | 70 => 181 | 76 => 185 | 77 => 186 | n => n, fun | n => n⟩
theorem Tryz.sortA : Go.Proofs.SlLaysF.n6 Tryz.prog Tryz.sortA_ren := {
  mixed := by kernel_rfl
  f6 := ⟨Tryz.f128.name, by decide, Tryz.func128.trans (congrArg some (by kernel_rfl))⟩
  f14 := ⟨Tryz.f139.name, by decide, Tryz.func139.trans (congrArg some (by kernel_rfl))⟩
  f15 := Tryz.func140.trans (congrArg some (by kernel_rfl))
  f20 := ⟨Tryz.f148.name, by decide, Tryz.func148.trans (congrArg some (by kernel_rfl))⟩
  f21 := ⟨Tryz.f149.name, by decide, Tryz.func149.trans (congrArg some (by kernel_rfl))⟩
  f22 := ⟨Tryz.f150.name, by decide, Tryz.func150.trans (congrArg some (by kernel_rfl))⟩
  f23 := ⟨Tryz.f151.name, by decide, Tryz.func151.trans (congrArg some (by kernel_rfl))⟩
  f24 := ⟨Tryz.f152.name, by decide, Tryz.func152.trans (congrArg some (by kernel_rfl))⟩
  f25 := ⟨Tryz.f153.name, by decide, Tryz.func153.trans (congrArg some (by kernel_rfl))⟩
  f26 := ⟨Tryz.f154.name, by decide, Tryz.func154.trans (congrArg some (by kernel_rfl))⟩
  f27 := ⟨Tryz.f155.name, by decide, Tryz.func155.trans (congrArg some (by kernel_rfl))⟩
  f28 := Tryz.func156.trans (congrArg some (by kernel_rfl))
  f29 := Tryz.func157.trans (congrArg some (by kernel_rfl))
  f46 := ⟨Tryz.f166.name, by decide, Tryz.func166.trans (congrArg some (by kernel_rfl))⟩
  f47 := Tryz.func167.trans (congrArg some (by kernel_rfl))
  f48 := Tryz.func168.trans (congrArg some (by kernel_rfl))
  f49 := ⟨Tryz.f169.name, by decide, Tryz.func169.trans (congrArg some (by kernel_rfl))⟩
  f50 := ⟨Tryz.f170.name, by decide, Tryz.func170.trans (congrArg some (by kernel_rfl))⟩
  f57 := ⟨Tryz.f174.name, by decide, Tryz.func174.trans (congrArg some (by kernel_rfl))⟩
  t0 := Tryz.underlying0
  a0 := Tryz.isAgg0
  z0 := Tryz.sizeOf0
  v0 := Tryz.zeroValue0
  t3 := Tryz.underlying3
  a3 := Tryz.isAgg3
  z3 := Tryz.sizeOf3
  v3 := Tryz.zeroValue3
  t4 := Tryz.underlying4
  a4 := Tryz.isAgg4
  z4 := Tryz.sizeOf4
  v4 := Tryz.zeroValue4
  t5 := Tryz.underlying5
  a5 := Tryz.isAgg5
  z5 := Tryz.sizeOf5
  v5 := Tryz.zeroValue5
  t9 := Tryz.underlying9
  a9 := Tryz.isAgg9
  z9 := Tryz.sizeOf9
  v9 := Tryz.zeroValue9
  t22 := Tryz.underlying30
  a22 := Tryz.isAgg30
  z22 := Tryz.sizeOf30
  v22 := Tryz.zeroValue30
  a24 := Tryz.isAgg9
  z24 := Tryz.sizeOf9
  t25 := Tryz.underlying118
  a25 := Tryz.isAgg118
  z25 := Tryz.sizeOf118
  v25 := Tryz.zeroValue118
  t39 := Tryz.underlying157
  a39 := Tryz.isAgg157
  z39 := Tryz.sizeOf157
  v39 := Tryz.zeroValue157
  t45 := Tryz.underlying162
  a45 := Tryz.isAgg162
  z45 := Tryz.sizeOf162
  v45 := Tryz.zeroValue162
  t46 := Tryz.underlying163
  a46 := Tryz.isAgg163
  z46 := Tryz.sizeOf163
  v46 := Tryz.zeroValue163
  t50 := Tryz.underlying167
  a50 := Tryz.isAgg167
  z50 := Tryz.sizeOf167
  v50 := Tryz.zeroValue167
  t53 := Tryz.underlying170
  a53 := Tryz.isAgg170
  z53 := Tryz.sizeOf170
  v53 := Tryz.zeroValue170
  t55 := Tryz.underlying172
  a55 := Tryz.isAgg172
  z55 := Tryz.sizeOf172
  v55 := Tryz.zeroValue172
  t66 := Tryz.underlying177
  a66 := Tryz.isAgg177
  z66 := Tryz.sizeOf177
  v66 := Tryz.zeroValue177
  t70 := Tryz.underlying181
  a70 := Tryz.isAgg181
  z70 := Tryz.sizeOf181
  v70 := Tryz.zeroValue181
  t76 := Tryz.underlying185
  a76 := Tryz.isAgg185
  z76 := Tryz.sizeOf185
  v76 := Tryz.zeroValue185
  t77 := Tryz.underlying186
  a77 := Tryz.isAgg186
  z77 := Tryz.sizeOf186
  v77 := Tryz.zeroValue186 }
end Go.Proofs
namespace Go.Proofs.YtnnehafmjfmbnaaGreatDoor.A
set_option linter.unusedVariables false
set_option linter.unusedSimpArgs false
open Go.RowKit Go.Maps Go.Sort Go.Shelf Go.Proofs
theorem clA : ZfM Tryz.prog 92 where
 c:=⟨Tryz.f92,Tryz.func92,by kernel_rfl,by kernel_rfl⟩
 nil:=fun w=>AnyW.maps_Clone_nil Tryz.cloneA w
 some:=fun b es clock w hb=>AnyW.maps_Clone Tryz.cloneA b es clock w hb
theorem clB : ZfM Tryz.prog 125 where
 c:=⟨Tryz.f125,Tryz.func125,by kernel_rfl,by kernel_rfl⟩
 nil:=fun w=>AnyW.maps_Clone_nil Tryz.cloneB w
 some:=fun b es clock w hb=>AnyW.maps_Clone Tryz.cloneB b es clock w hb
theorem clC : ZfM Tryz.prog 126 where
 c:=⟨Tryz.f126,Tryz.func126,by kernel_rfl,by kernel_rfl⟩
 nil:=fun w=>AnyW.maps_Clone_nil Tryz.cloneC w
 some:=fun b es clock w hb=>AnyW.maps_Clone Tryz.cloneC b es clock w hb
def Zh1 (x y : List UInt8) : Int:=if x < y then -1 else if y < x then 1 else 0
theorem Zvw (x : List UInt8) (w : World) : Calls Tryz.prog 141 #[encStr x] w fun e w'=>e=.returned (.bool false)∧w'=w:=by
 go_enter Tryz.func141,Tryz.ntmps141
 go_wp2
 go_ret
 exact ⟨by simp,rfl⟩
theorem Zmw (x y : List UInt8) : x < y∨x=y∨y < x:=by
 by_cases h : x < y
 ·exact .inl h
 ·by_cases h2 : y < x
  ·exact .inr (.inr h2)
  ·exact .inr (.inl (List.le_antisymm h2 h))
theorem Zti (x y : List UInt8) (w : World) : Calls Tryz.prog 130 #[encStr x,encStr y] w fun e w'=>e=.returned (.int .i64 (Zh1 x y))∧w'=w:=by
 have e141 : ∀ args w,(callFunc 141 args).run Tryz.prog w=.ok (.enter 141 args) w:=enters_of Tryz.func141 (by kernel_rfl) rfl
 have hb : Op.bytesLess x y=decide (x < y):=bytesLess_eq x y
 have ht:=Zmw x y
 have hn : ∀ a : List UInt8,¬ a < a:=fun a=>List.lt_irrefl a
 have has : x < y→¬ y < x:=fun h=>List.lt_asymm h
 go_enter Tryz.func130,Tryz.ntmps130
 go_wp2_with (go_at_call 141;refine (Zvw _ _).mono ?_;rintro e w' ⟨rfl,hw⟩;rw [hw])
 all_goals (go_ret;refine ⟨?_,rfl⟩;unfold Zh1;rw [hb] at *;by_cases h1 : x < y <;> by_cases h2 : y < x <;> simp_all <;> exact absurd h2 (List.lt_irrefl _))
theorem ZoB (x y : List UInt8) (w : World) : Calls Tryz.prog 97 #[encStr x,encStr y] w fun e w'=>e=.returned (.int .i64 (Zh1 x y))∧w'=w:=by
 have e130 : ∀ args w,(callFunc 130 args).run Tryz.prog w=.ok (.enter 130 args) w:=enters_of Tryz.func130 (by kernel_rfl) rfl
 go_enter Tryz.func97,Tryz.ntmps97
 go_wp2_with (go_at_call 130;refine (Zti _ _ _).mono ?_;rintro e w' ⟨rfl,hw⟩;rw [hw])
 go_ret
 exact ⟨rfl,rfl⟩
theorem ZvA (blk off size : Nat) (w : World) : CmpLays1 Tryz.prog 97 #[] encStr Zh1 blk off size w:=fun m os dk hd x y=>
 (ZoB x y _).mono fun e w' ⟨he,hw⟩=>⟨he,0,#[],by rw [hw];simp [grow,World.drewN]⟩
theorem Zgd (x y : List UInt8) : ltOf Zh1 x y=decide (x < y):=by
 unfold ltOf Zh1
 by_cases h1 : x < y
 ·simp [h1]
 ·by_cases h2 : y < x <;> simp [h1,h2]
theorem Zw2 : SWO (ltOf Zh1) where
 irrefl x:=by rw [Zgd];exact decide_eq_false (List.lt_irrefl x)
 trans x y z h1 h2:=by rw [Zgd] at *;simp only [decide_eq_true_eq] at *;exact List.lt_trans h1 h2
 ntrans x y z h1 h2:=by
  rw [Zgd] at *
  simp only [decide_eq_false_iff_not] at *
  exact List.le_trans h2 h1
theorem Ztz {ss : List (List UInt8)} {d' : Array (List UInt8)} (hp : PermIn 0 ss.toArray.size ss.toArray d') (hs : SortedIn (ltOf Zh1) 0 ss.toArray.size d') : d'=(ss.mergeSort fun x y=>decide (x≤y)).toArray:=by
 have hsz : d'.size=ss.length:=by simpa using hp.1
 have hperm : d'.toList.Perm ss:=by
  have h3 : d'.toList.Perm (ss.take d'.size):=by simpa [← hsz] using hp.2.2
  rwa [List.take_of_length_le (by omega)] at h3
 have hpw : d'.toList.Pairwise fun x y=>(decide (x≤y))=true:=by
  rw [List.pairwise_iff_getElem]
  intro i j hi hj hij
  have hi' : i < d'.size:=by simpa using hi
  have hj' : j < d'.size:=by simpa using hj
  have:=hs i j (Nat.zero_le _) hij (by simpa [hsz] using hj')
  rw [Zgd,getElem!_pos d' j hj',getElem!_pos d' i hi'] at this
  simp only [decide_eq_false_iff_not] at this
  simp only [Array.getElem_toList,decide_eq_true_eq]
  exact this
 have h1 : d'.toList.mergeSort (fun x y=>decide (x≤y))=d'.toList:=List.mergeSort_of_pairwise hpw
 have h2:=mergeSort_of_perm hperm
 apply Array.ext'
 rw [← h1]
 exact h2
theorem Zuc {g : FuncId} {args : List Value} {v : Value} {n : Nat} (hg : g < Zbj) (hc : Zce Tryz.prog g) (hx : ∀ w : World,RVs (ι0 Tryz.prog.globals.size) args args) (hrun : ∃ H',run Tryz.prog (fun _=>none) lvs n g args (List.replicate Tryz.prog.globals.size Ze.dead)=some (v,H')) (w : World) :
  Calls Tryz.prog g args.toArray w fun e w'=>∃ v',e=.returned v'∧Go.RowKit.Below w.heap.size w w':=by
 obtain ⟨H',hrun⟩:=hrun
 have hs:=Zgj (P:=Tryz.prog) (prim:=fun _=>none) (lvs:=lvs) (by kernel_rfl) (fun b g m h=>by cases h) n (b0 w) g args _ v H' hrun
 rcases hs with ⟨_,hC | ⟨e,⟨fn',h1,_,h2,_⟩,_⟩⟩ | ⟨hno,_⟩
 ·obtain ⟨_,hC⟩:=hC
  refine (hC (ι0 Tryz.prog.globals.size) w args Zwy (hx w)).mono fun e w' ⟨ι1,v',_,he,_,hS⟩=>⟨v',he,?_⟩
  exact ⟨hS.rest.1,hS.rest.2.1,hS.rest.2.2,hS.size,hS.old⟩
 ·obtain ⟨fn,h3,_,h4⟩:=hc
  rw [h3] at h1;cases h1
  rw [h4] at h2;cases h2
 ·exact absurd hg (Nat.not_lt_of_le hno)
noncomputable abbrev R0 (n : Nat) : Zd:=run Tryz.prog (fun _=>none) lvs n
section
variable {H : Zc} {n : Nat} {f : Value}
theorem Zwj : R0 (n+1) Jj [.slice none 0 0,iv 0,iv 0,f] H=some (.tuple #[],H):=by
 rw [R0,Zck rfl]
 unfold Z9
 have w1 : IntKind.i64.wrap (0+1)=1:=w64 (by omega) (by omega)
 rw [Za Zy,w1]
 refine (QN (j:=0) (vs:=[]) (H':=H) (Z7 ?_)).trans ?_
 ·simp [Z9.l1,↓ZR,ZS,↓Qj,Z5,Z6,Z3,↓Zb,JB,Zu,J9,Qc,Q8,Qf,Q7,Q9,Qx,Jh,Qy,QI,QJ,QF,Ja,Zm,Zv,Yq,Yj,QY,QO,JA,Zy,QZ,Jy,JC,Jm,ZB,Zt,Zo,QK,Ql,Z8,Q6,Jp,Jn,Jw,↓Yn,Jx,↓g_r,Yp,Bool.not_true,Bool.not_false,Bool.false_eq_true,Bool.true_eq_false,reduceIte,List.tail_cons,List.headD_cons,decide_true,decide_false,cond_true,cond_false,Nat.beq_refl,Kf,YQ,Qt,Z4,ZK,Qk,Ji,Q4,YR,Yw,J0,Yc,Yb,ZM,List.replicate,Zk,Zj,QS,QU,QV,Zg,Jk,ZH,ZP]
 ·rw [ZM];rfl
theorem Zwv {l : Value} : R0 (n+2) QW [.slice none 0 0,iv 0,iv 0,l,f] H=some (.tuple #[],H):=by
 have e1 : run Tryz.prog (fun _=>none) lvs (n+1) Jj [.slice none 0 0,iv 0,iv 0,f] H=_:=Zwj
 rw [R0,ZdC rfl]
 unfold Ju
 refine (Ku (v:=.tuple #[]) (H':=H) (Yz ?_)).trans rfl
 have w1 : IntKind.i64.wrap (0 - 0)=0:=w64 (by omega) (by omega)
 rw [Q4]
 unfold Ju.l1
 refine Ku ?_
 rw [Za QZ,w1,Za QK,Zb,if_pos (by simp),Za e1]
 rfl
theorem Zvq {s : ByteArray} {i : Nat} (hi : i < s.size) (q : IntKind) (H : Zc) : ∃ b : UInt8,ixs (.string s) (.int q i) H=some (.int .u8 b.toNat,H):=by
 refine ⟨s[i],?_⟩
 unfold ixs
 simp only [Int.toNat_natCast]
 rw [if_pos (by omega),getElem?_pos s i hi]
set_option maxRecDepth 100000 in
theorem Zv0 : ∃ v,R0 (n+2) ZcZ [.int .u64 0] H=some (v,H):=by
 have e : ∃ v,R0 (n+1) ZbW [.int .u64 0] H=some (v,H):=by
  rw [R0,Zki rfl]
  unfold ZdT
  have w1 : IntKind.u8.wrap 0=((0 : Nat) : Int):=by rw [wu8];rfl
  generalize ht : (⟨#[0,1,2,2,3,3,3,3,4,4,4,4,4,4,4,4,5,5,5,5,5,5,5,5,5,5,5,5,5,5,5,5,6,6,6,6,6,6,6,6,6,6,6,6,6,6,6,6,6,6,6,6,6,6,6,6,6,6,6,6,6,6,6,6,7,7,7,7,7,7,7,7,7,7,7,7,7,7,7,7,7,7,7,7,7,7,7,7,7,7,7,7,7,7,7,7,7,7,7,7,7,7,7,7,7,7,7,7,7,7,7,7,7,7,7,7,7,7,7,7,7,7,7,7,7,7,7,7,8,8,8,8,8,8,8,8,8,8,8,8,8,8,8,8,8,8,8,8,8,8,8,8,8,8,8,8,8,8,8,8,8,8,8,8,8,8,8,8,8,8,8,8,8,8,8,8,8,8,8,8,8,8,8,8,8,8,8,8,8,8,8,8,8,8,8,8,8,8,8,8,8,8,8,8,8,8,8,8,8,8,8,8,8,8,8,8,8,8,8,8,8,8,8,8,8,8,8,8,8,8,8,8,8,8,8,8,8,8,8,8,8,8,8,8,8,8,8,8,8,8,8,8,8,8,8,8]⟩ : ByteArray)=tab
  have hs : tab.size=256:=by rw [← ht];rfl
  obtain ⟨b,hb⟩:=Zvq (s:=tab) (i:=0) (by omega) .u8 H
  refine ⟨iv (IntKind.i64.wrap (0+IntKind.i64.wrap b.toNat)),?_⟩
  rw [Za Z8]
  refine (ZV (vs:=[.int .u64 0,iv 0]) (H':=H) (by rw [Zb,if_neg (by simp)];rfl)).trans ?_
  rw [Qt,Za Z8]
  refine (ZV (vs:=[.int .u64 0,iv 0]) (H':=H) (by rw [Zb,if_neg (by simp)];rfl)).trans ?_
  rw [Qt,Za Z8]
  refine (ZV (vs:=[.int .u64 0,iv 0]) (H':=H) (by rw [Zb,if_neg (by simp)];rfl)).trans ?_
  rw [Qt,Za Ja,w1,Za hb,Za Ja,Za Zy]
  rfl
 obtain ⟨v,e⟩:=e
 refine ⟨v,?_⟩
 rw [R0,ZmL rfl]
 unfold ZeR
 rw [Zb,if_neg (by simp),Za e]
 rfl
theorem ZuR : R0 (n+3) Wa [.slice none 0 0,f] H=some (.tuple #[],H):=by
 obtain ⟨v,e1⟩:=Zv0 (n:=n) (H:=H)
 have e2 : R0 (n+2) QW [.slice none 0 0,iv 0,iv 0,v,f] H=some (.tuple #[],H):=Zwv
 rw [R0,Zdv rfl]
 unfold K2
 have w1 : IntKind.u64.wrap ((0 : Nat) : Int)=0:=by rw [ZwX];rfl
 rw [Za QJ,Za Ja,w1,Za e1]
 refine (Za e2).trans rfl
end
theorem Zuj (w : World) : Calls Tryz.prog 128 #[.slice none 0 0,.func (.func 97) #[] #[]] w fun e w'=>∃ v',e=.returned v'∧Go.RowKit.Below w.heap.size w w':=
 Zuc (args:=[.slice none 0 0,.func (.func 97) #[] #[]]) (n:=3) (by decide) ⟨Tryz.f128,Tryz.func128,by kernel_rfl,by kernel_rfl⟩ (fun w=>.cons (.sc rfl) (.cons (.fn (fun l h=>by cases h) rfl (fun i hi=>by cases hi) rfl (fun i hi=>by cases hi)) .nil)) ⟨_,ZuR (n:=0)⟩ w
theorem ZhB {gk : FuncId} (hg : ∀ args w,(callFunc gk args).run Tryz.prog w=.ok (.enter gk args) w)
  (hseq : ∀ (w : World) (Bm b : Nat) (es : Array MapEntry) (clock : Nat) (ks : List (List UInt8)),Bm < w.heap.size→w.cell? ⟨Bm,0,none⟩=some (.map (some b))→w.heap[b]?=some (.map es clock)→es.toList.map (·.key)=ks.map strv→Go.MapKept.Stamped es clock→
   (∀ k∈ks,k.length≤1000000)→ks.length≤1000000→SeqGives Fence.wide 3 Tryz.prog gk #[.pointer (some ⟨Bm,0,none⟩)] encStr (fun ss=>ss.Perm ks) ks.length w) : ZgU Tryz.prog 95 gk 97 where
 c:=⟨Tryz.f95,Tryz.func95,by kernel_rfl,by kernel_rfl⟩
 run:=fun w Bm b es clock ks hB hc hb hk hst hl hf=>by
  have e128 : ∀ args w,(callFunc 128 args).run Tryz.prog w=.ok (.enter 128 args) w:=enters_of Tryz.func128 (by kernel_rfl) rfl
  have e97 : ∀ args w,(callFunc 97 args).run Tryz.prog w=.ok (.enter 97 args) w:=enters_of Tryz.func97 (by kernel_rfl) rfl
  have hmax : ks.length≤maxLen:=Nat.le_trans hf (by decide)
  have cC:=AnyZ.collect_in Tryz.collA Fence.wide 5 trivial trivial rfl (by omega) gk #[.pointer (some ⟨Bm,0,none⟩)] trivial hg _ _ hmax (by omega) w (hseq w Bm b es clock ks hB hc hb hk hst hl hf)
  have cC:=(callsIn_wide (n:=5)).1 cC
  change Calls Tryz.prog 127 _ _ _ at cC
  go_enter Tryz.func95,Tryz.ntmps95
  go_wp2_with (go_at_call 127;refine cC.mono ?_;rintro e W ⟨v,ss,rfl,hS,hrow,hnil,hbl⟩)
  have hlen : ss.length=ks.length:=hS.length_eq
  rcases hrow.2 with ⟨rfl,hz⟩ | ⟨gb,cap,cur,rfl,hbase,hgb,r1,r2,r3,r4⟩
  ·have hss : ss=[]:=List.eq_nil_of_length_eq_zero hz
   go_wp2_with (go_at_call 128;refine (Zuj W).mono ?_;rintro e w' ⟨v',rfl,hb2⟩)
   go_ret
   have hks : ks=[]:=List.eq_nil_of_length_eq_zero (by rw [← hlen,hss];rfl)
   subst hks
   exact ⟨_,0,rfl,⟨by simp [Yl],.inl ⟨rfl,rfl⟩⟩,by simp,hbl.trans (hb2.mono (by have:=hbl.size;omega))⟩
  ·have hH : Holds encStr W gb 0 ss.toArray:=holds_of_block hgb (by simpa using r4)
   have hgl : gb < W.heap.size:=(Array.getElem?_eq_some_iff.1 hgb).1
   have cS:=Any.slices_SortFunc Tryz.sortA encStr (fun _=>rfl) Zh1 Zw2 97 #[] gb 0 cap ss.toArray W e97 (ZvA gb 0 _ W) hH hgl (by simp;omega)
   change Calls Tryz.prog 128 #[.slice (some ⟨gb,0,none⟩) ss.length cap,.func (.func 97) #[] #[]] W _ at cS
   go_wp2_with (go_at_call 128;refine cS.mono ?_;rintro e w' ⟨rfl,d',nn,os,hp,hs,rfl⟩)
   go_ret
   have hd:=Ztz hp hs
   subst hd
   have hks : Yl ks=ss.mergeSort (fun x y=>decide (x≤y)):=(mergeSort_of_perm hS).symm
   rw [← hlen,hks]
   exact ⟨_,_,rfl,ownsRow_sorted (by simp) hbase hgb r1 r2 r3,hnil.trans ⟨fun h=>List.eq_nil_of_length_eq_zero (by rw [← hlen,h];rfl),fun h=>List.eq_nil_of_length_eq_zero (by rw [hlen,h];rfl)⟩,hbl.grown (grownBy_sorted _) hbl.size (fun j hj=>by cases hj;exact hbase)⟩
section
variable {H : Type}
def Zpg (v : Value) : Option (DataW H × List MemPlace):=some (.nil,[])
theorem ZpJ {P : Program} {k : TypeId} (hk : P.underlying k=some .string) {w : World} {b clock : Nat} {es : Array MapEntry} {ks : List (List UInt8)} (hb : w.heap[b]?=some (.map es clock)) (hks : es.toList.map (·.key)=ks.map strv) (hst : Go.MapKept.Stamped es clock)
  (hl : ∀ k∈ks,k.length≤1000000) (hf : ks.length≤1000000) : ∃ D0 : DataW H,w.ownsMap P k Zpg b ks.length D0∧ks.Perm (strKeys D0)∧Maps.size D0=ks.length:=by
 have hsz : es.size=ks.length:=by
  have:=congrArg List.length hks
  simpa using this
 have hrd : ∀ (x : MapEntry) (s : List UInt8),x.key=strv s→s.length≤1000000→Go.WideElems.rd (H:=H) P k Zpg x=some (.string s,.nil):=fun x s hs hlen=>by
  have h1 : (⟨s.toArray⟩ : ByteArray).size≤maxLen:=Nat.le_trans (by simpa [ByteArray.size] using hlen) (by decide)
  simp [Go.WideElems.rd,hs,keyOf,hk,mapKey,Zpg,h1,strv]
 have hmap : ∀ (l : List MapEntry) (q : List (List UInt8)),l.map (·.key)=q.map strv→(∀ s∈q,s.length≤1000000)→l.map (Go.WideElems.rg (H:=H) P k Zpg)=q.map fun s=>(Lit.string s,DataW.nil):=by
  intro l
  induction l with
  | nil=>intro q h _;cases q with | nil=>rfl | cons a q=>simp at h
  | cons x l ih=>
   intro q h hq
   cases q with
   | nil=>simp at h
   | cons a q=>
    simp only [List.map_cons,List.cons.injEq] at h
    rw [List.map_cons,List.map_cons,ih q h.2 (fun s hs=>hq s (List.mem_cons_of_mem _ hs))]
    congr 1
    unfold Go.WideElems.rg
    rw [hrd x a h.1 (hq a (by simp))]
    rfl
 refine ⟨.map ((es.toList.map (Go.WideElems.rg P k Zpg)).foldr DataW.insert []),⟨es,clock,hb,⟨by rw [hsz];exact Nat.le_trans hf (by decide),hst,fun x hx=>?_⟩,by omega,rfl⟩,?_,?_⟩
 ·have : x.key∈ks.map strv:=by rw [← hks];exact List.mem_map.2 ⟨x,hx,rfl⟩
  obtain ⟨s,h1,h2⟩:=List.mem_map.1 this
  exact ⟨_,hrd x s h2.symm (hl s h1)⟩
 ·rw [hmap _ _ hks hl]
  have h1:=(Go.WideShapes.sorted_perm (H:=H) (ks.map fun s=>(Lit.string s,DataW.nil))).map fun p=>Go.strOf p.1
  have h2 : (ks.map fun s=>(Lit.string s,(DataW.nil : DataW H))).map (fun p=>Go.strOf p.1)=ks:=by
   rw [List.map_map];exact (List.map_congr_left fun a _=>rfl).trans (List.map_id ks)
  rw [h2] at h1
  exact h1.symm
 ·rw [hmap _ _ hks hl]
  have:=(Go.WideShapes.sorted_perm (H:=H) (ks.map fun s=>(Lit.string s,DataW.nil))).length_eq
  rw [List.length_map] at this
  exact this
end
theorem Zk7 {g Bm n : Nat} {ks ks' : List (List UInt8)} {w : World} (h : SeqGives Fence.wide 3 Tryz.prog g #[.pointer (some ⟨Bm,0,none⟩)] encStr (fun ss=>ss.Perm ks') n w) (hn : n=ks.length) (hp : ks.Perm ks') : SeqGives Fence.wide 3 Tryz.prog g #[.pointer (some ⟨Bm,0,none⟩)] encStr (fun ss=>ss.Perm ks) ks.length w:=by
 subst hn
 intro l J W hW hJ hY h0
 refine (h l J W hW hJ hY h0).mono fun e w' ⟨h1,xs,h2,h3⟩=>⟨h1,xs,h2.trans hp.symm,h3⟩
theorem keysA : ZgU Tryz.prog 95 129 97:=ZhB (enters_of Tryz.func129 (by kernel_rfl) rfl) fun w Bm b es clock ks hB hc hb hk hst hl hf=>by
 obtain ⟨D0,hown,hp,hs⟩:=ZpJ (H:=Unit) (P:=Tryz.prog) (k:=Tryz.keysA_ren.t 26) (by kernel_rfl) hb hk hst hl hf
 exact Zk7 (AnyZ.keys_gives (ρ:=Tryz.keysA_ren) { Tryz.keysA with } Fence.wide 3 trivial rfl (by omega) Bm b ks.length D0 w hB hc hown) hs hp
theorem keysB : ZgU Tryz.prog 95 143 97:=ZhB (enters_of Tryz.func143 (by kernel_rfl) rfl) fun w Bm b es clock ks hB hc hb hk hst hl hf=>by
 obtain ⟨D0,hown,hp,hs⟩:=ZpJ (H:=Unit) (P:=Tryz.prog) (k:=Tryz.keysB_ren.t 26) (by kernel_rfl) hb hk hst hl hf
 exact Zk7 (AnyZ.keys_gives (ρ:=Tryz.keysB_ren) { Tryz.keysB with } Fence.wide 3 trivial rfl (by omega) Bm b ks.length D0 w hB hc hown) hs hp
theorem keysC : ZgU Tryz.prog 95 158 97:=ZhB (enters_of Tryz.func158 (by kernel_rfl) rfl) fun w Bm b es clock ks hB hc hb hk hst hl hf=>by
 obtain ⟨D0,hown,hp,hs⟩:=ZpJ (H:=Unit) (P:=Tryz.prog) (k:=Tryz.keysC_ren.t 26) (by kernel_rfl) hb hk hst hl hf
 exact Zk7 (AnyZ.keys_gives (ρ:=Tryz.keysC_ren) { Tryz.keysC with } Fence.wide 3 trivial rfl (by omega) Bm b ks.length D0 w hB hc hown) hs hp
abbrev ZfQ : List Nat:=[129,143,158]
noncomputable def np : Nat→Option (List Value→M Value)
 | 92=>some Zbl
 | 125=>some Zbl
 | 126=>some Zbl
 | 94=>some Zg3
 | 95=>some (ZcH ZfQ Yo)
 | 171=>some Zhn
 | 165=>some Zhv
 | _=>none
theorem np_sound (w0 : Qd) : ∀ g m,np g=some m→Zey Tryz.prog Tryz.prog.globals.size w0 g m:=by
 intro g m h
 unfold np at h
 split at h
 ·cases h;exact Zgt clA
 ·cases h;exact Zgt clB
 ·cases h;exact Zgt clC
 ·cases h;exact Zsr (Zv6 clC)
 ·cases h
  exact Zq3 (by simp) fun gk hg=>by
   simp only [List.mem_cons,List.not_mem_nil,or_false] at hg
   rcases hg with rfl | rfl | rfl
   ·exact keysA
   ·exact keysB
   ·exact keysC
 ·cases h;exact (Zsn ⟨Tryz.f171,Tryz.func171,by kernel_rfl,by kernel_rfl,by kernel_rfl,by kernel_rfl⟩)
 ·cases h;exact (ZrX ⟨Tryz.f165,Tryz.func165,by kernel_rfl,by kernel_rfl,by kernel_rfl,by kernel_rfl⟩)
 ·cases h
noncomputable abbrev R (n : Nat) : Zd:=run Tryz.prog np lvs n
end Go.Proofs.YtnnehafmjfmbnaaGreatDoor.A

namespace Go.Proofs.YtnnehafmjfmbnaaGreatDoor.A
set_option linter.unusedVariables false
set_option linter.unusedSimpArgs false
open Go.Proofs Go.Proofs.YtnnehafmjfmbnaaGreatDoor
abbrev u8v (b : UInt8) : Value:=.int .u8 b.toNat
def KN (b : UInt8) : Bool:=decide (97≤b.toNat) && decide (b.toNat≤122)
def Zcn (b : UInt8) : Bool:=decide (48≤b.toNat) && decide (b.toNat≤57)
def Zcy (b : UInt8) : Bool:=KN b || (Zcn b || (decide (b.toNat=45) || decide (b.toNat=46)))
def ZiF (b : UInt8) : Bool:=Zcn b || (decide (97≤b.toNat) && decide (b.toNat≤102))
def Wh (b : UInt8) : Bool:=KN b || Zcn b
def Zs (s : List UInt8) : Bool:=decide (1≤s.length) && decide (s.length≤12) && s.all Zcy && KN (s.getD 0 0) && Wh (s.getD (s.length - 1) 0)
def Zdw (s : List UInt8) : Bool:=decide (s.length≤12) && s.all Zcy
def Zbq (s : List UInt8) : Bool:=decide (1≤s.length) && decide (s.length≤12) && s.all ZiF
section
variable {H : Zc} {n : Nat} {b : UInt8} {s : List UInt8}
theorem ZbZ {i : Nat} {x : UInt8} (hi : s[i]?=some x) (q : IntKind) (H : Zc) : ixs (strv s) (.int q i) H=some (u8v x,H):=by
 have hlt : i < s.length:=(List.getElem?_eq_some_iff.1 hi).1
 have hx : s[i]=x:=(List.getElem?_eq_some_iff.1 hi).2
 have hs : i < (⟨s.toArray⟩ : ByteArray).size:=by simpa [ByteArray.size] using hlt
 unfold ixs strv
 simp only [Int.toNat_natCast]
 rw [if_pos (by omega),getElem?_pos (⟨s.toArray⟩ : ByteArray) i hs]
 have : (⟨s.toArray⟩ : ByteArray)[i]=x:=by rw [← hx];rfl
 rw [this]
theorem ZhI : R (n+1) YM [u8v b] H=some (.bool (KN b),H):=by
 rw [R,Znv rfl]
 unfold KN
 by_cases h1 : (97 : Int)≤b.toNat
 ·have h1' : 97≤b.toNat:=by omega
  by_cases h2 : (b.toNat : Int)≤122
  ·have h2' : b.toNat≤122:=by omega
   simp [Zcg,↓ZR,ZS,↓Qj,Z5,Z6,Z3,↓Zb,JB,Zu,J9,Qc,Q8,Qf,Q7,Q9,Qx,Jh,Qy,QI,QJ,QF,Ja,Zm,Zv,Yq,Yj,QY,QO,JA,Zy,QZ,Jy,JC,Jm,ZB,Zt,Zo,QK,Ql,Z8,Q6,Jp,Jn,Jw,↓Yn,Jx,↓g_r,Yp,Bool.not_true,Bool.not_false,Bool.false_eq_true,Bool.true_eq_false,reduceIte,List.tail_cons,List.headD_cons,decide_true,decide_false,cond_true,cond_false,Nat.beq_refl,Kf,YQ,Qt,Z4,ZK,Qk,Ji,Q4,YR,Yw,J0,Yc,Yb,ZM,List.replicate,Zk,Zj,QS,QU,QV,Zg,Jk,ZH,ZP,h1,h2,h1',h2']
  ·have h2' : ¬ b.toNat≤122:=by omega
   simp [Zcg,↓ZR,ZS,↓Qj,Z5,Z6,Z3,↓Zb,JB,Zu,J9,Qc,Q8,Qf,Q7,Q9,Qx,Jh,Qy,QI,QJ,QF,Ja,Zm,Zv,Yq,Yj,QY,QO,JA,Zy,QZ,Jy,JC,Jm,ZB,Zt,Zo,QK,Ql,Z8,Q6,Jp,Jn,Jw,↓Yn,Jx,↓g_r,Yp,Bool.not_true,Bool.not_false,Bool.false_eq_true,Bool.true_eq_false,reduceIte,List.tail_cons,List.headD_cons,decide_true,decide_false,cond_true,cond_false,Nat.beq_refl,Kf,YQ,Qt,Z4,ZK,Qk,Ji,Q4,YR,Yw,J0,Yc,Yb,ZM,List.replicate,Zk,Zj,QS,QU,QV,Zg,Jk,ZH,ZP,h1,h2,h1',h2']
 ·have h1' : ¬ 97≤b.toNat:=by omega
  simp [Zcg,↓ZR,ZS,↓Qj,Z5,Z6,Z3,↓Zb,JB,Zu,J9,Qc,Q8,Qf,Q7,Q9,Qx,Jh,Qy,QI,QJ,QF,Ja,Zm,Zv,Yq,Yj,QY,QO,JA,Zy,QZ,Jy,JC,Jm,ZB,Zt,Zo,QK,Ql,Z8,Q6,Jp,Jn,Jw,↓Yn,Jx,↓g_r,Yp,Bool.not_true,Bool.not_false,Bool.false_eq_true,Bool.true_eq_false,reduceIte,List.tail_cons,List.headD_cons,decide_true,decide_false,cond_true,cond_false,Nat.beq_refl,Kf,YQ,Qt,Z4,ZK,Qk,Ji,Q4,YR,Yw,J0,Yc,Yb,ZM,List.replicate,Zk,Zj,QS,QU,QV,Zg,Jk,ZH,ZP,h1,h1']
theorem ZjX : R (n+1) Ke [u8v b] H=some (.bool (Zcn b),H):=by
 rw [R,ZoG rfl]
 unfold Zcn
 by_cases h1 : (48 : Int)≤b.toNat
 ·have h1' : 48≤b.toNat:=by omega
  by_cases h2 : (b.toNat : Int)≤57
  ·have h2' : b.toNat≤57:=by omega
   simp [ZcM,↓ZR,ZS,↓Qj,Z5,Z6,Z3,↓Zb,JB,Zu,J9,Qc,Q8,Qf,Q7,Q9,Qx,Jh,Qy,QI,QJ,QF,Ja,Zm,Zv,Yq,Yj,QY,QO,JA,Zy,QZ,Jy,JC,Jm,ZB,Zt,Zo,QK,Ql,Z8,Q6,Jp,Jn,Jw,↓Yn,Jx,↓g_r,Yp,Bool.not_true,Bool.not_false,Bool.false_eq_true,Bool.true_eq_false,reduceIte,List.tail_cons,List.headD_cons,decide_true,decide_false,cond_true,cond_false,Nat.beq_refl,Kf,YQ,Qt,Z4,ZK,Qk,Ji,Q4,YR,Yw,J0,Yc,Yb,ZM,List.replicate,Zk,Zj,QS,QU,QV,Zg,Jk,ZH,ZP,h1,h2,h1',h2']
  ·have h2' : ¬ b.toNat≤57:=by omega
   simp [ZcM,↓ZR,ZS,↓Qj,Z5,Z6,Z3,↓Zb,JB,Zu,J9,Qc,Q8,Qf,Q7,Q9,Qx,Jh,Qy,QI,QJ,QF,Ja,Zm,Zv,Yq,Yj,QY,QO,JA,Zy,QZ,Jy,JC,Jm,ZB,Zt,Zo,QK,Ql,Z8,Q6,Jp,Jn,Jw,↓Yn,Jx,↓g_r,Yp,Bool.not_true,Bool.not_false,Bool.false_eq_true,Bool.true_eq_false,reduceIte,List.tail_cons,List.headD_cons,decide_true,decide_false,cond_true,cond_false,Nat.beq_refl,Kf,YQ,Qt,Z4,ZK,Qk,Ji,Q4,YR,Yw,J0,Yc,Yb,ZM,List.replicate,Zk,Zj,QS,QU,QV,Zg,Jk,ZH,ZP,h1,h2,h1',h2']
 ·have h1' : ¬ 48≤b.toNat:=by omega
  simp [ZcM,↓ZR,ZS,↓Qj,Z5,Z6,Z3,↓Zb,JB,Zu,J9,Qc,Q8,Qf,Q7,Q9,Qx,Jh,Qy,QI,QJ,QF,Ja,Zm,Zv,Yq,Yj,QY,QO,JA,Zy,QZ,Jy,JC,Jm,ZB,Zt,Zo,QK,Ql,Z8,Q6,Jp,Jn,Jw,↓Yn,Jx,↓g_r,Yp,Bool.not_true,Bool.not_false,Bool.false_eq_true,Bool.true_eq_false,reduceIte,List.tail_cons,List.headD_cons,decide_true,decide_false,cond_true,cond_false,Nat.beq_refl,Kf,YQ,Qt,Z4,ZK,Qk,Ji,Q4,YR,Yw,J0,Yc,Yb,ZM,List.replicate,Zk,Zj,QS,QU,QV,Zg,Jk,ZH,ZP,h1,h1']
theorem Zky {a b : Nat} : ((a : Int)==(b : Int))=decide (a=b):=by
 rw [Bool.eq_iff_iff,beq_iff_eq,decide_eq_true_eq];omega
theorem Zv2 : R (n+2) ZcA [u8v b] H=some (.bool (Zcy b),H):=by
 have e1 : run Tryz.prog np lvs (n+1) YM [u8v b] H=some (.bool (KN b),H):=ZhI
 have e2 : run Tryz.prog np lvs (n+1) Ke [u8v b] H=some (.bool (Zcn b),H):=ZjX
 have q1 : ((b.toNat : Int)==45)=decide (b.toNat=45):=Zky (b:=45)
 have q2 : ((b.toNat : Int)==46)=decide (b.toNat=46):=Zky (b:=46)
 rw [R,ZpO rfl]
 unfold Zcy
 generalize KN b=p at e1 ⊢
 generalize Zcn b=q at e2 ⊢
 cases p <;> cases q <;> cases h3 : decide (b.toNat=45) <;> simp [Zh0,↓ZR,ZS,↓Qj,Z5,Z6,Z3,↓Zb,JB,Zu,J9,Qc,Q8,Qf,Q7,Q9,Qx,Jh,Qy,QI,QJ,QF,Ja,Zm,Zv,Yq,Yj,QY,QO,JA,Zy,QZ,Jy,JC,Jm,ZB,Zt,Zo,QK,Ql,Z8,Q6,Jp,Jn,Jw,↓Yn,Jx,↓g_r,Yp,Bool.not_true,Bool.not_false,Bool.false_eq_true,Bool.true_eq_false,reduceIte,List.tail_cons,List.headD_cons,decide_true,decide_false,cond_true,cond_false,Nat.beq_refl,Kf,YQ,Qt,Z4,ZK,Qk,Ji,Q4,YR,Yw,J0,Yc,Yb,ZM,List.replicate,Zk,Zj,QS,QU,QV,Zg,Jk,ZH,ZP,e1,e2,q1,q2,h3] <;> (cases h4 : decide (b.toNat=46) <;> simp_all)
theorem ZwL : R (n+2) ZcQ [u8v b] H=some (.bool (ZiF b),H):=by
 have e2 : run Tryz.prog np lvs (n+1) Ke [u8v b] H=some (.bool (Zcn b),H):=ZjX
 rw [R,Zov rfl]
 unfold ZiF
 generalize Zcn b=q at e2 ⊢
 cases q
 ·by_cases h1 : (97 : Int)≤b.toNat
  ·have h1' : 97≤b.toNat:=by omega
   by_cases h2 : (b.toNat : Int)≤102
   ·have h2' : b.toNat≤102:=by omega
    simp [ZbO,↓ZR,ZS,↓Qj,Z5,Z6,Z3,↓Zb,JB,Zu,J9,Qc,Q8,Qf,Q7,Q9,Qx,Jh,Qy,QI,QJ,QF,Ja,Zm,Zv,Yq,Yj,QY,QO,JA,Zy,QZ,Jy,JC,Jm,ZB,Zt,Zo,QK,Ql,Z8,Q6,Jp,Jn,Jw,↓Yn,Jx,↓g_r,Yp,Bool.not_true,Bool.not_false,Bool.false_eq_true,Bool.true_eq_false,reduceIte,List.tail_cons,List.headD_cons,decide_true,decide_false,cond_true,cond_false,Nat.beq_refl,Kf,YQ,Qt,Z4,ZK,Qk,Ji,Q4,YR,Yw,J0,Yc,Yb,ZM,List.replicate,Zk,Zj,QS,QU,QV,Zg,Jk,ZH,ZP,e2,h1,h2,h1',h2']
   ·have h2' : ¬ b.toNat≤102:=by omega
    simp [ZbO,↓ZR,ZS,↓Qj,Z5,Z6,Z3,↓Zb,JB,Zu,J9,Qc,Q8,Qf,Q7,Q9,Qx,Jh,Qy,QI,QJ,QF,Ja,Zm,Zv,Yq,Yj,QY,QO,JA,Zy,QZ,Jy,JC,Jm,ZB,Zt,Zo,QK,Ql,Z8,Q6,Jp,Jn,Jw,↓Yn,Jx,↓g_r,Yp,Bool.not_true,Bool.not_false,Bool.false_eq_true,Bool.true_eq_false,reduceIte,List.tail_cons,List.headD_cons,decide_true,decide_false,cond_true,cond_false,Nat.beq_refl,Kf,YQ,Qt,Z4,ZK,Qk,Ji,Q4,YR,Yw,J0,Yc,Yb,ZM,List.replicate,Zk,Zj,QS,QU,QV,Zg,Jk,ZH,ZP,e2,h1,h2,h1',h2']
  ·have h1' : ¬ 97≤b.toNat:=by omega
   simp [ZbO,↓ZR,ZS,↓Qj,Z5,Z6,Z3,↓Zb,JB,Zu,J9,Qc,Q8,Qf,Q7,Q9,Qx,Jh,Qy,QI,QJ,QF,Ja,Zm,Zv,Yq,Yj,QY,QO,JA,Zy,QZ,Jy,JC,Jm,ZB,Zt,Zo,QK,Ql,Z8,Q6,Jp,Jn,Jw,↓Yn,Jx,↓g_r,Yp,Bool.not_true,Bool.not_false,Bool.false_eq_true,Bool.true_eq_false,reduceIte,List.tail_cons,List.headD_cons,decide_true,decide_false,cond_true,cond_false,Nat.beq_refl,Kf,YQ,Qt,Z4,ZK,Qk,Ji,Q4,YR,Yw,J0,Yc,Yb,ZM,List.replicate,Zk,Zj,QS,QU,QV,Zg,Jk,ZH,ZP,e2,h1,h1']
 ·simp [ZbO,↓ZR,ZS,↓Qj,Z5,Z6,Z3,↓Zb,JB,Zu,J9,Qc,Q8,Qf,Q7,Q9,Qx,Jh,Qy,QI,QJ,QF,Ja,Zm,Zv,Yq,Yj,QY,QO,JA,Zy,QZ,Jy,JC,Jm,ZB,Zt,Zo,QK,Ql,Z8,Q6,Jp,Jn,Jw,↓Yn,Jx,↓g_r,Yp,Bool.not_true,Bool.not_false,Bool.false_eq_true,Bool.true_eq_false,reduceIte,List.tail_cons,List.headD_cons,decide_true,decide_false,cond_true,cond_false,Nat.beq_refl,Kf,YQ,Qt,Z4,ZK,Qk,Ji,Q4,YR,Yw,J0,Yc,Yb,ZM,List.replicate,Zk,Zj,QS,QU,QV,Zg,Jk,ZH,ZP,e2]
theorem ZsX {f : Value} {p : UInt8→Bool} (hf : ∀ (b : UInt8) (H : Zc),Jf (R n) f [u8v b] H=some (.bool (p b),H)) (hs : s.length≤1000000000) : ∀ (t k : Nat),s.length - k=t→k≤s.length→
  Zi (c4 (WK.l1 (R n))) [strv s,f,iv s.length,iv k] H=some (if (s.drop k).all p then .ext 0 [] else .ret (.bool false),H)
 | 0,k,ht,hk=>by
  have : k=s.length:=by omega
  subst this
  rw [List.drop_length]
  refine Z7 ?_
  simp [WK.l1,↓ZR,ZS,↓Qj,Z5,Z6,Z3,↓Zb,JB,Zu,J9,Qc,Q8,Qf,Q7,Q9,Qx,Jh,Qy,QI,QJ,QF,Ja,Zm,Zv,Yq,Yj,QY,QO,JA,Zy,QZ,Jy,JC,Jm,ZB,Zt,Zo,QK,Ql,Z8,Q6,Jp,Jn,Jw,↓Yn,Jx,↓g_r,Yp,Bool.not_true,Bool.not_false,Bool.false_eq_true,Bool.true_eq_false,reduceIte,List.tail_cons,List.headD_cons,decide_true,decide_false,cond_true,cond_false,Nat.beq_refl,Kf,YQ,Qt,Z4,ZK,Qk,Ji,Q4,YR,Yw,J0,Yc,Yb,ZM,List.replicate,Zk,Zj,QS,QU,QV,Zg,Jk,ZH,ZP]
 | t+1,k,ht,hk=>by
  have hkl : k < s.length:=by omega
  have hlt : (k : Int) < s.length:=by omega
  have hg:=List.getElem?_eq_getElem hkl
  have hd:=List.drop_eq_getElem_cons hkl
  generalize s[k]=b at hg hd
  have x1:=ZbZ hg .i64 H
  have ih:=ZsX hf hs t (k+1) (by omega) (by omega)
  rw [hd,List.all_cons]
  cases hp : p b
  ·refine Yz ?_
   have e:=hf b H
   rw [hp] at e
   rw [ZK]
   unfold WK.l1
   rw [Za Zo,Zb,if_pos (by simpa using hlt),Za x1,Za e,Za Zv,Zb,if_pos (by rfl)]
   rfl
  ·rw [Bool.true_and]
   refine (ZI ?_).trans ih
   have e:=hf b H
   rw [hp] at e
   rw [ZK]
   unfold WK.l1
   rw [Za Zo,Zb,if_pos (by simpa using hlt),Za x1,Za e,Za Zv,Zb,if_neg (by simp),Za Zy,Qu (by omega)]
   rfl
theorem Zsj {f : Value} {p : UInt8→Bool} (hf : ∀ (b : UInt8) (H : Zc),Jf (R n) f [u8v b] H=some (.bool (p b),H)) (hs : s.length≤1000000000) : R (n+1) Y8 [strv s,f] H=some (.bool (s.all p),H):=by
 have e:=ZsX (H:=H) hf hs s.length 0 (by omega) (by omega)
 rw [List.drop_zero] at e
 have e : Zi (c4 (WK.l1 (R n))) [strv s,f,iv s.length,.int .i64 0] H=_:=e
 rw [R,Zqz rfl]
 unfold WK
 rw [Za ZH]
 cases h : s.all p
 ·rw [h] at e
  rw [Ku e];rfl
 ·rw [h] at e
  rw [QN e,ZM];rfl
theorem Zqj {g : Nat} {args : List Value} (hy : Nat.blt g Zbj=true:=by rfl) : Jf (R n) (.func (.func g) #[] #[]) args=R n g args:=by
 have : Jf (R n) (.func (.func g) #[] #[]) args=R n g ([]++(args++[])):=by
  simp only [Jf,hy,cond_true]
 rw [this];simp
theorem Zn6 (hs : s.length≤1000000000) : R (n+3) Y8 [strv s,.func (.func ZcA) #[] #[]] H=some (.bool (s.all Zcy),H):=
 Zsj (fun b H=>by rw [Zqj];exact Zv2) hs
theorem Zt9 (hs : s.length≤1000000000) : R (n+3) Y8 [strv s,.func (.func ZcQ) #[] #[]] H=some (.bool (s.all ZiF),H):=
 Zsj (fun b H=>by rw [Zqj];exact ZwL) hs
theorem ZjZ : bop .str .eql (strv s) (.string ⟨#[]⟩) H=some (.bool (decide (s.length=0)),H):=by
 have:=Zb2 (H:=H) (a:=s) (b:=[])
 have h : (s==[])=decide (s.length=0):=by cases s <;> simp
 rw [h] at this
 exact this
theorem ZnR : R (n+4) Zab [strv s] H=some (.bool (Zs s),H):=by
 rw [R,Znc rfl]
 unfold Zs
 by_cases h0 : s.length=0
 ·have h1 : ¬ 1≤s.length:=by omega
  unfold Zcc
  rw [Za ZjZ,decide_eq_true h0]
  simp [↓ZR,ZS,↓Qj,Z5,Z6,Z3,↓Zb,JB,Zu,J9,Qc,Q8,Qf,Q7,Q9,Qx,Jh,Qy,QI,QJ,QF,Ja,Zm,Zv,Yq,Yj,QY,QO,JA,Zy,QZ,Jy,JC,Jm,ZB,Zt,Zo,QK,Ql,Z8,Q6,Jp,Jn,Jw,↓Yn,Jx,↓g_r,Yp,Bool.not_true,Bool.not_false,Bool.false_eq_true,Bool.true_eq_false,reduceIte,List.tail_cons,List.headD_cons,decide_true,decide_false,cond_true,cond_false,Nat.beq_refl,Kf,YQ,Qt,Z4,ZK,Qk,Ji,Q4,YR,Yw,J0,Yc,Yb,ZM,List.replicate,Zk,Zj,QS,QU,QV,Zg,Jk,ZH,ZP,h1]
 ·have h1 : 1≤s.length:=by omega
  by_cases h12 : s.length≤12
  ·have e1 : run Tryz.prog np lvs (n+3) Y8 [strv s,.func (.func ZcA) #[] #[]] H=some (.bool (s.all Zcy),H):=Zn6 (by omega)
   have g0 : s[0]?=some (s.getD 0 0):=by rw [List.getElem?_eq_getElem (by omega)];simp [List.getD_eq_getElem?_getD,List.getElem?_eq_getElem (show 0 < s.length by omega)]
   have gl : s[s.length - 1]?=some (s.getD (s.length - 1) 0):=by rw [List.getElem?_eq_getElem (by omega)];simp [List.getD_eq_getElem?_getD,List.getElem?_eq_getElem (show s.length - 1 < s.length by omega)]
   have x0 : ixs (strv s) (.int .i64 0) H=some (u8v (s.getD 0 0),H):=ZbZ g0 .i64 H
   have xl:=ZbZ gl .i64 H
   have wl:=ZrM (k:=s.length) (by omega) (by omega)
   generalize s.getD 0 0=b0 at x0
   generalize s.getD (s.length - 1) 0=bl at xl
   have e2 : run Tryz.prog np lvs (n+3) YM [u8v b0] H=some (.bool (KN b0),H):=ZhI
   have e3 : run Tryz.prog np lvs (n+3) YM [u8v bl] H=some (.bool (KN bl),H):=ZhI
   have e4 : run Tryz.prog np lvs (n+3) Ke [u8v bl] H=some (.bool (Zcn bl),H):=ZjX
   have q1 : bop .int .gtr (iv s.length) (.int .i64 12) H=some (.bool false,H):=by rw [Ql,decide_eq_false (by omega)]
   unfold Zcc
   rw [Za ZjZ,decide_eq_false h0,decide_eq_true h1,decide_eq_true h12]
   rw [Z0,Zl,Za ZH,Zl,Za q1,Qm,Z4,Za Zm]
   simp only [cond_false]
   rw [Z0,Zl,Za x0,Zl,Za e2,Zl,Za Zv,Qm,ZK,Za Zm]
   simp only [cond_false]
   cases hb0 : KN b0
   ·simp [↓ZR,ZS,↓Qj,Z5,Z6,Z3,↓Zb,JB,Zu,J9,Qc,Q8,Qf,Q7,Q9,Qx,Jh,Qy,QI,QJ,QF,Ja,Zm,Zv,Yq,Yj,QY,QO,JA,Zy,QZ,Jy,JC,Jm,ZB,Zt,Zo,QK,Ql,Z8,Q6,Jp,Jn,Jw,↓Yn,Jx,↓g_r,Yp,Bool.not_true,Bool.not_false,Bool.false_eq_true,Bool.true_eq_false,reduceIte,List.tail_cons,List.headD_cons,decide_true,decide_false,cond_true,cond_false,Nat.beq_refl,Kf,YQ,Qt,Z4,ZK,Qk,Ji,Q4,YR,Yw,J0,Yc,Yb,ZM,List.replicate,Zk,Zj,QS,QU,QV,Zg,Jk,ZH,ZP]
   ·simp only [Bool.not_true]
    rw [Z0,Zl,Za e1,Zl,Za Zv,Qm,Z4,Za Zm]
    simp only [cond_false]
    cases hall : s.all Zcy
    ·simp [↓ZR,ZS,↓Qj,Z5,Z6,Z3,↓Zb,JB,Zu,J9,Qc,Q8,Qf,Q7,Q9,Qx,Jh,Qy,QI,QJ,QF,Ja,Zm,Zv,Yq,Yj,QY,QO,JA,Zy,QZ,Jy,JC,Jm,ZB,Zt,Zo,QK,Ql,Z8,Q6,Jp,Jn,Jw,↓Yn,Jx,↓g_r,Yp,Bool.not_true,Bool.not_false,Bool.false_eq_true,Bool.true_eq_false,reduceIte,List.tail_cons,List.headD_cons,decide_true,decide_false,cond_true,cond_false,Nat.beq_refl,Kf,YQ,Qt,Z4,ZK,Qk,Ji,Q4,YR,Yw,J0,Yc,Yb,ZM,List.replicate,Zk,Zj,QS,QU,QV,Zg,Jk,ZH,ZP]
    ·simp only [Bool.not_true]
     rw [Zb,if_neg (by simp),Za ZH,Za QZ,wl,Za xl,Za e3]
     unfold Wh
     cases hl : KN bl
     ·rw [Z0,Zl,Za e4,Qm,Qt,Za Zm]
      simp [ret]
     ·simp [↓ZR,ZS,↓Qj,Z5,Z6,Z3,↓Zb,JB,Zu,J9,Qc,Q8,Qf,Q7,Q9,Qx,Jh,Qy,QI,QJ,QF,Ja,Zm,Zv,Yq,Yj,QY,QO,JA,Zy,QZ,Jy,JC,Jm,ZB,Zt,Zo,QK,Ql,Z8,Q6,Jp,Jn,Jw,↓Yn,Jx,↓g_r,Yp,Bool.not_true,Bool.not_false,Bool.false_eq_true,Bool.true_eq_false,reduceIte,List.tail_cons,List.headD_cons,decide_true,decide_false,cond_true,cond_false,Nat.beq_refl,Kf,YQ,Qt,Z4,ZK,Qk,Ji,Q4,YR,Yw,J0,Yc,Yb,ZM,List.replicate,Zk,Zj,QS,QU,QV,Zg,Jk,ZH,ZP]
  ·have q1 : bop .int .gtr (iv s.length) (.int .i64 12) H=some (.bool true,H):=by rw [Ql,decide_eq_true (by omega)]
   unfold Zcc
   rw [Za ZjZ,decide_eq_false h0]
   rw [Z0,Zl,Za ZH,Zl,Za q1,Qm,Z4,Za Zm]
   simp [↓ZR,ZS,↓Qj,Z5,Z6,Z3,↓Zb,JB,Zu,J9,Qc,Q8,Qf,Q7,Q9,Qx,Jh,Qy,QI,QJ,QF,Ja,Zm,Zv,Yq,Yj,QY,QO,JA,Zy,QZ,Jy,JC,Jm,ZB,Zt,Zo,QK,Ql,Z8,Q6,Jp,Jn,Jw,↓Yn,Jx,↓g_r,Yp,Bool.not_true,Bool.not_false,Bool.false_eq_true,Bool.true_eq_false,reduceIte,List.tail_cons,List.headD_cons,decide_true,decide_false,cond_true,cond_false,Nat.beq_refl,Kf,YQ,Qt,Z4,ZK,Qk,Ji,Q4,YR,Yw,J0,Yc,Yb,ZM,List.replicate,Zk,Zj,QS,QU,QV,Zg,Jk,ZH,ZP,h12]
def Q3 (s : List UInt8) : Int:=if Zs s then 0 else 10
def WY (s : List UInt8) : Int:=if Zdw s then 0 else 10
def Zag (s : List UInt8) : Int:=if Zbq s then 0 else 4
theorem Zg1 : R (n+5) Yk [strv s] H=some (iv (Q3 s),H):=by
 have e1 : run Tryz.prog np lvs (n+4) Zab [strv s] H=some (.bool (Zs s),H):=ZnR
 rw [R,Zpq rfl]
 unfold Q3
 generalize Zs s=q at e1 ⊢
 cases q <;> simp [Zhm,↓ZR,ZS,↓Qj,Z5,Z6,Z3,↓Zb,JB,Zu,J9,Qc,Q8,Qf,Q7,Q9,Qx,Jh,Qy,QI,QJ,QF,Ja,Zm,Zv,Yq,Yj,QY,QO,JA,Zy,QZ,Jy,JC,Jm,ZB,Zt,Zo,QK,Ql,Z8,Q6,Jp,Jn,Jw,↓Yn,Jx,↓g_r,Yp,Bool.not_true,Bool.not_false,Bool.false_eq_true,Bool.true_eq_false,reduceIte,List.tail_cons,List.headD_cons,decide_true,decide_false,cond_true,cond_false,Nat.beq_refl,Kf,YQ,Qt,Z4,ZK,Qk,Ji,Q4,YR,Yw,J0,Yc,Yb,ZM,List.replicate,Zk,Zj,QS,QU,QV,Zg,Jk,ZH,ZP,e1]
theorem ZtW (hs : s.length≤1000000000) : R (n+4) Zb4 [strv s] H=some (iv (WY s),H):=by
 have e1 : run Tryz.prog np lvs (n+3) Y8 [strv s,.func (.func ZcA) #[] #[]] H=some (.bool (s.all Zcy),H):=Zn6 hs
 rw [R,Zm6 rfl]
 unfold WY Zdw ZfR
 rw [Za ZH]
 by_cases h12 : s.length≤12
 ·have q1 : bop .int .gtr (iv s.length) (.int .i64 12) H=some (.bool false,H):=by rw [Ql,decide_eq_false (by omega)]
  rw [Za q1,Z0,Zl,Za e1,Zl,Za Zv,Qm,Z4,Za Zm]
  cases s.all Zcy <;> simp [↓ZR,ZS,↓Qj,Z5,Z6,Z3,↓Zb,JB,Zu,J9,Qc,Q8,Qf,Q7,Q9,Qx,Jh,Qy,QI,QJ,QF,Ja,Zm,Zv,Yq,Yj,QY,QO,JA,Zy,QZ,Jy,JC,Jm,ZB,Zt,Zo,QK,Ql,Z8,Q6,Jp,Jn,Jw,↓Yn,Jx,↓g_r,Yp,Bool.not_true,Bool.not_false,Bool.false_eq_true,Bool.true_eq_false,reduceIte,List.tail_cons,List.headD_cons,decide_true,decide_false,cond_true,cond_false,Nat.beq_refl,Kf,YQ,Qt,Z4,ZK,Qk,Ji,Q4,YR,Yw,J0,Yc,Yb,ZM,List.replicate,Zk,Zj,QS,QU,QV,Zg,Jk,ZH,ZP,h12]
 ·have q1 : bop .int .gtr (iv s.length) (.int .i64 12) H=some (.bool true,H):=by rw [Ql,decide_eq_true (by omega)]
  rw [Za q1]
  simp [↓ZR,ZS,↓Qj,Z5,Z6,Z3,↓Zb,JB,Zu,J9,Qc,Q8,Qf,Q7,Q9,Qx,Jh,Qy,QI,QJ,QF,Ja,Zm,Zv,Yq,Yj,QY,QO,JA,Zy,QZ,Jy,JC,Jm,ZB,Zt,Zo,QK,Ql,Z8,Q6,Jp,Jn,Jw,↓Yn,Jx,↓g_r,Yp,Bool.not_true,Bool.not_false,Bool.false_eq_true,Bool.true_eq_false,reduceIte,List.tail_cons,List.headD_cons,decide_true,decide_false,cond_true,cond_false,Nat.beq_refl,Kf,YQ,Qt,Z4,ZK,Qk,Ji,Q4,YR,Yw,J0,Yc,Yb,ZM,List.replicate,Zk,Zj,QS,QU,QV,Zg,Jk,ZH,ZP,h12]
theorem Zu7 : R (n+4) Zcs [strv s] H=some (iv (Zag s),H):=by
 have e1 : s.length≤12→run Tryz.prog np lvs (n+3) Y8 [strv s,.func (.func ZcQ) #[] #[]] H=some (.bool (s.all ZiF),H):=fun h12=>Zt9 (by omega)
 rw [R,Zo0 rfl]
 unfold Zag Zbq Zhu
 rw [Za ZjZ]
 by_cases h0 : s.length=0
 ·have h1 : ¬ 1≤s.length:=by omega
  rw [decide_eq_true h0]
  simp [↓ZR,ZS,↓Qj,Z5,Z6,Z3,↓Zb,JB,Zu,J9,Qc,Q8,Qf,Q7,Q9,Qx,Jh,Qy,QI,QJ,QF,Ja,Zm,Zv,Yq,Yj,QY,QO,JA,Zy,QZ,Jy,JC,Jm,ZB,Zt,Zo,QK,Ql,Z8,Q6,Jp,Jn,Jw,↓Yn,Jx,↓g_r,Yp,Bool.not_true,Bool.not_false,Bool.false_eq_true,Bool.true_eq_false,reduceIte,List.tail_cons,List.headD_cons,decide_true,decide_false,cond_true,cond_false,Nat.beq_refl,Kf,YQ,Qt,Z4,ZK,Qk,Ji,Q4,YR,Yw,J0,Yc,Yb,ZM,List.replicate,Zk,Zj,QS,QU,QV,Zg,Jk,ZH,ZP,h1]
 ·have h1 : 1≤s.length:=by omega
  rw [decide_eq_false h0,Z0,Zl,Za ZH]
  by_cases h12 : s.length≤12
  ·have q1 : bop .int .gtr (iv s.length) (.int .i64 12) H=some (.bool false,H):=by rw [Ql,decide_eq_false (by omega)]
   rw [Zl,Za q1,Qm,Z4,Za Zm]
   simp only [cond_false]
   rw [Z0,Zl,Za (e1 h12),Zl,Za Zv,Qm,ZK,Za Zm]
   cases s.all ZiF <;> simp [↓ZR,ZS,↓Qj,Z5,Z6,Z3,↓Zb,JB,Zu,J9,Qc,Q8,Qf,Q7,Q9,Qx,Jh,Qy,QI,QJ,QF,Ja,Zm,Zv,Yq,Yj,QY,QO,JA,Zy,QZ,Jy,JC,Jm,ZB,Zt,Zo,QK,Ql,Z8,Q6,Jp,Jn,Jw,↓Yn,Jx,↓g_r,Yp,Bool.not_true,Bool.not_false,Bool.false_eq_true,Bool.true_eq_false,reduceIte,List.tail_cons,List.headD_cons,decide_true,decide_false,cond_true,cond_false,Nat.beq_refl,Kf,YQ,Qt,Z4,ZK,Qk,Ji,Q4,YR,Yw,J0,Yc,Yb,ZM,List.replicate,Zk,Zj,QS,QU,QV,Zg,Jk,ZH,ZP,h12,h1]
  ·have q1 : bop .int .gtr (iv s.length) (.int .i64 12) H=some (.bool true,H):=by rw [Ql,decide_eq_true (by omega)]
   rw [Zl,Za q1,Qm,Z4,Za Zm]
   simp [↓ZR,ZS,↓Qj,Z5,Z6,Z3,↓Zb,JB,Zu,J9,Qc,Q8,Qf,Q7,Q9,Qx,Jh,Qy,QI,QJ,QF,Ja,Zm,Zv,Yq,Yj,QY,QO,JA,Zy,QZ,Jy,JC,Jm,ZB,Zt,Zo,QK,Ql,Z8,Q6,Jp,Jn,Jw,↓Yn,Jx,↓g_r,Yp,Bool.not_true,Bool.not_false,Bool.false_eq_true,Bool.true_eq_false,reduceIte,List.tail_cons,List.headD_cons,decide_true,decide_false,cond_true,cond_false,Nat.beq_refl,Kf,YQ,Qt,Z4,ZK,Qk,Ji,Q4,YR,Yw,J0,Yc,Yb,ZM,List.replicate,Zk,Zj,QS,QU,QV,Zg,Jk,ZH,ZP,h12]
theorem Zha {a b : UInt8} : ((a.toNat : Int)==(b.toNat : Int))=(a==b):=by
 rw [Bool.eq_iff_iff,beq_iff_eq,beq_iff_eq,Int.ofNat_inj,UInt8.toNat_inj]
theorem ZuH {t : List UInt8} (ht : t.length≤1000000) : ∀ (d k : Nat),t.length - k=d→k≤t.length→
  Zi (c3 (WM.l1 (R n))) [u8v b,strv t,iv k] H=some (if (t.drop k).any (·==b) then .ret (.bool true) else .ext 0 [],H)
 | 0,k,hd,hk=>by
  have : k=t.length:=by omega
  subst this
  rw [List.drop_length]
  refine Z7 ?_
  rw [Z4]
  unfold WM.l1
  rw [Za ZH,Za Zo,Zb,if_neg (by simp)]
  rfl
 | d+1,k,hd,hk=>by
  have hkl : k < t.length:=by omega
  have hlt : (k : Int) < t.length:=by omega
  have hg:=List.getElem?_eq_getElem hkl
  have hdr:=List.drop_eq_getElem_cons hkl
  generalize t[k]=c at hg hdr
  have x1:=ZbZ hg .i64 H
  have ih:=ZuH ht d (k+1) (by omega) (by omega)
  rw [hdr,List.any_cons]
  cases hc : c==b
  ·rw [Bool.false_or]
   refine (ZI ?_).trans ih
   rw [Z4]
   unfold WM.l1
   rw [Za ZH,Za Zo,Zb,if_pos (by simpa using hlt),Za x1,Za ZB,Zha,hc,Zb,if_neg (by simp),Za Zy,Qu (by omega)]
   rfl
  ·refine Yz ?_
   rw [Z4]
   unfold WM.l1
   rw [Za ZH,Za Zo,Zb,if_pos (by simpa using hlt),Za x1,Za ZB,Zha,hc,Zb,if_pos rfl]
   rfl
theorem Zsi {t : List UInt8} (ht : t.length≤1000000) : R (n+1) WL [u8v b,strv t] H=some (.bool (t.any (·==b)),H):=by
 have e:=ZuH (n:=n) (H:=H) (b:=b) ht t.length 0 (by omega) (by omega)
 rw [List.drop_zero] at e
 have e : Zi (c3 (WM.l1 (R n))) [u8v b,strv t,.int .i64 0] H=_:=e
 rw [R,ZqX rfl]
 unfold WM
 cases h : t.any (·==b)
 ·rw [h] at e
  rw [QN e,ZM];rfl
 ·rw [h] at e
  rw [Ku e];rfl
theorem ZuD {t : List UInt8} (ht : t.length≤1000000) (hs : s.length≤1000000000) : ∀ (d k : Nat),s.length - k=d→k≤s.length→
  Zi (c3 (WJ.l1 (R (n+1)))) [strv s,strv t,iv k] H=some (if (s.drop k).all (fun b=>t.any (·==b)) then .ext 0 [] else .ret (.bool false),H)
 | 0,k,hd,hk=>by
  have : k=s.length:=by omega
  subst this
  rw [List.drop_length]
  refine Z7 ?_
  rw [Z4]
  unfold WJ.l1
  rw [Za ZH,Za Zo,Zb,if_neg (by simp)]
  rfl
 | d+1,k,hd,hk=>by
  have hkl : k < s.length:=by omega
  have hlt : (k : Int) < s.length:=by omega
  have hg:=List.getElem?_eq_getElem hkl
  have hdr:=List.drop_eq_getElem_cons hkl
  generalize s[k]=c at hg hdr
  have x1:=ZbZ hg .i64 H
  have e1:=Zsi (n:=n) (b:=c) (H:=H) ht
  have ih:=ZuD ht hs d (k+1) (by omega) (by omega)
  rw [hdr,List.all_cons]
  cases hc : t.any (·==c)
  ·rw [hc] at e1
   refine Yz ?_
   rw [Z4]
   unfold WJ.l1
   rw [Za ZH,Za Zo,Zb,if_pos (by simpa using hlt),Za x1,Za e1,Za Zv,Zb,if_pos (by rfl)]
   rfl
  ·rw [hc] at e1
   rw [Bool.true_and]
   refine (ZI ?_).trans ih
   rw [Z4]
   unfold WJ.l1
   rw [Za ZH,Za Zo,Zb,if_pos (by simpa using hlt),Za x1,Za e1,Za Zv,Zb,if_neg (by simp),Za Zy,Qu (by omega)]
   rfl
theorem Zul {t : List UInt8} {p : UInt8→Bool} (ht : t.length≤1000000) (hs : s.length≤1000000000) (hp : ∀ b,t.any (·==b)=p b) : R (n+2) ZaH [strv s,strv t] H=some (.bool (s.all p),H):=by
 have e:=ZuD (n:=n) (H:=H) ht hs s.length 0 (by omega) (by omega)
 rw [List.drop_zero] at e
 rw [show (fun b=>t.any (·==b))=p from funext hp] at e
 have e : Zi (c3 (WJ.l1 (R (n+1)))) [strv s,strv t,.int .i64 0] H=_:=e
 rw [R,ZqG rfl]
 unfold WJ
 cases h : s.all p
 ·rw [h] at e
  rw [Ku e];rfl
 ·rw [h] at e
  rw [QN e,ZM];rfl
def ZfC : List UInt8:=[97,98,99,100,101,102,103,104,105,106,107,108,109,110,111,112,113,114,115,116,117,118,119,120,121,122]
def ZpP : List UInt8:=[97,98,99,100,101,102,103,104,105,106,107,108,109,110,111,112,113,114,115,116,117,118,119,120,121,122,48,49,50,51,52,53,54,55,56,57]
def ZpT : List UInt8:=[97,98,99,100,101,102,103,104,105,106,107,108,109,110,111,112,113,114,115,116,117,118,119,120,121,122,48,49,50,51,52,53,54,55,56,57,45,46]
def Zwf : List UInt8:=[48,49,50,51,52,53,54,55,56,57,97,98,99,100,101,102]
theorem ZfL {p : UInt8→Prop} (h : ∀ n : Nat,n < 256→p (UInt8.ofNat n)) (b : UInt8) : p b:=by
 have:=h b.toNat b.toNat_lt
 rwa [UInt8.ofNat_toNat] at this
theorem Zr5 : ∀ b,ZfC.any (·==b)=KN b:=ZfL (by decide+kernel)
theorem Zpz : ∀ b,ZpP.any (·==b)=Wh b:=ZfL (by decide+kernel)
theorem Zpk : ∀ b,ZpT.any (·==b)=Zcy b:=ZfL (by decide+kernel)
theorem Zwt : ∀ b,Zwf.any (·==b)=ZiF b:=ZfL (by decide+kernel)
theorem ZmS : R (n+3) WI [strv s] H=some (.bool (Zbq s),H):=by
 have e1 : s.length≤12→run Tryz.prog np lvs (n+2) ZaH [strv s,strv Zwf] H=some (.bool (s.all ZiF),H):=fun h12=>Zul (by decide) (by omega) Zwt
 rw [R,Zom rfl]
 unfold Zbq Zgy
 rw [Za ZH]
 by_cases h1 : 1≤s.length
 ·have q1 : bop .int .geq (iv s.length) (.int .i64 1) H=some (.bool true,H):=by rw [Z8,decide_eq_true (by omega)]
  rw [Za q1,Z0,Zl,Za ZH]
  by_cases h12 : s.length≤12
  ·have q2 : bop .int .leq (iv s.length) (.int .i64 12) H=some (.bool true,H):=by rw [QK,decide_eq_true (by omega)]
   rw [Zl,Za q2,Qm,Z4,Za Zm]
   simp only [cond_true]
   rw [Z0,Zl]
   refine (Za (e1 h12)).trans ?_
   rw [Qm,Qt,Za Zm,decide_eq_true h12,decide_eq_true h1]
   rfl
  ·have q2 : bop .int .leq (iv s.length) (.int .i64 12) H=some (.bool false,H):=by rw [QK,decide_eq_false (by omega)]
   rw [Zl,Za q2,Qm,Z4,Za Zm]
   simp [↓ZR,ZS,↓Qj,Z5,Z6,Z3,↓Zb,JB,Zu,J9,Qc,Q8,Qf,Q7,Q9,Qx,Jh,Qy,QI,QJ,QF,Ja,Zm,Zv,Yq,Yj,QY,QO,JA,Zy,QZ,Jy,JC,Jm,ZB,Zt,Zo,QK,Ql,Z8,Q6,Jp,Jn,Jw,↓Yn,Jx,↓g_r,Yp,Bool.not_true,Bool.not_false,Bool.false_eq_true,Bool.true_eq_false,reduceIte,List.tail_cons,List.headD_cons,decide_true,decide_false,cond_true,cond_false,Nat.beq_refl,Kf,YQ,Qt,Z4,ZK,Qk,Ji,Q4,YR,Yw,J0,Yc,Yb,ZM,List.replicate,Zk,Zj,QS,QU,QV,Zg,Jk,ZH,ZP,h12]
 ·have q1 : bop .int .geq (iv s.length) (.int .i64 1) H=some (.bool false,H):=by rw [Z8,decide_eq_false (by omega)]
  rw [Za q1]
  simp [↓ZR,ZS,↓Qj,Z5,Z6,Z3,↓Zb,JB,Zu,J9,Qc,Q8,Qf,Q7,Q9,Qx,Jh,Qy,QI,QJ,QF,Ja,Zm,Zv,Yq,Yj,QY,QO,JA,Zy,QZ,Jy,JC,Jm,ZB,Zt,Zo,QK,Ql,Z8,Q6,Jp,Jn,Jw,↓Yn,Jx,↓g_r,Yp,Bool.not_true,Bool.not_false,Bool.false_eq_true,Bool.true_eq_false,reduceIte,List.tail_cons,List.headD_cons,decide_true,decide_false,cond_true,cond_false,Nat.beq_refl,Kf,YQ,Qt,Z4,ZK,Qk,Ji,Q4,YR,Yw,J0,Yc,Yb,ZM,List.replicate,Zk,Zj,QS,QU,QV,Zg,Jk,ZH,ZP,h1]
theorem ZaG : R (n+3) Qq [strv s] H=some (.bool (Zs s),H):=by
 have e1 : s.length≤12→run Tryz.prog np lvs (n+2) ZaH [strv s,strv ZpT] H=some (.bool (s.all Zcy),H):=fun h12=>Zul (by decide) (by omega) Zpk
 rw [R,Zor rfl]
 unfold Zs ZgD
 rw [Za ZH]
 by_cases h1 : 1≤s.length
 ·have q1 : bop .int .geq (iv s.length) (.int .i64 1) H=some (.bool true,H):=by rw [Z8,decide_eq_true (by omega)]
  rw [Za q1,Z0,Zl]
  by_cases h12 : s.length≤12
  ·have q2 : bop .int .leq (iv s.length) (.int .i64 12) H=some (.bool true,H):=by rw [QK,decide_eq_true (by omega)]
   have g0 : s[0]?=some (s.getD 0 0):=by rw [List.getElem?_eq_getElem (by omega)];simp [List.getD_eq_getElem?_getD,List.getElem?_eq_getElem (show 0 < s.length by omega)]
   have gl : s[s.length - 1]?=some (s.getD (s.length - 1) 0):=by rw [List.getElem?_eq_getElem (by omega)];simp [List.getD_eq_getElem?_getD,List.getElem?_eq_getElem (show s.length - 1 < s.length by omega)]
   have x0 : ixs (strv s) (.int .i64 0) H=some (u8v (s.getD 0 0),H):=ZbZ g0 .i64 H
   have xl:=ZbZ gl .i64 H
   have wl:=ZrM (k:=s.length) (by omega) (by omega)
   generalize s.getD 0 0=b0 at x0
   generalize s.getD (s.length - 1) 0=bl at xl
   have e2 : run Tryz.prog np lvs (n+2) WL [u8v b0,strv ZfC] H=some (.bool (KN b0),H):=by rw [← Zr5];exact Zsi (by decide)
   have e3 : run Tryz.prog np lvs (n+2) WL [u8v bl,strv ZpP] H=some (.bool (Wh bl),H):=by rw [← Zpz];exact Zsi (by decide)
   rw [Za q2,Qm,Qt,Za Zm]
   simp only [cond_true]
   rw [Z0,Zl]
   refine (Za (e1 h12)).trans ?_
   rw [Qm,Qt,Za Zm,decide_eq_true h12,decide_eq_true h1]
   simp only [cond_true]
   cases hall : s.all Zcy
   ·simp [↓ZR,ZS,↓Qj,Z5,Z6,Z3,↓Zb,JB,Zu,J9,Qc,Q8,Qf,Q7,Q9,Qx,Jh,Qy,QI,QJ,QF,Ja,Zm,Zv,Yq,Yj,QY,QO,JA,Zy,QZ,Jy,JC,Jm,ZB,Zt,Zo,QK,Ql,Z8,Q6,Jp,Jn,Jw,↓Yn,Jx,↓g_r,Yp,Bool.not_true,Bool.not_false,Bool.false_eq_true,Bool.true_eq_false,reduceIte,List.tail_cons,List.headD_cons,decide_true,decide_false,cond_true,cond_false,Nat.beq_refl,Kf,YQ,Qt,Z4,ZK,Qk,Ji,Q4,YR,Yw,J0,Yc,Yb,ZM,List.replicate,Zk,Zj,QS,QU,QV,Zg,Jk,ZH,ZP]
   ·rw [Z0,Zl,Za x0,Zl]
    refine (Za e2).trans ?_
    rw [Qm,Z4,Za Zm]
    simp only [cond_true]
    cases hb : KN b0
    ·simp [↓ZR,ZS,↓Qj,Z5,Z6,Z3,↓Zb,JB,Zu,J9,Qc,Q8,Qf,Q7,Q9,Qx,Jh,Qy,QI,QJ,QF,Ja,Zm,Zv,Yq,Yj,QY,QO,JA,Zy,QZ,Jy,JC,Jm,ZB,Zt,Zo,QK,Ql,Z8,Q6,Jp,Jn,Jw,↓Yn,Jx,↓g_r,Yp,Bool.not_true,Bool.not_false,Bool.false_eq_true,Bool.true_eq_false,reduceIte,List.tail_cons,List.headD_cons,decide_true,decide_false,cond_true,cond_false,Nat.beq_refl,Kf,YQ,Qt,Z4,ZK,Qk,Ji,Q4,YR,Yw,J0,Yc,Yb,ZM,List.replicate,Zk,Zj,QS,QU,QV,Zg,Jk,ZH,ZP]
    ·rw [Z0,Zl,Za QZ,wl,Zl,Za xl,Zl]
     refine (Za e3).trans ?_
     rw [Qm,Qk,Za Zm]
     rfl
  ·have q2 : bop .int .leq (iv s.length) (.int .i64 12) H=some (.bool false,H):=by rw [QK,decide_eq_false (by omega)]
   rw [Za q2,Qm,Qt,Za Zm]
   simp [↓ZR,ZS,↓Qj,Z5,Z6,Z3,↓Zb,JB,Zu,J9,Qc,Q8,Qf,Q7,Q9,Qx,Jh,Qy,QI,QJ,QF,Ja,Zm,Zv,Yq,Yj,QY,QO,JA,Zy,QZ,Jy,JC,Jm,ZB,Zt,Zo,QK,Ql,Z8,Q6,Jp,Jn,Jw,↓Yn,Jx,↓g_r,Yp,Bool.not_true,Bool.not_false,Bool.false_eq_true,Bool.true_eq_false,reduceIte,List.tail_cons,List.headD_cons,decide_true,decide_false,cond_true,cond_false,Nat.beq_refl,Kf,YQ,Qt,Z4,ZK,Qk,Ji,Q4,YR,Yw,J0,Yc,Yb,ZM,List.replicate,Zk,Zj,QS,QU,QV,Zg,Jk,ZH,ZP,h12]
 ·have q1 : bop .int .geq (iv s.length) (.int .i64 1) H=some (.bool false,H):=by rw [Z8,decide_eq_false (by omega)]
  rw [Za q1]
  simp [↓ZR,ZS,↓Qj,Z5,Z6,Z3,↓Zb,JB,Zu,J9,Qc,Q8,Qf,Q7,Q9,Qx,Jh,Qy,QI,QJ,QF,Ja,Zm,Zv,Yq,Yj,QY,QO,JA,Zy,QZ,Jy,JC,Jm,ZB,Zt,Zo,QK,Ql,Z8,Q6,Jp,Jn,Jw,↓Yn,Jx,↓g_r,Yp,Bool.not_true,Bool.not_false,Bool.false_eq_true,Bool.true_eq_false,reduceIte,List.tail_cons,List.headD_cons,decide_true,decide_false,cond_true,cond_false,Nat.beq_refl,Kf,YQ,Qt,Z4,ZK,Qk,Ji,Q4,YR,Yw,J0,Yc,Yb,ZM,List.replicate,Zk,Zj,QS,QU,QV,Zg,Jk,ZH,ZP,h1]
end
end Go.Proofs.YtnnehafmjfmbnaaGreatDoor.A

namespace Go.Proofs.YtnnehafmjfmbnaaGreatDoor.A
set_option linter.unusedVariables false
set_option linter.unusedSimpArgs false
open Go.Proofs Go.Proofs.YtnnehafmjfmbnaaGreatDoor
abbrev YV:=List (List UInt8 × List UInt8)
structure Dir (H : Zc) (d b : Nat) (m : YV) : Prop where
 c : H[d]?=some (.cells [.map (some b)] 1 false false)
 g : JY strv H b m
 len : ∀ p∈m,p.1.length≤12
 few : m.length≤12
section
variable {H H' : Zc} {n d b p q : Nat} {m : YV} {k s : List UInt8}
theorem ZjY {v : Value} (h : oneCell v=true) (hc : v.cells=#[v]) (H : Zc) : alc 1 v H=some (pt H.length,H++[.cells [v] 1 false false]):=by
 rw [QI]
 simp [hc,h]
theorem ZhE {v : Value} {e : Nat} {g ro : Bool} (h : H[p]?=some (.cells [v] e g ro)) : ld1 (pt p) H=some (v,H):=Zw h rfl
theorem ZsM {g : Nat} {bs args : List Value} (hy : Nat.blt g Zbj=true:=by rfl) : Jf (R n) (.func (.func g) #[] bs.toArray) args=R n g (args++bs):=by
 have : Jf (R n) (.func (.func g) #[] bs.toArray) args=R n g ([]++(args++bs.toArray.toList)):=by
  simp only [Jf,hy,cond_true]
 rw [this];simp
theorem Dir.hle (h : Dir H d b m) (hl : HLe H H') : Dir H' d b m:=⟨hl _ _ h.c,h.g.hle hl,h.len,h.few⟩
theorem Dir.ne (h : Dir H d b m) : d≠b:=fun e=>by
 subst e
 obtain ⟨es,_,h1⟩:=h.g.ex
 rw [h.c] at h1
 rcases h1 with ⟨_,h1,_⟩ | h1 <;> cases h1
end
end Go.Proofs.YtnnehafmjfmbnaaGreatDoor.A

namespace Go.Proofs.YtnnehafmjfmbnaaGreatDoor.A
set_option linter.unusedVariables false
set_option linter.unusedSimpArgs false
section
variable {α : Type} {k k' : List UInt8} {v : α} {m : List (List UInt8 × α)}
theorem Zer : ∀ {m m' : List (List UInt8 × α)},Zf k (m++m')=(Zf k m).or (Zf k m')
 | [],m'=>rfl
 | p :: m,m'=>by
  simp only [List.cons_append,Zf]
  split
  ·rfl
  ·exact Zer
theorem YN (h : k'≠k) : Zf k' (QG k v m)=Zf k' m:=by
 unfold QG
 split
 ·have : ∀ m : List (List UInt8 × α),Zf k' (m.map fun p=>if p.1=k then (k,v) else p)=Zf k' m:=by
   intro m
   induction m with
   | nil=>rfl
   | cons p m ih=>
    simp only [List.map_cons,Zf]
    by_cases hp : p.1=k
    ·rw [if_pos hp,if_neg (Ne.symm h),if_neg (fun e=>h (e.symm.trans hp)),ih]
    ·rw [if_neg hp,ih]
  exact this m
 ·rw [Zer]
  have : Zf k' [(k,v)]=none:=by simp [Zf,Ne.symm h]
  rw [this];cases Zf k' m <;> rfl
theorem Wg : Zf k (QG k v m)=some v:=by
 unfold QG
 split
 ·rename_i hs
  have : ∀ m : List (List UInt8 × α),(Zf k m).isSome=true→Zf k (m.map fun p=>if p.1=k then (k,v) else p)=some v:=by
   intro m
   induction m with
   | nil=>intro h;cases h
   | cons p m ih=>
    intro h
    simp only [List.map_cons,Zf] at h ⊢
    by_cases hp : p.1=k
    ·simp [hp]
    ·rw [if_neg hp] at h
     rw [if_neg hp,if_neg hp];exact ih h
  exact this m hs
 ·rename_i hs
  rw [Zer]
  have : Zf k m=none:=by cases e : Zf k m <;> simp_all
  rw [this];simp [Zf]
theorem WH : Zf k (J2 k m)=none:=by
 rw [Zgb]
 intro p hp
 simpa [J2] using (List.mem_filter.1 hp).2
theorem JE (h : k'≠k) : Zf k' (J2 k m)=Zf k' m:=by
 unfold J2
 induction m with
 | nil=>rfl
 | cons p m ih=>
  rw [List.filter_cons]
  by_cases hp : p.1=k
  ·rw [if_neg (by simp [hp]),ih]
   simp only [Zf]
   rw [if_neg (fun e=>h (e.symm.trans hp))]
  ·rw [if_pos (by simpa using hp)]
   simp only [Zf]
   rw [ih]
theorem Zlv (hn : (m.map (·.1)).Nodup) (h : (Zf k m).isSome=true) : (J2 k m).length=m.length - 1:=by
 obtain ⟨v,hv⟩:=Option.isSome_iff_exists.1 h
 obtain ⟨j,hj⟩:=Zus hv
 rw [← ZdY hn hj,List.length_eraseIdx,if_pos (List.getElem?_eq_some_iff.1 hj).1]
end
end Go.Proofs.YtnnehafmjfmbnaaGreatDoor.A

namespace Go.Proofs.YtnnehafmjfmbnaaGreatDoor.A
set_option linter.unusedVariables false
set_option linter.unusedSimpArgs false
open Go.Proofs Go.Proofs.YtnnehafmjfmbnaaGreatDoor
section
variable {H H' : Zc} {n d b p q : Nat} {m : YV} {k s : List UInt8}
theorem ZgQ {H : Zc} {a c : Ze} : (H++[a]++[c])[H.length]?=some a:=by simp [List.getElem?_append]
theorem ZwE {H : Zc} {a c : Ze} : (H++[a]++[c])[H.length+1]?=some c:=by simp [List.getElem?_append]
theorem Zej {α : Type} {m : List (List UInt8 × α)} {v : α} : (QG k v m).length=if (Zf k m).isSome then m.length else m.length+1:=by
 unfold QG
 split <;> simp
theorem Zeb (h : Zs k=true) : k.length≤12:=by
 unfold Zs at h
 simp only [Bool.and_eq_true,decide_eq_true_eq] at h
 exact h.1.1.1.2
theorem ZnV : Q3 k=0↔Zs k=true:=by unfold Q3;split <;> simp_all
theorem Zbt {g : Nat} {mm : List Value→M Value} {args : List Value} (hp : np g=some mm) (hy : Nat.blt g Zbj=true:=by rfl) : run Tryz.prog np lvs (n+1) g args=mm args:=by
 unfold run
 simp only [hy,hp,cond_true]
end
end Go.Proofs.YtnnehafmjfmbnaaGreatDoor.A

namespace Go.Proofs.YtnnehafmjfmbnaaGreatDoor.A
set_option linter.unusedVariables false
set_option linter.unusedSimpArgs false
open Go.Proofs Go.Proofs.YtnnehafmjfmbnaaGreatDoor
def ZcF (pre s : List UInt8) : Bool:=decide (pre.length≤s.length) && (s.take pre.length==pre)
section
variable {H H' : Zc} {n : Nat} {s pre : List UInt8}
theorem Zl9 {k : Nat} (hk : k≤s.length) : sls (strv s) none (some (iv k)) H=some (strv (s.take k),H):=by
 have h1 : (⟨s.toArray⟩ : ByteArray).size=s.length:=by simp [ByteArray.size]
 have h2 : (⟨s.toArray⟩ : ByteArray).extract 0 k=⟨(s.take k).toArray⟩:=by
  apply ByteArray.ext
  rw [ByteArray.data_extract]
  simp
 have hb : bnd (some (iv k)) s.length=some k:=by simp [bnd]
 have hb0 : bnd none 0=some 0:=rfl
 unfold strv sls
 simp only [h1,hb,hb0]
 rw [if_pos ⟨Nat.zero_le _,hk⟩,h2]
theorem Zp0 (hs : s.length≤1000000000) (hp : pre.length≤1000000000) : R (n+1) JU [strv s,strv pre] H=some (.bool (ZcF pre s),H):=by
 rw [R,Zda rfl]
 unfold KG ZcF
 rw [Za ZH,Za ZH]
 by_cases h : pre.length≤s.length
 ·have q1 : bop .int .geq (iv s.length) (iv pre.length) H=some (.bool true,H):=by rw [Z8,decide_eq_true (by omega)]
  rw [Za q1,Z0,Zl,Za ZH,Zl,Za (Zl9 h),Zl,Za Zb2,Qm,Ji,Za Zm,decide_eq_true h]
  rfl
 ·have q1 : bop .int .geq (iv s.length) (iv pre.length) H=some (.bool false,H):=by rw [Z8,decide_eq_false (by omega)]
  rw [Za q1]
  simp [↓ZR,ZS,↓Qj,Z5,Z6,Z3,↓Zb,JB,Zu,J9,Qc,Q8,Qf,Q7,Q9,Qx,Jh,Qy,QI,QJ,QF,Ja,Zm,Zv,Yq,Yj,QY,QO,JA,Zy,QZ,Jy,JC,Jm,ZB,Zt,Zo,QK,Ql,Z8,Q6,Jp,Jn,Jw,↓Yn,Jx,↓g_r,Yp,Bool.not_true,Bool.not_false,Bool.false_eq_true,Bool.true_eq_false,reduceIte,List.tail_cons,List.headD_cons,decide_true,decide_false,cond_true,cond_false,Nat.beq_refl,Kf,YQ,Qt,Z4,ZK,Qk,Ji,Q4,YR,Yw,J0,Yc,Yb,ZM,List.replicate,Zk,Zj,QS,QU,QV,Zg,Jk,ZH,ZP,h]
theorem ZqF (hs : s.length≤1000000000) (hp : pre.length≤1000000000) : R (n+2) Wi [strv s,strv pre] H=some (.bool (ZcF pre s),H):=by
 have e1 : run Tryz.prog np lvs (n+1) JU [strv s,strv pre] H=_:=Zp0 hs hp
 rw [R,ZhA rfl]
 unfold Zcd
 rw [Za e1]
 rfl
section
variable {f v : Value} {p : List UInt8→Bool} {l : List (List UInt8)} {q : List Nat} {Q : Zc→Prop}
theorem KW {ss : List (List UInt8)} {i : Nat} {x : List UInt8} (h : ss[i]?=some x) : (ss.map strv)[i]?=some (strv x):=by rw [List.getElem?_map,h];rfl
theorem ZsV (hr : Zx H v (l.map strv) q) (hl : l.length≤1000000) (hf : ∀ s∈l,Jf (R n) f [strv s] H=some (.bool (p s),H)) : ∀ (t k : Nat),l.length - k=t→k≤l.length→
  Zi (c4 (ZE.l1 (R n))) [v,f,iv l.length,iv k] H=some (match (l.drop k).findIdx? p with | some i=>.ret (iv (k+i : Nat)) | none=>.ext 0 [],H)
 | 0,k,ht,hk=>by
  have : k=l.length:=by omega
  subst this
  rw [List.drop_length]
  refine Z7 ?_
  rw [ZK]
  unfold ZE.l1
  rw [Za Zo,Zb,if_neg (by simp)]
  rfl
 | t+1,k,ht,hk=>by
  have hkl : k < l.length:=by omega
  have hlt : (k : Int) < l.length:=by omega
  have hg:=List.getElem?_eq_getElem hkl
  have hm : l[k]∈l:=List.getElem_mem hkl
  have hd:=List.drop_eq_getElem_cons hkl
  generalize l[k]=x at hg hd hm
  have x1:=hr.ix (i:=k) (by simpa using hkl) .i64 H
  have x2:=hr.ldx (KW hg)
  have x3:=hf x hm
  have ih:=ZsV hr hl hf t (k+1) (by omega) (by omega)
  rw [hd,List.findIdx?_cons]
  cases hp : p x
  ·rw [hp] at x3
   refine (ZI ?_).trans (ih.trans ?_)
   ·rw [ZK]
    unfold ZE.l1
    rw [Za Zo,Zb,if_pos (by simpa using hlt),Za x1,Za x2,Za x3,Zb,if_neg (by simp),Za Zy,Qu (by omega)]
    rfl
   ·cases (l.drop (k+1)).findIdx? p with
    | none=>rfl
    | some i=>simp only [Bool.false_eq_true,if_false,Option.map_some];rw [show k+1+i=k+(i+1) by omega]
  ·rw [hp] at x3
   refine Yz ?_
   rw [ZK]
   unfold ZE.l1
   rw [Za Zo,Zb,if_pos (by simpa using hlt),Za x1,Za x2,Za x3,Zb,if_pos rfl]
   rfl
theorem ZvB (hr : Zx H v (l.map strv) q) (hl : l.length≤1000000) (hf : ∀ s∈l,Jf (R n) f [strv s] H=some (.bool (p s),H)) :
  R (n+1) QQ [v,f] H=some (match l.findIdx? p with | some i=>iv i | none=>iv (-1),H):=by
 have e:=ZsV hr hl hf l.length 0 (by omega) (by omega)
 rw [List.drop_zero] at e
 have e : Zi (c4 (ZE.l1 (R n))) [v,f,iv l.length,.int .i64 0] H=_:=e
 have hlen : ZF v H=some (iv l.length,H):=by have:=hr.rd.len (H':=H);simpa using this
 rw [R,Zal rfl]
 unfold ZE
 rw [Za hlen]
 cases h : l.findIdx? p with
 | none=>rw [h] at e;rw [QN e,ZM];rfl
 | some i=>
  rw [h] at e
  rw [Ku e]
  simp [ret]
theorem Zo2 (hl : l.length≤1000000) (hQ : ∀ X X',Q X→ZJ q X q X'→Q X') (hf : ∀ X,Q X→∀ s∈l,Jf (R n) f [strv s] X=some (.bool (p s),X)) : ∀ (t j i : Nat) (cs : List (List UInt8)) (X : Zc),l.length - j=t→j≤l.length→i≤j→cs.length=l.length→cs.drop j=l.drop j→Zx X v (cs.map strv) q→Q X→
  ∃ (X' : Zc) (cs' : List (List UInt8)),Zi (c4 (ZC.l1 (R n))) [v,f,iv i,iv j] X=some (.ext 0 [v,iv (i+((l.drop j).filter fun s=>!p s).length : Nat)],X')∧Zx X' v (cs'.map strv) q∧cs'.length=l.length∧
   cs'.take (i+((l.drop j).filter fun s=>!p s).length)=cs.take i++(l.drop j).filter (fun s=>!p s)∧ZJ q X q X'
 | 0,j,i,cs,X,ht,hj,hi,hc,hd,hr,hq=>by
  have : j=l.length:=by omega
  subst this
  rw [List.drop_length]
  have hlen : ZF v X=some (iv l.length,X):=by have:=hr.rd.len (H':=X);simpa [hc] using this
  refine ⟨X,cs,Z7 ?_,hr,hc,by simp,.refl _ _⟩
  rw [ZK]
  unfold ZC.l1
  rw [Za hlen,Za Zo,Zb,if_neg (by simp)]
  rfl
 | t+1,j,i,cs,X,ht,hj,hi,hc,hd,hr,hq=>by
  have hjl : j < l.length:=by omega
  have hlt : (j : Int) < l.length:=by omega
  have hg:=List.getElem?_eq_getElem hjl
  have hm : l[j]∈l:=List.getElem_mem hjl
  have hdl:=List.drop_eq_getElem_cons hjl
  generalize l[j]=x at hg hdl hm
  have hgc : cs[j]?=some x:=by
   have h1 : (cs.drop j)[0]?=(l.drop j)[0]?:=by rw [hd]
   simpa [hg] using h1
  have hlen : ZF v X=some (iv l.length,X):=by have:=hr.rd.len (H':=X);simpa [hc] using this
  have x1:=hr.ix (i:=j) (by simpa [hc] using hjl) .i64 X
  have x2:=hr.ldx (KW hgc)
  have x3:=hf X hq x hm
  have hd1 : cs.drop (j+1)=l.drop (j+1):=by
   rw [← List.drop_drop,hd,List.drop_drop]
  rw [hdl,List.filter_cons]
  cases hp : p x
  ·rw [hp] at x3
   have x4:=hr.ix (i:=i) (by simp [hc];omega) .i64 X
   obtain ⟨X1,x5,r1,s1,_⟩:=hr.stx (i:=i) (u:=strv x) (by simp [hc];omega) rfl
   have hset : (cs.map strv).set i (strv x)=(cs.set i x).map strv:=by rw [List.map_set]
   rw [hset] at r1
   obtain ⟨X',cs',e,r',hc',ht',s'⟩:=Zo2 hl hQ hf t (j+1) (i+1) (cs.set i x) X1 (by omega) (by omega) (by omega) (by simpa using hc) (by rw [List.drop_set_of_lt (by omega)];exact hd1) r1 (hQ _ _ hq s1)
   have hn : i+1+((l.drop (j+1)).filter fun s=>!p s).length=i+(((l.drop (j+1)).filter fun s=>!p s).length+1):=by omega
   rw [hn] at e ht'
   simp only [Bool.not_false,if_true,List.length_cons]
   refine ⟨X',cs',(ZI ?_).trans e,r',hc',?_,s1.trans s'⟩
   ·rw [ZK]
    unfold ZC.l1
    rw [Za hlen,Za Zo,Zb,if_pos (by simpa using hlt),Za x1,Za x2,Za x3,Za Zv]
    refine (ZV (vs:=[v,f,iv ((i+1 : Nat) : Int),iv j]) (H':=X1) ?_).trans ?_
    ·rw [Zb,if_pos (by rfl),Za x4,Za x5,Za Zy,Qu (by omega)];rfl
    ·rw [ZK,Za Zy,Qu (by omega)];rfl
   ·rw [ht']
    have : (cs.set i x).take (i+1)=cs.take i++[x]:=by
     have hil : i < (cs.set i x).length:=by simp [hc];omega
     rw [List.take_succ_eq_append_getElem hil,List.take_set_of_le (Nat.le_refl _)]
     simp
    rw [this];simp
  ·rw [hp] at x3
   obtain ⟨X',cs',e,r',hc',ht',s'⟩:=Zo2 hl hQ hf t (j+1) i cs X (by omega) (by omega) (by omega) hc hd1 hr hq
   simp only [Bool.not_true,Bool.false_eq_true,if_false]
   refine ⟨X',cs',(ZI ?_).trans e,r',hc',ht',s'⟩
   rw [ZK]
   unfold ZC.l1
   rw [Za hlen,Za Zo,Zb,if_pos (by simpa using hlt),Za x1,Za x2,Za x3,Za Zv]
   refine (ZV (vs:=[v,f,iv i,iv j]) (H':=X) ?_).trans ?_
   ·rw [Zb,if_neg (by simp)];rfl
   ·rw [ZK,Za Zy,Qu (by omega)];rfl
theorem Ze1 : ∀ {l : List (List UInt8)},(match l.findIdx? p with | some i=>l.filter (fun s=>!p s)=l.take i++(l.drop (i+1)).filter (fun s=>!p s)∧i < l.length | none=>l.filter (fun s=>!p s)=l)
 | []=>by simp
 | x :: l=>by
  have ih:=Ze1 (l:=l)
  rw [List.findIdx?_cons]
  cases hp : p x
  ·simp only [Bool.false_eq_true,if_false]
   cases h : l.findIdx? p with
   | none=>rw [h] at ih;simp [hp];simpa using ih
   | some i=>rw [h] at ih;simp [hp,ih.1,ih.2]
  ·simp [hp]
theorem Zwh (k : Nat) : reps k (Value.string ⟨#[]⟩).cells.toList=List.replicate k (strv []):=by
 induction k with
 | zero=>rfl
 | succ k ih=>
  unfold reps at ih ⊢
  rw [List.replicate_succ,List.flatten_cons,ih];rfl
theorem ZnT {cs : List (List UInt8)} {i : Nat} (hr : Zx H v (cs.map strv) q) (hi : i < cs.length) : ∃ a H' v',slv 1 v (some (iv i)) none none H=some (a,H)∧clr (.string ⟨#[]⟩) 1 a H=some (.tuple #[],H')∧slv 1 v none (some (iv i)) none H'=some (v',H')∧Zx H' v' ((cs.take i).map strv) q∧ZJ q H q H':=by
 rcases hr with ⟨h1,_,_⟩ | ⟨sid,rest,g,rfl,rfl,hid⟩
 ·simp at h1;simp [h1] at hi
 ·rw [List.length_map] at *
  have b1 : bnd (some (iv i)) 0=some i:=by simp [bnd]
  have b1' : bnd (some (iv i)) cs.length=some i:=by simp [bnd]
  have b2 : ∀ k,bnd none k=some k:=fun _=>rfl
  have hsp : splice (cs.map strv++rest) (List.replicate (cs.length - i) (strv [])) i=(cs.take i).map strv++(List.replicate (cs.length - i) (strv [])++rest):=by
   unfold splice
   rw [List.length_replicate,Nat.add_sub_cancel' (Nat.le_of_lt hi),List.take_append_of_le_length (by simp;omega),List.drop_append_of_le_length (by simp),List.drop_eq_nil_of_le (by simp),List.map_take]
   simp
  refine ⟨.slice (some ⟨sid,0+i * 1,none⟩) (cs.length - i) (cs.length+rest.length - i),H.set sid (.cells ((cs.take i).map strv++(List.replicate (cs.length - i) (strv [])++rest)) 1 g false),.slice (some ⟨sid,0,none⟩) i (cs.length+rest.length),?_,?_,?_,?_,⟨by simp,fun j hj hn=>List.getElem?_set_ne (fun e=>hn (by simp [e])),fun j hj=>.inl hj⟩⟩
  ·simp only [slv,hid,b1,b2]
   rw [if_pos ⟨trivial,by omega,by omega,Nat.le_refl _⟩,if_neg (by omega)]
  ·simp only [clr]
   rw [if_neg (by omega)]
   simp only [hid]
   rw [if_pos ⟨trivial,by simp;omega⟩,Zwh]
   rw [Nat.zero_add,Nat.mul_one,hsp]
  ·simp only [slv,ZT hid,b1',b2]
   rw [if_pos ⟨trivial,by omega,by omega,Nat.le_refl _⟩,if_neg (by omega)]
   simp
  ·have hl : ((cs.take i).map strv).length=i:=by simp;omega
   refine .inr ⟨sid,List.replicate (cs.length - i) (strv [])++rest,g,?_,rfl,ZT hid⟩
   rw [hl]
   simp;omega
theorem Zpv (hr : Zx H v (l.map strv) q) (hl : l.length≤1000000) (hQ : ∀ X X',Q X→ZJ q X q X'→Q X') (hf : ∀ X,Q X→∀ s∈l,Jf (R n) f [strv s] X=some (.bool (p s),X)) (hf1 : ∀ X,Q X→∀ s∈l,Jf (R (n+1)) f [strv s] X=some (.bool (p s),X)) (h0 : Q H) :
  ∃ H' v',R (n+2) Qb [v,f] H=some (v',H')∧Zx H' v' ((l.filter fun s=>!p s).map strv) q∧ZJ q H q H':=by
 have e1 : run Tryz.prog np lvs (n+1) QQ [v,f] H=_:=ZvB hr hl (hf H h0)
 have hfi:=Ze1 (p:=p) (l:=l)
 have hrun : R (n+2) Qb [v,f] H=ZC (R (n+1)) v f H:=by rw [R,W0 rfl]
 rw [hrun]
 unfold ZC
 cases h : l.findIdx? p with
 | none=>
  rw [h] at e1 hfi
  refine ⟨H,v,?_,by rw [hfi];exact hr,.refl _ _⟩
  rw [Za e1,Za ZB,Zb,if_pos (by simp)]
  rfl
 | some i=>
  rw [h] at e1 hfi
  simp only at e1 hfi
  obtain ⟨X',cs',e2,r2,hc2,ht2,s2⟩:=Zo2 (n:=n+1) hl hQ hf1 (l.length - (i+1)) (i+1) i l H rfl (by omega) (by omega) rfl rfl hr h0
  have hle : ((l.drop (i+1)).filter fun s=>!p s).length≤l.length - (i+1):=by
   have:=List.length_filter_le (fun s=>!p s) (l.drop (i+1))
   simpa using this
  obtain ⟨a,X2,v',a1,a2,a3,a4,a5⟩:=ZnT r2 (i:=i+((l.drop (i+1)).filter fun s=>!p s).length) (by omega)
  refine ⟨X2,v',?_,by rw [hfi.1,← ht2];exact a4,s2.trans a5⟩
  rw [Za e1,Za ZB,Zb,if_neg (by simp),Za Zy,Qu (by omega),QN e2,ZM,Qt,Za a1,Za a2,Za a3]
  rfl
end
end
end Go.Proofs.YtnnehafmjfmbnaaGreatDoor.A

namespace Go.Proofs.YtnnehafmjfmbnaaGreatDoor.A
set_option linter.unusedVariables false
set_option linter.unusedSimpArgs false
open Go.Proofs Go.Proofs.YtnnehafmjfmbnaaGreatDoor
def usr (u : List UInt8 × List UInt8) : List Value:=[strv u.1,strv u.2,strv [],.bool false,.slice none 0 0]
section
variable {H H' : Zc} {n d b : Nat} {m : YV} {pre : List UInt8}
theorem Zu2 {k s : List UInt8} {H : Zc} : bld (.agg #[.string ⟨#[]⟩,.string ⟨#[]⟩,.string ⟨#[]⟩,.bool false,.slice none 0 0]) [(0,1,strv k),(1,1,strv s)] H=some (.agg (usr (k,s)).toArray,H):=by
 simp [↓ZR,ZS,↓Qj,Z5,Z6,Z3,↓Zb,JB,Zu,J9,Qc,Q8,Qf,Q7,Q9,Qx,Jh,Qy,QI,QJ,QF,Ja,Zm,Zv,Yq,Yj,QY,QO,JA,Zy,QZ,Jy,JC,Jm,ZB,Zt,Zo,QK,Ql,Z8,Q6,Jp,Jn,Jw,↓Yn,Jx,↓g_r,Yp,Kh,WA,splice,Value.cells,strv,usr,oneCell]
end
end Go.Proofs.YtnnehafmjfmbnaaGreatDoor.A

namespace Go.Proofs.YtnnehafmjfmbnaaGreatDoor.A
set_option linter.unusedVariables false
set_option linter.unusedSimpArgs false
open Go.Proofs Go.Proofs.YtnnehafmjfmbnaaGreatDoor
theorem Zfx (s : ByteArray) : Value.string s=strv s.data.toList:=by simp [strv]
section
variable {H : Zc} {n : Nat}
end
end Go.Proofs.YtnnehafmjfmbnaaGreatDoor.A

namespace Go.Proofs.YtnnehafmjfmbnaaGreatDoor.A
set_option linter.unusedVariables false
set_option linter.unusedSimpArgs false
open Go.Proofs Go.Proofs.YtnnehafmjfmbnaaGreatDoor
abbrev Ent:=List UInt8 × List UInt8
section
variable {m : YV} {k s : List UInt8} {x : Ent}
end
end Go.Proofs.YtnnehafmjfmbnaaGreatDoor.A

namespace Go.Proofs.YtnnehafmjfmbnaaGreatDoor.A
set_option linter.unusedVariables false
set_option linter.unusedSimpArgs false
open Go.Proofs Go.Proofs.YtnnehafmjfmbnaaGreatDoor
def GV (H : Zc) (gv : Value) (gs : List (List UInt8)) : Prop:=
 (gs=[]∧(gv=.slice none 0 0∨gv=.slice (some ⟨0,0,some 1⟩) 0 0))∨
 ∃ id rest,gv=.slice (some ⟨id,0,none⟩) gs.length (gs.length+rest.length)∧H[id]?=some (.cells (gs.map strv++rest) 1 false true)
section
variable {H H' X : Zc} {n p : Nat} {gv : Value} {gs : List (List UInt8)}
theorem GV.sl (h : GV H gv gs) : Sl H gv (gs.map strv):=by
 rcases h with ⟨rfl,rfl | rfl⟩ | ⟨id,rest,rfl,h2⟩
 ·exact Sl.nil
 ·exact ⟨_,_,rfl,(fun e=>by cases e),rfl⟩
 ·refine ⟨some ⟨id,0,none⟩,gs.length+rest.length,by rw [List.length_map],(fun e=>by cases e),?_⟩
  simp only [QX,h2]
  rw [if_pos (by simp)]
  simp
theorem GV.len (h : GV H gv gs) : ZF gv H'=some (iv gs.length,H'):=by
 have:=h.sl.len (H':=H')
 rwa [List.length_map] at this
theorem GV.one (h : GV H gv gs) : oneCell gv=true:=by
 rcases h with ⟨_,rfl | rfl⟩ | ⟨id,rest,rfl,_⟩ <;> rfl
theorem GV.cut (h : GV H gv gs) {k : Nat} (hk : k≤gs.length) : ∃ sv,slv 1 gv none (some (iv k)) none H=some (sv,H)∧Sl H sv ((gs.take k).map strv):=by
 have b1 : ∀ d,bnd (some (iv k)) d=some k:=fun d=>by simp [bnd]
 have b2 : ∀ d,bnd none d=some d:=fun _=>rfl
 rcases h with ⟨rfl,h⟩ | ⟨id,rest,rfl,h2⟩
 ·have hk0 : k=0:=by simpa using hk
  subst hk0
  rcases h with rfl | rfl
  ·exact ⟨_,rfl,Sl.nil⟩
  ·exact ⟨_,rfl,⟨_,_,rfl,(fun e=>by cases e),rfl⟩⟩
 ·by_cases h0 : gs.length+rest.length=0
  ·have hk0 : k=0:=by omega
   subst hk0
   refine ⟨.slice (some ⟨id,0,some (bif false then 1 else 0)⟩) 0 0,?_,⟨_,_,rfl,(fun e=>by cases e),rfl⟩⟩
   simp only [slv,h2,b1,b2]
   rw [if_pos ⟨trivial,by omega,by omega,Nat.le_refl _⟩,if_pos (by omega)]
  ·refine ⟨.slice (some ⟨id,0,none⟩) k (gs.length+rest.length),?_,?_⟩
   ·simp only [slv,h2,b1,b2]
    rw [if_pos ⟨trivial,by omega,by omega,Nat.le_refl _⟩,if_neg (by omega)]
    simp
   ·have hl : ((gs.take k).map strv).length=k:=by simp;omega
    refine ⟨some ⟨id,0,none⟩,gs.length+rest.length,by rw [hl],(fun e=>by cases e),?_⟩
    simp only [QX,h2]
    rw [if_pos (by simp;omega),List.drop_zero,Nat.mul_one,List.take_append_of_le_length (by simpa using hk),List.map_take]
structure Zp where
 nm : List UInt8
 hs : List UInt8
 ml : List UInt8
 ds : Bool
 gv : Value
 gs : List (List UInt8)
abbrev Zp.cells (u : Zp) : List Value:=[strv u.nm,strv u.hs,strv u.ml,.bool u.ds,u.gv]
def Zp.ok (H : Zc) (u : Zp) : Prop:=GV H u.gv u.gs
theorem Zp.all {u : Zp} (h : u.ok H) : u.cells.all oneCell=true:=by
 have:=GV.one h
 simp only [Zp.cells,List.all_cons,this];rfl
def ZcY (H : Zc) (sl : Value) (us : List Zp) : Prop:=SlN 5 H sl (us.map Zp.cells)∧∀ u∈us,u.ok H
variable {sl : Value} {us : List Zp}
theorem ZcY.len (h : ZcY H sl us) : ZF sl H'=some (iv us.length,H'):=by
 have:=h.1.len (H':=H')
 rwa [List.length_map] at this
theorem ZcY.fetch {β : Type} {k : Value→M β} (h : ZcY H sl us) {j : Nat} {u : Zp} (hj : us[j]?=some u) :
  bind (ixa 5 sl (iv j)) (fun p=>bind (ldA 5 p) fun v=>bind (alc 1 (.agg #[.string ⟨#[]⟩,.string ⟨#[]⟩,.string ⟨#[]⟩,.bool false,.slice none 0 0])) fun q=>bind (stA 5 q v) fun _=>k q) H=k (pt H.length) (H++[.cells u.cells 1 false false]):=by
 have hr : (us.map Zp.cells)[j]?=some u.cells:=by rw [List.getElem?_map,hj];rfl
 rw [h.1.fetch hr (by omega) .i64]
 exact Zak (n:=5) (zs:=[.string ⟨#[]⟩,.string ⟨#[]⟩,.string ⟨#[]⟩,.bool false,.slice none 0 0]) (r:=u.cells) rfl rfl rfl (Zp.all (h.2 u (List.mem_of_getElem? hj)))
end
end Go.Proofs.YtnnehafmjfmbnaaGreatDoor.A

namespace Go.Proofs.YtnnehafmjfmbnaaGreatDoor.A
set_option linter.unusedVariables false
set_option linter.unusedSimpArgs false
open Go.Proofs Go.Proofs.YtnnehafmjfmbnaaGreatDoor
section
variable {H0 H X : Zc} {n p : Nat} {u : Zp} {us : List Zp} {sl : Value}
end
end Go.Proofs.YtnnehafmjfmbnaaGreatDoor.A

namespace Go.Proofs.YtnnehafmjfmbnaaGreatDoor.A
set_option linter.unusedVariables false
set_option linter.unusedSimpArgs false
open Go.Proofs Go.Proofs.YtnnehafmjfmbnaaGreatDoor
section
variable {H0 H X : Zc} {n p d b : Nat} {u : Zp} {us : List Zp} {sl dv : Value}
end
end Go.Proofs.YtnnehafmjfmbnaaGreatDoor.A

namespace Go.Proofs.YtnnehafmjfmbnaaGreatDoor.A
set_option linter.unusedVariables false
set_option linter.unusedSimpArgs false
open Go.Proofs Go.Proofs.YtnnehafmjfmbnaaGreatDoor
abbrev ZfK:=List UInt8 × List UInt8 × List UInt8 × Bool × List (List UInt8)
def Qh (u : Zp) : ZfK:=(u.nm,u.hs,u.ml,u.ds,u.gs)
section
variable {H0 H X : Zc} {n p p1 p2 d b : Nat} {u w : Zp} {us ws : List Zp} {a c : Value}
theorem Zqb (h1 : Sl X u.gv (u.gs.map strv)) (h2 : Sl X w.gv (w.gs.map strv)) (hl : u.gs.length=w.gs.length) (hb : u.gs.length≤1000000) (c1 : X[p1]?=some (.cells u.cells 1 false false)) (c2 : X[p2]?=some (.cells w.cells 1 false false)) : ∀ (t j : Nat),u.gs.length - j=t→j≤u.gs.length→
  Zi (c4 (Kx.l1 (R n))) [pt p1,pt p2,iv u.gs.length,iv j] X=some (if u.gs.drop j=w.gs.drop j then .ext 0 [] else .ret (.bool false),X)
 | 0,j,ht,hj=>by
  rw [List.drop_eq_nil_of_le (by omega),List.drop_eq_nil_of_le (by omega),if_pos rfl]
  refine Z7 ?_
  rw [ZK]
  unfold Kx.l1
  rw [Za Zo,Zb,if_neg (by simp;omega)]
  rfl
 | t+1,j,ht,hj=>by
  have hj1 : j < u.gs.length:=by omega
  have hj2 : j < w.gs.length:=by omega
  have hlt : (j : Int) < u.gs.length:=by omega
  have g1:=List.getElem?_eq_getElem hj1
  have g2:=List.getElem?_eq_getElem hj2
  have d1:=List.drop_eq_getElem_cons hj1
  have d2:=List.drop_eq_getElem_cons hj2
  generalize u.gs[j]=x at g1 d1
  generalize w.gs[j]=y at g2 d2
  have x1:=h1.ix (i:=j) (by simpa using hj1) .i64 X
  have x2:=h1.ldx (KW g1)
  have y1:=h2.ix (i:=j) (by simpa using hj2) .i64 X
  have y2:=h2.ldx (KW g2)
  have a4 : ld1 (pa p1 4) X=some (u.gv,X):=Zw c1 rfl
  have b4 : ld1 (pa p2 4) X=some (w.gv,X):=Zw c2 rfl
  have q1 : bop .str .neq (strv x) (strv y) X=some (.bool (!(x==y)),X):=WB
  rw [d1,d2]
  by_cases hxy : x=y
  ·subst hxy
   have ih:=Zqb h1 h2 hl hb c1 c2 t (j+1) (by omega) (by omega)
   have hi : (x :: u.gs.drop (j+1)=x :: w.gs.drop (j+1))↔(u.gs.drop (j+1)=w.gs.drop (j+1)):=by simp
   simp only [hi]
   refine (ZI ?_).trans ih
   rw [ZK]
   unfold Kx.l1
   rw [Za Zo,Zb,if_pos (by simpa using hlt),Za Zg,Za a4,Za x1,Za x2,Za Zg,Za b4,Za y1,Za y2,Za q1,Zb,if_neg (by simp),Za Zy,Qu (by omega)]
   rfl
  ·rw [if_neg (by simp [hxy])]
   refine Yz ?_
   rw [ZK]
   unfold Kx.l1
   rw [Za Zo,Zb,if_pos (by simpa using hlt),Za Zg,Za a4,Za x1,Za x2,Za Zg,Za b4,Za y1,Za y2,Za q1,Zb,if_pos (by simp [hxy])]
   rfl
theorem Zp4 {u : Zp} (h : oneCell u.gv=true) : alc 1 (.agg u.cells.toArray) X=some (pt X.length,X++[.cells u.cells 1 false false]):=by
 rw [QI]
 exact if_pos (show u.cells.toArray.toList.all oneCell=true by simp only [Zp.cells,List.all_cons,h];rfl)
theorem Zve (h1 : Sl X u.gv (u.gs.map strv)) (h2 : Sl X w.gv (w.gs.map strv)) (o1 : oneCell u.gv=true) (o2 : oneCell w.gv=true) (hb1 : u.gs.length≤1000000) (hb2 : w.gs.length≤1000000) :
  ∃ X',R (n+1) Zes [.agg u.cells.toArray,.agg w.cells.toArray] X=some (.bool (decide (Qh u=Qh w)),X')∧HLe X X':=by
 have e1:=Zp4 (X:=X) o1
 have e2:=Zp4 (X:=X++[.cells u.cells 1 false false]) o2
 have k1 : HLe X (X++[Ze.cells u.cells 1 false false]++[Ze.cells w.cells 1 false false]):=(HLe.app _ _).trans (.app _ _)
 have c1 : (X++[Ze.cells u.cells 1 false false]++[Ze.cells w.cells 1 false false])[X.length]?=some (.cells u.cells 1 false false):=ZgQ
 have c2 : (X++[Ze.cells u.cells 1 false false]++[Ze.cells w.cells 1 false false])[(X++[Ze.cells u.cells 1 false false]).length]?=some (.cells w.cells 1 false false):=ZD
 generalize X++[Ze.cells u.cells 1 false false]++[Ze.cells w.cells 1 false false]=X2 at e2 k1 c1 c2
 generalize (X++[Ze.cells u.cells 1 false false]).length=p2 at e2 c2
 generalize X.length=p1 at e1 c1
 have a0 : ∀ f x,u.cells[f]?=some x→ld1 (pa p1 f) X2=some (x,X2):=fun f x h=>Zw c1 h
 have b0 : ∀ f x,w.cells[f]?=some x→ld1 (pa p2 f) X2=some (x,X2):=fun f x h=>Zw c2 h
 have q0 : ∀ x y : List UInt8,bop .str .neq (strv x) (strv y) X2=some (.bool (decide (x≠y)),X2):=fun x y=>by
  rw [WB];by_cases h : x=y <;> simp [h]
 have q1 : bop .bool .neq (.bool u.ds) (.bool w.ds) X2=some (.bool (decide (u.ds≠w.ds)),X2):=by
  rw [Jp];cases u.ds <;> cases w.ds <;> rfl
 have q2 : bop .int .neq (iv u.gs.length) (iv w.gs.length) X2=some (.bool (decide (u.gs.length≠w.gs.length)),X2):=by
  rw [Zt];by_cases h : u.gs.length=w.gs.length
  ·simp [h]
  ·have : ((u.gs.length : Int) !=w.gs.length)=true:=by rw [bne_iff_ne];omega
   rw [this];simp [h]
 have g1:=h1.mono k1
 have g2:=h2.mono k1
 have l1 : ZF u.gv X2=some (iv u.gs.length,X2):=by have:=g1.len (H':=X2);rwa [List.length_map] at this
 have l2 : ZF w.gv X2=some (iv w.gs.length,X2):=by have:=g2.len (H':=X2);rwa [List.length_map] at this
 refine ⟨X2,?_,k1⟩
 rw [R,ZoE rfl]
 unfold Kx
 rw [Za e1,Za e2,Za Zg,Za (a0 0 _ rfl),Za Zg,Za (b0 0 _ rfl),Za (q0 _ _)]
 by_cases n1 : u.nm=w.nm
 rotate_left
 ·rw [decide_eq_true n1,Za (g_r.trans (if_neg (by simp)))]
  simp only [List.replicate]
  rw [Qk,Za Zm]
  simp only [cond_true]
  rw [Za (g_r.trans (if_neg (by simp)))]
  simp only [List.replicate]
  rw [Qk,Za Zm]
  simp only [cond_true]
  rw [Za (g_r.trans (if_neg (by simp)))]
  simp only [List.replicate]
  rw [Qk,Za Zm]
  simp only [cond_true]
  rw [Za (g_r.trans (if_neg (by simp)))]
  simp only [List.replicate]
  rw [Q4,Za Zm]
  simp only [cond_true]
  rw [Zb,if_pos rfl,decide_eq_false (fun e=>n1 (congrArg (·.1) e))]
  rfl
 rw [decide_eq_false (fun h=>h n1),Z0,Zl,Za Zg,Zl,Za (a0 1 _ rfl),Zl,Za Zg,Zl,Za (b0 1 _ rfl),Zl,Za (q0 _ _),Qm,Qk,Za Zm]
 simp only [cond_false]
 by_cases n2 : u.hs=w.hs
 rotate_left
 ·rw [decide_eq_true n2,Za (g_r.trans (if_neg (by simp)))]
  simp only [List.replicate]
  rw [Qk,Za Zm]
  simp only [cond_true]
  rw [Za (g_r.trans (if_neg (by simp)))]
  simp only [List.replicate]
  rw [Qk,Za Zm]
  simp only [cond_true]
  rw [Za (g_r.trans (if_neg (by simp)))]
  simp only [List.replicate]
  rw [Q4,Za Zm]
  simp only [cond_true]
  rw [Zb,if_pos rfl,decide_eq_false (fun e=>n2 (congrArg (·.2.1) e))]
  rfl
 rw [decide_eq_false (fun h=>h n2),Z0,Zl,Za Zg,Zl,Za (a0 2 _ rfl),Zl,Za Zg,Zl,Za (b0 2 _ rfl),Zl,Za (q0 _ _),Qm,Qk,Za Zm]
 simp only [cond_false]
 by_cases n3 : u.ml=w.ml
 rotate_left
 ·rw [decide_eq_true n3,Za (g_r.trans (if_neg (by simp)))]
  simp only [List.replicate]
  rw [Qk,Za Zm]
  simp only [cond_true]
  rw [Za (g_r.trans (if_neg (by simp)))]
  simp only [List.replicate]
  rw [Q4,Za Zm]
  simp only [cond_true]
  rw [Zb,if_pos rfl,decide_eq_false (fun e=>n3 (congrArg (·.2.2.1) e))]
  rfl
 rw [decide_eq_false (fun h=>h n3),Z0,Zl,Za Zg,Zl,Za (a0 3 _ rfl),Zl,Za Zg,Zl,Za (b0 3 _ rfl),Zl,Za q1,Qm,Qk,Za Zm]
 simp only [cond_false]
 by_cases n4 : u.ds=w.ds
 rotate_left
 ·rw [decide_eq_true n4,Za (g_r.trans (if_neg (by simp)))]
  simp only [List.replicate]
  rw [Q4,Za Zm]
  simp only [cond_true]
  rw [Zb,if_pos rfl,decide_eq_false (fun e=>n4 (congrArg (·.2.2.2.1) e))]
  rfl
 rw [decide_eq_false (fun h=>h n4),Z0,Zl,Za Zg,Zl,Za (a0 4 _ rfl),Zl,Za l1,Zl,Za Zg,Zl,Za (b0 4 _ rfl),Zl,Za l2,Zl,Za q2,Qm,Q4,Za Zm]
 simp only [cond_false]
 by_cases n5 : u.gs.length=w.gs.length
 rotate_left
 ·rw [decide_eq_true n5,Zb,if_pos rfl,decide_eq_false (fun e=>n5 (congrArg (·.2.2.2.2.length) e))]
  rfl
 rw [decide_eq_false (fun h=>h n5),Zb,if_neg (by simp),Za Zg,Za (a0 4 _ rfl),Za l1]
 have e3:=Zqb (n:=n) g1 g2 n5 hb1 c1 c2 u.gs.length 0 (by omega) (by omega)
 rw [List.drop_zero,List.drop_zero] at e3
 have e3 : Zi (c4 (Kx.l1 (R n))) [pt p1,pt p2,iv u.gs.length,.int .i64 0] X2=_:=e3
 by_cases n6 : u.gs=w.gs
 ·rw [if_pos n6] at e3
  rw [QN e3,ZM,decide_eq_true (show Qh u=Qh w by unfold Qh;rw [n1,n2,n3,n4,n6])]
  rfl
 ·rw [if_neg n6] at e3
  rw [Ku e3,decide_eq_false (fun e=>n6 (congrArg (·.2.2.2.2) e))]
  rfl
def Qs (H : Zc) (sl : Value) (us : List Zp) : Prop:=SlN 5 H sl (us.map Zp.cells)∧∀ u∈us,Sl H u.gv (u.gs.map strv)∧oneCell u.gv=true∧u.gs.length≤1000000
theorem Qs.mono (h : Qs H a us) (hl : HLe H X) : Qs X a us:=⟨h.1.mono hl,fun u hu=>⟨(h.2 u hu).1.mono hl,(h.2 u hu).2⟩⟩
theorem ZcY.s (h : ZcY H a us) (hb : ∀ u∈us,u.gs.length≤1000000) : Qs H a us:=⟨h.1,fun u hu=>⟨GV.sl (h.2 u hu),GV.one (h.2 u hu),hb u hu⟩⟩
theorem Zqo (hn : us.length≤1000000) (hl : us.length=ws.length) (ha : Qs H0 a us) (hc : Qs H0 c ws) : ∀ (t j : Nat) (X : Zc),us.length - j=t→j≤us.length→HLe H0 X→
  ∃ X',Zi (c4 (Je.l1 (R (n+1)))) [a,c,iv us.length,iv j] X=some (if (us.drop j).map Qh=(ws.drop j).map Qh then .ext 0 [] else .ret (.bool false),X')∧HLe H0 X'
 | 0,j,X,ht,hj,hle=>by
  rw [List.drop_eq_nil_of_le (by omega),List.drop_eq_nil_of_le (by omega),if_pos rfl]
  refine ⟨X,Z7 ?_,hle⟩
  rw [ZK]
  unfold Je.l1
  rw [Za Zo,Zb,if_neg (by simp;omega)]
  rfl
 | t+1,j,X,ht,hj,hle=>by
  have hj1 : j < us.length:=by omega
  have hj2 : j < ws.length:=by omega
  have hlt : (j : Int) < us.length:=by omega
  have g1:=List.getElem?_eq_getElem hj1
  have g2:=List.getElem?_eq_getElem hj2
  have d1:=List.drop_eq_getElem_cons hj1
  have d2:=List.drop_eq_getElem_cons hj2
  generalize us[j]=u at g1 d1
  generalize ws[j]=w at g2 d2
  have hr1 : (us.map Zp.cells)[j]?=some u.cells:=by rw [List.getElem?_map,g1];rfl
  have hr2 : (ws.map Zp.cells)[j]?=some w.cells:=by rw [List.getElem?_map,g2];rfl
  have hf1:=fun {K : Value→M Out}=>(ha.1.mono hle).fetch (k:=K) hr1 (by omega) .i64
  have hf2:=fun {K : Value→M Out}=>(hc.1.mono hle).fetch (k:=K) hr2 (by omega) .i64
  obtain ⟨p1,p2,p3⟩:=(ha.mono hle).2 u (List.mem_of_getElem? g1)
  obtain ⟨r1,r2,r3⟩:=(hc.mono hle).2 w (List.mem_of_getElem? g2)
  obtain ⟨X1,e1,l1⟩:=Zve (n:=n) p1 r1 p2 r2 p3 r3
  rw [d1,d2]
  by_cases hk : Qh u=Qh w
  ·rw [decide_eq_true hk] at e1
   obtain ⟨X2,e2,l2⟩:=Zqo hn hl ha hc t (j+1) X1 (by omega) (by omega) (hle.trans l1)
   have hi : ((u :: us.drop (j+1)).map Qh=(w :: ws.drop (j+1)).map Qh)↔((us.drop (j+1)).map Qh=(ws.drop (j+1)).map Qh):=by simp [hk]
   simp only [hi]
   refine ⟨X2,(ZI ?_).trans e2,l2⟩
   rw [ZK]
   unfold Je.l1
   rw [Za Zo,Zb,if_pos (by simpa using hlt),hf1,hf2,Za e1,Za Zv,Zb,if_neg (by simp),Za Zy,Qu (by omega)]
   rfl
  ·rw [decide_eq_false hk] at e1
   rw [if_neg (by simp [hk])]
   refine ⟨X1,Yz ?_,hle.trans l1⟩
   rw [ZK]
   unfold Je.l1
   rw [Za Zo,Zb,if_pos (by simpa using hlt),hf1,hf2,Za e1,Za Zv,Zb,if_pos (by simp)]
   rfl
theorem Zta (hn : us.length≤1000000) (hn2 : ws.length≤1000000) (ha : Qs X a us) (hc : Qs X c ws) : ∃ X',R (n+2) YL [a,c] X=some (.bool (decide (us.map Qh=ws.map Qh)),X')∧HLe X X':=by
 have h1 : ZF a X=some (iv us.length,X):=by have:=ha.1.len (H':=X);rwa [List.length_map] at this
 have h2 : ZF c X=some (iv ws.length,X):=by have:=hc.1.len (H':=X);rwa [List.length_map] at this
 have f1 : ∀ v H',Je (R (n+1)) a c X=some (v,H')→R (n+2) YL [a,c] X=some (v,H'):=fun v H' hr=>by rw [R,ZjH rfl];exact hr
 by_cases hl : us.length=ws.length
 ·obtain ⟨X',e,l⟩:=Zqo (n:=n) hn hl ha hc us.length 0 X (by omega) (by omega) (.refl _)
  have e : Zi (c4 (Je.l1 (R (n+1)))) [a,c,iv us.length,.int .i64 0] X=_:=e
  rw [List.drop_zero,List.drop_zero] at e
  refine ⟨X',f1 _ _ ?_,l⟩
  unfold Je
  rw [Za h1,Za h2,Za Zt,Zb,if_neg (by simp [hl]),Za h1]
  by_cases hk : us.map Qh=ws.map Qh
  ·rw [if_pos hk] at e
   rw [QN e,ZM,decide_eq_true hk];rfl
  ·rw [if_neg hk] at e
   rw [Ku e,decide_eq_false hk];rfl
 ·refine ⟨X,f1 _ _ ?_,.refl _⟩
  unfold Je
  have hk : ¬ us.map Qh=ws.map Qh:=fun e=>hl (by have:=congrArg List.length e;simpa using this)
  have hne : ((us.length : Int) !=ws.length)=true:=by rw [bne_iff_ne];omega
  rw [Za h1,Za h2,Za Zt,Zb,if_pos hne,decide_eq_false hk]
  rfl
end
end Go.Proofs.YtnnehafmjfmbnaaGreatDoor.A

namespace Go.Proofs.YtnnehafmjfmbnaaGreatDoor.A
set_option linter.unusedVariables false
set_option linter.unusedSimpArgs false
open Go.Proofs Go.Proofs.YtnnehafmjfmbnaaGreatDoor
section
variable {H H' : Zc} {n d b p q : Nat} {m : YV} {k s : List UInt8}
end
end Go.Proofs.YtnnehafmjfmbnaaGreatDoor.A

namespace Go.Proofs.YtnnehafmjfmbnaaGreatDoor.A
set_option linter.unusedVariables false
set_option linter.unusedSimpArgs false
open Go.Proofs Go.Proofs.YtnnehafmjfmbnaaGreatDoor
structure ZkY where
 kd : Nat
 nm : List UInt8
 hs : List UInt8
abbrev ZkY.cells (a : ZkY) : List Value:=[.int .u8 a.kd,strv a.nm,strv a.hs]
def ZoS (H : Zc) (sl : Value) (ac : List ZkY) : Prop:=SlN 3 H sl (ac.map ZkY.cells)∧∀ a∈ac,a.kd≤255
section
variable {H H' : Zc} {sl : Value} {ac : List ZkY} {n : Nat}
theorem ZoS.len (h : ZoS H sl ac) : ZF sl H'=some (iv ac.length,H'):=by
 have:=h.1.len (H':=H')
 rwa [List.length_map] at this
theorem ZoS.fetch {β : Type} {k : Value→M β} (h : ZoS H sl ac) {j : Nat} {a : ZkY} (hj : ac[j]?=some a) :
  bind (ixa 3 sl (iv j)) (fun p=>bind (ldA 3 p) fun v=>bind (alc 1 (.agg #[.int .u8 0,.string ⟨#[]⟩,.string ⟨#[]⟩])) fun q=>bind (stA 3 q v) fun _=>k q) H=k (pt H.length) (H++[.cells a.cells 1 false false]):=by
 have hr : (ac.map ZkY.cells)[j]?=some a.cells:=by rw [List.getElem?_map,hj];rfl
 rw [h.1.fetch hr (by omega) .i64]
 exact Zak (n:=3) (zs:=[.int .u8 0,.string ⟨#[]⟩,.string ⟨#[]⟩]) (r:=a.cells) rfl rfl rfl rfl
end
end Go.Proofs.YtnnehafmjfmbnaaGreatDoor.A

namespace Go.Proofs.YtnnehafmjfmbnaaGreatDoor.A
set_option linter.unusedVariables false
set_option linter.unusedSimpArgs false
open Go.Proofs Go.Proofs.YtnnehafmjfmbnaaGreatDoor
section
variable {H : Zc} {n : Nat} {f v : Value} {p : List UInt8→Bool} {l : List (List UInt8)} {q : List Nat} {Q : Zc→Prop}
theorem HLe.stepq {X X' : Zc} (h : HLe X X') : ZJ q X q X':=h.step.more (by simp) (fun j hj=>.inl hj)
theorem Zrb (hl : l.length≤1000000) (hQ : ∀ X X',Q X→HLe X X'→Q X') (hf : ∀ X,Q X→∀ s∈l,∃ X',Jf (R n) f [strv s] X=some (.bool (p s),X')∧HLe X X') : ∀ (t k : Nat) (X : Zc),l.length - k=t→k≤l.length→Q X→Zx X v (l.map strv) q→
  ∃ X',Zi (c4 (ZE.l1 (R n))) [v,f,iv l.length,iv k] X=some (match (l.drop k).findIdx? p with | some i=>.ret (iv (k+i : Nat)) | none=>.ext 0 [],X')∧HLe X X'
 | 0,k,X,ht,hk,hq,hr=>by
  have : k=l.length:=by omega
  subst this
  rw [List.drop_length]
  refine ⟨X,Z7 ?_,.refl _⟩
  rw [ZK]
  unfold ZE.l1
  rw [Za Zo,Zb,if_neg (by simp)]
  rfl
 | t+1,k,X,ht,hk,hq,hr=>by
  have hkl : k < l.length:=by omega
  have hlt : (k : Int) < l.length:=by omega
  have hg:=List.getElem?_eq_getElem hkl
  have hm : l[k]∈l:=List.getElem_mem hkl
  have hd:=List.drop_eq_getElem_cons hkl
  generalize l[k]=x at hg hd hm
  have x1:=hr.ix (i:=k) (by simpa using hkl) .i64 X
  have x2:=hr.ldx (KW hg)
  obtain ⟨X1,x3,l1⟩:=hf X hq x hm
  obtain ⟨X2,ih,l2⟩:=Zrb hl hQ hf t (k+1) X1 (by omega) (by omega) (hQ _ _ hq l1) (hr.step l1.step (by simp))
  rw [hd,List.findIdx?_cons]
  cases hp : p x
  ·rw [hp] at x3
   refine ⟨X2,(ZI ?_).trans (ih.trans ?_),l1.trans l2⟩
   ·rw [ZK]
    unfold ZE.l1
    rw [Za Zo,Zb,if_pos (by simpa using hlt),Za x1,Za x2,Za x3,Zb,if_neg (by simp),Za Zy,Qu (by omega)]
    rfl
   ·cases (l.drop (k+1)).findIdx? p with
    | none=>rfl
    | some i=>simp only [Bool.false_eq_true,if_false,Option.map_some];rw [show k+1+i=k+(i+1) by omega]
  ·rw [hp] at x3
   refine ⟨X1,Yz ?_,l1⟩
   rw [ZK]
   unfold ZE.l1
   rw [Za Zo,Zb,if_pos (by simpa using hlt),Za x1,Za x2,Za x3,Zb,if_pos rfl]
   rfl
theorem Zs3 (hr : Zx H v (l.map strv) q) (hl : l.length≤1000000) (hQ : ∀ X X',Q X→HLe X X'→Q X') (hf : ∀ X,Q X→∀ s∈l,∃ X',Jf (R n) f [strv s] X=some (.bool (p s),X')∧HLe X X') (h0 : Q H) :
  ∃ H',R (n+1) QQ [v,f] H=some (match l.findIdx? p with | some i=>iv i | none=>iv (-1),H')∧HLe H H':=by
 obtain ⟨H',e,le⟩:=Zrb hl hQ hf l.length 0 H (by omega) (by omega) h0 hr
 rw [List.drop_zero] at e
 have e : Zi (c4 (ZE.l1 (R n))) [v,f,iv l.length,.int .i64 0] H=_:=e
 have hlen : ZF v H=some (iv l.length,H):=by have:=hr.rd.len (H':=H);simpa using this
 refine ⟨H',?_,le⟩
 rw [R,Zal rfl]
 unfold ZE
 rw [Za hlen]
 cases h : l.findIdx? p with
 | none=>rw [h] at e;rw [QN e,ZM];rfl
 | some i=>
  rw [h] at e
  rw [Ku e]
  simp [ret]
theorem Znd (hl : l.length≤1000000) (hQ : ∀ X X',Q X→ZJ q X q X'→Q X') (hf : ∀ X,Q X→∀ s∈l,∃ X',Jf (R n) f [strv s] X=some (.bool (p s),X')∧HLe X X') : ∀ (t j i : Nat) (cs : List (List UInt8)) (X : Zc),l.length - j=t→j≤l.length→i≤j→cs.length=l.length→cs.drop j=l.drop j→Zx X v (cs.map strv) q→Q X→
  ∃ (X' : Zc) (cs' : List (List UInt8)),Zi (c4 (ZC.l1 (R n))) [v,f,iv i,iv j] X=some (.ext 0 [v,iv (i+((l.drop j).filter fun s=>!p s).length : Nat)],X')∧Zx X' v (cs'.map strv) q∧cs'.length=l.length∧
   cs'.take (i+((l.drop j).filter fun s=>!p s).length)=cs.take i++(l.drop j).filter (fun s=>!p s)∧ZJ q X q X'
 | 0,j,i,cs,X,ht,hj,hi,hc,hd,hr,hq=>by
  have : j=l.length:=by omega
  subst this
  rw [List.drop_length]
  have hlen : ZF v X=some (iv l.length,X):=by have:=hr.rd.len (H':=X);simpa [hc] using this
  refine ⟨X,cs,Z7 ?_,hr,hc,by simp,.refl _ _⟩
  rw [ZK]
  unfold ZC.l1
  rw [Za hlen,Za Zo,Zb,if_neg (by simp)]
  rfl
 | t+1,j,i,cs,X,ht,hj,hi,hc,hd,hr,hq=>by
  have hjl : j < l.length:=by omega
  have hlt : (j : Int) < l.length:=by omega
  have hg:=List.getElem?_eq_getElem hjl
  have hm : l[j]∈l:=List.getElem_mem hjl
  have hdl:=List.drop_eq_getElem_cons hjl
  generalize l[j]=x at hg hdl hm
  have hgc : cs[j]?=some x:=by
   have h1 : (cs.drop j)[0]?=(l.drop j)[0]?:=by rw [hd]
   simpa [hg] using h1
  have hlen : ZF v X=some (iv l.length,X):=by have:=hr.rd.len (H':=X);simpa [hc] using this
  have x1:=hr.ix (i:=j) (by simpa [hc] using hjl) .i64 X
  have x2:=hr.ldx (KW hgc)
  obtain ⟨Y,x3,ly⟩:=hf X hq x hm
  have hqy:=hQ _ _ hq (ly.stepq (q:=q))
  have hry:=hr.step ly.step (by simp)
  have hd1 : cs.drop (j+1)=l.drop (j+1):=by
   rw [← List.drop_drop,hd,List.drop_drop]
  rw [hdl,List.filter_cons]
  cases hp : p x
  ·rw [hp] at x3
   have x4:=hry.ix (i:=i) (by simp [hc];omega) .i64 Y
   obtain ⟨X1,x5,r1,s1,_⟩:=hry.stx (i:=i) (u:=strv x) (by simp [hc];omega) rfl
   have hset : (cs.map strv).set i (strv x)=(cs.set i x).map strv:=by rw [List.map_set]
   rw [hset] at r1
   obtain ⟨X',cs',e,r',hc',ht',s'⟩:=Znd hl hQ hf t (j+1) (i+1) (cs.set i x) X1 (by omega) (by omega) (by omega) (by simpa using hc) (by rw [List.drop_set_of_lt (by omega)];exact hd1) r1 (hQ _ _ hqy s1)
   have hn : i+1+((l.drop (j+1)).filter fun s=>!p s).length=i+(((l.drop (j+1)).filter fun s=>!p s).length+1):=by omega
   rw [hn] at e ht'
   simp only [Bool.not_false,if_true,List.length_cons]
   refine ⟨X',cs',(ZI ?_).trans e,r',hc',?_,(ly.stepq.trans s1).trans s'⟩
   ·rw [ZK]
    unfold ZC.l1
    rw [Za hlen,Za Zo,Zb,if_pos (by simpa using hlt),Za x1,Za x2,Za x3,Za Zv]
    refine (ZV (vs:=[v,f,iv ((i+1 : Nat) : Int),iv j]) (H':=X1) ?_).trans ?_
    ·rw [Zb,if_pos (by rfl),Za x4,Za x5,Za Zy,Qu (by omega)];rfl
    ·rw [ZK,Za Zy,Qu (by omega)];rfl
   ·rw [ht']
    have : (cs.set i x).take (i+1)=cs.take i++[x]:=by
     have hil : i < (cs.set i x).length:=by simp [hc];omega
     rw [List.take_succ_eq_append_getElem hil,List.take_set_of_le (Nat.le_refl _)]
     simp
    rw [this];simp
  ·rw [hp] at x3
   obtain ⟨X',cs',e,r',hc',ht',s'⟩:=Znd hl hQ hf t (j+1) i cs Y (by omega) (by omega) (by omega) hc hd1 hry hqy
   simp only [Bool.not_true,Bool.false_eq_true,if_false]
   refine ⟨X',cs',(ZI ?_).trans e,r',hc',ht',ly.stepq.trans s'⟩
   rw [ZK]
   unfold ZC.l1
   rw [Za hlen,Za Zo,Zb,if_pos (by simpa using hlt),Za x1,Za x2,Za x3,Za Zv]
   refine (ZV (vs:=[v,f,iv i,iv j]) (H':=Y) ?_).trans ?_
   ·rw [Zb,if_neg (by simp)];rfl
   ·rw [ZK,Za Zy,Qu (by omega)];rfl
theorem ZoD (hr : Zx H v (l.map strv) q) (hl : l.length≤1000000) (hQ : ∀ X X',Q X→ZJ q X q X'→Q X') (hf : ∀ X,Q X→∀ s∈l,∃ X',Jf (R n) f [strv s] X=some (.bool (p s),X')∧HLe X X') (hf1 : ∀ X,Q X→∀ s∈l,∃ X',Jf (R (n+1)) f [strv s] X=some (.bool (p s),X')∧HLe X X') (h0 : Q H) :
  ∃ H' v',R (n+2) Qb [v,f] H=some (v',H')∧Zx H' v' ((l.filter fun s=>!p s).map strv) q∧ZJ q H q H':=by
 obtain ⟨Y,e1,ly⟩:=Zs3 hr hl (fun X X' hq hx=>hQ X X' hq hx.stepq) hf h0
 have e1 : run Tryz.prog np lvs (n+1) QQ [v,f] H=_:=e1
 have hry:=hr.step ly.step (by simp)
 have hqy:=hQ _ _ h0 (ly.stepq (q:=q))
 have hfi:=Ze1 (p:=p) (l:=l)
 have hrun : R (n+2) Qb [v,f] H=ZC (R (n+1)) v f H:=by rw [R,W0 rfl]
 rw [hrun]
 unfold ZC
 cases h : l.findIdx? p with
 | none=>
  rw [h] at e1 hfi
  refine ⟨Y,v,?_,by rw [hfi];exact hry,ly.stepq⟩
  rw [Za e1,Za ZB,Zb,if_pos (by simp)]
  rfl
 | some i=>
  rw [h] at e1 hfi
  simp only at e1 hfi
  obtain ⟨X',cs',e2,r2,hc2,ht2,s2⟩:=Znd (n:=n+1) hl hQ hf1 (l.length - (i+1)) (i+1) i l Y rfl (by omega) (by omega) rfl rfl hry hqy
  have hle : ((l.drop (i+1)).filter fun s=>!p s).length≤l.length - (i+1):=by
   have:=List.length_filter_le (fun s=>!p s) (l.drop (i+1))
   simpa using this
  obtain ⟨a,X2,v',a1,a2,a3,a4,a5⟩:=ZnT r2 (i:=i+((l.drop (i+1)).filter fun s=>!p s).length) (by omega)
  refine ⟨X2,v',?_,by rw [hfi.1,← ht2];exact a4,(ly.stepq.trans s2).trans a5⟩
  rw [Za e1,Za ZB,Zb,if_neg (by simp),Za Zy,Qu (by omega),QN e2,ZM,Qt,Za a1,Za a2,Za a3]
  rfl
end
abbrev Tx:=List UInt8
def Asc (l : List Tx) : Prop:=l.Pairwise (· < ·)
theorem ZjJ {a : Tx} : ¬ a < a:=List.lt_irrefl a
theorem Zrs : ∀ {l l' : List Tx},Asc l→Asc l'→(∀ x,x∈l↔x∈l')→l=l'
 | [],[],_,_,_=>rfl
 | [],b :: l',_,_,h=>by have:=(h b).2 (by simp);cases this
 | a :: l,[],_,_,h=>by have:=(h a).1 (by simp);cases this
 | a :: l,b :: l',h1,h2,h=>by
  obtain ⟨a1,a2⟩:=List.pairwise_cons.1 h1
  obtain ⟨b1,b2⟩:=List.pairwise_cons.1 h2
  have hab : a=b:=by
   rcases List.mem_cons.1 ((h a).1 (by simp)) with e | e
   ·exact e
   ·rcases List.mem_cons.1 ((h b).2 (by simp)) with e' | e'
    ·exact e'.symm
    ·exact absurd (List.lt_trans (b1 a e) (a1 b e')) ZjJ
  subst hab
  congr 1
  refine Zrs a2 b2 fun x=>⟨fun hx=>?_,fun hx=>?_⟩
  ·rcases List.mem_cons.1 ((h x).1 (List.mem_cons_of_mem _ hx)) with e | e
   ·subst e;exact absurd (a1 _ hx) ZjJ
   ·exact e
  ·rcases List.mem_cons.1 ((h x).2 (List.mem_cons_of_mem _ hx)) with e | e
   ·subst e;exact absurd (b1 _ hx) ZjJ
   ·exact e
theorem Zi9 {l : List Tx} (hn : l.Nodup) : Asc (Yl l):=by
 have h1 : (Yl l).Pairwise (fun a b=>leB a b=true):=List.pairwise_mergeSort (fun a b c h h'=>by
  simp only [leB,decide_eq_true_eq] at *
  exact List.le_trans h h') (fun a b=>by
  simp only [leB,Bool.or_eq_true,decide_eq_true_eq]
  exact List.le_total a b) l
 have h2 : (Yl l).Nodup:=((List.mergeSort_perm l _).nodup_iff).2 hn
 unfold Asc
 have h3:=h1.and h2
 refine h3.imp fun {a b} h=>?_
 obtain ⟨h4,h5⟩:=h
 simp only [leB,decide_eq_true_eq] at h4
 exact Decidable.byContradiction fun h6=>h5 (List.le_antisymm h4 (List.not_lt.1 h6))
theorem Zcm {l : List Tx} {x : Tx} : x∈Yl l↔x∈l:=List.mem_mergeSort
structure Is (l : List Tx) (p : Tx→Prop) : Prop where
 asc : Asc l
 mem : ∀ x,x∈l↔p x
theorem Is.uniq {l l' : List Tx} {p p' : Tx→Prop} (h : Is l p) (h' : Is l' p') (hp : ∀ x,p x↔p' x) : l=l':=Zrs h.asc h'.asc fun x=>(h.mem x).trans ((hp x).trans (h'.mem x).symm)
theorem Is.nil {l : List Tx} {p : Tx→Prop} (h : Is l p) : l=[]↔∀ x,¬ p x:=by
 constructor
 ·rintro rfl x hx;have:=(h.mem x).2 hx;cases this
 ·intro hx;exact List.eq_nil_iff_forall_not_mem.2 fun x hm=>hx x ((h.mem x).1 hm)
theorem Asc.nodup {l : List Tx} (h : Asc l) : l.Nodup:=h.imp fun {a b} hab e=>by subst e;exact ZjJ hab
theorem Asc.filter {l : List Tx} (h : Asc l) (p : Tx→Bool) : Asc (l.filter p):=List.Pairwise.filter p h
end Go.Proofs.YtnnehafmjfmbnaaGreatDoor.A
namespace Go.Proofs.YtnnehafmjfmbnaaGreatDoor.A
set_option linter.unusedVariables false
set_option linter.unusedSimpArgs false
open Go.Proofs Go.Proofs.YtnnehafmjfmbnaaGreatDoor
abbrev Znj (s : Nat) : Value:=.map (some s)
abbrev ZjT (_ : Unit) : Value:=.agg #[]
abbrev Zb7:=List (Tx × Nat)
abbrev ZrG:=List (Tx × Unit)
abbrev Mem:=Tx→Tx→Bool
abbrev Q5 (o : Nat) (G : Zb7) : List Nat:=o :: G.map (·.2)
abbrev ZL (G : Zb7) : List Tx:=G.map (·.1)
structure Grp (X : Zc) (g o : Nat) (G : Zb7) (mem : Mem) (c : Nat) : Prop where
 cell : X[g]?=some (.cells [.map (some o)] 1 false false)
 mo : JY Znj X o G
 ms : ∀ p∈G,∃ S : ZrG,JY ZjT X p.2 S∧(∀ n,(Zf n S).isSome=mem p.1 n)∧S.length≤c∧∀ q∈S,Zs q.1=true
 out : ∀ k n,mem k n=true→(Zf k G).isSome=true
 nod : (Q5 o G).Nodup
 ok : ∀ p∈G,Zs p.1=true
 few : G.length≤6
theorem Zh3 {α : Type} {k : Tx} : ∀ {m : List (Tx × α)},(Zf k m).isSome=decide (k∈m.map (·.1))
 | []=>rfl
 | p :: m=>by
  simp only [Zf,List.map_cons,List.mem_cons]
  by_cases h : p.1=k
  ·rw [if_pos h];simp [h]
  ·rw [if_neg h,Zh3]
   have : k≠p.1:=Ne.symm h
   simp [this]
section
variable {X X' : Zc} {n g o c c' : Nat} {G : Zb7} {mem mem' : Mem} {k m s t : Tx}
theorem Grp.isMap (h : Grp X g o G mem c) {j : Nat} (hj : j∈Q5 o G) : j < X.length∧∀ cs es gr ro,X[j]?≠some (.cells cs es gr ro):=by
 have key : ∀ {α : Type} {enc : α→Value} {id : Nat} {mm : List (Tx × α)},JY enc X id mm→id < X.length∧∀ cs es gr ro,X[id]?≠some (.cells cs es gr ro):=fun hm=>⟨hm.lt,fun cs es gr ro e=>by
  obtain ⟨es',_,h1 | h1⟩:=hm.ex
  ·obtain ⟨clk,h1,_⟩:=h1;rw [e] at h1;cases h1
  ·rw [e] at h1;cases h1⟩
 rcases List.mem_cons.1 hj with rfl | hj
 ·exact key h.mo
 ·obtain ⟨p,hp,rfl⟩:=List.mem_map.1 hj
  obtain ⟨S,hS,_⟩:=h.ms p hp
  exact key hS
theorem Grp.gnot (h : Grp X g o G mem c) : g∉Q5 o G:=fun hj=>(h.isMap hj).2 _ _ _ _ h.cell
theorem Grp.glt (h : Grp X g o G mem c) : g < X.length:=Jr h.cell
theorem Grp.step {o1 o2 : List Nat} (h : Grp X g o G mem c) (hs : ZJ o1 X o2 X') (hg : g∉o1) (ho : ∀ j∈Q5 o G,j∉o1) : Grp X' g o G mem c:=
 ⟨hs.get h.cell hg,h.mo.step hs (ho o (by simp)),fun p hp=>by
  obtain ⟨S,h1,h2⟩:=h.ms p hp
  exact ⟨S,h1.step hs (ho p.2 (List.mem_cons_of_mem _ (List.mem_map.2 ⟨p,hp,rfl⟩))),h2⟩,h.out,h.nod,h.ok,h.few⟩
theorem Grp.hle (h : Grp X g o G mem c) (hl : HLe X X') : Grp X' g o G mem c:=h.step hl.step (by simp) (by simp)
theorem Grp.more (h : Grp X g o G mem c) (hc : c≤c') (hm : ∀ k n,mem' k n=mem k n) : Grp X g o G mem' c':=
 ⟨h.cell,h.mo,fun p hp=>by
  obtain ⟨S,h1,h2,h3,h4⟩:=h.ms p hp
  exact ⟨S,h1,fun n=>(h2 n).trans (hm _ _).symm,Nat.le_trans h3 hc,h4⟩,fun k n hk=>h.out k n (by rw [← hm];exact hk),h.nod,h.ok,h.few⟩
theorem Grp.ldo (h : Grp X g o G mem c) : ld1 (pt g) X=some (.map (some o),X):=ZhE h.cell
theorem Grp.upd (h : Grp X g o G mem c) {id : Nat} {S' : ZrG} (hk : Zf k G=some id) (hm : JY ZjT X' id S') (hs : ZJ [id] X [id] X') (hn : ∀ q∈S',Zs q.1=true) (hc : S'.length≤c') (hcc : c≤c')
  (hmem : ∀ k' n,mem' k' n=if k'=k then (Zf n S').isSome else mem k' n) : Grp X' g o G mem' c':=by
 have hpm:=W7 hk
 have hnod:=h.nod
 simp only [List.nodup_cons] at hnod
 have hidm : id∈G.map (·.2):=List.mem_map.2 ⟨_,hpm,rfl⟩
 have hido : o≠id:=fun e=>hnod.1 (e ▸ hidm)
 have hidg : g≠id:=fun e=>h.gnot (e ▸ List.mem_cons_of_mem _ hidm)
 refine ⟨hs.get h.cell (by simpa using hidg),h.mo.step hs (by simpa using hido),fun p hp=>?_,fun k' n hk'=>?_,h.nod,h.ok,h.few⟩
 ·by_cases hpid : p.2=id
  ·have hpk : p.1=k:=by
    have h1 : Zf p.1 G=some p.2:=ZcW h.mo.nod hp
    have hinj : ∀ (G : Zb7),(G.map (·.2)).Nodup→p∈G→(k,id)∈G→p=(k,id):=by
     intro G hG h1 h2
     induction G with
     | nil=>cases h1
     | cons a G ih=>
      simp only [List.map_cons,List.nodup_cons,List.mem_map,not_exists,not_and] at hG
      rcases List.mem_cons.1 h1 with e1 | e1
      ·rcases List.mem_cons.1 h2 with e2 | e2
       ·rw [e1,e2]
       ·exact absurd (by rw [← e1];exact hpid.symm) (hG.1 _ e2)
      ·rcases List.mem_cons.1 h2 with e2 | e2
       ·exact absurd (by rw [← e2];exact hpid) (hG.1 _ e1)
       ·exact ih hG.2 e1 e2
    rw [hinj G hnod.2 hp hpm]
   exact ⟨S',by rw [hpid];exact hm,fun n=>by rw [hmem,if_pos hpk],hc,hn⟩
  ·obtain ⟨S,h1,h2,h3,h4⟩:=h.ms p hp
   have hpk : p.1≠k:=fun e=>hpid (by
    have h5 : Zf p.1 G=some p.2:=ZcW h.mo.nod hp
    rw [e,hk] at h5;exact (Option.some.inj h5).symm)
   exact ⟨S,h1.step hs (by simpa using hpid),fun n=>by rw [hmem,if_neg hpk];exact h2 n,Nat.le_trans h3 hcc,h4⟩
 ·rw [hmem] at hk'
  by_cases e : k'=k
  ·rw [e,hk];rfl
  ·rw [if_neg e] at hk';exact h.out k' n hk'
theorem Grp.step1 (h : Grp X g o G mem c) {id : Nat} (hk : Zf k G=some id) (hs : ZJ [id] X [id] X') : ZJ (Q5 o G) X (Q5 o G) X':=
 hs.more (fun j hj=>by
  have hj : j=id:=by simpa using hj
  subst hj
  exact List.mem_cons_of_mem _ (List.mem_map.2 ⟨_,W7 hk,rfl⟩)) (fun j hj=>.inl hj)
theorem Grp.set (h : Grp X g o G mem c) {id : Nat} (hk : Zf k G=some id) : ∃ S : ZrG,JY ZjT X id S∧(∀ n,(Zf n S).isSome=mem k n)∧S.length≤c∧∀ q∈S,Zs q.1=true:=h.ms _ (W7 hk)
theorem Grp.key (h : Grp X g o G mem c) : (Zf k G).isSome=decide (k∈ZL G):=Zh3
theorem Zn1 {v : Value} {l : List Tx} (hl : l.length≤1000) (hs : Sl X v (l.map strv)) : ∀ (t j : Nat),l.length - j=t→j≤l.length→
  Zi (c3 (KB.l1 (R (n+5)))) [v,iv l.length,iv j] X=some (if (l.drop j).all Zs then .ext 0 [] else .ret (iv 10),X)
 | 0,j,ht,hj=>by
  rw [List.drop_eq_nil_of_le (by omega)]
  refine Z7 ?_
  rw [Z4,show j=l.length by omega]
  unfold KB.l1
  rw [Za Zo,Zb,if_neg (by simp)]
  rfl
 | t+1,j,ht,hj=>by
  have hkl : j < l.length:=by omega
  have hlt : (j : Int) < l.length:=by omega
  have hg:=List.getElem?_eq_getElem hkl
  have hd:=List.drop_eq_getElem_cons hkl
  generalize l[j]=x at hg hd
  have x1:=hs.ix (i:=j) (by simpa using hkl) .i64 X
  have x2:=hs.ldx (KW hg)
  have x3 : R (n+5) Yk [strv x] X=some (iv (Q3 x),X):=Zg1
  rw [hd,List.all_cons]
  cases hx : Zs x
  ·refine Yz ?_
   rw [Z4]
   unfold KB.l1
   rw [Za Zo,Zb,if_pos (by simpa using hlt),Za x1,Za x2,Za x3,show Q3 x=10 by unfold Q3;rw [hx];rfl,Za Zt,Zb,if_pos (by simp)]
   rfl
  ·refine (ZI ?_).trans (Zn1 hl hs t (j+1) (by omega) (by omega))
   rw [Z4]
   unfold KB.l1
   rw [Za Zo,Zb,if_pos (by simpa using hlt),Za x1,Za x2,Za x3,show Q3 x=0 by unfold Q3;rw [hx];rfl,Za Zt,Zb,if_neg (by simp),Za Zy,Qu (by omega)]
   rfl
def Zdd (l : List Tx) : Int:=if l.all Zs then 0 else 10
theorem ZpA {v : Value} {l : List Tx} (hl : l.length≤1000) (hs : Sl X v (l.map strv)) : R (n+6) Zad [v] X=some (iv (Zdd l),X):=by
 have e:=Zn1 (n:=n) hl hs l.length 0 (by omega) (by omega)
 rw [show iv ((0 : Nat) : Int)=.int .i64 0 from rfl,List.drop_zero] at e
 have hlen : ZF v X=some (iv l.length,X):=by have:=hs.len (H':=X);simpa using this
 rw [R,ZnH rfl]
 unfold KB Zdd
 rw [Za hlen]
 by_cases h : l.all Zs=true
 ·rw [if_pos h] at e ⊢
  rw [QN e,ZM];rfl
 ·rw [if_neg h] at e ⊢
  rw [Ku e];rfl
def Js (k : Tx) (ms : List Tx) (K : List Tx) : Int:=if (k :: ms).all Zs then (if k∈K then 0 else 8) else 10
theorem Zrp (h : Grp X g o G mem c) {mv : Value} {ms : List Tx} (hml : ms.length≤5)
  (hrow : ∃ w X1 v X2,bsl 1 1 (.string ⟨#[]⟩) [(0,1,strv k)] X=some (w,X1)∧app 1 16 w mv X1=some (v,X2)∧Sl X2 v ((k :: ms).map strv)∧HLe X X2) :
  ∃ X',R (n+7) JO [pt g,strv k,mv] X=some (.tuple #[.map (if Js k ms (ZL G)=0 then Zf k G else none),iv (Js k ms (ZL G))],X')∧HLe X X':=by
 obtain ⟨w,X1,v,X2,e1,e2,s2,l2⟩:=hrow
 have e3 : R (n+6) Zad [v] X2=_:=ZpA (n:=n) (l:=k :: ms) (by simp;omega) s2
 have h2:=h.hle l2
 refine ⟨X2,?_,l2⟩
 rw [R,Zin rfl]
 unfold ZcE Js
 rw [Za e1,Za e2,Za e3]
 unfold Zdd
 by_cases hn : (k :: ms).all Zs=true
 ·rw [if_pos hn,if_pos hn]
  have e4:=h2.mo.lkp (k:=k) (z:=.map none) (ok:=true)
  have hkey:=h2.key (k:=k)
  rw [Za Zt,Zb,if_neg (by simp),Za Zu,Za Zg,Za h2.ldo]
  cases hk : Zf k G with
  | none=>
   rw [hk] at e4 hkey
   have hnk : ¬ k∈ZL G:=by simpa using hkey.symm
   rw [if_neg hnk,if_neg (by decide)]
   simp only [cond_true] at e4
   rw [Za e4,Za Zk,Za Zj,Za Zv,Zb,if_pos (by rfl)]
   rfl
  | some id=>
   rw [hk] at e4 hkey
   have hnk : k∈ZL G:=by simpa using hkey.symm
   rw [if_pos hnk,if_pos rfl]
   simp only [cond_true] at e4
   rw [Za e4,Za Zk,Za Zj,Za Zv,Zb,if_neg (by simp)]
   rfl
 ·rw [if_neg hn,if_neg hn,Za Zt,Zb,if_pos (by rfl)]
  rfl
theorem Zm0 {x : Tx} {H : Zc} : bsl 1 1 (.string ⟨#[]⟩) [(0,1,strv x)] H=some (.slice (some ⟨H.length,0,none⟩) 1 1,H++[.cells [strv x] 1 false false]):=ZtM rfl rfl rfl
theorem ZhD {x : Tx} {H : Zc} : Zx (H++[.cells [strv x] 1 false false]) (.slice (some ⟨H.length,0,none⟩) 1 1) ([x].map strv) [H.length]:=.inr ⟨H.length,[],false,rfl,rfl,by rw [ZD];rfl⟩
theorem Zvv {b : Nat} {sl : Value} {vs : List Value} {q : List Nat} (h : Zx X sl vs q) : app 1 b sl (.slice none 0 0) X=some (sl,X):=by
 rcases h with ⟨rfl,rfl,rfl⟩ | ⟨sid,rest,gr,rfl,rfl,hid⟩
 ·rfl
 ·unfold app
  simp only [QX,flen,hid,Nat.add_zero,Nat.le_add_right,if_true]
theorem Zli (h : Grp X g o G mem c) : ∃ X',R (n+7) JO [pt g,strv k,.slice none 0 0] X=some (.tuple #[.map (if Js k [] (ZL G)=0 then Zf k G else none),iv (Js k [] (ZL G))],X')∧HLe X X':=
 Zrp h (by simp) ⟨_,_,_,_,Zm0,Zvv ZhD,ZhD.rd,.app _ _⟩
theorem Zpw (h : Grp X g o G mem c) {mv : Value} (hm : Sl X mv [strv m]) : ∃ X',R (n+7) JO [pt g,strv k,mv] X=some (.tuple #[.map (if Js k [m] (ZL G)=0 then Zf k G else none),iv (Js k [m] (ZL G))],X')∧HLe X X':=by
 have l1 : HLe X (X++[.cells [strv k] 1 false false]):=.app _ _
 obtain ⟨v,X2,q,e2,r2,s2,_⟩:=(ZhD (x:=k) (H:=X)).push (b:=16) (hm.mono l1) (by simp) (by simp)
 have l2:=(l1.more s2 (by simp)).1
 exact Zrp h (by simp) ⟨_,_,_,_,Zm0,e2,r2.rd,l2⟩
theorem Zwx : ∃ X' g o,R (n+1) Zfp [] X=some (pt g,X')∧Grp X' g o [] (fun _ _=>false) 0∧HLe X X'∧X.length≤g∧X.length≤o:=by
 obtain ⟨H1,e1,g1,l1⟩:=ZrT (α:=Nat) (enc:=Znj) X
 have e2 : bld (.agg #[.map none]) [(0,1,.map (some X.length))] H1=some (.agg #[.map (some X.length)],H1):=by simp [↓ZR,ZS,↓Qj,Z5,Z6,Z3,↓Zb,JB,Zu,J9,Qc,Q8,Qf,Q7,Q9,Qx,Jh,Qy,QI,QJ,QF,Ja,Zm,Zv,Yq,Yj,QY,QO,JA,Zy,QZ,Jy,JC,Jm,ZB,Zt,Zo,QK,Ql,Z8,Q6,Jp,Jn,Jw,↓Yn,Jx,↓g_r,Yp,Kh,WA,splice,Value.cells]
 have e3 : alc 1 (.agg #[.map (some X.length)]) H1=some (pt H1.length,H1++[.cells [.map (some X.length)] 1 false false]):=by
  rw [QI];simp [Value.cells,oneCell]
 refine ⟨H1++[.cells [.map (some X.length)] 1 false false],H1.length,X.length,?_,⟨ZD,g1.hle (.app _ _),by simp,by simp,by simp,by simp,by simp⟩,l1.trans (.app _ _),l1.len,Nat.le_refl _⟩
 rw [R,Zqg rfl]
 unfold Zhi
 rw [Za e1,Za e2,Za e3]
 rfl
def Q2 (k : Tx) (K : List Tx) : Int:=if Zs k then (if k∈K then 9 else if 6≤K.length then 7 else 0) else 10
def ZcX (k : Tx) (K : List Tx) : List Tx:=if Q2 k K=0 then K++[k] else K
theorem ZvR (h : Grp X g o G mem c) : ∃ X' G',R (n+8) Yu [pt g,strv k] X=some (iv (Q2 k (ZL G)),X')∧Grp X' g o G' mem c∧ZL G'=ZcX k (ZL G)∧ZJ (Q5 o G) X (Q5 o G') X':=by
 obtain ⟨X1,e1,l1⟩:=Zli (n:=n) (k:=k) h
 have h1:=h.hle l1
 have f1 : ∀ r X',Yv (R (n+7)) (pt g) (strv k) X=some (r,X')→R (n+8) Yu [pt g,strv k] X=some (r,X'):=fun r X' hr=>by rw [R,Zil rfl];exact hr
 have same : ∀ e,Q2 k (ZL G)=e→e≠0→(Yv (R (n+7)) (pt g) (strv k) X=some (iv e,X1))→∃ X' G',R (n+8) Yu [pt g,strv k] X=some (iv (Q2 k (ZL G)),X')∧Grp X' g o G' mem c∧ZL G'=ZcX k (ZL G)∧ZJ (Q5 o G) X (Q5 o G') X':=fun e he hne hr=>by
  refine ⟨X1,G,by rw [he];exact f1 _ _ hr,h1,?_,l1.stepq⟩
  unfold ZcX;rw [if_neg (by rw [he];exact hne)]
 cases hn : Zs k
 ·have hE : Q2 k (ZL G)=10:=by unfold Q2;rw [hn];rfl
  have hF : Js k [] (ZL G)=10:=by unfold Js;simp [hn]
  rw [hF] at e1
  refine same _ hE (by decide) ?_
  unfold Yv
  rw [Za e1,Za Zk,Za Zj,Za ZB,Zb,if_neg (by decide),Za Zt,Zb,if_pos (by decide)]
  rfl
 ·by_cases hk : k∈ZL G
  ·have hE : Q2 k (ZL G)=9:=by unfold Q2;rw [hn,if_pos rfl,if_pos hk]
   have hF : Js k [] (ZL G)=0:=by unfold Js;simp [hn,hk]
   rw [hF] at e1
   refine same _ hE (by decide) ?_
   unfold Yv
   rw [Za e1,Za Zk,Za Zj,Za ZB,Zb,if_pos (by decide)]
   rfl
  ·have hF : Js k [] (ZL G)=8:=by unfold Js;simp [hn,hk]
   rw [hF] at e1
   have hkl : (ZL G).length=G.length:=by simp
   by_cases hl : 6≤(ZL G).length
   ·have hE : Q2 k (ZL G)=7:=by unfold Q2;rw [hn,if_pos rfl,if_neg hk,if_pos hl]
    refine same _ hE (by decide) ?_
    unfold Yv
    rw [Za e1,Za Zk,Za Zj,Za ZB,Zb,if_neg (by decide),Za Zt,Zb,if_neg (by decide),Za Zu,Za Zg,Za h1.ldo,Za h1.mo.len,Za Z8,Zb,if_pos (by simp;omega)]
    rfl
   ·have hE : Q2 k (ZL G)=0:=by unfold Q2;rw [hn,if_pos rfl,if_neg hk,if_neg hl]
    obtain ⟨X2,e2,m2,l2⟩:=ZrT (α:=Unit) (enc:=ZjT) X1
    have h2:=h1.hle l2
    have hkn : Zf k G=none:=by
     have:=h.key (k:=k)
     cases ha : Zf k G with
     | none=>rfl
     | some v=>rw [ha] at this;exact absurd (by simpa using this.symm) hk
    obtain ⟨X3,e3,m3,s3,len3⟩:=h2.mo.mup (k:=k) (v:=X1.length)
    have ha : QG k X1.length G=G++[(k,X1.length)]:=by unfold QG;rw [hkn];rfl
    rw [ha] at m3
    have hlt : ∀ j∈Q5 o G,j < X1.length:=fun j hj=>(h1.isMap hj).1
    refine ⟨X3,G++[(k,X1.length)],?_,?_,?_,?_⟩
    ·rw [hE]
     refine f1 _ _ ?_
     unfold Yv
     rw [Za e1,Za Zk,Za Zj,Za ZB,Zb,if_neg (by decide),Za Zt,Zb,if_neg (by decide),Za Zu,Za Zg,Za h1.ldo,Za h1.mo.len,Za Z8,Zb,if_neg (by simp;omega),Za Zu,Za Zg,Za h1.ldo,Za e2,Za e3]
     rfl
    ·have hgo : g≠o:=fun e=>h.gnot (by rw [e];simp)
     have hoid : ∀ p∈G,p.2≠o:=fun p hp e=>by
      have:=h.nod
      simp only [List.nodup_cons] at this
      exact this.1 (List.mem_map.2 ⟨p,hp,e⟩)
     refine ⟨s3.get h2.cell (by simpa using hgo),m3,fun p hp=>?_,fun k' n' hk'=>?_,?_,fun p hp=>?_,by simp;omega⟩
     ·rcases List.mem_append.1 hp with hp | hp
      ·obtain ⟨S,h5,h6⟩:=h2.ms p hp
       exact ⟨S,h5.step s3 (by simpa using hoid p hp),h6⟩
      ·have : p=(k,X1.length):=by simpa using hp
       subst this
       refine ⟨[],m2.step s3 (by have:=hlt o (by simp);simp;omega),fun n'=>?_,Nat.zero_le _,by simp⟩
       cases hb : mem k n' with
       | false=>rfl
       | true=>have:=h.out k n' hb;rw [hkn] at this;cases this
     ·rw [Zer]
      have:=h.out k' n' hk'
      cases hg : Zf k' G with
      | none=>rw [hg] at this;cases this
      | some v=>rfl
     ·have : Q5 o (G++[(k,X1.length)])=Q5 o G++[X1.length]:=by simp
      rw [this,List.nodup_append]
      refine ⟨h.nod,by simp,fun a ha b hb e=>?_⟩
      have:=hlt a ha
      have hb : b=X1.length:=by simpa using hb
      omega
     ·rcases List.mem_append.1 hp with hp | hp
      ·exact h.ok p hp
      ·have : p=(k,X1.length):=by simpa using hp
       subst this;exact hn
    ·unfold ZcX;rw [if_pos hE];simp
    ·have s:=(l1.trans l2).stepq (q:=Q5 o G)
     have s:=s.trans (s3.more (o2:=Q5 o G) (o2':=Q5 o G) (by simp) (fun j hj=>.inl hj))
     refine ⟨s.len,s.keep,fun j hj=>?_⟩
     ·have : Q5 o (G++[(k,X1.length)])=Q5 o G++[X1.length]:=by simp
      rw [this] at hj
      rcases List.mem_append.1 hj with hj | hj
      ·exact .inl hj
      ·have hj : j=X1.length:=by simpa using hj
       exact .inr (by rw [hj];exact l1.len)
def Qa (k : Tx) (K : List Tx) : Int:=if Zs k then (if k∈K then 0 else 8) else 10
def Zbw (k : Tx) (K : List Tx) : List Tx:=if Qa k K=0 then K.filter (fun x=>decide (x≠k)) else K
def Zat (k : Tx) (mem : Mem) : Mem:=fun k' n=>mem k' n && !(k'==k)
theorem Zps {k : Tx} {K : List Tx} : Js k [] K=Qa k K:=by unfold Js Qa;simp
theorem ZvY (h : Grp X g o G mem c) : ∃ X' G',R (n+8) KO [pt g,strv k] X=some (iv (Qa k (ZL G)),X')∧Grp X' g o G' (if Qa k (ZL G)=0 then Zat k mem else mem) c∧ZL G'=Zbw k (ZL G)∧ZJ (Q5 o G) X (Q5 o G') X':=by
 obtain ⟨X1,e1,l1⟩:=Zli (n:=n) (k:=k) h
 rw [Zps] at e1
 have h1:=h.hle l1
 have f1 : ∀ r X',Wu (R (n+7)) (pt g) (strv k) X=some (r,X')→R (n+8) KO [pt g,strv k] X=some (r,X'):=fun r X' hr=>by rw [R,Zio rfl];exact hr
 by_cases hE : Qa k (ZL G)=0
 ·rw [hE] at e1 ⊢
  obtain ⟨X2,e2,m2,s2,_⟩:=h1.mo.mde (k:=k)
  have hgo : g≠o:=fun e=>h.gnot (by rw [e];simp)
  have hoid : ∀ p∈G,p.2≠o:=fun p hp e=>by
   have:=h.nod
   simp only [List.nodup_cons] at this
   exact this.1 (List.mem_map.2 ⟨p,hp,e⟩)
  have hsub : (J2 k G).Sublist G:=List.filter_sublist
  refine ⟨X2,J2 k G,f1 _ _ ?_,?_,?_,?_⟩
  ·unfold Wu
   rw [Za e1,Za Zk,Za Zj,Za ZB]
   refine (ZV (vs:=[iv 0]) (H':=X2) ?_).trans ?_
   ·rw [Zb,if_pos (by rfl),Za Zu,Za Zg,Za h1.ldo,Za e2];rfl
   ·rfl
  ·rw [if_pos rfl]
   refine ⟨s2.get h1.cell (by simpa using hgo),m2,fun p hp=>?_,fun k' n' hk'=>?_,?_,fun p hp=>h.ok p (hsub.subset hp),Nat.le_trans hsub.length_le h.few⟩
   ·obtain ⟨S,h5,h6,h7⟩:=h1.ms p (hsub.subset hp)
    have hpk : p.1≠k:=by simpa [J2] using (List.mem_filter.1 hp).2
    refine ⟨S,h5.step s2 (by simpa using hoid p (hsub.subset hp)),fun n'=>?_,h7⟩
    rw [h6];unfold Zat;simp [hpk]
   ·unfold Zat at hk'
    simp only [Bool.and_eq_true,Bool.not_eq_true',beq_eq_false_iff_ne] at hk'
    rw [JE hk'.2];exact h.out k' n' hk'.1
   ·exact ((hsub.map (·.2)).cons_cons o).nodup h.nod
  ·unfold Zbw;rw [if_pos hE]
   unfold J2 ZL
   rw [List.filter_map];rfl
  ·have s:=l1.stepq (q:=Q5 o G)
   have s:=s.trans (s2.more (o2:=Q5 o G) (o2':=Q5 o G) (by simp) (fun j hj=>.inl hj))
   refine ⟨s.len,s.keep,fun j hj=>.inl ?_⟩
   exact ((hsub.map (·.2)).cons_cons o).subset hj
 ·refine ⟨X1,G,f1 _ _ ?_,by rw [if_neg hE];exact h1,by unfold Zbw;rw [if_neg hE],l1.stepq⟩
  unfold Wu
  rw [Za e1,Za Zk,Za Zj,Za ZB]
  refine (ZV (vs:=[iv (Qa k (ZL G))]) (H':=X1) ?_).trans ?_
  ·rw [Zb,if_neg (by simpa using hE)];rfl
  ·rfl
end
end Go.Proofs.YtnnehafmjfmbnaaGreatDoor.A
namespace Go.Proofs.YtnnehafmjfmbnaaGreatDoor.A
set_option linter.unusedVariables false
set_option linter.unusedSimpArgs false
open Go.Proofs Go.Proofs.YtnnehafmjfmbnaaGreatDoor
theorem Zhl {α : Type} {k : Tx} {v : α} {m : List (Tx × α)} {q : Tx × α} (h : q∈QG k v m) : q=(k,v)∨q∈m:=by
 unfold QG at h
 split at h
 ·obtain ⟨p,hp,rfl⟩:=List.mem_map.1 h
  by_cases e : p.1=k
  ·rw [if_pos e];exact .inl rfl
  ·rw [if_neg e];exact .inr hp
 ·rcases List.mem_append.1 h with h | h
  ·exact .inr h
  ·exact .inl (by simpa using h)
section
variable {X X' : Zc} {n g o c c' : Nat} {G : Zb7} {mem mem' : Mem} {k m s t : Tx}
def Zcu (k m : Tx) (K : List Tx) (mem : Mem) : Int:=if Js k [m] K=0 then (if mem k m then 9 else 0) else Js k [m] K
def Zbs (k m : Tx) (K : List Tx) (mem : Mem) : Int:=if Js k [m] K=0 then (if mem k m then 0 else 12) else Js k [m] K
def ZcI (k m : Tx) (mem : Mem) : Mem:=fun k' n=>mem k' n || (k'==k && n==m)
def ZcV (k m : Tx) (mem : Mem) : Mem:=fun k' n=>mem k' n && !(k'==k && n==m)
theorem Zfn {k m : Tx} {K : List Tx} (h : Js k [m] K=0) : Zs k=true∧Zs m=true∧k∈K:=by
 unfold Js at h
 by_cases h1 : (k :: [m]).all Zs=true
 ·rw [if_pos h1] at h
  simp only [List.all_cons,List.all_nil,Bool.and_true,Bool.and_eq_true] at h1
  by_cases h2 : k∈K
  ·exact ⟨h1.1,h1.2,h2⟩
  ·rw [if_neg h2] at h;cases h
 ·rw [if_neg h1] at h;cases h
theorem Zwb {H : Zc} : bld (.agg #[]) [] H=some (.agg #[],H):=by simp [↓ZR,ZS,↓Qj,Z5,Z6,Z3,↓Zb,JB,Zu,J9,Qc,Q8,Qf,Q7,Q9,Qx,Jh,Qy,QI,QJ,QF,Ja,Zm,Zv,Yq,Yj,QY,QO,JA,Zy,QZ,Jy,JC,Jm,ZB,Zt,Zo,QK,Ql,Z8,Q6,Jp,Jn,Jw,↓Yn,Jx,↓g_r,Yp,Kh,WA,splice,Value.cells]
theorem Grp.has (h : Grp X g o G mem c) (hk : k∈ZL G) : ∃ id,Zf k G=some id:=by
 have:=h.key (k:=k)
 cases ha : Zf k G with
 | none=>rw [ha] at this;exact absurd hk (by simpa using this.symm)
 | some v=>exact ⟨v,rfl⟩
theorem Zvl (h : Grp X g o G mem c) : ∃ X',R (n+8) Y7 [pt g,strv k,strv m] X=some (iv (Zcu k m (ZL G) mem),X')∧Grp X' g o G (if Zcu k m (ZL G) mem=0 then ZcI k m mem else mem) (c+1)∧ZJ (Q5 o G) X (Q5 o G) X':=by
 have l0 : HLe X (X++[.cells [strv m] 1 false false]):=.app _ _
 have s0:=(ZhD (x:=m) (H:=X)).rd
 have e0:=Zm0 (x:=m) (H:=X)
 generalize X++[Ze.cells [strv m] 1 false false]=X0 at l0 s0 e0
 obtain ⟨X1,e1,l1⟩:=Zpw (n:=n) (k:=k) (m:=m) (h.hle l0) s0
 have l01:=l0.trans l1
 have h1:=h.hle l01
 have f1 : ∀ r X',KL (R (n+7)) (pt g) (strv k) (strv m) X=some (r,X')→R (n+8) Y7 [pt g,strv k,strv m] X=some (r,X'):=fun r X' hr=>by rw [R,Zis rfl];exact hr
 unfold Zcu
 by_cases hE : Js k [m] (ZL G)=0
 ·rw [hE] at e1 ⊢
  rw [if_pos rfl] at e1 ⊢
  obtain ⟨b1,b2,b3⟩:=Zfn hE
  obtain ⟨id,hid⟩:=h.has b3
  rw [hid] at e1
  obtain ⟨S,m1,m2,m3,m4⟩:=h1.set hid
  have e2:=m1.lkp (k:=m) (z:=.agg #[]) (ok:=true)
  have l2 : HLe X1 (X1++[.cells [] 1 false false]):=.app _ _
  have hbox:=fun {K : Value→M Value}=>Zak (k:=K) (zs:=[]) (r:=[]) (n:=0) (H:=X1) rfl rfl rfl rfl
  have h2:=h1.hle l2
  have m1:=m1.hle l2
  generalize X1++[Ze.cells [] 1 false false]=X2 at hbox l2 h2 m1
  have hmm:=m2 m
  cases hg : Zf m S with
  | some u=>
   rw [hg] at hmm e2
   have hmm : mem k m=true:=hmm.symm
   rw [if_pos hmm,if_neg (by decide)]
   refine ⟨X2,f1 _ _ ?_,h2.more (Nat.le_succ _) (fun _ _=>rfl),(l01.trans l2).stepq⟩
   unfold KL
   simp only [cond_true] at e2
   rw [Za e0,Za e1,Za Zk,Za Zj,Za Zt,Zb,if_neg (by decide),Za e2,Za Zk,Za Zj]
   refine hbox.trans ?_
   rw [Zb,if_pos rfl]
   rfl
  | none=>
   rw [hg] at hmm e2
   have hmm : mem k m=false:=hmm.symm
   rw [if_neg (by simp [hmm]),if_pos rfl]
   simp only [cond_true] at e2
   obtain ⟨X3,e3,m5,s3,_⟩:=m1.mup (k:=m) (v:=())
   have hlen : (QG m () S).length≤c+1:=by rw [Zej,hg];simp;omega
   refine ⟨X3,f1 _ _ ?_,h2.upd hid m5 s3 (fun q hq=>?_) hlen (Nat.le_succ _) (fun k' n'=>?_),(l01.trans l2).stepq.trans (h2.step1 hid s3)⟩
   ·unfold KL
    rw [Za e0,Za e1,Za Zk,Za Zj,Za Zt,Zb,if_neg (by decide),Za e2,Za Zk,Za Zj]
    refine hbox.trans ?_
    rw [Zb,if_neg (by simp),Za Zwb,Za e3]
    rfl
   ·rcases Zhl hq with rfl | hq
    ·exact b2
    ·exact m4 q hq
   ·unfold ZcI
    by_cases hk : k'=k
    ·subst hk
     rw [if_pos rfl]
     by_cases hn : n'=m
     ·subst hn;rw [Wg];simp
     ·rw [YN hn,m2];simp [hn]
    ·rw [if_neg hk];simp [hk]
 ·rw [if_neg hE,if_neg hE]
  refine ⟨X1,f1 _ _ ?_,h1.more (Nat.le_succ _) (fun _ _=>rfl),l01.stepq⟩
  unfold KL
  rw [Za e0,Za e1,Za Zk,Za Zj,Za Zt,Zb,if_pos (by simpa using hE)]
  rfl
theorem ZtQ (h : Grp X g o G mem c) : ∃ X',R (n+8) Ko [pt g,strv k,strv m] X=some (iv (Zbs k m (ZL G) mem),X')∧Grp X' g o G (if Zbs k m (ZL G) mem=0 then ZcV k m mem else mem) (c+1)∧ZJ (Q5 o G) X (Q5 o G) X':=by
 have l0 : HLe X (X++[.cells [strv m] 1 false false]):=.app _ _
 have s0:=(ZhD (x:=m) (H:=X)).rd
 have e0:=Zm0 (x:=m) (H:=X)
 generalize X++[Ze.cells [strv m] 1 false false]=X0 at l0 s0 e0
 obtain ⟨X1,e1,l1⟩:=Zpw (n:=n) (k:=k) (m:=m) (h.hle l0) s0
 have l01:=l0.trans l1
 have h1:=h.hle l01
 have f1 : ∀ r X',Ks (R (n+7)) (pt g) (strv k) (strv m) X=some (r,X')→R (n+8) Ko [pt g,strv k,strv m] X=some (r,X'):=fun r X' hr=>by rw [R,Zhk rfl];exact hr
 unfold Zbs
 by_cases hE : Js k [m] (ZL G)=0
 ·rw [hE] at e1 ⊢
  rw [if_pos rfl] at e1 ⊢
  obtain ⟨b1,b2,b3⟩:=Zfn hE
  obtain ⟨id,hid⟩:=h.has b3
  rw [hid] at e1
  obtain ⟨S,m1,m2,m3,m4⟩:=h1.set hid
  have e2:=m1.lkp (k:=m) (z:=.agg #[]) (ok:=true)
  have l2 : HLe X1 (X1++[.cells [] 1 false false]):=.app _ _
  have hbox:=fun {K : Value→M Value}=>Zak (k:=K) (zs:=[]) (r:=[]) (n:=0) (H:=X1) rfl rfl rfl rfl
  have h2:=h1.hle l2
  have m1:=m1.hle l2
  generalize X1++[Ze.cells [] 1 false false]=X2 at hbox l2 h2 m1
  have hmm:=m2 m
  cases hg : Zf m S with
  | some u=>
   rw [hg] at hmm e2
   have hmm : mem k m=true:=hmm.symm
   rw [if_pos hmm,if_pos rfl]
   simp only [cond_true] at e2
   obtain ⟨X3,e3,m5,s3,_⟩:=m1.mde (k:=m)
   have hsub : (J2 m S).Sublist S:=List.filter_sublist
   refine ⟨X3,f1 _ _ ?_,h2.upd hid m5 s3 (fun q hq=>m4 q (hsub.subset hq)) (Nat.le_trans hsub.length_le (Nat.le_trans m3 (Nat.le_succ _))) (Nat.le_succ _) (fun k' n'=>?_),(l01.trans l2).stepq.trans (h2.step1 hid s3)⟩
   ·unfold Ks
    rw [Za e0,Za e1,Za Zk,Za Zj,Za Zt,Zb,if_neg (by decide),Za e2,Za Zk,Za Zj]
    refine hbox.trans ?_
    rw [Za Zv,Zb,if_neg (by simp),Za e3]
    rfl
   ·unfold ZcV
    by_cases hk : k'=k
    ·subst hk
     rw [if_pos rfl]
     by_cases hn : n'=m
     ·subst hn;rw [WH];simp
     ·rw [JE hn,m2];simp [hn]
    ·rw [if_neg hk];simp [hk]
  | none=>
   rw [hg] at hmm e2
   have hmm : mem k m=false:=hmm.symm
   rw [if_neg (by simp [hmm]),if_neg (by decide)]
   refine ⟨X2,f1 _ _ ?_,h2.more (Nat.le_succ _) (fun _ _=>rfl),(l01.trans l2).stepq⟩
   unfold Ks
   simp only [cond_true] at e2
   rw [Za e0,Za e1,Za Zk,Za Zj,Za Zt,Zb,if_neg (by decide),Za e2,Za Zk,Za Zj]
   refine hbox.trans ?_
   rw [Za Zv,Zb,if_pos (by rfl)]
   rfl
 ·rw [if_neg hE,if_neg hE]
  refine ⟨X1,f1 _ _ ?_,h1.more (Nat.le_succ _) (fun _ _=>rfl),l01.stepq⟩
  unfold Ks
  rw [Za e0,Za e1,Za Zk,Za Zj,Za Zt,Zb,if_pos (by simpa using hE)]
  rfl
theorem Zui {id : Nat} {S : ZrG} (hm : JY ZjT X id S) (hl : S.length≤1000000) (hn : ∀ q∈S,Zs q.1=true) : ∃ v q X',R (n+2) KZ [.map (some id)] X=some (v,X')∧Zx X' v ((Yl (S.map (·.1))).map strv) q∧HLe X X'∧∀ j∈q,X.length≤j:=by
 have e1 : R (n+1) JR [.map (some id)] X=some (.func (.func YA) #[] #[pt X.length],X++[.cells [.map (some id)] 1 false false]):=by
  rw [R,ZbE rfl]
  unfold YH
  rw [Za (ZjY rfl rfl _)]
  rfl
 have l1 : HLe X (X++[.cells [.map (some id)] 1 false false]):=.app _ _
 obtain ⟨v,q,X2,e2,r2,l2,o2⟩:=(hm.hle l1).keys (gks:=ZfQ) (gc:=Yo) (gk:=YA) (c:=X.length) (by decide) ZD hl (fun p hp=>Nat.le_trans (Zeb (hn p hp)) (by decide))
 have e2' : R (n+1) QM [.func (.func YA) #[] #[pt X.length],.func (.func Yo) #[] #[]] (X++[.cells [.map (some id)] 1 false false])=some (v,X2):=by
  rw [R,Zbt (show np QM=some (ZcH ZfQ Yo) from rfl)]
  exact e2
 refine ⟨v,q,X2,?_,r2,l1.trans l2,fun j hj=>Nat.le_trans l1.len (o2 j hj)⟩
 rw [R,ZgW rfl]
 unfold ZbV
 rw [Za e1,Za e2']
 rfl
theorem Zwq (h : Grp X g o G mem c) : ∃ v q X',R (n+3) W9 [pt g] X=some (v,X')∧Zx X' v ((Yl (ZL G)).map strv) q∧HLe X X'∧∀ j∈q,X.length≤j:=by
 have e1 : R (n+1) Jg [.map (some o)] X=some (.func (.func J7) #[] #[pt X.length],X++[.cells [.map (some o)] 1 false false]):=by
  rw [R,Za1 rfl]
  unfold Yd
  rw [Za (ZjY rfl rfl _)]
  rfl
 have l1 : HLe X (X++[.cells [.map (some o)] 1 false false]):=.app _ _
 obtain ⟨v,q,X2,e2,r2,l2,o2⟩:=(h.mo.hle l1).keys (gks:=ZfQ) (gc:=Yo) (gk:=J7) (c:=X.length) (by decide) ZD (Nat.le_trans h.few (by decide)) (fun p hp=>Nat.le_trans (Zeb (h.ok p hp)) (by decide))
 have e2' : R (n+1) QM [.func (.func J7) #[] #[pt X.length],.func (.func Yo) #[] #[]] (X++[.cells [.map (some o)] 1 false false])=some (v,X2):=by
  rw [R,Zbt (show np QM=some (ZcH ZfQ Yo) from rfl)]
  exact e2
 have e3 : R (n+2) Wl [.map (some o)] X=some (v,X2):=by
  rw [R,ZfZ rfl]
  unfold Za8
  rw [Za e1,Za e2']
  rfl
 refine ⟨v,q,X2,?_,r2,l1.trans l2,fun j hj=>Nat.le_trans l1.len (o2 j hj)⟩
 rw [R,Zjm rfl]
 unfold Zc2
 rw [Za Zu,Za Zg,Za h.ldo,Za e3]
 rfl
theorem ZeO {l : List Tx} : (Yl l).length=l.length:=List.length_mergeSort l
theorem ZrS (h : Grp X g o G mem c) (hc : c≤1000000) : ∃ v q l X',R (n+8) KJ [pt g,strv k] X=some (.tuple #[v,iv (Qa k (ZL G))],X')∧Zx X' v (l.map strv) q∧Is l (fun m=>Qa k (ZL G)=0∧mem k m=true)∧l.length≤c∧HLe X X'∧∀ j∈q,X.length≤j:=by
 obtain ⟨X1,e1,l1⟩:=Zli (n:=n) (k:=k) h
 rw [Zps] at e1
 have h1:=h.hle l1
 have f1 : ∀ r X',KD (R (n+7)) (pt g) (strv k) X=some (r,X')→R (n+8) KJ [pt g,strv k] X=some (r,X'):=fun r X' hr=>by rw [R,ZgC rfl];exact hr
 by_cases hE : Qa k (ZL G)=0
 ·rw [hE] at e1 ⊢
  rw [if_pos rfl] at e1
  have hk : k∈ZL G:=by
   unfold Qa at hE
   by_cases hn : Zs k=true
   ·rw [if_pos hn] at hE
    by_cases h2 : k∈ZL G
    ·exact h2
    ·rw [if_neg h2] at hE;cases hE
   ·rw [if_neg hn] at hE;cases hE
  obtain ⟨id,hid⟩:=h.has hk
  rw [hid] at e1
  obtain ⟨S,m1,m2,m3,m4⟩:=h1.set hid
  obtain ⟨v,q,X2,e2,r2,l2,o2⟩:=Zui (n:=n+5) m1 (by omega) m4
  have e2 : R (n+7) KZ [.map (some id)] X1=_:=e2
  refine ⟨v,q,_,X2,f1 _ _ ?_,r2,⟨Zi9 m1.nod,fun x=>?_⟩,by rw [ZeO];simpa using m3,l1.trans l2,fun j hj=>Nat.le_trans l1.len (o2 j hj)⟩
  ·unfold KD
   rw [Za e1,Za Zk,Za Zj,Za Zt,Zb,if_neg (by decide),Za e2]
   rfl
  ·rw [Zcm]
   have:=m2 x
   rw [Zh3] at this
   rw [← this]
   simp
 ·refine ⟨_,[],[],X1,f1 _ _ ?_,Zx.nil,⟨List.Pairwise.nil,fun x=>⟨fun hx=>absurd hx (by simp),fun hx=>absurd hx.1 hE⟩⟩,Nat.zero_le _,l1,by simp⟩
  unfold KD
  rw [Za e1,Za Zk,Za Zj,Za Zt,Zb,if_pos (by simpa using hE)]
  rfl
def ofL (m : Tx) (K : List Tx) (mem : Mem) : List Tx:=(Yl K).filter fun k=>mem k m
theorem ZcR {K : List Tx} (hn : K.Nodup) : Is (ofL m K mem) (fun k=>k∈K∧mem k m=true):=⟨(Zi9 hn).filter _,fun x=>by unfold ofL;rw [List.mem_filter,Zcm]⟩
theorem Zfs {K : List Tx} : (ofL m K mem).length≤K.length:=by
 unfold ofL
 have:=List.length_filter_le (fun k=>mem k m) (Yl K)
 rwa [ZeO] at this
theorem Zwi {b1 b2 : Nat} (h : Grp X g o G mem c) (h1 : X[b1]?=some (.cells [pt g] 1 false false)) (h2 : X[b2]?=some (.cells [strv m] 1 false false)) (hk : k∈ZL G) :
  ∃ X',R (n+1) Km [strv k,pt b1,pt b2] X=some (.bool (!mem k m),X')∧HLe X X':=by
 obtain ⟨id,hid⟩:=h.has hk
 obtain ⟨S,m1,m2,m3,m4⟩:=h.set hid
 have e2 : lkp .str (.map none) false (.map (some o)) (strv k) X=some (.map (some id),X):=by rw [h.mo.lkp,hid];rfl
 have e3 : lkp .str (.agg #[]) true (.map (some id)) (strv m) X=some (.tuple #[.agg #[],.bool (mem k m)],X):=by
  rw [m1.lkp,← m2 m]
  cases Zf m S <;> rfl
 have l2 : HLe X (X++[.cells [] 1 false false]):=.app _ _
 have e4 : alc 1 (.agg #[]) X=some (pt X.length,X++[.cells [] 1 false false]):=KH (vs:=[]) rfl
 have a4 : (X++[Ze.cells [] 1 false false])[X.length]?=some (.cells [] 1 false false):=ZD
 have e5 : stA 0 (pt X.length) (.agg #[]) (X++[Ze.cells [] 1 false false])=some (undef,(X++[Ze.cells [] 1 false false]).set X.length (.cells [] 1 false false)):=Wq (vs:=[]) a4 rfl rfl rfl
 rw [ZuT] at e5
 have h':=h.hle l2
 have m1':=m1.hle l2
 have b1':=l2 _ _ h1
 have b2':=l2 _ _ h2
 generalize X++[Ze.cells [] 1 false false]=X2 at l2 e4 e5 h' m1' b1' b2'
 have e2' : lkp .str (.map none) false (.map (some o)) (strv k) X2=some (.map (some id),X2):=by rw [h'.mo.lkp,hid];rfl
 have e3' : lkp .str (.agg #[]) true (.map (some id)) (strv m) X2=some (.tuple #[.agg #[],.bool (mem k m)],X2):=by
  rw [m1'.lkp,← m2 m]
  cases Zf m S <;> rfl
 refine ⟨X2,?_,l2⟩
 rw [R,ZiM rfl]
 unfold Zc4
 rw [Za (ZhE h1),Za Zu,Za Zg,Za h.ldo,Za e2,Za (ZhE h2),Za e3,Za Zk,Za Zj,Za e4,Za e3',KS,Za (ZhE b2'),KS,Za e2',KS]
 refine (Za h'.ldo).trans ?_
 rw [KS,Za (ZhE b1'),KS,Za e5,Za Zv]
 rfl
theorem ZoL (h : Grp X g o G mem c) : ∃ v q X',R (n+4) JX [pt g,strv m] X=some (v,X')∧Zx X' v ((ofL m (ZL G) mem).map strv) q∧HLe X X'∧∀ j∈q,X.length≤j:=by
 have e1:=ZjY (v:=pt g) rfl rfl X
 have l1 : HLe X (X++[Ze.cells [pt g] 1 false false]):=.app _ _
 have c1 : (X++[Ze.cells [pt g] 1 false false])[X.length]?=some (.cells [pt g] 1 false false):=ZD
 generalize X++[Ze.cells [pt g] 1 false false]=X1 at e1 l1 c1
 have e2:=ZjY (v:=strv m) rfl rfl X1
 have l2 : HLe X1 (X1++[Ze.cells [strv m] 1 false false]):=.app _ _
 have c2 : (X1++[Ze.cells [strv m] 1 false false])[X1.length]?=some (.cells [strv m] 1 false false):=ZD
 generalize X1++[Ze.cells [strv m] 1 false false]=X2 at e2 l2 c2
 have c1:=l2 _ _ c1
 have h2:=h.hle (l1.trans l2)
 obtain ⟨v,q,X3,e3,r3,l3,o3⟩:=Zwq (n:=n) h2
 have e3 : R (n+3) W9 [pt g] X2=_:=e3
 have l123:=(l1.trans l2).trans l3
 have hq : ∀ j∈q,j∉Q5 o G∧j≠g∧j≠X.length∧j≠X1.length:=fun j hj=>by
  have:=o3 j hj
  have a1:=Jr c1
  have a2:=Jr c2
  have a3:=h2.glt
  exact ⟨fun hm=>by have:=(h2.isMap hm).1;omega,by omega,by omega,by omega⟩
 have hkeep : ∀ Y Y',(Grp Y g o G mem c∧Y[X.length]?=some (.cells [pt g] 1 false false)∧Y[X1.length]?=some (.cells [strv m] 1 false false))→ZJ q Y q Y'→(Grp Y' g o G mem c∧Y'[X.length]?=some (.cells [pt g] 1 false false)∧Y'[X1.length]?=some (.cells [strv m] 1 false false)):=fun Y Y' ⟨a1,a2,a3⟩ hs=>
  ⟨a1.step hs (fun hm=>(hq g hm).2.1 rfl) (fun j hj hm=>(hq j hm).1 hj),hs.get a2 (fun hm=>(hq _ hm).2.2.1 rfl),hs.get a3 (fun hm=>(hq _ hm).2.2.2 rfl)⟩
 have hf : ∀ i Y,(Grp Y g o G mem c∧Y[X.length]?=some (.cells [pt g] 1 false false)∧Y[X1.length]?=some (.cells [strv m] 1 false false))→∀ s∈Yl (ZL G),∃ Y',Jf (R (i+1)) (.func (.func Km) #[] #[pt X.length,pt X1.length]) [strv s] Y=some (.bool (!mem s m),Y')∧HLe Y Y':=fun i Y ⟨a1,a2,a3⟩ s hs=>by
  obtain ⟨Y',e,l⟩:=Zwi (n:=i) a1 a2 a3 (Zcm.1 hs)
  refine ⟨Y',?_,l⟩
  have:=ZsM (n:=i+1) (g:=Km) (bs:=[pt X.length,pt X1.length]) (args:=[strv s])
  exact (congrFun this Y).trans e
 obtain ⟨X4,v',e4,r4,s4⟩:=ZoD (n:=n+1) (p:=fun s=>!mem s m) (f:=.func (.func Km) #[] #[pt X.length,pt X1.length]) (Q:=fun Y=>Grp Y g o G mem c∧Y[X.length]?=some (.cells [pt g] 1 false false)∧Y[X1.length]?=some (.cells [strv m] 1 false false)) r3 (by rw [ZeO];have:=h.few;simp;omega) hkeep (hf n) (hf (n+1)) ⟨h2.hle l3,l3 _ _ c1,l3 _ _ c2⟩
 have e4 : R (n+3) Qb [v,.func (.func Km) #[] #[pt X.length,pt X1.length]] X3=_:=e4
 have hm:=l123.more s4 (fun j hj=>Nat.le_trans (l1.trans l2).len (o3 j hj))
 refine ⟨v',q,X4,?_,by simpa [ofL] using r4,hm.1,hm.2⟩
 rw [R,Zkc rfl]
 unfold Zdt
 rw [Za e1,Za e2,Za (ZhE c1),Za e3,Za e4]
 rfl
end
end Go.Proofs.YtnnehafmjfmbnaaGreatDoor.A
namespace Go.Proofs.YtnnehafmjfmbnaaGreatDoor.A
set_option linter.unusedVariables false
set_option linter.unusedSimpArgs false
open Go.Proofs Go.Proofs.YtnnehafmjfmbnaaGreatDoor
section
variable {X X' : Zc} {n g o c c' : Nat} {G : Zb7} {mem mem' : Mem} {k m s t : Tx}
theorem Zx.grp {v : Value} {vs : List Value} {q S' : List Nat} (h : Zx X v vs q) (hG : Grp X g o G mem c) (hs : ZJ (Q5 o G) X S' X') : Zx X' v vs q:=by
 refine h.step hs fun j hj hm=>?_
 rcases h with ⟨_,rfl,_⟩ | ⟨sid,rest,gr,_,rfl,hid⟩
 ·cases hj
 ·have hj : j=sid:=by simpa using hj
  subst hj
  exact (hG.isMap hm).2 _ _ _ _ hid
def Zg9 (s t : Tx) (K : List Tx) (mem : Mem) : Int:=if Zs t then (if s=t then 0 else if ofL t K mem=[] then 0 else 9) else 10
def ZaO (s t : Tx) (mem : Mem) : Mem:=fun k n=>if mem k s then (n==t || (mem k n && !(n==s))) else mem k n
def Zdx (m : Tx) (mem : Mem) : Mem:=fun k n=>mem k n && !(n==m)
def ZgG (s t : Tx) (l : List Tx) (mem : Mem) (j : Nat) : Mem:=fun k n=>if k∈l.take j then (n==t || (mem k n && !(n==s))) else mem k n
def Zh2 (m : Tx) (l : List Tx) (mem : Mem) (j : Nat) : Mem:=fun k n=>if k∈l.take j then mem k n && !(n==m) else mem k n
theorem Zdg {l : List Tx} {j : Nat} {x k : Tx} (hx : l[j]?=some x) : k∈l.take (j+1)↔k∈l.take j∨k=x:=by
 rw [List.take_add_one,hx];simp
theorem Zpx {l : List Tx} {j : Nat} {x : Tx} (hn : l.Nodup) (hx : l[j]?=some x) : x∉l.take j:=fun hm=>by
 obtain ⟨i,hi⟩:=List.getElem?_of_mem hm
 rw [List.getElem?_take] at hi
 split at hi
 ·rename_i hij
  obtain ⟨h1,h2⟩:=List.getElem?_eq_some_iff.1 hi
  obtain ⟨h3,h4⟩:=List.getElem?_eq_some_iff.1 hx
  exact List.pairwise_iff_getElem.1 hn i j h1 h3 hij (h2.trans h4.symm)
 ·cases hi
theorem ZsD {v : Value} {q : List Nat} {l : List Tx} (hl : l.length≤1000) (hn : l.Nodup) (hK : ∀ x∈l,x∈ZL G∧mem x s=true) : ∀ (r j : Nat) (X : Zc),l.length - j=r→j≤l.length→Grp X g o G (ZgG s t l mem j) c→Zs t=true→Zx X v (l.map strv) q→
  ∃ X',Zi (c6 (QA.l1 (R n))) [pt g,strv s,strv t,v,iv l.length,iv j] X=some (.ext 0 [],X')∧Grp X' g o G (ZgG s t l mem l.length) c∧ZJ (Q5 o G) X (Q5 o G) X'
 | 0,j,X,hr,hj,h,ht,hrow=>by
  have : j=l.length:=by omega
  subst this
  refine ⟨X,Z7 ?_,h,.refl _ _⟩
  rw [Ji]
  unfold QA.l1
  rw [Za Zo,Zb,if_neg (by simp)]
  rfl
 | r+1,j,X,hr,hj,h,ht,hrow=>by
  have hkl : j < l.length:=by omega
  have hlt : (j : Int) < l.length:=by omega
  have hg:=List.getElem?_eq_getElem hkl
  have hmm:=List.getElem_mem hkl
  generalize l[j]=k at hg hmm
  obtain ⟨hkK,hks⟩:=hK k hmm
  have hnot:=Zpx hn hg
  have x1:=hrow.ix (i:=j) (by simpa using hkl) .i64 X
  have x2:=hrow.ldx (KW hg)
  obtain ⟨id,hid⟩:=h.has hkK
  obtain ⟨S,m1,m2,m3,m4⟩:=h.set hid
  have hmk : ∀ n',(Zf n' S).isSome=mem k n':=fun n'=>by rw [m2 n'];unfold ZgG;rw [if_neg hnot]
  have e2 : lkp .str (.map none) false (.map (some o)) (strv k) X=some (.map (some id),X):=by rw [h.mo.lkp,hid];rfl
  obtain ⟨X1,e3,m5,s3,_⟩:=m1.mde (k:=s)
  have hsub : (J2 s S).Sublist S:=List.filter_sublist
  have h1:=h.upd (mem':=fun k' n'=>if k'=k then (Zf n' (J2 s S)).isSome else ZgG s t l mem j k' n') hid m5 s3 (fun q hq=>m4 q (hsub.subset hq)) (Nat.le_trans hsub.length_le m3) (Nat.le_refl _) (fun _ _=>rfl)
  have e4 : lkp .str (.map none) false (.map (some o)) (strv k) X1=some (.map (some id),X1):=by rw [h1.mo.lkp,hid];rfl
  obtain ⟨X2,e5,m6,s5,_⟩:=m5.mup (k:=t) (v:=())
  have hsS : (Zf s S).isSome=true:=by rw [hmk];exact hks
  have hpos : 0 < S.length:=by
   cases hS : S with
   | nil=>rw [hS] at hsS;cases hsS
   | cons a b=>simp
  have hlen : (QG t () (J2 s S)).length≤c:=by
   rw [Zej]
   have:=Zlv m1.nod hsS
   split <;> omega
  have h2:=h1.upd (mem':=ZgG s t l mem (j+1)) hid m6 s5 (fun q hq=>by
   rcases Zhl hq with rfl | hq
   ·exact ht
   ·exact m4 q (hsub.subset hq)) hlen (Nat.le_refl _) (fun k' n'=>by
   by_cases hk : k'=k
   ·subst hk
    rw [if_pos rfl]
    unfold ZgG
    rw [if_pos ((Zdg hg).2 (.inr rfl))]
    by_cases hnt : n'=t
    ·subst hnt;rw [Wg];simp
    ·rw [YN hnt]
     by_cases hns : n'=s
     ·subst hns;rw [WH];simp [hnt]
     ·rw [JE hns,hmk,beq_eq_false_iff_ne.2 hnt,beq_eq_false_iff_ne.2 hns];simp
   ·rw [if_neg hk,if_neg hk]
    unfold ZgG
    by_cases hin : k'∈l.take j
    ·rw [if_pos hin,if_pos ((Zdg hg).2 (.inl hin))]
    ·rw [if_neg hin,if_neg fun h=>(Zdg hg).1 h |>.elim hin hk])
  have st:=(h.step1 hid s3).trans (h1.step1 hid s5)
  obtain ⟨X3,e6,h3,s6⟩:=ZsD hl hn hK r (j+1) X2 (by omega) (by omega) h2 ht (hrow.grp h st)
  refine ⟨X3,(ZI ?_).trans e6,h3,st.trans s6⟩
  rw [Ji]
  unfold QA.l1
  rw [Za Zo,Zb,if_pos (by simpa using hlt),Za x1,Za x2,Za Zu,Za Zg,Za h.ldo,Za e2,Za e3,Za Zu,Za Zg,Za h1.ldo,Za e4,Za Zwb,Za e5,Za Zy,Qu (by omega)]
  rfl
theorem ZcT {K : List Tx} {x : Tx} : x∈ofL m K mem↔x∈K∧mem x m=true:=by unfold ofL;rw [List.mem_filter,Zcm]
theorem Zwm (h : Grp X g o G mem c) : ∃ X',R (n+8) Y9 [pt g,strv s,strv t] X=some (iv (Zg9 s t (ZL G) mem),X')∧Grp X' g o G (if Zg9 s t (ZL G) mem=0 then ZaO s t mem else mem) c∧ZJ (Q5 o G) X (Q5 o G) X':=by
 have l0 : HLe X (X++[.cells [strv t] 1 false false]):=.app _ _
 have s0:=(ZhD (x:=t) (H:=X)).rd
 have e0:=Zm0 (x:=t) (H:=X)
 generalize X++[Ze.cells [strv t] 1 false false]=X0 at l0 s0 e0
 have f1 : ∀ r X',QA (R (n+7)) (pt g) (strv s) (strv t) X=some (r,X')→R (n+8) Y9 [pt g,strv s,strv t] X=some (r,X'):=fun r X' hr=>by rw [R,Zhg rfl];exact hr
 have e1 : R (n+7) Zad [_] X0=_:=ZpA (n:=n+1) (l:=[t]) (by simp) s0
 have h0:=h.hle l0
 unfold Zg9
 by_cases ht : Zs t=true
 ·have hN : Zdd [t]=0:=by unfold Zdd;simp [ht]
  rw [hN] at e1
  rw [if_pos ht]
  have q1 : bop .str .eql (strv s) (strv t) X0=some (.bool (s==t),X0):=Zb2
  by_cases hst : s=t
  ·rw [if_pos hst,if_pos rfl]
   refine ⟨X0,f1 _ _ ?_,h0.more (Nat.le_refl _) (fun k' n'=>?_),l0.stepq⟩
   ·unfold QA
    rw [Za e0,Za e1,Za Zt,Zb,if_neg (by decide),Za q1,Zb,if_pos (by simpa using hst)]
    rfl
   ·unfold ZaO
    subst hst
    split
    ·rename_i hm
     by_cases hn : n'=s
     ·subst hn;simp [hm]
     ·rw [beq_eq_false_iff_ne.2 hn];simp
    ·rfl
  ·rw [if_neg hst]
   obtain ⟨v1,q1',X1,e2,r2,l2,o2⟩:=ZoL (n:=n+3) (m:=t) h0
   have e2 : R (n+7) JX [pt g,strv t] X0=_:=e2
   have hlen1 : ZF v1 X1=some (iv (ofL t (ZL G) mem).length,X1):=by have:=r2.rd.len (H':=X1);simpa using this
   have h1:=h0.hle l2
   by_cases hO : ofL t (ZL G) mem=[]
   ·rw [if_pos hO,if_pos rfl]
    rw [hO] at hlen1
    obtain ⟨v2,q2,X2,e3,r3,l3,o3⟩:=ZoL (n:=n+3) (m:=s) h1
    have e3 : R (n+7) JX [pt g,strv s] X1=_:=e3
    have h2:=h1.hle l3
    have hlen2 : ZF v2 X2=some (iv (ofL s (ZL G) mem).length,X2):=by have:=r3.rd.len (H':=X2);simpa using this
    have hfew : (ofL s (ZL G) mem).length≤1000:=by have:=Zfs (m:=s) (mem:=mem) (K:=ZL G);have:=h.few;simp at *;omega
    have hnod : (ofL s (ZL G) mem).Nodup:=(ZcR h.mo.nod).asc.nodup
    have hr0 : ∀ k n',ZgG s t (ofL s (ZL G) mem) mem 0 k n'=mem k n':=fun k n'=>by unfold ZgG;simp
    obtain ⟨X3,e4,h3,s4⟩:=ZsD (n:=n+7) (s:=s) (t:=t) hfew hnod (fun x hx=>ZcT.1 hx) (ofL s (ZL G) mem).length 0 X2 (by omega) (by omega) (h2.more (Nat.le_refl _) hr0) ht r3
    rw [show iv ((0 : Nat) : Int)=.int .i64 0 from rfl] at e4
    refine ⟨X3,f1 _ _ ?_,h3.more (Nat.le_refl _) (fun k' n'=>?_),((l0.trans l2).trans l3).stepq.trans s4⟩
    ·unfold QA
     rw [Za e0,Za e1,Za Zt,Zb,if_neg (by decide),Za q1,Zb,if_neg (by simpa using hst),Za e2,Za hlen1,Za Ql,Zb,if_neg (by simp),Za e3,Za hlen2,QN e4,ZM]
     rfl
    ·unfold ZaO ZgG
     rw [List.take_length]
     by_cases hm : mem k' s=true
     ·have hin : k'∈ofL s (ZL G) mem:=ZcT.2 ⟨by
       have:=h.out k' s hm
       rw [h.key] at this;simpa using this,hm⟩
      rw [if_pos hm,if_pos hin]
     ·rw [if_neg hm,if_neg fun hin=>hm (ZcT.1 hin).2]
   ·rw [if_neg hO,if_neg (by decide)]
    have hpos : 0 < (ofL t (ZL G) mem).length:=List.length_pos_iff.2 hO
    refine ⟨X1,f1 _ _ ?_,h1,(l0.trans l2).stepq⟩
    unfold QA
    rw [Za e0,Za e1,Za Zt,Zb,if_neg (by decide),Za q1,Zb,if_neg (by simpa using hst),Za e2,Za hlen1,Za Ql,Zb,if_pos (by simpa using hpos)]
    rfl
 ·have hN : Zdd [t]=10:=by unfold Zdd;simp [ht]
  rw [hN] at e1
  rw [if_neg ht,if_neg (by decide)]
  refine ⟨X0,f1 _ _ ?_,h0,l0.stepq⟩
  unfold QA
  rw [Za e0,Za e1,Za Zt,Zb,if_pos (by decide)]
  rfl
theorem ZtF {v z : Value} {q : List Nat} {l : List Tx} (hl : l.length≤1000) (hn : l.Nodup) (hK : ∀ x∈l,x∈ZL G) : ∀ (r j : Nat) (X : Zc),l.length - j=r→j≤l.length→Grp X g o G (Zh2 m l mem j) c→Zx X v (l.map strv) q→
  ∃ X',Zi (c6 (J4.l1 (R n))) [pt g,strv m,z,v,iv l.length,iv j] X=some (.ext 0 [z],X')∧Grp X' g o G (Zh2 m l mem l.length) c∧ZJ (Q5 o G) X (Q5 o G) X'
 | 0,j,X,hr,hj,h,hrow=>by
  have : j=l.length:=by omega
  subst this
  refine ⟨X,Z7 ?_,h,.refl _ _⟩
  rw [Ji]
  unfold J4.l1
  rw [Za Zo,Zb,if_neg (by simp)]
  rfl
 | r+1,j,X,hr,hj,h,hrow=>by
  have hkl : j < l.length:=by omega
  have hlt : (j : Int) < l.length:=by omega
  have hg:=List.getElem?_eq_getElem hkl
  have hmm:=List.getElem_mem hkl
  generalize l[j]=k at hg hmm
  have hkK:=hK k hmm
  have hnot:=Zpx hn hg
  have x1:=hrow.ix (i:=j) (by simpa using hkl) .i64 X
  have x2:=hrow.ldx (KW hg)
  obtain ⟨id,hid⟩:=h.has hkK
  obtain ⟨S,m1,m2,m3,m4⟩:=h.set hid
  have hmk : ∀ n',(Zf n' S).isSome=mem k n':=fun n'=>by rw [m2 n'];unfold Zh2;rw [if_neg hnot]
  have e2 : lkp .str (.map none) false (.map (some o)) (strv k) X=some (.map (some id),X):=by rw [h.mo.lkp,hid];rfl
  obtain ⟨X1,e3,m5,s3,_⟩:=m1.mde (k:=m)
  have hsub : (J2 m S).Sublist S:=List.filter_sublist
  have h1:=h.upd (mem':=Zh2 m l mem (j+1)) hid m5 s3 (fun q hq=>m4 q (hsub.subset hq)) (Nat.le_trans hsub.length_le m3) (Nat.le_refl _) (fun k' n'=>by
   by_cases hk : k'=k
   ·subst hk
    rw [if_pos rfl]
    unfold Zh2
    rw [if_pos ((Zdg hg).2 (.inr rfl))]
    by_cases hns : n'=m
    ·subst hns;rw [WH];simp
    ·rw [JE hns,hmk];simp [hns]
   ·rw [if_neg hk]
    unfold Zh2
    by_cases hin : k'∈l.take j
    ·rw [if_pos hin,if_pos ((Zdg hg).2 (.inl hin))]
    ·rw [if_neg hin,if_neg fun h=>(Zdg hg).1 h |>.elim hin hk])
  have st:=h.step1 hid s3
  obtain ⟨X3,e6,h3,s6⟩:=ZtF hl hn hK r (j+1) X1 (by omega) (by omega) h1 (hrow.grp h st)
  refine ⟨X3,(ZI ?_).trans e6,h3,st.trans s6⟩
  rw [Ji]
  unfold J4.l1
  rw [Za Zo,Zb,if_pos (by simpa using hlt),Za x1,Za x2,Za Zu,Za Zg,Za h.ldo,Za e2,Za e3,Za Zy,Qu (by omega)]
  rfl
theorem ZsI (h : Grp X g o G mem c) : ∃ X',R (n+8) KY [pt g,strv m] X=some (iv (ofL m (ZL G) mem).length,X')∧Grp X' g o G (Zdx m mem) c∧ZJ (Q5 o G) X (Q5 o G) X':=by
 obtain ⟨v2,q2,X2,e3,r3,l3,o3⟩:=ZoL (n:=n+3) (m:=m) h
 have e3 : R (n+7) JX [pt g,strv m] X=_:=e3
 have h2:=h.hle l3
 have hlen2 : ∀ Y,ZF v2 Y=some (iv (ofL m (ZL G) mem).length,Y):=fun Y=>by have:=r3.rd.len (H':=Y);simpa using this
 have hfew : (ofL m (ZL G) mem).length≤1000:=by have:=Zfs (m:=m) (mem:=mem) (K:=ZL G);have:=h.few;simp at *;omega
 have hnod : (ofL m (ZL G) mem).Nodup:=(ZcR h.mo.nod).asc.nodup
 have hr0 : ∀ k n',Zh2 m (ofL m (ZL G) mem) mem 0 k n'=mem k n':=fun k n'=>by unfold Zh2;simp
 obtain ⟨X3,e4,h3,s4⟩:=ZtF (n:=n+7) (m:=m) (z:=v2) hfew hnod (fun x hx=>(ZcT.1 hx).1) (ofL m (ZL G) mem).length 0 X2 (by omega) (by omega) (h2.more (Nat.le_refl _) hr0) r3
 rw [show iv ((0 : Nat) : Int)=.int .i64 0 from rfl] at e4
 refine ⟨X3,?_,h3.more (Nat.le_refl _) (fun k' n'=>?_),l3.stepq.trans s4⟩
 ·rw [R,ZgL rfl]
  unfold J4
  rw [Za e3,Za (hlen2 _),QN e4,ZM,YQ,Za (hlen2 _)]
  rfl
 ·unfold Zdx Zh2
  rw [List.take_length]
  by_cases hin : k'∈ofL m (ZL G) mem
  ·rw [if_pos hin]
  ·rw [if_neg hin]
   by_cases hn : n'=m
   ·subst hn
    cases hm : mem k' n' with
    | false=>rfl
    | true=>exact absurd (ZcT.2 ⟨by have:=h.out k' n' hm;rw [h.key] at this;simpa using this,hm⟩) hin
   ·simp [hn]
def Zcq (b : Nat) : Zb7→Zb7
 | []=>[]
 | p :: G=>(p.1,b) :: Zcq (b+1) G
theorem Zhw : ∀ {G : Zb7} {b : Nat},ZL (Zcq b G)=ZL G
 | [],_=>rfl
 | p :: G,b=>by
  show p.1 :: ZL (Zcq (b+1) G)=p.1 :: ZL G
  rw [Zhw]
theorem Zln : ∀ {G : Zb7} {b : Nat} {p : Tx × Nat},p∈Zcq b G→∃ i q,G[i]?=some q∧p=(q.1,b+i)
 | [],_,_,h=>by cases h
 | q :: G,b,p,h=>by
  rcases List.mem_cons.1 h with rfl | h
  ·exact ⟨0,q,rfl,rfl⟩
  ·obtain ⟨i,r,h1,h2⟩:=Zln h
   exact ⟨i+1,r,by simpa using h1,by rw [h2];congr 1;omega⟩
theorem Zgg : ∀ {G : Zb7} {b : Nat},(Zcq b G).map (·.2)=List.range' b G.length
 | [],_=>rfl
 | p :: G,b=>by
  show b :: (Zcq (b+1) G).map (·.2)=_
  rw [Zgg,List.length_cons,List.range'_succ]
theorem Zmm : ∀ {G : Zb7} {b : Nat},(Zf k (Zcq b G)).isSome=(Zf k G).isSome
 | [],_=>rfl
 | p :: G,b=>by
  simp only [Zcq,Zf]
  by_cases h : p.1=k
  ·rw [if_pos h,if_pos h];rfl
  ·rw [if_neg h,if_neg h,Zmm]
theorem ZlL : ∀ {es : List (Value × Value × Nat)} {G : Zb7} {b : Nat},es.map kv=G.map (fun p=>(strv p.1,Znj p.2))→(Zbu b es).map kv=(Zcq b G).map (fun p=>(strv p.1,Znj p.2))
 | [],[],_,_=>rfl
 | [],_ :: _,_,h=>by cases h
 | _ :: _,[],_,h=>by cases h
 | e :: es,p :: G,b,h=>by
  simp only [List.map_cons,List.cons.injEq,kv,Prod.mk.injEq] at h
  simp only [Zbu,Zcq,List.map_cons,kv,h.1.1]
  rw [ZlL h.2]
theorem ZlR : ∀ {es : List (Value × Value × Nat)} {G : Zb7},es.map kv=G.map (fun p=>(strv p.1,Znj p.2))→(∀ p∈G,∃ S,JY ZjT X p.2 S)→∃ l,ZdW X es=some l∧l.length=G.length∧∀ (i : Nat) (p : Tx × Nat),G[i]?=some p→l[i]?=X[p.2]?
 | [],[],_,_=>⟨[],rfl,rfl,fun i p h=>by simp at h⟩
 | [],_ :: _,h,_=>by cases h
 | _ :: _,[],h,_=>by cases h
 | e :: es,p :: G,h,hS=>by
  simp only [List.map_cons,List.cons.injEq,kv,Prod.mk.injEq] at h
  obtain ⟨l,h1,h2,h3⟩:=ZlR h.2 (fun p hp=>hS p (List.mem_cons_of_mem _ hp))
  obtain ⟨S,hm⟩:=hS p (by simp)
  obtain ⟨x,hx,hmx⟩ : ∃ x,X[p.2]?=some x∧ZfS x=true:=by
   obtain ⟨es',_,h4 | h4⟩:=hm.ex
   ·obtain ⟨clk,h4,_⟩:=h4;exact ⟨_,h4,rfl⟩
   ·exact ⟨_,h4,rfl⟩
  refine ⟨x :: l,?_,by simp [h2],fun i q hi=>?_⟩
  ·unfold ZdW
   simp only [h.1.2,h1,Znj,hx,hmx,if_true]
  ·cases i with
   | zero=>
    have : p=q:=by simpa using hi
    subst this
    simp [hx]
   | succ i=>simpa using h3 i q (by simpa using hi)
theorem JY.move {α : Type} {enc : α→Value} {id id' : Nat} {mm : List (Tx × α)} (h : JY enc X id mm) (he : X'[id']?=X[id]?) : JY enc X' id' mm:=by
 obtain ⟨es,h1,h2⟩:=h.ex
 exact ⟨⟨es,h1,by rw [he];exact h2⟩,h.nod⟩
theorem ZuN (h : Grp X g o G mem c) : ∃ X' g' o' G',R (n+1) Wr [pt g] X=some (pt g',X')∧Grp X' g' o' G' mem c∧ZL G'=ZL G∧HLe X X'∧X.length≤g'∧∀ j∈Q5 o' G',X.length≤j:=by
 obtain ⟨es,h1,h2⟩:=h.mo.ex
 obtain ⟨l,h3,h4,h5⟩:=ZlR h1 (fun p hp=>by obtain ⟨S,hS,_⟩:=h.ms p hp;exact ⟨S,hS⟩)
 have hents : Zjk X o=some es:=by
  unfold Zjk
  rcases h2 with ⟨clk,h2,hst⟩ | h2
  ·simp only [h2];rw [if_pos hst]
  ·simp only [h2]
 have hk : Zew es (ZL G):=⟨by
  have:=congrArg (List.map (·.1)) h1
  rw [Zd0] at this
  rw [this];simp [Function.comp_def],h.mo.nod,by have:=h.few;simp;omega,fun k hk=>by
  obtain ⟨p,hp,rfl⟩:=List.mem_map.1 hk
  exact Nat.le_trans (Zeb (h.ok p hp)) (by decide)⟩
 have hrun : R (n+1) Wr [pt g] X=some (pt (X.length+l.length+1),X++l++[.mapU (Zbu X.length es)]++[.cells [.map (some (X.length+l.length))] 1 false false]):=by
  rw [R,Zbt (show np Wr=some Zg3 from rfl)]
  unfold Zg3
  simp only [h.cell,hents,h3]
  rw [if_pos ⟨_,hk⟩]
 have hlen1 : (X++l).length=X.length+l.length:=List.length_append
 have hlen2 : (X++l++[Ze.mapU (Zbu X.length es)]).length=X.length+l.length+1:=by rw [List.length_append,hlen1,List.length_singleton]
 have hle : HLe X (X++l++[.mapU (Zbu X.length es)]++[.cells [.map (some (X.length+l.length))] 1 false false]):=fun i v hi=>by
  rw [List.append_assoc,List.append_assoc,List.getElem?_append_left (Jr hi)];exact hi
 refine ⟨_,_,X.length+l.length,Zcq X.length G,hrun,⟨?_,⟨⟨Zbu X.length es,ZlL h1,.inr ?_⟩,?_⟩,fun p hp=>?_,fun k' n' hk'=>by rw [Zmm];exact h.out k' n' hk',?_,fun p hp=>?_,?_⟩,Zhw,hle,by omega,fun j hj=>?_⟩
 ·rw [← hlen2];exact ZD
 ·rw [List.getElem?_append_left (by rw [hlen2];omega),← hlen1];exact ZD
 ·have : (ZL (Zcq X.length G)).Nodup:=by rw [Zhw];exact h.mo.nod
  exact this
 ·obtain ⟨i,q,hq,rfl⟩:=Zln hp
  obtain ⟨S,a1,a2,a3,a4⟩:=h.ms q (List.mem_of_getElem? hq)
  refine ⟨S,a1.move ?_,a2,a3,a4⟩
  have hil : i < l.length:=by rw [h4];exact (List.getElem?_eq_some_iff.1 hq).1
  show (_ : Zc)[X.length+i]?=_
  rw [List.getElem?_append_left (by rw [hlen2];omega),List.getElem?_append_left (by rw [hlen1];omega),List.getElem?_append_right (by omega),Nat.add_sub_cancel_left]
  exact h5 i q hq
 ·rw [Q5,Zgg,List.nodup_cons]
  refine ⟨fun hm=>?_,List.nodup_range'⟩
  have:=List.mem_range'_1.1 hm
  omega
 ·obtain ⟨i,q,hq,rfl⟩:=Zln hp
  exact h.ok q (List.mem_of_getElem? hq)
 ·have : (Zcq X.length G).length=G.length:=by
   have:=congrArg List.length (Zgg (G:=G) (b:=X.length))
   simpa using this
  rw [this];exact h.few
 ·rw [Q5,Zgg] at hj
  rcases List.mem_cons.1 hj with rfl | hj
  ·omega
  ·exact (List.mem_range'_1.1 hj).1
end
end Go.Proofs.YtnnehafmjfmbnaaGreatDoor.A

namespace Go.Proofs.YtnnehafmjfmbnaaGreatDoor.A
set_option linter.unusedVariables false
set_option linter.unusedSimpArgs false
open Go.Proofs Go.Proofs.YtnnehafmjfmbnaaGreatDoor
def Ki (b : UInt8) : UInt8:=if decide (65≤b.toNat) && decide (b.toNat≤90) then UInt8.ofNat (b.toNat+32) else b
def ZY (s : List UInt8) : List UInt8:=s.map Ki
theorem Zt3 : ∀ b : UInt8,(decide (65≤b.toNat) && decide (b.toNat≤90))=true→IntKind.u8.wrap (IntKind.u8.wrap ((b.toNat : Int)+97) - 65)=(Ki b).toNat:=ZfL (by decide+kernel)
section
variable {H X : Zc} {n : Nat} {s : List UInt8}
theorem Zwd {cs : List UInt8} {k : Nat} {b : UInt8} (h : cs[k]?=some b) : (u8s cs)[k]?=some (u8v b):=by unfold u8s;rw [List.getElem?_map,h];rfl
theorem ZuQ {cs : List UInt8} {k : Nat} {b : UInt8} : (u8s cs).set k (u8v b)=u8s (cs.set k b):=by unfold u8s;rw [List.map_set]
theorem ZwK : s2b (strv s) H=some (.slice (some ⟨H.length,0,none⟩) s.length s.length,H++[.cells (u8s s) 1 true false]):=by
 unfold s2b strv Zje
 simp [ByteArray.size]
theorem ZnB {v : Value} {q : List Nat} (hs : s.length≤1000000) : ∀ (t k : Nat) (cs : List UInt8) (X : Zc),s.length - k=t→k≤s.length→cs.length=s.length→cs.take k=(s.take k).map Ki→cs.drop k=s.drop k→Zx X v (u8s cs) q→
  ∃ X',Zi (c4 (Wf.l1 (R n))) [v,v,iv s.length,iv k] X=some (.ext 0 [v],X')∧Zx X' v (u8s (ZY s)) q∧ZJ q X q X'
 | 0,k,cs,X,ht,hk,hl,h1,h2,hr=>by
  have : k=s.length:=by omega
  subst this
  have : cs=ZY s:=by
   rw [List.take_of_length_le (by omega),List.take_of_length_le (by omega)] at h1
   exact h1
  subst this
  refine ⟨X,Z7 ?_,hr,.refl _ _⟩
  rw [ZK]
  unfold Wf.l1
  rw [Za Zo,Zb,if_neg (by simp)]
  rfl
 | t+1,k,cs,X,ht,hk,hl,h1,h2,hr=>by
  have hkl : k < s.length:=by omega
  have hlt : (k : Int) < s.length:=by omega
  have hg:=List.getElem?_eq_getElem hkl
  have htk:=List.take_succ_eq_append_getElem hkl
  have hdk:=List.drop_eq_getElem_cons hkl
  generalize s[k]=b at hg htk hdk
  have hgc : cs[k]?=some b:=by
   have h3 : (cs.drop k)[0]?=(s.drop k)[0]?:=by rw [h2]
   simpa [hg] using h3
  have hul : (u8s cs).length=s.length:=by rw [Zms,hl]
  have x1:=hr.ix (i:=k) (by omega) .i64 X
  have x2:=hr.ldx (Zwd hgc)
  have hd1 : cs.drop (k+1)=s.drop (k+1):=by rw [← List.drop_drop,h2,List.drop_drop]
  have htc : cs.take (k+1)=cs.take k++[b]:=by
   have:=List.take_succ_eq_append_getElem (show k < cs.length by omega)
   rw [this,(List.getElem?_eq_some_iff.1 hgc).2]
  have hpk : ∀ (K : Value→M Out),bind (bop .int .geq (u8v b) (Value.int .u8 65)) (fun v16x6=>bind (ZA v16x6 true 2 (bind (bop .int .leq (u8v b) (Value.int .u8 90)) fun v19x7=>ret [u8v b,v19x7])) (c2 fun _ q8_1=>bind (pick v16x6 q8_1 (Value.bool false)) K)) X=K (.bool (decide (65≤b.toNat) && decide (b.toNat≤90))) X:=fun K=>by
   have e1 : decide ((b.toNat : Int)≥65)=decide (65≤b.toNat):=by rw [decide_eq_decide];omega
   have e2 : decide ((b.toNat : Int)≤90)=decide (b.toNat≤90):=by rw [decide_eq_decide];omega
   rw [Za Z8,e1]
   cases decide (65≤b.toNat)
   ·rw [Za (g_r.trans (if_neg (by simp)))]
    simp only [List.replicate]
    rw [Qt,Za Zm]
    rfl
   ·rw [Z0,Zl,Za QK,Qm,Qt,Za Zm,e2]
    rfl
  cases hup : (decide (65≤b.toNat) && decide (b.toNat≤90))
  ·have hfb : Ki b=b:=by unfold Ki;rw [hup];rfl
   rw [hup] at hpk
   obtain ⟨X',e,r',s'⟩:=ZnB hs t (k+1) cs X (by omega) (by omega) hl (by rw [htc,h1,htk,List.map_append,List.map_singleton,hfb]) hd1 hr
   refine ⟨X',(ZI ?_).trans e,r',s'⟩
   rw [ZK]
   unfold Wf.l1
   rw [Za Zo,Zb,if_pos (by simpa using hlt),Za x1,Za x2]
   refine (hpk _).trans ?_
   refine (ZV (vs:=[v,v,iv s.length,iv k]) (H':=X) ?_).trans ?_
   ·rw [Zb,if_neg (by simp)];rfl
   ·rw [ZK,Za Zy,Qu (by omega)];rfl
  ·have hfu:=Zt3 b hup
   rw [hup] at hpk
   obtain ⟨X1,x3,r1,s1,_⟩:=hr.stx (i:=k) (u:=u8v (Ki b)) (by omega) rfl
   rw [ZuQ] at r1
   obtain ⟨X',e,r',s'⟩:=ZnB hs t (k+1) (cs.set k (Ki b)) X1 (by omega) (by omega) (by simpa using hl) (by
    have h5 : k < (cs.set k (Ki b)).length:=by simp;omega
    rw [List.take_succ_eq_append_getElem h5,List.take_set_of_le (Nat.le_refl _),h1,htk,List.map_append]
    simp) (by rw [List.drop_set_of_lt (by omega)];exact hd1) r1
   refine ⟨X',(ZI ?_).trans e,r',s1.trans s'⟩
   rw [ZK]
   unfold Wf.l1
   rw [Za Zo,Zb,if_pos (by simpa using hlt),Za x1,Za x2]
   refine (hpk _).trans ?_
   refine (ZV (vs:=[v,v,iv s.length,iv k]) (H':=X1) ?_).trans ?_
   ·rw [Zb,if_pos rfl,Za Zy,Za QZ,hfu,Za x1,Za x3];rfl
   ·rw [ZK,Za Zy,Qu (by omega)];rfl
theorem Zwl (hs : s.length≤1000000) : ∃ H',R (n+1) ZdG [strv s] H=some (strv (ZY s),H')∧HLe H H':=by
 have e1:=ZwK (s:=s) (H:=H)
 have k1 : HLe H (H++[.cells (u8s s) 1 true false]):=.app _ _
 have r1 : Zx (H++[.cells (u8s s) 1 true false]) (.slice (some ⟨H.length,0,none⟩) s.length s.length) (u8s s) [H.length]:=.inr ⟨H.length,[],true,by rw [Zms];rfl,rfl,by rw [ZD,List.append_nil]⟩
 have hnl : ∀ j∈[H.length],H.length≤j:=by simp
 generalize H++[Ze.cells (u8s s) 1 true false]=H1 at e1 k1 r1
 obtain ⟨H2,e2,r2,s2⟩:=ZnB (n:=n) hs s.length 0 s H1 (by omega) (by omega) rfl rfl rfl r1
 have e2 : Zi (c4 (Wf.l1 (R n))) [.slice (some ⟨H.length,0,none⟩) s.length s.length,.slice (some ⟨H.length,0,none⟩) s.length s.length,iv s.length,.int .i64 0] H1=_:=e2
 refine ⟨H2,?_,(k1.more s2 hnl).1⟩
 rw [R,Zqx rfl]
 unfold Wf
 have hl : ZF (.slice (some ⟨H.length,0,none⟩) s.length s.length) H1=some (iv s.length,H1):=rfl
 rw [Za e1,Za hl,QN e2,ZM,YQ,Za (ZwJ r2.rd)]
 rfl
def ZbD : List UInt8:=[65,66,67,68,69,70,71,72,73,74,75,76,77,78,79,80,81,82,83,84,85,86,87,88,89,90]
theorem ZrE : ∀ k < 26,∀ b,ZbD[k]?=some b→ZfC[k]?=some (Ki b):=by
 intro k hk b hb
 have : ∀ k < 26,(ZbD[k]?).map Ki=ZfC[k]?:=by decide
 rw [← this k hk,hb];rfl
theorem ZuB : ∀ b : UInt8,(if ZbD.contains b then Ki b else b)=Ki b:=ZfL (by decide+kernel)
theorem ZsC {i j : Nat} (hij : i≤j) (hj : j≤s.length) : sls (strv s) (some (iv i)) (some (iv j)) H=some (strv ((s.take j).drop i),H):=by
 have h1 : (⟨s.toArray⟩ : ByteArray).size=s.length:=by simp [ByteArray.size]
 have h2 : (⟨s.toArray⟩ : ByteArray).extract i j=⟨((s.take j).drop i).toArray⟩:=by
  apply ByteArray.ext
  rw [ByteArray.data_extract]
  simp [List.drop_take]
 have hb : ∀ k : Nat,∀ d,bnd (some (iv k)) d=some k:=fun k d=>by simp [bnd]
 unfold strv sls
 simp only [h1,hb]
 rw [if_pos ⟨hij,hj⟩,h2]
theorem ZuJ {i : Nat} (hi : i≤s.length) : sls (strv s) (some (iv i)) none H=some (strv (s.drop i),H):=by
 have h1 : (⟨s.toArray⟩ : ByteArray).size=s.length:=by simp [ByteArray.size]
 have h2 : (⟨s.toArray⟩ : ByteArray).extract i s.length=⟨(s.drop i).toArray⟩:=by
  apply ByteArray.ext
  rw [ByteArray.data_extract]
  simp [List.take_of_length_le]
 have hb : ∀ k : Nat,∀ d,bnd (some (iv k)) d=some k:=fun k d=>by simp [bnd]
 have hb0 : ∀ d,bnd none d=some d:=fun _=>rfl
 unfold strv sls
 simp only [h1,hb,hb0]
 rw [if_pos ⟨hi,Nat.le_refl _⟩,h2]
theorem Zs8 {k : Nat} {b : UInt8} (h : s[k]?=some b) : (s.take (k+1)).drop k=[b]:=by
 have hk:=(List.getElem?_eq_some_iff.1 h).1
 rw [List.take_succ_eq_append_getElem hk,(List.getElem?_eq_some_iff.1 h).2,List.drop_append_of_le_length (by rw [List.length_take];omega),List.drop_eq_nil_of_le (by rw [List.length_take];omega)]
 rfl
theorem Ziv {i : Nat} {b : UInt8} (hi : s[i]?=some b) (hs : s.length≤1000000) : ∀ (t k : Nat) (cur : UInt8) (z1 : Value),26 - k=t→k≤26→
  Zi (c6 (JM.l2 (R n))) [strv s,strv ZbD,z1,iv i,strv [cur],iv k] X=some (.ext 2 [strv s,strv ZbD,z1,iv i,strv [if (ZbD.drop k).contains b then Ki b else cur]],X)
 | 0,k,cur,z1,ht,hk=>by
  have : k=26:=by omega
  subst this
  refine Z7 ?_
  rw [Ji]
  unfold JM.l2
  rw [Za Zo,Zb,if_neg (by decide)]
  rfl
 | t+1,k,cur,z1,ht,hk=>by
  have hkl : k < ZbD.length:=by show k < 26;omega
  have hlt : (k : Int) < 26:=by omega
  have hg:=List.getElem?_eq_getElem hkl
  have hd:=List.drop_eq_getElem_cons hkl
  generalize ZbD[k]=g at hg hd
  have x1:=ZbZ hi .i64 X
  have x2:=ZbZ hg .i64 X
  have hgf:=ZrE k (by omega) g hg
  rw [hd,List.contains_cons]
  by_cases hb : b=g
  ·subst hb
   have e3 : sls (strv ZfC) (some (iv k)) (some (iv ((k+1 : Nat) : Int))) X=some (strv [Ki b],X):=by
    rw [ZsC (by omega) (by show k+1≤26;omega),Zs8 hgf]
   have e3 : sls (.string ⟨#[97,98,99,100,101,102,103,104,105,106,107,108,109,110,111,112,113,114,115,116,117,118,119,120,121,122]⟩) (some (iv k)) (some (iv ((k+1 : Nat) : Int))) X=some (strv [Ki b],X):=e3
   refine (ZI ?_).trans ((Ziv hi hs t (k+1) (Ki b) z1 (by omega) (by omega)).trans (by simp))
   rw [Ji]
   unfold JM.l2
   rw [Za Zo,Zb,if_pos (by simpa using hlt),Za x1,Za x2,Za ZB,Zha]
   refine (ZV (vs:=[strv s,strv ZbD,z1,iv i,strv [Ki b],iv k]) (H':=X) ?_).trans ?_
   ·rw [Zb,if_pos (by simp),Za Zy,Qu (by omega),Za e3];rfl
   ·rw [Ji,Za Zy,Qu (by omega)];rfl
  ·have hbf : (b==g)=false:=beq_eq_false_iff_ne.2 hb
   rw [hbf,Bool.false_or]
   refine (ZI ?_).trans (Ziv hi hs t (k+1) cur z1 (by omega) (by omega))
   rw [Ji]
   unfold JM.l2
   rw [Za Zo,Zb,if_pos (by simpa using hlt),Za x1,Za x2,Za ZB,Zha,hbf]
   refine (ZV (vs:=[strv s,strv ZbD,z1,iv i,strv [cur],iv k]) (H':=X) ?_).trans ?_
   ·rw [Zb,if_neg (by simp)];rfl
   ·rw [Ji,Za Zy,Qu (by omega)];rfl
theorem Zn4 (hs : s.length≤1000000) : ∀ (t k : Nat),s.length - k=t→k≤s.length→
  Zi (c4 (JM.l1 (R n))) [strv s,strv ZbD,strv ((s.take k).map Ki),iv k] X=some (.ext 0 [strv (ZY s)],X)
 | 0,k,ht,hk=>by
  have : k=s.length:=by omega
  subst this
  rw [List.take_length]
  refine Z7 ?_
  rw [ZK]
  unfold JM.l1
  rw [Za ZH,Za Zo,Zb,if_neg (by simp)]
  rfl
 | t+1,k,ht,hk=>by
  have hkl : k < s.length:=by omega
  have hlt : (k : Int) < s.length:=by omega
  have hg:=List.getElem?_eq_getElem hkl
  have htk:=List.take_succ_eq_append_getElem hkl
  generalize s[k]=b at hg htk
  have e1 : sls (strv s) (some (iv k)) (some (iv ((k+1 : Nat) : Int))) X=some (strv [b],X):=by rw [ZsC (by omega) (by omega),Zs8 hg]
  have e2:=Ziv (n:=n) (X:=X) hg hs 26 0 b (strv ((s.take k).map Ki)) rfl (by omega)
  rw [List.drop_zero,ZuB] at e2
  have e2 : Zi (c6 (JM.l2 (R n))) [strv s,strv ZbD,strv ((s.take k).map Ki),iv k,strv [b],.int .i64 0] X=_:=e2
  have e3:=Jk (a:=(s.take k).map Ki) (b:=[Ki b]) (H:=X) (by simp;omega)
  refine (ZI ?_).trans (Zn4 hs t (k+1) (by omega) (by omega))
  rw [ZK]
  unfold JM.l1
  rw [Za ZH,Za Zo,Zb,if_pos (by simpa using hlt),Za Zy,Qu (by omega),Za e1,QN e2,ZM,Qk,Za e3,Za Zy,Qu (by omega),htk,List.map_append]
  rfl
theorem ZtC (hs : s.length≤1000000) : R (n+1) ZcJ [strv s] H=some (strv (ZY s),H):=by
 have e:=Zn4 (n:=n) (X:=H) hs s.length 0 (by omega) (by omega)
 have e : Zi (c4 (JM.l1 (R n))) [strv s,.string ⟨#[65,66,67,68,69,70,71,72,73,74,75,76,77,78,79,80,81,82,83,84,85,86,87,88,89,90]⟩,.string ⟨#[]⟩,.int .i64 0] H=_:=e
 rw [R,Zog rfl]
 unfold JM
 rw [QN e,ZM]
 rfl
end
end Go.Proofs.YtnnehafmjfmbnaaGreatDoor.A
namespace Go.Proofs.YtnnehafmjfmbnaaGreatDoor.A
set_option linter.unusedVariables false
set_option linter.unusedSimpArgs false
open Go.Proofs Go.Proofs.YtnnehafmjfmbnaaGreatDoor
def Qr (c : UInt8) : List UInt8→List (List UInt8)
 | []=>[[]]
 | b :: l=>if b=c then [] :: Qr c l else match Qr c l with
  | h :: t=>(b :: h) :: t
  | []=>[[b]]
theorem ZeI {c : UInt8} : ∀ {s : List UInt8},Qr c s≠[]
 | []=>by simp [Qr]
 | b :: s=>by
  unfold Qr
  split
  ·simp
  ·split <;> simp
theorem ZmT {c : UInt8} : ∀ {s : List UInt8},c∉s→Qr c s=[s]
 | [],_=>rfl
 | b :: s,h=>by
  simp only [List.mem_cons,not_or] at h
  unfold Qr
  rw [if_neg (Ne.symm h.1),ZmT h.2]
theorem ZiA {c : UInt8} : ∀ {s : List UInt8},c∈s→Qr c s=s.takeWhile (· !=c) :: Qr c (s.drop ((s.takeWhile (· !=c)).length+1))
 | [],h=>by cases h
 | b :: s,h=>by
  rw [show Qr c (b :: s)=(if b=c then [] :: Qr c s else match Qr c s with | h :: t=>(b :: h) :: t | []=>[[b]]) from rfl]
  by_cases hb : b=c
  ·subst hb
   rw [if_pos rfl]
   simp
  ·rw [if_neg hb]
   have hm : c∈s:=by
    rcases List.mem_cons.1 h with h | h
    ·exact absurd h.symm hb
    ·exact h
   rw [ZiA hm]
   have h2 : (b !=c)=true:=by simp [hb]
   simp [List.takeWhile_cons,h2]
theorem ZdK {c : UInt8} : ∀ {s : List UInt8},(Qr c s).length=s.count c+1
 | []=>rfl
 | b :: s=>by
  have ih:=ZdK (c:=c) (s:=s)
  unfold Qr
  by_cases hb : b=c
  ·subst hb
   rw [if_pos rfl,List.length_cons,ih,List.count_cons_self]
  ·rw [if_neg hb,List.count_cons_of_ne (by simpa using hb)]
   cases h : Qr c s with
   | nil=>exact absurd h ZeI
   | cons a t=>rw [h] at ih;simpa using ih
theorem ZtO {c : UInt8} : ∀ {s : List UInt8},c∈s→s.count c=(s.drop ((s.takeWhile (· !=c)).length+1)).count c+1:=by
 intro s h
 have h1:=ZdK (c:=c) (s:=s)
 rw [ZiA h,List.length_cons,ZdK] at h1
 omega
def ZgK (l : List UInt8) : Bool:=!(l==[]) && l.all Wh
def Wv (f : List UInt8) : List UInt8:=if 64∈f then f.drop ((f.takeWhile (· !=64)).length+1) else []
def okM (f : List UInt8) : Bool:=decide (64∈f) && (Zs (f.takeWhile (· !=64)) && (decide (2≤(Qr 46 (Wv f)).length) && (Qr 46 (Wv f)).all ZgK))
def QB (s : List UInt8) : Bool:=decide (s.length≤20) && okM (ZY s)
def Zbz : List UInt8→Nat→Nat→Option (Nat × Nat)
 | [],st,lg=>some (st,lg)
 | c :: l,st,lg=>if c=46 then (if lg=0 then none else Zbz l (st+1) 0) else if Wh c then Zbz l st (lg+1) else none
def ZfX (l : List UInt8) (st lg : Nat) : Bool:=match Zbz l st lg with
 | some (a,b)=>decide (a≠0) && decide (b≠0)
 | none=>false
def Zeh (lg : Nat) : List (List UInt8)→Bool
 | h :: t=>(h.all Wh && decide (lg+h.length≠0)) && t.all ZgK
 | []=>false
theorem Znk : ∀ (l : List UInt8) (st lg : Nat),ZfX l st lg=(decide (st+(Qr 46 l).length≠1) && Zeh lg (Qr 46 l))
 | [],st,lg=>by simp [ZfX,Zbz,Qr,Zeh]
 | c :: l,st,lg=>by
  unfold ZfX Zbz Qr
  by_cases hc : c=46
  ·rw [if_pos hc,if_pos hc]
   by_cases hl : lg=0
   ·simp [hl,Zeh]
   ·rw [if_neg hl]
    have ih:=Znk l (st+1) 0
    unfold ZfX at ih
    rw [ih]
    have hne:=ZeI (c:=46) (s:=l)
    cases hsp : Qr 46 l with
    | nil=>exact absurd hsp hne
    | cons h t=>
     have h1 : decide (st+1+(h :: t).length≠1)=true:=by simp;omega
     have h2 : decide (st+([] :: h :: t).length≠1)=true:=by simp;omega
     rw [h1,h2]
     simp only [Zeh,List.all_nil,List.all_cons,ZgK,List.length_nil,Nat.zero_add,Nat.add_zero,Bool.true_and]
     have h3 : decide (lg≠0)=true:=by simp [hl]
     rw [h3,Bool.true_and]
     have h4 : (!(h==[]))=decide (h.length≠0):=by cases h <;> simp
     rw [h4,Bool.and_comm (h.all Wh)]
  ·rw [if_neg hc,if_neg hc]
   cases hsp : Qr 46 l with
   | nil=>exact absurd hsp ZeI
   | cons h t=>
    cases ha : Wh c
    ·simp [Zeh,ha]
    ·have ih:=Znk l st (lg+1)
     unfold ZfX at ih
     simp only [if_true]
     rw [ih,hsp]
     have e : ∀ x : Nat,lg+1+x=lg+(x+1):=fun x=>by omega
     simp [Zeh,ha,e]
theorem Zut {l : List UInt8} : ZfX l 0 0=(decide (2≤(Qr 46 l).length) && (Qr 46 l).all ZgK):=by
 rw [Znk]
 cases hsp : Qr 46 l with
 | nil=>exact absurd hsp ZeI
 | cons h t=>
  have h1 : decide (0+(h :: t).length≠1)=decide (2≤(h :: t).length):=by
   rw [decide_eq_decide]
   have : (h :: t).length=t.length+1:=rfl
   omega
  rw [h1]
  have h4 : (!(h==[]))=decide (h.length≠0):=by cases h <;> simp
  simp only [Zeh,List.all_cons,ZgK,Nat.zero_add,h4]
  rw [Bool.and_comm (h.all Wh)]
section
variable {H X : Zc} {n : Nat} {s : List UInt8} {c : UInt8}
theorem Zu1 {args : List Value} : run Tryz.prog np lvs (n+1) Yf args=Zhn args:=Zbt (show np Yf=some Zhn from rfl)
theorem ZvG {args : List Value} : run Tryz.prog np lvs (n+1) YX args=Zhv args:=Zbt (show np YX=some Zhv from rfl)
theorem Zo1 : R (n+3) Jd [strv s,strv [c]] H=some (iv (Go.Lib.indexByte s c),H):=by
 have e1 : run Tryz.prog np lvs (n+2) JV [strv s,u8v c] H=some (iv (Go.Lib.indexByte s c),H):=by
  have e0 : run Tryz.prog np lvs (n+1) Yf [strv s,u8v c] H=some (iv (Go.Lib.indexByte s c),H):=by rw [Zu1];exact ZwC
  rw [Zdc rfl]
  unfold KI
  rw [Za e0]
  rfl
 have q0 : bop .int .eql (iv [c].length) (.int .i64 0) H=some (.bool false,H):=by rw [ZB];rfl
 have q1 : bop .int .eql (iv [c].length) (.int .i64 1) H=some (.bool true,H):=by rw [ZB];rfl
 have x1 : ixs (strv [c]) (.int .i64 0) H=some (u8v c,H):=ZbZ (s:=[c]) (i:=0) rfl .i64 H
 rw [R,Zel rfl]
 unfold Ym
 rw [Za ZH,Za q0,Z0,Zl,Za Zb2,Qm,Z4,Za Zm]
 simp only [cond_false]
 by_cases h : s=[c]
 ·subst h
  rw [Zb,if_pos (by simp)]
  unfold Go.Lib.indexByte
  simp [ret]
 ·rw [Zb,if_neg (by simp;exact fun e=>h e.symm),Za q1,Zb,if_pos rfl,Za x1,Za e1]
  rfl
theorem Zt5 : R (n+4) WV [strv s,strv [c]] H=some (iv (Go.Lib.indexByte s c),H):=by
 have e1 : run Tryz.prog np lvs (n+3) Jd [strv s,strv [c]] H=_:=Zo1
 rw [R,Zlw rfl]
 unfold Zec
 rw [Za e1]
 rfl
theorem ZuX : R (n+2) Zbc [strv s,strv [c]] H=some (iv (s.count c),H):=by
 have e0 : run Tryz.prog np lvs (n+1) YX [strv s,u8v c] H=some (iv (s.count c),H):=by rw [ZvG];exact Zww
 have q0 : bop .int .eql (iv [c].length) (.int .i64 0) H=some (.bool false,H):=by rw [ZB];rfl
 have q1 : bop .int .eql (iv [c].length) (.int .i64 1) H=some (.bool true,H):=by rw [ZB];rfl
 have x1 : ixs (strv [c]) (.int .i64 0) H=some (u8v c,H):=ZbZ (s:=[c]) (i:=0) rfl .i64 H
 rw [R,Zk1 rfl]
 unfold Zbb
 rw [Za ZH,Za q0,Zb,if_neg (by simp),Za ZH,Za q1,Zb,if_pos rfl,Za x1,Za e0]
 rfl
theorem ZmR {s : List UInt8} {c : UInt8} (h : c∈s) : (s.takeWhile (· !=c)).length < s.length:=by
 rcases Nat.lt_or_ge (s.takeWhile (· !=c)).length s.length with h1 | h1
 ·exact h1
 ·have h2 : s.takeWhile (· !=c)=s:=by
   have:=List.takeWhile_prefix (p:=(· !=c)) (l:=s)
   exact this.eq_of_length (by have:=this.length_le;omega)
  have h3:=List.all_eq_true.1 (List.all_takeWhile (p:=(· !=c)) (l:=s)) c (by rw [h2];exact h)
  simp at h3
theorem Znl {s : List UInt8} {p : UInt8→Bool} : s.take (s.takeWhile p).length=s.takeWhile p:=
 (List.prefix_iff_eq_take.1 (List.takeWhile_prefix p)).symm
theorem ZwM (hs : s.length≤1000000) : R (n+5) Zaf [strv s,strv [c]] H=some (if c∈s then .tuple #[strv (s.takeWhile (· !=c)),strv (s.drop ((s.takeWhile (· !=c)).length+1)),.bool true] else .tuple #[strv s,strv [],.bool false],H):=by
 have e1 : run Tryz.prog np lvs (n+3) Jd [strv s,strv [c]] H=_:=Zo1
 have e2 : run Tryz.prog np lvs (n+4) KF [strv s,strv [c]] H=some (if c∈s then .tuple #[strv (s.takeWhile (· !=c)),strv (s.drop ((s.takeWhile (· !=c)).length+1)),.bool true] else .tuple #[strv s,strv [],.bool false],H):=by
  rw [ZeY rfl]
  unfold W6
  rw [Za e1,Zea,Za Z8,Zb]
  by_cases h : c∈s
  ·have hl:=ZmR h
   have w : IntKind.i64.wrap (((s.takeWhile (· !=c)).length : Int)+(([c] : List UInt8).length : Nat))=(((s.takeWhile (· !=c)).length+1 : Nat) : Int):=Qu (by omega)
   rw [if_pos h,if_pos (by simp),Za (Zl9 (by omega)),Znl,Za ZH,Za Zy,w,Za (ZuJ (by omega)),if_pos h]
   rfl
  ·rw [if_neg h,if_neg (by decide),if_neg h]
   rfl
 rw [R,ZnA rfl]
 unfold ZfU
 rw [Za e2]
 by_cases h : c∈s
 ·rw [if_pos h];rfl
 ·rw [if_neg h];rfl
theorem Zp5 {v : Value} {q : List Nat} {N : Nat} (hN : N≤1000001) : ∀ (t i : Nat) (s : List UInt8) (cs : List (List UInt8)) (X : Zc),N - 1 - i=t→i < N→s.length≤1000000→s.count c+1+i=N→cs.length=N→Zx X v (cs.map strv) q→
  ∃ (X' : Zc) (s' : List UInt8) (cs' : List (List UInt8)),Zi (c6 (J6.l1 (R (n+4)))) [strv s,strv [c],iv 0,iv ((N - 1 : Nat) : Int),v,iv i] X=some (.ext 0 [strv s',v,iv ((N - 1 : Nat) : Int)],X')∧Zx X' v (cs'.map strv) q∧cs'.length=N∧cs'.take (N - 1)++[s']=cs.take i++Qr c s∧ZJ q X q X'
 | 0,i,s,cs,X,ht,hi,hs,hc,hl,hr=>by
  have hi2 : i=N - 1:=by omega
  subst hi2
  have hcs : c∉s:=by
   intro h
   have:=List.count_pos_iff.2 h
   omega
  refine ⟨X,s,cs,Z7 ?_,hr,hl,by rw [ZmT hcs],.refl _ _⟩
  rw [Ji]
  unfold J6.l1
  rw [Za Zo,Zb,if_neg (by simp)]
  rfl
 | t+1,i,s,cs,X,ht,hi,hs,hc,hl,hr=>by
  have hlt : (i : Int) < ((N - 1 : Nat) : Int):=by omega
  have hcs : c∈s:=List.count_pos_iff.1 (by omega)
  have htl:=ZmR hcs
  have hct:=ZtO hcs
  have e1 : R (n+4) WV [strv s,strv [c]] X=_:=Zt5
  rw [Zea,if_pos hcs] at e1
  have w0 : IntKind.i64.wrap (((s.takeWhile (· !=c)).length : Int)+0)=((s.takeWhile (· !=c)).length : Int):=by rw [Int.add_zero];exact w64 (by omega) (by omega)
  have w : IntKind.i64.wrap (((s.takeWhile (· !=c)).length : Int)+(([c] : List UInt8).length : Nat))=(((s.takeWhile (· !=c)).length+1 : Nat) : Int):=Qu (by omega)
  have x1:=hr.ix (i:=i) (by simp;omega) .i64 X
  obtain ⟨X1,x2,r1,s1,_⟩:=hr.stx (i:=i) (u:=strv (s.takeWhile (· !=c))) (by simp;omega) rfl
  rw [show (cs.map strv).set i (strv (s.takeWhile (· !=c)))=(cs.set i (s.takeWhile (· !=c))).map strv from by rw [List.map_set]] at r1
  obtain ⟨X',s',cs',e2,r2,l2,h2,s2⟩:=Zp5 hN t (i+1) (s.drop ((s.takeWhile (· !=c)).length+1)) (cs.set i (s.takeWhile (· !=c))) X1 (by omega) (by omega) (by simp;omega) (by omega) (by simpa using hl) r1
  refine ⟨X',s',cs',(ZI ?_).trans e2,r2,l2,?_,s1.trans s2⟩
  ·have q1 : bop .int .lss (iv ((s.takeWhile (· !=c)).length : Nat)) (.int .i64 0) X=some (.bool false,X):=by rw [Zo,decide_eq_false (by omega)]
   rw [Ji]
   unfold J6.l1
   rw [Za Zo,Zb,if_pos (by simpa using hlt),Za e1,Za q1,Zb,if_neg (by simp),Za Zy,w0,Za (Zl9 (by omega)),Znl,Za x1,Za x2,Za ZH,Za Zy,w,Za (ZuJ (by omega)),Za Zy,Qu (by omega)]
   rfl
  ·have h5 : i < (cs.set i (s.takeWhile (· !=c))).length:=by simp;omega
   rw [h2,ZiA hcs,List.take_succ_eq_append_getElem h5,List.take_set_of_le (Nat.le_refl _)]
   simp
theorem Zvh (hs : s.length≤1000000) : ∃ X' v q,R (n+6) Za7 [strv s,strv [c]] X=some (v,X')∧Zx X' v ((Qr c s).map strv) q∧HLe X X':=by
 have hcl : s.count c≤s.length:=List.count_le_length
 have e0 : run Tryz.prog np lvs (n+4) Zbc [strv s,strv [c]] X=_:=ZuX (n:=n+2)
 have w1 : IntKind.i64.wrap ((s.count c : Int)+1)=((s.count c+1 : Nat) : Int):=Qu (by omega)
 have w2 : IntKind.i64.wrap ((s.length : Int)+1)=((s.length+1 : Nat) : Int):=Qu (by omega)
 have q0 : bop .int .eql (.int .i64 (-1)) (.int .i64 0) X=some (.bool false,X):=by rw [ZB];rfl
 have q1 : bop .str .eql (strv [c]) (.string ⟨#[]⟩) X=some (.bool false,X):=Zb2 (b:=[])
 have q2 : bop .int .lss (.int .i64 (-1)) (.int .i64 0) X=some (.bool true,X):=by rw [Zo];rfl
 have hm : mxi false (iv ((s.count c+1 : Nat) : Int)) (iv ((s.length+1 : Nat) : Int)) X=some (iv ((s.count c+1 : Nat) : Int),X):=by rw [Yj,if_neg (by omega)]
 have e1:=ZwV (k:=s.count c+1) (b:=16) (z:=.string ⟨#[]⟩) (H:=X) rfl (by omega) (by omega)
 have k1 : HLe X (X++[.cells (List.replicate (s.count c+1) (Value.string ⟨#[]⟩)) 1 false false]):=.app _ _
 have r1 : Zx (X++[.cells (List.replicate (s.count c+1) (Value.string ⟨#[]⟩)) 1 false false]) (.slice (some ⟨X.length,0,none⟩) (s.count c+1) (s.count c+1)) ((List.replicate (s.count c+1) ([] : List UInt8)).map strv) [X.length]:=by
  rw [List.map_replicate]
  exact Zx.new ZD
 have ho : ∀ j∈[X.length],X.length≤j:=by simp
 generalize X++[Ze.cells (List.replicate (s.count c+1) (Value.string ⟨#[]⟩)) 1 false false]=X1 at e1 k1 r1
 generalize hv : Value.slice (some ⟨X.length,0,none⟩) (s.count c+1) (s.count c+1)=v at e1 r1
 have w3 : IntKind.i64.wrap (((s.count c+1 : Nat) : Int) - 1)=((s.count c+1 - 1 : Nat) : Int):=ZrM (by omega) (by omega)
 obtain ⟨X2,s',cs',e2,r2,l2,h2,s2⟩:=Zp5 (n:=n) (c:=c) (N:=s.count c+1) (by omega) (s.count c+1 - 1 - 0) 0 s _ X1 rfl (by omega) hs (by omega) (by simp) r1
 have e2 : Zi (c6 (J6.l1 (R (n+4)))) [strv s,strv [c],.int .i64 0,iv ((s.count c+1 - 1 : Nat) : Int),v,.int .i64 0] X1=_:=e2
 have x1:=r2.ix (i:=s.count c+1 - 1) (by simp;omega) .i64 X2
 obtain ⟨X3,x2,r3,s3,_⟩:=r2.stx (i:=s.count c+1 - 1) (u:=strv s') (by simp;omega) rfl
 have hfin : (cs'.set (s.count c+1 - 1) s')=Qr c s:=by
  have h6 : s.count c+1 - 1 < cs'.length:=by omega
  rw [← List.take_append_drop (s.count c+1 - 1) (cs'.set (s.count c+1 - 1) s'),List.take_set_of_le (Nat.le_refl _),List.drop_set]
  rw [if_neg (by omega),Nat.sub_self]
  have hd : (cs'.drop (s.count c+1 - 1)).length=1:=by simp;omega
  obtain ⟨a,ha⟩:=List.length_eq_one_iff.1 hd
  rw [ha,List.set_cons_zero,h2]
  rfl
 rw [show (cs'.map strv).set (s.count c+1 - 1) (strv s')=(cs'.set (s.count c+1 - 1) s').map strv from by rw [List.map_set],hfin] at r3
 have hlen : ((Qr c s).map strv).length=s.count c+1:=by rw [List.length_map,ZdK]
 have x3 : ∃ v',slv 1 v none (some (iv ((s.count c+1 : Nat) : Int))) none X3=some (v',X3)∧Zx X3 v' ((Qr c s).map strv) [X.length]:=by
  rcases r3 with ⟨h,_,_⟩ | ⟨sid,rest,g,h1,h3,h4⟩
  ·rw [h] at hlen;simp at hlen
  ·rw [hlen] at h1
   refine ⟨.slice (some ⟨sid,0,none⟩) (s.count c+1) (s.count c+1+rest.length),?_,.inr ⟨sid,rest,g,by rw [hlen],h3,h4⟩⟩
   have b1 : bnd (some (iv ((s.count c+1 : Nat) : Int))) (s.count c+1)=some (s.count c+1):=by simp [bnd];omega
   have b2 : ∀ d,bnd none d=some d:=fun _=>rfl
   rw [h1]
   simp only [slv,h4,b1,b2]
   rw [if_pos ⟨trivial,by omega,by omega,Nat.le_refl _⟩,if_neg (by omega)]
   simp
 obtain ⟨v',x3,r4⟩:=x3
 have w4 : IntKind.i64.wrap (((s.count c+1 - 1 : Nat) : Int)+1)=((s.count c+1 : Nat) : Int):=by rw [Qu (by omega)];congr 1
 have e3 : run Tryz.prog np lvs (n+5) Za4 [strv s,strv [c],.int .i64 0,.int .i64 (-1)] X=some (v',X3):=by
  rw [Ziq rfl]
  unfold J6
  rw [Za q0,Zb,if_neg (by simp),Za q1,Zb,if_neg (by simp),Za q2]
  refine (ZV (vs:=[strv s,strv [c],.int .i64 0,iv ((s.count c+1 : Nat) : Int)]) (H':=X) ?_).trans ?_
  ·rw [Zb,if_pos rfl,Za e0,Za Zy,w1];rfl
  ·rw [ZK,Za ZH,Za Zy,w2,Za hm,Za e1,Za QZ,w3]
   refine (ZV (vs:=[strv s',v,iv ((s.count c+1 - 1 : Nat) : Int)]) (H':=X2) ?_).trans ?_
   ·rw [QN e2,ZM,Z4];rfl
   ·rw [Z4,Za x1,Za x2,Za Zy,w4,Za x3];rfl
 refine ⟨X3,v',[X.length],?_,r4,(k1.more (s2.trans s3) ho).1⟩
 rw [R,Zlb rfl]
 unfold Zeg
 rw [Za e3]
 rfl
end
end Go.Proofs.YtnnehafmjfmbnaaGreatDoor.A
namespace Go.Proofs.YtnnehafmjfmbnaaGreatDoor.A
set_option linter.unusedVariables false
set_option linter.unusedSimpArgs false
open Go.Proofs Go.Proofs.YtnnehafmjfmbnaaGreatDoor
section
variable {H X : Zc} {n : Nat} {s f : List UInt8} {c : UInt8}
theorem ZvT {b : UInt8} : R (n+2) ZcO [u8v b] H=some (.bool (Wh b),H):=by
 have e1 : run Tryz.prog np lvs (n+1) YM [u8v b] H=some (.bool (KN b),H):=ZhI
 have e2 : run Tryz.prog np lvs (n+1) Ke [u8v b] H=some (.bool (Zcn b),H):=ZjX
 rw [R,Zow rfl]
 unfold Wh Zgu
 rw [Za e1]
 cases KN b
 ·rw [Z0,Zl,Za e2,Qm,Qt,Za Zm]
  rfl
 ·rw [Za (g_r.trans (if_neg (by simp)))]
  simp only [List.replicate]
  rw [Qt,Za Zm]
  rfl
theorem Zr2 (hs : s.length≤1000000000) : R (n+3) Y8 [strv s,.func (.func ZcO) #[] #[]] H=some (.bool (s.all Wh),H):=
 Zsj (fun b H=>by rw [Zqj];exact ZvT) hs
theorem Zs0 {v : Value} {q : List Nat} {ls : List (List UInt8)} (hl : ls.length≤1000) (hb : ∀ l∈ls,l.length≤1000000) (hr : Zx X v (ls.map strv) q) : ∀ (t k : Nat),ls.length - k=t→k≤ls.length→
  Zi (c4 (Kk.l1 (R (n+3)))) [strv f,v,iv ls.length,iv k] X=some (if (ls.drop k).all ZgK then .ext 0 [strv f] else .ret (.tuple #[strv [],iv 11]),X)
 | 0,k,ht,hk=>by
  have : k=ls.length:=by omega
  subst this
  rw [List.drop_length]
  refine Z7 ?_
  rw [ZK]
  unfold Kk.l1
  rw [Za Zo,Zb,if_neg (by simp)]
  rfl
 | t+1,k,ht,hk=>by
  have hkl : k < ls.length:=by omega
  have hlt : (k : Int) < ls.length:=by omega
  have hg:=List.getElem?_eq_getElem hkl
  have hm:=List.getElem_mem hkl
  have hd:=List.drop_eq_getElem_cons hkl
  generalize ls[k]=l at hg hd hm
  have x1:=hr.ix (i:=k) (by simpa using hkl) .i64 X
  have x2:=hr.ldx (KW hg)
  have e1 : R (n+3) Y8 [strv l,.func (.func ZcO) #[] #[]] X=some (.bool (l.all Wh),X):=Zr2 (Nat.le_trans (hb l hm) (by decide))
  have ih:=Zs0 hl hb hr t (k+1) (by omega) (by omega)
  have q1 : bop .str .eql (strv l) (.string ⟨#[]⟩) X=some (.bool (l==[]),X):=Zb2 (b:=[])
  have hb1 : c4 (Kk.l1 (R (n+3))) [strv f,v,iv ls.length,iv k] X=some (if ZgK l then .nrm [strv f,v,iv ls.length,iv ((k+1 : Nat) : Int)] else .ret (.tuple #[strv [],iv 11]),X):=by
   rw [ZK]
   unfold Kk.l1 ZgK
   rw [Za Zo,Zb,if_pos (by simpa using hlt),Za x1,Za x2,Za q1]
   cases l==[]
   ·rw [Z0,Zl,Za e1,Zl,Za Zv,Qm,Z4,Za Zm]
    simp only [cond_false]
    cases l.all Wh
    ·rw [Zb,if_pos (by rfl)];rfl
    ·rw [Zb,if_neg (by simp),Za Zy,Qu (by omega)];rfl
   ·rw [Za (g_r.trans (if_neg (by simp)))]
    simp only [List.replicate]
    rw [Z4,Za Zm]
    simp only [cond_true]
    rw [Zb,if_pos rfl]
    rfl
  rw [hd,List.all_cons]
  cases hlb : ZgK l
  ·rw [hlb] at hb1
   exact Yz hb1
  ·rw [hlb] at hb1
   rw [Bool.true_and]
   exact (ZI hb1).trans ih
theorem Zeq {c : UInt8} : ∀ {s : List UInt8},∀ l∈Qr c s,l.length≤s.length
 | [],l,h=>by simp [Qr] at h;simp [h]
 | b :: s,l,h=>by
  rw [show Qr c (b :: s)=(if b=c then [] :: Qr c s else match Qr c s with | h :: t=>(b :: h) :: t | []=>[[b]]) from rfl] at h
  split at h
  ·rcases List.mem_cons.1 h with rfl | h
   ·simp
   ·have:=Zeq l h
    simp;omega
  ·cases hsp : Qr c s with
   | nil=>exact absurd hsp ZeI
   | cons a t=>
    rw [hsp] at h
    rcases List.mem_cons.1 h with rfl | h
    ·have:=Zeq (c:=c) (s:=s) a (by rw [hsp];simp)
     simpa using this
    ·have:=Zeq (c:=c) (s:=s) l (by rw [hsp];simp [h])
     simp;omega
theorem ZjC : (ZY s).length=s.length:=by simp [ZY]
theorem ZpU : ∃ X',R (n+8) ZaI [strv s] X=some (.tuple #[strv (if QB s then ZY s else []),iv (if QB s then 0 else 11)],X')∧HLe X X':=by
 have f1 : ∀ r X',Kk (R (n+7)) (strv s) X=some (r,X')→R (n+8) ZaI [strv s] X=some (r,X'):=fun r X' hr=>by rw [R,Zqs rfl];exact hr
 unfold QB
 by_cases h20 : s.length≤20
 ·have q1 : bop .int .gtr (iv s.length) (.int .i64 20) X=some (.bool false,X):=by rw [Ql,decide_eq_false (by omega)]
  obtain ⟨X1,e1,k1⟩:=Zwl (n:=n+6) (s:=s) (H:=X) (by omega)
  have e1 : R (n+7) ZdG [strv s] X=_:=e1
  have hfl : (ZY s).length≤20:=by rw [ZjC];exact h20
  generalize ZY s=f at e1 hfl
  have e2 : R (n+7) Zaf [strv f,strv [64]] X1=_:=ZwM (n:=n+2) (c:=64) (by omega)
  obtain ⟨loc,e2'⟩ : ∃ loc : List UInt8,R (n+7) Zaf [strv f,strv [64]] X1=some (.tuple #[strv loc,strv (Wv f),.bool (decide (64∈f))],X1)∧(64∈f→loc=f.takeWhile (· !=64)):=by
   unfold Wv
   by_cases h : 64∈f
   ·rw [if_pos h] at e2
    exact ⟨_,by rw [e2,if_pos h,decide_eq_true h],fun _=>rfl⟩
   ·rw [if_neg h] at e2
    exact ⟨_,by rw [e2,if_neg h,decide_eq_false h],fun h2=>absurd h2 h⟩
  obtain ⟨e2',hloc⟩:=e2'
  have hdl : (Wv f).length≤20:=by unfold Wv;split <;> simp;omega
  obtain ⟨X2,v,q,e3,r3,k3⟩:=Zvh (n:=n+1) (c:=46) (s:=Wv f) (X:=X1) (by omega)
  have e3 : R (n+7) Za7 [strv (Wv f),.string ⟨#[46]⟩] X1=_:=e3
  have e2'' : R (n+7) Zaf [strv f,.string ⟨#[64]⟩] X1=_:=e2'
  have hcl : (Wv f).count 46≤(Wv f).length:=List.count_le_length
  have hsl:=ZdK (c:=46) (s:=Wv f)
  have hl : ZF v X2=some (iv (Qr 46 (Wv f)).length,X2):=by have:=r3.rd.len (H':=X2);rwa [List.length_map] at this
  have e4 : R (n+7) Zab [strv loc] X2=some (.bool (Zs loc),X2):=ZnR (n:=n+3)
  have e5:=Zs0 (n:=n+4) (f:=f) (ls:=Qr 46 (Wv f)) (by omega) (fun l h=>Nat.le_trans (Zeq l h) (by omega)) r3 (Qr 46 (Wv f)).length 0 (by omega) (by omega)
  rw [List.drop_zero] at e5
  have e5 : Zi (c4 (Kk.l1 (R (n+7)))) [strv f,v,iv (Qr 46 (Wv f)).length,.int .i64 0] X2=_:=e5
  refine ⟨X2,f1 _ _ ?_,k1.trans k3⟩
  unfold Kk
  rw [Za ZH,Za q1,Zb,if_neg (by simp),Za e1,Za e2'']
  have t0 : Zh (.tuple #[strv loc,strv (Wv f),.bool (decide (64∈f))]) 0 X1=some (strv loc,X1):=rfl
  have t1 : Zh (.tuple #[strv loc,strv (Wv f),.bool (decide (64∈f))]) 1 X1=some (strv (Wv f),X1):=rfl
  have t2 : Zh (.tuple #[strv loc,strv (Wv f),.bool (decide (64∈f))]) 2 X1=some (.bool (decide (64∈f)),X1):=rfl
  rw [Za t0,Za t1,Za t2,Za e3,Za Zv]
  unfold okM
  rw [decide_eq_true h20]
  by_cases h : 64∈f
  ·rw [decide_eq_true h,← hloc h]
   simp only [Bool.not_true,Bool.true_and]
   rw [Z0,Zl,Za e4,Zl,Za Zv,Qm,Z4,Za Zm]
   simp only [cond_false]
   cases Zs loc
   ·simp only [Bool.not_false,Bool.false_and]
    rw [Za (g_r.trans (if_neg (by simp)))]
    simp only [List.replicate]
    rw [Z4,Za Zm]
    simp only [cond_true]
    rw [Zb,if_pos rfl]
    rfl
   ·simp only [Bool.not_true,Bool.true_and]
    rw [Z0,Zl,Za hl,Zl,Za Zo,Qm,Z4,Za Zm]
    simp only [cond_false]
    by_cases h2 : 2≤(Qr 46 (Wv f)).length
    ·rw [decide_eq_false (by omega),Zb,if_neg (by simp),Za hl,decide_eq_true h2,Bool.true_and]
     cases ha : (Qr 46 (Wv f)).all ZgK
     ·rw [ha] at e5
      rw [Ku e5]
      rfl
     ·rw [ha] at e5
      rw [QN e5,ZM]
      rfl
    ·rw [decide_eq_true (by omega),Zb,if_pos rfl,decide_eq_false h2]
     rfl
  ·rw [decide_eq_false h]
   simp only [Bool.not_false,Bool.false_and,Bool.and_false]
   rw [Za (g_r.trans (if_neg (by simp)))]
   simp only [List.replicate]
   rw [Z4,Za Zm]
   simp only [cond_true]
   rw [Za (g_r.trans (if_neg (by simp)))]
   simp only [List.replicate]
   rw [Z4,Za Zm]
   simp only [cond_true]
   rw [Zb,if_pos rfl]
   rfl
 ·have q1 : bop .int .gtr (iv s.length) (.int .i64 20) X=some (.bool true,X):=by rw [Ql,decide_eq_true (by omega)]
  refine ⟨X,f1 _ _ ?_,.refl _⟩
  unfold Kk
  rw [Za ZH,Za q1,Zb,if_pos rfl,decide_eq_false h20]
  rfl
theorem ZwT {i : Nat} (hi : i < (f.takeWhile (· !=c)).length) : ∃ x,f[i]?=some x∧x≠c:=by
 have h1 : (f.takeWhile (· !=c))[i]?=f[i]?:=by
  conv=>rhs;rw [← List.takeWhile_append_dropWhile (p:=(· !=c)) (l:=f)]
  rw [List.getElem?_append_left hi]
 have h2:=List.getElem?_eq_getElem hi
 have hm:=List.getElem_mem hi
 generalize (f.takeWhile (· !=c))[i]=x at h2 hm
 refine ⟨x,by rw [← h1,h2],?_⟩
 have:=List.all_eq_true.1 (List.all_takeWhile (p:=(· !=c)) (l:=f)) x hm
 simpa using this
theorem Ztm : ∀ {f : List UInt8},c∈f→f[(f.takeWhile (· !=c)).length]?=some c
 | [],h=>by cases h
 | b :: f,h=>by
  by_cases hb : b=c
  ·subst hb;simp
  ·have hm : c∈f:=by
    rcases List.mem_cons.1 h with h | h
    ·exact absurd h.symm hb
    ·exact h
   have ih:=Ztm hm
   have h2 : (b !=c)=true:=by simp [hb]
   rw [List.takeWhile_cons,h2]
   simpa using ih
theorem Zqk : ∀ {f : List UInt8},c∉f→(f.takeWhile (· !=c)).length=f.length
 | [],_=>rfl
 | b :: f,h=>by
  simp only [List.mem_cons,not_or] at h
  have h2 : (b !=c)=true:=by simp [Ne.symm h.1]
  rw [List.takeWhile_cons,h2]
  simpa using Zqk h.2
theorem ZuL (hf : f.length≤1000000) : ∀ (t k : Nat),(f.takeWhile (· !=64)).length - k=t→k≤(f.takeWhile (· !=64)).length→
  Zi (c2 (Q0.l1 (R n))) [strv f,iv k] X=some (.ext 0 [strv f,iv (f.takeWhile (· !=64)).length],X)
 | 0,k,ht,hk=>by
  have : k=(f.takeWhile (· !=64)).length:=by omega
  subst this
  refine Z7 ?_
  rw [Qt]
  unfold Q0.l1
  rw [Za ZH,Za Zo]
  by_cases h : 64∈f
  ·have hl:=ZmR h
   have x1:=ZbZ (Ztm h) .i64 X
   have q1 : bop .int .neq (u8v 64) (.int .u8 64) X=some (.bool false,X):=by rw [Zt];rfl
   rw [decide_eq_true (by omega),Z0,Zl,Za x1,Zl,Za q1,Qm,ZK,Za Zm]
   simp only [cond_true]
   rw [Zb,if_neg (by simp)]
   rfl
  ·have hl:=Zqk h
   rw [decide_eq_false (by omega),Za (g_r.trans (if_neg (by simp)))]
   simp only [List.replicate]
   rw [ZK,Za Zm]
   simp only [cond_false]
   rw [Zb,if_neg (by simp)]
   rfl
 | t+1,k,ht,hk=>by
  have hkt : k < (f.takeWhile (· !=64)).length:=by omega
  have hle : (f.takeWhile (· !=64)).length≤f.length:=(List.takeWhile_prefix _).length_le
  obtain ⟨x,hx,hne⟩:=ZwT hkt
  have x1:=ZbZ hx .i64 X
  have q1 : bop .int .neq (u8v x) (.int .u8 64) X=some (.bool true,X):=by
   have:=Zha (a:=x) (b:=64)
   have h2 : (x==64)=false:=beq_eq_false_iff_ne.2 hne
   rw [h2] at this
   rw [Zt]
   have h3 : ((x.toNat : Int)==64)=false:=this
   simp only [bne,h3];rfl
  refine (ZI ?_).trans (ZuL hf t (k+1) (by omega) (by omega))
  rw [Qt]
  unfold Q0.l1
  rw [Za ZH,Za Zo,decide_eq_true (by omega),Z0,Zl,Za x1,Zl,Za q1,Qm,ZK,Za Zm]
  simp only [cond_true]
  rw [Zb,if_pos rfl,Za Zy,Qu (by omega)]
  rfl
theorem Znw (hf : f.length≤1000000) : ∀ (t k st lg : Nat),f.length - k=t→k≤f.length→st≤k→lg≤k→
  Zi (c4 (Q0.l2 (R (n+1)))) [strv f,iv st,iv lg,iv k] X=some (match Zbz (f.drop k) st lg with | some (a,b)=>.ext 2 [strv f,iv a,iv b] | none=>.ret (.tuple #[strv [],.bool false]),X)
 | 0,k,st,lg,ht,hk,h1,h2=>by
  have : k=f.length:=by omega
  subst this
  rw [List.drop_length]
  refine Z7 ?_
  rw [ZK]
  unfold Q0.l2
  rw [Za ZH,Za Zo,Zb,if_neg (by simp)]
  rfl
 | t+1,k,st,lg,ht,hk,h1,h2=>by
  have hkl : k < f.length:=by omega
  have hlt : (k : Int) < f.length:=by omega
  have hg:=List.getElem?_eq_getElem hkl
  have hd:=List.drop_eq_getElem_cons hkl
  generalize f[k]=x at hg hd
  have x1:=ZbZ hg .i64 X
  have q1 : bop .int .eql (u8v x) (.int .u8 46) X=some (.bool (x==46),X):=by
   rw [ZB]
   congr 2
   exact congrArg Value.bool (Zha (a:=x) (b:=46))
  have e1 : R (n+1) WL [u8v x,.string ⟨#[97,98,99,100,101,102,103,104,105,106,107,108,109,110,111,112,113,114,115,116,117,118,119,120,121,122,48,49,50,51,52,53,54,55,56,57]⟩] X=some (.bool (Wh x),X):=by
   rw [← Zpz]
   exact Zsi (t:=ZpP) (by decide)
  rw [hd]
  by_cases hx : x=46
  ·subst hx
   by_cases hl : lg=0
   ·subst hl
    refine (Yz (v:=.tuple #[strv [],.bool false]) (H':=X) ?_).trans (by simp [Zbz])
    rw [ZK]
    unfold Q0.l2
    rw [Za ZH,Za Zo,Zb,if_pos (by simpa using hlt),Za x1,Za q1]
    refine (Ku (v:=.tuple #[strv [],.bool false]) (H':=X) ?_).trans rfl
    rw [Zb,if_pos (by simp),Za ZB,Zb,if_pos (by rfl)]
    rfl
   ·have hs : Zbz (46 :: f.drop (k+1)) st lg=Zbz (f.drop (k+1)) (st+1) 0:=by simp [Zbz,hl]
    rw [hs]
    refine (ZI ?_).trans (Znw hf t (k+1) (st+1) 0 (by omega) (by omega) (by omega) (by omega))
    rw [ZK]
    unfold Q0.l2
    rw [Za ZH,Za Zo,Zb,if_pos (by simpa using hlt),Za x1,Za q1]
    refine (ZV (vs:=[strv f,iv ((st+1 : Nat) : Int),iv (0 : Nat),iv k]) (H':=X) ?_).trans ?_
    ·rw [Zb,if_pos (by simp),Za ZB,Zb,if_neg (by simp;omega),Za Zy,Qu (by omega)];rfl
    ·rw [ZK,Za Zy,Qu (by omega)];rfl
  ·have hxf : (x==46)=false:=beq_eq_false_iff_ne.2 hx
   rw [hxf] at q1
   cases ha : Wh x
   ·rw [ha] at e1
    refine (Yz (v:=.tuple #[strv [],.bool false]) (H':=X) ?_).trans (by simp [Zbz,hx,ha])
    rw [ZK]
    unfold Q0.l2
    rw [Za ZH,Za Zo,Zb,if_pos (by simpa using hlt),Za x1,Za q1]
    refine (Ku (v:=.tuple #[strv [],.bool false]) (H':=X) ?_).trans rfl
    rw [Zb,if_neg (by simp),Za x1,Za e1,Za Zv,Zb,if_pos (by rfl)]
    rfl
   ·rw [ha] at e1
    have hs : Zbz (x :: f.drop (k+1)) st lg=Zbz (f.drop (k+1)) st (lg+1):=by simp [Zbz,hx,ha]
    rw [hs]
    refine (ZI ?_).trans (Znw hf t (k+1) st (lg+1) (by omega) (by omega) (by omega) (by omega))
    rw [ZK]
    unfold Q0.l2
    rw [Za ZH,Za Zo,Zb,if_pos (by simpa using hlt),Za x1,Za q1]
    refine (ZV (vs:=[strv f,iv st,iv ((lg+1 : Nat) : Int),iv k]) (H':=X) ?_).trans ?_
    ·rw [Zb,if_neg (by simp),Za x1,Za e1,Za Zv,Zb,if_neg (by simp),Za Zy,Qu (by omega)];rfl
    ·rw [ZK,Za Zy,Qu (by omega)];rfl
theorem Zoe : R (n+4) Kv [strv s] X=some (.tuple #[strv (if QB s then ZY s else []),.bool (QB s)],X):=by
 have f1 : ∀ r,Q0 (R (n+3)) (strv s) X=r→R (n+4) Kv [strv s] X=r:=fun r hr=>by rw [R,Zoy rfl];exact hr
 refine f1 _ ?_
 unfold QB Q0
 by_cases h20 : s.length≤20
 ·have q1 : bop .int .gtr (iv s.length) (.int .i64 20) X=some (.bool false,X):=by rw [Ql,decide_eq_false (by omega)]
  have e1 : R (n+3) ZcJ [strv s] X=some (strv (ZY s),X):=ZtC (n:=n+2) (by omega)
  have hfl : (ZY s).length≤20:=by rw [ZjC];exact h20
  generalize ZY s=f at e1 hfl
  have e2:=ZuL (n:=n+3) (X:=X) (f:=f) (by omega) (f.takeWhile (· !=64)).length 0 (by omega) (by omega)
  have e2 : Zi (c2 (Q0.l1 (R (n+3)))) [strv f,.int .i64 0] X=_:=e2
  have hle : (f.takeWhile (· !=64)).length≤f.length:=(List.takeWhile_prefix _).length_le
  rw [Za ZH,Za q1,Zb,if_neg (by simp),Za e1,QN e2,ZM,Qt,Za ZH,Za ZB,decide_eq_true h20]
  unfold okM
  by_cases h : 64∈f
  ·have hl:=ZmR h
   have hne : (((f.takeWhile (· !=64)).length : Int)==(f.length : Int))=false:=by rw [beq_eq_false_iff_ne];omega
   have e3 : R (n+3) Qq [strv (f.takeWhile (· !=64))] X=some (.bool (Zs (f.takeWhile (· !=64))),X):=ZaG
   rw [hne,Z0,Zl,Za (Zl9 (by omega)),Znl,Zl,Za e3,Zl,Za Zv,Qm,Qk,Za Zm,decide_eq_true h]
   simp only [cond_false,Bool.true_and]
   cases Zs (f.takeWhile (· !=64))
   ·rw [Zb,if_pos (by rfl)];rfl
   ·have hdm : Wv f=f.drop ((f.takeWhile (· !=64)).length+1):=by unfold Wv;rw [if_pos h]
    have e4:=Znw (n:=n+2) (X:=X) (f:=f) (by omega) (f.length - ((f.takeWhile (· !=64)).length+1)) ((f.takeWhile (· !=64)).length+1) 0 0 rfl (by omega) (by omega) (by omega)
    have e4 : Zi (c4 (Q0.l2 (R (n+3)))) [strv f,.int .i64 0,.int .i64 0,iv (((f.takeWhile (· !=64)).length+1 : Nat) : Int)] X=_:=e4
    rw [← hdm] at e4
    rw [Zb,if_neg (by simp),Za Zy,Qu (by omega),Bool.true_and,← Zut]
    unfold ZfX
    cases hsc : Zbz (Wv f) 0 0 with
    | none=>
     rw [hsc] at e4
     rw [Ku e4]
     rfl
    | some p=>
     obtain ⟨a,b⟩:=p
     rw [hsc] at e4
     rw [QN e4,ZM,Z4,Za ZB]
     by_cases ha : a=0
     ·subst ha
      have q2 : (((0 : Nat) : Int)==0)=true:=rfl
      rw [q2,Za (g_r.trans (if_neg (by simp)))]
      simp only [List.replicate]
      rw [Qt,Za Zm]
      simp only [cond_true]
      rw [Zb,if_pos rfl]
      rfl
     ·have q2 : (((a : Nat) : Int)==0)=false:=by rw [beq_eq_false_iff_ne];omega
      rw [q2,Z0,Zl,Za ZB,Qm,Qt,Za Zm]
      simp only [cond_false]
      by_cases hb : b=0
      ·subst hb
       rw [Zb,if_pos (by rfl)]
       simp [ret]
       rfl
      ·have q3 : (((b : Nat) : Int)==0)=false:=by rw [beq_eq_false_iff_ne];omega
       rw [q3,Zb,if_neg (by simp)]
       simp [ret,ha,hb]
  ·have hl:=Zqk h
   have hne : (((f.takeWhile (· !=64)).length : Int)==(f.length : Int))=true:=by rw [hl];simp
   rw [hne,Za (g_r.trans (if_neg (by simp))),decide_eq_false h]
   simp only [List.replicate]
   rw [Qk,Za Zm]
   simp only [cond_true]
   rw [Zb,if_pos rfl]
   rfl
 ·have q1 : bop .int .gtr (iv s.length) (.int .i64 20) X=some (.bool true,X):=by rw [Ql,decide_eq_true (by omega)]
  rw [Za ZH,Za q1,Zb,if_pos rfl,decide_eq_false h20]
  rfl
end
end Go.Proofs.YtnnehafmjfmbnaaGreatDoor.A

namespace Go.Proofs.YtnnehafmjfmbnaaGreatDoor.A
set_option linter.unusedVariables false
set_option linter.unusedSimpArgs false
structure Wn {α : Type} (enc : α→Value) (H : Zc) (id : Nat) (m : List (List UInt8 × α)) : Prop where
 ex : ∃ es clk,es.map kv=m.map (fun p=>(strv p.1,enc p.2))∧H[id]?=some (.map es clk)∧ZbA es clk
 nod : (m.map (·.1)).Nodup
section
variable {α : Type} {enc : α→Value} {H H' : Zc} {id : Nat} {m : List (List UInt8 × α)} {k : List UInt8} {v : α} {z : Value}
theorem Wn.g (h : Wn enc H id m) : JY enc H id m:=by
 obtain ⟨es,clk,h1,h2,h3⟩:=h.ex
 exact ⟨⟨es,h1,.inl ⟨clk,h2,h3⟩⟩,h.nod⟩
theorem Wn.lt (h : Wn enc H id m) : id < H.length:=h.g.lt
theorem Wn.keep (h : Wn enc H id m) (hk : H'[id]?=H[id]?) : Wn enc H' id m:=by
 obtain ⟨es,clk,h1,h2,h3⟩:=h.ex
 exact ⟨⟨es,clk,h1,by rw [hk];exact h2,h3⟩,h.nod⟩
theorem Wn.hle (h : Wn enc H id m) (hl : HLe H H') : Wn enc H' id m:=h.keep (hl.step.keep id h.lt (by simp))
theorem Wn.step {o1 o2 : List Nat} (h : Wn enc H id m) (hs : ZJ o1 H o2 H') (hn : id∉o1) : Wn enc H' id m:=h.keep (hs.keep id h.lt hn)
theorem ZuF (H : Zc) : ∃ H',mkm H=some (.map (some H.length),H')∧Wn enc H' H.length ([] : List (List UInt8 × α))∧HLe H H'∧H'.length=H.length+1:=
 ⟨_,rfl,⟨⟨[],0,rfl,ZD,⟨by simp,by simp⟩⟩,by simp⟩,.app _ _,by simp⟩
theorem Wn.clone (h : Wn enc H id m) : ∃ H',Zbl [.map (some id)] H=some (.map (some H.length),H')∧Wn enc H' H.length m∧HLe H H'∧H'.length=H.length+1:=by
 obtain ⟨es,clk,h1,h2,h3⟩:=h.ex
 exact ⟨_,by unfold Zbl;simp only [h2],⟨⟨es,clk,h1,ZD,h3⟩,h.nod⟩,.app _ _,by simp⟩
theorem Wn.mde (h : Wn enc H id m) : ∃ H',A.mde .str (.map (some id)) (strv k) H=some (.tuple #[],H')∧Wn enc H' id (J2 k m)∧ZJ [id] H [id] H'∧H'.length=H.length:=by
 obtain ⟨es,clk,h1,h2,hs⟩:=h.ex
 have hst : ∀ o,ZJ [id] H [id] (H.set id o):=fun o=>⟨by simp,fun j hj hn=>List.getElem?_set_ne (fun e=>hn (by simp [e])),fun j hj=>.inl hj⟩
 have hnod:=ZlH (k:=k) h.nod
 rcases Zfw (k:=k) 0 h1 with ⟨h3,h4⟩ | ⟨j,v0,h3,h4,h5⟩
 ·refine ⟨H,?_,by rw [Zn9 h3];exact h,.refl _ _,rfl⟩
  unfold A.mde
  simp only [h2,WZ,cond_true,h4]
 ·have ha : J2 k m=m.eraseIdx j:=(ZdY h.nod h3).symm
  rw [ha] at hnod ⊢
  rw [Nat.zero_add] at h5
  have hm : (es.eraseIdx j).map kv=(m.eraseIdx j).map fun p=>(strv p.1,enc p.2):=by
   have hg : ∀ {β γ : Type} (f : β→γ) (l : List β) (j : Nat),(l.eraseIdx j).map f=(l.map f).eraseIdx j:=fun f l j=>by
    rw [List.eraseIdx_eq_take_drop_succ,List.eraseIdx_eq_take_drop_succ,List.map_append,List.map_take,List.map_drop]
   rw [hg,hg,h1]
  refine ⟨H.set id (.map (es.eraseIdx j) clk),?_,⟨⟨_,clk,hm,ZT h2,⟨fun e he=>hs.lt e ((List.eraseIdx_sublist es j).subset he),((List.eraseIdx_sublist es j).map _).nodup hs.nod⟩⟩,hnod⟩,hst _,by simp⟩
  unfold A.mde;simp only [h2,WZ,cond_true,h5]
theorem Zh8 {es : List (Value × Value × Nat)} {j : Nat} {e : Value × Value × Nat} (hn : (es.map (·.2.2)).Nodup) (hj : es[j]?=some e) : es.findIdx? (fun x=>(x.2.2 : Int)==(e.2.2 : Nat))=some j:=by
 rw [List.findIdx?_eq_some_iff_getElem]
 have hlt:=(List.getElem?_eq_some_iff.1 hj).1
 have he:=(List.getElem?_eq_some_iff.1 hj).2
 refine ⟨hlt,by rw [he];simp,fun i hi=>?_⟩
 have hil : i < es.length:=by omega
 simp only [Bool.not_eq_true,beq_eq_false_iff_ne,ne_eq]
 intro h
 have h2 : es[i].2.2=e.2.2:=by omega
 have hp:=List.pairwise_iff_getElem.1 (List.nodup_iff_pairwise_ne.1 hn) i j (by simpa using hil) (by simpa using hlt) hi
 rw [List.getElem_map,List.getElem_map,he] at hp
 exact hp h2
theorem Wn.put (h : Wn enc H id m) : ∃ t st H1 H2,men .str z (.map (some id)) (strv k) H=some (t,H1)∧Zh t 1 H1=some (st,H1)∧ens (.map (some id)) st (enc v) H1=some (undef,H2)∧Wn enc H2 id (QG k v m)∧ZJ [id] H [id] H1∧ZJ [id] H [id] H2∧H2.length=H.length:=by
 obtain ⟨es,clk,h1,h2,hs⟩:=h.ex
 have hst : ∀ o,ZJ [id] H [id] (H.set id o):=fun o=>⟨by simp,fun j hj hn=>List.getElem?_set_ne (fun e=>hn (by simp [e])),fun j hj=>.inl hj⟩
 have hst2 : ∀ o o',ZJ [id] H [id] ((H.set id o).set id o'):=fun o o'=>⟨by simp,fun j hj hn=>by rw [List.getElem?_set_ne (fun e=>hn (by simp [e])),List.getElem?_set_ne (fun e=>hn (by simp [e]))],fun j hj=>.inl hj⟩
 have hnod:=ZmM (k:=k) (v:=v) h.nod
 rcases Zfw (k:=k) 0 h1 with ⟨h3,h4⟩ | ⟨j,v0,h3,h4,h5⟩
 ·have ha : QG k v m=m++[(k,v)]:=by unfold QG;rw [h3];rfl
  rw [ha] at hnod ⊢
  have hS : ZbA (es++[(strv k,z,clk)]) (clk+1):=⟨fun e he=>by
   rcases List.mem_append.1 he with he | he
   ·have:=hs.lt e he;omega
   ·have : e=(strv k,z,clk):=by simpa using he
    rw [this];exact Nat.lt_succ_self _,by
   rw [List.map_append,List.nodup_append]
   refine ⟨hs.nod,by simp,fun a ha b hb=>?_⟩
   have hb : b=clk:=by simpa using hb
   obtain ⟨e,he,rfl⟩:=List.mem_map.1 ha
   have:=hs.lt e he;omega⟩
  have hlen : es.length=m.length:=by have:=congrArg List.length h1;simpa using this
  have hget : (es++[(strv k,z,clk)])[es.length]?=some (strv k,z,clk):=by simp
  have hfi:=Zh8 hS.nod hget
  have hgk : ((es++[(strv k,z,clk)]).map kv)[es.length]?=some (strv k,z):=by rw [List.getElem?_map,hget];rfl
  refine ⟨.tuple #[z,.int .i64 (clk : Nat)],.int .i64 (clk : Nat),H.set id (.map (es++[(strv k,z,clk)]) (clk+1)),(H.set id (.map (es++[(strv k,z,clk)]) (clk+1))).set id (.map (YF (es++[(strv k,z,clk)]) es.length (enc v)) (clk+1)),?_,rfl,?_,⟨⟨_,clk+1,?_,ZT (ZT h2),ZjS hS⟩,hnod⟩,hst _,hst2 _ _,by simp⟩
  ·unfold men;simp only [h2,WZ,cond_true,h4]
  ·unfold ens
   simp only [ZT h2,hfi]
  ·rw [Zht hgk,List.map_append,h1,List.map_append]
   have : es.length=(m.map fun p=>(strv p.1,enc p.2)).length:=by rw [List.length_map,hlen]
   rw [this]
   simp [kv]
 ·have ha : QG k v m=m.set j (k,v):=by unfold QG;rw [h4];exact (ZhU h.nod h3).symm
  rw [ha] at hnod ⊢
  rw [Nat.zero_add] at h5
  have hget : (es.map kv)[j]?=some (strv k,enc v0):=by rw [h1,List.getElem?_map,h3];rfl
  obtain ⟨e,he,hek⟩ : ∃ e,es[j]?=some e∧kv e=(strv k,enc v0):=by
   rw [List.getElem?_map] at hget
   cases hh : es[j]? with
   | none=>rw [hh] at hget;cases hget
   | some e=>rw [hh] at hget;exact ⟨e,rfl,by simpa using hget⟩
  have hfi:=Zh8 hs.nod he
  have hgd : (es.getD j (undef,undef,0)).2.2=e.2.2:=by rw [List.getD_eq_getElem?_getD,he];rfl
  refine ⟨.tuple #[enc v0,.int .i64 (e.2.2 : Nat)],.int .i64 (e.2.2 : Nat),H,H.set id (.map (YF es j (enc v)) clk),?_,rfl,?_,⟨⟨_,clk,?_,ZT h2,ZjS hs⟩,hnod⟩,.refl _ _,hst _,by simp⟩
  ·unfold men;simp only [h2,WZ,cond_true,h5,hgd]
  ·unfold ens
   simp only [h2,hfi]
  ·rw [Zht hget,h1,List.map_set]
end
end Go.Proofs.YtnnehafmjfmbnaaGreatDoor.A

namespace Go.Proofs.YtnnehafmjfmbnaaGreatDoor.A
set_option linter.unusedVariables false
set_option linter.unusedSimpArgs false
open Go.Proofs Go.Proofs.YtnnehafmjfmbnaaGreatDoor
structure Inv (OW OF : YV) : Prop where
 inv : ∀ k v,Zf k OF=some v↔Zf v OW=some k
 same : OW.length=OF.length
 lens : ∀ p∈OF,p.1≠[]∧p.1.length≤12∧p.2≠[]∧p.2.length≤20
def ZaF (k : List UInt8) (OW OF : YV) : YV:=match Zf k OF with
 | some m=>J2 m OW
 | none=>OW
def KA (k : List UInt8) (OF : YV) : YV:=match Zf k OF with
 | some _=>J2 k OF
 | none=>OF
section
variable {OW OF : YV} {k f : List UInt8}
theorem Inv.drop (h : Inv OW OF) (n1 : (OW.map (·.1)).Nodup) (n2 : (OF.map (·.1)).Nodup) : Inv (ZaF k OW OF) (KA k OF):=by
 unfold ZaF KA
 cases hk : Zf k OF with
 | none=>exact h
 | some m=>
  have hm:=(h.inv k m).1 hk
  refine ⟨fun j v=>?_,?_,fun p hp=>h.lens p (List.mem_filter.1 hp).1⟩
  ·by_cases hj : j=k
   ·subst hj
    rw [WH]
    constructor
    ·intro e;cases e
    ·intro e
     by_cases hv : v=m
     ·subst hv;rw [WH] at e;cases e
     ·rw [JE hv,← h.inv] at e
      rw [hk] at e
      exact absurd (Option.some.inj e).symm hv
   ·rw [JE hj]
    by_cases hv : v=m
    ·subst hv
     rw [WH,h.inv,hm]
     constructor
     ·intro e;exact absurd (Option.some.inj e).symm hj
     ·intro e;cases e
    ·rw [JE hv,h.inv]
  ·rw [Zlv n1 (by rw [hm];rfl),Zlv n2 (by rw [hk];rfl),h.same]
theorem Inv.put (h : Inv OW OF) (h1 : Zf f OW=none) (h2 : Zf k OF=none) (hk : k≠[]∧k.length≤12) (hf : f≠[]∧f.length≤20) : Inv (QG f k OW) (QG k f OF):=by
 refine ⟨fun j v=>?_,?_,fun p hp=>?_⟩
 ·by_cases hj : j=k
  ·subst hj
   rw [Wg]
   by_cases hv : v=f
   ·subst hv;rw [Wg];simp
   ·rw [YN hv,← h.inv,h2]
    constructor
    ·intro e;exact absurd (Option.some.inj e).symm hv
    ·intro e;cases e
  ·rw [YN hj]
   by_cases hv : v=f
   ·subst hv
    rw [Wg,h.inv,h1]
    constructor
    ·intro e;cases e
    ·intro e;exact absurd (Option.some.inj e).symm hj
   ·rw [YN hv,h.inv]
 ·rw [Zej,Zej,h1,h2,h.same]
 ·unfold QG at hp
  rw [h2] at hp
  simp only [Option.isSome_none,Bool.false_eq_true,if_false,List.mem_append,List.mem_singleton] at hp
  rcases hp with hp | rfl
  ·exact h.lens p hp
  ·exact ⟨hk.1,hk.2,hf.1,hf.2⟩
theorem Zcr : Zf k (KA k OF)=none:=by
 unfold KA
 cases hk : Zf k OF with
 | none=>exact hk
 | some m=>exact WH
theorem ZlK (h : Inv OW OF) (hf : ∀ w,Zf f OW=some w→w=k) : Zf f (ZaF k OW OF)=none:=by
 unfold ZaF
 cases hk : Zf k OF with
 | none=>
  cases ho : Zf f OW with
  | none=>rfl
  | some w=>
   have:=hf w ho
   subst this
   rw [← h.inv,hk] at ho
   cases ho
 | some m=>
  by_cases hm : f=m
  ·subst hm;exact WH
  ·simp only
   rw [JE hm]
   cases ho : Zf f OW with
   | none=>rfl
   | some w=>
    have:=hf w ho
    subst this
    rw [← h.inv,hk] at ho
    exact absurd (Option.some.inj ho).symm hm
theorem Zc8 {j : List UInt8} (hj : j≠k) : Zf j (KA k OF)=Zf j OF:=by
 unfold KA
 cases hk : Zf k OF with
 | none=>rfl
 | some m=>exact JE hj
def Wb (k m : List UInt8) (OW : YV) : Int:=
 if Zs k then (if m=[] then 0 else if QB m then (match Zf (ZY m) OW with
  | some w=>if w=k then 0 else 9
  | none=>0) else 11) else 10
def ZmW (k m : List UInt8) (OW OF : YV) : YV:=if Wb k m OW=0 then (if m=[] then ZaF k OW OF else QG (ZY m) k (ZaF k OW OF)) else OW
def Ze0 (k m : List UInt8) (OW OF : YV) : YV:=if Wb k m OW=0 then (if m=[] then KA k OF else QG k (ZY m) (KA k OF)) else OF
def Zfv (old next : List UInt8) (OF : YV) : Int:=
 if Zs next then (match Zf old OF with
  | some _=>if (Zf next OF).isSome && !(next==old) then 9 else 0
  | none=>8) else 10
def Zsg (old next : List UInt8) (OW OF : YV) : YV:=if Zfv old next OF=0 then QG ((Zf old OF).getD []) next (ZaF old OW OF) else OW
def Zgw (old next : List UInt8) (OF : YV) : YV:=if Zfv old next OF=0 then QG next ((Zf old OF).getD []) (KA old OF) else OF
theorem Zra (h : Zs k=true) : k≠[]∧k.length≤12:=by
 refine ⟨?_,Zeb h⟩
 rintro rfl
 revert h;decide
theorem Znb {m : List UInt8} (h : QB m=true) : ZY m≠[]∧(ZY m).length≤20:=by
 unfold QB at h
 simp only [Bool.and_eq_true,decide_eq_true_eq] at h
 refine ⟨fun e=>?_,by rw [ZjC];exact h.1⟩
 have h2:=h.2
 rw [e] at h2
 revert h2;decide
end
structure Idx (X : Zc) (x o a : Nat) (OW OF : YV) : Prop where
 c : X[x]?=some (.cells [.map (some o),.map (some a)] 1 false false)
 ow : Wn strv X o OW
 of : Wn strv X a OF
 ne : o≠a
 inv : Inv OW OF
section
variable {X X' : Zc} {n x o a : Nat} {OW OF : YV} {k m : List UInt8}
theorem Idx.not (h : Idx X x o a OW OF) : x≠o∧x≠a:=by
 constructor
 ·rintro rfl
  obtain ⟨es,clk,_,h2,_⟩:=h.ow.ex
  rw [h.c] at h2;cases h2
 ·rintro rfl
  obtain ⟨es,clk,_,h2,_⟩:=h.of.ex
  rw [h.c] at h2;cases h2
theorem Idx.hle (h : Idx X x o a OW OF) (hl : HLe X X') : Idx X' x o a OW OF:=⟨hl _ _ h.c,h.ow.hle hl,h.of.hle hl,h.ne,h.inv⟩
theorem Idx.lt (h : Idx X x o a OW OF) : x < X.length∧o < X.length∧a < X.length:=⟨Jr h.c,h.ow.lt,h.of.lt⟩
theorem Idx.step {o1 o2 : List Nat} (h : Idx X x o a OW OF) (hs : ZJ o1 X o2 X') (h1 : x∉o1) (h2 : o∉o1) (h3 : a∉o1) : Idx X' x o a OW OF:=
 ⟨hs.get h.c h1,h.ow.step hs h2,h.of.step hs h3,h.ne,h.inv⟩
theorem Idx.l0 (h : Idx X x o a OW OF) : ld1 (pa x 0) X=some (.map (some o),X):=Zw h.c rfl
theorem Idx.l1 (h : Idx X x o a OW OF) : ld1 (pa x 1) X=some (.map (some a),X):=Zw h.c rfl
theorem ZmZ {id : Nat} {mm : YV} (h : JY strv X id mm) : lkp .str (.string ⟨#[]⟩) true (.map (some id)) (strv k) X=some (.tuple #[strv ((Zf k mm).getD []),.bool (Zf k mm).isSome],X):=by
 rw [h.lkp]
 cases Zf k mm <;> rfl
theorem ZJ.mono2 {o1 o2 : List Nat} (h : ZJ o1 X o1 X') (hs : ∀ j∈o1,j∈o2) : ZJ o2 X o2 X':=h.more hs (fun j hj=>.inl hj)
theorem Zwe : ∃ X' x o a,R (n+1) Zgn [] X=some (pt x,X')∧Idx X' x o a [] []∧HLe X X'∧X.length≤x∧X.length≤o∧X.length≤a:=by
 obtain ⟨X1,e1,g1,l1,n1⟩:=ZuF (α:=List UInt8) (enc:=strv) X
 obtain ⟨X2,e2,g2,l2,n2⟩:=ZuF (α:=List UInt8) (enc:=strv) X1
 have e3 : bld (.agg #[.map none,.map none]) [(0,1,.map (some X.length)),(1,1,.map (some X1.length))] X2=some (.agg #[.map (some X.length),.map (some X1.length)],X2):=by simp [↓ZR,ZS,↓Qj,Z5,Z6,Z3,↓Zb,JB,Zu,J9,Qc,Q8,Qf,Q7,Q9,Qx,Jh,Qy,QI,QJ,QF,Ja,Zm,Zv,Yq,Yj,QY,QO,JA,Zy,QZ,Jy,JC,Jm,ZB,Zt,Zo,QK,Ql,Z8,Q6,Jp,Jn,Jw,↓Yn,Jx,↓g_r,Yp,Kh,WA,splice,Value.cells]
 have e4 : alc 1 (.agg #[.map (some X.length),.map (some X1.length)]) X2=some (pt X2.length,X2++[.cells [.map (some X.length),.map (some X1.length)] 1 false false]):=by
  rw [QI];simp [Value.cells,oneCell]
 refine ⟨X2++[.cells [.map (some X.length),.map (some X1.length)] 1 false false],X2.length,X.length,X1.length,?_,⟨ZD,(g1.hle l2).hle (.app _ _),g2.hle (.app _ _),by omega,⟨fun k v=>by simp [Zf],rfl,by simp⟩⟩,(l1.trans l2).trans (.app _ _),by omega,Nat.le_refl _,by omega⟩
 rw [R,Zq4 rfl]
 unfold ZjF
 rw [Za e1,Za e2,Za e3,Za e4]
 rfl
theorem ZjW (h : Idx X x o a OW OF) : ∃ X',R (n+1) Jz [pt x,strv k] X=some (.bool (Zf k OF).isSome,X')∧Idx X' x o a (ZaF k OW OF) (KA k OF)∧ZJ [o,a] X [o,a] X':=by
 have e1:=ZmZ (k:=k) h.of.g
 have f1 : ∀ r X',ZaP (R n) (pt x) (strv k) X=some (r,X')→R (n+1) Jz [pt x,strv k] X=some (r,X'):=fun r X' hr=>by rw [R,Zkb rfl];exact hr
 cases hk : Zf k OF with
 | none=>
  rw [hk] at e1
  simp only [Option.isSome_none,Option.getD_none] at e1 ⊢
  have hi : Idx X x o a (ZaF k OW OF) (KA k OF):=by unfold ZaF KA;rw [hk];exact h
  refine ⟨X,f1 _ _ ?_,hi,.refl _ _⟩
  unfold ZaP
  rw [Za Zu,Za Zg,Za h.l1,Za e1,Za Zk,Za Zj]
  refine (ZV (vs:=[.bool false]) (H':=X) ?_).trans rfl
  rw [Zb,if_neg (by simp)]
  rfl
 | some mm=>
  rw [hk] at e1
  simp only [Option.isSome_some,Option.getD_some] at e1 ⊢
  obtain ⟨X1,e2,m2,s2,_⟩:=h.ow.mde (k:=mm)
  have of1:=h.of.step s2 (by simp [Ne.symm h.ne])
  have c1:=s2.get h.c (by simp [h.not.1])
  obtain ⟨X2,e3,m3,s3,_⟩:=of1.mde (k:=k)
  have s12:=(s2.mono2 (o2:=[o,a]) (by simp)).trans (s3.mono2 (o2:=[o,a]) (by simp))
  have hinv:=h.inv.drop (k:=k) h.ow.nod h.of.nod
  have hi : Idx X2 x o a (ZaF k OW OF) (KA k OF):=by
   unfold ZaF KA at hinv ⊢
   rw [hk] at hinv ⊢
   exact ⟨s3.get c1 (by simp [h.not.2]),m2.step s3 (by simp [h.ne]),m3,h.ne,hinv⟩
  refine ⟨X2,f1 _ _ ?_,hi,s12⟩
  have l0' : ld1 (pa x 0) X=some (.map (some o),X):=h.l0
  have l1' : ld1 (pa x 1) X1=some (.map (some a),X1):=Zw c1 rfl
  unfold ZaP
  rw [Za Zu,Za Zg,Za h.l1,Za e1,Za Zk,Za Zj]
  refine (ZV (vs:=[.bool true]) (H':=X2) ?_).trans rfl
  rw [Zb,if_pos rfl,Za Zu,Za Zg,Za l0']
  refine (Za e2).trans ?_
  rw [Za Zu,Za Zg,Za l1',Za e3]
  rfl
theorem Zo5 {f : List UInt8} (h : Idx X x o a OW OF) (h1 : Zf f OW=none) (h2 : Zf k OF=none) (hk : k≠[]∧k.length≤12) (hf : f≠[]∧f.length≤20) :
  ∃ X',(∀ K : M Value,bind (men .str (.string ⟨#[]⟩) (.map (some o)) (strv f)) (fun v60=>bind (Zh v60 1) fun v61=>bind (ens (.map (some o)) v61 (strv k)) fun _=>bind (men .str (.string ⟨#[]⟩) (.map (some a)) (strv k)) fun v62=>bind (Zh v62 1) fun v63=>bind (ens (.map (some a)) v63 (strv f)) fun _=>K) X=K X')∧Idx X' x o a (QG f k OW) (QG k f OF)∧ZJ [o,a] X [o,a] X':=by
 obtain ⟨t1,st1,Y1,Y2,e1,e2,e3,m1,_,s1,_⟩:=h.ow.put (k:=f) (v:=k) (z:=.string ⟨#[]⟩)
 have of1:=h.of.step s1 (by simp [Ne.symm h.ne])
 have c1:=s1.get h.c (by simp [h.not.1])
 obtain ⟨t2,st2,Z1,Z2,e4,e5,e6,m2,_,s2,_⟩:=of1.put (k:=k) (v:=f) (z:=.string ⟨#[]⟩)
 refine ⟨Z2,fun K=>?_,⟨s2.get c1 (by simp [h.not.2]),m1.step s2 (by simp [h.ne]),m2,h.ne,h.inv.put h1 h2 hk hf⟩,(s1.mono2 (o2:=[o,a]) (by simp)).trans (s2.mono2 (o2:=[o,a]) (by simp))⟩
 rw [Za e1,Za e2,Za e3,Za e4,Za e5,Za e6]
theorem Zv1 (h : Idx X x o a OW OF) : ∃ X',R (n+9) K1 [pt x,strv k,strv m] X=some (iv (Wb k m OW),X')∧Idx X' x o a (ZmW k m OW OF) (Ze0 k m OW OF)∧ZJ [o,a] X [o,a] X':=by
 have f1 : ∀ r X',Kr (R (n+8)) (pt x) (strv k) (strv m) X=some (r,X')→R (n+9) K1 [pt x,strv k,strv m] X=some (r,X'):=fun r X' hr=>by rw [R,Zlp rfl];exact hr
 have e1 : R (n+8) Yk [strv k] X=some (iv (Q3 k),X):=Zg1 (n:=n+3)
 have q1 : bop .str .eql (strv m) (.string ⟨#[]⟩) X=some (.bool (m==[]),X):=Zb2 (b:=[])
 unfold Wb ZmW Ze0 Wb
 cases hn : Zs k
 ·have he : Q3 k=10:=by unfold Q3;rw [hn];rfl
  refine ⟨X,f1 _ _ ?_,by simpa using h,.refl _ _⟩
  unfold Kr
  rw [Za e1,he,Za Zt,Zb,if_pos (by rfl)]
  rfl
 ·have he : Q3 k=0:=ZnV.2 hn
  by_cases hm0 : m=[]
  ·obtain ⟨X1,e2,i2,s2⟩:=ZjW (n:=n+7) (k:=k) h
   have e2 : R (n+8) Jz [pt x,strv k] X=_:=e2
   refine ⟨X1,f1 _ _ ?_,by simpa [hm0] using i2,s2⟩
   unfold Kr
   rw [Za e1,he,Za Zt,Zb,if_neg (by decide),Za q1,Zb,if_pos (by simp [hm0]),Za e2]
   simp [hm0,ret]
  ·obtain ⟨X1,e2,k2⟩:=ZpU (n:=n) (s:=m) (X:=X)
   have h1:=h.hle k2
   have ks:=k2.step.more (o2:=[o,a]) (o2':=[o,a]) (by simp) (fun j hj=>.inl hj)
   cases hmb : QB m
   ·rw [hmb] at e2
    refine ⟨X1,f1 _ _ ?_,by simpa [hm0] using h1,ks⟩
    unfold Kr
    rw [Za e1,he,Za Zt,Zb,if_neg (by decide),Za q1,Zb,if_neg (by simpa using hm0),Za e2,Za Zk,Za Zj]
    have q3 : bop .int .neq (iv (if false=true then 0 else 11)) (.int .i64 0) X1=some (.bool true,X1):=by rw [Zt];rfl
    rw [Za q3,Zb,if_pos rfl]
    simp [hm0,ret]
   ·rw [hmb] at e2
    simp only [if_true] at e2
    have e3:=ZmZ (k:=ZY m) h1.ow.g
    have hfm:=Znb hmb
    have hkn:=Zra hn
    have q3 : bop .int .neq (iv 0) (.int .i64 0) X1=some (.bool false,X1):=by rw [Zt];rfl
    simp only [if_true,if_neg hm0]
    have hgo : (∀ w,Zf (ZY m) OW=some w→w=k)→∃ X',R (n+9) K1 [pt x,strv k,strv m] X=some (iv 0,X')∧Idx X' x o a (QG (ZY m) k (ZaF k OW OF)) (QG k (ZY m) (KA k OF))∧ZJ [o,a] X [o,a] X':=fun hw=>by
     obtain ⟨X2,e4,i4,s4⟩:=ZjW (n:=n+7) (k:=k) h1
     have e4 : R (n+8) Jz [pt x,strv k] X1=_:=e4
     obtain ⟨X3,e5,i5,s5⟩:=Zo5 (k:=k) (f:=ZY m) i4 (ZlK h.inv hw) Zcr hkn hfm
     refine ⟨X3,f1 _ _ ?_,i5,(ks.trans s4).trans s5⟩
     unfold Kr
     rw [Za e1,he,Za Zt,Zb,if_neg (by decide),Za q1,Zb,if_neg (by simpa using hm0),Za e2,Za Zk,Za Zj,Za q3,Zb,if_neg (by simp),Za Zu,Za Zg,Za h1.l0,Za e3,Za Zk,Za Zj]
     cases ho : Zf (ZY m) OW with
     | none=>
      simp only [Option.isSome_none]
      rw [Za (g_r.trans (if_neg (by simp)))]
      simp only [List.replicate]
      rw [Z4,Za Zm]
      simp only [cond_false]
      rw [Zb,if_neg (by simp),Za e4,Za Zu,Za Zg,Za i4.l0,Za Zu,Za Zg,Za i4.l1]
      exact e5 _
     | some w=>
      have:=hw w ho
      subst this
      have q4 : bop .str .neq (strv w) (strv w) X1=some (.bool false,X1):=by rw [WB];simp
      simp only [Option.isSome_some,Option.getD_some]
      rw [Z0,Zl,Za q4,Qm,Z4,Za Zm]
      simp only [cond_true]
      rw [Zb,if_neg (by simp),Za e4,Za Zu,Za Zg,Za i4.l0,Za Zu,Za Zg,Za i4.l1]
      exact e5 _
    cases ho : Zf (ZY m) OW with
    | none=>simpa using hgo (fun w hw=>by rw [ho] at hw;cases hw)
    | some w=>
     by_cases hw : w=k
     ·simpa [hw] using hgo (fun w' hw'=>by rw [ho] at hw';cases hw';exact hw)
     ·simp only [if_neg hw]
      refine ⟨X1,f1 _ _ ?_,by simpa using h1,ks⟩
      have q4 : bop .str .neq (strv w) (strv k) X1=some (.bool true,X1):=by rw [WB,beq_eq_false_iff_ne.2 hw];rfl
      rw [ho] at e3
      simp only [Option.isSome_some,Option.getD_some] at e3
      unfold Kr
      rw [Za e1,he,Za Zt,Zb,if_neg (by decide),Za q1,Zb,if_neg (by simpa using hm0),Za e2,Za Zk,Za Zj,Za q3,Zb,if_neg (by simp),Za Zu,Za Zg,Za h1.l0,Za e3,Za Zk,Za Zj,Z0,Zl,Za q4,Qm,Z4,Za Zm]
      simp only [cond_true]
      rw [Zb,if_pos rfl]
      rfl
theorem Zv4 {old next : List UInt8} (h : Idx X x o a OW OF) : ∃ X',R (n+6) KR [pt x,strv old,strv next] X=some (iv (Zfv old next OF),X')∧Idx X' x o a (Zsg old next OW OF) (Zgw old next OF)∧ZJ [o,a] X [o,a] X':=by
 have f1 : ∀ r X',YY (R (n+5)) (pt x) (strv old) (strv next) X=some (r,X')→R (n+6) KR [pt x,strv old,strv next] X=some (r,X'):=fun r X' hr=>by rw [R,Zip rfl];exact hr
 have e1 : R (n+5) Yk [strv next] X=some (iv (Q3 next),X):=Zg1
 have e2:=ZmZ (k:=old) h.of.g
 have e3:=ZmZ (k:=next) h.of.g
 unfold Zfv Zsg Zgw Zfv
 cases hn : Zs next
 ·have he : Q3 next=10:=by unfold Q3;rw [hn];rfl
  refine ⟨X,f1 _ _ ?_,by simpa using h,.refl _ _⟩
  unfold YY
  rw [Za e1,he,Za Zt,Zb,if_pos (by rfl)]
  rfl
 ·have he : Q3 next=0:=ZnV.2 hn
  simp only [if_true]
  cases ho : Zf old OF with
  | none=>
   rw [ho] at e2
   simp only [Option.isSome_none,Option.getD_none] at e2
   refine ⟨X,f1 _ _ ?_,by simpa using h,.refl _ _⟩
   unfold YY
   rw [Za e1,he,Za Zt,Zb,if_neg (by decide),Za Zu,Za Zg,Za h.l1,Za e2,Za Zk,Za Zj,Za Zu,Za Zg,Za h.l1,Za e3,Za Zk,Za Zj,Za Zv,Zb,if_pos (by rfl)]
   rfl
  | some mm=>
   rw [ho] at e2
   simp only [Option.isSome_some,Option.getD_some] at e2 ⊢
   have hml:=h.inv.lens (old,mm) (W7 ho)
   have hmo:=(h.inv.inv old mm).1 ho
   have q4 : bop .str .neq (strv next) (strv old) X=some (.bool (!(next==old)),X):=WB
   have hpk : ∀ K : Value→M Value,bind (ZA (.bool (Zf next OF).isSome) true 3 (bind (bop .str .neq (strv next) (strv old)) fun v43x16=>ret [strv next,strv old,v43x16])) (c3 fun _ _ q17_2=>bind (pick (.bool (Zf next OF).isSome) q17_2 (Value.bool false)) K) X=K (.bool ((Zf next OF).isSome && !(next==old))) X:=fun K=>by
    cases (Zf next OF).isSome
    ·rw [Za (g_r.trans (if_neg (by simp)))]
     simp only [List.replicate]
     rw [Z4,Za Zm]
     rfl
    ·rw [Z0,Zl,Za q4,Qm,Z4,Za Zm]
     rfl
   cases ht : (Zf next OF).isSome && !(next==old)
   ·rw [ht] at hpk
    simp only [Bool.false_eq_true,if_false,if_true]
    obtain ⟨X2,e4,i4,s4⟩:=ZjW (n:=n+4) (k:=old) h
    have e4 : R (n+5) Jz [pt x,strv old] X=_:=e4
    have hnn : Zf next (KA old OF)=none:=by
     by_cases hno : next=old
     ·subst hno;exact Zcr
     ·rw [Zc8 hno]
      have h5 : (next==old)=false:=beq_eq_false_iff_ne.2 hno
      rw [h5] at ht
      cases hx : Zf next OF with
      | none=>rfl
      | some y=>rw [hx] at ht;simp at ht
    obtain ⟨X3,e5,i5,s5⟩:=Zo5 (k:=next) (f:=mm) i4 (ZlK h.inv (fun w hw=>by rw [hmo] at hw;exact (Option.some.inj hw).symm)) hnn (Zra hn) ⟨hml.2.2.1,hml.2.2.2⟩
    refine ⟨X3,f1 _ _ ?_,i5,s4.trans s5⟩
    unfold YY
    rw [Za e1,he,Za Zt,Zb,if_neg (by decide),Za Zu,Za Zg,Za h.l1,Za e2,Za Zk,Za Zj,Za Zu,Za Zg,Za h.l1,Za e3,Za Zk,Za Zj,Za Zv,Zb,if_neg (by simp)]
    refine (hpk _).trans ?_
    rw [Zb,if_neg (by simp),Za e4,Za Zu,Za Zg,Za i4.l0,Za Zu,Za Zg,Za i4.l1]
    exact e5 _
   ·rw [ht] at hpk
    simp only [if_true]
    refine ⟨X,f1 _ _ ?_,by simpa using h,.refl _ _⟩
    unfold YY
    rw [Za e1,he,Za Zt,Zb,if_neg (by decide),Za Zu,Za Zg,Za h.l1,Za e2,Za Zk,Za Zj,Za Zu,Za Zg,Za h.l1,Za e3,Za Zk,Za Zj,Za Zv,Zb,if_neg (by simp)]
    refine (hpk _).trans ?_
    rw [Zb,if_pos rfl]
    rfl
theorem ZwN (h : Idx X x o a OW OF) : R (n+1) ZbB [pt x,strv k] X=some (.tuple #[strv ((Zf k OF).getD []),.bool (Zf k OF).isSome],X):=by
 have e1:=ZmZ (k:=k) h.of.g
 rw [R,Zmr rfl]
 unfold ZeQ
 rw [Za Zu,Za Zg,Za h.l1,Za e1,Za Zk,Za Zj]
 rfl
def Zb6 (m : List UInt8) (OW : YV) : Int:=if QB m then (if (Zf (ZY m) OW).isSome then 0 else 8) else 11
def Zgp (m : List UInt8) (OW : YV) : List UInt8:=if QB m then (Zf (ZY m) OW).getD [] else []
theorem Zvc (h : Idx X x o a OW OF) : ∃ X',R (n+9) ZaJ [pt x,strv m] X=some (.tuple #[strv (Zgp m OW),iv (Zb6 m OW)],X')∧HLe X X':=by
 obtain ⟨X1,e2,k2⟩:=ZpU (n:=n) (s:=m) (X:=X)
 have f1 : ∀ r X',ZbY (R (n+8)) (pt x) (strv m) X=some (r,X')→R (n+9) ZaJ [pt x,strv m] X=some (r,X'):=fun r X' hr=>by rw [R,Zke rfl];exact hr
 have h1:=h.hle k2
 refine ⟨X1,f1 _ _ ?_,k2⟩
 unfold ZbY Zb6 Zgp
 cases hmb : QB m
 ·rw [hmb] at e2
  have q3 : bop .int .neq (iv (if false=true then 0 else 11)) (.int .i64 0) X1=some (.bool true,X1):=by rw [Zt];rfl
  rw [Za e2,Za Zk,Za Zj,Za q3,Zb,if_pos rfl]
  rfl
 ·rw [hmb] at e2
  simp only [if_true] at e2
  have e3:=ZmZ (k:=ZY m) h1.ow.g
  have q3 : bop .int .neq (iv 0) (.int .i64 0) X1=some (.bool false,X1):=by rw [Zt];rfl
  rw [Za e2,Za Zk,Za Zj,Za q3,Zb,if_neg (by simp),Za Zu,Za Zg,Za h1.l0,Za e3,Za Zk,Za Zj,Za Zv]
  cases Zf (ZY m) OW with
  | none=>simp [Zb,ret];rfl
  | some w=>simp [Zb,ret]
end
end Go.Proofs.YtnnehafmjfmbnaaGreatDoor.A
namespace Go.Proofs.YtnnehafmjfmbnaaGreatDoor.A
set_option linter.unusedVariables false
set_option linter.unusedSimpArgs false
open Go.Proofs Go.Proofs.YtnnehafmjfmbnaaGreatDoor
section
variable {H X X' : Zc} {n x o a : Nat} {OW OF : YV} {k m : List UInt8}
theorem ZuO (h : Idx X x o a OW OF) : ∃ X' x' o' a',R (n+2) ZaE [pt x] X=some (pt x',X')∧Idx X' x' o' a' OW OF∧HLe X X'∧X.length≤x'∧X.length≤o'∧X.length≤a':=by
 obtain ⟨X1,e1,g1,l1,n1⟩:=h.ow.clone
 obtain ⟨X2,e2,g2,l2,n2⟩:=(h.of.hle l1).clone
 have e1' : run Tryz.prog np lvs (n+1) Qp [.map (some o)] X=some (.map (some X.length),X1):=by
  rw [Zbt (show np Qp=some Zbl from rfl)]
  exact e1
 have e2' : run Tryz.prog np lvs (n+1) Qp [.map (some a)] X1=some (.map (some X1.length),X2):=by
  rw [Zbt (show np Qp=some Zbl from rfl)]
  exact e2
 have e3 : bld (.agg #[.map none,.map none]) [(0,1,.map (some X.length)),(1,1,.map (some X1.length))] X2=some (.agg #[.map (some X.length),.map (some X1.length)],X2):=by simp [↓ZR,ZS,↓Qj,Z5,Z6,Z3,↓Zb,JB,Zu,J9,Qc,Q8,Qf,Q7,Q9,Qx,Jh,Qy,QI,QJ,QF,Ja,Zm,Zv,Yq,Yj,QY,QO,JA,Zy,QZ,Jy,JC,Jm,ZB,Zt,Zo,QK,Ql,Z8,Q6,Jp,Jn,Jw,↓Yn,Jx,↓g_r,Yp,Kh,WA,splice,Value.cells]
 have e4 : alc 1 (.agg #[.map (some X.length),.map (some X1.length)]) X2=some (pt X2.length,X2++[.cells [.map (some X.length),.map (some X1.length)] 1 false false]):=by
  rw [QI];simp [Value.cells,oneCell]
 refine ⟨X2++[.cells [.map (some X.length),.map (some X1.length)] 1 false false],X2.length,X.length,X1.length,?_,⟨ZD,(g1.hle l2).hle (.app _ _),g2.hle (.app _ _),by omega,h.inv⟩,(l1.trans l2).trans (.app _ _),by omega,Nat.le_refl _,by omega⟩
 rw [R,Zj0 rfl]
 unfold ZdQ
 rw [Za Zu,Za Zg,Za h.l0,Za Zu,Za Zg,Za h.l1,Za e1',Za (h.hle l1).l1,KS,Za e2',Za e3,Za e4]
 rfl
end
end Go.Proofs.YtnnehafmjfmbnaaGreatDoor.A
namespace Go.Proofs.YtnnehafmjfmbnaaGreatDoor.A
set_option linter.unusedVariables false
set_option linter.unusedSimpArgs false
open Go.Proofs Go.Proofs.YtnnehafmjfmbnaaGreatDoor
section
variable {n : Nat}
variable {X : Zc} {x o a : Nat} {OW OF : YV}
end
end Go.Proofs.YtnnehafmjfmbnaaGreatDoor.A

