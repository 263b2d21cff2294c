/- What the law NewerPlays needs (part 4). -/
import Derived.Test.YtnnehafmjfmbnaaGreatDoorZNewerPlays3
import Derived.Test.YtnnehafmjfmbnaaGreatDoorProg
import Derived.WalkKit
import Derived.Maps.RangeWalk
import Derived.Deep.RegionWith
import Derived.Deep.Cut
import Derived.Laws.Cover1
import Derived.Sort.Walk0
import Derived.Sort.OwnSorted
import Derived.Shelf.SlGeneric
import Derived.Shelf.SlIter.Collect
import Derived.Shelf.SlSortCmp.Whole1
import Derived.Shelf.SlMaps.Clone
import Derived.Ground.GgzProg
import Derived.Ground.SlsfProg
import Derived.Ground.SlmcProg
import Derived.KernelRfl
namespace Go.Proofs.YtnnehafmjfmbnaaGreatDoor.A
set_option linter.unusedVariables false
set_option linter.unusedSimpArgs false
open Go.RowKit Go.Maps Go.ChangeMaps Go.MapKept
section
variable {P : Program} (w : World) {ops : Array Oper} {rest : List Oper} {o : Oper} {a : Act} {Q : Exit→Act→World→Prop}
theorem ZkA (hg : o.guard=none) (m : Operand) (t : TypeId) (hop : o.op=Op.range t m) (k e : TypeId) (ht : P.underlying t=some (.map k e)) (b : Nat) (es : Array MapEntry) (clock : Nat)
  (hm : a.eval m=.map (some b)) (hb : w.heap[b]?=some (.map es clock))
  (hK : wpList P ops Q rest (a.put o.dst (.pointer (some ⟨w.heap.size,0,none⟩))) (w.alloc (.mapIter (some b) clock #[] clock))) :
  wpList P ops Q (o :: rest) a w:=by
 refine wpList_plain hg fun K' hK'=>?_
 have hrun:=run_range_map (P:=P) w t k e b es clock ht hb
 unfold Oper.wp
 simp [execOp,hop,hm,hrun,Result.andThen]
 exact hK' _ _ hK
theorem Zlz (hg : o.guard=none) (it : Operand) (hop : o.op=Op.next it false) (b r since c0 clock : Nat) (seen : Array Nat) (es : Array MapEntry)
  (hit : a.eval it=.pointer (some ⟨r,0,none⟩)) (hr : w.heap[r]?=some (.mapIter (some b) since seen c0)) (hb : w.heap[b]?=some (.map es clock)) (hst : Go.MapKept.Stamped es clock) (hsince : since=clock) (hsc : since≤c0)
  (hDone : (∀ x∈es.toList,x.born∈seen)→wpList P ops Q rest (a.put o.dst (.tuple #[.bool false])) w)
  (hMore : ∀ (e : MapEntry) (w' : World),e∈es.toList→e.born∉seen→w'.heap[r]?=some (.mapIter (some b) since (seen.push e.born) clock)→(leftOf es (seen.push e.born)).size < (leftOf es seen).size→
   w.grownBy w' (some r)→w'.heap.size=w.heap.size→(Instr.entry (.pointer (some ⟨r,0,none⟩))).run P w'=.ok (.tuple #[e.key,e.val]) w'→wpList P ops Q rest (a.put o.dst (.tuple #[.bool true,e.key,e.val])) w') :
  wpList P ops Q (o :: rest) a w:=by
 refine wpList_plain hg fun K' hK'=>?_
 unfold Oper.wp
 have hold : ∀ x∈es.toList,x.born < since:=by rw [hsince];exact hst.1
 rcases run_next_at (P:=P) w o.type r b since c0 seen es clock hr hb hold hsc with ⟨h0,hrun⟩ | ⟨e,he,w1,hal,hrun⟩
 ·simp [execOp,hop,hit,hrun,Result.andThen]
  refine hK' _ _ (hDone fun x hx=>?_)
  have:=all_seen es seen h0 x hx
  simpa using this
 ·obtain ⟨hem,hes⟩:=mem_left he
  have hr1 : w1.heap[r]?=some (.mapIter (some b) since seen c0):=by rcases hal with rfl | rfl <;> exact hr
  have hb1 : w1.heap[b]?=some (.map es clock):=by rcases hal with rfl | rfl <;> exact hb
  have hset:=heap_set (o':=.mapIter (some b) since (seen.push e.born) clock) hr1
  have hne : r≠b:=by
   intro e1
   rw [e1,hb] at hr
   cases hr
  have hb' : (setBlock w1 r (.mapIter (some b) since (seen.push e.born) clock)).heap[b]?=some (.map es clock):=(hset.2 b (fun e1=>hne e1.symm)).trans hb1
  simp [execOp,hop,hit,hrun,Result.andThen]
  refine hK' _ _ (hMore e _ hem (by simpa using hes) hset.1 (left_shrinks es seen e he) ?_ ?_ (run_entry_at _ r b since seen es clock e hset.1 hb' hem ((stamped_iff es clock).1 hst).2.1))
  ·rcases hal with rfl | rfl <;> exact ⟨rfl,rfl,rfl,by simp [setBlock],fun i _ hi=>hset.2 i (fun e1=>hi (by rw [e1]))⟩
  ·rcases hal with rfl | rfl <;> simp [setBlock]
end
theorem Y7 {w : World} {o : Obj} {b : Nat} (h : b < w.heap.size) : (w.alloc o).heap[b]?=w.heap[b]?:=(MapKept.heap_alloc w o).2 b h
theorem ZpM {P : Program} {t kt e : TypeId} {k : List UInt8} {en : Array MapEntry} {ck ob : Nat} {W : World} (ht : P.underlying t=some (.map kt e)) (htk : tkT P kt=.str) (hb : W.heap[ob]?=some (.map en ck)) (hkeys : ∀ x∈en.toList,∃ k',x.key=strv k'∧k'≠k) (v : Value) :
  ∃ W2,(Instr.mapUpdate t (.map (some ob)) (strv k) v).run P W=.ok () W2∧W2=setB W ob (.map (en.push { key:=strv k,val:=v,born:=ck }) (ck+1)):=by
 have hok : okK (tkT P kt) (strv k)=true:=by rw [htk];rfl
 obtain ⟨d,hd,hsk,hchk⟩:=Zay hok
 have hE : ∀ l : List MapEntry,(∀ x∈l,∃ k',x.key=strv k'∧k'≠k)→Jm (fun _=>none) (l.map fun x=>(x.key,Value.tuple #[],x.born)) l∧∀ i,JY .str (strv k) (l.map fun x=>(x.key,Value.tuple #[],x.born)) i=some none:=by
  intro l
  induction l with
  | nil=>intro _;exact ⟨trivial,fun _=>rfl⟩
  | cons x l ih=>
   intro h
   obtain ⟨k',hk1,hk2⟩:=h x (by simp)
   obtain ⟨h1,h2⟩:=ih fun y hy=>h y (by simp [hy])
   refine ⟨⟨⟨by show Qv x.key=true;rw [hk1];rfl,rfl,.un,rfl⟩,h1⟩,fun i=>?_⟩
   have hs : ZbC .str (strv k) x.key=some (k==k'):=by rw [hk1];simp only [ZbC,strv,ZsC]
   simp only [List.map_cons,JY,hs]
   rw [show (k==k')=false by rw [beq_eq_false_iff_ne];exact Ne.symm hk2]
   exact h2 _
 obtain ⟨h1,h2⟩:=hE en.toList hkeys
 obtain ⟨r',h3,h4⟩:=YP (k:=strv k) hd 0 h1 (by rw [htk];exact h2 0)
 cases r' with
 | some p=>exact h4.elim
 | none=>
  refine ⟨_,?_,rfl⟩
  simp only [Instr.mapUpdate,Sem.run_bind,run_underlying ht,Result.andThen_ok,Jr hb,hchk,Jv hd h3,Yn hb]
structure CpR (w : World) (b r gb' ob : Nat) (es : Array MapEntry) (clock : Nat) (seen : Array Nat) (c0 : Nat) (en : Array MapEntry) (ck : Nat) (L : List (MapEntry × Nat)) (el : TypeId) (wr : World) : Prop where
 it : wr.heap[r]?=some (.mapIter (some b) clock seen c0)
 c0 : clock≤c0
 g : wr.heap[gb']?=some (.cells #[.map (some ob)] el (0,0))
 o : wr.heap[ob]?=some (.map en ck)
 st : Go.MapKept.Stamped en ck
 ent : en.toList.map (fun x=>(x.key,x.val))=L.map (fun p=>(p.1.key,Value.map (some p.2)))
 sn : L.map (·.1.born)=seen.toList
 mem : ∀ p∈L,p.1∈es.toList∧∃ sb ses sclk,p.1.val=.map (some sb)∧w.heap[sb]?=some (.map ses sclk)∧wr.heap[p.2]?=some (.map ses sclk)
 nod : (r :: gb' :: ob :: L.map (·.2)).Nodup
 ge : ∀ q∈r :: gb' :: ob :: L.map (·.2),w.heap.size≤q
 snod : seen.toList.Nodup
 bel : Below w.heap.size w wr
section
variable {w wr w1 : World} {b r g o : Nat} {es : Array MapEntry} {clock : Nat} {seen : Array Nat} {c0 : Nat} {en : Array MapEntry} {ck : Nat} {L : List (MapEntry × Nat)} {el : TypeId}
theorem CpR.lts (h : CpR w b r g o es clock seen c0 en ck L el wr) : r < wr.heap.size∧g < wr.heap.size∧o < wr.heap.size:=⟨(Array.getElem?_eq_some_iff.1 h.it).1,(Array.getElem?_eq_some_iff.1 h.g).1,(Array.getElem?_eq_some_iff.1 h.o).1⟩
theorem CpR.keys (h : CpR w b r g o es clock seen c0 en ck L el wr) (hst : Go.MapKept.Stamped es clock) {e : MapEntry} (he1 : e∈es.toList) (he2 : e.born∉seen) : ∀ x∈en.toList,x.key≠e.key:=fun x hx e4=>by
 have h3 : (x.key,x.val)∈L.map (fun p=>(p.1.key,Value.map (some p.2))):=by rw [← h.ent];exact List.mem_map.2 ⟨x,hx,rfl⟩
 obtain ⟨p,hp,h4⟩:=List.mem_map.1 h3
 simp only [Prod.mk.injEq] at h4
 obtain ⟨hm,_⟩:=h.mem p hp
 have h5 : p.1=e:=entry_eq_of_key ((stamped_iff es clock).1 hst).2.2 hm he1 (h4.1.trans e4)
 have : p.1.born∈seen.toList:=by rw [← h.sn];exact List.mem_map.2 ⟨p,hp,rfl⟩
 rw [h5] at this
 exact he2 (by simpa using this)
theorem CpR.next (h : CpR w b r g o es clock seen c0 en ck L el wr) (hst : Go.MapKept.Stamped es clock) {e : MapEntry} {sb sclk : Nat} {ses : Array MapEntry} (he1 : e∈es.toList) (he2 : e.born∉seen) (hev : e.val=.map (some sb)) (hsb : w.heap[sb]?=some (.map ses sclk))
  (hit : w1.heap[r]?=some (.mapIter (some b) clock (seen.push e.born) clock)) (hgr : wr.grownBy w1 (some r)) (hsz : w1.heap.size=wr.heap.size) :
  CpR w b r g o es clock (seen.push e.born) clock (en.push { key:=e.key,val:=.map (some wr.heap.size),born:=ck }) (ck+1) (L++[(e,wr.heap.size)]) el
   (setB (w1.alloc (.map ses sclk)).drew o (.map (en.push { key:=e.key,val:=.map (some wr.heap.size),born:=ck }) (ck+1))):=by
 obtain ⟨l1,l2,l3⟩:=h.lts
 have hnod:=h.nod
 simp only [List.nodup_cons,List.mem_cons,not_or] at hnod
 obtain ⟨⟨n1,n2,n3⟩,⟨n4,n5⟩,n6,n7⟩:=hnod
 generalize hX : Obj.map (en.push { key:=e.key,val:=.map (some wr.heap.size),born:=ck }) (ck+1)=X
 have hge:=h.ge
 have hLlt : ∀ p∈L,p.2 < wr.heap.size:=fun p hp=>by
  obtain ⟨_,sb',ses',sclk',h1,h2,h3⟩:=h.mem p hp
  exact (Array.getElem?_eq_some_iff.1 h3).1
 have keep : ∀ c,c < wr.heap.size→c≠o→c≠r→(setB (w1.alloc (.map ses sclk)).drew o X).heap[c]?=wr.heap[c]?:=fun c hc h1 h2=>by
  rw [Jq h1]
  show (w1.alloc (.map ses sclk)).heap[c]?=_
  rw [Y7 (by omega),hgr.block c hc (by simpa using h2)]
 have hk:=h.keys hst he1 he2
 have hst2:=(stamped_iff en ck).1 h.st
 refine ⟨?_,Nat.le_refl _,by rw [keep g l2 n4 (Ne.symm n1)];exact h.g,?_,?_,?_,?_,?_,?_,?_,?_,?_⟩
 ·rw [Jq n2]
  show (w1.alloc (.map ses sclk)).heap[r]?=_
  rw [Y7 (by omega)];exact hit
 ·rw [ZcK (by show o < (w1.alloc (.map ses sclk)).heap.size;simp;omega),hX]
 ·refine (stamped_iff _ _).2 ⟨fun x hx=>?_,?_,?_⟩
  ·rw [Array.toList_push,List.mem_append] at hx
   rcases hx with hx | hx
   ·exact Nat.lt_succ_of_lt (hst2.1 x hx)
   ·have : x={ key:=e.key,val:=.map (some wr.heap.size),born:=ck }:=by simpa using hx
    rw [this];exact Nat.lt_succ_self _
  ·rw [Array.toList_push,List.map_append,List.nodup_append]
   refine ⟨hst2.2.1,by simp,fun a ha c hc=>?_⟩
   have hc : c=ck:=by simpa using hc
   obtain ⟨x,hx,rfl⟩:=List.mem_map.1 ha
   have:=hst2.1 x hx
   omega
  ·rw [Array.toList_push,List.pairwise_append]
   refine ⟨hst2.2.2,by simp,fun x hx y hy=>?_⟩
   have : y={ key:=e.key,val:=.map (some wr.heap.size),born:=ck }:=by simpa using hy
   rw [this];exact hk x hx
 ·rw [Array.toList_push,List.map_append,List.map_append,h.ent];rfl
 ·rw [List.map_append,h.sn,Array.toList_push];rfl
 ·intro p hp
  rcases List.mem_append.1 hp with hp | hp
  ·obtain ⟨h1,sb',ses',sclk',h2,h4,h3⟩:=h.mem p hp
   have hp2 : p.2∈L.map (·.2):=List.mem_map.2 ⟨p,hp,rfl⟩
   exact ⟨h1,sb',ses',sclk',h2,h4,by rw [keep p.2 (hLlt p hp) (fun e1=>n6 (e1 ▸ hp2)) (fun e1=>n3 (e1 ▸ hp2))];exact h3⟩
  ·have : p=(e,wr.heap.size):=by simpa using hp
   subst this
   refine ⟨he1,sb,ses,sclk,hev,hsb,?_⟩
   rw [Jq (by show wr.heap.size≠o;omega)]
   show (w1.alloc (.map ses sclk)).heap[wr.heap.size]?=_
   rw [← hsz]
   exact (MapKept.heap_alloc w1 _).1
 ·have hnew : ∀ q∈r :: g :: o :: L.map (·.2),q≠wr.heap.size:=fun q hq=>by
   simp only [List.mem_cons] at hq
   rcases hq with rfl | rfl | rfl | hq
   ·omega
   ·omega
   ·omega
   ·obtain ⟨p,hp,rfl⟩:=List.mem_map.1 hq
    exact Nat.ne_of_lt (hLlt p hp)
  have : r :: g :: o :: (L++[(e,wr.heap.size)]).map (·.2)=(r :: g :: o :: L.map (·.2))++[wr.heap.size]:=by simp
  rw [this,List.nodup_append]
  refine ⟨h.nod,by simp,fun a ha c hc=>?_⟩
  have hc : c=wr.heap.size:=by simpa using hc
  rw [hc];exact hnew a ha
 ·intro q hq
  have : r :: g :: o :: (L++[(e,wr.heap.size)]).map (·.2)=(r :: g :: o :: L.map (·.2))++[wr.heap.size]:=by simp
  rw [this] at hq
  rcases List.mem_append.1 hq with hq | hq
  ·exact hge q hq
  ·have : q=wr.heap.size:=by simpa using hq
   rw [this];exact h.bel.size
 ·rw [Array.toList_push,List.nodup_append]
  refine ⟨h.snod,by simp,fun a ha c hc=>?_⟩
  have hc : c=e.born:=by simpa using hc
  rw [hc];rintro rfl;exact he2 (by simpa using ha)
 ·refine ⟨(show w1.os=_ from hgr.os.trans h.bel.os),(show w1.tape=_ from hgr.tape.trans h.bel.tape),(show w1.output=_ from hgr.output.trans h.bel.output),?_,fun i hi=>?_⟩
  ·rw [Zr2]
   show _≤(w1.alloc (.map ses sclk)).heap.size
   have:=h.bel.size
   simp;omega
  ·have ho:=hge o (by simp)
   have hr:=hge r (by simp)
   rw [keep i (Nat.lt_of_lt_of_le hi h.bel.size) (by omega) (by omega)]
   exact h.bel.block i hi
theorem CpR.left (h : CpR w b r g o es clock seen c0 en ck L el wr) (hb : w.heap[b]?=some (.map es clock)) : wr.heap[b]?=some (.map es clock)∧wr.rangeLeft b r=(leftOf es seen).size:=by
 have hbl : b < w.heap.size:=(Array.getElem?_eq_some_iff.1 hb).1
 have h1 : wr.heap[b]?=some (.map es clock):=(h.bel.block b hbl).trans hb
 refine ⟨h1,?_⟩
 simp only [World.rangeLeft,h1,h.it]
theorem CpR.perm (h : CpR w b r g o es clock seen c0 en ck L el wr) (hst : Go.MapKept.Stamped es clock) (hall : ∀ x∈es.toList,x.born∈seen) : (L.map (·.1)).Perm es.toList:=by
 have hst2:=(stamped_iff es clock).1 hst
 have n1 : (L.map (·.1)).Nodup:=by
  have : ((L.map (·.1)).map (·.born)).Nodup:=by rw [List.map_map];exact h.sn ▸ h.snod
  exact List.Pairwise.of_map _ (fun a b h e=>h (congrArg _ e)) this
 have n2 : es.toList.Nodup:=List.Pairwise.of_map _ (fun a b h e=>h (congrArg _ e)) hst2.2.1
 refine (List.perm_ext_iff_of_nodup n1 n2).2 fun x=>⟨fun hx=>?_,fun hx=>?_⟩
 ·obtain ⟨p,hp,rfl⟩:=List.mem_map.1 hx
  exact (h.mem p hp).1
 ·have h1 : x.born∈L.map (·.1.born):=by rw [h.sn];simpa using hall x hx
  obtain ⟨p,hp,h2⟩:=List.mem_map.1 h1
  have : p.1=x:=born_inj hst2.2.1 (h.mem p hp).1 hx h2
  exact List.mem_map.2 ⟨p,hp,this⟩
end
set_option maxRecDepth 100000 in
theorem Zvv (hCl : Zfa Tryz.prog 126) : Zqs Tryz.prog 94 where
 c:=⟨Tryz.f94,Tryz.func94,by kernel_rfl,by kernel_rfl⟩
 run:=fun w gb b es clock hgb hcell hb hst hks hvs=>by
  have hmm:=@run_makeMap Tryz.prog
  have hbl : b < w.heap.size:=(Array.getElem?_eq_some_iff.1 hb).1
  go_enter Tryz.func94,Tryz.ntmps94
  go_wp2_with (first
   | (at_range;refine ZkA _ rfl _ 96 rfl _ _ Tryz.underlying96 b es clock rfl ?_ ?_)
   | go_in)
  ·rw [Y7 (by simp;omega),Y7 hbl];exact hb
  ·go_frame
   have e1 : ((w.alloc (.map #[] 0)).alloc (.cells #[.map (some w.heap.size)] 98)).heap.size=w.heap.size+2:=by simp
   have e2 : (w.alloc (.map #[] 0)).heap.size=w.heap.size+1:=by simp
   rw [e1]
   try rw [e2]
   go_loopw [4,5] (fun _ _ wr=>∃ seen c0 en ck L,CpR w b (w.heap.size+2) (w.heap.size+1) w.heap.size es clock seen c0 en ck L 98 wr) (fun _ _ wr=>wr.rangeLeft b (w.heap.size+2))
   case atStart=>
    refine ⟨#[],clock,#[],0,[],?_⟩
    have hA:=fun (w : World) (o : Obj)=>(MapKept.heap_alloc w o).1
    refine ⟨?_,Nat.le_refl _,?_,?_,⟨by simp,by simp,by simp⟩,rfl,rfl,by simp,by simp,?_,by simp,?_⟩
    ·rw [← e1];exact hA _ _
    ·rw [Y7 (by rw [e1];omega),← e2];exact hA _ _
    ·rw [Y7 (by rw [e1];omega),Y7 (by rw [e2];omega)];exact hA _ _
    ·intro q hq
     simp only [List.map_nil,List.mem_cons,List.not_mem_nil,or_false] at hq
     omega
    ·exact (((Below.refl _ _).alloc (Nat.le_refl _) _).alloc (by rw [e2];omega) _).alloc (by rw [e1];omega) _
   case round=>
    obtain ⟨seen,c0,en,ck,L,hR⟩:=hrel
    go_wp2_with (first
     | (at_next;refine Zlz _ rfl _ rfl b (w.heap.size+2) clock c0 clock seen es rfl hR.it ?_ hst rfl hR.c0 ?_ ?_)
     | go_in)
    ·exact (hR.left hb).1
    ·intro hdone
     go_wp2
     go_ret
     have hp:=hR.perm hst (by simpa using hdone)
     have hnod:=hR.nod
     have hge:=hR.ge
     exact ⟨_,_,_,_,_,_,rfl,hR.g,hR.o,hR.st,hR.ent,hp,fun p hp=>(by obtain ⟨_,sb,ses,sclk,h1,h2,h3⟩:=hR.mem p hp;exact ⟨sb,h1,h3.trans h2.symm⟩),(List.nodup_cons.1 hnod).2,fun q hq=>hge q (List.mem_cons_of_mem _ hq),hR.bel⟩
    ·intro e w1 he1 he2 hit1 hlt hgr hsz hen
     go_upto_region 5 with fail
     have he1 : e∈es.toList:=by simpa using he1
     obtain ⟨sb,ses,sclk,hev,hsb⟩:=hvs e he1
     obtain ⟨k,hek⟩:=hks e he1
     obtain ⟨W2,hcg,hcg2,hsz1,hsb1,hmu,hW2⟩ : ∃ W2,w1.cell? ⟨w.heap.size+1,0,none⟩=some (.map (some w.heap.size))∧(w1.alloc (.map ses sclk)).cell? ⟨w.heap.size+1,0,none⟩=some (.map (some w.heap.size))∧w.heap.size+1 < wr.heap.size∧w1.heap[sb]?=some (.map ses sclk)∧
       (Instr.mapUpdate 96 (.map (some w.heap.size)) (strv k) (.map (some wr.heap.size))).run Tryz.prog (w1.alloc (.map ses sclk)).drew=.ok () W2∧W2=setB (w1.alloc (.map ses sclk)).drew w.heap.size (.map (en.push { key:=strv k,val:=.map (some wr.heap.size),born:=ck }) (ck+1)):=by
      have hw : w.heap.size < wr.heap.size:=(Array.getElem?_eq_some_iff.1 hR.o).1
      have hg1 : w1.heap[w.heap.size+1]?=some (.cells #[.map (some w.heap.size)] 98 (0,0)):=by
       rw [hgr.block _ (Array.getElem?_eq_some_iff.1 hR.g).1 (by simp)];exact hR.g
      have ho1 : w1.heap[w.heap.size]?=some (.map en ck):=by
       rw [hgr.block _ hw (by simp)];exact hR.o
      have hcg : w1.cell? ⟨w.heap.size+1,0,none⟩=some (.map (some w.heap.size)):=by
       rw [ZeK hg1];rfl
      have hsbl : sb < w.heap.size:=(Array.getElem?_eq_some_iff.1 hsb).1
      have hsb1 : w1.heap[sb]?=some (.map ses sclk):=by
       rw [hgr.block _ (by omega) (by simp;omega),hR.bel.block sb hsbl];exact hsb
      have hoD : (w1.alloc (.map ses sclk)).drew.heap[w.heap.size]?=some (.map en ck):=by
       show (w1.alloc (.map ses sclk)).heap[w.heap.size]?=_
       rw [Y7 (by omega)];exact ho1
      have hkn : ∀ x∈en.toList,∃ k',x.key=strv k'∧k'≠k:=fun x hx=>by
       have h3 : (x.key,x.val)∈L.map (fun p=>(p.1.key,Value.map (some p.2))):=by rw [← hR.ent];exact List.mem_map.2 ⟨x,hx,rfl⟩
       obtain ⟨p,hp,h4⟩:=List.mem_map.1 h3
       simp only [Prod.mk.injEq] at h4
       obtain ⟨hm,_⟩:=hR.mem p hp
       obtain ⟨k',hk'⟩:=hks p.1 hm
       refine ⟨k',by rw [← h4.1];exact hk',fun e4=>he2 ?_⟩
       have h5 : p.1=e:=entry_eq_of_key ((stamped_iff es clock).1 hst).2.2 hm he1 (by rw [hk',hek,e4])
       have : p.1.born∈seen.toList:=by rw [← hR.sn];exact List.mem_map.2 ⟨p,hp,rfl⟩
       rw [h5] at this
       simpa using this
      obtain ⟨W2,hmu,hW2⟩:=ZpM (P:=Tryz.prog) (t:=96) (k:=k) (v:=.map (some wr.heap.size)) Tryz.underlying96 (by kernel_rfl) hoD hkn
      have hs1 : w.heap.size+1 < wr.heap.size:=(Array.getElem?_eq_some_iff.1 hR.g).1
      have hg2 : (w1.alloc (.map ses sclk)).heap[w.heap.size+1]?=some (.cells #[.map (some w.heap.size)] 98 (0,0)):=by
       rw [Y7 (by omega)];exact hg1
      exact ⟨W2,hcg,by rw [ZeK hg2];rfl,hs1,hsb1,hmu,hW2⟩
     rw [hev,hek]
     go_region_with (first
      | (go_at_call 126;refine (hCl.some sb ses sclk _ ?_).mono ?_;exact hsb1;rintro e w' ⟨rfl,rfl⟩)
      | fail)
     ·have hN:=hR.next hst he1 he2 hev hsb hit1 hgr hsz
      rw [hek] at hN
      go_roundw
      case rel=>(repeat apply Exists.intro);exact ⟨⟨_,_,_,_,_,hN⟩,rfl⟩
      case measure=>rw [(hN.left hb).2,(hR.left hb).2];exact hlt
     ·have hN:=hR.next hst he1 he2 hev hsb hit1 hgr hsz
      rw [hek] at hN
      go_roundw
      case rel=>(repeat apply Exists.intro);exact ⟨⟨_,_,_,_,_,hN⟩,rfl⟩
      case measure=>rw [(hN.left hb).2,(hR.left hb).2];exact hlt
end Go.Proofs.YtnnehafmjfmbnaaGreatDoor.A

namespace Go.Proofs
open Go.RowKit Go.Maps Go.Sort Go.Shelf
def Tryz.cloneA_ren : Go.Shelf.Ren := ⟨fun | 5 => 92 | 7 => 124 | n => n, fun | 23 => 64 | 25 => 9 | 3 => 78 | 4 => 4 | 20 => 20 | n => n, fun | n => n⟩
theorem Tryz.cloneA : Go.Proofs.SlLaysW.n5 Tryz.prog Tryz.cloneA_ren := {
  mixed := by kernel_rfl
  f5 := ⟨Tryz.f92.name, by decide, Tryz.func92.trans (congrArg some (by kernel_rfl))⟩
  f7 := Tryz.func124.trans (congrArg some (by kernel_rfl))
  t4 := Tryz.underlying4
  a4 := Tryz.isAgg4
  z4 := Tryz.sizeOf4
  v4 := Tryz.zeroValue4
  t20 := Tryz.underlying20
  a20 := Tryz.isAgg20
  z20 := Tryz.sizeOf20
  v20 := Tryz.zeroValue20
  t23 := Tryz.underlying64
  a23 := Tryz.isAgg64
  z23 := Tryz.sizeOf64
  v23 := Tryz.zeroValue64 }
def Tryz.cloneB_ren : Go.Shelf.Ren := ⟨fun | 5 => 125 | 7 => 124 | n => n, fun | 23 => 93 | 25 => 9 | 3 => 9 | 4 => 4 | 20 => 20 | n => n, fun | n => n⟩
theorem Tryz.cloneB : Go.Proofs.SlLaysW.n5 Tryz.prog Tryz.cloneB_ren := {
  mixed := by kernel_rfl
  f5 := ⟨Tryz.f125.name, by decide, Tryz.func125.trans (congrArg some (by kernel_rfl))⟩
  f7 := Tryz.func124.trans (congrArg some (by kernel_rfl))
  t4 := Tryz.underlying4
  a4 := Tryz.isAgg4
  z4 := Tryz.sizeOf4
  v4 := Tryz.zeroValue4
  t20 := Tryz.underlying20
  a20 := Tryz.isAgg20
  z20 := Tryz.sizeOf20
  v20 := Tryz.zeroValue20
  t23 := Tryz.underlying93
  a23 := Tryz.isAgg93
  z23 := Tryz.sizeOf93
  v23 := Tryz.zeroValue93 }
def Tryz.cloneC_ren : Go.Shelf.Ren := ⟨fun | 5 => 126 | 7 => 124 | n => n, fun | 23 => 123 | 25 => 9 | 3 => 120 | 4 => 4 | 20 => 20 | n => n, fun | n => n⟩
theorem Tryz.cloneC : Go.Proofs.SlLaysW.n5 Tryz.prog Tryz.cloneC_ren := {
  mixed := by kernel_rfl
  f5 := ⟨Tryz.f126.name, by decide, Tryz.func126.trans (congrArg some (by kernel_rfl))⟩
  f7 := Tryz.func124.trans (congrArg some (by kernel_rfl))
  t4 := Tryz.underlying4
  a4 := Tryz.isAgg4
  z4 := Tryz.sizeOf4
  v4 := Tryz.zeroValue4
  t20 := Tryz.underlying20
  a20 := Tryz.isAgg20
  z20 := Tryz.sizeOf20
  v20 := Tryz.zeroValue20
  t23 := Tryz.underlying123
  a23 := Tryz.isAgg123
  z23 := Tryz.sizeOf123
  v23 := Tryz.zeroValue123 }
def Tryz.keysA_ren : Go.Shelf.Ren := ⟨fun | 7 => 96 | 10 => 129 | n => n, fun | 23 => 64 | 26 => 9 | 3 => 78 | 28 => 116 | 0 => 0 | 27 => 115 | 33 => 85 | 4 => 4 | n => n, fun | n => n⟩
theorem Tryz.keysA : Go.Proofs.SlLaysZ.n7 Tryz.prog Tryz.keysA_ren := {
  mixed := by kernel_rfl
  f7 := ⟨Tryz.f96.name, by decide, Tryz.func96.trans (congrArg some (by kernel_rfl))⟩
  f10 := ⟨Tryz.f129.name, by decide, Tryz.func129.trans (congrArg some (by kernel_rfl))⟩
  t0 := Tryz.underlying0
  a0 := Tryz.isAgg0
  z0 := Tryz.sizeOf0
  v0 := Tryz.zeroValue0
  t4 := Tryz.underlying4
  a4 := Tryz.isAgg4
  z4 := Tryz.sizeOf4
  v4 := Tryz.zeroValue4
  t23 := Tryz.underlying64
  a23 := Tryz.isAgg64
  z23 := Tryz.sizeOf64
  v23 := Tryz.zeroValue64
  t26 := Tryz.underlying9
  a26 := Tryz.isAgg9
  z26 := Tryz.sizeOf9
  v26 := Tryz.zeroValue9
  t27 := Tryz.underlying115
  a27 := Tryz.isAgg115
  z27 := Tryz.sizeOf115
  v27 := Tryz.zeroValue115
  t28 := Tryz.underlying116
  a28 := Tryz.isAgg116
  z28 := Tryz.sizeOf116
  v28 := Tryz.zeroValue116
  t33 := Tryz.underlying85
  a33 := Tryz.isAgg85
  z33 := Tryz.sizeOf85
  v33 := Tryz.zeroValue85 }
def Tryz.keysB_ren : Go.Shelf.Ren := ⟨fun | 7 => 135 | 10 => 143 | n => n, fun | 23 => 122 | 26 => 9 | 3 => 120 | 28 => 116 | 0 => 0 | 27 => 115 | 33 => 85 | 4 => 4 | n => n, fun | n => n⟩
theorem Tryz.keysB : Go.Proofs.SlLaysZ.n7 Tryz.prog Tryz.keysB_ren := {
  mixed := by kernel_rfl
  f7 := ⟨Tryz.f135.name, by decide, Tryz.func135.trans (congrArg some (by kernel_rfl))⟩
  f10 := ⟨Tryz.f143.name, by decide, Tryz.func143.trans (congrArg some (by kernel_rfl))⟩
  t0 := Tryz.underlying0
  a0 := Tryz.isAgg0
  z0 := Tryz.sizeOf0
  v0 := Tryz.zeroValue0
  t4 := Tryz.underlying4
  a4 := Tryz.isAgg4
  z4 := Tryz.sizeOf4
  v4 := Tryz.zeroValue4
  t23 := Tryz.underlying122
  a23 := Tryz.isAgg122
  z23 := Tryz.sizeOf122
  v23 := Tryz.zeroValue122
  t26 := Tryz.underlying9
  a26 := Tryz.isAgg9
  z26 := Tryz.sizeOf9
  v26 := Tryz.zeroValue9
  t27 := Tryz.underlying115
  a27 := Tryz.isAgg115
  z27 := Tryz.sizeOf115
  v27 := Tryz.zeroValue115
  t28 := Tryz.underlying116
  a28 := Tryz.isAgg116
  z28 := Tryz.sizeOf116
  v28 := Tryz.zeroValue116
  t33 := Tryz.underlying85
  a33 := Tryz.isAgg85
  z33 := Tryz.sizeOf85
  v33 := Tryz.zeroValue85 }
def Tryz.keysC_ren : Go.Shelf.Ren := ⟨fun | 7 => 142 | 10 => 158 | n => n, fun | 23 => 96 | 26 => 9 | 3 => 123 | 28 => 116 | 0 => 0 | 27 => 115 | 33 => 85 | 4 => 4 | n => n, fun | n => n⟩
theorem Tryz.keysC : Go.Proofs.SlLaysZ.n7 Tryz.prog Tryz.keysC_ren := {
  mixed := by kernel_rfl
  f7 := ⟨Tryz.f142.name, by decide, Tryz.func142.trans (congrArg some (by kernel_rfl))⟩
  f10 := ⟨Tryz.f158.name, by decide, Tryz.func158.trans (congrArg some (by kernel_rfl))⟩
  t0 := Tryz.underlying0
  a0 := Tryz.isAgg0
  z0 := Tryz.sizeOf0
  v0 := Tryz.zeroValue0
  t4 := Tryz.underlying4
  a4 := Tryz.isAgg4
  z4 := Tryz.sizeOf4
  v4 := Tryz.zeroValue4
  t23 := Tryz.underlying96
  a23 := Tryz.isAgg96
  z23 := Tryz.sizeOf96
  v23 := Tryz.zeroValue96
  t26 := Tryz.underlying9
  a26 := Tryz.isAgg9
  z26 := Tryz.sizeOf9
  v26 := Tryz.zeroValue9
  t27 := Tryz.underlying115
  a27 := Tryz.isAgg115
  z27 := Tryz.sizeOf115
  v27 := Tryz.zeroValue115
  t28 := Tryz.underlying116
  a28 := Tryz.isAgg116
  z28 := Tryz.sizeOf116
  v28 := Tryz.zeroValue116
  t33 := Tryz.underlying85
  a33 := Tryz.isAgg85
  z33 := Tryz.sizeOf85
  v33 := Tryz.zeroValue85 }
def Tryz.collA_ren : Go.Shelf.Ren := ⟨fun | 8 => 127 | 11 => 138 | n => n, fun | 26 => 9 | 28 => 116 | 24 => 30 | 0 => 0 | 33 => 85 | 4 => 4 | n => n, fun | n => n⟩
theorem Tryz.collA : Go.Proofs.SlLaysZ.n8 Tryz.prog Tryz.collA_ren := {
  mixed := by kernel_rfl
  f8 := ⟨Tryz.f127.name, by decide, Tryz.func127.trans (congrArg some (by kernel_rfl))⟩
  f11 := ⟨Tryz.f138.name, by decide, Tryz.func138.trans (congrArg some (by kernel_rfl))⟩
  t0 := Tryz.underlying0
  a0 := Tryz.isAgg0
  z0 := Tryz.sizeOf0
  v0 := Tryz.zeroValue0
  t24 := Tryz.underlying30
  a24 := Tryz.isAgg30
  z24 := Tryz.sizeOf30
  v24 := Tryz.zeroValue30
  t26 := Tryz.underlying9
  a26 := Tryz.isAgg9
  z26 := Tryz.sizeOf9
  v26 := Tryz.zeroValue9
  t28 := Tryz.underlying116
  a28 := Tryz.isAgg116
  z28 := Tryz.sizeOf116
  v28 := Tryz.zeroValue116
  i26 := by kernel_rfl }
def Tryz.sortA_ren : Go.Shelf.Ren := ⟨fun | 6 => 128 | 15 => 140 | 14 => 139 | 28 => 156 | 29 => 157 | 20 => 148 | 21 => 149 | 22 => 150 | 23 => 151 | 24 => 152 | 25 => 153 | 26 => 154 | 27 => 155 | 46 => 166 | 47 => 167 | 48 => 168 | 49 => 169 | 50 => 170 | 57 => 174 | n => n, fun | 22 => 30 | 24 => 9 | 25 => 118 | 3 => 3 | 39 => 157 | 0 => 0 | 53 => 170 | 55 => 172 | 4 => 4 | 46 => 163 | 45 => 162 | 50 => 167 | 5 => 5 | 9 => 9 | 66 => 177 | 70 => 181 | 76 => 185 | 77 => 186 | n => n, fun | n => n⟩
theorem Tryz.sortA : Go.Proofs.SlLaysF.n6 Tryz.prog Tryz.sortA_ren := {
  mixed := by kernel_rfl
  f6 := ⟨Tryz.f128.name, by decide, Tryz.func128.trans (congrArg some (by kernel_rfl))⟩
  f14 := ⟨Tryz.f139.name, by decide, Tryz.func139.trans (congrArg some (by kernel_rfl))⟩
  f15 := Tryz.func140.trans (congrArg some (by kernel_rfl))
  f20 := ⟨Tryz.f148.name, by decide, Tryz.func148.trans (congrArg some (by kernel_rfl))⟩
  f21 := ⟨Tryz.f149.name, by decide, Tryz.func149.trans (congrArg some (by kernel_rfl))⟩
  f22 := ⟨Tryz.f150.name, by decide, Tryz.func150.trans (congrArg some (by kernel_rfl))⟩
  f23 := ⟨Tryz.f151.name, by decide, Tryz.func151.trans (congrArg some (by kernel_rfl))⟩
  f24 := ⟨Tryz.f152.name, by decide, Tryz.func152.trans (congrArg some (by kernel_rfl))⟩
  f25 := ⟨Tryz.f153.name, by decide, Tryz.func153.trans (congrArg some (by kernel_rfl))⟩
  f26 := ⟨Tryz.f154.name, by decide, Tryz.func154.trans (congrArg some (by kernel_rfl))⟩
  f27 := ⟨Tryz.f155.name, by decide, Tryz.func155.trans (congrArg some (by kernel_rfl))⟩
  f28 := Tryz.func156.trans (congrArg some (by kernel_rfl))
  f29 := Tryz.func157.trans (congrArg some (by kernel_rfl))
  f46 := ⟨Tryz.f166.name, by decide, Tryz.func166.trans (congrArg some (by kernel_rfl))⟩
  f47 := Tryz.func167.trans (congrArg some (by kernel_rfl))
  f48 := Tryz.func168.trans (congrArg some (by kernel_rfl))
  f49 := ⟨Tryz.f169.name, by decide, Tryz.func169.trans (congrArg some (by kernel_rfl))⟩
  f50 := ⟨Tryz.f170.name, by decide, Tryz.func170.trans (congrArg some (by kernel_rfl))⟩
  f57 := ⟨Tryz.f174.name, by decide, Tryz.func174.trans (congrArg some (by kernel_rfl))⟩
  t0 := Tryz.underlying0
  a0 := Tryz.isAgg0
  z0 := Tryz.sizeOf0
  v0 := Tryz.zeroValue0
  t3 := Tryz.underlying3
  a3 := Tryz.isAgg3
  z3 := Tryz.sizeOf3
  v3 := Tryz.zeroValue3
  t4 := Tryz.underlying4
  a4 := Tryz.isAgg4
  z4 := Tryz.sizeOf4
  v4 := Tryz.zeroValue4
  t5 := Tryz.underlying5
  a5 := Tryz.isAgg5
  z5 := Tryz.sizeOf5
  v5 := Tryz.zeroValue5
  t9 := Tryz.underlying9
  a9 := Tryz.isAgg9
  z9 := Tryz.sizeOf9
  v9 := Tryz.zeroValue9
  t22 := Tryz.underlying30
  a22 := Tryz.isAgg30
  z22 := Tryz.sizeOf30
  v22 := Tryz.zeroValue30
  a24 := Tryz.isAgg9
  z24 := Tryz.sizeOf9
  t25 := Tryz.underlying118
  a25 := Tryz.isAgg118
  z25 := Tryz.sizeOf118
  v25 := Tryz.zeroValue118
  t39 := Tryz.underlying157
  a39 := Tryz.isAgg157
  z39 := Tryz.sizeOf157
  v39 := Tryz.zeroValue157
  t45 := Tryz.underlying162
  a45 := Tryz.isAgg162
  z45 := Tryz.sizeOf162
  v45 := Tryz.zeroValue162
  t46 := Tryz.underlying163
  a46 := Tryz.isAgg163
  z46 := Tryz.sizeOf163
  v46 := Tryz.zeroValue163
  t50 := Tryz.underlying167
  a50 := Tryz.isAgg167
  z50 := Tryz.sizeOf167
  v50 := Tryz.zeroValue167
  t53 := Tryz.underlying170
  a53 := Tryz.isAgg170
  z53 := Tryz.sizeOf170
  v53 := Tryz.zeroValue170
  t55 := Tryz.underlying172
  a55 := Tryz.isAgg172
  z55 := Tryz.sizeOf172
  v55 := Tryz.zeroValue172
  t66 := Tryz.underlying177
  a66 := Tryz.isAgg177
  z66 := Tryz.sizeOf177
  v66 := Tryz.zeroValue177
  t70 := Tryz.underlying181
  a70 := Tryz.isAgg181
  z70 := Tryz.sizeOf181
  v70 := Tryz.zeroValue181
  t76 := Tryz.underlying185
  a76 := Tryz.isAgg185
  z76 := Tryz.sizeOf185
  v76 := Tryz.zeroValue185
  t77 := Tryz.underlying186
  a77 := Tryz.isAgg186
  z77 := Tryz.sizeOf186
  v77 := Tryz.zeroValue186 }
end Go.Proofs
namespace Go.Proofs.YtnnehafmjfmbnaaGreatDoor.A
set_option linter.unusedVariables false
set_option linter.unusedSimpArgs false
open Go.RowKit Go.Maps Go.Sort Go.Shelf Go.Proofs
theorem clA : Zfa Tryz.prog 92 where
 c:=⟨Tryz.f92,Tryz.func92,by kernel_rfl,by kernel_rfl⟩
 nil:=fun w=>AnyW.maps_Clone_nil Tryz.cloneA w
 some:=fun b es clock w hb=>AnyW.maps_Clone Tryz.cloneA b es clock w hb
theorem clB : Zfa Tryz.prog 125 where
 c:=⟨Tryz.f125,Tryz.func125,by kernel_rfl,by kernel_rfl⟩
 nil:=fun w=>AnyW.maps_Clone_nil Tryz.cloneB w
 some:=fun b es clock w hb=>AnyW.maps_Clone Tryz.cloneB b es clock w hb
theorem clC : Zfa Tryz.prog 126 where
 c:=⟨Tryz.f126,Tryz.func126,by kernel_rfl,by kernel_rfl⟩
 nil:=fun w=>AnyW.maps_Clone_nil Tryz.cloneC w
 some:=fun b es clock w hb=>AnyW.maps_Clone Tryz.cloneC b es clock w hb
def ZgA (x y : List UInt8) : Int:=if x < y then -1 else if y < x then 1 else 0
theorem Zt3 (x : List UInt8) (w : World) : Calls Tryz.prog 141 #[encStr x] w fun e w'=>e=.returned (.bool false)∧w'=w:=by
 go_enter Tryz.func141,Tryz.ntmps141
 go_wp2
 go_ret
 exact ⟨by simp,rfl⟩
theorem Zk3 (x y : List UInt8) : x < y∨x=y∨y < x:=by
 by_cases h : x < y
 ·exact .inl h
 ·by_cases h2 : y < x
  ·exact .inr (.inr h2)
  ·exact .inr (.inl (List.le_antisymm h2 h))
theorem ZrP (x y : List UInt8) (w : World) : Calls Tryz.prog 130 #[encStr x,encStr y] w fun e w'=>e=.returned (.int .i64 (ZgA x y))∧w'=w:=by
 have e141 : ∀ args w,(callFunc 141 args).run Tryz.prog w=.ok (.enter 141 args) w:=enters_of Tryz.func141 (by kernel_rfl) rfl
 have hb : Op.bytesLess x y=decide (x < y):=bytesLess_eq x y
 have ht:=Zk3 x y
 have hn : ∀ a : List UInt8,¬ a < a:=fun a=>List.lt_irrefl a
 have has : x < y→¬ y < x:=fun h=>List.lt_asymm h
 go_enter Tryz.func130,Tryz.ntmps130
 go_wp2_with (go_at_call 141;refine (Zt3 _ _).mono ?_;rintro e w' ⟨rfl,hw⟩;rw [hw])
 all_goals (go_ret;refine ⟨?_,rfl⟩;unfold ZgA;rw [hb] at *;by_cases h1 : x < y <;> by_cases h2 : y < x <;> simp_all <;> exact absurd h2 (List.lt_irrefl _))
theorem ZnH (x y : List UInt8) (w : World) : Calls Tryz.prog 97 #[encStr x,encStr y] w fun e w'=>e=.returned (.int .i64 (ZgA x y))∧w'=w:=by
 have e130 : ∀ args w,(callFunc 130 args).run Tryz.prog w=.ok (.enter 130 args) w:=enters_of Tryz.func130 (by kernel_rfl) rfl
 go_enter Tryz.func97,Tryz.ntmps97
 go_wp2_with (go_at_call 130;refine (ZrP _ _ _).mono ?_;rintro e w' ⟨rfl,hw⟩;rw [hw])
 go_ret
 exact ⟨rfl,rfl⟩
theorem ZtO (blk off size : Nat) (w : World) : CmpLays1 Tryz.prog 97 #[] encStr ZgA blk off size w:=fun m os dk hd x y=>
 (ZnH x y _).mono fun e w' ⟨he,hw⟩=>⟨he,0,#[],by rw [hw];simp [grow,World.drewN]⟩
theorem ZfC (x y : List UInt8) : ltOf ZgA x y=decide (x < y):=by
 unfold ltOf ZgA
 by_cases h1 : x < y
 ·simp [h1]
 ·by_cases h2 : y < x <;> simp [h1,h2]
theorem Zv2 : SWO (ltOf ZgA) where
 irrefl x:=by rw [ZfC];exact decide_eq_false (List.lt_irrefl x)
 trans x y z h1 h2:=by rw [ZfC] at *;simp only [decide_eq_true_eq] at *;exact List.lt_trans h1 h2
 ntrans x y z h1 h2:=by
  rw [ZfC] at *
  simp only [decide_eq_false_iff_not] at *
  exact List.le_trans h2 h1
theorem ZrM {ss : List (List UInt8)} {d' : Array (List UInt8)} (hp : PermIn 0 ss.toArray.size ss.toArray d') (hs : SortedIn (ltOf ZgA) 0 ss.toArray.size d') : d'=(ss.mergeSort fun x y=>decide (x≤y)).toArray:=by
 have hsz : d'.size=ss.length:=by simpa using hp.1
 have hperm : d'.toList.Perm ss:=by
  have h3 : d'.toList.Perm (ss.take d'.size):=by simpa [← hsz] using hp.2.2
  rwa [List.take_of_length_le (by omega)] at h3
 have hpw : d'.toList.Pairwise fun x y=>(decide (x≤y))=true:=by
  rw [List.pairwise_iff_getElem]
  intro i j hi hj hij
  have hi' : i < d'.size:=by simpa using hi
  have hj' : j < d'.size:=by simpa using hj
  have:=hs i j (Nat.zero_le _) hij (by simpa [hsz] using hj')
  rw [ZfC,getElem!_pos d' j hj',getElem!_pos d' i hi'] at this
  simp only [decide_eq_false_iff_not] at this
  simp only [Array.getElem_toList,decide_eq_true_eq]
  exact this
 have h1 : d'.toList.mergeSort (fun x y=>decide (x≤y))=d'.toList:=List.mergeSort_of_pairwise hpw
 have h2:=mergeSort_of_perm hperm
 apply Array.ext'
 rw [← h1]
 exact h2
theorem ZsP {g : FuncId} {args : List Value} {v : Value} {n : Nat} (hg : g < ZaN) (hc : ZbI Tryz.prog g) (hx : ∀ w : World,RVs (ι0 Tryz.prog.globals.size) args args) (hrun : ∃ H',run Tryz.prog (fun _=>none) lvs n g args (List.replicate Tryz.prog.globals.size Zf.dead)=some (v,H')) (w : World) :
  Calls Tryz.prog g args.toArray w fun e w'=>∃ v',e=.returned v'∧Go.RowKit.Below w.heap.size w w':=by
 obtain ⟨H',hrun⟩:=hrun
 have hs:=Zfz (P:=Tryz.prog) (prim:=fun _=>none) (lvs:=lvs) (by kernel_rfl) (fun b g m h=>by cases h) n (b0 w) g args _ v H' hrun
 rcases hs with ⟨_,hC | ⟨e,⟨fn',h1,_,h2,_⟩,_⟩⟩ | ⟨hno,_⟩
 ·obtain ⟨_,hC⟩:=hC
  refine (hC (ι0 Tryz.prog.globals.size) w args ZvB (hx w)).mono fun e w' ⟨ι1,v',_,he,_,hS⟩=>⟨v',he,?_⟩
  exact ⟨hS.rest.1,hS.rest.2.1,hS.rest.2.2,hS.size,hS.old⟩
 ·obtain ⟨fn,h3,_,h4⟩:=hc
  rw [h3] at h1;cases h1
  rw [h4] at h2;cases h2
 ·exact absurd hg (Nat.not_lt_of_le hno)
noncomputable abbrev R0 (n : Nat) : Zd:=run Tryz.prog (fun _=>none) lvs n
section
variable {H : Zc} {n : Nat} {f : Value}
theorem ZvH : R0 (n+1) Q3 [.slice none 0 0,iv 0,iv 0,f] H=some (.tuple #[],H):=by
 rw [R0,ZbV rfl]
 unfold ZX
 have w1 : IntKind.i64.wrap (0+1)=1:=w64 (by omega) (by omega)
 rw [Za ZA,w1]
 refine (QW (j:=0) (vs:=[]) (H':=H) (Z4 ?_)).trans ?_
 ·simp [ZX.l1,↓ZV,ZW,↓Qs,Z8,Z9,Qa,↓Zb,JN,Zu,Yl,Qg,Jo,Qk,Jp,Js,QG,Jy,QF,QL,QR,QQ,Jt,Zo,Zx,YJ,YA,Ja,QV,JS,ZA,Jc,JP,JR,JC,Zy,Zt,Zq,QU,QC,Qc,Ji,JD,JJ,JT,↓YK,JQ,↓g_r,YH,Bool.not_true,Bool.not_false,Bool.false_eq_true,Bool.true_eq_false,reduceIte,List.tail_cons,List.headD_cons,decide_true,decide_false,cond_true,cond_false,Nat.beq_refl,KD,Kb,Qy,Z7,ZK,Qz,JH,Jf,Ka,Kc,Yc,Yv,Yw,ZM,List.replicate,Zn,Zm,Q5,Q7,Q6,Zg,JB,ZJ,ZO]
 ·rw [ZM];rfl
theorem Zvy {l : Value} : R0 (n+2) QJ [.slice none 0 0,iv 0,iv 0,l,f] H=some (.tuple #[],H):=by
 have e1 : run Tryz.prog (fun _=>none) lvs (n+1) Q3 [.slice none 0 0,iv 0,iv 0,f] H=_:=ZvH
 rw [R0,Zdb rfl]
 unfold Jh
 refine (KF (v:=.tuple #[]) (H':=H) (Yy ?_)).trans rfl
 have w1 : IntKind.i64.wrap (0 - 0)=0:=w64 (by omega) (by omega)
 rw [Jf]
 unfold Jh.l1
 refine KF ?_
 rw [Za Jc,w1,Za QU,Zb,if_pos (by simp),Za e1]
 rfl
theorem Zt1 {s : ByteArray} {i : Nat} (hi : i < s.size) (q : IntKind) (H : Zc) : ∃ b : UInt8,ixs (.string s) (.int q i) H=some (.int .u8 b.toNat,H):=by
 refine ⟨s[i],?_⟩
 unfold ixs
 simp only [Int.toNat_natCast]
 rw [if_pos (by omega),getElem?_pos s i hi]
set_option maxRecDepth 100000 in
theorem ZvA : ∃ v,R0 (n+2) Zct [.int .u64 0] H=some (v,H):=by
 have e : ∃ v,R0 (n+1) Zbx [.int .u64 0] H=some (v,H):=by
  rw [R0,Zjv rfl]
  unfold Zdi
  have w1 : IntKind.u8.wrap 0=((0 : Nat) : Int):=by rw [wu8];rfl
  generalize ht : (⟨#[0,1,2,2,3,3,3,3,4,4,4,4,4,4,4,4,5,5,5,5,5,5,5,5,5,5,5,5,5,5,5,5,6,6,6,6,6,6,6,6,6,6,6,6,6,6,6,6,6,6,6,6,6,6,6,6,6,6,6,6,6,6,6,6,7,7,7,7,7,7,7,7,7,7,7,7,7,7,7,7,7,7,7,7,7,7,7,7,7,7,7,7,7,7,7,7,7,7,7,7,7,7,7,7,7,7,7,7,7,7,7,7,7,7,7,7,7,7,7,7,7,7,7,7,7,7,7,7,8,8,8,8,8,8,8,8,8,8,8,8,8,8,8,8,8,8,8,8,8,8,8,8,8,8,8,8,8,8,8,8,8,8,8,8,8,8,8,8,8,8,8,8,8,8,8,8,8,8,8,8,8,8,8,8,8,8,8,8,8,8,8,8,8,8,8,8,8,8,8,8,8,8,8,8,8,8,8,8,8,8,8,8,8,8,8,8,8,8,8,8,8,8,8,8,8,8,8,8,8,8,8,8,8,8,8,8,8,8,8,8,8,8,8,8,8,8,8,8,8,8,8,8,8,8,8,8]⟩ : ByteArray)=tab
  have hs : tab.size=256:=by rw [← ht];rfl
  obtain ⟨b,hb⟩:=Zt1 (s:=tab) (i:=0) (by omega) .u8 H
  refine ⟨iv (IntKind.i64.wrap (0+IntKind.i64.wrap b.toNat)),?_⟩
  rw [Za Qc]
  refine (ZY (vs:=[.int .u64 0,iv 0]) (H':=H) (by rw [Zb,if_neg (by simp)];rfl)).trans ?_
  rw [Qy,Za Qc]
  refine (ZY (vs:=[.int .u64 0,iv 0]) (H':=H) (by rw [Zb,if_neg (by simp)];rfl)).trans ?_
  rw [Qy,Za Qc]
  refine (ZY (vs:=[.int .u64 0,iv 0]) (H':=H) (by rw [Zb,if_neg (by simp)];rfl)).trans ?_
  rw [Qy,Za Jt,w1,Za hb,Za Jt,Za ZA]
  rfl
 obtain ⟨v,e⟩:=e
 refine ⟨v,?_⟩
 rw [R0,Zlw rfl]
 unfold Zeq
 rw [Zb,if_neg (by simp),Za e]
 rfl
theorem Zuh : R0 (n+3) KO [.slice none 0 0,f] H=some (.tuple #[],H):=by
 obtain ⟨v,e1⟩:=ZvA (n:=n) (H:=H)
 have e2 : R0 (n+2) QJ [.slice none 0 0,iv 0,iv 0,v,f] H=some (.tuple #[],H):=Zvy
 rw [R0,Zdu rfl]
 unfold KM
 have w1 : IntKind.u64.wrap ((0 : Nat) : Int)=0:=by rw [Zv1];rfl
 rw [Za QR,Za Jt,w1,Za e1]
 refine (Za e2).trans rfl
end
theorem Zs1 (w : World) : Calls Tryz.prog 128 #[.slice none 0 0,.func (.func 97) #[] #[]] w fun e w'=>∃ v',e=.returned v'∧Go.RowKit.Below w.heap.size w w':=
 ZsP (args:=[.slice none 0 0,.func (.func 97) #[] #[]]) (n:=3) (by decide) ⟨Tryz.f128,Tryz.func128,by kernel_rfl,by kernel_rfl⟩ (fun w=>.cons (.sc rfl) (.cons (.fn (fun l h=>by cases h) rfl (fun i hi=>by cases hi) rfl (fun i hi=>by cases hi)) .nil)) ⟨_,Zuh (n:=0)⟩ w
theorem ZgP {gk : FuncId} (hg : ∀ args w,(callFunc gk args).run Tryz.prog w=.ok (.enter gk args) w)
  (hseq : ∀ (w : World) (Bm b : Nat) (es : Array MapEntry) (clock : Nat) (ks : List (List UInt8)),Bm < w.heap.size→w.cell? ⟨Bm,0,none⟩=some (.map (some b))→w.heap[b]?=some (.map es clock)→es.toList.map (·.key)=ks.map strv→Go.MapKept.Stamped es clock→
   (∀ k∈ks,k.length≤1000000)→ks.length≤1000000→SeqGives Fence.wide 3 Tryz.prog gk #[.pointer (some ⟨Bm,0,none⟩)] encStr (fun ss=>ss.Perm ks) ks.length w) : Zf7 Tryz.prog 95 gk 97 where
 c:=⟨Tryz.f95,Tryz.func95,by kernel_rfl,by kernel_rfl⟩
 run:=fun w Bm b es clock ks hB hc hb hk hst hl hf=>by
  have e128 : ∀ args w,(callFunc 128 args).run Tryz.prog w=.ok (.enter 128 args) w:=enters_of Tryz.func128 (by kernel_rfl) rfl
  have e97 : ∀ args w,(callFunc 97 args).run Tryz.prog w=.ok (.enter 97 args) w:=enters_of Tryz.func97 (by kernel_rfl) rfl
  have hmax : ks.length≤maxLen:=Nat.le_trans hf (by decide)
  have cC:=AnyZ.collect_in Tryz.collA Fence.wide 5 trivial trivial rfl (by omega) gk #[.pointer (some ⟨Bm,0,none⟩)] trivial hg _ _ hmax (by omega) w (hseq w Bm b es clock ks hB hc hb hk hst hl hf)
  have cC:=(callsIn_wide (n:=5)).1 cC
  change Calls Tryz.prog 127 _ _ _ at cC
  go_enter Tryz.func95,Tryz.ntmps95
  go_wp2_with (go_at_call 127;refine cC.mono ?_;rintro e W ⟨v,ss,rfl,hS,hrow,hnil,hbl⟩)
  have hlen : ss.length=ks.length:=hS.length_eq
  rcases hrow.2 with ⟨rfl,hz⟩ | ⟨gb,cap,cur,rfl,hbase,hgb,r1,r2,r3,r4⟩
  ·have hss : ss=[]:=List.eq_nil_of_length_eq_zero hz
   go_wp2_with (go_at_call 128;refine (Zs1 W).mono ?_;rintro e w' ⟨v',rfl,hb2⟩)
   go_ret
   have hks : ks=[]:=List.eq_nil_of_length_eq_zero (by rw [← hlen,hss];rfl)
   subst hks
   exact ⟨_,0,rfl,⟨by simp [Ye],.inl ⟨rfl,rfl⟩⟩,by simp,hbl.trans (hb2.mono (by have:=hbl.size;omega))⟩
  ·have hH : Holds encStr W gb 0 ss.toArray:=holds_of_block hgb (by simpa using r4)
   have hgl : gb < W.heap.size:=(Array.getElem?_eq_some_iff.1 hgb).1
   have cS:=Any.slices_SortFunc Tryz.sortA encStr (fun _=>rfl) ZgA Zv2 97 #[] gb 0 cap ss.toArray W e97 (ZtO gb 0 _ W) hH hgl (by simp;omega)
   change Calls Tryz.prog 128 #[.slice (some ⟨gb,0,none⟩) ss.length cap,.func (.func 97) #[] #[]] W _ at cS
   go_wp2_with (go_at_call 128;refine cS.mono ?_;rintro e w' ⟨rfl,d',nn,os,hp,hs,rfl⟩)
   go_ret
   have hd:=ZrM hp hs
   subst hd
   have hks : Ye ks=ss.mergeSort (fun x y=>decide (x≤y)):=(mergeSort_of_perm hS).symm
   rw [← hlen,hks]
   exact ⟨_,_,rfl,ownsRow_sorted (by simp) hbase hgb r1 r2 r3,hnil.trans ⟨fun h=>List.eq_nil_of_length_eq_zero (by rw [← hlen,h];rfl),fun h=>List.eq_nil_of_length_eq_zero (by rw [hlen,h];rfl)⟩,hbl.grown (grownBy_sorted _) hbl.size (fun j hj=>by cases hj;exact hbase)⟩
section
variable {H : Type}
def Zpy (v : Value) : Option (DataW H × List MemPlace):=some (.nil,[])
theorem Zoj {P : Program} {k : TypeId} (hk : P.underlying k=some .string) {w : World} {b clock : Nat} {es : Array MapEntry} {ks : List (List UInt8)} (hb : w.heap[b]?=some (.map es clock)) (hks : es.toList.map (·.key)=ks.map strv) (hst : Go.MapKept.Stamped es clock)
  (hl : ∀ k∈ks,k.length≤1000000) (hf : ks.length≤1000000) : ∃ D0 : DataW H,w.ownsMap P k Zpy b ks.length D0∧ks.Perm (strKeys D0)∧Maps.size D0=ks.length:=by
 have hsz : es.size=ks.length:=by
  have:=congrArg List.length hks
  simpa using this
 have hrd : ∀ (x : MapEntry) (s : List UInt8),x.key=strv s→s.length≤1000000→Go.WideElems.rd (H:=H) P k Zpy x=some (.string s,.nil):=fun x s hs hlen=>by
  have h1 : (⟨s.toArray⟩ : ByteArray).size≤maxLen:=Nat.le_trans (by simpa [ByteArray.size] using hlen) (by decide)
  simp [Go.WideElems.rd,hs,keyOf,hk,mapKey,Zpy,h1,strv]
 have hmap : ∀ (l : List MapEntry) (q : List (List UInt8)),l.map (·.key)=q.map strv→(∀ s∈q,s.length≤1000000)→l.map (Go.WideElems.rg (H:=H) P k Zpy)=q.map fun s=>(Lit.string s,DataW.nil):=by
  intro l
  induction l with
  | nil=>intro q h _;cases q with | nil=>rfl | cons a q=>simp at h
  | cons x l ih=>
   intro q h hq
   cases q with
   | nil=>simp at h
   | cons a q=>
    simp only [List.map_cons,List.cons.injEq] at h
    rw [List.map_cons,List.map_cons,ih q h.2 (fun s hs=>hq s (List.mem_cons_of_mem _ hs))]
    congr 1
    unfold Go.WideElems.rg
    rw [hrd x a h.1 (hq a (by simp))]
    rfl
 refine ⟨.map ((es.toList.map (Go.WideElems.rg P k Zpy)).foldr DataW.insert []),⟨es,clock,hb,⟨by rw [hsz];exact Nat.le_trans hf (by decide),hst,fun x hx=>?_⟩,by omega,rfl⟩,?_,?_⟩
 ·have : x.key∈ks.map strv:=by rw [← hks];exact List.mem_map.2 ⟨x,hx,rfl⟩
  obtain ⟨s,h1,h2⟩:=List.mem_map.1 this
  exact ⟨_,hrd x s h2.symm (hl s h1)⟩
 ·rw [hmap _ _ hks hl]
  have h1:=(Go.WideShapes.sorted_perm (H:=H) (ks.map fun s=>(Lit.string s,DataW.nil))).map fun p=>Go.strOf p.1
  have h2 : (ks.map fun s=>(Lit.string s,(DataW.nil : DataW H))).map (fun p=>Go.strOf p.1)=ks:=by
   rw [List.map_map];exact (List.map_congr_left fun a _=>rfl).trans (List.map_id ks)
  rw [h2] at h1
  exact h1.symm
 ·rw [hmap _ _ hks hl]
  have:=(Go.WideShapes.sorted_perm (H:=H) (ks.map fun s=>(Lit.string s,DataW.nil))).length_eq
  rw [List.length_map] at this
  exact this
end
theorem ZkG {g Bm n : Nat} {ks ks' : List (List UInt8)} {w : World} (h : SeqGives Fence.wide 3 Tryz.prog g #[.pointer (some ⟨Bm,0,none⟩)] encStr (fun ss=>ss.Perm ks') n w) (hn : n=ks.length) (hp : ks.Perm ks') : SeqGives Fence.wide 3 Tryz.prog g #[.pointer (some ⟨Bm,0,none⟩)] encStr (fun ss=>ss.Perm ks) ks.length w:=by
 subst hn
 intro l J W hW hJ hY h0
 refine (h l J W hW hJ hY h0).mono fun e w' ⟨h1,xs,h2,h3⟩=>⟨h1,xs,h2.trans hp.symm,h3⟩
theorem keysA : Zf7 Tryz.prog 95 129 97:=ZgP (enters_of Tryz.func129 (by kernel_rfl) rfl) fun w Bm b es clock ks hB hc hb hk hst hl hf=>by
 obtain ⟨D0,hown,hp,hs⟩:=Zoj (H:=Unit) (P:=Tryz.prog) (k:=Tryz.keysA_ren.t 26) (by kernel_rfl) hb hk hst hl hf
 exact ZkG (AnyZ.keys_gives (ρ:=Tryz.keysA_ren) { Tryz.keysA with } Fence.wide 3 trivial rfl (by omega) Bm b ks.length D0 w hB hc hown) hs hp
theorem keysB : Zf7 Tryz.prog 95 143 97:=ZgP (enters_of Tryz.func143 (by kernel_rfl) rfl) fun w Bm b es clock ks hB hc hb hk hst hl hf=>by
 obtain ⟨D0,hown,hp,hs⟩:=Zoj (H:=Unit) (P:=Tryz.prog) (k:=Tryz.keysB_ren.t 26) (by kernel_rfl) hb hk hst hl hf
 exact ZkG (AnyZ.keys_gives (ρ:=Tryz.keysB_ren) { Tryz.keysB with } Fence.wide 3 trivial rfl (by omega) Bm b ks.length D0 w hB hc hown) hs hp
theorem keysC : Zf7 Tryz.prog 95 158 97:=ZgP (enters_of Tryz.func158 (by kernel_rfl) rfl) fun w Bm b es clock ks hB hc hb hk hst hl hf=>by
 obtain ⟨D0,hown,hp,hs⟩:=Zoj (H:=Unit) (P:=Tryz.prog) (k:=Tryz.keysC_ren.t 26) (by kernel_rfl) hb hk hst hl hf
 exact ZkG (AnyZ.keys_gives (ρ:=Tryz.keysC_ren) { Tryz.keysC with } Fence.wide 3 trivial rfl (by omega) Bm b ks.length D0 w hB hc hown) hs hp
abbrev ZhR : List Nat:=[129,143,158]
noncomputable def np : Nat→Option (List Value→M Value)
 | 92=>some ZaM
 | 125=>some ZaM
 | 126=>some ZaM
 | 94=>some Zgi
 | 95=>some (Zc0 ZhR KC)
 | 171=>some Zg9
 | 165=>some Zhk
 | _=>none
theorem np_sound (w0 : Z5) : ∀ g m,np g=some m→Zec Tryz.prog Tryz.prog.globals.size w0 g m:=by
 intro g m h
 unfold np at h
 split at h
 ·cases h;exact Zf1 clA
 ·cases h;exact Zf1 clB
 ·cases h;exact Zf1 clC
 ·cases h;exact ZqW (Zvv clC)
 ·cases h
  exact Zqb (by simp) fun gk hg=>by
   simp only [List.mem_cons,List.not_mem_nil,or_false] at hg
   rcases hg with rfl | rfl | rfl
   ·exact keysA
   ·exact keysB
   ·exact keysC
 ·cases h;exact (Zq7 ⟨Tryz.f171,Tryz.func171,by kernel_rfl,by kernel_rfl,by kernel_rfl,by kernel_rfl⟩)
 ·cases h;exact (Zrs ⟨Tryz.f165,Tryz.func165,by kernel_rfl,by kernel_rfl,by kernel_rfl,by kernel_rfl⟩)
 ·cases h
noncomputable abbrev R (n : Nat) : Zd:=run Tryz.prog np lvs n
end Go.Proofs.YtnnehafmjfmbnaaGreatDoor.A

namespace Go.Proofs.YtnnehafmjfmbnaaGreatDoor.A
set_option linter.unusedVariables false
set_option linter.unusedSimpArgs false
open Go.Proofs Go.Proofs.YtnnehafmjfmbnaaGreatDoor
abbrev u8v (b : UInt8) : Value:=.int .u8 b.toNat
def KA (b : UInt8) : Bool:=decide (97≤b.toNat) && decide (b.toNat≤122)
def ZbX (b : UInt8) : Bool:=decide (48≤b.toNat) && decide (b.toNat≤57)
def ZeH (b : UInt8) : Bool:=KA b || (ZbX b || (decide (b.toNat=45) || decide (b.toNat=46)))
def Zi1 (b : UInt8) : Bool:=ZbX b || (decide (97≤b.toNat) && decide (b.toNat≤102))
def K1 (b : UInt8) : Bool:=KA b || ZbX b
def Zr (s : List UInt8) : Bool:=decide (1≤s.length) && decide (s.length≤12) && s.all ZeH && KA (s.getD 0 0) && K1 (s.getD (s.length - 1) 0)
def Za7 (s : List UInt8) : Bool:=decide (1≤s.length) && decide (s.length≤12) && s.all Zi1
section
variable {H : Zc} {n : Nat} {b : UInt8} {s : List UInt8}
theorem Zbz {i : Nat} {x : UInt8} (hi : s[i]?=some x) (q : IntKind) (H : Zc) : ixs (strv s) (.int q i) H=some (u8v x,H):=by
 have hlt : i < s.length:=(List.getElem?_eq_some_iff.1 hi).1
 have hx : s[i]=x:=(List.getElem?_eq_some_iff.1 hi).2
 have hs : i < (⟨s.toArray⟩ : ByteArray).size:=by simpa [ByteArray.size] using hlt
 unfold ixs strv
 simp only [Int.toNat_natCast]
 rw [if_pos (by omega),getElem?_pos (⟨s.toArray⟩ : ByteArray) i hs]
 have : (⟨s.toArray⟩ : ByteArray)[i]=x:=by rw [← hx];rfl
 rw [this]
theorem ZgU : R (n+1) YE [u8v b] H=some (.bool (KA b),H):=by
 rw [R,Zmj rfl]
 unfold KA
 by_cases h1 : (97 : Int)≤b.toNat
 ·have h1' : 97≤b.toNat:=by omega
  by_cases h2 : (b.toNat : Int)≤122
  ·have h2' : b.toNat≤122:=by omega
   simp [ZbM,↓ZV,ZW,↓Qs,Z8,Z9,Qa,↓Zb,JN,Zu,Yl,Qg,Jo,Qk,Jp,Js,QG,Jy,QF,QL,QR,QQ,Jt,Zo,Zx,YJ,YA,Ja,QV,JS,ZA,Jc,JP,JR,JC,Zy,Zt,Zq,QU,QC,Qc,Ji,JD,JJ,JT,↓YK,JQ,↓g_r,YH,Bool.not_true,Bool.not_false,Bool.false_eq_true,Bool.true_eq_false,reduceIte,List.tail_cons,List.headD_cons,decide_true,decide_false,cond_true,cond_false,Nat.beq_refl,KD,Kb,Qy,Z7,ZK,Qz,JH,Jf,Ka,Kc,Yc,Yv,Yw,ZM,List.replicate,Zn,Zm,Q5,Q7,Q6,Zg,JB,ZJ,ZO,h1,h2,h1',h2']
  ·have h2' : ¬ b.toNat≤122:=by omega
   simp [ZbM,↓ZV,ZW,↓Qs,Z8,Z9,Qa,↓Zb,JN,Zu,Yl,Qg,Jo,Qk,Jp,Js,QG,Jy,QF,QL,QR,QQ,Jt,Zo,Zx,YJ,YA,Ja,QV,JS,ZA,Jc,JP,JR,JC,Zy,Zt,Zq,QU,QC,Qc,Ji,JD,JJ,JT,↓YK,JQ,↓g_r,YH,Bool.not_true,Bool.not_false,Bool.false_eq_true,Bool.true_eq_false,reduceIte,List.tail_cons,List.headD_cons,decide_true,decide_false,cond_true,cond_false,Nat.beq_refl,KD,Kb,Qy,Z7,ZK,Qz,JH,Jf,Ka,Kc,Yc,Yv,Yw,ZM,List.replicate,Zn,Zm,Q5,Q7,Q6,Zg,JB,ZJ,ZO,h1,h2,h1',h2']
 ·have h1' : ¬ 97≤b.toNat:=by omega
  simp [ZbM,↓ZV,ZW,↓Qs,Z8,Z9,Qa,↓Zb,JN,Zu,Yl,Qg,Jo,Qk,Jp,Js,QG,Jy,QF,QL,QR,QQ,Jt,Zo,Zx,YJ,YA,Ja,QV,JS,ZA,Jc,JP,JR,JC,Zy,Zt,Zq,QU,QC,Qc,Ji,JD,JJ,JT,↓YK,JQ,↓g_r,YH,Bool.not_true,Bool.not_false,Bool.false_eq_true,Bool.true_eq_false,reduceIte,List.tail_cons,List.headD_cons,decide_true,decide_false,cond_true,cond_false,Nat.beq_refl,KD,Kb,Qy,Z7,ZK,Qz,JH,Jf,Ka,Kc,Yc,Yv,Yw,ZM,List.replicate,Zn,Zm,Q5,Q7,Q6,Zg,JB,ZJ,ZO,h1,h1']
theorem Zi9 : R (n+1) YU [u8v b] H=some (.bool (ZbX b),H):=by
 rw [R,ZnL rfl]
 unfold ZbX
 by_cases h1 : (48 : Int)≤b.toNat
 ·have h1' : 48≤b.toNat:=by omega
  by_cases h2 : (b.toNat : Int)≤57
  ·have h2' : b.toNat≤57:=by omega
   simp [Zco,↓ZV,ZW,↓Qs,Z8,Z9,Qa,↓Zb,JN,Zu,Yl,Qg,Jo,Qk,Jp,Js,QG,Jy,QF,QL,QR,QQ,Jt,Zo,Zx,YJ,YA,Ja,QV,JS,ZA,Jc,JP,JR,JC,Zy,Zt,Zq,QU,QC,Qc,Ji,JD,JJ,JT,↓YK,JQ,↓g_r,YH,Bool.not_true,Bool.not_false,Bool.false_eq_true,Bool.true_eq_false,reduceIte,List.tail_cons,List.headD_cons,decide_true,decide_false,cond_true,cond_false,Nat.beq_refl,KD,Kb,Qy,Z7,ZK,Qz,JH,Jf,Ka,Kc,Yc,Yv,Yw,ZM,List.replicate,Zn,Zm,Q5,Q7,Q6,Zg,JB,ZJ,ZO,h1,h2,h1',h2']
  ·have h2' : ¬ b.toNat≤57:=by omega
   simp [Zco,↓ZV,ZW,↓Qs,Z8,Z9,Qa,↓Zb,JN,Zu,Yl,Qg,Jo,Qk,Jp,Js,QG,Jy,QF,QL,QR,QQ,Jt,Zo,Zx,YJ,YA,Ja,QV,JS,ZA,Jc,JP,JR,JC,Zy,Zt,Zq,QU,QC,Qc,Ji,JD,JJ,JT,↓YK,JQ,↓g_r,YH,Bool.not_true,Bool.not_false,Bool.false_eq_true,Bool.true_eq_false,reduceIte,List.tail_cons,List.headD_cons,decide_true,decide_false,cond_true,cond_false,Nat.beq_refl,KD,Kb,Qy,Z7,ZK,Qz,JH,Jf,Ka,Kc,Yc,Yv,Yw,ZM,List.replicate,Zn,Zm,Q5,Q7,Q6,Zg,JB,ZJ,ZO,h1,h2,h1',h2']
 ·have h1' : ¬ 48≤b.toNat:=by omega
  simp [Zco,↓ZV,ZW,↓Qs,Z8,Z9,Qa,↓Zb,JN,Zu,Yl,Qg,Jo,Qk,Jp,Js,QG,Jy,QF,QL,QR,QQ,Jt,Zo,Zx,YJ,YA,Ja,QV,JS,ZA,Jc,JP,JR,JC,Zy,Zt,Zq,QU,QC,Qc,Ji,JD,JJ,JT,↓YK,JQ,↓g_r,YH,Bool.not_true,Bool.not_false,Bool.false_eq_true,Bool.true_eq_false,reduceIte,List.tail_cons,List.headD_cons,decide_true,decide_false,cond_true,cond_false,Nat.beq_refl,KD,Kb,Qy,Z7,ZK,Qz,JH,Jf,Ka,Kc,Yc,Yv,Yw,ZM,List.replicate,Zn,Zm,Q5,Q7,Q6,Zg,JB,ZJ,ZO,h1,h1']
theorem ZjN {a b : Nat} : ((a : Int)==(b : Int))=decide (a=b):=by
 rw [Bool.eq_iff_iff,beq_iff_eq,decide_eq_true_eq];omega
theorem Zu4 : R (n+2) Zc6 [u8v b] H=some (.bool (ZeH b),H):=by
 have e1 : run Tryz.prog np lvs (n+1) YE [u8v b] H=some (.bool (KA b),H):=ZgU
 have e2 : run Tryz.prog np lvs (n+1) YU [u8v b] H=some (.bool (ZbX b),H):=Zi9
 have q1 : ((b.toNat : Int)==45)=decide (b.toNat=45):=ZjN (b:=45)
 have q2 : ((b.toNat : Int)==46)=decide (b.toNat=46):=ZjN (b:=46)
 rw [R,Zod rfl]
 unfold ZeH
 generalize KA b=p at e1 ⊢
 generalize ZbX b=q at e2 ⊢
 cases p <;> cases q <;> cases h3 : decide (b.toNat=45) <;> simp [Zhl,↓ZV,ZW,↓Qs,Z8,Z9,Qa,↓Zb,JN,Zu,Yl,Qg,Jo,Qk,Jp,Js,QG,Jy,QF,QL,QR,QQ,Jt,Zo,Zx,YJ,YA,Ja,QV,JS,ZA,Jc,JP,JR,JC,Zy,Zt,Zq,QU,QC,Qc,Ji,JD,JJ,JT,↓YK,JQ,↓g_r,YH,Bool.not_true,Bool.not_false,Bool.false_eq_true,Bool.true_eq_false,reduceIte,List.tail_cons,List.headD_cons,decide_true,decide_false,cond_true,cond_false,Nat.beq_refl,KD,Kb,Qy,Z7,ZK,Qz,JH,Jf,Ka,Kc,Yc,Yv,Yw,ZM,List.replicate,Zn,Zm,Q5,Q7,Q6,Zg,JB,ZJ,ZO,e1,e2,q1,q2,h3] <;> (cases h4 : decide (b.toNat=46) <;> simp_all)
theorem ZvN : R (n+2) Zck [u8v b] H=some (.bool (Zi1 b),H):=by
 have e2 : run Tryz.prog np lvs (n+1) YU [u8v b] H=some (.bool (ZbX b),H):=Zi9
 rw [R,Znv rfl]
 unfold Zi1
 generalize ZbX b=q at e2 ⊢
 cases q
 ·by_cases h1 : (97 : Int)≤b.toNat
  ·have h1' : 97≤b.toNat:=by omega
   by_cases h2 : (b.toNat : Int)≤102
   ·have h2' : b.toNat≤102:=by omega
    simp [Zbo,↓ZV,ZW,↓Qs,Z8,Z9,Qa,↓Zb,JN,Zu,Yl,Qg,Jo,Qk,Jp,Js,QG,Jy,QF,QL,QR,QQ,Jt,Zo,Zx,YJ,YA,Ja,QV,JS,ZA,Jc,JP,JR,JC,Zy,Zt,Zq,QU,QC,Qc,Ji,JD,JJ,JT,↓YK,JQ,↓g_r,YH,Bool.not_true,Bool.not_false,Bool.false_eq_true,Bool.true_eq_false,reduceIte,List.tail_cons,List.headD_cons,decide_true,decide_false,cond_true,cond_false,Nat.beq_refl,KD,Kb,Qy,Z7,ZK,Qz,JH,Jf,Ka,Kc,Yc,Yv,Yw,ZM,List.replicate,Zn,Zm,Q5,Q7,Q6,Zg,JB,ZJ,ZO,e2,h1,h2,h1',h2']
   ·have h2' : ¬ b.toNat≤102:=by omega
    simp [Zbo,↓ZV,ZW,↓Qs,Z8,Z9,Qa,↓Zb,JN,Zu,Yl,Qg,Jo,Qk,Jp,Js,QG,Jy,QF,QL,QR,QQ,Jt,Zo,Zx,YJ,YA,Ja,QV,JS,ZA,Jc,JP,JR,JC,Zy,Zt,Zq,QU,QC,Qc,Ji,JD,JJ,JT,↓YK,JQ,↓g_r,YH,Bool.not_true,Bool.not_false,Bool.false_eq_true,Bool.true_eq_false,reduceIte,List.tail_cons,List.headD_cons,decide_true,decide_false,cond_true,cond_false,Nat.beq_refl,KD,Kb,Qy,Z7,ZK,Qz,JH,Jf,Ka,Kc,Yc,Yv,Yw,ZM,List.replicate,Zn,Zm,Q5,Q7,Q6,Zg,JB,ZJ,ZO,e2,h1,h2,h1',h2']
  ·have h1' : ¬ 97≤b.toNat:=by omega
   simp [Zbo,↓ZV,ZW,↓Qs,Z8,Z9,Qa,↓Zb,JN,Zu,Yl,Qg,Jo,Qk,Jp,Js,QG,Jy,QF,QL,QR,QQ,Jt,Zo,Zx,YJ,YA,Ja,QV,JS,ZA,Jc,JP,JR,JC,Zy,Zt,Zq,QU,QC,Qc,Ji,JD,JJ,JT,↓YK,JQ,↓g_r,YH,Bool.not_true,Bool.not_false,Bool.false_eq_true,Bool.true_eq_false,reduceIte,List.tail_cons,List.headD_cons,decide_true,decide_false,cond_true,cond_false,Nat.beq_refl,KD,Kb,Qy,Z7,ZK,Qz,JH,Jf,Ka,Kc,Yc,Yv,Yw,ZM,List.replicate,Zn,Zm,Q5,Q7,Q6,Zg,JB,ZJ,ZO,e2,h1,h1']
 ·simp [Zbo,↓ZV,ZW,↓Qs,Z8,Z9,Qa,↓Zb,JN,Zu,Yl,Qg,Jo,Qk,Jp,Js,QG,Jy,QF,QL,QR,QQ,Jt,Zo,Zx,YJ,YA,Ja,QV,JS,ZA,Jc,JP,JR,JC,Zy,Zt,Zq,QU,QC,Qc,Ji,JD,JJ,JT,↓YK,JQ,↓g_r,YH,Bool.not_true,Bool.not_false,Bool.false_eq_true,Bool.true_eq_false,reduceIte,List.tail_cons,List.headD_cons,decide_true,decide_false,cond_true,cond_false,Nat.beq_refl,KD,Kb,Qy,Z7,ZK,Qz,JH,Jf,Ka,Kc,Yc,Yv,Yw,ZM,List.replicate,Zn,Zm,Q5,Q7,Q6,Zg,JB,ZJ,ZO,e2]
theorem ZsG {f : Value} {p : UInt8→Bool} (hf : ∀ (b : UInt8) (H : Zc),JF (R n) f [u8v b] H=some (.bool (p b),H)) (hs : s.length≤1000000000) : ∀ (t k : Nat),s.length - k=t→k≤s.length→
  Zh (c4 (Wx.l1 (R n))) [strv s,f,iv s.length,iv k] H=some (if (s.drop k).all p then .ext 0 [] else .ret (.bool false),H)
 | 0,k,ht,hk=>by
  have : k=s.length:=by omega
  subst this
  rw [List.drop_length]
  refine Z4 ?_
  simp [Wx.l1,↓ZV,ZW,↓Qs,Z8,Z9,Qa,↓Zb,JN,Zu,Yl,Qg,Jo,Qk,Jp,Js,QG,Jy,QF,QL,QR,QQ,Jt,Zo,Zx,YJ,YA,Ja,QV,JS,ZA,Jc,JP,JR,JC,Zy,Zt,Zq,QU,QC,Qc,Ji,JD,JJ,JT,↓YK,JQ,↓g_r,YH,Bool.not_true,Bool.not_false,Bool.false_eq_true,Bool.true_eq_false,reduceIte,List.tail_cons,List.headD_cons,decide_true,decide_false,cond_true,cond_false,Nat.beq_refl,KD,Kb,Qy,Z7,ZK,Qz,JH,Jf,Ka,Kc,Yc,Yv,Yw,ZM,List.replicate,Zn,Zm,Q5,Q7,Q6,Zg,JB,ZJ,ZO]
 | t+1,k,ht,hk=>by
  have hkl : k < s.length:=by omega
  have hlt : (k : Int) < s.length:=by omega
  have hg:=List.getElem?_eq_getElem hkl
  have hd:=List.drop_eq_getElem_cons hkl
  generalize s[k]=b at hg hd
  have x1:=Zbz hg .i64 H
  have ih:=ZsG hf hs t (k+1) (by omega) (by omega)
  rw [hd,List.all_cons]
  cases hp : p b
  ·refine Yy ?_
   have e:=hf b H
   rw [hp] at e
   rw [ZK]
   unfold Wx.l1
   rw [Za Zq,Zb,if_pos (by simpa using hlt),Za x1,Za e,Za Zx,Zb,if_pos (by rfl)]
   rfl
  ·rw [Bool.true_and]
   refine (ZI ?_).trans ih
   have e:=hf b H
   rw [hp] at e
   rw [ZK]
   unfold Wx.l1
   rw [Za Zq,Zb,if_pos (by simpa using hlt),Za x1,Za e,Za Zx,Zb,if_neg (by simp),Za ZA,QH (by omega)]
   rfl
theorem ZqX {f : Value} {p : UInt8→Bool} (hf : ∀ (b : UInt8) (H : Zc),JF (R n) f [u8v b] H=some (.bool (p b),H)) (hs : s.length≤1000000000) : R (n+1) KB [strv s,f] H=some (.bool (s.all p),H):=by
 have e:=ZsG (H:=H) hf hs s.length 0 (by omega) (by omega)
 rw [List.drop_zero] at e
 have e : Zh (c4 (Wx.l1 (R n))) [strv s,f,iv s.length,.int .i64 0] H=_:=e
 rw [R,Zp0 rfl]
 unfold Wx
 rw [Za ZJ]
 cases h : s.all p
 ·rw [h] at e
  rw [KF e];rfl
 ·rw [h] at e
  rw [QW e,ZM];rfl
theorem Zpe {g : Nat} {args : List Value} (hy : Nat.blt g ZaN=true:=by rfl) : JF (R n) (.func (.func g) #[] #[]) args=R n g args:=by
 have : JF (R n) (.func (.func g) #[] #[]) args=R n g ([]++(args++[])):=by
  simp only [JF,hy,cond_true]
 rw [this];simp
theorem Zsv (hs : s.length≤1000000000) : R (n+3) KB [strv s,.func (.func Zc6) #[] #[]] H=some (.bool (s.all ZeH),H):=
 ZqX (fun b H=>by rw [Zpe];exact Zu4) hs
theorem Ztr (hs : s.length≤1000000000) : R (n+3) KB [strv s,.func (.func Zck) #[] #[]] H=some (.bool (s.all Zi1),H):=
 ZqX (fun b H=>by rw [Zpe];exact ZvN) hs
theorem Zi5 : bop .str .eql (strv s) (.string ⟨#[]⟩) H=some (.bool (decide (s.length=0)),H):=by
 have:=Zc2 (H:=H) (a:=s) (b:=[])
 have h : (s==[])=decide (s.length=0):=by cases s <;> simp
 rw [h] at this
 exact this
theorem Zng : R (n+4) WN [strv s] H=some (.bool (Zr s),H):=by
 rw [R,Zmb rfl]
 unfold Zr
 by_cases h0 : s.length=0
 ·have h1 : ¬ 1≤s.length:=by omega
  unfold ZbO
  rw [Za Zi5,decide_eq_true h0]
  simp [↓ZV,ZW,↓Qs,Z8,Z9,Qa,↓Zb,JN,Zu,Yl,Qg,Jo,Qk,Jp,Js,QG,Jy,QF,QL,QR,QQ,Jt,Zo,Zx,YJ,YA,Ja,QV,JS,ZA,Jc,JP,JR,JC,Zy,Zt,Zq,QU,QC,Qc,Ji,JD,JJ,JT,↓YK,JQ,↓g_r,YH,Bool.not_true,Bool.not_false,Bool.false_eq_true,Bool.true_eq_false,reduceIte,List.tail_cons,List.headD_cons,decide_true,decide_false,cond_true,cond_false,Nat.beq_refl,KD,Kb,Qy,Z7,ZK,Qz,JH,Jf,Ka,Kc,Yc,Yv,Yw,ZM,List.replicate,Zn,Zm,Q5,Q7,Q6,Zg,JB,ZJ,ZO,h1]
 ·have h1 : 1≤s.length:=by omega
  by_cases h12 : s.length≤12
  ·have e1 : run Tryz.prog np lvs (n+3) KB [strv s,.func (.func Zc6) #[] #[]] H=some (.bool (s.all ZeH),H):=Zsv (by omega)
   have g0 : s[0]?=some (s.getD 0 0):=by rw [List.getElem?_eq_getElem (by omega)];simp [List.getD_eq_getElem?_getD,List.getElem?_eq_getElem (show 0 < s.length by omega)]
   have gl : s[s.length - 1]?=some (s.getD (s.length - 1) 0):=by rw [List.getElem?_eq_getElem (by omega)];simp [List.getD_eq_getElem?_getD,List.getElem?_eq_getElem (show s.length - 1 < s.length by omega)]
   have x0 : ixs (strv s) (.int .i64 0) H=some (u8v (s.getD 0 0),H):=Zbz g0 .i64 H
   have xl:=Zbz gl .i64 H
   have wl:=Zrg (k:=s.length) (by omega) (by omega)
   generalize s.getD 0 0=b0 at x0
   generalize s.getD (s.length - 1) 0=bl at xl
   have e2 : run Tryz.prog np lvs (n+3) YE [u8v b0] H=some (.bool (KA b0),H):=ZgU
   have e3 : run Tryz.prog np lvs (n+3) YE [u8v bl] H=some (.bool (KA bl),H):=ZgU
   have e4 : run Tryz.prog np lvs (n+3) YU [u8v bl] H=some (.bool (ZbX bl),H):=Zi9
   have q1 : bop .int .gtr (iv s.length) (.int .i64 12) H=some (.bool false,H):=by rw [QC,decide_eq_false (by omega)]
   unfold ZbO
   rw [Za Zi5,decide_eq_false h0,decide_eq_true h1,decide_eq_true h12]
   rw [Z3,Zl,Za ZJ,Zl,Za q1,Qi,Z7,Za Zo]
   simp only [cond_false]
   rw [Z3,Zl,Za x0,Zl,Za e2,Zl,Za Zx,Qi,ZK,Za Zo]
   simp only [cond_false]
   cases hb0 : KA b0
   ·simp [↓ZV,ZW,↓Qs,Z8,Z9,Qa,↓Zb,JN,Zu,Yl,Qg,Jo,Qk,Jp,Js,QG,Jy,QF,QL,QR,QQ,Jt,Zo,Zx,YJ,YA,Ja,QV,JS,ZA,Jc,JP,JR,JC,Zy,Zt,Zq,QU,QC,Qc,Ji,JD,JJ,JT,↓YK,JQ,↓g_r,YH,Bool.not_true,Bool.not_false,Bool.false_eq_true,Bool.true_eq_false,reduceIte,List.tail_cons,List.headD_cons,decide_true,decide_false,cond_true,cond_false,Nat.beq_refl,KD,Kb,Qy,Z7,ZK,Qz,JH,Jf,Ka,Kc,Yc,Yv,Yw,ZM,List.replicate,Zn,Zm,Q5,Q7,Q6,Zg,JB,ZJ,ZO]
   ·simp only [Bool.not_true]
    rw [Z3,Zl,Za e1,Zl,Za Zx,Qi,Z7,Za Zo]
    simp only [cond_false]
    cases hall : s.all ZeH
    ·simp [↓ZV,ZW,↓Qs,Z8,Z9,Qa,↓Zb,JN,Zu,Yl,Qg,Jo,Qk,Jp,Js,QG,Jy,QF,QL,QR,QQ,Jt,Zo,Zx,YJ,YA,Ja,QV,JS,ZA,Jc,JP,JR,JC,Zy,Zt,Zq,QU,QC,Qc,Ji,JD,JJ,JT,↓YK,JQ,↓g_r,YH,Bool.not_true,Bool.not_false,Bool.false_eq_true,Bool.true_eq_false,reduceIte,List.tail_cons,List.headD_cons,decide_true,decide_false,cond_true,cond_false,Nat.beq_refl,KD,Kb,Qy,Z7,ZK,Qz,JH,Jf,Ka,Kc,Yc,Yv,Yw,ZM,List.replicate,Zn,Zm,Q5,Q7,Q6,Zg,JB,ZJ,ZO]
    ·simp only [Bool.not_true]
     rw [Zb,if_neg (by simp),Za ZJ,Za Jc,wl,Za xl,Za e3]
     unfold K1
     cases hl : KA bl
     ·rw [Z3,Zl,Za e4,Qi,Qy,Za Zo]
      simp [ret]
     ·simp [↓ZV,ZW,↓Qs,Z8,Z9,Qa,↓Zb,JN,Zu,Yl,Qg,Jo,Qk,Jp,Js,QG,Jy,QF,QL,QR,QQ,Jt,Zo,Zx,YJ,YA,Ja,QV,JS,ZA,Jc,JP,JR,JC,Zy,Zt,Zq,QU,QC,Qc,Ji,JD,JJ,JT,↓YK,JQ,↓g_r,YH,Bool.not_true,Bool.not_false,Bool.false_eq_true,Bool.true_eq_false,reduceIte,List.tail_cons,List.headD_cons,decide_true,decide_false,cond_true,cond_false,Nat.beq_refl,KD,Kb,Qy,Z7,ZK,Qz,JH,Jf,Ka,Kc,Yc,Yv,Yw,ZM,List.replicate,Zn,Zm,Q5,Q7,Q6,Zg,JB,ZJ,ZO]
  ·have q1 : bop .int .gtr (iv s.length) (.int .i64 12) H=some (.bool true,H):=by rw [QC,decide_eq_true (by omega)]
   unfold ZbO
   rw [Za Zi5,decide_eq_false h0]
   rw [Z3,Zl,Za ZJ,Zl,Za q1,Qi,Z7,Za Zo]
   simp [↓ZV,ZW,↓Qs,Z8,Z9,Qa,↓Zb,JN,Zu,Yl,Qg,Jo,Qk,Jp,Js,QG,Jy,QF,QL,QR,QQ,Jt,Zo,Zx,YJ,YA,Ja,QV,JS,ZA,Jc,JP,JR,JC,Zy,Zt,Zq,QU,QC,Qc,Ji,JD,JJ,JT,↓YK,JQ,↓g_r,YH,Bool.not_true,Bool.not_false,Bool.false_eq_true,Bool.true_eq_false,reduceIte,List.tail_cons,List.headD_cons,decide_true,decide_false,cond_true,cond_false,Nat.beq_refl,KD,Kb,Qy,Z7,ZK,Qz,JH,Jf,Ka,Kc,Yc,Yv,Yw,ZM,List.replicate,Zn,Zm,Q5,Q7,Q6,Zg,JB,ZJ,ZO,h12]
def QP (s : List UInt8) : Int:=if Zr s then 0 else 10
def WU (s : List UInt8) : Int:=if Za7 s then 0 else 4
theorem Zf4 : R (n+5) J6 [strv s] H=some (iv (QP s),H):=by
 have e1 : run Tryz.prog np lvs (n+4) WN [strv s] H=some (.bool (Zr s),H):=Zng
 rw [R,ZoS rfl]
 unfold QP
 generalize Zr s=q at e1 ⊢
 cases q <;> simp [Zhg,↓ZV,ZW,↓Qs,Z8,Z9,Qa,↓Zb,JN,Zu,Yl,Qg,Jo,Qk,Jp,Js,QG,Jy,QF,QL,QR,QQ,Jt,Zo,Zx,YJ,YA,Ja,QV,JS,ZA,Jc,JP,JR,JC,Zy,Zt,Zq,QU,QC,Qc,Ji,JD,JJ,JT,↓YK,JQ,↓g_r,YH,Bool.not_true,Bool.not_false,Bool.false_eq_true,Bool.true_eq_false,reduceIte,List.tail_cons,List.headD_cons,decide_true,decide_false,cond_true,cond_false,Nat.beq_refl,KD,Kb,Qy,Z7,ZK,Qz,JH,Jf,Ka,Kc,Yc,Yv,Yw,ZM,List.replicate,Zn,Zm,Q5,Q7,Q6,Zg,JB,ZJ,ZO,e1]
theorem ZuW : R (n+4) Zb1 [strv s] H=some (iv (WU s),H):=by
 have e1 : s.length≤12→run Tryz.prog np lvs (n+3) KB [strv s,.func (.func Zck) #[] #[]] H=some (.bool (s.all Zi1),H):=fun h12=>Ztr (by omega)
 rw [R,Zob rfl]
 unfold WU Za7 Zhb
 rw [Za Zi5]
 by_cases h0 : s.length=0
 ·have h1 : ¬ 1≤s.length:=by omega
  rw [decide_eq_true h0]
  simp [↓ZV,ZW,↓Qs,Z8,Z9,Qa,↓Zb,JN,Zu,Yl,Qg,Jo,Qk,Jp,Js,QG,Jy,QF,QL,QR,QQ,Jt,Zo,Zx,YJ,YA,Ja,QV,JS,ZA,Jc,JP,JR,JC,Zy,Zt,Zq,QU,QC,Qc,Ji,JD,JJ,JT,↓YK,JQ,↓g_r,YH,Bool.not_true,Bool.not_false,Bool.false_eq_true,Bool.true_eq_false,reduceIte,List.tail_cons,List.headD_cons,decide_true,decide_false,cond_true,cond_false,Nat.beq_refl,KD,Kb,Qy,Z7,ZK,Qz,JH,Jf,Ka,Kc,Yc,Yv,Yw,ZM,List.replicate,Zn,Zm,Q5,Q7,Q6,Zg,JB,ZJ,ZO,h1]
 ·have h1 : 1≤s.length:=by omega
  rw [decide_eq_false h0,Z3,Zl,Za ZJ]
  by_cases h12 : s.length≤12
  ·have q1 : bop .int .gtr (iv s.length) (.int .i64 12) H=some (.bool false,H):=by rw [QC,decide_eq_false (by omega)]
   rw [Zl,Za q1,Qi,Z7,Za Zo]
   simp only [cond_false]
   rw [Z3,Zl,Za (e1 h12),Zl,Za Zx,Qi,ZK,Za Zo]
   cases s.all Zi1 <;> simp [↓ZV,ZW,↓Qs,Z8,Z9,Qa,↓Zb,JN,Zu,Yl,Qg,Jo,Qk,Jp,Js,QG,Jy,QF,QL,QR,QQ,Jt,Zo,Zx,YJ,YA,Ja,QV,JS,ZA,Jc,JP,JR,JC,Zy,Zt,Zq,QU,QC,Qc,Ji,JD,JJ,JT,↓YK,JQ,↓g_r,YH,Bool.not_true,Bool.not_false,Bool.false_eq_true,Bool.true_eq_false,reduceIte,List.tail_cons,List.headD_cons,decide_true,decide_false,cond_true,cond_false,Nat.beq_refl,KD,Kb,Qy,Z7,ZK,Qz,JH,Jf,Ka,Kc,Yc,Yv,Yw,ZM,List.replicate,Zn,Zm,Q5,Q7,Q6,Zg,JB,ZJ,ZO,h12,h1]
  ·have q1 : bop .int .gtr (iv s.length) (.int .i64 12) H=some (.bool true,H):=by rw [QC,decide_eq_true (by omega)]
   rw [Zl,Za q1,Qi,Z7,Za Zo]
   simp [↓ZV,ZW,↓Qs,Z8,Z9,Qa,↓Zb,JN,Zu,Yl,Qg,Jo,Qk,Jp,Js,QG,Jy,QF,QL,QR,QQ,Jt,Zo,Zx,YJ,YA,Ja,QV,JS,ZA,Jc,JP,JR,JC,Zy,Zt,Zq,QU,QC,Qc,Ji,JD,JJ,JT,↓YK,JQ,↓g_r,YH,Bool.not_true,Bool.not_false,Bool.false_eq_true,Bool.true_eq_false,reduceIte,List.tail_cons,List.headD_cons,decide_true,decide_false,cond_true,cond_false,Nat.beq_refl,KD,Kb,Qy,Z7,ZK,Qz,JH,Jf,Ka,Kc,Yc,Yv,Yw,ZM,List.replicate,Zn,Zm,Q5,Q7,Q6,Zg,JB,ZJ,ZO,h12]
theorem Zf5 {a b : UInt8} : ((a.toNat : Int)==(b.toNat : Int))=(a==b):=by
 rw [Bool.eq_iff_iff,beq_iff_eq,beq_iff_eq,Int.ofNat_inj,UInt8.toNat_inj]
theorem ZtF {t : List UInt8} (ht : t.length≤1000000) : ∀ (d k : Nat),t.length - k=d→k≤t.length→
  Zh (c3 (Wq.l1 (R n))) [u8v b,strv t,iv k] H=some (if (t.drop k).any (·==b) then .ret (.bool true) else .ext 0 [],H)
 | 0,k,hd,hk=>by
  have : k=t.length:=by omega
  subst this
  rw [List.drop_length]
  refine Z4 ?_
  rw [Z7]
  unfold Wq.l1
  rw [Za ZJ,Za Zq,Zb,if_neg (by simp)]
  rfl
 | d+1,k,hd,hk=>by
  have hkl : k < t.length:=by omega
  have hlt : (k : Int) < t.length:=by omega
  have hg:=List.getElem?_eq_getElem hkl
  have hdr:=List.drop_eq_getElem_cons hkl
  generalize t[k]=c at hg hdr
  have x1:=Zbz hg .i64 H
  have ih:=ZtF ht d (k+1) (by omega) (by omega)
  rw [hdr,List.any_cons]
  cases hc : c==b
  ·rw [Bool.false_or]
   refine (ZI ?_).trans ih
   rw [Z7]
   unfold Wq.l1
   rw [Za ZJ,Za Zq,Zb,if_pos (by simpa using hlt),Za x1,Za Zy,Zf5,hc,Zb,if_neg (by simp),Za ZA,QH (by omega)]
   rfl
  ·refine Yy ?_
   rw [Z7]
   unfold Wq.l1
   rw [Za ZJ,Za Zq,Zb,if_pos (by simpa using hlt),Za x1,Za Zy,Zf5,hc,Zb,if_pos rfl]
   rfl
theorem ZqY {t : List UInt8} (ht : t.length≤1000000) : R (n+1) Ww [u8v b,strv t] H=some (.bool (t.any (·==b)),H):=by
 have e:=ZtF (n:=n) (H:=H) (b:=b) ht t.length 0 (by omega) (by omega)
 rw [List.drop_zero] at e
 have e : Zh (c3 (Wq.l1 (R n))) [u8v b,strv t,.int .i64 0] H=_:=e
 rw [R,ZpB rfl]
 unfold Wq
 cases h : t.any (·==b)
 ·rw [h] at e
  rw [QW e,ZM];rfl
 ·rw [h] at e
  rw [KF e];rfl
theorem ZtM {t : List UInt8} (ht : t.length≤1000000) (hs : s.length≤1000000000) : ∀ (d k : Nat),s.length - k=d→k≤s.length→
  Zh (c3 (Wr.l1 (R (n+1)))) [strv s,strv t,iv k] H=some (if (s.drop k).all (fun b=>t.any (·==b)) then .ext 0 [] else .ret (.bool false),H)
 | 0,k,hd,hk=>by
  have : k=s.length:=by omega
  subst this
  rw [List.drop_length]
  refine Z4 ?_
  rw [Z7]
  unfold Wr.l1
  rw [Za ZJ,Za Zq,Zb,if_neg (by simp)]
  rfl
 | d+1,k,hd,hk=>by
  have hkl : k < s.length:=by omega
  have hlt : (k : Int) < s.length:=by omega
  have hg:=List.getElem?_eq_getElem hkl
  have hdr:=List.drop_eq_getElem_cons hkl
  generalize s[k]=c at hg hdr
  have x1:=Zbz hg .i64 H
  have e1:=ZqY (n:=n) (b:=c) (H:=H) ht
  have ih:=ZtM ht hs d (k+1) (by omega) (by omega)
  rw [hdr,List.all_cons]
  cases hc : t.any (·==c)
  ·rw [hc] at e1
   refine Yy ?_
   rw [Z7]
   unfold Wr.l1
   rw [Za ZJ,Za Zq,Zb,if_pos (by simpa using hlt),Za x1,Za e1,Za Zx,Zb,if_pos (by rfl)]
   rfl
  ·rw [hc] at e1
   rw [Bool.true_and]
   refine (ZI ?_).trans ih
   rw [Z7]
   unfold Wr.l1
   rw [Za ZJ,Za Zq,Zb,if_pos (by simpa using hlt),Za x1,Za e1,Za Zx,Zb,if_neg (by simp),Za ZA,QH (by omega)]
   rfl
theorem Zvo {t : List UInt8} {p : UInt8→Bool} (ht : t.length≤1000000) (hs : s.length≤1000000000) (hp : ∀ b,t.any (·==b)=p b) : R (n+2) ZbW [strv s,strv t] H=some (.bool (s.all p),H):=by
 have e:=ZtM (n:=n) (H:=H) ht hs s.length 0 (by omega) (by omega)
 rw [List.drop_zero] at e
 rw [show (fun b=>t.any (·==b))=p from funext hp] at e
 have e : Zh (c3 (Wr.l1 (R (n+1)))) [strv s,strv t,.int .i64 0] H=_:=e
 rw [R,ZpO rfl]
 unfold Wr
 cases h : s.all p
 ·rw [h] at e
  rw [KF e];rfl
 ·rw [h] at e
  rw [QW e,ZM];rfl
def Ze3 : List UInt8:=[97,98,99,100,101,102,103,104,105,106,107,108,109,110,111,112,113,114,115,116,117,118,119,120,121,122]
def Zpp : List UInt8:=[97,98,99,100,101,102,103,104,105,106,107,108,109,110,111,112,113,114,115,116,117,118,119,120,121,122,48,49,50,51,52,53,54,55,56,57]
def Zsm : List UInt8:=[97,98,99,100,101,102,103,104,105,106,107,108,109,110,111,112,113,114,115,116,117,118,119,120,121,122,48,49,50,51,52,53,54,55,56,57,45,46]
def Zvu : List UInt8:=[48,49,50,51,52,53,54,55,56,57,97,98,99,100,101,102]
theorem Zfd {p : UInt8→Prop} (h : ∀ n : Nat,n < 256→p (UInt8.ofNat n)) (b : UInt8) : p b:=by
 have:=h b.toNat b.toNat_lt
 rwa [UInt8.ofNat_toNat] at this
theorem Zrk : ∀ b,Ze3.any (·==b)=KA b:=Zfd (by decide+kernel)
theorem Zph : ∀ b,Zpp.any (·==b)=K1 b:=Zfd (by decide+kernel)
theorem Zs3 : ∀ b,Zsm.any (·==b)=ZeH b:=Zfd (by decide+kernel)
theorem ZvI : ∀ b,Zvu.any (·==b)=Zi1 b:=Zfd (by decide+kernel)
theorem Zk2 : R (n+3) Ws [strv s] H=some (.bool (Za7 s),H):=by
 have e1 : s.length≤12→run Tryz.prog np lvs (n+2) ZbW [strv s,strv Zvu] H=some (.bool (s.all Zi1),H):=fun h12=>Zvo (by decide) (by omega) ZvI
 rw [R,Zno rfl]
 unfold Za7 ZfZ
 rw [Za ZJ]
 by_cases h1 : 1≤s.length
 ·have q1 : bop .int .geq (iv s.length) (.int .i64 1) H=some (.bool true,H):=by rw [Qc,decide_eq_true (by omega)]
  rw [Za q1,Z3,Zl,Za ZJ]
  by_cases h12 : s.length≤12
  ·have q2 : bop .int .leq (iv s.length) (.int .i64 12) H=some (.bool true,H):=by rw [QU,decide_eq_true (by omega)]
   rw [Zl,Za q2,Qi,Z7,Za Zo]
   simp only [cond_true]
   rw [Z3,Zl]
   refine (Za (e1 h12)).trans ?_
   rw [Qi,Qy,Za Zo,decide_eq_true h12,decide_eq_true h1]
   rfl
  ·have q2 : bop .int .leq (iv s.length) (.int .i64 12) H=some (.bool false,H):=by rw [QU,decide_eq_false (by omega)]
   rw [Zl,Za q2,Qi,Z7,Za Zo]
   simp [↓ZV,ZW,↓Qs,Z8,Z9,Qa,↓Zb,JN,Zu,Yl,Qg,Jo,Qk,Jp,Js,QG,Jy,QF,QL,QR,QQ,Jt,Zo,Zx,YJ,YA,Ja,QV,JS,ZA,Jc,JP,JR,JC,Zy,Zt,Zq,QU,QC,Qc,Ji,JD,JJ,JT,↓YK,JQ,↓g_r,YH,Bool.not_true,Bool.not_false,Bool.false_eq_true,Bool.true_eq_false,reduceIte,List.tail_cons,List.headD_cons,decide_true,decide_false,cond_true,cond_false,Nat.beq_refl,KD,Kb,Qy,Z7,ZK,Qz,JH,Jf,Ka,Kc,Yc,Yv,Yw,ZM,List.replicate,Zn,Zm,Q5,Q7,Q6,Zg,JB,ZJ,ZO,h12]
 ·have q1 : bop .int .geq (iv s.length) (.int .i64 1) H=some (.bool false,H):=by rw [Qc,decide_eq_false (by omega)]
  rw [Za q1]
  simp [↓ZV,ZW,↓Qs,Z8,Z9,Qa,↓Zb,JN,Zu,Yl,Qg,Jo,Qk,Jp,Js,QG,Jy,QF,QL,QR,QQ,Jt,Zo,Zx,YJ,YA,Ja,QV,JS,ZA,Jc,JP,JR,JC,Zy,Zt,Zq,QU,QC,Qc,Ji,JD,JJ,JT,↓YK,JQ,↓g_r,YH,Bool.not_true,Bool.not_false,Bool.false_eq_true,Bool.true_eq_false,reduceIte,List.tail_cons,List.headD_cons,decide_true,decide_false,cond_true,cond_false,Nat.beq_refl,KD,Kb,Qy,Z7,ZK,Qz,JH,Jf,Ka,Kc,Yc,Yv,Yw,ZM,List.replicate,Zn,Zm,Q5,Q7,Q6,Zg,JB,ZJ,ZO,h1]
theorem Zbb : R (n+3) Qm [strv s] H=some (.bool (Zr s),H):=by
 have e1 : s.length≤12→run Tryz.prog np lvs (n+2) ZbW [strv s,strv Zsm] H=some (.bool (s.all ZeH),H):=fun h12=>Zvo (by decide) (by omega) Zs3
 rw [R,ZnB rfl]
 unfold Zr ZfN
 rw [Za ZJ]
 by_cases h1 : 1≤s.length
 ·have q1 : bop .int .geq (iv s.length) (.int .i64 1) H=some (.bool true,H):=by rw [Qc,decide_eq_true (by omega)]
  rw [Za q1,Z3,Zl]
  by_cases h12 : s.length≤12
  ·have q2 : bop .int .leq (iv s.length) (.int .i64 12) H=some (.bool true,H):=by rw [QU,decide_eq_true (by omega)]
   have g0 : s[0]?=some (s.getD 0 0):=by rw [List.getElem?_eq_getElem (by omega)];simp [List.getD_eq_getElem?_getD,List.getElem?_eq_getElem (show 0 < s.length by omega)]
   have gl : s[s.length - 1]?=some (s.getD (s.length - 1) 0):=by rw [List.getElem?_eq_getElem (by omega)];simp [List.getD_eq_getElem?_getD,List.getElem?_eq_getElem (show s.length - 1 < s.length by omega)]
   have x0 : ixs (strv s) (.int .i64 0) H=some (u8v (s.getD 0 0),H):=Zbz g0 .i64 H
   have xl:=Zbz gl .i64 H
   have wl:=Zrg (k:=s.length) (by omega) (by omega)
   generalize s.getD 0 0=b0 at x0
   generalize s.getD (s.length - 1) 0=bl at xl
   have e2 : run Tryz.prog np lvs (n+2) Ww [u8v b0,strv Ze3] H=some (.bool (KA b0),H):=by rw [← Zrk];exact ZqY (by decide)
   have e3 : run Tryz.prog np lvs (n+2) Ww [u8v bl,strv Zpp] H=some (.bool (K1 bl),H):=by rw [← Zph];exact ZqY (by decide)
   rw [Za q2,Qi,Qy,Za Zo]
   simp only [cond_true]
   rw [Z3,Zl]
   refine (Za (e1 h12)).trans ?_
   rw [Qi,Qy,Za Zo,decide_eq_true h12,decide_eq_true h1]
   simp only [cond_true]
   cases hall : s.all ZeH
   ·simp [↓ZV,ZW,↓Qs,Z8,Z9,Qa,↓Zb,JN,Zu,Yl,Qg,Jo,Qk,Jp,Js,QG,Jy,QF,QL,QR,QQ,Jt,Zo,Zx,YJ,YA,Ja,QV,JS,ZA,Jc,JP,JR,JC,Zy,Zt,Zq,QU,QC,Qc,Ji,JD,JJ,JT,↓YK,JQ,↓g_r,YH,Bool.not_true,Bool.not_false,Bool.false_eq_true,Bool.true_eq_false,reduceIte,List.tail_cons,List.headD_cons,decide_true,decide_false,cond_true,cond_false,Nat.beq_refl,KD,Kb,Qy,Z7,ZK,Qz,JH,Jf,Ka,Kc,Yc,Yv,Yw,ZM,List.replicate,Zn,Zm,Q5,Q7,Q6,Zg,JB,ZJ,ZO]
   ·rw [Z3,Zl,Za x0,Zl]
    refine (Za e2).trans ?_
    rw [Qi,Z7,Za Zo]
    simp only [cond_true]
    cases hb : KA b0
    ·simp [↓ZV,ZW,↓Qs,Z8,Z9,Qa,↓Zb,JN,Zu,Yl,Qg,Jo,Qk,Jp,Js,QG,Jy,QF,QL,QR,QQ,Jt,Zo,Zx,YJ,YA,Ja,QV,JS,ZA,Jc,JP,JR,JC,Zy,Zt,Zq,QU,QC,Qc,Ji,JD,JJ,JT,↓YK,JQ,↓g_r,YH,Bool.not_true,Bool.not_false,Bool.false_eq_true,Bool.true_eq_false,reduceIte,List.tail_cons,List.headD_cons,decide_true,decide_false,cond_true,cond_false,Nat.beq_refl,KD,Kb,Qy,Z7,ZK,Qz,JH,Jf,Ka,Kc,Yc,Yv,Yw,ZM,List.replicate,Zn,Zm,Q5,Q7,Q6,Zg,JB,ZJ,ZO]
    ·rw [Z3,Zl,Za Jc,wl,Zl,Za xl,Zl]
     refine (Za e3).trans ?_
     rw [Qi,Qz,Za Zo]
     rfl
  ·have q2 : bop .int .leq (iv s.length) (.int .i64 12) H=some (.bool false,H):=by rw [QU,decide_eq_false (by omega)]
   rw [Za q2,Qi,Qy,Za Zo]
   simp [↓ZV,ZW,↓Qs,Z8,Z9,Qa,↓Zb,JN,Zu,Yl,Qg,Jo,Qk,Jp,Js,QG,Jy,QF,QL,QR,QQ,Jt,Zo,Zx,YJ,YA,Ja,QV,JS,ZA,Jc,JP,JR,JC,Zy,Zt,Zq,QU,QC,Qc,Ji,JD,JJ,JT,↓YK,JQ,↓g_r,YH,Bool.not_true,Bool.not_false,Bool.false_eq_true,Bool.true_eq_false,reduceIte,List.tail_cons,List.headD_cons,decide_true,decide_false,cond_true,cond_false,Nat.beq_refl,KD,Kb,Qy,Z7,ZK,Qz,JH,Jf,Ka,Kc,Yc,Yv,Yw,ZM,List.replicate,Zn,Zm,Q5,Q7,Q6,Zg,JB,ZJ,ZO,h12]
 ·have q1 : bop .int .geq (iv s.length) (.int .i64 1) H=some (.bool false,H):=by rw [Qc,decide_eq_false (by omega)]
  rw [Za q1]
  simp [↓ZV,ZW,↓Qs,Z8,Z9,Qa,↓Zb,JN,Zu,Yl,Qg,Jo,Qk,Jp,Js,QG,Jy,QF,QL,QR,QQ,Jt,Zo,Zx,YJ,YA,Ja,QV,JS,ZA,Jc,JP,JR,JC,Zy,Zt,Zq,QU,QC,Qc,Ji,JD,JJ,JT,↓YK,JQ,↓g_r,YH,Bool.not_true,Bool.not_false,Bool.false_eq_true,Bool.true_eq_false,reduceIte,List.tail_cons,List.headD_cons,decide_true,decide_false,cond_true,cond_false,Nat.beq_refl,KD,Kb,Qy,Z7,ZK,Qz,JH,Jf,Ka,Kc,Yc,Yv,Yw,ZM,List.replicate,Zn,Zm,Q5,Q7,Q6,Zg,JB,ZJ,ZO,h1]
end
end Go.Proofs.YtnnehafmjfmbnaaGreatDoor.A

namespace Go.Proofs.YtnnehafmjfmbnaaGreatDoor.A
set_option linter.unusedVariables false
set_option linter.unusedSimpArgs false
open Go.Proofs Go.Proofs.YtnnehafmjfmbnaaGreatDoor
abbrev YI:=List (List UInt8 × List UInt8)
structure Dir (H : Zc) (d b : Nat) (m : YI) : Prop where
 c : H[d]?=some (.cells [.map (some b)] 1 false false)
 g : JK strv H b m
 len : ∀ p∈m,p.1.length≤12
 few : m.length≤12
section
variable {H H' : Zc} {n d b p q : Nat} {m : YI} {k s : List UInt8}
theorem ZnT {v : Value} (h : oneCell v=true) (hc : v.cells=#[v]) (H : Zc) : alc 1 v H=some (pt H.length,H++[.cells [v] 1 false false]):=by
 rw [QL]
 simp [hc,h]
theorem ZmM {v : Value} {e : Nat} {g ro : Bool} (h : H[p]?=some (.cells [v] e g ro)) : ld1 (pt p) H=some (v,H):=Zv h rfl
theorem Zvs {g : Nat} {bs args : List Value} (hy : Nat.blt g ZaN=true:=by rfl) : JF (R n) (.func (.func g) #[] bs.toArray) args=R n g (args++bs):=by
 have : JF (R n) (.func (.func g) #[] bs.toArray) args=R n g ([]++(args++bs.toArray.toList)):=by
  simp only [JF,hy,cond_true]
 rw [this];simp
theorem Dir.hle (h : Dir H d b m) (hl : HLe H H') : Dir H' d b m:=⟨hl _ _ h.c,h.g.hle hl,h.len,h.few⟩
theorem Dir.ne (h : Dir H d b m) : d≠b:=fun e=>by
 subst e
 obtain ⟨es,_,h1⟩:=h.g.ex
 rw [h.c] at h1
 rcases h1 with ⟨_,h1,_⟩ | h1 <;> cases h1
end
end Go.Proofs.YtnnehafmjfmbnaaGreatDoor.A

namespace Go.Proofs.YtnnehafmjfmbnaaGreatDoor.A
set_option linter.unusedVariables false
set_option linter.unusedSimpArgs false
section
variable {α : Type} {k k' : List UInt8} {v : α} {m : List (List UInt8 × α)}
theorem ZdR : ∀ {m m' : List (List UInt8 × α)},Ze k (m++m')=(Ze k m).or (Ze k m')
 | [],m'=>rfl
 | p :: m,m'=>by
  simp only [List.cons_append,Ze]
  split
  ·rfl
  ·exact ZdR
theorem YB (h : k'≠k) : Ze k' (Qw k v m)=Ze k' m:=by
 unfold Qw
 split
 ·have : ∀ m : List (List UInt8 × α),Ze k' (m.map fun p=>if p.1=k then (k,v) else p)=Ze k' m:=by
   intro m
   induction m with
   | nil=>rfl
   | cons p m ih=>
    simp only [List.map_cons,Ze]
    by_cases hp : p.1=k
    ·rw [if_pos hp,if_neg (Ne.symm h),if_neg (fun e=>h (e.symm.trans hp)),ih]
    ·rw [if_neg hp,ih]
  exact this m
 ·rw [ZdR]
  have : Ze k' [(k,v)]=none:=by simp [Ze,Ne.symm h]
  rw [this];cases Ze k' m <;> rfl
theorem K0 : Ze k (Qw k v m)=some v:=by
 unfold Qw
 split
 ·rename_i hs
  have : ∀ m : List (List UInt8 × α),(Ze k m).isSome=true→Ze k (m.map fun p=>if p.1=k then (k,v) else p)=some v:=by
   intro m
   induction m with
   | nil=>intro h;cases h
   | cons p m ih=>
    intro h
    simp only [List.map_cons,Ze] at h ⊢
    by_cases hp : p.1=k
    ·simp [hp]
    ·rw [if_neg hp] at h
     rw [if_neg hp,if_neg hp];exact ih h
  exact this m hs
 ·rename_i hs
  rw [ZdR]
  have : Ze k m=none:=by cases e : Ze k m <;> simp_all
  rw [this];simp [Ze]
theorem Wu : Ze k (JV k m)=none:=by
 rw [ZfE]
 intro p hp
 simpa [JV] using (List.mem_filter.1 hp).2
theorem Jn (h : k'≠k) : Ze k' (JV k m)=Ze k' m:=by
 unfold JV
 induction m with
 | nil=>rfl
 | cons p m ih=>
  rw [List.filter_cons]
  by_cases hp : p.1=k
  ·rw [if_neg (by simp [hp]),ih]
   simp only [Ze]
   rw [if_neg (fun e=>h (e.symm.trans hp))]
  ·rw [if_pos (by simpa using hp)]
   simp only [Ze]
   rw [ih]
theorem Zkv (hn : (m.map (·.1)).Nodup) (h : (Ze k m).isSome=true) : (JV k m).length=m.length - 1:=by
 obtain ⟨v,hv⟩:=Option.isSome_iff_exists.1 h
 obtain ⟨j,hj⟩:=Ztc hv
 rw [← Zdf hn hj,List.length_eraseIdx,if_pos (List.getElem?_eq_some_iff.1 hj).1]
end
end Go.Proofs.YtnnehafmjfmbnaaGreatDoor.A

namespace Go.Proofs.YtnnehafmjfmbnaaGreatDoor.A
set_option linter.unusedVariables false
set_option linter.unusedSimpArgs false
open Go.Proofs Go.Proofs.YtnnehafmjfmbnaaGreatDoor
section
variable {H H' : Zc} {n d b p q : Nat} {m : YI} {k s : List UInt8}
theorem Zii {H : Zc} {a c : Zf} : (H++[a]++[c])[H.length]?=some a:=by simp [List.getElem?_append]
theorem Zvq {H : Zc} {a c : Zf} : (H++[a]++[c])[H.length+1]?=some c:=by simp [List.getElem?_append]
theorem ZdJ {α : Type} {m : List (List UInt8 × α)} {v : α} : (Qw k v m).length=if (Ze k m).isSome then m.length else m.length+1:=by
 unfold Qw
 split <;> simp
theorem Zhf (h : Zr k=true) : k.length≤12:=by
 unfold Zr at h
 simp only [Bool.and_eq_true,decide_eq_true_eq] at h
 exact h.1.1.1.2
theorem Zm4 : QP k=0↔Zr k=true:=by unfold QP;split <;> simp_all
theorem ZbQ {g : Nat} {mm : List Value→M Value} {args : List Value} (hp : np g=some mm) (hy : Nat.blt g ZaN=true:=by rfl) : run Tryz.prog np lvs (n+1) g args=mm args:=by
 unfold run
 simp only [hy,hp,cond_true]
end
end Go.Proofs.YtnnehafmjfmbnaaGreatDoor.A

namespace Go.Proofs.YtnnehafmjfmbnaaGreatDoor.A
set_option linter.unusedVariables false
set_option linter.unusedSimpArgs false
open Go.Proofs Go.Proofs.YtnnehafmjfmbnaaGreatDoor
section
variable {H H' : Zc} {n : Nat} {s pre : List UInt8}
theorem Zrr {k : Nat} (hk : k≤s.length) : sls (strv s) none (some (iv k)) H=some (strv (s.take k),H):=by
 have h1 : (⟨s.toArray⟩ : ByteArray).size=s.length:=by simp [ByteArray.size]
 have h2 : (⟨s.toArray⟩ : ByteArray).extract 0 k=⟨(s.take k).toArray⟩:=by
  apply ByteArray.ext
  rw [ByteArray.data_extract]
  simp
 have hb : bnd (some (iv k)) s.length=some k:=by simp [bnd]
 have hb0 : bnd none 0=some 0:=rfl
 unfold strv sls
 simp only [h1,hb,hb0]
 rw [if_pos ⟨Nat.zero_le _,hk⟩,h2]
section
variable {f v : Value} {p : List UInt8→Bool} {l : List (List UInt8)} {q : List Nat} {Q : Zc→Prop}
theorem KI {ss : List (List UInt8)} {i : Nat} {x : List UInt8} (h : ss[i]?=some x) : (ss.map strv)[i]?=some (strv x):=by rw [List.getElem?_map,h];rfl
theorem Zvt (hr : ZB H v (l.map strv) q) (hl : l.length≤1000000) (hf : ∀ s∈l,JF (R n) f [strv s] H=some (.bool (p s),H)) : ∀ (t k : Nat),l.length - k=t→k≤l.length→
  Zh (c4 (ZE.l1 (R n))) [v,f,iv l.length,iv k] H=some (match (l.drop k).findIdx? p with | some i=>.ret (iv (k+i : Nat)) | none=>.ext 0 [],H)
 | 0,k,ht,hk=>by
  have : k=l.length:=by omega
  subst this
  rw [List.drop_length]
  refine Z4 ?_
  rw [ZK]
  unfold ZE.l1
  rw [Za Zq,Zb,if_neg (by simp)]
  rfl
 | t+1,k,ht,hk=>by
  have hkl : k < l.length:=by omega
  have hlt : (k : Int) < l.length:=by omega
  have hg:=List.getElem?_eq_getElem hkl
  have hm : l[k]∈l:=List.getElem_mem hkl
  have hd:=List.drop_eq_getElem_cons hkl
  generalize l[k]=x at hg hd hm
  have x1:=hr.ix (i:=k) (by simpa using hkl) .i64 H
  have x2:=hr.ldx (KI hg)
  have x3:=hf x hm
  have ih:=Zvt hr hl hf t (k+1) (by omega) (by omega)
  rw [hd,List.findIdx?_cons]
  cases hp : p x
  ·rw [hp] at x3
   refine (ZI ?_).trans (ih.trans ?_)
   ·rw [ZK]
    unfold ZE.l1
    rw [Za Zq,Zb,if_pos (by simpa using hlt),Za x1,Za x2,Za x3,Zb,if_neg (by simp),Za ZA,QH (by omega)]
    rfl
   ·cases (l.drop (k+1)).findIdx? p with
    | none=>rfl
    | some i=>simp only [Bool.false_eq_true,if_false,Option.map_some];rw [show k+1+i=k+(i+1) by omega]
  ·rw [hp] at x3
   refine Yy ?_
   rw [ZK]
   unfold ZE.l1
   rw [Za Zq,Zb,if_pos (by simpa using hlt),Za x1,Za x2,Za x3,Zb,if_pos rfl]
   rfl
theorem Zhs : ∀ {l : List (List UInt8)},(match l.findIdx? p with | some i=>l.filter (fun s=>!p s)=l.take i++(l.drop (i+1)).filter (fun s=>!p s)∧i < l.length | none=>l.filter (fun s=>!p s)=l)
 | []=>by simp
 | x :: l=>by
  have ih:=Zhs (l:=l)
  rw [List.findIdx?_cons]
  cases hp : p x
  ·simp only [Bool.false_eq_true,if_false]
   cases h : l.findIdx? p with
   | none=>rw [h] at ih;simp [hp];simpa using ih
   | some i=>rw [h] at ih;simp [hp,ih.1,ih.2]
  ·simp [hp]
theorem ZvC (k : Nat) : reps k (Value.string ⟨#[]⟩).cells.toList=List.replicate k (strv []):=by
 induction k with
 | zero=>rfl
 | succ k ih=>
  unfold reps at ih ⊢
  rw [List.replicate_succ,List.flatten_cons,ih];rfl
theorem Zsy {cs : List (List UInt8)} {i : Nat} (hr : ZB H v (cs.map strv) q) (hi : i < cs.length) : ∃ a H' v',slv 1 v (some (iv i)) none none H=some (a,H)∧clr (.string ⟨#[]⟩) 1 a H=some (.tuple #[],H')∧slv 1 v none (some (iv i)) none H'=some (v',H')∧ZB H' v' ((cs.take i).map strv) q∧ZG q H q H':=by
 rcases hr with ⟨h1,_,_⟩ | ⟨sid,rest,g,rfl,rfl,hid⟩
 ·simp at h1;simp [h1] at hi
 ·rw [List.length_map] at *
  have b1 : bnd (some (iv i)) 0=some i:=by simp [bnd]
  have b1' : bnd (some (iv i)) cs.length=some i:=by simp [bnd]
  have b2 : ∀ k,bnd none k=some k:=fun _=>rfl
  have hsp : splice (cs.map strv++rest) (List.replicate (cs.length - i) (strv [])) i=(cs.take i).map strv++(List.replicate (cs.length - i) (strv [])++rest):=by
   unfold splice
   rw [List.length_replicate,Nat.add_sub_cancel' (Nat.le_of_lt hi),List.take_append_of_le_length (by simp;omega),List.drop_append_of_le_length (by simp),List.drop_eq_nil_of_le (by simp),List.map_take]
   simp
  refine ⟨.slice (some ⟨sid,0+i * 1,none⟩) (cs.length - i) (cs.length+rest.length - i),H.set sid (.cells ((cs.take i).map strv++(List.replicate (cs.length - i) (strv [])++rest)) 1 g false),.slice (some ⟨sid,0,none⟩) i (cs.length+rest.length),?_,?_,?_,?_,⟨by simp,fun j hj hn=>List.getElem?_set_ne (fun e=>hn (by simp [e])),fun j hj=>.inl hj⟩⟩
  ·simp only [slv,hid,b1,b2]
   rw [if_pos ⟨trivial,by omega,by omega,Nat.le_refl _⟩,if_neg (by omega)]
  ·simp only [clr]
   rw [if_neg (by omega)]
   simp only [hid]
   rw [if_pos ⟨trivial,by simp;omega⟩,ZvC]
   rw [Nat.zero_add,Nat.mul_one,hsp]
  ·simp only [slv,ZR hid,b1',b2]
   rw [if_pos ⟨trivial,by omega,by omega,Nat.le_refl _⟩,if_neg (by omega)]
   simp
  ·have hl : ((cs.take i).map strv).length=i:=by simp;omega
   refine .inr ⟨sid,List.replicate (cs.length - i) (strv [])++rest,g,?_,rfl,ZR hid⟩
   rw [hl]
   simp;omega
end
end
end Go.Proofs.YtnnehafmjfmbnaaGreatDoor.A

namespace Go.Proofs.YtnnehafmjfmbnaaGreatDoor.A
set_option linter.unusedVariables false
set_option linter.unusedSimpArgs false
open Go.Proofs Go.Proofs.YtnnehafmjfmbnaaGreatDoor
def usr (u : List UInt8 × List UInt8) : List Value:=[strv u.1,strv u.2,strv [],.bool false,.slice none 0 0]
section
variable {H H' : Zc} {n d b : Nat} {m : YI} {pre : List UInt8}
theorem ZtV {k s : List UInt8} {H : Zc} : bld (.agg #[.string ⟨#[]⟩,.string ⟨#[]⟩,.string ⟨#[]⟩,.bool false,.slice none 0 0]) [(0,1,strv k),(1,1,strv s)] H=some (.agg (usr (k,s)).toArray,H):=by
 simp [↓ZV,ZW,↓Qs,Z8,Z9,Qa,↓Zb,JN,Zu,Yl,Qg,Jo,Qk,Jp,Js,QG,Jy,QF,QL,QR,QQ,Jt,Zo,Zx,YJ,YA,Ja,QV,JS,ZA,Jc,JP,JR,JC,Zy,Zt,Zq,QU,QC,Qc,Ji,JD,JJ,JT,↓YK,JQ,↓g_r,YH,Y6,Wp,splice,Value.cells,strv,usr,oneCell]
end
end Go.Proofs.YtnnehafmjfmbnaaGreatDoor.A

namespace Go.Proofs.YtnnehafmjfmbnaaGreatDoor.A
set_option linter.unusedVariables false
set_option linter.unusedSimpArgs false
open Go.Proofs Go.Proofs.YtnnehafmjfmbnaaGreatDoor
theorem Zqo (s : ByteArray) : Value.string s=strv s.data.toList:=by simp [strv]
section
variable {H : Zc} {n : Nat}
end
end Go.Proofs.YtnnehafmjfmbnaaGreatDoor.A

namespace Go.Proofs.YtnnehafmjfmbnaaGreatDoor.A
set_option linter.unusedVariables false
set_option linter.unusedSimpArgs false
open Go.Proofs Go.Proofs.YtnnehafmjfmbnaaGreatDoor
abbrev Ent:=List UInt8 × List UInt8
section
variable {m : YI} {k s : List UInt8} {x : Ent}
end
end Go.Proofs.YtnnehafmjfmbnaaGreatDoor.A

namespace Go.Proofs.YtnnehafmjfmbnaaGreatDoor.A
set_option linter.unusedVariables false
set_option linter.unusedSimpArgs false
open Go.Proofs Go.Proofs.YtnnehafmjfmbnaaGreatDoor
def GV (H : Zc) (gv : Value) (gs : List (List UInt8)) : Prop:=
 (gs=[]∧(gv=.slice none 0 0∨gv=.slice (some ⟨0,0,some 1⟩) 0 0))∨
 ∃ id rest,gv=.slice (some ⟨id,0,none⟩) gs.length (gs.length+rest.length)∧H[id]?=some (.cells (gs.map strv++rest) 1 false true)
section
variable {H H' X : Zc} {n p : Nat} {gv : Value} {gs : List (List UInt8)}
theorem GV.sl (h : GV H gv gs) : Sl H gv (gs.map strv):=by
 rcases h with ⟨rfl,rfl | rfl⟩ | ⟨id,rest,rfl,h2⟩
 ·exact Sl.nil
 ·exact ⟨_,_,rfl,(fun e=>by cases e),rfl⟩
 ·refine ⟨some ⟨id,0,none⟩,gs.length+rest.length,by rw [List.length_map],(fun e=>by cases e),?_⟩
  simp only [QK,h2]
  rw [if_pos (by simp)]
  simp
theorem GV.len (h : GV H gv gs) : Zz gv H'=some (iv gs.length,H'):=by
 have:=h.sl.len (H':=H')
 rwa [List.length_map] at this
theorem GV.one (h : GV H gv gs) : oneCell gv=true:=by
 rcases h with ⟨_,rfl | rfl⟩ | ⟨id,rest,rfl,_⟩ <;> rfl
theorem GV.cut (h : GV H gv gs) {k : Nat} (hk : k≤gs.length) : ∃ sv,slv 1 gv none (some (iv k)) none H=some (sv,H)∧Sl H sv ((gs.take k).map strv):=by
 have b1 : ∀ d,bnd (some (iv k)) d=some k:=fun d=>by simp [bnd]
 have b2 : ∀ d,bnd none d=some d:=fun _=>rfl
 rcases h with ⟨rfl,h⟩ | ⟨id,rest,rfl,h2⟩
 ·have hk0 : k=0:=by simpa using hk
  subst hk0
  rcases h with rfl | rfl
  ·exact ⟨_,rfl,Sl.nil⟩
  ·exact ⟨_,rfl,⟨_,_,rfl,(fun e=>by cases e),rfl⟩⟩
 ·by_cases h0 : gs.length+rest.length=0
  ·have hk0 : k=0:=by omega
   subst hk0
   refine ⟨.slice (some ⟨id,0,some (bif false then 1 else 0)⟩) 0 0,?_,⟨_,_,rfl,(fun e=>by cases e),rfl⟩⟩
   simp only [slv,h2,b1,b2]
   rw [if_pos ⟨trivial,by omega,by omega,Nat.le_refl _⟩,if_pos (by omega)]
  ·refine ⟨.slice (some ⟨id,0,none⟩) k (gs.length+rest.length),?_,?_⟩
   ·simp only [slv,h2,b1,b2]
    rw [if_pos ⟨trivial,by omega,by omega,Nat.le_refl _⟩,if_neg (by omega)]
    simp
   ·have hl : ((gs.take k).map strv).length=k:=by simp;omega
    refine ⟨some ⟨id,0,none⟩,gs.length+rest.length,by rw [hl],(fun e=>by cases e),?_⟩
    simp only [QK,h2]
    rw [if_pos (by simp;omega),List.drop_zero,Nat.mul_one,List.take_append_of_le_length (by simpa using hk),List.map_take]
structure Zp where
 nm : List UInt8
 hs : List UInt8
 ml : List UInt8
 ds : Bool
 gv : Value
 gs : List (List UInt8)
abbrev Zp.cells (u : Zp) : List Value:=[strv u.nm,strv u.hs,strv u.ml,.bool u.ds,u.gv]
def Zp.ok (H : Zc) (u : Zp) : Prop:=GV H u.gv u.gs
theorem Zp.all {u : Zp} (h : u.ok H) : u.cells.all oneCell=true:=by
 have:=GV.one h
 simp only [Zp.cells,List.all_cons,this];rfl
def Zcr (H : Zc) (sl : Value) (us : List Zp) : Prop:=SlN 5 H sl (us.map Zp.cells)∧∀ u∈us,u.ok H
variable {sl : Value} {us : List Zp}
theorem Zcr.len (h : Zcr H sl us) : Zz sl H'=some (iv us.length,H'):=by
 have:=h.1.len (H':=H')
 rwa [List.length_map] at this
theorem Zcr.fetch {β : Type} {k : Value→M β} (h : Zcr H sl us) {j : Nat} {u : Zp} (hj : us[j]?=some u) :
  bind (ixa 5 sl (iv j)) (fun p=>bind (ldA 5 p) fun v=>bind (alc 1 (.agg #[.string ⟨#[]⟩,.string ⟨#[]⟩,.string ⟨#[]⟩,.bool false,.slice none 0 0])) fun q=>bind (stA 5 q v) fun _=>k q) H=k (pt H.length) (H++[.cells u.cells 1 false false]):=by
 have hr : (us.map Zp.cells)[j]?=some u.cells:=by rw [List.getElem?_map,hj];rfl
 rw [h.1.fetch hr (by omega) .i64]
 exact Zaj (n:=5) (zs:=[.string ⟨#[]⟩,.string ⟨#[]⟩,.string ⟨#[]⟩,.bool false,.slice none 0 0]) (r:=u.cells) rfl rfl rfl (Zp.all (h.2 u (List.mem_of_getElem? hj)))
end
end Go.Proofs.YtnnehafmjfmbnaaGreatDoor.A

namespace Go.Proofs.YtnnehafmjfmbnaaGreatDoor.A
set_option linter.unusedVariables false
set_option linter.unusedSimpArgs false
open Go.Proofs Go.Proofs.YtnnehafmjfmbnaaGreatDoor
section
variable {H0 H X : Zc} {n p : Nat} {u : Zp} {us : List Zp} {sl : Value}
end
end Go.Proofs.YtnnehafmjfmbnaaGreatDoor.A

namespace Go.Proofs.YtnnehafmjfmbnaaGreatDoor.A
set_option linter.unusedVariables false
set_option linter.unusedSimpArgs false
open Go.Proofs Go.Proofs.YtnnehafmjfmbnaaGreatDoor
section
variable {H0 H X : Zc} {n p d b : Nat} {u : Zp} {us : List Zp} {sl dv : Value}
end
end Go.Proofs.YtnnehafmjfmbnaaGreatDoor.A

namespace Go.Proofs.YtnnehafmjfmbnaaGreatDoor.A
set_option linter.unusedVariables false
set_option linter.unusedSimpArgs false
open Go.Proofs Go.Proofs.YtnnehafmjfmbnaaGreatDoor
abbrev Zgz:=List UInt8 × List UInt8 × List UInt8 × Bool × List (List UInt8)
def Qd (u : Zp) : Zgz:=(u.nm,u.hs,u.ml,u.ds,u.gs)
section
variable {H0 H X : Zc} {n p p1 p2 d b : Nat} {u w : Zp} {us ws : List Zp} {a c : Value}
theorem Zou (h1 : Sl X u.gv (u.gs.map strv)) (h2 : Sl X w.gv (w.gs.map strv)) (hl : u.gs.length=w.gs.length) (hb : u.gs.length≤1000000) (c1 : X[p1]?=some (.cells u.cells 1 false false)) (c2 : X[p2]?=some (.cells w.cells 1 false false)) : ∀ (t j : Nat),u.gs.length - j=t→j≤u.gs.length→
  Zh (c4 (Kk.l1 (R n))) [pt p1,pt p2,iv u.gs.length,iv j] X=some (if u.gs.drop j=w.gs.drop j then .ext 0 [] else .ret (.bool false),X)
 | 0,j,ht,hj=>by
  rw [List.drop_eq_nil_of_le (by omega),List.drop_eq_nil_of_le (by omega),if_pos rfl]
  refine Z4 ?_
  rw [ZK]
  unfold Kk.l1
  rw [Za Zq,Zb,if_neg (by simp;omega)]
  rfl
 | t+1,j,ht,hj=>by
  have hj1 : j < u.gs.length:=by omega
  have hj2 : j < w.gs.length:=by omega
  have hlt : (j : Int) < u.gs.length:=by omega
  have g1:=List.getElem?_eq_getElem hj1
  have g2:=List.getElem?_eq_getElem hj2
  have d1:=List.drop_eq_getElem_cons hj1
  have d2:=List.drop_eq_getElem_cons hj2
  generalize u.gs[j]=x at g1 d1
  generalize w.gs[j]=y at g2 d2
  have x1:=h1.ix (i:=j) (by simpa using hj1) .i64 X
  have x2:=h1.ldx (KI g1)
  have y1:=h2.ix (i:=j) (by simpa using hj2) .i64 X
  have y2:=h2.ldx (KI g2)
  have a4 : ld1 (pa p1 4) X=some (u.gv,X):=Zv c1 rfl
  have b4 : ld1 (pa p2 4) X=some (w.gv,X):=Zv c2 rfl
  have q1 : bop .str .neq (strv x) (strv y) X=some (.bool (!(x==y)),X):=WZ
  rw [d1,d2]
  by_cases hxy : x=y
  ·subst hxy
   have ih:=Zou h1 h2 hl hb c1 c2 t (j+1) (by omega) (by omega)
   have hi : (x :: u.gs.drop (j+1)=x :: w.gs.drop (j+1))↔(u.gs.drop (j+1)=w.gs.drop (j+1)):=by simp
   simp only [hi]
   refine (ZI ?_).trans ih
   rw [ZK]
   unfold Kk.l1
   rw [Za Zq,Zb,if_pos (by simpa using hlt),Za Zg,Za a4,Za x1,Za x2,Za Zg,Za b4,Za y1,Za y2,Za q1,Zb,if_neg (by simp),Za ZA,QH (by omega)]
   rfl
  ·rw [if_neg (by simp [hxy])]
   refine Yy ?_
   rw [ZK]
   unfold Kk.l1
   rw [Za Zq,Zb,if_pos (by simpa using hlt),Za Zg,Za a4,Za x1,Za x2,Za Zg,Za b4,Za y1,Za y2,Za q1,Zb,if_pos (by simp [hxy])]
   rfl
theorem ZoZ {u : Zp} (h : oneCell u.gv=true) : alc 1 (.agg u.cells.toArray) X=some (pt X.length,X++[.cells u.cells 1 false false]):=by
 rw [QL]
 exact if_pos (show u.cells.toArray.toList.all oneCell=true by simp only [Zp.cells,List.all_cons,h];rfl)
theorem Zua (h1 : Sl X u.gv (u.gs.map strv)) (h2 : Sl X w.gv (w.gs.map strv)) (o1 : oneCell u.gv=true) (o2 : oneCell w.gv=true) (hb1 : u.gs.length≤1000000) (hb2 : w.gs.length≤1000000) :
  ∃ X',R (n+1) ZdV [.agg u.cells.toArray,.agg w.cells.toArray] X=some (.bool (decide (Qd u=Qd w)),X')∧HLe X X':=by
 have e1:=ZoZ (X:=X) o1
 have e2:=ZoZ (X:=X++[.cells u.cells 1 false false]) o2
 have k1 : HLe X (X++[Zf.cells u.cells 1 false false]++[Zf.cells w.cells 1 false false]):=(HLe.app _ _).trans (.app _ _)
 have c1 : (X++[Zf.cells u.cells 1 false false]++[Zf.cells w.cells 1 false false])[X.length]?=some (.cells u.cells 1 false false):=Zii
 have c2 : (X++[Zf.cells u.cells 1 false false]++[Zf.cells w.cells 1 false false])[(X++[Zf.cells u.cells 1 false false]).length]?=some (.cells w.cells 1 false false):=ZF
 generalize X++[Zf.cells u.cells 1 false false]++[Zf.cells w.cells 1 false false]=X2 at e2 k1 c1 c2
 generalize (X++[Zf.cells u.cells 1 false false]).length=p2 at e2 c2
 generalize X.length=p1 at e1 c1
 have a0 : ∀ f x,u.cells[f]?=some x→ld1 (pa p1 f) X2=some (x,X2):=fun f x h=>Zv c1 h
 have b0 : ∀ f x,w.cells[f]?=some x→ld1 (pa p2 f) X2=some (x,X2):=fun f x h=>Zv c2 h
 have q0 : ∀ x y : List UInt8,bop .str .neq (strv x) (strv y) X2=some (.bool (decide (x≠y)),X2):=fun x y=>by
  rw [WZ];by_cases h : x=y <;> simp [h]
 have q1 : bop .bool .neq (.bool u.ds) (.bool w.ds) X2=some (.bool (decide (u.ds≠w.ds)),X2):=by
  rw [JD];cases u.ds <;> cases w.ds <;> rfl
 have q2 : bop .int .neq (iv u.gs.length) (iv w.gs.length) X2=some (.bool (decide (u.gs.length≠w.gs.length)),X2):=by
  rw [Zt];by_cases h : u.gs.length=w.gs.length
  ·simp [h]
  ·have : ((u.gs.length : Int) !=w.gs.length)=true:=by rw [bne_iff_ne];omega
   rw [this];simp [h]
 have g1:=h1.mono k1
 have g2:=h2.mono k1
 have l1 : Zz u.gv X2=some (iv u.gs.length,X2):=by have:=g1.len (H':=X2);rwa [List.length_map] at this
 have l2 : Zz w.gv X2=some (iv w.gs.length,X2):=by have:=g2.len (H':=X2);rwa [List.length_map] at this
 refine ⟨X2,?_,k1⟩
 rw [R,Znq rfl]
 unfold Kk
 rw [Za e1,Za e2,Za Zg,Za (a0 0 _ rfl),Za Zg,Za (b0 0 _ rfl),Za (q0 _ _)]
 by_cases n1 : u.nm=w.nm
 rotate_left
 ·rw [decide_eq_true n1,Za (g_r.trans (if_neg (by simp)))]
  simp only [List.replicate]
  rw [Qz,Za Zo]
  simp only [cond_true]
  rw [Za (g_r.trans (if_neg (by simp)))]
  simp only [List.replicate]
  rw [Qz,Za Zo]
  simp only [cond_true]
  rw [Za (g_r.trans (if_neg (by simp)))]
  simp only [List.replicate]
  rw [Qz,Za Zo]
  simp only [cond_true]
  rw [Za (g_r.trans (if_neg (by simp)))]
  simp only [List.replicate]
  rw [Jf,Za Zo]
  simp only [cond_true]
  rw [Zb,if_pos rfl,decide_eq_false (fun e=>n1 (congrArg (·.1) e))]
  rfl
 rw [decide_eq_false (fun h=>h n1),Z3,Zl,Za Zg,Zl,Za (a0 1 _ rfl),Zl,Za Zg,Zl,Za (b0 1 _ rfl),Zl,Za (q0 _ _),Qi,Qz,Za Zo]
 simp only [cond_false]
 by_cases n2 : u.hs=w.hs
 rotate_left
 ·rw [decide_eq_true n2,Za (g_r.trans (if_neg (by simp)))]
  simp only [List.replicate]
  rw [Qz,Za Zo]
  simp only [cond_true]
  rw [Za (g_r.trans (if_neg (by simp)))]
  simp only [List.replicate]
  rw [Qz,Za Zo]
  simp only [cond_true]
  rw [Za (g_r.trans (if_neg (by simp)))]
  simp only [List.replicate]
  rw [Jf,Za Zo]
  simp only [cond_true]
  rw [Zb,if_pos rfl,decide_eq_false (fun e=>n2 (congrArg (·.2.1) e))]
  rfl
 rw [decide_eq_false (fun h=>h n2),Z3,Zl,Za Zg,Zl,Za (a0 2 _ rfl),Zl,Za Zg,Zl,Za (b0 2 _ rfl),Zl,Za (q0 _ _),Qi,Qz,Za Zo]
 simp only [cond_false]
 by_cases n3 : u.ml=w.ml
 rotate_left
 ·rw [decide_eq_true n3,Za (g_r.trans (if_neg (by simp)))]
  simp only [List.replicate]
  rw [Qz,Za Zo]
  simp only [cond_true]
  rw [Za (g_r.trans (if_neg (by simp)))]
  simp only [List.replicate]
  rw [Jf,Za Zo]
  simp only [cond_true]
  rw [Zb,if_pos rfl,decide_eq_false (fun e=>n3 (congrArg (·.2.2.1) e))]
  rfl
 rw [decide_eq_false (fun h=>h n3),Z3,Zl,Za Zg,Zl,Za (a0 3 _ rfl),Zl,Za Zg,Zl,Za (b0 3 _ rfl),Zl,Za q1,Qi,Qz,Za Zo]
 simp only [cond_false]
 by_cases n4 : u.ds=w.ds
 rotate_left
 ·rw [decide_eq_true n4,Za (g_r.trans (if_neg (by simp)))]
  simp only [List.replicate]
  rw [Jf,Za Zo]
  simp only [cond_true]
  rw [Zb,if_pos rfl,decide_eq_false (fun e=>n4 (congrArg (·.2.2.2.1) e))]
  rfl
 rw [decide_eq_false (fun h=>h n4),Z3,Zl,Za Zg,Zl,Za (a0 4 _ rfl),Zl,Za l1,Zl,Za Zg,Zl,Za (b0 4 _ rfl),Zl,Za l2,Zl,Za q2,Qi,Jf,Za Zo]
 simp only [cond_false]
 by_cases n5 : u.gs.length=w.gs.length
 rotate_left
 ·rw [decide_eq_true n5,Zb,if_pos rfl,decide_eq_false (fun e=>n5 (congrArg (·.2.2.2.2.length) e))]
  rfl
 rw [decide_eq_false (fun h=>h n5),Zb,if_neg (by simp),Za Zg,Za (a0 4 _ rfl),Za l1]
 have e3:=Zou (n:=n) g1 g2 n5 hb1 c1 c2 u.gs.length 0 (by omega) (by omega)
 rw [List.drop_zero,List.drop_zero] at e3
 have e3 : Zh (c4 (Kk.l1 (R n))) [pt p1,pt p2,iv u.gs.length,.int .i64 0] X2=_:=e3
 by_cases n6 : u.gs=w.gs
 ·rw [if_pos n6] at e3
  rw [QW e3,ZM,decide_eq_true (show Qd u=Qd w by unfold Qd;rw [n1,n2,n3,n4,n6])]
  rfl
 ·rw [if_neg n6] at e3
  rw [KF e3,decide_eq_false (fun e=>n6 (congrArg (·.2.2.2.2) e))]
  rfl
def Qn (H : Zc) (sl : Value) (us : List Zp) : Prop:=SlN 5 H sl (us.map Zp.cells)∧∀ u∈us,Sl H u.gv (u.gs.map strv)∧oneCell u.gv=true∧u.gs.length≤1000000
theorem Qn.mono (h : Qn H a us) (hl : HLe H X) : Qn X a us:=⟨h.1.mono hl,fun u hu=>⟨(h.2 u hu).1.mono hl,(h.2 u hu).2⟩⟩
theorem Zcr.s (h : Zcr H a us) (hb : ∀ u∈us,u.gs.length≤1000000) : Qn H a us:=⟨h.1,fun u hu=>⟨GV.sl (h.2 u hu),GV.one (h.2 u hu),hb u hu⟩⟩
theorem Zov (hn : us.length≤1000000) (hl : us.length=ws.length) (ha : Qn H0 a us) (hc : Qn H0 c ws) : ∀ (t j : Nat) (X : Zc),us.length - j=t→j≤us.length→HLe H0 X→
  ∃ X',Zh (c4 (Q0.l1 (R (n+1)))) [a,c,iv us.length,iv j] X=some (if (us.drop j).map Qd=(ws.drop j).map Qd then .ext 0 [] else .ret (.bool false),X')∧HLe H0 X'
 | 0,j,X,ht,hj,hle=>by
  rw [List.drop_eq_nil_of_le (by omega),List.drop_eq_nil_of_le (by omega),if_pos rfl]
  refine ⟨X,Z4 ?_,hle⟩
  rw [ZK]
  unfold Q0.l1
  rw [Za Zq,Zb,if_neg (by simp;omega)]
  rfl
 | t+1,j,X,ht,hj,hle=>by
  have hj1 : j < us.length:=by omega
  have hj2 : j < ws.length:=by omega
  have hlt : (j : Int) < us.length:=by omega
  have g1:=List.getElem?_eq_getElem hj1
  have g2:=List.getElem?_eq_getElem hj2
  have d1:=List.drop_eq_getElem_cons hj1
  have d2:=List.drop_eq_getElem_cons hj2
  generalize us[j]=u at g1 d1
  generalize ws[j]=w at g2 d2
  have hr1 : (us.map Zp.cells)[j]?=some u.cells:=by rw [List.getElem?_map,g1];rfl
  have hr2 : (ws.map Zp.cells)[j]?=some w.cells:=by rw [List.getElem?_map,g2];rfl
  have hf1:=fun {K : Value→M Out}=>(ha.1.mono hle).fetch (k:=K) hr1 (by omega) .i64
  have hf2:=fun {K : Value→M Out}=>(hc.1.mono hle).fetch (k:=K) hr2 (by omega) .i64
  obtain ⟨p1,p2,p3⟩:=(ha.mono hle).2 u (List.mem_of_getElem? g1)
  obtain ⟨r1,r2,r3⟩:=(hc.mono hle).2 w (List.mem_of_getElem? g2)
  obtain ⟨X1,e1,l1⟩:=Zua (n:=n) p1 r1 p2 r2 p3 r3
  rw [d1,d2]
  by_cases hk : Qd u=Qd w
  ·rw [decide_eq_true hk] at e1
   obtain ⟨X2,e2,l2⟩:=Zov hn hl ha hc t (j+1) X1 (by omega) (by omega) (hle.trans l1)
   have hi : ((u :: us.drop (j+1)).map Qd=(w :: ws.drop (j+1)).map Qd)↔((us.drop (j+1)).map Qd=(ws.drop (j+1)).map Qd):=by simp [hk]
   simp only [hi]
   refine ⟨X2,(ZI ?_).trans e2,l2⟩
   rw [ZK]
   unfold Q0.l1
   rw [Za Zq,Zb,if_pos (by simpa using hlt),hf1,hf2,Za e1,Za Zx,Zb,if_neg (by simp),Za ZA,QH (by omega)]
   rfl
  ·rw [decide_eq_false hk] at e1
   rw [if_neg (by simp [hk])]
   refine ⟨X1,Yy ?_,hle.trans l1⟩
   rw [ZK]
   unfold Q0.l1
   rw [Za Zq,Zb,if_pos (by simpa using hlt),hf1,hf2,Za e1,Za Zx,Zb,if_pos (by simp)]
   rfl
theorem ZrE (hn : us.length≤1000000) (hn2 : ws.length≤1000000) (ha : Qn X a us) (hc : Qn X c ws) : ∃ X',R (n+2) Yx [a,c] X=some (.bool (decide (us.map Qd=ws.map Qd)),X')∧HLe X X':=by
 have h1 : Zz a X=some (iv us.length,X):=by have:=ha.1.len (H':=X);rwa [List.length_map] at this
 have h2 : Zz c X=some (iv ws.length,X):=by have:=hc.1.len (H':=X);rwa [List.length_map] at this
 have f1 : ∀ v H',Q0 (R (n+1)) a c X=some (v,H')→R (n+2) Yx [a,c] X=some (v,H'):=fun v H' hr=>by rw [R,ZiB rfl];exact hr
 by_cases hl : us.length=ws.length
 ·obtain ⟨X',e,l⟩:=Zov (n:=n) hn hl ha hc us.length 0 X (by omega) (by omega) (.refl _)
  have e : Zh (c4 (Q0.l1 (R (n+1)))) [a,c,iv us.length,.int .i64 0] X=_:=e
  rw [List.drop_zero,List.drop_zero] at e
  refine ⟨X',f1 _ _ ?_,l⟩
  unfold Q0
  rw [Za h1,Za h2,Za Zt,Zb,if_neg (by simp [hl]),Za h1]
  by_cases hk : us.map Qd=ws.map Qd
  ·rw [if_pos hk] at e
   rw [QW e,ZM,decide_eq_true hk];rfl
  ·rw [if_neg hk] at e
   rw [KF e,decide_eq_false hk];rfl
 ·refine ⟨X,f1 _ _ ?_,.refl _⟩
  unfold Q0
  have hk : ¬ us.map Qd=ws.map Qd:=fun e=>hl (by have:=congrArg List.length e;simpa using this)
  have hne : ((us.length : Int) !=ws.length)=true:=by rw [bne_iff_ne];omega
  rw [Za h1,Za h2,Za Zt,Zb,if_pos hne,decide_eq_false hk]
  rfl
end
end Go.Proofs.YtnnehafmjfmbnaaGreatDoor.A

namespace Go.Proofs.YtnnehafmjfmbnaaGreatDoor.A
set_option linter.unusedVariables false
set_option linter.unusedSimpArgs false
open Go.Proofs Go.Proofs.YtnnehafmjfmbnaaGreatDoor
section
variable {H H' : Zc} {n d b p q : Nat} {m : YI} {k s : List UInt8}
end
end Go.Proofs.YtnnehafmjfmbnaaGreatDoor.A

namespace Go.Proofs.YtnnehafmjfmbnaaGreatDoor.A
set_option linter.unusedVariables false
set_option linter.unusedSimpArgs false
open Go.Proofs Go.Proofs.YtnnehafmjfmbnaaGreatDoor
structure Zkr where
 kd : Nat
 nm : List UInt8
 hs : List UInt8
abbrev Zkr.cells (a : Zkr) : List Value:=[.int .u8 a.kd,strv a.nm,strv a.hs]
def Zn0 (H : Zc) (sl : Value) (ac : List Zkr) : Prop:=SlN 3 H sl (ac.map Zkr.cells)∧∀ a∈ac,a.kd≤255
section
variable {H H' : Zc} {sl : Value} {ac : List Zkr} {n : Nat}
theorem Zn0.len (h : Zn0 H sl ac) : Zz sl H'=some (iv ac.length,H'):=by
 have:=h.1.len (H':=H')
 rwa [List.length_map] at this
theorem Zn0.fetch {β : Type} {k : Value→M β} (h : Zn0 H sl ac) {j : Nat} {a : Zkr} (hj : ac[j]?=some a) :
  bind (ixa 3 sl (iv j)) (fun p=>bind (ldA 3 p) fun v=>bind (alc 1 (.agg #[.int .u8 0,.string ⟨#[]⟩,.string ⟨#[]⟩])) fun q=>bind (stA 3 q v) fun _=>k q) H=k (pt H.length) (H++[.cells a.cells 1 false false]):=by
 have hr : (ac.map Zkr.cells)[j]?=some a.cells:=by rw [List.getElem?_map,hj];rfl
 rw [h.1.fetch hr (by omega) .i64]
 exact Zaj (n:=3) (zs:=[.int .u8 0,.string ⟨#[]⟩,.string ⟨#[]⟩]) (r:=a.cells) rfl rfl rfl rfl
end
end Go.Proofs.YtnnehafmjfmbnaaGreatDoor.A

namespace Go.Proofs.YtnnehafmjfmbnaaGreatDoor.A
set_option linter.unusedVariables false
set_option linter.unusedSimpArgs false
open Go.Proofs Go.Proofs.YtnnehafmjfmbnaaGreatDoor
section
variable {H : Zc} {n : Nat} {f v : Value} {p : List UInt8→Bool} {l : List (List UInt8)} {q : List Nat} {Q : Zc→Prop}
theorem HLe.stepq {X X' : Zc} (h : HLe X X') : ZG q X q X':=h.step.more (by simp) (fun j hj=>.inl hj)
theorem ZqB (hl : l.length≤1000000) (hQ : ∀ X X',Q X→HLe X X'→Q X') (hf : ∀ X,Q X→∀ s∈l,∃ X',JF (R n) f [strv s] X=some (.bool (p s),X')∧HLe X X') : ∀ (t k : Nat) (X : Zc),l.length - k=t→k≤l.length→Q X→ZB X v (l.map strv) q→
  ∃ X',Zh (c4 (ZE.l1 (R n))) [v,f,iv l.length,iv k] X=some (match (l.drop k).findIdx? p with | some i=>.ret (iv (k+i : Nat)) | none=>.ext 0 [],X')∧HLe X X'
 | 0,k,X,ht,hk,hq,hr=>by
  have : k=l.length:=by omega
  subst this
  rw [List.drop_length]
  refine ⟨X,Z4 ?_,.refl _⟩
  rw [ZK]
  unfold ZE.l1
  rw [Za Zq,Zb,if_neg (by simp)]
  rfl
 | t+1,k,X,ht,hk,hq,hr=>by
  have hkl : k < l.length:=by omega
  have hlt : (k : Int) < l.length:=by omega
  have hg:=List.getElem?_eq_getElem hkl
  have hm : l[k]∈l:=List.getElem_mem hkl
  have hd:=List.drop_eq_getElem_cons hkl
  generalize l[k]=x at hg hd hm
  have x1:=hr.ix (i:=k) (by simpa using hkl) .i64 X
  have x2:=hr.ldx (KI hg)
  obtain ⟨X1,x3,l1⟩:=hf X hq x hm
  obtain ⟨X2,ih,l2⟩:=ZqB hl hQ hf t (k+1) X1 (by omega) (by omega) (hQ _ _ hq l1) (hr.step l1.step (by simp))
  rw [hd,List.findIdx?_cons]
  cases hp : p x
  ·rw [hp] at x3
   refine ⟨X2,(ZI ?_).trans (ih.trans ?_),l1.trans l2⟩
   ·rw [ZK]
    unfold ZE.l1
    rw [Za Zq,Zb,if_pos (by simpa using hlt),Za x1,Za x2,Za x3,Zb,if_neg (by simp),Za ZA,QH (by omega)]
    rfl
   ·cases (l.drop (k+1)).findIdx? p with
    | none=>rfl
    | some i=>simp only [Bool.false_eq_true,if_false,Option.map_some];rw [show k+1+i=k+(i+1) by omega]
  ·rw [hp] at x3
   refine ⟨X1,Yy ?_,l1⟩
   rw [ZK]
   unfold ZE.l1
   rw [Za Zq,Zb,if_pos (by simpa using hlt),Za x1,Za x2,Za x3,Zb,if_pos rfl]
   rfl
theorem ZrF (hr : ZB H v (l.map strv) q) (hl : l.length≤1000000) (hQ : ∀ X X',Q X→HLe X X'→Q X') (hf : ∀ X,Q X→∀ s∈l,∃ X',JF (R n) f [strv s] X=some (.bool (p s),X')∧HLe X X') (h0 : Q H) :
  ∃ H',R (n+1) JU [v,f] H=some (match l.findIdx? p with | some i=>iv i | none=>iv (-1),H')∧HLe H H':=by
 obtain ⟨H',e,le⟩:=ZqB hl hQ hf l.length 0 H (by omega) (by omega) h0 hr
 rw [List.drop_zero] at e
 have e : Zh (c4 (ZE.l1 (R n))) [v,f,iv l.length,.int .i64 0] H=_:=e
 have hlen : Zz v H=some (iv l.length,H):=by have:=hr.rd.len (H':=H);simpa using this
 refine ⟨H',?_,le⟩
 rw [R,ZcU rfl]
 unfold ZE
 rw [Za hlen]
 cases h : l.findIdx? p with
 | none=>rw [h] at e;rw [QW e,ZM];rfl
 | some i=>
  rw [h] at e
  rw [KF e]
  simp [ret]
theorem Zmu (hl : l.length≤1000000) (hQ : ∀ X X',Q X→ZG q X q X'→Q X') (hf : ∀ X,Q X→∀ s∈l,∃ X',JF (R n) f [strv s] X=some (.bool (p s),X')∧HLe X X') : ∀ (t j i : Nat) (cs : List (List UInt8)) (X : Zc),l.length - j=t→j≤l.length→i≤j→cs.length=l.length→cs.drop j=l.drop j→ZB X v (cs.map strv) q→Q X→
  ∃ (X' : Zc) (cs' : List (List UInt8)),Zh (c4 (ZT.l1 (R n))) [v,f,iv i,iv j] X=some (.ext 0 [v,iv (i+((l.drop j).filter fun s=>!p s).length : Nat)],X')∧ZB X' v (cs'.map strv) q∧cs'.length=l.length∧
   cs'.take (i+((l.drop j).filter fun s=>!p s).length)=cs.take i++(l.drop j).filter (fun s=>!p s)∧ZG q X q X'
 | 0,j,i,cs,X,ht,hj,hi,hc,hd,hr,hq=>by
  have : j=l.length:=by omega
  subst this
  rw [List.drop_length]
  have hlen : Zz v X=some (iv l.length,X):=by have:=hr.rd.len (H':=X);simpa [hc] using this
  refine ⟨X,cs,Z4 ?_,hr,hc,by simp,.refl _ _⟩
  rw [ZK]
  unfold ZT.l1
  rw [Za hlen,Za Zq,Zb,if_neg (by simp)]
  rfl
 | t+1,j,i,cs,X,ht,hj,hi,hc,hd,hr,hq=>by
  have hjl : j < l.length:=by omega
  have hlt : (j : Int) < l.length:=by omega
  have hg:=List.getElem?_eq_getElem hjl
  have hm : l[j]∈l:=List.getElem_mem hjl
  have hdl:=List.drop_eq_getElem_cons hjl
  generalize l[j]=x at hg hdl hm
  have hgc : cs[j]?=some x:=by
   have h1 : (cs.drop j)[0]?=(l.drop j)[0]?:=by rw [hd]
   simpa [hg] using h1
  have hlen : Zz v X=some (iv l.length,X):=by have:=hr.rd.len (H':=X);simpa [hc] using this
  have x1:=hr.ix (i:=j) (by simpa [hc] using hjl) .i64 X
  have x2:=hr.ldx (KI hgc)
  obtain ⟨Y,x3,ly⟩:=hf X hq x hm
  have hqy:=hQ _ _ hq (ly.stepq (q:=q))
  have hry:=hr.step ly.step (by simp)
  have hd1 : cs.drop (j+1)=l.drop (j+1):=by
   rw [← List.drop_drop,hd,List.drop_drop]
  rw [hdl,List.filter_cons]
  cases hp : p x
  ·rw [hp] at x3
   have x4:=hry.ix (i:=i) (by simp [hc];omega) .i64 Y
   obtain ⟨X1,x5,r1,s1,_⟩:=hry.stx (i:=i) (u:=strv x) (by simp [hc];omega) rfl
   have hset : (cs.map strv).set i (strv x)=(cs.set i x).map strv:=by rw [List.map_set]
   rw [hset] at r1
   obtain ⟨X',cs',e,r',hc',ht',s'⟩:=Zmu hl hQ hf t (j+1) (i+1) (cs.set i x) X1 (by omega) (by omega) (by omega) (by simpa using hc) (by rw [List.drop_set_of_lt (by omega)];exact hd1) r1 (hQ _ _ hqy s1)
   have hn : i+1+((l.drop (j+1)).filter fun s=>!p s).length=i+(((l.drop (j+1)).filter fun s=>!p s).length+1):=by omega
   rw [hn] at e ht'
   simp only [Bool.not_false,if_true,List.length_cons]
   refine ⟨X',cs',(ZI ?_).trans e,r',hc',?_,(ly.stepq.trans s1).trans s'⟩
   ·rw [ZK]
    unfold ZT.l1
    rw [Za hlen,Za Zq,Zb,if_pos (by simpa using hlt),Za x1,Za x2,Za x3,Za Zx]
    refine (ZY (vs:=[v,f,iv ((i+1 : Nat) : Int),iv j]) (H':=X1) ?_).trans ?_
    ·rw [Zb,if_pos (by rfl),Za x4,Za x5,Za ZA,QH (by omega)];rfl
    ·rw [ZK,Za ZA,QH (by omega)];rfl
   ·rw [ht']
    have : (cs.set i x).take (i+1)=cs.take i++[x]:=by
     have hil : i < (cs.set i x).length:=by simp [hc];omega
     rw [List.take_succ_eq_append_getElem hil,List.take_set_of_le (Nat.le_refl _)]
     simp
    rw [this];simp
  ·rw [hp] at x3
   obtain ⟨X',cs',e,r',hc',ht',s'⟩:=Zmu hl hQ hf t (j+1) i cs Y (by omega) (by omega) (by omega) hc hd1 hry hqy
   simp only [Bool.not_true,Bool.false_eq_true,if_false]
   refine ⟨X',cs',(ZI ?_).trans e,r',hc',ht',ly.stepq.trans s'⟩
   rw [ZK]
   unfold ZT.l1
   rw [Za hlen,Za Zq,Zb,if_pos (by simpa using hlt),Za x1,Za x2,Za x3,Za Zx]
   refine (ZY (vs:=[v,f,iv i,iv j]) (H':=Y) ?_).trans ?_
   ·rw [Zb,if_neg (by simp)];rfl
   ·rw [ZK,Za ZA,QH (by omega)];rfl
theorem Znu (hr : ZB H v (l.map strv) q) (hl : l.length≤1000000) (hQ : ∀ X X',Q X→ZG q X q X'→Q X') (hf : ∀ X,Q X→∀ s∈l,∃ X',JF (R n) f [strv s] X=some (.bool (p s),X')∧HLe X X') (hf1 : ∀ X,Q X→∀ s∈l,∃ X',JF (R (n+1)) f [strv s] X=some (.bool (p s),X')∧HLe X X') (h0 : Q H) :
  ∃ H' v',R (n+2) QT [v,f] H=some (v',H')∧ZB H' v' ((l.filter fun s=>!p s).map strv) q∧ZG q H q H':=by
 obtain ⟨Y,e1,ly⟩:=ZrF hr hl (fun X X' hq hx=>hQ X X' hq hx.stepq) hf h0
 have e1 : run Tryz.prog np lvs (n+1) JU [v,f] H=_:=e1
 have hry:=hr.step ly.step (by simp)
 have hqy:=hQ _ _ h0 (ly.stepq (q:=q))
 have hfi:=Zhs (p:=p) (l:=l)
 have hrun : R (n+2) QT [v,f] H=ZT (R (n+1)) v f H:=by rw [R,Zcy rfl]
 rw [hrun]
 unfold ZT
 cases h : l.findIdx? p with
 | none=>
  rw [h] at e1 hfi
  refine ⟨Y,v,?_,by rw [hfi];exact hry,ly.stepq⟩
  rw [Za e1,Za Zy,Zb,if_pos (by simp)]
  rfl
 | some i=>
  rw [h] at e1 hfi
  simp only at e1 hfi
  obtain ⟨X',cs',e2,r2,hc2,ht2,s2⟩:=Zmu (n:=n+1) hl hQ hf1 (l.length - (i+1)) (i+1) i l Y rfl (by omega) (by omega) rfl rfl hry hqy
  have hle : ((l.drop (i+1)).filter fun s=>!p s).length≤l.length - (i+1):=by
   have:=List.length_filter_le (fun s=>!p s) (l.drop (i+1))
   simpa using this
  obtain ⟨a,X2,v',a1,a2,a3,a4,a5⟩:=Zsy r2 (i:=i+((l.drop (i+1)).filter fun s=>!p s).length) (by omega)
  refine ⟨X2,v',?_,by rw [hfi.1,← ht2];exact a4,(ly.stepq.trans s2).trans a5⟩
  rw [Za e1,Za Zy,Zb,if_neg (by simp),Za ZA,QH (by omega),QW e2,ZM,Qy,Za a1,Za a2,Za a3]
  rfl
end
abbrev Tx:=List UInt8
def Asc (l : List Tx) : Prop:=l.Pairwise (· < ·)
theorem Zig {a : Tx} : ¬ a < a:=List.lt_irrefl a
theorem Zqr : ∀ {l l' : List Tx},Asc l→Asc l'→(∀ x,x∈l↔x∈l')→l=l'
 | [],[],_,_,_=>rfl
 | [],b :: l',_,_,h=>by have:=(h b).2 (by simp);cases this
 | a :: l,[],_,_,h=>by have:=(h a).1 (by simp);cases this
 | a :: l,b :: l',h1,h2,h=>by
  obtain ⟨a1,a2⟩:=List.pairwise_cons.1 h1
  obtain ⟨b1,b2⟩:=List.pairwise_cons.1 h2
  have hab : a=b:=by
   rcases List.mem_cons.1 ((h a).1 (by simp)) with e | e
   ·exact e
   ·rcases List.mem_cons.1 ((h b).2 (by simp)) with e' | e'
    ·exact e'.symm
    ·exact absurd (List.lt_trans (b1 a e) (a1 b e')) Zig
  subst hab
  congr 1
  refine Zqr a2 b2 fun x=>⟨fun hx=>?_,fun hx=>?_⟩
  ·rcases List.mem_cons.1 ((h x).1 (List.mem_cons_of_mem _ hx)) with e | e
   ·subst e;exact absurd (a1 _ hx) Zig
   ·exact e
  ·rcases List.mem_cons.1 ((h x).2 (List.mem_cons_of_mem _ hx)) with e | e
   ·subst e;exact absurd (b1 _ hx) Zig
   ·exact e
theorem ZhZ {l : List Tx} (hn : l.Nodup) : Asc (Ye l):=by
 have h1 : (Ye l).Pairwise (fun a b=>leB a b=true):=List.pairwise_mergeSort (fun a b c h h'=>by
  simp only [leB,decide_eq_true_eq] at *
  exact List.le_trans h h') (fun a b=>by
  simp only [leB,Bool.or_eq_true,decide_eq_true_eq]
  exact List.le_total a b) l
 have h2 : (Ye l).Nodup:=((List.mergeSort_perm l _).nodup_iff).2 hn
 unfold Asc
 have h3:=h1.and h2
 refine h3.imp fun {a b} h=>?_
 obtain ⟨h4,h5⟩:=h
 simp only [leB,decide_eq_true_eq] at h4
 exact Decidable.byContradiction fun h6=>h5 (List.le_antisymm h4 (List.not_lt.1 h6))
theorem ZbU {l : List Tx} {x : Tx} : x∈Ye l↔x∈l:=List.mem_mergeSort
structure Is (l : List Tx) (p : Tx→Prop) : Prop where
 asc : Asc l
 mem : ∀ x,x∈l↔p x
theorem Is.uniq {l l' : List Tx} {p p' : Tx→Prop} (h : Is l p) (h' : Is l' p') (hp : ∀ x,p x↔p' x) : l=l':=Zqr h.asc h'.asc fun x=>(h.mem x).trans ((hp x).trans (h'.mem x).symm)
theorem Is.nil {l : List Tx} {p : Tx→Prop} (h : Is l p) : l=[]↔∀ x,¬ p x:=by
 constructor
 ·rintro rfl x hx;have:=(h.mem x).2 hx;cases this
 ·intro hx;exact List.eq_nil_iff_forall_not_mem.2 fun x hm=>hx x ((h.mem x).1 hm)
theorem Asc.nodup {l : List Tx} (h : Asc l) : l.Nodup:=h.imp fun {a b} hab e=>by subst e;exact Zig hab
theorem Asc.filter {l : List Tx} (h : Asc l) (p : Tx→Bool) : Asc (l.filter p):=List.Pairwise.filter p h
end Go.Proofs.YtnnehafmjfmbnaaGreatDoor.A
namespace Go.Proofs.YtnnehafmjfmbnaaGreatDoor.A
set_option linter.unusedVariables false
set_option linter.unusedSimpArgs false
open Go.Proofs Go.Proofs.YtnnehafmjfmbnaaGreatDoor
abbrev ZmG (s : Nat) : Value:=.map (some s)
abbrev Zlk (_ : Unit) : Value:=.agg #[]
abbrev ZbJ:=List (Tx × Nat)
abbrev Ztv:=List (Tx × Unit)
abbrev Mem:=Tx→Tx→Bool
abbrev QS (o : Nat) (G : ZbJ) : List Nat:=o :: G.map (·.2)
abbrev ZH (G : ZbJ) : List Tx:=G.map (·.1)
structure Grp (X : Zc) (g o : Nat) (G : ZbJ) (mem : Mem) (c : Nat) : Prop where
 cell : X[g]?=some (.cells [.map (some o)] 1 false false)
 mo : JK ZmG X o G
 ms : ∀ p∈G,∃ S : Ztv,JK Zlk X p.2 S∧(∀ n,(Ze n S).isSome=mem p.1 n)∧S.length≤c∧∀ q∈S,Zr q.1=true
 out : ∀ k n,mem k n=true→(Ze k G).isSome=true
 nod : (QS o G).Nodup
 ok : ∀ p∈G,Zr p.1=true
 few : G.length≤6
theorem Zg4 {α : Type} {k : Tx} : ∀ {m : List (Tx × α)},(Ze k m).isSome=decide (k∈m.map (·.1))
 | []=>rfl
 | p :: m=>by
  simp only [Ze,List.map_cons,List.mem_cons]
  by_cases h : p.1=k
  ·rw [if_pos h];simp [h]
  ·rw [if_neg h,Zg4]
   have : k≠p.1:=Ne.symm h
   simp [this]
section
variable {X X' : Zc} {n g o c c' : Nat} {G : ZbJ} {mem mem' : Mem} {k m s t : Tx}
theorem Grp.isMap (h : Grp X g o G mem c) {j : Nat} (hj : j∈QS o G) : j < X.length∧∀ cs es gr ro,X[j]?≠some (.cells cs es gr ro):=by
 have key : ∀ {α : Type} {enc : α→Value} {id : Nat} {mm : List (Tx × α)},JK enc X id mm→id < X.length∧∀ cs es gr ro,X[id]?≠some (.cells cs es gr ro):=fun hm=>⟨hm.lt,fun cs es gr ro e=>by
  obtain ⟨es',_,h1 | h1⟩:=hm.ex
  ·obtain ⟨clk,h1,_⟩:=h1;rw [e] at h1;cases h1
  ·rw [e] at h1;cases h1⟩
 rcases List.mem_cons.1 hj with rfl | hj
 ·exact key h.mo
 ·obtain ⟨p,hp,rfl⟩:=List.mem_map.1 hj
  obtain ⟨S,hS,_⟩:=h.ms p hp
  exact key hS
theorem Grp.gnot (h : Grp X g o G mem c) : g∉QS o G:=fun hj=>(h.isMap hj).2 _ _ _ _ h.cell
theorem Grp.glt (h : Grp X g o G mem c) : g < X.length:=Jd h.cell
theorem Grp.step {o1 o2 : List Nat} (h : Grp X g o G mem c) (hs : ZG o1 X o2 X') (hg : g∉o1) (ho : ∀ j∈QS o G,j∉o1) : Grp X' g o G mem c:=
 ⟨hs.get h.cell hg,h.mo.step hs (ho o (by simp)),fun p hp=>by
  obtain ⟨S,h1,h2⟩:=h.ms p hp
  exact ⟨S,h1.step hs (ho p.2 (List.mem_cons_of_mem _ (List.mem_map.2 ⟨p,hp,rfl⟩))),h2⟩,h.out,h.nod,h.ok,h.few⟩
theorem Grp.hle (h : Grp X g o G mem c) (hl : HLe X X') : Grp X' g o G mem c:=h.step hl.step (by simp) (by simp)
theorem Grp.more (h : Grp X g o G mem c) (hc : c≤c') (hm : ∀ k n,mem' k n=mem k n) : Grp X g o G mem' c':=
 ⟨h.cell,h.mo,fun p hp=>by
  obtain ⟨S,h1,h2,h3,h4⟩:=h.ms p hp
  exact ⟨S,h1,fun n=>(h2 n).trans (hm _ _).symm,Nat.le_trans h3 hc,h4⟩,fun k n hk=>h.out k n (by rw [← hm];exact hk),h.nod,h.ok,h.few⟩
theorem Grp.ldo (h : Grp X g o G mem c) : ld1 (pt g) X=some (.map (some o),X):=ZmM h.cell
theorem Grp.upd (h : Grp X g o G mem c) {id : Nat} {S' : Ztv} (hk : Ze k G=some id) (hm : JK Zlk X' id S') (hs : ZG [id] X [id] X') (hn : ∀ q∈S',Zr q.1=true) (hc : S'.length≤c') (hcc : c≤c')
  (hmem : ∀ k' n,mem' k' n=if k'=k then (Ze n S').isSome else mem k' n) : Grp X' g o G mem' c':=by
 have hpm:=WQ hk
 have hnod:=h.nod
 simp only [List.nodup_cons] at hnod
 have hidm : id∈G.map (·.2):=List.mem_map.2 ⟨_,hpm,rfl⟩
 have hido : o≠id:=fun e=>hnod.1 (e ▸ hidm)
 have hidg : g≠id:=fun e=>h.gnot (e ▸ List.mem_cons_of_mem _ hidm)
 refine ⟨hs.get h.cell (by simpa using hidg),h.mo.step hs (by simpa using hido),fun p hp=>?_,fun k' n hk'=>?_,h.nod,h.ok,h.few⟩
 ·by_cases hpid : p.2=id
  ·have hpk : p.1=k:=by
    have h1 : Ze p.1 G=some p.2:=Zcq h.mo.nod hp
    have hinj : ∀ (G : ZbJ),(G.map (·.2)).Nodup→p∈G→(k,id)∈G→p=(k,id):=by
     intro G hG h1 h2
     induction G with
     | nil=>cases h1
     | cons a G ih=>
      simp only [List.map_cons,List.nodup_cons,List.mem_map,not_exists,not_and] at hG
      rcases List.mem_cons.1 h1 with e1 | e1
      ·rcases List.mem_cons.1 h2 with e2 | e2
       ·rw [e1,e2]
       ·exact absurd (by rw [← e1];exact hpid.symm) (hG.1 _ e2)
      ·rcases List.mem_cons.1 h2 with e2 | e2
       ·exact absurd (by rw [← e2];exact hpid) (hG.1 _ e1)
       ·exact ih hG.2 e1 e2
    rw [hinj G hnod.2 hp hpm]
   exact ⟨S',by rw [hpid];exact hm,fun n=>by rw [hmem,if_pos hpk],hc,hn⟩
  ·obtain ⟨S,h1,h2,h3,h4⟩:=h.ms p hp
   have hpk : p.1≠k:=fun e=>hpid (by
    have h5 : Ze p.1 G=some p.2:=Zcq h.mo.nod hp
    rw [e,hk] at h5;exact (Option.some.inj h5).symm)
   exact ⟨S,h1.step hs (by simpa using hpid),fun n=>by rw [hmem,if_neg hpk];exact h2 n,Nat.le_trans h3 hcc,h4⟩
 ·rw [hmem] at hk'
  by_cases e : k'=k
  ·rw [e,hk];rfl
  ·rw [if_neg e] at hk';exact h.out k' n hk'
theorem Grp.step1 (h : Grp X g o G mem c) {id : Nat} (hk : Ze k G=some id) (hs : ZG [id] X [id] X') : ZG (QS o G) X (QS o G) X':=
 hs.more (fun j hj=>by
  have hj : j=id:=by simpa using hj
  subst hj
  exact List.mem_cons_of_mem _ (List.mem_map.2 ⟨_,WQ hk,rfl⟩)) (fun j hj=>.inl hj)
theorem Grp.set (h : Grp X g o G mem c) {id : Nat} (hk : Ze k G=some id) : ∃ S : Ztv,JK Zlk X id S∧(∀ n,(Ze n S).isSome=mem k n)∧S.length≤c∧∀ q∈S,Zr q.1=true:=h.ms _ (WQ hk)
theorem Grp.key (h : Grp X g o G mem c) : (Ze k G).isSome=decide (k∈ZH G):=Zg4
theorem Zm2 {v : Value} {l : List Tx} (hl : l.length≤1000) (hs : Sl X v (l.map strv)) : ∀ (t j : Nat),l.length - j=t→j≤l.length→
  Zh (c3 (Kt.l1 (R (n+5)))) [v,iv l.length,iv j] X=some (if (l.drop j).all Zr then .ext 0 [] else .ret (iv 10),X)
 | 0,j,ht,hj=>by
  rw [List.drop_eq_nil_of_le (by omega)]
  refine Z4 ?_
  rw [Z7,show j=l.length by omega]
  unfold Kt.l1
  rw [Za Zq,Zb,if_neg (by simp)]
  rfl
 | t+1,j,ht,hj=>by
  have hkl : j < l.length:=by omega
  have hlt : (j : Int) < l.length:=by omega
  have hg:=List.getElem?_eq_getElem hkl
  have hd:=List.drop_eq_getElem_cons hkl
  generalize l[j]=x at hg hd
  have x1:=hs.ix (i:=j) (by simpa using hkl) .i64 X
  have x2:=hs.ldx (KI hg)
  have x3 : R (n+5) J6 [strv x] X=some (iv (QP x),X):=Zf4
  rw [hd,List.all_cons]
  cases hx : Zr x
  ·refine Yy ?_
   rw [Z7]
   unfold Kt.l1
   rw [Za Zq,Zb,if_pos (by simpa using hlt),Za x1,Za x2,Za x3,show QP x=10 by unfold QP;rw [hx];rfl,Za Zt,Zb,if_pos (by simp)]
   rfl
  ·refine (ZI ?_).trans (Zm2 hl hs t (j+1) (by omega) (by omega))
   rw [Z7]
   unfold Kt.l1
   rw [Za Zq,Zb,if_pos (by simpa using hlt),Za x1,Za x2,Za x3,show QP x=0 by unfold QP;rw [hx];rfl,Za Zt,Zb,if_neg (by simp),Za ZA,QH (by omega)]
   rfl
def ZcC (l : List Tx) : Int:=if l.all Zr then 0 else 10
theorem Zpw {v : Value} {l : List Tx} (hl : l.length≤1000) (hs : Sl X v (l.map strv)) : R (n+6) WJ [v] X=some (iv (ZcC l),X):=by
 have e:=Zm2 (n:=n) hl hs l.length 0 (by omega) (by omega)
 rw [show iv ((0 : Nat) : Int)=.int .i64 0 from rfl,List.drop_zero] at e
 have hlen : Zz v X=some (iv l.length,X):=by have:=hs.len (H':=X);simpa using this
 rw [R,ZmR rfl]
 unfold Kt ZcC
 rw [Za hlen]
 by_cases h : l.all Zr=true
 ·rw [if_pos h] at e ⊢
  rw [QW e,ZM];rfl
 ·rw [if_neg h] at e ⊢
  rw [KF e];rfl
def Jg (k : Tx) (ms : List Tx) (K : List Tx) : Int:=if (k :: ms).all Zr then (if k∈K then 0 else 8) else 10
theorem ZqG (h : Grp X g o G mem c) {mv : Value} {ms : List Tx} (hml : ms.length≤5)
  (hrow : ∃ w X1 v X2,bsl 1 1 (.string ⟨#[]⟩) [(0,1,strv k)] X=some (w,X1)∧app 1 16 w mv X1=some (v,X2)∧Sl X2 v ((k :: ms).map strv)∧HLe X X2) :
  ∃ X',R (n+7) JZ [pt g,strv k,mv] X=some (.tuple #[.map (if Jg k ms (ZH G)=0 then Ze k G else none),iv (Jg k ms (ZH G))],X')∧HLe X X':=by
 obtain ⟨w,X1,v,X2,e1,e2,s2,l2⟩:=hrow
 have e3 : R (n+6) WJ [v] X2=_:=Zpw (n:=n) (l:=k :: ms) (by simp;omega) s2
 have h2:=h.hle l2
 refine ⟨X2,?_,l2⟩
 rw [R,ZhE rfl]
 unfold Zb9 Jg
 rw [Za e1,Za e2,Za e3]
 unfold ZcC
 by_cases hn : (k :: ms).all Zr=true
 ·rw [if_pos hn,if_pos hn]
  have e4:=h2.mo.lkp (k:=k) (z:=.map none) (ok:=true)
  have hkey:=h2.key (k:=k)
  rw [Za Zt,Zb,if_neg (by simp),Za Zu,Za Zg,Za h2.ldo]
  cases hk : Ze k G with
  | none=>
   rw [hk] at e4 hkey
   have hnk : ¬ k∈ZH G:=by simpa using hkey.symm
   rw [if_neg hnk,if_neg (by decide)]
   simp only [cond_true] at e4
   rw [Za e4,Za Zn,Za Zm,Za Zx,Zb,if_pos (by rfl)]
   rfl
  | some id=>
   rw [hk] at e4 hkey
   have hnk : k∈ZH G:=by simpa using hkey.symm
   rw [if_pos hnk,if_pos rfl]
   simp only [cond_true] at e4
   rw [Za e4,Za Zn,Za Zm,Za Zx,Zb,if_neg (by simp)]
   rfl
 ·rw [if_neg hn,if_neg hn,Za Zt,Zb,if_pos (by rfl)]
  rfl
theorem Zmy {x : Tx} {H : Zc} : bsl 1 1 (.string ⟨#[]⟩) [(0,1,strv x)] H=some (.slice (some ⟨H.length,0,none⟩) 1 1,H++[.cells [strv x] 1 false false]):=Zv5 rfl rfl rfl
theorem ZgW {x : Tx} {H : Zc} : ZB (H++[.cells [strv x] 1 false false]) (.slice (some ⟨H.length,0,none⟩) 1 1) ([x].map strv) [H.length]:=.inr ⟨H.length,[],false,rfl,rfl,by rw [ZF];rfl⟩
theorem Zuy {b : Nat} {sl : Value} {vs : List Value} {q : List Nat} (h : ZB X sl vs q) : app 1 b sl (.slice none 0 0) X=some (sl,X):=by
 rcases h with ⟨rfl,rfl,rfl⟩ | ⟨sid,rest,gr,rfl,rfl,hid⟩
 ·rfl
 ·unfold app
  simp only [QK,flen,hid,Nat.add_zero,Nat.le_add_right,if_true]
theorem ZoJ (h : Grp X g o G mem c) : ∃ X',R (n+7) JZ [pt g,strv k,.slice none 0 0] X=some (.tuple #[.map (if Jg k [] (ZH G)=0 then Ze k G else none),iv (Jg k [] (ZH G))],X')∧HLe X X':=
 ZqG h (by simp) ⟨_,_,_,_,Zmy,Zuy ZgW,ZgW.rd,.app _ _⟩
theorem Zo2 (h : Grp X g o G mem c) {mv : Value} (hm : Sl X mv [strv m]) : ∃ X',R (n+7) JZ [pt g,strv k,mv] X=some (.tuple #[.map (if Jg k [m] (ZH G)=0 then Ze k G else none),iv (Jg k [m] (ZH G))],X')∧HLe X X':=by
 have l1 : HLe X (X++[.cells [strv k] 1 false false]):=.app _ _
 obtain ⟨v,X2,q,e2,r2,s2,_⟩:=(ZgW (x:=k) (H:=X)).push (b:=16) (hm.mono l1) (by simp) (by simp)
 have l2:=(l1.more s2 (by simp)).1
 exact ZqG h (by simp) ⟨_,_,_,_,Zmy,e2,r2.rd,l2⟩
theorem ZuY : ∃ X' g o,R (n+1) ZeG [] X=some (pt g,X')∧Grp X' g o [] (fun _ _=>false) 0∧HLe X X'∧X.length≤g∧X.length≤o:=by
 obtain ⟨H1,e1,g1,l1⟩:=Zq1 (α:=Nat) (enc:=ZmG) X
 have e2 : bld (.agg #[.map none]) [(0,1,.map (some X.length))] H1=some (.agg #[.map (some X.length)],H1):=by simp [↓ZV,ZW,↓Qs,Z8,Z9,Qa,↓Zb,JN,Zu,Yl,Qg,Jo,Qk,Jp,Js,QG,Jy,QF,QL,QR,QQ,Jt,Zo,Zx,YJ,YA,Ja,QV,JS,ZA,Jc,JP,JR,JC,Zy,Zt,Zq,QU,QC,Qc,Ji,JD,JJ,JT,↓YK,JQ,↓g_r,YH,Y6,Wp,splice,Value.cells]
 have e3 : alc 1 (.agg #[.map (some X.length)]) H1=some (pt H1.length,H1++[.cells [.map (some X.length)] 1 false false]):=by
  rw [QL];simp [Value.cells,oneCell]
 refine ⟨H1++[.cells [.map (some X.length)] 1 false false],H1.length,X.length,?_,⟨ZF,g1.hle (.app _ _),by simp,by simp,by simp,by simp,by simp⟩,l1.trans (.app _ _),l1.len,Nat.le_refl _⟩
 rw [R,Zo9 rfl]
 unfold Zg0
 rw [Za e1,Za e2,Za e3]
 rfl
def QO (k : Tx) (K : List Tx) : Int:=if Zr k then (if k∈K then 9 else if 6≤K.length then 7 else 0) else 10
def Zcs (k : Tx) (K : List Tx) : List Tx:=if QO k K=0 then K++[k] else K
theorem Zux (h : Grp X g o G mem c) : ∃ X' G',R (n+8) Yh [pt g,strv k] X=some (iv (QO k (ZH G)),X')∧Grp X' g o G' mem c∧ZH G'=Zcs k (ZH G)∧ZG (QS o G) X (QS o G') X':=by
 obtain ⟨X1,e1,l1⟩:=ZoJ (n:=n) (k:=k) h
 have h1:=h.hle l1
 have f1 : ∀ r X',Yi (R (n+7)) (pt g) (strv k) X=some (r,X')→R (n+8) Yh [pt g,strv k] X=some (r,X'):=fun r X' hr=>by rw [R,Zhz rfl];exact hr
 have same : ∀ e,QO k (ZH G)=e→e≠0→(Yi (R (n+7)) (pt g) (strv k) X=some (iv e,X1))→∃ X' G',R (n+8) Yh [pt g,strv k] X=some (iv (QO k (ZH G)),X')∧Grp X' g o G' mem c∧ZH G'=Zcs k (ZH G)∧ZG (QS o G) X (QS o G') X':=fun e he hne hr=>by
  refine ⟨X1,G,by rw [he];exact f1 _ _ hr,h1,?_,l1.stepq⟩
  unfold Zcs;rw [if_neg (by rw [he];exact hne)]
 cases hn : Zr k
 ·have hE : QO k (ZH G)=10:=by unfold QO;rw [hn];rfl
  have hF : Jg k [] (ZH G)=10:=by unfold Jg;simp [hn]
  rw [hF] at e1
  refine same _ hE (by decide) ?_
  unfold Yi
  rw [Za e1,Za Zn,Za Zm,Za Zy,Zb,if_neg (by decide),Za Zt,Zb,if_pos (by decide)]
  rfl
 ·by_cases hk : k∈ZH G
  ·have hE : QO k (ZH G)=9:=by unfold QO;rw [hn,if_pos rfl,if_pos hk]
   have hF : Jg k [] (ZH G)=0:=by unfold Jg;simp [hn,hk]
   rw [hF] at e1
   refine same _ hE (by decide) ?_
   unfold Yi
   rw [Za e1,Za Zn,Za Zm,Za Zy,Zb,if_pos (by decide)]
   rfl
  ·have hF : Jg k [] (ZH G)=8:=by unfold Jg;simp [hn,hk]
   rw [hF] at e1
   have hkl : (ZH G).length=G.length:=by simp
   by_cases hl : 6≤(ZH G).length
   ·have hE : QO k (ZH G)=7:=by unfold QO;rw [hn,if_pos rfl,if_neg hk,if_pos hl]
    refine same _ hE (by decide) ?_
    unfold Yi
    rw [Za e1,Za Zn,Za Zm,Za Zy,Zb,if_neg (by decide),Za Zt,Zb,if_neg (by decide),Za Zu,Za Zg,Za h1.ldo,Za h1.mo.len,Za Qc,Zb,if_pos (by simp;omega)]
    rfl
   ·have hE : QO k (ZH G)=0:=by unfold QO;rw [hn,if_pos rfl,if_neg hk,if_neg hl]
    obtain ⟨X2,e2,m2,l2⟩:=Zq1 (α:=Unit) (enc:=Zlk) X1
    have h2:=h1.hle l2
    have hkn : Ze k G=none:=by
     have:=h.key (k:=k)
     cases ha : Ze k G with
     | none=>rfl
     | some v=>rw [ha] at this;exact absurd (by simpa using this.symm) hk
    obtain ⟨X3,e3,m3,s3,len3⟩:=h2.mo.mup (k:=k) (v:=X1.length)
    have ha : Qw k X1.length G=G++[(k,X1.length)]:=by unfold Qw;rw [hkn];rfl
    rw [ha] at m3
    have hlt : ∀ j∈QS o G,j < X1.length:=fun j hj=>(h1.isMap hj).1
    refine ⟨X3,G++[(k,X1.length)],?_,?_,?_,?_⟩
    ·rw [hE]
     refine f1 _ _ ?_
     unfold Yi
     rw [Za e1,Za Zn,Za Zm,Za Zy,Zb,if_neg (by decide),Za Zt,Zb,if_neg (by decide),Za Zu,Za Zg,Za h1.ldo,Za h1.mo.len,Za Qc,Zb,if_neg (by simp;omega),Za Zu,Za Zg,Za h1.ldo,Za e2,Za e3]
     rfl
    ·have hgo : g≠o:=fun e=>h.gnot (by rw [e];simp)
     have hoid : ∀ p∈G,p.2≠o:=fun p hp e=>by
      have:=h.nod
      simp only [List.nodup_cons] at this
      exact this.1 (List.mem_map.2 ⟨p,hp,e⟩)
     refine ⟨s3.get h2.cell (by simpa using hgo),m3,fun p hp=>?_,fun k' n' hk'=>?_,?_,fun p hp=>?_,by simp;omega⟩
     ·rcases List.mem_append.1 hp with hp | hp
      ·obtain ⟨S,h5,h6⟩:=h2.ms p hp
       exact ⟨S,h5.step s3 (by simpa using hoid p hp),h6⟩
      ·have : p=(k,X1.length):=by simpa using hp
       subst this
       refine ⟨[],m2.step s3 (by have:=hlt o (by simp);simp;omega),fun n'=>?_,Nat.zero_le _,by simp⟩
       cases hb : mem k n' with
       | false=>rfl
       | true=>have:=h.out k n' hb;rw [hkn] at this;cases this
     ·rw [ZdR]
      have:=h.out k' n' hk'
      cases hg : Ze k' G with
      | none=>rw [hg] at this;cases this
      | some v=>rfl
     ·have : QS o (G++[(k,X1.length)])=QS o G++[X1.length]:=by simp
      rw [this,List.nodup_append]
      refine ⟨h.nod,by simp,fun a ha b hb e=>?_⟩
      have:=hlt a ha
      have hb : b=X1.length:=by simpa using hb
      omega
     ·rcases List.mem_append.1 hp with hp | hp
      ·exact h.ok p hp
      ·have : p=(k,X1.length):=by simpa using hp
       subst this;exact hn
    ·unfold Zcs;rw [if_pos hE];simp
    ·have s:=(l1.trans l2).stepq (q:=QS o G)
     have s:=s.trans (s3.more (o2:=QS o G) (o2':=QS o G) (by simp) (fun j hj=>.inl hj))
     refine ⟨s.len,s.keep,fun j hj=>?_⟩
     ·have : QS o (G++[(k,X1.length)])=QS o G++[X1.length]:=by simp
      rw [this] at hj
      rcases List.mem_append.1 hj with hj | hj
      ·exact .inl hj
      ·have hj : j=X1.length:=by simpa using hj
       exact .inr (by rw [hj];exact l1.len)
def QI (k : Tx) (K : List Tx) : Int:=if Zr k then (if k∈K then 0 else 8) else 10
def Za3 (k : Tx) (K : List Tx) : List Tx:=if QI k K=0 then K.filter (fun x=>decide (x≠k)) else K
def Zab (k : Tx) (mem : Mem) : Mem:=fun k' n=>mem k' n && !(k'==k)
theorem ZsQ {k : Tx} {K : List Tx} : Jg k [] K=QI k K:=by unfold Jg QI;simp
theorem Zut (h : Grp X g o G mem c) : ∃ X' G',R (n+8) Kw [pt g,strv k] X=some (iv (QI k (ZH G)),X')∧Grp X' g o G' (if QI k (ZH G)=0 then Zab k mem else mem) c∧ZH G'=Za3 k (ZH G)∧ZG (QS o G) X (QS o G') X':=by
 obtain ⟨X1,e1,l1⟩:=ZoJ (n:=n) (k:=k) h
 rw [ZsQ] at e1
 have h1:=h.hle l1
 have f1 : ∀ r X',Wa (R (n+7)) (pt g) (strv k) X=some (r,X')→R (n+8) Kw [pt g,strv k] X=some (r,X'):=fun r X' hr=>by rw [R,ZhD rfl];exact hr
 by_cases hE : QI k (ZH G)=0
 ·rw [hE] at e1 ⊢
  obtain ⟨X2,e2,m2,s2,_⟩:=h1.mo.mde (k:=k)
  have hgo : g≠o:=fun e=>h.gnot (by rw [e];simp)
  have hoid : ∀ p∈G,p.2≠o:=fun p hp e=>by
   have:=h.nod
   simp only [List.nodup_cons] at this
   exact this.1 (List.mem_map.2 ⟨p,hp,e⟩)
  have hsub : (JV k G).Sublist G:=List.filter_sublist
  refine ⟨X2,JV k G,f1 _ _ ?_,?_,?_,?_⟩
  ·unfold Wa
   rw [Za e1,Za Zn,Za Zm,Za Zy]
   refine (ZY (vs:=[iv 0]) (H':=X2) ?_).trans ?_
   ·rw [Zb,if_pos (by rfl),Za Zu,Za Zg,Za h1.ldo,Za e2];rfl
   ·rfl
  ·rw [if_pos rfl]
   refine ⟨s2.get h1.cell (by simpa using hgo),m2,fun p hp=>?_,fun k' n' hk'=>?_,?_,fun p hp=>h.ok p (hsub.subset hp),Nat.le_trans hsub.length_le h.few⟩
   ·obtain ⟨S,h5,h6,h7⟩:=h1.ms p (hsub.subset hp)
    have hpk : p.1≠k:=by simpa [JV] using (List.mem_filter.1 hp).2
    refine ⟨S,h5.step s2 (by simpa using hoid p (hsub.subset hp)),fun n'=>?_,h7⟩
    rw [h6];unfold Zab;simp [hpk]
   ·unfold Zab at hk'
    simp only [Bool.and_eq_true,Bool.not_eq_true',beq_eq_false_iff_ne] at hk'
    rw [Jn hk'.2];exact h.out k' n' hk'.1
   ·exact ((hsub.map (·.2)).cons_cons o).nodup h.nod
  ·unfold Za3;rw [if_pos hE]
   unfold JV ZH
   rw [List.filter_map];rfl
  ·have s:=l1.stepq (q:=QS o G)
   have s:=s.trans (s2.more (o2:=QS o G) (o2':=QS o G) (by simp) (fun j hj=>.inl hj))
   refine ⟨s.len,s.keep,fun j hj=>.inl ?_⟩
   exact ((hsub.map (·.2)).cons_cons o).subset hj
 ·refine ⟨X1,G,f1 _ _ ?_,by rw [if_neg hE];exact h1,by unfold Za3;rw [if_neg hE],l1.stepq⟩
  unfold Wa
  rw [Za e1,Za Zn,Za Zm,Za Zy]
  refine (ZY (vs:=[iv (QI k (ZH G))]) (H':=X1) ?_).trans ?_
  ·rw [Zb,if_neg (by simpa using hE)];rfl
  ·rfl
end
end Go.Proofs.YtnnehafmjfmbnaaGreatDoor.A
namespace Go.Proofs.YtnnehafmjfmbnaaGreatDoor.A
set_option linter.unusedVariables false
set_option linter.unusedSimpArgs false
open Go.Proofs Go.Proofs.YtnnehafmjfmbnaaGreatDoor
theorem Zg3 {α : Type} {k : Tx} {v : α} {m : List (Tx × α)} {q : Tx × α} (h : q∈Qw k v m) : q=(k,v)∨q∈m:=by
 unfold Qw at h
 split at h
 ·obtain ⟨p,hp,rfl⟩:=List.mem_map.1 h
  by_cases e : p.1=k
  ·rw [if_pos e];exact .inl rfl
  ·rw [if_neg e];exact .inr hp
 ·rcases List.mem_append.1 h with h | h
  ·exact .inr h
  ·exact .inl (by simpa using h)
section
variable {X X' : Zc} {n g o c c' : Nat} {G : ZbJ} {mem mem' : Mem} {k m s t : Tx}
def Zb7 (k m : Tx) (K : List Tx) (mem : Mem) : Int:=if Jg k [m] K=0 then (if mem k m then 9 else 0) else Jg k [m] K
def Za4 (k m : Tx) (K : List Tx) (mem : Mem) : Int:=if Jg k [m] K=0 then (if mem k m then 0 else 12) else Jg k [m] K
def Zcm (k m : Tx) (mem : Mem) : Mem:=fun k' n=>mem k' n || (k'==k && n==m)
def Zcp (k m : Tx) (mem : Mem) : Mem:=fun k' n=>mem k' n && !(k'==k && n==m)
theorem ZeR {k m : Tx} {K : List Tx} (h : Jg k [m] K=0) : Zr k=true∧Zr m=true∧k∈K:=by
 unfold Jg at h
 by_cases h1 : (k :: [m]).all Zr=true
 ·rw [if_pos h1] at h
  simp only [List.all_cons,List.all_nil,Bool.and_true,Bool.and_eq_true] at h1
  by_cases h2 : k∈K
  ·exact ⟨h1.1,h1.2,h2⟩
  ·rw [if_neg h2] at h;cases h
 ·rw [if_neg h1] at h;cases h
theorem Zu9 {H : Zc} : bld (.agg #[]) [] H=some (.agg #[],H):=by simp [↓ZV,ZW,↓Qs,Z8,Z9,Qa,↓Zb,JN,Zu,Yl,Qg,Jo,Qk,Jp,Js,QG,Jy,QF,QL,QR,QQ,Jt,Zo,Zx,YJ,YA,Ja,QV,JS,ZA,Jc,JP,JR,JC,Zy,Zt,Zq,QU,QC,Qc,Ji,JD,JJ,JT,↓YK,JQ,↓g_r,YH,Y6,Wp,splice,Value.cells]
theorem Grp.has (h : Grp X g o G mem c) (hk : k∈ZH G) : ∃ id,Ze k G=some id:=by
 have:=h.key (k:=k)
 cases ha : Ze k G with
 | none=>rw [ha] at this;exact absurd hk (by simpa using this.symm)
 | some v=>exact ⟨v,rfl⟩
theorem ZuT (h : Grp X g o G mem c) : ∃ X',R (n+8) YN [pt g,strv k,strv m] X=some (iv (Zb7 k m (ZH G) mem),X')∧Grp X' g o G (if Zb7 k m (ZH G) mem=0 then Zcm k m mem else mem) (c+1)∧ZG (QS o G) X (QS o G) X':=by
 have l0 : HLe X (X++[.cells [strv m] 1 false false]):=.app _ _
 have s0:=(ZgW (x:=m) (H:=X)).rd
 have e0:=Zmy (x:=m) (H:=X)
 generalize X++[Zf.cells [strv m] 1 false false]=X0 at l0 s0 e0
 obtain ⟨X1,e1,l1⟩:=Zo2 (n:=n) (k:=k) (m:=m) (h.hle l0) s0
 have l01:=l0.trans l1
 have h1:=h.hle l01
 have f1 : ∀ r X',Ky (R (n+7)) (pt g) (strv k) (strv m) X=some (r,X')→R (n+8) YN [pt g,strv k,strv m] X=some (r,X'):=fun r X' hr=>by rw [R,ZhG rfl];exact hr
 unfold Zb7
 by_cases hE : Jg k [m] (ZH G)=0
 ·rw [hE] at e1 ⊢
  rw [if_pos rfl] at e1 ⊢
  obtain ⟨b1,b2,b3⟩:=ZeR hE
  obtain ⟨id,hid⟩:=h.has b3
  rw [hid] at e1
  obtain ⟨S,m1,m2,m3,m4⟩:=h1.set hid
  have e2:=m1.lkp (k:=m) (z:=.agg #[]) (ok:=true)
  have l2 : HLe X1 (X1++[.cells [] 1 false false]):=.app _ _
  have hbox:=fun {K : Value→M Value}=>Zaj (k:=K) (zs:=[]) (r:=[]) (n:=0) (H:=X1) rfl rfl rfl rfl
  have h2:=h1.hle l2
  have m1:=m1.hle l2
  generalize X1++[Zf.cells [] 1 false false]=X2 at hbox l2 h2 m1
  have hmm:=m2 m
  cases hg : Ze m S with
  | some u=>
   rw [hg] at hmm e2
   have hmm : mem k m=true:=hmm.symm
   rw [if_pos hmm,if_neg (by decide)]
   refine ⟨X2,f1 _ _ ?_,h2.more (Nat.le_succ _) (fun _ _=>rfl),(l01.trans l2).stepq⟩
   unfold Ky
   simp only [cond_true] at e2
   rw [Za e0,Za e1,Za Zn,Za Zm,Za Zt,Zb,if_neg (by decide),Za e2,Za Zn,Za Zm]
   refine hbox.trans ?_
   rw [Zb,if_pos rfl]
   rfl
  | none=>
   rw [hg] at hmm e2
   have hmm : mem k m=false:=hmm.symm
   rw [if_neg (by simp [hmm]),if_pos rfl]
   simp only [cond_true] at e2
   obtain ⟨X3,e3,m5,s3,_⟩:=m1.mup (k:=m) (v:=())
   have hlen : (Qw m () S).length≤c+1:=by rw [ZdJ,hg];simp;omega
   refine ⟨X3,f1 _ _ ?_,h2.upd hid m5 s3 (fun q hq=>?_) hlen (Nat.le_succ _) (fun k' n'=>?_),(l01.trans l2).stepq.trans (h2.step1 hid s3)⟩
   ·unfold Ky
    rw [Za e0,Za e1,Za Zn,Za Zm,Za Zt,Zb,if_neg (by decide),Za e2,Za Zn,Za Zm]
    refine hbox.trans ?_
    rw [Zb,if_neg (by simp),Za Zu9,Za e3]
    rfl
   ·rcases Zg3 hq with rfl | hq
    ·exact b2
    ·exact m4 q hq
   ·unfold Zcm
    by_cases hk : k'=k
    ·subst hk
     rw [if_pos rfl]
     by_cases hn : n'=m
     ·subst hn;rw [K0];simp
     ·rw [YB hn,m2];simp [hn]
    ·rw [if_neg hk];simp [hk]
 ·rw [if_neg hE,if_neg hE]
  refine ⟨X1,f1 _ _ ?_,h1.more (Nat.le_succ _) (fun _ _=>rfl),l01.stepq⟩
  unfold Ky
  rw [Za e0,Za e1,Za Zn,Za Zm,Za Zt,Zb,if_pos (by simpa using hE)]
  rfl
theorem ZtE (h : Grp X g o G mem c) : ∃ X',R (n+8) Ki [pt g,strv k,strv m] X=some (iv (Za4 k m (ZH G) mem),X')∧Grp X' g o G (if Za4 k m (ZH G) mem=0 then Zcp k m mem else mem) (c+1)∧ZG (QS o G) X (QS o G) X':=by
 have l0 : HLe X (X++[.cells [strv m] 1 false false]):=.app _ _
 have s0:=(ZgW (x:=m) (H:=X)).rd
 have e0:=Zmy (x:=m) (H:=X)
 generalize X++[Zf.cells [strv m] 1 false false]=X0 at l0 s0 e0
 obtain ⟨X1,e1,l1⟩:=Zo2 (n:=n) (k:=k) (m:=m) (h.hle l0) s0
 have l01:=l0.trans l1
 have h1:=h.hle l01
 have f1 : ∀ r X',Kg (R (n+7)) (pt g) (strv k) (strv m) X=some (r,X')→R (n+8) Ki [pt g,strv k,strv m] X=some (r,X'):=fun r X' hr=>by rw [R,ZgZ rfl];exact hr
 unfold Za4
 by_cases hE : Jg k [m] (ZH G)=0
 ·rw [hE] at e1 ⊢
  rw [if_pos rfl] at e1 ⊢
  obtain ⟨b1,b2,b3⟩:=ZeR hE
  obtain ⟨id,hid⟩:=h.has b3
  rw [hid] at e1
  obtain ⟨S,m1,m2,m3,m4⟩:=h1.set hid
  have e2:=m1.lkp (k:=m) (z:=.agg #[]) (ok:=true)
  have l2 : HLe X1 (X1++[.cells [] 1 false false]):=.app _ _
  have hbox:=fun {K : Value→M Value}=>Zaj (k:=K) (zs:=[]) (r:=[]) (n:=0) (H:=X1) rfl rfl rfl rfl
  have h2:=h1.hle l2
  have m1:=m1.hle l2
  generalize X1++[Zf.cells [] 1 false false]=X2 at hbox l2 h2 m1
  have hmm:=m2 m
  cases hg : Ze m S with
  | some u=>
   rw [hg] at hmm e2
   have hmm : mem k m=true:=hmm.symm
   rw [if_pos hmm,if_pos rfl]
   simp only [cond_true] at e2
   obtain ⟨X3,e3,m5,s3,_⟩:=m1.mde (k:=m)
   have hsub : (JV m S).Sublist S:=List.filter_sublist
   refine ⟨X3,f1 _ _ ?_,h2.upd hid m5 s3 (fun q hq=>m4 q (hsub.subset hq)) (Nat.le_trans hsub.length_le (Nat.le_trans m3 (Nat.le_succ _))) (Nat.le_succ _) (fun k' n'=>?_),(l01.trans l2).stepq.trans (h2.step1 hid s3)⟩
   ·unfold Kg
    rw [Za e0,Za e1,Za Zn,Za Zm,Za Zt,Zb,if_neg (by decide),Za e2,Za Zn,Za Zm]
    refine hbox.trans ?_
    rw [Za Zx,Zb,if_neg (by simp),Za e3]
    rfl
   ·unfold Zcp
    by_cases hk : k'=k
    ·subst hk
     rw [if_pos rfl]
     by_cases hn : n'=m
     ·subst hn;rw [Wu];simp
     ·rw [Jn hn,m2];simp [hn]
    ·rw [if_neg hk];simp [hk]
  | none=>
   rw [hg] at hmm e2
   have hmm : mem k m=false:=hmm.symm
   rw [if_neg (by simp [hmm]),if_neg (by decide)]
   refine ⟨X2,f1 _ _ ?_,h2.more (Nat.le_succ _) (fun _ _=>rfl),(l01.trans l2).stepq⟩
   unfold Kg
   simp only [cond_true] at e2
   rw [Za e0,Za e1,Za Zn,Za Zm,Za Zt,Zb,if_neg (by decide),Za e2,Za Zn,Za Zm]
   refine hbox.trans ?_
   rw [Za Zx,Zb,if_pos (by rfl)]
   rfl
 ·rw [if_neg hE,if_neg hE]
  refine ⟨X1,f1 _ _ ?_,h1.more (Nat.le_succ _) (fun _ _=>rfl),l01.stepq⟩
  unfold Kg
  rw [Za e0,Za e1,Za Zn,Za Zm,Za Zt,Zb,if_pos (by simpa using hE)]
  rfl
theorem ZsI (h : Grp X g o G mem c) : ∃ v q X',R (n+3) Y9 [pt g] X=some (v,X')∧ZB X' v ((Ye (ZH G)).map strv) q∧HLe X X'∧∀ j∈q,X.length≤j:=by
 have e1 : R (n+1) Q1 [.map (some o)] X=some (.func (.func J4) #[] #[pt X.length],X++[.cells [.map (some o)] 1 false false]):=by
  rw [R,ZaE rfl]
  unfold J5
  rw [Za (ZnT rfl rfl _)]
  rfl
 have l1 : HLe X (X++[.cells [.map (some o)] 1 false false]):=.app _ _
 obtain ⟨v,q,X2,e2,r2,l2,o2⟩:=(h.mo.hle l1).keys (gks:=ZhR) (gc:=KC) (gk:=J4) (c:=X.length) (by decide) ZF (Nat.le_trans h.few (by decide)) (fun p hp=>Nat.le_trans (Zhf (h.ok p hp)) (by decide))
 have e2' : R (n+1) J2 [.func (.func J4) #[] #[pt X.length],.func (.func KC) #[] #[]] (X++[.cells [.map (some o)] 1 false false])=some (v,X2):=by
  rw [R,ZbQ (show np J2=some (Zc0 ZhR KC) from rfl)]
  exact e2
 have e3 : R (n+2) K5 [.map (some o)] X=some (v,X2):=by
  rw [R,Zfk rfl]
  unfold ZaX
  rw [Za e1,Za e2']
  rfl
 refine ⟨v,q,X2,?_,r2,l1.trans l2,fun j hj=>Nat.le_trans l1.len (o2 j hj)⟩
 rw [R,ZiK rfl]
 unfold ZcG
 rw [Za Zu,Za Zg,Za h.ldo,Za e3]
 rfl
theorem Grp.keysAsc (h : Grp X g o G mem c) : Asc (Ye (ZH G)):=ZhZ h.mo.nod
theorem Zfy {l : List Tx} : (Ye l).length=l.length:=List.length_mergeSort l
def ofL (m : Tx) (K : List Tx) (mem : Mem) : List Tx:=(Ye K).filter fun k=>mem k m
theorem ZcX {K : List Tx} (hn : K.Nodup) : Is (ofL m K mem) (fun k=>k∈K∧mem k m=true):=⟨(ZhZ hn).filter _,fun x=>by unfold ofL;rw [List.mem_filter,ZbU]⟩
theorem ZeT {K : List Tx} : (ofL m K mem).length≤K.length:=by
 unfold ofL
 have:=List.length_filter_le (fun k=>mem k m) (Ye K)
 rwa [Zfy] at this
theorem Zve {b1 b2 : Nat} (h : Grp X g o G mem c) (h1 : X[b1]?=some (.cells [pt g] 1 false false)) (h2 : X[b2]?=some (.cells [strv m] 1 false false)) (hk : k∈ZH G) :
  ∃ X',R (n+1) Kd [strv k,pt b1,pt b2] X=some (.bool (!mem k m),X')∧HLe X X':=by
 obtain ⟨id,hid⟩:=h.has hk
 obtain ⟨S,m1,m2,m3,m4⟩:=h.set hid
 have e2 : lkp .str (.map none) false (.map (some o)) (strv k) X=some (.map (some id),X):=by rw [h.mo.lkp,hid];rfl
 have e3 : lkp .str (.agg #[]) true (.map (some id)) (strv m) X=some (.tuple #[.agg #[],.bool (mem k m)],X):=by
  rw [m1.lkp,← m2 m]
  cases Ze m S <;> rfl
 have l2 : HLe X (X++[.cells [] 1 false false]):=.app _ _
 have e4 : alc 1 (.agg #[]) X=some (pt X.length,X++[.cells [] 1 false false]):=K4 (vs:=[]) rfl
 have a4 : (X++[Zf.cells [] 1 false false])[X.length]?=some (.cells [] 1 false false):=ZF
 have e5 : stA 0 (pt X.length) (.agg #[]) (X++[Zf.cells [] 1 false false])=some (undef,(X++[Zf.cells [] 1 false false]).set X.length (.cells [] 1 false false)):=WS (vs:=[]) a4 rfl rfl rfl
 rw [ZuM] at e5
 have h':=h.hle l2
 have m1':=m1.hle l2
 have b1':=l2 _ _ h1
 have b2':=l2 _ _ h2
 generalize X++[Zf.cells [] 1 false false]=X2 at l2 e4 e5 h' m1' b1' b2'
 have e2' : lkp .str (.map none) false (.map (some o)) (strv k) X2=some (.map (some id),X2):=by rw [h'.mo.lkp,hid];rfl
 have e3' : lkp .str (.agg #[]) true (.map (some id)) (strv m) X2=some (.tuple #[.agg #[],.bool (mem k m)],X2):=by
  rw [m1'.lkp,← m2 m]
  cases Ze m S <;> rfl
 refine ⟨X2,?_,l2⟩
 rw [R,Zik rfl]
 unfold Zcu
 rw [Za (ZmM h1),Za Zu,Za Zg,Za h.ldo,Za e2,Za (ZmM h2),Za e3,Za Zn,Za Zm,Za e4,Za e3',Yz,Za (ZmM b2'),Yz,Za e2',Yz]
 refine (Za h'.ldo).trans ?_
 rw [Yz,Za (ZmM b1'),Yz,Za e5,Za Zx]
 rfl
theorem ZnU (h : Grp X g o G mem c) : ∃ v q X',R (n+4) JI [pt g,strv m] X=some (v,X')∧ZB X' v ((ofL m (ZH G) mem).map strv) q∧HLe X X'∧∀ j∈q,X.length≤j:=by
 have e1:=ZnT (v:=pt g) rfl rfl X
 have l1 : HLe X (X++[Zf.cells [pt g] 1 false false]):=.app _ _
 have c1 : (X++[Zf.cells [pt g] 1 false false])[X.length]?=some (.cells [pt g] 1 false false):=ZF
 generalize X++[Zf.cells [pt g] 1 false false]=X1 at e1 l1 c1
 have e2:=ZnT (v:=strv m) rfl rfl X1
 have l2 : HLe X1 (X1++[Zf.cells [strv m] 1 false false]):=.app _ _
 have c2 : (X1++[Zf.cells [strv m] 1 false false])[X1.length]?=some (.cells [strv m] 1 false false):=ZF
 generalize X1++[Zf.cells [strv m] 1 false false]=X2 at e2 l2 c2
 have c1:=l2 _ _ c1
 have h2:=h.hle (l1.trans l2)
 obtain ⟨v,q,X3,e3,r3,l3,o3⟩:=ZsI (n:=n) h2
 have e3 : R (n+3) Y9 [pt g] X2=_:=e3
 have l123:=(l1.trans l2).trans l3
 have hq : ∀ j∈q,j∉QS o G∧j≠g∧j≠X.length∧j≠X1.length:=fun j hj=>by
  have:=o3 j hj
  have a1:=Jd c1
  have a2:=Jd c2
  have a3:=h2.glt
  exact ⟨fun hm=>by have:=(h2.isMap hm).1;omega,by omega,by omega,by omega⟩
 have hkeep : ∀ Y Y',(Grp Y g o G mem c∧Y[X.length]?=some (.cells [pt g] 1 false false)∧Y[X1.length]?=some (.cells [strv m] 1 false false))→ZG q Y q Y'→(Grp Y' g o G mem c∧Y'[X.length]?=some (.cells [pt g] 1 false false)∧Y'[X1.length]?=some (.cells [strv m] 1 false false)):=fun Y Y' ⟨a1,a2,a3⟩ hs=>
  ⟨a1.step hs (fun hm=>(hq g hm).2.1 rfl) (fun j hj hm=>(hq j hm).1 hj),hs.get a2 (fun hm=>(hq _ hm).2.2.1 rfl),hs.get a3 (fun hm=>(hq _ hm).2.2.2 rfl)⟩
 have hf : ∀ i Y,(Grp Y g o G mem c∧Y[X.length]?=some (.cells [pt g] 1 false false)∧Y[X1.length]?=some (.cells [strv m] 1 false false))→∀ s∈Ye (ZH G),∃ Y',JF (R (i+1)) (.func (.func Kd) #[] #[pt X.length,pt X1.length]) [strv s] Y=some (.bool (!mem s m),Y')∧HLe Y Y':=fun i Y ⟨a1,a2,a3⟩ s hs=>by
  obtain ⟨Y',e,l⟩:=Zve (n:=i) a1 a2 a3 (ZbU.1 hs)
  refine ⟨Y',?_,l⟩
  have:=Zvs (n:=i+1) (g:=Kd) (bs:=[pt X.length,pt X1.length]) (args:=[strv s])
  exact (congrFun this Y).trans e
 obtain ⟨X4,v',e4,r4,s4⟩:=Znu (n:=n+1) (p:=fun s=>!mem s m) (f:=.func (.func Kd) #[] #[pt X.length,pt X1.length]) (Q:=fun Y=>Grp Y g o G mem c∧Y[X.length]?=some (.cells [pt g] 1 false false)∧Y[X1.length]?=some (.cells [strv m] 1 false false)) r3 (by rw [Zfy];have:=h.few;simp;omega) hkeep (hf n) (hf (n+1)) ⟨h2.hle l3,l3 _ _ c1,l3 _ _ c2⟩
 have e4 : R (n+3) QT [v,.func (.func Kd) #[] #[pt X.length,pt X1.length]] X3=_:=e4
 have hm:=l123.more s4 (fun j hj=>Nat.le_trans (l1.trans l2).len (o3 j hj))
 refine ⟨v',q,X4,?_,by simpa [ofL] using r4,hm.1,hm.2⟩
 rw [R,ZjC rfl]
 unfold Zc1
 rw [Za e1,Za e2,Za (ZmM c1),Za e3,Za e4]
 rfl
end
end Go.Proofs.YtnnehafmjfmbnaaGreatDoor.A
namespace Go.Proofs.YtnnehafmjfmbnaaGreatDoor.A
set_option linter.unusedVariables false
set_option linter.unusedSimpArgs false
open Go.Proofs Go.Proofs.YtnnehafmjfmbnaaGreatDoor
section
variable {X X' : Zc} {n g o c c' : Nat} {G : ZbJ} {mem mem' : Mem} {k m s t : Tx}
theorem ZB.grp {v : Value} {vs : List Value} {q S' : List Nat} (h : ZB X v vs q) (hG : Grp X g o G mem c) (hs : ZG (QS o G) X S' X') : ZB X' v vs q:=by
 refine h.step hs fun j hj hm=>?_
 rcases h with ⟨_,rfl,_⟩ | ⟨sid,rest,gr,_,rfl,hid⟩
 ·cases hj
 ·have hj : j=sid:=by simpa using hj
  subst hj
  exact (hG.isMap hm).2 _ _ _ _ hid
def Zf3 (s t : Tx) (K : List Tx) (mem : Mem) : Int:=if Zr t then (if s=t then 0 else if ofL t K mem=[] then 0 else 9) else 10
def Zai (s t : Tx) (mem : Mem) : Mem:=fun k n=>if mem k s then (n==t || (mem k n && !(n==s))) else mem k n
def Zc8 (m : Tx) (mem : Mem) : Mem:=fun k n=>mem k n && !(n==m)
def ZfP (s t : Tx) (l : List Tx) (mem : Mem) (j : Nat) : Mem:=fun k n=>if k∈l.take j then (n==t || (mem k n && !(n==s))) else mem k n
def ZgL (m : Tx) (l : List Tx) (mem : Mem) (j : Nat) : Mem:=fun k n=>if k∈l.take j then mem k n && !(n==m) else mem k n
theorem ZcO {l : List Tx} {j : Nat} {x k : Tx} (hx : l[j]?=some x) : k∈l.take (j+1)↔k∈l.take j∨k=x:=by
 rw [List.take_add_one,hx];simp
theorem Zpi {l : List Tx} {j : Nat} {x : Tx} (hn : l.Nodup) (hx : l[j]?=some x) : x∉l.take j:=fun hm=>by
 obtain ⟨i,hi⟩:=List.getElem?_of_mem hm
 rw [List.getElem?_take] at hi
 split at hi
 ·rename_i hij
  obtain ⟨h1,h2⟩:=List.getElem?_eq_some_iff.1 hi
  obtain ⟨h3,h4⟩:=List.getElem?_eq_some_iff.1 hx
  exact List.pairwise_iff_getElem.1 hn i j h1 h3 hij (h2.trans h4.symm)
 ·cases hi
theorem Zsf {v : Value} {q : List Nat} {l : List Tx} (hl : l.length≤1000) (hn : l.Nodup) (hK : ∀ x∈l,x∈ZH G∧mem x s=true) : ∀ (r j : Nat) (X : Zc),l.length - j=r→j≤l.length→Grp X g o G (ZfP s t l mem j) c→Zr t=true→ZB X v (l.map strv) q→
  ∃ X',Zh (c6 (Qq.l1 (R n))) [pt g,strv s,strv t,v,iv l.length,iv j] X=some (.ext 0 [],X')∧Grp X' g o G (ZfP s t l mem l.length) c∧ZG (QS o G) X (QS o G) X'
 | 0,j,X,hr,hj,h,ht,hrow=>by
  have : j=l.length:=by omega
  subst this
  refine ⟨X,Z4 ?_,h,.refl _ _⟩
  rw [JH]
  unfold Qq.l1
  rw [Za Zq,Zb,if_neg (by simp)]
  rfl
 | r+1,j,X,hr,hj,h,ht,hrow=>by
  have hkl : j < l.length:=by omega
  have hlt : (j : Int) < l.length:=by omega
  have hg:=List.getElem?_eq_getElem hkl
  have hmm:=List.getElem_mem hkl
  generalize l[j]=k at hg hmm
  obtain ⟨hkK,hks⟩:=hK k hmm
  have hnot:=Zpi hn hg
  have x1:=hrow.ix (i:=j) (by simpa using hkl) .i64 X
  have x2:=hrow.ldx (KI hg)
  obtain ⟨id,hid⟩:=h.has hkK
  obtain ⟨S,m1,m2,m3,m4⟩:=h.set hid
  have hmk : ∀ n',(Ze n' S).isSome=mem k n':=fun n'=>by rw [m2 n'];unfold ZfP;rw [if_neg hnot]
  have e2 : lkp .str (.map none) false (.map (some o)) (strv k) X=some (.map (some id),X):=by rw [h.mo.lkp,hid];rfl
  obtain ⟨X1,e3,m5,s3,_⟩:=m1.mde (k:=s)
  have hsub : (JV s S).Sublist S:=List.filter_sublist
  have h1:=h.upd (mem':=fun k' n'=>if k'=k then (Ze n' (JV s S)).isSome else ZfP s t l mem j k' n') hid m5 s3 (fun q hq=>m4 q (hsub.subset hq)) (Nat.le_trans hsub.length_le m3) (Nat.le_refl _) (fun _ _=>rfl)
  have e4 : lkp .str (.map none) false (.map (some o)) (strv k) X1=some (.map (some id),X1):=by rw [h1.mo.lkp,hid];rfl
  obtain ⟨X2,e5,m6,s5,_⟩:=m5.mup (k:=t) (v:=())
  have hsS : (Ze s S).isSome=true:=by rw [hmk];exact hks
  have hpos : 0 < S.length:=by
   cases hS : S with
   | nil=>rw [hS] at hsS;cases hsS
   | cons a b=>simp
  have hlen : (Qw t () (JV s S)).length≤c:=by
   rw [ZdJ]
   have:=Zkv m1.nod hsS
   split <;> omega
  have h2:=h1.upd (mem':=ZfP s t l mem (j+1)) hid m6 s5 (fun q hq=>by
   rcases Zg3 hq with rfl | hq
   ·exact ht
   ·exact m4 q (hsub.subset hq)) hlen (Nat.le_refl _) (fun k' n'=>by
   by_cases hk : k'=k
   ·subst hk
    rw [if_pos rfl]
    unfold ZfP
    rw [if_pos ((ZcO hg).2 (.inr rfl))]
    by_cases hnt : n'=t
    ·subst hnt;rw [K0];simp
    ·rw [YB hnt]
     by_cases hns : n'=s
     ·subst hns;rw [Wu];simp [hnt]
     ·rw [Jn hns,hmk,beq_eq_false_iff_ne.2 hnt,beq_eq_false_iff_ne.2 hns];simp
   ·rw [if_neg hk,if_neg hk]
    unfold ZfP
    by_cases hin : k'∈l.take j
    ·rw [if_pos hin,if_pos ((ZcO hg).2 (.inl hin))]
    ·rw [if_neg hin,if_neg fun h=>(ZcO hg).1 h |>.elim hin hk])
  have st:=(h.step1 hid s3).trans (h1.step1 hid s5)
  obtain ⟨X3,e6,h3,s6⟩:=Zsf hl hn hK r (j+1) X2 (by omega) (by omega) h2 ht (hrow.grp h st)
  refine ⟨X3,(ZI ?_).trans e6,h3,st.trans s6⟩
  rw [JH]
  unfold Qq.l1
  rw [Za Zq,Zb,if_pos (by simpa using hlt),Za x1,Za x2,Za Zu,Za Zg,Za h.ldo,Za e2,Za e3,Za Zu,Za Zg,Za h1.ldo,Za e4,Za Zu9,Za e5,Za ZA,QH (by omega)]
  rfl
theorem Zcj {K : List Tx} {x : Tx} : x∈ofL m K mem↔x∈K∧mem x m=true:=by unfold ofL;rw [List.mem_filter,ZbU]
theorem Zvi (h : Grp X g o G mem c) : ∃ X',R (n+8) YS [pt g,strv s,strv t] X=some (iv (Zf3 s t (ZH G) mem),X')∧Grp X' g o G (if Zf3 s t (ZH G) mem=0 then Zai s t mem else mem) c∧ZG (QS o G) X (QS o G) X':=by
 have l0 : HLe X (X++[.cells [strv t] 1 false false]):=.app _ _
 have s0:=(ZgW (x:=t) (H:=X)).rd
 have e0:=Zmy (x:=t) (H:=X)
 generalize X++[Zf.cells [strv t] 1 false false]=X0 at l0 s0 e0
 have f1 : ∀ r X',Qq (R (n+7)) (pt g) (strv s) (strv t) X=some (r,X')→R (n+8) YS [pt g,strv s,strv t] X=some (r,X'):=fun r X' hr=>by rw [R,Zgn rfl];exact hr
 have e1 : R (n+7) WJ [_] X0=_:=Zpw (n:=n+1) (l:=[t]) (by simp) s0
 have h0:=h.hle l0
 unfold Zf3
 by_cases ht : Zr t=true
 ·have hN : ZcC [t]=0:=by unfold ZcC;simp [ht]
  rw [hN] at e1
  rw [if_pos ht]
  have q1 : bop .str .eql (strv s) (strv t) X0=some (.bool (s==t),X0):=Zc2
  by_cases hst : s=t
  ·rw [if_pos hst,if_pos rfl]
   refine ⟨X0,f1 _ _ ?_,h0.more (Nat.le_refl _) (fun k' n'=>?_),l0.stepq⟩
   ·unfold Qq
    rw [Za e0,Za e1,Za Zt,Zb,if_neg (by decide),Za q1,Zb,if_pos (by simpa using hst)]
    rfl
   ·unfold Zai
    subst hst
    split
    ·rename_i hm
     by_cases hn : n'=s
     ·subst hn;simp [hm]
     ·rw [beq_eq_false_iff_ne.2 hn];simp
    ·rfl
  ·rw [if_neg hst]
   obtain ⟨v1,q1',X1,e2,r2,l2,o2⟩:=ZnU (n:=n+3) (m:=t) h0
   have e2 : R (n+7) JI [pt g,strv t] X0=_:=e2
   have hlen1 : Zz v1 X1=some (iv (ofL t (ZH G) mem).length,X1):=by have:=r2.rd.len (H':=X1);simpa using this
   have h1:=h0.hle l2
   by_cases hO : ofL t (ZH G) mem=[]
   ·rw [if_pos hO,if_pos rfl]
    rw [hO] at hlen1
    obtain ⟨v2,q2,X2,e3,r3,l3,o3⟩:=ZnU (n:=n+3) (m:=s) h1
    have e3 : R (n+7) JI [pt g,strv s] X1=_:=e3
    have h2:=h1.hle l3
    have hlen2 : Zz v2 X2=some (iv (ofL s (ZH G) mem).length,X2):=by have:=r3.rd.len (H':=X2);simpa using this
    have hfew : (ofL s (ZH G) mem).length≤1000:=by have:=ZeT (m:=s) (mem:=mem) (K:=ZH G);have:=h.few;simp at *;omega
    have hnod : (ofL s (ZH G) mem).Nodup:=(ZcX h.mo.nod).asc.nodup
    have hr0 : ∀ k n',ZfP s t (ofL s (ZH G) mem) mem 0 k n'=mem k n':=fun k n'=>by unfold ZfP;simp
    obtain ⟨X3,e4,h3,s4⟩:=Zsf (n:=n+7) (s:=s) (t:=t) hfew hnod (fun x hx=>Zcj.1 hx) (ofL s (ZH G) mem).length 0 X2 (by omega) (by omega) (h2.more (Nat.le_refl _) hr0) ht r3
    rw [show iv ((0 : Nat) : Int)=.int .i64 0 from rfl] at e4
    refine ⟨X3,f1 _ _ ?_,h3.more (Nat.le_refl _) (fun k' n'=>?_),((l0.trans l2).trans l3).stepq.trans s4⟩
    ·unfold Qq
     rw [Za e0,Za e1,Za Zt,Zb,if_neg (by decide),Za q1,Zb,if_neg (by simpa using hst),Za e2,Za hlen1,Za QC,Zb,if_neg (by simp),Za e3,Za hlen2,QW e4,ZM]
     rfl
    ·unfold Zai ZfP
     rw [List.take_length]
     by_cases hm : mem k' s=true
     ·have hin : k'∈ofL s (ZH G) mem:=Zcj.2 ⟨by
       have:=h.out k' s hm
       rw [h.key] at this;simpa using this,hm⟩
      rw [if_pos hm,if_pos hin]
     ·rw [if_neg hm,if_neg fun hin=>hm (Zcj.1 hin).2]
   ·rw [if_neg hO,if_neg (by decide)]
    have hpos : 0 < (ofL t (ZH G) mem).length:=List.length_pos_iff.2 hO
    refine ⟨X1,f1 _ _ ?_,h1,(l0.trans l2).stepq⟩
    unfold Qq
    rw [Za e0,Za e1,Za Zt,Zb,if_neg (by decide),Za q1,Zb,if_neg (by simpa using hst),Za e2,Za hlen1,Za QC,Zb,if_pos (by simpa using hpos)]
    rfl
 ·have hN : ZcC [t]=10:=by unfold ZcC;simp [ht]
  rw [hN] at e1
  rw [if_neg ht,if_neg (by decide)]
  refine ⟨X0,f1 _ _ ?_,h0,l0.stepq⟩
  unfold Qq
  rw [Za e0,Za e1,Za Zt,Zb,if_pos (by decide)]
  rfl
theorem Zsw {v z : Value} {q : List Nat} {l : List Tx} (hl : l.length≤1000) (hn : l.Nodup) (hK : ∀ x∈l,x∈ZH G) : ∀ (r j : Nat) (X : Zc),l.length - j=r→j≤l.length→Grp X g o G (ZgL m l mem j) c→ZB X v (l.map strv) q→
  ∃ X',Zh (c6 (JX.l1 (R n))) [pt g,strv m,z,v,iv l.length,iv j] X=some (.ext 0 [z],X')∧Grp X' g o G (ZgL m l mem l.length) c∧ZG (QS o G) X (QS o G) X'
 | 0,j,X,hr,hj,h,hrow=>by
  have : j=l.length:=by omega
  subst this
  refine ⟨X,Z4 ?_,h,.refl _ _⟩
  rw [JH]
  unfold JX.l1
  rw [Za Zq,Zb,if_neg (by simp)]
  rfl
 | r+1,j,X,hr,hj,h,hrow=>by
  have hkl : j < l.length:=by omega
  have hlt : (j : Int) < l.length:=by omega
  have hg:=List.getElem?_eq_getElem hkl
  have hmm:=List.getElem_mem hkl
  generalize l[j]=k at hg hmm
  have hkK:=hK k hmm
  have hnot:=Zpi hn hg
  have x1:=hrow.ix (i:=j) (by simpa using hkl) .i64 X
  have x2:=hrow.ldx (KI hg)
  obtain ⟨id,hid⟩:=h.has hkK
  obtain ⟨S,m1,m2,m3,m4⟩:=h.set hid
  have hmk : ∀ n',(Ze n' S).isSome=mem k n':=fun n'=>by rw [m2 n'];unfold ZgL;rw [if_neg hnot]
  have e2 : lkp .str (.map none) false (.map (some o)) (strv k) X=some (.map (some id),X):=by rw [h.mo.lkp,hid];rfl
  obtain ⟨X1,e3,m5,s3,_⟩:=m1.mde (k:=m)
  have hsub : (JV m S).Sublist S:=List.filter_sublist
  have h1:=h.upd (mem':=ZgL m l mem (j+1)) hid m5 s3 (fun q hq=>m4 q (hsub.subset hq)) (Nat.le_trans hsub.length_le m3) (Nat.le_refl _) (fun k' n'=>by
   by_cases hk : k'=k
   ·subst hk
    rw [if_pos rfl]
    unfold ZgL
    rw [if_pos ((ZcO hg).2 (.inr rfl))]
    by_cases hns : n'=m
    ·subst hns;rw [Wu];simp
    ·rw [Jn hns,hmk];simp [hns]
   ·rw [if_neg hk]
    unfold ZgL
    by_cases hin : k'∈l.take j
    ·rw [if_pos hin,if_pos ((ZcO hg).2 (.inl hin))]
    ·rw [if_neg hin,if_neg fun h=>(ZcO hg).1 h |>.elim hin hk])
  have st:=h.step1 hid s3
  obtain ⟨X3,e6,h3,s6⟩:=Zsw hl hn hK r (j+1) X1 (by omega) (by omega) h1 (hrow.grp h st)
  refine ⟨X3,(ZI ?_).trans e6,h3,st.trans s6⟩
  rw [JH]
  unfold JX.l1
  rw [Za Zq,Zb,if_pos (by simpa using hlt),Za x1,Za x2,Za Zu,Za Zg,Za h.ldo,Za e2,Za e3,Za ZA,QH (by omega)]
  rfl
theorem Zss (h : Grp X g o G mem c) : ∃ X',R (n+8) KH [pt g,strv m] X=some (iv (ofL m (ZH G) mem).length,X')∧Grp X' g o G (Zc8 m mem) c∧ZG (QS o G) X (QS o G) X':=by
 obtain ⟨v2,q2,X2,e3,r3,l3,o3⟩:=ZnU (n:=n+3) (m:=m) h
 have e3 : R (n+7) JI [pt g,strv m] X=_:=e3
 have h2:=h.hle l3
 have hlen2 : ∀ Y,Zz v2 Y=some (iv (ofL m (ZH G) mem).length,Y):=fun Y=>by have:=r3.rd.len (H':=Y);simpa using this
 have hfew : (ofL m (ZH G) mem).length≤1000:=by have:=ZeT (m:=m) (mem:=mem) (K:=ZH G);have:=h.few;simp at *;omega
 have hnod : (ofL m (ZH G) mem).Nodup:=(ZcX h.mo.nod).asc.nodup
 have hr0 : ∀ k n',ZgL m (ofL m (ZH G) mem) mem 0 k n'=mem k n':=fun k n'=>by unfold ZgL;simp
 obtain ⟨X3,e4,h3,s4⟩:=Zsw (n:=n+7) (m:=m) (z:=v2) hfew hnod (fun x hx=>(Zcj.1 hx).1) (ofL m (ZH G) mem).length 0 X2 (by omega) (by omega) (h2.more (Nat.le_refl _) hr0) r3
 rw [show iv ((0 : Nat) : Int)=.int .i64 0 from rfl] at e4
 refine ⟨X3,?_,h3.more (Nat.le_refl _) (fun k' n'=>?_),l3.stepq.trans s4⟩
 ·rw [R,Zgg rfl]
  unfold JX
  rw [Za e3,Za (hlen2 _),QW e4,ZM,Kb,Za (hlen2 _)]
  rfl
 ·unfold Zc8 ZgL
  rw [List.take_length]
  by_cases hin : k'∈ofL m (ZH G) mem
  ·rw [if_pos hin]
  ·rw [if_neg hin]
   by_cases hn : n'=m
   ·subst hn
    cases hm : mem k' n' with
    | false=>rfl
    | true=>exact absurd (Zcj.2 ⟨by have:=h.out k' n' hm;rw [h.key] at this;simpa using this,hm⟩) hin
   ·simp [hn]
def Zb0 (b : Nat) : ZbJ→ZbJ
 | []=>[]
 | p :: G=>(p.1,b) :: Zb0 (b+1) G
theorem ZgY : ∀ {G : ZbJ} {b : Nat},ZH (Zb0 b G)=ZH G
 | [],_=>rfl
 | p :: G,b=>by
  show p.1 :: ZH (Zb0 (b+1) G)=p.1 :: ZH G
  rw [ZgY]
theorem Zkn : ∀ {G : ZbJ} {b : Nat} {p : Tx × Nat},p∈Zb0 b G→∃ i q,G[i]?=some q∧p=(q.1,b+i)
 | [],_,_,h=>by cases h
 | q :: G,b,p,h=>by
  rcases List.mem_cons.1 h with rfl | h
  ·exact ⟨0,q,rfl,rfl⟩
  ·obtain ⟨i,r,h1,h2⟩:=Zkn h
   exact ⟨i+1,r,by simpa using h1,by rw [h2];congr 1;omega⟩
theorem ZfH : ∀ {G : ZbJ} {b : Nat},(Zb0 b G).map (·.2)=List.range' b G.length
 | [],_=>rfl
 | p :: G,b=>by
  show b :: (Zb0 (b+1) G).map (·.2)=_
  rw [ZfH,List.length_cons,List.range'_succ]
theorem Zk4 : ∀ {G : ZbJ} {b : Nat},(Ze k (Zb0 b G)).isSome=(Ze k G).isSome
 | [],_=>rfl
 | p :: G,b=>by
  simp only [Zb0,Ze]
  by_cases h : p.1=k
  ·rw [if_pos h,if_pos h];rfl
  ·rw [if_neg h,if_neg h,Zk4]
theorem ZlX : ∀ {es : List (Value × Value × Nat)} {G : ZbJ} {b : Nat},es.map kv=G.map (fun p=>(strv p.1,ZmG p.2))→(Za9 b es).map kv=(Zb0 b G).map (fun p=>(strv p.1,ZmG p.2))
 | [],[],_,_=>rfl
 | [],_ :: _,_,h=>by cases h
 | _ :: _,[],_,h=>by cases h
 | e :: es,p :: G,b,h=>by
  simp only [List.map_cons,List.cons.injEq,kv,Prod.mk.injEq] at h
  simp only [Za9,Zb0,List.map_cons,kv,h.1.1]
  rw [ZlX h.2]
theorem Zli : ∀ {es : List (Value × Value × Nat)} {G : ZbJ},es.map kv=G.map (fun p=>(strv p.1,ZmG p.2))→(∀ p∈G,∃ S,JK Zlk X p.2 S)→∃ l,Zdh X es=some l∧l.length=G.length∧∀ (i : Nat) (p : Tx × Nat),G[i]?=some p→l[i]?=X[p.2]?
 | [],[],_,_=>⟨[],rfl,rfl,fun i p h=>by simp at h⟩
 | [],_ :: _,h,_=>by cases h
 | _ :: _,[],h,_=>by cases h
 | e :: es,p :: G,h,hS=>by
  simp only [List.map_cons,List.cons.injEq,kv,Prod.mk.injEq] at h
  obtain ⟨l,h1,h2,h3⟩:=Zli h.2 (fun p hp=>hS p (List.mem_cons_of_mem _ hp))
  obtain ⟨S,hm⟩:=hS p (by simp)
  obtain ⟨x,hx,hmx⟩ : ∃ x,X[p.2]?=some x∧Ze1 x=true:=by
   obtain ⟨es',_,h4 | h4⟩:=hm.ex
   ·obtain ⟨clk,h4,_⟩:=h4;exact ⟨_,h4,rfl⟩
   ·exact ⟨_,h4,rfl⟩
  refine ⟨x :: l,?_,by simp [h2],fun i q hi=>?_⟩
  ·unfold Zdh
   simp only [h.1.2,h1,ZmG,hx,hmx,if_true]
  ·cases i with
   | zero=>
    have : p=q:=by simpa using hi
    subst this
    simp [hx]
   | succ i=>simpa using h3 i q (by simpa using hi)
theorem JK.move {α : Type} {enc : α→Value} {id id' : Nat} {mm : List (Tx × α)} (h : JK enc X id mm) (he : X'[id']?=X[id]?) : JK enc X' id' mm:=by
 obtain ⟨es,h1,h2⟩:=h.ex
 exact ⟨⟨es,h1,by rw [he];exact h2⟩,h.nod⟩
theorem Zt4 (h : Grp X g o G mem c) : ∃ X' g' o' G',R (n+1) K9 [pt g] X=some (pt g',X')∧Grp X' g' o' G' mem c∧ZH G'=ZH G∧HLe X X'∧X.length≤g'∧∀ j∈QS o' G',X.length≤j:=by
 obtain ⟨es,h1,h2⟩:=h.mo.ex
 obtain ⟨l,h3,h4,h5⟩:=Zli h1 (fun p hp=>by obtain ⟨S,hS,_⟩:=h.ms p hp;exact ⟨S,hS⟩)
 have hents : ZiT X o=some es:=by
  unfold ZiT
  rcases h2 with ⟨clk,h2,hst⟩ | h2
  ·simp only [h2];rw [if_pos hst]
  ·simp only [h2]
 have hk : ZdY es (ZH G):=⟨by
  have:=congrArg (List.map (·.1)) h1
  rw [Zc5] at this
  rw [this];simp [Function.comp_def],h.mo.nod,by have:=h.few;simp;omega,fun k hk=>by
  obtain ⟨p,hp,rfl⟩:=List.mem_map.1 hk
  exact Nat.le_trans (Zhf (h.ok p hp)) (by decide)⟩
 have hrun : R (n+1) K9 [pt g] X=some (pt (X.length+l.length+1),X++l++[.mapU (Za9 X.length es)]++[.cells [.map (some (X.length+l.length))] 1 false false]):=by
  rw [R,ZbQ (show np K9=some Zgi from rfl)]
  unfold Zgi
  simp only [h.cell,hents,h3]
  rw [if_pos ⟨_,hk⟩]
 have hlen1 : (X++l).length=X.length+l.length:=List.length_append
 have hlen2 : (X++l++[Zf.mapU (Za9 X.length es)]).length=X.length+l.length+1:=by rw [List.length_append,hlen1,List.length_singleton]
 have hle : HLe X (X++l++[.mapU (Za9 X.length es)]++[.cells [.map (some (X.length+l.length))] 1 false false]):=fun i v hi=>by
  rw [List.append_assoc,List.append_assoc,List.getElem?_append_left (Jd hi)];exact hi
 refine ⟨_,_,X.length+l.length,Zb0 X.length G,hrun,⟨?_,⟨⟨Za9 X.length es,ZlX h1,.inr ?_⟩,?_⟩,fun p hp=>?_,fun k' n' hk'=>by rw [Zk4];exact h.out k' n' hk',?_,fun p hp=>?_,?_⟩,ZgY,hle,by omega,fun j hj=>?_⟩
 ·rw [← hlen2];exact ZF
 ·rw [List.getElem?_append_left (by rw [hlen2];omega),← hlen1];exact ZF
 ·have : (ZH (Zb0 X.length G)).Nodup:=by rw [ZgY];exact h.mo.nod
  exact this
 ·obtain ⟨i,q,hq,rfl⟩:=Zkn hp
  obtain ⟨S,a1,a2,a3,a4⟩:=h.ms q (List.mem_of_getElem? hq)
  refine ⟨S,a1.move ?_,a2,a3,a4⟩
  have hil : i < l.length:=by rw [h4];exact (List.getElem?_eq_some_iff.1 hq).1
  show (_ : Zc)[X.length+i]?=_
  rw [List.getElem?_append_left (by rw [hlen2];omega),List.getElem?_append_left (by rw [hlen1];omega),List.getElem?_append_right (by omega),Nat.add_sub_cancel_left]
  exact h5 i q hq
 ·rw [QS,ZfH,List.nodup_cons]
  refine ⟨fun hm=>?_,List.nodup_range'⟩
  have:=List.mem_range'_1.1 hm
  omega
 ·obtain ⟨i,q,hq,rfl⟩:=Zkn hp
  exact h.ok q (List.mem_of_getElem? hq)
 ·have : (Zb0 X.length G).length=G.length:=by
   have:=congrArg List.length (ZfH (G:=G) (b:=X.length))
   simpa using this
  rw [this];exact h.few
 ·rw [QS,ZfH] at hj
  rcases List.mem_cons.1 hj with rfl | hj
  ·omega
  ·exact (List.mem_range'_1.1 hj).1
end
end Go.Proofs.YtnnehafmjfmbnaaGreatDoor.A

namespace Go.Proofs.YtnnehafmjfmbnaaGreatDoor.A
set_option linter.unusedVariables false
set_option linter.unusedSimpArgs false
open Go.Proofs Go.Proofs.YtnnehafmjfmbnaaGreatDoor
def YX (b : UInt8) : UInt8:=if decide (65≤b.toNat) && decide (b.toNat≤90) then UInt8.ofNat (b.toNat+32) else b
def Qb (s : List UInt8) : List UInt8:=s.map YX
theorem Ztn : ∀ b : UInt8,(decide (65≤b.toNat) && decide (b.toNat≤90))=true→IntKind.u8.wrap (IntKind.u8.wrap ((b.toNat : Int)+97) - 65)=(YX b).toNat:=Zfd (by decide+kernel)
section
variable {H X : Zc} {n : Nat} {s : List UInt8}
theorem ZuZ {cs : List UInt8} {k : Nat} {b : UInt8} (h : cs[k]?=some b) : (u8s cs)[k]?=some (u8v b):=by unfold u8s;rw [List.getElem?_map,h];rfl
theorem ZtY {cs : List UInt8} {k : Nat} {b : UInt8} : (u8s cs).set k (u8v b)=u8s (cs.set k b):=by unfold u8s;rw [List.map_set]
theorem ZvR : s2b (strv s) H=some (.slice (some ⟨H.length,0,none⟩) s.length s.length,H++[.cells (u8s s) 1 true false]):=by
 unfold s2b strv ZiY
 simp [ByteArray.size]
theorem Zl8 {v : Value} {q : List Nat} (hs : s.length≤1000000) : ∀ (t k : Nat) (cs : List UInt8) (X : Zc),s.length - k=t→k≤s.length→cs.length=s.length→cs.take k=(s.take k).map YX→cs.drop k=s.drop k→ZB X v (u8s cs) q→
  ∃ X',Zh (c4 (KY.l1 (R n))) [v,v,iv s.length,iv k] X=some (.ext 0 [v],X')∧ZB X' v (u8s (Qb s)) q∧ZG q X q X'
 | 0,k,cs,X,ht,hk,hl,h1,h2,hr=>by
  have : k=s.length:=by omega
  subst this
  have : cs=Qb s:=by
   rw [List.take_of_length_le (by omega),List.take_of_length_le (by omega)] at h1
   exact h1
  subst this
  refine ⟨X,Z4 ?_,hr,.refl _ _⟩
  rw [ZK]
  unfold KY.l1
  rw [Za Zq,Zb,if_neg (by simp)]
  rfl
 | t+1,k,cs,X,ht,hk,hl,h1,h2,hr=>by
  have hkl : k < s.length:=by omega
  have hlt : (k : Int) < s.length:=by omega
  have hg:=List.getElem?_eq_getElem hkl
  have htk:=List.take_succ_eq_append_getElem hkl
  have hdk:=List.drop_eq_getElem_cons hkl
  generalize s[k]=b at hg htk hdk
  have hgc : cs[k]?=some b:=by
   have h3 : (cs.drop k)[0]?=(s.drop k)[0]?:=by rw [h2]
   simpa [hg] using h3
  have hul : (u8s cs).length=s.length:=by rw [Zlp,hl]
  have x1:=hr.ix (i:=k) (by omega) .i64 X
  have x2:=hr.ldx (ZuZ hgc)
  have hd1 : cs.drop (k+1)=s.drop (k+1):=by rw [← List.drop_drop,h2,List.drop_drop]
  have htc : cs.take (k+1)=cs.take k++[b]:=by
   have:=List.take_succ_eq_append_getElem (show k < cs.length by omega)
   rw [this,(List.getElem?_eq_some_iff.1 hgc).2]
  have hpk : ∀ (K : Value→M Out),bind (bop .int .geq (u8v b) (Value.int .u8 65)) (fun v16x6=>bind (ZC v16x6 true 2 (bind (bop .int .leq (u8v b) (Value.int .u8 90)) fun v19x7=>ret [u8v b,v19x7])) (c2 fun _ q8_1=>bind (pick v16x6 q8_1 (Value.bool false)) K)) X=K (.bool (decide (65≤b.toNat) && decide (b.toNat≤90))) X:=fun K=>by
   have e1 : decide ((b.toNat : Int)≥65)=decide (65≤b.toNat):=by rw [decide_eq_decide];omega
   have e2 : decide ((b.toNat : Int)≤90)=decide (b.toNat≤90):=by rw [decide_eq_decide];omega
   rw [Za Qc,e1]
   cases decide (65≤b.toNat)
   ·rw [Za (g_r.trans (if_neg (by simp)))]
    simp only [List.replicate]
    rw [Qy,Za Zo]
    rfl
   ·rw [Z3,Zl,Za QU,Qi,Qy,Za Zo,e2]
    rfl
  cases hup : (decide (65≤b.toNat) && decide (b.toNat≤90))
  ·have hfb : YX b=b:=by unfold YX;rw [hup];rfl
   rw [hup] at hpk
   obtain ⟨X',e,r',s'⟩:=Zl8 hs t (k+1) cs X (by omega) (by omega) hl (by rw [htc,h1,htk,List.map_append,List.map_singleton,hfb]) hd1 hr
   refine ⟨X',(ZI ?_).trans e,r',s'⟩
   rw [ZK]
   unfold KY.l1
   rw [Za Zq,Zb,if_pos (by simpa using hlt),Za x1,Za x2]
   refine (hpk _).trans ?_
   refine (ZY (vs:=[v,v,iv s.length,iv k]) (H':=X) ?_).trans ?_
   ·rw [Zb,if_neg (by simp)];rfl
   ·rw [ZK,Za ZA,QH (by omega)];rfl
  ·have hfu:=Ztn b hup
   rw [hup] at hpk
   obtain ⟨X1,x3,r1,s1,_⟩:=hr.stx (i:=k) (u:=u8v (YX b)) (by omega) rfl
   rw [ZtY] at r1
   obtain ⟨X',e,r',s'⟩:=Zl8 hs t (k+1) (cs.set k (YX b)) X1 (by omega) (by omega) (by simpa using hl) (by
    have h5 : k < (cs.set k (YX b)).length:=by simp;omega
    rw [List.take_succ_eq_append_getElem h5,List.take_set_of_le (Nat.le_refl _),h1,htk,List.map_append]
    simp) (by rw [List.drop_set_of_lt (by omega)];exact hd1) r1
   refine ⟨X',(ZI ?_).trans e,r',s1.trans s'⟩
   rw [ZK]
   unfold KY.l1
   rw [Za Zq,Zb,if_pos (by simpa using hlt),Za x1,Za x2]
   refine (hpk _).trans ?_
   refine (ZY (vs:=[v,v,iv s.length,iv k]) (H':=X1) ?_).trans ?_
   ·rw [Zb,if_pos rfl,Za ZA,Za Jc,hfu,Za x1,Za x3];rfl
   ·rw [ZK,Za ZA,QH (by omega)];rfl
theorem Zu6 (hs : s.length≤1000000) : ∃ H',R (n+1) Zdv [strv s] H=some (strv (Qb s),H')∧HLe H H':=by
 have e1:=ZvR (s:=s) (H:=H)
 have k1 : HLe H (H++[.cells (u8s s) 1 true false]):=.app _ _
 have r1 : ZB (H++[.cells (u8s s) 1 true false]) (.slice (some ⟨H.length,0,none⟩) s.length s.length) (u8s s) [H.length]:=.inr ⟨H.length,[],true,by rw [Zlp];rfl,rfl,by rw [ZF,List.append_nil]⟩
 have hnl : ∀ j∈[H.length],H.length≤j:=by simp
 generalize H++[Zf.cells (u8s s) 1 true false]=H1 at e1 k1 r1
 obtain ⟨H2,e2,r2,s2⟩:=Zl8 (n:=n) hs s.length 0 s H1 (by omega) (by omega) rfl rfl rfl r1
 have e2 : Zh (c4 (KY.l1 (R n))) [.slice (some ⟨H.length,0,none⟩) s.length s.length,.slice (some ⟨H.length,0,none⟩) s.length s.length,iv s.length,.int .i64 0] H1=_:=e2
 refine ⟨H2,?_,(k1.more s2 hnl).1⟩
 rw [R,Zps rfl]
 unfold KY
 have hl : Zz (.slice (some ⟨H.length,0,none⟩) s.length s.length) H1=some (iv s.length,H1):=rfl
 rw [Za e1,Za hl,QW e2,ZM,Kb,Za (ZvL r2.rd)]
 rfl
def Zbd : List UInt8:=[65,66,67,68,69,70,71,72,73,74,75,76,77,78,79,80,81,82,83,84,85,86,87,88,89,90]
theorem ZqU : ∀ k < 26,∀ b,Zbd[k]?=some b→Ze3[k]?=some (YX b):=by
 intro k hk b hb
 have : ∀ k < 26,(Zbd[k]?).map YX=Ze3[k]?:=by decide
 rw [← this k hk,hb];rfl
theorem Ztp : ∀ b : UInt8,(if Zbd.contains b then YX b else b)=YX b:=Zfd (by decide+kernel)
theorem Zsq {i j : Nat} (hij : i≤j) (hj : j≤s.length) : sls (strv s) (some (iv i)) (some (iv j)) H=some (strv ((s.take j).drop i),H):=by
 have h1 : (⟨s.toArray⟩ : ByteArray).size=s.length:=by simp [ByteArray.size]
 have h2 : (⟨s.toArray⟩ : ByteArray).extract i j=⟨((s.take j).drop i).toArray⟩:=by
  apply ByteArray.ext
  rw [ByteArray.data_extract]
  simp [List.drop_take]
 have hb : ∀ k : Nat,∀ d,bnd (some (iv k)) d=some k:=fun k d=>by simp [bnd]
 unfold strv sls
 simp only [h1,hb]
 rw [if_pos ⟨hij,hj⟩,h2]
theorem ZtH {i : Nat} (hi : i≤s.length) : sls (strv s) (some (iv i)) none H=some (strv (s.drop i),H):=by
 have h1 : (⟨s.toArray⟩ : ByteArray).size=s.length:=by simp [ByteArray.size]
 have h2 : (⟨s.toArray⟩ : ByteArray).extract i s.length=⟨(s.drop i).toArray⟩:=by
  apply ByteArray.ext
  rw [ByteArray.data_extract]
  simp [List.take_of_length_le]
 have hb : ∀ k : Nat,∀ d,bnd (some (iv k)) d=some k:=fun k d=>by simp [bnd]
 have hb0 : ∀ d,bnd none d=some d:=fun _=>rfl
 unfold strv sls
 simp only [h1,hb,hb0]
 rw [if_pos ⟨hi,Nat.le_refl _⟩,h2]
theorem ZsE {k : Nat} {b : UInt8} (h : s[k]?=some b) : (s.take (k+1)).drop k=[b]:=by
 have hk:=(List.getElem?_eq_some_iff.1 h).1
 rw [List.take_succ_eq_append_getElem hk,(List.getElem?_eq_some_iff.1 h).2,List.drop_append_of_le_length (by rw [List.length_take];omega),List.drop_eq_nil_of_le (by rw [List.length_take];omega)]
 rfl
theorem Zh3 {i : Nat} {b : UInt8} (hi : s[i]?=some b) (hs : s.length≤1000000) : ∀ (t k : Nat) (cur : UInt8) (z1 : Value),26 - k=t→k≤26→
  Zh (c6 (Jw.l2 (R n))) [strv s,strv Zbd,z1,iv i,strv [cur],iv k] X=some (.ext 2 [strv s,strv Zbd,z1,iv i,strv [if (Zbd.drop k).contains b then YX b else cur]],X)
 | 0,k,cur,z1,ht,hk=>by
  have : k=26:=by omega
  subst this
  refine Z4 ?_
  rw [JH]
  unfold Jw.l2
  rw [Za Zq,Zb,if_neg (by decide)]
  rfl
 | t+1,k,cur,z1,ht,hk=>by
  have hkl : k < Zbd.length:=by show k < 26;omega
  have hlt : (k : Int) < 26:=by omega
  have hg:=List.getElem?_eq_getElem hkl
  have hd:=List.drop_eq_getElem_cons hkl
  generalize Zbd[k]=g at hg hd
  have x1:=Zbz hi .i64 X
  have x2:=Zbz hg .i64 X
  have hgf:=ZqU k (by omega) g hg
  rw [hd,List.contains_cons]
  by_cases hb : b=g
  ·subst hb
   have e3 : sls (strv Ze3) (some (iv k)) (some (iv ((k+1 : Nat) : Int))) X=some (strv [YX b],X):=by
    rw [Zsq (by omega) (by show k+1≤26;omega),ZsE hgf]
   have e3 : sls (.string ⟨#[97,98,99,100,101,102,103,104,105,106,107,108,109,110,111,112,113,114,115,116,117,118,119,120,121,122]⟩) (some (iv k)) (some (iv ((k+1 : Nat) : Int))) X=some (strv [YX b],X):=e3
   refine (ZI ?_).trans ((Zh3 hi hs t (k+1) (YX b) z1 (by omega) (by omega)).trans (by simp))
   rw [JH]
   unfold Jw.l2
   rw [Za Zq,Zb,if_pos (by simpa using hlt),Za x1,Za x2,Za Zy,Zf5]
   refine (ZY (vs:=[strv s,strv Zbd,z1,iv i,strv [YX b],iv k]) (H':=X) ?_).trans ?_
   ·rw [Zb,if_pos (by simp),Za ZA,QH (by omega),Za e3];rfl
   ·rw [JH,Za ZA,QH (by omega)];rfl
  ·have hbf : (b==g)=false:=beq_eq_false_iff_ne.2 hb
   rw [hbf,Bool.false_or]
   refine (ZI ?_).trans (Zh3 hi hs t (k+1) cur z1 (by omega) (by omega))
   rw [JH]
   unfold Jw.l2
   rw [Za Zq,Zb,if_pos (by simpa using hlt),Za x1,Za x2,Za Zy,Zf5,hbf]
   refine (ZY (vs:=[strv s,strv Zbd,z1,iv i,strv [cur],iv k]) (H':=X) ?_).trans ?_
   ·rw [Zb,if_neg (by simp)];rfl
   ·rw [JH,Za ZA,QH (by omega)];rfl
theorem Znb (hs : s.length≤1000000) : ∀ (t k : Nat),s.length - k=t→k≤s.length→
  Zh (c4 (Jw.l1 (R n))) [strv s,strv Zbd,strv ((s.take k).map YX),iv k] X=some (.ext 0 [strv (Qb s)],X)
 | 0,k,ht,hk=>by
  have : k=s.length:=by omega
  subst this
  rw [List.take_length]
  refine Z4 ?_
  rw [ZK]
  unfold Jw.l1
  rw [Za ZJ,Za Zq,Zb,if_neg (by simp)]
  rfl
 | t+1,k,ht,hk=>by
  have hkl : k < s.length:=by omega
  have hlt : (k : Int) < s.length:=by omega
  have hg:=List.getElem?_eq_getElem hkl
  have htk:=List.take_succ_eq_append_getElem hkl
  generalize s[k]=b at hg htk
  have e1 : sls (strv s) (some (iv k)) (some (iv ((k+1 : Nat) : Int))) X=some (strv [b],X):=by rw [Zsq (by omega) (by omega),ZsE hg]
  have e2:=Zh3 (n:=n) (X:=X) hg hs 26 0 b (strv ((s.take k).map YX)) rfl (by omega)
  rw [List.drop_zero,Ztp] at e2
  have e2 : Zh (c6 (Jw.l2 (R n))) [strv s,strv Zbd,strv ((s.take k).map YX),iv k,strv [b],.int .i64 0] X=_:=e2
  have e3:=JB (a:=(s.take k).map YX) (b:=[YX b]) (H:=X) (by simp;omega)
  refine (ZI ?_).trans (Znb hs t (k+1) (by omega) (by omega))
  rw [ZK]
  unfold Jw.l1
  rw [Za ZJ,Za Zq,Zb,if_pos (by simpa using hlt),Za ZA,QH (by omega),Za e1,QW e2,ZM,Qz,Za e3,Za ZA,QH (by omega),htk,List.map_append]
  rfl
theorem ZrI (hs : s.length≤1000000) : R (n+1) Zce [strv s] H=some (strv (Qb s),H):=by
 have e:=Znb (n:=n) (X:=H) hs s.length 0 (by omega) (by omega)
 have e : Zh (c4 (Jw.l1 (R n))) [strv s,.string ⟨#[65,66,67,68,69,70,71,72,73,74,75,76,77,78,79,80,81,82,83,84,85,86,87,88,89,90]⟩,.string ⟨#[]⟩,.int .i64 0] H=_:=e
 rw [R,ZnM rfl]
 unfold Jw
 rw [QW e,ZM]
 rfl
end
end Go.Proofs.YtnnehafmjfmbnaaGreatDoor.A
namespace Go.Proofs.YtnnehafmjfmbnaaGreatDoor.A
set_option linter.unusedVariables false
set_option linter.unusedSimpArgs false
open Go.Proofs Go.Proofs.YtnnehafmjfmbnaaGreatDoor
def Qj (c : UInt8) : List UInt8→List (List UInt8)
 | []=>[[]]
 | b :: l=>if b=c then [] :: Qj c l else match Qj c l with
  | h :: t=>(b :: h) :: t
  | []=>[[b]]
theorem Zd8 {c : UInt8} : ∀ {s : List UInt8},Qj c s≠[]
 | []=>by simp [Qj]
 | b :: s=>by
  unfold Qj
  split
  ·simp
  ·split <;> simp
theorem Zl0 {c : UInt8} : ∀ {s : List UInt8},c∉s→Qj c s=[s]
 | [],_=>rfl
 | b :: s,h=>by
  simp only [List.mem_cons,not_or] at h
  unfold Qj
  rw [if_neg (Ne.symm h.1),Zl0 h.2]
theorem ZiC {c : UInt8} : ∀ {s : List UInt8},c∈s→Qj c s=s.takeWhile (· !=c) :: Qj c (s.drop ((s.takeWhile (· !=c)).length+1))
 | [],h=>by cases h
 | b :: s,h=>by
  rw [show Qj c (b :: s)=(if b=c then [] :: Qj c s else match Qj c s with | h :: t=>(b :: h) :: t | []=>[[b]]) from rfl]
  by_cases hb : b=c
  ·subst hb
   rw [if_pos rfl]
   simp
  ·rw [if_neg hb]
   have hm : c∈s:=by
    rcases List.mem_cons.1 h with h | h
    ·exact absurd h.symm hb
    ·exact h
   rw [ZiC hm]
   have h2 : (b !=c)=true:=by simp [hb]
   simp [List.takeWhile_cons,h2]
theorem ZcY {c : UInt8} : ∀ {s : List UInt8},(Qj c s).length=s.count c+1
 | []=>rfl
 | b :: s=>by
  have ih:=ZcY (c:=c) (s:=s)
  unfold Qj
  by_cases hb : b=c
  ·subst hb
   rw [if_pos rfl,List.length_cons,ih,List.count_cons_self]
  ·rw [if_neg hb,List.count_cons_of_ne (by simpa using hb)]
   cases h : Qj c s with
   | nil=>exact absurd h Zd8
   | cons a t=>rw [h] at ih;simpa using ih
theorem Ztm {c : UInt8} : ∀ {s : List UInt8},c∈s→s.count c=(s.drop ((s.takeWhile (· !=c)).length+1)).count c+1:=by
 intro s h
 have h1:=ZcY (c:=c) (s:=s)
 rw [ZiC h,List.length_cons,ZcY] at h1
 omega
def ZfV (l : List UInt8) : Bool:=!(l==[]) && l.all K1
def Wk (f : List UInt8) : List UInt8:=if 64∈f then f.drop ((f.takeWhile (· !=64)).length+1) else []
def okM (f : List UInt8) : Bool:=decide (64∈f) && (Zr (f.takeWhile (· !=64)) && (decide (2≤(Qj 46 (Wk f)).length) && (Qj 46 (Wk f)).all ZfV))
def QB (s : List UInt8) : Bool:=decide (s.length≤20) && okM (Qb s)
def Za6 : List UInt8→Nat→Nat→Option (Nat × Nat)
 | [],st,lg=>some (st,lg)
 | c :: l,st,lg=>if c=46 then (if lg=0 then none else Za6 l (st+1) 0) else if K1 c then Za6 l st (lg+1) else none
def Ze0 (l : List UInt8) (st lg : Nat) : Bool:=match Za6 l st lg with
 | some (a,b)=>decide (a≠0) && decide (b≠0)
 | none=>false
def ZdI (lg : Nat) : List (List UInt8)→Bool
 | h :: t=>(h.all K1 && decide (lg+h.length≠0)) && t.all ZfV
 | []=>false
theorem ZmC : ∀ (l : List UInt8) (st lg : Nat),Ze0 l st lg=(decide (st+(Qj 46 l).length≠1) && ZdI lg (Qj 46 l))
 | [],st,lg=>by simp [Ze0,Za6,Qj,ZdI]
 | c :: l,st,lg=>by
  unfold Ze0 Za6 Qj
  by_cases hc : c=46
  ·rw [if_pos hc,if_pos hc]
   by_cases hl : lg=0
   ·simp [hl,ZdI]
   ·rw [if_neg hl]
    have ih:=ZmC l (st+1) 0
    unfold Ze0 at ih
    rw [ih]
    have hne:=Zd8 (c:=46) (s:=l)
    cases hsp : Qj 46 l with
    | nil=>exact absurd hsp hne
    | cons h t=>
     have h1 : decide (st+1+(h :: t).length≠1)=true:=by simp;omega
     have h2 : decide (st+([] :: h :: t).length≠1)=true:=by simp;omega
     rw [h1,h2]
     simp only [ZdI,List.all_nil,List.all_cons,ZfV,List.length_nil,Nat.zero_add,Nat.add_zero,Bool.true_and]
     have h3 : decide (lg≠0)=true:=by simp [hl]
     rw [h3,Bool.true_and]
     have h4 : (!(h==[]))=decide (h.length≠0):=by cases h <;> simp
     rw [h4,Bool.and_comm (h.all K1)]
  ·rw [if_neg hc,if_neg hc]
   cases hsp : Qj 46 l with
   | nil=>exact absurd hsp Zd8
   | cons h t=>
    cases ha : K1 c
    ·simp [ZdI,ha]
    ·have ih:=ZmC l st (lg+1)
     unfold Ze0 at ih
     simp only [if_true]
     rw [ih,hsp]
     have e : ∀ x : Nat,lg+1+x=lg+(x+1):=fun x=>by omega
     simp [ZdI,ha,e]
theorem Zts {l : List UInt8} : Ze0 l 0 0=(decide (2≤(Qj 46 l).length) && (Qj 46 l).all ZfV):=by
 rw [ZmC]
 cases hsp : Qj 46 l with
 | nil=>exact absurd hsp Zd8
 | cons h t=>
  have h1 : decide (0+(h :: t).length≠1)=decide (2≤(h :: t).length):=by
   rw [decide_eq_decide]
   have : (h :: t).length=t.length+1:=rfl
   omega
  rw [h1]
  have h4 : (!(h==[]))=decide (h.length≠0):=by cases h <;> simp
  simp only [ZdI,List.all_cons,ZfV,Nat.zero_add,h4]
  rw [Bool.and_comm (h.all K1)]
section
variable {H X : Zc} {n : Nat} {s : List UInt8} {c : UInt8}
theorem ZtT {args : List Value} : run Tryz.prog np lvs (n+1) J9 args=Zg9 args:=ZbQ (show np J9=some Zg9 from rfl)
theorem Zue {args : List Value} : run Tryz.prog np lvs (n+1) YF args=Zhk args:=ZbQ (show np YF=some Zhk from rfl)
theorem ZoE : R (n+3) QZ [strv s,strv [c]] H=some (iv (Go.Lib.indexByte s c),H):=by
 have e1 : run Tryz.prog np lvs (n+2) JE [strv s,u8v c] H=some (iv (Go.Lib.indexByte s c),H):=by
  have e0 : run Tryz.prog np lvs (n+1) J9 [strv s,u8v c] H=some (iv (Go.Lib.indexByte s c),H):=by rw [ZtT];exact Zvl
  rw [Zcw rfl]
  unfold Kq
  rw [Za e0]
  rfl
 have q0 : bop .int .eql (iv [c].length) (.int .i64 0) H=some (.bool false,H):=by rw [Zy];rfl
 have q1 : bop .int .eql (iv [c].length) (.int .i64 1) H=some (.bool true,H):=by rw [Zy];rfl
 have x1 : ixs (strv [c]) (.int .i64 0) H=some (u8v c,H):=Zbz (s:=[c]) (i:=0) rfl .i64 H
 rw [R,ZdM rfl]
 unfold Yb
 rw [Za ZJ,Za q0,Z3,Zl,Za Zc2,Qi,Z7,Za Zo]
 simp only [cond_false]
 by_cases h : s=[c]
 ·subst h
  rw [Zb,if_pos (by simp)]
  unfold Go.Lib.indexByte
  simp [ret]
 ·rw [Zb,if_neg (by simp;exact fun e=>h e.symm),Za q1,Zb,if_pos rfl,Za x1,Za e1]
  rfl
theorem ZsS : R (n+4) WB [strv s,strv [c]] H=some (iv (Go.Lib.indexByte s c),H):=by
 have e1 : run Tryz.prog np lvs (n+3) QZ [strv s,strv [c]] H=_:=ZoE
 rw [R,Zkk rfl]
 unfold ZdP
 rw [Za e1]
 rfl
theorem Zuv : R (n+2) ZaV [strv s,strv [c]] H=some (iv (s.count c),H):=by
 have e0 : run Tryz.prog np lvs (n+1) YF [strv s,u8v c] H=some (iv (s.count c),H):=by rw [Zue];exact Zvx
 have q0 : bop .int .eql (iv [c].length) (.int .i64 0) H=some (.bool false,H):=by rw [Zy];rfl
 have q1 : bop .int .eql (iv [c].length) (.int .i64 1) H=some (.bool true,H):=by rw [Zy];rfl
 have x1 : ixs (strv [c]) (.int .i64 0) H=some (u8v c,H):=Zbz (s:=[c]) (i:=0) rfl .i64 H
 rw [R,ZkB rfl]
 unfold ZaY
 rw [Za ZJ,Za q0,Zb,if_neg (by simp),Za ZJ,Za q1,Zb,if_pos rfl,Za x1,Za e0]
 rfl
theorem Zlx {s : List UInt8} {c : UInt8} (h : c∈s) : (s.takeWhile (· !=c)).length < s.length:=by
 rcases Nat.lt_or_ge (s.takeWhile (· !=c)).length s.length with h1 | h1
 ·exact h1
 ·have h2 : s.takeWhile (· !=c)=s:=by
   have:=List.takeWhile_prefix (p:=(· !=c)) (l:=s)
   exact this.eq_of_length (by have:=this.length_le;omega)
  have h3:=List.all_eq_true.1 (List.all_takeWhile (p:=(· !=c)) (l:=s)) c (by rw [h2];exact h)
  simp at h3
theorem Zma {s : List UInt8} {p : UInt8→Bool} : s.take (s.takeWhile p).length=s.takeWhile p:=
 (List.prefix_iff_eq_take.1 (List.takeWhile_prefix p)).symm
theorem ZvV (hs : s.length≤1000000) : R (n+5) WO [strv s,strv [c]] H=some (if c∈s then .tuple #[strv (s.takeWhile (· !=c)),strv (s.drop ((s.takeWhile (· !=c)).length+1)),.bool true] else .tuple #[strv s,strv [],.bool false],H):=by
 have e1 : run Tryz.prog np lvs (n+3) QZ [strv s,strv [c]] H=_:=ZoE
 have e2 : run Tryz.prog np lvs (n+4) Ks [strv s,strv [c]] H=some (if c∈s then .tuple #[strv (s.takeWhile (· !=c)),strv (s.drop ((s.takeWhile (· !=c)).length+1)),.bool true] else .tuple #[strv s,strv [],.bool false],H):=by
  rw [Zem rfl]
  unfold WT
  rw [Za e1,ZdK,Za Qc,Zb]
  by_cases h : c∈s
  ·have hl:=Zlx h
   have w : IntKind.i64.wrap (((s.takeWhile (· !=c)).length : Int)+(([c] : List UInt8).length : Nat))=(((s.takeWhile (· !=c)).length+1 : Nat) : Int):=QH (by omega)
   rw [if_pos h,if_pos (by simp),Za (Zrr (by omega)),Zma,Za ZJ,Za ZA,w,Za (ZtH (by omega)),if_pos h]
   rfl
  ·rw [if_neg h,if_neg (by decide),if_neg h]
   rfl
 rw [R,ZmU rfl]
 unfold Ze5
 rw [Za e2]
 by_cases h : c∈s
 ·rw [if_pos h];rfl
 ·rw [if_neg h];rfl
theorem ZoC {v : Value} {q : List Nat} {N : Nat} (hN : N≤1000001) : ∀ (t i : Nat) (s : List UInt8) (cs : List (List UInt8)) (X : Zc),N - 1 - i=t→i < N→s.length≤1000000→s.count c+1+i=N→cs.length=N→ZB X v (cs.map strv) q→
  ∃ (X' : Zc) (s' : List UInt8) (cs' : List (List UInt8)),Zh (c6 (J0.l1 (R (n+4)))) [strv s,strv [c],iv 0,iv ((N - 1 : Nat) : Int),v,iv i] X=some (.ext 0 [strv s',v,iv ((N - 1 : Nat) : Int)],X')∧ZB X' v (cs'.map strv) q∧cs'.length=N∧cs'.take (N - 1)++[s']=cs.take i++Qj c s∧ZG q X q X'
 | 0,i,s,cs,X,ht,hi,hs,hc,hl,hr=>by
  have hi2 : i=N - 1:=by omega
  subst hi2
  have hcs : c∉s:=by
   intro h
   have:=List.count_pos_iff.2 h
   omega
  refine ⟨X,s,cs,Z4 ?_,hr,hl,by rw [Zl0 hcs],.refl _ _⟩
  rw [JH]
  unfold J0.l1
  rw [Za Zq,Zb,if_neg (by simp)]
  rfl
 | t+1,i,s,cs,X,ht,hi,hs,hc,hl,hr=>by
  have hlt : (i : Int) < ((N - 1 : Nat) : Int):=by omega
  have hcs : c∈s:=List.count_pos_iff.1 (by omega)
  have htl:=Zlx hcs
  have hct:=Ztm hcs
  have e1 : R (n+4) WB [strv s,strv [c]] X=_:=ZsS
  rw [ZdK,if_pos hcs] at e1
  have w0 : IntKind.i64.wrap (((s.takeWhile (· !=c)).length : Int)+0)=((s.takeWhile (· !=c)).length : Int):=by rw [Int.add_zero];exact w64 (by omega) (by omega)
  have w : IntKind.i64.wrap (((s.takeWhile (· !=c)).length : Int)+(([c] : List UInt8).length : Nat))=(((s.takeWhile (· !=c)).length+1 : Nat) : Int):=QH (by omega)
  have x1:=hr.ix (i:=i) (by simp;omega) .i64 X
  obtain ⟨X1,x2,r1,s1,_⟩:=hr.stx (i:=i) (u:=strv (s.takeWhile (· !=c))) (by simp;omega) rfl
  rw [show (cs.map strv).set i (strv (s.takeWhile (· !=c)))=(cs.set i (s.takeWhile (· !=c))).map strv from by rw [List.map_set]] at r1
  obtain ⟨X',s',cs',e2,r2,l2,h2,s2⟩:=ZoC hN t (i+1) (s.drop ((s.takeWhile (· !=c)).length+1)) (cs.set i (s.takeWhile (· !=c))) X1 (by omega) (by omega) (by simp;omega) (by omega) (by simpa using hl) r1
  refine ⟨X',s',cs',(ZI ?_).trans e2,r2,l2,?_,s1.trans s2⟩
  ·have q1 : bop .int .lss (iv ((s.takeWhile (· !=c)).length : Nat)) (.int .i64 0) X=some (.bool false,X):=by rw [Zq,decide_eq_false (by omega)]
   rw [JH]
   unfold J0.l1
   rw [Za Zq,Zb,if_pos (by simpa using hlt),Za e1,Za q1,Zb,if_neg (by simp),Za ZA,w0,Za (Zrr (by omega)),Zma,Za x1,Za x2,Za ZJ,Za ZA,w,Za (ZtH (by omega)),Za ZA,QH (by omega)]
   rfl
  ·have h5 : i < (cs.set i (s.takeWhile (· !=c))).length:=by simp;omega
   rw [h2,ZiC hcs,List.take_succ_eq_append_getElem h5,List.take_set_of_le (Nat.le_refl _)]
   simp
theorem ZtR (hs : s.length≤1000000) : ∃ X' v q,R (n+6) ZaL [strv s,strv [c]] X=some (v,X')∧ZB X' v ((Qj c s).map strv) q∧HLe X X':=by
 have hcl : s.count c≤s.length:=List.count_le_length
 have e0 : run Tryz.prog np lvs (n+4) ZaV [strv s,strv [c]] X=_:=Zuv (n:=n+2)
 have w1 : IntKind.i64.wrap ((s.count c : Int)+1)=((s.count c+1 : Nat) : Int):=QH (by omega)
 have w2 : IntKind.i64.wrap ((s.length : Int)+1)=((s.length+1 : Nat) : Int):=QH (by omega)
 have q0 : bop .int .eql (.int .i64 (-1)) (.int .i64 0) X=some (.bool false,X):=by rw [Zy];rfl
 have q1 : bop .str .eql (strv [c]) (.string ⟨#[]⟩) X=some (.bool false,X):=Zc2 (b:=[])
 have q2 : bop .int .lss (.int .i64 (-1)) (.int .i64 0) X=some (.bool true,X):=by rw [Zq];rfl
 have hm : mxi false (iv ((s.count c+1 : Nat) : Int)) (iv ((s.length+1 : Nat) : Int)) X=some (iv ((s.count c+1 : Nat) : Int),X):=by rw [YA,if_neg (by omega)]
 have e1:=ZvQ (k:=s.count c+1) (b:=16) (z:=.string ⟨#[]⟩) (H:=X) rfl (by omega) (by omega)
 have k1 : HLe X (X++[.cells (List.replicate (s.count c+1) (Value.string ⟨#[]⟩)) 1 false false]):=.app _ _
 have r1 : ZB (X++[.cells (List.replicate (s.count c+1) (Value.string ⟨#[]⟩)) 1 false false]) (.slice (some ⟨X.length,0,none⟩) (s.count c+1) (s.count c+1)) ((List.replicate (s.count c+1) ([] : List UInt8)).map strv) [X.length]:=by
  rw [List.map_replicate]
  exact ZB.new ZF
 have ho : ∀ j∈[X.length],X.length≤j:=by simp
 generalize X++[Zf.cells (List.replicate (s.count c+1) (Value.string ⟨#[]⟩)) 1 false false]=X1 at e1 k1 r1
 generalize hv : Value.slice (some ⟨X.length,0,none⟩) (s.count c+1) (s.count c+1)=v at e1 r1
 have w3 : IntKind.i64.wrap (((s.count c+1 : Nat) : Int) - 1)=((s.count c+1 - 1 : Nat) : Int):=Zrg (by omega) (by omega)
 obtain ⟨X2,s',cs',e2,r2,l2,h2,s2⟩:=ZoC (n:=n) (c:=c) (N:=s.count c+1) (by omega) (s.count c+1 - 1 - 0) 0 s _ X1 rfl (by omega) hs (by omega) (by simp) r1
 have e2 : Zh (c6 (J0.l1 (R (n+4)))) [strv s,strv [c],.int .i64 0,iv ((s.count c+1 - 1 : Nat) : Int),v,.int .i64 0] X1=_:=e2
 have x1:=r2.ix (i:=s.count c+1 - 1) (by simp;omega) .i64 X2
 obtain ⟨X3,x2,r3,s3,_⟩:=r2.stx (i:=s.count c+1 - 1) (u:=strv s') (by simp;omega) rfl
 have hfin : (cs'.set (s.count c+1 - 1) s')=Qj c s:=by
  have h6 : s.count c+1 - 1 < cs'.length:=by omega
  rw [← List.take_append_drop (s.count c+1 - 1) (cs'.set (s.count c+1 - 1) s'),List.take_set_of_le (Nat.le_refl _),List.drop_set]
  rw [if_neg (by omega),Nat.sub_self]
  have hd : (cs'.drop (s.count c+1 - 1)).length=1:=by simp;omega
  obtain ⟨a,ha⟩:=List.length_eq_one_iff.1 hd
  rw [ha,List.set_cons_zero,h2]
  rfl
 rw [show (cs'.map strv).set (s.count c+1 - 1) (strv s')=(cs'.set (s.count c+1 - 1) s').map strv from by rw [List.map_set],hfin] at r3
 have hlen : ((Qj c s).map strv).length=s.count c+1:=by rw [List.length_map,ZcY]
 have x3 : ∃ v',slv 1 v none (some (iv ((s.count c+1 : Nat) : Int))) none X3=some (v',X3)∧ZB X3 v' ((Qj c s).map strv) [X.length]:=by
  rcases r3 with ⟨h,_,_⟩ | ⟨sid,rest,g,h1,h3,h4⟩
  ·rw [h] at hlen;simp at hlen
  ·rw [hlen] at h1
   refine ⟨.slice (some ⟨sid,0,none⟩) (s.count c+1) (s.count c+1+rest.length),?_,.inr ⟨sid,rest,g,by rw [hlen],h3,h4⟩⟩
   have b1 : bnd (some (iv ((s.count c+1 : Nat) : Int))) (s.count c+1)=some (s.count c+1):=by simp [bnd];omega
   have b2 : ∀ d,bnd none d=some d:=fun _=>rfl
   rw [h1]
   simp only [slv,h4,b1,b2]
   rw [if_pos ⟨trivial,by omega,by omega,Nat.le_refl _⟩,if_neg (by omega)]
   simp
 obtain ⟨v',x3,r4⟩:=x3
 have w4 : IntKind.i64.wrap (((s.count c+1 - 1 : Nat) : Int)+1)=((s.count c+1 : Nat) : Int):=by rw [QH (by omega)];congr 1
 have e3 : run Tryz.prog np lvs (n+5) ZaI [strv s,strv [c],.int .i64 0,.int .i64 (-1)] X=some (v',X3):=by
  rw [Zhy rfl]
  unfold J0
  rw [Za q0,Zb,if_neg (by simp),Za q1,Zb,if_neg (by simp),Za q2]
  refine (ZY (vs:=[strv s,strv [c],.int .i64 0,iv ((s.count c+1 : Nat) : Int)]) (H':=X) ?_).trans ?_
  ·rw [Zb,if_pos rfl,Za e0,Za ZA,w1];rfl
  ·rw [ZK,Za ZJ,Za ZA,w2,Za hm,Za e1,Za Jc,w3]
   refine (ZY (vs:=[strv s',v,iv ((s.count c+1 - 1 : Nat) : Int)]) (H':=X2) ?_).trans ?_
   ·rw [QW e2,ZM,Z7];rfl
   ·rw [Z7,Za x1,Za x2,Za ZA,w4,Za x3];rfl
 refine ⟨X3,v',[X.length],?_,r4,(k1.more (s2.trans s3) ho).1⟩
 rw [R,Zj5 rfl]
 unfold ZdG
 rw [Za e3]
 rfl
end
end Go.Proofs.YtnnehafmjfmbnaaGreatDoor.A
namespace Go.Proofs.YtnnehafmjfmbnaaGreatDoor.A
set_option linter.unusedVariables false
set_option linter.unusedSimpArgs false
open Go.Proofs Go.Proofs.YtnnehafmjfmbnaaGreatDoor
section
variable {H X : Zc} {n : Nat} {s f : List UInt8} {c : UInt8}
theorem ZuE {b : UInt8} : R (n+2) Zcd [u8v b] H=some (.bool (K1 b),H):=by
 have e1 : run Tryz.prog np lvs (n+1) YE [u8v b] H=some (.bool (KA b),H):=ZgU
 have e2 : run Tryz.prog np lvs (n+1) YU [u8v b] H=some (.bool (ZbX b),H):=Zi9
 rw [R,ZnI rfl]
 unfold K1 ZfQ
 rw [Za e1]
 cases KA b
 ·rw [Z3,Zl,Za e2,Qi,Qy,Za Zo]
  rfl
 ·rw [Za (g_r.trans (if_neg (by simp)))]
  simp only [List.replicate]
  rw [Qy,Za Zo]
  rfl
theorem Zrv (hs : s.length≤1000000000) : R (n+3) KB [strv s,.func (.func Zcd) #[] #[]] H=some (.bool (s.all K1),H):=
 ZqX (fun b H=>by rw [Zpe];exact ZuE) hs
theorem ZrC {v : Value} {q : List Nat} {ls : List (List UInt8)} (hl : ls.length≤1000) (hb : ∀ l∈ls,l.length≤1000000) (hr : ZB X v (ls.map strv) q) : ∀ (t k : Nat),ls.length - k=t→k≤ls.length→
  Zh (c4 (YZ.l1 (R (n+3)))) [strv f,v,iv ls.length,iv k] X=some (if (ls.drop k).all ZfV then .ext 0 [strv f] else .ret (.tuple #[strv [],iv 11]),X)
 | 0,k,ht,hk=>by
  have : k=ls.length:=by omega
  subst this
  rw [List.drop_length]
  refine Z4 ?_
  rw [ZK]
  unfold YZ.l1
  rw [Za Zq,Zb,if_neg (by simp)]
  rfl
 | t+1,k,ht,hk=>by
  have hkl : k < ls.length:=by omega
  have hlt : (k : Int) < ls.length:=by omega
  have hg:=List.getElem?_eq_getElem hkl
  have hm:=List.getElem_mem hkl
  have hd:=List.drop_eq_getElem_cons hkl
  generalize ls[k]=l at hg hd hm
  have x1:=hr.ix (i:=k) (by simpa using hkl) .i64 X
  have x2:=hr.ldx (KI hg)
  have e1 : R (n+3) KB [strv l,.func (.func Zcd) #[] #[]] X=some (.bool (l.all K1),X):=Zrv (Nat.le_trans (hb l hm) (by decide))
  have ih:=ZrC hl hb hr t (k+1) (by omega) (by omega)
  have q1 : bop .str .eql (strv l) (.string ⟨#[]⟩) X=some (.bool (l==[]),X):=Zc2 (b:=[])
  have hb1 : c4 (YZ.l1 (R (n+3))) [strv f,v,iv ls.length,iv k] X=some (if ZfV l then .nrm [strv f,v,iv ls.length,iv ((k+1 : Nat) : Int)] else .ret (.tuple #[strv [],iv 11]),X):=by
   rw [ZK]
   unfold YZ.l1 ZfV
   rw [Za Zq,Zb,if_pos (by simpa using hlt),Za x1,Za x2,Za q1]
   cases l==[]
   ·rw [Z3,Zl,Za e1,Zl,Za Zx,Qi,Z7,Za Zo]
    simp only [cond_false]
    cases l.all K1
    ·rw [Zb,if_pos (by rfl)];rfl
    ·rw [Zb,if_neg (by simp),Za ZA,QH (by omega)];rfl
   ·rw [Za (g_r.trans (if_neg (by simp)))]
    simp only [List.replicate]
    rw [Z7,Za Zo]
    simp only [cond_true]
    rw [Zb,if_pos rfl]
    rfl
  rw [hd,List.all_cons]
  cases hlb : ZfV l
  ·rw [hlb] at hb1
   exact Yy hb1
  ·rw [hlb] at hb1
   rw [Bool.true_and]
   exact (ZI hb1).trans ih
theorem ZdU {c : UInt8} : ∀ {s : List UInt8},∀ l∈Qj c s,l.length≤s.length
 | [],l,h=>by simp [Qj] at h;simp [h]
 | b :: s,l,h=>by
  rw [show Qj c (b :: s)=(if b=c then [] :: Qj c s else match Qj c s with | h :: t=>(b :: h) :: t | []=>[[b]]) from rfl] at h
  split at h
  ·rcases List.mem_cons.1 h with rfl | h
   ·simp
   ·have:=ZdU l h
    simp;omega
  ·cases hsp : Qj c s with
   | nil=>exact absurd hsp Zd8
   | cons a t=>
    rw [hsp] at h
    rcases List.mem_cons.1 h with rfl | h
    ·have:=ZdU (c:=c) (s:=s) a (by rw [hsp];simp)
     simpa using this
    ·have:=ZdU (c:=c) (s:=s) l (by rw [hsp];simp [h])
     simp;omega
theorem ZiJ : (Qb s).length=s.length:=by simp [Qb]
theorem Zos : ∃ X',R (n+8) Zam [strv s] X=some (.tuple #[strv (if QB s then Qb s else []),iv (if QB s then 0 else 11)],X')∧HLe X X':=by
 have f1 : ∀ r X',YZ (R (n+7)) (strv s) X=some (r,X')→R (n+8) Zam [strv s] X=some (r,X'):=fun r X' hr=>by rw [R,Zoc rfl];exact hr
 unfold QB
 by_cases h20 : s.length≤20
 ·have q1 : bop .int .gtr (iv s.length) (.int .i64 20) X=some (.bool false,X):=by rw [QC,decide_eq_false (by omega)]
  obtain ⟨X1,e1,k1⟩:=Zu6 (n:=n+6) (s:=s) (H:=X) (by omega)
  have e1 : R (n+7) Zdv [strv s] X=_:=e1
  have hfl : (Qb s).length≤20:=by rw [ZiJ];exact h20
  generalize Qb s=f at e1 hfl
  have e2 : R (n+7) WO [strv f,strv [64]] X1=_:=ZvV (n:=n+2) (c:=64) (by omega)
  obtain ⟨loc,e2'⟩ : ∃ loc : List UInt8,R (n+7) WO [strv f,strv [64]] X1=some (.tuple #[strv loc,strv (Wk f),.bool (decide (64∈f))],X1)∧(64∈f→loc=f.takeWhile (· !=64)):=by
   unfold Wk
   by_cases h : 64∈f
   ·rw [if_pos h] at e2
    exact ⟨_,by rw [e2,if_pos h,decide_eq_true h],fun _=>rfl⟩
   ·rw [if_neg h] at e2
    exact ⟨_,by rw [e2,if_neg h,decide_eq_false h],fun h2=>absurd h2 h⟩
  obtain ⟨e2',hloc⟩:=e2'
  have hdl : (Wk f).length≤20:=by unfold Wk;split <;> simp;omega
  obtain ⟨X2,v,q,e3,r3,k3⟩:=ZtR (n:=n+1) (c:=46) (s:=Wk f) (X:=X1) (by omega)
  have e3 : R (n+7) ZaL [strv (Wk f),.string ⟨#[46]⟩] X1=_:=e3
  have e2'' : R (n+7) WO [strv f,.string ⟨#[64]⟩] X1=_:=e2'
  have hcl : (Wk f).count 46≤(Wk f).length:=List.count_le_length
  have hsl:=ZcY (c:=46) (s:=Wk f)
  have hl : Zz v X2=some (iv (Qj 46 (Wk f)).length,X2):=by have:=r3.rd.len (H':=X2);rwa [List.length_map] at this
  have e4 : R (n+7) WN [strv loc] X2=some (.bool (Zr loc),X2):=Zng (n:=n+3)
  have e5:=ZrC (n:=n+4) (f:=f) (ls:=Qj 46 (Wk f)) (by omega) (fun l h=>Nat.le_trans (ZdU l h) (by omega)) r3 (Qj 46 (Wk f)).length 0 (by omega) (by omega)
  rw [List.drop_zero] at e5
  have e5 : Zh (c4 (YZ.l1 (R (n+7)))) [strv f,v,iv (Qj 46 (Wk f)).length,.int .i64 0] X2=_:=e5
  refine ⟨X2,f1 _ _ ?_,k1.trans k3⟩
  unfold YZ
  rw [Za ZJ,Za q1,Zb,if_neg (by simp),Za e1,Za e2'']
  have t0 : Zj (.tuple #[strv loc,strv (Wk f),.bool (decide (64∈f))]) 0 X1=some (strv loc,X1):=rfl
  have t1 : Zj (.tuple #[strv loc,strv (Wk f),.bool (decide (64∈f))]) 1 X1=some (strv (Wk f),X1):=rfl
  have t2 : Zj (.tuple #[strv loc,strv (Wk f),.bool (decide (64∈f))]) 2 X1=some (.bool (decide (64∈f)),X1):=rfl
  rw [Za t0,Za t1,Za t2,Za e3,Za Zx]
  unfold okM
  rw [decide_eq_true h20]
  by_cases h : 64∈f
  ·rw [decide_eq_true h,← hloc h]
   simp only [Bool.not_true,Bool.true_and]
   rw [Z3,Zl,Za e4,Zl,Za Zx,Qi,Z7,Za Zo]
   simp only [cond_false]
   cases Zr loc
   ·simp only [Bool.not_false,Bool.false_and]
    rw [Za (g_r.trans (if_neg (by simp)))]
    simp only [List.replicate]
    rw [Z7,Za Zo]
    simp only [cond_true]
    rw [Zb,if_pos rfl]
    rfl
   ·simp only [Bool.not_true,Bool.true_and]
    rw [Z3,Zl,Za hl,Zl,Za Zq,Qi,Z7,Za Zo]
    simp only [cond_false]
    by_cases h2 : 2≤(Qj 46 (Wk f)).length
    ·rw [decide_eq_false (by omega),Zb,if_neg (by simp),Za hl,decide_eq_true h2,Bool.true_and]
     cases ha : (Qj 46 (Wk f)).all ZfV
     ·rw [ha] at e5
      rw [KF e5]
      rfl
     ·rw [ha] at e5
      rw [QW e5,ZM]
      rfl
    ·rw [decide_eq_true (by omega),Zb,if_pos rfl,decide_eq_false h2]
     rfl
  ·rw [decide_eq_false h]
   simp only [Bool.not_false,Bool.false_and,Bool.and_false]
   rw [Za (g_r.trans (if_neg (by simp)))]
   simp only [List.replicate]
   rw [Z7,Za Zo]
   simp only [cond_true]
   rw [Za (g_r.trans (if_neg (by simp)))]
   simp only [List.replicate]
   rw [Z7,Za Zo]
   simp only [cond_true]
   rw [Zb,if_pos rfl]
   rfl
 ·have q1 : bop .int .gtr (iv s.length) (.int .i64 20) X=some (.bool true,X):=by rw [QC,decide_eq_true (by omega)]
  refine ⟨X,f1 _ _ ?_,.refl _⟩
  unfold YZ
  rw [Za ZJ,Za q1,Zb,if_pos rfl,decide_eq_false h20]
  rfl
theorem ZvX {i : Nat} (hi : i < (f.takeWhile (· !=c)).length) : ∃ x,f[i]?=some x∧x≠c:=by
 have h1 : (f.takeWhile (· !=c))[i]?=f[i]?:=by
  conv=>rhs;rw [← List.takeWhile_append_dropWhile (p:=(· !=c)) (l:=f)]
  rw [List.getElem?_append_left hi]
 have h2:=List.getElem?_eq_getElem hi
 have hm:=List.getElem_mem hi
 generalize (f.takeWhile (· !=c))[i]=x at h2 hm
 refine ⟨x,by rw [← h1,h2],?_⟩
 have:=List.all_eq_true.1 (List.all_takeWhile (p:=(· !=c)) (l:=f)) x hm
 simpa using this
theorem ZrB : ∀ {f : List UInt8},c∈f→f[(f.takeWhile (· !=c)).length]?=some c
 | [],h=>by cases h
 | b :: f,h=>by
  by_cases hb : b=c
  ·subst hb;simp
  ·have hm : c∈f:=by
    rcases List.mem_cons.1 h with h | h
    ·exact absurd h.symm hb
    ·exact h
   have ih:=ZrB hm
   have h2 : (b !=c)=true:=by simp [hb]
   rw [List.takeWhile_cons,h2]
   simpa using ih
theorem Zpz : ∀ {f : List UInt8},c∉f→(f.takeWhile (· !=c)).length=f.length
 | [],_=>rfl
 | b :: f,h=>by
  simp only [List.mem_cons,not_or] at h
  have h2 : (b !=c)=true:=by simp [Ne.symm h.1]
  rw [List.takeWhile_cons,h2]
  simpa using Zpz h.2
theorem ZtN (hf : f.length≤1000000) : ∀ (t k : Nat),(f.takeWhile (· !=64)).length - k=t→k≤(f.takeWhile (· !=64)).length→
  Zh (c2 (QM.l1 (R n))) [strv f,iv k] X=some (.ext 0 [strv f,iv (f.takeWhile (· !=64)).length],X)
 | 0,k,ht,hk=>by
  have : k=(f.takeWhile (· !=64)).length:=by omega
  subst this
  refine Z4 ?_
  rw [Qy]
  unfold QM.l1
  rw [Za ZJ,Za Zq]
  by_cases h : 64∈f
  ·have hl:=Zlx h
   have x1:=Zbz (ZrB h) .i64 X
   have q1 : bop .int .neq (u8v 64) (.int .u8 64) X=some (.bool false,X):=by rw [Zt];rfl
   rw [decide_eq_true (by omega),Z3,Zl,Za x1,Zl,Za q1,Qi,ZK,Za Zo]
   simp only [cond_true]
   rw [Zb,if_neg (by simp)]
   rfl
  ·have hl:=Zpz h
   rw [decide_eq_false (by omega),Za (g_r.trans (if_neg (by simp)))]
   simp only [List.replicate]
   rw [ZK,Za Zo]
   simp only [cond_false]
   rw [Zb,if_neg (by simp)]
   rfl
 | t+1,k,ht,hk=>by
  have hkt : k < (f.takeWhile (· !=64)).length:=by omega
  have hle : (f.takeWhile (· !=64)).length≤f.length:=(List.takeWhile_prefix _).length_le
  obtain ⟨x,hx,hne⟩:=ZvX hkt
  have x1:=Zbz hx .i64 X
  have q1 : bop .int .neq (u8v x) (.int .u8 64) X=some (.bool true,X):=by
   have:=Zf5 (a:=x) (b:=64)
   have h2 : (x==64)=false:=beq_eq_false_iff_ne.2 hne
   rw [h2] at this
   rw [Zt]
   have h3 : ((x.toNat : Int)==64)=false:=this
   simp only [bne,h3];rfl
  refine (ZI ?_).trans (ZtN hf t (k+1) (by omega) (by omega))
  rw [Qy]
  unfold QM.l1
  rw [Za ZJ,Za Zq,decide_eq_true (by omega),Z3,Zl,Za x1,Zl,Za q1,Qi,ZK,Za Zo]
  simp only [cond_true]
  rw [Zb,if_pos rfl,Za ZA,QH (by omega)]
  rfl
theorem Zmp (hf : f.length≤1000000) : ∀ (t k st lg : Nat),f.length - k=t→k≤f.length→st≤k→lg≤k→
  Zh (c4 (QM.l2 (R (n+1)))) [strv f,iv st,iv lg,iv k] X=some (match Za6 (f.drop k) st lg with | some (a,b)=>.ext 2 [strv f,iv a,iv b] | none=>.ret (.tuple #[strv [],.bool false]),X)
 | 0,k,st,lg,ht,hk,h1,h2=>by
  have : k=f.length:=by omega
  subst this
  rw [List.drop_length]
  refine Z4 ?_
  rw [ZK]
  unfold QM.l2
  rw [Za ZJ,Za Zq,Zb,if_neg (by simp)]
  rfl
 | t+1,k,st,lg,ht,hk,h1,h2=>by
  have hkl : k < f.length:=by omega
  have hlt : (k : Int) < f.length:=by omega
  have hg:=List.getElem?_eq_getElem hkl
  have hd:=List.drop_eq_getElem_cons hkl
  generalize f[k]=x at hg hd
  have x1:=Zbz hg .i64 X
  have q1 : bop .int .eql (u8v x) (.int .u8 46) X=some (.bool (x==46),X):=by
   rw [Zy]
   congr 2
   exact congrArg Value.bool (Zf5 (a:=x) (b:=46))
  have e1 : R (n+1) Ww [u8v x,.string ⟨#[97,98,99,100,101,102,103,104,105,106,107,108,109,110,111,112,113,114,115,116,117,118,119,120,121,122,48,49,50,51,52,53,54,55,56,57]⟩] X=some (.bool (K1 x),X):=by
   rw [← Zph]
   exact ZqY (t:=Zpp) (by decide)
  rw [hd]
  by_cases hx : x=46
  ·subst hx
   by_cases hl : lg=0
   ·subst hl
    refine (Yy (v:=.tuple #[strv [],.bool false]) (H':=X) ?_).trans (by simp [Za6])
    rw [ZK]
    unfold QM.l2
    rw [Za ZJ,Za Zq,Zb,if_pos (by simpa using hlt),Za x1,Za q1]
    refine (KF (v:=.tuple #[strv [],.bool false]) (H':=X) ?_).trans rfl
    rw [Zb,if_pos (by simp),Za Zy,Zb,if_pos (by rfl)]
    rfl
   ·have hs : Za6 (46 :: f.drop (k+1)) st lg=Za6 (f.drop (k+1)) (st+1) 0:=by simp [Za6,hl]
    rw [hs]
    refine (ZI ?_).trans (Zmp hf t (k+1) (st+1) 0 (by omega) (by omega) (by omega) (by omega))
    rw [ZK]
    unfold QM.l2
    rw [Za ZJ,Za Zq,Zb,if_pos (by simpa using hlt),Za x1,Za q1]
    refine (ZY (vs:=[strv f,iv ((st+1 : Nat) : Int),iv (0 : Nat),iv k]) (H':=X) ?_).trans ?_
    ·rw [Zb,if_pos (by simp),Za Zy,Zb,if_neg (by simp;omega),Za ZA,QH (by omega)];rfl
    ·rw [ZK,Za ZA,QH (by omega)];rfl
  ·have hxf : (x==46)=false:=beq_eq_false_iff_ne.2 hx
   rw [hxf] at q1
   cases ha : K1 x
   ·rw [ha] at e1
    refine (Yy (v:=.tuple #[strv [],.bool false]) (H':=X) ?_).trans (by simp [Za6,hx,ha])
    rw [ZK]
    unfold QM.l2
    rw [Za ZJ,Za Zq,Zb,if_pos (by simpa using hlt),Za x1,Za q1]
    refine (KF (v:=.tuple #[strv [],.bool false]) (H':=X) ?_).trans rfl
    rw [Zb,if_neg (by simp),Za x1,Za e1,Za Zx,Zb,if_pos (by rfl)]
    rfl
   ·rw [ha] at e1
    have hs : Za6 (x :: f.drop (k+1)) st lg=Za6 (f.drop (k+1)) st (lg+1):=by simp [Za6,hx,ha]
    rw [hs]
    refine (ZI ?_).trans (Zmp hf t (k+1) st (lg+1) (by omega) (by omega) (by omega) (by omega))
    rw [ZK]
    unfold QM.l2
    rw [Za ZJ,Za Zq,Zb,if_pos (by simpa using hlt),Za x1,Za q1]
    refine (ZY (vs:=[strv f,iv st,iv ((lg+1 : Nat) : Int),iv k]) (H':=X) ?_).trans ?_
    ·rw [Zb,if_neg (by simp),Za x1,Za e1,Za Zx,Zb,if_neg (by simp),Za ZA,QH (by omega)];rfl
    ·rw [ZK,Za ZA,QH (by omega)];rfl
theorem ZrQ : R (n+4) Wy [strv s] X=some (.tuple #[strv (if QB s then Qb s else []),.bool (QB s)],X):=by
 have f1 : ∀ r,QM (R (n+3)) (strv s) X=r→R (n+4) Wy [strv s] X=r:=fun r hr=>by rw [R,ZnG rfl];exact hr
 refine f1 _ ?_
 unfold QB QM
 by_cases h20 : s.length≤20
 ·have q1 : bop .int .gtr (iv s.length) (.int .i64 20) X=some (.bool false,X):=by rw [QC,decide_eq_false (by omega)]
  have e1 : R (n+3) Zce [strv s] X=some (strv (Qb s),X):=ZrI (n:=n+2) (by omega)
  have hfl : (Qb s).length≤20:=by rw [ZiJ];exact h20
  generalize Qb s=f at e1 hfl
  have e2:=ZtN (n:=n+3) (X:=X) (f:=f) (by omega) (f.takeWhile (· !=64)).length 0 (by omega) (by omega)
  have e2 : Zh (c2 (QM.l1 (R (n+3)))) [strv f,.int .i64 0] X=_:=e2
  have hle : (f.takeWhile (· !=64)).length≤f.length:=(List.takeWhile_prefix _).length_le
  rw [Za ZJ,Za q1,Zb,if_neg (by simp),Za e1,QW e2,ZM,Qy,Za ZJ,Za Zy,decide_eq_true h20]
  unfold okM
  by_cases h : 64∈f
  ·have hl:=Zlx h
   have hne : (((f.takeWhile (· !=64)).length : Int)==(f.length : Int))=false:=by rw [beq_eq_false_iff_ne];omega
   have e3 : R (n+3) Qm [strv (f.takeWhile (· !=64))] X=some (.bool (Zr (f.takeWhile (· !=64))),X):=Zbb
   rw [hne,Z3,Zl,Za (Zrr (by omega)),Zma,Zl,Za e3,Zl,Za Zx,Qi,Qz,Za Zo,decide_eq_true h]
   simp only [cond_false,Bool.true_and]
   cases Zr (f.takeWhile (· !=64))
   ·rw [Zb,if_pos (by rfl)];rfl
   ·have hdm : Wk f=f.drop ((f.takeWhile (· !=64)).length+1):=by unfold Wk;rw [if_pos h]
    have e4:=Zmp (n:=n+2) (X:=X) (f:=f) (by omega) (f.length - ((f.takeWhile (· !=64)).length+1)) ((f.takeWhile (· !=64)).length+1) 0 0 rfl (by omega) (by omega) (by omega)
    have e4 : Zh (c4 (QM.l2 (R (n+3)))) [strv f,.int .i64 0,.int .i64 0,iv (((f.takeWhile (· !=64)).length+1 : Nat) : Int)] X=_:=e4
    rw [← hdm] at e4
    rw [Zb,if_neg (by simp),Za ZA,QH (by omega),Bool.true_and,← Zts]
    unfold Ze0
    cases hsc : Za6 (Wk f) 0 0 with
    | none=>
     rw [hsc] at e4
     rw [KF e4]
     rfl
    | some p=>
     obtain ⟨a,b⟩:=p
     rw [hsc] at e4
     rw [QW e4,ZM,Z7,Za Zy]
     by_cases ha : a=0
     ·subst ha
      have q2 : (((0 : Nat) : Int)==0)=true:=rfl
      rw [q2,Za (g_r.trans (if_neg (by simp)))]
      simp only [List.replicate]
      rw [Qy,Za Zo]
      simp only [cond_true]
      rw [Zb,if_pos rfl]
      rfl
     ·have q2 : (((a : Nat) : Int)==0)=false:=by rw [beq_eq_false_iff_ne];omega
      rw [q2,Z3,Zl,Za Zy,Qi,Qy,Za Zo]
      simp only [cond_false]
      by_cases hb : b=0
      ·subst hb
       rw [Zb,if_pos (by rfl)]
       simp [ret]
       rfl
      ·have q3 : (((b : Nat) : Int)==0)=false:=by rw [beq_eq_false_iff_ne];omega
       rw [q3,Zb,if_neg (by simp)]
       simp [ret,ha,hb]
  ·have hl:=Zpz h
   have hne : (((f.takeWhile (· !=64)).length : Int)==(f.length : Int))=true:=by rw [hl];simp
   rw [hne,Za (g_r.trans (if_neg (by simp))),decide_eq_false h]
   simp only [List.replicate]
   rw [Qz,Za Zo]
   simp only [cond_true]
   rw [Zb,if_pos rfl]
   rfl
 ·have q1 : bop .int .gtr (iv s.length) (.int .i64 20) X=some (.bool true,X):=by rw [QC,decide_eq_true (by omega)]
  rw [Za ZJ,Za q1,Zb,if_pos rfl,decide_eq_false h20]
  rfl
end
end Go.Proofs.YtnnehafmjfmbnaaGreatDoor.A

namespace Go.Proofs.YtnnehafmjfmbnaaGreatDoor.A
set_option linter.unusedVariables false
set_option linter.unusedSimpArgs false
structure K6 {α : Type} (enc : α→Value) (H : Zc) (id : Nat) (m : List (List UInt8 × α)) : Prop where
 ex : ∃ es clk,es.map kv=m.map (fun p=>(strv p.1,enc p.2))∧H[id]?=some (.map es clk)∧Zbj es clk
 nod : (m.map (·.1)).Nodup
section
variable {α : Type} {enc : α→Value} {H H' : Zc} {id : Nat} {m : List (List UInt8 × α)} {k : List UInt8} {v : α} {z : Value}
theorem K6.g (h : K6 enc H id m) : JK enc H id m:=by
 obtain ⟨es,clk,h1,h2,h3⟩:=h.ex
 exact ⟨⟨es,h1,.inl ⟨clk,h2,h3⟩⟩,h.nod⟩
theorem K6.lt (h : K6 enc H id m) : id < H.length:=h.g.lt
theorem K6.keep (h : K6 enc H id m) (hk : H'[id]?=H[id]?) : K6 enc H' id m:=by
 obtain ⟨es,clk,h1,h2,h3⟩:=h.ex
 exact ⟨⟨es,clk,h1,by rw [hk];exact h2,h3⟩,h.nod⟩
theorem K6.hle (h : K6 enc H id m) (hl : HLe H H') : K6 enc H' id m:=h.keep (hl.step.keep id h.lt (by simp))
theorem K6.step {o1 o2 : List Nat} (h : K6 enc H id m) (hs : ZG o1 H o2 H') (hn : id∉o1) : K6 enc H' id m:=h.keep (hs.keep id h.lt hn)
theorem ZtK (H : Zc) : ∃ H',mkm H=some (.map (some H.length),H')∧K6 enc H' H.length ([] : List (List UInt8 × α))∧HLe H H'∧H'.length=H.length+1:=
 ⟨_,rfl,⟨⟨[],0,rfl,ZF,⟨by simp,by simp⟩⟩,by simp⟩,.app _ _,by simp⟩
theorem K6.clone (h : K6 enc H id m) : ∃ H',ZaM [.map (some id)] H=some (.map (some H.length),H')∧K6 enc H' H.length m∧HLe H H'∧H'.length=H.length+1:=by
 obtain ⟨es,clk,h1,h2,h3⟩:=h.ex
 exact ⟨_,by unfold ZaM;simp only [h2],⟨⟨es,clk,h1,ZF,h3⟩,h.nod⟩,.app _ _,by simp⟩
theorem K6.mde (h : K6 enc H id m) : ∃ H',A.mde .str (.map (some id)) (strv k) H=some (.tuple #[],H')∧K6 enc H' id (JV k m)∧ZG [id] H [id] H'∧H'.length=H.length:=by
 obtain ⟨es,clk,h1,h2,hs⟩:=h.ex
 have hst : ∀ o,ZG [id] H [id] (H.set id o):=fun o=>⟨by simp,fun j hj hn=>List.getElem?_set_ne (fun e=>hn (by simp [e])),fun j hj=>.inl hj⟩
 have hnod:=ZlZ (k:=k) h.nod
 rcases ZeX (k:=k) 0 h1 with ⟨h3,h4⟩ | ⟨j,v0,h3,h4,h5⟩
 ·refine ⟨H,?_,by rw [ZmY h3];exact h,.refl _ _,rfl⟩
  unfold A.mde
  simp only [h2,Wz,cond_true,h4]
 ·have ha : JV k m=m.eraseIdx j:=(Zdf h.nod h3).symm
  rw [ha] at hnod ⊢
  rw [Nat.zero_add] at h5
  have hm : (es.eraseIdx j).map kv=(m.eraseIdx j).map fun p=>(strv p.1,enc p.2):=by
   have hg : ∀ {β γ : Type} (f : β→γ) (l : List β) (j : Nat),(l.eraseIdx j).map f=(l.map f).eraseIdx j:=fun f l j=>by
    rw [List.eraseIdx_eq_take_drop_succ,List.eraseIdx_eq_take_drop_succ,List.map_append,List.map_take,List.map_drop]
   rw [hg,hg,h1]
  refine ⟨H.set id (.map (es.eraseIdx j) clk),?_,⟨⟨_,clk,hm,ZR h2,⟨fun e he=>hs.lt e ((List.eraseIdx_sublist es j).subset he),((List.eraseIdx_sublist es j).map _).nodup hs.nod⟩⟩,hnod⟩,hst _,by simp⟩
  unfold A.mde;simp only [h2,Wz,cond_true,h5]
theorem Zhp {es : List (Value × Value × Nat)} {j : Nat} {e : Value × Value × Nat} (hn : (es.map (·.2.2)).Nodup) (hj : es[j]?=some e) : es.findIdx? (fun x=>(x.2.2 : Int)==(e.2.2 : Nat))=some j:=by
 rw [List.findIdx?_eq_some_iff_getElem]
 have hlt:=(List.getElem?_eq_some_iff.1 hj).1
 have he:=(List.getElem?_eq_some_iff.1 hj).2
 refine ⟨hlt,by rw [he];simp,fun i hi=>?_⟩
 have hil : i < es.length:=by omega
 simp only [Bool.not_eq_true,beq_eq_false_iff_ne,ne_eq]
 intro h
 have h2 : es[i].2.2=e.2.2:=by omega
 have hp:=List.pairwise_iff_getElem.1 (List.nodup_iff_pairwise_ne.1 hn) i j (by simpa using hil) (by simpa using hlt) hi
 rw [List.getElem_map,List.getElem_map,he] at hp
 exact hp h2
theorem K6.put (h : K6 enc H id m) : ∃ t st H1 H2,men .str z (.map (some id)) (strv k) H=some (t,H1)∧Zj t 1 H1=some (st,H1)∧ens (.map (some id)) st (enc v) H1=some (undef,H2)∧K6 enc H2 id (Qw k v m)∧ZG [id] H [id] H1∧ZG [id] H [id] H2∧H2.length=H.length:=by
 obtain ⟨es,clk,h1,h2,hs⟩:=h.ex
 have hst : ∀ o,ZG [id] H [id] (H.set id o):=fun o=>⟨by simp,fun j hj hn=>List.getElem?_set_ne (fun e=>hn (by simp [e])),fun j hj=>.inl hj⟩
 have hst2 : ∀ o o',ZG [id] H [id] ((H.set id o).set id o'):=fun o o'=>⟨by simp,fun j hj hn=>by rw [List.getElem?_set_ne (fun e=>hn (by simp [e])),List.getElem?_set_ne (fun e=>hn (by simp [e]))],fun j hj=>.inl hj⟩
 have hnod:=Zk5 (k:=k) (v:=v) h.nod
 rcases ZeX (k:=k) 0 h1 with ⟨h3,h4⟩ | ⟨j,v0,h3,h4,h5⟩
 ·have ha : Qw k v m=m++[(k,v)]:=by unfold Qw;rw [h3];rfl
  rw [ha] at hnod ⊢
  have hS : Zbj (es++[(strv k,z,clk)]) (clk+1):=⟨fun e he=>by
   rcases List.mem_append.1 he with he | he
   ·have:=hs.lt e he;omega
   ·have : e=(strv k,z,clk):=by simpa using he
    rw [this];exact Nat.lt_succ_self _,by
   rw [List.map_append,List.nodup_append]
   refine ⟨hs.nod,by simp,fun a ha b hb=>?_⟩
   have hb : b=clk:=by simpa using hb
   obtain ⟨e,he,rfl⟩:=List.mem_map.1 ha
   have:=hs.lt e he;omega⟩
  have hlen : es.length=m.length:=by have:=congrArg List.length h1;simpa using this
  have hget : (es++[(strv k,z,clk)])[es.length]?=some (strv k,z,clk):=by simp
  have hfi:=Zhp hS.nod hget
  have hgk : ((es++[(strv k,z,clk)]).map kv)[es.length]?=some (strv k,z):=by rw [List.getElem?_map,hget];rfl
  refine ⟨.tuple #[z,.int .i64 (clk : Nat)],.int .i64 (clk : Nat),H.set id (.map (es++[(strv k,z,clk)]) (clk+1)),(H.set id (.map (es++[(strv k,z,clk)]) (clk+1))).set id (.map (Yq (es++[(strv k,z,clk)]) es.length (enc v)) (clk+1)),?_,rfl,?_,⟨⟨_,clk+1,?_,ZR (ZR h2),Zi7 hS⟩,hnod⟩,hst _,hst2 _ _,by simp⟩
  ·unfold men;simp only [h2,Wz,cond_true,h4]
  ·unfold ens
   simp only [ZR h2,hfi]
  ·rw [Zg5 hgk,List.map_append,h1,List.map_append]
   have : es.length=(m.map fun p=>(strv p.1,enc p.2)).length:=by rw [List.length_map,hlen]
   rw [this]
   simp [kv]
 ·have ha : Qw k v m=m.set j (k,v):=by unfold Qw;rw [h4];exact (Zhi h.nod h3).symm
  rw [ha] at hnod ⊢
  rw [Nat.zero_add] at h5
  have hget : (es.map kv)[j]?=some (strv k,enc v0):=by rw [h1,List.getElem?_map,h3];rfl
  obtain ⟨e,he,hek⟩ : ∃ e,es[j]?=some e∧kv e=(strv k,enc v0):=by
   rw [List.getElem?_map] at hget
   cases hh : es[j]? with
   | none=>rw [hh] at hget;cases hget
   | some e=>rw [hh] at hget;exact ⟨e,rfl,by simpa using hget⟩
  have hfi:=Zhp hs.nod he
  have hgd : (es.getD j (undef,undef,0)).2.2=e.2.2:=by rw [List.getD_eq_getElem?_getD,he];rfl
  refine ⟨.tuple #[enc v0,.int .i64 (e.2.2 : Nat)],.int .i64 (e.2.2 : Nat),H,H.set id (.map (Yq es j (enc v)) clk),?_,rfl,?_,⟨⟨_,clk,?_,ZR h2,Zi7 hs⟩,hnod⟩,.refl _ _,hst _,by simp⟩
  ·unfold men;simp only [h2,Wz,cond_true,h5,hgd]
  ·unfold ens
   simp only [h2,hfi]
  ·rw [Zg5 hget,h1,List.map_set]
end
end Go.Proofs.YtnnehafmjfmbnaaGreatDoor.A

namespace Go.Proofs.YtnnehafmjfmbnaaGreatDoor.A
set_option linter.unusedVariables false
set_option linter.unusedSimpArgs false
open Go.Proofs Go.Proofs.YtnnehafmjfmbnaaGreatDoor
structure Inv (OW OF : YI) : Prop where
 inv : ∀ k v,Ze k OF=some v↔Ze v OW=some k
 same : OW.length=OF.length
 lens : ∀ p∈OF,p.1≠[]∧p.1.length≤12∧p.2≠[]∧p.2.length≤20
def Zap (k : List UInt8) (OW OF : YI) : YI:=match Ze k OF with
 | some m=>JV m OW
 | none=>OW
def Kn (k : List UInt8) (OF : YI) : YI:=match Ze k OF with
 | some _=>JV k OF
 | none=>OF
section
variable {OW OF : YI} {k f : List UInt8}
theorem Inv.drop (h : Inv OW OF) (n1 : (OW.map (·.1)).Nodup) (n2 : (OF.map (·.1)).Nodup) : Inv (Zap k OW OF) (Kn k OF):=by
 unfold Zap Kn
 cases hk : Ze k OF with
 | none=>exact h
 | some m=>
  have hm:=(h.inv k m).1 hk
  refine ⟨fun j v=>?_,?_,fun p hp=>h.lens p (List.mem_filter.1 hp).1⟩
  ·by_cases hj : j=k
   ·subst hj
    rw [Wu]
    constructor
    ·intro e;cases e
    ·intro e
     by_cases hv : v=m
     ·subst hv;rw [Wu] at e;cases e
     ·rw [Jn hv,← h.inv] at e
      rw [hk] at e
      exact absurd (Option.some.inj e).symm hv
   ·rw [Jn hj]
    by_cases hv : v=m
    ·subst hv
     rw [Wu,h.inv,hm]
     constructor
     ·intro e;exact absurd (Option.some.inj e).symm hj
     ·intro e;cases e
    ·rw [Jn hv,h.inv]
  ·rw [Zkv n1 (by rw [hm];rfl),Zkv n2 (by rw [hk];rfl),h.same]
theorem Inv.put (h : Inv OW OF) (h1 : Ze f OW=none) (h2 : Ze k OF=none) (hk : k≠[]∧k.length≤12) (hf : f≠[]∧f.length≤20) : Inv (Qw f k OW) (Qw k f OF):=by
 refine ⟨fun j v=>?_,?_,fun p hp=>?_⟩
 ·by_cases hj : j=k
  ·subst hj
   rw [K0]
   by_cases hv : v=f
   ·subst hv;rw [K0];simp
   ·rw [YB hv,← h.inv,h2]
    constructor
    ·intro e;exact absurd (Option.some.inj e).symm hv
    ·intro e;cases e
  ·rw [YB hj]
   by_cases hv : v=f
   ·subst hv
    rw [K0,h.inv,h1]
    constructor
    ·intro e;cases e
    ·intro e;exact absurd (Option.some.inj e).symm hj
   ·rw [YB hv,h.inv]
 ·rw [ZdJ,ZdJ,h1,h2,h.same]
 ·unfold Qw at hp
  rw [h2] at hp
  simp only [Option.isSome_none,Bool.false_eq_true,if_false,List.mem_append,List.mem_singleton] at hp
  rcases hp with hp | rfl
  ·exact h.lens p hp
  ·exact ⟨hk.1,hk.2,hf.1,hf.2⟩
theorem Zb8 : Ze k (Kn k OF)=none:=by
 unfold Kn
 cases hk : Ze k OF with
 | none=>exact hk
 | some m=>exact Wu
theorem Zlu (h : Inv OW OF) (hf : ∀ w,Ze f OW=some w→w=k) : Ze f (Zap k OW OF)=none:=by
 unfold Zap
 cases hk : Ze k OF with
 | none=>
  cases ho : Ze f OW with
  | none=>rfl
  | some w=>
   have:=hf w ho
   subst this
   rw [← h.inv,hk] at ho
   cases ho
 | some m=>
  by_cases hm : f=m
  ·subst hm;exact Wu
  ·simp only
   rw [Jn hm]
   cases ho : Ze f OW with
   | none=>rfl
   | some w=>
    have:=hf w ho
    subst this
    rw [← h.inv,hk] at ho
    exact absurd (Option.some.inj ho).symm hm
theorem ZcH {j : List UInt8} (hj : j≠k) : Ze j (Kn k OF)=Ze j OF:=by
 unfold Kn
 cases hk : Ze k OF with
 | none=>rfl
 | some m=>exact Jn hj
def KP (k m : List UInt8) (OW : YI) : Int:=
 if Zr k then (if m=[] then 0 else if QB m then (match Ze (Qb m) OW with
  | some w=>if w=k then 0 else 9
  | none=>0) else 11) else 10
def ZmO (k m : List UInt8) (OW OF : YI) : YI:=if KP k m OW=0 then (if m=[] then Zap k OW OF else Qw (Qb m) k (Zap k OW OF)) else OW
def Zek (k m : List UInt8) (OW OF : YI) : YI:=if KP k m OW=0 then (if m=[] then Kn k OF else Qw k (Qb m) (Kn k OF)) else OF
def ZeS (old next : List UInt8) (OF : YI) : Int:=
 if Zr next then (match Ze old OF with
  | some _=>if (Ze next OF).isSome && !(next==old) then 9 else 0
  | none=>8) else 10
def Zq0 (old next : List UInt8) (OW OF : YI) : YI:=if ZeS old next OF=0 then Qw ((Ze old OF).getD []) next (Zap old OW OF) else OW
def ZfR (old next : List UInt8) (OF : YI) : YI:=if ZeS old next OF=0 then Qw next ((Ze old OF).getD []) (Kn old OF) else OF
theorem Zqh (h : Zr k=true) : k≠[]∧k.length≤12:=by
 refine ⟨?_,Zhf h⟩
 rintro rfl
 revert h;decide
theorem ZqD {m : List UInt8} (h : QB m=true) : Qb m≠[]∧(Qb m).length≤20:=by
 unfold QB at h
 simp only [Bool.and_eq_true,decide_eq_true_eq] at h
 refine ⟨fun e=>?_,by rw [ZiJ];exact h.1⟩
 have h2:=h.2
 rw [e] at h2
 revert h2;decide
end
structure Idx (X : Zc) (x o a : Nat) (OW OF : YI) : Prop where
 c : X[x]?=some (.cells [.map (some o),.map (some a)] 1 false false)
 ow : K6 strv X o OW
 of : K6 strv X a OF
 ne : o≠a
 inv : Inv OW OF
section
variable {X X' : Zc} {n x o a : Nat} {OW OF : YI} {k m : List UInt8}
theorem Idx.not (h : Idx X x o a OW OF) : x≠o∧x≠a:=by
 constructor
 ·rintro rfl
  obtain ⟨es,clk,_,h2,_⟩:=h.ow.ex
  rw [h.c] at h2;cases h2
 ·rintro rfl
  obtain ⟨es,clk,_,h2,_⟩:=h.of.ex
  rw [h.c] at h2;cases h2
theorem Idx.hle (h : Idx X x o a OW OF) (hl : HLe X X') : Idx X' x o a OW OF:=⟨hl _ _ h.c,h.ow.hle hl,h.of.hle hl,h.ne,h.inv⟩
theorem Idx.lt (h : Idx X x o a OW OF) : x < X.length∧o < X.length∧a < X.length:=⟨Jd h.c,h.ow.lt,h.of.lt⟩
theorem Idx.step {o1 o2 : List Nat} (h : Idx X x o a OW OF) (hs : ZG o1 X o2 X') (h1 : x∉o1) (h2 : o∉o1) (h3 : a∉o1) : Idx X' x o a OW OF:=
 ⟨hs.get h.c h1,h.ow.step hs h2,h.of.step hs h3,h.ne,h.inv⟩
theorem Idx.l0 (h : Idx X x o a OW OF) : ld1 (pa x 0) X=some (.map (some o),X):=Zv h.c rfl
theorem Idx.l1 (h : Idx X x o a OW OF) : ld1 (pa x 1) X=some (.map (some a),X):=Zv h.c rfl
theorem ZmK {id : Nat} {mm : YI} (h : JK strv X id mm) : lkp .str (.string ⟨#[]⟩) true (.map (some id)) (strv k) X=some (.tuple #[strv ((Ze k mm).getD []),.bool (Ze k mm).isSome],X):=by
 rw [h.lkp]
 cases Ze k mm <;> rfl
theorem ZG.mono2 {o1 o2 : List Nat} (h : ZG o1 X o1 X') (hs : ∀ j∈o1,j∈o2) : ZG o2 X o2 X':=h.more hs (fun j hj=>.inl hj)
theorem Zu0 : ∃ X' x o a,R (n+1) Zfs [] X=some (pt x,X')∧Idx X' x o a [] []∧HLe X X'∧X.length≤x∧X.length≤o∧X.length≤a:=by
 obtain ⟨X1,e1,g1,l1,n1⟩:=ZtK (α:=List UInt8) (enc:=strv) X
 obtain ⟨X2,e2,g2,l2,n2⟩:=ZtK (α:=List UInt8) (enc:=strv) X1
 have e3 : bld (.agg #[.map none,.map none]) [(0,1,.map (some X.length)),(1,1,.map (some X1.length))] X2=some (.agg #[.map (some X.length),.map (some X1.length)],X2):=by simp [↓ZV,ZW,↓Qs,Z8,Z9,Qa,↓Zb,JN,Zu,Yl,Qg,Jo,Qk,Jp,Js,QG,Jy,QF,QL,QR,QQ,Jt,Zo,Zx,YJ,YA,Ja,QV,JS,ZA,Jc,JP,JR,JC,Zy,Zt,Zq,QU,QC,Qc,Ji,JD,JJ,JT,↓YK,JQ,↓g_r,YH,Y6,Wp,splice,Value.cells]
 have e4 : alc 1 (.agg #[.map (some X.length),.map (some X1.length)]) X2=some (pt X2.length,X2++[.cells [.map (some X.length),.map (some X1.length)] 1 false false]):=by
  rw [QL];simp [Value.cells,oneCell]
 refine ⟨X2++[.cells [.map (some X.length),.map (some X1.length)] 1 false false],X2.length,X.length,X1.length,?_,⟨ZF,(g1.hle l2).hle (.app _ _),g2.hle (.app _ _),by omega,⟨fun k v=>by simp [Ze],rfl,by simp⟩⟩,(l1.trans l2).trans (.app _ _),by omega,Nat.le_refl _,by omega⟩
 rw [R,ZpE rfl]
 unfold ZhX
 rw [Za e1,Za e2,Za e3,Za e4]
 rfl
theorem Zjc (h : Idx X x o a OW OF) : ∃ X',R (n+1) Jj [pt x,strv k] X=some (.bool (Ze k OF).isSome,X')∧Idx X' x o a (Zap k OW OF) (Kn k OF)∧ZG [o,a] X [o,a] X':=by
 have e1:=ZmK (k:=k) h.of.g
 have f1 : ∀ r X',Zah (R n) (pt x) (strv k) X=some (r,X')→R (n+1) Jj [pt x,strv k] X=some (r,X'):=fun r X' hr=>by rw [R,ZjA rfl];exact hr
 cases hk : Ze k OF with
 | none=>
  rw [hk] at e1
  simp only [Option.isSome_none,Option.getD_none] at e1 ⊢
  have hi : Idx X x o a (Zap k OW OF) (Kn k OF):=by unfold Zap Kn;rw [hk];exact h
  refine ⟨X,f1 _ _ ?_,hi,.refl _ _⟩
  unfold Zah
  rw [Za Zu,Za Zg,Za h.l1,Za e1,Za Zn,Za Zm]
  refine (ZY (vs:=[.bool false]) (H':=X) ?_).trans rfl
  rw [Zb,if_neg (by simp)]
  rfl
 | some mm=>
  rw [hk] at e1
  simp only [Option.isSome_some,Option.getD_some] at e1 ⊢
  obtain ⟨X1,e2,m2,s2,_⟩:=h.ow.mde (k:=mm)
  have of1:=h.of.step s2 (by simp [Ne.symm h.ne])
  have c1:=s2.get h.c (by simp [h.not.1])
  obtain ⟨X2,e3,m3,s3,_⟩:=of1.mde (k:=k)
  have s12:=(s2.mono2 (o2:=[o,a]) (by simp)).trans (s3.mono2 (o2:=[o,a]) (by simp))
  have hinv:=h.inv.drop (k:=k) h.ow.nod h.of.nod
  have hi : Idx X2 x o a (Zap k OW OF) (Kn k OF):=by
   unfold Zap Kn at hinv ⊢
   rw [hk] at hinv ⊢
   exact ⟨s3.get c1 (by simp [h.not.2]),m2.step s3 (by simp [h.ne]),m3,h.ne,hinv⟩
  refine ⟨X2,f1 _ _ ?_,hi,s12⟩
  have l0' : ld1 (pa x 0) X=some (.map (some o),X):=h.l0
  have l1' : ld1 (pa x 1) X1=some (.map (some a),X1):=Zv c1 rfl
  unfold Zah
  rw [Za Zu,Za Zg,Za h.l1,Za e1,Za Zn,Za Zm]
  refine (ZY (vs:=[.bool true]) (H':=X2) ?_).trans rfl
  rw [Zb,if_pos rfl,Za Zu,Za Zg,Za l0']
  refine (Za e2).trans ?_
  rw [Za Zu,Za Zg,Za l1',Za e3]
  rfl
theorem ZoF {f : List UInt8} (h : Idx X x o a OW OF) (h1 : Ze f OW=none) (h2 : Ze k OF=none) (hk : k≠[]∧k.length≤12) (hf : f≠[]∧f.length≤20) :
  ∃ X',(∀ K : M Value,bind (men .str (.string ⟨#[]⟩) (.map (some o)) (strv f)) (fun v60=>bind (Zj v60 1) fun v61=>bind (ens (.map (some o)) v61 (strv k)) fun _=>bind (men .str (.string ⟨#[]⟩) (.map (some a)) (strv k)) fun v62=>bind (Zj v62 1) fun v63=>bind (ens (.map (some a)) v63 (strv f)) fun _=>K) X=K X')∧Idx X' x o a (Qw f k OW) (Qw k f OF)∧ZG [o,a] X [o,a] X':=by
 obtain ⟨t1,st1,Y1,Y2,e1,e2,e3,m1,_,s1,_⟩:=h.ow.put (k:=f) (v:=k) (z:=.string ⟨#[]⟩)
 have of1:=h.of.step s1 (by simp [Ne.symm h.ne])
 have c1:=s1.get h.c (by simp [h.not.1])
 obtain ⟨t2,st2,Z1,Z2,e4,e5,e6,m2,_,s2,_⟩:=of1.put (k:=k) (v:=f) (z:=.string ⟨#[]⟩)
 refine ⟨Z2,fun K=>?_,⟨s2.get c1 (by simp [h.not.2]),m1.step s2 (by simp [h.ne]),m2,h.ne,h.inv.put h1 h2 hk hf⟩,(s1.mono2 (o2:=[o,a]) (by simp)).trans (s2.mono2 (o2:=[o,a]) (by simp))⟩
 rw [Za e1,Za e2,Za e3,Za e4,Za e5,Za e6]
theorem Zvb (h : Idx X x o a OW OF) : ∃ X',R (n+9) KT [pt x,strv k,strv m] X=some (iv (KP k m OW),X')∧Idx X' x o a (ZmO k m OW OF) (Zek k m OW OF)∧ZG [o,a] X [o,a] X':=by
 have f1 : ∀ r X',Ke (R (n+8)) (pt x) (strv k) (strv m) X=some (r,X')→R (n+9) KT [pt x,strv k,strv m] X=some (r,X'):=fun r X' hr=>by rw [R,Zkd rfl];exact hr
 have e1 : R (n+8) J6 [strv k] X=some (iv (QP k),X):=Zf4 (n:=n+3)
 have q1 : bop .str .eql (strv m) (.string ⟨#[]⟩) X=some (.bool (m==[]),X):=Zc2 (b:=[])
 unfold KP ZmO Zek KP
 cases hn : Zr k
 ·have he : QP k=10:=by unfold QP;rw [hn];rfl
  refine ⟨X,f1 _ _ ?_,by simpa using h,.refl _ _⟩
  unfold Ke
  rw [Za e1,he,Za Zt,Zb,if_pos (by rfl)]
  rfl
 ·have he : QP k=0:=Zm4.2 hn
  by_cases hm0 : m=[]
  ·obtain ⟨X1,e2,i2,s2⟩:=Zjc (n:=n+7) (k:=k) h
   have e2 : R (n+8) Jj [pt x,strv k] X=_:=e2
   refine ⟨X1,f1 _ _ ?_,by simpa [hm0] using i2,s2⟩
   unfold Ke
   rw [Za e1,he,Za Zt,Zb,if_neg (by decide),Za q1,Zb,if_pos (by simp [hm0]),Za e2]
   simp [hm0,ret]
  ·obtain ⟨X1,e2,k2⟩:=Zos (n:=n) (s:=m) (X:=X)
   have h1:=h.hle k2
   have ks:=k2.step.more (o2:=[o,a]) (o2':=[o,a]) (by simp) (fun j hj=>.inl hj)
   cases hmb : QB m
   ·rw [hmb] at e2
    refine ⟨X1,f1 _ _ ?_,by simpa [hm0] using h1,ks⟩
    unfold Ke
    rw [Za e1,he,Za Zt,Zb,if_neg (by decide),Za q1,Zb,if_neg (by simpa using hm0),Za e2,Za Zn,Za Zm]
    have q3 : bop .int .neq (iv (if false=true then 0 else 11)) (.int .i64 0) X1=some (.bool true,X1):=by rw [Zt];rfl
    rw [Za q3,Zb,if_pos rfl]
    simp [hm0,ret]
   ·rw [hmb] at e2
    simp only [if_true] at e2
    have e3:=ZmK (k:=Qb m) h1.ow.g
    have hfm:=ZqD hmb
    have hkn:=Zqh hn
    have q3 : bop .int .neq (iv 0) (.int .i64 0) X1=some (.bool false,X1):=by rw [Zt];rfl
    simp only [if_true,if_neg hm0]
    have hgo : (∀ w,Ze (Qb m) OW=some w→w=k)→∃ X',R (n+9) KT [pt x,strv k,strv m] X=some (iv 0,X')∧Idx X' x o a (Qw (Qb m) k (Zap k OW OF)) (Qw k (Qb m) (Kn k OF))∧ZG [o,a] X [o,a] X':=fun hw=>by
     obtain ⟨X2,e4,i4,s4⟩:=Zjc (n:=n+7) (k:=k) h1
     have e4 : R (n+8) Jj [pt x,strv k] X1=_:=e4
     obtain ⟨X3,e5,i5,s5⟩:=ZoF (k:=k) (f:=Qb m) i4 (Zlu h.inv hw) Zb8 hkn hfm
     refine ⟨X3,f1 _ _ ?_,i5,(ks.trans s4).trans s5⟩
     unfold Ke
     rw [Za e1,he,Za Zt,Zb,if_neg (by decide),Za q1,Zb,if_neg (by simpa using hm0),Za e2,Za Zn,Za Zm,Za q3,Zb,if_neg (by simp),Za Zu,Za Zg,Za h1.l0,Za e3,Za Zn,Za Zm]
     cases ho : Ze (Qb m) OW with
     | none=>
      simp only [Option.isSome_none]
      rw [Za (g_r.trans (if_neg (by simp)))]
      simp only [List.replicate]
      rw [Z7,Za Zo]
      simp only [cond_false]
      rw [Zb,if_neg (by simp),Za e4,Za Zu,Za Zg,Za i4.l0,Za Zu,Za Zg,Za i4.l1]
      exact e5 _
     | some w=>
      have:=hw w ho
      subst this
      have q4 : bop .str .neq (strv w) (strv w) X1=some (.bool false,X1):=by rw [WZ];simp
      simp only [Option.isSome_some,Option.getD_some]
      rw [Z3,Zl,Za q4,Qi,Z7,Za Zo]
      simp only [cond_true]
      rw [Zb,if_neg (by simp),Za e4,Za Zu,Za Zg,Za i4.l0,Za Zu,Za Zg,Za i4.l1]
      exact e5 _
    cases ho : Ze (Qb m) OW with
    | none=>simpa using hgo (fun w hw=>by rw [ho] at hw;cases hw)
    | some w=>
     by_cases hw : w=k
     ·simpa [hw] using hgo (fun w' hw'=>by rw [ho] at hw';cases hw';exact hw)
     ·simp only [if_neg hw]
      refine ⟨X1,f1 _ _ ?_,by simpa using h1,ks⟩
      have q4 : bop .str .neq (strv w) (strv k) X1=some (.bool true,X1):=by rw [WZ,beq_eq_false_iff_ne.2 hw];rfl
      rw [ho] at e3
      simp only [Option.isSome_some,Option.getD_some] at e3
      unfold Ke
      rw [Za e1,he,Za Zt,Zb,if_neg (by decide),Za q1,Zb,if_neg (by simpa using hm0),Za e2,Za Zn,Za Zm,Za q3,Zb,if_neg (by simp),Za Zu,Za Zg,Za h1.l0,Za e3,Za Zn,Za Zm,Z3,Zl,Za q4,Qi,Z7,Za Zo]
      simp only [cond_true]
      rw [Zb,if_pos rfl]
      rfl
theorem Zvn {old next : List UInt8} (h : Idx X x o a OW OF) : ∃ X',R (n+6) Kz [pt x,strv old,strv next] X=some (iv (ZeS old next OF),X')∧Idx X' x o a (Zq0 old next OW OF) (ZfR old next OF)∧ZG [o,a] X [o,a] X':=by
 have f1 : ∀ r X',YM (R (n+5)) (pt x) (strv old) (strv next) X=some (r,X')→R (n+6) Kz [pt x,strv old,strv next] X=some (r,X'):=fun r X' hr=>by rw [R,ZhC rfl];exact hr
 have e1 : R (n+5) J6 [strv next] X=some (iv (QP next),X):=Zf4
 have e2:=ZmK (k:=old) h.of.g
 have e3:=ZmK (k:=next) h.of.g
 unfold ZeS Zq0 ZfR ZeS
 cases hn : Zr next
 ·have he : QP next=10:=by unfold QP;rw [hn];rfl
  refine ⟨X,f1 _ _ ?_,by simpa using h,.refl _ _⟩
  unfold YM
  rw [Za e1,he,Za Zt,Zb,if_pos (by rfl)]
  rfl
 ·have he : QP next=0:=Zm4.2 hn
  simp only [if_true]
  cases ho : Ze old OF with
  | none=>
   rw [ho] at e2
   simp only [Option.isSome_none,Option.getD_none] at e2
   refine ⟨X,f1 _ _ ?_,by simpa using h,.refl _ _⟩
   unfold YM
   rw [Za e1,he,Za Zt,Zb,if_neg (by decide),Za Zu,Za Zg,Za h.l1,Za e2,Za Zn,Za Zm,Za Zu,Za Zg,Za h.l1,Za e3,Za Zn,Za Zm,Za Zx,Zb,if_pos (by rfl)]
   rfl
  | some mm=>
   rw [ho] at e2
   simp only [Option.isSome_some,Option.getD_some] at e2 ⊢
   have hml:=h.inv.lens (old,mm) (WQ ho)
   have hmo:=(h.inv.inv old mm).1 ho
   have q4 : bop .str .neq (strv next) (strv old) X=some (.bool (!(next==old)),X):=WZ
   have hpk : ∀ K : Value→M Value,bind (ZC (.bool (Ze next OF).isSome) true 3 (bind (bop .str .neq (strv next) (strv old)) fun v43x16=>ret [strv next,strv old,v43x16])) (c3 fun _ _ q17_2=>bind (pick (.bool (Ze next OF).isSome) q17_2 (Value.bool false)) K) X=K (.bool ((Ze next OF).isSome && !(next==old))) X:=fun K=>by
    cases (Ze next OF).isSome
    ·rw [Za (g_r.trans (if_neg (by simp)))]
     simp only [List.replicate]
     rw [Z7,Za Zo]
     rfl
    ·rw [Z3,Zl,Za q4,Qi,Z7,Za Zo]
     rfl
   cases ht : (Ze next OF).isSome && !(next==old)
   ·rw [ht] at hpk
    simp only [Bool.false_eq_true,if_false,if_true]
    obtain ⟨X2,e4,i4,s4⟩:=Zjc (n:=n+4) (k:=old) h
    have e4 : R (n+5) Jj [pt x,strv old] X=_:=e4
    have hnn : Ze next (Kn old OF)=none:=by
     by_cases hno : next=old
     ·subst hno;exact Zb8
     ·rw [ZcH hno]
      have h5 : (next==old)=false:=beq_eq_false_iff_ne.2 hno
      rw [h5] at ht
      cases hx : Ze next OF with
      | none=>rfl
      | some y=>rw [hx] at ht;simp at ht
    obtain ⟨X3,e5,i5,s5⟩:=ZoF (k:=next) (f:=mm) i4 (Zlu h.inv (fun w hw=>by rw [hmo] at hw;exact (Option.some.inj hw).symm)) hnn (Zqh hn) ⟨hml.2.2.1,hml.2.2.2⟩
    refine ⟨X3,f1 _ _ ?_,i5,s4.trans s5⟩
    unfold YM
    rw [Za e1,he,Za Zt,Zb,if_neg (by decide),Za Zu,Za Zg,Za h.l1,Za e2,Za Zn,Za Zm,Za Zu,Za Zg,Za h.l1,Za e3,Za Zn,Za Zm,Za Zx,Zb,if_neg (by simp)]
    refine (hpk _).trans ?_
    rw [Zb,if_neg (by simp),Za e4,Za Zu,Za Zg,Za i4.l0,Za Zu,Za Zg,Za i4.l1]
    exact e5 _
   ·rw [ht] at hpk
    simp only [if_true]
    refine ⟨X,f1 _ _ ?_,by simpa using h,.refl _ _⟩
    unfold YM
    rw [Za e1,he,Za Zt,Zb,if_neg (by decide),Za Zu,Za Zg,Za h.l1,Za e2,Za Zn,Za Zm,Za Zu,Za Zg,Za h.l1,Za e3,Za Zn,Za Zm,Za Zx,Zb,if_neg (by simp)]
    refine (hpk _).trans ?_
    rw [Zb,if_pos rfl]
    rfl
theorem ZvS (h : Idx X x o a OW OF) : R (n+1) Zbh [pt x,strv k] X=some (.tuple #[strv ((Ze k OF).getD []),.bool (Ze k OF).isSome],X):=by
 have e1:=ZmK (k:=k) h.of.g
 rw [R,Zlr rfl]
 unfold Zeo
 rw [Za Zu,Za Zg,Za h.l1,Za e1,Za Zn,Za Zm]
 rfl
def ZgK (m : List UInt8) (OW : YI) : Int:=if QB m then (if (Ze (Qb m) OW).isSome then 0 else 8) else 11
def Zn3 (m : List UInt8) (OW : YI) : List UInt8:=if QB m then (Ze (Qb m) OW).getD [] else []
theorem Zt5 (h : Idx X x o a OW OF) : ∃ X',R (n+9) Zar [pt x,strv m] X=some (.tuple #[strv (Zn3 m OW),iv (ZgK m OW)],X')∧HLe X X':=by
 obtain ⟨X1,e2,k2⟩:=Zos (n:=n) (s:=m) (X:=X)
 have f1 : ∀ r X',Zby (R (n+8)) (pt x) (strv m) X=some (r,X')→R (n+9) Zar [pt x,strv m] X=some (r,X'):=fun r X' hr=>by rw [R,Zjp rfl];exact hr
 have h1:=h.hle k2
 refine ⟨X1,f1 _ _ ?_,k2⟩
 unfold Zby ZgK Zn3
 cases hmb : QB m
 ·rw [hmb] at e2
  have q3 : bop .int .neq (iv (if false=true then 0 else 11)) (.int .i64 0) X1=some (.bool true,X1):=by rw [Zt];rfl
  rw [Za e2,Za Zn,Za Zm,Za q3,Zb,if_pos rfl]
  rfl
 ·rw [hmb] at e2
  simp only [if_true] at e2
  have e3:=ZmK (k:=Qb m) h1.ow.g
  have q3 : bop .int .neq (iv 0) (.int .i64 0) X1=some (.bool false,X1):=by rw [Zt];rfl
  rw [Za e2,Za Zn,Za Zm,Za q3,Zb,if_neg (by simp),Za Zu,Za Zg,Za h1.l0,Za e3,Za Zn,Za Zm,Za Zx]
  cases Ze (Qb m) OW with
  | none=>simp [Zb,ret];rfl
  | some w=>simp [Zb,ret]
end
end Go.Proofs.YtnnehafmjfmbnaaGreatDoor.A
namespace Go.Proofs.YtnnehafmjfmbnaaGreatDoor.A
set_option linter.unusedVariables false
set_option linter.unusedSimpArgs false
open Go.Proofs Go.Proofs.YtnnehafmjfmbnaaGreatDoor
section
variable {H X X' : Zc} {n x o a : Nat} {OW OF : YI} {k m : List UInt8}
theorem Zt7 (h : Idx X x o a OW OF) : ∃ X' x' o' a',R (n+2) Zan [pt x] X=some (pt x',X')∧Idx X' x' o' a' OW OF∧HLe X X'∧X.length≤x'∧X.length≤o'∧X.length≤a':=by
 obtain ⟨X1,e1,g1,l1,n1⟩:=h.ow.clone
 obtain ⟨X2,e2,g2,l2,n2⟩:=(h.of.hle l1).clone
 have e1' : run Tryz.prog np lvs (n+1) Qf [.map (some o)] X=some (.map (some X.length),X1):=by
  rw [ZbQ (show np Qf=some ZaM from rfl)]
  exact e1
 have e2' : run Tryz.prog np lvs (n+1) Qf [.map (some a)] X1=some (.map (some X1.length),X2):=by
  rw [ZbQ (show np Qf=some ZaM from rfl)]
  exact e2
 have e3 : bld (.agg #[.map none,.map none]) [(0,1,.map (some X.length)),(1,1,.map (some X1.length))] X2=some (.agg #[.map (some X.length),.map (some X1.length)],X2):=by simp [↓ZV,ZW,↓Qs,Z8,Z9,Qa,↓Zb,JN,Zu,Yl,Qg,Jo,Qk,Jp,Js,QG,Jy,QF,QL,QR,QQ,Jt,Zo,Zx,YJ,YA,Ja,QV,JS,ZA,Jc,JP,JR,JC,Zy,Zt,Zq,QU,QC,Qc,Ji,JD,JJ,JT,↓YK,JQ,↓g_r,YH,Y6,Wp,splice,Value.cells]
 have e4 : alc 1 (.agg #[.map (some X.length),.map (some X1.length)]) X2=some (pt X2.length,X2++[.cells [.map (some X.length),.map (some X1.length)] 1 false false]):=by
  rw [QL];simp [Value.cells,oneCell]
 refine ⟨X2++[.cells [.map (some X.length),.map (some X1.length)] 1 false false],X2.length,X.length,X1.length,?_,⟨ZF,(g1.hle l2).hle (.app _ _),g2.hle (.app _ _),by omega,h.inv⟩,(l1.trans l2).trans (.app _ _),by omega,Nat.le_refl _,by omega⟩
 rw [R,Zjx rfl]
 unfold Zdj
 rw [Za Zu,Za Zg,Za h.l0,Za Zu,Za Zg,Za h.l1,Za e1',Za (h.hle l1).l1,Yz,Za e2',Za e3,Za e4]
 rfl
end
end Go.Proofs.YtnnehafmjfmbnaaGreatDoor.A
namespace Go.Proofs.YtnnehafmjfmbnaaGreatDoor.A
set_option linter.unusedVariables false
set_option linter.unusedSimpArgs false
open Go.Proofs Go.Proofs.YtnnehafmjfmbnaaGreatDoor
section
variable {n : Nat}
variable {X : Zc} {x o a : Nat} {OW OF : YI}
end
end Go.Proofs.YtnnehafmjfmbnaaGreatDoor.A

