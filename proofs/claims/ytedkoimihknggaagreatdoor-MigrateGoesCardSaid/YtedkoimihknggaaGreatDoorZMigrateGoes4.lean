/- What the law MigrateGoes needs (part 4). -/
import Derived.Test.YtedkoimihknggaaGreatDoorZMigrateGoes3
import Derived.Test.YtedkoimihknggaaGreatDoorProg
import Derived.WalkKit
import Derived.Maps.RangeWalk
import Derived.Deep.RegionWith
import Derived.Deep.Cut
import Derived.Laws.Cover1
import Derived.Sort.Walk0
import Derived.Sort.OwnSorted
import Derived.Shelf.SlGeneric
import Derived.Shelf.SlIter.Collect
import Derived.Shelf.SlSortCmp.Whole1
import Derived.Shelf.SlMaps.Clone
import Derived.Ground.GgzProg
import Derived.Ground.SlsfProg
import Derived.Ground.SlmcProg
import Derived.KernelRfl
namespace Go.Proofs.YtedkoimihknggaaGreatDoor.A
set_option linter.unusedVariables false
set_option linter.unusedSimpArgs false
open Go.RowKit Go.Maps Go.ChangeMaps Go.MapKept
section
variable {P : Program} (w : World) {ops : Array Oper} {rest : List Oper} {o : Oper} {a : Act} {Q : Exit→Act→World→Prop}
theorem ZlT (hg : o.guard=none) (m : Operand) (t : TypeId) (hop : o.op=Op.range t m) (k e : TypeId) (ht : P.underlying t=some (.map k e)) (b : Nat) (es : Array MapEntry) (clock : Nat)
  (hm : a.eval m=.map (some b)) (hb : w.heap[b]?=some (.map es clock))
  (hK : wpList P ops Q rest (a.put o.dst (.pointer (some ⟨w.heap.size,0,none⟩))) (w.alloc (.mapIter (some b) clock #[] clock))) :
  wpList P ops Q (o :: rest) a w:=by
 refine wpList_plain hg fun K' hK'=>?_
 have hrun:=run_range_map (P:=P) w t k e b es clock ht hb
 unfold Oper.wp
 simp [execOp,hop,hm,hrun,Result.andThen]
 exact hK' _ _ hK
theorem Zmz (hg : o.guard=none) (it : Operand) (hop : o.op=Op.next it false) (b r since c0 clock : Nat) (seen : Array Nat) (es : Array MapEntry)
  (hit : a.eval it=.pointer (some ⟨r,0,none⟩)) (hr : w.heap[r]?=some (.mapIter (some b) since seen c0)) (hb : w.heap[b]?=some (.map es clock)) (hst : Go.MapKept.Stamped es clock) (hsince : since=clock) (hsc : since≤c0)
  (hDone : (∀ x∈es.toList,x.born∈seen)→wpList P ops Q rest (a.put o.dst (.tuple #[.bool false])) w)
  (hMore : ∀ (e : MapEntry) (w' : World),e∈es.toList→e.born∉seen→w'.heap[r]?=some (.mapIter (some b) since (seen.push e.born) clock)→(leftOf es (seen.push e.born)).size < (leftOf es seen).size→
   w.grownBy w' (some r)→w'.heap.size=w.heap.size→(Instr.entry (.pointer (some ⟨r,0,none⟩))).run P w'=.ok (.tuple #[e.key,e.val]) w'→wpList P ops Q rest (a.put o.dst (.tuple #[.bool true,e.key,e.val])) w') :
  wpList P ops Q (o :: rest) a w:=by
 refine wpList_plain hg fun K' hK'=>?_
 unfold Oper.wp
 have hold : ∀ x∈es.toList,x.born < since:=by rw [hsince];exact hst.1
 rcases run_next_at (P:=P) w o.type r b since c0 seen es clock hr hb hold hsc with ⟨h0,hrun⟩ | ⟨e,he,w1,hal,hrun⟩
 ·simp [execOp,hop,hit,hrun,Result.andThen]
  refine hK' _ _ (hDone fun x hx=>?_)
  have:=all_seen es seen h0 x hx
  simpa using this
 ·obtain ⟨hem,hes⟩:=mem_left he
  have hr1 : w1.heap[r]?=some (.mapIter (some b) since seen c0):=by rcases hal with rfl | rfl <;> exact hr
  have hb1 : w1.heap[b]?=some (.map es clock):=by rcases hal with rfl | rfl <;> exact hb
  have hset:=heap_set (o':=.mapIter (some b) since (seen.push e.born) clock) hr1
  have hne : r≠b:=by
   intro e1
   rw [e1,hb] at hr
   cases hr
  have hb' : (setBlock w1 r (.mapIter (some b) since (seen.push e.born) clock)).heap[b]?=some (.map es clock):=(hset.2 b (fun e1=>hne e1.symm)).trans hb1
  simp [execOp,hop,hit,hrun,Result.andThen]
  refine hK' _ _ (hMore e _ hem (by simpa using hes) hset.1 (left_shrinks es seen e he) ?_ ?_ (run_entry_at _ r b since seen es clock e hset.1 hb' hem ((stamped_iff es clock).1 hst).2.1))
  ·rcases hal with rfl | rfl <;> exact ⟨rfl,rfl,rfl,by simp [setBlock],fun i _ hi=>hset.2 i (fun e1=>hi (by rw [e1]))⟩
  ·rcases hal with rfl | rfl <;> simp [setBlock]
end
theorem YU {w : World} {o : Obj} {b : Nat} (h : b < w.heap.size) : (w.alloc o).heap[b]?=w.heap[b]?:=(MapKept.heap_alloc w o).2 b h
theorem Zsx {P : Program} {t kt e : TypeId} {k : List UInt8} {en : Array MapEntry} {ck ob : Nat} {W : World} (ht : P.underlying t=some (.map kt e)) (htk : tkT P kt=.str) (hb : W.heap[ob]?=some (.map en ck)) (hkeys : ∀ x∈en.toList,∃ k',x.key=strv k'∧k'≠k) (v : Value) :
  ∃ W2,(Instr.mapUpdate t (.map (some ob)) (strv k) v).run P W=.ok () W2∧W2=setB W ob (.map (en.push { key:=strv k,val:=v,born:=ck }) (ck+1)):=by
 have hok : okK (tkT P kt) (strv k)=true:=by rw [htk];rfl
 obtain ⟨d,hd,hsk,hchk⟩:=W5 hok
 have hE : ∀ l : List MapEntry,(∀ x∈l,∃ k',x.key=strv k'∧k'≠k)→Q6 (fun _=>none) (l.map fun x=>(x.key,Value.tuple #[],x.born)) l∧∀ i,JK .str (strv k) (l.map fun x=>(x.key,Value.tuple #[],x.born)) i=some none:=by
  intro l
  induction l with
  | nil=>intro _;exact ⟨trivial,fun _=>rfl⟩
  | cons x l ih=>
   intro h
   obtain ⟨k',hk1,hk2⟩:=h x (by simp)
   obtain ⟨h1,h2⟩:=ih fun y hy=>h y (by simp [hy])
   refine ⟨⟨⟨by show Qs x.key=true;rw [hk1];rfl,rfl,.un,rfl⟩,h1⟩,fun i=>?_⟩
   have hs : Zbd .str (strv k) x.key=some (k==k'):=by rw [hk1];simp only [Zbd,strv,Zvk]
   simp only [List.map_cons,JK,hs]
   rw [show (k==k')=false by rw [beq_eq_false_iff_ne];exact Ne.symm hk2]
   exact h2 _
 obtain ⟨h1,h2⟩:=hE en.toList hkeys
 obtain ⟨r',h3,h4⟩:=YF (k:=strv k) hd 0 h1 (by rw [htk];exact h2 0)
 cases r' with
 | some p=>exact h4.elim
 | none=>
  refine ⟨_,?_,rfl⟩
  simp only [Instr.mapUpdate,Sem.run_bind,run_underlying ht,Result.andThen_ok,Q8 hb,hchk,Jg hd h3,Yb hb]
structure CpR (w : World) (b r gb' ob : Nat) (es : Array MapEntry) (clock : Nat) (seen : Array Nat) (c0 : Nat) (en : Array MapEntry) (ck : Nat) (L : List (MapEntry × Nat)) (el : TypeId) (wr : World) : Prop where
 it : wr.heap[r]?=some (.mapIter (some b) clock seen c0)
 c0 : clock≤c0
 g : wr.heap[gb']?=some (.cells #[.map (some ob)] el (0,0))
 o : wr.heap[ob]?=some (.map en ck)
 st : Go.MapKept.Stamped en ck
 ent : en.toList.map (fun x=>(x.key,x.val))=L.map (fun p=>(p.1.key,Value.map (some p.2)))
 sn : L.map (·.1.born)=seen.toList
 mem : ∀ p∈L,p.1∈es.toList∧∃ sb ses sclk,p.1.val=.map (some sb)∧w.heap[sb]?=some (.map ses sclk)∧wr.heap[p.2]?=some (.map ses sclk)
 nod : (r :: gb' :: ob :: L.map (·.2)).Nodup
 ge : ∀ q∈r :: gb' :: ob :: L.map (·.2),w.heap.size≤q
 snod : seen.toList.Nodup
 bel : Below w.heap.size w wr
section
variable {w wr w1 : World} {b r g o : Nat} {es : Array MapEntry} {clock : Nat} {seen : Array Nat} {c0 : Nat} {en : Array MapEntry} {ck : Nat} {L : List (MapEntry × Nat)} {el : TypeId}
theorem CpR.lts (h : CpR w b r g o es clock seen c0 en ck L el wr) : r < wr.heap.size∧g < wr.heap.size∧o < wr.heap.size:=⟨(Array.getElem?_eq_some_iff.1 h.it).1,(Array.getElem?_eq_some_iff.1 h.g).1,(Array.getElem?_eq_some_iff.1 h.o).1⟩
theorem CpR.keys (h : CpR w b r g o es clock seen c0 en ck L el wr) (hst : Go.MapKept.Stamped es clock) {e : MapEntry} (he1 : e∈es.toList) (he2 : e.born∉seen) : ∀ x∈en.toList,x.key≠e.key:=fun x hx e4=>by
 have h3 : (x.key,x.val)∈L.map (fun p=>(p.1.key,Value.map (some p.2))):=by rw [← h.ent];exact List.mem_map.2 ⟨x,hx,rfl⟩
 obtain ⟨p,hp,h4⟩:=List.mem_map.1 h3
 simp only [Prod.mk.injEq] at h4
 obtain ⟨hm,_⟩:=h.mem p hp
 have h5 : p.1=e:=entry_eq_of_key ((stamped_iff es clock).1 hst).2.2 hm he1 (h4.1.trans e4)
 have : p.1.born∈seen.toList:=by rw [← h.sn];exact List.mem_map.2 ⟨p,hp,rfl⟩
 rw [h5] at this
 exact he2 (by simpa using this)
theorem CpR.next (h : CpR w b r g o es clock seen c0 en ck L el wr) (hst : Go.MapKept.Stamped es clock) {e : MapEntry} {sb sclk : Nat} {ses : Array MapEntry} (he1 : e∈es.toList) (he2 : e.born∉seen) (hev : e.val=.map (some sb)) (hsb : w.heap[sb]?=some (.map ses sclk))
  (hit : w1.heap[r]?=some (.mapIter (some b) clock (seen.push e.born) clock)) (hgr : wr.grownBy w1 (some r)) (hsz : w1.heap.size=wr.heap.size) :
  CpR w b r g o es clock (seen.push e.born) clock (en.push { key:=e.key,val:=.map (some wr.heap.size),born:=ck }) (ck+1) (L++[(e,wr.heap.size)]) el
   (setB (w1.alloc (.map ses sclk)).drew o (.map (en.push { key:=e.key,val:=.map (some wr.heap.size),born:=ck }) (ck+1))):=by
 obtain ⟨l1,l2,l3⟩:=h.lts
 have hnod:=h.nod
 simp only [List.nodup_cons,List.mem_cons,not_or] at hnod
 obtain ⟨⟨n1,n2,n3⟩,⟨n4,n5⟩,n6,n7⟩:=hnod
 generalize hX : Obj.map (en.push { key:=e.key,val:=.map (some wr.heap.size),born:=ck }) (ck+1)=X
 have hge:=h.ge
 have hLlt : ∀ p∈L,p.2 < wr.heap.size:=fun p hp=>by
  obtain ⟨_,sb',ses',sclk',h1,h2,h3⟩:=h.mem p hp
  exact (Array.getElem?_eq_some_iff.1 h3).1
 have keep : ∀ c,c < wr.heap.size→c≠o→c≠r→(setB (w1.alloc (.map ses sclk)).drew o X).heap[c]?=wr.heap[c]?:=fun c hc h1 h2=>by
  rw [Jb h1]
  show (w1.alloc (.map ses sclk)).heap[c]?=_
  rw [YU (by omega),hgr.block c hc (by simpa using h2)]
 have hk:=h.keys hst he1 he2
 have hst2:=(stamped_iff en ck).1 h.st
 refine ⟨?_,Nat.le_refl _,by rw [keep g l2 n4 (Ne.symm n1)];exact h.g,?_,?_,?_,?_,?_,?_,?_,?_,?_⟩
 ·rw [Jb n2]
  show (w1.alloc (.map ses sclk)).heap[r]?=_
  rw [YU (by omega)];exact hit
 ·rw [ZcG (by show o < (w1.alloc (.map ses sclk)).heap.size;simp;omega),hX]
 ·refine (stamped_iff _ _).2 ⟨fun x hx=>?_,?_,?_⟩
  ·rw [Array.toList_push,List.mem_append] at hx
   rcases hx with hx | hx
   ·exact Nat.lt_succ_of_lt (hst2.1 x hx)
   ·have : x={ key:=e.key,val:=.map (some wr.heap.size),born:=ck }:=by simpa using hx
    rw [this];exact Nat.lt_succ_self _
  ·rw [Array.toList_push,List.map_append,List.nodup_append]
   refine ⟨hst2.2.1,by simp,fun a ha c hc=>?_⟩
   have hc : c=ck:=by simpa using hc
   obtain ⟨x,hx,rfl⟩:=List.mem_map.1 ha
   have:=hst2.1 x hx
   omega
  ·rw [Array.toList_push,List.pairwise_append]
   refine ⟨hst2.2.2,by simp,fun x hx y hy=>?_⟩
   have : y={ key:=e.key,val:=.map (some wr.heap.size),born:=ck }:=by simpa using hy
   rw [this];exact hk x hx
 ·rw [Array.toList_push,List.map_append,List.map_append,h.ent];rfl
 ·rw [List.map_append,h.sn,Array.toList_push];rfl
 ·intro p hp
  rcases List.mem_append.1 hp with hp | hp
  ·obtain ⟨h1,sb',ses',sclk',h2,h4,h3⟩:=h.mem p hp
   have hp2 : p.2∈L.map (·.2):=List.mem_map.2 ⟨p,hp,rfl⟩
   exact ⟨h1,sb',ses',sclk',h2,h4,by rw [keep p.2 (hLlt p hp) (fun e1=>n6 (e1 ▸ hp2)) (fun e1=>n3 (e1 ▸ hp2))];exact h3⟩
  ·have : p=(e,wr.heap.size):=by simpa using hp
   subst this
   refine ⟨he1,sb,ses,sclk,hev,hsb,?_⟩
   rw [Jb (by show wr.heap.size≠o;omega)]
   show (w1.alloc (.map ses sclk)).heap[wr.heap.size]?=_
   rw [← hsz]
   exact (MapKept.heap_alloc w1 _).1
 ·have hnew : ∀ q∈r :: g :: o :: L.map (·.2),q≠wr.heap.size:=fun q hq=>by
   simp only [List.mem_cons] at hq
   rcases hq with rfl | rfl | rfl | hq
   ·omega
   ·omega
   ·omega
   ·obtain ⟨p,hp,rfl⟩:=List.mem_map.1 hq
    exact Nat.ne_of_lt (hLlt p hp)
  have : r :: g :: o :: (L++[(e,wr.heap.size)]).map (·.2)=(r :: g :: o :: L.map (·.2))++[wr.heap.size]:=by simp
  rw [this,List.nodup_append]
  refine ⟨h.nod,by simp,fun a ha c hc=>?_⟩
  have hc : c=wr.heap.size:=by simpa using hc
  rw [hc];exact hnew a ha
 ·intro q hq
  have : r :: g :: o :: (L++[(e,wr.heap.size)]).map (·.2)=(r :: g :: o :: L.map (·.2))++[wr.heap.size]:=by simp
  rw [this] at hq
  rcases List.mem_append.1 hq with hq | hq
  ·exact hge q hq
  ·have : q=wr.heap.size:=by simpa using hq
   rw [this];exact h.bel.size
 ·rw [Array.toList_push,List.nodup_append]
  refine ⟨h.snod,by simp,fun a ha c hc=>?_⟩
  have hc : c=e.born:=by simpa using hc
  rw [hc];rintro rfl;exact he2 (by simpa using ha)
 ·refine ⟨(show w1.os=_ from hgr.os.trans h.bel.os),(show w1.tape=_ from hgr.tape.trans h.bel.tape),(show w1.output=_ from hgr.output.trans h.bel.output),?_,fun i hi=>?_⟩
  ·rw [Zut]
   show _≤(w1.alloc (.map ses sclk)).heap.size
   have:=h.bel.size
   simp;omega
  ·have ho:=hge o (by simp)
   have hr:=hge r (by simp)
   rw [keep i (Nat.lt_of_lt_of_le hi h.bel.size) (by omega) (by omega)]
   exact h.bel.block i hi
theorem CpR.left (h : CpR w b r g o es clock seen c0 en ck L el wr) (hb : w.heap[b]?=some (.map es clock)) : wr.heap[b]?=some (.map es clock)∧wr.rangeLeft b r=(leftOf es seen).size:=by
 have hbl : b < w.heap.size:=(Array.getElem?_eq_some_iff.1 hb).1
 have h1 : wr.heap[b]?=some (.map es clock):=(h.bel.block b hbl).trans hb
 refine ⟨h1,?_⟩
 simp only [World.rangeLeft,h1,h.it]
theorem CpR.perm (h : CpR w b r g o es clock seen c0 en ck L el wr) (hst : Go.MapKept.Stamped es clock) (hall : ∀ x∈es.toList,x.born∈seen) : (L.map (·.1)).Perm es.toList:=by
 have hst2:=(stamped_iff es clock).1 hst
 have n1 : (L.map (·.1)).Nodup:=by
  have : ((L.map (·.1)).map (·.born)).Nodup:=by rw [List.map_map];exact h.sn ▸ h.snod
  exact List.Pairwise.of_map _ (fun a b h e=>h (congrArg _ e)) this
 have n2 : es.toList.Nodup:=List.Pairwise.of_map _ (fun a b h e=>h (congrArg _ e)) hst2.2.1
 refine (List.perm_ext_iff_of_nodup n1 n2).2 fun x=>⟨fun hx=>?_,fun hx=>?_⟩
 ·obtain ⟨p,hp,rfl⟩:=List.mem_map.1 hx
  exact (h.mem p hp).1
 ·have h1 : x.born∈L.map (·.1.born):=by rw [h.sn];simpa using hall x hx
  obtain ⟨p,hp,h2⟩:=List.mem_map.1 h1
  have : p.1=x:=born_inj hst2.2.1 (h.mem p hp).1 hx h2
  exact List.mem_map.2 ⟨p,hp,this⟩
end
set_option maxRecDepth 100000 in
theorem ZyX (hCl : ZfU Tryz.prog 196) : Zth Tryz.prog 158 where
 c:=⟨Tryz.f158,Tryz.func158,by kernel_rfl,by kernel_rfl⟩
 run:=fun w gb b es clock hgb hcell hb hst hks hvs=>by
  have hmm:=@run_makeMap Tryz.prog
  have hbl : b < w.heap.size:=(Array.getElem?_eq_some_iff.1 hb).1
  go_enter Tryz.func158,Tryz.ntmps158
  go_wp2_with (first
   | (at_range;refine ZlT _ rfl _ 154 rfl _ _ Tryz.underlying154 b es clock rfl ?_ ?_)
   | go_in)
  ·rw [YU (by simp;omega),YU hbl];exact hb
  ·go_frame
   have e1 : ((w.alloc (.map #[] 0)).alloc (.cells #[.map (some w.heap.size)] 156)).heap.size=w.heap.size+2:=by simp
   have e2 : (w.alloc (.map #[] 0)).heap.size=w.heap.size+1:=by simp
   rw [e1]
   try rw [e2]
   go_loopw [4,5] (fun _ _ wr=>∃ seen c0 en ck L,CpR w b (w.heap.size+2) (w.heap.size+1) w.heap.size es clock seen c0 en ck L 156 wr) (fun _ _ wr=>wr.rangeLeft b (w.heap.size+2))
   case atStart=>
    refine ⟨#[],clock,#[],0,[],?_⟩
    have hA:=fun (w : World) (o : Obj)=>(MapKept.heap_alloc w o).1
    refine ⟨?_,Nat.le_refl _,?_,?_,⟨by simp,by simp,by simp⟩,rfl,rfl,by simp,by simp,?_,by simp,?_⟩
    ·rw [← e1];exact hA _ _
    ·rw [YU (by rw [e1];omega),← e2];exact hA _ _
    ·rw [YU (by rw [e1];omega),YU (by rw [e2];omega)];exact hA _ _
    ·intro q hq
     simp only [List.map_nil,List.mem_cons,List.not_mem_nil,or_false] at hq
     omega
    ·exact (((Below.refl _ _).alloc (Nat.le_refl _) _).alloc (by rw [e2];omega) _).alloc (by rw [e1];omega) _
   case round=>
    obtain ⟨seen,c0,en,ck,L,hR⟩:=hrel
    go_wp2_with (first
     | (at_next;refine Zmz _ rfl _ rfl b (w.heap.size+2) clock c0 clock seen es rfl hR.it ?_ hst rfl hR.c0 ?_ ?_)
     | go_in)
    ·exact (hR.left hb).1
    ·intro hdone
     go_wp2
     go_ret
     have hp:=hR.perm hst (by simpa using hdone)
     have hnod:=hR.nod
     have hge:=hR.ge
     exact ⟨_,_,_,_,_,_,rfl,hR.g,hR.o,hR.st,hR.ent,hp,fun p hp=>(by obtain ⟨_,sb,ses,sclk,h1,h2,h3⟩:=hR.mem p hp;exact ⟨sb,h1,h3.trans h2.symm⟩),(List.nodup_cons.1 hnod).2,fun q hq=>hge q (List.mem_cons_of_mem _ hq),hR.bel⟩
    ·intro e w1 he1 he2 hit1 hlt hgr hsz hen
     go_upto_region 5 with fail
     have he1 : e∈es.toList:=by simpa using he1
     obtain ⟨sb,ses,sclk,hev,hsb⟩:=hvs e he1
     obtain ⟨k,hek⟩:=hks e he1
     obtain ⟨W2,hcg,hcg2,hsz1,hsb1,hmu,hW2⟩ : ∃ W2,w1.cell? ⟨w.heap.size+1,0,none⟩=some (.map (some w.heap.size))∧(w1.alloc (.map ses sclk)).cell? ⟨w.heap.size+1,0,none⟩=some (.map (some w.heap.size))∧w.heap.size+1 < wr.heap.size∧w1.heap[sb]?=some (.map ses sclk)∧
       (Instr.mapUpdate 154 (.map (some w.heap.size)) (strv k) (.map (some wr.heap.size))).run Tryz.prog (w1.alloc (.map ses sclk)).drew=.ok () W2∧W2=setB (w1.alloc (.map ses sclk)).drew w.heap.size (.map (en.push { key:=strv k,val:=.map (some wr.heap.size),born:=ck }) (ck+1)):=by
      have hw : w.heap.size < wr.heap.size:=(Array.getElem?_eq_some_iff.1 hR.o).1
      have hg1 : w1.heap[w.heap.size+1]?=some (.cells #[.map (some w.heap.size)] 156 (0,0)):=by
       rw [hgr.block _ (Array.getElem?_eq_some_iff.1 hR.g).1 (by simp)];exact hR.g
      have ho1 : w1.heap[w.heap.size]?=some (.map en ck):=by
       rw [hgr.block _ hw (by simp)];exact hR.o
      have hcg : w1.cell? ⟨w.heap.size+1,0,none⟩=some (.map (some w.heap.size)):=by
       rw [Ze1 hg1];rfl
      have hsbl : sb < w.heap.size:=(Array.getElem?_eq_some_iff.1 hsb).1
      have hsb1 : w1.heap[sb]?=some (.map ses sclk):=by
       rw [hgr.block _ (by omega) (by simp;omega),hR.bel.block sb hsbl];exact hsb
      have hoD : (w1.alloc (.map ses sclk)).drew.heap[w.heap.size]?=some (.map en ck):=by
       show (w1.alloc (.map ses sclk)).heap[w.heap.size]?=_
       rw [YU (by omega)];exact ho1
      have hkn : ∀ x∈en.toList,∃ k',x.key=strv k'∧k'≠k:=fun x hx=>by
       have h3 : (x.key,x.val)∈L.map (fun p=>(p.1.key,Value.map (some p.2))):=by rw [← hR.ent];exact List.mem_map.2 ⟨x,hx,rfl⟩
       obtain ⟨p,hp,h4⟩:=List.mem_map.1 h3
       simp only [Prod.mk.injEq] at h4
       obtain ⟨hm,_⟩:=hR.mem p hp
       obtain ⟨k',hk'⟩:=hks p.1 hm
       refine ⟨k',by rw [← h4.1];exact hk',fun e4=>he2 ?_⟩
       have h5 : p.1=e:=entry_eq_of_key ((stamped_iff es clock).1 hst).2.2 hm he1 (by rw [hk',hek,e4])
       have : p.1.born∈seen.toList:=by rw [← hR.sn];exact List.mem_map.2 ⟨p,hp,rfl⟩
       rw [h5] at this
       simpa using this
      obtain ⟨W2,hmu,hW2⟩:=Zsx (P:=Tryz.prog) (t:=154) (k:=k) (v:=.map (some wr.heap.size)) Tryz.underlying154 (by kernel_rfl) hoD hkn
      have hs1 : w.heap.size+1 < wr.heap.size:=(Array.getElem?_eq_some_iff.1 hR.g).1
      have hg2 : (w1.alloc (.map ses sclk)).heap[w.heap.size+1]?=some (.cells #[.map (some w.heap.size)] 156 (0,0)):=by
       rw [YU (by omega)];exact hg1
      exact ⟨W2,hcg,by rw [Ze1 hg2];rfl,hs1,hsb1,hmu,hW2⟩
     rw [hev,hek]
     go_region_with (first
      | (go_at_call 196;refine (hCl.some sb ses sclk _ ?_).mono ?_;exact hsb1;rintro e w' ⟨rfl,rfl⟩)
      | fail)
     ·have hN:=hR.next hst he1 he2 hev hsb hit1 hgr hsz
      rw [hek] at hN
      go_roundw
      case rel=>(repeat apply Exists.intro);exact ⟨⟨_,_,_,_,_,hN⟩,rfl⟩
      case measure=>rw [(hN.left hb).2,(hR.left hb).2];exact hlt
     ·have hN:=hR.next hst he1 he2 hev hsb hit1 hgr hsz
      rw [hek] at hN
      go_roundw
      case rel=>(repeat apply Exists.intro);exact ⟨⟨_,_,_,_,_,hN⟩,rfl⟩
      case measure=>rw [(hN.left hb).2,(hR.left hb).2];exact hlt
end Go.Proofs.YtedkoimihknggaaGreatDoor.A

namespace Go.Proofs
open Go.RowKit Go.Maps Go.Sort Go.Shelf
def Tryz.cloneA_ren : Go.Shelf.Ren := ⟨fun | 5 => 156 | 7 => 194 | n => n, fun | 23 => 82 | 25 => 9 | 3 => 89 | 4 => 4 | 20 => 20 | n => n, fun | n => n⟩
theorem Tryz.cloneA : Go.Proofs.SlLaysW.n5 Tryz.prog Tryz.cloneA_ren := {
  mixed := by kernel_rfl
  f5 := ⟨Tryz.f156.name, by decide, Tryz.func156.trans (congrArg some (by kernel_rfl))⟩
  f7 := Tryz.func194.trans (congrArg some (by kernel_rfl))
  t4 := Tryz.underlying4
  a4 := Tryz.isAgg4
  z4 := Tryz.sizeOf4
  v4 := Tryz.zeroValue4
  t20 := Tryz.underlying20
  a20 := Tryz.isAgg20
  z20 := Tryz.sizeOf20
  v20 := Tryz.zeroValue20
  t23 := Tryz.underlying82
  a23 := Tryz.isAgg82
  z23 := Tryz.sizeOf82
  v23 := Tryz.zeroValue82 }
def Tryz.cloneB_ren : Go.Shelf.Ren := ⟨fun | 5 => 195 | 7 => 194 | n => n, fun | 23 => 130 | 25 => 9 | 3 => 9 | 4 => 4 | 20 => 20 | n => n, fun | n => n⟩
theorem Tryz.cloneB : Go.Proofs.SlLaysW.n5 Tryz.prog Tryz.cloneB_ren := {
  mixed := by kernel_rfl
  f5 := ⟨Tryz.f195.name, by decide, Tryz.func195.trans (congrArg some (by kernel_rfl))⟩
  f7 := Tryz.func194.trans (congrArg some (by kernel_rfl))
  t4 := Tryz.underlying4
  a4 := Tryz.isAgg4
  z4 := Tryz.sizeOf4
  v4 := Tryz.zeroValue4
  t20 := Tryz.underlying20
  a20 := Tryz.isAgg20
  z20 := Tryz.sizeOf20
  v20 := Tryz.zeroValue20
  t23 := Tryz.underlying130
  a23 := Tryz.isAgg130
  z23 := Tryz.sizeOf130
  v23 := Tryz.zeroValue130 }
def Tryz.cloneC_ren : Go.Shelf.Ren := ⟨fun | 5 => 196 | 7 => 194 | n => n, fun | 23 => 151 | 25 => 9 | 3 => 157 | 4 => 4 | 20 => 20 | n => n, fun | n => n⟩
theorem Tryz.cloneC : Go.Proofs.SlLaysW.n5 Tryz.prog Tryz.cloneC_ren := {
  mixed := by kernel_rfl
  f5 := ⟨Tryz.f196.name, by decide, Tryz.func196.trans (congrArg some (by kernel_rfl))⟩
  f7 := Tryz.func194.trans (congrArg some (by kernel_rfl))
  t4 := Tryz.underlying4
  a4 := Tryz.isAgg4
  z4 := Tryz.sizeOf4
  v4 := Tryz.zeroValue4
  t20 := Tryz.underlying20
  a20 := Tryz.isAgg20
  z20 := Tryz.sizeOf20
  v20 := Tryz.zeroValue20
  t23 := Tryz.underlying151
  a23 := Tryz.isAgg151
  z23 := Tryz.sizeOf151
  v23 := Tryz.zeroValue151 }
def Tryz.keysA_ren : Go.Shelf.Ren := ⟨fun | 7 => 171 | 10 => 202 | n => n, fun | 23 => 130 | 26 => 9 | 3 => 9 | 28 => 208 | 0 => 0 | 27 => 207 | 33 => 143 | 4 => 4 | n => n, fun | n => n⟩
theorem Tryz.keysA : Go.Proofs.SlLaysZ.n7 Tryz.prog Tryz.keysA_ren := {
  mixed := by kernel_rfl
  f7 := ⟨Tryz.f171.name, by decide, Tryz.func171.trans (congrArg some (by kernel_rfl))⟩
  f10 := ⟨Tryz.f202.name, by decide, Tryz.func202.trans (congrArg some (by kernel_rfl))⟩
  t0 := Tryz.underlying0
  a0 := Tryz.isAgg0
  z0 := Tryz.sizeOf0
  v0 := Tryz.zeroValue0
  t4 := Tryz.underlying4
  a4 := Tryz.isAgg4
  z4 := Tryz.sizeOf4
  v4 := Tryz.zeroValue4
  t23 := Tryz.underlying130
  a23 := Tryz.isAgg130
  z23 := Tryz.sizeOf130
  v23 := Tryz.zeroValue130
  t26 := Tryz.underlying9
  a26 := Tryz.isAgg9
  z26 := Tryz.sizeOf9
  v26 := Tryz.zeroValue9
  t27 := Tryz.underlying207
  a27 := Tryz.isAgg207
  z27 := Tryz.sizeOf207
  v27 := Tryz.zeroValue207
  t28 := Tryz.underlying208
  a28 := Tryz.isAgg208
  z28 := Tryz.sizeOf208
  v28 := Tryz.zeroValue208
  t33 := Tryz.underlying143
  a33 := Tryz.isAgg143
  z33 := Tryz.sizeOf143
  v33 := Tryz.zeroValue143 }
def Tryz.keysB_ren : Go.Shelf.Ren := ⟨fun | 7 => 174 | 10 => 204 | n => n, fun | 23 => 82 | 26 => 9 | 3 => 89 | 28 => 208 | 0 => 0 | 27 => 207 | 33 => 143 | 4 => 4 | n => n, fun | n => n⟩
theorem Tryz.keysB : Go.Proofs.SlLaysZ.n7 Tryz.prog Tryz.keysB_ren := {
  mixed := by kernel_rfl
  f7 := ⟨Tryz.f174.name, by decide, Tryz.func174.trans (congrArg some (by kernel_rfl))⟩
  f10 := ⟨Tryz.f204.name, by decide, Tryz.func204.trans (congrArg some (by kernel_rfl))⟩
  t0 := Tryz.underlying0
  a0 := Tryz.isAgg0
  z0 := Tryz.sizeOf0
  v0 := Tryz.zeroValue0
  t4 := Tryz.underlying4
  a4 := Tryz.isAgg4
  z4 := Tryz.sizeOf4
  v4 := Tryz.zeroValue4
  t23 := Tryz.underlying82
  a23 := Tryz.isAgg82
  z23 := Tryz.sizeOf82
  v23 := Tryz.zeroValue82
  t26 := Tryz.underlying9
  a26 := Tryz.isAgg9
  z26 := Tryz.sizeOf9
  v26 := Tryz.zeroValue9
  t27 := Tryz.underlying207
  a27 := Tryz.isAgg207
  z27 := Tryz.sizeOf207
  v27 := Tryz.zeroValue207
  t28 := Tryz.underlying208
  a28 := Tryz.isAgg208
  z28 := Tryz.sizeOf208
  v28 := Tryz.zeroValue208
  t33 := Tryz.underlying143
  a33 := Tryz.isAgg143
  z33 := Tryz.sizeOf143
  v33 := Tryz.zeroValue143 }
def Tryz.keysC_ren : Go.Shelf.Ren := ⟨fun | 7 => 207 | 10 => 216 | n => n, fun | 23 => 154 | 26 => 9 | 3 => 151 | 28 => 208 | 0 => 0 | 27 => 207 | 33 => 143 | 4 => 4 | n => n, fun | n => n⟩
theorem Tryz.keysC : Go.Proofs.SlLaysZ.n7 Tryz.prog Tryz.keysC_ren := {
  mixed := by kernel_rfl
  f7 := ⟨Tryz.f207.name, by decide, Tryz.func207.trans (congrArg some (by kernel_rfl))⟩
  f10 := ⟨Tryz.f216.name, by decide, Tryz.func216.trans (congrArg some (by kernel_rfl))⟩
  t0 := Tryz.underlying0
  a0 := Tryz.isAgg0
  z0 := Tryz.sizeOf0
  v0 := Tryz.zeroValue0
  t4 := Tryz.underlying4
  a4 := Tryz.isAgg4
  z4 := Tryz.sizeOf4
  v4 := Tryz.zeroValue4
  t23 := Tryz.underlying154
  a23 := Tryz.isAgg154
  z23 := Tryz.sizeOf154
  v23 := Tryz.zeroValue154
  t26 := Tryz.underlying9
  a26 := Tryz.isAgg9
  z26 := Tryz.sizeOf9
  v26 := Tryz.zeroValue9
  t27 := Tryz.underlying207
  a27 := Tryz.isAgg207
  z27 := Tryz.sizeOf207
  v27 := Tryz.zeroValue207
  t28 := Tryz.underlying208
  a28 := Tryz.isAgg208
  z28 := Tryz.sizeOf208
  v28 := Tryz.zeroValue208
  t33 := Tryz.underlying143
  a33 := Tryz.isAgg143
  z33 := Tryz.sizeOf143
  v33 := Tryz.zeroValue143 }
def Tryz.collA_ren : Go.Shelf.Ren := ⟨fun | 8 => 200 | 11 => 208 | n => n, fun | 26 => 9 | 28 => 208 | 24 => 25 | 0 => 0 | 33 => 143 | 4 => 4 | n => n, fun | n => n⟩
theorem Tryz.collA : Go.Proofs.SlLaysZ.n8 Tryz.prog Tryz.collA_ren := {
  mixed := by kernel_rfl
  f8 := ⟨Tryz.f200.name, by decide, Tryz.func200.trans (congrArg some (by kernel_rfl))⟩
  f11 := ⟨Tryz.f208.name, by decide, Tryz.func208.trans (congrArg some (by kernel_rfl))⟩
  t0 := Tryz.underlying0
  a0 := Tryz.isAgg0
  z0 := Tryz.sizeOf0
  v0 := Tryz.zeroValue0
  t24 := Tryz.underlying25
  a24 := Tryz.isAgg25
  z24 := Tryz.sizeOf25
  v24 := Tryz.zeroValue25
  t26 := Tryz.underlying9
  a26 := Tryz.isAgg9
  z26 := Tryz.sizeOf9
  v26 := Tryz.zeroValue9
  t28 := Tryz.underlying208
  a28 := Tryz.isAgg208
  z28 := Tryz.sizeOf208
  v28 := Tryz.zeroValue208
  i26 := by kernel_rfl }
def Tryz.sortA_ren : Go.Shelf.Ren := ⟨fun | 6 => 201 | 15 => 210 | 14 => 209 | 28 => 225 | 29 => 226 | 20 => 217 | 21 => 218 | 22 => 219 | 23 => 220 | 24 => 221 | 25 => 222 | 26 => 223 | 27 => 224 | 46 => 234 | 47 => 235 | 48 => 236 | 49 => 237 | 50 => 238 | 57 => 242 | n => n, fun | 22 => 25 | 24 => 9 | 25 => 210 | 3 => 3 | 39 => 219 | 0 => 0 | 53 => 248 | 55 => 113 | 4 => 4 | 46 => 241 | 45 => 240 | 50 => 245 | 5 => 5 | 9 => 9 | 66 => 253 | 70 => 257 | 76 => 261 | 77 => 262 | n => n, fun | n => n⟩
theorem Tryz.sortA : Go.Proofs.SlLaysF.n6 Tryz.prog Tryz.sortA_ren := {
  mixed := by kernel_rfl
  f6 := ⟨Tryz.f201.name, by decide, Tryz.func201.trans (congrArg some (by kernel_rfl))⟩
  f14 := ⟨Tryz.f209.name, by decide, Tryz.func209.trans (congrArg some (by kernel_rfl))⟩
  f15 := Tryz.func210.trans (congrArg some (by kernel_rfl))
  f20 := ⟨Tryz.f217.name, by decide, Tryz.func217.trans (congrArg some (by kernel_rfl))⟩
  f21 := ⟨Tryz.f218.name, by decide, Tryz.func218.trans (congrArg some (by kernel_rfl))⟩
  f22 := ⟨Tryz.f219.name, by decide, Tryz.func219.trans (congrArg some (by kernel_rfl))⟩
  f23 := ⟨Tryz.f220.name, by decide, Tryz.func220.trans (congrArg some (by kernel_rfl))⟩
  f24 := ⟨Tryz.f221.name, by decide, Tryz.func221.trans (congrArg some (by kernel_rfl))⟩
  f25 := ⟨Tryz.f222.name, by decide, Tryz.func222.trans (congrArg some (by kernel_rfl))⟩
  f26 := ⟨Tryz.f223.name, by decide, Tryz.func223.trans (congrArg some (by kernel_rfl))⟩
  f27 := ⟨Tryz.f224.name, by decide, Tryz.func224.trans (congrArg some (by kernel_rfl))⟩
  f28 := Tryz.func225.trans (congrArg some (by kernel_rfl))
  f29 := Tryz.func226.trans (congrArg some (by kernel_rfl))
  f46 := ⟨Tryz.f234.name, by decide, Tryz.func234.trans (congrArg some (by kernel_rfl))⟩
  f47 := Tryz.func235.trans (congrArg some (by kernel_rfl))
  f48 := Tryz.func236.trans (congrArg some (by kernel_rfl))
  f49 := ⟨Tryz.f237.name, by decide, Tryz.func237.trans (congrArg some (by kernel_rfl))⟩
  f50 := ⟨Tryz.f238.name, by decide, Tryz.func238.trans (congrArg some (by kernel_rfl))⟩
  f57 := ⟨Tryz.f242.name, by decide, Tryz.func242.trans (congrArg some (by kernel_rfl))⟩
  t0 := Tryz.underlying0
  a0 := Tryz.isAgg0
  z0 := Tryz.sizeOf0
  v0 := Tryz.zeroValue0
  t3 := Tryz.underlying3
  a3 := Tryz.isAgg3
  z3 := Tryz.sizeOf3
  v3 := Tryz.zeroValue3
  t4 := Tryz.underlying4
  a4 := Tryz.isAgg4
  z4 := Tryz.sizeOf4
  v4 := Tryz.zeroValue4
  t5 := Tryz.underlying5
  a5 := Tryz.isAgg5
  z5 := Tryz.sizeOf5
  v5 := Tryz.zeroValue5
  t9 := Tryz.underlying9
  a9 := Tryz.isAgg9
  z9 := Tryz.sizeOf9
  v9 := Tryz.zeroValue9
  t22 := Tryz.underlying25
  a22 := Tryz.isAgg25
  z22 := Tryz.sizeOf25
  v22 := Tryz.zeroValue25
  a24 := Tryz.isAgg9
  z24 := Tryz.sizeOf9
  t25 := Tryz.underlying210
  a25 := Tryz.isAgg210
  z25 := Tryz.sizeOf210
  v25 := Tryz.zeroValue210
  t39 := Tryz.underlying219
  a39 := Tryz.isAgg219
  z39 := Tryz.sizeOf219
  v39 := Tryz.zeroValue219
  t45 := Tryz.underlying240
  a45 := Tryz.isAgg240
  z45 := Tryz.sizeOf240
  v45 := Tryz.zeroValue240
  t46 := Tryz.underlying241
  a46 := Tryz.isAgg241
  z46 := Tryz.sizeOf241
  v46 := Tryz.zeroValue241
  t50 := Tryz.underlying245
  a50 := Tryz.isAgg245
  z50 := Tryz.sizeOf245
  v50 := Tryz.zeroValue245
  t53 := Tryz.underlying248
  a53 := Tryz.isAgg248
  z53 := Tryz.sizeOf248
  v53 := Tryz.zeroValue248
  t55 := Tryz.underlying113
  a55 := Tryz.isAgg113
  z55 := Tryz.sizeOf113
  v55 := Tryz.zeroValue113
  t66 := Tryz.underlying253
  a66 := Tryz.isAgg253
  z66 := Tryz.sizeOf253
  v66 := Tryz.zeroValue253
  t70 := Tryz.underlying257
  a70 := Tryz.isAgg257
  z70 := Tryz.sizeOf257
  v70 := Tryz.zeroValue257
  t76 := Tryz.underlying261
  a76 := Tryz.isAgg261
  z76 := Tryz.sizeOf261
  v76 := Tryz.zeroValue261
  t77 := Tryz.underlying262
  a77 := Tryz.isAgg262
  z77 := Tryz.sizeOf262
  v77 := Tryz.zeroValue262 }
end Go.Proofs
namespace Go.Proofs.YtedkoimihknggaaGreatDoor.A
set_option linter.unusedVariables false
set_option linter.unusedSimpArgs false
open Go.RowKit Go.Maps Go.Sort Go.Shelf Go.Proofs
theorem clA : ZfU Tryz.prog 156 where
 c:=⟨Tryz.f156,Tryz.func156,by kernel_rfl,by kernel_rfl⟩
 nil:=fun w=>AnyW.maps_Clone_nil Tryz.cloneA w
 some:=fun b es clock w hb=>AnyW.maps_Clone Tryz.cloneA b es clock w hb
theorem clB : ZfU Tryz.prog 195 where
 c:=⟨Tryz.f195,Tryz.func195,by kernel_rfl,by kernel_rfl⟩
 nil:=fun w=>AnyW.maps_Clone_nil Tryz.cloneB w
 some:=fun b es clock w hb=>AnyW.maps_Clone Tryz.cloneB b es clock w hb
theorem clC : ZfU Tryz.prog 196 where
 c:=⟨Tryz.f196,Tryz.func196,by kernel_rfl,by kernel_rfl⟩
 nil:=fun w=>AnyW.maps_Clone_nil Tryz.cloneC w
 some:=fun b es clock w hb=>AnyW.maps_Clone Tryz.cloneC b es clock w hb
def ZbX (x y : List UInt8) : Int:=if x < y then -1 else if y < x then 1 else 0
theorem ZxX (x : List UInt8) (w : World) : Calls Tryz.prog 211 #[encStr x] w fun e w'=>e=.returned (.bool false)∧w'=w:=by
 go_enter Tryz.func211,Tryz.ntmps211
 go_wp2
 go_ret
 exact ⟨by simp,rfl⟩
theorem ZjW (x y : List UInt8) : x < y∨x=y∨y < x:=by
 by_cases h : x < y
 ·exact .inl h
 ·by_cases h2 : y < x
  ·exact .inr (.inr h2)
  ·exact .inr (.inl (List.le_antisymm h2 h))
theorem Zvn (x y : List UInt8) (w : World) : Calls Tryz.prog 203 #[encStr x,encStr y] w fun e w'=>e=.returned (.int .i64 (ZbX x y))∧w'=w:=by
 have e211 : ∀ args w,(callFunc 211 args).run Tryz.prog w=.ok (.enter 211 args) w:=enters_of Tryz.func211 (by kernel_rfl) rfl
 have hb : Op.bytesLess x y=decide (x < y):=bytesLess_eq x y
 have ht:=ZjW x y
 have hn : ∀ a : List UInt8,¬ a < a:=fun a=>List.lt_irrefl a
 have has : x < y→¬ y < x:=fun h=>List.lt_asymm h
 go_enter Tryz.func203,Tryz.ntmps203
 go_wp2_with (go_at_call 211;refine (ZxX _ _).mono ?_;rintro e w' ⟨rfl,hw⟩;rw [hw])
 all_goals (go_ret;refine ⟨?_,rfl⟩;unfold ZbX;rw [hb] at *;by_cases h1 : x < y <;> by_cases h2 : y < x <;> simp_all <;> exact absurd h2 (List.lt_irrefl _))
theorem ZpS (x y : List UInt8) (w : World) : Calls Tryz.prog 172 #[encStr x,encStr y] w fun e w'=>e=.returned (.int .i64 (ZbX x y))∧w'=w:=by
 have e203 : ∀ args w,(callFunc 203 args).run Tryz.prog w=.ok (.enter 203 args) w:=enters_of Tryz.func203 (by kernel_rfl) rfl
 go_enter Tryz.func172,Tryz.ntmps172
 go_wp2_with (go_at_call 203;refine (Zvn _ _ _).mono ?_;rintro e w' ⟨rfl,hw⟩;rw [hw])
 go_ret
 exact ⟨rfl,rfl⟩
theorem ZxJ (blk off size : Nat) (w : World) : CmpLays1 Tryz.prog 172 #[] encStr ZbX blk off size w:=fun m os dk hd x y=>
 (ZpS x y _).mono fun e w' ⟨he,hw⟩=>⟨he,0,#[],by rw [hw];simp [grow,World.drewN]⟩
theorem Zge (x y : List UInt8) : ltOf ZbX x y=decide (x < y):=by
 unfold ltOf ZbX
 by_cases h1 : x < y
 ·simp [h1]
 ·by_cases h2 : y < x <;> simp [h1,h2]
theorem ZzD : SWO (ltOf ZbX) where
 irrefl x:=by rw [Zge];exact decide_eq_false (List.lt_irrefl x)
 trans x y z h1 h2:=by rw [Zge] at *;simp only [decide_eq_true_eq] at *;exact List.lt_trans h1 h2
 ntrans x y z h1 h2:=by
  rw [Zge] at *
  simp only [decide_eq_false_iff_not] at *
  exact List.le_trans h2 h1
theorem Zvs {ss : List (List UInt8)} {d' : Array (List UInt8)} (hp : PermIn 0 ss.toArray.size ss.toArray d') (hs : SortedIn (ltOf ZbX) 0 ss.toArray.size d') : d'=(ss.mergeSort fun x y=>decide (x≤y)).toArray:=by
 have hsz : d'.size=ss.length:=by simpa using hp.1
 have hperm : d'.toList.Perm ss:=by
  have h3 : d'.toList.Perm (ss.take d'.size):=by simpa [← hsz] using hp.2.2
  rwa [List.take_of_length_le (by omega)] at h3
 have hpw : d'.toList.Pairwise fun x y=>(decide (x≤y))=true:=by
  rw [List.pairwise_iff_getElem]
  intro i j hi hj hij
  have hi' : i < d'.size:=by simpa using hi
  have hj' : j < d'.size:=by simpa using hj
  have:=hs i j (Nat.zero_le _) hij (by simpa [hsz] using hj')
  rw [Zge,getElem!_pos d' j hj',getElem!_pos d' i hi'] at this
  simp only [decide_eq_false_iff_not] at this
  simp only [Array.getElem_toList,decide_eq_true_eq]
  exact this
 have h1 : d'.toList.mergeSort (fun x y=>decide (x≤y))=d'.toList:=List.mergeSort_of_pairwise hpw
 have h2:=mergeSort_of_perm hperm
 apply Array.ext'
 rw [← h1]
 exact h2
theorem ZwR {g : FuncId} {args : List Value} {v : Value} {n : Nat} (hg : g < Zav) (hc : Zbp Tryz.prog g) (hx : ∀ w : World,RVs (ι0 Tryz.prog.globals.size) args args) (hrun : ∃ H',run Tryz.prog (fun _=>none) lvs n g args (List.replicate Tryz.prog.globals.size Zg.dead)=some (v,H')) (w : World) :
  Calls Tryz.prog g args.toArray w fun e w'=>∃ v',e=.returned v'∧Go.RowKit.Below w.heap.size w w':=by
 obtain ⟨H',hrun⟩:=hrun
 have hs:=Zf7 (P:=Tryz.prog) (prim:=fun _=>none) (lvs:=lvs) (by kernel_rfl) (fun b g m h=>by cases h) n (b0 w) g args _ v H' hrun
 rcases hs with ⟨_,hC | ⟨e,⟨fn',h1,_,h2,_⟩,_⟩⟩ | ⟨hno,_⟩
 ·obtain ⟨_,hC⟩:=hC
  refine (hC (ι0 Tryz.prog.globals.size) w args Zy0 (hx w)).mono fun e w' ⟨ι1,v',_,he,_,hS⟩=>⟨v',he,?_⟩
  exact ⟨hS.rest.1,hS.rest.2.1,hS.rest.2.2,hS.size,hS.old⟩
 ·obtain ⟨fn,h3,_,h4⟩:=hc
  rw [h3] at h1;cases h1
  rw [h4] at h2;cases h2
 ·exact absurd hg (Nat.not_lt_of_le hno)
noncomputable abbrev R0 (n : Nat) : Zc:=run Tryz.prog (fun _=>none) lvs n
section
variable {H : Zd} {n : Nat} {f : Value}
theorem Zyq : R0 (n+1) QQ [.slice none 0 0,iv 0,iv 0,f] H=some (.tuple #[],H):=by
 rw [R0,Zbu rfl]
 unfold ZQ
 have w1 : IntKind.i64.wrap (0+1)=1:=w64 (by omega) (by omega)
 rw [Za ZC,w1]
 refine (Qh (j:=0) (vs:=[]) (H':=H) (ZV ?_)).trans ?_
 ·simp [ZQ.l1,↓ZR,ZS,↓Qu,Z7,Z9,Z8,↓Zb,JG,Zl,J7,Qc,Jm,Qi,Jn,Jc,QC,Jo,QD,QJ,QK,QM,Qj,Zn,ZU,Ys,Ye,Q3,QP,JM,ZC,QI,Jy,JH,Jx,ZG,Zo,Zk,Jj,ZT,Qp,JD,JL,Ja,JI,↓YI,JJ,↓g_r,Yw,Bool.not_true,Bool.not_false,Bool.false_eq_true,Bool.true_eq_false,reduceIte,List.tail_cons,List.headD_cons,decide_true,decide_false,cond_true,cond_false,Nat.beq_refl,KD,JV,Qd,Z4,ZH,Q7,Yr,YC,Y9,KE,Yk,Yh,Yj,ZE,List.replicate,ZA,Zz,QU,QS,QT,Zj,JA,ZP,ZY]
 ·rw [ZE];rfl
theorem ZyR {l : Value} : R0 (n+2) QB [.slice none 0 0,iv 0,iv 0,l,f] H=some (.tuple #[],H):=by
 have e1 : run Tryz.prog (fun _=>none) lvs (n+1) QQ [.slice none 0 0,iv 0,iv 0,f] H=_:=Zyq
 rw [R0,Zc8 rfl]
 unfold Q2
 refine (Kj (v:=.tuple #[]) (H':=H) (JX ?_)).trans rfl
 have w1 : IntKind.i64.wrap (0 - 0)=0:=w64 (by omega) (by omega)
 rw [YC]
 unfold Q2.l1
 refine Kj ?_
 rw [Za QI,w1,Za Jj,Zb,if_pos (by simp),Za e1]
 rfl
theorem Zxz {s : ByteArray} {i : Nat} (hi : i < s.size) (q : IntKind) (H : Zd) : ∃ b : UInt8,ixs (.string s) (.int q i) H=some (.int .u8 b.toNat,H):=by
 refine ⟨s[i],?_⟩
 unfold ixs
 simp only [Int.toNat_natCast]
 rw [if_pos (by omega),getElem?_pos s i hi]
set_option maxRecDepth 100000 in
theorem ZyT : ∃ v,R0 (n+2) Zca [.int .u64 0] H=some (v,H):=by
 have e : ∃ v,R0 (n+1) Zbf [.int .u64 0] H=some (v,H):=by
  rw [R0,ZkW rfl]
  unfold Zde
  have w1 : IntKind.u8.wrap 0=((0 : Nat) : Int):=by rw [wu8];rfl
  generalize ht : (⟨#[0,1,2,2,3,3,3,3,4,4,4,4,4,4,4,4,5,5,5,5,5,5,5,5,5,5,5,5,5,5,5,5,6,6,6,6,6,6,6,6,6,6,6,6,6,6,6,6,6,6,6,6,6,6,6,6,6,6,6,6,6,6,6,6,7,7,7,7,7,7,7,7,7,7,7,7,7,7,7,7,7,7,7,7,7,7,7,7,7,7,7,7,7,7,7,7,7,7,7,7,7,7,7,7,7,7,7,7,7,7,7,7,7,7,7,7,7,7,7,7,7,7,7,7,7,7,7,7,8,8,8,8,8,8,8,8,8,8,8,8,8,8,8,8,8,8,8,8,8,8,8,8,8,8,8,8,8,8,8,8,8,8,8,8,8,8,8,8,8,8,8,8,8,8,8,8,8,8,8,8,8,8,8,8,8,8,8,8,8,8,8,8,8,8,8,8,8,8,8,8,8,8,8,8,8,8,8,8,8,8,8,8,8,8,8,8,8,8,8,8,8,8,8,8,8,8,8,8,8,8,8,8,8,8,8,8,8,8,8,8,8,8,8,8,8,8,8,8,8,8,8,8,8,8,8,8]⟩ : ByteArray)=tab
  have hs : tab.size=256:=by rw [← ht];rfl
  obtain ⟨b,hb⟩:=Zxz (s:=tab) (i:=0) (by omega) .u8 H
  refine ⟨iv (IntKind.i64.wrap (0+IntKind.i64.wrap b.toNat)),?_⟩
  rw [Za Qp]
  refine (QZ (vs:=[.int .u64 0,iv 0]) (H':=H) (by rw [Zb,if_neg (by simp)];rfl)).trans ?_
  rw [Qd,Za Qp]
  refine (QZ (vs:=[.int .u64 0,iv 0]) (H':=H) (by rw [Zb,if_neg (by simp)];rfl)).trans ?_
  rw [Qd,Za Qp]
  refine (QZ (vs:=[.int .u64 0,iv 0]) (H':=H) (by rw [Zb,if_neg (by simp)];rfl)).trans ?_
  rw [Qd,Za Qj,w1,Za hb,Za Qj,Za ZC]
  rfl
 obtain ⟨v,e⟩:=e
 refine ⟨v,?_⟩
 rw [R0,Zns rfl]
 unfold Zew
 rw [Zb,if_neg (by simp),Za e]
 rfl
theorem Zxr : R0 (n+3) KM [.slice none 0 0,f] H=some (.tuple #[],H):=by
 obtain ⟨v,e1⟩:=ZyT (n:=n) (H:=H)
 have e2 : R0 (n+2) QB [.slice none 0 0,iv 0,iv 0,v,f] H=some (.tuple #[],H):=ZyR
 rw [R0,Zdb rfl]
 unfold KL
 have w1 : IntKind.u64.wrap ((0 : Nat) : Int)=0:=by rw [Zof];rfl
 rw [Za QK,Za Qj,w1,Za e1]
 refine (Za e2).trans rfl
end
theorem Zwb (w : World) : Calls Tryz.prog 201 #[.slice none 0 0,.func (.func 172) #[] #[]] w fun e w'=>∃ v',e=.returned v'∧Go.RowKit.Below w.heap.size w w':=
 ZwR (args:=[.slice none 0 0,.func (.func 172) #[] #[]]) (n:=3) (by decide) ⟨Tryz.f201,Tryz.func201,by kernel_rfl,by kernel_rfl⟩ (fun w=>.cons (.sc rfl) (.cons (.fn (fun l h=>by cases h) rfl (fun i hi=>by cases hi) rfl (fun i hi=>by cases hi)) .nil)) ⟨_,Zxr (n:=0)⟩ w
theorem Zhe {gk : FuncId} (hg : ∀ args w,(callFunc gk args).run Tryz.prog w=.ok (.enter gk args) w)
  (hseq : ∀ (w : World) (Bm b : Nat) (es : Array MapEntry) (clock : Nat) (ks : List (List UInt8)),Bm < w.heap.size→w.cell? ⟨Bm,0,none⟩=some (.map (some b))→w.heap[b]?=some (.map es clock)→es.toList.map (·.key)=ks.map strv→Go.MapKept.Stamped es clock→
   (∀ k∈ks,k.length≤1000000)→ks.length≤1000000→SeqGives Fence.wide 3 Tryz.prog gk #[.pointer (some ⟨Bm,0,none⟩)] encStr (fun ss=>ss.Perm ks) ks.length w) : Zg6 Tryz.prog 170 gk 172 where
 c:=⟨Tryz.f170,Tryz.func170,by kernel_rfl,by kernel_rfl⟩
 run:=fun w Bm b es clock ks hB hc hb hk hst hl hf=>by
  have e201 : ∀ args w,(callFunc 201 args).run Tryz.prog w=.ok (.enter 201 args) w:=enters_of Tryz.func201 (by kernel_rfl) rfl
  have e172 : ∀ args w,(callFunc 172 args).run Tryz.prog w=.ok (.enter 172 args) w:=enters_of Tryz.func172 (by kernel_rfl) rfl
  have hmax : ks.length≤maxLen:=Nat.le_trans hf (by decide)
  have cC:=AnyZ.collect_in Tryz.collA Fence.wide 5 trivial trivial rfl (by omega) gk #[.pointer (some ⟨Bm,0,none⟩)] trivial hg _ _ hmax (by omega) w (hseq w Bm b es clock ks hB hc hb hk hst hl hf)
  have cC:=(callsIn_wide (n:=5)).1 cC
  change Calls Tryz.prog 200 _ _ _ at cC
  go_enter Tryz.func170,Tryz.ntmps170
  go_wp2_with (go_at_call 200;refine cC.mono ?_;rintro e W ⟨v,ss,rfl,hS,hrow,hnil,hbl⟩)
  have hlen : ss.length=ks.length:=hS.length_eq
  rcases hrow.2 with ⟨rfl,hz⟩ | ⟨gb,cap,cur,rfl,hbase,hgb,r1,r2,r3,r4⟩
  ·have hss : ss=[]:=List.eq_nil_of_length_eq_zero hz
   go_wp2_with (go_at_call 201;refine (Zwb W).mono ?_;rintro e w' ⟨v',rfl,hb2⟩)
   go_ret
   have hks : ks=[]:=List.eq_nil_of_length_eq_zero (by rw [← hlen,hss];rfl)
   subst hks
   exact ⟨_,0,rfl,⟨by simp [ZM],.inl ⟨rfl,rfl⟩⟩,by simp,hbl.trans (hb2.mono (by have:=hbl.size;omega))⟩
  ·have hH : Holds encStr W gb 0 ss.toArray:=holds_of_block hgb (by simpa using r4)
   have hgl : gb < W.heap.size:=(Array.getElem?_eq_some_iff.1 hgb).1
   have cS:=Any.slices_SortFunc Tryz.sortA encStr (fun _=>rfl) ZbX ZzD 172 #[] gb 0 cap ss.toArray W e172 (ZxJ gb 0 _ W) hH hgl (by simp;omega)
   change Calls Tryz.prog 201 #[.slice (some ⟨gb,0,none⟩) ss.length cap,.func (.func 172) #[] #[]] W _ at cS
   go_wp2_with (go_at_call 201;refine cS.mono ?_;rintro e w' ⟨rfl,d',nn,os,hp,hs,rfl⟩)
   go_ret
   have hd:=Zvs hp hs
   subst hd
   have hks : ZM ks=ss.mergeSort (fun x y=>decide (x≤y)):=(mergeSort_of_perm hS).symm
   rw [← hlen,hks]
   exact ⟨_,_,rfl,ownsRow_sorted (by simp) hbase hgb r1 r2 r3,hnil.trans ⟨fun h=>List.eq_nil_of_length_eq_zero (by rw [← hlen,h];rfl),fun h=>List.eq_nil_of_length_eq_zero (by rw [hlen,h];rfl)⟩,hbl.grown (grownBy_sorted _) hbl.size (fun j hj=>by cases hj;exact hbase)⟩
section
variable {H : Type}
def Zrz (v : Value) : Option (DataW H × List MemPlace):=some (.nil,[])
theorem own_of {P : Program} {k : TypeId} (hk : P.underlying k=some .string) {w : World} {b clock : Nat} {es : Array MapEntry} {ks : List (List UInt8)} (hb : w.heap[b]?=some (.map es clock)) (hks : es.toList.map (·.key)=ks.map strv) (hst : Go.MapKept.Stamped es clock)
  (hl : ∀ k∈ks,k.length≤1000000) (hf : ks.length≤1000000) : ∃ D0 : DataW H,w.ownsMap P k Zrz b ks.length D0∧ks.Perm (strKeys D0)∧Maps.size D0=ks.length:=by
 have hsz : es.size=ks.length:=by
  have:=congrArg List.length hks
  simpa using this
 have hrd : ∀ (x : MapEntry) (s : List UInt8),x.key=strv s→s.length≤1000000→Go.WideElems.rd (H:=H) P k Zrz x=some (.string s,.nil):=fun x s hs hlen=>by
  have h1 : (⟨s.toArray⟩ : ByteArray).size≤maxLen:=Nat.le_trans (by simpa [ByteArray.size] using hlen) (by decide)
  simp [Go.WideElems.rd,hs,keyOf,hk,mapKey,Zrz,h1,strv]
 have hmap : ∀ (l : List MapEntry) (q : List (List UInt8)),l.map (·.key)=q.map strv→(∀ s∈q,s.length≤1000000)→l.map (Go.WideElems.rg (H:=H) P k Zrz)=q.map fun s=>(Lit.string s,DataW.nil):=by
  intro l
  induction l with
  | nil=>intro q h _;cases q with | nil=>rfl | cons a q=>simp at h
  | cons x l ih=>
   intro q h hq
   cases q with
   | nil=>simp at h
   | cons a q=>
    simp only [List.map_cons,List.cons.injEq] at h
    rw [List.map_cons,List.map_cons,ih q h.2 (fun s hs=>hq s (List.mem_cons_of_mem _ hs))]
    congr 1
    unfold Go.WideElems.rg
    rw [hrd x a h.1 (hq a (by simp))]
    rfl
 refine ⟨.map ((es.toList.map (Go.WideElems.rg P k Zrz)).foldr DataW.insert []),⟨es,clock,hb,⟨by rw [hsz];exact Nat.le_trans hf (by decide),hst,fun x hx=>?_⟩,by omega,rfl⟩,?_,?_⟩
 ·have : x.key∈ks.map strv:=by rw [← hks];exact List.mem_map.2 ⟨x,hx,rfl⟩
  obtain ⟨s,h1,h2⟩:=List.mem_map.1 this
  exact ⟨_,hrd x s h2.symm (hl s h1)⟩
 ·rw [hmap _ _ hks hl]
  have h1:=(Go.WideShapes.sorted_perm (H:=H) (ks.map fun s=>(Lit.string s,DataW.nil))).map fun p=>Go.strOf p.1
  have h2 : (ks.map fun s=>(Lit.string s,(DataW.nil : DataW H))).map (fun p=>Go.strOf p.1)=ks:=by
   rw [List.map_map];exact (List.map_congr_left fun a _=>rfl).trans (List.map_id ks)
  rw [h2] at h1
  exact h1.symm
 ·rw [hmap _ _ hks hl]
  have:=(Go.WideShapes.sorted_perm (H:=H) (ks.map fun s=>(Lit.string s,DataW.nil))).length_eq
  rw [List.length_map] at this
  exact this
end
theorem Zmc {g Bm n : Nat} {ks ks' : List (List UInt8)} {w : World} (h : SeqGives Fence.wide 3 Tryz.prog g #[.pointer (some ⟨Bm,0,none⟩)] encStr (fun ss=>ss.Perm ks') n w) (hn : n=ks.length) (hp : ks.Perm ks') : SeqGives Fence.wide 3 Tryz.prog g #[.pointer (some ⟨Bm,0,none⟩)] encStr (fun ss=>ss.Perm ks) ks.length w:=by
 subst hn
 intro l J W hW hJ hY h0
 refine (h l J W hW hJ hY h0).mono fun e w' ⟨h1,xs,h2,h3⟩=>⟨h1,xs,h2.trans hp.symm,h3⟩
theorem keysA : Zg6 Tryz.prog 170 202 172:=Zhe (enters_of Tryz.func202 (by kernel_rfl) rfl) fun w Bm b es clock ks hB hc hb hk hst hl hf=>by
 obtain ⟨D0,hown,hp,hs⟩:=own_of (H:=Unit) (P:=Tryz.prog) (k:=Tryz.keysA_ren.t 26) (by kernel_rfl) hb hk hst hl hf
 exact Zmc (AnyZ.keys_gives (ρ:=Tryz.keysA_ren) { Tryz.keysA with } Fence.wide 3 trivial rfl (by omega) Bm b ks.length D0 w hB hc hown) hs hp
theorem keysB : Zg6 Tryz.prog 170 204 172:=Zhe (enters_of Tryz.func204 (by kernel_rfl) rfl) fun w Bm b es clock ks hB hc hb hk hst hl hf=>by
 obtain ⟨D0,hown,hp,hs⟩:=own_of (H:=Unit) (P:=Tryz.prog) (k:=Tryz.keysB_ren.t 26) (by kernel_rfl) hb hk hst hl hf
 exact Zmc (AnyZ.keys_gives (ρ:=Tryz.keysB_ren) { Tryz.keysB with } Fence.wide 3 trivial rfl (by omega) Bm b ks.length D0 w hB hc hown) hs hp
theorem keysC : Zg6 Tryz.prog 170 216 172:=Zhe (enters_of Tryz.func216 (by kernel_rfl) rfl) fun w Bm b es clock ks hB hc hb hk hst hl hf=>by
 obtain ⟨D0,hown,hp,hs⟩:=own_of (H:=Unit) (P:=Tryz.prog) (k:=Tryz.keysC_ren.t 26) (by kernel_rfl) hb hk hst hl hf
 exact Zmc (AnyZ.keys_gives (ρ:=Tryz.keysC_ren) { Tryz.keysC with } Fence.wide 3 trivial rfl (by omega) Bm b ks.length D0 w hB hc hown) hs hp
abbrev ZjI : Nat:=202
abbrev ZfB : List Nat:=[202,204,216]
noncomputable def np : Nat→Option (List Value→M Value)
 | 156=>some ZjU
 | 195=>some ZjU
 | 196=>some ZjU
 | 158=>some Zmy
 | 170=>some (Zb4 ZfB Qk)
 | 239=>some ZhR
 | 233=>some ZhM
 | _=>none
theorem np_sound (w0 : ZZ) : ∀ g m,np g=some m→Zei Tryz.prog Tryz.prog.globals.size w0 g m:=by
 intro g m h
 unfold np at h
 split at h
 ·cases h;exact ZgD clA
 ·cases h;exact ZgD clB
 ·cases h;exact ZgD clC
 ·cases h;exact ZtY (ZyX clC)
 ·cases h
  exact Zst (by simp) fun gk hg=>by
   simp only [List.mem_cons,List.not_mem_nil,or_false] at hg
   rcases hg with rfl | rfl | rfl
   ·exact keysA
   ·exact keysB
   ·exact keysC
 ·cases h;exact (ZtI ⟨Tryz.f239,Tryz.func239,by kernel_rfl,by kernel_rfl,by kernel_rfl,by kernel_rfl⟩)
 ·cases h;exact (Zul ⟨Tryz.f233,Tryz.func233,by kernel_rfl,by kernel_rfl,by kernel_rfl,by kernel_rfl⟩)
 ·cases h
noncomputable abbrev R (n : Nat) : Zc:=run Tryz.prog np lvs n
end Go.Proofs.YtedkoimihknggaaGreatDoor.A

namespace Go.Proofs.YtedkoimihknggaaGreatDoor.A
set_option linter.unusedVariables false
set_option linter.unusedSimpArgs false
open Go.Proofs Go.Proofs.YtedkoimihknggaaGreatDoor
abbrev u8v (b : UInt8) : Value:=.int .u8 b.toNat
def Wm (b : UInt8) : Bool:=decide (97≤b.toNat) && decide (b.toNat≤122)
def Zbo (b : UInt8) : Bool:=decide (48≤b.toNat) && decide (b.toNat≤57)
def Ze5 (b : UInt8) : Bool:=Wm b || (Zbo b || (decide (b.toNat=45) || decide (b.toNat=46)))
def ZoP (b : UInt8) : Bool:=Zbo b || (decide (97≤b.toNat) && decide (b.toNat≤102))
def Zd6 (b : UInt8) : Bool:=Wm b || Zbo b
def Zy (s : List UInt8) : Bool:=decide (1≤s.length) && decide (s.length≤12) && s.all Ze5 && Wm (s.getD 0 0) && Zd6 (s.getD (s.length - 1) 0)
def ZhN (s : List UInt8) : Bool:=decide (s.length≤12) && s.all Ze5
def YD (s : List UInt8) : Bool:=decide (1≤s.length) && decide (s.length≤12) && s.all ZoP
section
variable {H : Zd} {n : Nat} {b : UInt8} {s : List UInt8}
theorem Znu {i : Nat} {x : UInt8} (hi : s[i]?=some x) (q : IntKind) (H : Zd) : ixs (strv s) (.int q i) H=some (u8v x,H):=by
 have hlt : i < s.length:=(List.getElem?_eq_some_iff.1 hi).1
 have hx : s[i]=x:=(List.getElem?_eq_some_iff.1 hi).2
 have hs : i < (⟨s.toArray⟩ : ByteArray).size:=by simpa [ByteArray.size] using hlt
 unfold ixs strv
 simp only [Int.toNat_natCast]
 rw [if_pos (by omega),getElem?_pos (⟨s.toArray⟩ : ByteArray) i hs]
 have : (⟨s.toArray⟩ : ByteArray)[i]=x:=by rw [← hx];rfl
 rw [this]
theorem ZhB : R (n+1) Yq [u8v b] H=some (.bool (Wm b),H):=by
 rw [R,Zov rfl]
 unfold Wm
 by_cases h1 : (97 : Int)≤b.toNat
 ·have h1' : 97≤b.toNat:=by omega
  by_cases h2 : (b.toNat : Int)≤122
  ·have h2' : b.toNat≤122:=by omega
   simp [Zbl,↓ZR,ZS,↓Qu,Z7,Z9,Z8,↓Zb,JG,Zl,J7,Qc,Jm,Qi,Jn,Jc,QC,Jo,QD,QJ,QK,QM,Qj,Zn,ZU,Ys,Ye,Q3,QP,JM,ZC,QI,Jy,JH,Jx,ZG,Zo,Zk,Jj,ZT,Qp,JD,JL,Ja,JI,↓YI,JJ,↓g_r,Yw,Bool.not_true,Bool.not_false,Bool.false_eq_true,Bool.true_eq_false,reduceIte,List.tail_cons,List.headD_cons,decide_true,decide_false,cond_true,cond_false,Nat.beq_refl,KD,JV,Qd,Z4,ZH,Q7,Yr,YC,Y9,KE,Yk,Yh,Yj,ZE,List.replicate,ZA,Zz,QU,QS,QT,Zj,JA,ZP,ZY,h1,h2,h1',h2']
  ·have h2' : ¬ b.toNat≤122:=by omega
   simp [Zbl,↓ZR,ZS,↓Qu,Z7,Z9,Z8,↓Zb,JG,Zl,J7,Qc,Jm,Qi,Jn,Jc,QC,Jo,QD,QJ,QK,QM,Qj,Zn,ZU,Ys,Ye,Q3,QP,JM,ZC,QI,Jy,JH,Jx,ZG,Zo,Zk,Jj,ZT,Qp,JD,JL,Ja,JI,↓YI,JJ,↓g_r,Yw,Bool.not_true,Bool.not_false,Bool.false_eq_true,Bool.true_eq_false,reduceIte,List.tail_cons,List.headD_cons,decide_true,decide_false,cond_true,cond_false,Nat.beq_refl,KD,JV,Qd,Z4,ZH,Q7,Yr,YC,Y9,KE,Yk,Yh,Yj,ZE,List.replicate,ZA,Zz,QU,QS,QT,Zj,JA,ZP,ZY,h1,h2,h1',h2']
 ·have h1' : ¬ 97≤b.toNat:=by omega
  simp [Zbl,↓ZR,ZS,↓Qu,Z7,Z9,Z8,↓Zb,JG,Zl,J7,Qc,Jm,Qi,Jn,Jc,QC,Jo,QD,QJ,QK,QM,Qj,Zn,ZU,Ys,Ye,Q3,QP,JM,ZC,QI,Jy,JH,Jx,ZG,Zo,Zk,Jj,ZT,Qp,JD,JL,Ja,JI,↓YI,JJ,↓g_r,Yw,Bool.not_true,Bool.not_false,Bool.false_eq_true,Bool.true_eq_false,reduceIte,List.tail_cons,List.headD_cons,decide_true,decide_false,cond_true,cond_false,Nat.beq_refl,KD,JV,Qd,Z4,ZH,Q7,Yr,YC,Y9,KE,Yk,Yh,Yj,ZE,List.replicate,ZA,Zz,QU,QS,QT,Zj,JA,ZP,ZY,h1,h1']
theorem Zkm : R (n+1) YM [u8v b] H=some (.bool (Zbo b),H):=by
 rw [R,ZpF rfl]
 unfold Zbo
 by_cases h1 : (48 : Int)≤b.toNat
 ·have h1' : 48≤b.toNat:=by omega
  by_cases h2 : (b.toNat : Int)≤57
  ·have h2' : b.toNat≤57:=by omega
   simp [Zb8,↓ZR,ZS,↓Qu,Z7,Z9,Z8,↓Zb,JG,Zl,J7,Qc,Jm,Qi,Jn,Jc,QC,Jo,QD,QJ,QK,QM,Qj,Zn,ZU,Ys,Ye,Q3,QP,JM,ZC,QI,Jy,JH,Jx,ZG,Zo,Zk,Jj,ZT,Qp,JD,JL,Ja,JI,↓YI,JJ,↓g_r,Yw,Bool.not_true,Bool.not_false,Bool.false_eq_true,Bool.true_eq_false,reduceIte,List.tail_cons,List.headD_cons,decide_true,decide_false,cond_true,cond_false,Nat.beq_refl,KD,JV,Qd,Z4,ZH,Q7,Yr,YC,Y9,KE,Yk,Yh,Yj,ZE,List.replicate,ZA,Zz,QU,QS,QT,Zj,JA,ZP,ZY,h1,h2,h1',h2']
  ·have h2' : ¬ b.toNat≤57:=by omega
   simp [Zb8,↓ZR,ZS,↓Qu,Z7,Z9,Z8,↓Zb,JG,Zl,J7,Qc,Jm,Qi,Jn,Jc,QC,Jo,QD,QJ,QK,QM,Qj,Zn,ZU,Ys,Ye,Q3,QP,JM,ZC,QI,Jy,JH,Jx,ZG,Zo,Zk,Jj,ZT,Qp,JD,JL,Ja,JI,↓YI,JJ,↓g_r,Yw,Bool.not_true,Bool.not_false,Bool.false_eq_true,Bool.true_eq_false,reduceIte,List.tail_cons,List.headD_cons,decide_true,decide_false,cond_true,cond_false,Nat.beq_refl,KD,JV,Qd,Z4,ZH,Q7,Yr,YC,Y9,KE,Yk,Yh,Yj,ZE,List.replicate,ZA,Zz,QU,QS,QT,Zj,JA,ZP,ZY,h1,h2,h1',h2']
 ·have h1' : ¬ 48≤b.toNat:=by omega
  simp [Zb8,↓ZR,ZS,↓Qu,Z7,Z9,Z8,↓Zb,JG,Zl,J7,Qc,Jm,Qi,Jn,Jc,QC,Jo,QD,QJ,QK,QM,Qj,Zn,ZU,Ys,Ye,Q3,QP,JM,ZC,QI,Jy,JH,Jx,ZG,Zo,Zk,Jj,ZT,Qp,JD,JL,Ja,JI,↓YI,JJ,↓g_r,Yw,Bool.not_true,Bool.not_false,Bool.false_eq_true,Bool.true_eq_false,reduceIte,List.tail_cons,List.headD_cons,decide_true,decide_false,cond_true,cond_false,Nat.beq_refl,KD,JV,Qd,Z4,ZH,Q7,Yr,YC,Y9,KE,Yk,Yh,Yj,ZE,List.replicate,ZA,Zz,QU,QS,QT,Zj,JA,ZP,ZY,h1,h1']
theorem Zlk {a b : Nat} : ((a : Int)==(b : Int))=decide (a=b):=by
 rw [Bool.eq_iff_iff,beq_iff_eq,decide_eq_true_eq];omega
theorem ZyE : R (n+2) ZbL [u8v b] H=some (.bool (Ze5 b),H):=by
 have e1 : run Tryz.prog np lvs (n+1) Yq [u8v b] H=some (.bool (Wm b),H):=ZhB
 have e2 : run Tryz.prog np lvs (n+1) YM [u8v b] H=some (.bool (Zbo b),H):=Zkm
 have q1 : ((b.toNat : Int)==45)=decide (b.toNat=45):=Zlk (b:=45)
 have q2 : ((b.toNat : Int)==46)=decide (b.toNat=46):=Zlk (b:=46)
 rw [R,Zq6 rfl]
 unfold Ze5
 generalize Wm b=p at e1 ⊢
 generalize Zbo b=q at e2 ⊢
 cases p <;> cases q <;> cases h3 : decide (b.toNat=45) <;> simp [ZhS,↓ZR,ZS,↓Qu,Z7,Z9,Z8,↓Zb,JG,Zl,J7,Qc,Jm,Qi,Jn,Jc,QC,Jo,QD,QJ,QK,QM,Qj,Zn,ZU,Ys,Ye,Q3,QP,JM,ZC,QI,Jy,JH,Jx,ZG,Zo,Zk,Jj,ZT,Qp,JD,JL,Ja,JI,↓YI,JJ,↓g_r,Yw,Bool.not_true,Bool.not_false,Bool.false_eq_true,Bool.true_eq_false,reduceIte,List.tail_cons,List.headD_cons,decide_true,decide_false,cond_true,cond_false,Nat.beq_refl,KD,JV,Qd,Z4,ZH,Q7,Yr,YC,Y9,KE,Yk,Yh,Yj,ZE,List.replicate,ZA,Zz,QU,QS,QT,Zj,JA,ZP,ZY,e1,e2,q1,q2,h3] <;> (cases h4 : decide (b.toNat=46) <;> simp_all)
theorem Zzu : R (n+2) Zb6 [u8v b] H=some (.bool (ZoP b),H):=by
 have e2 : run Tryz.prog np lvs (n+1) YM [u8v b] H=some (.bool (Zbo b),H):=Zkm
 rw [R,ZpL rfl]
 unfold ZoP
 generalize Zbo b=q at e2 ⊢
 cases q
 ·by_cases h1 : (97 : Int)≤b.toNat
  ·have h1' : 97≤b.toNat:=by omega
   by_cases h2 : (b.toNat : Int)≤102
   ·have h2' : b.toNat≤102:=by omega
    simp [Za4,↓ZR,ZS,↓Qu,Z7,Z9,Z8,↓Zb,JG,Zl,J7,Qc,Jm,Qi,Jn,Jc,QC,Jo,QD,QJ,QK,QM,Qj,Zn,ZU,Ys,Ye,Q3,QP,JM,ZC,QI,Jy,JH,Jx,ZG,Zo,Zk,Jj,ZT,Qp,JD,JL,Ja,JI,↓YI,JJ,↓g_r,Yw,Bool.not_true,Bool.not_false,Bool.false_eq_true,Bool.true_eq_false,reduceIte,List.tail_cons,List.headD_cons,decide_true,decide_false,cond_true,cond_false,Nat.beq_refl,KD,JV,Qd,Z4,ZH,Q7,Yr,YC,Y9,KE,Yk,Yh,Yj,ZE,List.replicate,ZA,Zz,QU,QS,QT,Zj,JA,ZP,ZY,e2,h1,h2,h1',h2']
   ·have h2' : ¬ b.toNat≤102:=by omega
    simp [Za4,↓ZR,ZS,↓Qu,Z7,Z9,Z8,↓Zb,JG,Zl,J7,Qc,Jm,Qi,Jn,Jc,QC,Jo,QD,QJ,QK,QM,Qj,Zn,ZU,Ys,Ye,Q3,QP,JM,ZC,QI,Jy,JH,Jx,ZG,Zo,Zk,Jj,ZT,Qp,JD,JL,Ja,JI,↓YI,JJ,↓g_r,Yw,Bool.not_true,Bool.not_false,Bool.false_eq_true,Bool.true_eq_false,reduceIte,List.tail_cons,List.headD_cons,decide_true,decide_false,cond_true,cond_false,Nat.beq_refl,KD,JV,Qd,Z4,ZH,Q7,Yr,YC,Y9,KE,Yk,Yh,Yj,ZE,List.replicate,ZA,Zz,QU,QS,QT,Zj,JA,ZP,ZY,e2,h1,h2,h1',h2']
  ·have h1' : ¬ 97≤b.toNat:=by omega
   simp [Za4,↓ZR,ZS,↓Qu,Z7,Z9,Z8,↓Zb,JG,Zl,J7,Qc,Jm,Qi,Jn,Jc,QC,Jo,QD,QJ,QK,QM,Qj,Zn,ZU,Ys,Ye,Q3,QP,JM,ZC,QI,Jy,JH,Jx,ZG,Zo,Zk,Jj,ZT,Qp,JD,JL,Ja,JI,↓YI,JJ,↓g_r,Yw,Bool.not_true,Bool.not_false,Bool.false_eq_true,Bool.true_eq_false,reduceIte,List.tail_cons,List.headD_cons,decide_true,decide_false,cond_true,cond_false,Nat.beq_refl,KD,JV,Qd,Z4,ZH,Q7,Yr,YC,Y9,KE,Yk,Yh,Yj,ZE,List.replicate,ZA,Zz,QU,QS,QT,Zj,JA,ZP,ZY,e2,h1,h1']
 ·simp [Za4,↓ZR,ZS,↓Qu,Z7,Z9,Z8,↓Zb,JG,Zl,J7,Qc,Jm,Qi,Jn,Jc,QC,Jo,QD,QJ,QK,QM,Qj,Zn,ZU,Ys,Ye,Q3,QP,JM,ZC,QI,Jy,JH,Jx,ZG,Zo,Zk,Jj,ZT,Qp,JD,JL,Ja,JI,↓YI,JJ,↓g_r,Yw,Bool.not_true,Bool.not_false,Bool.false_eq_true,Bool.true_eq_false,reduceIte,List.tail_cons,List.headD_cons,decide_true,decide_false,cond_true,cond_false,Nat.beq_refl,KD,JV,Qd,Z4,ZH,Q7,Yr,YC,Y9,KE,Yk,Yh,Yj,ZE,List.replicate,ZA,Zz,QU,QS,QT,Zj,JA,ZP,ZY,e2]
theorem Zvz {f : Value} {p : UInt8→Bool} (hf : ∀ (b : UInt8) (H : Zd),Z6 (R n) f [u8v b] H=some (.bool (p b),H)) (hs : s.length≤1000000000) : ∀ (t k : Nat),s.length - k=t→k≤s.length→
  Zh (c4 (Wg.l1 (R n))) [strv s,f,iv s.length,iv k] H=some (if (s.drop k).all p then .ext 0 [] else .ret (.bool false),H)
 | 0,k,ht,hk=>by
  have : k=s.length:=by omega
  subst this
  rw [List.drop_length]
  refine ZV ?_
  simp [Wg.l1,↓ZR,ZS,↓Qu,Z7,Z9,Z8,↓Zb,JG,Zl,J7,Qc,Jm,Qi,Jn,Jc,QC,Jo,QD,QJ,QK,QM,Qj,Zn,ZU,Ys,Ye,Q3,QP,JM,ZC,QI,Jy,JH,Jx,ZG,Zo,Zk,Jj,ZT,Qp,JD,JL,Ja,JI,↓YI,JJ,↓g_r,Yw,Bool.not_true,Bool.not_false,Bool.false_eq_true,Bool.true_eq_false,reduceIte,List.tail_cons,List.headD_cons,decide_true,decide_false,cond_true,cond_false,Nat.beq_refl,KD,JV,Qd,Z4,ZH,Q7,Yr,YC,Y9,KE,Yk,Yh,Yj,ZE,List.replicate,ZA,Zz,QU,QS,QT,Zj,JA,ZP,ZY]
 | t+1,k,ht,hk=>by
  have hkl : k < s.length:=by omega
  have hlt : (k : Int) < s.length:=by omega
  have hg:=List.getElem?_eq_getElem hkl
  have hd:=List.drop_eq_getElem_cons hkl
  generalize s[k]=b at hg hd
  have x1:=Znu hg .i64 H
  have ih:=Zvz hf hs t (k+1) (by omega) (by omega)
  rw [hd,List.all_cons]
  cases hp : p b
  ·refine JX ?_
   have e:=hf b H
   rw [hp] at e
   rw [ZH]
   unfold Wg.l1
   rw [Za Zk,Zb,if_pos (by simpa using hlt),Za x1,Za e,Za ZU,Zb,if_pos (by rfl)]
   rfl
  ·rw [Bool.true_and]
   refine (ZI ?_).trans ih
   have e:=hf b H
   rw [hp] at e
   rw [ZH]
   unfold Wg.l1
   rw [Za Zk,Zb,if_pos (by simpa using hlt),Za x1,Za e,Za ZU,Zb,if_neg (by simp),Za ZC,Q5 (by omega)]
   rfl
theorem Zuo {f : Value} {p : UInt8→Bool} (hf : ∀ (b : UInt8) (H : Zd),Z6 (R n) f [u8v b] H=some (.bool (p b),H)) (hs : s.length≤1000000000) : R (n+1) YK [strv s,f] H=some (.bool (s.all p),H):=by
 have e:=Zvz (H:=H) hf hs s.length 0 (by omega) (by omega)
 rw [List.drop_zero] at e
 have e : Zh (c4 (Wg.l1 (R n))) [strv s,f,iv s.length,.int .i64 0] H=_:=e
 rw [R,Zsg rfl]
 unfold Wg
 rw [Za ZP]
 cases h : s.all p
 ·rw [h] at e
  rw [Kj e];rfl
 ·rw [h] at e
  rw [Qh e,ZE];rfl
theorem Zqr {g : Nat} {args : List Value} (hy : Nat.blt g Zav=true:=by rfl) : Z6 (R n) (.func (.func g) #[] #[]) args=R n g args:=by
 have : Z6 (R n) (.func (.func g) #[] #[]) args=R n g ([]++(args++[])):=by
  simp only [Z6,hy,cond_true]
 rw [this];simp
theorem Zpi (hs : s.length≤1000000000) : R (n+3) YK [strv s,.func (.func ZbL) #[] #[]] H=some (.bool (s.all Ze5),H):=
 Zuo (fun b H=>by rw [Zqr];exact ZyE) hs
theorem Zwd (hs : s.length≤1000000000) : R (n+3) YK [strv s,.func (.func Zb6) #[] #[]] H=some (.bool (s.all ZoP),H):=
 Zuo (fun b H=>by rw [Zqr];exact Zzu) hs
theorem Zko : bop .str .eql (strv s) (.string ⟨#[]⟩) H=some (.bool (decide (s.length=0)),H):=by
 have:=Zgq (H:=H) (a:=s) (b:=[])
 have h : (s==[])=decide (s.length=0):=by cases s <;> simp
 rw [h] at this
 exact this
theorem Zpq : R (n+4) Ww [strv s] H=some (.bool (Zy s),H):=by
 rw [R,Zn9 rfl]
 unfold Zy
 by_cases h0 : s.length=0
 ·have h1 : ¬ 1≤s.length:=by omega
  unfold Zbt
  rw [Za Zko,decide_eq_true h0]
  simp [↓ZR,ZS,↓Qu,Z7,Z9,Z8,↓Zb,JG,Zl,J7,Qc,Jm,Qi,Jn,Jc,QC,Jo,QD,QJ,QK,QM,Qj,Zn,ZU,Ys,Ye,Q3,QP,JM,ZC,QI,Jy,JH,Jx,ZG,Zo,Zk,Jj,ZT,Qp,JD,JL,Ja,JI,↓YI,JJ,↓g_r,Yw,Bool.not_true,Bool.not_false,Bool.false_eq_true,Bool.true_eq_false,reduceIte,List.tail_cons,List.headD_cons,decide_true,decide_false,cond_true,cond_false,Nat.beq_refl,KD,JV,Qd,Z4,ZH,Q7,Yr,YC,Y9,KE,Yk,Yh,Yj,ZE,List.replicate,ZA,Zz,QU,QS,QT,Zj,JA,ZP,ZY,h1]
 ·have h1 : 1≤s.length:=by omega
  by_cases h12 : s.length≤12
  ·have e1 : run Tryz.prog np lvs (n+3) YK [strv s,.func (.func ZbL) #[] #[]] H=some (.bool (s.all Ze5),H):=Zpi (by omega)
   have g0 : s[0]?=some (s.getD 0 0):=by rw [List.getElem?_eq_getElem (by omega)];simp [List.getD_eq_getElem?_getD,List.getElem?_eq_getElem (show 0 < s.length by omega)]
   have gl : s[s.length - 1]?=some (s.getD (s.length - 1) 0):=by rw [List.getElem?_eq_getElem (by omega)];simp [List.getD_eq_getElem?_getD,List.getElem?_eq_getElem (show s.length - 1 < s.length by omega)]
   have x0 : ixs (strv s) (.int .i64 0) H=some (u8v (s.getD 0 0),H):=Znu g0 .i64 H
   have xl:=Znu gl .i64 H
   have wl:=Zt4 (k:=s.length) (by omega) (by omega)
   generalize s.getD 0 0=b0 at x0
   generalize s.getD (s.length - 1) 0=bl at xl
   have e2 : run Tryz.prog np lvs (n+3) Yq [u8v b0] H=some (.bool (Wm b0),H):=ZhB
   have e3 : run Tryz.prog np lvs (n+3) Yq [u8v bl] H=some (.bool (Wm bl),H):=ZhB
   have e4 : run Tryz.prog np lvs (n+3) YM [u8v bl] H=some (.bool (Zbo bl),H):=Zkm
   have q1 : bop .int .gtr (iv s.length) (.int .i64 12) H=some (.bool false,H):=by rw [ZT,decide_eq_false (by omega)]
   unfold Zbt
   rw [Za Zko,decide_eq_false h0,decide_eq_true h1,decide_eq_true h12]
   rw [Qq,Zs,Za ZP,Zs,Za q1,Qz,Z4,Za Zn]
   simp only [cond_false]
   rw [Qq,Zs,Za x0,Zs,Za e2,Zs,Za ZU,Qz,ZH,Za Zn]
   simp only [cond_false]
   cases hb0 : Wm b0
   ·simp [↓ZR,ZS,↓Qu,Z7,Z9,Z8,↓Zb,JG,Zl,J7,Qc,Jm,Qi,Jn,Jc,QC,Jo,QD,QJ,QK,QM,Qj,Zn,ZU,Ys,Ye,Q3,QP,JM,ZC,QI,Jy,JH,Jx,ZG,Zo,Zk,Jj,ZT,Qp,JD,JL,Ja,JI,↓YI,JJ,↓g_r,Yw,Bool.not_true,Bool.not_false,Bool.false_eq_true,Bool.true_eq_false,reduceIte,List.tail_cons,List.headD_cons,decide_true,decide_false,cond_true,cond_false,Nat.beq_refl,KD,JV,Qd,Z4,ZH,Q7,Yr,YC,Y9,KE,Yk,Yh,Yj,ZE,List.replicate,ZA,Zz,QU,QS,QT,Zj,JA,ZP,ZY]
   ·simp only [Bool.not_true]
    rw [Qq,Zs,Za e1,Zs,Za ZU,Qz,Z4,Za Zn]
    simp only [cond_false]
    cases hall : s.all Ze5
    ·simp [↓ZR,ZS,↓Qu,Z7,Z9,Z8,↓Zb,JG,Zl,J7,Qc,Jm,Qi,Jn,Jc,QC,Jo,QD,QJ,QK,QM,Qj,Zn,ZU,Ys,Ye,Q3,QP,JM,ZC,QI,Jy,JH,Jx,ZG,Zo,Zk,Jj,ZT,Qp,JD,JL,Ja,JI,↓YI,JJ,↓g_r,Yw,Bool.not_true,Bool.not_false,Bool.false_eq_true,Bool.true_eq_false,reduceIte,List.tail_cons,List.headD_cons,decide_true,decide_false,cond_true,cond_false,Nat.beq_refl,KD,JV,Qd,Z4,ZH,Q7,Yr,YC,Y9,KE,Yk,Yh,Yj,ZE,List.replicate,ZA,Zz,QU,QS,QT,Zj,JA,ZP,ZY]
    ·simp only [Bool.not_true]
     rw [Zb,if_neg (by simp),Za ZP,Za QI,wl,Za xl,Za e3]
     unfold Zd6
     cases hl : Wm bl
     ·rw [Qq,Zs,Za e4,Qz,Qd,Za Zn]
      simp [ret]
     ·simp [↓ZR,ZS,↓Qu,Z7,Z9,Z8,↓Zb,JG,Zl,J7,Qc,Jm,Qi,Jn,Jc,QC,Jo,QD,QJ,QK,QM,Qj,Zn,ZU,Ys,Ye,Q3,QP,JM,ZC,QI,Jy,JH,Jx,ZG,Zo,Zk,Jj,ZT,Qp,JD,JL,Ja,JI,↓YI,JJ,↓g_r,Yw,Bool.not_true,Bool.not_false,Bool.false_eq_true,Bool.true_eq_false,reduceIte,List.tail_cons,List.headD_cons,decide_true,decide_false,cond_true,cond_false,Nat.beq_refl,KD,JV,Qd,Z4,ZH,Q7,Yr,YC,Y9,KE,Yk,Yh,Yj,ZE,List.replicate,ZA,Zz,QU,QS,QT,Zj,JA,ZP,ZY]
  ·have q1 : bop .int .gtr (iv s.length) (.int .i64 12) H=some (.bool true,H):=by rw [ZT,decide_eq_true (by omega)]
   unfold Zbt
   rw [Za Zko,decide_eq_false h0]
   rw [Qq,Zs,Za ZP,Zs,Za q1,Qz,Z4,Za Zn]
   simp [↓ZR,ZS,↓Qu,Z7,Z9,Z8,↓Zb,JG,Zl,J7,Qc,Jm,Qi,Jn,Jc,QC,Jo,QD,QJ,QK,QM,Qj,Zn,ZU,Ys,Ye,Q3,QP,JM,ZC,QI,Jy,JH,Jx,ZG,Zo,Zk,Jj,ZT,Qp,JD,JL,Ja,JI,↓YI,JJ,↓g_r,Yw,Bool.not_true,Bool.not_false,Bool.false_eq_true,Bool.true_eq_false,reduceIte,List.tail_cons,List.headD_cons,decide_true,decide_false,cond_true,cond_false,Nat.beq_refl,KD,JV,Qd,Z4,ZH,Q7,Yr,YC,Y9,KE,Yk,Yh,Yj,ZE,List.replicate,ZA,Zz,QU,QS,QT,Zj,JA,ZP,ZY,h12]
def ZF (s : List UInt8) : Int:=if Zy s then 0 else 10
def Ky (s : List UInt8) : Int:=if ZhN s then 0 else 10
def ZW (s : List UInt8) : Int:=if YD s then 0 else 4
theorem ZcK : R (n+5) QW [strv s] H=some (iv (ZF s),H):=by
 have e1 : run Tryz.prog np lvs (n+4) Ww [strv s] H=some (.bool (Zy s),H):=Zpq
 rw [R,Zrc rfl]
 unfold ZF
 generalize Zy s=q at e1 ⊢
 cases q <;> simp [Zhp,↓ZR,ZS,↓Qu,Z7,Z9,Z8,↓Zb,JG,Zl,J7,Qc,Jm,Qi,Jn,Jc,QC,Jo,QD,QJ,QK,QM,Qj,Zn,ZU,Ys,Ye,Q3,QP,JM,ZC,QI,Jy,JH,Jx,ZG,Zo,Zk,Jj,ZT,Qp,JD,JL,Ja,JI,↓YI,JJ,↓g_r,Yw,Bool.not_true,Bool.not_false,Bool.false_eq_true,Bool.true_eq_false,reduceIte,List.tail_cons,List.headD_cons,decide_true,decide_false,cond_true,cond_false,Nat.beq_refl,KD,JV,Qd,Z4,ZH,Q7,Yr,YC,Y9,KE,Yk,Yh,Yj,ZE,List.replicate,ZA,Zz,QU,QS,QT,Zj,JA,ZP,ZY,e1]
theorem ZyG (hs : s.length≤1000000000) : R (n+5) QW [strv s] H=some (iv (ZF s),H):=ZcK
theorem Zq9 (hs : s.length≤1000000000) : R (n+4) WI [strv s] H=some (iv (Ky s),H):=by
 have e1 : run Tryz.prog np lvs (n+3) YK [strv s,.func (.func ZbL) #[] #[]] H=some (.bool (s.all Ze5),H):=Zpi hs
 rw [R,ZnX rfl]
 unfold Ky ZhN Zfr
 rw [Za ZP]
 by_cases h12 : s.length≤12
 ·have q1 : bop .int .gtr (iv s.length) (.int .i64 12) H=some (.bool false,H):=by rw [ZT,decide_eq_false (by omega)]
  rw [Za q1,Qq,Zs,Za e1,Zs,Za ZU,Qz,Z4,Za Zn]
  cases s.all Ze5 <;> simp [↓ZR,ZS,↓Qu,Z7,Z9,Z8,↓Zb,JG,Zl,J7,Qc,Jm,Qi,Jn,Jc,QC,Jo,QD,QJ,QK,QM,Qj,Zn,ZU,Ys,Ye,Q3,QP,JM,ZC,QI,Jy,JH,Jx,ZG,Zo,Zk,Jj,ZT,Qp,JD,JL,Ja,JI,↓YI,JJ,↓g_r,Yw,Bool.not_true,Bool.not_false,Bool.false_eq_true,Bool.true_eq_false,reduceIte,List.tail_cons,List.headD_cons,decide_true,decide_false,cond_true,cond_false,Nat.beq_refl,KD,JV,Qd,Z4,ZH,Q7,Yr,YC,Y9,KE,Yk,Yh,Yj,ZE,List.replicate,ZA,Zz,QU,QS,QT,Zj,JA,ZP,ZY,h12]
 ·have q1 : bop .int .gtr (iv s.length) (.int .i64 12) H=some (.bool true,H):=by rw [ZT,decide_eq_true (by omega)]
  rw [Za q1]
  simp [↓ZR,ZS,↓Qu,Z7,Z9,Z8,↓Zb,JG,Zl,J7,Qc,Jm,Qi,Jn,Jc,QC,Jo,QD,QJ,QK,QM,Qj,Zn,ZU,Ys,Ye,Q3,QP,JM,ZC,QI,Jy,JH,Jx,ZG,Zo,Zk,Jj,ZT,Qp,JD,JL,Ja,JI,↓YI,JJ,↓g_r,Yw,Bool.not_true,Bool.not_false,Bool.false_eq_true,Bool.true_eq_false,reduceIte,List.tail_cons,List.headD_cons,decide_true,decide_false,cond_true,cond_false,Nat.beq_refl,KD,JV,Qd,Z4,ZH,Q7,Yr,YC,Y9,KE,Yk,Yh,Yj,ZE,List.replicate,ZA,Zz,QU,QS,QT,Zj,JA,ZP,ZY,h12]
theorem Zka : R (n+4) YV [strv s] H=some (iv (ZW s),H):=by
 have e1 : s.length≤12→run Tryz.prog np lvs (n+3) YK [strv s,.func (.func Zb6) #[] #[]] H=some (.bool (s.all ZoP),H):=fun h12=>Zwd (by omega)
 rw [R,ZrN rfl]
 unfold ZW YD Zhm
 rw [Za Zko]
 by_cases h0 : s.length=0
 ·have h1 : ¬ 1≤s.length:=by omega
  rw [decide_eq_true h0]
  simp [↓ZR,ZS,↓Qu,Z7,Z9,Z8,↓Zb,JG,Zl,J7,Qc,Jm,Qi,Jn,Jc,QC,Jo,QD,QJ,QK,QM,Qj,Zn,ZU,Ys,Ye,Q3,QP,JM,ZC,QI,Jy,JH,Jx,ZG,Zo,Zk,Jj,ZT,Qp,JD,JL,Ja,JI,↓YI,JJ,↓g_r,Yw,Bool.not_true,Bool.not_false,Bool.false_eq_true,Bool.true_eq_false,reduceIte,List.tail_cons,List.headD_cons,decide_true,decide_false,cond_true,cond_false,Nat.beq_refl,KD,JV,Qd,Z4,ZH,Q7,Yr,YC,Y9,KE,Yk,Yh,Yj,ZE,List.replicate,ZA,Zz,QU,QS,QT,Zj,JA,ZP,ZY,h1]
 ·have h1 : 1≤s.length:=by omega
  rw [decide_eq_false h0,Qq,Zs,Za ZP]
  by_cases h12 : s.length≤12
  ·have q1 : bop .int .gtr (iv s.length) (.int .i64 12) H=some (.bool false,H):=by rw [ZT,decide_eq_false (by omega)]
   rw [Zs,Za q1,Qz,Z4,Za Zn]
   simp only [cond_false]
   rw [Qq,Zs,Za (e1 h12),Zs,Za ZU,Qz,ZH,Za Zn]
   cases s.all ZoP <;> simp [↓ZR,ZS,↓Qu,Z7,Z9,Z8,↓Zb,JG,Zl,J7,Qc,Jm,Qi,Jn,Jc,QC,Jo,QD,QJ,QK,QM,Qj,Zn,ZU,Ys,Ye,Q3,QP,JM,ZC,QI,Jy,JH,Jx,ZG,Zo,Zk,Jj,ZT,Qp,JD,JL,Ja,JI,↓YI,JJ,↓g_r,Yw,Bool.not_true,Bool.not_false,Bool.false_eq_true,Bool.true_eq_false,reduceIte,List.tail_cons,List.headD_cons,decide_true,decide_false,cond_true,cond_false,Nat.beq_refl,KD,JV,Qd,Z4,ZH,Q7,Yr,YC,Y9,KE,Yk,Yh,Yj,ZE,List.replicate,ZA,Zz,QU,QS,QT,Zj,JA,ZP,ZY,h12,h1]
  ·have q1 : bop .int .gtr (iv s.length) (.int .i64 12) H=some (.bool true,H):=by rw [ZT,decide_eq_true (by omega)]
   rw [Zs,Za q1,Qz,Z4,Za Zn]
   simp [↓ZR,ZS,↓Qu,Z7,Z9,Z8,↓Zb,JG,Zl,J7,Qc,Jm,Qi,Jn,Jc,QC,Jo,QD,QJ,QK,QM,Qj,Zn,ZU,Ys,Ye,Q3,QP,JM,ZC,QI,Jy,JH,Jx,ZG,Zo,Zk,Jj,ZT,Qp,JD,JL,Ja,JI,↓YI,JJ,↓g_r,Yw,Bool.not_true,Bool.not_false,Bool.false_eq_true,Bool.true_eq_false,reduceIte,List.tail_cons,List.headD_cons,decide_true,decide_false,cond_true,cond_false,Nat.beq_refl,KD,JV,Qd,Z4,ZH,Q7,Yr,YC,Y9,KE,Yk,Yh,Yj,ZE,List.replicate,ZA,Zz,QU,QS,QT,Zj,JA,ZP,ZY,h12]
theorem Zyg (hs : s.length≤1000000000) : R (n+4) YV [strv s] H=some (iv (ZW s),H):=Zka
theorem Zy4 {p : UInt8→Prop} (h : ∀ n : Nat,n < 256→p (UInt8.ofNat n)) (b : UInt8) : p b:=by
 have:=h b.toNat b.toNat_lt
 rwa [UInt8.ofNat_toNat] at this
end
end Go.Proofs.YtedkoimihknggaaGreatDoor.A

namespace Go.Proofs.YtedkoimihknggaaGreatDoor.A
set_option linter.unusedVariables false
set_option linter.unusedSimpArgs false
open Go.Proofs Go.Proofs.YtedkoimihknggaaGreatDoor
abbrev Qo:=List (List UInt8 × List UInt8)
structure Dir (H : Zd) (d b : Nat) (m : Qo) : Prop where
 c : H[d]?=some (.cells [.map (some b)] 1 false false)
 g : JB strv H b m
 len : ∀ p∈m,p.1.length≤12
 few : m.length≤12
section
variable {H H' : Zd} {n d b p q : Nat} {m : Qo} {k s : List UInt8}
theorem Zb9 {v : Value} (h : oneCell v=true) (hc : v.cells=#[v]) (H : Zd) : alc 1 v H=some (pt H.length,H++[.cells [v] 1 false false]):=by
 rw [QJ]
 simp [hc,h]
theorem Ka {v : Value} {e : Nat} {g ro : Bool} (h : H[p]?=some (.cells [v] e g ro)) : ld1 (pt p) H=some (v,H):=Qe h rfl
theorem ZfH {g : Nat} {bs args : List Value} (hy : Nat.blt g Zav=true:=by rfl) : Z6 (R n) (.func (.func g) #[] bs.toArray) args=R n g (args++bs):=by
 have : Z6 (R n) (.func (.func g) #[] bs.toArray) args=R n g ([]++(args++bs.toArray.toList)):=by
  simp only [Z6,hy,cond_true]
 rw [this];simp
theorem Dir.lt (h : Dir H d b m) : d < H.length∧b < H.length:=⟨JS h.c,h.g.lt⟩
theorem Dir.keep (h : Dir H d b m) (h1 : H'[d]?=H[d]?) (h2 : H'[b]?=H[b]?) : Dir H' d b m:=⟨by rw [h1];exact h.c,h.g.keep h2,h.len,h.few⟩
theorem Dir.hle (h : Dir H d b m) (hl : HLe H H') : Dir H' d b m:=⟨hl _ _ h.c,h.g.hle hl,h.len,h.few⟩
theorem Dir.step {o1 o2 : List Nat} (h : Dir H d b m) (hs : Zr o1 H o2 H') (h1 : d∉o1) (h2 : b∉o1) : Dir H' d b m:=h.keep (hs.keep d h.lt.1 h1) (hs.keep b h.lt.2 h2)
theorem Dir.ne (h : Dir H d b m) : d≠b:=fun e=>by
 subst e
 obtain ⟨es,_,h1⟩:=h.g.ex
 rw [h.c] at h1
 rcases h1 with ⟨_,h1,_⟩ | h1 <;> cases h1
theorem Zrh : ∃ H' d b,R (n+1) ZaO [] H=some (pt d,H')∧Dir H' d b []∧HLe H H'∧H.length≤d∧H.length≤b:=by
 obtain ⟨H1,e1,g1,l1⟩:=Zp6 (α:=List UInt8) (enc:=strv) H
 have e2 : bld (.agg #[.map none]) [(0,1,.map (some H.length))] H1=some (.agg #[.map (some H.length)],H1):=by simp [↓ZR,ZS,↓Qu,Z7,Z9,Z8,↓Zb,JG,Zl,J7,Qc,Jm,Qi,Jn,Jc,QC,Jo,QD,QJ,QK,QM,Qj,Zn,ZU,Ys,Ye,Q3,QP,JM,ZC,QI,Jy,JH,Jx,ZG,Zo,Zk,Jj,ZT,Qp,JD,JL,Ja,JI,↓YI,JJ,↓g_r,Yw,Yx,WE,splice,Value.cells]
 have e3 : alc 1 (.agg #[.map (some H.length)]) H1=some (pt H1.length,H1++[.cells [.map (some H.length)] 1 false false]):=by
  rw [QJ];simp [Value.cells,oneCell]
 refine ⟨H1++[.cells [.map (some H.length)] 1 false false],H1.length,H.length,?_,⟨ZB,g1.hle (.app _ _),by simp,by simp⟩,l1.trans (.app _ _),l1.len,Nat.le_refl _⟩
 rw [R,Zrs rfl]
 unfold Zh1
 rw [Za e1,Za e2,Za e3]
 rfl
def Ko (k : List UInt8) (m : Qo) : Int:=if (Zf k m).isSome then 0 else 8
def ZbF (k : List UInt8) (m : Qo) : Int:=if (Zf k m).isSome then 9 else if 12≤m.length then 7 else 0
theorem Zoc : R (n+1) Js [pt d,strv k] H=some (.func (.func Z0) #[] #[pt H.length,pt (H.length+1)],H++[.cells [pt d] 1 false false]++[.cells [strv k] 1 false false]):=by
 rw [R,ZkL rfl]
 unfold Zdg
 rw [Za (Zb9 rfl rfl _),Za (Zb9 rfl rfl _)]
 simp [ret]
theorem ZqD (h : Dir H d b m) (hp : H[p]?=some (.cells [pt d] 1 false false)) (hq : H[q]?=some (.cells [strv k] 1 false false)) : R (n+1) Z0 [pt p,pt q] H=some (iv (Ko k m),H):=by
 have hl:=h.g.lkp (k:=k) (z:=.string ⟨#[]⟩) (ok:=true)
 rw [R,Zi1 rfl]
 unfold ZcA Ko
 rw [Za (Ka hp),Za Zl,Za Zj,Za (Ka h.c),Za (Ka hq),Za hl]
 cases hg : Zf k m
 ·simp [↓ZR,ZS,↓Qu,Z7,Z9,Z8,↓Zb,JG,Zl,J7,Qc,Jm,Qi,Jn,Jc,QC,Jo,QD,QJ,QK,QM,Qj,Zn,ZU,Ys,Ye,Q3,QP,JM,ZC,QI,Jy,JH,Jx,ZG,Zo,Zk,Jj,ZT,Qp,JD,JL,Ja,JI,↓YI,JJ,↓g_r,Yw,Bool.not_true,Bool.not_false,Bool.false_eq_true,Bool.true_eq_false,reduceIte,List.tail_cons,List.headD_cons,decide_true,decide_false,cond_true,cond_false,Nat.beq_refl,KD,JV,Qd,Z4,ZH,Q7,Yr,YC,Y9,KE,Yk,Yh,Yj,ZE,List.replicate,ZA,Zz,QU,QS,QT,Zj,JA,ZP,ZY,hg]
 ·simp [↓ZR,ZS,↓Qu,Z7,Z9,Z8,↓Zb,JG,Zl,J7,Qc,Jm,Qi,Jn,Jc,QC,Jo,QD,QJ,QK,QM,Qj,Zn,ZU,Ys,Ye,Q3,QP,JM,ZC,QI,Jy,JH,Jx,ZG,Zo,Zk,Jj,ZT,Qp,JD,JL,Ja,JI,↓YI,JJ,↓g_r,Yw,Bool.not_true,Bool.not_false,Bool.false_eq_true,Bool.true_eq_false,reduceIte,List.tail_cons,List.headD_cons,decide_true,decide_false,cond_true,cond_false,Nat.beq_refl,KD,JV,Qd,Z4,ZH,Q7,Yr,YC,Y9,KE,Yk,Yh,Yj,ZE,List.replicate,ZA,Zz,QU,QS,QT,Zj,JA,ZP,ZY,hg]
theorem ZyQ : R (n+1) Zaw [pt d,strv k] H=some (.func (.func JQ) #[] #[pt H.length,pt (H.length+1)],H++[.cells [pt d] 1 false false]++[.cells [strv k] 1 false false]):=by
 rw [R,Zl8 rfl]
 unfold ZdT
 rw [Za (Zb9 rfl rfl _),Za (Zb9 rfl rfl _)]
 simp [ret]
theorem Zxe (h : Dir H d b m) (hp : H[p]?=some (.cells [pt d] 1 false false)) (hq : H[q]?=some (.cells [strv k] 1 false false)) : ∃ H',R (n+2) JQ [pt p,pt q] H=some (iv (ZbF k m),H')∧HLe H H':=by
 have e1 : run Tryz.prog np lvs (n+1) Js [pt d,strv k] H=_:=Zoc
 refine ⟨_,?_,(HLe.app H [.cells [pt d] 1 false false]).trans (.app _ [.cells [strv k] 1 false false])⟩
 generalize hH : H++[.cells [pt d] 1 false false]++[.cells [strv k] 1 false false]=X at e1 ⊢
 have hx : HLe H X:=by rw [← hH];exact (HLe.app H _).trans (.app _ _)
 have x1 : X[H.length]?=some (.cells [pt d] 1 false false):=by rw [← hH];simp [List.getElem?_append]
 have x2 : X[H.length+1]?=some (.cells [strv k] 1 false false):=by rw [← hH];simp [List.getElem?_append]
 have e2 : Z6 (run Tryz.prog np lvs (n+1)) (.func (.func Z0) #[] #[pt H.length,pt (H.length+1)]) [] X=some (iv (Ko k m),X):=by
  have:=ZfH (n:=n+1) (g:=Z0) (bs:=[pt H.length,pt (H.length+1)]) (args:=[])
  rw [show (#[pt H.length,pt (H.length+1)] : Array Value)=[pt H.length,pt (H.length+1)].toArray from rfl]
  rw [this]
  exact ZqD (h.hle hx) x1 x2
 have hlen:=(h.hle hx).g.len
 rw [R,ZkK rfl]
 unfold Zdf ZbF
 rw [Za (Ka hp),Za (Ka hq),Za e1,Za e2]
 unfold Ko
 cases hg : (Zf k m).isSome
 ·have c1 : ld1 (pt p) X=some (pt d,X):=Ka (hx _ _ hp)
  have c2 : ld1 (pt d) X=some (.map (some b),X):=Ka (hx _ _ h.c)
  simp only [Bool.false_eq_true,if_false]
  rw [Za ZG,Zb,if_neg (by decide),Za c1,Za Zl,Za Zj,Za c2,Za hlen,Za Qp,Zb]
  by_cases h12 : 12≤m.length
  ·have h12' : (12 : Int)≤m.length:=by omega
   simp [h12,h12',ret]
  ·have h12' : ¬ (12 : Int)≤m.length:=by omega
   simp [h12,h12',ret]
 ·simp [↓ZR,ZS,↓Qu,Z7,Z9,Z8,↓Zb,JG,Zl,J7,Qc,Jm,Qi,Jn,Jc,QC,Jo,QD,QJ,QK,QM,Qj,Zn,ZU,Ys,Ye,Q3,QP,JM,ZC,QI,Jy,JH,Jx,ZG,Zo,Zk,Jj,ZT,Qp,JD,JL,Ja,JI,↓YI,JJ,↓g_r,Yw,Bool.not_true,Bool.not_false,Bool.false_eq_true,Bool.true_eq_false,reduceIte,List.tail_cons,List.headD_cons,decide_true,decide_false,cond_true,cond_false,Nat.beq_refl,KD,JV,Qd,Z4,ZH,Q7,Yr,YC,Y9,KE,Yk,Yh,Yj,ZE,List.replicate,ZA,Zz,QU,QS,QT,Zj,JA,ZP,ZY]
theorem Zw7 : R (n+1) ZaV [strv s] H=some (.func (.func Jv) #[] #[pt H.length],H++[.cells [strv s] 1 false false]):=by
 rw [R,Zqi rfl]
 unfold Zhz
 rw [Za (Zb9 rfl rfl _)]
 rfl
theorem ZyW (hs : s.length≤1000000000) (hp : H[p]?=some (.cells [strv s] 1 false false)) : R (n+5) Jv [pt p] H=some (iv (ZW s),H):=by
 have e1 : run Tryz.prog np lvs (n+4) YV [strv s] H=some (iv (ZW s),H):=Zyg hs
 rw [R,ZpB rfl]
 unfold ZgG
 rw [Za (Ka hp),Za e1]
 rfl
def WF (e : Int) (es : List Int) : Int:=es.foldl (fun e a=>if e=0 then a else e) e
theorem ZlZ {sl : Value} {fs : List Value} {es : List Int} (hl : fs.length=es.length) (hfl : fs.length≤1000) (hs : Sl H sl fs)
  (hf : ∀ (k : Nat) (f : Value) (e : Int),fs[k]?=some f→es[k]?=some e→∀ H1,HLe H H1→∃ H2,Z6 (R n) f [] H1=some (iv e,H2)∧HLe H1 H2) : ∀ (t k : Nat) (e : Int) (H1 : Zd),fs.length - k=t→k≤fs.length→HLe H H1→
  ∃ H2,Zh (c4 (YR.l1 (R n))) [iv e,sl,iv fs.length,iv k] H1=some (.ext 0 [iv (WF e (es.drop k))],H2)∧HLe H1 H2
 | 0,k,e,H1,ht,hk,h1=>by
  have : k=fs.length:=by omega
  subst this
  rw [List.drop_eq_nil_of_le (by omega)]
  refine ⟨H1,ZV ?_,.refl _⟩
  rw [ZH]
  unfold YR.l1
  rw [Za Zk,Zb,if_neg (by simp)]
  rfl
 | t+1,k,e,H1,ht,hk,h1=>by
  have hkl : k < fs.length:=by omega
  have hlt : (k : Int) < fs.length:=by omega
  obtain ⟨f,hfk⟩ : ∃ f,fs[k]?=some f:=⟨_,List.getElem?_eq_getElem hkl⟩
  obtain ⟨a,hak⟩ : ∃ a,es[k]?=some a:=⟨_,List.getElem?_eq_getElem (by omega)⟩
  have hd : es.drop k=a :: es.drop (k+1):=by
   rw [List.drop_eq_getElem_cons (by omega)]
   congr 1
   have:=List.getElem?_eq_getElem (show k < es.length by omega)
   rw [hak] at this
   exact (Option.some.inj this).symm
  have x1:=(hs.mono h1).ix hkl .i64 H1
  have x2:=(hs.mono h1).ldx hfk
  by_cases he : e=0
  ·subst he
   obtain ⟨H2,e3,l3⟩:=hf k f a hfk hak H1 h1
   obtain ⟨H3,e4,l4⟩:=ZlZ hl hfl hs hf t (k+1) a H2 (by omega) (by omega) (h1.trans l3)
   refine ⟨H3,(ZI ?_).trans e4 |>.trans (by rw [hd];rfl),l3.trans l4⟩
   rw [ZH]
   unfold YR.l1
   rw [Za Zk,Zb,if_pos (by simpa using hlt),Za x1,Za x2,Za ZG]
   refine (QZ (vs:=[iv a,sl,iv fs.length,iv k]) (H':=H2) ?_).trans ?_
   ·rw [Zb,if_pos (by simp),Za e3];rfl
   ·rw [ZH,Za ZC,Q5 (by omega)];rfl
  ·obtain ⟨H3,e4,l4⟩:=ZlZ hl hfl hs hf t (k+1) e H1 (by omega) (by omega) h1
   refine ⟨H3,(ZI ?_).trans e4 |>.trans (by rw [hd];show _=some (Out.ext 0 [iv (WF (if e=0 then a else e) _)],H3);rw [if_neg he]),l4⟩
   rw [ZH]
   unfold YR.l1
   rw [Za Zk,Zb,if_pos (by simpa using hlt),Za x1,Za x2,Za ZG]
   refine (QZ (vs:=[iv e,sl,iv fs.length,iv k]) (H':=H1) ?_).trans ?_
   ·rw [Zb,if_neg (by simpa using he)];rfl
   ·rw [ZH,Za ZC,Q5 (by omega)];rfl
theorem ZoE {sl : Value} {fs : List Value} {es : List Int} (hk : k.length≤1000000000) (hl : fs.length=es.length) (hfl : fs.length≤1000) (hs : Sl H sl fs)
  (hf : ∀ (k : Nat) (f : Value) (e : Int),fs[k]?=some f→es[k]?=some e→∀ H1,HLe H H1→∃ H2,Z6 (R (n+5)) f [] H1=some (iv e,H2)∧HLe H1 H2) :
  ∃ H2,R (n+6) YQ [strv k,sl] H=some (iv (WF (ZF k) es),H2)∧HLe H H2:=by
 have e1 : run Tryz.prog np lvs (n+5) QW [strv k] H=some (iv (ZF k),H):=ZyG hk
 obtain ⟨H2,e2,l2⟩:=ZlZ hl hfl hs hf fs.length 0 (ZF k) H (by omega) (by omega) (.refl _)
 refine ⟨H2,?_,l2⟩
 have e2 : Zh (c4 (YR.l1 (R (n+5)))) [iv (ZF k),sl,iv fs.length,.int .i64 0] H=_:=e2
 rw [R,ZoH rfl]
 unfold YR
 rw [Za e1,Za hs.len,Qh e2,ZE,List.drop_zero]
 rfl
end
end Go.Proofs.YtedkoimihknggaaGreatDoor.A

namespace Go.Proofs.YtedkoimihknggaaGreatDoor.A
set_option linter.unusedVariables false
set_option linter.unusedSimpArgs false
section
variable {α : Type} {k k' : List UInt8} {v : α} {m : List (List UInt8 × α)}
theorem ZdW : ∀ {m m' : List (List UInt8 × α)},Zf k (m++m')=(Zf k m).or (Zf k m')
 | [],m'=>rfl
 | p :: m,m'=>by
  simp only [List.cons_append,Zf]
  split
  ·rfl
  ·exact ZdW
theorem Yo (h : k'≠k) : Zf k' (Qt k v m)=Zf k' m:=by
 unfold Qt
 split
 ·have : ∀ m : List (List UInt8 × α),Zf k' (m.map fun p=>if p.1=k then (k,v) else p)=Zf k' m:=by
   intro m
   induction m with
   | nil=>rfl
   | cons p m ih=>
    simp only [List.map_cons,Zf]
    by_cases hp : p.1=k
    ·rw [if_pos hp,if_neg (Ne.symm h),if_neg (fun e=>h (e.symm.trans hp)),ih]
    ·rw [if_neg hp,ih]
  exact this m
 ·rw [ZdW]
  have : Zf k' [(k,v)]=none:=by simp [Zf,Ne.symm h]
  rw [this];cases Zf k' m <;> rfl
theorem KB : Zf k (Qt k v m)=some v:=by
 unfold Qt
 split
 ·rename_i hs
  have : ∀ m : List (List UInt8 × α),(Zf k m).isSome=true→Zf k (m.map fun p=>if p.1=k then (k,v) else p)=some v:=by
   intro m
   induction m with
   | nil=>intro h;cases h
   | cons p m ih=>
    intro h
    simp only [List.map_cons,Zf] at h ⊢
    by_cases hp : p.1=k
    ·simp [hp]
    ·rw [if_neg hp] at h
     rw [if_neg hp,if_neg hp];exact ih h
  exact this m hs
 ·rename_i hs
  rw [ZdW]
  have : Zf k m=none:=by cases e : Zf k m <;> simp_all
  rw [this];simp [Zf]
theorem ZaH : Zf k (KU k m)=none:=by
 rw [ZcE]
 intro p hp
 simpa [KU] using (List.mem_filter.1 hp).2
theorem YO (h : k'≠k) : Zf k' (KU k m)=Zf k' m:=by
 unfold KU
 induction m with
 | nil=>rfl
 | cons p m ih=>
  rw [List.filter_cons]
  by_cases hp : p.1=k
  ·rw [if_neg (by simp [hp]),ih]
   simp only [Zf]
   rw [if_neg (fun e=>h (e.symm.trans hp))]
  ·rw [if_pos (by simpa using hp)]
   simp only [Zf]
   rw [ih]
theorem Zrt (hn : (m.map (·.1)).Nodup) (h : (Zf k m).isSome=true) : (KU k m).length=m.length - 1:=by
 obtain ⟨v,hv⟩:=Option.isSome_iff_exists.1 h
 obtain ⟨j,hj⟩:=Zwr hv
 rw [← Zdm hn hj,List.length_eraseIdx,if_pos (List.getElem?_eq_some_iff.1 hj).1]
end
end Go.Proofs.YtedkoimihknggaaGreatDoor.A

namespace Go.Proofs.YtedkoimihknggaaGreatDoor.A
set_option linter.unusedVariables false
set_option linter.unusedSimpArgs false
open Go.Proofs Go.Proofs.YtedkoimihknggaaGreatDoor
section
variable {H H' : Zd} {n d b p q : Nat} {m : Qo} {k s : List UInt8}
theorem Zs0 (h : Dir H d b m) (hp : H[p]?=some (.cells [pt d] 1 false false)) (hq : H[q]?=some (.cells [strv k] 1 false false)) : ∃ H2,Z6 (R (n+1)) (.func (.func Z0) #[] #[pt p,pt q]) [] H=some (iv (Ko k m),H2)∧HLe H H2:=by
 rw [show (#[pt p,pt q] : Array Value)=[pt p,pt q].toArray from rfl,ZfH]
 exact ⟨H,ZqD h hp hq,.refl _⟩
theorem Zyx (h : Dir H d b m) (hp : H[p]?=some (.cells [pt d] 1 false false)) (hq : H[q]?=some (.cells [strv k] 1 false false)) : ∃ H2,Z6 (R (n+2)) (.func (.func JQ) #[] #[pt p,pt q]) [] H=some (iv (ZbF k m),H2)∧HLe H H2:=by
 rw [show (#[pt p,pt q] : Array Value)=[pt p,pt q].toArray from rfl,ZfH]
 exact Zxe h hp hq
theorem Zw2 (hs : s.length≤1000000000) (hp : H[p]?=some (.cells [strv s] 1 false false)) : ∃ H2,Z6 (R (n+5)) (.func (.func Jv) #[] #[pt p]) [] H=some (iv (ZW s),H2)∧HLe H H2:=by
 rw [show (#[pt p] : Array Value)=[pt p].toArray from rfl,ZfH]
 exact ⟨H,ZyW hs hp,.refl _⟩
def YJ (k s : List UInt8) (m : Qo) : Int:=WF (ZF k) [ZW s,ZbF k m]
def Je (k : List UInt8) (m : Qo) : Int:=WF (ZF k) [Ko k m]
def WY (k s : List UInt8) (m : Qo) : Int:=WF (ZF k) [ZW s,Ko k m]
theorem Zw3 {a c : Value} (ha : oneCell a=true) (hc : oneCell c=true) (a1 : a.cells=#[a]) (c1 : c.cells=#[c]) (H : Zd) : bsl 1 2 .nilFunc [(0,1,a),(1,1,c)] H=some (.slice (some ⟨H.length,0,none⟩) 2 2,H++[.cells [a,c] 1 false false]):=by
 have t1 : Yx a=false:=by cases a <;> simp_all [Yx,oneCell]
 have t2 : Yx c=false:=by cases c <;> simp_all [Yx,oneCell]
 have hn : Value.nilFunc.cells=#[.nilFunc]:=rfl
 simp [bsl,WE,reps,Zhi,a1,c1,t1,t2,splice,ha,hc,hn]
theorem Zzj {a : Value} (ha : oneCell a=true) (a1 : a.cells=#[a]) (H : Zd) : bsl 1 1 .nilFunc [(0,1,a)] H=some (.slice (some ⟨H.length,0,none⟩) 1 1,H++[.cells [a] 1 false false]):=ZtL rfl a1 ha
theorem ZmJ {α β : Type} {P : α→β→Prop} {a a' : α} {e e' : β} (h1 : P a e) (h2 : P a' e') : ∀ (k : Nat) (f : α) (x : β),[a,a'][k]?=some f→[e,e'][k]?=some x→P f x
 | 0,f,x,h,h'=>by simp at h h';rw [← h,← h'];exact h1
 | 1,f,x,h,h'=>by simp at h h';rw [← h,← h'];exact h2
 | k+2,f,x,h,h'=>by simp at h
theorem ZvC {α β : Type} {P : α→β→Prop} {a : α} {e : β} (h1 : P a e) : ∀ (k : Nat) (f : α) (x : β),[a][k]?=some f→[e][k]?=some x→P f x
 | 0,f,x,h,h'=>by simp at h h';rw [← h,← h'];exact h1
 | k+1,f,x,h,h'=>by simp at h
theorem ZmI {H : Zd} {a c : Zg} : (H++[a]++[c])[H.length]?=some a:=by simp [List.getElem?_append]
theorem Zm1 {H : Zd} {a c : Zg} : (H++[a]++[c])[H.length+1]?=some c:=by simp [List.getElem?_append]
theorem ZxO {v : List UInt8} (h1 : ∀ p∈m,p.1.length≤12) (hk : k.length≤12) : ∀ p∈Qt k v m,p.1.length≤12:=by
 intro p hp
 unfold Qt at hp
 split at hp
 ·obtain ⟨x,hx,rfl⟩:=List.mem_map.1 hp
  split
  ·exact hk
  ·exact h1 x hx
 ·rcases List.mem_append.1 hp with hp | hp
  ·exact h1 p hp
  ·simp at hp;rw [hp];exact hk
theorem ZdN {α : Type} {m : List (List UInt8 × α)} {v : α} : (Qt k v m).length=if (Zf k m).isSome then m.length else m.length+1:=by
 unfold Qt
 split <;> simp
theorem Kq (h : Zy k=true) : k.length≤12:=by
 unfold Zy at h
 simp only [Bool.and_eq_true,decide_eq_true_eq] at h
 exact h.1.1.1.2
theorem ZlE : ∀ {es : List Int} {e : Int},WF e es=0↔e=0∧∀ a∈es,a=0
 | [],e=>by simp [WF]
 | a :: es,e=>by
  have : WF e (a :: es)=WF (if e=0 then a else e) es:=rfl
  rw [this,ZlE]
  by_cases he : e=0 <;> simp [he]
theorem Zbz : ZF k=0↔Zy k=true:=by unfold ZF;split <;> simp_all
theorem Zq8 : ZW s=0↔YD s=true:=by unfold ZW;split <;> simp_all
theorem ZtC : Ko k m=0↔(Zf k m).isSome=true:=by unfold Ko;split <;> simp_all
theorem ZuB : ZbF k m=0↔(Zf k m).isSome=false∧m.length < 12:=by
 unfold ZbF
 split
 ·simp_all
 ·split
  ·simp_all
  ·simp_all
def Zfh (k s : List UInt8) (m : Qo) : Qo:=if YJ k s m=0 then Qt k s m else m
def Zfl (k : List UInt8) (m : Qo) : Qo:=if Je k m=0 then KU k m else m
def ZoB (k s : List UInt8) (m : Qo) : Qo:=if WY k s m=0 then Qt k s m else m
theorem Dir.putc (h : Dir H d b m) (g : JB strv H' b (Qt k s m)) (hs : Zr [b] H [b] H') (hk : k.length≤12) (hf : (Qt k s m).length≤12) : Dir H' d b (Qt k s m):=
 ⟨hs.get h.c (by simp [h.ne]),g,ZxO h.len hk,hf⟩
theorem ZwQ (h : Dir H d b m) (hk : k.length≤1000000000) (hs : s.length≤1000000000) : ∃ H',R (n+7) Wn [pt d,strv k,strv s] H=some (iv (YJ k s m),H')∧Dir H' d b (Zfh k s m)∧Zr [b] H [b] H':=by
 have e1 : run Tryz.prog np lvs (n+6) ZaV [strv s] H=_:=Zw7
 have a1 : HLe H (H++[Zg.cells [strv s] 1 false false]):=.app _ _
 have p1 : (H++[Zg.cells [strv s] 1 false false])[H.length]?=some (.cells [strv s] 1 false false):=ZB
 generalize hH1 : H++[Zg.cells [strv s] 1 false false]=H1 at e1 a1 p1
 generalize H.length=q0 at e1 p1
 have e2 : run Tryz.prog np lvs (n+6) Zaw [pt d,strv k] H1=_:=ZyQ
 have a2 : HLe H1 (H1++[.cells [pt d] 1 false false]++[.cells [strv k] 1 false false]):=(HLe.app _ _).trans (.app _ _)
 have p2 : (H1++[Zg.cells [pt d] 1 false false]++[.cells [strv k] 1 false false])[H1.length]?=some (.cells [pt d] 1 false false):=ZmI
 have p3 : (H1++[Zg.cells [pt d] 1 false false]++[.cells [strv k] 1 false false])[H1.length+1]?=some (.cells [strv k] 1 false false):=Zm1
 generalize hH2 : H1++[Zg.cells [pt d] 1 false false]++[.cells [strv k] 1 false false]=H2 at e2 a2 p2 p3
 generalize H1.length=q1 at e2 p2 p3
 have e3:=Zw3 (a:=.func (.func Jv) #[] #[pt q0]) (c:=.func (.func JQ) #[] #[pt q1,pt (q1+1)]) rfl rfl rfl rfl H2
 have a3 : HLe H2 (H2++[Zg.cells [.func (.func Jv) #[] #[pt q0],.func (.func JQ) #[] #[pt q1,pt (q1+1)]] 1 false false]):=.app _ _
 have s3 : Sl (H2++[Zg.cells [.func (.func Jv) #[] #[pt q0],.func (.func JQ) #[] #[pt q1,pt (q1+1)]] 1 false false]) (.slice (some ⟨H2.length,0,none⟩) 2 2) [.func (.func Jv) #[] #[pt q0],.func (.func JQ) #[] #[pt q1,pt (q1+1)]]:=Sl.one (c:=2) ZB
 generalize H2++[Zg.cells [.func (.func Jv) #[] #[pt q0],.func (.func JQ) #[] #[pt q1,pt (q1+1)]] 1 false false]=H3 at e3 a3 s3
 generalize (Value.slice (some ⟨H2.length,0,none⟩) 2 2)=sl at e3 s3
 have l3:=(a1.trans a2).trans a3
 obtain ⟨H4,e4,a4⟩:=ZoE (n:=n) (es:=[ZW s,ZbF k m]) hk rfl (Nat.le_of_lt_succ (by simp)) s3 (ZmJ (P:=fun f e=>∀ H1,HLe H3 H1→∃ H2,Z6 (R (n+5)) f [] H1=some (iv e,H2)∧HLe H1 H2)
  (fun X hx=>Zw2 hs (hx _ _ (a3 _ _ (a2 _ _ p1)))) (fun X hx=>Zyx (n:=n+3) (h.hle (l3.trans hx)) (hx _ _ (a3 _ _ p2)) (hx _ _ (a3 _ _ p3))))
 have e4 : run Tryz.prog np lvs (n+6) YQ [strv k,sl] H3=some (iv (YJ k s m),H4):=e4
 have l4:=l3.trans a4
 have h4:=h.hle l4
 have hbody : ∀ r,bind (bop .int .eql (iv (YJ k s m)) (.int .i64 0)) (fun v=>jn (cnd v (bind (Qa (pt d)) fun v19x6=>bind (fa 0 v19x6) fun v20x7=>bind (ld1 v20x7) fun v21x8=>bind (mup .str v21x8 (strv k) (strv s)) fun _=>ret (.nrm [iv (YJ k s m)])) (ret (.nrm [iv (YJ k s m)]))) (c1 fun q9_0=>ret q9_0) noX ret) H4=r→
   R (n+7) Wn [pt d,strv k,strv s] H=r:=fun r hr=>by
  rw [R,ZiX rfl]
  unfold Zcx
  rw [Za e1,Za e2,Za e3,Za e4]
  exact hr
 unfold Zfh
 by_cases he : YJ k s m=0
 ·have hz:=ZlE.1 he
  have hk12:=Kq (Zbz.1 hz.1)
  have hr:=ZuB.1 (hz.2 (ZbF k m) (by simp))
  obtain ⟨H5,e5,g5,s5,_⟩:=h4.g.mup (k:=k) (v:=s)
  rw [if_pos he]
  refine ⟨H5,hbody _ ?_,h4.putc g5 s5 hk12 (by rw [ZdN,hr.1];simp;omega),(l4.step.more (by simp) (fun j hj=>.inl hj)).trans s5⟩
  rw [Za ZG]
  refine (QZ (vs:=[iv (YJ k s m)]) (H':=H5) ?_).trans rfl
  rw [Zb,if_pos (by simpa using he),Za Zl,Za Zj,Za (Ka h4.c),Za e5]
  rfl
 ·rw [if_neg he]
  refine ⟨H4,hbody _ ?_,h4,l4.step.more (by simp) (fun j hj=>.inl hj)⟩
  rw [Za ZG]
  refine (QZ (vs:=[iv (YJ k s m)]) (H':=H4) ?_).trans rfl
  rw [Zb,if_neg (by simpa using he)]
  rfl
theorem Zy8 (h : Dir H d b m) : R (n+1) Za3 [pt d] H=some (iv m.length,H):=by
 rw [R,Znl rfl]
 unfold Zey
 rw [Za Zl,Za Zj,Za (Ka h.c),Za h.g.len]
 rfl
theorem ZfX {g : Nat} {mm : List Value→M Value} {args : List Value} (hp : np g=some mm) (hy : Nat.blt g Zav=true:=by rfl) : run Tryz.prog np lvs (n+1) g args=mm args:=by
 unfold run
 simp only [hy,hp,cond_true]
theorem Ztp (h : Dir H d b m) : ∃ v q H',R (n+2) W1 [pt d] H=some (v,H')∧Zw H' v ((ZM (m.map (·.1))).map strv) q∧HLe H H'∧∀ j∈q,H.length≤j:=by
 have e1 : run Tryz.prog np lvs (n+1) Jl [.map (some b)] H=some (.func (.func ZjI) #[] #[pt H.length],H++[.cells [.map (some b)] 1 false false]):=by
  rw [ZaY rfl]
  unfold Yf
  rw [Za (Zb9 rfl rfl _)]
  rfl
 have l1 : HLe H (H++[.cells [.map (some b)] 1 false false]):=.app _ _
 obtain ⟨v,q,H2,e2,r2,l2,o2⟩:=(h.g.hle l1).keys (gks:=ZfB) (gc:=Qk) (gk:=ZjI) (c:=H.length) (by decide) ZB (Nat.le_trans h.few (by decide)) (fun p hp=>Nat.le_trans (h.len p hp) (by decide))
 have e2' : run Tryz.prog np lvs (n+1) Qn [.func (.func ZjI) #[] #[pt H.length],.func (.func Qk) #[] #[]] (H++[.cells [.map (some b)] 1 false false])=some (v,H2):=by
  rw [ZfX (show np Qn=some (Zb4 ZfB Qk) from rfl)]
  exact e2
 refine ⟨v,q,H2,?_,r2,l1.trans l2,fun j hj=>Nat.le_trans l1.len (o2 j hj)⟩
 rw [R,Zku rfl]
 unfold Zda
 rw [Za Zl,Za Zj,Za (Ka h.c),Za e1,Za e2']
 rfl
end
end Go.Proofs.YtedkoimihknggaaGreatDoor.A

namespace Go.Proofs.YtedkoimihknggaaGreatDoor.A
set_option linter.unusedVariables false
set_option linter.unusedSimpArgs false
open Go.Proofs Go.Proofs.YtedkoimihknggaaGreatDoor
def ZdH (pre s : List UInt8) : Bool:=decide (pre.length≤s.length) && (s.take pre.length==pre)
section
variable {H H' : Zd} {n : Nat} {s pre : List UInt8}
theorem Zp8 {k : Nat} (hk : k≤s.length) : sls (strv s) none (some (iv k)) H=some (strv (s.take k),H):=by
 have h1 : (⟨s.toArray⟩ : ByteArray).size=s.length:=by simp [ByteArray.size]
 have h2 : (⟨s.toArray⟩ : ByteArray).extract 0 k=⟨(s.take k).toArray⟩:=by
  apply ByteArray.ext
  rw [ByteArray.data_extract]
  simp
 have hb : bnd (some (iv k)) s.length=some k:=by simp [bnd]
 have hb0 : bnd none 0=some 0:=rfl
 unfold strv sls
 simp only [h1,hb,hb0]
 rw [if_pos ⟨Nat.zero_le _,hk⟩,h2]
theorem Zq1 (hs : s.length≤1000000000) (hp : pre.length≤1000000000) : R (n+1) Jq [strv s,strv pre] H=some (.bool (ZdH pre s),H):=by
 rw [R,Zcn rfl]
 unfold Kt ZdH
 rw [Za ZP,Za ZP]
 by_cases h : pre.length≤s.length
 ·have q1 : bop .int .geq (iv s.length) (iv pre.length) H=some (.bool true,H):=by rw [Qp,decide_eq_true (by omega)]
  rw [Za q1,Qq,Zs,Za ZP,Zs,Za (Zp8 h),Zs,Za Zgq,Qz,Yr,Za Zn,decide_eq_true h]
  rfl
 ·have q1 : bop .int .geq (iv s.length) (iv pre.length) H=some (.bool false,H):=by rw [Qp,decide_eq_false (by omega)]
  rw [Za q1]
  simp [↓ZR,ZS,↓Qu,Z7,Z9,Z8,↓Zb,JG,Zl,J7,Qc,Jm,Qi,Jn,Jc,QC,Jo,QD,QJ,QK,QM,Qj,Zn,ZU,Ys,Ye,Q3,QP,JM,ZC,QI,Jy,JH,Jx,ZG,Zo,Zk,Jj,ZT,Qp,JD,JL,Ja,JI,↓YI,JJ,↓g_r,Yw,Bool.not_true,Bool.not_false,Bool.false_eq_true,Bool.true_eq_false,reduceIte,List.tail_cons,List.headD_cons,decide_true,decide_false,cond_true,cond_false,Nat.beq_refl,KD,JV,Qd,Z4,ZH,Q7,Yr,YC,Y9,KE,Yk,Yh,Yj,ZE,List.replicate,ZA,Zz,QU,QS,QT,Zj,JA,ZP,ZY,h]
theorem Zla (hs : s.length≤1000000000) (hp : pre.length≤1000000000) : R (n+2) Ym [strv s,strv pre] H=some (.bool (ZdH pre s),H):=by
 have e1 : run Tryz.prog np lvs (n+1) Jq [strv s,strv pre] H=_:=Zq1 hs hp
 rw [R,Zhx rfl]
 unfold Zbn
 rw [Za e1]
 rfl
theorem Zx0 {c : Nat} (hs : s.length≤1000000000) (hp : pre.length≤1000000000) (hc : H[c]?=some (.cells [strv pre] 1 false false)) : R (n+3) W0 [strv s,pt c] H=some (.bool (!ZdH pre s),H):=by
 have e1 : run Tryz.prog np lvs (n+2) Ym [strv s,strv pre] H=_:=Zla hs hp
 rw [R,Zk0 rfl]
 unfold Zc4
 rw [Za (Ka hc),Za e1,Za ZU]
 rfl
section
variable {f v : Value} {p : List UInt8→Bool} {l : List (List UInt8)} {q : List Nat} {Q : Zd→Prop}
theorem Kd {ss : List (List UInt8)} {i : Nat} {x : List UInt8} (h : ss[i]?=some x) : (ss.map strv)[i]?=some (strv x):=by rw [List.getElem?_map,h];rfl
theorem ZuY (hr : Zw H v (l.map strv) q) (hl : l.length≤1000000) (hf : ∀ s∈l,Z6 (R n) f [strv s] H=some (.bool (p s),H)) : ∀ (t k : Nat),l.length - k=t→k≤l.length→
  Zh (c4 (Zx.l1 (R n))) [v,f,iv l.length,iv k] H=some (match (l.drop k).findIdx? p with | some i=>.ret (iv (k+i : Nat)) | none=>.ext 0 [],H)
 | 0,k,ht,hk=>by
  have : k=l.length:=by omega
  subst this
  rw [List.drop_length]
  refine ZV ?_
  rw [ZH]
  unfold Zx.l1
  rw [Za Zk,Zb,if_neg (by simp)]
  rfl
 | t+1,k,ht,hk=>by
  have hkl : k < l.length:=by omega
  have hlt : (k : Int) < l.length:=by omega
  have hg:=List.getElem?_eq_getElem hkl
  have hm : l[k]∈l:=List.getElem_mem hkl
  have hd:=List.drop_eq_getElem_cons hkl
  generalize l[k]=x at hg hd hm
  have x1:=hr.ix (i:=k) (by simpa using hkl) .i64 H
  have x2:=hr.ldx (Kd hg)
  have x3:=hf x hm
  have ih:=ZuY hr hl hf t (k+1) (by omega) (by omega)
  rw [hd,List.findIdx?_cons]
  cases hp : p x
  ·rw [hp] at x3
   refine (ZI ?_).trans (ih.trans ?_)
   ·rw [ZH]
    unfold Zx.l1
    rw [Za Zk,Zb,if_pos (by simpa using hlt),Za x1,Za x2,Za x3,Zb,if_neg (by simp),Za ZC,Q5 (by omega)]
    rfl
   ·cases (l.drop (k+1)).findIdx? p with
    | none=>rfl
    | some i=>simp only [Bool.false_eq_true,if_false,Option.map_some];rw [show k+1+i=k+(i+1) by omega]
  ·rw [hp] at x3
   refine JX ?_
   rw [ZH]
   unfold Zx.l1
   rw [Za Zk,Zb,if_pos (by simpa using hlt),Za x1,Za x2,Za x3,Zb,if_pos rfl]
   rfl
theorem Zxi (hr : Zw H v (l.map strv) q) (hl : l.length≤1000000) (hf : ∀ s∈l,Z6 (R n) f [strv s] H=some (.bool (p s),H)) :
  R (n+1) Qx [v,f] H=some (match l.findIdx? p with | some i=>iv i | none=>iv (-1),H):=by
 have e:=ZuY hr hl hf l.length 0 (by omega) (by omega)
 rw [List.drop_zero] at e
 have e : Zh (c4 (Zx.l1 (R n))) [v,f,iv l.length,.int .i64 0] H=_:=e
 have hlen : Zp v H=some (iv l.length,H):=by have:=hr.rd.len (H':=H);simpa using this
 rw [R,WP rfl]
 unfold Zx
 rw [Za hlen]
 cases h : l.findIdx? p with
 | none=>rw [h] at e;rw [Qh e,ZE];rfl
 | some i=>
  rw [h] at e
  rw [Kj e]
  simp [ret]
theorem ZqH (hl : l.length≤1000000) (hQ : ∀ X X',Q X→Zr q X q X'→Q X') (hf : ∀ X,Q X→∀ s∈l,Z6 (R n) f [strv s] X=some (.bool (p s),X)) : ∀ (t j i : Nat) (cs : List (List UInt8)) (X : Zd),l.length - j=t→j≤l.length→i≤j→cs.length=l.length→cs.drop j=l.drop j→Zw X v (cs.map strv) q→Q X→
  ∃ (X' : Zd) (cs' : List (List UInt8)),Zh (c4 (Zu.l1 (R n))) [v,f,iv i,iv j] X=some (.ext 0 [v,iv (i+((l.drop j).filter fun s=>!p s).length : Nat)],X')∧Zw X' v (cs'.map strv) q∧cs'.length=l.length∧
   cs'.take (i+((l.drop j).filter fun s=>!p s).length)=cs.take i++(l.drop j).filter (fun s=>!p s)∧Zr q X q X'
 | 0,j,i,cs,X,ht,hj,hi,hc,hd,hr,hq=>by
  have : j=l.length:=by omega
  subst this
  rw [List.drop_length]
  have hlen : Zp v X=some (iv l.length,X):=by have:=hr.rd.len (H':=X);simpa [hc] using this
  refine ⟨X,cs,ZV ?_,hr,hc,by simp,.refl _ _⟩
  rw [ZH]
  unfold Zu.l1
  rw [Za hlen,Za Zk,Zb,if_neg (by simp)]
  rfl
 | t+1,j,i,cs,X,ht,hj,hi,hc,hd,hr,hq=>by
  have hjl : j < l.length:=by omega
  have hlt : (j : Int) < l.length:=by omega
  have hg:=List.getElem?_eq_getElem hjl
  have hm : l[j]∈l:=List.getElem_mem hjl
  have hdl:=List.drop_eq_getElem_cons hjl
  generalize l[j]=x at hg hdl hm
  have hgc : cs[j]?=some x:=by
   have h1 : (cs.drop j)[0]?=(l.drop j)[0]?:=by rw [hd]
   simpa [hg] using h1
  have hlen : Zp v X=some (iv l.length,X):=by have:=hr.rd.len (H':=X);simpa [hc] using this
  have x1:=hr.ix (i:=j) (by simpa [hc] using hjl) .i64 X
  have x2:=hr.ldx (Kd hgc)
  have x3:=hf X hq x hm
  have hd1 : cs.drop (j+1)=l.drop (j+1):=by
   rw [← List.drop_drop,hd,List.drop_drop]
  rw [hdl,List.filter_cons]
  cases hp : p x
  ·rw [hp] at x3
   have x4:=hr.ix (i:=i) (by simp [hc];omega) .i64 X
   obtain ⟨X1,x5,r1,s1,_⟩:=hr.stx (i:=i) (u:=strv x) (by simp [hc];omega) rfl
   have hset : (cs.map strv).set i (strv x)=(cs.set i x).map strv:=by rw [List.map_set]
   rw [hset] at r1
   obtain ⟨X',cs',e,r',hc',ht',s'⟩:=ZqH hl hQ hf t (j+1) (i+1) (cs.set i x) X1 (by omega) (by omega) (by omega) (by simpa using hc) (by rw [List.drop_set_of_lt (by omega)];exact hd1) r1 (hQ _ _ hq s1)
   have hn : i+1+((l.drop (j+1)).filter fun s=>!p s).length=i+(((l.drop (j+1)).filter fun s=>!p s).length+1):=by omega
   rw [hn] at e ht'
   simp only [Bool.not_false,if_true,List.length_cons]
   refine ⟨X',cs',(ZI ?_).trans e,r',hc',?_,s1.trans s'⟩
   ·rw [ZH]
    unfold Zu.l1
    rw [Za hlen,Za Zk,Zb,if_pos (by simpa using hlt),Za x1,Za x2,Za x3,Za ZU]
    refine (QZ (vs:=[v,f,iv ((i+1 : Nat) : Int),iv j]) (H':=X1) ?_).trans ?_
    ·rw [Zb,if_pos (by rfl),Za x4,Za x5,Za ZC,Q5 (by omega)];rfl
    ·rw [ZH,Za ZC,Q5 (by omega)];rfl
   ·rw [ht']
    have : (cs.set i x).take (i+1)=cs.take i++[x]:=by
     have hil : i < (cs.set i x).length:=by simp [hc];omega
     rw [List.take_succ_eq_append_getElem hil,List.take_set_of_le (Nat.le_refl _)]
     simp
    rw [this];simp
  ·rw [hp] at x3
   obtain ⟨X',cs',e,r',hc',ht',s'⟩:=ZqH hl hQ hf t (j+1) i cs X (by omega) (by omega) (by omega) hc hd1 hr hq
   simp only [Bool.not_true,Bool.false_eq_true,if_false]
   refine ⟨X',cs',(ZI ?_).trans e,r',hc',ht',s'⟩
   rw [ZH]
   unfold Zu.l1
   rw [Za hlen,Za Zk,Zb,if_pos (by simpa using hlt),Za x1,Za x2,Za x3,Za ZU]
   refine (QZ (vs:=[v,f,iv i,iv j]) (H':=X) ?_).trans ?_
   ·rw [Zb,if_neg (by simp)];rfl
   ·rw [ZH,Za ZC,Q5 (by omega)];rfl
theorem Zev : ∀ {l : List (List UInt8)},(match l.findIdx? p with | some i=>l.filter (fun s=>!p s)=l.take i++(l.drop (i+1)).filter (fun s=>!p s)∧i < l.length | none=>l.filter (fun s=>!p s)=l)
 | []=>by simp
 | x :: l=>by
  have ih:=Zev (l:=l)
  rw [List.findIdx?_cons]
  cases hp : p x
  ·simp only [Bool.false_eq_true,if_false]
   cases h : l.findIdx? p with
   | none=>rw [h] at ih;simp [hp];simpa using ih
   | some i=>rw [h] at ih;simp [hp,ih.1,ih.2]
  ·simp [hp]
theorem ZyI (k : Nat) : reps k (Value.string ⟨#[]⟩).cells.toList=List.replicate k (strv []):=by
 induction k with
 | zero=>rfl
 | succ k ih=>
  unfold reps at ih ⊢
  rw [List.replicate_succ,List.flatten_cons,ih];rfl
theorem Zpn {cs : List (List UInt8)} {i : Nat} (hr : Zw H v (cs.map strv) q) (hi : i < cs.length) : ∃ a H' v',slv 1 v (some (iv i)) none none H=some (a,H)∧clr (.string ⟨#[]⟩) 1 a H=some (.tuple #[],H')∧slv 1 v none (some (iv i)) none H'=some (v',H')∧Zw H' v' ((cs.take i).map strv) q∧Zr q H q H':=by
 rcases hr with ⟨h1,_,_⟩ | ⟨sid,rest,g,rfl,rfl,hid⟩
 ·simp at h1;simp [h1] at hi
 ·rw [List.length_map] at *
  have b1 : bnd (some (iv i)) 0=some i:=by simp [bnd]
  have b1' : bnd (some (iv i)) cs.length=some i:=by simp [bnd]
  have b2 : ∀ k,bnd none k=some k:=fun _=>rfl
  have hsp : splice (cs.map strv++rest) (List.replicate (cs.length - i) (strv [])) i=(cs.take i).map strv++(List.replicate (cs.length - i) (strv [])++rest):=by
   unfold splice
   rw [List.length_replicate,Nat.add_sub_cancel' (Nat.le_of_lt hi),List.take_append_of_le_length (by simp;omega),List.drop_append_of_le_length (by simp),List.drop_eq_nil_of_le (by simp),List.map_take]
   simp
  refine ⟨.slice (some ⟨sid,0+i * 1,none⟩) (cs.length - i) (cs.length+rest.length - i),H.set sid (.cells ((cs.take i).map strv++(List.replicate (cs.length - i) (strv [])++rest)) 1 g false),.slice (some ⟨sid,0,none⟩) i (cs.length+rest.length),?_,?_,?_,?_,⟨by simp,fun j hj hn=>List.getElem?_set_ne (fun e=>hn (by simp [e])),fun j hj=>.inl hj⟩⟩
  ·simp only [slv,hid,b1,b2]
   rw [if_pos ⟨trivial,by omega,by omega,Nat.le_refl _⟩,if_neg (by omega)]
  ·simp only [clr]
   rw [if_neg (by omega)]
   simp only [hid]
   rw [if_pos ⟨trivial,by simp;omega⟩,ZyI]
   rw [Nat.zero_add,Nat.mul_one,hsp]
  ·simp only [slv,Qv hid,b1',b2]
   rw [if_pos ⟨trivial,by omega,by omega,Nat.le_refl _⟩,if_neg (by omega)]
   simp
  ·have hl : ((cs.take i).map strv).length=i:=by simp;omega
   refine .inr ⟨sid,List.replicate (cs.length - i) (strv [])++rest,g,?_,rfl,Qv hid⟩
   rw [hl]
   simp;omega
theorem Zj2 (hr : Zw H v (l.map strv) q) (hl : l.length≤1000000) (hQ : ∀ X X',Q X→Zr q X q X'→Q X') (hf : ∀ X,Q X→∀ s∈l,Z6 (R n) f [strv s] X=some (.bool (p s),X)) (hf1 : ∀ X,Q X→∀ s∈l,Z6 (R (n+1)) f [strv s] X=some (.bool (p s),X)) (h0 : Q H) :
  ∃ H' v',R (n+2) ZO [v,f] H=some (v',H')∧Zw H' v' ((l.filter fun s=>!p s).map strv) q∧Zr q H q H':=by
 have e1 : run Tryz.prog np lvs (n+1) Qx [v,f] H=_:=Zxi hr hl (hf H h0)
 have hfi:=Zev (p:=p) (l:=l)
 have hrun : R (n+2) ZO [v,f] H=Zu (R (n+1)) v f H:=by rw [R,Ws rfl]
 rw [hrun]
 unfold Zu
 cases h : l.findIdx? p with
 | none=>
  rw [h] at e1 hfi
  refine ⟨H,v,?_,by rw [hfi];exact hr,.refl _ _⟩
  rw [Za e1,Za ZG,Zb,if_pos (by simp)]
  rfl
 | some i=>
  rw [h] at e1 hfi
  simp only at e1 hfi
  obtain ⟨X',cs',e2,r2,hc2,ht2,s2⟩:=ZqH (n:=n+1) hl hQ hf1 (l.length - (i+1)) (i+1) i l H rfl (by omega) (by omega) rfl rfl hr h0
  have hle : ((l.drop (i+1)).filter fun s=>!p s).length≤l.length - (i+1):=by
   have:=List.length_filter_le (fun s=>!p s) (l.drop (i+1))
   simpa using this
  obtain ⟨a,X2,v',a1,a2,a3,a4,a5⟩:=Zpn r2 (i:=i+((l.drop (i+1)).filter fun s=>!p s).length) (by omega)
  refine ⟨X2,v',?_,by rw [hfi.1,← ht2];exact a4,s2.trans a5⟩
  rw [Za e1,Za ZG,Zb,if_neg (by simp),Za ZC,Q5 (by omega),Qh e2,ZE,Qd,Za a1,Za a2,Za a3]
  rfl
end
end
end Go.Proofs.YtedkoimihknggaaGreatDoor.A

namespace Go.Proofs.YtedkoimihknggaaGreatDoor.A
set_option linter.unusedVariables false
set_option linter.unusedSimpArgs false
open Go.Proofs Go.Proofs.YtedkoimihknggaaGreatDoor
def usr (u : List UInt8 × List UInt8) : List Value:=[strv u.1,strv u.2,strv [],.bool false,.slice none 0 0]
def Q9 (m : Qo) : Qo:=(ZM (m.map (·.1))).map fun k=>(k,(Zf k m).getD [])
section
variable {H H' : Zd} {n d b : Nat} {m : Qo} {pre : List UInt8}
theorem ZqF {k : List UInt8} (hk : k∈ZM (m.map (·.1))) : k∈m.map (·.1):=(List.mem_mergeSort).1 hk
theorem ZvW (h : Dir H d b m) {k : List UInt8} (hk : k∈ZM (m.map (·.1))) : k.length≤12:=by
 obtain ⟨p,hp,rfl⟩:=List.mem_map.1 (ZqF hk)
 exact h.len p hp
theorem ZrW (h : Dir H d b m) : (ZM (m.map (·.1))).length≤12:=by
 rw [Zgv,List.length_map];exact h.few
theorem ZuD (h : Dir H d b m) (hp : pre.length≤1000000000) : ∃ v q H',R (n+6) ZaA [pt d,strv pre] H=some (.tuple #[v,iv (Ky pre)],H')∧Zw H' v ((if ZhN pre then (ZM (m.map (·.1))).filter (ZdH pre) else []).map strv) q∧HLe H H'∧∀ j∈q,H.length≤j:=by
 have e0:=Zb9 (v:=strv pre) rfl rfl H
 have l0 : HLe H (H++[Zg.cells [strv pre] 1 false false]):=.app _ _
 have c0 : (H++[Zg.cells [strv pre] 1 false false])[H.length]?=some (.cells [strv pre] 1 false false):=ZB
 have g0 : (H++[Zg.cells [strv pre] 1 false false]).length=H.length+1:=by simp
 generalize H++[Zg.cells [strv pre] 1 false false]=H1 at e0 l0 c0 g0
 generalize hc : H.length=c at e0 c0 g0
 have e1 : run Tryz.prog np lvs (n+5) WI [strv pre] H1=some (iv (Ky pre),H1):=Zq9 hp
 by_cases hb : ZhN pre=true
 ·have he : Ky pre=0:=by unfold Ky;rw [if_pos hb]
  obtain ⟨v,q,H2,e2,r2,l2,o2⟩:=Ztp (n:=n+3) (h.hle l0)
  have hQ : ∀ X X',X[c]?=some (.cells [strv pre] 1 false false)→Zr q X q X'→X'[c]?=some (.cells [strv pre] 1 false false):=fun X X' hx hs=>hs.get hx fun hj=>by have:=o2 c hj;omega
  have hcall : ∀ n X,X[c]?=some (.cells [strv pre] 1 false false)→∀ s∈ZM (m.map (·.1)),Z6 (R (n+3)) (.func (.func W0) #[] #[pt c]) [strv s] X=some (.bool (!ZdH pre s),X):=fun n X hx s hs=>by
   rw [show (#[pt c] : Array Value)=[pt c].toArray from rfl,ZfH]
   exact Zx0 (Nat.le_trans (ZvW h hs) (by decide)) hp hx
  have hfew:=ZrW h
  obtain ⟨H3,v',e3,r3,s3⟩:=Zj2 (n:=n+3) (f:=.func (.func W0) #[] #[pt c]) (p:=fun s=>!ZdH pre s) (Q:=fun X=>X[c]?=some (.cells [strv pre] 1 false false)) r2 (by omega) hQ (hcall n) (hcall (n+1)) (l2 _ _ c0)
  have hm:=(l0.trans l2).more s3 (fun j hj=>by have:=o2 j hj;omega)
  refine ⟨v',q,H3,?_,by simpa [hb] using r3,hm.1,fun j hj=>by have:=hm.2 j hj;omega⟩
  rw [R,Zfw rfl]
  unfold ZbN
  rw [Za e0,Za (Ka c0),Za e1,Za Zo,he,Zb,if_neg (by simp)]
  refine (Za e2).trans ((Za e3).trans rfl)
 ·have he : Ky pre=10:=by unfold Ky;rw [if_neg hb]
  refine ⟨.slice none 0 0,[],H1,?_,by rw [if_neg hb];exact Zw.nil,l0,by simp⟩
  rw [R,Zfw rfl]
  unfold ZbN
  rw [Za e0,Za (Ka c0),Za e1,Za Zo,he,Zb,if_pos (by simp)]
  rfl
theorem Zn6 {k s : List UInt8} {H : Zd} : bld (.agg #[.string ⟨#[]⟩,.string ⟨#[]⟩,.string ⟨#[]⟩,.bool false,.slice none 0 0]) [(0,1,strv k),(1,1,strv s)] H=some (.agg (usr (k,s)).toArray,H):=by
 simp [↓ZR,ZS,↓Qu,Z7,Z9,Z8,↓Zb,JG,Zl,J7,Qc,Jm,Qi,Jn,Jc,QC,Jo,QD,QJ,QK,QM,Qj,Zn,ZU,Ys,Ye,Q3,QP,JM,ZC,QI,Jy,JH,Jx,ZG,Zo,Zk,Jj,ZT,Qp,JD,JL,Ja,JI,↓YI,JJ,↓g_r,Yw,Yx,WE,splice,Value.cells,strv,usr,oneCell]
theorem Zfn (u : List UInt8 × List UInt8) : (usr u).length=5:=rfl
theorem Zte (u : List UInt8 × List UInt8) : (usr u).all oneCell=true:=rfl
theorem Zs7 {v : Value} {q0 : List Nat} {ks : List (List UInt8)} (h : Dir H d b m) (hr : Zw H v (ks.map strv) q0) (hk : ks.length≤1000) (hH0 : ∀ j∈q0,j < H.length) : ∀ (t k : Nat) (sl : Value) (q : List Nat) (X : Zd),ks.length - k=t→k≤ks.length→HLe H X→(∀ j∈q,H.length≤j)→Jf 5 X sl ((ks.take k).map fun k=>usr (k,(Zf k m).getD [])) q→
  ∃ X' sl' q',Zh (c5 (YW.l1 (R n))) [pt d,sl,v,iv ks.length,iv k] X=some (.ext 0 [sl'],X')∧Jf 5 X' sl' (ks.map fun k=>usr (k,(Zf k m).getD [])) q'∧HLe H X'∧(∀ j∈q',H.length≤j)
 | 0,k,sl,q,X,ht,hkl,hl,hq,hn=>by
  have : k=ks.length:=by omega
  subst this
  rw [List.take_length] at hn
  refine ⟨X,sl,q,ZV ?_,hn,hl,hq⟩
  rw [Q7]
  unfold YW.l1
  rw [Za Zk,Zb,if_neg (by simp)]
  rfl
 | t+1,k,sl,q,X,ht,hkl,hl,hq,hn=>by
  have hlt : k < ks.length:=by omega
  have hlt' : (k : Int) < ks.length:=by omega
  have hg:=List.getElem?_eq_getElem hlt
  have htk:=List.take_succ_eq_append_getElem hlt
  generalize ks[k]=x at hg htk
  have hX:=h.hle hl
  have hrx : Zw X v (ks.map strv) q0:=hr.keep fun j hj=>hl.step.keep j (hH0 j hj) (by simp)
  have x1:=hrx.ix (i:=k) (by simpa using hlt) .i64 X
  have x2:=hrx.ldx (Kd hg)
  have x3:=hX.g.lkp (k:=x) (z:=.string ⟨#[]⟩) (ok:=false)
  have x3 : lkp .str (.string ⟨#[]⟩) false (.map (some b)) (strv x) X=some (strv ((Zf x m).getD []),X):=by
   rw [x3];cases Zf x m <;> rfl
  have x4:=Zqf (es:=5) (z:=.agg #[.string ⟨#[]⟩,.string ⟨#[]⟩,.string ⟨#[]⟩,.bool false,.slice none 0 0]) (H:=X) rfl (Zfn (x,(Zf x m).getD [])) (Zte _)
  have l1 : HLe X (X++[Zg.cells (usr (x,(Zf x m).getD [])) 5 false false]):=.app _ _
  have s1 : SlN 5 (X++[Zg.cells (usr (x,(Zf x m).getD [])) 5 false false]) (.slice (some ⟨X.length,0,none⟩) 1 1) [usr (x,(Zf x m).getD [])]:=SlN.whole (rows:=[usr (x,(Zf x m).getD [])]) (c:=1) (e:=5) (g:=false) (ro:=false) (by rw [ZB];simp) (by simp [Zfn])
  generalize X++[Zg.cells (usr (x,(Zf x m).getD [])) 5 false false]=X1 at x4 l1 s1
  have hn1 : Jf 5 X1 sl _ q:=hn.keep fun j hj=>l1.step.keep j (hn.lt j hj) (by simp)
  obtain ⟨sl',X2,q',x5,hn2,s2⟩:=hn1.push (b:=80) s1 (Zfn _) (by simp;omega) (by simp;omega)
  have hm:=(hl.trans l1).more s2 hq
  rw [← List.map_singleton (f:=fun k=>usr (k,(Zf k m).getD [])),← List.map_append,← htk] at hn2
  obtain ⟨X',sl2,q2,e,r⟩:=Zs7 h hr hk hH0 t (k+1) sl' q' X2 (by omega) (by omega) hm.1 hm.2 hn2
  refine ⟨X',sl2,q2,(ZI ?_).trans e,r⟩
  rw [Q7]
  unfold YW.l1
  rw [Za Zk,Zb,if_pos (by simpa using hlt'),Za x1,Za x2,Za Zl,Za Zj,Za (Ka hX.c),Za x3,Za Zn6,Za x4,Za x5,Za ZC,Q5 (by omega)]
  rfl
theorem ZrL (h : Dir H d b m) : ∃ v q H',R (n+3) KA [pt d] H=some (v,H')∧Jf 5 H' v ((Q9 m).map usr) q∧HLe H H'∧∀ j∈q,H.length≤j:=by
 obtain ⟨v,q,H1,e1,r1,l1,o1⟩:=Ztp (n:=n) h
 have hfew:=ZrW h
 obtain ⟨H2,sl,q2,e2,r2,l2,o2⟩:=Zs7 (n:=n+2) (h.hle l1) r1 (by omega) (fun j hj=>r1.lt j hj) (ZM (m.map (·.1))).length 0 (.slice none 0 0) [] H1 rfl (by omega) (.refl _) (by simp) Jf.nil
 have e2 : Zh (c5 (YW.l1 (R (n+2)))) [pt d,.slice none 0 0,v,iv (ZM (m.map (·.1))).length,.int .i64 0] H1=_:=e2
 have hlen : Zp v H1=some (iv (ZM (m.map (·.1))).length,H1):=by have:=r1.rd.len (H':=H1);simpa using this
 refine ⟨sl,q2,H2,?_,by unfold Q9;rw [List.map_map];exact r2,l1.trans l2,fun j hj=>Nat.le_trans l1.len (o2 j hj)⟩
 rw [R,ZmM rfl]
 unfold YW
 refine (Za e1).trans ?_
 rw [Za hlen,Qh e2,ZE]
 rfl
end
end Go.Proofs.YtedkoimihknggaaGreatDoor.A

namespace Go.Proofs.YtedkoimihknggaaGreatDoor.A
set_option linter.unusedVariables false
set_option linter.unusedSimpArgs false
open Go.Proofs Go.Proofs.YtedkoimihknggaaGreatDoor
theorem Zki (s : ByteArray) : Value.string s=strv s.data.toList:=by simp [strv]
section
variable {H : Zd} {n : Nat}
end
end Go.Proofs.YtedkoimihknggaaGreatDoor.A

namespace Go.Proofs.YtedkoimihknggaaGreatDoor.A
set_option linter.unusedVariables false
set_option linter.unusedSimpArgs false
open Go.Proofs Go.Proofs.YtedkoimihknggaaGreatDoor
abbrev Ent:=List UInt8 × List UInt8
def ZfP (l : Qo) : Prop:=l.Pairwise fun a b=>a.1 < b.1
theorem ZvQ : ∀ {l l' : Qo},ZfP l→ZfP l'→(∀ x,x∈l↔x∈l')→l=l':=by
 intro l l' h h' hm
 have nd : ∀ {l : Qo},ZfP l→l.Nodup:=fun h=>by
  rw [List.nodup_iff_pairwise_ne]
  refine List.Pairwise.imp ?_ h
  rintro a b hab rfl
  exact List.lt_irrefl _ hab
 have hp : l.Perm l':=(List.perm_ext_iff_of_nodup (nd h) (nd h')).2 hm
 refine List.Perm.eq_of_pairwise (le:=fun a b=>a.1 < b.1) (fun a b _ _ h1 h2=>absurd h2 (List.lt_asymm h1)) (show l.Pairwise (fun a b : Ent=>a.1 < b.1) from h) (show l'.Pairwise (fun a b : Ent=>a.1 < b.1) from h') hp
section
variable {m : Qo} {k s : List UInt8} {x : Ent}
theorem Zgi (hn : (m.map (·.1)).Nodup) : x∈Q9 m↔Zf x.1 m=some x.2:=by
 unfold Q9
 rw [List.mem_map]
 constructor
 ·rintro ⟨k,hk,rfl⟩
  have hk:=ZqF hk
  obtain ⟨p,hp,rfl⟩:=List.mem_map.1 hk
  have : Zf p.1 m=some p.2:=Zaa hn hp
  simp [this]
 ·intro h
  refine ⟨x.1,List.mem_mergeSort.2 (List.mem_map.2 ⟨_,KK h,rfl⟩),?_⟩
  rw [h];rfl
theorem ZmO (hn : (m.map (·.1)).Nodup) : ZfP (Q9 m):=by
 have hk : (ZM (m.map (·.1))).Pairwise (· < ·):=by
  have tr : ∀ a b c : List UInt8,leB a b=true→leB b c=true→leB a c=true:=fun a b c h1 h2=>by simp only [leB,decide_eq_true_eq] at *;exact List.le_trans h1 h2
  have to : ∀ a b : List UInt8,(leB a b || leB b a)=true:=fun a b=>by simp only [leB,Bool.or_eq_true,decide_eq_true_eq];exact List.le_total a b
  have h1:=List.pairwise_mergeSort tr to (m.map (·.1))
  have h2 : (ZM (m.map (·.1))).Pairwise (·≠·):=List.nodup_iff_pairwise_ne.1 ((List.mergeSort_perm _ _).nodup_iff.2 hn)
  refine (h1.and h2).imp fun {a b} h=>?_
  have h3 : a≤b:=by have:=h.1;simpa [leB] using this
  rcases ZjW a b with h4 | h4 | h4
  ·exact h4
  ·exact absurd h4 h.2
  ·exact absurd h4 h3
 unfold ZfP Q9
 rw [List.pairwise_map]
 exact hk
theorem Zjc : (Q9 m).length=m.length:=by
 unfold Q9
 rw [List.length_map,Zgv,List.length_map]
end
end Go.Proofs.YtedkoimihknggaaGreatDoor.A

namespace Go.Proofs.YtedkoimihknggaaGreatDoor.A
set_option linter.unusedVariables false
set_option linter.unusedSimpArgs false
open Go.Proofs Go.Proofs.YtedkoimihknggaaGreatDoor
def GV (H : Zd) (gv : Value) (gs : List (List UInt8)) : Prop:=
 (gs=[]∧(gv=.slice none 0 0∨gv=.slice (some ⟨0,0,some 1⟩) 0 0))∨
 ∃ id rest,gv=.slice (some ⟨id,0,none⟩) gs.length (gs.length+rest.length)∧H[id]?=some (.cells (gs.map strv++rest) 1 false true)
section
variable {H H' X : Zd} {n p : Nat} {gv : Value} {gs : List (List UInt8)}
theorem GV.mono (h : GV H gv gs) (hl : HLe H H') : GV H' gv gs:=by
 rcases h with h | ⟨id,rest,h1,h2⟩
 ·exact .inl h
 ·exact .inr ⟨id,rest,h1,hl _ _ h2⟩
theorem GV.sl (h : GV H gv gs) : Sl H gv (gs.map strv):=by
 rcases h with ⟨rfl,rfl | rfl⟩ | ⟨id,rest,rfl,h2⟩
 ·exact Sl.nil
 ·exact ⟨_,_,rfl,(fun e=>by cases e),rfl⟩
 ·refine ⟨some ⟨id,0,none⟩,gs.length+rest.length,by rw [List.length_map],(fun e=>by cases e),?_⟩
  simp only [Qr,h2]
  rw [if_pos (by simp)]
  simp
theorem GV.len (h : GV H gv gs) : Zp gv H'=some (iv gs.length,H'):=by
 have:=h.sl.len (H':=H')
 rwa [List.length_map] at this
theorem GV.one (h : GV H gv gs) : oneCell gv=true:=by
 rcases h with ⟨_,rfl | rfl⟩ | ⟨id,rest,rfl,_⟩ <;> rfl
structure Zm where
 nm : List UInt8
 hs : List UInt8
 ml : List UInt8
 ds : Bool
 gv : Value
 gs : List (List UInt8)
abbrev Zm.cells (u : Zm) : List Value:=[strv u.nm,strv u.hs,strv u.ml,.bool u.ds,u.gv]
def Zm.ok (H : Zd) (u : Zm) : Prop:=GV H u.gv u.gs
theorem Zm.all {u : Zm} (h : u.ok H) : u.cells.all oneCell=true:=by
 have:=GV.one h
 simp only [Zm.cells,List.all_cons,this];rfl
def Users (H : Zd) (sl : Value) (us : List Zm) : Prop:=SlN 5 H sl (us.map Zm.cells)∧∀ u∈us,u.ok H
variable {sl : Value} {us : List Zm}
theorem Users.mono (h : Users H sl us) (hl : HLe H H') : Users H' sl us:=⟨h.1.mono hl,fun u hu=>(h.2 u hu).mono hl⟩
theorem Users.len (h : Users H sl us) : Zp sl H'=some (iv us.length,H'):=by
 have:=h.1.len (H':=H')
 rwa [List.length_map] at this
theorem Users.fetch {β : Type} {k : Value→M β} (h : Users H sl us) {j : Nat} {u : Zm} (hj : us[j]?=some u) :
  bind (ixa 5 sl (iv j)) (fun p=>bind (ldA 5 p) fun v=>bind (alc 1 (.agg #[.string ⟨#[]⟩,.string ⟨#[]⟩,.string ⟨#[]⟩,.bool false,.slice none 0 0])) fun q=>bind (stA 5 q v) fun _=>k q) H=k (pt H.length) (H++[.cells u.cells 1 false false]):=by
 have hr : (us.map Zm.cells)[j]?=some u.cells:=by rw [List.getElem?_map,hj];rfl
 rw [h.1.fetch hr (by omega) .i64]
 exact Zdo (n:=5) (zs:=[.string ⟨#[]⟩,.string ⟨#[]⟩,.string ⟨#[]⟩,.bool false,.slice none 0 0]) (r:=u.cells) rfl rfl rfl (Zm.all (h.2 u (List.mem_of_getElem? hj)))
theorem Zw4 {u : Zm} (h : u.ok X) : alc 1 (.agg u.cells.toArray) X=some (pt X.length,X++[.cells u.cells 1 false false]):=by
 rw [QJ]
 exact if_pos (show u.cells.toArray.toList.all oneCell=true by simpa using Zm.all h)
end
end Go.Proofs.YtedkoimihknggaaGreatDoor.A

namespace Go.Proofs.YtedkoimihknggaaGreatDoor.A
set_option linter.unusedVariables false
set_option linter.unusedSimpArgs false
open Go.Proofs Go.Proofs.YtedkoimihknggaaGreatDoor
def ZiL (u : Zm) : Bool:=(u.ml==[]) && (!u.ds && decide (u.gs.length=0))
def ZdS (u : Zm) : Int:=if Zy u.nm then (if YD u.hs then (if ZiL u then 0 else 12) else 4) else 10
def Za0 : List Zm→Int
 | []=>0
 | u :: l=>if ZdS u=0 then Za0 l else ZdS u
def Zfd (u : Zm) : Ent:=(u.nm,u.hs)
def Zem : Option (List UInt8)→List Zm→Bool
 | _,[]=>true
 | p,u :: l=>(match p with | none=>true | some p=>decide (p < u.nm)) && Zem (some u.nm) l
def ZdX (us : List Zm) (k : Nat) : Option (List UInt8):=if k=0 then none else (us[k - 1]?).map (·.nm)
section
variable {H0 H X : Zd} {n p : Nat} {u : Zm} {us : List Zm} {sl : Value}
theorem ZvH {β : Type} {K : Value→M β} (hc : X[p]?=some (.cells u.cells 1 false false)) (hg : GV X u.gv u.gs) :
  bind (bop .str .neq (strv u.ml) (.string ⟨#[]⟩)) (fun v35=>bind (ZD v35 false 2 (bind (fa 3 (pt p)) fun a=>bind (ld1 a) fun b=>ret [a,b])) (c2 fun _ q=>bind (pick v35 (Value.bool true) q) fun v39=>bind (ZD v39 false 4 (bind (fa 4 (pt p)) fun a=>bind (ld1 a) fun b=>bind (Zp b) fun c=>bind (bop .int .gtr c (Value.int .i64 0)) fun d=>ret [a,b,c,d])) (c4 fun _ _ _ q=>bind (pick v39 (Value.bool true) q) K))) X=K (.bool (!ZiL u)) X:=by
 have a0 : ∀ f x,u.cells[f]?=some x→ld1 (pa p f) X=some (x,X):=fun f x h=>Qe hc h
 have q1 : bop .str .neq (strv u.ml) (.string ⟨#[]⟩) X=some (.bool (!(u.ml==[])),X):=Ze7 (b:=[])
 have hl : decide ((u.gs.length : Int) > 0)=!decide (u.gs.length=0):=by by_cases h : u.gs.length=0 <;> simp [h] <;> omega
 unfold ZiL
 rw [Za q1]
 cases u.ml==[]
 ·simp only [Bool.not_false]
  rw [Za (g_r.trans (if_neg (by simp)))]
  simp only [List.replicate]
  rw [Qd,Za Zn]
  simp only [cond_true]
  rw [Za (g_r.trans (if_neg (by simp)))]
  simp only [List.replicate]
  rw [ZH,Za Zn]
  rfl
 ·simp only [Bool.not_true]
  rw [Qq,Zs,Za Zj,Zs,Za (a0 3 _ rfl),Qz,Qd,Za Zn]
  simp only [cond_false]
  cases u.ds
  ·rw [Qq,Zs,Za Zj,Zs,Za (a0 4 _ rfl),Zs,Za hg.len,Zs,Za ZT,Qz,ZH,Za Zn,hl]
   simp
  ·rw [Za (g_r.trans (if_neg (by simp)))]
   simp only [List.replicate]
   rw [ZH,Za Zn]
   rfl
theorem ZoK {a c : Int} {v : Value} (hs : Sl X v [iv a,iv c]) : R (n+1) Wf [v] X=some (iv (if a=0 then c else a),X):=by
 have e1 : Zp v X=some (iv 2,X):=hs.len
 have x1 : ixa 1 v (.int .i64 0) X=some (ixp v 0,X):=hs.ix (i:=0) (by simp) .i64 X
 have x2:=hs.ldx (i:=0) (v:=iv a) rfl
 have x3 : ixa 1 v (.int .i64 1) X=some (ixp v 1,X):=hs.ix (i:=1) (by simp) .i64 X
 have x4:=hs.ldx (i:=1) (v:=iv c) rfl
 have w1 : IntKind.i64.wrap (0+1)=1:=w64 (by omega) (by omega)
 have w2 : IntKind.i64.wrap (1+1)=2:=w64 (by omega) (by omega)
 rw [R,ZpO rfl]
 unfold Jw
 rw [Za e1]
 by_cases ha : a=0
 ·rw [if_pos ha]
  have s1 : c3 (Jw.l1 (run Tryz.prog np lvs n)) [v,iv 2,.int .i64 0] X=some (.nrm [v,iv 2,.int .i64 1],X):=by
   rw [Z4]
   unfold Jw.l1
   rw [Za Zk,Zb,if_pos (by decide),Za x1,Za x2,Za Zo,Zb,if_neg (by simp [ha]),Za ZC,w1]
   rfl
  by_cases hc : c=0
  ·have s2 : c3 (Jw.l1 (run Tryz.prog np lvs n)) [v,iv 2,.int .i64 1] X=some (.nrm [v,iv 2,.int .i64 2],X):=by
    rw [Z4]
    unfold Jw.l1
    rw [Za Zk,Zb,if_pos (by decide),Za x3,Za x4,Za Zo,Zb,if_neg (by simp [hc]),Za ZC,w2]
    rfl
   have s3 : c3 (Jw.l1 (run Tryz.prog np lvs n)) [v,iv 2,.int .i64 2] X=some (.ext 0 [],X):=by
    rw [Z4]
    unfold Jw.l1
    rw [Za Zk,Zb,if_neg (by decide)]
    rfl
   rw [Qh ((ZI s1).trans ((ZI s2).trans (ZV s3))),ZE,hc]
   rfl
  ·have s2 : c3 (Jw.l1 (run Tryz.prog np lvs n)) [v,iv 2,.int .i64 1] X=some (.ret (iv c),X):=by
    rw [Z4]
    unfold Jw.l1
    rw [Za Zk,Zb,if_pos (by decide),Za x3,Za x4,Za Zo,Zb,if_pos (by simp [hc])]
    rfl
   rw [Kj ((ZI s1).trans (JX s2))]
   rfl
 ·rw [if_neg ha]
  have s1 : c3 (Jw.l1 (run Tryz.prog np lvs n)) [v,iv 2,.int .i64 0] X=some (.ret (iv a),X):=by
   rw [Z4]
   unfold Jw.l1
   rw [Za Zk,Zb,if_pos (by decide),Za x1,Za x2,Za Zo,Zb,if_pos (by simp [ha])]
   rfl
  rw [Kj (JX s1)]
  rfl
theorem Ztw {a c : Int} (H : Zd) : bsl 1 2 (.int .i64 0) [(0,1,iv a),(1,1,iv c)] H=some (.slice (some ⟨H.length,0,none⟩) 2 2,H++[.cells [iv a,iv c] 1 false false]):=rfl
theorem ZgJ (h : u.ok X) : ∃ X',R (n+6) J5 [iv 1,.agg u.cells.toArray] X=some (iv (ZdS u),X')∧HLe X X':=by
 have e1:=Zw4 h
 have k1 : HLe X (X++[.cells u.cells 1 false false]):=.app _ _
 have c1 : (X++[Zg.cells u.cells 1 false false])[X.length]?=some (.cells u.cells 1 false false):=ZB
 generalize X++[Zg.cells u.cells 1 false false]=X1 at e1 k1 c1
 generalize X.length=p at e1 c1
 have a0 : ∀ f x,u.cells[f]?=some x→ld1 (pa p f) X1=some (x,X1):=fun f x h=>Qe c1 h
 have e2 : run Tryz.prog np lvs (n+5) QW [strv u.nm] X1=some (iv (ZF u.nm),X1):=ZcK
 have e3 : run Tryz.prog np lvs (n+5) YV [strv u.hs] X1=some (iv (ZW u.hs),X1):=Zka (n:=n+1)
 have e4:=Ztw (a:=ZF u.nm) (c:=ZW u.hs) X1
 have k2 : HLe X1 (X1++[.cells [iv (ZF u.nm),iv (ZW u.hs)] 1 false false]):=.app _ _
 have s4 : Sl (X1++[.cells [iv (ZF u.nm),iv (ZW u.hs)] 1 false false]) (.slice (some ⟨X1.length,0,none⟩) 2 2) [iv (ZF u.nm),iv (ZW u.hs)]:=Sl.one (c:=2) ZB
 generalize X1++[Zg.cells [iv (ZF u.nm),iv (ZW u.hs)] 1 false false]=X2 at e4 k2 s4
 generalize (Value.slice (some ⟨X1.length,0,none⟩) 2 2)=sv at e4 s4
 have e5 : run Tryz.prog np lvs (n+5) Wf [sv] X2=_:=ZoK s4
 have c2:=k2 _ _ c1
 have hg : GV X2 u.gv u.gs:=GV.mono (GV.mono h k1) k2
 have b0 : ∀ f x,u.cells[f]?=some x→ld1 (pa p f) X2=some (x,X2):=fun f x h=>Qe c2 h
 have q1 : bop .int .neq (iv 1) (.int .i64 1) X1=some (.bool false,X1):=by rw [Zo];rfl
 have q2 : bop .int .eql (iv 1) (.int .i64 2) X2=some (.bool false,X2):=by rw [ZG];rfl
 refine ⟨X2,?_,k1.trans k2⟩
 rw [R,Zie rfl]
 unfold Zad
 rw [Za e1,Za q1,Za (g_r.trans (if_neg (by simp)))]
 simp only [List.replicate]
 rw [Qd,Za Zn]
 simp only [cond_false]
 rw [Zb,if_neg (by simp),Za Zj,Za (a0 0 _ rfl),Za Zj,Za (a0 1 _ rfl),Za e2,Za (a0 1 _ rfl),Jd,Za e3,Za e4,Za e5,Za Zo]
 unfold ZdS
 cases hn : Zy u.nm
 ·have : ZF u.nm=10:=by unfold ZF;rw [hn];rfl
  rw [this]
  simp [Zb,ret]
 ·have h0 : ZF u.nm=0:=Zbz.2 hn
  rw [h0]
  cases hs : YD u.hs
  ·have : ZW u.hs=4:=by unfold ZW;rw [hs];rfl
   rw [this]
   simp [Zb,ret]
  ·have h1 : ZW u.hs=0:=Zq8.2 hs
   rw [h1]
   simp only [if_true]
   rw [Zb,if_neg (by simp),Za q2,Zb,if_neg (by simp),Za Zj,Za (b0 2 _ rfl)]
   refine (ZvH c2 hg).trans ?_
   cases ZiL u
   ·simp [Zb,ret]
   ·simp [Zb,ret]
theorem Zzs {a c : List UInt8} {H : Zd} : bop .str .lss (strv a) (strv c) H=some (.bool (decide (a < c)),H):=by
 rw [← bytesLess_eq]
 show (sop .lss (⟨a.toArray⟩ : ByteArray) (⟨c.toArray⟩ : ByteArray)).map (·,H)=_
 unfold sop
 rw [Wi,Wi]
 rfl
theorem Zzk {a c : List UInt8} {H : Zd} : bop .str .geq (strv a) (strv c) H=some (.bool (!decide (a < c)),H):=by
 rw [← bytesLess_eq]
 show (sop .geq (⟨a.toArray⟩ : ByteArray) (⟨c.toArray⟩ : ByteArray)).map (·,H)=_
 unfold sop
 rw [Wi,Wi]
 rfl
theorem Zza {a c : List UInt8} {H : Zd} : bop .str .gtr (strv a) (strv c) H=some (.bool (decide (c < a)),H):=by
 have h : (!(Op.bytesLess a c || a==c))=decide (c < a):=by
  rw [bytesLess_eq,Bool.eq_iff_iff]
  simp only [Bool.not_eq_true',Bool.or_eq_false_iff,decide_eq_false_iff_not,beq_eq_false_iff_ne,decide_eq_true_eq]
  constructor
  ·rintro ⟨h1,h2⟩
   rcases ZjW a c with h4 | h4 | h4
   ·exact absurd h4 h1
   ·exact absurd h4 h2
   ·exact h4
  ·intro h
   exact ⟨List.lt_asymm h,by rintro rfl;exact List.lt_irrefl _ h⟩
 rw [← h]
 show (sop .gtr (⟨a.toArray⟩ : ByteArray) (⟨c.toArray⟩ : ByteArray)).map (·,H)=_
 unfold sop
 rw [Wi,Wi]
 rfl
theorem Ztg {a : List UInt8} : R (n+1) Y0 [strv a] X=some (.bool false,X):=by
 rw [R,ZjN rfl]
 unfold Zct
 rw [Za Ze7]
 simp [ret]
theorem Zpp {a c : List UInt8} : R (n+3) Qk [strv a,strv c] X=some (iv (ZbX a c),X):=by
 have e0 : run Tryz.prog np lvs (n+1) Y0 [strv a] X=_:=Ztg
 have e1 : run Tryz.prog np lvs (n+1) Y0 [strv c] X=_:=Ztg
 have e2 : run Tryz.prog np lvs (n+2) WX [strv a,strv c] X=some (iv (ZbX a c),X):=by
  rw [Zha rfl]
  unfold Zbv ZbX
  rw [Za e0,Za e1,Zb,if_neg (by simp),Zb,if_neg (by simp),Za Zzs,Zb]
  by_cases h1 : a < c
  ·rw [if_pos (by simpa using h1),if_pos h1];rfl
  ·rw [if_neg (by simpa using h1),Za Zza,Zb,if_neg h1]
   by_cases h2 : c < a
   ·rw [if_pos (by simpa using h2),if_pos h2];rfl
   ·rw [if_neg (by simpa using h2),if_neg h2];rfl
 rw [R,Zmw rfl]
 unfold ZeC
 rw [Za e2]
 rfl
theorem Zs2 {a c : List UInt8} : decide (ZbX a c≥0)=!decide (a < c):=by
 unfold ZbX
 by_cases h1 : a < c
 ·simp [h1]
 ·by_cases h2 : c < a <;> simp [h1,h2]
end
end Go.Proofs.YtedkoimihknggaaGreatDoor.A

namespace Go.Proofs.YtedkoimihknggaaGreatDoor.A
set_option linter.unusedVariables false
set_option linter.unusedSimpArgs false
open Go.Proofs Go.Proofs.YtedkoimihknggaaGreatDoor
section
variable {H0 H X : Zd} {n p d b : Nat} {u : Zm} {us : List Zm} {sl dv : Value}
theorem Zvq (hn : us.length≤1000) (hA : Users H0 sl us) : ∀ (t k : Nat) (X : Zd),us.length - k=t→k≤us.length→HLe H0 X→
  ∃ X',Zh (c5 (Q0.l1 (R (n+6)))) [sl,dv,sl,iv us.length,iv k] X=some (if Za0 (us.drop k)=0 then .ext 0 [sl,dv] else .ret (.tuple #[.pointer none,iv (Za0 (us.drop k))]),X')∧HLe H0 X'
 | 0,k,X,ht,hk,hle=>by
  have : k=us.length:=by omega
  subst this
  rw [List.drop_length]
  refine ⟨X,ZV ?_,hle⟩
  rw [Q7]
  unfold Q0.l1
  rw [Za Zk,Zb,if_neg (by simp)]
  rfl
 | t+1,k,X,ht,hk,hle=>by
  have hkl : k < us.length:=by omega
  have hlt : (k : Int) < us.length:=by omega
  have hg:=List.getElem?_eq_getElem hkl
  have hd:=List.drop_eq_getElem_cons hkl
  generalize us[k]=u at hg hd
  have hf:=fun {K : Value→M Out}=>(hA.mono hle).fetch (k:=K) hg
  have hok:=(hA.mono hle).2 u (List.mem_of_getElem? hg)
  have g1 : (X++[Zg.cells u.cells 1 false false])[X.length]?=some (.cells u.cells 1 false false):=ZB
  have k1 : HLe X (X++[Zg.cells u.cells 1 false false]):=.app _ _
  generalize X++[Zg.cells u.cells 1 false false]=X1 at g1 k1 hf
  have e1 : ldA 5 (pt X.length) X1=some (.agg u.cells.toArray,X1):=Jz (n:=5) g1 rfl
  obtain ⟨X2,e2,k2⟩:=ZgJ (n:=n) (u:=u) (X:=X1) (GV.mono hok k1)
  have hb : c5 (Q0.l1 (R (n+6))) [sl,dv,sl,iv us.length,iv k] X=some (if ZdS u=0 then .nrm [sl,dv,sl,iv us.length,iv ((k+1 : Nat) : Int)] else .ret (.tuple #[.pointer none,iv (ZdS u)]),X2):=by
   rw [Q7]
   unfold Q0.l1
   have e2 : R (n+6) J5 [.int .i64 1,.agg u.cells.toArray] X1=_:=e2
   rw [Za Zk,Zb,if_pos (by simpa using hlt),hf,Za e1,Za e2,Za Zo,Zb]
   by_cases h : ZdS u=0
   ·rw [if_neg (by simp [h]),if_pos h,Za ZC,Q5 (by omega)];rfl
   ·rw [if_pos (by simp [h]),if_neg h];rfl
  rw [hd]
  unfold Za0
  by_cases h : ZdS u=0
  ·rw [if_pos h] at hb
   simp only [if_pos h]
   obtain ⟨X3,e3,k3⟩:=Zvq hn hA t (k+1) X2 (by omega) (by omega) (hle.trans (k1.trans k2))
   exact ⟨X3,(ZI hb).trans e3,k3⟩
  ·rw [if_neg h] at hb
   simp only [if_neg h]
   exact ⟨X2,JX hb,hle.trans (k1.trans k2)⟩
theorem Users.nmAt (hA : Users X sl us) {i : Nat} (hi : us[i]?=some u) : ∃ id o,ixa 5 sl (iv i) X=some (pa id o,X)∧ld1 (pa id (o+0)) X=some (strv u.nm,X):=by
 obtain ⟨id,o,cs,e,g,ro,e1,e2,e3,e4,_⟩:=hA.1.at (i:=i) (r:=u.cells) (by rw [List.getElem?_map,hi];rfl) (by omega) .i64
 refine ⟨id,o,e1 X,?_⟩
 rw [Qc,e2,Jc]
 have : cs[o+0]?=some (strv u.nm):=by
  have h0 : ((cs.drop o).take 5)[0]?=some (strv u.nm):=by rw [e3];rfl
  rw [List.getElem?_take,if_pos (by omega),List.getElem?_drop] at h0
  exact h0
 rw [this];rfl
def upB (prev : Option (List UInt8)) (u : Zm) : Bool:=match prev with | none=>true | some p=>decide (p < u.nm)
theorem ZsH {p : Option (List UInt8)} {l : List Zm} : Zem p (u :: l)=(upB p u && Zem (some u.nm) l):=rfl
theorem ZnO {k : Nat} (hk : us[k]?=some u) : ZdX us (k+1)=some u.nm:=by
 unfold ZdX
 rw [if_neg (by omega),Nat.add_sub_cancel,hk];rfl
theorem Zt7 : ZdX us 0=none:=rfl
def Zqa (m : Qo) (p : Option (List UInt8)) : Prop:=ZfP m∧∀ x∈m,∃ q,p=some q∧x.1≤q
theorem Zqa.put {m : Qo} {p : Option (List UInt8)} (h : Zqa m p) (hu : upB p u=true) : Qt u.nm u.hs m=m++[Zfd u]∧Zqa (m++[Zfd u]) (some u.nm):=by
 have hlt : ∀ x∈m,x.1 < u.nm:=fun x hx=>by
  obtain ⟨q,rfl,h2⟩:=h.2 x hx
  have h3 : q < u.nm:=by simpa [upB] using hu
  exact List.lt_of_le_of_lt h2 h3
 have hn : Zf u.nm m=none:=ZcE.2 fun x hx e=>by
  have:=hlt x hx
  rw [e] at this
  exact List.lt_irrefl _ this
 refine ⟨by unfold Qt;rw [hn];rfl,List.pairwise_append.2 ⟨h.1,by simp,fun a ha c hc=>?_⟩,fun x hx=>⟨u.nm,rfl,?_⟩⟩
 ·have : c=Zfd u:=by simpa using hc
  subst this
  exact hlt a ha
 ·rcases List.mem_append.1 hx with hx | hx
  ·exact List.le_of_lt (hlt x hx)
  ·have : x=Zfd u:=by simpa using hx
   subst this
   exact List.le_refl _
theorem ZuH (hn : us.length≤1000) (hA : Users H0 sl us) (hb : H0.length≤b) : ∀ (t k : Nat) (m : Qo) (X : Zd),us.length - k=t→k≤us.length→HLe H0 X→X[d]?=some (.cells [.map (some b)] 1 false false)→JB strv X b m→Zqa m (ZdX us k)→d≠b→
  ∃ X',Zh (c5 (Q0.l2 (R (n+6)))) [sl,pt d,sl,iv us.length,iv k] X=some (if Zem (ZdX us k) (us.drop k) then .ext 2 [sl,pt d] else .ret (.tuple #[.pointer none,iv 9]),X')∧HLe H0 X'∧
   (Zem (ZdX us k) (us.drop k)=true→X'[d]?=some (.cells [.map (some b)] 1 false false)∧JB strv X' b (m++(us.drop k).map Zfd)∧ZfP (m++(us.drop k).map Zfd))
 | 0,k,m,X,ht,hk,hle,hc,hm,hL,hdb=>by
  have : k=us.length:=by omega
  subst this
  rw [List.drop_length]
  refine ⟨X,ZV ?_,hle,fun _=>⟨hc,by simpa using hm,by simpa using hL.1⟩⟩
  rw [Q7]
  unfold Q0.l2
  rw [Za Zk,Zb,if_neg (by simp)]
  rfl
 | t+1,k,m,X,ht,hk,hle,hc,hm,hL,hdb=>by
  have hkl : k < us.length:=by omega
  have hlt : (k : Int) < us.length:=by omega
  have hg:=List.getElem?_eq_getElem hkl
  have hd:=List.drop_eq_getElem_cons hkl
  generalize us[k]=u at hg hd
  have hf:=fun {K : Value→M Out}=>(hA.mono hle).fetch (k:=K) hg
  have g1 : (X++[Zg.cells u.cells 1 false false])[X.length]?=some (.cells u.cells 1 false false):=ZB
  have k1 : HLe X (X++[Zg.cells u.cells 1 false false]):=.app _ _
  generalize X++[Zg.cells u.cells 1 false false]=X1 at g1 k1 hf
  generalize X.length=p at g1 hf
  have a0 : ∀ f x,u.cells[f]?=some x→ld1 (pa p f) X1=some (x,X1):=fun f x h=>Qe g1 h
  have hA1:=(hA.mono hle).mono k1
  have hcmp : ∀ K : Value→M Out,
    bind (bop .int .gtr (iv k) (Value.int .i64 0)) (fun v31x18=>bind (Ze v31x18 true (ret sl)) fun v33x19=>bind (Ze v31x18 true (ret (iv k))) fun v34x20=>bind (Ze v31x18 true (bop .int .sub v34x20 (Value.int .i64 1))) fun v35x21=>bind (Ze v31x18 true (ixa 5 v33x19 v35x21)) fun v36x22=>bind (Ze v31x18 true (fa 0 v36x22)) fun v37x23=>bind (Ze v31x18 true (ld1 v37x23)) fun v38x24=>bind (Ze v31x18 true (fa 0 (pt p))) fun v39x25=>bind (Ze v31x18 true (ld1 v39x25)) fun v40x26=>bind (Ze v31x18 true (R (n+6) Qk [v38x24,v40x26])) fun v41x27=>bind (Ze v31x18 true (bop .int .geq v41x27 (Value.int .i64 0))) fun v42x28=>bind (pick v31x18 v42x28 (Value.bool false)) K) X1=K (.bool (!upB (ZdX us k) u)) X1:=fun K=>by
   by_cases h0 : k=0
   ·subst h0
    have q1 : bop .int .gtr (iv (0 : Nat)) (Value.int .i64 0) X1=some (.bool false,X1):=by rw [ZT];rfl
    rw [Za q1]
    iterate 10 rw [ZwA (by rfl)]
    rw [Za Zn]
    rfl
   ·have q1 : bop .int .gtr (iv k) (Value.int .i64 0) X1=some (.bool true,X1):=by rw [ZT,decide_eq_true (by omega)]
    obtain ⟨v,hv⟩ : ∃ v,us[k - 1]?=some v:=⟨_,List.getElem?_eq_getElem (by omega)⟩
    obtain ⟨id,o,x1,x2⟩:=hA1.nmAt hv
    have e3 : R (n+6) Qk [strv v.nm,strv u.nm] X1=_:=Zpp (n:=n+3)
    have hp : upB (ZdX us k) u=decide (v.nm < u.nm):=by unfold ZdX upB;rw [if_neg h0,hv];rfl
    rw [Za q1,Yu,Qz,Yu,Qz,Yu,Za QI,Zt4 (by omega) (by omega),Yu,Za x1,Yu,Za J7,Yu,Za x2,Yu,Za Zj,Yu,Za (a0 0 _ rfl),Yu,Za e3,Yu,Za Qp,Zs2,Za Zn,hp]
    rfl
  rw [hd,ZsH]
  cases hup : upB (ZdX us k) u
  ·rw [hup] at hcmp
   refine ⟨X1,JX ?_,hle.trans k1,fun h=>by cases h⟩
   rw [Q7]
   unfold Q0.l2
   rw [Za Zk,Zb,if_pos (by simpa using hlt),hf]
   refine (hcmp _).trans ?_
   rw [Zb,if_pos (by rfl)]
   rfl
  ·rw [hup] at hcmp
   obtain ⟨hput,hL2⟩:=hL.put hup
   have hm1:=hm.hle k1
   obtain ⟨X2,e2,m2,s2,_⟩:=hm1.mup (k:=u.nm) (v:=u.hs)
   rw [hput] at m2
   have hc2:=s2.get (k1 _ _ hc) (by simp [hdb])
   have hle2:=(hle.trans k1).more s2 (by simpa using hb)
   obtain ⟨X3,e3,k3,h3⟩:=ZuH hn hA hb t (k+1) _ X2 (by omega) (by omega) hle2.1 hc2 m2 (by rw [ZnO hg];exact hL2) hdb
   rw [ZnO hg] at e3 h3
   refine ⟨X3,(ZI ?_).trans e3,k3,fun h=>by simpa using h3 (by simpa using h)⟩
   rw [Q7]
   unfold Q0.l2
   rw [Za Zk,Zb,if_pos (by simpa using hlt),hf]
   refine (hcmp _).trans ?_
   rw [Zb,if_neg (by simp),Za Zl,Za Zj,Za (Ka (k1 _ _ hc)),Za Zj,Za (a0 0 _ rfl),Za Zj,Za (a0 1 _ rfl),Za e2,Za ZC,Q5 (by omega)]
   rfl
def ofE (us : List Zm) : Int:=if Za0 us=0 then (if Zem none us then (if 12 < us.length then 7 else 0) else 9) else Za0 us
theorem ZlF : ∀ {us : List Zm},Za0 us=0→∀ u∈us,ZdS u=0
 | [],_,u,hu=>by cases hu
 | v :: l,h,u,hu=>by
  unfold Za0 at h
  by_cases h1 : ZdS v=0
  ·rw [if_pos h1] at h
   rcases List.mem_cons.1 hu with rfl | hu
   ·exact h1
   ·exact ZlF h u hu
  ·rw [if_neg h1] at h;exact absurd h h1
theorem Zzg (hn : us.length≤1000) (hA : Users X sl us) : ∃ X' dv,R (n+7) ZcI [sl] X=some (.tuple #[dv,iv (ofE us)],X')∧HLe X X'∧
  (ofE us≠0→dv=.pointer none)∧(ofE us=0→∃ d b,dv=pt d∧Dir X' d b (us.map Zfd)∧ZfP (us.map Zfd)∧X.length≤d∧X.length≤b):=by
 obtain ⟨X0,d,b,e0,D0,k0,o1,o2⟩:=Zrh (n:=n+5) (H:=X)
 have e0 : R (n+6) ZaO [] X=_:=e0
 have hA0:=hA.mono k0
 obtain ⟨X1,e1,k1⟩:=Zvq (n:=n) (dv:=pt d) hn hA0 us.length 0 X0 (by omega) (by omega) (.refl _)
 rw [List.drop_zero] at e1
 have e1 : Zh (c5 (Q0.l1 (R (n+6)))) [sl,pt d,sl,iv us.length,.int .i64 0] X0=_:=e1
 have f1 : ∀ r X',Q0 (R (n+6)) sl X=some (r,X')→R (n+7) ZcI [sl] X=some (r,X'):=fun r X' hr=>by rw [R,Zr1 rfl];exact hr
 have D1:=D0.hle k1
 unfold ofE
 by_cases h1 : Za0 us=0
 ·rw [if_pos h1] at e1
  rw [if_pos h1]
  obtain ⟨X2,e2,k2,h2⟩:=ZuH (n:=n) hn hA o2 us.length 0 [] X1 (by omega) (by omega) (k0.trans k1) D1.c D1.g ⟨List.Pairwise.nil,by simp⟩ D1.ne
  rw [List.drop_zero,Zt7] at e2 h2
  have e2 : Zh (c5 (Q0.l2 (R (n+6)))) [sl,pt d,sl,iv us.length,.int .i64 0] X1=_:=e2
  cases hr : Zem none us
  ·rw [hr] at e2
   refine ⟨X2,.pointer none,f1 _ _ ?_,k2,fun _=>rfl,fun h=>by simp at h⟩
   unfold Q0
   rw [Za e0,Za hA.len,Qh e1,ZE,Qd,Za hA.len,Kj e2]
   rfl
  ·rw [hr] at e2
   obtain ⟨hc,hm,hR⟩:=h2 hr
   rw [List.nil_append] at hm hR
   by_cases h3 : 12 < us.length
   ·refine ⟨X2,.pointer none,f1 _ _ ?_,k2,fun _=>rfl,fun h=>by simp [h3] at h⟩
    unfold Q0
    rw [Za e0,Za hA.len,Qh e1,ZE,Qd,Za hA.len,Qh e2,ZE,Qd,Za hA.len,Za ZT,Zb,if_pos (by simp;omega),if_pos rfl,if_pos h3]
    rfl
   ·refine ⟨X2,pt d,f1 _ _ ?_,k2,fun h=>by simp [h3] at h,fun _=>⟨d,b,rfl,⟨hc,hm,fun p hp=>?_,by simpa using h3⟩,hR,o1,o2⟩⟩
    ·unfold Q0
     rw [Za e0,Za hA.len,Qh e1,ZE,Qd,Za hA.len,Qh e2,ZE,Qd,Za hA.len,Za ZT,Zb,if_neg (by simp;omega),if_pos rfl,if_neg h3]
     rfl
    ·obtain ⟨u,hu,rfl⟩:=List.mem_map.1 hp
     have he:=ZlF h1 u hu
     unfold ZdS at he
     refine Kq ?_
     cases hn : Zy u.nm
     ·rw [hn] at he;simp at he
     ·exact hn
 ·rw [if_neg h1] at e1
  rw [if_neg h1]
  refine ⟨X1,.pointer none,f1 _ _ ?_,k0.trans k1,fun _=>rfl,fun h=>absurd h h1⟩
  unfold Q0
  rw [Za e0,Za hA.len,Kj e1]
  rfl
end
end Go.Proofs.YtedkoimihknggaaGreatDoor.A

namespace Go.Proofs.YtedkoimihknggaaGreatDoor.A
set_option linter.unusedVariables false
set_option linter.unusedSimpArgs false
open Go.Proofs Go.Proofs.YtedkoimihknggaaGreatDoor
abbrev Wv:=List UInt8 × List UInt8 × List UInt8 × Bool × List (List UInt8)
def Jr (u : Zm) : Wv:=(u.nm,u.hs,u.ml,u.ds,u.gs)
section
variable {H0 H X : Zd} {n p p1 p2 d b : Nat} {u w : Zm} {us ws : List Zm} {a c : Value}
theorem ZyC {u : Zm} (h : oneCell u.gv=true) : alc 1 (.agg u.cells.toArray) X=some (pt X.length,X++[.cells u.cells 1 false false]):=by
 rw [QJ]
 exact if_pos (show u.cells.toArray.toList.all oneCell=true by simp only [Zm.cells,List.all_cons,h];rfl)
def Yy (H : Zd) (sl : Value) (us : List Zm) : Prop:=SlN 5 H sl (us.map Zm.cells)∧∀ u∈us,Sl H u.gv (u.gs.map strv)∧oneCell u.gv=true∧u.gs.length≤1000000
theorem Yy.mono (h : Yy H a us) (hl : HLe H X) : Yy X a us:=⟨h.1.mono hl,fun u hu=>⟨(h.2 u hu).1.mono hl,(h.2 u hu).2⟩⟩
theorem Users.s (h : Users H a us) (hb : ∀ u∈us,u.gs.length≤1000000) : Yy H a us:=⟨h.1,fun u hu=>⟨GV.sl (h.2 u hu),GV.one (h.2 u hu),hb u hu⟩⟩
end
end Go.Proofs.YtedkoimihknggaaGreatDoor.A

namespace Go.Proofs.YtedkoimihknggaaGreatDoor.A
set_option linter.unusedVariables false
set_option linter.unusedSimpArgs false
open Go.Proofs Go.Proofs.YtedkoimihknggaaGreatDoor
section
variable {H H' : Zd} {n d b p q : Nat} {m : Qo} {k s : List UInt8}
theorem ZuK (h : Dir H d b m) (hk : k.length≤1000000000) (hs : s.length≤1000000000) : ∃ H',R (n+7) K6 [pt d,strv k,strv s] H=some (iv (WY k s m),H')∧Dir H' d b (ZoB k s m)∧Zr [b] H [b] H':=by
 have e1 : run Tryz.prog np lvs (n+6) ZaV [strv s] H=_:=Zw7
 have a1 : HLe H (H++[Zg.cells [strv s] 1 false false]):=.app _ _
 have p1 : (H++[Zg.cells [strv s] 1 false false])[H.length]?=some (.cells [strv s] 1 false false):=ZB
 generalize hH1 : H++[Zg.cells [strv s] 1 false false]=H1 at e1 a1 p1
 generalize H.length=q0 at e1 p1
 have e2 : run Tryz.prog np lvs (n+6) Js [pt d,strv k] H1=_:=Zoc
 have a2 : HLe H1 (H1++[.cells [pt d] 1 false false]++[.cells [strv k] 1 false false]):=(HLe.app _ _).trans (.app _ _)
 have p2 : (H1++[Zg.cells [pt d] 1 false false]++[.cells [strv k] 1 false false])[H1.length]?=some (.cells [pt d] 1 false false):=ZmI
 have p3 : (H1++[Zg.cells [pt d] 1 false false]++[.cells [strv k] 1 false false])[H1.length+1]?=some (.cells [strv k] 1 false false):=Zm1
 generalize hH2 : H1++[Zg.cells [pt d] 1 false false]++[.cells [strv k] 1 false false]=H2 at e2 a2 p2 p3
 generalize H1.length=q1 at e2 p2 p3
 have e3:=Zw3 (a:=.func (.func Jv) #[] #[pt q0]) (c:=.func (.func Z0) #[] #[pt q1,pt (q1+1)]) rfl rfl rfl rfl H2
 have a3 : HLe H2 (H2++[Zg.cells [.func (.func Jv) #[] #[pt q0],.func (.func Z0) #[] #[pt q1,pt (q1+1)]] 1 false false]):=.app _ _
 have s3 : Sl (H2++[Zg.cells [.func (.func Jv) #[] #[pt q0],.func (.func Z0) #[] #[pt q1,pt (q1+1)]] 1 false false]) (.slice (some ⟨H2.length,0,none⟩) 2 2) [.func (.func Jv) #[] #[pt q0],.func (.func Z0) #[] #[pt q1,pt (q1+1)]]:=Sl.one (c:=2) ZB
 generalize H2++[Zg.cells [.func (.func Jv) #[] #[pt q0],.func (.func Z0) #[] #[pt q1,pt (q1+1)]] 1 false false]=H3 at e3 a3 s3
 generalize (Value.slice (some ⟨H2.length,0,none⟩) 2 2)=sl at e3 s3
 have l3:=(a1.trans a2).trans a3
 obtain ⟨H4,e4,a4⟩:=ZoE (n:=n) (es:=[ZW s,Ko k m]) hk rfl (Nat.le_of_lt_succ (by simp)) s3 (ZmJ (P:=fun f e=>∀ H1,HLe H3 H1→∃ H2,Z6 (R (n+5)) f [] H1=some (iv e,H2)∧HLe H1 H2)
  (fun X hx=>Zw2 hs (hx _ _ (a3 _ _ (a2 _ _ p1)))) (fun X hx=>Zs0 (n:=n+4) (h.hle (l3.trans hx)) (hx _ _ (a3 _ _ p2)) (hx _ _ (a3 _ _ p3))))
 have e4 : run Tryz.prog np lvs (n+6) YQ [strv k,sl] H3=some (iv (WY k s m),H4):=e4
 have l4:=l3.trans a4
 have h4:=h.hle l4
 have hbody : ∀ r,bind (bop .int .eql (iv (WY k s m)) (.int .i64 0)) (fun v=>jn (cnd v (bind (Qa (pt d)) fun v19x6=>bind (fa 0 v19x6) fun v20x7=>bind (ld1 v20x7) fun v21x8=>bind (mup .str v21x8 (strv k) (strv s)) fun _=>ret (.nrm [iv (WY k s m)])) (ret (.nrm [iv (WY k s m)]))) (c1 fun q9_0=>ret q9_0) noX ret) H4=r→
   R (n+7) K6 [pt d,strv k,strv s] H=r:=fun r hr=>by
  rw [R,Ziv rfl]
  unfold ZbZ
  rw [Za e1,Za e2,Za e3,Za e4]
  exact hr
 unfold ZoB
 by_cases he : WY k s m=0
 ·have hz:=ZlE.1 he
  have hk12:=Kq (Zbz.1 hz.1)
  have hr:=ZtC.1 (hz.2 (Ko k m) (by simp))
  obtain ⟨H5,e5,g5,s5,_⟩:=h4.g.mup (k:=k) (v:=s)
  rw [if_pos he]
  refine ⟨H5,hbody _ ?_,h4.putc g5 s5 hk12 (by rw [ZdN,hr];simpa using h.few),(l4.step.more (by simp) (fun j hj=>.inl hj)).trans s5⟩
  rw [Za ZG]
  refine (QZ (vs:=[iv (WY k s m)]) (H':=H5) ?_).trans rfl
  rw [Zb,if_pos (by simpa using he),Za Zl,Za Zj,Za (Ka h4.c),Za e5]
  rfl
 ·rw [if_neg he]
  refine ⟨H4,hbody _ ?_,h4,l4.step.more (by simp) (fun j hj=>.inl hj)⟩
  rw [Za ZG]
  refine (QZ (vs:=[iv (WY k s m)]) (H':=H4) ?_).trans rfl
  rw [Zb,if_neg (by simpa using he)]
  rfl
theorem Zyr (h : Dir H d b m) (hk : k.length≤1000000000) : ∃ f H1 sl H2 H3,run Tryz.prog np lvs (n+6) Js [pt d,strv k] H=some (f,H1)∧bsl 1 1 .nilFunc [(0,1,f)] H1=some (sl,H2)∧run Tryz.prog np lvs (n+6) YQ [strv k,sl] H2=some (iv (Je k m),H3)∧HLe H H3:=by
 have e2 : run Tryz.prog np lvs (n+6) Js [pt d,strv k] H=_:=Zoc
 have a2 : HLe H (H++[.cells [pt d] 1 false false]++[.cells [strv k] 1 false false]):=(HLe.app _ _).trans (.app _ _)
 have p2 : (H++[Zg.cells [pt d] 1 false false]++[.cells [strv k] 1 false false])[H.length]?=some (.cells [pt d] 1 false false):=ZmI
 have p3 : (H++[Zg.cells [pt d] 1 false false]++[.cells [strv k] 1 false false])[H.length+1]?=some (.cells [strv k] 1 false false):=Zm1
 generalize hH2 : H++[Zg.cells [pt d] 1 false false]++[.cells [strv k] 1 false false]=H2 at e2 a2 p2 p3
 generalize H.length=q1 at e2 p2 p3
 have e3:=Zzj (a:=.func (.func Z0) #[] #[pt q1,pt (q1+1)]) rfl rfl H2
 have a3 : HLe H2 (H2++[Zg.cells [.func (.func Z0) #[] #[pt q1,pt (q1+1)]] 1 false false]):=.app _ _
 have s3 : Sl (H2++[Zg.cells [.func (.func Z0) #[] #[pt q1,pt (q1+1)]] 1 false false]) (.slice (some ⟨H2.length,0,none⟩) 1 1) [.func (.func Z0) #[] #[pt q1,pt (q1+1)]]:=Sl.one (c:=1) ZB
 generalize H2++[Zg.cells [.func (.func Z0) #[] #[pt q1,pt (q1+1)]] 1 false false]=H3 at e3 a3 s3
 generalize (Value.slice (some ⟨H2.length,0,none⟩) 1 1)=sl at e3 s3
 have l3:=a2.trans a3
 obtain ⟨H4,e4,a4⟩:=ZoE (n:=n) (es:=[Ko k m]) hk rfl (Nat.le_of_lt_succ (by simp)) s3 (ZvC (P:=fun f e=>∀ H1,HLe H3 H1→∃ H2,Z6 (R (n+5)) f [] H1=some (iv e,H2)∧HLe H1 H2)
  (fun X hx=>Zs0 (n:=n+4) (h.hle (l3.trans hx)) (hx _ _ (a3 _ _ p2)) (hx _ _ (a3 _ _ p3))))
 exact ⟨_,_,_,_,_,e2,e3,e4,l3.trans a4⟩
theorem Zx2 (h1 : ∀ p∈m,p.1.length≤12) : ∀ p∈KU k m,p.1.length≤12:=fun p hp=>h1 p (List.mem_filter.1 hp).1
theorem ZvX (h : Dir H d b m) (hk : k.length≤1000000000) : ∃ H',R (n+7) WJ [pt d,strv k] H=some (iv (Je k m),H')∧Dir H' d b (Zfl k m)∧Zr [b] H [b] H':=by
 obtain ⟨f,H1,sl,H2,H4,e2,e3,e4,l4⟩:=Zyr (n:=n) h hk
 have h4:=h.hle l4
 have hbody : ∀ r,bind (bop .int .eql (iv (Je k m)) (.int .i64 0)) (fun v=>jn (cnd v (bind (Qa (pt d)) fun v19x6=>bind (fa 0 v19x6) fun v20x7=>bind (ld1 v20x7) fun v21x8=>bind (mde .str v21x8 (strv k)) fun _=>ret (.nrm [iv (Je k m)])) (ret (.nrm [iv (Je k m)]))) (c1 fun q9_0=>ret q9_0) noX ret) H4=r→
   R (n+7) WJ [pt d,strv k] H=r:=fun r hr=>by
  rw [R,ZjM rfl]
  unfold Zcv
  rw [Za e2,Za e3,Za e4]
  exact hr
 unfold Zfl
 by_cases he : Je k m=0
 ·obtain ⟨H5,e5,g5,s5,_⟩:=h4.g.mde (k:=k)
  rw [if_pos he]
  refine ⟨H5,hbody _ ?_,⟨s5.get h4.c (by simp [h.ne]),g5,Zx2 h.len,Nat.le_trans (List.length_filter_le _ _) h.few⟩,(l4.step.more (by simp) (fun j hj=>.inl hj)).trans s5⟩
  rw [Za ZG]
  refine (QZ (vs:=[iv (Je k m)]) (H':=H5) ?_).trans rfl
  rw [Zb,if_pos (by simpa using he),Za Zl,Za Zj,Za (Ka h4.c),Za e5]
  rfl
 ·rw [if_neg he]
  refine ⟨H4,hbody _ ?_,h4,l4.step.more (by simp) (fun j hj=>.inl hj)⟩
  rw [Za ZG]
  refine (QZ (vs:=[iv (Je k m)]) (H':=H4) ?_).trans rfl
  rw [Zb,if_neg (by simpa using he)]
  rfl
theorem Zwe (h : Dir H d b m) (hk : k.length≤1000000000) : ∃ H',R (n+7) WD [pt d,strv k] H=some (.tuple #[strv (if Je k m=0 then (Zf k m).getD [] else []),iv (Je k m)],H')∧HLe H H':=by
 obtain ⟨f,H1,sl,H2,H4,e2,e3,e4,l4⟩:=Zyr (n:=n) h hk
 have h4:=h.hle l4
 refine ⟨H4,?_,l4⟩
 rw [R,ZjV rfl]
 unfold Zck
 rw [Za e2,Za e3,Za e4,Za Zo]
 by_cases he : Je k m=0
 ·have hl:=h4.g.lkp (k:=k) (z:=.string ⟨#[]⟩) (ok:=false)
  rw [Zb,if_neg (by simpa using he),Za Zl,Za Zj,Za (Ka h4.c),Za hl,if_pos he,he]
  cases Zf k m <;> rfl
 ·rw [Zb,if_pos (by simpa using he),if_neg he]
  rfl
end
end Go.Proofs.YtedkoimihknggaaGreatDoor.A

namespace Go.Proofs.YtedkoimihknggaaGreatDoor.A
set_option linter.unusedVariables false
set_option linter.unusedSimpArgs false
open Go.Proofs Go.Proofs.YtedkoimihknggaaGreatDoor
abbrev eldActT : Ty:=.struct (.pair (.int .u8) (.pair .str (.pair .str .unit)))
structure ZaC where
 kd : Nat
 nm : List UInt8
 hs : List UInt8
abbrev ZaC.cells (a : ZaC) : List Value:=[.int .u8 a.kd,strv a.nm,strv a.hs]
theorem Zuz {x : eldActT.den} {H : Zd} {cs : List Value} (hw : eldActT.wf x) (h : Rd eldActT x H cs) : ∃ a : ZaC,cs=a.cells∧a.kd≤255:=by
 obtain ⟨k,s,t,u⟩:=x
 obtain ⟨h1,h2,h3,h4⟩:=h
 obtain ⟨w1,_⟩:=hw
 have h1 : cs.take 1=[.int .u8 k]:=h1
 have h2 : (cs.drop 1).take 1=[.string s]:=h2
 have h3 : ((cs.drop 1).drop 1).take 1=[.string t]:=h3
 have h4 : ((cs.drop 1).drop 1).drop 1=[]:=h4
 match cs,h1,h2,h3,h4 with
 | [c1,c2,c3],h1,h2,h3,_=>
  have w1:=Zzd w1
  have key : ∀ (q : IntKind) (z : Int),0≤z→[Value.int q z]=[Value.int q (z.toNat : Nat)]:=fun q z hz=>by rw [Int.toNat_of_nonneg hz]
  refine ⟨⟨Int.toNat k,ByteArray.data s |>.toList,ByteArray.data t |>.toList⟩,?_,?_⟩
  ·have e20 : c2=.string s:=by simpa using h2
   have e30 : c3=.string t:=by simpa using h3
   have e1 : [c1]=[Value.int .u8 (Int.toNat k : Nat)]:=Eq.trans (by simpa using h1) (key .u8 k w1.1)
   have e1 : c1=Value.int .u8 (Int.toNat k : Nat):=by simpa using e1
   have e2 : c2=strv (ByteArray.data s).toList:=e20.trans (Zki s)
   have e3 : c3=strv (ByteArray.data t).toList:=e30.trans (Zki t)
   rw [e1,e2,e3]
  ·have : ∀ z : Int,0≤z∧z≤255→z.toNat≤255:=fun z hz=>by omega
   exact this k w1
def ZaT (H : Zd) (sl : Value) (ac : List ZaC) : Prop:=SlN 3 H sl (ac.map ZaC.cells)∧∀ a∈ac,a.kd≤255
theorem Znk {x : (Ty.slc eldActT).den} {H : Zd} {v : Value} (hwf : (Ty.slc eldActT).wf x) (h : Rd (.slc eldActT) x H [v]) : ∃ ac,ZaT H v ac∧ac.length≤9223372036854775807:=by
 obtain ⟨rows,h1,h2,h3,h4⟩:=Zx4 hwf h
 obtain ⟨ac,h5,h6⟩:=ZnH (f:=ZaC.cells) (Q:=fun _ a=>a.kd≤255) (rows:=rows) fun r hr=>by
  obtain ⟨y,hy,hr⟩:=h2 r hr
  exact Zuz hy hr
 subst h5
 exact ⟨ac,⟨h1,h6⟩,by simpa using h3⟩
section
variable {H H' : Zd} {sl : Value} {ac : List ZaC} {n : Nat}
theorem ZaT.len (h : ZaT H sl ac) : Zp sl H'=some (iv ac.length,H'):=by
 have:=h.1.len (H':=H')
 rwa [List.length_map] at this
theorem ZaT.mono (h : ZaT H sl ac) (hl : HLe H H') : ZaT H' sl ac:=⟨h.1.mono hl,h.2⟩
theorem ZaT.fetch {β : Type} {k : Value→M β} (h : ZaT H sl ac) {j : Nat} {a : ZaC} (hj : ac[j]?=some a) :
  bind (ixa 3 sl (iv j)) (fun p=>bind (ldA 3 p) fun v=>bind (alc 1 (.agg #[.int .u8 0,.string ⟨#[]⟩,.string ⟨#[]⟩])) fun q=>bind (stA 3 q v) fun _=>k q) H=k (pt H.length) (H++[.cells a.cells 1 false false]):=by
 have hr : (ac.map ZaC.cells)[j]?=some a.cells:=by rw [List.getElem?_map,hj];rfl
 rw [h.1.fetch hr (by omega) .i64]
 exact Zdo (n:=3) (zs:=[.int .u8 0,.string ⟨#[]⟩,.string ⟨#[]⟩]) (r:=a.cells) rfl rfl rfl rfl
def Zcs (a : ZaC) : Bool:=decide (a.nm.length≤50) && decide (a.hs.length≤50)
end
end Go.Proofs.YtedkoimihknggaaGreatDoor.A

namespace Go.Proofs.YtedkoimihknggaaGreatDoor.A
set_option linter.unusedVariables false
set_option linter.unusedSimpArgs false
open Go.Proofs Go.Proofs.YtedkoimihknggaaGreatDoor
section
variable {H : Zd} {n : Nat} {f v : Value} {p : List UInt8→Bool} {l : List (List UInt8)} {q : List Nat} {Q : Zd→Prop}
theorem HLe.stepq {X X' : Zd} (h : HLe X X') : Zr q X q X':=h.step.more (by simp) (fun j hj=>.inl hj)
theorem ZsX (hl : l.length≤1000000) (hQ : ∀ X X',Q X→HLe X X'→Q X') (hf : ∀ X,Q X→∀ s∈l,∃ X',Z6 (R n) f [strv s] X=some (.bool (p s),X')∧HLe X X') : ∀ (t k : Nat) (X : Zd),l.length - k=t→k≤l.length→Q X→Zw X v (l.map strv) q→
  ∃ X',Zh (c4 (Zx.l1 (R n))) [v,f,iv l.length,iv k] X=some (match (l.drop k).findIdx? p with | some i=>.ret (iv (k+i : Nat)) | none=>.ext 0 [],X')∧HLe X X'
 | 0,k,X,ht,hk,hq,hr=>by
  have : k=l.length:=by omega
  subst this
  rw [List.drop_length]
  refine ⟨X,ZV ?_,.refl _⟩
  rw [ZH]
  unfold Zx.l1
  rw [Za Zk,Zb,if_neg (by simp)]
  rfl
 | t+1,k,X,ht,hk,hq,hr=>by
  have hkl : k < l.length:=by omega
  have hlt : (k : Int) < l.length:=by omega
  have hg:=List.getElem?_eq_getElem hkl
  have hm : l[k]∈l:=List.getElem_mem hkl
  have hd:=List.drop_eq_getElem_cons hkl
  generalize l[k]=x at hg hd hm
  have x1:=hr.ix (i:=k) (by simpa using hkl) .i64 X
  have x2:=hr.ldx (Kd hg)
  obtain ⟨X1,x3,l1⟩:=hf X hq x hm
  obtain ⟨X2,ih,l2⟩:=ZsX hl hQ hf t (k+1) X1 (by omega) (by omega) (hQ _ _ hq l1) (hr.step l1.step (by simp))
  rw [hd,List.findIdx?_cons]
  cases hp : p x
  ·rw [hp] at x3
   refine ⟨X2,(ZI ?_).trans (ih.trans ?_),l1.trans l2⟩
   ·rw [ZH]
    unfold Zx.l1
    rw [Za Zk,Zb,if_pos (by simpa using hlt),Za x1,Za x2,Za x3,Zb,if_neg (by simp),Za ZC,Q5 (by omega)]
    rfl
   ·cases (l.drop (k+1)).findIdx? p with
    | none=>rfl
    | some i=>simp only [Bool.false_eq_true,if_false,Option.map_some];rw [show k+1+i=k+(i+1) by omega]
  ·rw [hp] at x3
   refine ⟨X1,JX ?_,l1⟩
   rw [ZH]
   unfold Zx.l1
   rw [Za Zk,Zb,if_pos (by simpa using hlt),Za x1,Za x2,Za x3,Zb,if_pos rfl]
   rfl
theorem Zvj (hr : Zw H v (l.map strv) q) (hl : l.length≤1000000) (hQ : ∀ X X',Q X→HLe X X'→Q X') (hf : ∀ X,Q X→∀ s∈l,∃ X',Z6 (R n) f [strv s] X=some (.bool (p s),X')∧HLe X X') (h0 : Q H) :
  ∃ H',R (n+1) Qx [v,f] H=some (match l.findIdx? p with | some i=>iv i | none=>iv (-1),H')∧HLe H H':=by
 obtain ⟨H',e,le⟩:=ZsX hl hQ hf l.length 0 H (by omega) (by omega) h0 hr
 rw [List.drop_zero] at e
 have e : Zh (c4 (Zx.l1 (R n))) [v,f,iv l.length,.int .i64 0] H=_:=e
 have hlen : Zp v H=some (iv l.length,H):=by have:=hr.rd.len (H':=H);simpa using this
 refine ⟨H',?_,le⟩
 rw [R,WP rfl]
 unfold Zx
 rw [Za hlen]
 cases h : l.findIdx? p with
 | none=>rw [h] at e;rw [Qh e,ZE];rfl
 | some i=>
  rw [h] at e
  rw [Kj e]
  simp [ret]
theorem Zok (hl : l.length≤1000000) (hQ : ∀ X X',Q X→Zr q X q X'→Q X') (hf : ∀ X,Q X→∀ s∈l,∃ X',Z6 (R n) f [strv s] X=some (.bool (p s),X')∧HLe X X') : ∀ (t j i : Nat) (cs : List (List UInt8)) (X : Zd),l.length - j=t→j≤l.length→i≤j→cs.length=l.length→cs.drop j=l.drop j→Zw X v (cs.map strv) q→Q X→
  ∃ (X' : Zd) (cs' : List (List UInt8)),Zh (c4 (Zu.l1 (R n))) [v,f,iv i,iv j] X=some (.ext 0 [v,iv (i+((l.drop j).filter fun s=>!p s).length : Nat)],X')∧Zw X' v (cs'.map strv) q∧cs'.length=l.length∧
   cs'.take (i+((l.drop j).filter fun s=>!p s).length)=cs.take i++(l.drop j).filter (fun s=>!p s)∧Zr q X q X'
 | 0,j,i,cs,X,ht,hj,hi,hc,hd,hr,hq=>by
  have : j=l.length:=by omega
  subst this
  rw [List.drop_length]
  have hlen : Zp v X=some (iv l.length,X):=by have:=hr.rd.len (H':=X);simpa [hc] using this
  refine ⟨X,cs,ZV ?_,hr,hc,by simp,.refl _ _⟩
  rw [ZH]
  unfold Zu.l1
  rw [Za hlen,Za Zk,Zb,if_neg (by simp)]
  rfl
 | t+1,j,i,cs,X,ht,hj,hi,hc,hd,hr,hq=>by
  have hjl : j < l.length:=by omega
  have hlt : (j : Int) < l.length:=by omega
  have hg:=List.getElem?_eq_getElem hjl
  have hm : l[j]∈l:=List.getElem_mem hjl
  have hdl:=List.drop_eq_getElem_cons hjl
  generalize l[j]=x at hg hdl hm
  have hgc : cs[j]?=some x:=by
   have h1 : (cs.drop j)[0]?=(l.drop j)[0]?:=by rw [hd]
   simpa [hg] using h1
  have hlen : Zp v X=some (iv l.length,X):=by have:=hr.rd.len (H':=X);simpa [hc] using this
  have x1:=hr.ix (i:=j) (by simpa [hc] using hjl) .i64 X
  have x2:=hr.ldx (Kd hgc)
  obtain ⟨Y,x3,ly⟩:=hf X hq x hm
  have hqy:=hQ _ _ hq (ly.stepq (q:=q))
  have hry:=hr.step ly.step (by simp)
  have hd1 : cs.drop (j+1)=l.drop (j+1):=by
   rw [← List.drop_drop,hd,List.drop_drop]
  rw [hdl,List.filter_cons]
  cases hp : p x
  ·rw [hp] at x3
   have x4:=hry.ix (i:=i) (by simp [hc];omega) .i64 Y
   obtain ⟨X1,x5,r1,s1,_⟩:=hry.stx (i:=i) (u:=strv x) (by simp [hc];omega) rfl
   have hset : (cs.map strv).set i (strv x)=(cs.set i x).map strv:=by rw [List.map_set]
   rw [hset] at r1
   obtain ⟨X',cs',e,r',hc',ht',s'⟩:=Zok hl hQ hf t (j+1) (i+1) (cs.set i x) X1 (by omega) (by omega) (by omega) (by simpa using hc) (by rw [List.drop_set_of_lt (by omega)];exact hd1) r1 (hQ _ _ hqy s1)
   have hn : i+1+((l.drop (j+1)).filter fun s=>!p s).length=i+(((l.drop (j+1)).filter fun s=>!p s).length+1):=by omega
   rw [hn] at e ht'
   simp only [Bool.not_false,if_true,List.length_cons]
   refine ⟨X',cs',(ZI ?_).trans e,r',hc',?_,(ly.stepq.trans s1).trans s'⟩
   ·rw [ZH]
    unfold Zu.l1
    rw [Za hlen,Za Zk,Zb,if_pos (by simpa using hlt),Za x1,Za x2,Za x3,Za ZU]
    refine (QZ (vs:=[v,f,iv ((i+1 : Nat) : Int),iv j]) (H':=X1) ?_).trans ?_
    ·rw [Zb,if_pos (by rfl),Za x4,Za x5,Za ZC,Q5 (by omega)];rfl
    ·rw [ZH,Za ZC,Q5 (by omega)];rfl
   ·rw [ht']
    have : (cs.set i x).take (i+1)=cs.take i++[x]:=by
     have hil : i < (cs.set i x).length:=by simp [hc];omega
     rw [List.take_succ_eq_append_getElem hil,List.take_set_of_le (Nat.le_refl _)]
     simp
    rw [this];simp
  ·rw [hp] at x3
   obtain ⟨X',cs',e,r',hc',ht',s'⟩:=Zok hl hQ hf t (j+1) i cs Y (by omega) (by omega) (by omega) hc hd1 hry hqy
   simp only [Bool.not_true,Bool.false_eq_true,if_false]
   refine ⟨X',cs',(ZI ?_).trans e,r',hc',ht',ly.stepq.trans s'⟩
   rw [ZH]
   unfold Zu.l1
   rw [Za hlen,Za Zk,Zb,if_pos (by simpa using hlt),Za x1,Za x2,Za x3,Za ZU]
   refine (QZ (vs:=[v,f,iv i,iv j]) (H':=Y) ?_).trans ?_
   ·rw [Zb,if_neg (by simp)];rfl
   ·rw [ZH,Za ZC,Q5 (by omega)];rfl
theorem ZpK (hr : Zw H v (l.map strv) q) (hl : l.length≤1000000) (hQ : ∀ X X',Q X→Zr q X q X'→Q X') (hf : ∀ X,Q X→∀ s∈l,∃ X',Z6 (R n) f [strv s] X=some (.bool (p s),X')∧HLe X X') (hf1 : ∀ X,Q X→∀ s∈l,∃ X',Z6 (R (n+1)) f [strv s] X=some (.bool (p s),X')∧HLe X X') (h0 : Q H) :
  ∃ H' v',R (n+2) ZO [v,f] H=some (v',H')∧Zw H' v' ((l.filter fun s=>!p s).map strv) q∧Zr q H q H':=by
 obtain ⟨Y,e1,ly⟩:=Zvj hr hl (fun X X' hq hx=>hQ X X' hq hx.stepq) hf h0
 have e1 : run Tryz.prog np lvs (n+1) Qx [v,f] H=_:=e1
 have hry:=hr.step ly.step (by simp)
 have hqy:=hQ _ _ h0 (ly.stepq (q:=q))
 have hfi:=Zev (p:=p) (l:=l)
 have hrun : R (n+2) ZO [v,f] H=Zu (R (n+1)) v f H:=by rw [R,Ws rfl]
 rw [hrun]
 unfold Zu
 cases h : l.findIdx? p with
 | none=>
  rw [h] at e1 hfi
  refine ⟨Y,v,?_,by rw [hfi];exact hry,ly.stepq⟩
  rw [Za e1,Za ZG,Zb,if_pos (by simp)]
  rfl
 | some i=>
  rw [h] at e1 hfi
  simp only at e1 hfi
  obtain ⟨X',cs',e2,r2,hc2,ht2,s2⟩:=Zok (n:=n+1) hl hQ hf1 (l.length - (i+1)) (i+1) i l Y rfl (by omega) (by omega) rfl rfl hry hqy
  have hle : ((l.drop (i+1)).filter fun s=>!p s).length≤l.length - (i+1):=by
   have:=List.length_filter_le (fun s=>!p s) (l.drop (i+1))
   simpa using this
  obtain ⟨a,X2,v',a1,a2,a3,a4,a5⟩:=Zpn r2 (i:=i+((l.drop (i+1)).filter fun s=>!p s).length) (by omega)
  refine ⟨X2,v',?_,by rw [hfi.1,← ht2];exact a4,(ly.stepq.trans s2).trans a5⟩
  rw [Za e1,Za ZG,Zb,if_neg (by simp),Za ZC,Q5 (by omega),Qh e2,ZE,Qd,Za a1,Za a2,Za a3]
  rfl
end
abbrev Tx:=List UInt8
def Asc (l : List Tx) : Prop:=l.Pairwise (· < ·)
theorem ZjA {a : Tx} : ¬ a < a:=List.lt_irrefl a
theorem Zob : ∀ {l l' : List Tx},Asc l→Asc l'→(∀ x,x∈l↔x∈l')→l=l'
 | [],[],_,_,_=>rfl
 | [],b :: l',_,_,h=>by have:=(h b).2 (by simp);cases this
 | a :: l,[],_,_,h=>by have:=(h a).1 (by simp);cases this
 | a :: l,b :: l',h1,h2,h=>by
  obtain ⟨a1,a2⟩:=List.pairwise_cons.1 h1
  obtain ⟨b1,b2⟩:=List.pairwise_cons.1 h2
  have hab : a=b:=by
   rcases List.mem_cons.1 ((h a).1 (by simp)) with e | e
   ·exact e
   ·rcases List.mem_cons.1 ((h b).2 (by simp)) with e' | e'
    ·exact e'.symm
    ·exact absurd (List.lt_trans (b1 a e) (a1 b e')) ZjA
  subst hab
  congr 1
  refine Zob a2 b2 fun x=>⟨fun hx=>?_,fun hx=>?_⟩
  ·rcases List.mem_cons.1 ((h x).1 (List.mem_cons_of_mem _ hx)) with e | e
   ·subst e;exact absurd (a1 _ hx) ZjA
   ·exact e
  ·rcases List.mem_cons.1 ((h x).2 (List.mem_cons_of_mem _ hx)) with e | e
   ·subst e;exact absurd (b1 _ hx) ZjA
   ·exact e
theorem Zek {l : List Tx} (hn : l.Nodup) : Asc (ZM l):=by
 have h1 : (ZM l).Pairwise (fun a b=>leB a b=true):=List.pairwise_mergeSort (fun a b c h h'=>by
  simp only [leB,decide_eq_true_eq] at *
  exact List.le_trans h h') (fun a b=>by
  simp only [leB,Bool.or_eq_true,decide_eq_true_eq]
  exact List.le_total a b) l
 have h2 : (ZM l).Nodup:=((List.mergeSort_perm l _).nodup_iff).2 hn
 unfold Asc
 have h3:=h1.and h2
 refine h3.imp fun {a b} h=>?_
 obtain ⟨h4,h5⟩:=h
 simp only [leB,decide_eq_true_eq] at h4
 exact Decidable.byContradiction fun h6=>h5 (List.le_antisymm h4 (List.not_lt.1 h6))
theorem Kz {l : List Tx} {x : Tx} : x∈ZM l↔x∈l:=List.mem_mergeSort
structure Is (l : List Tx) (p : Tx→Prop) : Prop where
 asc : Asc l
 mem : ∀ x,x∈l↔p x
theorem Is.uniq {l l' : List Tx} {p p' : Tx→Prop} (h : Is l p) (h' : Is l' p') (hp : ∀ x,p x↔p' x) : l=l':=Zob h.asc h'.asc fun x=>(h.mem x).trans ((hp x).trans (h'.mem x).symm)
theorem Is.nil {l : List Tx} {p : Tx→Prop} (h : Is l p) : l=[]↔∀ x,¬ p x:=by
 constructor
 ·rintro rfl x hx;have:=(h.mem x).2 hx;cases this
 ·intro hx;exact List.eq_nil_iff_forall_not_mem.2 fun x hm=>hx x ((h.mem x).1 hm)
theorem Asc.nodup {l : List Tx} (h : Asc l) : l.Nodup:=h.imp fun {a b} hab e=>by subst e;exact ZjA hab
theorem Asc.filter {l : List Tx} (h : Asc l) (p : Tx→Bool) : Asc (l.filter p):=List.Pairwise.filter p h
end Go.Proofs.YtedkoimihknggaaGreatDoor.A
namespace Go.Proofs.YtedkoimihknggaaGreatDoor.A
set_option linter.unusedVariables false
set_option linter.unusedSimpArgs false
open Go.Proofs Go.Proofs.YtedkoimihknggaaGreatDoor
abbrev Zy6 (s : Nat) : Value:=.map (some s)
abbrev Zqe (_ : Unit) : Value:=.agg #[]
abbrev Zg7:=List (Tx × Nat)
abbrev ZvY:=List (Tx × Unit)
abbrev Mem:=Tx→Tx→Bool
abbrev JZ (o : Nat) (G : Zg7) : List Nat:=o :: G.map (·.2)
abbrev Qy (G : Zg7) : List Tx:=G.map (·.1)
structure Grp (X : Zd) (g o : Nat) (G : Zg7) (mem : Mem) (c : Nat) : Prop where
 cell : X[g]?=some (.cells [.map (some o)] 1 false false)
 mo : JB Zy6 X o G
 ms : ∀ p∈G,∃ S : ZvY,JB Zqe X p.2 S∧(∀ n,(Zf n S).isSome=mem p.1 n)∧S.length≤c∧∀ q∈S,Zy q.1=true
 out : ∀ k n,mem k n=true→(Zf k G).isSome=true
 nod : (JZ o G).Nodup
 ok : ∀ p∈G,Zy p.1=true
 few : G.length≤6
theorem Zhu {α : Type} {k : Tx} : ∀ {m : List (Tx × α)},(Zf k m).isSome=decide (k∈m.map (·.1))
 | []=>rfl
 | p :: m=>by
  simp only [Zf,List.map_cons,List.mem_cons]
  by_cases h : p.1=k
  ·rw [if_pos h];simp [h]
  ·rw [if_neg h,Zhu]
   have : k≠p.1:=Ne.symm h
   simp [this]
section
variable {X X' : Zd} {n g o c c' : Nat} {G : Zg7} {mem mem' : Mem} {k m s t : Tx}
theorem Grp.isMap (h : Grp X g o G mem c) {j : Nat} (hj : j∈JZ o G) : j < X.length∧∀ cs es gr ro,X[j]?≠some (.cells cs es gr ro):=by
 have key : ∀ {α : Type} {enc : α→Value} {id : Nat} {mm : List (Tx × α)},JB enc X id mm→id < X.length∧∀ cs es gr ro,X[id]?≠some (.cells cs es gr ro):=fun hm=>⟨hm.lt,fun cs es gr ro e=>by
  obtain ⟨es',_,h1 | h1⟩:=hm.ex
  ·obtain ⟨clk,h1,_⟩:=h1;rw [e] at h1;cases h1
  ·rw [e] at h1;cases h1⟩
 rcases List.mem_cons.1 hj with rfl | hj
 ·exact key h.mo
 ·obtain ⟨p,hp,rfl⟩:=List.mem_map.1 hj
  obtain ⟨S,hS,_⟩:=h.ms p hp
  exact key hS
theorem Grp.gnot (h : Grp X g o G mem c) : g∉JZ o G:=fun hj=>(h.isMap hj).2 _ _ _ _ h.cell
theorem Grp.glt (h : Grp X g o G mem c) : g < X.length:=JS h.cell
theorem Grp.step {o1 o2 : List Nat} (h : Grp X g o G mem c) (hs : Zr o1 X o2 X') (hg : g∉o1) (ho : ∀ j∈JZ o G,j∉o1) : Grp X' g o G mem c:=
 ⟨hs.get h.cell hg,h.mo.step hs (ho o (by simp)),fun p hp=>by
  obtain ⟨S,h1,h2⟩:=h.ms p hp
  exact ⟨S,h1.step hs (ho p.2 (List.mem_cons_of_mem _ (List.mem_map.2 ⟨p,hp,rfl⟩))),h2⟩,h.out,h.nod,h.ok,h.few⟩
theorem Grp.hle (h : Grp X g o G mem c) (hl : HLe X X') : Grp X' g o G mem c:=h.step hl.step (by simp) (by simp)
theorem Grp.more (h : Grp X g o G mem c) (hc : c≤c') (hm : ∀ k n,mem' k n=mem k n) : Grp X g o G mem' c':=
 ⟨h.cell,h.mo,fun p hp=>by
  obtain ⟨S,h1,h2,h3,h4⟩:=h.ms p hp
  exact ⟨S,h1,fun n=>(h2 n).trans (hm _ _).symm,Nat.le_trans h3 hc,h4⟩,fun k n hk=>h.out k n (by rw [← hm];exact hk),h.nod,h.ok,h.few⟩
theorem Grp.ldo (h : Grp X g o G mem c) : ld1 (pt g) X=some (.map (some o),X):=Ka h.cell
theorem Grp.upd (h : Grp X g o G mem c) {id : Nat} {S' : ZvY} (hk : Zf k G=some id) (hm : JB Zqe X' id S') (hs : Zr [id] X [id] X') (hn : ∀ q∈S',Zy q.1=true) (hc : S'.length≤c') (hcc : c≤c')
  (hmem : ∀ k' n,mem' k' n=if k'=k then (Zf n S').isSome else mem k' n) : Grp X' g o G mem' c':=by
 have hpm:=KK hk
 have hnod:=h.nod
 simp only [List.nodup_cons] at hnod
 have hidm : id∈G.map (·.2):=List.mem_map.2 ⟨_,hpm,rfl⟩
 have hido : o≠id:=fun e=>hnod.1 (e ▸ hidm)
 have hidg : g≠id:=fun e=>h.gnot (e ▸ List.mem_cons_of_mem _ hidm)
 refine ⟨hs.get h.cell (by simpa using hidg),h.mo.step hs (by simpa using hido),fun p hp=>?_,fun k' n hk'=>?_,h.nod,h.ok,h.few⟩
 ·by_cases hpid : p.2=id
  ·have hpk : p.1=k:=by
    have h1 : Zf p.1 G=some p.2:=Zaa h.mo.nod hp
    have hinj : ∀ (G : Zg7),(G.map (·.2)).Nodup→p∈G→(k,id)∈G→p=(k,id):=by
     intro G hG h1 h2
     induction G with
     | nil=>cases h1
     | cons a G ih=>
      simp only [List.map_cons,List.nodup_cons,List.mem_map,not_exists,not_and] at hG
      rcases List.mem_cons.1 h1 with e1 | e1
      ·rcases List.mem_cons.1 h2 with e2 | e2
       ·rw [e1,e2]
       ·exact absurd (by rw [← e1];exact hpid.symm) (hG.1 _ e2)
      ·rcases List.mem_cons.1 h2 with e2 | e2
       ·exact absurd (by rw [← e2];exact hpid) (hG.1 _ e1)
       ·exact ih hG.2 e1 e2
    rw [hinj G hnod.2 hp hpm]
   exact ⟨S',by rw [hpid];exact hm,fun n=>by rw [hmem,if_pos hpk],hc,hn⟩
  ·obtain ⟨S,h1,h2,h3,h4⟩:=h.ms p hp
   have hpk : p.1≠k:=fun e=>hpid (by
    have h5 : Zf p.1 G=some p.2:=Zaa h.mo.nod hp
    rw [e,hk] at h5;exact (Option.some.inj h5).symm)
   exact ⟨S,h1.step hs (by simpa using hpid),fun n=>by rw [hmem,if_neg hpk];exact h2 n,Nat.le_trans h3 hcc,h4⟩
 ·rw [hmem] at hk'
  by_cases e : k'=k
  ·rw [e,hk];rfl
  ·rw [if_neg e] at hk';exact h.out k' n hk'
theorem Grp.step1 (h : Grp X g o G mem c) {id : Nat} (hk : Zf k G=some id) (hs : Zr [id] X [id] X') : Zr (JZ o G) X (JZ o G) X':=
 hs.more (fun j hj=>by
  have hj : j=id:=by simpa using hj
  subst hj
  exact List.mem_cons_of_mem _ (List.mem_map.2 ⟨_,KK hk,rfl⟩)) (fun j hj=>.inl hj)
theorem Grp.set (h : Grp X g o G mem c) {id : Nat} (hk : Zf k G=some id) : ∃ S : ZvY,JB Zqe X id S∧(∀ n,(Zf n S).isSome=mem k n)∧S.length≤c∧∀ q∈S,Zy q.1=true:=h.ms _ (KK hk)
theorem Grp.key (h : Grp X g o G mem c) : (Zf k G).isSome=decide (k∈Qy G):=Zhu
theorem Zpm {v : Value} {l : List Tx} (hl : l.length≤1000) (hs : Sl X v (l.map strv)) : ∀ (t j : Nat),l.length - j=t→j≤l.length→
  Zh (c3 (Kr.l1 (R (n+5)))) [v,iv l.length,iv j] X=some (if (l.drop j).all Zy then .ext 0 [] else .ret (iv 10),X)
 | 0,j,ht,hj=>by
  rw [List.drop_eq_nil_of_le (by omega)]
  refine ZV ?_
  rw [Z4,show j=l.length by omega]
  unfold Kr.l1
  rw [Za Zk,Zb,if_neg (by simp)]
  rfl
 | t+1,j,ht,hj=>by
  have hkl : j < l.length:=by omega
  have hlt : (j : Int) < l.length:=by omega
  have hg:=List.getElem?_eq_getElem hkl
  have hd:=List.drop_eq_getElem_cons hkl
  generalize l[j]=x at hg hd
  have x1:=hs.ix (i:=j) (by simpa using hkl) .i64 X
  have x2:=hs.ldx (Kd hg)
  have x3 : R (n+5) QW [strv x] X=some (iv (ZF x),X):=ZcK
  rw [hd,List.all_cons]
  cases hx : Zy x
  ·refine JX ?_
   rw [Z4]
   unfold Kr.l1
   rw [Za Zk,Zb,if_pos (by simpa using hlt),Za x1,Za x2,Za x3,show ZF x=10 by unfold ZF;rw [hx];rfl,Za Zo,Zb,if_pos (by simp)]
   rfl
  ·refine (ZI ?_).trans (Zpm hl hs t (j+1) (by omega) (by omega))
   rw [Z4]
   unfold Kr.l1
   rw [Za Zk,Zb,if_pos (by simpa using hlt),Za x1,Za x2,Za x3,show ZF x=0 by unfold ZF;rw [hx];rfl,Za Zo,Zb,if_neg (by simp),Za ZC,Q5 (by omega)]
   rfl
def ZlD (l : List Tx) : Int:=if l.all Zy then 0 else 10
theorem Zww {v : Value} {l : List Tx} (hl : l.length≤1000) (hs : Sl X v (l.map strv)) : R (n+6) Zaz [v] X=some (iv (ZlD l),X):=by
 have e:=Zpm (n:=n) hl hs l.length 0 (by omega) (by omega)
 rw [show iv ((0 : Nat) : Int)=.int .i64 0 from rfl,List.drop_zero] at e
 have hlen : Zp v X=some (iv l.length,X):=by have:=hs.len (H':=X);simpa using this
 rw [R,Zon rfl]
 unfold Kr ZlD
 rw [Za hlen]
 by_cases h : l.all Zy=true
 ·rw [if_pos h] at e ⊢
  rw [Qh e,ZE];rfl
 ·rw [if_neg h] at e ⊢
  rw [Kj e];rfl
def JU (k : Tx) (ms : List Tx) (K : List Tx) : Int:=if (k :: ms).all Zy then (if k∈K then 0 else 8) else 10
theorem Ztt (h : Grp X g o G mem c) {mv : Value} {ms : List Tx} (hml : ms.length≤5)
  (hrow : ∃ w X1 v X2,bsl 1 1 (.string ⟨#[]⟩) [(0,1,strv k)] X=some (w,X1)∧app 1 16 w mv X1=some (v,X2)∧Sl X2 v ((k :: ms).map strv)∧HLe X X2) :
  ∃ X',R (n+7) YG [pt g,strv k,mv] X=some (.tuple #[.map (if JU k ms (Qy G)=0 then Zf k G else none),iv (JU k ms (Qy G))],X')∧HLe X X':=by
 obtain ⟨w,X1,v,X2,e1,e2,s2,l2⟩:=hrow
 have e3 : R (n+6) Zaz [v] X2=_:=Zww (n:=n) (l:=k :: ms) (by simp;omega) s2
 have h2:=h.hle l2
 refine ⟨X2,?_,l2⟩
 rw [R,ZiC rfl]
 unfold ZbV JU
 rw [Za e1,Za e2,Za e3]
 unfold ZlD
 by_cases hn : (k :: ms).all Zy=true
 ·rw [if_pos hn,if_pos hn]
  have e4:=h2.mo.lkp (k:=k) (z:=.map none) (ok:=true)
  have hkey:=h2.key (k:=k)
  rw [Za Zo,Zb,if_neg (by simp),Za Zl,Za Zj,Za h2.ldo]
  cases hk : Zf k G with
  | none=>
   rw [hk] at e4 hkey
   have hnk : ¬ k∈Qy G:=by simpa using hkey.symm
   rw [if_neg hnk,if_neg (by decide)]
   simp only [cond_true] at e4
   rw [Za e4,Za ZA,Za Zz,Za ZU,Zb,if_pos (by rfl)]
   rfl
  | some id=>
   rw [hk] at e4 hkey
   have hnk : k∈Qy G:=by simpa using hkey.symm
   rw [if_pos hnk,if_pos rfl]
   simp only [cond_true] at e4
   rw [Za e4,Za ZA,Za Zz,Za ZU,Zb,if_neg (by simp)]
   rfl
 ·rw [if_neg hn,if_neg hn,Za Zo,Zb,if_pos (by rfl)]
  rfl
theorem ZwT {x : Tx} {H : Zd} : bsl 1 1 (.string ⟨#[]⟩) [(0,1,strv x)] H=some (.slice (some ⟨H.length,0,none⟩) 1 1,H++[.cells [strv x] 1 false false]):=ZtL rfl rfl rfl
theorem Zqd {x : Tx} {H : Zd} : Zw (H++[.cells [strv x] 1 false false]) (.slice (some ⟨H.length,0,none⟩) 1 1) ([x].map strv) [H.length]:=.inr ⟨H.length,[],false,rfl,rfl,by rw [ZB];rfl⟩
theorem Zxt {b : Nat} {sl : Value} {vs : List Value} {q : List Nat} (h : Zw X sl vs q) : app 1 b sl (.slice none 0 0) X=some (sl,X):=by
 rcases h with ⟨rfl,rfl,rfl⟩ | ⟨sid,rest,gr,rfl,rfl,hid⟩
 ·rfl
 ·unfold app
  simp only [Qr,flen,hid,Nat.add_zero,Nat.le_add_right,if_true]
theorem Zwh (h : Grp X g o G mem c) : ∃ X',R (n+7) YG [pt g,strv k,.slice none 0 0] X=some (.tuple #[.map (if JU k [] (Qy G)=0 then Zf k G else none),iv (JU k [] (Qy G))],X')∧HLe X X':=
 Ztt h (by simp) ⟨_,_,_,_,ZwT,Zxt Zqd,Zqd.rd,.app _ _⟩
theorem Zv0 (h : Grp X g o G mem c) {mv : Value} (hm : Sl X mv [strv m]) : ∃ X',R (n+7) YG [pt g,strv k,mv] X=some (.tuple #[.map (if JU k [m] (Qy G)=0 then Zf k G else none),iv (JU k [m] (Qy G))],X')∧HLe X X':=by
 have l1 : HLe X (X++[.cells [strv k] 1 false false]):=.app _ _
 obtain ⟨v,X2,q,e2,r2,s2,_⟩:=(Zqd (x:=k) (H:=X)).push (b:=16) (hm.mono l1) (by simp) (by simp)
 have l2:=(l1.more s2 (by simp)).1
 exact Ztt h (by simp) ⟨_,_,_,_,ZwT,e2,r2.rd,l2⟩
theorem ZyO : ∃ X' g o,R (n+1) Zfb [] X=some (pt g,X')∧Grp X' g o [] (fun _ _=>false) 0∧HLe X X'∧X.length≤g∧X.length≤o:=by
 obtain ⟨H1,e1,g1,l1⟩:=Zp6 (α:=Nat) (enc:=Zy6) X
 have e2 : bld (.agg #[.map none]) [(0,1,.map (some X.length))] H1=some (.agg #[.map (some X.length)],H1):=by simp [↓ZR,ZS,↓Qu,Z7,Z9,Z8,↓Zb,JG,Zl,J7,Qc,Jm,Qi,Jn,Jc,QC,Jo,QD,QJ,QK,QM,Qj,Zn,ZU,Ys,Ye,Q3,QP,JM,ZC,QI,Jy,JH,Jx,ZG,Zo,Zk,Jj,ZT,Qp,JD,JL,Ja,JI,↓YI,JJ,↓g_r,Yw,Yx,WE,splice,Value.cells]
 have e3 : alc 1 (.agg #[.map (some X.length)]) H1=some (pt H1.length,H1++[.cells [.map (some X.length)] 1 false false]):=by
  rw [QJ];simp [Value.cells,oneCell]
 refine ⟨H1++[.cells [.map (some X.length)] 1 false false],H1.length,X.length,?_,⟨ZB,g1.hle (.app _ _),by simp,by simp,by simp,by simp,by simp⟩,l1.trans (.app _ _),l1.len,Nat.le_refl _⟩
 rw [R,ZrM rfl]
 unfold Zhg
 rw [Za e1,Za e2,Za e3]
 rfl
def KI (k : Tx) (K : List Tx) : Int:=if Zy k then (if k∈K then 9 else if 6≤K.length then 7 else 0) else 10
def Zhb (k : Tx) (K : List Tx) : List Tx:=if KI k K=0 then K++[k] else K
theorem Zx3 (h : Grp X g o G mem c) : ∃ X' G',R (n+8) YH [pt g,strv k] X=some (iv (KI k (Qy G)),X')∧Grp X' g o G' mem c∧Qy G'=Zhb k (Qy G)∧Zr (JZ o G) X (JZ o G') X':=by
 obtain ⟨X1,e1,l1⟩:=Zwh (n:=n) (k:=k) h
 have h1:=h.hle l1
 have f1 : ∀ r X',J6 (R (n+7)) (pt g) (strv k) X=some (r,X')→R (n+8) YH [pt g,strv k] X=some (r,X'):=fun r X' hr=>by rw [R,Ziy rfl];exact hr
 have same : ∀ e,KI k (Qy G)=e→e≠0→(J6 (R (n+7)) (pt g) (strv k) X=some (iv e,X1))→∃ X' G',R (n+8) YH [pt g,strv k] X=some (iv (KI k (Qy G)),X')∧Grp X' g o G' mem c∧Qy G'=Zhb k (Qy G)∧Zr (JZ o G) X (JZ o G') X':=fun e he hne hr=>by
  refine ⟨X1,G,by rw [he];exact f1 _ _ hr,h1,?_,l1.stepq⟩
  unfold Zhb;rw [if_neg (by rw [he];exact hne)]
 cases hn : Zy k
 ·have hE : KI k (Qy G)=10:=by unfold KI;rw [hn];rfl
  have hF : JU k [] (Qy G)=10:=by unfold JU;simp [hn]
  rw [hF] at e1
  refine same _ hE (by decide) ?_
  unfold J6
  rw [Za e1,Za ZA,Za Zz,Za ZG,Zb,if_neg (by decide),Za Zo,Zb,if_pos (by decide)]
  rfl
 ·by_cases hk : k∈Qy G
  ·have hE : KI k (Qy G)=9:=by unfold KI;rw [hn,if_pos rfl,if_pos hk]
   have hF : JU k [] (Qy G)=0:=by unfold JU;simp [hn,hk]
   rw [hF] at e1
   refine same _ hE (by decide) ?_
   unfold J6
   rw [Za e1,Za ZA,Za Zz,Za ZG,Zb,if_pos (by decide)]
   rfl
  ·have hF : JU k [] (Qy G)=8:=by unfold JU;simp [hn,hk]
   rw [hF] at e1
   have hkl : (Qy G).length=G.length:=by simp
   by_cases hl : 6≤(Qy G).length
   ·have hE : KI k (Qy G)=7:=by unfold KI;rw [hn,if_pos rfl,if_neg hk,if_pos hl]
    refine same _ hE (by decide) ?_
    unfold J6
    rw [Za e1,Za ZA,Za Zz,Za ZG,Zb,if_neg (by decide),Za Zo,Zb,if_neg (by decide),Za Zl,Za Zj,Za h1.ldo,Za h1.mo.len,Za Qp,Zb,if_pos (by simp;omega)]
    rfl
   ·have hE : KI k (Qy G)=0:=by unfold KI;rw [hn,if_pos rfl,if_neg hk,if_neg hl]
    obtain ⟨X2,e2,m2,l2⟩:=Zp6 (α:=Unit) (enc:=Zqe) X1
    have h2:=h1.hle l2
    have hkn : Zf k G=none:=by
     have:=h.key (k:=k)
     cases ha : Zf k G with
     | none=>rfl
     | some v=>rw [ha] at this;exact absurd (by simpa using this.symm) hk
    obtain ⟨X3,e3,m3,s3,len3⟩:=h2.mo.mup (k:=k) (v:=X1.length)
    have ha : Qt k X1.length G=G++[(k,X1.length)]:=by unfold Qt;rw [hkn];rfl
    rw [ha] at m3
    have hlt : ∀ j∈JZ o G,j < X1.length:=fun j hj=>(h1.isMap hj).1
    refine ⟨X3,G++[(k,X1.length)],?_,?_,?_,?_⟩
    ·rw [hE]
     refine f1 _ _ ?_
     unfold J6
     rw [Za e1,Za ZA,Za Zz,Za ZG,Zb,if_neg (by decide),Za Zo,Zb,if_neg (by decide),Za Zl,Za Zj,Za h1.ldo,Za h1.mo.len,Za Qp,Zb,if_neg (by simp;omega),Za Zl,Za Zj,Za h1.ldo,Za e2,Za e3]
     rfl
    ·have hgo : g≠o:=fun e=>h.gnot (by rw [e];simp)
     have hoid : ∀ p∈G,p.2≠o:=fun p hp e=>by
      have:=h.nod
      simp only [List.nodup_cons] at this
      exact this.1 (List.mem_map.2 ⟨p,hp,e⟩)
     refine ⟨s3.get h2.cell (by simpa using hgo),m3,fun p hp=>?_,fun k' n' hk'=>?_,?_,fun p hp=>?_,by simp;omega⟩
     ·rcases List.mem_append.1 hp with hp | hp
      ·obtain ⟨S,h5,h6⟩:=h2.ms p hp
       exact ⟨S,h5.step s3 (by simpa using hoid p hp),h6⟩
      ·have : p=(k,X1.length):=by simpa using hp
       subst this
       refine ⟨[],m2.step s3 (by have:=hlt o (by simp);simp;omega),fun n'=>?_,Nat.zero_le _,by simp⟩
       cases hb : mem k n' with
       | false=>rfl
       | true=>have:=h.out k n' hb;rw [hkn] at this;cases this
     ·rw [ZdW]
      have:=h.out k' n' hk'
      cases hg : Zf k' G with
      | none=>rw [hg] at this;cases this
      | some v=>rfl
     ·have : JZ o (G++[(k,X1.length)])=JZ o G++[X1.length]:=by simp
      rw [this,List.nodup_append]
      refine ⟨h.nod,by simp,fun a ha b hb e=>?_⟩
      have:=hlt a ha
      have hb : b=X1.length:=by simpa using hb
      omega
     ·rcases List.mem_append.1 hp with hp | hp
      ·exact h.ok p hp
      ·have : p=(k,X1.length):=by simpa using hp
       subst this;exact hn
    ·unfold Zhb;rw [if_pos hE];simp
    ·have s:=(l1.trans l2).stepq (q:=JZ o G)
     have s:=s.trans (s3.more (o2:=JZ o G) (o2':=JZ o G) (by simp) (fun j hj=>.inl hj))
     refine ⟨s.len,s.keep,fun j hj=>?_⟩
     ·have : JZ o (G++[(k,X1.length)])=JZ o G++[X1.length]:=by simp
      rw [this] at hj
      rcases List.mem_append.1 hj with hj | hj
      ·exact .inl hj
      ·have hj : j=X1.length:=by simpa using hj
       exact .inr (by rw [hj];exact l1.len)
def Zn0 (k : Tx) (K : List Tx) : Int:=if Zy k then (if k∈K then 0 else 8) else 10
def Zzc (k : Tx) (K : List Tx) : List Tx:=if Zn0 k K=0 then K.filter (fun x=>decide (x≠k)) else K
def Zn1 (k : Tx) (mem : Mem) : Mem:=fun k' n=>mem k' n && !(k'==k)
end
end Go.Proofs.YtedkoimihknggaaGreatDoor.A
namespace Go.Proofs.YtedkoimihknggaaGreatDoor.A
set_option linter.unusedVariables false
set_option linter.unusedSimpArgs false
open Go.Proofs Go.Proofs.YtedkoimihknggaaGreatDoor
theorem Zqs {α : Type} {k : Tx} {v : α} {m : List (Tx × α)} {q : Tx × α} (h : q∈Qt k v m) : q=(k,v)∨q∈m:=by
 unfold Qt at h
 split at h
 ·obtain ⟨p,hp,rfl⟩:=List.mem_map.1 h
  by_cases e : p.1=k
  ·rw [if_pos e];exact .inl rfl
  ·rw [if_neg e];exact .inr hp
 ·rcases List.mem_append.1 h with h | h
  ·exact .inr h
  ·exact .inl (by simpa using h)
section
variable {X X' : Zd} {n g o c c' : Nat} {G : Zg7} {mem mem' : Mem} {k m s t : Tx}
def ZdU (k m : Tx) (K : List Tx) (mem : Mem) : Int:=if JU k [m] K=0 then (if mem k m then 9 else 0) else JU k [m] K
def Zwn (k m : Tx) (K : List Tx) (mem : Mem) : Int:=if JU k [m] K=0 then (if mem k m then 0 else 12) else JU k [m] K
def Zm6 (k m : Tx) (mem : Mem) : Mem:=fun k' n=>mem k' n || (k'==k && n==m)
def Zyo (k m : Tx) (mem : Mem) : Mem:=fun k' n=>mem k' n && !(k'==k && n==m)
theorem ZtU {k m : Tx} {K : List Tx} (h : JU k [m] K=0) : Zy k=true∧Zy m=true∧k∈K:=by
 unfold JU at h
 by_cases h1 : (k :: [m]).all Zy=true
 ·rw [if_pos h1] at h
  simp only [List.all_cons,List.all_nil,Bool.and_true,Bool.and_eq_true] at h1
  by_cases h2 : k∈K
  ·exact ⟨h1.1,h1.2,h2⟩
  ·rw [if_neg h2] at h;cases h
 ·rw [if_neg h1] at h;cases h
theorem ZzE {H : Zd} : bld (.agg #[]) [] H=some (.agg #[],H):=by simp [↓ZR,ZS,↓Qu,Z7,Z9,Z8,↓Zb,JG,Zl,J7,Qc,Jm,Qi,Jn,Jc,QC,Jo,QD,QJ,QK,QM,Qj,Zn,ZU,Ys,Ye,Q3,QP,JM,ZC,QI,Jy,JH,Jx,ZG,Zo,Zk,Jj,ZT,Qp,JD,JL,Ja,JI,↓YI,JJ,↓g_r,Yw,Yx,WE,splice,Value.cells]
theorem Grp.has (h : Grp X g o G mem c) (hk : k∈Qy G) : ∃ id,Zf k G=some id:=by
 have:=h.key (k:=k)
 cases ha : Zf k G with
 | none=>rw [ha] at this;exact absurd hk (by simpa using this.symm)
 | some v=>exact ⟨v,rfl⟩
theorem ZxT (h : Grp X g o G mem c) : ∃ X',R (n+8) Ku [pt g,strv k,strv m] X=some (iv (ZdU k m (Qy G) mem),X')∧Grp X' g o G (if ZdU k m (Qy G) mem=0 then Zm6 k m mem else mem) (c+1)∧Zr (JZ o G) X (JZ o G) X':=by
 have l0 : HLe X (X++[.cells [strv m] 1 false false]):=.app _ _
 have s0:=(Zqd (x:=m) (H:=X)).rd
 have e0:=ZwT (x:=m) (H:=X)
 generalize X++[Zg.cells [strv m] 1 false false]=X0 at l0 s0 e0
 obtain ⟨X1,e1,l1⟩:=Zv0 (n:=n) (k:=k) (m:=m) (h.hle l0) s0
 have l01:=l0.trans l1
 have h1:=h.hle l01
 have f1 : ∀ r X',Kx (R (n+7)) (pt g) (strv k) (strv m) X=some (r,X')→R (n+8) Ku [pt g,strv k,strv m] X=some (r,X'):=fun r X' hr=>by rw [R,ZiB rfl];exact hr
 unfold ZdU
 by_cases hE : JU k [m] (Qy G)=0
 ·rw [hE] at e1 ⊢
  rw [if_pos rfl] at e1 ⊢
  obtain ⟨b1,b2,b3⟩:=ZtU hE
  obtain ⟨id,hid⟩:=h.has b3
  rw [hid] at e1
  obtain ⟨S,m1,m2,m3,m4⟩:=h1.set hid
  have e2:=m1.lkp (k:=m) (z:=.agg #[]) (ok:=true)
  have l2 : HLe X1 (X1++[.cells [] 1 false false]):=.app _ _
  have hbox:=fun {K : Value→M Value}=>Zdo (k:=K) (zs:=[]) (r:=[]) (n:=0) (H:=X1) rfl rfl rfl rfl
  have h2:=h1.hle l2
  have m1:=m1.hle l2
  generalize X1++[Zg.cells [] 1 false false]=X2 at hbox l2 h2 m1
  have hmm:=m2 m
  cases hg : Zf m S with
  | some u=>
   rw [hg] at hmm e2
   have hmm : mem k m=true:=hmm.symm
   rw [if_pos hmm,if_neg (by decide)]
   refine ⟨X2,f1 _ _ ?_,h2.more (Nat.le_succ _) (fun _ _=>rfl),(l01.trans l2).stepq⟩
   unfold Kx
   simp only [cond_true] at e2
   rw [Za e0,Za e1,Za ZA,Za Zz,Za Zo,Zb,if_neg (by decide),Za e2,Za ZA,Za Zz]
   refine hbox.trans ?_
   rw [Zb,if_pos rfl]
   rfl
  | none=>
   rw [hg] at hmm e2
   have hmm : mem k m=false:=hmm.symm
   rw [if_neg (by simp [hmm]),if_pos rfl]
   simp only [cond_true] at e2
   obtain ⟨X3,e3,m5,s3,_⟩:=m1.mup (k:=m) (v:=())
   have hlen : (Qt m () S).length≤c+1:=by rw [ZdN,hg];simp;omega
   refine ⟨X3,f1 _ _ ?_,h2.upd hid m5 s3 (fun q hq=>?_) hlen (Nat.le_succ _) (fun k' n'=>?_),(l01.trans l2).stepq.trans (h2.step1 hid s3)⟩
   ·unfold Kx
    rw [Za e0,Za e1,Za ZA,Za Zz,Za Zo,Zb,if_neg (by decide),Za e2,Za ZA,Za Zz]
    refine hbox.trans ?_
    rw [Zb,if_neg (by simp),Za ZzE,Za e3]
    rfl
   ·rcases Zqs hq with rfl | hq
    ·exact b2
    ·exact m4 q hq
   ·unfold Zm6
    by_cases hk : k'=k
    ·subst hk
     rw [if_pos rfl]
     by_cases hn : n'=m
     ·subst hn;rw [KB];simp
     ·rw [Yo hn,m2];simp [hn]
    ·rw [if_neg hk];simp [hk]
 ·rw [if_neg hE,if_neg hE]
  refine ⟨X1,f1 _ _ ?_,h1.more (Nat.le_succ _) (fun _ _=>rfl),l01.stepq⟩
  unfold Kx
  rw [Za e0,Za e1,Za ZA,Za Zz,Za Zo,Zb,if_pos (by simpa using hE)]
  rfl
theorem Zvw (h : Grp X g o G mem c) : ∃ v q X',R (n+3) Y5 [pt g] X=some (v,X')∧Zw X' v ((ZM (Qy G)).map strv) q∧HLe X X'∧∀ j∈q,X.length≤j:=by
 have e1 : R (n+1) QO [.map (some o)] X=some (.func (.func JO) #[] #[pt X.length],X++[.cells [.map (some o)] 1 false false]):=by
  rw [R,Zaj rfl]
  unfold JR
  rw [Za (Zb9 rfl rfl _)]
  rfl
 have l1 : HLe X (X++[.cells [.map (some o)] 1 false false]):=.app _ _
 obtain ⟨v,q,X2,e2,r2,l2,o2⟩:=(h.mo.hle l1).keys (gks:=ZfB) (gc:=Qk) (gk:=JO) (c:=X.length) (by decide) ZB (Nat.le_trans h.few (by decide)) (fun p hp=>Nat.le_trans (Kq (h.ok p hp)) (by decide))
 have e2' : R (n+1) Qn [.func (.func JO) #[] #[pt X.length],.func (.func Qk) #[] #[]] (X++[.cells [.map (some o)] 1 false false])=some (v,X2):=by
  rw [R,ZfX (show np Qn=some (Zb4 ZfB Qk) from rfl)]
  exact e2
 have e3 : R (n+2) KY [.map (some o)] X=some (v,X2):=by
  rw [R,Zf1 rfl]
  unfold Zax
  rw [Za e1,Za e2']
  rfl
 refine ⟨v,q,X2,?_,r2,l1.trans l2,fun j hj=>Nat.le_trans l1.len (o2 j hj)⟩
 rw [R,Zju rfl]
 unfold Zcz
 rw [Za Zl,Za Zj,Za h.ldo,Za e3]
 rfl
theorem KC {l : List Tx} : (ZM l).length=l.length:=List.length_mergeSort l
def ofL (m : Tx) (K : List Tx) (mem : Mem) : List Tx:=(ZM K).filter fun k=>mem k m
theorem ZnC {K : List Tx} (hn : K.Nodup) : Is (ofL m K mem) (fun k=>k∈K∧mem k m=true):=⟨(Zek hn).filter _,fun x=>by unfold ofL;rw [List.mem_filter,Kz]⟩
theorem Zkn {K : List Tx} : (ofL m K mem).length≤K.length:=by
 unfold ofL
 have:=List.length_filter_le (fun k=>mem k m) (ZM K)
 rwa [KC] at this
theorem Zyu {b1 b2 : Nat} (h : Grp X g o G mem c) (h1 : X[b1]?=some (.cells [pt g] 1 false false)) (h2 : X[b2]?=some (.cells [strv m] 1 false false)) (hk : k∈Qy G) :
  ∃ X',R (n+1) Y6 [strv k,pt b1,pt b2] X=some (.bool (!mem k m),X')∧HLe X X':=by
 obtain ⟨id,hid⟩:=h.has hk
 obtain ⟨S,m1,m2,m3,m4⟩:=h.set hid
 have e2 : lkp .str (.map none) false (.map (some o)) (strv k) X=some (.map (some id),X):=by rw [h.mo.lkp,hid];rfl
 have e3 : lkp .str (.agg #[]) true (.map (some id)) (strv m) X=some (.tuple #[.agg #[],.bool (mem k m)],X):=by
  rw [m1.lkp,← m2 m]
  cases Zf m S <;> rfl
 have l2 : HLe X (X++[.cells [] 1 false false]):=.app _ _
 have e4 : alc 1 (.agg #[]) X=some (pt X.length,X++[.cells [] 1 false false]):=Zd0 (vs:=[]) rfl
 have a4 : (X++[Zg.cells [] 1 false false])[X.length]?=some (.cells [] 1 false false):=ZB
 have e5 : stA 0 (pt X.length) (.agg #[]) (X++[Zg.cells [] 1 false false])=some (undef,(X++[Zg.cells [] 1 false false]).set X.length (.cells [] 1 false false)):=Zb5 (vs:=[]) a4 rfl rfl rfl
 rw [ZxL] at e5
 have h':=h.hle l2
 have m1':=m1.hle l2
 have b1':=l2 _ _ h1
 have b2':=l2 _ _ h2
 generalize X++[Zg.cells [] 1 false false]=X2 at l2 e4 e5 h' m1' b1' b2'
 have e2' : lkp .str (.map none) false (.map (some o)) (strv k) X2=some (.map (some id),X2):=by rw [h'.mo.lkp,hid];rfl
 have e3' : lkp .str (.agg #[]) true (.map (some id)) (strv m) X2=some (.tuple #[.agg #[],.bool (mem k m)],X2):=by
  rw [m1'.lkp,← m2 m]
  cases Zf m S <;> rfl
 refine ⟨X2,?_,l2⟩
 rw [R,Zje rfl]
 unfold Zcp
 rw [Za (Ka h1),Za Zl,Za Zj,Za h.ldo,Za e2,Za (Ka h2),Za e3,Za ZA,Za Zz,Za e4,Za e3',Jd,Za (Ka b2'),Jd,Za e2',Jd]
 refine (Za h'.ldo).trans ?_
 rw [Jd,Za (Ka b1'),Jd,Za e5,Za ZU]
 rfl
theorem Zw0 (h : Grp X g o G mem c) : ∃ v q X',R (n+4) J8 [pt g,strv m] X=some (v,X')∧Zw X' v ((ofL m (Qy G) mem).map strv) q∧HLe X X'∧∀ j∈q,X.length≤j:=by
 have e1:=Zb9 (v:=pt g) rfl rfl X
 have l1 : HLe X (X++[Zg.cells [pt g] 1 false false]):=.app _ _
 have c1 : (X++[Zg.cells [pt g] 1 false false])[X.length]?=some (.cells [pt g] 1 false false):=ZB
 generalize X++[Zg.cells [pt g] 1 false false]=X1 at e1 l1 c1
 have e2:=Zb9 (v:=strv m) rfl rfl X1
 have l2 : HLe X1 (X1++[Zg.cells [strv m] 1 false false]):=.app _ _
 have c2 : (X1++[Zg.cells [strv m] 1 false false])[X1.length]?=some (.cells [strv m] 1 false false):=ZB
 generalize X1++[Zg.cells [strv m] 1 false false]=X2 at e2 l2 c2
 have c1:=l2 _ _ c1
 have h2:=h.hle (l1.trans l2)
 obtain ⟨v,q,X3,e3,r3,l3,o3⟩:=Zvw (n:=n) h2
 have e3 : R (n+3) Y5 [pt g] X2=_:=e3
 have l123:=(l1.trans l2).trans l3
 have hq : ∀ j∈q,j∉JZ o G∧j≠g∧j≠X.length∧j≠X1.length:=fun j hj=>by
  have:=o3 j hj
  have a1:=JS c1
  have a2:=JS c2
  have a3:=h2.glt
  exact ⟨fun hm=>by have:=(h2.isMap hm).1;omega,by omega,by omega,by omega⟩
 have hkeep : ∀ Y Y',(Grp Y g o G mem c∧Y[X.length]?=some (.cells [pt g] 1 false false)∧Y[X1.length]?=some (.cells [strv m] 1 false false))→Zr q Y q Y'→(Grp Y' g o G mem c∧Y'[X.length]?=some (.cells [pt g] 1 false false)∧Y'[X1.length]?=some (.cells [strv m] 1 false false)):=fun Y Y' ⟨a1,a2,a3⟩ hs=>
  ⟨a1.step hs (fun hm=>(hq g hm).2.1 rfl) (fun j hj hm=>(hq j hm).1 hj),hs.get a2 (fun hm=>(hq _ hm).2.2.1 rfl),hs.get a3 (fun hm=>(hq _ hm).2.2.2 rfl)⟩
 have hf : ∀ i Y,(Grp Y g o G mem c∧Y[X.length]?=some (.cells [pt g] 1 false false)∧Y[X1.length]?=some (.cells [strv m] 1 false false))→∀ s∈ZM (Qy G),∃ Y',Z6 (R (i+1)) (.func (.func Y6) #[] #[pt X.length,pt X1.length]) [strv s] Y=some (.bool (!mem s m),Y')∧HLe Y Y':=fun i Y ⟨a1,a2,a3⟩ s hs=>by
  obtain ⟨Y',e,l⟩:=Zyu (n:=i) a1 a2 a3 (Kz.1 hs)
  refine ⟨Y',?_,l⟩
  have:=ZfH (n:=i+1) (g:=Y6) (bs:=[pt X.length,pt X1.length]) (args:=[strv s])
  exact (congrFun this Y).trans e
 obtain ⟨X4,v',e4,r4,s4⟩:=ZpK (n:=n+1) (p:=fun s=>!mem s m) (f:=.func (.func Y6) #[] #[pt X.length,pt X1.length]) (Q:=fun Y=>Grp Y g o G mem c∧Y[X.length]?=some (.cells [pt g] 1 false false)∧Y[X1.length]?=some (.cells [strv m] 1 false false)) r3 (by rw [KC];have:=h.few;simp;omega) hkeep (hf n) (hf (n+1)) ⟨h2.hle l3,l3 _ _ c1,l3 _ _ c2⟩
 have e4 : R (n+3) ZO [v,.func (.func Y6) #[] #[pt X.length,pt X1.length]] X3=_:=e4
 have hm:=l123.more s4 (fun j hj=>Nat.le_trans (l1.trans l2).len (o3 j hj))
 refine ⟨v',q,X4,?_,by simpa [ofL] using r4,hm.1,hm.2⟩
 rw [R,ZkC rfl]
 unfold ZcU
 rw [Za e1,Za e2,Za (Ka c1),Za e3,Za e4]
 rfl
end
end Go.Proofs.YtedkoimihknggaaGreatDoor.A
namespace Go.Proofs.YtedkoimihknggaaGreatDoor.A
set_option linter.unusedVariables false
set_option linter.unusedSimpArgs false
open Go.Proofs Go.Proofs.YtedkoimihknggaaGreatDoor
section
variable {X X' : Zd} {n g o c c' : Nat} {G : Zg7} {mem mem' : Mem} {k m s t : Tx}
theorem Zw.grp {v : Value} {vs : List Value} {q S' : List Nat} (h : Zw X v vs q) (hG : Grp X g o G mem c) (hs : Zr (JZ o G) X S' X') : Zw X' v vs q:=by
 refine h.step hs fun j hj hm=>?_
 rcases h with ⟨_,rfl,_⟩ | ⟨sid,rest,gr,_,rfl,hid⟩
 ·cases hj
 ·have hj : j=sid:=by simpa using hj
  subst hj
  exact (hG.isMap hm).2 _ _ _ _ hid
def ZnB (m : Tx) (mem : Mem) : Mem:=fun k n=>mem k n && !(n==m)
def ZhU (m : Tx) (l : List Tx) (mem : Mem) (j : Nat) : Mem:=fun k n=>if k∈l.take j then mem k n && !(n==m) else mem k n
theorem ZoQ {l : List Tx} {j : Nat} {x k : Tx} (hx : l[j]?=some x) : k∈l.take (j+1)↔k∈l.take j∨k=x:=by
 rw [List.take_add_one,hx];simp
theorem ZwU {l : List Tx} {j : Nat} {x : Tx} (hn : l.Nodup) (hx : l[j]?=some x) : x∉l.take j:=fun hm=>by
 obtain ⟨i,hi⟩:=List.getElem?_of_mem hm
 rw [List.getElem?_take] at hi
 split at hi
 ·rename_i hij
  obtain ⟨h1,h2⟩:=List.getElem?_eq_some_iff.1 hi
  obtain ⟨h3,h4⟩:=List.getElem?_eq_some_iff.1 hx
  exact List.pairwise_iff_getElem.1 hn i j h1 h3 hij (h2.trans h4.symm)
 ·cases hi
theorem Zvm {K : List Tx} {x : Tx} : x∈ofL m K mem↔x∈K∧mem x m=true:=by unfold ofL;rw [List.mem_filter,Kz]
theorem ZvI {v z : Value} {q : List Nat} {l : List Tx} (hl : l.length≤1000) (hn : l.Nodup) (hK : ∀ x∈l,x∈Qy G) : ∀ (r j : Nat) (X : Zd),l.length - j=r→j≤l.length→Grp X g o G (ZhU m l mem j) c→Zw X v (l.map strv) q→
  ∃ X',Zh (c6 (JC.l1 (R n))) [pt g,strv m,z,v,iv l.length,iv j] X=some (.ext 0 [z],X')∧Grp X' g o G (ZhU m l mem l.length) c∧Zr (JZ o G) X (JZ o G) X'
 | 0,j,X,hr,hj,h,hrow=>by
  have : j=l.length:=by omega
  subst this
  refine ⟨X,ZV ?_,h,.refl _ _⟩
  rw [Yr]
  unfold JC.l1
  rw [Za Zk,Zb,if_neg (by simp)]
  rfl
 | r+1,j,X,hr,hj,h,hrow=>by
  have hkl : j < l.length:=by omega
  have hlt : (j : Int) < l.length:=by omega
  have hg:=List.getElem?_eq_getElem hkl
  have hmm:=List.getElem_mem hkl
  generalize l[j]=k at hg hmm
  have hkK:=hK k hmm
  have hnot:=ZwU hn hg
  have x1:=hrow.ix (i:=j) (by simpa using hkl) .i64 X
  have x2:=hrow.ldx (Kd hg)
  obtain ⟨id,hid⟩:=h.has hkK
  obtain ⟨S,m1,m2,m3,m4⟩:=h.set hid
  have hmk : ∀ n',(Zf n' S).isSome=mem k n':=fun n'=>by rw [m2 n'];unfold ZhU;rw [if_neg hnot]
  have e2 : lkp .str (.map none) false (.map (some o)) (strv k) X=some (.map (some id),X):=by rw [h.mo.lkp,hid];rfl
  obtain ⟨X1,e3,m5,s3,_⟩:=m1.mde (k:=m)
  have hsub : (KU m S).Sublist S:=List.filter_sublist
  have h1:=h.upd (mem':=ZhU m l mem (j+1)) hid m5 s3 (fun q hq=>m4 q (hsub.subset hq)) (Nat.le_trans hsub.length_le m3) (Nat.le_refl _) (fun k' n'=>by
   by_cases hk : k'=k
   ·subst hk
    rw [if_pos rfl]
    unfold ZhU
    rw [if_pos ((ZoQ hg).2 (.inr rfl))]
    by_cases hns : n'=m
    ·subst hns;rw [ZaH];simp
    ·rw [YO hns,hmk];simp [hns]
   ·rw [if_neg hk]
    unfold ZhU
    by_cases hin : k'∈l.take j
    ·rw [if_pos hin,if_pos ((ZoQ hg).2 (.inl hin))]
    ·rw [if_neg hin,if_neg fun h=>(ZoQ hg).1 h |>.elim hin hk])
  have st:=h.step1 hid s3
  obtain ⟨X3,e6,h3,s6⟩:=ZvI hl hn hK r (j+1) X1 (by omega) (by omega) h1 (hrow.grp h st)
  refine ⟨X3,(ZI ?_).trans e6,h3,st.trans s6⟩
  rw [Yr]
  unfold JC.l1
  rw [Za Zk,Zb,if_pos (by simpa using hlt),Za x1,Za x2,Za Zl,Za Zj,Za h.ldo,Za e2,Za e3,Za ZC,Q5 (by omega)]
  rfl
theorem Zvd (h : Grp X g o G mem c) : ∃ X',R (n+8) KH [pt g,strv m] X=some (iv (ofL m (Qy G) mem).length,X')∧Grp X' g o G (ZnB m mem) c∧Zr (JZ o G) X (JZ o G) X':=by
 obtain ⟨v2,q2,X2,e3,r3,l3,o3⟩:=Zw0 (n:=n+3) (m:=m) h
 have e3 : R (n+7) J8 [pt g,strv m] X=_:=e3
 have h2:=h.hle l3
 have hlen2 : ∀ Y,Zp v2 Y=some (iv (ofL m (Qy G) mem).length,Y):=fun Y=>by have:=r3.rd.len (H':=Y);simpa using this
 have hfew : (ofL m (Qy G) mem).length≤1000:=by have:=Zkn (m:=m) (mem:=mem) (K:=Qy G);have:=h.few;simp at *;omega
 have hnod : (ofL m (Qy G) mem).Nodup:=(ZnC h.mo.nod).asc.nodup
 have hr0 : ∀ k n',ZhU m (ofL m (Qy G) mem) mem 0 k n'=mem k n':=fun k n'=>by unfold ZhU;simp
 obtain ⟨X3,e4,h3,s4⟩:=ZvI (n:=n+7) (m:=m) (z:=v2) hfew hnod (fun x hx=>(Zvm.1 hx).1) (ofL m (Qy G) mem).length 0 X2 (by omega) (by omega) (h2.more (Nat.le_refl _) hr0) r3
 rw [show iv ((0 : Nat) : Int)=.int .i64 0 from rfl] at e4
 refine ⟨X3,?_,h3.more (Nat.le_refl _) (fun k' n'=>?_),l3.stepq.trans s4⟩
 ·rw [R,ZgW rfl]
  unfold JC
  rw [Za e3,Za (hlen2 _),Qh e4,ZE,JV,Za (hlen2 _)]
  rfl
 ·unfold ZnB ZhU
  rw [List.take_length]
  by_cases hin : k'∈ofL m (Qy G) mem
  ·rw [if_pos hin]
  ·rw [if_neg hin]
   by_cases hn : n'=m
   ·subst hn
    cases hm : mem k' n' with
    | false=>rfl
    | true=>exact absurd (Zvm.2 ⟨by have:=h.out k' n' hm;rw [h.key] at this;simpa using this,hm⟩) hin
   ·simp [hn]
theorem JB.move {α : Type} {enc : α→Value} {id id' : Nat} {mm : List (Tx × α)} (h : JB enc X id mm) (he : X'[id']?=X[id]?) : JB enc X' id' mm:=by
 obtain ⟨es,h1,h2⟩:=h.ex
 exact ⟨⟨es,h1,by rw [he];exact h2⟩,h.nod⟩
end
end Go.Proofs.YtedkoimihknggaaGreatDoor.A

namespace Go.Proofs.YtedkoimihknggaaGreatDoor.A
set_option linter.unusedVariables false
set_option linter.unusedSimpArgs false
open Go.Proofs Go.Proofs.YtedkoimihknggaaGreatDoor
def Zgr (b : UInt8) : UInt8:=if decide (65≤b.toNat) && decide (b.toNat≤90) then UInt8.ofNat (b.toNat+32) else b
def Ji (s : List UInt8) : List UInt8:=s.map Zgr
theorem Zwk : ∀ b : UInt8,(decide (65≤b.toNat) && decide (b.toNat≤90))=true→IntKind.u8.wrap (IntKind.u8.wrap ((b.toNat : Int)+97) - 65)=(Zgr b).toNat:=Zy4 (by decide+kernel)
section
variable {H X : Zd} {n : Nat} {s : List UInt8}
theorem Zyy {cs : List UInt8} {k : Nat} {b : UInt8} (h : cs[k]?=some b) : (u8s cs)[k]?=some (u8v b):=by unfold u8s;rw [List.getElem?_map,h];rfl
theorem Zye {cs : List UInt8} {k : Nat} {b : UInt8} : (u8s cs).set k (u8v b)=u8s (cs.set k b):=by unfold u8s;rw [List.map_set]
theorem Zzr : s2b (strv s) H=some (.slice (some ⟨H.length,0,none⟩) s.length s.length,H++[.cells (u8s s) 1 true false]):=by
 unfold s2b strv Zhi
 simp [ByteArray.size]
theorem ZnS {v : Value} {q : List Nat} (hs : s.length≤1000000) : ∀ (t k : Nat) (cs : List UInt8) (X : Zd),s.length - k=t→k≤s.length→cs.length=s.length→cs.take k=(s.take k).map Zgr→cs.drop k=s.drop k→Zw X v (u8s cs) q→
  ∃ X',Zh (c4 (KQ.l1 (R n))) [v,v,iv s.length,iv k] X=some (.ext 0 [v],X')∧Zw X' v (u8s (Ji s)) q∧Zr q X q X'
 | 0,k,cs,X,ht,hk,hl,h1,h2,hr=>by
  have : k=s.length:=by omega
  subst this
  have : cs=Ji s:=by
   rw [List.take_of_length_le (by omega),List.take_of_length_le (by omega)] at h1
   exact h1
  subst this
  refine ⟨X,ZV ?_,hr,.refl _ _⟩
  rw [ZH]
  unfold KQ.l1
  rw [Za Zk,Zb,if_neg (by simp)]
  rfl
 | t+1,k,cs,X,ht,hk,hl,h1,h2,hr=>by
  have hkl : k < s.length:=by omega
  have hlt : (k : Int) < s.length:=by omega
  have hg:=List.getElem?_eq_getElem hkl
  have htk:=List.take_succ_eq_append_getElem hkl
  have hdk:=List.drop_eq_getElem_cons hkl
  generalize s[k]=b at hg htk hdk
  have hgc : cs[k]?=some b:=by
   have h3 : (cs.drop k)[0]?=(s.drop k)[0]?:=by rw [h2]
   simpa [hg] using h3
  have hul : (u8s cs).length=s.length:=by rw [QY,hl]
  have x1:=hr.ix (i:=k) (by omega) .i64 X
  have x2:=hr.ldx (Zyy hgc)
  have hd1 : cs.drop (k+1)=s.drop (k+1):=by rw [← List.drop_drop,h2,List.drop_drop]
  have htc : cs.take (k+1)=cs.take k++[b]:=by
   have:=List.take_succ_eq_append_getElem (show k < cs.length by omega)
   rw [this,(List.getElem?_eq_some_iff.1 hgc).2]
  have hpk : ∀ (K : Value→M Out),bind (bop .int .geq (u8v b) (Value.int .u8 65)) (fun v16x6=>bind (ZD v16x6 true 2 (bind (bop .int .leq (u8v b) (Value.int .u8 90)) fun v19x7=>ret [u8v b,v19x7])) (c2 fun _ q8_1=>bind (pick v16x6 q8_1 (Value.bool false)) K)) X=K (.bool (decide (65≤b.toNat) && decide (b.toNat≤90))) X:=fun K=>by
   have e1 : decide ((b.toNat : Int)≥65)=decide (65≤b.toNat):=by rw [decide_eq_decide];omega
   have e2 : decide ((b.toNat : Int)≤90)=decide (b.toNat≤90):=by rw [decide_eq_decide];omega
   rw [Za Qp,e1]
   cases decide (65≤b.toNat)
   ·rw [Za (g_r.trans (if_neg (by simp)))]
    simp only [List.replicate]
    rw [Qd,Za Zn]
    rfl
   ·rw [Qq,Zs,Za Jj,Qz,Qd,Za Zn,e2]
    rfl
  cases hup : (decide (65≤b.toNat) && decide (b.toNat≤90))
  ·have hfb : Zgr b=b:=by unfold Zgr;rw [hup];rfl
   rw [hup] at hpk
   obtain ⟨X',e,r',s'⟩:=ZnS hs t (k+1) cs X (by omega) (by omega) hl (by rw [htc,h1,htk,List.map_append,List.map_singleton,hfb]) hd1 hr
   refine ⟨X',(ZI ?_).trans e,r',s'⟩
   rw [ZH]
   unfold KQ.l1
   rw [Za Zk,Zb,if_pos (by simpa using hlt),Za x1,Za x2]
   refine (hpk _).trans ?_
   refine (QZ (vs:=[v,v,iv s.length,iv k]) (H':=X) ?_).trans ?_
   ·rw [Zb,if_neg (by simp)];rfl
   ·rw [ZH,Za ZC,Q5 (by omega)];rfl
  ·have hfu:=Zwk b hup
   rw [hup] at hpk
   obtain ⟨X1,x3,r1,s1,_⟩:=hr.stx (i:=k) (u:=u8v (Zgr b)) (by omega) rfl
   rw [Zye] at r1
   obtain ⟨X',e,r',s'⟩:=ZnS hs t (k+1) (cs.set k (Zgr b)) X1 (by omega) (by omega) (by simpa using hl) (by
    have h5 : k < (cs.set k (Zgr b)).length:=by simp;omega
    rw [List.take_succ_eq_append_getElem h5,List.take_set_of_le (Nat.le_refl _),h1,htk,List.map_append]
    simp) (by rw [List.drop_set_of_lt (by omega)];exact hd1) r1
   refine ⟨X',(ZI ?_).trans e,r',s1.trans s'⟩
   rw [ZH]
   unfold KQ.l1
   rw [Za Zk,Zb,if_pos (by simpa using hlt),Za x1,Za x2]
   refine (hpk _).trans ?_
   refine (QZ (vs:=[v,v,iv s.length,iv k]) (H':=X1) ?_).trans ?_
   ·rw [Zb,if_pos rfl,Za ZC,Za QI,hfu,Za x1,Za x3];rfl
   ·rw [ZH,Za ZC,Q5 (by omega)];rfl
theorem Zyj (hs : s.length≤1000000) : ∃ H',R (n+1) Zdk [strv s] H=some (strv (Ji s),H')∧HLe H H':=by
 have e1:=Zzr (s:=s) (H:=H)
 have k1 : HLe H (H++[.cells (u8s s) 1 true false]):=.app _ _
 have r1 : Zw (H++[.cells (u8s s) 1 true false]) (.slice (some ⟨H.length,0,none⟩) s.length s.length) (u8s s) [H.length]:=.inr ⟨H.length,[],true,by rw [QY];rfl,rfl,by rw [ZB,List.append_nil]⟩
 have hnl : ∀ j∈[H.length],H.length≤j:=by simp
 generalize H++[Zg.cells (u8s s) 1 true false]=H1 at e1 k1 r1
 obtain ⟨H2,e2,r2,s2⟩:=ZnS (n:=n) hs s.length 0 s H1 (by omega) (by omega) rfl rfl rfl r1
 have e2 : Zh (c4 (KQ.l1 (R n))) [.slice (some ⟨H.length,0,none⟩) s.length s.length,.slice (some ⟨H.length,0,none⟩) s.length s.length,iv s.length,.int .i64 0] H1=_:=e2
 refine ⟨H2,?_,(k1.more s2 hnl).1⟩
 rw [R,Zq7 rfl]
 unfold KQ
 have hl : Zp (.slice (some ⟨H.length,0,none⟩) s.length s.length) H1=some (iv s.length,H1):=rfl
 rw [Za e1,Za hl,Qh e2,ZE,JV,Za (Zf9 r2.rd)]
 rfl
theorem Zw6 {i : Nat} (hi : i≤s.length) : sls (strv s) (some (iv i)) none H=some (strv (s.drop i),H):=by
 have h1 : (⟨s.toArray⟩ : ByteArray).size=s.length:=by simp [ByteArray.size]
 have h2 : (⟨s.toArray⟩ : ByteArray).extract i s.length=⟨(s.drop i).toArray⟩:=by
  apply ByteArray.ext
  rw [ByteArray.data_extract]
  simp [List.take_of_length_le]
 have hb : ∀ k : Nat,∀ d,bnd (some (iv k)) d=some k:=fun k d=>by simp [bnd]
 have hb0 : ∀ d,bnd none d=some d:=fun _=>rfl
 unfold strv sls
 simp only [h1,hb,hb0]
 rw [if_pos ⟨hi,Nat.le_refl _⟩,h2]
end
end Go.Proofs.YtedkoimihknggaaGreatDoor.A
namespace Go.Proofs.YtedkoimihknggaaGreatDoor.A
set_option linter.unusedVariables false
set_option linter.unusedSimpArgs false
open Go.Proofs Go.Proofs.YtedkoimihknggaaGreatDoor
def QL (c : UInt8) : List UInt8→List (List UInt8)
 | []=>[[]]
 | b :: l=>if b=c then [] :: QL c l else match QL c l with
  | h :: t=>(b :: h) :: t
  | []=>[[b]]
theorem Zpw {c : UInt8} : ∀ {s : List UInt8},QL c s≠[]
 | []=>by simp [QL]
 | b :: s=>by
  unfold QL
  split
  ·simp
  ·split <;> simp
theorem Znm {c : UInt8} : ∀ {s : List UInt8},c∉s→QL c s=[s]
 | [],_=>rfl
 | b :: s,h=>by
  simp only [List.mem_cons,not_or] at h
  unfold QL
  rw [if_neg (Ne.symm h.1),Znm h.2]
theorem Zjv {c : UInt8} : ∀ {s : List UInt8},c∈s→QL c s=s.takeWhile (· !=c) :: QL c (s.drop ((s.takeWhile (· !=c)).length+1))
 | [],h=>by cases h
 | b :: s,h=>by
  rw [show QL c (b :: s)=(if b=c then [] :: QL c s else match QL c s with | h :: t=>(b :: h) :: t | []=>[[b]]) from rfl]
  by_cases hb : b=c
  ·subst hb
   rw [if_pos rfl]
   simp
  ·rw [if_neg hb]
   have hm : c∈s:=by
    rcases List.mem_cons.1 h with h | h
    ·exact absurd h.symm hb
    ·exact h
   rw [Zjv hm]
   have h2 : (b !=c)=true:=by simp [hb]
   simp [List.takeWhile_cons,h2]
theorem Zc9 {c : UInt8} : ∀ {s : List UInt8},(QL c s).length=s.count c+1
 | []=>rfl
 | b :: s=>by
  have ih:=Zc9 (c:=c) (s:=s)
  unfold QL
  by_cases hb : b=c
  ·subst hb
   rw [if_pos rfl,List.length_cons,ih,List.count_cons_self]
  ·rw [if_neg hb,List.count_cons_of_ne (by simpa using hb)]
   cases h : QL c s with
   | nil=>exact absurd h Zpw
   | cons a t=>rw [h] at ih;simpa using ih
theorem ZvN {c : UInt8} : ∀ {s : List UInt8},c∈s→s.count c=(s.drop ((s.takeWhile (· !=c)).length+1)).count c+1:=by
 intro s h
 have h1:=Zc9 (c:=c) (s:=s)
 rw [Zjv h,List.length_cons,Zc9] at h1
 omega
def ZoR (l : List UInt8) : Bool:=!(l==[]) && l.all Zd6
def W6 (f : List UInt8) : List UInt8:=if 64∈f then f.drop ((f.takeWhile (· !=64)).length+1) else []
def okM (f : List UInt8) : Bool:=decide (64∈f) && (Zy (f.takeWhile (· !=64)) && (decide (2≤(QL 46 (W6 f)).length) && (QL 46 (W6 f)).all ZoR))
def ZaU (s : List UInt8) : Bool:=decide (s.length≤20) && okM (Ji s)
section
variable {H X : Zd} {n : Nat} {s : List UInt8} {c : UInt8}
theorem ZxI {args : List Value} : run Tryz.prog np lvs (n+1) J0 args=ZhR args:=ZfX (show np J0=some ZhR from rfl)
theorem ZxY {args : List Value} : run Tryz.prog np lvs (n+1) Yv args=ZhM args:=ZfX (show np Yv=some ZhM from rfl)
theorem ZrK : R (n+3) QN [strv s,strv [c]] H=some (iv (Go.Lib.indexByte s c),H):=by
 have e1 : run Tryz.prog np lvs (n+2) Jt [strv s,u8v c] H=some (iv (Go.Lib.indexByte s c),H):=by
  have e0 : run Tryz.prog np lvs (n+1) J0 [strv s,u8v c] H=some (iv (Go.Lib.indexByte s c),H):=by rw [ZxI];exact ZyS
  rw [Zcg rfl]
  unfold Kn
  rw [Za e0]
  rfl
 have q0 : bop .int .eql (iv [c].length) (.int .i64 0) H=some (.bool false,H):=by rw [ZG];rfl
 have q1 : bop .int .eql (iv [c].length) (.int .i64 1) H=some (.bool true,H):=by rw [ZG];rfl
 have x1 : ixs (strv [c]) (.int .i64 0) H=some (u8v c,H):=Znu (s:=[c]) (i:=0) rfl .i64 H
 rw [R,ZdG rfl]
 unfold J2
 rw [Za ZP,Za q0,Qq,Zs,Za Zgq,Qz,Z4,Za Zn]
 simp only [cond_false]
 by_cases h : s=[c]
 ·subst h
  rw [Zb,if_pos (by simp)]
  unfold Go.Lib.indexByte
  simp [ret]
 ·rw [Zb,if_neg (by simp;exact fun e=>h e.symm),Za q1,Zb,if_pos rfl,Za x1,Za e1]
  rfl
theorem ZwJ : R (n+4) Wk [strv s,strv [c]] H=some (iv (Go.Lib.indexByte s c),H):=by
 have e1 : run Tryz.prog np lvs (n+3) QN [strv s,strv [c]] H=_:=ZrK
 rw [R,ZlU rfl]
 unfold ZdF
 rw [Za e1]
 rfl
theorem ZxM : R (n+2) ZaB [strv s,strv [c]] H=some (iv (s.count c),H):=by
 have e0 : run Tryz.prog np lvs (n+1) Yv [strv s,u8v c] H=some (iv (s.count c),H):=by rw [ZxY];exact Zyp
 have q0 : bop .int .eql (iv [c].length) (.int .i64 0) H=some (.bool false,H):=by rw [ZG];rfl
 have q1 : bop .int .eql (iv [c].length) (.int .i64 1) H=some (.bool true,H):=by rw [ZG];rfl
 have x1 : ixs (strv [c]) (.int .i64 0) H=some (u8v c,H):=Znu (s:=[c]) (i:=0) rfl .i64 H
 rw [R,ZlA rfl]
 unfold Zau
 rw [Za ZP,Za q0,Zb,if_neg (by simp),Za ZP,Za q1,Zb,if_pos rfl,Za x1,Za e0]
 rfl
theorem Zu9 {s : List UInt8} {c : UInt8} (h : c∈s) : (s.takeWhile (· !=c)).length < s.length:=by
 rcases Nat.lt_or_ge (s.takeWhile (· !=c)).length s.length with h1 | h1
 ·exact h1
 ·have h2 : s.takeWhile (· !=c)=s:=by
   have:=List.takeWhile_prefix (p:=(· !=c)) (l:=s)
   exact this.eq_of_length (by have:=this.length_le;omega)
  have h3:=List.all_eq_true.1 (List.all_takeWhile (p:=(· !=c)) (l:=s)) c (by rw [h2];exact h)
  simp at h3
theorem Zs8 {s : List UInt8} {p : UInt8→Bool} : s.take (s.takeWhile p).length=s.takeWhile p:=
 (List.prefix_iff_eq_take.1 (List.takeWhile_prefix p)).symm
theorem Zzl (hs : s.length≤1000000) : R (n+5) WC [strv s,strv [c]] H=some (if c∈s then .tuple #[strv (s.takeWhile (· !=c)),strv (s.drop ((s.takeWhile (· !=c)).length+1)),.bool true] else .tuple #[strv s,strv [],.bool false],H):=by
 have e1 : run Tryz.prog np lvs (n+3) QN [strv s,strv [c]] H=_:=ZrK
 have e2 : run Tryz.prog np lvs (n+4) Kk [strv s,strv [c]] H=some (if c∈s then .tuple #[strv (s.takeWhile (· !=c)),strv (s.drop ((s.takeWhile (· !=c)).length+1)),.bool true] else .tuple #[strv s,strv [],.bool false],H):=by
  rw [Zez rfl]
  unfold Wp
  rw [Za e1,ZdM,Za Qp,Zb]
  by_cases h : c∈s
  ·have hl:=Zu9 h
   have w : IntKind.i64.wrap (((s.takeWhile (· !=c)).length : Int)+(([c] : List UInt8).length : Nat))=(((s.takeWhile (· !=c)).length+1 : Nat) : Int):=Q5 (by omega)
   rw [if_pos h,if_pos (by simp),Za (Zp8 (by omega)),Zs8,Za ZP,Za ZC,w,Za (Zw6 (by omega)),if_pos h]
   rfl
  ·rw [if_neg h,if_neg (by decide),if_neg h]
   rfl
 rw [R,Zod rfl]
 unfold Zfy
 rw [Za e2]
 by_cases h : c∈s
 ·rw [if_pos h];rfl
 ·rw [if_neg h];rfl
theorem Zre {v : Value} {q : List Nat} {N : Nat} (hN : N≤1000001) : ∀ (t i : Nat) (s : List UInt8) (cs : List (List UInt8)) (X : Zd),N - 1 - i=t→i < N→s.length≤1000000→s.count c+1+i=N→cs.length=N→Zw X v (cs.map strv) q→
  ∃ (X' : Zd) (s' : List UInt8) (cs' : List (List UInt8)),Zh (c6 (JF.l1 (R (n+4)))) [strv s,strv [c],iv 0,iv ((N - 1 : Nat) : Int),v,iv i] X=some (.ext 0 [strv s',v,iv ((N - 1 : Nat) : Int)],X')∧Zw X' v (cs'.map strv) q∧cs'.length=N∧cs'.take (N - 1)++[s']=cs.take i++QL c s∧Zr q X q X'
 | 0,i,s,cs,X,ht,hi,hs,hc,hl,hr=>by
  have hi2 : i=N - 1:=by omega
  subst hi2
  have hcs : c∉s:=by
   intro h
   have:=List.count_pos_iff.2 h
   omega
  refine ⟨X,s,cs,ZV ?_,hr,hl,by rw [Znm hcs],.refl _ _⟩
  rw [Yr]
  unfold JF.l1
  rw [Za Zk,Zb,if_neg (by simp)]
  rfl
 | t+1,i,s,cs,X,ht,hi,hs,hc,hl,hr=>by
  have hlt : (i : Int) < ((N - 1 : Nat) : Int):=by omega
  have hcs : c∈s:=List.count_pos_iff.1 (by omega)
  have htl:=Zu9 hcs
  have hct:=ZvN hcs
  have e1 : R (n+4) Wk [strv s,strv [c]] X=_:=ZwJ
  rw [ZdM,if_pos hcs] at e1
  have w0 : IntKind.i64.wrap (((s.takeWhile (· !=c)).length : Int)+0)=((s.takeWhile (· !=c)).length : Int):=by rw [Int.add_zero];exact w64 (by omega) (by omega)
  have w : IntKind.i64.wrap (((s.takeWhile (· !=c)).length : Int)+(([c] : List UInt8).length : Nat))=(((s.takeWhile (· !=c)).length+1 : Nat) : Int):=Q5 (by omega)
  have x1:=hr.ix (i:=i) (by simp;omega) .i64 X
  obtain ⟨X1,x2,r1,s1,_⟩:=hr.stx (i:=i) (u:=strv (s.takeWhile (· !=c))) (by simp;omega) rfl
  rw [show (cs.map strv).set i (strv (s.takeWhile (· !=c)))=(cs.set i (s.takeWhile (· !=c))).map strv from by rw [List.map_set]] at r1
  obtain ⟨X',s',cs',e2,r2,l2,h2,s2⟩:=Zre hN t (i+1) (s.drop ((s.takeWhile (· !=c)).length+1)) (cs.set i (s.takeWhile (· !=c))) X1 (by omega) (by omega) (by simp;omega) (by omega) (by simpa using hl) r1
  refine ⟨X',s',cs',(ZI ?_).trans e2,r2,l2,?_,s1.trans s2⟩
  ·have q1 : bop .int .lss (iv ((s.takeWhile (· !=c)).length : Nat)) (.int .i64 0) X=some (.bool false,X):=by rw [Zk,decide_eq_false (by omega)]
   rw [Yr]
   unfold JF.l1
   rw [Za Zk,Zb,if_pos (by simpa using hlt),Za e1,Za q1,Zb,if_neg (by simp),Za ZC,w0,Za (Zp8 (by omega)),Zs8,Za x1,Za x2,Za ZP,Za ZC,w,Za (Zw6 (by omega)),Za ZC,Q5 (by omega)]
   rfl
  ·have h5 : i < (cs.set i (s.takeWhile (· !=c))).length:=by simp;omega
   rw [h2,Zjv hcs,List.take_succ_eq_append_getElem h5,List.take_set_of_le (Nat.le_refl _)]
   simp
theorem ZxV (hs : s.length≤1000000) : ∃ X' v q,R (n+6) Zas [strv s,strv [c]] X=some (v,X')∧Zw X' v ((QL c s).map strv) q∧HLe X X':=by
 have hcl : s.count c≤s.length:=List.count_le_length
 have e0 : run Tryz.prog np lvs (n+4) ZaB [strv s,strv [c]] X=_:=ZxM (n:=n+2)
 have w1 : IntKind.i64.wrap ((s.count c : Int)+1)=((s.count c+1 : Nat) : Int):=Q5 (by omega)
 have w2 : IntKind.i64.wrap ((s.length : Int)+1)=((s.length+1 : Nat) : Int):=Q5 (by omega)
 have q0 : bop .int .eql (.int .i64 (-1)) (.int .i64 0) X=some (.bool false,X):=by rw [ZG];rfl
 have q1 : bop .str .eql (strv [c]) (.string ⟨#[]⟩) X=some (.bool false,X):=Zgq (b:=[])
 have q2 : bop .int .lss (.int .i64 (-1)) (.int .i64 0) X=some (.bool true,X):=by rw [Zk];rfl
 have hm : mxi false (iv ((s.count c+1 : Nat) : Int)) (iv ((s.length+1 : Nat) : Int)) X=some (iv ((s.count c+1 : Nat) : Int),X):=by rw [Ye,if_neg (by omega)]
 have e1:=Zy9 (k:=s.count c+1) (b:=16) (z:=.string ⟨#[]⟩) (H:=X) rfl (by omega) (by omega)
 have k1 : HLe X (X++[.cells (List.replicate (s.count c+1) (Value.string ⟨#[]⟩)) 1 false false]):=.app _ _
 have r1 : Zw (X++[.cells (List.replicate (s.count c+1) (Value.string ⟨#[]⟩)) 1 false false]) (.slice (some ⟨X.length,0,none⟩) (s.count c+1) (s.count c+1)) ((List.replicate (s.count c+1) ([] : List UInt8)).map strv) [X.length]:=by
  rw [List.map_replicate]
  exact Zw.new ZB
 have ho : ∀ j∈[X.length],X.length≤j:=by simp
 generalize X++[Zg.cells (List.replicate (s.count c+1) (Value.string ⟨#[]⟩)) 1 false false]=X1 at e1 k1 r1
 generalize hv : Value.slice (some ⟨X.length,0,none⟩) (s.count c+1) (s.count c+1)=v at e1 r1
 have w3 : IntKind.i64.wrap (((s.count c+1 : Nat) : Int) - 1)=((s.count c+1 - 1 : Nat) : Int):=Zt4 (by omega) (by omega)
 obtain ⟨X2,s',cs',e2,r2,l2,h2,s2⟩:=Zre (n:=n) (c:=c) (N:=s.count c+1) (by omega) (s.count c+1 - 1 - 0) 0 s _ X1 rfl (by omega) hs (by omega) (by simp) r1
 have e2 : Zh (c6 (JF.l1 (R (n+4)))) [strv s,strv [c],.int .i64 0,iv ((s.count c+1 - 1 : Nat) : Int),v,.int .i64 0] X1=_:=e2
 have x1:=r2.ix (i:=s.count c+1 - 1) (by simp;omega) .i64 X2
 obtain ⟨X3,x2,r3,s3,_⟩:=r2.stx (i:=s.count c+1 - 1) (u:=strv s') (by simp;omega) rfl
 have hfin : (cs'.set (s.count c+1 - 1) s')=QL c s:=by
  have h6 : s.count c+1 - 1 < cs'.length:=by omega
  rw [← List.take_append_drop (s.count c+1 - 1) (cs'.set (s.count c+1 - 1) s'),List.take_set_of_le (Nat.le_refl _),List.drop_set]
  rw [if_neg (by omega),Nat.sub_self]
  have hd : (cs'.drop (s.count c+1 - 1)).length=1:=by simp;omega
  obtain ⟨a,ha⟩:=List.length_eq_one_iff.1 hd
  rw [ha,List.set_cons_zero,h2]
  rfl
 rw [show (cs'.map strv).set (s.count c+1 - 1) (strv s')=(cs'.set (s.count c+1 - 1) s').map strv from by rw [List.map_set],hfin] at r3
 have hlen : ((QL c s).map strv).length=s.count c+1:=by rw [List.length_map,Zc9]
 have x3 : ∃ v',slv 1 v none (some (iv ((s.count c+1 : Nat) : Int))) none X3=some (v',X3)∧Zw X3 v' ((QL c s).map strv) [X.length]:=by
  rcases r3 with ⟨h,_,_⟩ | ⟨sid,rest,g,h1,h3,h4⟩
  ·rw [h] at hlen;simp at hlen
  ·rw [hlen] at h1
   refine ⟨.slice (some ⟨sid,0,none⟩) (s.count c+1) (s.count c+1+rest.length),?_,.inr ⟨sid,rest,g,by rw [hlen],h3,h4⟩⟩
   have b1 : bnd (some (iv ((s.count c+1 : Nat) : Int))) (s.count c+1)=some (s.count c+1):=by simp [bnd];omega
   have b2 : ∀ d,bnd none d=some d:=fun _=>rfl
   rw [h1]
   simp only [slv,h4,b1,b2]
   rw [if_pos ⟨trivial,by omega,by omega,Nat.le_refl _⟩,if_neg (by omega)]
   simp
 obtain ⟨v',x3,r4⟩:=x3
 have w4 : IntKind.i64.wrap (((s.count c+1 - 1 : Nat) : Int)+1)=((s.count c+1 : Nat) : Int):=by rw [Q5 (by omega)];congr 1
 have e3 : run Tryz.prog np lvs (n+5) Zak [strv s,strv [c],.int .i64 0,.int .i64 (-1)] X=some (v',X3):=by
  rw [ZiA rfl]
  unfold JF
  rw [Za q0,Zb,if_neg (by simp),Za q1,Zb,if_neg (by simp),Za q2]
  refine (QZ (vs:=[strv s,strv [c],.int .i64 0,iv ((s.count c+1 : Nat) : Int)]) (H':=X) ?_).trans ?_
  ·rw [Zb,if_pos rfl,Za e0,Za ZC,w1];rfl
  ·rw [ZH,Za ZP,Za ZC,w2,Za hm,Za e1,Za QI,w3]
   refine (QZ (vs:=[strv s',v,iv ((s.count c+1 - 1 : Nat) : Int)]) (H':=X2) ?_).trans ?_
   ·rw [Qh e2,ZE,Z4];rfl
   ·rw [Z4,Za x1,Za x2,Za ZC,w4,Za x3];rfl
 refine ⟨X3,v',[X.length],?_,r4,(k1.more (s2.trans s3) ho).1⟩
 rw [R,Zl7 rfl]
 unfold ZdI
 rw [Za e3]
 rfl
end
end Go.Proofs.YtedkoimihknggaaGreatDoor.A
namespace Go.Proofs.YtedkoimihknggaaGreatDoor.A
set_option linter.unusedVariables false
set_option linter.unusedSimpArgs false
open Go.Proofs Go.Proofs.YtedkoimihknggaaGreatDoor
section
variable {H X : Zd} {n : Nat} {s f : List UInt8} {c : UInt8}
theorem Zxq {b : UInt8} : R (n+2) Zb2 [u8v b] H=some (.bool (Zd6 b),H):=by
 have e1 : run Tryz.prog np lvs (n+1) Yq [u8v b] H=some (.bool (Wm b),H):=ZhB
 have e2 : run Tryz.prog np lvs (n+1) YM [u8v b] H=some (.bool (Zbo b),H):=Zkm
 rw [R,ZpN rfl]
 unfold Zd6 ZgA
 rw [Za e1]
 cases Wm b
 ·rw [Qq,Zs,Za e2,Qz,Qd,Za Zn]
  rfl
 ·rw [Za (g_r.trans (if_neg (by simp)))]
  simp only [List.replicate]
  rw [Qd,Za Zn]
  rfl
theorem Zuf (hs : s.length≤1000000000) : R (n+3) YK [strv s,.func (.func Zb2) #[] #[]] H=some (.bool (s.all Zd6),H):=
 Zuo (fun b H=>by rw [Zqr];exact Zxq) hs
theorem Zvp {v : Value} {q : List Nat} {ls : List (List UInt8)} (hl : ls.length≤1000) (hb : ∀ l∈ls,l.length≤1000000) (hr : Zw X v (ls.map strv) q) : ∀ (t k : Nat),ls.length - k=t→k≤ls.length→
  Zh (c4 (YT.l1 (R (n+3)))) [strv f,v,iv ls.length,iv k] X=some (if (ls.drop k).all ZoR then .ext 0 [strv f] else .ret (.tuple #[strv [],iv 11]),X)
 | 0,k,ht,hk=>by
  have : k=ls.length:=by omega
  subst this
  rw [List.drop_length]
  refine ZV ?_
  rw [ZH]
  unfold YT.l1
  rw [Za Zk,Zb,if_neg (by simp)]
  rfl
 | t+1,k,ht,hk=>by
  have hkl : k < ls.length:=by omega
  have hlt : (k : Int) < ls.length:=by omega
  have hg:=List.getElem?_eq_getElem hkl
  have hm:=List.getElem_mem hkl
  have hd:=List.drop_eq_getElem_cons hkl
  generalize ls[k]=l at hg hd hm
  have x1:=hr.ix (i:=k) (by simpa using hkl) .i64 X
  have x2:=hr.ldx (Kd hg)
  have e1 : R (n+3) YK [strv l,.func (.func Zb2) #[] #[]] X=some (.bool (l.all Zd6),X):=Zuf (Nat.le_trans (hb l hm) (by decide))
  have ih:=Zvp hl hb hr t (k+1) (by omega) (by omega)
  have q1 : bop .str .eql (strv l) (.string ⟨#[]⟩) X=some (.bool (l==[]),X):=Zgq (b:=[])
  have hb1 : c4 (YT.l1 (R (n+3))) [strv f,v,iv ls.length,iv k] X=some (if ZoR l then .nrm [strv f,v,iv ls.length,iv ((k+1 : Nat) : Int)] else .ret (.tuple #[strv [],iv 11]),X):=by
   rw [ZH]
   unfold YT.l1 ZoR
   rw [Za Zk,Zb,if_pos (by simpa using hlt),Za x1,Za x2,Za q1]
   cases l==[]
   ·rw [Qq,Zs,Za e1,Zs,Za ZU,Qz,Z4,Za Zn]
    simp only [cond_false]
    cases l.all Zd6
    ·rw [Zb,if_pos (by rfl)];rfl
    ·rw [Zb,if_neg (by simp),Za ZC,Q5 (by omega)];rfl
   ·rw [Za (g_r.trans (if_neg (by simp)))]
    simp only [List.replicate]
    rw [Z4,Za Zn]
    simp only [cond_true]
    rw [Zb,if_pos rfl]
    rfl
  rw [hd,List.all_cons]
  cases hlb : ZoR l
  ·rw [hlb] at hb1
   exact JX hb1
  ·rw [hlb] at hb1
   rw [Bool.true_and]
   exact (ZI hb1).trans ih
theorem Zd2 {c : UInt8} : ∀ {s : List UInt8},∀ l∈QL c s,l.length≤s.length
 | [],l,h=>by simp [QL] at h;simp [h]
 | b :: s,l,h=>by
  rw [show QL c (b :: s)=(if b=c then [] :: QL c s else match QL c s with | h :: t=>(b :: h) :: t | []=>[[b]]) from rfl] at h
  split at h
  ·rcases List.mem_cons.1 h with rfl | h
   ·simp
   ·have:=Zd2 l h
    simp;omega
  ·cases hsp : QL c s with
   | nil=>exact absurd hsp Zpw
   | cons a t=>
    rw [hsp] at h
    rcases List.mem_cons.1 h with rfl | h
    ·have:=Zd2 (c:=c) (s:=s) a (by rw [hsp];simp)
     simpa using this
    ·have:=Zd2 (c:=c) (s:=s) l (by rw [hsp];simp [h])
     simp;omega
theorem Zo3 : (Ji s).length=s.length:=by simp [Ji]
theorem Zuy : ∃ X',R (n+8) ZbD [strv s] X=some (.tuple #[strv (if ZaU s then Ji s else []),iv (if ZaU s then 0 else 11)],X')∧HLe X X':=by
 have f1 : ∀ r X',YT (R (n+7)) (strv s) X=some (r,X')→R (n+8) ZbD [strv s] X=some (r,X'):=fun r X' hr=>by rw [R,Zrm rfl];exact hr
 unfold ZaU
 by_cases h20 : s.length≤20
 ·have q1 : bop .int .gtr (iv s.length) (.int .i64 20) X=some (.bool false,X):=by rw [ZT,decide_eq_false (by omega)]
  obtain ⟨X1,e1,k1⟩:=Zyj (n:=n+6) (s:=s) (H:=X) (by omega)
  have e1 : R (n+7) Zdk [strv s] X=_:=e1
  have hfl : (Ji s).length≤20:=by rw [Zo3];exact h20
  generalize Ji s=f at e1 hfl
  have e2 : R (n+7) WC [strv f,strv [64]] X1=_:=Zzl (n:=n+2) (c:=64) (by omega)
  obtain ⟨loc,e2'⟩ : ∃ loc : List UInt8,R (n+7) WC [strv f,strv [64]] X1=some (.tuple #[strv loc,strv (W6 f),.bool (decide (64∈f))],X1)∧(64∈f→loc=f.takeWhile (· !=64)):=by
   unfold W6
   by_cases h : 64∈f
   ·rw [if_pos h] at e2
    exact ⟨_,by rw [e2,if_pos h,decide_eq_true h],fun _=>rfl⟩
   ·rw [if_neg h] at e2
    exact ⟨_,by rw [e2,if_neg h,decide_eq_false h],fun h2=>absurd h2 h⟩
  obtain ⟨e2',hloc⟩:=e2'
  have hdl : (W6 f).length≤20:=by unfold W6;split <;> simp;omega
  obtain ⟨X2,v,q,e3,r3,k3⟩:=ZxV (n:=n+1) (c:=46) (s:=W6 f) (X:=X1) (by omega)
  have e3 : R (n+7) Zas [strv (W6 f),.string ⟨#[46]⟩] X1=_:=e3
  have e2'' : R (n+7) WC [strv f,.string ⟨#[64]⟩] X1=_:=e2'
  have hcl : (W6 f).count 46≤(W6 f).length:=List.count_le_length
  have hsl:=Zc9 (c:=46) (s:=W6 f)
  have hl : Zp v X2=some (iv (QL 46 (W6 f)).length,X2):=by have:=r3.rd.len (H':=X2);rwa [List.length_map] at this
  have e4 : R (n+7) Ww [strv loc] X2=some (.bool (Zy loc),X2):=Zpq (n:=n+3)
  have e5:=Zvp (n:=n+4) (f:=f) (ls:=QL 46 (W6 f)) (by omega) (fun l h=>Nat.le_trans (Zd2 l h) (by omega)) r3 (QL 46 (W6 f)).length 0 (by omega) (by omega)
  rw [List.drop_zero] at e5
  have e5 : Zh (c4 (YT.l1 (R (n+7)))) [strv f,v,iv (QL 46 (W6 f)).length,.int .i64 0] X2=_:=e5
  refine ⟨X2,f1 _ _ ?_,k1.trans k3⟩
  unfold YT
  rw [Za ZP,Za q1,Zb,if_neg (by simp),Za e1,Za e2'']
  have t0 : Zq (.tuple #[strv loc,strv (W6 f),.bool (decide (64∈f))]) 0 X1=some (strv loc,X1):=rfl
  have t1 : Zq (.tuple #[strv loc,strv (W6 f),.bool (decide (64∈f))]) 1 X1=some (strv (W6 f),X1):=rfl
  have t2 : Zq (.tuple #[strv loc,strv (W6 f),.bool (decide (64∈f))]) 2 X1=some (.bool (decide (64∈f)),X1):=rfl
  rw [Za t0,Za t1,Za t2,Za e3,Za ZU]
  unfold okM
  rw [decide_eq_true h20]
  by_cases h : 64∈f
  ·rw [decide_eq_true h,← hloc h]
   simp only [Bool.not_true,Bool.true_and]
   rw [Qq,Zs,Za e4,Zs,Za ZU,Qz,Z4,Za Zn]
   simp only [cond_false]
   cases Zy loc
   ·simp only [Bool.not_false,Bool.false_and]
    rw [Za (g_r.trans (if_neg (by simp)))]
    simp only [List.replicate]
    rw [Z4,Za Zn]
    simp only [cond_true]
    rw [Zb,if_pos rfl]
    rfl
   ·simp only [Bool.not_true,Bool.true_and]
    rw [Qq,Zs,Za hl,Zs,Za Zk,Qz,Z4,Za Zn]
    simp only [cond_false]
    by_cases h2 : 2≤(QL 46 (W6 f)).length
    ·rw [decide_eq_false (by omega),Zb,if_neg (by simp),Za hl,decide_eq_true h2,Bool.true_and]
     cases ha : (QL 46 (W6 f)).all ZoR
     ·rw [ha] at e5
      rw [Kj e5]
      rfl
     ·rw [ha] at e5
      rw [Qh e5,ZE]
      rfl
    ·rw [decide_eq_true (by omega),Zb,if_pos rfl,decide_eq_false h2]
     rfl
  ·rw [decide_eq_false h]
   simp only [Bool.not_false,Bool.false_and,Bool.and_false]
   rw [Za (g_r.trans (if_neg (by simp)))]
   simp only [List.replicate]
   rw [Z4,Za Zn]
   simp only [cond_true]
   rw [Za (g_r.trans (if_neg (by simp)))]
   simp only [List.replicate]
   rw [Z4,Za Zn]
   simp only [cond_true]
   rw [Zb,if_pos rfl]
   rfl
 ·have q1 : bop .int .gtr (iv s.length) (.int .i64 20) X=some (.bool true,X):=by rw [ZT,decide_eq_true (by omega)]
  refine ⟨X,f1 _ _ ?_,.refl _⟩
  unfold YT
  rw [Za ZP,Za q1,Zb,if_pos rfl,decide_eq_false h20]
  rfl
end
end Go.Proofs.YtedkoimihknggaaGreatDoor.A

namespace Go.Proofs.YtedkoimihknggaaGreatDoor.A
set_option linter.unusedVariables false
set_option linter.unusedSimpArgs false
structure WQ {α : Type} (enc : α→Value) (H : Zd) (id : Nat) (m : List (List UInt8 × α)) : Prop where
 ex : ∃ es clk,es.map kv=m.map (fun p=>(strv p.1,enc p.2))∧H[id]?=some (.map es clk)∧ZaW es clk
 nod : (m.map (·.1)).Nodup
section
variable {α : Type} {enc : α→Value} {H H' : Zd} {id : Nat} {m : List (List UInt8 × α)} {k : List UInt8} {v : α} {z : Value}
theorem WQ.g (h : WQ enc H id m) : JB enc H id m:=by
 obtain ⟨es,clk,h1,h2,h3⟩:=h.ex
 exact ⟨⟨es,h1,.inl ⟨clk,h2,h3⟩⟩,h.nod⟩
theorem WQ.lt (h : WQ enc H id m) : id < H.length:=h.g.lt
theorem WQ.keep (h : WQ enc H id m) (hk : H'[id]?=H[id]?) : WQ enc H' id m:=by
 obtain ⟨es,clk,h1,h2,h3⟩:=h.ex
 exact ⟨⟨es,clk,h1,by rw [hk];exact h2,h3⟩,h.nod⟩
theorem WQ.hle (h : WQ enc H id m) (hl : HLe H H') : WQ enc H' id m:=h.keep (hl.step.keep id h.lt (by simp))
theorem WQ.step {o1 o2 : List Nat} (h : WQ enc H id m) (hs : Zr o1 H o2 H') (hn : id∉o1) : WQ enc H' id m:=h.keep (hs.keep id h.lt hn)
theorem ZwZ (H : Zd) : ∃ H',mkm H=some (.map (some H.length),H')∧WQ enc H' H.length ([] : List (List UInt8 × α))∧HLe H H'∧H'.length=H.length+1:=
 ⟨_,rfl,⟨⟨[],0,rfl,ZB,⟨by simp,by simp⟩⟩,by simp⟩,.app _ _,by simp⟩
theorem WQ.mde (h : WQ enc H id m) : ∃ H',A.mde .str (.map (some id)) (strv k) H=some (.tuple #[],H')∧WQ enc H' id (KU k m)∧Zr [id] H [id] H'∧H'.length=H.length:=by
 obtain ⟨es,clk,h1,h2,hs⟩:=h.ex
 have hst : ∀ o,Zr [id] H [id] (H.set id o):=fun o=>⟨by simp,fun j hj hn=>List.getElem?_set_ne (fun e=>hn (by simp [e])),fun j hj=>.inl hj⟩
 have hnod:=Znq (k:=k) h.nod
 rcases Zfg (k:=k) 0 h1 with ⟨h3,h4⟩ | ⟨j,v0,h3,h4,h5⟩
 ·refine ⟨H,?_,by rw [Zo9 h3];exact h,.refl _ _,rfl⟩
  unfold A.mde
  simp only [h2,Wj,cond_true,h4]
 ·have ha : KU k m=m.eraseIdx j:=(Zdm h.nod h3).symm
  rw [ha] at hnod ⊢
  rw [Nat.zero_add] at h5
  have hm : (es.eraseIdx j).map kv=(m.eraseIdx j).map fun p=>(strv p.1,enc p.2):=by
   have hg : ∀ {β γ : Type} (f : β→γ) (l : List β) (j : Nat),(l.eraseIdx j).map f=(l.map f).eraseIdx j:=fun f l j=>by
    rw [List.eraseIdx_eq_take_drop_succ,List.eraseIdx_eq_take_drop_succ,List.map_append,List.map_take,List.map_drop]
   rw [hg,hg,h1]
  refine ⟨H.set id (.map (es.eraseIdx j) clk),?_,⟨⟨_,clk,hm,Qv h2,⟨fun e he=>hs.lt e ((List.eraseIdx_sublist es j).subset he),((List.eraseIdx_sublist es j).map _).nodup hs.nod⟩⟩,hnod⟩,hst _,by simp⟩
  unfold A.mde;simp only [h2,Wj,cond_true,h5]
theorem Zh7 {es : List (Value × Value × Nat)} {j : Nat} {e : Value × Value × Nat} (hn : (es.map (·.2.2)).Nodup) (hj : es[j]?=some e) : es.findIdx? (fun x=>(x.2.2 : Int)==(e.2.2 : Nat))=some j:=by
 rw [List.findIdx?_eq_some_iff_getElem]
 have hlt:=(List.getElem?_eq_some_iff.1 hj).1
 have he:=(List.getElem?_eq_some_iff.1 hj).2
 refine ⟨hlt,by rw [he];simp,fun i hi=>?_⟩
 have hil : i < es.length:=by omega
 simp only [Bool.not_eq_true,beq_eq_false_iff_ne,ne_eq]
 intro h
 have h2 : es[i].2.2=e.2.2:=by omega
 have hp:=List.pairwise_iff_getElem.1 (List.nodup_iff_pairwise_ne.1 hn) i j (by simpa using hil) (by simpa using hlt) hi
 rw [List.getElem_map,List.getElem_map,he] at hp
 exact hp h2
theorem WQ.put (h : WQ enc H id m) : ∃ t st H1 H2,men .str z (.map (some id)) (strv k) H=some (t,H1)∧Zq t 1 H1=some (st,H1)∧ens (.map (some id)) st (enc v) H1=some (undef,H2)∧WQ enc H2 id (Qt k v m)∧Zr [id] H [id] H1∧Zr [id] H [id] H2∧H2.length=H.length:=by
 obtain ⟨es,clk,h1,h2,hs⟩:=h.ex
 have hst : ∀ o,Zr [id] H [id] (H.set id o):=fun o=>⟨by simp,fun j hj hn=>List.getElem?_set_ne (fun e=>hn (by simp [e])),fun j hj=>.inl hj⟩
 have hst2 : ∀ o o',Zr [id] H [id] ((H.set id o).set id o'):=fun o o'=>⟨by simp,fun j hj hn=>by rw [List.getElem?_set_ne (fun e=>hn (by simp [e])),List.getElem?_set_ne (fun e=>hn (by simp [e]))],fun j hj=>.inl hj⟩
 have hnod:=ZmR (k:=k) (v:=v) h.nod
 rcases Zfg (k:=k) 0 h1 with ⟨h3,h4⟩ | ⟨j,v0,h3,h4,h5⟩
 ·have ha : Qt k v m=m++[(k,v)]:=by unfold Qt;rw [h3];rfl
  rw [ha] at hnod ⊢
  have hS : ZaW (es++[(strv k,z,clk)]) (clk+1):=⟨fun e he=>by
   rcases List.mem_append.1 he with he | he
   ·have:=hs.lt e he;omega
   ·have : e=(strv k,z,clk):=by simpa using he
    rw [this];exact Nat.lt_succ_self _,by
   rw [List.map_append,List.nodup_append]
   refine ⟨hs.nod,by simp,fun a ha b hb=>?_⟩
   have hb : b=clk:=by simpa using hb
   obtain ⟨e,he,rfl⟩:=List.mem_map.1 ha
   have:=hs.lt e he;omega⟩
  have hlen : es.length=m.length:=by have:=congrArg List.length h1;simpa using this
  have hget : (es++[(strv k,z,clk)])[es.length]?=some (strv k,z,clk):=by simp
  have hfi:=Zh7 hS.nod hget
  have hgk : ((es++[(strv k,z,clk)]).map kv)[es.length]?=some (strv k,z):=by rw [List.getElem?_map,hget];rfl
  refine ⟨.tuple #[z,.int .i64 (clk : Nat)],.int .i64 (clk : Nat),H.set id (.map (es++[(strv k,z,clk)]) (clk+1)),(H.set id (.map (es++[(strv k,z,clk)]) (clk+1))).set id (.map (Yd (es++[(strv k,z,clk)]) es.length (enc v)) (clk+1)),?_,rfl,?_,⟨⟨_,clk+1,?_,Qv (Qv h2),Zkk hS⟩,hnod⟩,hst _,hst2 _ _,by simp⟩
  ·unfold men;simp only [h2,Wj,cond_true,h4]
  ·unfold ens
   simp only [Qv h2,hfi]
  ·rw [Zhr hgk,List.map_append,h1,List.map_append]
   have : es.length=(m.map fun p=>(strv p.1,enc p.2)).length:=by rw [List.length_map,hlen]
   rw [this]
   simp [kv]
 ·have ha : Qt k v m=m.set j (k,v):=by unfold Qt;rw [h4];exact (ZhL h.nod h3).symm
  rw [ha] at hnod ⊢
  rw [Nat.zero_add] at h5
  have hget : (es.map kv)[j]?=some (strv k,enc v0):=by rw [h1,List.getElem?_map,h3];rfl
  obtain ⟨e,he,hek⟩ : ∃ e,es[j]?=some e∧kv e=(strv k,enc v0):=by
   rw [List.getElem?_map] at hget
   cases hh : es[j]? with
   | none=>rw [hh] at hget;cases hget
   | some e=>rw [hh] at hget;exact ⟨e,rfl,by simpa using hget⟩
  have hfi:=Zh7 hs.nod he
  have hgd : (es.getD j (undef,undef,0)).2.2=e.2.2:=by rw [List.getD_eq_getElem?_getD,he];rfl
  refine ⟨.tuple #[enc v0,.int .i64 (e.2.2 : Nat)],.int .i64 (e.2.2 : Nat),H,H.set id (.map (Yd es j (enc v)) clk),?_,rfl,?_,⟨⟨_,clk,?_,Qv h2,Zkk hs⟩,hnod⟩,.refl _ _,hst _,by simp⟩
  ·unfold men;simp only [h2,Wj,cond_true,h5,hgd]
  ·unfold ens
   simp only [h2,hfi]
  ·rw [Zhr hget,h1,List.map_set]
end
end Go.Proofs.YtedkoimihknggaaGreatDoor.A

namespace Go.Proofs.YtedkoimihknggaaGreatDoor.A
set_option linter.unusedVariables false
set_option linter.unusedSimpArgs false
open Go.Proofs Go.Proofs.YtedkoimihknggaaGreatDoor
structure Inv (OW OF : Qo) : Prop where
 inv : ∀ k v,Zf k OF=some v↔Zf v OW=some k
 same : OW.length=OF.length
 lens : ∀ p∈OF,p.1≠[]∧p.1.length≤12∧p.2≠[]∧p.2.length≤20
def Zbg (k : List UInt8) (OW OF : Qo) : Qo:=match Zf k OF with
 | some m=>KU m OW
 | none=>OW
def KX (k : List UInt8) (OF : Qo) : Qo:=match Zf k OF with
 | some _=>KU k OF
 | none=>OF
section
variable {OW OF : Qo} {k f : List UInt8}
theorem Inv.drop (h : Inv OW OF) (n1 : (OW.map (·.1)).Nodup) (n2 : (OF.map (·.1)).Nodup) : Inv (Zbg k OW OF) (KX k OF):=by
 unfold Zbg KX
 cases hk : Zf k OF with
 | none=>exact h
 | some m=>
  have hm:=(h.inv k m).1 hk
  refine ⟨fun j v=>?_,?_,fun p hp=>h.lens p (List.mem_filter.1 hp).1⟩
  ·by_cases hj : j=k
   ·subst hj
    rw [ZaH]
    constructor
    ·intro e;cases e
    ·intro e
     by_cases hv : v=m
     ·subst hv;rw [ZaH] at e;cases e
     ·rw [YO hv,← h.inv] at e
      rw [hk] at e
      exact absurd (Option.some.inj e).symm hv
   ·rw [YO hj]
    by_cases hv : v=m
    ·subst hv
     rw [ZaH,h.inv,hm]
     constructor
     ·intro e;exact absurd (Option.some.inj e).symm hj
     ·intro e;cases e
    ·rw [YO hv,h.inv]
  ·rw [Zrt n1 (by rw [hm];rfl),Zrt n2 (by rw [hk];rfl),h.same]
theorem Inv.put (h : Inv OW OF) (h1 : Zf f OW=none) (h2 : Zf k OF=none) (hk : k≠[]∧k.length≤12) (hf : f≠[]∧f.length≤20) : Inv (Qt f k OW) (Qt k f OF):=by
 refine ⟨fun j v=>?_,?_,fun p hp=>?_⟩
 ·by_cases hj : j=k
  ·subst hj
   rw [KB]
   by_cases hv : v=f
   ·subst hv;rw [KB];simp
   ·rw [Yo hv,← h.inv,h2]
    constructor
    ·intro e;exact absurd (Option.some.inj e).symm hv
    ·intro e;cases e
  ·rw [Yo hj]
   by_cases hv : v=f
   ·subst hv
    rw [KB,h.inv,h1]
    constructor
    ·intro e;cases e
    ·intro e;exact absurd (Option.some.inj e).symm hj
   ·rw [Yo hv,h.inv]
 ·rw [ZdN,ZdN,h1,h2,h.same]
 ·unfold Qt at hp
  rw [h2] at hp
  simp only [Option.isSome_none,Bool.false_eq_true,if_false,List.mem_append,List.mem_singleton] at hp
  rcases hp with hp | rfl
  ·exact h.lens p hp
  ·exact ⟨hk.1,hk.2,hf.1,hf.2⟩
theorem Ze6 : Zf k (KX k OF)=none:=by
 unfold KX
 cases hk : Zf k OF with
 | none=>exact hk
 | some m=>exact ZaH
theorem ZtB (h : Inv OW OF) (hf : ∀ w,Zf f OW=some w→w=k) : Zf f (Zbg k OW OF)=none:=by
 unfold Zbg
 cases hk : Zf k OF with
 | none=>
  cases ho : Zf f OW with
  | none=>rfl
  | some w=>
   have:=hf w ho
   subst this
   rw [← h.inv,hk] at ho
   cases ho
 | some m=>
  by_cases hm : f=m
  ·subst hm;exact ZaH
  ·simp only
   rw [YO hm]
   cases ho : Zf f OW with
   | none=>rfl
   | some w=>
    have:=hf w ho
    subst this
    rw [← h.inv,hk] at ho
    exact absurd (Option.some.inj ho).symm hm
theorem ZhI {j : List UInt8} (hj : j≠k) : Zf j (KX k OF)=Zf j OF:=by
 unfold KX
 cases hk : Zf k OF with
 | none=>rfl
 | some m=>exact YO hj
def Zat (k m : List UInt8) (OW : Qo) : Int:=
 if Zy k then (if m=[] then 0 else if ZaU m then (match Zf (Ji m) OW with
  | some w=>if w=k then 0 else 9
  | none=>0) else 11) else 10
def Zwm (k m : List UInt8) (OW OF : Qo) : Qo:=if Zat k m OW=0 then (if m=[] then Zbg k OW OF else Qt (Ji m) k (Zbg k OW OF)) else OW
def ZhG (k m : List UInt8) (OW OF : Qo) : Qo:=if Zat k m OW=0 then (if m=[] then KX k OF else Qt k (Ji m) (KX k OF)) else OF
theorem ZxN (h : Zy k=true) : k≠[]∧k.length≤12:=by
 refine ⟨?_,Kq h⟩
 rintro rfl
 revert h;decide
theorem ZgQ {m : List UInt8} (h : ZaU m=true) : Ji m≠[]∧(Ji m).length≤20:=by
 unfold ZaU at h
 simp only [Bool.and_eq_true,decide_eq_true_eq] at h
 refine ⟨fun e=>?_,by rw [Zo3];exact h.1⟩
 have h2:=h.2
 rw [e] at h2
 revert h2;decide
end
structure Idx (X : Zd) (x o a : Nat) (OW OF : Qo) : Prop where
 c : X[x]?=some (.cells [.map (some o),.map (some a)] 1 false false)
 ow : WQ strv X o OW
 of : WQ strv X a OF
 ne : o≠a
 inv : Inv OW OF
section
variable {X X' : Zd} {n x o a : Nat} {OW OF : Qo} {k m : List UInt8}
theorem Idx.not (h : Idx X x o a OW OF) : x≠o∧x≠a:=by
 constructor
 ·rintro rfl
  obtain ⟨es,clk,_,h2,_⟩:=h.ow.ex
  rw [h.c] at h2;cases h2
 ·rintro rfl
  obtain ⟨es,clk,_,h2,_⟩:=h.of.ex
  rw [h.c] at h2;cases h2
theorem Idx.hle (h : Idx X x o a OW OF) (hl : HLe X X') : Idx X' x o a OW OF:=⟨hl _ _ h.c,h.ow.hle hl,h.of.hle hl,h.ne,h.inv⟩
theorem Idx.lt (h : Idx X x o a OW OF) : x < X.length∧o < X.length∧a < X.length:=⟨JS h.c,h.ow.lt,h.of.lt⟩
theorem Idx.step {o1 o2 : List Nat} (h : Idx X x o a OW OF) (hs : Zr o1 X o2 X') (h1 : x∉o1) (h2 : o∉o1) (h3 : a∉o1) : Idx X' x o a OW OF:=
 ⟨hs.get h.c h1,h.ow.step hs h2,h.of.step hs h3,h.ne,h.inv⟩
theorem Idx.l0 (h : Idx X x o a OW OF) : ld1 (pa x 0) X=some (.map (some o),X):=Qe h.c rfl
theorem Idx.l1 (h : Idx X x o a OW OF) : ld1 (pa x 1) X=some (.map (some a),X):=Qe h.c rfl
theorem ZvR {id : Nat} {mm : Qo} (h : JB strv X id mm) : lkp .str (.string ⟨#[]⟩) true (.map (some id)) (strv k) X=some (.tuple #[strv ((Zf k mm).getD []),.bool (Zf k mm).isSome],X):=by
 rw [h.lkp]
 cases Zf k mm <;> rfl
theorem Zr.mono2 {o1 o2 : List Nat} (h : Zr o1 X o1 X') (hs : ∀ j∈o1,j∈o2) : Zr o2 X o2 X':=h.more hs (fun j hj=>.inl hj)
theorem Zyk : ∃ X' x o a,R (n+1) Zgl [] X=some (pt x,X')∧Idx X' x o a [] []∧HLe X X'∧X.length≤x∧X.length≤o∧X.length≤a:=by
 obtain ⟨X1,e1,g1,l1,n1⟩:=ZwZ (α:=List UInt8) (enc:=strv) X
 obtain ⟨X2,e2,g2,l2,n2⟩:=ZwZ (α:=List UInt8) (enc:=strv) X1
 have e3 : bld (.agg #[.map none,.map none]) [(0,1,.map (some X.length)),(1,1,.map (some X1.length))] X2=some (.agg #[.map (some X.length),.map (some X1.length)],X2):=by simp [↓ZR,ZS,↓Qu,Z7,Z9,Z8,↓Zb,JG,Zl,J7,Qc,Jm,Qi,Jn,Jc,QC,Jo,QD,QJ,QK,QM,Qj,Zn,ZU,Ys,Ye,Q3,QP,JM,ZC,QI,Jy,JH,Jx,ZG,Zo,Zk,Jj,ZT,Qp,JD,JL,Ja,JI,↓YI,JJ,↓g_r,Yw,Yx,WE,splice,Value.cells]
 have e4 : alc 1 (.agg #[.map (some X.length),.map (some X1.length)]) X2=some (pt X2.length,X2++[.cells [.map (some X.length),.map (some X1.length)] 1 false false]):=by
  rw [QJ];simp [Value.cells,oneCell]
 refine ⟨X2++[.cells [.map (some X.length),.map (some X1.length)] 1 false false],X2.length,X.length,X1.length,?_,⟨ZB,(g1.hle l2).hle (.app _ _),g2.hle (.app _ _),by omega,⟨fun k v=>by simp [Zf],rfl,by simp⟩⟩,(l1.trans l2).trans (.app _ _),by omega,Nat.le_refl _,by omega⟩
 rw [R,ZsK rfl]
 unfold Zi3
 rw [Za e1,Za e2,Za e3,Za e4]
 rfl
theorem ZoS (h : Idx X x o a OW OF) : ∃ X',R (n+1) JP [pt x,strv k] X=some (.bool (Zf k OF).isSome,X')∧Idx X' x o a (Zbg k OW OF) (KX k OF)∧Zr [o,a] X [o,a] X':=by
 have e1:=ZvR (k:=k) h.of.g
 have f1 : ∀ r X',WZ (R n) (pt x) (strv k) X=some (r,X')→R (n+1) JP [pt x,strv k] X=some (r,X'):=fun r X' hr=>by rw [R,ZkI rfl];exact hr
 cases hk : Zf k OF with
 | none=>
  rw [hk] at e1
  simp only [Option.isSome_none,Option.getD_none] at e1 ⊢
  have hi : Idx X x o a (Zbg k OW OF) (KX k OF):=by unfold Zbg KX;rw [hk];exact h
  refine ⟨X,f1 _ _ ?_,hi,.refl _ _⟩
  unfold WZ
  rw [Za Zl,Za Zj,Za h.l1,Za e1,Za ZA,Za Zz]
  refine (QZ (vs:=[.bool false]) (H':=X) ?_).trans rfl
  rw [Zb,if_neg (by simp)]
  rfl
 | some mm=>
  rw [hk] at e1
  simp only [Option.isSome_some,Option.getD_some] at e1 ⊢
  obtain ⟨X1,e2,m2,s2,_⟩:=h.ow.mde (k:=mm)
  have of1:=h.of.step s2 (by simp [Ne.symm h.ne])
  have c1:=s2.get h.c (by simp [h.not.1])
  obtain ⟨X2,e3,m3,s3,_⟩:=of1.mde (k:=k)
  have s12:=(s2.mono2 (o2:=[o,a]) (by simp)).trans (s3.mono2 (o2:=[o,a]) (by simp))
  have hinv:=h.inv.drop (k:=k) h.ow.nod h.of.nod
  have hi : Idx X2 x o a (Zbg k OW OF) (KX k OF):=by
   unfold Zbg KX at hinv ⊢
   rw [hk] at hinv ⊢
   exact ⟨s3.get c1 (by simp [h.not.2]),m2.step s3 (by simp [h.ne]),m3,h.ne,hinv⟩
  refine ⟨X2,f1 _ _ ?_,hi,s12⟩
  have l0' : ld1 (pa x 0) X=some (.map (some o),X):=h.l0
  have l1' : ld1 (pa x 1) X1=some (.map (some a),X1):=Qe c1 rfl
  unfold WZ
  rw [Za Zl,Za Zj,Za h.l1,Za e1,Za ZA,Za Zz]
  refine (QZ (vs:=[.bool true]) (H':=X2) ?_).trans rfl
  rw [Zb,if_pos rfl,Za Zl,Za Zj,Za l0']
  refine (Za e2).trans ?_
  rw [Za Zl,Za Zj,Za l1',Za e3]
  rfl
theorem ZwD {f : List UInt8} (h : Idx X x o a OW OF) (h1 : Zf f OW=none) (h2 : Zf k OF=none) (hk : k≠[]∧k.length≤12) (hf : f≠[]∧f.length≤20) :
  ∃ X',(∀ K : M Value,bind (men .str (.string ⟨#[]⟩) (.map (some o)) (strv f)) (fun v60=>bind (Zq v60 1) fun v61=>bind (ens (.map (some o)) v61 (strv k)) fun _=>bind (men .str (.string ⟨#[]⟩) (.map (some a)) (strv k)) fun v62=>bind (Zq v62 1) fun v63=>bind (ens (.map (some a)) v63 (strv f)) fun _=>K) X=K X')∧Idx X' x o a (Qt f k OW) (Qt k f OF)∧Zr [o,a] X [o,a] X':=by
 obtain ⟨t1,st1,Y1,Y2,e1,e2,e3,m1,_,s1,_⟩:=h.ow.put (k:=f) (v:=k) (z:=.string ⟨#[]⟩)
 have of1:=h.of.step s1 (by simp [Ne.symm h.ne])
 have c1:=s1.get h.c (by simp [h.not.1])
 obtain ⟨t2,st2,Z1,Z2,e4,e5,e6,m2,_,s2,_⟩:=of1.put (k:=k) (v:=f) (z:=.string ⟨#[]⟩)
 refine ⟨Z2,fun K=>?_,⟨s2.get c1 (by simp [h.not.2]),m1.step s2 (by simp [h.ne]),m2,h.ne,h.inv.put h1 h2 hk hf⟩,(s1.mono2 (o2:=[o,a]) (by simp)).trans (s2.mono2 (o2:=[o,a]) (by simp))⟩
 rw [Za e1,Za e2,Za e3,Za e4,Za e5,Za e6]
theorem Zy1 (h : Idx X x o a OW OF) : ∃ X',R (n+9) Kf [pt x,strv k,strv m] X=some (iv (Zat k m OW),X')∧Idx X' x o a (Zwm k m OW OF) (ZhG k m OW OF)∧Zr [o,a] X [o,a] X':=by
 have f1 : ∀ r X',Kc (R (n+8)) (pt x) (strv k) (strv m) X=some (r,X')→R (n+9) Kf [pt x,strv k,strv m] X=some (r,X'):=fun r X' hr=>by rw [R,Zmd rfl];exact hr
 have e1 : R (n+8) QW [strv k] X=some (iv (ZF k),X):=ZcK (n:=n+3)
 have q1 : bop .str .eql (strv m) (.string ⟨#[]⟩) X=some (.bool (m==[]),X):=Zgq (b:=[])
 unfold Zat Zwm ZhG Zat
 cases hn : Zy k
 ·have he : ZF k=10:=by unfold ZF;rw [hn];rfl
  refine ⟨X,f1 _ _ ?_,by simpa using h,.refl _ _⟩
  unfold Kc
  rw [Za e1,he,Za Zo,Zb,if_pos (by rfl)]
  rfl
 ·have he : ZF k=0:=Zbz.2 hn
  by_cases hm0 : m=[]
  ·obtain ⟨X1,e2,i2,s2⟩:=ZoS (n:=n+7) (k:=k) h
   have e2 : R (n+8) JP [pt x,strv k] X=_:=e2
   refine ⟨X1,f1 _ _ ?_,by simpa [hm0] using i2,s2⟩
   unfold Kc
   rw [Za e1,he,Za Zo,Zb,if_neg (by decide),Za q1,Zb,if_pos (by simp [hm0]),Za e2]
   simp [hm0,ret]
  ·obtain ⟨X1,e2,k2⟩:=Zuy (n:=n) (s:=m) (X:=X)
   have h1:=h.hle k2
   have ks:=k2.step.more (o2:=[o,a]) (o2':=[o,a]) (by simp) (fun j hj=>.inl hj)
   cases hmb : ZaU m
   ·rw [hmb] at e2
    refine ⟨X1,f1 _ _ ?_,by simpa [hm0] using h1,ks⟩
    unfold Kc
    rw [Za e1,he,Za Zo,Zb,if_neg (by decide),Za q1,Zb,if_neg (by simpa using hm0),Za e2,Za ZA,Za Zz]
    have q3 : bop .int .neq (iv (if false=true then 0 else 11)) (.int .i64 0) X1=some (.bool true,X1):=by rw [Zo];rfl
    rw [Za q3,Zb,if_pos rfl]
    simp [hm0,ret]
   ·rw [hmb] at e2
    simp only [if_true] at e2
    have e3:=ZvR (k:=Ji m) h1.ow.g
    have hfm:=ZgQ hmb
    have hkn:=ZxN hn
    have q3 : bop .int .neq (iv 0) (.int .i64 0) X1=some (.bool false,X1):=by rw [Zo];rfl
    simp only [if_true,if_neg hm0]
    have hgo : (∀ w,Zf (Ji m) OW=some w→w=k)→∃ X',R (n+9) Kf [pt x,strv k,strv m] X=some (iv 0,X')∧Idx X' x o a (Qt (Ji m) k (Zbg k OW OF)) (Qt k (Ji m) (KX k OF))∧Zr [o,a] X [o,a] X':=fun hw=>by
     obtain ⟨X2,e4,i4,s4⟩:=ZoS (n:=n+7) (k:=k) h1
     have e4 : R (n+8) JP [pt x,strv k] X1=_:=e4
     obtain ⟨X3,e5,i5,s5⟩:=ZwD (k:=k) (f:=Ji m) i4 (ZtB h.inv hw) Ze6 hkn hfm
     refine ⟨X3,f1 _ _ ?_,i5,(ks.trans s4).trans s5⟩
     unfold Kc
     rw [Za e1,he,Za Zo,Zb,if_neg (by decide),Za q1,Zb,if_neg (by simpa using hm0),Za e2,Za ZA,Za Zz,Za q3,Zb,if_neg (by simp),Za Zl,Za Zj,Za h1.l0,Za e3,Za ZA,Za Zz]
     cases ho : Zf (Ji m) OW with
     | none=>
      simp only [Option.isSome_none]
      rw [Za (g_r.trans (if_neg (by simp)))]
      simp only [List.replicate]
      rw [Z4,Za Zn]
      simp only [cond_false]
      rw [Zb,if_neg (by simp),Za e4,Za Zl,Za Zj,Za i4.l0,Za Zl,Za Zj,Za i4.l1]
      exact e5 _
     | some w=>
      have:=hw w ho
      subst this
      have q4 : bop .str .neq (strv w) (strv w) X1=some (.bool false,X1):=by rw [Ze7];simp
      simp only [Option.isSome_some,Option.getD_some]
      rw [Qq,Zs,Za q4,Qz,Z4,Za Zn]
      simp only [cond_true]
      rw [Zb,if_neg (by simp),Za e4,Za Zl,Za Zj,Za i4.l0,Za Zl,Za Zj,Za i4.l1]
      exact e5 _
    cases ho : Zf (Ji m) OW with
    | none=>simpa using hgo (fun w hw=>by rw [ho] at hw;cases hw)
    | some w=>
     by_cases hw : w=k
     ·simpa [hw] using hgo (fun w' hw'=>by rw [ho] at hw';cases hw';exact hw)
     ·simp only [if_neg hw]
      refine ⟨X1,f1 _ _ ?_,by simpa using h1,ks⟩
      have q4 : bop .str .neq (strv w) (strv k) X1=some (.bool true,X1):=by rw [Ze7,beq_eq_false_iff_ne.2 hw];rfl
      rw [ho] at e3
      simp only [Option.isSome_some,Option.getD_some] at e3
      unfold Kc
      rw [Za e1,he,Za Zo,Zb,if_neg (by decide),Za q1,Zb,if_neg (by simpa using hm0),Za e2,Za ZA,Za Zz,Za q3,Zb,if_neg (by simp),Za Zl,Za Zj,Za h1.l0,Za e3,Za ZA,Za Zz,Qq,Zs,Za q4,Qz,Z4,Za Zn]
      simp only [cond_true]
      rw [Zb,if_pos rfl]
      rfl
theorem Zzb (h : Idx X x o a OW OF) : R (n+1) ZaZ [pt x,strv k] X=some (.tuple #[strv ((Zf k OF).getD []),.bool (Zf k OF).isSome],X):=by
 have e1:=ZvR (k:=k) h.of.g
 rw [R,ZmK rfl]
 unfold ZeE
 rw [Za Zl,Za Zj,Za h.l1,Za e1,Za ZA,Za Zz]
 rfl
end
end Go.Proofs.YtedkoimihknggaaGreatDoor.A
namespace Go.Proofs.YtedkoimihknggaaGreatDoor.A
set_option linter.unusedVariables false
set_option linter.unusedSimpArgs false
open Go.Proofs Go.Proofs.YtedkoimihknggaaGreatDoor
section
variable {H X X' : Zd} {n x o a : Nat} {OW OF : Qo} {k m : List UInt8}
end
end Go.Proofs.YtedkoimihknggaaGreatDoor.A
namespace Go.Proofs.YtedkoimihknggaaGreatDoor.A
set_option linter.unusedVariables false
set_option linter.unusedSimpArgs false
open Go.Proofs Go.Proofs.YtedkoimihknggaaGreatDoor
section
variable {n : Nat}
variable {X : Zd} {x o a : Nat} {OW OF : Qo}
end
end Go.Proofs.YtedkoimihknggaaGreatDoor.A

namespace Go.Proofs.YtedkoimihknggaaGreatDoor.A
set_option linter.unusedVariables false
set_option linter.unusedSimpArgs false
open Go.Proofs Go.Proofs.YtedkoimihknggaaGreatDoor
abbrev Acc:=Tx × Bool
def Zac (p : Acc) : Value:=.agg #[strv p.1,.bool p.2]
abbrev AMp:=List (Tx × Acc)
structure NSt where
 A : AMp
 OW : Qo
 OF : Qo
 K : List Tx
 mem : Mem
structure YP (s : NSt) : Prop where
 nm : ∀ p∈s.A,Zy p.1=true∧YD p.2.1=true
 few : s.A.length≤12
 ofA : ∀ n,(Zf n s.OF).isSome=true→(Zf n s.A).isSome=true
 memA : ∀ k n,s.mem k n=true→(Zf n s.A).isSome=true
 good : ∀ n m,Zf n s.OF=some m→ZaU m=true∧Ji m=m
structure NR where
 b : Nat
 x : Nat
 o : Nat
 a : Nat
 g : Nat
 o2 : Nat
 G : Zg7
def NR.own (r : NR) : List Nat:=r.b :: r.o :: r.a :: JZ r.o2 r.G
structure ND0 (X : Zd) (d : Nat) (r : NR) (s : NSt) (c : Nat) : Prop where
 cell : X[d]?=some (.cells [.map (some r.b),pt r.x,pt r.g] 1 false false)
 m : JB Zac X r.b s.A
 ix : Idx X r.x r.o r.a s.OW s.OF
 gr : Grp X r.g r.o2 r.G s.mem c
 ks : Qy r.G=s.K
 dis : r.b≠r.o∧r.b≠r.a∧r.b∉JZ r.o2 r.G∧r.o∉JZ r.o2 r.G∧r.a∉JZ r.o2 r.G
structure ND (X : Zd) (d : Nat) (r : NR) (s : NSt) (c : Nat) : Prop extends ND0 X d r s c where
 inv : YP s
def Yt (s : NSt) (n : Tx) (p : Acc) : Wv:=(n,p.1,(Zf n s.OF).getD [],p.2,ofL n s.K s.mem)
def Jp (s : NSt) (n : Tx) : Option Wv:=(Zf n s.A).map (Yt s n)
def Qw (n : Tx) (A : AMp) : Int:=if Zy n then (if (Zf n A).isSome then 0 else 8) else 10
theorem ZyZ {n : Tx} {A : AMp} (h : Qw n A=0) : Zy n=true∧∃ p,Zf n A=some p:=by
 unfold Qw at h
 cases hn : Zy n
 ·rw [hn] at h;simp at h
 ·rw [hn] at h
  cases ha : Zf n A with
  | none=>rw [ha] at h;simp at h
  | some p=>exact ⟨rfl,p,rfl⟩
section
variable {X X' : Zd} {n d c : Nat} {r : NR} {s : NSt} {k : Tx}
theorem JB.isMap {α : Type} {enc : α→Value} {id : Nat} {mm : List (Tx × α)} (hm : JB enc X id mm) : id < X.length∧∀ cs es gr ro,X[id]?≠some (.cells cs es gr ro):=⟨hm.lt,fun cs es gr ro e=>by
 obtain ⟨es',_,h1 | h1⟩:=hm.ex
 ·obtain ⟨clk,h1,_⟩:=h1;rw [e] at h1;cases h1
 ·rw [e] at h1;cases h1⟩
theorem ND0.isMap (h : ND0 X d r s c) {j : Nat} (hj : j∈r.own) : j < X.length∧∀ cs es gr ro,X[j]?≠some (.cells cs es gr ro):=by
 unfold NR.own at hj
 rcases List.mem_cons.1 hj with rfl | hj
 ·exact h.m.isMap
 ·rcases List.mem_cons.1 hj with rfl | hj
  ·exact h.ix.ow.g.isMap
  ·rcases List.mem_cons.1 hj with rfl | hj
   ·exact h.ix.of.g.isMap
   ·exact h.gr.isMap hj
theorem ND0.dnot (h : ND0 X d r s c) : d∉r.own:=fun hj=>(h.isMap hj).2 _ _ _ _ h.cell
theorem ND0.xnot (h : ND0 X d r s c) : r.x∉r.own:=fun hj=>(h.isMap hj).2 _ _ _ _ h.ix.c
theorem ND0.gnot (h : ND0 X d r s c) : r.g∉r.own:=fun hj=>(h.isMap hj).2 _ _ _ _ h.gr.cell
theorem ND0.step {o1 o2 : List Nat} (h : ND0 X d r s c) (hs : Zr o1 X o2 X') (hd : d∉o1) (hx : r.x∉o1) (hg : r.g∉o1) (ho : ∀ j∈r.own,j∉o1) : ND0 X' d r s c:=
 ⟨hs.get h.cell hd,h.m.step hs (ho _ (by simp [NR.own])),h.ix.step hs hx (ho _ (by simp [NR.own])) (ho _ (by simp [NR.own])),h.gr.step hs hg (fun j hj=>ho j (by
  unfold NR.own
  exact List.mem_cons_of_mem _ (List.mem_cons_of_mem _ (List.mem_cons_of_mem _ hj)))),h.ks,h.dis⟩
theorem ND0.hle (h : ND0 X d r s c) (hl : HLe X X') : ND0 X' d r s c:=h.step hl.step (by simp) (by simp) (by simp) (by simp)
theorem ND0.l0 (h : ND0 X d r s c) : ld1 (pa d 0) X=some (.map (some r.b),X):=Qe h.cell rfl
theorem ND0.l1 (h : ND0 X d r s c) : ld1 (pa d 1) X=some (pt r.x,X):=Qe h.cell rfl
theorem ND0.l2 (h : ND0 X d r s c) : ld1 (pa d 2) X=some (pt r.g,X):=Qe h.cell rfl
theorem ND.step {o1 o2 : List Nat} (h : ND X d r s c) (hs : Zr o1 X o2 X') (hd : d∉o1) (hx : r.x∉o1) (hg : r.g∉o1) (ho : ∀ j∈r.own,j∉o1) : ND X' d r s c:=⟨h.toND0.step hs hd hx hg ho,h.inv⟩
theorem ND.hle (h : ND X d r s c) (hl : HLe X X') : ND X' d r s c:=⟨h.toND0.hle hl,h.inv⟩
def CLe (X X' : Zd) : Prop:=∀ (i : Nat) (cs : List Value) (es : Nat) (g ro : Bool),X[i]?=some (Zg.cells cs es g ro)→X'[i]?=some (Zg.cells cs es g ro)
theorem CLe.trans {Y : Zd} (h : CLe X X') (h' : CLe X' Y) : CLe X Y:=fun i cs es g ro hi=>h' i _ _ _ _ (h i _ _ _ _ hi)
theorem Zr.cle {o1 o2 : List Nat} (hs : Zr o1 X o2 X') (hm : ∀ j∈o1,∀ cs es g ro,X[j]?≠some (Zg.cells cs es g ro)) : CLe X X':=fun i cs es g ro hi=>hs.get hi fun hj=>hm i hj _ _ _ _ hi
theorem ND0.cle {o2 : List Nat} (h : ND0 X d r s c) (hs : Zr r.own X o2 X') : CLe X X':=hs.cle fun j hj=>(h.isMap hj).2
theorem Sl.cle {sl : Value} {vs : List Value} (h : Sl X sl vs) (hc : CLe X X') : Sl X' sl vs:=by
 obtain ⟨a,c,rfl,h0,h⟩:=h
 refine ⟨a,c,rfl,h0,?_⟩
 unfold Qr at h ⊢
 split at h
 ·exact h
 ·rename_i id o n x _
  split at h
  ·rename_i cs es g ro hid
   simp only [hc _ _ _ _ _ hid];exact h
  ·cases h
 ·exact h
 ·rename_i e;cases e
 ·cases h
theorem ZzH {k : Tx} {t : Bool} {H : Zd} : bld (.agg #[.string ⟨#[]⟩,.bool false]) [(0,1,strv k),(1,1,.bool t)] H=some (Zac (k,t),H):=by
 simp [bld,WE,Value.cells,Yx,strv,splice,Zac]
theorem Zx6 (X : Zd) : YP ⟨[],[],[],[],fun _ _=>false⟩:=⟨by simp,by simp,by simp [Zf],by simp,by simp [Zf]⟩
theorem ZyN : ∃ X' d r,R (n+2) ZaP [] X=some (pt d,X')∧ND X' d r ⟨[],[],[],[],fun _ _=>false⟩ 0∧HLe X X'∧X.length≤d∧∀ j∈r.own,X.length≤j:=by
 obtain ⟨X1,e1,m1,k1⟩:=Zp6 (α:=Acc) (enc:=Zac) X
 have hl1 : X.length < X1.length:=m1.lt
 obtain ⟨X2,x,o,a,e2,i2,k2,o21,o22,o23⟩:=Zyk (n:=n) (X:=X1)
 obtain ⟨X3,g,o2,e3,g3,k3,o31,o32⟩:=ZyO (n:=n) (X:=X2)
 have hi:=i2.lt
 have e4 : bld (.agg #[.map none,.pointer none,.pointer none]) [(0,1,.map (some X.length)),(1,1,pt x),(2,1,pt g)] X3=some (.agg #[.map (some X.length),pt x,pt g],X3):=by
  simp [bld,WE,Value.cells,Yx,splice]
 have e5 : alc 1 (.agg #[.map (some X.length),pt x,pt g]) X3=some (pt X3.length,X3++[.cells [.map (some X.length),pt x,pt g] 1 false false]):=Zd0 (vs:=[.map (some X.length),pt x,pt g]) rfl
 have k4 : HLe X3 (X3++[Zg.cells [.map (some X.length),pt x,pt g] 1 false false]):=.app _ _
 refine ⟨_,X3.length,⟨X.length,x,o,a,g,o2,[]⟩,?_,⟨⟨ZB,((m1.hle k2).hle k3).hle k4,(i2.hle k3).hle k4,g3.hle k4,rfl,⟨by simp only;omega,by simp only;omega,?_,?_,?_⟩⟩,Zx6 X⟩,((k1.trans k2).trans k3).trans k4,?_,?_⟩
 ·rw [R,ZqR rfl]
  unfold Zhy
  rw [Za e1,Za e2,Za e3,Za e4,Za e5]
  rfl
 ·simp only [JZ,List.map_nil,List.mem_singleton]
  have:=k2.len;omega
 ·simp only [JZ,List.map_nil,List.mem_singleton]
  omega
 ·simp only [JZ,List.map_nil,List.mem_singleton]
  omega
 ·have:=k1.len;have:=k2.len;have:=k3.len;omega
 ·intro j hj
  have:=k1.len;have:=k2.len
  simp only [NR.own,JZ,List.map_nil,List.mem_cons,List.not_mem_nil,or_false] at hj
  omega
theorem ZsW (h : ND X d r s c) : ∃ X',R (n+6) J4 [pt d,strv k] X=some (.tuple #[Zac (if Zy k then (Zf k s.A).getD ([],false) else ([],false)),iv (Qw k s.A)],X')∧HLe X X':=by
 have one : ∀ p : Acc,([strv p.1,.bool p.2] : List Value).all oneCell=true:=fun _=>rfl
 have z1 : alc 1 (.agg #[.string ⟨#[]⟩,.bool false]) X=some (pt X.length,X++[.cells [strv [],.bool false] 1 false false]):=Zd0 (vs:=[strv [],.bool false]) rfl
 have k1 : HLe X (X++[Zg.cells [strv [],.bool false] 1 false false]):=.app _ _
 have c1 : (X++[Zg.cells [strv [],.bool false] 1 false false])[X.length]?=some (.cells [strv [],.bool false] 1 false false):=ZB
 have ll1 : X.length < (X++[Zg.cells [strv [],.bool false] 1 false false]).length:=by simp
 generalize X++[Zg.cells [strv [],.bool false] 1 false false]=X1 at z1 k1 c1 ll1
 have h1:=h.hle k1
 have e1 : R (n+5) QW [strv k] X1=_:=ZcK
 have f1 : ∀ v X',Wl (R (n+5)) (pt d) (strv k) X=some (v,X')→R (n+6) J4 [pt d,strv k] X=some (v,X'):=fun v X' hr=>by rw [R,Zl0 rfl];exact hr
 have fin : ∀ (p : Acc) (Y : Zd) (K : Value→M Value),Y[X.length]?=some (.cells [strv [],.bool false] 1 false false)→bind (stA 2 (pt X.length) (Zac p)) (fun _=>bind (ldA 2 (pt X.length)) K) Y=K (Zac p) (Y.set X.length (.cells [strv p.1,.bool p.2] 1 false false)):=fun p Y K hY=>by
  have w:=Zb5 (vs:=[strv p.1,.bool p.2]) (n:=2) hY rfl rfl rfl
  have w : stA 2 (pt X.length) (Zac p) Y=_:=w
  have l : ldA 2 (pt X.length) (Y.set X.length (.cells [strv p.1,.bool p.2] 1 false false))=some (Zac p,_):=Jz (n:=2) (Qv hY) rfl
  rw [Za w,Za l]
 have put : ∀ {Y : Zd} {o : Zg},HLe X Y→HLe X (Y.set X.length o):=fun hl i v hi=>by
  have:=JS hi
  rw [List.getElem?_set_ne (by omega)]
  exact hl i v hi
 cases hnm : Zy k
 ·have he : Qw k s.A=10:=by unfold Qw;rw [hnm];rfl
  have q1 : bop .int .neq (iv (ZF k)) (.int .i64 0) X1=some (.bool true,X1):=by rw [Zo];unfold ZF;rw [hnm];rfl
  have zb : bld (.agg #[.string ⟨#[]⟩,.bool false]) [] X1=some (Zac ([],false),X1):=rfl
  rw [he]
  refine ⟨X1.set X.length (.cells [strv [],.bool false] 1 false false),f1 _ _ ?_,put k1⟩
  unfold Wl
  rw [Za z1,Za e1,Za q1,Zb,if_pos rfl,Za zb]
  refine (fin _ _ _ c1).trans ?_
  rw [show ZF k=10 by unfold ZF;rw [hnm];rfl]
  rfl
 ·have q1 : bop .int .neq (iv (ZF k)) (.int .i64 0) X1=some (.bool false,X1):=by rw [Zo];unfold ZF;rw [hnm];rfl
  have e2 : lkp .str (.agg #[.string ⟨#[]⟩,.bool false]) true (.map (some r.b)) (strv k) X1=some (.tuple #[Zac ((Zf k s.A).getD ([],false)),.bool (Zf k s.A).isSome],X1):=by
   rw [h1.m.lkp]
   cases Zf k s.A <;> rfl
  generalize hv : (Zf k s.A).getD ([],false)=p at e2
  have z2 : ∀ K : Value→M Value,bind (alc 1 (.agg #[.string ⟨#[]⟩,.bool false])) (fun q=>bind (stA 2 q (Zac p)) fun _=>K q) X1=K (pt X1.length) (X1++[.cells [strv p.1,.bool p.2] 1 false false]):=fun K=>Zdo (n:=2) (zs:=[strv [],.bool false]) (r:=[strv p.1,.bool p.2]) rfl rfl rfl rfl
  have k2 : HLe X1 (X1++[Zg.cells [strv p.1,.bool p.2] 1 false false]):=.app _ _
  have c2 : (X1++[Zg.cells [strv p.1,.bool p.2] 1 false false])[X1.length]?=some (.cells [strv p.1,.bool p.2] 1 false false):=ZB
  have c12:=k2 _ _ c1
  generalize X1++[Zg.cells [strv p.1,.bool p.2] 1 false false]=X2 at z2 k2 c2 c12
  have d2 : ldA 2 (pt X1.length) X2=some (Zac p,X2):=Jz (n:=2) c2 rfl
  have zb : bld (.agg #[.string ⟨#[]⟩,.bool false]) [] X2=some (Zac ([],false),X2):=rfl
  cases hs : (Zf k s.A).isSome
  ·have he : Qw k s.A=8:=by unfold Qw;rw [hnm,hs];rfl
   have hp : p=([],false):=by
    rw [← hv]
    cases ha : Zf k s.A with
    | none=>rfl
    | some v=>rw [ha] at hs;cases hs
   rw [hs] at e2
   rw [he]
   refine ⟨X2.set X.length (.cells [strv [],.bool false] 1 false false),f1 _ _ ?_,put (k1.trans k2)⟩
   unfold Wl
   rw [Za z1,Za e1,Za q1,Zb,if_neg (by simp),Za Zl,Za Zj,Za h1.l0,Za e2,Za ZA,Za Zz,z2,Za ZU,Zb,if_pos (by rfl),Za zb]
   refine (fin _ _ _ c12).trans ?_
   rw [hp]
   rfl
  ·have he : Qw k s.A=0:=by unfold Qw;rw [hnm,hs];rfl
   rw [hs] at e2
   rw [he]
   refine ⟨X2.set X.length (.cells [strv p.1,.bool p.2] 1 false false),f1 _ _ ?_,put (k1.trans k2)⟩
   unfold Wl
   rw [Za z1,Za e1,Za q1,Zb,if_neg (by simp),Za Zl,Za Zj,Za h1.l0,Za e2,Za ZA,Za Zz,z2,Za ZU,Zb,if_neg (by simp),Za d2]
   exact fin _ _ _ c12
theorem Zo6 (h : ND X d r s c) : ∃ u q X',R (n+7) Y8 [pt d,strv k] X=some (.tuple #[.agg u.cells.toArray,iv (Qw k s.A)],X')∧Zw X' u.gv (u.gs.map strv) q∧(∀ j∈q,X.length≤j)∧HLe X X'∧u.gs.length≤6∧
  Jr u=if Qw k s.A=0 then Yt s k ((Zf k s.A).getD ([],false)) else ([],[],[],false,[]):=by
 have z1 : alc 1 (.agg #[.string ⟨#[]⟩,.string ⟨#[]⟩,.string ⟨#[]⟩,.bool false,.slice none 0 0]) X=some (pt X.length,X++[.cells (usr ([],[])) 1 false false]):=Zd0 (vs:=usr ([],[])) rfl
 have k1 : HLe X (X++[Zg.cells (usr ([],[])) 1 false false]):=.app _ _
 have c1 : (X++[Zg.cells (usr ([],[])) 1 false false])[X.length]?=some (.cells (usr ([],[])) 1 false false):=ZB
 generalize X++[Zg.cells (usr ([],[])) 1 false false]=X1 at z1 k1 c1
 obtain ⟨X2,e2,k2⟩:=ZsW (n:=n) (k:=k) (h.hle k1)
 have f1 : ∀ v X',Wy (R (n+6)) (pt d) (strv k) X=some (v,X')→R (n+7) Y8 [pt d,strv k] X=some (v,X'):=fun v X' hr=>by rw [R,Zjz rfl];exact hr
 generalize hp : (if Zy k then (Zf k s.A).getD ([],false) else ([],false))=p at e2
 have z2 : ∀ K : Value→M Value,bind (alc 1 (.agg #[.string ⟨#[]⟩,.bool false])) (fun q=>bind (stA 2 q (Zac p)) fun _=>K q) X2=K (pt X2.length) (X2++[.cells [strv p.1,.bool p.2] 1 false false]):=fun K=>Zdo (n:=2) (zs:=[strv [],.bool false]) (r:=[strv p.1,.bool p.2]) rfl rfl rfl rfl
 have k3 : HLe X2 (X2++[Zg.cells [strv p.1,.bool p.2] 1 false false]):=.app _ _
 have c3 : (X2++[Zg.cells [strv p.1,.bool p.2] 1 false false])[X2.length]?=some (.cells [strv p.1,.bool p.2] 1 false false):=ZB
 have hlx : X.length < X2.length:=by have:=JS c1;have:=k2.len;omega
 generalize X2++[Zg.cells [strv p.1,.bool p.2] 1 false false]=X3 at z2 k3 c3
 have c13:=k3 _ _ (k2 _ _ c1)
 have k13:=(k1.trans k2).trans k3
 have put : ∀ {Y : Zd} {o : Zg},HLe X Y→HLe X (Y.set X.length o):=fun hl i v hi=>by
  have:=JS hi
  rw [List.getElem?_set_ne (by omega)]
  exact hl i v hi
 by_cases he : Qw k s.A=0
 ·obtain ⟨hnm,q0,hq0⟩:=ZyZ he
  have hpq : p=q0:=by rw [← hp,hnm,hq0];rfl
  subst hpq
  have q1 : bop .int .neq (iv (Qw k s.A)) (.int .i64 0) X3=some (.bool false,X3):=by rw [Zo,he];rfl
  have h3:=h.hle k13
  have e4 : R (n+6) ZaZ [pt r.x,strv k] X3=_:=Zzb (n:=n+5) h3.ix
  have a0 : ∀ Y,HLe X3 Y→ld1 (pa X2.length 0) Y=some (strv p.1,Y):=fun Y hl=>Qe (hl _ _ c3) rfl
  have a1 : ∀ Y,HLe X3 Y→ld1 (pa X2.length 1) Y=some (.bool p.2,Y):=fun Y hl=>Qe (hl _ _ c3) rfl
  obtain ⟨gv,q,X4,e5,r5,k5,o5⟩:=Zw0 (n:=n+2) (m:=k) h3.gr
  have e5 : R (n+6) J8 [pt r.g,strv k] X3=_:=e5
  rw [h.ks] at r5
  have hfew : (ofL k s.K s.mem).length≤6:=by
   have h1:=Zkn (m:=k) (K:=s.K) (mem:=s.mem)
   have h2:=h.gr.few
   have h3 : s.K.length=r.G.length:=by rw [← h.ks];simp
   omega
  have hone:=r5.one
  have zb : bld (.agg #[.string ⟨#[]⟩,.string ⟨#[]⟩,.string ⟨#[]⟩,.bool false,.slice none 0 0]) [(0,1,strv k),(1,1,strv p.1),(2,1,strv ((Zf k s.OF).getD [])),(3,1,.bool p.2),(4,1,gv)] X4=some (.agg (Zm.cells ⟨k,p.1,(Zf k s.OF).getD [],p.2,gv,ofL k s.K s.mem⟩).toArray,X4):=by
   obtain ⟨ga,gn,gc,hgv⟩ : ∃ a n c,gv=.slice a n c:=by
    rcases r5 with ⟨_,_,h⟩ | ⟨_,_,_,h,_,_⟩
    ·exact ⟨_,_,_,h⟩
    ·exact ⟨_,_,_,h⟩
   rw [hgv]
   simp [bld,WE,Value.cells,Yx,strv,splice,Zm.cells]
  have c14:=k5 _ _ c13
  have w4:=Zb5 (vs:=Zm.cells ⟨k,p.1,(Zf k s.OF).getD [],p.2,gv,ofL k s.K s.mem⟩) (n:=5) c14 rfl rfl (by simp only [Zm.cells,List.all_cons,hone.1];rfl)
  have d4 : ldA 5 (pt X.length) (X4.set X.length (.cells (Zm.cells ⟨k,p.1,(Zf k s.OF).getD [],p.2,gv,ofL k s.K s.mem⟩) 1 false false))=some (.agg (Zm.cells ⟨k,p.1,(Zf k s.OF).getD [],p.2,gv,ofL k s.K s.mem⟩).toArray,_):=Jz (n:=5) (Qv c14) rfl
  refine ⟨⟨k,p.1,(Zf k s.OF).getD [],p.2,gv,ofL k s.K s.mem⟩,q,X4.set X.length (.cells (Zm.cells ⟨k,p.1,(Zf k s.OF).getD [],p.2,gv,ofL k s.K s.mem⟩) 1 false false),f1 _ _ ?_,r5.keep fun j hj=>List.getElem?_set_ne (fun e=>?_),fun j hj=>Nat.le_trans k13.len (o5 j hj),put (k13.trans k5),hfew,?_⟩
  ·unfold Wy
   rw [Za z1,Za e2,Za ZA,Za Zz,z2,Za q1,Zb,if_neg (by simp),Za Zl,Za Zj,Za h3.l1,Za e4,Za ZA,Za Zz,Za Zj,Za (a0 _ (.refl _)),Za Zj,Za (a1 _ (.refl _)),Za Zl,Za Zj,Za h3.l2,Za e5,Za (a1 _ k5),Jd,Za (a0 _ k5),Jd,Za zb,Za w4,Za d4,he]
   rfl
  ·have:=o5 j hj
   have:=JS c13
   omega
  ·rw [if_pos he,hq0]
   rfl
 ·have q1 : bop .int .neq (iv (Qw k s.A)) (.int .i64 0) X3=some (.bool true,X3):=by rw [Zo];simp [he]
  have zb : bld (.agg #[.string ⟨#[]⟩,.string ⟨#[]⟩,.string ⟨#[]⟩,.bool false,.slice none 0 0]) [] X3=some (.agg (usr ([],[])).toArray,X3):=rfl
  have w3:=Zb5 (vs:=usr ([],[])) (n:=5) c13 rfl rfl rfl
  have d3 : ldA 5 (pt X.length) (X3.set X.length (.cells (usr ([],[])) 1 false false))=some (.agg (usr ([],[])).toArray,_):=Jz (n:=5) (Qv c13) rfl
  refine ⟨⟨[],[],[],false,.slice none 0 0,[]⟩,[],X3.set X.length (.cells (usr ([],[])) 1 false false),f1 _ _ ?_,Zw.nil,by simp,put k13,Nat.zero_le _,by rw [if_neg he];rfl⟩
  unfold Wy
  rw [Za z1,Za e2,Za ZA,Za Zz,z2,Za q1,Zb,if_pos rfl,Za zb,Za w3,Za d3]
  rfl
theorem Zyi (h : ND X d r s c) : R (n+1) ZaX [pt d] X=some (iv s.A.length,X):=by
 rw [R,Zm0 rfl]
 unfold ZeF
 rw [Za Zl,Za Zj,Za h.l0,Za h.m.len]
 rfl
theorem ZuT (h : ND X d r s c) : ∃ v q X',R (n+4) WH [pt d] X=some (v,X')∧Zw X' v ((ZM s.K).map strv) q∧HLe X X'∧∀ j∈q,X.length≤j:=by
 obtain ⟨v,q,X',e,r1,l,o⟩:=Zvw (n:=n) h.gr
 have e : R (n+3) Y5 [pt r.g] X=_:=e
 rw [h.ks] at r1
 refine ⟨v,q,X',?_,r1,l,o⟩
 rw [R,ZjX rfl]
 unfold Zcm
 rw [Za Zl,Za Zj,Za h.l2,Za e]
 rfl
abbrev KF (s : NSt) : List Tx:=s.A.map (·.1)
theorem Zri (h : ND X d r s c) : ∃ v q X',R (n+2) KZ [pt d] X=some (v,X')∧Zw X' v ((ZM (KF s)).map strv) q∧HLe X X'∧∀ j∈q,X.length≤j:=by
 have e1 : run Tryz.prog np lvs (n+1) Qm [.map (some r.b)] X=some (.func (.func QV) #[] #[pt X.length],X++[.cells [.map (some r.b)] 1 false false]):=by
  rw [K5 rfl]
  unfold Q1
  rw [Za (Zb9 rfl rfl _)]
  rfl
 have l1 : HLe X (X++[.cells [.map (some r.b)] 1 false false]):=.app _ _
 obtain ⟨v,q,H2,e2,r2,l2,o2⟩:=(h.m.hle l1).keys (gks:=ZfB) (gc:=Qk) (gk:=QV) (c:=X.length) (by decide) ZB (Nat.le_trans h.inv.few (by decide)) (fun p hp=>Nat.le_trans (Kq (h.inv.nm p hp).1) (by decide))
 have e2' : run Tryz.prog np lvs (n+1) Qn [.func (.func QV) #[] #[pt X.length],.func (.func Qk) #[] #[]] (X++[.cells [.map (some r.b)] 1 false false])=some (v,H2):=by
  rw [ZfX (show np Qn=some (Zb4 ZfB Qk) from rfl)]
  exact e2
 refine ⟨v,q,H2,?_,r2,l1.trans l2,fun j hj=>Nat.le_trans l1.len (o2 j hj)⟩
 rw [R,ZkN rfl]
 unfold Zc2
 rw [Za Zl,Za Zj,Za h.l0,Za e1,Za e2']
 rfl
theorem Zw.own_of {v : Value} {vs : List Value} {q : List Nat} (h : Zw X v vs q) {i : Nat} (hi : A.own1 v=some i) : i∈q:=by
 rcases h with ⟨_,rfl,rfl⟩ | ⟨sid,rest,g,rfl,rfl,_⟩
 ·cases hi
 ·cases hi;simp
structure ZbB (X0 X : Zd) (sl : Value) (us : List Zm) (q : List Nat) : Prop where
 r : Jf 5 X sl (us.map Zm.cells) q
 o : ∀ j∈q,X0.length≤j
 u : ∀ w∈us,∃ qu,Zw X w.gv (w.gs.map strv) qu∧(∀ j∈qu,X0.length≤j∧j∉q)∧w.gs.length≤100000
 un : ∀ a∈us,∀ b∈us,∀ i,own1 a.gv=some i→own1 b.gv=some i→a=b
theorem ZbB.us {X0 X : Zd} {sl : Value} {us : List Zm} {q : List Nat} (h : ZbB X0 X sl us q) : Yy X sl us:=⟨h.r.rd,fun w hw=>by
 obtain ⟨qu,h1,_,h2⟩:=h.u w hw
 exact ⟨h1.rd,h1.one.1,by omega⟩⟩
theorem ZbB.hle {X0 X Y : Zd} {sl : Value} {us : List Zm} {q : List Nat} (h : ZbB X0 X sl us q) (hl : HLe X Y) : ZbB X0 Y sl us q:=
 ⟨h.r.step hl.step (by simp),h.o,fun w hw=>by
  obtain ⟨qu,h1,h2,h3⟩:=h.u w hw
  exact ⟨qu,h1.step hl.step (by simp),h2,h3⟩,h.un⟩
theorem ZbB.push0 {X0 : Zd} {sl : Value} {us : List Zm} {q qu : List Nat} {w : Zm} (h : ZbB X0 X sl us q) (hl : us.length≤1000) (hr : Zw X w.gv (w.gs.map strv) qu) (hq : ∀ j∈qu,X0.length≤j∧j∉q) (h6 : w.gs.length≤100000) (hfr : ∀ a∈us,∀ i,own1 a.gv=some i→i∉qu) (hX : X0.length≤X.length) :
  ∃ x X1 sl' X2 q',bsl 5 1 (.agg #[.string ⟨#[]⟩,.string ⟨#[]⟩,.string ⟨#[]⟩,.bool false,.slice none 0 0]) [(0,5,.agg w.cells.toArray)] X=some (x,X1)∧app 5 80 sl x X1=some (sl',X2)∧ZbB X0 X2 sl' (us++[w]) q'∧Zr q X q' X2:=by
 have hone : w.cells.all oneCell=true:=by simp only [Zm.cells,List.all_cons,hr.one.1];rfl
 have x4:=Zqf (es:=5) (z:=.agg #[.string ⟨#[]⟩,.string ⟨#[]⟩,.string ⟨#[]⟩,.bool false,.slice none 0 0]) (H:=X) rfl (show w.cells.length=5 from rfl) hone
 have l1 : HLe X (X++[Zg.cells w.cells 5 false false]):=.app _ _
 have s1 : SlN 5 (X++[Zg.cells w.cells 5 false false]) (.slice (some ⟨X.length,0,none⟩) 1 1) [w.cells]:=SlN.whole (rows:=[w.cells]) (c:=1) (e:=5) (g:=false) (ro:=false) (by rw [ZB];simp) (by simp)
 generalize X++[Zg.cells w.cells 5 false false]=X1 at x4 l1 s1
 have h1:=h.hle l1
 obtain ⟨sl',X2,q',x5,hn2,s2⟩:=h1.r.push (b:=80) s1 rfl (by simp;omega) (by simp;omega)
 have hX1:=l1.len
 have hm2 : ∀ j∈q',X0.length≤j:=fun j hj=>by
  rcases s2.own j hj with h2 | h2
  ·exact h.o j h2
  ·omega
 rw [← List.map_singleton (f:=Zm.cells),← List.map_append] at hn2
 have hnew : ∀ (v : Zm) (qv : List Nat),Zw X1 v.gv (v.gs.map strv) qv→(∀ j∈qv,X0.length≤j∧j∉q)→Zw X2 v.gv (v.gs.map strv) qv∧∀ j∈qv,X0.length≤j∧j∉q':=fun v qv hv hj=>⟨hv.step s2 (fun j hm=>(hj j hm).2),fun j hm=>⟨(hj j hm).1,fun hq=>by
  rcases s2.own j hq with h2 | h2
  ·exact (hj j hm).2 h2
  ·have:=hv.lt j hm;omega⟩⟩
 refine ⟨_,X1,sl',X2,q',x4,x5,⟨hn2,hm2,fun v hv=>?_,fun a ha b hb i hai hbi=>?_⟩,l1.stepq.trans s2⟩
 ·rcases List.mem_append.1 hv with hv | hv
  ·obtain ⟨qv,a1,a2,a3⟩:=h1.u v hv
   obtain ⟨b1,b2⟩:=hnew v qv a1 a2
   exact ⟨qv,b1,b2,a3⟩
  ·have hv : v=w:=by simpa using hv
   subst hv
   obtain ⟨b1,b2⟩:=hnew v qu (hr.step l1.step (by simp)) hq
   exact ⟨qu,b1,b2,h6⟩
 ·rcases List.mem_append.1 ha with ha | ha <;> rcases List.mem_append.1 hb with hb | hb
  ·exact h.un a ha b hb i hai hbi
  ·have hb : b=w:=by simpa using hb
   rw [hb] at hbi
   exact absurd (hr.own_of hbi) (hfr a ha i hai)
  ·have ha : a=w:=by simpa using ha
   rw [ha] at hai
   exact absurd (hr.own_of hai) (hfr b hb i hbi)
  ·have ha : a=w:=by simpa using ha
   have hb : b=w:=by simpa using hb
   rw [ha,hb]
theorem ZbB.push {X0 : Zd} {sl : Value} {us : List Zm} {q qu : List Nat} {w : Zm} (h : ZbB X0 X sl us q) (hl : us.length≤1000) (hr : Zw X w.gv (w.gs.map strv) qu) (hq : ∀ j∈qu,X0.length≤j∧j∉q) (h6 : w.gs.length≤100000) (hfr : ∀ a∈us,∀ i,own1 a.gv=some i→i∉qu) (hle : HLe X0 X) :
  ∃ x X1 sl' X2 q',bsl 5 1 (.agg #[.string ⟨#[]⟩,.string ⟨#[]⟩,.string ⟨#[]⟩,.bool false,.slice none 0 0]) [(0,5,.agg w.cells.toArray)] X=some (x,X1)∧app 5 80 sl x X1=some (sl',X2)∧ZbB X0 X2 sl' (us++[w]) q'∧HLe X0 X2:=by
 obtain ⟨x,X1,sl',X2,q',a,b,c,e⟩:=h.push0 hl hr hq h6 hfr hle.len
 exact ⟨x,X1,sl',X2,q',a,b,c,(hle.more e h.o).1⟩
theorem Zs4 {v : Value} {q0 : List Nat} {ks : List Tx} {X0 : Zd} (h : ND X0 d r s c) (hr : Zw X0 v (ks.map strv) q0) (hk : ks.length≤100) (hK : ∀ k∈ks,Qw k s.A=0) : ∀ (t j : Nat) (sl : Value) (q : List Nat) (us : List Zm) (X : Zd),ks.length - j=t→j≤ks.length→us.length≤j→HLe X0 X→ZbB X0 X sl us q→
  ∃ X' sl' q' us',Zh (c5 (YX.l1 (R (n+7)))) [pt d,sl,v,iv ks.length,iv j] X=some (.ext 0 [sl'],X')∧ZbB X0 X' sl' (us++us') q'∧us'.map Jr=(ks.drop j).map (fun k=>Yt s k ((Zf k s.A).getD ([],false)))∧HLe X0 X'
 | 0,j,sl,q,us,X,ht,hj,hu,hl,ho=>by
  have : j=ks.length:=by omega
  subst this
  rw [List.drop_length]
  refine ⟨X,sl,q,[],ZV ?_,by rw [List.append_nil];exact ho,rfl,hl⟩
  rw [Q7]
  unfold YX.l1
  rw [Za Zk,Zb,if_neg (by simp)]
  rfl
 | t+1,j,sl,q,us,X,ht,hj,hu,hl,ho=>by
  have hjl : j < ks.length:=by omega
  have hlt : (j : Int) < ks.length:=by omega
  have hg:=List.getElem?_eq_getElem hjl
  have hd:=List.drop_eq_getElem_cons hjl
  generalize ks[j]=k at hg hd
  have hrx:=hr.step hl.step (by simp)
  have x1:=hrx.ix (i:=j) (by simpa using hjl) .i64 X
  have x2:=hrx.ldx (Kd hg)
  have he:=hK k (List.mem_of_getElem? hg)
  obtain ⟨w,qw,X1,e1,r1,o1,l1,h6,hkey⟩:=Zo6 (n:=n) (k:=k) (h.hle hl)
  rw [if_pos he] at hkey
  rw [he] at e1
  have ho1:=ho.hle l1
  have hone : w.cells.all oneCell=true:=by simp only [Zm.cells,List.all_cons,r1.one.1];rfl
  have z2 : ∀ K : Value→M Out,bind (alc 1 (.agg #[.string ⟨#[]⟩,.string ⟨#[]⟩,.string ⟨#[]⟩,.bool false,.slice none 0 0])) (fun p=>bind (stA 5 p (.agg w.cells.toArray)) fun _=>K p) X1=K (pt X1.length) (X1++[.cells w.cells 1 false false]):=fun K=>Zdo (n:=5) (zs:=[.string ⟨#[]⟩,.string ⟨#[]⟩,.string ⟨#[]⟩,.bool false,.slice none 0 0]) (r:=w.cells) rfl rfl rfl hone
  have k2 : HLe X1 (X1++[Zg.cells w.cells 1 false false]):=.app _ _
  have c2 : (X1++[Zg.cells w.cells 1 false false])[X1.length]?=some (.cells w.cells 1 false false):=ZB
  generalize X1++[Zg.cells w.cells 1 false false]=X2 at z2 k2 c2
  have d2 : ldA 5 (pt X1.length) X2=some (.agg w.cells.toArray,X2):=Jz (n:=5) c2 rfl
  have hq : ∀ i∈qw,X0.length≤i∧i∉q:=fun i hi=>by
   have h1:=o1 i hi
   have h2:=hl.len
   exact ⟨by omega,fun hm=>by have:=ho.r.lt i hm;omega⟩
  obtain ⟨y,X3,sl',X4,q',a1,a2,ho4,l4⟩:=(ho1.hle k2).push (by omega) (r1.step k2.step (by simp)) hq (by omega) (fun a ha i hi hm=>by obtain ⟨qa,b1,_,_⟩:=ho.u a ha;have h1:=b1.lt i (b1.own_of hi);have h2:=o1 i hm;omega) ((hl.trans l1).trans k2)
  obtain ⟨X5,sl5,q5,us5,e5,o5,u5,l5⟩:=Zs4 h hr hk hK t (j+1) sl' q' (us++[w]) X4 (by omega) (by omega) (by rw [List.length_append,List.length_singleton];omega) l4 ho4
  refine ⟨X5,sl5,q5,w :: us5,(ZI ?_).trans e5,by rw [List.append_assoc] at o5;exact o5,?_,l5⟩
  ·rw [Q7]
   unfold YX.l1
   rw [Za Zk,Zb,if_pos (by simpa using hlt),Za x1,Za x2,Za e1,Za ZA,Za Zz,z2,Za d2,Za a1,Za a2,Za ZC,Q5 (by omega)]
   rfl
  ·rw [hd,List.map_cons,List.map_cons,u5,hkey]
def allK (s : NSt) : List Wv:=(ZM (KF s)).map fun k=>Yt s k ((Zf k s.A).getD ([],false))
theorem Zwf (h : ∀ p∈s.A,Zy p.1=true) {k : Tx} (hk : k∈KF s) : Qw k s.A=0:=by
 obtain ⟨p,hp,rfl⟩:=List.mem_map.1 hk
 unfold Qw
 rw [h p hp,Zhu,decide_eq_true (List.mem_map.2 ⟨p,hp,rfl⟩)]
 rfl
theorem ZyV (h : ND X d r s c) : ∃ v q us X',R (n+8) Za2 [pt d] X=some (v,X')∧ZbB X X' v us q∧us.map Jr=allK s∧HLe X X':=by
 obtain ⟨v,q,X1,e1,r1,l1,o1⟩:=Zri (n:=n+5) h
 have e1 : R (n+7) KZ [pt d] X=_:=e1
 have hfew : (ZM (KF s)).length≤12:=by
  rw [KC]
  have:=h.inv.few
  simpa using this
 obtain ⟨X2,sl,q2,us,e2,o2,u2,l2⟩:=Zs4 (n:=n) (h.hle l1) r1 (by omega) (fun k hk=>Zwf (fun p hp=>(h.inv.nm p hp).1) (Kz.1 hk)) (ZM (KF s)).length 0 (.slice none 0 0) [] [] X1 (by omega) (by omega) (Nat.le_refl _) (.refl _) ⟨Jf.nil,by simp,by simp,by simp⟩
 have e2 : Zh (c5 (YX.l1 (R (n+7)))) [pt d,.slice none 0 0,v,iv (ZM (KF s)).length,.int .i64 0] X1=_:=e2
 rw [List.nil_append] at o2
 rw [List.drop_zero] at u2
 have hlen : Zp v X1=some (iv (ZM (KF s)).length,X1):=by have:=r1.rd.len (H':=X1);simpa using this
 have hx:=l1.len
 refine ⟨sl,q2,us,X2,?_,⟨o2.r,fun j hj=>Nat.le_trans hx (o2.o j hj),fun w hw=>?_,o2.un⟩,u2,l1.trans l2⟩
 ·rw [R,Zmu rfl]
  unfold YX
  rw [Za e1,Za hlen,Qh e2,ZE]
  rfl
 ·obtain ⟨qu,a1,a2,a3⟩:=o2.u w hw
  exact ⟨qu,a1,fun j hj=>⟨Nat.le_trans hx (a2 j hj).1,(a2 j hj).2⟩,a3⟩
end
end Go.Proofs.YtedkoimihknggaaGreatDoor.A
namespace Go.Proofs.YtedkoimihknggaaGreatDoor.A
set_option linter.unusedVariables false
set_option linter.unusedSimpArgs false
open Go.Proofs Go.Proofs.YtedkoimihknggaaGreatDoor
def K9 (k : Tx) (A : AMp) : Acc:=(Zf k A).getD ([],false)
def Kw (k h : Tx) (A : AMp) : Int:=if Zy k then (if YD h then (if (Zf k A).isSome then 9 else if 12≤A.length then 7 else 0) else 4) else 10
def Za8 (k h : Tx) (s : NSt) : NSt:=if Kw k h s.A=0 then { s with A:=Qt k (h,false) s.A } else s
def Za6 (k : Tx) (s : NSt) : NSt:=if Qw k s.A=0 then { s with A:=KU k s.A,OW:=Zbg k s.OW s.OF,OF:=KX k s.OF,mem:=ZnB k s.mem } else s
def YB (k h : Tx) (A : AMp) : Int:=if Zy k then (if YD h then (if (Zf k A).isSome then (if (K9 k A).2 then 12 else 0) else 8) else 4) else 10
def W9 (k h : Tx) (s : NSt) : NSt:=if YB k h s.A=0 then { s with A:=Qt k (h,(K9 k s.A).2) s.A } else s
def Zze (g : Tx) (s : NSt) : NSt:={ s with K:=Zhb g s.K }
def Zzv (g : Tx) (s : NSt) : NSt:={ s with K:=Zzc g s.K,mem:=if Zn0 g s.K=0 then Zn1 g s.mem else s.mem }
def Zs5 (g k : Tx) (A : AMp) : Int:=if Zy g then Qw k A else 10
def ZxP (g k : Tx) (s : NSt) : Int:=if Zs5 g k s.A=0 then Zwn g k s.K s.mem else Zs5 g k s.A
def ZuG (g k : Tx) (s : NSt) : NSt:=if ZxP g k s=0 then { s with mem:=Zyo g k s.mem } else s
theorem Zec {α : Type} {k j : Tx} {v : α} {m : List (Tx × α)} (h : (Zf j m).isSome=true∨j=k) : (Zf j (Qt k v m)).isSome=true:=by
 by_cases e : j=k
 ·rw [e,KB];rfl
 ·rw [Yo e];exact h.resolve_right e
theorem YP.putA {s : NSt} (h : YP s) {k : Tx} {v : Acc} (hk : Zy k=true) (hv : YD v.1=true) (hl : (Zf k s.A).isSome=true∨s.A.length < 12) : YP { s with A:=Qt k v s.A } where
 nm p hp:=by
  rcases Zqs hp with rfl | hp
  ·exact ⟨hk,hv⟩
  ·exact h.nm p hp
 few:=by
  show (Qt k v s.A).length≤12
  rw [ZdN]
  have:=h.few
  split
  ·exact this
  ·rename_i hn
   rcases hl with h1 | h1
   ·exact absurd h1 hn
   ·omega
 ofA n hn:=Zec (.inl (h.ofA n hn))
 memA g n hn:=Zec (.inl (h.memA g n hn))
 good:=h.good
theorem Zo5 {k h : Tx} {A : AMp} (he : Kw k h A=0) : Zy k=true∧YD h=true∧Zf k A=none∧A.length < 12:=by
 unfold Kw at he
 cases h1 : Zy k <;> cases h2 : YD h <;> rw [h1,h2] at he <;> try simp at he
 by_cases h3 : (Zf k A).isSome=true
 ·rw [if_pos h3] at he;simp at he
 ·rw [if_neg h3] at he
  by_cases h4 : 12≤A.length
  ·rw [if_pos h4] at he;simp at he
  ·exact ⟨rfl,rfl,by simpa using h3,by omega⟩
theorem YP.create {s : NSt} (h : YP s) (k x : Tx) : YP (Za8 k x s):=by
 unfold Za8
 split
 ·rename_i he
  obtain ⟨h1,h2,h3,h4⟩:=Zo5 he
  exact h.putA h1 h2 (.inr h4)
 ·exact h
theorem YP.delete {s : NSt} (h : YP s) (k : Tx) : YP (Za6 k s):=by
 unfold Za6
 split
 ·exact {
   nm:=fun p hp=>h.nm p (List.mem_filter.1 hp).1
   few:=Nat.le_trans (List.length_filter_le _ _) h.few
   ofA:=fun n hn=>by
    have hne : n≠k:=fun e=>by rw [e,Ze6] at hn;cases hn
    show (Zf n (KU k s.A)).isSome=true
    rw [YO hne]
    rw [ZhI hne] at hn
    exact h.ofA n hn
   memA:=fun g n hn=>by
    have hn : (s.mem g n && !(n==k))=true:=hn
    simp only [Bool.and_eq_true,Bool.not_eq_true',beq_eq_false_iff_ne] at hn
    show (Zf n (KU k s.A)).isSome=true
    rw [YO hn.2]
    exact h.memA g n hn.1
   good:=fun n m hn=>by
    have hne : n≠k:=fun e=>by
     have hn : Zf n (KX k s.OF)=some m:=hn
     rw [e,Ze6] at hn;cases hn
    have hn : Zf n (KX k s.OF)=some m:=hn
    rw [ZhI hne] at hn
    exact h.good n m hn }
 ·exact h
theorem ZnK {k h : Tx} {A : AMp} (he : YB k h A=0) : Zy k=true∧YD h=true∧(Zf k A).isSome=true∧(K9 k A).2=false:=by
 unfold YB at he
 cases h1 : Zy k <;> cases h2 : YD h <;> rw [h1,h2] at he <;> try simp at he
 cases h3 : (Zf k A).isSome <;> cases h4 : (K9 k A).2 <;> rw [h3,h4] at he <;> simp at he
 exact ⟨rfl,rfl,rfl,rfl⟩
theorem YP.setHash {s : NSt} (h : YP s) (k x : Tx) : YP (W9 k x s):=by
 unfold W9
 split
 ·rename_i he
  obtain ⟨h1,h2,h3,h4⟩:=ZnK he
  exact h.putA h1 h2 (.inl h3)
 ·exact h
theorem Zkc {k m : Tx} {OW OF : Qo} (he : Zat k m OW=0) (n : Tx) : Zf n (ZhG k m OW OF)=if n=k then (if m=[] then none else some (Ji m)) else Zf n OF:=by
 unfold ZhG
 rw [if_pos he]
 by_cases hm : m=[]
 ·rw [if_pos hm,if_pos hm]
  by_cases hn : n=k
  ·rw [if_pos hn,hn,Ze6]
  ·rw [if_neg hn,ZhI hn]
 ·rw [if_neg hm,if_neg hm]
  by_cases hn : n=k
  ·rw [if_pos hn,hn,KB]
  ·rw [if_neg hn,Yo hn,ZhI hn]
theorem YP.ofN {s : NSt} (h : YP s) {t : Tx} (ht : Zf t s.A=none) : Zf t s.OF=none:=by
 cases ho : Zf t s.OF with
 | none=>rfl
 | some v=>
  have:=h.ofA t (by rw [ho];rfl)
  rw [ht] at this;cases this
theorem YP.memN {s : NSt} (h : YP s) {t : Tx} (ht : Zf t s.A=none) (g : Tx) : s.mem g t=false:=by
 cases ho : s.mem g t with
 | false=>rfl
 | true=>
  have:=h.memA g t ho
  rw [ht] at this;cases this
theorem YP.make {s : NSt} (h : YP s) (g : Tx) : YP (Zze g s):=⟨h.nm,h.few,h.ofA,h.memA,h.good⟩
theorem YP.drop {s : NSt} (h : YP s) (g : Tx) : YP (Zzv g s):=by
 refine ⟨h.nm,h.few,h.ofA,fun k n hn=>?_,h.good⟩
 have hn : (if Zn0 g s.K=0 then Zn1 g s.mem else s.mem) k n=true:=hn
 split at hn
 ·unfold Zn1 at hn
  simp only [Bool.and_eq_true] at hn
  exact h.memA k n hn.1
 ·exact h.memA k n hn
theorem YP.leave {s : NSt} (h : YP s) (g k : Tx) : YP (ZuG g k s):=by
 unfold ZuG
 split
 ·refine ⟨h.nm,h.few,h.ofA,fun j n hn=>?_,h.good⟩
  have hn : (s.mem j n && !(j==g && n==k))=true:=hn
  simp only [Bool.and_eq_true] at hn
  exact h.memA j n hn.1
 ·exact h
end Go.Proofs.YtedkoimihknggaaGreatDoor.A
namespace Go.Proofs.YtedkoimihknggaaGreatDoor.A
set_option linter.unusedVariables false
set_option linter.unusedSimpArgs false
open Go.Proofs Go.Proofs.YtedkoimihknggaaGreatDoor
section
variable {X X' : Zd} {n d c c' : Nat} {r : NR} {s : NSt} {k h m t o g : Tx}
theorem NR.mem_b (r : NR) : r.b∈r.own:=by simp [NR.own]
theorem NR.mem_o (r : NR) : r.o∈r.own:=by simp [NR.own]
theorem NR.mem_a (r : NR) : r.a∈r.own:=by simp [NR.own]
theorem NR.mem_g (r : NR) : ∀ j∈JZ r.o2 r.G,j∈r.own:=fun j hj=>by
 unfold NR.own
 exact List.mem_cons_of_mem _ (List.mem_cons_of_mem _ (List.mem_cons_of_mem _ hj))
theorem ND0.setA (hd : ND0 X d r s c) {A' : AMp} (m' : JB Zac X' r.b A') (hs : Zr [r.b] X [r.b] X') : ND0 X' d r { s with A:=A' } c∧Zr r.own X r.own X':=by
 obtain ⟨h1,h2,h3,_,_⟩:=hd.dis
 have nb : ∀ {j},j∉r.own→j∉[r.b]:=fun hj e=>hj (by rw [List.mem_singleton.1 e];exact r.mem_b)
 refine ⟨⟨hs.get hd.cell (nb hd.dnot),m',hd.ix.step hs (nb hd.xnot) (by simpa using Ne.symm h1) (by simpa using Ne.symm h2),hd.gr.step hs (nb hd.gnot) (fun j hj e=>h3 ?_),hd.ks,hd.dis⟩,hs.mono2 (by simpa using r.mem_b)⟩
 rw [← List.mem_singleton.1 e];exact hj
theorem ND0.setI (hd : ND0 X d r s c) {OW' OF' : Qo} (i' : Idx X' r.x r.o r.a OW' OF') (hs : Zr [r.o,r.a] X [r.o,r.a] X') : ND0 X' d r { s with OW:=OW',OF:=OF' } c∧Zr r.own X r.own X':=by
 obtain ⟨h1,h2,h3,h4,h5⟩:=hd.dis
 have no : ∀ j∈[r.o,r.a],j∈r.own:=fun j hj=>by
  simp only [List.mem_cons,List.not_mem_nil,or_false] at hj
  rcases hj with rfl | rfl
  ·exact r.mem_o
  ·exact r.mem_a
 refine ⟨⟨hs.get hd.cell (fun e=>hd.dnot (no _ e)),hd.m.step hs (by simp [h1,h2]),i',hd.gr.step hs (fun e=>hd.gnot (no _ e)) (fun j hj e=>?_),hd.ks,hd.dis⟩,hs.mono2 no⟩
 simp only [List.mem_cons,List.not_mem_nil,or_false] at e
 rcases e with rfl | rfl
 ·exact h4 hj
 ·exact h5 hj
theorem ND0.setG (hd : ND0 X d r s c) {G' : Zg7} {mem' : Mem} {K' : List Tx} (g' : Grp X' r.g r.o2 G' mem' c') (hs : Zr (JZ r.o2 r.G) X (JZ r.o2 G') X') (hk : Qy G'=K') : ND0 X' d { r with G:=G' } { s with K:=K',mem:=mem' } c'∧Zr r.own X (NR.own { r with G:=G' }) X':=by
 obtain ⟨h1,h2,h3,h4,h5⟩:=hd.dis
 have hb:=hd.isMap r.mem_b
 have ho:=hd.isMap r.mem_o
 have ha:=hd.isMap r.mem_a
 have new : ∀ j,j < X.length→j∉JZ r.o2 r.G→j∉JZ r.o2 G':=fun j hj hn hm=>by
  rcases hs.own j hm with e | e
  ·exact hn e
  ·omega
 refine ⟨⟨hs.get hd.cell (fun e=>hd.dnot (r.mem_g _ e)),hd.m.step hs h3,hd.ix.step hs (fun e=>hd.xnot (r.mem_g _ e)) h4 h5,g',hk,⟨h1,h2,new _ hb.1 h3,new _ ho.1 h4,new _ ha.1 h5⟩⟩,hs.more r.mem_g (fun j hj=>?_)⟩
 unfold NR.own at hj ⊢
 rcases List.mem_cons.1 hj with rfl | hj
 ·exact .inl (by simp)
 ·rcases List.mem_cons.1 hj with rfl | hj
  ·exact .inl (by simp)
  ·rcases List.mem_cons.1 hj with rfl | hj
   ·exact .inl (by simp)
   ·exact .inr (.inl hj)
theorem Zl4 (hd : ND X d r s c) : ∃ (p : Nat) (X2 : Zd),(∀ {β : Type} (K : Value→Value→M β),bind (R (n+9) J4 [pt d,strv k]) (fun v12=>bind (Zq v12 0) fun v13=>bind (Zq v12 1) fun v14=>bind (alc 1 (.agg #[.string ⟨#[]⟩,.bool false])) fun v7=>bind (stA 2 v7 v13) fun _=>K v7 v14) X=K (pt p) (iv (Qw k s.A)) X2)∧
  X2[p]?=some (.cells [strv (if Zy k then K9 k s.A else ([],false)).1,.bool (if Zy k then K9 k s.A else ([],false)).2] 1 false false)∧HLe X X2∧X.length≤p:=by
 obtain ⟨X1,e1,k1⟩:=ZsW (n:=n+3) (k:=k) hd
 have e1 : R (n+9) J4 [pt d,strv k] X=some (.tuple #[Zac (if Zy k then K9 k s.A else ([],false)),iv (Qw k s.A)],X1):=e1
 generalize (if Zy k then K9 k s.A else ([],false))=a at e1
 refine ⟨X1.length,X1++[.cells [strv a.1,.bool a.2] 1 false false],fun {β} K=>?_,ZB,k1.trans (.app _ _),k1.len⟩
 rw [Za e1,Za ZA,Za Zz]
 exact Zdo (n:=2) (zs:=[strv [],.bool false]) (r:=[strv a.1,.bool a.2]) (k:=fun v7=>K v7 (iv (Qw k s.A))) rfl rfl rfl rfl
theorem Zwl {p : Nat} {X2 X3 : Zd} {own : List Nat} {ob : Zg} (hle : HLe X X2) (hp : X.length≤p) (hs : Zr own (X2.set p ob) own X3) : Zr own X own X3:=
 ⟨by have:=hle.len;have:=hs.len;rw [List.length_set] at this;omega,fun j hj hn=>by
  rw [hs.keep j (by rw [List.length_set];have:=hle.len;omega) hn,List.getElem?_set_ne (by omega)]
  exact hle.step.keep j hj (by simp),fun j hj=>.inl hj⟩
theorem ND0.box (hd : ND0 X d r s c) {p : Nat} {X2 : Zd} {ob : Zg} (hle : HLe X X2) (hp : X.length≤p) : ND0 (X2.set p ob) d r s c:=by
 have hs : Zr [] X [] (X2.set p ob):=⟨by rw [List.length_set];exact hle.len,fun j hj hn=>by
  rw [List.getElem?_set_ne (by omega)]
  exact hle.step.keep j hj (by simp),fun j hj=>by cases hj⟩
 exact hd.step hs (by simp) (by simp) (by simp) (by simp)
theorem ZmF {Y : Zd} : R (n+9) YV [strv h] Y=some (iv (ZW h),Y):=Zka (n:=n+5)
theorem ZvB (hd : ND X d r s c) : ∃ X',R (n+10) Wq [pt d,strv k,strv h] X=some (iv (Kw k h s.A),X')∧ND X' d r (Za8 k h s) c∧Zr r.own X r.own X':=by
 obtain ⟨p,X2,e1,c1,k1,hp⟩:=Zl4 (n:=n) (k:=k) hd
 have h2:=hd.hle k1
 have f1 : ∀ v X',WG (R (n+9)) (pt d) (strv k) (strv h) X=some (v,X')→R (n+10) Wq [pt d,strv k,strv h] X=some (v,X'):=fun v X' hr=>by rw [R,ZiQ rfl];exact hr
 have hstep : Zr r.own X r.own X2:=k1.stepq
 by_cases he : Kw k h s.A=0
 ·obtain ⟨a1,a2,a3,a4⟩:=Zo5 he
  have hN : Qw k s.A=8:=by unfold Qw;rw [a1,a3];rfl
  rw [hN] at e1
  obtain ⟨X3,e3,m3,s3,_⟩:=h2.m.mup (k:=k) (v:=((h,false) : Acc))
  have e3 : mup .str (.map (some r.b)) (strv k) (Zac (h,false)) X2=_:=e3
  obtain ⟨d3,s4⟩:=h2.toND0.setA m3 s3
  have hn : Za8 k h s={ s with A:=Qt k (h,false) s.A }:=by unfold Za8;rw [if_pos he]
  rw [he,hn]
  refine ⟨X3,f1 _ _ ?_,⟨d3,by rw [← hn];exact hd.inv.create k h⟩,hstep.trans s4⟩
  have q1 : bop .int .eql (iv 8) (.int .i64 10) X2=some (.bool false,X2):=by rw [ZG];rfl
  have q2 : bop .int .neq (iv (ZW h)) (.int .i64 0) X2=some (.bool false,X2):=by rw [Zo];unfold ZW;rw [a2];rfl
  have q3 : bop .int .eql (iv 8) (.int .i64 0) X2=some (.bool false,X2):=by rw [ZG];rfl
  have q4 : bop .int .geq (iv s.A.length) (.int .i64 12) X2=some (.bool false,X2):=by rw [Qp,decide_eq_false (by omega)]
  have zb : bld (.agg #[.string ⟨#[]⟩,.bool false]) [(0,1,strv h)] X2=some (Zac (h,false),X2):=by
   simp [bld,WE,Value.cells,Yx,strv,splice,Zac]
  unfold WG
  refine (e1 _).trans ?_
  rw [Za q1,Zb,if_neg (by simp),Za ZmF,Za q2,Zb,if_neg (by simp),Za q3,Zb,if_neg (by simp),Za Zl,Za Zj,Za h2.l0,Za h2.m.len,Za q4,Zb,if_neg (by simp),Za Zl,Za Zj,Za h2.l0,Za zb,Za e3]
  rfl
 ·have hn : Za8 k h s=s:=by unfold Za8;rw [if_neg he]
  rw [hn]
  refine ⟨X2,f1 _ _ ?_,h2,hstep⟩
  unfold WG
  refine (e1 _).trans ?_
  cases a1 : Zy k
  ·have hN : Qw k s.A=10:=by unfold Qw;rw [a1];rfl
   have hE : Kw k h s.A=10:=by unfold Kw;rw [a1];rfl
   have q1 : bop .int .eql (iv 10) (.int .i64 10) X2=some (.bool true,X2):=by rw [ZG];rfl
   rw [hN,hE,Za q1,Zb,if_pos rfl]
   rfl
  ·have hN : Qw k s.A=0∨Qw k s.A=8:=by unfold Qw;rw [a1];cases (Zf k s.A).isSome <;> simp
   have q1 : bop .int .eql (iv (Qw k s.A)) (.int .i64 10) X2=some (.bool false,X2):=by rw [ZG];rcases hN with h1 | h1 <;> rw [h1] <;> rfl
   rw [Za q1,Zb,if_neg (by simp),Za ZmF]
   cases a2 : YD h
   ·have hE : Kw k h s.A=4:=by unfold Kw;rw [a1,a2];rfl
    have q2 : bop .int .neq (iv (ZW h)) (.int .i64 0) X2=some (.bool true,X2):=by rw [Zo];unfold ZW;rw [a2];rfl
    rw [Za q2,Zb,if_pos rfl,hE]
    rfl
   ·have q2 : bop .int .neq (iv (ZW h)) (.int .i64 0) X2=some (.bool false,X2):=by rw [Zo];unfold ZW;rw [a2];rfl
    rw [Za q2,Zb,if_neg (by simp)]
    cases a3 : (Zf k s.A).isSome
    ·have hN : Qw k s.A=8:=by unfold Qw;rw [a1,a3];rfl
     have q3 : bop .int .eql (iv (Qw k s.A)) (.int .i64 0) X2=some (.bool false,X2):=by rw [ZG,hN];rfl
     have a4 : 12≤s.A.length:=by
      unfold Kw at he
      rw [a1,a2,a3] at he
      simpa using he
     have hE : Kw k h s.A=7:=by unfold Kw;rw [a1,a2,a3];simp [a4]
     have q4 : bop .int .geq (iv s.A.length) (.int .i64 12) X2=some (.bool true,X2):=by rw [Qp,decide_eq_true (by omega)]
     rw [Za q3,Zb,if_neg (by simp),Za Zl,Za Zj,Za h2.l0,Za h2.m.len,Za q4,Zb,if_pos rfl,hE]
     rfl
    ·have hN : Qw k s.A=0:=by unfold Qw;rw [a1,a3];rfl
     have hE : Kw k h s.A=9:=by unfold Kw;rw [a1,a2,a3];rfl
     have q3 : bop .int .eql (iv (Qw k s.A)) (.int .i64 0) X2=some (.bool true,X2):=by rw [ZG,hN];rfl
     rw [Za q3,Zb,if_pos rfl,hE]
     rfl
theorem ZuM (hd : ND X d r s c) : ∃ X',R (n+10) WA [pt d,strv k] X=some (iv (Qw k s.A),X')∧ND X' d r (Za6 k s) c∧Zr r.own X r.own X':=by
 obtain ⟨p,X2,e1,c1,k1,hp⟩:=Zl4 (n:=n) (k:=k) hd
 have h2:=hd.hle k1
 have f1 : ∀ v X',Wr (R (n+9)) (pt d) (strv k) X=some (v,X')→R (n+10) WA [pt d,strv k] X=some (v,X'):=fun v X' hr=>by rw [R,Zi4 rfl];exact hr
 have hstep : Zr r.own X r.own X2:=k1.stepq
 by_cases he : Qw k s.A=0
 ·obtain ⟨X3,e3,m3,s3,_⟩:=h2.m.mde (k:=k)
  obtain ⟨d3,t3⟩:=h2.toND0.setA m3 s3
  obtain ⟨X4,e4,i4,s4⟩:=ZoS (n:=n+8) (k:=k) d3.ix
  have e4 : R (n+9) JP [pt r.x,strv k] X3=_:=e4
  obtain ⟨d4,t4⟩:=d3.setI i4 s4
  obtain ⟨X5,e5,g5,s5⟩:=Zvd (n:=n+1) (m:=k) d4.gr
  have e5 : R (n+9) KH [pt r.g,strv k] X4=_:=e5
  obtain ⟨d5,t5⟩:=d4.setG g5 s5 hd.ks
  have q1 : bop .int .neq (iv (Qw k s.A)) (.int .i64 0) X2=some (.bool false,X2):=by rw [Zo,he];rfl
  have hn : Za6 k s={ s with A:=KU k s.A,OW:=Zbg k s.OW s.OF,OF:=KX k s.OF,mem:=ZnB k s.mem }:=by unfold Za6;rw [if_pos he]
  have hinv:=hd.inv.delete k
  rw [hn] at hinv ⊢
  refine ⟨X5,f1 _ _ ?_,⟨d5,hinv⟩,((hstep.trans t3).trans t4).trans t5⟩
  unfold Wr
  refine (e1 _).trans ?_
  rw [Za q1,Zb,if_neg (by simp),Za Zl,Za Zj,Za h2.l0,Za e3,Za Zl,Za Zj,Za d3.l1,Za e4,Za Zl,Za Zj,Za d4.l2,Za e5,he]
  rfl
 ·have hn : Za6 k s=s:=by unfold Za6;rw [if_neg he]
  have q1 : bop .int .neq (iv (Qw k s.A)) (.int .i64 0) X2=some (.bool true,X2):=by rw [Zo];simp [he]
  rw [hn]
  refine ⟨X2,f1 _ _ ?_,h2,hstep⟩
  unfold Wr
  refine (e1 _).trans ?_
  rw [Za q1,Zb,if_pos rfl]
  rfl
theorem ZtJ (hd : ND X d r s c) : ∃ X',R (n+10) K7 [pt d,strv k,strv h] X=some (iv (YB k h s.A),X')∧ND X' d r (W9 k h s) c∧Zr r.own X r.own X':=by
 obtain ⟨p,X2,e1,c1,k1,hp⟩:=Zl4 (n:=n) (k:=k) hd
 have h2:=hd.hle k1
 have f1 : ∀ v X',K4 (R (n+9)) (pt d) (strv k) (strv h) X=some (v,X')→R (n+10) K7 [pt d,strv k,strv h] X=some (v,X'):=fun v X' hr=>by rw [R,ZiI rfl];exact hr
 have hstep : Zr r.own X r.own X2:=k1.stepq
 by_cases he : YB k h s.A=0
 ·obtain ⟨a1,a2,a3,a4⟩:=ZnK he
  have hN : Qw k s.A=0:=by unfold Qw;rw [a1,a3];rfl
  rw [hN] at e1
  rw [a1] at c1
  have c1 : X2[p]?=some (.cells [strv (K9 k s.A).1,.bool (K9 k s.A).2] 1 false false):=c1
  have l1 : ld1 (pa p 1) X2=some (.bool false,X2):=by rw [Qe c1 rfl,a4]
  have w1 : st1 (pa p 0) (strv h) X2=some (undef,X2.set p (.cells [strv h,.bool (K9 k s.A).2] 1 false false)):=ZgX (o:=0) c1 (by simp) rfl
  have d2 : ldA 2 (pt p) (X2.set p (.cells [strv h,.bool (K9 k s.A).2] 1 false false))=some (Zac (h,(K9 k s.A).2),_):=Jz (n:=2) (Qv c1) rfl
  have h3:=hd.toND0.box (ob:=.cells [strv h,.bool (K9 k s.A).2] 1 false false) k1 hp
  obtain ⟨X3,e3,m3,s3,_⟩:=h3.m.mup (k:=k) (v:=((h,(K9 k s.A).2) : Acc))
  obtain ⟨d3,s4⟩:=h3.setA m3 s3
  have hn : W9 k h s={ s with A:=Qt k (h,(K9 k s.A).2) s.A }:=by unfold W9;rw [if_pos he]
  have hinv:=hd.inv.setHash k h
  rw [hn] at hinv ⊢
  rw [he]
  refine ⟨X3,f1 _ _ ?_,⟨d3,hinv⟩,Zwl k1 hp s4⟩
  have q1 : bop .int .eql (iv 0) (.int .i64 10) X2=some (.bool false,X2):=by rw [ZG];rfl
  have q2 : bop .int .neq (iv (ZW h)) (.int .i64 0) X2=some (.bool false,X2):=by rw [Zo];unfold ZW;rw [a2];rfl
  have q3 : bop .int .neq (iv 0) (.int .i64 0) X2=some (.bool false,X2):=by rw [Zo];rfl
  unfold K4
  refine (e1 _).trans ?_
  rw [Za q1,Zb,if_neg (by simp),Za ZmF,Za q2,Zb,if_neg (by simp),Za q3,Zb,if_neg (by simp),Za Zj,Za l1,Zb,if_neg (by simp),Za Zj,Za w1,Za Zl,Za Zj,Za h3.l0,Za d2,Za e3]
  rfl
 ·have hn : W9 k h s=s:=by unfold W9;rw [if_neg he]
  rw [hn]
  refine ⟨X2,f1 _ _ ?_,h2,hstep⟩
  unfold K4
  refine (e1 _).trans ?_
  cases a1 : Zy k
  ·have hN : Qw k s.A=10:=by unfold Qw;rw [a1];rfl
   have hE : YB k h s.A=10:=by unfold YB;rw [a1];rfl
   have q1 : bop .int .eql (iv 10) (.int .i64 10) X2=some (.bool true,X2):=by rw [ZG];rfl
   rw [hN,hE,Za q1,Zb,if_pos rfl]
   rfl
  ·rw [a1] at c1
   have c1 : X2[p]?=some (.cells [strv (K9 k s.A).1,.bool (K9 k s.A).2] 1 false false):=c1
   have hN : Qw k s.A=0∨Qw k s.A=8:=by unfold Qw;rw [a1];cases (Zf k s.A).isSome <;> simp
   have q1 : bop .int .eql (iv (Qw k s.A)) (.int .i64 10) X2=some (.bool false,X2):=by rw [ZG];rcases hN with h1 | h1 <;> rw [h1] <;> rfl
   rw [Za q1,Zb,if_neg (by simp),Za ZmF]
   cases a2 : YD h
   ·have hE : YB k h s.A=4:=by unfold YB;rw [a1,a2];rfl
    have q2 : bop .int .neq (iv (ZW h)) (.int .i64 0) X2=some (.bool true,X2):=by rw [Zo];unfold ZW;rw [a2];rfl
    rw [Za q2,Zb,if_pos rfl,hE]
    rfl
   ·have q2 : bop .int .neq (iv (ZW h)) (.int .i64 0) X2=some (.bool false,X2):=by rw [Zo];unfold ZW;rw [a2];rfl
    rw [Za q2,Zb,if_neg (by simp)]
    cases a3 : (Zf k s.A).isSome
    ·have hN : Qw k s.A=8:=by unfold Qw;rw [a1,a3];rfl
     have hE : YB k h s.A=8:=by unfold YB;rw [a1,a2,a3];rfl
     have q3 : bop .int .neq (iv (Qw k s.A)) (.int .i64 0) X2=some (.bool true,X2):=by rw [Zo,hN];rfl
     rw [Za q3,Zb,if_pos rfl,hE,hN]
     rfl
    ·have hN : Qw k s.A=0:=by unfold Qw;rw [a1,a3];rfl
     have q3 : bop .int .neq (iv (Qw k s.A)) (.int .i64 0) X2=some (.bool false,X2):=by rw [Zo,hN];rfl
     have a4 : (K9 k s.A).2=true:=by
      unfold YB at he
      rw [a1,a2,a3] at he
      simpa using he
     have hE : YB k h s.A=12:=by unfold YB;rw [a1,a2,a3,a4];rfl
     have l1 : ld1 (pa p 1) X2=some (.bool true,X2):=by rw [Qe c1 rfl,a4]
     rw [Za q3,Zb,if_neg (by simp),Za Zj,Za l1,Zb,if_pos rfl,hE]
     rfl
end
end Go.Proofs.YtedkoimihknggaaGreatDoor.A

namespace Go.Proofs.YtedkoimihknggaaGreatDoor.A
set_option linter.unusedVariables false
set_option linter.unusedSimpArgs false
open Go.Proofs Go.Proofs.YtedkoimihknggaaGreatDoor
section
variable {X X' H0 : Zd} {n : Nat} {v : Value} {l : List Tx} {x s : Tx}
end
end Go.Proofs.YtedkoimihknggaaGreatDoor.A
namespace Go.Proofs.YtedkoimihknggaaGreatDoor.A
set_option linter.unusedVariables false
set_option linter.unusedSimpArgs false
open Go.Proofs Go.Proofs.YtedkoimihknggaaGreatDoor
abbrev Pr:=Tx × Tx
def prG (u : Pr) : List Value:=[strv u.1,strv u.2]
structure RG (X : Zd) (nv mv : Value) (N : List Tx) (M : List Pr) : Prop where
 n : ∃ q,Zw X nv (N.map strv) q
 m : ∃ q,Jf 2 X mv (M.map prG) q
section
variable {X X' H0 : Zd} {n : Nat} {v nv mv z1 z2 z3 z4 : Value} {N l : List Tx} {M : List Pr} {x s t k m : Tx}
theorem RG.hle (h : RG X nv mv N M) (hl : HLe X X') : RG X' nv mv N M:=⟨h.n.elim fun q h=>⟨q,h.step hl.step (by simp)⟩,h.m.elim fun q h=>⟨q,h.step hl.step (by simp)⟩⟩
theorem RG.sn (h : RG X nv mv N M) : Sl X nv (N.map strv):=h.n.elim fun q h=>h.rd
theorem RG.sm (h : RG X nv mv N M) : SlN 2 X mv (M.map prG):=h.m.elim fun q h=>h.rd
theorem RG.one (h : RG X nv mv N M) : ([nv,mv].all oneCell)=true∧nv.cells=#[nv]∧mv.cells=#[mv]:=by
 obtain ⟨q,hn⟩:=h.n
 obtain ⟨q',hm⟩:=h.m
 exact ⟨by simp [hn.one.1,hm.one.1],hn.one.2,hm.one.2⟩
theorem RG.lenM (h : RG X nv mv N M) (Y : Zd) : Zp mv Y=some (iv M.length,Y):=by have:=h.sm.len (H':=Y);simpa using this
theorem RG.box (h : RG X nv mv N M) (Y : Zd) : alc 1 (.agg #[nv,mv]) Y=some (pt Y.length,Y++[.cells [nv,mv] 1 false false]):=Zd0 (vs:=[nv,mv]) h.one.1
theorem ZzG (Y : Zd) : alc 1 (.agg #[.slice none 0 0,.slice none 0 0]) Y=some (pt Y.length,Y++[.cells [.slice none 0 0,.slice none 0 0] 1 false false]):=Zd0 (vs:=[.slice none 0 0,.slice none 0 0]) rfl
theorem ZwW (h : RG X nv mv N M) : ∃ X2,(∀ {β : Type} (K : Value→Value→A.M β),bind (alc 1 (.agg #[nv,mv])) (fun a=>bind (alc 1 (.agg #[.slice none 0 0,.slice none 0 0])) fun b=>K a b) X=K (pt X.length) (pt (X.length+1)) X2)∧X2[X.length]?=some (.cells [nv,mv] 1 false false)∧X2[X.length+1]?=some (.cells [.slice none 0 0,.slice none 0 0] 1 false false)∧HLe X X2∧X2.length=X.length+2:=by
 refine ⟨X++[.cells [nv,mv] 1 false false]++[.cells [.slice none 0 0,.slice none 0 0] 1 false false],fun K=>?_,ZmI,Zm1,(HLe.app _ _).trans (.app _ _),by simp⟩
 rw [Za (h.box X),Za (ZzG _)]
 simp
theorem fin {b1 b2 : Nat} {a1 a2 c1 c2 : Value} (h1 : X[b1]?=some (.cells [a1,a2] 1 false false)) (h2 : X[b2]?=some (.cells [c1,c2] 1 false false)) (hn : b1≠b2) (ho : ([a1,a2].all oneCell)=true) {β : Type} (K : Value→A.M β) :
  bind (ldA 2 (pt b1)) (fun v=>bind (stA 2 (pt b2) v) fun _=>bind (ldA 2 (pt b2)) K) X=K (.agg #[a1,a2]) (X.set b2 (.cells [a1,a2] 1 false false)):=by
 have e1 : ldA 2 (pt b1) X=some (.agg #[a1,a2],X):=Jz h1 rfl
 have e2 : stA 2 (pt b2) (.agg #[a1,a2]) X=some (undef,X.set b2 (.cells [a1,a2] 1 false false)):=Zb5 (vs:=[a1,a2]) h2 rfl rfl ho
 have e3 : ldA 2 (pt b2) (X.set b2 (.cells [a1,a2] 1 false false))=some (.agg #[a1,a2],X.set b2 (.cells [a1,a2] 1 false false)):=Jz (Qv h2) rfl
 rw [Za e1,Za e2,Za e3]
theorem Zw.setB {vs : List Value} {q : List Nat} {b : Nat} {o : Zg} (h : Zw X v vs q) (hb : b∉q) : Zw (X.set b o) v vs q:=h.keep fun j hj=>List.getElem?_set_ne fun e=>hb (by rw [e];exact hj)
theorem Jf.setB {es : Nat} {vs : List (List Value)} {q : List Nat} {b : Nat} {o : Zg} (h : Jf es X v vs q) (hb : b∉q) : Jf es (X.set b o) v vs q:=h.keep fun j hj=>List.getElem?_set_ne fun e=>hb (by rw [e];exact hj)
end
end Go.Proofs.YtedkoimihknggaaGreatDoor.A
namespace Go.Proofs.YtedkoimihknggaaGreatDoor.A
set_option linter.unusedVariables false
set_option linter.unusedSimpArgs false
open Go.Proofs Go.Proofs.YtedkoimihknggaaGreatDoor
section
variable {X X' H0 : Zd} {n : Nat} {v nv mv z1 z2 z3 z4 : Value} {N l K : List Tx} {M : List Pr} {mem : Mem} {x s t k m : Tx}
end
end Go.Proofs.YtedkoimihknggaaGreatDoor.A
namespace Go.Proofs.YtedkoimihknggaaGreatDoor.A
set_option linter.unusedVariables false
set_option linter.unusedSimpArgs false
open Go.Proofs Go.Proofs.YtedkoimihknggaaGreatDoor
section
variable {X X' H0 : Zd} {n : Nat} {v nv mv z1 z2 z3 z4 : Value} {N l K : List Tx} {M : List Pr} {mem : Mem} {x s t k m : Tx}
end
end Go.Proofs.YtedkoimihknggaaGreatDoor.A

