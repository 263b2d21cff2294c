/- What the law NewerOf needs (part 4). -/
import Derived.Test.YtnnehafmjfmbnaaGreatDoorZNewerOf3
namespace Go.Proofs.YtnnehafmjfmbnaaGreatDoor.A
set_option linter.unusedVariables false
set_option linter.unusedSimpArgs false
open Go.Proofs Go.Proofs.YtnnehafmjfmbnaaGreatDoor
section
variable {H : Zc} {n : Nat} {f v : Value} {p : List UInt8→Bool} {l : List (List UInt8)} {q : List Nat} {Q : Zc→Prop}
theorem HLe.stepq {X X' : Zc} (h : HLe X X') : ZK q X q X':=h.step.more (by simp) (fun j hj=>.inl hj)
theorem ZmL (hl : l.length≤1000000) (hQ : ∀ X X',Q X→HLe X X'→Q X') (hf : ∀ X,Q X→∀ s∈l,∃ X',Yz (R n) f [strv s] X=some (.bool (p s),X')∧HLe X X') : ∀ (t k : Nat) (X : Zc),l.length - k=t→k≤l.length→Q X→ZC X v (l.map strv) q→
  ∃ X',Zj (c4 (Zy.l1 (R n))) [v,f,iv l.length,iv k] X=some (match (l.drop k).findIdx? p with | some i=>.ret (iv (k+i : Nat)) | none=>.ext 0 [],X')∧HLe X X'
 | 0,k,X,ht,hk,hq,hr=>by
  have : k=l.length:=by omega
  subst this
  rw [List.drop_length]
  refine ⟨X,ZD ?_,.refl _⟩
  rw [ZA]
  unfold Zy.l1
  rw [Za Zg,Zb,if_neg (by simp)]
  rfl
 | t+1,k,X,ht,hk,hq,hr=>by
  have hkl : k < l.length:=by omega
  have hlt : (k : Int) < l.length:=by omega
  have hg:=List.getElem?_eq_getElem hkl
  have hm : l[k]∈l:=List.getElem_mem hkl
  have hd:=List.drop_eq_getElem_cons hkl
  generalize l[k]=x at hg hd hm
  have x1:=hr.ix (i:=k) (by simpa using hkl) .i64 X
  have x2:=hr.ldx (Q3 hg)
  obtain ⟨X1,x3,l1⟩:=hf X hq x hm
  obtain ⟨X2,ih,l2⟩:=ZmL hl hQ hf t (k+1) X1 (by omega) (by omega) (hQ _ _ hq l1) (hr.step l1.step (by simp))
  rw [hd,List.findIdx?_cons]
  cases hp : p x
  ·rw [hp] at x3
   refine ⟨X2,(Zv ?_).trans (ih.trans ?_),l1.trans l2⟩
   ·rw [ZA]
    unfold Zy.l1
    rw [Za Zg,Zb,if_pos (by simpa using hlt),Za x1,Za x2,Za x3,Zb,if_neg (by simp),Za Zs,Qb (by omega)]
    rfl
   ·cases (l.drop (k+1)).findIdx? p with
    | none=>rfl
    | some i=>simp only [Bool.false_eq_true,if_false,Option.map_some];rw [show k+1+i=k+(i+1) by omega]
  ·rw [hp] at x3
   refine ⟨X1,ZU ?_,l1⟩
   rw [ZA]
   unfold Zy.l1
   rw [Za Zg,Zb,if_pos (by simpa using hlt),Za x1,Za x2,Za x3,Zb,if_pos rfl]
   rfl
theorem ZoJ (hr : ZC H v (l.map strv) q) (hl : l.length≤1000000) (hQ : ∀ X X',Q X→HLe X X'→Q X') (hf : ∀ X,Q X→∀ s∈l,∃ X',Yz (R n) f [strv s] X=some (.bool (p s),X')∧HLe X X') (h0 : Q H) :
  ∃ H',R (n+1) Jg [v,f] H=some (match l.findIdx? p with | some i=>iv i | none=>iv (-1),H')∧HLe H H':=by
 obtain ⟨H',e,le⟩:=ZmL hl hQ hf l.length 0 H (by omega) (by omega) h0 hr
 rw [List.drop_zero] at e
 have e : Zj (c4 (Zy.l1 (R n))) [v,f,iv l.length,.int .i64 0] H=_:=e
 have hlen : Zx v H=some (iv l.length,H):=by have:=hr.rd.len (H':=H);simpa using this
 refine ⟨H',?_,le⟩
 rw [R,Za7 rfl]
 unfold Zy
 rw [Za hlen]
 cases h : l.findIdx? p with
 | none=>rw [h] at e;rw [ZM e,Zu];rfl
 | some i=>
  rw [h] at e
  rw [Qr e]
  simp [ret]
theorem ZjF (hl : l.length≤1000000) (hQ : ∀ X X',Q X→ZK q X q X'→Q X') (hf : ∀ X,Q X→∀ s∈l,∃ X',Yz (R n) f [strv s] X=some (.bool (p s),X')∧HLe X X') : ∀ (t j i : Nat) (cs : List (List UInt8)) (X : Zc),l.length - j=t→j≤l.length→i≤j→cs.length=l.length→cs.drop j=l.drop j→ZC X v (cs.map strv) q→Q X→
  ∃ (X' : Zc) (cs' : List (List UInt8)),Zj (c4 (ZL.l1 (R n))) [v,f,iv i,iv j] X=some (.ext 0 [v,iv (i+((l.drop j).filter fun s=>!p s).length : Nat)],X')∧ZC X' v (cs'.map strv) q∧cs'.length=l.length∧
   cs'.take (i+((l.drop j).filter fun s=>!p s).length)=cs.take i++(l.drop j).filter (fun s=>!p s)∧ZK q X q X'
 | 0,j,i,cs,X,ht,hj,hi,hc,hd,hr,hq=>by
  have : j=l.length:=by omega
  subst this
  rw [List.drop_length]
  have hlen : Zx v X=some (iv l.length,X):=by have:=hr.rd.len (H':=X);simpa [hc] using this
  refine ⟨X,cs,ZD ?_,hr,hc,by simp,.refl _ _⟩
  rw [ZA]
  unfold ZL.l1
  rw [Za hlen,Za Zg,Zb,if_neg (by simp)]
  rfl
 | t+1,j,i,cs,X,ht,hj,hi,hc,hd,hr,hq=>by
  have hjl : j < l.length:=by omega
  have hlt : (j : Int) < l.length:=by omega
  have hg:=List.getElem?_eq_getElem hjl
  have hm : l[j]∈l:=List.getElem_mem hjl
  have hdl:=List.drop_eq_getElem_cons hjl
  generalize l[j]=x at hg hdl hm
  have hgc : cs[j]?=some x:=by
   have h1 : (cs.drop j)[0]?=(l.drop j)[0]?:=by rw [hd]
   simpa [hg] using h1
  have hlen : Zx v X=some (iv l.length,X):=by have:=hr.rd.len (H':=X);simpa [hc] using this
  have x1:=hr.ix (i:=j) (by simpa [hc] using hjl) .i64 X
  have x2:=hr.ldx (Q3 hgc)
  obtain ⟨Y,x3,ly⟩:=hf X hq x hm
  have hqy:=hQ _ _ hq (ly.stepq (q:=q))
  have hry:=hr.step ly.step (by simp)
  have hd1 : cs.drop (j+1)=l.drop (j+1):=by
   rw [← List.drop_drop,hd,List.drop_drop]
  rw [hdl,List.filter_cons]
  cases hp : p x
  ·rw [hp] at x3
   have x4:=hry.ix (i:=i) (by simp [hc];omega) .i64 Y
   obtain ⟨X1,x5,r1,s1,_⟩:=hry.stx (i:=i) (u:=strv x) (by simp [hc];omega) rfl
   have hset : (cs.map strv).set i (strv x)=(cs.set i x).map strv:=by rw [List.map_set]
   rw [hset] at r1
   obtain ⟨X',cs',e,r',hc',ht',s'⟩:=ZjF hl hQ hf t (j+1) (i+1) (cs.set i x) X1 (by omega) (by omega) (by omega) (by simpa using hc) (by rw [List.drop_set_of_lt (by omega)];exact hd1) r1 (hQ _ _ hqy s1)
   have hn : i+1+((l.drop (j+1)).filter fun s=>!p s).length=i+(((l.drop (j+1)).filter fun s=>!p s).length+1):=by omega
   rw [hn] at e ht'
   simp only [Bool.not_false,if_true,List.length_cons]
   refine ⟨X',cs',(Zv ?_).trans e,r',hc',?_,(ly.stepq.trans s1).trans s'⟩
   ·rw [ZA]
    unfold ZL.l1
    rw [Za hlen,Za Zg,Zb,if_pos (by simpa using hlt),Za x1,Za x2,Za x3,Za ZE]
    refine (Ka (vs:=[v,f,iv ((i+1 : Nat) : Int),iv j]) (H':=X1) ?_).trans ?_
    ·rw [Zb,if_pos (by rfl),Za x4,Za x5,Za Zs,Qb (by omega)];rfl
    ·rw [ZA,Za Zs,Qb (by omega)];rfl
   ·rw [ht']
    have : (cs.set i x).take (i+1)=cs.take i++[x]:=by
     have hil : i < (cs.set i x).length:=by simp [hc];omega
     rw [List.take_succ_eq_append_getElem hil,List.take_set_of_le (Nat.le_refl _)]
     simp
    rw [this];simp
  ·rw [hp] at x3
   obtain ⟨X',cs',e,r',hc',ht',s'⟩:=ZjF hl hQ hf t (j+1) i cs Y (by omega) (by omega) (by omega) hc hd1 hry hqy
   simp only [Bool.not_true,Bool.false_eq_true,if_false]
   refine ⟨X',cs',(Zv ?_).trans e,r',hc',ht',ly.stepq.trans s'⟩
   rw [ZA]
   unfold ZL.l1
   rw [Za hlen,Za Zg,Zb,if_pos (by simpa using hlt),Za x1,Za x2,Za x3,Za ZE]
   refine (Ka (vs:=[v,f,iv i,iv j]) (H':=Y) ?_).trans ?_
   ·rw [Zb,if_neg (by simp)];rfl
   ·rw [ZA,Za Zs,Qb (by omega)];rfl
theorem Zkt (hr : ZC H v (l.map strv) q) (hl : l.length≤1000000) (hQ : ∀ X X',Q X→ZK q X q X'→Q X') (hf : ∀ X,Q X→∀ s∈l,∃ X',Yz (R n) f [strv s] X=some (.bool (p s),X')∧HLe X X') (hf1 : ∀ X,Q X→∀ s∈l,∃ X',Yz (R (n+1)) f [strv s] X=some (.bool (p s),X')∧HLe X X') (h0 : Q H) :
  ∃ H' v',R (n+2) Qv [v,f] H=some (v',H')∧ZC H' v' ((l.filter fun s=>!p s).map strv) q∧ZK q H q H':=by
 obtain ⟨Y,e1,ly⟩:=ZoJ hr hl (fun X X' hq hx=>hQ X X' hq hx.stepq) hf h0
 have e1 : run Tryz.prog np lvs (n+1) Jg [v,f] H=_:=e1
 have hry:=hr.step ly.step (by simp)
 have hqy:=hQ _ _ h0 (ly.stepq (q:=q))
 have hfi:=Ze0 (p:=p) (l:=l)
 have hrun : R (n+2) Qv [v,f] H=ZL (R (n+1)) v f H:=by rw [R,ZaN rfl]
 rw [hrun]
 unfold ZL
 cases h : l.findIdx? p with
 | none=>
  rw [h] at e1 hfi
  refine ⟨Y,v,?_,by rw [hfi];exact hry,ly.stepq⟩
  rw [Za e1,Za ZH,Zb,if_pos (by simp)]
  rfl
 | some i=>
  rw [h] at e1 hfi
  simp only at e1 hfi
  obtain ⟨X',cs',e2,r2,hc2,ht2,s2⟩:=ZjF (n:=n+1) hl hQ hf1 (l.length - (i+1)) (i+1) i l Y rfl (by omega) (by omega) rfl rfl hry hqy
  have hle : ((l.drop (i+1)).filter fun s=>!p s).length≤l.length - (i+1):=by
   have:=List.length_filter_le (fun s=>!p s) (l.drop (i+1))
   simpa using this
  obtain ⟨a,X2,v',a1,a2,a3,a4,a5⟩:=Zoy r2 (i:=i+((l.drop (i+1)).filter fun s=>!p s).length) (by omega)
  refine ⟨X2,v',?_,by rw [hfi.1,← ht2];exact a4,(ly.stepq.trans s2).trans a5⟩
  rw [Za e1,Za ZH,Zb,if_neg (by simp),Za Zs,Qb (by omega),ZM e2,Zu,Z4,Za a1,Za a2,Za a3]
  rfl
end
abbrev Tx:=List UInt8
def Asc (l : List Tx) : Prop:=l.Pairwise (· < ·)
theorem Zgg {a : Tx} : ¬ a < a:=List.lt_irrefl a
theorem ZmX : ∀ {l l' : List Tx},Asc l→Asc l'→(∀ x,x∈l↔x∈l')→l=l'
 | [],[],_,_,_=>rfl
 | [],b :: l',_,_,h=>by have:=(h b).2 (by simp);cases this
 | a :: l,[],_,_,h=>by have:=(h a).1 (by simp);cases this
 | a :: l,b :: l',h1,h2,h=>by
  obtain ⟨a1,a2⟩:=List.pairwise_cons.1 h1
  obtain ⟨b1,b2⟩:=List.pairwise_cons.1 h2
  have hab : a=b:=by
   rcases List.mem_cons.1 ((h a).1 (by simp)) with e | e
   ·exact e
   ·rcases List.mem_cons.1 ((h b).2 (by simp)) with e' | e'
    ·exact e'.symm
    ·exact absurd (List.lt_trans (b1 a e) (a1 b e')) Zgg
  subst hab
  congr 1
  refine ZmX a2 b2 fun x=>⟨fun hx=>?_,fun hx=>?_⟩
  ·rcases List.mem_cons.1 ((h x).1 (List.mem_cons_of_mem _ hx)) with e | e
   ·subst e;exact absurd (a1 _ hx) Zgg
   ·exact e
  ·rcases List.mem_cons.1 ((h x).2 (List.mem_cons_of_mem _ hx)) with e | e
   ·subst e;exact absurd (b1 _ hx) Zgg
   ·exact e
theorem Zf6 {l : List Tx} (hn : l.Nodup) : Asc (JI l):=by
 have h1 : (JI l).Pairwise (fun a b=>leB a b=true):=List.pairwise_mergeSort (fun a b c h h'=>by
  simp only [leB,decide_eq_true_eq] at *
  exact List.le_trans h h') (fun a b=>by
  simp only [leB,Bool.or_eq_true,decide_eq_true_eq]
  exact List.le_total a b) l
 have h2 : (JI l).Nodup:=((List.mergeSort_perm l _).nodup_iff).2 hn
 unfold Asc
 have h3:=h1.and h2
 refine h3.imp fun {a b} h=>?_
 obtain ⟨h4,h5⟩:=h
 simp only [leB,decide_eq_true_eq] at h4
 exact Decidable.byContradiction fun h6=>h5 (List.le_antisymm h4 (List.not_lt.1 h6))
theorem W3 {l : List Tx} {x : Tx} : x∈JI l↔x∈l:=List.mem_mergeSort
structure Is (l : List Tx) (p : Tx→Prop) : Prop where
 asc : Asc l
 mem : ∀ x,x∈l↔p x
theorem Is.uniq {l l' : List Tx} {p p' : Tx→Prop} (h : Is l p) (h' : Is l' p') (hp : ∀ x,p x↔p' x) : l=l':=ZmX h.asc h'.asc fun x=>(h.mem x).trans ((hp x).trans (h'.mem x).symm)
theorem Is.nil {l : List Tx} {p : Tx→Prop} (h : Is l p) : l=[]↔∀ x,¬ p x:=by
 constructor
 ·rintro rfl x hx;have:=(h.mem x).2 hx;cases this
 ·intro hx;exact List.eq_nil_iff_forall_not_mem.2 fun x hm=>hx x ((h.mem x).1 hm)
theorem Asc.nodup {l : List Tx} (h : Asc l) : l.Nodup:=h.imp fun {a b} hab e=>by subst e;exact Zgg hab
theorem Asc.filter {l : List Tx} (h : Asc l) (p : Tx→Bool) : Asc (l.filter p):=List.Pairwise.filter p h
end Go.Proofs.YtnnehafmjfmbnaaGreatDoor.A
namespace Go.Proofs.YtnnehafmjfmbnaaGreatDoor.A
set_option linter.unusedVariables false
set_option linter.unusedSimpArgs false
open Go.Proofs Go.Proofs.YtnnehafmjfmbnaaGreatDoor
abbrev ZrV (s : Nat) : Value:=.map (some s)
abbrev ZkH (_ : Unit) : Value:=.agg #[]
abbrev ZeS:=List (Tx × Nat)
abbrev ZpX:=List (Tx × Unit)
abbrev Mem:=Tx→Tx→Bool
abbrev Ju (o : Nat) (G : ZeS) : List Nat:=o :: G.map (·.2)
abbrev Z6 (G : ZeS) : List Tx:=G.map (·.1)
structure Grp (X : Zc) (g o : Nat) (G : ZeS) (mem : Mem) (c : Nat) : Prop where
 cell : X[g]?=some (.cells [.map (some o)] 1 false false)
 mo : Js ZrV X o G
 ms : ∀ p∈G,∃ S : ZpX,Js ZkH X p.2 S∧(∀ n,(Ze n S).isSome=mem p.1 n)∧S.length≤c∧∀ q∈S,Zo q.1=true
 out : ∀ k n,mem k n=true→(Ze k G).isSome=true
 nod : (Ju o G).Nodup
 ok : ∀ p∈G,Zo p.1=true
 few : G.length≤6
theorem ZeG {α : Type} {k : Tx} : ∀ {m : List (Tx × α)},(Ze k m).isSome=decide (k∈m.map (·.1))
 | []=>rfl
 | p :: m=>by
  simp only [Ze,List.map_cons,List.mem_cons]
  by_cases h : p.1=k
  ·rw [if_pos h];simp [h]
  ·rw [if_neg h,ZeG]
   have : k≠p.1:=Ne.symm h
   simp [this]
section
variable {X X' : Zc} {n g o c c' : Nat} {G : ZeS} {mem mem' : Mem} {k m s t : Tx}
theorem Grp.isMap (h : Grp X g o G mem c) {j : Nat} (hj : j∈Ju o G) : j < X.length∧∀ cs es gr ro,X[j]?≠some (.cells cs es gr ro):=by
 have key : ∀ {α : Type} {enc : α→Value} {id : Nat} {mm : List (Tx × α)},Js enc X id mm→id < X.length∧∀ cs es gr ro,X[id]?≠some (.cells cs es gr ro):=fun hm=>⟨hm.lt,fun cs es gr ro e=>by
  obtain ⟨es',_,h1 | h1⟩:=hm.ex
  ·obtain ⟨clk,h1,_⟩:=h1;rw [e] at h1;cases h1
  ·rw [e] at h1;cases h1⟩
 rcases List.mem_cons.1 hj with rfl | hj
 ·exact key h.mo
 ·obtain ⟨p,hp,rfl⟩:=List.mem_map.1 hj
  obtain ⟨S,hS,_⟩:=h.ms p hp
  exact key hS
theorem Grp.gnot (h : Grp X g o G mem c) : g∉Ju o G:=fun hj=>(h.isMap hj).2 _ _ _ _ h.cell
theorem Grp.glt (h : Grp X g o G mem c) : g < X.length:=Yv h.cell
theorem Grp.step {o1 o2 : List Nat} (h : Grp X g o G mem c) (hs : ZK o1 X o2 X') (hg : g∉o1) (ho : ∀ j∈Ju o G,j∉o1) : Grp X' g o G mem c:=
 ⟨hs.get h.cell hg,h.mo.step hs (ho o (by simp)),fun p hp=>by
  obtain ⟨S,h1,h2⟩:=h.ms p hp
  exact ⟨S,h1.step hs (ho p.2 (List.mem_cons_of_mem _ (List.mem_map.2 ⟨p,hp,rfl⟩))),h2⟩,h.out,h.nod,h.ok,h.few⟩
theorem Grp.hle (h : Grp X g o G mem c) (hl : HLe X X') : Grp X' g o G mem c:=h.step hl.step (by simp) (by simp)
theorem Grp.more (h : Grp X g o G mem c) (hc : c≤c') (hm : ∀ k n,mem' k n=mem k n) : Grp X g o G mem' c':=
 ⟨h.cell,h.mo,fun p hp=>by
  obtain ⟨S,h1,h2,h3,h4⟩:=h.ms p hp
  exact ⟨S,h1,fun n=>(h2 n).trans (hm _ _).symm,Nat.le_trans h3 hc,h4⟩,fun k n hk=>h.out k n (by rw [← hm];exact hk),h.nod,h.ok,h.few⟩
theorem Grp.ldo (h : Grp X g o G mem c) : ld1 (pt g) X=some (.map (some o),X):=Zjg h.cell
theorem Grp.upd (h : Grp X g o G mem c) {id : Nat} {S' : ZpX} (hk : Ze k G=some id) (hm : Js ZkH X' id S') (hs : ZK [id] X [id] X') (hn : ∀ q∈S',Zo q.1=true) (hc : S'.length≤c') (hcc : c≤c')
  (hmem : ∀ k' n,mem' k' n=if k'=k then (Ze n S').isSome else mem k' n) : Grp X' g o G mem' c':=by
 have hpm:=K6 hk
 have hnod:=h.nod
 simp only [List.nodup_cons] at hnod
 have hidm : id∈G.map (·.2):=List.mem_map.2 ⟨_,hpm,rfl⟩
 have hido : o≠id:=fun e=>hnod.1 (e ▸ hidm)
 have hidg : g≠id:=fun e=>h.gnot (e ▸ List.mem_cons_of_mem _ hidm)
 refine ⟨hs.get h.cell (by simpa using hidg),h.mo.step hs (by simpa using hido),fun p hp=>?_,fun k' n hk'=>?_,h.nod,h.ok,h.few⟩
 ·by_cases hpid : p.2=id
  ·have hpk : p.1=k:=by
    have h1 : Ze p.1 G=some p.2:=Zax h.mo.nod hp
    have hinj : ∀ (G : ZeS),(G.map (·.2)).Nodup→p∈G→(k,id)∈G→p=(k,id):=by
     intro G hG h1 h2
     induction G with
     | nil=>cases h1
     | cons a G ih=>
      simp only [List.map_cons,List.nodup_cons,List.mem_map,not_exists,not_and] at hG
      rcases List.mem_cons.1 h1 with e1 | e1
      ·rcases List.mem_cons.1 h2 with e2 | e2
       ·rw [e1,e2]
       ·exact absurd (by rw [← e1];exact hpid.symm) (hG.1 _ e2)
      ·rcases List.mem_cons.1 h2 with e2 | e2
       ·exact absurd (by rw [← e2];exact hpid) (hG.1 _ e1)
       ·exact ih hG.2 e1 e2
    rw [hinj G hnod.2 hp hpm]
   exact ⟨S',by rw [hpid];exact hm,fun n=>by rw [hmem,if_pos hpk],hc,hn⟩
  ·obtain ⟨S,h1,h2,h3,h4⟩:=h.ms p hp
   have hpk : p.1≠k:=fun e=>hpid (by
    have h5 : Ze p.1 G=some p.2:=Zax h.mo.nod hp
    rw [e,hk] at h5;exact (Option.some.inj h5).symm)
   exact ⟨S,h1.step hs (by simpa using hpid),fun n=>by rw [hmem,if_neg hpk];exact h2 n,Nat.le_trans h3 hcc,h4⟩
 ·rw [hmem] at hk'
  by_cases e : k'=k
  ·rw [e,hk];rfl
  ·rw [if_neg e] at hk';exact h.out k' n hk'
theorem Grp.step1 (h : Grp X g o G mem c) {id : Nat} (hk : Ze k G=some id) (hs : ZK [id] X [id] X') : ZK (Ju o G) X (Ju o G) X':=
 hs.more (fun j hj=>by
  have hj : j=id:=by simpa using hj
  subst hj
  exact List.mem_cons_of_mem _ (List.mem_map.2 ⟨_,K6 hk,rfl⟩)) (fun j hj=>.inl hj)
theorem Grp.set (h : Grp X g o G mem c) {id : Nat} (hk : Ze k G=some id) : ∃ S : ZpX,Js ZkH X id S∧(∀ n,(Ze n S).isSome=mem k n)∧S.length≤c∧∀ q∈S,Zo q.1=true:=h.ms _ (K6 hk)
theorem Grp.key (h : Grp X g o G mem c) : (Ze k G).isSome=decide (k∈Z6 G):=ZeG
theorem Zj6 {v : Value} {l : List Tx} (hl : l.length≤1000) (hs : Sl X v (l.map strv)) : ∀ (t j : Nat),l.length - j=t→j≤l.length→
  Zj (c3 (YG.l1 (R (n+5)))) [v,iv l.length,iv j] X=some (if (l.drop j).all Zo then .ext 0 [] else .ret (iv 10),X)
 | 0,j,ht,hj=>by
  rw [List.drop_eq_nil_of_le (by omega)]
  refine ZD ?_
  rw [ZN,show j=l.length by omega]
  unfold YG.l1
  rw [Za Zg,Zb,if_neg (by simp)]
  rfl
 | t+1,j,ht,hj=>by
  have hkl : j < l.length:=by omega
  have hlt : (j : Int) < l.length:=by omega
  have hg:=List.getElem?_eq_getElem hkl
  have hd:=List.drop_eq_getElem_cons hkl
  generalize l[j]=x at hg hd
  have x1:=hs.ix (i:=j) (by simpa using hkl) .i64 X
  have x2:=hs.ldx (Q3 hg)
  have x3 : R (n+5) Q7 [strv x] X=some (iv (ZS x),X):=ZbO
  rw [hd,List.all_cons]
  cases hx : Zo x
  ·refine ZU ?_
   rw [ZN]
   unfold YG.l1
   rw [Za Zg,Zb,if_pos (by simpa using hlt),Za x1,Za x2,Za x3,show ZS x=10 by unfold ZS;rw [hx];rfl,Za Zn,Zb,if_pos (by simp)]
   rfl
  ·refine (Zv ?_).trans (Zj6 hl hs t (j+1) (by omega) (by omega))
   rw [ZN]
   unfold YG.l1
   rw [Za Zg,Zb,if_pos (by simpa using hlt),Za x1,Za x2,Za x3,show ZS x=0 by unfold ZS;rw [hx];rfl,Za Zn,Zb,if_neg (by simp),Za Zs,Qb (by omega)]
   rfl
def ZaU (l : List Tx) : Int:=if l.all Zo then 0 else 10
theorem ZlT {v : Value} {l : List Tx} (hl : l.length≤1000) (hs : Sl X v (l.map strv)) : R (n+6) KB [v] X=some (iv (ZaU l),X):=by
 have e:=Zj6 (n:=n) hl hs l.length 0 (by omega) (by omega)
 rw [show iv ((0 : Nat) : Int)=.int .i64 0 from rfl,List.drop_zero] at e
 have hlen : Zx v X=some (iv l.length,X):=by have:=hs.len (H':=X);simpa using this
 rw [R,Zje rfl]
 unfold YG ZaU
 rw [Za hlen]
 by_cases h : l.all Zo=true
 ·rw [if_pos h] at e ⊢
  rw [ZM e,Zu];rfl
 ·rw [if_neg h] at e ⊢
  rw [Qr e];rfl
def Jr (k : Tx) (ms : List Tx) (K : List Tx) : Int:=if (k :: ms).all Zo then (if k∈K then 0 else 8) else 10
theorem ZmN (h : Grp X g o G mem c) {mv : Value} {ms : List Tx} (hml : ms.length≤5)
  (hrow : ∃ w X1 v X2,bsl 1 1 (.string ⟨#[]⟩) [(0,1,strv k)] X=some (w,X1)∧app 1 16 w mv X1=some (v,X2)∧Sl X2 v ((k :: ms).map strv)∧HLe X X2) :
  ∃ X',R (n+7) J6 [pt g,strv k,mv] X=some (.tuple #[.map (if Jr k ms (Z6 G)=0 then Ze k G else none),iv (Jr k ms (Z6 G))],X')∧HLe X X':=by
 obtain ⟨w,X1,v,X2,e1,e2,s2,l2⟩:=hrow
 have e3 : R (n+6) KB [v] X2=_:=ZlT (n:=n) (l:=k :: ms) (by simp;omega) s2
 have h2:=h.hle l2
 refine ⟨X2,?_,l2⟩
 rw [R,Zfe rfl]
 unfold Zat Jr
 rw [Za e1,Za e2,Za e3]
 unfold ZaU
 by_cases hn : (k :: ms).all Zo=true
 ·rw [if_pos hn,if_pos hn]
  have e4:=h2.mo.lkp (k:=k) (z:=.map none) (ok:=true)
  have hkey:=h2.key (k:=k)
  rw [Za Zn,Zb,if_neg (by simp),Za Zw,Za Zk,Za h2.ldo]
  cases hk : Ze k G with
  | none=>
   rw [hk] at e4 hkey
   have hnk : ¬ k∈Z6 G:=by simpa using hkey.symm
   rw [if_neg hnk,if_neg (by decide)]
   simp only [cond_true] at e4
   rw [Za e4,Za Zq,Za Zp,Za ZE,Zb,if_pos (by rfl)]
   rfl
  | some id=>
   rw [hk] at e4 hkey
   have hnk : k∈Z6 G:=by simpa using hkey.symm
   rw [if_pos hnk,if_pos rfl]
   simp only [cond_true] at e4
   rw [Za e4,Za Zq,Za Zp,Za ZE,Zb,if_neg (by simp)]
   rfl
 ·rw [if_neg hn,if_neg hn,Za Zn,Zb,if_pos (by rfl)]
  rfl
theorem Znf {x : Tx} {H : Zc} : bsl 1 1 (.string ⟨#[]⟩) [(0,1,strv x)] H=some (.slice (some ⟨H.length,0,none⟩) 1 1,H++[.cells [strv x] 1 false false]):=ZrS rfl rfl rfl
theorem Ziq {x : Tx} {H : Zc} : ZC (H++[.cells [strv x] 1 false false]) (.slice (some ⟨H.length,0,none⟩) 1 1) ([x].map strv) [H.length]:=.inr ⟨H.length,[],false,rfl,rfl,by rw [ZZ];rfl⟩
theorem ZqB {b : Nat} {sl : Value} {vs : List Value} {q : List Nat} (h : ZC X sl vs q) : app 1 b sl (.slice none 0 0) X=some (sl,X):=by
 rcases h with ⟨rfl,rfl,rfl⟩ | ⟨sid,rest,gr,rfl,rfl,hid⟩
 ·rfl
 ·unfold app
  simp only [Qq,flen,hid,Nat.add_zero,Nat.le_add_right,if_true]
theorem ZpM (h : Grp X g o G mem c) : ∃ X',R (n+7) J6 [pt g,strv k,.slice none 0 0] X=some (.tuple #[.map (if Jr k [] (Z6 G)=0 then Ze k G else none),iv (Jr k [] (Z6 G))],X')∧HLe X X':=
 ZmN h (by simp) ⟨_,_,_,_,Znf,ZqB Ziq,Ziq.rd,.app _ _⟩
theorem Zqd (h : Grp X g o G mem c) {mv : Value} (hm : Sl X mv [strv m]) : ∃ X',R (n+7) J6 [pt g,strv k,mv] X=some (.tuple #[.map (if Jr k [m] (Z6 G)=0 then Ze k G else none),iv (Jr k [m] (Z6 G))],X')∧HLe X X':=by
 have l1 : HLe X (X++[.cells [strv k] 1 false false]):=.app _ _
 obtain ⟨v,X2,q,e2,r2,s2,_⟩:=(Ziq (x:=k) (H:=X)).push (b:=16) (hm.mono l1) (by simp) (by simp)
 have l2:=(l1.more s2 (by simp)).1
 exact ZmN h (by simp) ⟨_,_,_,_,Znf,e2,r2.rd,l2⟩
theorem Zru : ∃ X' g o,R (n+1) ZcS [] X=some (pt g,X')∧Grp X' g o [] (fun _ _=>false) 0∧HLe X X'∧X.length≤g∧X.length≤o:=by
 obtain ⟨H1,e1,g1,l1⟩:=Zne (α:=Nat) (enc:=ZrV) X
 have e2 : bld (.agg #[.map none]) [(0,1,.map (some X.length))] H1=some (.agg #[.map (some X.length)],H1):=by simp [↓ZV,ZW,↓Qo,Qd,Qc,Qe,↓Zb,JA,Zw,JM,Qa,Jd,Qi,Jf,Q1,Qw,Jb,Qx,QK,QO,QN,Je,Zh,ZE,Yt,J5,QX,QS,JE,Zs,Qk,Jy,Jx,JD,ZH,Zn,Zg,QI,ZR,Ql,Jt,Jn,Jp,Jz,↓Yq,JF,↓g_r,Yr,YS,Wq,splice,Value.cells]
 have e3 : alc 1 (.agg #[.map (some X.length)]) H1=some (pt H1.length,H1++[.cells [.map (some X.length)] 1 false false]):=by
  rw [QK];simp [Value.cells,oneCell]
 refine ⟨H1++[.cells [.map (some X.length)] 1 false false],H1.length,X.length,?_,⟨ZZ,g1.hle (.app _ _),by simp,by simp,by simp,by simp,by simp⟩,l1.trans (.app _ _),l1.len,Nat.le_refl _⟩
 rw [R,Zk1 rfl]
 unfold Zew
 rw [Za e1,Za e2,Za e3]
 rfl
def YZ (k : Tx) (K : List Tx) : Int:=if Zo k then (if k∈K then 9 else if 6≤K.length then 7 else 0) else 10
def Zev (k : Tx) (K : List Tx) : List Tx:=if YZ k K=0 then K++[k] else K
theorem ZqP (h : Grp X g o G mem c) : ∃ X' G',R (n+8) J9 [pt g,strv k] X=some (iv (YZ k (Z6 G)),X')∧Grp X' g o G' mem c∧Z6 G'=Zev k (Z6 G)∧ZK (Ju o G) X (Ju o G') X':=by
 obtain ⟨X1,e1,l1⟩:=ZpM (n:=n) (k:=k) h
 have h1:=h.hle l1
 have f1 : ∀ r X',JL (R (n+7)) (pt g) (strv k) X=some (r,X')→R (n+8) J9 [pt g,strv k] X=some (r,X'):=fun r X' hr=>by rw [R,Zfg rfl];exact hr
 have same : ∀ e,YZ k (Z6 G)=e→e≠0→(JL (R (n+7)) (pt g) (strv k) X=some (iv e,X1))→∃ X' G',R (n+8) J9 [pt g,strv k] X=some (iv (YZ k (Z6 G)),X')∧Grp X' g o G' mem c∧Z6 G'=Zev k (Z6 G)∧ZK (Ju o G) X (Ju o G') X':=fun e he hne hr=>by
  refine ⟨X1,G,by rw [he];exact f1 _ _ hr,h1,?_,l1.stepq⟩
  unfold Zev;rw [if_neg (by rw [he];exact hne)]
 cases hn : Zo k
 ·have hE : YZ k (Z6 G)=10:=by unfold YZ;rw [hn];rfl
  have hF : Jr k [] (Z6 G)=10:=by unfold Jr;simp [hn]
  rw [hF] at e1
  refine same _ hE (by decide) ?_
  unfold JL
  rw [Za e1,Za Zq,Za Zp,Za ZH,Zb,if_neg (by decide),Za Zn,Zb,if_pos (by decide)]
  rfl
 ·by_cases hk : k∈Z6 G
  ·have hE : YZ k (Z6 G)=9:=by unfold YZ;rw [hn,if_pos rfl,if_pos hk]
   have hF : Jr k [] (Z6 G)=0:=by unfold Jr;simp [hn,hk]
   rw [hF] at e1
   refine same _ hE (by decide) ?_
   unfold JL
   rw [Za e1,Za Zq,Za Zp,Za ZH,Zb,if_pos (by decide)]
   rfl
  ·have hF : Jr k [] (Z6 G)=8:=by unfold Jr;simp [hn,hk]
   rw [hF] at e1
   have hkl : (Z6 G).length=G.length:=by simp
   by_cases hl : 6≤(Z6 G).length
   ·have hE : YZ k (Z6 G)=7:=by unfold YZ;rw [hn,if_pos rfl,if_neg hk,if_pos hl]
    refine same _ hE (by decide) ?_
    unfold JL
    rw [Za e1,Za Zq,Za Zp,Za ZH,Zb,if_neg (by decide),Za Zn,Zb,if_neg (by decide),Za Zw,Za Zk,Za h1.ldo,Za h1.mo.len,Za Ql,Zb,if_pos (by simp;omega)]
    rfl
   ·have hE : YZ k (Z6 G)=0:=by unfold YZ;rw [hn,if_pos rfl,if_neg hk,if_neg hl]
    obtain ⟨X2,e2,m2,l2⟩:=Zne (α:=Unit) (enc:=ZkH) X1
    have h2:=h1.hle l2
    have hkn : Ze k G=none:=by
     have:=h.key (k:=k)
     cases ha : Ze k G with
     | none=>rfl
     | some v=>rw [ha] at this;exact absurd (by simpa using this.symm) hk
    obtain ⟨X3,e3,m3,s3,len3⟩:=h2.mo.mup (k:=k) (v:=X1.length)
    have ha : Qz k X1.length G=G++[(k,X1.length)]:=by unfold Qz;rw [hkn];rfl
    rw [ha] at m3
    have hlt : ∀ j∈Ju o G,j < X1.length:=fun j hj=>(h1.isMap hj).1
    refine ⟨X3,G++[(k,X1.length)],?_,?_,?_,?_⟩
    ·rw [hE]
     refine f1 _ _ ?_
     unfold JL
     rw [Za e1,Za Zq,Za Zp,Za ZH,Zb,if_neg (by decide),Za Zn,Zb,if_neg (by decide),Za Zw,Za Zk,Za h1.ldo,Za h1.mo.len,Za Ql,Zb,if_neg (by simp;omega),Za Zw,Za Zk,Za h1.ldo,Za e2,Za e3]
     rfl
    ·have hgo : g≠o:=fun e=>h.gnot (by rw [e];simp)
     have hoid : ∀ p∈G,p.2≠o:=fun p hp e=>by
      have:=h.nod
      simp only [List.nodup_cons] at this
      exact this.1 (List.mem_map.2 ⟨p,hp,e⟩)
     refine ⟨s3.get h2.cell (by simpa using hgo),m3,fun p hp=>?_,fun k' n' hk'=>?_,?_,fun p hp=>?_,by simp;omega⟩
     ·rcases List.mem_append.1 hp with hp | hp
      ·obtain ⟨S,h5,h6⟩:=h2.ms p hp
       exact ⟨S,h5.step s3 (by simpa using hoid p hp),h6⟩
      ·have : p=(k,X1.length):=by simpa using hp
       subst this
       refine ⟨[],m2.step s3 (by have:=hlt o (by simp);simp;omega),fun n'=>?_,Nat.zero_le _,by simp⟩
       cases hb : mem k n' with
       | false=>rfl
       | true=>have:=h.out k n' hb;rw [hkn] at this;cases this
     ·rw [Zb1]
      have:=h.out k' n' hk'
      cases hg : Ze k' G with
      | none=>rw [hg] at this;cases this
      | some v=>rfl
     ·have : Ju o (G++[(k,X1.length)])=Ju o G++[X1.length]:=by simp
      rw [this,List.nodup_append]
      refine ⟨h.nod,by simp,fun a ha b hb e=>?_⟩
      have:=hlt a ha
      have hb : b=X1.length:=by simpa using hb
      omega
     ·rcases List.mem_append.1 hp with hp | hp
      ·exact h.ok p hp
      ·have : p=(k,X1.length):=by simpa using hp
       subst this;exact hn
    ·unfold Zev;rw [if_pos hE];simp
    ·have s:=(l1.trans l2).stepq (q:=Ju o G)
     have s:=s.trans (s3.more (o2:=Ju o G) (o2':=Ju o G) (by simp) (fun j hj=>.inl hj))
     refine ⟨s.len,s.keep,fun j hj=>?_⟩
     ·have : Ju o (G++[(k,X1.length)])=Ju o G++[X1.length]:=by simp
      rw [this] at hj
      rcases List.mem_append.1 hj with hj | hj
      ·exact .inl hj
      ·have hj : j=X1.length:=by simpa using hj
       exact .inr (by rw [hj];exact l1.len)
def Zjy (k : Tx) (K : List Tx) : Int:=if Zo k then (if k∈K then 0 else 8) else 10
def Zsk (k : Tx) (K : List Tx) : List Tx:=if Zjy k K=0 then K.filter (fun x=>decide (x≠k)) else K
def ZiW (k : Tx) (mem : Mem) : Mem:=fun k' n=>mem k' n && !(k'==k)
end
end Go.Proofs.YtnnehafmjfmbnaaGreatDoor.A
namespace Go.Proofs.YtnnehafmjfmbnaaGreatDoor.A
set_option linter.unusedVariables false
set_option linter.unusedSimpArgs false
open Go.Proofs Go.Proofs.YtnnehafmjfmbnaaGreatDoor
theorem Zem {α : Type} {k : Tx} {v : α} {m : List (Tx × α)} {q : Tx × α} (h : q∈Qz k v m) : q=(k,v)∨q∈m:=by
 unfold Qz at h
 split at h
 ·obtain ⟨p,hp,rfl⟩:=List.mem_map.1 h
  by_cases e : p.1=k
  ·rw [if_pos e];exact .inl rfl
  ·rw [if_neg e];exact .inr hp
 ·rcases List.mem_append.1 h with h | h
  ·exact .inr h
  ·exact .inl (by simpa using h)
section
variable {X X' : Zc} {n g o c c' : Nat} {G : ZeS} {mem mem' : Mem} {k m s t : Tx}
def ZbH (k m : Tx) (K : List Tx) (mem : Mem) : Int:=if Jr k [m] K=0 then (if mem k m then 9 else 0) else Jr k [m] K
def ZpR (k m : Tx) (K : List Tx) (mem : Mem) : Int:=if Jr k [m] K=0 then (if mem k m then 0 else 12) else Jr k [m] K
def ZiJ (k m : Tx) (mem : Mem) : Mem:=fun k' n=>mem k' n || (k'==k && n==m)
def Zr1 (k m : Tx) (mem : Mem) : Mem:=fun k' n=>mem k' n && !(k'==k && n==m)
theorem Znh {k m : Tx} {K : List Tx} (h : Jr k [m] K=0) : Zo k=true∧Zo m=true∧k∈K:=by
 unfold Jr at h
 by_cases h1 : (k :: [m]).all Zo=true
 ·rw [if_pos h1] at h
  simp only [List.all_cons,List.all_nil,Bool.and_true,Bool.and_eq_true] at h1
  by_cases h2 : k∈K
  ·exact ⟨h1.1,h1.2,h2⟩
  ·rw [if_neg h2] at h;cases h
 ·rw [if_neg h1] at h;cases h
theorem Zrs {H : Zc} : bld (.agg #[]) [] H=some (.agg #[],H):=by simp [↓ZV,ZW,↓Qo,Qd,Qc,Qe,↓Zb,JA,Zw,JM,Qa,Jd,Qi,Jf,Q1,Qw,Jb,Qx,QK,QO,QN,Je,Zh,ZE,Yt,J5,QX,QS,JE,Zs,Qk,Jy,Jx,JD,ZH,Zn,Zg,QI,ZR,Ql,Jt,Jn,Jp,Jz,↓Yq,JF,↓g_r,Yr,YS,Wq,splice,Value.cells]
theorem Grp.has (h : Grp X g o G mem c) (hk : k∈Z6 G) : ∃ id,Ze k G=some id:=by
 have:=h.key (k:=k)
 cases ha : Ze k G with
 | none=>rw [ha] at this;exact absurd hk (by simpa using this.symm)
 | some v=>exact ⟨v,rfl⟩
theorem Zrd (h : Grp X g o G mem c) : ∃ X',R (n+8) YK [pt g,strv k,strv m] X=some (iv (ZbH k m (Z6 G) mem),X')∧Grp X' g o G (if ZbH k m (Z6 G) mem=0 then ZiJ k m mem else mem) (c+1)∧ZK (Ju o G) X (Ju o G) X':=by
 have l0 : HLe X (X++[.cells [strv m] 1 false false]):=.app _ _
 have s0:=(Ziq (x:=m) (H:=X)).rd
 have e0:=Znf (x:=m) (H:=X)
 generalize X++[Zi.cells [strv m] 1 false false]=X0 at l0 s0 e0
 obtain ⟨X1,e1,l1⟩:=Zqd (n:=n) (k:=k) (m:=m) (h.hle l0) s0
 have l01:=l0.trans l1
 have h1:=h.hle l01
 have f1 : ∀ r X',YM (R (n+7)) (pt g) (strv k) (strv m) X=some (r,X')→R (n+8) YK [pt g,strv k,strv m] X=some (r,X'):=fun r X' hr=>by rw [R,Zfd rfl];exact hr
 unfold ZbH
 by_cases hE : Jr k [m] (Z6 G)=0
 ·rw [hE] at e1 ⊢
  rw [if_pos rfl] at e1 ⊢
  obtain ⟨b1,b2,b3⟩:=Znh hE
  obtain ⟨id,hid⟩:=h.has b3
  rw [hid] at e1
  obtain ⟨S,m1,m2,m3,m4⟩:=h1.set hid
  have e2:=m1.lkp (k:=m) (z:=.agg #[]) (ok:=true)
  have l2 : HLe X1 (X1++[.cells [] 1 false false]):=.app _ _
  have hbox:=fun {K : Value→M Value}=>ZcQ (k:=K) (zs:=[]) (r:=[]) (n:=0) (H:=X1) rfl rfl rfl rfl
  have h2:=h1.hle l2
  have m1:=m1.hle l2
  generalize X1++[Zi.cells [] 1 false false]=X2 at hbox l2 h2 m1
  have hmm:=m2 m
  cases hg : Ze m S with
  | some u=>
   rw [hg] at hmm e2
   have hmm : mem k m=true:=hmm.symm
   rw [if_pos hmm,if_neg (by decide)]
   refine ⟨X2,f1 _ _ ?_,h2.more (Nat.le_succ _) (fun _ _=>rfl),(l01.trans l2).stepq⟩
   unfold YM
   simp only [cond_true] at e2
   rw [Za e0,Za e1,Za Zq,Za Zp,Za Zn,Zb,if_neg (by decide),Za e2,Za Zq,Za Zp]
   refine hbox.trans ?_
   rw [Zb,if_pos rfl]
   rfl
  | none=>
   rw [hg] at hmm e2
   have hmm : mem k m=false:=hmm.symm
   rw [if_neg (by simp [hmm]),if_pos rfl]
   simp only [cond_true] at e2
   obtain ⟨X3,e3,m5,s3,_⟩:=m1.mup (k:=m) (v:=())
   have hlen : (Qz m () S).length≤c+1:=by rw [ZbW,hg];simp;omega
   refine ⟨X3,f1 _ _ ?_,h2.upd hid m5 s3 (fun q hq=>?_) hlen (Nat.le_succ _) (fun k' n'=>?_),(l01.trans l2).stepq.trans (h2.step1 hid s3)⟩
   ·unfold YM
    rw [Za e0,Za e1,Za Zq,Za Zp,Za Zn,Zb,if_neg (by decide),Za e2,Za Zq,Za Zp]
    refine hbox.trans ?_
    rw [Zb,if_neg (by simp),Za Zrs,Za e3]
    rfl
   ·rcases Zem hq with rfl | hq
    ·exact b2
    ·exact m4 q hq
   ·unfold ZiJ
    by_cases hk : k'=k
    ·subst hk
     rw [if_pos rfl]
     by_cases hn : n'=m
     ·subst hn;rw [Kr];simp
     ·rw [YF hn,m2];simp [hn]
    ·rw [if_neg hk];simp [hk]
 ·rw [if_neg hE,if_neg hE]
  refine ⟨X1,f1 _ _ ?_,h1.more (Nat.le_succ _) (fun _ _=>rfl),l01.stepq⟩
  unfold YM
  rw [Za e0,Za e1,Za Zq,Za Zp,Za Zn,Zb,if_pos (by simpa using hE)]
  rfl
theorem Zol (h : Grp X g o G mem c) : ∃ v q X',R (n+3) Yp [pt g] X=some (v,X')∧ZC X' v ((JI (Z6 G)).map strv) q∧HLe X X'∧∀ j∈q,X.length≤j:=by
 have e1 : R (n+1) QC [.map (some o)] X=some (.func (.func Jl) #[] #[pt X.length],X++[.cells [.map (some o)] 1 false false]):=by
  rw [R,Wa rfl]
  unfold Jq
  rw [Za (ZkC rfl rfl _)]
  rfl
 have l1 : HLe X (X++[.cells [.map (some o)] 1 false false]):=.app _ _
 obtain ⟨v,q,X2,e2,r2,l2,o2⟩:=(h.mo.hle l1).keys (gks:=ZfD) (gc:=Jj) (gk:=Jl) (c:=X.length) (by decide) ZZ (Nat.le_trans h.few (by decide)) (fun p hp=>Nat.le_trans (Zhs (h.ok p hp)) (by decide))
 have e2' : R (n+1) Jk [.func (.func Jl) #[] #[pt X.length],.func (.func Jj) #[] #[]] (X++[.cells [.map (some o)] 1 false false])=some (v,X2):=by
  rw [R,ZeW (show np Jk=some (Za9 ZfD Jj) from rfl)]
  exact e2
 have e3 : R (n+2) Kd [.map (some o)] X=some (v,X2):=by
  rw [R,Zdn rfl]
  unfold Wn
  rw [Za e1,Za e2']
  rfl
 refine ⟨v,q,X2,?_,r2,l1.trans l2,fun j hj=>Nat.le_trans l1.len (o2 j hj)⟩
 rw [R,Zf2 rfl]
 unfold ZaJ
 rw [Za Zw,Za Zk,Za h.ldo,Za e3]
 rfl
theorem Grp.keysAsc (h : Grp X g o G mem c) : Asc (JI (Z6 G)):=Zf6 h.mo.nod
theorem Zcp {l : List Tx} : (JI l).length=l.length:=List.length_mergeSort l
def ofL (m : Tx) (K : List Tx) (mem : Mem) : List Tx:=(JI K).filter fun k=>mem k m
theorem ZoO {K : List Tx} (hn : K.Nodup) : Is (ofL m K mem) (fun k=>k∈K∧mem k m=true):=⟨(Zf6 hn).filter _,fun x=>by unfold ofL;rw [List.mem_filter,W3]⟩
theorem Zjx {K : List Tx} : (ofL m K mem).length≤K.length:=by
 unfold ofL
 have:=List.length_filter_le (fun k=>mem k m) (JI K)
 rwa [Zcp] at this
theorem Zr8 {b1 b2 : Nat} (h : Grp X g o G mem c) (h1 : X[b1]?=some (.cells [pt g] 1 false false)) (h2 : X[b2]?=some (.cells [strv m] 1 false false)) (hk : k∈Z6 G) :
  ∃ X',R (n+1) Ys [strv k,pt b1,pt b2] X=some (.bool (!mem k m),X')∧HLe X X':=by
 obtain ⟨id,hid⟩:=h.has hk
 obtain ⟨S,m1,m2,m3,m4⟩:=h.set hid
 have e2 : lkp .str (.map none) false (.map (some o)) (strv k) X=some (.map (some id),X):=by rw [h.mo.lkp,hid];rfl
 have e3 : lkp .str (.agg #[]) true (.map (some id)) (strv m) X=some (.tuple #[.agg #[],.bool (mem k m)],X):=by
  rw [m1.lkp,← m2 m]
  cases Ze m S <;> rfl
 have l2 : HLe X (X++[.cells [] 1 false false]):=.app _ _
 have e4 : alc 1 (.agg #[]) X=some (pt X.length,X++[.cells [] 1 false false]):=Zgz (vs:=[]) rfl
 have a4 : (X++[Zi.cells [] 1 false false])[X.length]?=some (.cells [] 1 false false):=ZZ
 have e5 : stA 0 (pt X.length) (.agg #[]) (X++[Zi.cells [] 1 false false])=some (undef,(X++[Zi.cells [] 1 false false]).set X.length (.cells [] 1 false false)):=Zf5 (vs:=[]) a4 rfl rfl rfl
 rw [Zre] at e5
 have h':=h.hle l2
 have m1':=m1.hle l2
 have b1':=l2 _ _ h1
 have b2':=l2 _ _ h2
 generalize X++[Zi.cells [] 1 false false]=X2 at l2 e4 e5 h' m1' b1' b2'
 have e2' : lkp .str (.map none) false (.map (some o)) (strv k) X2=some (.map (some id),X2):=by rw [h'.mo.lkp,hid];rfl
 have e3' : lkp .str (.agg #[]) true (.map (some id)) (strv m) X2=some (.tuple #[.agg #[],.bool (mem k m)],X2):=by
  rw [m1'.lkp,← m2 m]
  cases Ze m S <;> rfl
 refine ⟨X2,?_,l2⟩
 rw [R,ZfQ rfl]
 unfold ZaP
 rw [Za (Zjg h1),Za Zw,Za Zk,Za h.ldo,Za e2,Za (Zjg h2),Za e3,Za Zq,Za Zp,Za e4,Za e3',Yc,Za (Zjg b2'),Yc,Za e2',Yc]
 refine (Za h'.ldo).trans ?_
 rw [Yc,Za (Zjg b1'),Yc,Za e5,Za ZE]
 rfl
theorem ZnG (h : Grp X g o G mem c) : ∃ v q X',R (n+4) JP [pt g,strv m] X=some (v,X')∧ZC X' v ((ofL m (Z6 G) mem).map strv) q∧HLe X X'∧∀ j∈q,X.length≤j:=by
 have e1:=ZkC (v:=pt g) rfl rfl X
 have l1 : HLe X (X++[Zi.cells [pt g] 1 false false]):=.app _ _
 have c1 : (X++[Zi.cells [pt g] 1 false false])[X.length]?=some (.cells [pt g] 1 false false):=ZZ
 generalize X++[Zi.cells [pt g] 1 false false]=X1 at e1 l1 c1
 have e2:=ZkC (v:=strv m) rfl rfl X1
 have l2 : HLe X1 (X1++[Zi.cells [strv m] 1 false false]):=.app _ _
 have c2 : (X1++[Zi.cells [strv m] 1 false false])[X1.length]?=some (.cells [strv m] 1 false false):=ZZ
 generalize X1++[Zi.cells [strv m] 1 false false]=X2 at e2 l2 c2
 have c1:=l2 _ _ c1
 have h2:=h.hle (l1.trans l2)
 obtain ⟨v,q,X3,e3,r3,l3,o3⟩:=Zol (n:=n) h2
 have e3 : R (n+3) Yp [pt g] X2=_:=e3
 have l123:=(l1.trans l2).trans l3
 have hq : ∀ j∈q,j∉Ju o G∧j≠g∧j≠X.length∧j≠X1.length:=fun j hj=>by
  have:=o3 j hj
  have a1:=Yv c1
  have a2:=Yv c2
  have a3:=h2.glt
  exact ⟨fun hm=>by have:=(h2.isMap hm).1;omega,by omega,by omega,by omega⟩
 have hkeep : ∀ Y Y',(Grp Y g o G mem c∧Y[X.length]?=some (.cells [pt g] 1 false false)∧Y[X1.length]?=some (.cells [strv m] 1 false false))→ZK q Y q Y'→(Grp Y' g o G mem c∧Y'[X.length]?=some (.cells [pt g] 1 false false)∧Y'[X1.length]?=some (.cells [strv m] 1 false false)):=fun Y Y' ⟨a1,a2,a3⟩ hs=>
  ⟨a1.step hs (fun hm=>(hq g hm).2.1 rfl) (fun j hj hm=>(hq j hm).1 hj),hs.get a2 (fun hm=>(hq _ hm).2.2.1 rfl),hs.get a3 (fun hm=>(hq _ hm).2.2.2 rfl)⟩
 have hf : ∀ i Y,(Grp Y g o G mem c∧Y[X.length]?=some (.cells [pt g] 1 false false)∧Y[X1.length]?=some (.cells [strv m] 1 false false))→∀ s∈JI (Z6 G),∃ Y',Yz (R (i+1)) (.func (.func Ys) #[] #[pt X.length,pt X1.length]) [strv s] Y=some (.bool (!mem s m),Y')∧HLe Y Y':=fun i Y ⟨a1,a2,a3⟩ s hs=>by
  obtain ⟨Y',e,l⟩:=Zr8 (n:=i) a1 a2 a3 (W3.1 hs)
  refine ⟨Y',?_,l⟩
  have:=Zr7 (n:=i+1) (g:=Ys) (bs:=[pt X.length,pt X1.length]) (args:=[strv s])
  exact (congrFun this Y).trans e
 obtain ⟨X4,v',e4,r4,s4⟩:=Zkt (n:=n+1) (p:=fun s=>!mem s m) (f:=.func (.func Ys) #[] #[pt X.length,pt X1.length]) (Q:=fun Y=>Grp Y g o G mem c∧Y[X.length]?=some (.cells [pt g] 1 false false)∧Y[X1.length]?=some (.cells [strv m] 1 false false)) r3 (by rw [Zcp];have:=h.few;simp;omega) hkeep (hf n) (hf (n+1)) ⟨h2.hle l3,l3 _ _ c1,l3 _ _ c2⟩
 have e4 : R (n+3) Qv [v,.func (.func Ys) #[] #[pt X.length,pt X1.length]] X3=_:=e4
 have hm:=l123.more s4 (fun j hj=>Nat.le_trans (l1.trans l2).len (o3 j hj))
 refine ⟨v',q,X4,?_,by simpa [ofL] using r4,hm.1,hm.2⟩
 rw [R,ZgR rfl]
 unfold Zbr
 rw [Za e1,Za e2,Za (Zjg c1),Za e3,Za e4]
 rfl
end
end Go.Proofs.YtnnehafmjfmbnaaGreatDoor.A
namespace Go.Proofs.YtnnehafmjfmbnaaGreatDoor.A
set_option linter.unusedVariables false
set_option linter.unusedSimpArgs false
open Go.Proofs Go.Proofs.YtnnehafmjfmbnaaGreatDoor
section
variable {X X' : Zc} {n g o c c' : Nat} {G : ZeS} {mem mem' : Mem} {k m s t : Tx}
theorem ZC.grp {v : Value} {vs : List Value} {q S' : List Nat} (h : ZC X v vs q) (hG : Grp X g o G mem c) (hs : ZK (Ju o G) X S' X') : ZC X' v vs q:=by
 refine h.step hs fun j hj hm=>?_
 rcases h with ⟨_,rfl,_⟩ | ⟨sid,rest,gr,_,rfl,hid⟩
 ·cases hj
 ·have hj : j=sid:=by simpa using hj
  subst hj
  exact (hG.isMap hm).2 _ _ _ _ hid
def Zec (s t : Tx) (K : List Tx) (mem : Mem) : Int:=if Zo t then (if s=t then 0 else if ofL t K mem=[] then 0 else 9) else 10
def Zck (s t : Tx) (mem : Mem) : Mem:=fun k n=>if mem k s then (n==t || (mem k n && !(n==s))) else mem k n
def ZrO (m : Tx) (mem : Mem) : Mem:=fun k n=>mem k n && !(n==m)
def ZdQ (s t : Tx) (l : List Tx) (mem : Mem) (j : Nat) : Mem:=fun k n=>if k∈l.take j then (n==t || (mem k n && !(n==s))) else mem k n
theorem Zji {l : List Tx} {j : Nat} {x k : Tx} (hx : l[j]?=some x) : k∈l.take (j+1)↔k∈l.take j∨k=x:=by
 rw [List.take_add_one,hx];simp
theorem ZpZ {l : List Tx} {j : Nat} {x : Tx} (hn : l.Nodup) (hx : l[j]?=some x) : x∉l.take j:=fun hm=>by
 obtain ⟨i,hi⟩:=List.getElem?_of_mem hm
 rw [List.getElem?_take] at hi
 split at hi
 ·rename_i hij
  obtain ⟨h1,h2⟩:=List.getElem?_eq_some_iff.1 hi
  obtain ⟨h3,h4⟩:=List.getElem?_eq_some_iff.1 hx
  exact List.pairwise_iff_getElem.1 hn i j h1 h3 hij (h2.trans h4.symm)
 ·cases hi
theorem Zn1 {v : Value} {q : List Nat} {l : List Tx} (hl : l.length≤1000) (hn : l.Nodup) (hK : ∀ x∈l,x∈Z6 G∧mem x s=true) : ∀ (r j : Nat) (X : Zc),l.length - j=r→j≤l.length→Grp X g o G (ZdQ s t l mem j) c→Zo t=true→ZC X v (l.map strv) q→
  ∃ X',Zj (c6 (Qg.l1 (R n))) [pt g,strv s,strv t,v,iv l.length,iv j] X=some (.ext 0 [],X')∧Grp X' g o G (ZdQ s t l mem l.length) c∧ZK (Ju o G) X (Ju o G) X'
 | 0,j,X,hr,hj,h,ht,hrow=>by
  have : j=l.length:=by omega
  subst this
  refine ⟨X,ZD ?_,h,.refl _ _⟩
  rw [QL]
  unfold Qg.l1
  rw [Za Zg,Zb,if_neg (by simp)]
  rfl
 | r+1,j,X,hr,hj,h,ht,hrow=>by
  have hkl : j < l.length:=by omega
  have hlt : (j : Int) < l.length:=by omega
  have hg:=List.getElem?_eq_getElem hkl
  have hmm:=List.getElem_mem hkl
  generalize l[j]=k at hg hmm
  obtain ⟨hkK,hks⟩:=hK k hmm
  have hnot:=ZpZ hn hg
  have x1:=hrow.ix (i:=j) (by simpa using hkl) .i64 X
  have x2:=hrow.ldx (Q3 hg)
  obtain ⟨id,hid⟩:=h.has hkK
  obtain ⟨S,m1,m2,m3,m4⟩:=h.set hid
  have hmk : ∀ n',(Ze n' S).isSome=mem k n':=fun n'=>by rw [m2 n'];unfold ZdQ;rw [if_neg hnot]
  have e2 : lkp .str (.map none) false (.map (some o)) (strv k) X=some (.map (some id),X):=by rw [h.mo.lkp,hid];rfl
  obtain ⟨X1,e3,m5,s3,_⟩:=m1.mde (k:=s)
  have hsub : (YA s S).Sublist S:=List.filter_sublist
  have h1:=h.upd (mem':=fun k' n'=>if k'=k then (Ze n' (YA s S)).isSome else ZdQ s t l mem j k' n') hid m5 s3 (fun q hq=>m4 q (hsub.subset hq)) (Nat.le_trans hsub.length_le m3) (Nat.le_refl _) (fun _ _=>rfl)
  have e4 : lkp .str (.map none) false (.map (some o)) (strv k) X1=some (.map (some id),X1):=by rw [h1.mo.lkp,hid];rfl
  obtain ⟨X2,e5,m6,s5,_⟩:=m5.mup (k:=t) (v:=())
  have hsS : (Ze s S).isSome=true:=by rw [hmk];exact hks
  have hpos : 0 < S.length:=by
   cases hS : S with
   | nil=>rw [hS] at hsS;cases hsS
   | cons a b=>simp
  have hlen : (Qz t () (YA s S)).length≤c:=by
   rw [ZbW]
   have:=ZhS m1.nod hsS
   split <;> omega
  have h2:=h1.upd (mem':=ZdQ s t l mem (j+1)) hid m6 s5 (fun q hq=>by
   rcases Zem hq with rfl | hq
   ·exact ht
   ·exact m4 q (hsub.subset hq)) hlen (Nat.le_refl _) (fun k' n'=>by
   by_cases hk : k'=k
   ·subst hk
    rw [if_pos rfl]
    unfold ZdQ
    rw [if_pos ((Zji hg).2 (.inr rfl))]
    by_cases hnt : n'=t
    ·subst hnt;rw [Kr];simp
    ·rw [YF hnt]
     by_cases hns : n'=s
     ·subst hns;rw [Za0];simp [hnt]
     ·rw [Yi hns,hmk,beq_eq_false_iff_ne.2 hnt,beq_eq_false_iff_ne.2 hns];simp
   ·rw [if_neg hk,if_neg hk]
    unfold ZdQ
    by_cases hin : k'∈l.take j
    ·rw [if_pos hin,if_pos ((Zji hg).2 (.inl hin))]
    ·rw [if_neg hin,if_neg fun h=>(Zji hg).1 h |>.elim hin hk])
  have st:=(h.step1 hid s3).trans (h1.step1 hid s5)
  obtain ⟨X3,e6,h3,s6⟩:=Zn1 hl hn hK r (j+1) X2 (by omega) (by omega) h2 ht (hrow.grp h st)
  refine ⟨X3,(Zv ?_).trans e6,h3,st.trans s6⟩
  rw [QL]
  unfold Qg.l1
  rw [Za Zg,Zb,if_pos (by simpa using hlt),Za x1,Za x2,Za Zw,Za Zk,Za h.ldo,Za e2,Za e3,Za Zw,Za Zk,Za h1.ldo,Za e4,Za Zrs,Za e5,Za Zs,Qb (by omega)]
  rfl
theorem Zlc {K : List Tx} {x : Tx} : x∈ofL m K mem↔x∈K∧mem x m=true:=by unfold ofL;rw [List.mem_filter,W3]
theorem Zrz (h : Grp X g o G mem c) : ∃ X',R (n+8) Ye [pt g,strv s,strv t] X=some (iv (Zec s t (Z6 G) mem),X')∧Grp X' g o G (if Zec s t (Z6 G) mem=0 then Zck s t mem else mem) c∧ZK (Ju o G) X (Ju o G) X':=by
 have l0 : HLe X (X++[.cells [strv t] 1 false false]):=.app _ _
 have s0:=(Ziq (x:=t) (H:=X)).rd
 have e0:=Znf (x:=t) (H:=X)
 generalize X++[Zi.cells [strv t] 1 false false]=X0 at l0 s0 e0
 have f1 : ∀ r X',Qg (R (n+7)) (pt g) (strv s) (strv t) X=some (r,X')→R (n+8) Ye [pt g,strv s,strv t] X=some (r,X'):=fun r X' hr=>by rw [R,ZdV rfl];exact hr
 have e1 : R (n+7) KB [_] X0=_:=ZlT (n:=n+1) (l:=[t]) (by simp) s0
 have h0:=h.hle l0
 unfold Zec
 by_cases ht : Zo t=true
 ·have hN : ZaU [t]=0:=by unfold ZaU;simp [ht]
  rw [hN] at e1
  rw [if_pos ht]
  have q1 : bop .str .eql (strv s) (strv t) X0=some (.bool (s==t),X0):=Zb2
  by_cases hst : s=t
  ·rw [if_pos hst,if_pos rfl]
   refine ⟨X0,f1 _ _ ?_,h0.more (Nat.le_refl _) (fun k' n'=>?_),l0.stepq⟩
   ·unfold Qg
    rw [Za e0,Za e1,Za Zn,Zb,if_neg (by decide),Za q1,Zb,if_pos (by simpa using hst)]
    rfl
   ·unfold Zck
    subst hst
    split
    ·rename_i hm
     by_cases hn : n'=s
     ·subst hn;simp [hm]
     ·rw [beq_eq_false_iff_ne.2 hn];simp
    ·rfl
  ·rw [if_neg hst]
   obtain ⟨v1,q1',X1,e2,r2,l2,o2⟩:=ZnG (n:=n+3) (m:=t) h0
   have e2 : R (n+7) JP [pt g,strv t] X0=_:=e2
   have hlen1 : Zx v1 X1=some (iv (ofL t (Z6 G) mem).length,X1):=by have:=r2.rd.len (H':=X1);simpa using this
   have h1:=h0.hle l2
   by_cases hO : ofL t (Z6 G) mem=[]
   ·rw [if_pos hO,if_pos rfl]
    rw [hO] at hlen1
    obtain ⟨v2,q2,X2,e3,r3,l3,o3⟩:=ZnG (n:=n+3) (m:=s) h1
    have e3 : R (n+7) JP [pt g,strv s] X1=_:=e3
    have h2:=h1.hle l3
    have hlen2 : Zx v2 X2=some (iv (ofL s (Z6 G) mem).length,X2):=by have:=r3.rd.len (H':=X2);simpa using this
    have hfew : (ofL s (Z6 G) mem).length≤1000:=by have:=Zjx (m:=s) (mem:=mem) (K:=Z6 G);have:=h.few;simp at *;omega
    have hnod : (ofL s (Z6 G) mem).Nodup:=(ZoO h.mo.nod).asc.nodup
    have hr0 : ∀ k n',ZdQ s t (ofL s (Z6 G) mem) mem 0 k n'=mem k n':=fun k n'=>by unfold ZdQ;simp
    obtain ⟨X3,e4,h3,s4⟩:=Zn1 (n:=n+7) (s:=s) (t:=t) hfew hnod (fun x hx=>Zlc.1 hx) (ofL s (Z6 G) mem).length 0 X2 (by omega) (by omega) (h2.more (Nat.le_refl _) hr0) ht r3
    rw [show iv ((0 : Nat) : Int)=.int .i64 0 from rfl] at e4
    refine ⟨X3,f1 _ _ ?_,h3.more (Nat.le_refl _) (fun k' n'=>?_),((l0.trans l2).trans l3).stepq.trans s4⟩
    ·unfold Qg
     rw [Za e0,Za e1,Za Zn,Zb,if_neg (by decide),Za q1,Zb,if_neg (by simpa using hst),Za e2,Za hlen1,Za ZR,Zb,if_neg (by simp),Za e3,Za hlen2,ZM e4,Zu]
     rfl
    ·unfold Zck ZdQ
     rw [List.take_length]
     by_cases hm : mem k' s=true
     ·have hin : k'∈ofL s (Z6 G) mem:=Zlc.2 ⟨by
       have:=h.out k' s hm
       rw [h.key] at this;simpa using this,hm⟩
      rw [if_pos hm,if_pos hin]
     ·rw [if_neg hm,if_neg fun hin=>hm (Zlc.1 hin).2]
   ·rw [if_neg hO,if_neg (by decide)]
    have hpos : 0 < (ofL t (Z6 G) mem).length:=List.length_pos_iff.2 hO
    refine ⟨X1,f1 _ _ ?_,h1,(l0.trans l2).stepq⟩
    unfold Qg
    rw [Za e0,Za e1,Za Zn,Zb,if_neg (by decide),Za q1,Zb,if_neg (by simpa using hst),Za e2,Za hlen1,Za ZR,Zb,if_pos (by simpa using hpos)]
    rfl
 ·have hN : ZaU [t]=10:=by unfold ZaU;simp [ht]
  rw [hN] at e1
  rw [if_neg ht,if_neg (by decide)]
  refine ⟨X0,f1 _ _ ?_,h0,l0.stepq⟩
  unfold Qg
  rw [Za e0,Za e1,Za Zn,Zb,if_pos (by decide)]
  rfl
theorem Js.move {α : Type} {enc : α→Value} {id id' : Nat} {mm : List (Tx × α)} (h : Js enc X id mm) (he : X'[id']?=X[id]?) : Js enc X' id' mm:=by
 obtain ⟨es,h1,h2⟩:=h.ex
 exact ⟨⟨es,h1,by rw [he];exact h2⟩,h.nod⟩
end
end Go.Proofs.YtnnehafmjfmbnaaGreatDoor.A

namespace Go.Proofs.YtnnehafmjfmbnaaGreatDoor.A
set_option linter.unusedVariables false
set_option linter.unusedSimpArgs false
open Go.Proofs Go.Proofs.YtnnehafmjfmbnaaGreatDoor
def Yl (b : UInt8) : UInt8:=if decide (65≤b.toNat) && decide (b.toNat≤90) then UInt8.ofNat (b.toNat+32) else b
def ZT (s : List UInt8) : List UInt8:=s.map Yl
theorem Zpo : ∀ b : UInt8,(decide (65≤b.toNat) && decide (b.toNat≤90))=true→IntKind.u8.wrap (IntKind.u8.wrap ((b.toNat : Int)+97) - 65)=(Yl b).toNat:=Zdj (by decide+kernel)
section
variable {H X : Zc} {n : Nat} {s : List UInt8}
theorem ZrJ {cs : List UInt8} {k : Nat} {b : UInt8} (h : cs[k]?=some b) : (u8s cs)[k]?=some (u8v b):=by unfold u8s;rw [List.getElem?_map,h];rfl
theorem Zrb {cs : List UInt8} {k : Nat} {b : UInt8} : (u8s cs).set k (u8v b)=u8s (cs.set k b):=by unfold u8s;rw [List.map_set]
theorem Zsm : s2b (strv s) H=some (.slice (some ⟨H.length,0,none⟩) s.length s.length,H++[.cells (u8s s) 1 true false]):=by
 unfold s2b strv ZhD
 simp [ByteArray.size]
theorem ZjK {v : Value} {q : List Nat} (hs : s.length≤1000000) : ∀ (t k : Nat) (cs : List UInt8) (X : Zc),s.length - k=t→k≤s.length→cs.length=s.length→cs.take k=(s.take k).map Yl→cs.drop k=s.drop k→ZC X v (u8s cs) q→
  ∃ X',Zj (c4 (Y7.l1 (R n))) [v,v,iv s.length,iv k] X=some (.ext 0 [v],X')∧ZC X' v (u8s (ZT s)) q∧ZK q X q X'
 | 0,k,cs,X,ht,hk,hl,h1,h2,hr=>by
  have : k=s.length:=by omega
  subst this
  have : cs=ZT s:=by
   rw [List.take_of_length_le (by omega),List.take_of_length_le (by omega)] at h1
   exact h1
  subst this
  refine ⟨X,ZD ?_,hr,.refl _ _⟩
  rw [ZA]
  unfold Y7.l1
  rw [Za Zg,Zb,if_neg (by simp)]
  rfl
 | t+1,k,cs,X,ht,hk,hl,h1,h2,hr=>by
  have hkl : k < s.length:=by omega
  have hlt : (k : Int) < s.length:=by omega
  have hg:=List.getElem?_eq_getElem hkl
  have htk:=List.take_succ_eq_append_getElem hkl
  have hdk:=List.drop_eq_getElem_cons hkl
  generalize s[k]=b at hg htk hdk
  have hgc : cs[k]?=some b:=by
   have h3 : (cs.drop k)[0]?=(s.drop k)[0]?:=by rw [h2]
   simpa [hg] using h3
  have hul : (u8s cs).length=s.length:=by rw [ZiD,hl]
  have x1:=hr.ix (i:=k) (by omega) .i64 X
  have x2:=hr.ldx (ZrJ hgc)
  have hd1 : cs.drop (k+1)=s.drop (k+1):=by rw [← List.drop_drop,h2,List.drop_drop]
  have htc : cs.take (k+1)=cs.take k++[b]:=by
   have:=List.take_succ_eq_append_getElem (show k < cs.length by omega)
   rw [this,(List.getElem?_eq_some_iff.1 hgc).2]
  have hpk : ∀ (K : Value→M Out),bind (bop .int .geq (u8v b) (Value.int .u8 65)) (fun v16x6=>bind (ZO v16x6 true 2 (bind (bop .int .leq (u8v b) (Value.int .u8 90)) fun v19x7=>ret [u8v b,v19x7])) (c2 fun _ q8_1=>bind (pick v16x6 q8_1 (Value.bool false)) K)) X=K (.bool (decide (65≤b.toNat) && decide (b.toNat≤90))) X:=fun K=>by
   have e1 : decide ((b.toNat : Int)≥65)=decide (65≤b.toNat):=by rw [decide_eq_decide];omega
   have e2 : decide ((b.toNat : Int)≤90)=decide (b.toNat≤90):=by rw [decide_eq_decide];omega
   rw [Za Ql,e1]
   cases decide (65≤b.toNat)
   ·rw [Za (g_r.trans (if_neg (by simp)))]
    simp only [List.replicate]
    rw [Z4,Za Zh]
    rfl
   ·rw [ZQ,Zf,Za QI,Z5,Z4,Za Zh,e2]
    rfl
  cases hup : (decide (65≤b.toNat) && decide (b.toNat≤90))
  ·have hfb : Yl b=b:=by unfold Yl;rw [hup];rfl
   rw [hup] at hpk
   obtain ⟨X',e,r',s'⟩:=ZjK hs t (k+1) cs X (by omega) (by omega) hl (by rw [htc,h1,htk,List.map_append,List.map_singleton,hfb]) hd1 hr
   refine ⟨X',(Zv ?_).trans e,r',s'⟩
   rw [ZA]
   unfold Y7.l1
   rw [Za Zg,Zb,if_pos (by simpa using hlt),Za x1,Za x2]
   refine (hpk _).trans ?_
   refine (Ka (vs:=[v,v,iv s.length,iv k]) (H':=X) ?_).trans ?_
   ·rw [Zb,if_neg (by simp)];rfl
   ·rw [ZA,Za Zs,Qb (by omega)];rfl
  ·have hfu:=Zpo b hup
   rw [hup] at hpk
   obtain ⟨X1,x3,r1,s1,_⟩:=hr.stx (i:=k) (u:=u8v (Yl b)) (by omega) rfl
   rw [Zrb] at r1
   obtain ⟨X',e,r',s'⟩:=ZjK hs t (k+1) (cs.set k (Yl b)) X1 (by omega) (by omega) (by simpa using hl) (by
    have h5 : k < (cs.set k (Yl b)).length:=by simp;omega
    rw [List.take_succ_eq_append_getElem h5,List.take_set_of_le (Nat.le_refl _),h1,htk,List.map_append]
    simp) (by rw [List.drop_set_of_lt (by omega)];exact hd1) r1
   refine ⟨X',(Zv ?_).trans e,r',s1.trans s'⟩
   rw [ZA]
   unfold Y7.l1
   rw [Za Zg,Zb,if_pos (by simpa using hlt),Za x1,Za x2]
   refine (hpk _).trans ?_
   refine (Ka (vs:=[v,v,iv s.length,iv k]) (H':=X1) ?_).trans ?_
   ·rw [Zb,if_pos rfl,Za Zs,Za Qk,hfu,Za x1,Za x3];rfl
   ·rw [ZA,Za Zs,Qb (by omega)];rfl
theorem ZrC (hs : s.length≤1000000) : ∃ H',R (n+1) Zbv [strv s] H=some (strv (ZT s),H')∧HLe H H':=by
 have e1:=Zsm (s:=s) (H:=H)
 have k1 : HLe H (H++[.cells (u8s s) 1 true false]):=.app _ _
 have r1 : ZC (H++[.cells (u8s s) 1 true false]) (.slice (some ⟨H.length,0,none⟩) s.length s.length) (u8s s) [H.length]:=.inr ⟨H.length,[],true,by rw [ZiD];rfl,rfl,by rw [ZZ,List.append_nil]⟩
 have hnl : ∀ j∈[H.length],H.length≤j:=by simp
 generalize H++[Zi.cells (u8s s) 1 true false]=H1 at e1 k1 r1
 obtain ⟨H2,e2,r2,s2⟩:=ZjK (n:=n) hs s.length 0 s H1 (by omega) (by omega) rfl rfl rfl r1
 have e2 : Zj (c4 (Y7.l1 (R n))) [.slice (some ⟨H.length,0,none⟩) s.length s.length,.slice (some ⟨H.length,0,none⟩) s.length s.length,iv s.length,.int .i64 0] H1=_:=e2
 refine ⟨H2,?_,(k1.more s2 hnl).1⟩
 rw [R,ZlI rfl]
 unfold Y7
 have hl : Zx (.slice (some ⟨H.length,0,none⟩) s.length s.length) H1=some (iv s.length,H1):=rfl
 rw [Za e1,Za hl,ZM e2,Zu,JY,Za (Zst r2.rd)]
 rfl
def WF : List UInt8:=[65,66,67,68,69,70,71,72,73,74,75,76,77,78,79,80,81,82,83,84,85,86,87,88,89,90]
theorem Znq : ∀ k < 26,∀ b,WF[k]?=some b→Zc8[k]?=some (Yl b):=by
 intro k hk b hb
 have : ∀ k < 26,(WF[k]?).map Yl=Zc8[k]?:=by decide
 rw [← this k hk,hb];rfl
theorem Zp1 : ∀ b : UInt8,(if WF.contains b then Yl b else b)=Yl b:=Zdj (by decide+kernel)
theorem Zo4 {i j : Nat} (hij : i≤j) (hj : j≤s.length) : sls (strv s) (some (iv i)) (some (iv j)) H=some (strv ((s.take j).drop i),H):=by
 have h1 : (⟨s.toArray⟩ : ByteArray).size=s.length:=by simp [ByteArray.size]
 have h2 : (⟨s.toArray⟩ : ByteArray).extract i j=⟨((s.take j).drop i).toArray⟩:=by
  apply ByteArray.ext
  rw [ByteArray.data_extract]
  simp [List.drop_take]
 have hb : ∀ k : Nat,∀ d,bnd (some (iv k)) d=some k:=fun k d=>by simp [bnd]
 unfold strv sls
 simp only [h1,hb]
 rw [if_pos ⟨hij,hj⟩,h2]
theorem Zqk {i : Nat} (hi : i≤s.length) : sls (strv s) (some (iv i)) none H=some (strv (s.drop i),H):=by
 have h1 : (⟨s.toArray⟩ : ByteArray).size=s.length:=by simp [ByteArray.size]
 have h2 : (⟨s.toArray⟩ : ByteArray).extract i s.length=⟨(s.drop i).toArray⟩:=by
  apply ByteArray.ext
  rw [ByteArray.data_extract]
  simp [List.take_of_length_le]
 have hb : ∀ k : Nat,∀ d,bnd (some (iv k)) d=some k:=fun k d=>by simp [bnd]
 have hb0 : ∀ d,bnd none d=some d:=fun _=>rfl
 unfold strv sls
 simp only [h1,hb,hb0]
 rw [if_pos ⟨hi,Nat.le_refl _⟩,h2]
theorem ZoS {k : Nat} {b : UInt8} (h : s[k]?=some b) : (s.take (k+1)).drop k=[b]:=by
 have hk:=(List.getElem?_eq_some_iff.1 h).1
 rw [List.take_succ_eq_append_getElem hk,(List.getElem?_eq_some_iff.1 h).2,List.drop_append_of_le_length (by rw [List.length_take];omega),List.drop_eq_nil_of_le (by rw [List.length_take];omega)]
 rfl
theorem Zf3 {i : Nat} {b : UInt8} (hi : s[i]?=some b) (hs : s.length≤1000000) : ∀ (t k : Nat) (cur : UInt8) (z1 : Value),26 - k=t→k≤26→
  Zj (c6 (QY.l2 (R n))) [strv s,strv WF,z1,iv i,strv [cur],iv k] X=some (.ext 2 [strv s,strv WF,z1,iv i,strv [if (WF.drop k).contains b then Yl b else cur]],X)
 | 0,k,cur,z1,ht,hk=>by
  have : k=26:=by omega
  subst this
  refine ZD ?_
  rw [QL]
  unfold QY.l2
  rw [Za Zg,Zb,if_neg (by decide)]
  rfl
 | t+1,k,cur,z1,ht,hk=>by
  have hkl : k < WF.length:=by show k < 26;omega
  have hlt : (k : Int) < 26:=by omega
  have hg:=List.getElem?_eq_getElem hkl
  have hd:=List.drop_eq_getElem_cons hkl
  generalize WF[k]=g at hg hd
  have x1:=WR hi .i64 X
  have x2:=WR hg .i64 X
  have hgf:=Znq k (by omega) g hg
  rw [hd,List.contains_cons]
  by_cases hb : b=g
  ·subst hb
   have e3 : sls (strv Zc8) (some (iv k)) (some (iv ((k+1 : Nat) : Int))) X=some (strv [Yl b],X):=by
    rw [Zo4 (by omega) (by show k+1≤26;omega),ZoS hgf]
   have e3 : sls (.string ⟨#[97,98,99,100,101,102,103,104,105,106,107,108,109,110,111,112,113,114,115,116,117,118,119,120,121,122]⟩) (some (iv k)) (some (iv ((k+1 : Nat) : Int))) X=some (strv [Yl b],X):=e3
   refine (Zv ?_).trans ((Zf3 hi hs t (k+1) (Yl b) z1 (by omega) (by omega)).trans (by simp))
   rw [QL]
   unfold QY.l2
   rw [Za Zg,Zb,if_pos (by simpa using hlt),Za x1,Za x2,Za ZH,Zd7]
   refine (Ka (vs:=[strv s,strv WF,z1,iv i,strv [Yl b],iv k]) (H':=X) ?_).trans ?_
   ·rw [Zb,if_pos (by simp),Za Zs,Qb (by omega),Za e3];rfl
   ·rw [QL,Za Zs,Qb (by omega)];rfl
  ·have hbf : (b==g)=false:=beq_eq_false_iff_ne.2 hb
   rw [hbf,Bool.false_or]
   refine (Zv ?_).trans (Zf3 hi hs t (k+1) cur z1 (by omega) (by omega))
   rw [QL]
   unfold QY.l2
   rw [Za Zg,Zb,if_pos (by simpa using hlt),Za x1,Za x2,Za ZH,Zd7,hbf]
   refine (Ka (vs:=[strv s,strv WF,z1,iv i,strv [cur],iv k]) (H':=X) ?_).trans ?_
   ·rw [Zb,if_neg (by simp)];rfl
   ·rw [QL,Za Zs,Qb (by omega)];rfl
theorem Zj1 (hs : s.length≤1000000) : ∀ (t k : Nat),s.length - k=t→k≤s.length→
  Zj (c4 (QY.l1 (R n))) [strv s,strv WF,strv ((s.take k).map Yl),iv k] X=some (.ext 0 [strv (ZT s)],X)
 | 0,k,ht,hk=>by
  have : k=s.length:=by omega
  subst this
  rw [List.take_length]
  refine ZD ?_
  rw [ZA]
  unfold QY.l1
  rw [Za Zz,Za Zg,Zb,if_neg (by simp)]
  rfl
 | t+1,k,ht,hk=>by
  have hkl : k < s.length:=by omega
  have hlt : (k : Int) < s.length:=by omega
  have hg:=List.getElem?_eq_getElem hkl
  have htk:=List.take_succ_eq_append_getElem hkl
  generalize s[k]=b at hg htk
  have e1 : sls (strv s) (some (iv k)) (some (iv ((k+1 : Nat) : Int))) X=some (strv [b],X):=by rw [Zo4 (by omega) (by omega),ZoS hg]
  have e2:=Zf3 (n:=n) (X:=X) hg hs 26 0 b (strv ((s.take k).map Yl)) rfl (by omega)
  rw [List.drop_zero,Zp1] at e2
  have e2 : Zj (c6 (QY.l2 (R n))) [strv s,strv WF,strv ((s.take k).map Yl),iv k,strv [b],.int .i64 0] X=_:=e2
  have e3:=Q5 (a:=(s.take k).map Yl) (b:=[Yl b]) (H:=X) (by simp;omega)
  refine (Zv ?_).trans (Zj1 hs t (k+1) (by omega) (by omega))
  rw [ZA]
  unfold QY.l1
  rw [Za Zz,Za Zg,Zb,if_pos (by simpa using hlt),Za Zs,Qb (by omega),Za e1,ZM e2,Zu,Z7,Za e3,Za Zs,Qb (by omega),htk,List.map_append]
  rfl
theorem ZoH (hs : s.length≤1000000) : R (n+1) Zay [strv s] H=some (strv (ZT s),H):=by
 have e:=Zj1 (n:=n) (X:=H) hs s.length 0 (by omega) (by omega)
 have e : Zj (c4 (QY.l1 (R n))) [strv s,.string ⟨#[65,66,67,68,69,70,71,72,73,74,75,76,77,78,79,80,81,82,83,84,85,86,87,88,89,90]⟩,.string ⟨#[]⟩,.int .i64 0] H=_:=e
 rw [R,Zky rfl]
 unfold QY
 rw [ZM e,Zu]
 rfl
end
end Go.Proofs.YtnnehafmjfmbnaaGreatDoor.A
namespace Go.Proofs.YtnnehafmjfmbnaaGreatDoor.A
set_option linter.unusedVariables false
set_option linter.unusedSimpArgs false
open Go.Proofs Go.Proofs.YtnnehafmjfmbnaaGreatDoor
def Z9 (c : UInt8) : List UInt8→List (List UInt8)
 | []=>[[]]
 | b :: l=>if b=c then [] :: Z9 c l else match Z9 c l with
  | h :: t=>(b :: h) :: t
  | []=>[[b]]
theorem Zcc {c : UInt8} : ∀ {s : List UInt8},Z9 c s≠[]
 | []=>by simp [Z9]
 | b :: s=>by
  unfold Z9
  split
  ·simp
  ·split <;> simp
theorem Zir {c : UInt8} : ∀ {s : List UInt8},c∉s→Z9 c s=[s]
 | [],_=>rfl
 | b :: s,h=>by
  simp only [List.mem_cons,not_or] at h
  unfold Z9
  rw [if_neg (Ne.symm h.1),Zir h.2]
theorem ZfF {c : UInt8} : ∀ {s : List UInt8},c∈s→Z9 c s=s.takeWhile (· !=c) :: Z9 c (s.drop ((s.takeWhile (· !=c)).length+1))
 | [],h=>by cases h
 | b :: s,h=>by
  rw [show Z9 c (b :: s)=(if b=c then [] :: Z9 c s else match Z9 c s with | h :: t=>(b :: h) :: t | []=>[[b]]) from rfl]
  by_cases hb : b=c
  ·subst hb
   rw [if_pos rfl]
   simp
  ·rw [if_neg hb]
   have hm : c∈s:=by
    rcases List.mem_cons.1 h with h | h
    ·exact absurd h.symm hb
    ·exact h
   rw [ZfF hm]
   have h2 : (b !=c)=true:=by simp [hb]
   simp [List.takeWhile_cons,h2]
theorem Zbo {c : UInt8} : ∀ {s : List UInt8},(Z9 c s).length=s.count c+1
 | []=>rfl
 | b :: s=>by
  have ih:=Zbo (c:=c) (s:=s)
  unfold Z9
  by_cases hb : b=c
  ·subst hb
   rw [if_pos rfl,List.length_cons,ih,List.count_cons_self]
  ·rw [if_neg hb,List.count_cons_of_ne (by simpa using hb)]
   cases h : Z9 c s with
   | nil=>exact absurd h Zcc
   | cons a t=>rw [h] at ih;simpa using ih
theorem Zpp {c : UInt8} : ∀ {s : List UInt8},c∈s→s.count c=(s.drop ((s.takeWhile (· !=c)).length+1)).count c+1:=by
 intro s h
 have h1:=Zbo (c:=c) (s:=s)
 rw [ZfF h,List.length_cons,Zbo] at h1
 omega
def ZdS (l : List UInt8) : Bool:=!(l==[]) && l.all Y9
def Kk (f : List UInt8) : List UInt8:=if 64∈f then f.drop ((f.takeWhile (· !=64)).length+1) else []
def okM (f : List UInt8) : Bool:=decide (64∈f) && (Zo (f.takeWhile (· !=64)) && (decide (2≤(Z9 46 (Kk f)).length) && (Z9 46 (Kk f)).all ZdS))
def Q2 (s : List UInt8) : Bool:=decide (s.length≤20) && okM (ZT s)
def Wy : List UInt8→Nat→Nat→Option (Nat × Nat)
 | [],st,lg=>some (st,lg)
 | c :: l,st,lg=>if c=46 then (if lg=0 then none else Wy l (st+1) 0) else if Y9 c then Wy l st (lg+1) else none
def Zc9 (l : List UInt8) (st lg : Nat) : Bool:=match Wy l st lg with
 | some (a,b)=>decide (a≠0) && decide (b≠0)
 | none=>false
def ZbK (lg : Nat) : List (List UInt8)→Bool
 | h :: t=>(h.all Y9 && decide (lg+h.length≠0)) && t.all ZdS
 | []=>false
theorem Zjj : ∀ (l : List UInt8) (st lg : Nat),Zc9 l st lg=(decide (st+(Z9 46 l).length≠1) && ZbK lg (Z9 46 l))
 | [],st,lg=>by simp [Zc9,Wy,Z9,ZbK]
 | c :: l,st,lg=>by
  unfold Zc9 Wy Z9
  by_cases hc : c=46
  ·rw [if_pos hc,if_pos hc]
   by_cases hl : lg=0
   ·simp [hl,ZbK]
   ·rw [if_neg hl]
    have ih:=Zjj l (st+1) 0
    unfold Zc9 at ih
    rw [ih]
    have hne:=Zcc (c:=46) (s:=l)
    cases hsp : Z9 46 l with
    | nil=>exact absurd hsp hne
    | cons h t=>
     have h1 : decide (st+1+(h :: t).length≠1)=true:=by simp;omega
     have h2 : decide (st+([] :: h :: t).length≠1)=true:=by simp;omega
     rw [h1,h2]
     simp only [ZbK,List.all_nil,List.all_cons,ZdS,List.length_nil,Nat.zero_add,Nat.add_zero,Bool.true_and]
     have h3 : decide (lg≠0)=true:=by simp [hl]
     rw [h3,Bool.true_and]
     have h4 : (!(h==[]))=decide (h.length≠0):=by cases h <;> simp
     rw [h4,Bool.and_comm (h.all Y9)]
  ·rw [if_neg hc,if_neg hc]
   cases hsp : Z9 46 l with
   | nil=>exact absurd hsp Zcc
   | cons h t=>
    cases ha : Y9 c
    ·simp [ZbK,ha]
    ·have ih:=Zjj l st (lg+1)
     unfold Zc9 at ih
     simp only [if_true]
     rw [ih,hsp]
     have e : ∀ x : Nat,lg+1+x=lg+(x+1):=fun x=>by omega
     simp [ZbK,ha,e]
theorem Zp8 {l : List UInt8} : Zc9 l 0 0=(decide (2≤(Z9 46 l).length) && (Z9 46 l).all ZdS):=by
 rw [Zjj]
 cases hsp : Z9 46 l with
 | nil=>exact absurd hsp Zcc
 | cons h t=>
  have h1 : decide (0+(h :: t).length≠1)=decide (2≤(h :: t).length):=by
   rw [decide_eq_decide]
   have : (h :: t).length=t.length+1:=rfl
   omega
  rw [h1]
  have h4 : (!(h==[]))=decide (h.length≠0):=by cases h <;> simp
  simp only [ZbK,List.all_cons,ZdS,Nat.zero_add,h4]
  rw [Bool.and_comm (h.all Y9)]
section
variable {H X : Zc} {n : Nat} {s : List UInt8} {c : UInt8}
theorem Zq7 {args : List Value} : run Tryz.prog np lvs (n+1) Jw args=ZeL args:=ZeW (show np Jw=some ZeL from rfl)
theorem ZqZ {args : List Value} : run Tryz.prog np lvs (n+1) J1 args=Zes args:=ZeW (show np J1=some Zes from rfl)
theorem ZkP : R (n+3) Qy [strv s,strv [c]] H=some (iv (Go.Lib.indexByte s c),H):=by
 have e1 : run Tryz.prog np lvs (n+2) Q4 [strv s,u8v c] H=some (iv (Go.Lib.indexByte s c),H):=by
  have e0 : run Tryz.prog np lvs (n+1) Jw [strv s,u8v c] H=some (iv (Go.Lib.indexByte s c),H):=by rw [Zq7];exact ZrG
  rw [ZaR rfl]
  unfold YI
  rw [Za e0]
  rfl
 have q0 : bop .int .eql (iv [c].length) (.int .i64 0) H=some (.bool false,H):=by rw [ZH];rfl
 have q1 : bop .int .eql (iv [c].length) (.int .i64 1) H=some (.bool true,H):=by rw [ZH];rfl
 have x1 : ixs (strv [c]) (.int .i64 0) H=some (u8v c,H):=WR (s:=[c]) (i:=0) rfl .i64 H
 rw [R,ZbT rfl]
 unfold JH
 rw [Za Zz,Za q0,ZQ,Zf,Za Zb2,Z5,ZN,Za Zh]
 simp only [cond_false]
 by_cases h : s=[c]
 ·subst h
  rw [Zb,if_pos (by simp)]
  unfold Go.Lib.indexByte
  simp [ret]
 ·rw [Zb,if_neg (by simp;exact fun e=>h e.symm),Za q1,Zb,if_pos rfl,Za x1,Za e1]
  rfl
theorem Zp0 : R (n+4) Kv [strv s,strv [c]] H=some (iv (Go.Lib.indexByte s c),H):=by
 have e1 : run Tryz.prog np lvs (n+3) Qy [strv s,strv [c]] H=_:=ZkP
 rw [R,Zhp rfl]
 unfold ZbY
 rw [Za e1]
 rfl
theorem Zrh : R (n+2) Wg [strv s,strv [c]] H=some (iv (s.count c),H):=by
 have e0 : run Tryz.prog np lvs (n+1) J1 [strv s,u8v c] H=some (iv (s.count c),H):=by rw [ZqZ];exact Zrt
 have q0 : bop .int .eql (iv [c].length) (.int .i64 0) H=some (.bool false,H):=by rw [ZH];rfl
 have q1 : bop .int .eql (iv [c].length) (.int .i64 1) H=some (.bool true,H):=by rw [ZH];rfl
 have x1 : ixs (strv [c]) (.int .i64 0) H=some (u8v c,H):=WR (s:=[c]) (i:=0) rfl .i64 H
 rw [R,ZhF rfl]
 unfold Wo
 rw [Za Zz,Za q0,Zb,if_neg (by simp),Za Zz,Za q1,Zb,if_pos rfl,Za x1,Za e0]
 rfl
theorem Zim {s : List UInt8} {c : UInt8} (h : c∈s) : (s.takeWhile (· !=c)).length < s.length:=by
 rcases Nat.lt_or_ge (s.takeWhile (· !=c)).length s.length with h1 | h1
 ·exact h1
 ·have h2 : s.takeWhile (· !=c)=s:=by
   have:=List.takeWhile_prefix (p:=(· !=c)) (l:=s)
   exact this.eq_of_length (by have:=this.length_le;omega)
  have h3:=List.all_eq_true.1 (List.all_takeWhile (p:=(· !=c)) (l:=s)) c (by rw [h2];exact h)
  simp at h3
theorem ZiX {s : List UInt8} {p : UInt8→Bool} : s.take (s.takeWhile p).length=s.takeWhile p:=
 (List.prefix_iff_eq_take.1 (List.takeWhile_prefix p)).symm
theorem Zse (hs : s.length≤1000000) : R (n+5) KJ [strv s,strv [c]] H=some (if c∈s then .tuple #[strv (s.takeWhile (· !=c)),strv (s.drop ((s.takeWhile (· !=c)).length+1)),.bool true] else .tuple #[strv s,strv [],.bool false],H):=by
 have e1 : run Tryz.prog np lvs (n+3) Qy [strv s,strv [c]] H=_:=ZkP
 have e2 : run Tryz.prog np lvs (n+4) YJ [strv s,strv [c]] H=some (if c∈s then .tuple #[strv (s.takeWhile (· !=c)),strv (s.drop ((s.takeWhile (· !=c)).length+1)),.bool true] else .tuple #[strv s,strv [],.bool false],H):=by
  rw [Zct rfl]
  unfold KI
  rw [Za e1,ZbG,Za Ql,Zb]
  by_cases h : c∈s
  ·have hl:=Zim h
   have w : IntKind.i64.wrap (((s.takeWhile (· !=c)).length : Int)+(([c] : List UInt8).length : Nat))=(((s.takeWhile (· !=c)).length+1 : Nat) : Int):=Qb (by omega)
   rw [if_pos h,if_pos (by simp),Za (ZnB (by omega)),ZiX,Za Zz,Za Zs,w,Za (Zqk (by omega)),if_pos h]
   rfl
  ·rw [if_neg h,if_neg (by decide),if_neg h]
   rfl
 rw [R,Zi1 rfl]
 unfold Zc1
 rw [Za e2]
 by_cases h : c∈s
 ·rw [if_pos h];rfl
 ·rw [if_neg h];rfl
theorem ZkN {v : Value} {q : List Nat} {N : Nat} (hN : N≤1000001) : ∀ (t i : Nat) (s : List UInt8) (cs : List (List UInt8)) (X : Zc),N - 1 - i=t→i < N→s.length≤1000000→s.count c+1+i=N→cs.length=N→ZC X v (cs.map strv) q→
  ∃ (X' : Zc) (s' : List UInt8) (cs' : List (List UInt8)),Zj (c6 (Jh.l1 (R (n+4)))) [strv s,strv [c],iv 0,iv ((N - 1 : Nat) : Int),v,iv i] X=some (.ext 0 [strv s',v,iv ((N - 1 : Nat) : Int)],X')∧ZC X' v (cs'.map strv) q∧cs'.length=N∧cs'.take (N - 1)++[s']=cs.take i++Z9 c s∧ZK q X q X'
 | 0,i,s,cs,X,ht,hi,hs,hc,hl,hr=>by
  have hi2 : i=N - 1:=by omega
  subst hi2
  have hcs : c∉s:=by
   intro h
   have:=List.count_pos_iff.2 h
   omega
  refine ⟨X,s,cs,ZD ?_,hr,hl,by rw [Zir hcs],.refl _ _⟩
  rw [QL]
  unfold Jh.l1
  rw [Za Zg,Zb,if_neg (by simp)]
  rfl
 | t+1,i,s,cs,X,ht,hi,hs,hc,hl,hr=>by
  have hlt : (i : Int) < ((N - 1 : Nat) : Int):=by omega
  have hcs : c∈s:=List.count_pos_iff.1 (by omega)
  have htl:=Zim hcs
  have hct:=Zpp hcs
  have e1 : R (n+4) Kv [strv s,strv [c]] X=_:=Zp0
  rw [ZbG,if_pos hcs] at e1
  have w0 : IntKind.i64.wrap (((s.takeWhile (· !=c)).length : Int)+0)=((s.takeWhile (· !=c)).length : Int):=by rw [Int.add_zero];exact w64 (by omega) (by omega)
  have w : IntKind.i64.wrap (((s.takeWhile (· !=c)).length : Int)+(([c] : List UInt8).length : Nat))=(((s.takeWhile (· !=c)).length+1 : Nat) : Int):=Qb (by omega)
  have x1:=hr.ix (i:=i) (by simp;omega) .i64 X
  obtain ⟨X1,x2,r1,s1,_⟩:=hr.stx (i:=i) (u:=strv (s.takeWhile (· !=c))) (by simp;omega) rfl
  rw [show (cs.map strv).set i (strv (s.takeWhile (· !=c)))=(cs.set i (s.takeWhile (· !=c))).map strv from by rw [List.map_set]] at r1
  obtain ⟨X',s',cs',e2,r2,l2,h2,s2⟩:=ZkN hN t (i+1) (s.drop ((s.takeWhile (· !=c)).length+1)) (cs.set i (s.takeWhile (· !=c))) X1 (by omega) (by omega) (by simp;omega) (by omega) (by simpa using hl) r1
  refine ⟨X',s',cs',(Zv ?_).trans e2,r2,l2,?_,s1.trans s2⟩
  ·have q1 : bop .int .lss (iv ((s.takeWhile (· !=c)).length : Nat)) (.int .i64 0) X=some (.bool false,X):=by rw [Zg,decide_eq_false (by omega)]
   rw [QL]
   unfold Jh.l1
   rw [Za Zg,Zb,if_pos (by simpa using hlt),Za e1,Za q1,Zb,if_neg (by simp),Za Zs,w0,Za (ZnB (by omega)),ZiX,Za x1,Za x2,Za Zz,Za Zs,w,Za (Zqk (by omega)),Za Zs,Qb (by omega)]
   rfl
  ·have h5 : i < (cs.set i (s.takeWhile (· !=c))).length:=by simp;omega
   rw [h2,ZfF hcs,List.take_succ_eq_append_getElem h5,List.take_set_of_le (Nat.le_refl _)]
   simp
theorem ZqC (hs : s.length≤1000000) : ∃ X' v q,R (n+6) Wj [strv s,strv [c]] X=some (v,X')∧ZC X' v ((Z9 c s).map strv) q∧HLe X X':=by
 have hcl : s.count c≤s.length:=List.count_le_length
 have e0 : run Tryz.prog np lvs (n+4) Wg [strv s,strv [c]] X=_:=Zrh (n:=n+2)
 have w1 : IntKind.i64.wrap ((s.count c : Int)+1)=((s.count c+1 : Nat) : Int):=Qb (by omega)
 have w2 : IntKind.i64.wrap ((s.length : Int)+1)=((s.length+1 : Nat) : Int):=Qb (by omega)
 have q0 : bop .int .eql (.int .i64 (-1)) (.int .i64 0) X=some (.bool false,X):=by rw [ZH];rfl
 have q1 : bop .str .eql (strv [c]) (.string ⟨#[]⟩) X=some (.bool false,X):=Zb2 (b:=[])
 have q2 : bop .int .lss (.int .i64 (-1)) (.int .i64 0) X=some (.bool true,X):=by rw [Zg];rfl
 have hm : mxi false (iv ((s.count c+1 : Nat) : Int)) (iv ((s.length+1 : Nat) : Int)) X=some (iv ((s.count c+1 : Nat) : Int),X):=by rw [J5,if_neg (by omega)]
 have e1:=Zso (k:=s.count c+1) (b:=16) (z:=.string ⟨#[]⟩) (H:=X) rfl (by omega) (by omega)
 have k1 : HLe X (X++[.cells (List.replicate (s.count c+1) (Value.string ⟨#[]⟩)) 1 false false]):=.app _ _
 have r1 : ZC (X++[.cells (List.replicate (s.count c+1) (Value.string ⟨#[]⟩)) 1 false false]) (.slice (some ⟨X.length,0,none⟩) (s.count c+1) (s.count c+1)) ((List.replicate (s.count c+1) ([] : List UInt8)).map strv) [X.length]:=by
  rw [List.map_replicate]
  exact ZC.new ZZ
 have ho : ∀ j∈[X.length],X.length≤j:=by simp
 generalize X++[Zi.cells (List.replicate (s.count c+1) (Value.string ⟨#[]⟩)) 1 false false]=X1 at e1 k1 r1
 generalize hv : Value.slice (some ⟨X.length,0,none⟩) (s.count c+1) (s.count c+1)=v at e1 r1
 have w3 : IntKind.i64.wrap (((s.count c+1 : Nat) : Int) - 1)=((s.count c+1 - 1 : Nat) : Int):=ZkJ (by omega) (by omega)
 obtain ⟨X2,s',cs',e2,r2,l2,h2,s2⟩:=ZkN (n:=n) (c:=c) (N:=s.count c+1) (by omega) (s.count c+1 - 1 - 0) 0 s _ X1 rfl (by omega) hs (by omega) (by simp) r1
 have e2 : Zj (c6 (Jh.l1 (R (n+4)))) [strv s,strv [c],.int .i64 0,iv ((s.count c+1 - 1 : Nat) : Int),v,.int .i64 0] X1=_:=e2
 have x1:=r2.ix (i:=s.count c+1 - 1) (by simp;omega) .i64 X2
 obtain ⟨X3,x2,r3,s3,_⟩:=r2.stx (i:=s.count c+1 - 1) (u:=strv s') (by simp;omega) rfl
 have hfin : (cs'.set (s.count c+1 - 1) s')=Z9 c s:=by
  have h6 : s.count c+1 - 1 < cs'.length:=by omega
  rw [← List.take_append_drop (s.count c+1 - 1) (cs'.set (s.count c+1 - 1) s'),List.take_set_of_le (Nat.le_refl _),List.drop_set]
  rw [if_neg (by omega),Nat.sub_self]
  have hd : (cs'.drop (s.count c+1 - 1)).length=1:=by simp;omega
  obtain ⟨a,ha⟩:=List.length_eq_one_iff.1 hd
  rw [ha,List.set_cons_zero,h2]
  rfl
 rw [show (cs'.map strv).set (s.count c+1 - 1) (strv s')=(cs'.set (s.count c+1 - 1) s').map strv from by rw [List.map_set],hfin] at r3
 have hlen : ((Z9 c s).map strv).length=s.count c+1:=by rw [List.length_map,Zbo]
 have x3 : ∃ v',slv 1 v none (some (iv ((s.count c+1 : Nat) : Int))) none X3=some (v',X3)∧ZC X3 v' ((Z9 c s).map strv) [X.length]:=by
  rcases r3 with ⟨h,_,_⟩ | ⟨sid,rest,g,h1,h3,h4⟩
  ·rw [h] at hlen;simp at hlen
  ·rw [hlen] at h1
   refine ⟨.slice (some ⟨sid,0,none⟩) (s.count c+1) (s.count c+1+rest.length),?_,.inr ⟨sid,rest,g,by rw [hlen],h3,h4⟩⟩
   have b1 : bnd (some (iv ((s.count c+1 : Nat) : Int))) (s.count c+1)=some (s.count c+1):=by simp [bnd];omega
   have b2 : ∀ d,bnd none d=some d:=fun _=>rfl
   rw [h1]
   simp only [slv,h4,b1,b2]
   rw [if_pos ⟨trivial,by omega,by omega,Nat.le_refl _⟩,if_neg (by omega)]
   simp
 obtain ⟨v',x3,r4⟩:=x3
 have w4 : IntKind.i64.wrap (((s.count c+1 - 1 : Nat) : Int)+1)=((s.count c+1 : Nat) : Int):=by rw [Qb (by omega)];congr 1
 have e3 : run Tryz.prog np lvs (n+5) Wb [strv s,strv [c],.int .i64 0,.int .i64 (-1)] X=some (v',X3):=by
  rw [Ze9 rfl]
  unfold Jh
  rw [Za q0,Zb,if_neg (by simp),Za q1,Zb,if_neg (by simp),Za q2]
  refine (Ka (vs:=[strv s,strv [c],.int .i64 0,iv ((s.count c+1 : Nat) : Int)]) (H':=X) ?_).trans ?_
  ·rw [Zb,if_pos rfl,Za e0,Za Zs,w1];rfl
  ·rw [ZA,Za Zz,Za Zs,w2,Za hm,Za e1,Za Qk,w3]
   refine (Ka (vs:=[strv s',v,iv ((s.count c+1 - 1 : Nat) : Int)]) (H':=X2) ?_).trans ?_
   ·rw [ZM e2,Zu,ZN];rfl
   ·rw [ZN,Za x1,Za x2,Za Zs,w4,Za x3];rfl
 refine ⟨X3,v',[X.length],?_,r4,(k1.more (s2.trans s3) ho).1⟩
 rw [R,ZhC rfl]
 unfold ZbM
 rw [Za e3]
 rfl
end
end Go.Proofs.YtnnehafmjfmbnaaGreatDoor.A
namespace Go.Proofs.YtnnehafmjfmbnaaGreatDoor.A
set_option linter.unusedVariables false
set_option linter.unusedSimpArgs false
open Go.Proofs Go.Proofs.YtnnehafmjfmbnaaGreatDoor
section
variable {H X : Zc} {n : Nat} {s f : List UInt8} {c : UInt8}
theorem Zqz {b : UInt8} : R (n+2) ZaA [u8v b] H=some (.bool (Y9 b),H):=by
 have e1 : run Tryz.prog np lvs (n+1) JX [u8v b] H=some (.bool (YL b),H):=Zeh
 have e2 : run Tryz.prog np lvs (n+1) Yj [u8v b] H=some (.bool (W7 b),H):=Zgs
 rw [R,Zkm rfl]
 unfold Y9 ZdN
 rw [Za e1]
 cases YL b
 ·rw [ZQ,Zf,Za e2,Z5,Z4,Za Zh]
  rfl
 ·rw [Za (g_r.trans (if_neg (by simp)))]
  simp only [List.replicate]
  rw [Z4,Za Zh]
  rfl
theorem Znl (hs : s.length≤1000000000) : R (n+3) YQ [strv s,.func (.func ZaA) #[] #[]] H=some (.bool (s.all Y9),H):=
 ZnY (fun b H=>by rw [Zlr];exact Zqz) hs
theorem Zov {v : Value} {q : List Nat} {ls : List (List UInt8)} (hl : ls.length≤1000) (hb : ∀ l∈ls,l.length≤1000000) (hr : ZC X v (ls.map strv) q) : ∀ (t k : Nat),ls.length - k=t→k≤ls.length→
  Zj (c4 (Yn.l1 (R (n+3)))) [strv f,v,iv ls.length,iv k] X=some (if (ls.drop k).all ZdS then .ext 0 [strv f] else .ret (.tuple #[strv [],iv 11]),X)
 | 0,k,ht,hk=>by
  have : k=ls.length:=by omega
  subst this
  rw [List.drop_length]
  refine ZD ?_
  rw [ZA]
  unfold Yn.l1
  rw [Za Zg,Zb,if_neg (by simp)]
  rfl
 | t+1,k,ht,hk=>by
  have hkl : k < ls.length:=by omega
  have hlt : (k : Int) < ls.length:=by omega
  have hg:=List.getElem?_eq_getElem hkl
  have hm:=List.getElem_mem hkl
  have hd:=List.drop_eq_getElem_cons hkl
  generalize ls[k]=l at hg hd hm
  have x1:=hr.ix (i:=k) (by simpa using hkl) .i64 X
  have x2:=hr.ldx (Q3 hg)
  have e1 : R (n+3) YQ [strv l,.func (.func ZaA) #[] #[]] X=some (.bool (l.all Y9),X):=Znl (Nat.le_trans (hb l hm) (by decide))
  have ih:=Zov hl hb hr t (k+1) (by omega) (by omega)
  have q1 : bop .str .eql (strv l) (.string ⟨#[]⟩) X=some (.bool (l==[]),X):=Zb2 (b:=[])
  have hb1 : c4 (Yn.l1 (R (n+3))) [strv f,v,iv ls.length,iv k] X=some (if ZdS l then .nrm [strv f,v,iv ls.length,iv ((k+1 : Nat) : Int)] else .ret (.tuple #[strv [],iv 11]),X):=by
   rw [ZA]
   unfold Yn.l1 ZdS
   rw [Za Zg,Zb,if_pos (by simpa using hlt),Za x1,Za x2,Za q1]
   cases l==[]
   ·rw [ZQ,Zf,Za e1,Zf,Za ZE,Z5,ZN,Za Zh]
    simp only [cond_false]
    cases l.all Y9
    ·rw [Zb,if_pos (by rfl)];rfl
    ·rw [Zb,if_neg (by simp),Za Zs,Qb (by omega)];rfl
   ·rw [Za (g_r.trans (if_neg (by simp)))]
    simp only [List.replicate]
    rw [ZN,Za Zh]
    simp only [cond_true]
    rw [Zb,if_pos rfl]
    rfl
  rw [hd,List.all_cons]
  cases hlb : ZdS l
  ·rw [hlb] at hb1
   exact ZU hb1
  ·rw [hlb] at hb1
   rw [Bool.true_and]
   exact (Zv hb1).trans ih
theorem ZbZ {c : UInt8} : ∀ {s : List UInt8},∀ l∈Z9 c s,l.length≤s.length
 | [],l,h=>by simp [Z9] at h;simp [h]
 | b :: s,l,h=>by
  rw [show Z9 c (b :: s)=(if b=c then [] :: Z9 c s else match Z9 c s with | h :: t=>(b :: h) :: t | []=>[[b]]) from rfl] at h
  split at h
  ·rcases List.mem_cons.1 h with rfl | h
   ·simp
   ·have:=ZbZ l h
    simp;omega
  ·cases hsp : Z9 c s with
   | nil=>exact absurd hsp Zcc
   | cons a t=>
    rw [hsp] at h
    rcases List.mem_cons.1 h with rfl | h
    ·have:=ZbZ (c:=c) (s:=s) a (by rw [hsp];simp)
     simpa using this
    ·have:=ZbZ (c:=c) (s:=s) l (by rw [hsp];simp [h])
     simp;omega
theorem Zfo : (ZT s).length=s.length:=by simp [ZT]
theorem ZiF : ∃ X',R (n+8) Ko [strv s] X=some (.tuple #[strv (if Q2 s then ZT s else []),iv (if Q2 s then 0 else 11)],X')∧HLe X X':=by
 have f1 : ∀ r X',Yn (R (n+7)) (strv s) X=some (r,X')→R (n+8) Ko [strv s] X=some (r,X'):=fun r X' hr=>by rw [R,ZlZ rfl];exact hr
 unfold Q2
 by_cases h20 : s.length≤20
 ·have q1 : bop .int .gtr (iv s.length) (.int .i64 20) X=some (.bool false,X):=by rw [ZR,decide_eq_false (by omega)]
  obtain ⟨X1,e1,k1⟩:=ZrC (n:=n+6) (s:=s) (H:=X) (by omega)
  have e1 : R (n+7) Zbv [strv s] X=_:=e1
  have hfl : (ZT s).length≤20:=by rw [Zfo];exact h20
  generalize ZT s=f at e1 hfl
  have e2 : R (n+7) KJ [strv f,strv [64]] X1=_:=Zse (n:=n+2) (c:=64) (by omega)
  obtain ⟨loc,e2'⟩ : ∃ loc : List UInt8,R (n+7) KJ [strv f,strv [64]] X1=some (.tuple #[strv loc,strv (Kk f),.bool (decide (64∈f))],X1)∧(64∈f→loc=f.takeWhile (· !=64)):=by
   unfold Kk
   by_cases h : 64∈f
   ·rw [if_pos h] at e2
    exact ⟨_,by rw [e2,if_pos h,decide_eq_true h],fun _=>rfl⟩
   ·rw [if_neg h] at e2
    exact ⟨_,by rw [e2,if_neg h,decide_eq_false h],fun h2=>absurd h2 h⟩
  obtain ⟨e2',hloc⟩:=e2'
  have hdl : (Kk f).length≤20:=by unfold Kk;split <;> simp;omega
  obtain ⟨X2,v,q,e3,r3,k3⟩:=ZqC (n:=n+1) (c:=46) (s:=Kk f) (X:=X1) (by omega)
  have e3 : R (n+7) Wj [strv (Kk f),.string ⟨#[46]⟩] X1=_:=e3
  have e2'' : R (n+7) KJ [strv f,.string ⟨#[64]⟩] X1=_:=e2'
  have hcl : (Kk f).count 46≤(Kk f).length:=List.count_le_length
  have hsl:=Zbo (c:=46) (s:=Kk f)
  have hl : Zx v X2=some (iv (Z9 46 (Kk f)).length,X2):=by have:=r3.rd.len (H':=X2);rwa [List.length_map] at this
  have e4 : R (n+7) KG [strv loc] X2=some (.bool (Zo loc),X2):=ZjY (n:=n+3)
  have e5:=Zov (n:=n+4) (f:=f) (ls:=Z9 46 (Kk f)) (by omega) (fun l h=>Nat.le_trans (ZbZ l h) (by omega)) r3 (Z9 46 (Kk f)).length 0 (by omega) (by omega)
  rw [List.drop_zero] at e5
  have e5 : Zj (c4 (Yn.l1 (R (n+7)))) [strv f,v,iv (Z9 46 (Kk f)).length,.int .i64 0] X2=_:=e5
  refine ⟨X2,f1 _ _ ?_,k1.trans k3⟩
  unfold Yn
  rw [Za Zz,Za q1,Zb,if_neg (by simp),Za e1,Za e2'']
  have t0 : ZF (.tuple #[strv loc,strv (Kk f),.bool (decide (64∈f))]) 0 X1=some (strv loc,X1):=rfl
  have t1 : ZF (.tuple #[strv loc,strv (Kk f),.bool (decide (64∈f))]) 1 X1=some (strv (Kk f),X1):=rfl
  have t2 : ZF (.tuple #[strv loc,strv (Kk f),.bool (decide (64∈f))]) 2 X1=some (.bool (decide (64∈f)),X1):=rfl
  rw [Za t0,Za t1,Za t2,Za e3,Za ZE]
  unfold okM
  rw [decide_eq_true h20]
  by_cases h : 64∈f
  ·rw [decide_eq_true h,← hloc h]
   simp only [Bool.not_true,Bool.true_and]
   rw [ZQ,Zf,Za e4,Zf,Za ZE,Z5,ZN,Za Zh]
   simp only [cond_false]
   cases Zo loc
   ·simp only [Bool.not_false,Bool.false_and]
    rw [Za (g_r.trans (if_neg (by simp)))]
    simp only [List.replicate]
    rw [ZN,Za Zh]
    simp only [cond_true]
    rw [Zb,if_pos rfl]
    rfl
   ·simp only [Bool.not_true,Bool.true_and]
    rw [ZQ,Zf,Za hl,Zf,Za Zg,Z5,ZN,Za Zh]
    simp only [cond_false]
    by_cases h2 : 2≤(Z9 46 (Kk f)).length
    ·rw [decide_eq_false (by omega),Zb,if_neg (by simp),Za hl,decide_eq_true h2,Bool.true_and]
     cases ha : (Z9 46 (Kk f)).all ZdS
     ·rw [ha] at e5
      rw [Qr e5]
      rfl
     ·rw [ha] at e5
      rw [ZM e5,Zu]
      rfl
    ·rw [decide_eq_true (by omega),Zb,if_pos rfl,decide_eq_false h2]
     rfl
  ·rw [decide_eq_false h]
   simp only [Bool.not_false,Bool.false_and,Bool.and_false]
   rw [Za (g_r.trans (if_neg (by simp)))]
   simp only [List.replicate]
   rw [ZN,Za Zh]
   simp only [cond_true]
   rw [Za (g_r.trans (if_neg (by simp)))]
   simp only [List.replicate]
   rw [ZN,Za Zh]
   simp only [cond_true]
   rw [Zb,if_pos rfl]
   rfl
 ·have q1 : bop .int .gtr (iv s.length) (.int .i64 20) X=some (.bool true,X):=by rw [ZR,decide_eq_true (by omega)]
  refine ⟨X,f1 _ _ ?_,.refl _⟩
  unfold Yn
  rw [Za Zz,Za q1,Zb,if_pos rfl,decide_eq_false h20]
  rfl
theorem Zsi {i : Nat} (hi : i < (f.takeWhile (· !=c)).length) : ∃ x,f[i]?=some x∧x≠c:=by
 have h1 : (f.takeWhile (· !=c))[i]?=f[i]?:=by
  conv=>rhs;rw [← List.takeWhile_append_dropWhile (p:=(· !=c)) (l:=f)]
  rw [List.getElem?_append_left hi]
 have h2:=List.getElem?_eq_getElem hi
 have hm:=List.getElem_mem hi
 generalize (f.takeWhile (· !=c))[i]=x at h2 hm
 refine ⟨x,by rw [← h1,h2],?_⟩
 have:=List.all_eq_true.1 (List.all_takeWhile (p:=(· !=c)) (l:=f)) x hm
 simpa using this
theorem Zo3 : ∀ {f : List UInt8},c∈f→f[(f.takeWhile (· !=c)).length]?=some c
 | [],h=>by cases h
 | b :: f,h=>by
  by_cases hb : b=c
  ·subst hb;simp
  ·have hm : c∈f:=by
    rcases List.mem_cons.1 h with h | h
    ·exact absurd h.symm hb
    ·exact h
   have ih:=Zo3 hm
   have h2 : (b !=c)=true:=by simp [hb]
   rw [List.takeWhile_cons,h2]
   simpa using ih
theorem ZlE : ∀ {f : List UInt8},c∉f→(f.takeWhile (· !=c)).length=f.length
 | [],_=>rfl
 | b :: f,h=>by
  simp only [List.mem_cons,not_or] at h
  have h2 : (b !=c)=true:=by simp [Ne.symm h.1]
  rw [List.takeWhile_cons,h2]
  simpa using ZlE h.2
theorem Zqj (hf : f.length≤1000000) : ∀ (t k : Nat),(f.takeWhile (· !=64)).length - k=t→k≤(f.takeWhile (· !=64)).length→
  Zj (c2 (Qs.l1 (R n))) [strv f,iv k] X=some (.ext 0 [strv f,iv (f.takeWhile (· !=64)).length],X)
 | 0,k,ht,hk=>by
  have : k=(f.takeWhile (· !=64)).length:=by omega
  subst this
  refine ZD ?_
  rw [Z4]
  unfold Qs.l1
  rw [Za Zz,Za Zg]
  by_cases h : 64∈f
  ·have hl:=Zim h
   have x1:=WR (Zo3 h) .i64 X
   have q1 : bop .int .neq (u8v 64) (.int .u8 64) X=some (.bool false,X):=by rw [Zn];rfl
   rw [decide_eq_true (by omega),ZQ,Zf,Za x1,Zf,Za q1,Z5,ZA,Za Zh]
   simp only [cond_true]
   rw [Zb,if_neg (by simp)]
   rfl
  ·have hl:=ZlE h
   rw [decide_eq_false (by omega),Za (g_r.trans (if_neg (by simp)))]
   simp only [List.replicate]
   rw [ZA,Za Zh]
   simp only [cond_false]
   rw [Zb,if_neg (by simp)]
   rfl
 | t+1,k,ht,hk=>by
  have hkt : k < (f.takeWhile (· !=64)).length:=by omega
  have hle : (f.takeWhile (· !=64)).length≤f.length:=(List.takeWhile_prefix _).length_le
  obtain ⟨x,hx,hne⟩:=Zsi hkt
  have x1:=WR hx .i64 X
  have q1 : bop .int .neq (u8v x) (.int .u8 64) X=some (.bool true,X):=by
   have:=Zd7 (a:=x) (b:=64)
   have h2 : (x==64)=false:=beq_eq_false_iff_ne.2 hne
   rw [h2] at this
   rw [Zn]
   have h3 : ((x.toNat : Int)==64)=false:=this
   simp only [bne,h3];rfl
  refine (Zv ?_).trans (Zqj hf t (k+1) (by omega) (by omega))
  rw [Z4]
  unfold Qs.l1
  rw [Za Zz,Za Zg,decide_eq_true (by omega),ZQ,Zf,Za x1,Zf,Za q1,Z5,ZA,Za Zh]
  simp only [cond_true]
  rw [Zb,if_pos rfl,Za Zs,Qb (by omega)]
  rfl
theorem ZjJ (hf : f.length≤1000000) : ∀ (t k st lg : Nat),f.length - k=t→k≤f.length→st≤k→lg≤k→
  Zj (c4 (Qs.l2 (R (n+1)))) [strv f,iv st,iv lg,iv k] X=some (match Wy (f.drop k) st lg with | some (a,b)=>.ext 2 [strv f,iv a,iv b] | none=>.ret (.tuple #[strv [],.bool false]),X)
 | 0,k,st,lg,ht,hk,h1,h2=>by
  have : k=f.length:=by omega
  subst this
  rw [List.drop_length]
  refine ZD ?_
  rw [ZA]
  unfold Qs.l2
  rw [Za Zz,Za Zg,Zb,if_neg (by simp)]
  rfl
 | t+1,k,st,lg,ht,hk,h1,h2=>by
  have hkl : k < f.length:=by omega
  have hlt : (k : Int) < f.length:=by omega
  have hg:=List.getElem?_eq_getElem hkl
  have hd:=List.drop_eq_getElem_cons hkl
  generalize f[k]=x at hg hd
  have x1:=WR hg .i64 X
  have q1 : bop .int .eql (u8v x) (.int .u8 46) X=some (.bool (x==46),X):=by
   rw [ZH]
   congr 2
   exact congrArg Value.bool (Zd7 (a:=x) (b:=46))
  have e1 : R (n+1) Kt [u8v x,.string ⟨#[97,98,99,100,101,102,103,104,105,106,107,108,109,110,111,112,113,114,115,116,117,118,119,120,121,122,48,49,50,51,52,53,54,55,56,57]⟩] X=some (.bool (Y9 x),X):=by
   rw [← Zlu]
   exact Znt (t:=ZlN) (by decide)
  rw [hd]
  by_cases hx : x=46
  ·subst hx
   by_cases hl : lg=0
   ·subst hl
    refine (ZU (v:=.tuple #[strv [],.bool false]) (H':=X) ?_).trans (by simp [Wy])
    rw [ZA]
    unfold Qs.l2
    rw [Za Zz,Za Zg,Zb,if_pos (by simpa using hlt),Za x1,Za q1]
    refine (Qr (v:=.tuple #[strv [],.bool false]) (H':=X) ?_).trans rfl
    rw [Zb,if_pos (by simp),Za ZH,Zb,if_pos (by rfl)]
    rfl
   ·have hs : Wy (46 :: f.drop (k+1)) st lg=Wy (f.drop (k+1)) (st+1) 0:=by simp [Wy,hl]
    rw [hs]
    refine (Zv ?_).trans (ZjJ hf t (k+1) (st+1) 0 (by omega) (by omega) (by omega) (by omega))
    rw [ZA]
    unfold Qs.l2
    rw [Za Zz,Za Zg,Zb,if_pos (by simpa using hlt),Za x1,Za q1]
    refine (Ka (vs:=[strv f,iv ((st+1 : Nat) : Int),iv (0 : Nat),iv k]) (H':=X) ?_).trans ?_
    ·rw [Zb,if_pos (by simp),Za ZH,Zb,if_neg (by simp;omega),Za Zs,Qb (by omega)];rfl
    ·rw [ZA,Za Zs,Qb (by omega)];rfl
  ·have hxf : (x==46)=false:=beq_eq_false_iff_ne.2 hx
   rw [hxf] at q1
   cases ha : Y9 x
   ·rw [ha] at e1
    refine (ZU (v:=.tuple #[strv [],.bool false]) (H':=X) ?_).trans (by simp [Wy,hx,ha])
    rw [ZA]
    unfold Qs.l2
    rw [Za Zz,Za Zg,Zb,if_pos (by simpa using hlt),Za x1,Za q1]
    refine (Qr (v:=.tuple #[strv [],.bool false]) (H':=X) ?_).trans rfl
    rw [Zb,if_neg (by simp),Za x1,Za e1,Za ZE,Zb,if_pos (by rfl)]
    rfl
   ·rw [ha] at e1
    have hs : Wy (x :: f.drop (k+1)) st lg=Wy (f.drop (k+1)) st (lg+1):=by simp [Wy,hx,ha]
    rw [hs]
    refine (Zv ?_).trans (ZjJ hf t (k+1) st (lg+1) (by omega) (by omega) (by omega) (by omega))
    rw [ZA]
    unfold Qs.l2
    rw [Za Zz,Za Zg,Zb,if_pos (by simpa using hlt),Za x1,Za q1]
    refine (Ka (vs:=[strv f,iv st,iv ((lg+1 : Nat) : Int),iv k]) (H':=X) ?_).trans ?_
    ·rw [Zb,if_neg (by simp),Za x1,Za e1,Za ZE,Zb,if_neg (by simp),Za Zs,Qb (by omega)];rfl
    ·rw [ZA,Za Zs,Qb (by omega)];rfl
theorem Zok : R (n+4) K3 [strv s] X=some (.tuple #[strv (if Q2 s then ZT s else []),.bool (Q2 s)],X):=by
 have f1 : ∀ r,Qs (R (n+3)) (strv s) X=r→R (n+4) K3 [strv s] X=r:=fun r hr=>by rw [R,Zkn rfl];exact hr
 refine f1 _ ?_
 unfold Q2 Qs
 by_cases h20 : s.length≤20
 ·have q1 : bop .int .gtr (iv s.length) (.int .i64 20) X=some (.bool false,X):=by rw [ZR,decide_eq_false (by omega)]
  have e1 : R (n+3) Zay [strv s] X=some (strv (ZT s),X):=ZoH (n:=n+2) (by omega)
  have hfl : (ZT s).length≤20:=by rw [Zfo];exact h20
  generalize ZT s=f at e1 hfl
  have e2:=Zqj (n:=n+3) (X:=X) (f:=f) (by omega) (f.takeWhile (· !=64)).length 0 (by omega) (by omega)
  have e2 : Zj (c2 (Qs.l1 (R (n+3)))) [strv f,.int .i64 0] X=_:=e2
  have hle : (f.takeWhile (· !=64)).length≤f.length:=(List.takeWhile_prefix _).length_le
  rw [Za Zz,Za q1,Zb,if_neg (by simp),Za e1,ZM e2,Zu,Z4,Za Zz,Za ZH,decide_eq_true h20]
  unfold okM
  by_cases h : 64∈f
  ·have hl:=Zim h
   have hne : (((f.takeWhile (· !=64)).length : Int)==(f.length : Int))=false:=by rw [beq_eq_false_iff_ne];omega
   have e3 : R (n+3) Yg [strv (f.takeWhile (· !=64))] X=some (.bool (Zo (f.takeWhile (· !=64))),X):=ZcJ
   rw [hne,ZQ,Zf,Za (ZnB (by omega)),ZiX,Zf,Za e3,Zf,Za ZE,Z5,Z7,Za Zh,decide_eq_true h]
   simp only [cond_false,Bool.true_and]
   cases Zo (f.takeWhile (· !=64))
   ·rw [Zb,if_pos (by rfl)];rfl
   ·have hdm : Kk f=f.drop ((f.takeWhile (· !=64)).length+1):=by unfold Kk;rw [if_pos h]
    have e4:=ZjJ (n:=n+2) (X:=X) (f:=f) (by omega) (f.length - ((f.takeWhile (· !=64)).length+1)) ((f.takeWhile (· !=64)).length+1) 0 0 rfl (by omega) (by omega) (by omega)
    have e4 : Zj (c4 (Qs.l2 (R (n+3)))) [strv f,.int .i64 0,.int .i64 0,iv (((f.takeWhile (· !=64)).length+1 : Nat) : Int)] X=_:=e4
    rw [← hdm] at e4
    rw [Zb,if_neg (by simp),Za Zs,Qb (by omega),Bool.true_and,← Zp8]
    unfold Zc9
    cases hsc : Wy (Kk f) 0 0 with
    | none=>
     rw [hsc] at e4
     rw [Qr e4]
     rfl
    | some p=>
     obtain ⟨a,b⟩:=p
     rw [hsc] at e4
     rw [ZM e4,Zu,ZN,Za ZH]
     by_cases ha : a=0
     ·subst ha
      have q2 : (((0 : Nat) : Int)==0)=true:=rfl
      rw [q2,Za (g_r.trans (if_neg (by simp)))]
      simp only [List.replicate]
      rw [Z4,Za Zh]
      simp only [cond_true]
      rw [Zb,if_pos rfl]
      rfl
     ·have q2 : (((a : Nat) : Int)==0)=false:=by rw [beq_eq_false_iff_ne];omega
      rw [q2,ZQ,Zf,Za ZH,Z5,Z4,Za Zh]
      simp only [cond_false]
      by_cases hb : b=0
      ·subst hb
       rw [Zb,if_pos (by rfl)]
       simp [ret]
       rfl
      ·have q3 : (((b : Nat) : Int)==0)=false:=by rw [beq_eq_false_iff_ne];omega
       rw [q3,Zb,if_neg (by simp)]
       simp [ret,ha,hb]
  ·have hl:=ZlE h
   have hne : (((f.takeWhile (· !=64)).length : Int)==(f.length : Int))=true:=by rw [hl];simp
   rw [hne,Za (g_r.trans (if_neg (by simp))),decide_eq_false h]
   simp only [List.replicate]
   rw [Z7,Za Zh]
   simp only [cond_true]
   rw [Zb,if_pos rfl]
   rfl
 ·have q1 : bop .int .gtr (iv s.length) (.int .i64 20) X=some (.bool true,X):=by rw [ZR,decide_eq_true (by omega)]
  rw [Za Zz,Za q1,Zb,if_pos rfl,decide_eq_false h20]
  rfl
end
end Go.Proofs.YtnnehafmjfmbnaaGreatDoor.A

namespace Go.Proofs.YtnnehafmjfmbnaaGreatDoor.A
set_option linter.unusedVariables false
set_option linter.unusedSimpArgs false
structure KO {α : Type} (enc : α→Value) (H : Zc) (id : Nat) (m : List (List UInt8 × α)) : Prop where
 ex : ∃ es clk,es.map kv=m.map (fun p=>(strv p.1,enc p.2))∧H[id]?=some (.map es clk)∧WG es clk
 nod : (m.map (·.1)).Nodup
section
variable {α : Type} {enc : α→Value} {H H' : Zc} {id : Nat} {m : List (List UInt8 × α)} {k : List UInt8} {v : α} {z : Value}
theorem KO.g (h : KO enc H id m) : Js enc H id m:=by
 obtain ⟨es,clk,h1,h2,h3⟩:=h.ex
 exact ⟨⟨es,h1,.inl ⟨clk,h2,h3⟩⟩,h.nod⟩
theorem KO.lt (h : KO enc H id m) : id < H.length:=h.g.lt
theorem KO.keep (h : KO enc H id m) (hk : H'[id]?=H[id]?) : KO enc H' id m:=by
 obtain ⟨es,clk,h1,h2,h3⟩:=h.ex
 exact ⟨⟨es,clk,h1,by rw [hk];exact h2,h3⟩,h.nod⟩
theorem KO.hle (h : KO enc H id m) (hl : HLe H H') : KO enc H' id m:=h.keep (hl.step.keep id h.lt (by simp))
theorem KO.step {o1 o2 : List Nat} (h : KO enc H id m) (hs : ZK o1 H o2 H') (hn : id∉o1) : KO enc H' id m:=h.keep (hs.keep id h.lt hn)
theorem Zqq (H : Zc) : ∃ H',mkm H=some (.map (some H.length),H')∧KO enc H' H.length ([] : List (List UInt8 × α))∧HLe H H'∧H'.length=H.length+1:=
 ⟨_,rfl,⟨⟨[],0,rfl,ZZ,⟨by simp,by simp⟩⟩,by simp⟩,.app _ _,by simp⟩
theorem KO.mde (h : KO enc H id m) : ∃ H',A.mde .str (.map (some id)) (strv k) H=some (.tuple #[],H')∧KO enc H' id (YA k m)∧ZK [id] H [id] H'∧H'.length=H.length:=by
 obtain ⟨es,clk,h1,h2,hs⟩:=h.ex
 have hst : ∀ o,ZK [id] H [id] (H.set id o):=fun o=>⟨by simp,fun j hj hn=>List.getElem?_set_ne (fun e=>hn (by simp [e])),fun j hj=>.inl hj⟩
 have hnod:=ZhT (k:=k) h.nod
 rcases ZcU (k:=k) 0 h1 with ⟨h3,h4⟩ | ⟨j,v0,h3,h4,h5⟩
 ·refine ⟨H,?_,by rw [ZjT h3];exact h,.refl _ _,rfl⟩
  unfold A.mde
  simp only [h2,Kw,cond_true,h4]
 ·have ha : YA k m=m.eraseIdx j:=(Zba h.nod h3).symm
  rw [ha] at hnod ⊢
  rw [Nat.zero_add] at h5
  have hm : (es.eraseIdx j).map kv=(m.eraseIdx j).map fun p=>(strv p.1,enc p.2):=by
   have hg : ∀ {β γ : Type} (f : β→γ) (l : List β) (j : Nat),(l.eraseIdx j).map f=(l.map f).eraseIdx j:=fun f l j=>by
    rw [List.eraseIdx_eq_take_drop_succ,List.eraseIdx_eq_take_drop_succ,List.map_append,List.map_take,List.map_drop]
   rw [hg,hg,h1]
  refine ⟨H.set id (.map (es.eraseIdx j) clk),?_,⟨⟨_,clk,hm,Jc h2,⟨fun e he=>hs.lt e ((List.eraseIdx_sublist es j).subset he),((List.eraseIdx_sublist es j).map _).nodup hs.nod⟩⟩,hnod⟩,hst _,by simp⟩
  unfold A.mde;simp only [h2,Kw,cond_true,h5]
theorem Ze3 {es : List (Value × Value × Nat)} {j : Nat} {e : Value × Value × Nat} (hn : (es.map (·.2.2)).Nodup) (hj : es[j]?=some e) : es.findIdx? (fun x=>(x.2.2 : Int)==(e.2.2 : Nat))=some j:=by
 rw [List.findIdx?_eq_some_iff_getElem]
 have hlt:=(List.getElem?_eq_some_iff.1 hj).1
 have he:=(List.getElem?_eq_some_iff.1 hj).2
 refine ⟨hlt,by rw [he];simp,fun i hi=>?_⟩
 have hil : i < es.length:=by omega
 simp only [Bool.not_eq_true,beq_eq_false_iff_ne,ne_eq]
 intro h
 have h2 : es[i].2.2=e.2.2:=by omega
 have hp:=List.pairwise_iff_getElem.1 (List.nodup_iff_pairwise_ne.1 hn) i j (by simpa using hil) (by simpa using hlt) hi
 rw [List.getElem_map,List.getElem_map,he] at hp
 exact hp h2
theorem KO.put (h : KO enc H id m) : ∃ t st H1 H2,men .str z (.map (some id)) (strv k) H=some (t,H1)∧ZF t 1 H1=some (st,H1)∧ens (.map (some id)) st (enc v) H1=some (undef,H2)∧KO enc H2 id (Qz k v m)∧ZK [id] H [id] H1∧ZK [id] H [id] H2∧H2.length=H.length:=by
 obtain ⟨es,clk,h1,h2,hs⟩:=h.ex
 have hst : ∀ o,ZK [id] H [id] (H.set id o):=fun o=>⟨by simp,fun j hj hn=>List.getElem?_set_ne (fun e=>hn (by simp [e])),fun j hj=>.inl hj⟩
 have hst2 : ∀ o o',ZK [id] H [id] ((H.set id o).set id o'):=fun o o'=>⟨by simp,fun j hj hn=>by rw [List.getElem?_set_ne (fun e=>hn (by simp [e])),List.getElem?_set_ne (fun e=>hn (by simp [e]))],fun j hj=>.inl hj⟩
 have hnod:=Zib (k:=k) (v:=v) h.nod
 rcases ZcU (k:=k) 0 h1 with ⟨h3,h4⟩ | ⟨j,v0,h3,h4,h5⟩
 ·have ha : Qz k v m=m++[(k,v)]:=by unfold Qz;rw [h3];rfl
  rw [ha] at hnod ⊢
  have hS : WG (es++[(strv k,z,clk)]) (clk+1):=⟨fun e he=>by
   rcases List.mem_append.1 he with he | he
   ·have:=hs.lt e he;omega
   ·have : e=(strv k,z,clk):=by simpa using he
    rw [this];exact Nat.lt_succ_self _,by
   rw [List.map_append,List.nodup_append]
   refine ⟨hs.nod,by simp,fun a ha b hb=>?_⟩
   have hb : b=clk:=by simpa using hb
   obtain ⟨e,he,rfl⟩:=List.mem_map.1 ha
   have:=hs.lt e he;omega⟩
  have hlen : es.length=m.length:=by have:=congrArg List.length h1;simpa using this
  have hget : (es++[(strv k,z,clk)])[es.length]?=some (strv k,z,clk):=by simp
  have hfi:=Ze3 hS.nod hget
  have hgk : ((es++[(strv k,z,clk)]).map kv)[es.length]?=some (strv k,z):=by rw [List.getElem?_map,hget];rfl
  refine ⟨.tuple #[z,.int .i64 (clk : Nat)],.int .i64 (clk : Nat),H.set id (.map (es++[(strv k,z,clk)]) (clk+1)),(H.set id (.map (es++[(strv k,z,clk)]) (clk+1))).set id (.map (JU (es++[(strv k,z,clk)]) es.length (enc v)) (clk+1)),?_,rfl,?_,⟨⟨_,clk+1,?_,Jc (Jc h2),Zgu hS⟩,hnod⟩,hst _,hst2 _ _,by simp⟩
  ·unfold men;simp only [h2,Kw,cond_true,h4]
  ·unfold ens
   simp only [Jc h2,hfi]
  ·rw [Zee hgk,List.map_append,h1,List.map_append]
   have : es.length=(m.map fun p=>(strv p.1,enc p.2)).length:=by rw [List.length_map,hlen]
   rw [this]
   simp [kv]
 ·have ha : Qz k v m=m.set j (k,v):=by unfold Qz;rw [h4];exact (ZeQ h.nod h3).symm
  rw [ha] at hnod ⊢
  rw [Nat.zero_add] at h5
  have hget : (es.map kv)[j]?=some (strv k,enc v0):=by rw [h1,List.getElem?_map,h3];rfl
  obtain ⟨e,he,hek⟩ : ∃ e,es[j]?=some e∧kv e=(strv k,enc v0):=by
   rw [List.getElem?_map] at hget
   cases hh : es[j]? with
   | none=>rw [hh] at hget;cases hget
   | some e=>rw [hh] at hget;exact ⟨e,rfl,by simpa using hget⟩
  have hfi:=Ze3 hs.nod he
  have hgd : (es.getD j (undef,undef,0)).2.2=e.2.2:=by rw [List.getD_eq_getElem?_getD,he];rfl
  refine ⟨.tuple #[enc v0,.int .i64 (e.2.2 : Nat)],.int .i64 (e.2.2 : Nat),H,H.set id (.map (JU es j (enc v)) clk),?_,rfl,?_,⟨⟨_,clk,?_,Jc h2,Zgu hs⟩,hnod⟩,.refl _ _,hst _,by simp⟩
  ·unfold men;simp only [h2,Kw,cond_true,h5,hgd]
  ·unfold ens
   simp only [h2,hfi]
  ·rw [Zee hget,h1,List.map_set]
end
end Go.Proofs.YtnnehafmjfmbnaaGreatDoor.A

namespace Go.Proofs.YtnnehafmjfmbnaaGreatDoor.A
set_option linter.unusedVariables false
set_option linter.unusedSimpArgs false
open Go.Proofs Go.Proofs.YtnnehafmjfmbnaaGreatDoor
structure Inv (OW OF : J0) : Prop where
 inv : ∀ k v,Ze k OF=some v↔Ze v OW=some k
 same : OW.length=OF.length
 lens : ∀ p∈OF,p.1≠[]∧p.1.length≤12∧p.2≠[]∧p.2.length≤20
def WP (k : List UInt8) (OW OF : J0) : J0:=match Ze k OF with
 | some m=>YA m OW
 | none=>OW
def Km (k : List UInt8) (OF : J0) : J0:=match Ze k OF with
 | some _=>YA k OF
 | none=>OF
section
variable {OW OF : J0} {k f : List UInt8}
theorem Inv.drop (h : Inv OW OF) (n1 : (OW.map (·.1)).Nodup) (n2 : (OF.map (·.1)).Nodup) : Inv (WP k OW OF) (Km k OF):=by
 unfold WP Km
 cases hk : Ze k OF with
 | none=>exact h
 | some m=>
  have hm:=(h.inv k m).1 hk
  refine ⟨fun j v=>?_,?_,fun p hp=>h.lens p (List.mem_filter.1 hp).1⟩
  ·by_cases hj : j=k
   ·subst hj
    rw [Za0]
    constructor
    ·intro e;cases e
    ·intro e
     by_cases hv : v=m
     ·subst hv;rw [Za0] at e;cases e
     ·rw [Yi hv,← h.inv] at e
      rw [hk] at e
      exact absurd (Option.some.inj e).symm hv
   ·rw [Yi hj]
    by_cases hv : v=m
    ·subst hv
     rw [Za0,h.inv,hm]
     constructor
     ·intro e;exact absurd (Option.some.inj e).symm hj
     ·intro e;cases e
    ·rw [Yi hv,h.inv]
  ·rw [ZhS n1 (by rw [hm];rfl),ZhS n2 (by rw [hk];rfl),h.same]
theorem Inv.put (h : Inv OW OF) (h1 : Ze f OW=none) (h2 : Ze k OF=none) (hk : k≠[]∧k.length≤12) (hf : f≠[]∧f.length≤20) : Inv (Qz f k OW) (Qz k f OF):=by
 refine ⟨fun j v=>?_,?_,fun p hp=>?_⟩
 ·by_cases hj : j=k
  ·subst hj
   rw [Kr]
   by_cases hv : v=f
   ·subst hv;rw [Kr];simp
   ·rw [YF hv,← h.inv,h2]
    constructor
    ·intro e;exact absurd (Option.some.inj e).symm hv
    ·intro e;cases e
  ·rw [YF hj]
   by_cases hv : v=f
   ·subst hv
    rw [Kr,h.inv,h1]
    constructor
    ·intro e;cases e
    ·intro e;exact absurd (Option.some.inj e).symm hj
   ·rw [YF hv,h.inv]
 ·rw [ZbW,ZbW,h1,h2,h.same]
 ·unfold Qz at hp
  rw [h2] at hp
  simp only [Option.isSome_none,Bool.false_eq_true,if_false,List.mem_append,List.mem_singleton] at hp
  rcases hp with hp | rfl
  ·exact h.lens p hp
  ·exact ⟨hk.1,hk.2,hf.1,hf.2⟩
theorem Zal : Ze k (Km k OF)=none:=by
 unfold Km
 cases hk : Ze k OF with
 | none=>exact hk
 | some m=>exact Za0
theorem Zie (h : Inv OW OF) (hf : ∀ w,Ze f OW=some w→w=k) : Ze f (WP k OW OF)=none:=by
 unfold WP
 cases hk : Ze k OF with
 | none=>
  cases ho : Ze f OW with
  | none=>rfl
  | some w=>
   have:=hf w ho
   subst this
   rw [← h.inv,hk] at ho
   cases ho
 | some m=>
  by_cases hm : f=m
  ·subst hm;exact Za0
  ·simp only
   rw [Yi hm]
   cases ho : Ze f OW with
   | none=>rfl
   | some w=>
    have:=hf w ho
    subst this
    rw [← h.inv,hk] at ho
    exact absurd (Option.some.inj ho).symm hm
theorem ZbS {j : List UInt8} (hj : j≠k) : Ze j (Km k OF)=Ze j OF:=by
 unfold Km
 cases hk : Ze k OF with
 | none=>rfl
 | some m=>exact Yi hj
def Kc (k m : List UInt8) (OW : J0) : Int:=
 if Zo k then (if m=[] then 0 else if Q2 m then (match Ze (ZT m) OW with
  | some w=>if w=k then 0 else 9
  | none=>0) else 11) else 10
def ZiY (k m : List UInt8) (OW OF : J0) : J0:=if Kc k m OW=0 then (if m=[] then WP k OW OF else Qz (ZT m) k (WP k OW OF)) else OW
def Zbk (k m : List UInt8) (OW OF : J0) : J0:=if Kc k m OW=0 then (if m=[] then Km k OF else Qz k (ZT m) (Km k OF)) else OF
def ZcZ (old next : List UInt8) (OF : J0) : Int:=
 if Zo next then (match Ze old OF with
  | some _=>if (Ze next OF).isSome && !(next==old) then 9 else 0
  | none=>8) else 10
def ZnL (old next : List UInt8) (OW OF : J0) : J0:=if ZcZ old next OF=0 then Qz ((Ze old OF).getD []) next (WP old OW OF) else OW
def Zfi (old next : List UInt8) (OF : J0) : J0:=if ZcZ old next OF=0 then Qz next ((Ze old OF).getD []) (Km old OF) else OF
theorem Zm3 (h : Zo k=true) : k≠[]∧k.length≤12:=by
 refine ⟨?_,Zhs h⟩
 rintro rfl
 revert h;decide
theorem Zed {m : List UInt8} (h : Q2 m=true) : ZT m≠[]∧(ZT m).length≤20:=by
 unfold Q2 at h
 simp only [Bool.and_eq_true,decide_eq_true_eq] at h
 refine ⟨fun e=>?_,by rw [Zfo];exact h.1⟩
 have h2:=h.2
 rw [e] at h2
 revert h2;decide
end
structure Idx (X : Zc) (x o a : Nat) (OW OF : J0) : Prop where
 c : X[x]?=some (.cells [.map (some o),.map (some a)] 1 false false)
 ow : KO strv X o OW
 of : KO strv X a OF
 ne : o≠a
 inv : Inv OW OF
section
variable {X X' : Zc} {n x o a : Nat} {OW OF : J0} {k m : List UInt8}
theorem Idx.not (h : Idx X x o a OW OF) : x≠o∧x≠a:=by
 constructor
 ·rintro rfl
  obtain ⟨es,clk,_,h2,_⟩:=h.ow.ex
  rw [h.c] at h2;cases h2
 ·rintro rfl
  obtain ⟨es,clk,_,h2,_⟩:=h.of.ex
  rw [h.c] at h2;cases h2
theorem Idx.hle (h : Idx X x o a OW OF) (hl : HLe X X') : Idx X' x o a OW OF:=⟨hl _ _ h.c,h.ow.hle hl,h.of.hle hl,h.ne,h.inv⟩
theorem Idx.lt (h : Idx X x o a OW OF) : x < X.length∧o < X.length∧a < X.length:=⟨Yv h.c,h.ow.lt,h.of.lt⟩
theorem Idx.step {o1 o2 : List Nat} (h : Idx X x o a OW OF) (hs : ZK o1 X o2 X') (h1 : x∉o1) (h2 : o∉o1) (h3 : a∉o1) : Idx X' x o a OW OF:=
 ⟨hs.get h.c h1,h.ow.step hs h2,h.of.step hs h3,h.ne,h.inv⟩
theorem Idx.l0 (h : Idx X x o a OW OF) : ld1 (pa x 0) X=some (.map (some o),X):=Q0 h.c rfl
theorem Idx.l1 (h : Idx X x o a OW OF) : ld1 (pa x 1) X=some (.map (some a),X):=Q0 h.c rfl
theorem Zjh {id : Nat} {mm : J0} (h : Js strv X id mm) : lkp .str (.string ⟨#[]⟩) true (.map (some id)) (strv k) X=some (.tuple #[strv ((Ze k mm).getD []),.bool (Ze k mm).isSome],X):=by
 rw [h.lkp]
 cases Ze k mm <;> rfl
theorem ZK.mono2 {o1 o2 : List Nat} (h : ZK o1 X o1 X') (hs : ∀ j∈o1,j∈o2) : ZK o2 X o2 X':=h.more hs (fun j hj=>.inl hj)
theorem ZrH : ∃ X' x o a,R (n+1) ZdB [] X=some (pt x,X')∧Idx X' x o a [] []∧HLe X X'∧X.length≤x∧X.length≤o∧X.length≤a:=by
 obtain ⟨X1,e1,g1,l1,n1⟩:=Zqq (α:=List UInt8) (enc:=strv) X
 obtain ⟨X2,e2,g2,l2,n2⟩:=Zqq (α:=List UInt8) (enc:=strv) X1
 have e3 : bld (.agg #[.map none,.map none]) [(0,1,.map (some X.length)),(1,1,.map (some X1.length))] X2=some (.agg #[.map (some X.length),.map (some X1.length)],X2):=by simp [↓ZV,ZW,↓Qo,Qd,Qc,Qe,↓Zb,JA,Zw,JM,Qa,Jd,Qi,Jf,Q1,Qw,Jb,Qx,QK,QO,QN,Je,Zh,ZE,Yt,J5,QX,QS,JE,Zs,Qk,Jy,Jx,JD,ZH,Zn,Zg,QI,ZR,Ql,Jt,Jn,Jp,Jz,↓Yq,JF,↓g_r,Yr,YS,Wq,splice,Value.cells]
 have e4 : alc 1 (.agg #[.map (some X.length),.map (some X1.length)]) X2=some (pt X2.length,X2++[.cells [.map (some X.length),.map (some X1.length)] 1 false false]):=by
  rw [QK];simp [Value.cells,oneCell]
 refine ⟨X2++[.cells [.map (some X.length),.map (some X1.length)] 1 false false],X2.length,X.length,X1.length,?_,⟨ZZ,(g1.hle l2).hle (.app _ _),g2.hle (.app _ _),by omega,⟨fun k v=>by simp [Ze],rfl,by simp⟩⟩,(l1.trans l2).trans (.app _ _),by omega,Nat.le_refl _,by omega⟩
 rw [R,Zmd rfl]
 unfold ZfB
 rw [Za e1,Za e2,Za e3,Za e4]
 rfl
theorem ZjD (h : Idx X x o a OW OF) : ∃ X',R (n+1) Jo [pt x,strv k] X=some (.bool (Ze k OF).isSome,X')∧Idx X' x o a (WP k OW OF) (Km k OF)∧ZK [o,a] X [o,a] X':=by
 have e1:=Zjh (k:=k) h.of.g
 have f1 : ∀ r X',KU (R n) (pt x) (strv k) X=some (r,X')→R (n+1) Jo [pt x,strv k] X=some (r,X'):=fun r X' hr=>by rw [R,ZgU rfl];exact hr
 cases hk : Ze k OF with
 | none=>
  rw [hk] at e1
  simp only [Option.isSome_none,Option.getD_none] at e1 ⊢
  have hi : Idx X x o a (WP k OW OF) (Km k OF):=by unfold WP Km;rw [hk];exact h
  refine ⟨X,f1 _ _ ?_,hi,.refl _ _⟩
  unfold KU
  rw [Za Zw,Za Zk,Za h.l1,Za e1,Za Zq,Za Zp]
  refine (Ka (vs:=[.bool false]) (H':=X) ?_).trans rfl
  rw [Zb,if_neg (by simp)]
  rfl
 | some mm=>
  rw [hk] at e1
  simp only [Option.isSome_some,Option.getD_some] at e1 ⊢
  obtain ⟨X1,e2,m2,s2,_⟩:=h.ow.mde (k:=mm)
  have of1:=h.of.step s2 (by simp [Ne.symm h.ne])
  have c1:=s2.get h.c (by simp [h.not.1])
  obtain ⟨X2,e3,m3,s3,_⟩:=of1.mde (k:=k)
  have s12:=(s2.mono2 (o2:=[o,a]) (by simp)).trans (s3.mono2 (o2:=[o,a]) (by simp))
  have hinv:=h.inv.drop (k:=k) h.ow.nod h.of.nod
  have hi : Idx X2 x o a (WP k OW OF) (Km k OF):=by
   unfold WP Km at hinv ⊢
   rw [hk] at hinv ⊢
   exact ⟨s3.get c1 (by simp [h.not.2]),m2.step s3 (by simp [h.ne]),m3,h.ne,hinv⟩
  refine ⟨X2,f1 _ _ ?_,hi,s12⟩
  have l0' : ld1 (pa x 0) X=some (.map (some o),X):=h.l0
  have l1' : ld1 (pa x 1) X1=some (.map (some a),X1):=Q0 c1 rfl
  unfold KU
  rw [Za Zw,Za Zk,Za h.l1,Za e1,Za Zq,Za Zp]
  refine (Ka (vs:=[.bool true]) (H':=X2) ?_).trans rfl
  rw [Zb,if_pos rfl,Za Zw,Za Zk,Za l0']
  refine (Za e2).trans ?_
  rw [Za Zw,Za Zk,Za l1',Za e3]
  rfl
theorem Zl3 {f : List UInt8} (h : Idx X x o a OW OF) (h1 : Ze f OW=none) (h2 : Ze k OF=none) (hk : k≠[]∧k.length≤12) (hf : f≠[]∧f.length≤20) :
  ∃ X',(∀ K : M Value,bind (men .str (.string ⟨#[]⟩) (.map (some o)) (strv f)) (fun v60=>bind (ZF v60 1) fun v61=>bind (ens (.map (some o)) v61 (strv k)) fun _=>bind (men .str (.string ⟨#[]⟩) (.map (some a)) (strv k)) fun v62=>bind (ZF v62 1) fun v63=>bind (ens (.map (some a)) v63 (strv f)) fun _=>K) X=K X')∧Idx X' x o a (Qz f k OW) (Qz k f OF)∧ZK [o,a] X [o,a] X':=by
 obtain ⟨t1,st1,Y1,Y2,e1,e2,e3,m1,_,s1,_⟩:=h.ow.put (k:=f) (v:=k) (z:=.string ⟨#[]⟩)
 have of1:=h.of.step s1 (by simp [Ne.symm h.ne])
 have c1:=s1.get h.c (by simp [h.not.1])
 obtain ⟨t2,st2,Z1,Z2,e4,e5,e6,m2,_,s2,_⟩:=of1.put (k:=k) (v:=f) (z:=.string ⟨#[]⟩)
 refine ⟨Z2,fun K=>?_,⟨s2.get c1 (by simp [h.not.2]),m1.step s2 (by simp [h.ne]),m2,h.ne,h.inv.put h1 h2 hk hf⟩,(s1.mono2 (o2:=[o,a]) (by simp)).trans (s2.mono2 (o2:=[o,a]) (by simp))⟩
 rw [Za e1,Za e2,Za e3,Za e4,Za e5,Za e6]
theorem ZoA (h : Idx X x o a OW OF) : ∃ X',R (n+9) J3 [pt x,strv k,strv m] X=some (iv (Kc k m OW),X')∧Idx X' x o a (ZiY k m OW OF) (Zbk k m OW OF)∧ZK [o,a] X [o,a] X':=by
 have f1 : ∀ r X',Yu (R (n+8)) (pt x) (strv k) (strv m) X=some (r,X')→R (n+9) J3 [pt x,strv k,strv m] X=some (r,X'):=fun r X' hr=>by rw [R,ZhM rfl];exact hr
 have e1 : R (n+8) Q7 [strv k] X=some (iv (ZS k),X):=ZbO (n:=n+3)
 have q1 : bop .str .eql (strv m) (.string ⟨#[]⟩) X=some (.bool (m==[]),X):=Zb2 (b:=[])
 unfold Kc ZiY Zbk Kc
 cases hn : Zo k
 ·have he : ZS k=10:=by unfold ZS;rw [hn];rfl
  refine ⟨X,f1 _ _ ?_,by simpa using h,.refl _ _⟩
  unfold Yu
  rw [Za e1,he,Za Zn,Zb,if_pos (by rfl)]
  rfl
 ·have he : ZS k=0:=Zce.2 hn
  by_cases hm0 : m=[]
  ·obtain ⟨X1,e2,i2,s2⟩:=ZjD (n:=n+7) (k:=k) h
   have e2 : R (n+8) Jo [pt x,strv k] X=_:=e2
   refine ⟨X1,f1 _ _ ?_,by simpa [hm0] using i2,s2⟩
   unfold Yu
   rw [Za e1,he,Za Zn,Zb,if_neg (by decide),Za q1,Zb,if_pos (by simp [hm0]),Za e2]
   simp [hm0,ret]
  ·obtain ⟨X1,e2,k2⟩:=ZiF (n:=n) (s:=m) (X:=X)
   have h1:=h.hle k2
   have ks:=k2.step.more (o2:=[o,a]) (o2':=[o,a]) (by simp) (fun j hj=>.inl hj)
   cases hmb : Q2 m
   ·rw [hmb] at e2
    refine ⟨X1,f1 _ _ ?_,by simpa [hm0] using h1,ks⟩
    unfold Yu
    rw [Za e1,he,Za Zn,Zb,if_neg (by decide),Za q1,Zb,if_neg (by simpa using hm0),Za e2,Za Zq,Za Zp]
    have q3 : bop .int .neq (iv (if false=true then 0 else 11)) (.int .i64 0) X1=some (.bool true,X1):=by rw [Zn];rfl
    rw [Za q3,Zb,if_pos rfl]
    simp [hm0,ret]
   ·rw [hmb] at e2
    simp only [if_true] at e2
    have e3:=Zjh (k:=ZT m) h1.ow.g
    have hfm:=Zed hmb
    have hkn:=Zm3 hn
    have q3 : bop .int .neq (iv 0) (.int .i64 0) X1=some (.bool false,X1):=by rw [Zn];rfl
    simp only [if_true,if_neg hm0]
    have hgo : (∀ w,Ze (ZT m) OW=some w→w=k)→∃ X',R (n+9) J3 [pt x,strv k,strv m] X=some (iv 0,X')∧Idx X' x o a (Qz (ZT m) k (WP k OW OF)) (Qz k (ZT m) (Km k OF))∧ZK [o,a] X [o,a] X':=fun hw=>by
     obtain ⟨X2,e4,i4,s4⟩:=ZjD (n:=n+7) (k:=k) h1
     have e4 : R (n+8) Jo [pt x,strv k] X1=_:=e4
     obtain ⟨X3,e5,i5,s5⟩:=Zl3 (k:=k) (f:=ZT m) i4 (Zie h.inv hw) Zal hkn hfm
     refine ⟨X3,f1 _ _ ?_,i5,(ks.trans s4).trans s5⟩
     unfold Yu
     rw [Za e1,he,Za Zn,Zb,if_neg (by decide),Za q1,Zb,if_neg (by simpa using hm0),Za e2,Za Zq,Za Zp,Za q3,Zb,if_neg (by simp),Za Zw,Za Zk,Za h1.l0,Za e3,Za Zq,Za Zp]
     cases ho : Ze (ZT m) OW with
     | none=>
      simp only [Option.isSome_none]
      rw [Za (g_r.trans (if_neg (by simp)))]
      simp only [List.replicate]
      rw [ZN,Za Zh]
      simp only [cond_false]
      rw [Zb,if_neg (by simp),Za e4,Za Zw,Za Zk,Za i4.l0,Za Zw,Za Zk,Za i4.l1]
      exact e5 _
     | some w=>
      have:=hw w ho
      subst this
      have q4 : bop .str .neq (strv w) (strv w) X1=some (.bool false,X1):=by rw [ZaF];simp
      simp only [Option.isSome_some,Option.getD_some]
      rw [ZQ,Zf,Za q4,Z5,ZN,Za Zh]
      simp only [cond_true]
      rw [Zb,if_neg (by simp),Za e4,Za Zw,Za Zk,Za i4.l0,Za Zw,Za Zk,Za i4.l1]
      exact e5 _
    cases ho : Ze (ZT m) OW with
    | none=>simpa using hgo (fun w hw=>by rw [ho] at hw;cases hw)
    | some w=>
     by_cases hw : w=k
     ·simpa [hw] using hgo (fun w' hw'=>by rw [ho] at hw';cases hw';exact hw)
     ·simp only [if_neg hw]
      refine ⟨X1,f1 _ _ ?_,by simpa using h1,ks⟩
      have q4 : bop .str .neq (strv w) (strv k) X1=some (.bool true,X1):=by rw [ZaF,beq_eq_false_iff_ne.2 hw];rfl
      rw [ho] at e3
      simp only [Option.isSome_some,Option.getD_some] at e3
      unfold Yu
      rw [Za e1,he,Za Zn,Zb,if_neg (by decide),Za q1,Zb,if_neg (by simpa using hm0),Za e2,Za Zq,Za Zp,Za q3,Zb,if_neg (by simp),Za Zw,Za Zk,Za h1.l0,Za e3,Za Zq,Za Zp,ZQ,Zf,Za q4,Z5,ZN,Za Zh]
      simp only [cond_true]
      rw [Zb,if_pos rfl]
      rfl
theorem Zrp {old next : List UInt8} (h : Idx X x o a OW OF) : ∃ X',R (n+6) YN [pt x,strv old,strv next] X=some (iv (ZcZ old next OF),X')∧Idx X' x o a (ZnL old next OW OF) (Zfi old next OF)∧ZK [o,a] X [o,a] X':=by
 have f1 : ∀ r X',Ya (R (n+5)) (pt x) (strv old) (strv next) X=some (r,X')→R (n+6) YN [pt x,strv old,strv next] X=some (r,X'):=fun r X' hr=>by rw [R,Zfc rfl];exact hr
 have e1 : R (n+5) Q7 [strv next] X=some (iv (ZS next),X):=ZbO
 have e2:=Zjh (k:=old) h.of.g
 have e3:=Zjh (k:=next) h.of.g
 unfold ZcZ ZnL Zfi ZcZ
 cases hn : Zo next
 ·have he : ZS next=10:=by unfold ZS;rw [hn];rfl
  refine ⟨X,f1 _ _ ?_,by simpa using h,.refl _ _⟩
  unfold Ya
  rw [Za e1,he,Za Zn,Zb,if_pos (by rfl)]
  rfl
 ·have he : ZS next=0:=Zce.2 hn
  simp only [if_true]
  cases ho : Ze old OF with
  | none=>
   rw [ho] at e2
   simp only [Option.isSome_none,Option.getD_none] at e2
   refine ⟨X,f1 _ _ ?_,by simpa using h,.refl _ _⟩
   unfold Ya
   rw [Za e1,he,Za Zn,Zb,if_neg (by decide),Za Zw,Za Zk,Za h.l1,Za e2,Za Zq,Za Zp,Za Zw,Za Zk,Za h.l1,Za e3,Za Zq,Za Zp,Za ZE,Zb,if_pos (by rfl)]
   rfl
  | some mm=>
   rw [ho] at e2
   simp only [Option.isSome_some,Option.getD_some] at e2 ⊢
   have hml:=h.inv.lens (old,mm) (K6 ho)
   have hmo:=(h.inv.inv old mm).1 ho
   have q4 : bop .str .neq (strv next) (strv old) X=some (.bool (!(next==old)),X):=ZaF
   have hpk : ∀ K : Value→M Value,bind (ZO (.bool (Ze next OF).isSome) true 3 (bind (bop .str .neq (strv next) (strv old)) fun v43x16=>ret [strv next,strv old,v43x16])) (c3 fun _ _ q17_2=>bind (pick (.bool (Ze next OF).isSome) q17_2 (Value.bool false)) K) X=K (.bool ((Ze next OF).isSome && !(next==old))) X:=fun K=>by
    cases (Ze next OF).isSome
    ·rw [Za (g_r.trans (if_neg (by simp)))]
     simp only [List.replicate]
     rw [ZN,Za Zh]
     rfl
    ·rw [ZQ,Zf,Za q4,Z5,ZN,Za Zh]
     rfl
   cases ht : (Ze next OF).isSome && !(next==old)
   ·rw [ht] at hpk
    simp only [Bool.false_eq_true,if_false,if_true]
    obtain ⟨X2,e4,i4,s4⟩:=ZjD (n:=n+4) (k:=old) h
    have e4 : R (n+5) Jo [pt x,strv old] X=_:=e4
    have hnn : Ze next (Km old OF)=none:=by
     by_cases hno : next=old
     ·subst hno;exact Zal
     ·rw [ZbS hno]
      have h5 : (next==old)=false:=beq_eq_false_iff_ne.2 hno
      rw [h5] at ht
      cases hx : Ze next OF with
      | none=>rfl
      | some y=>rw [hx] at ht;simp at ht
    obtain ⟨X3,e5,i5,s5⟩:=Zl3 (k:=next) (f:=mm) i4 (Zie h.inv (fun w hw=>by rw [hmo] at hw;exact (Option.some.inj hw).symm)) hnn (Zm3 hn) ⟨hml.2.2.1,hml.2.2.2⟩
    refine ⟨X3,f1 _ _ ?_,i5,s4.trans s5⟩
    unfold Ya
    rw [Za e1,he,Za Zn,Zb,if_neg (by decide),Za Zw,Za Zk,Za h.l1,Za e2,Za Zq,Za Zp,Za Zw,Za Zk,Za h.l1,Za e3,Za Zq,Za Zp,Za ZE,Zb,if_neg (by simp)]
    refine (hpk _).trans ?_
    rw [Zb,if_neg (by simp),Za e4,Za Zw,Za Zk,Za i4.l0,Za Zw,Za Zk,Za i4.l1]
    exact e5 _
   ·rw [ht] at hpk
    simp only [if_true]
    refine ⟨X,f1 _ _ ?_,by simpa using h,.refl _ _⟩
    unfold Ya
    rw [Za e1,he,Za Zn,Zb,if_neg (by decide),Za Zw,Za Zk,Za h.l1,Za e2,Za Zq,Za Zp,Za Zw,Za Zk,Za h.l1,Za e3,Za Zq,Za Zp,Za ZE,Zb,if_neg (by simp)]
    refine (hpk _).trans ?_
    rw [Zb,if_pos rfl]
    rfl
theorem Zr9 (h : Idx X x o a OW OF) : R (n+1) WE [pt x,strv k] X=some (.tuple #[strv ((Ze k OF).getD []),.bool (Ze k OF).isSome],X):=by
 have e1:=Zjh (k:=k) h.of.g
 rw [R,Zit rfl]
 unfold Zcs
 rw [Za Zw,Za Zk,Za h.l1,Za e1,Za Zq,Za Zp]
 rfl
def ZeJ (m : List UInt8) (OW : J0) : Int:=if Q2 m then (if (Ze (ZT m) OW).isSome then 0 else 8) else 11
def ZkE (m : List UInt8) (OW : J0) : List UInt8:=if Q2 m then (Ze (ZT m) OW).getD [] else []
theorem ZqL (h : Idx X x o a OW OF) : ∃ X',R (n+9) KX [pt x,strv m] X=some (.tuple #[strv (ZkE m OW),iv (ZeJ m OW)],X')∧HLe X X':=by
 obtain ⟨X1,e2,k2⟩:=ZiF (n:=n) (s:=m) (X:=X)
 have f1 : ∀ r X',WT (R (n+8)) (pt x) (strv m) X=some (r,X')→R (n+9) KX [pt x,strv m] X=some (r,X'):=fun r X' hr=>by rw [R,ZgN rfl];exact hr
 have h1:=h.hle k2
 refine ⟨X1,f1 _ _ ?_,k2⟩
 unfold WT ZeJ ZkE
 cases hmb : Q2 m
 ·rw [hmb] at e2
  have q3 : bop .int .neq (iv (if false=true then 0 else 11)) (.int .i64 0) X1=some (.bool true,X1):=by rw [Zn];rfl
  rw [Za e2,Za Zq,Za Zp,Za q3,Zb,if_pos rfl]
  rfl
 ·rw [hmb] at e2
  simp only [if_true] at e2
  have e3:=Zjh (k:=ZT m) h1.ow.g
  have q3 : bop .int .neq (iv 0) (.int .i64 0) X1=some (.bool false,X1):=by rw [Zn];rfl
  rw [Za e2,Za Zq,Za Zp,Za q3,Zb,if_neg (by simp),Za Zw,Za Zk,Za h1.l0,Za e3,Za Zq,Za Zp,Za ZE]
  cases Ze (ZT m) OW with
  | none=>simp [Zb,ret];rfl
  | some w=>simp [Zb,ret]
end
end Go.Proofs.YtnnehafmjfmbnaaGreatDoor.A
namespace Go.Proofs.YtnnehafmjfmbnaaGreatDoor.A
set_option linter.unusedVariables false
set_option linter.unusedSimpArgs false
open Go.Proofs Go.Proofs.YtnnehafmjfmbnaaGreatDoor
section
variable {H X X' : Zc} {n x o a : Nat} {OW OF : J0} {k m : List UInt8}
end
end Go.Proofs.YtnnehafmjfmbnaaGreatDoor.A
namespace Go.Proofs.YtnnehafmjfmbnaaGreatDoor.A
set_option linter.unusedVariables false
set_option linter.unusedSimpArgs false
open Go.Proofs Go.Proofs.YtnnehafmjfmbnaaGreatDoor
section
variable {n : Nat}
variable {X : Zc} {x o a : Nat} {OW OF : J0}
end
end Go.Proofs.YtnnehafmjfmbnaaGreatDoor.A

namespace Go.Proofs.YtnnehafmjfmbnaaGreatDoor.A
set_option linter.unusedVariables false
set_option linter.unusedSimpArgs false
open Go.Proofs Go.Proofs.YtnnehafmjfmbnaaGreatDoor
abbrev Acc:=Tx × Bool
def K2 (p : Acc) : Value:=.agg #[strv p.1,.bool p.2]
abbrev AMp:=List (Tx × Acc)
structure NSt where
 A : AMp
 OW : J0
 OF : J0
 K : List Tx
 mem : Mem
structure JZ (s : NSt) : Prop where
 nm : ∀ p∈s.A,Zo p.1=true∧Zaq p.2.1=true
 few : s.A.length≤12
 ofA : ∀ n,(Ze n s.OF).isSome=true→(Ze n s.A).isSome=true
 memA : ∀ k n,s.mem k n=true→(Ze n s.A).isSome=true
 good : ∀ n m,Ze n s.OF=some m→Q2 m=true∧ZT m=m
structure NR where
 b : Nat
 x : Nat
 o : Nat
 a : Nat
 g : Nat
 o2 : Nat
 G : ZeS
def NR.own (r : NR) : List Nat:=r.b :: r.o :: r.a :: Ju r.o2 r.G
structure ND0 (X : Zc) (d : Nat) (r : NR) (s : NSt) (c : Nat) : Prop where
 cell : X[d]?=some (.cells [.map (some r.b),pt r.x,pt r.g] 1 false false)
 m : Js K2 X r.b s.A
 ix : Idx X r.x r.o r.a s.OW s.OF
 gr : Grp X r.g r.o2 r.G s.mem c
 ks : Z6 r.G=s.K
 dis : r.b≠r.o∧r.b≠r.a∧r.b∉Ju r.o2 r.G∧r.o∉Ju r.o2 r.G∧r.a∉Ju r.o2 r.G
structure ND (X : Zc) (d : Nat) (r : NR) (s : NSt) (c : Nat) : Prop extends ND0 X d r s c where
 inv : JZ s
def Wv (s : NSt) (n : Tx) (p : Acc) : ZfX:=(n,p.1,(Ze n s.OF).getD [],p.2,ofL n s.K s.mem)
def Yb (s : NSt) (n : Tx) : Option ZfX:=(Ze n s.A).map (Wv s n)
def Z0 (n : Tx) (A : AMp) : Int:=if Zo n then (if (Ze n A).isSome then 0 else 8) else 10
theorem ZrB {n : Tx} {A : AMp} (h : Z0 n A=0) : Zo n=true∧∃ p,Ze n A=some p:=by
 unfold Z0 at h
 cases hn : Zo n
 ·rw [hn] at h;simp at h
 ·rw [hn] at h
  cases ha : Ze n A with
  | none=>rw [ha] at h;simp at h
  | some p=>exact ⟨rfl,p,rfl⟩
section
variable {X X' : Zc} {n d c : Nat} {r : NR} {s : NSt} {k : Tx}
theorem Js.isMap {α : Type} {enc : α→Value} {id : Nat} {mm : List (Tx × α)} (hm : Js enc X id mm) : id < X.length∧∀ cs es gr ro,X[id]?≠some (.cells cs es gr ro):=⟨hm.lt,fun cs es gr ro e=>by
 obtain ⟨es',_,h1 | h1⟩:=hm.ex
 ·obtain ⟨clk,h1,_⟩:=h1;rw [e] at h1;cases h1
 ·rw [e] at h1;cases h1⟩
theorem ND0.isMap (h : ND0 X d r s c) {j : Nat} (hj : j∈r.own) : j < X.length∧∀ cs es gr ro,X[j]?≠some (.cells cs es gr ro):=by
 unfold NR.own at hj
 rcases List.mem_cons.1 hj with rfl | hj
 ·exact h.m.isMap
 ·rcases List.mem_cons.1 hj with rfl | hj
  ·exact h.ix.ow.g.isMap
  ·rcases List.mem_cons.1 hj with rfl | hj
   ·exact h.ix.of.g.isMap
   ·exact h.gr.isMap hj
theorem ND0.dnot (h : ND0 X d r s c) : d∉r.own:=fun hj=>(h.isMap hj).2 _ _ _ _ h.cell
theorem ND0.xnot (h : ND0 X d r s c) : r.x∉r.own:=fun hj=>(h.isMap hj).2 _ _ _ _ h.ix.c
theorem ND0.gnot (h : ND0 X d r s c) : r.g∉r.own:=fun hj=>(h.isMap hj).2 _ _ _ _ h.gr.cell
theorem ND0.step {o1 o2 : List Nat} (h : ND0 X d r s c) (hs : ZK o1 X o2 X') (hd : d∉o1) (hx : r.x∉o1) (hg : r.g∉o1) (ho : ∀ j∈r.own,j∉o1) : ND0 X' d r s c:=
 ⟨hs.get h.cell hd,h.m.step hs (ho _ (by simp [NR.own])),h.ix.step hs hx (ho _ (by simp [NR.own])) (ho _ (by simp [NR.own])),h.gr.step hs hg (fun j hj=>ho j (by
  unfold NR.own
  exact List.mem_cons_of_mem _ (List.mem_cons_of_mem _ (List.mem_cons_of_mem _ hj)))),h.ks,h.dis⟩
theorem ND0.hle (h : ND0 X d r s c) (hl : HLe X X') : ND0 X' d r s c:=h.step hl.step (by simp) (by simp) (by simp) (by simp)
theorem ND0.l0 (h : ND0 X d r s c) : ld1 (pa d 0) X=some (.map (some r.b),X):=Q0 h.cell rfl
theorem ND0.l1 (h : ND0 X d r s c) : ld1 (pa d 1) X=some (pt r.x,X):=Q0 h.cell rfl
theorem ND0.l2 (h : ND0 X d r s c) : ld1 (pa d 2) X=some (pt r.g,X):=Q0 h.cell rfl
theorem ND.step {o1 o2 : List Nat} (h : ND X d r s c) (hs : ZK o1 X o2 X') (hd : d∉o1) (hx : r.x∉o1) (hg : r.g∉o1) (ho : ∀ j∈r.own,j∉o1) : ND X' d r s c:=⟨h.toND0.step hs hd hx hg ho,h.inv⟩
theorem ND.hle (h : ND X d r s c) (hl : HLe X X') : ND X' d r s c:=⟨h.toND0.hle hl,h.inv⟩
def CLe (X X' : Zc) : Prop:=∀ (i : Nat) (cs : List Value) (es : Nat) (g ro : Bool),X[i]?=some (Zi.cells cs es g ro)→X'[i]?=some (Zi.cells cs es g ro)
theorem CLe.trans {Y : Zc} (h : CLe X X') (h' : CLe X' Y) : CLe X Y:=fun i cs es g ro hi=>h' i _ _ _ _ (h i _ _ _ _ hi)
theorem ZK.cle {o1 o2 : List Nat} (hs : ZK o1 X o2 X') (hm : ∀ j∈o1,∀ cs es g ro,X[j]?≠some (Zi.cells cs es g ro)) : CLe X X':=fun i cs es g ro hi=>hs.get hi fun hj=>hm i hj _ _ _ _ hi
theorem ND0.cle {o2 : List Nat} (h : ND0 X d r s c) (hs : ZK r.own X o2 X') : CLe X X':=hs.cle fun j hj=>(h.isMap hj).2
theorem Sl.cle {sl : Value} {vs : List Value} (h : Sl X sl vs) (hc : CLe X X') : Sl X' sl vs:=by
 obtain ⟨a,c,rfl,h0,h⟩:=h
 refine ⟨a,c,rfl,h0,?_⟩
 unfold Qq at h ⊢
 split at h
 ·exact h
 ·rename_i id o n x _
  split at h
  ·rename_i cs es g ro hid
   simp only [hc _ _ _ _ _ hid];exact h
  ·cases h
 ·exact h
 ·rename_i e;cases e
 ·cases h
theorem Zsy {k : Tx} {t : Bool} {H : Zc} : bld (.agg #[.string ⟨#[]⟩,.bool false]) [(0,1,strv k),(1,1,.bool t)] H=some (K2 (k,t),H):=by
 simp [bld,Wq,Value.cells,YS,strv,splice,K2]
theorem ZqI (X : Zc) : JZ ⟨[],[],[],[],fun _ _=>false⟩:=⟨by simp,by simp,by simp [Ze],by simp,by simp [Ze]⟩
theorem ZoF : ∃ X' d r,R (n+2) Wz [] X=some (pt d,X')∧ND X' d r ⟨[],[],[],[],fun _ _=>false⟩ 0∧HLe X X'∧X.length≤d∧∀ j∈r.own,X.length≤j:=by
 obtain ⟨X1,e1,m1,k1⟩:=Zne (α:=Acc) (enc:=K2) X
 have hl1 : X.length < X1.length:=m1.lt
 obtain ⟨X2,x,o,a,e2,i2,k2,o21,o22,o23⟩:=ZrH (n:=n) (X:=X1)
 obtain ⟨X3,g,o2,e3,g3,k3,o31,o32⟩:=Zru (n:=n) (X:=X2)
 have hi:=i2.lt
 have e4 : bld (.agg #[.map none,.pointer none,.pointer none]) [(0,1,.map (some X.length)),(1,1,pt x),(2,1,pt g)] X3=some (.agg #[.map (some X.length),pt x,pt g],X3):=by
  simp [bld,Wq,Value.cells,YS,splice]
 have e5 : alc 1 (.agg #[.map (some X.length),pt x,pt g]) X3=some (pt X3.length,X3++[.cells [.map (some X.length),pt x,pt g] 1 false false]):=Zgz (vs:=[.map (some X.length),pt x,pt g]) rfl
 have k4 : HLe X3 (X3++[Zi.cells [.map (some X.length),pt x,pt g] 1 false false]):=.app _ _
 refine ⟨_,X3.length,⟨X.length,x,o,a,g,o2,[]⟩,?_,⟨⟨ZZ,((m1.hle k2).hle k3).hle k4,(i2.hle k3).hle k4,g3.hle k4,rfl,⟨by simp only;omega,by simp only;omega,?_,?_,?_⟩⟩,ZqI X⟩,((k1.trans k2).trans k3).trans k4,?_,?_⟩
 ·rw [R,ZlS rfl]
  unfold Zeu
  rw [Za e1,Za e2,Za e3,Za e4,Za e5]
  rfl
 ·simp only [Ju,List.map_nil,List.mem_singleton]
  have:=k2.len;omega
 ·simp only [Ju,List.map_nil,List.mem_singleton]
  omega
 ·simp only [Ju,List.map_nil,List.mem_singleton]
  omega
 ·have:=k1.len;have:=k2.len;have:=k3.len;omega
 ·intro j hj
  have:=k1.len;have:=k2.len
  simp only [NR.own,Ju,List.map_nil,List.mem_cons,List.not_mem_nil,or_false] at hj
  omega
theorem ZmR (h : ND X d r s c) : ∃ X',R (n+6) QT [pt d,strv k] X=some (.tuple #[K2 (if Zo k then (Ze k s.A).getD ([],false) else ([],false)),iv (Z0 k s.A)],X')∧HLe X X':=by
 have one : ∀ p : Acc,([strv p.1,.bool p.2] : List Value).all oneCell=true:=fun _=>rfl
 have z1 : alc 1 (.agg #[.string ⟨#[]⟩,.bool false]) X=some (pt X.length,X++[.cells [strv [],.bool false] 1 false false]):=Zgz (vs:=[strv [],.bool false]) rfl
 have k1 : HLe X (X++[Zi.cells [strv [],.bool false] 1 false false]):=.app _ _
 have c1 : (X++[Zi.cells [strv [],.bool false] 1 false false])[X.length]?=some (.cells [strv [],.bool false] 1 false false):=ZZ
 have ll1 : X.length < (X++[Zi.cells [strv [],.bool false] 1 false false]).length:=by simp
 generalize X++[Zi.cells [strv [],.bool false] 1 false false]=X1 at z1 k1 c1 ll1
 have h1:=h.hle k1
 have e1 : R (n+5) Q7 [strv k] X1=_:=ZbO
 have f1 : ∀ v X',Y6 (R (n+5)) (pt d) (strv k) X=some (v,X')→R (n+6) QT [pt d,strv k] X=some (v,X'):=fun v X' hr=>by rw [R,Zf8 rfl];exact hr
 have fin : ∀ (p : Acc) (Y : Zc) (K : Value→M Value),Y[X.length]?=some (.cells [strv [],.bool false] 1 false false)→bind (stA 2 (pt X.length) (K2 p)) (fun _=>bind (ldA 2 (pt X.length)) K) Y=K (K2 p) (Y.set X.length (.cells [strv p.1,.bool p.2] 1 false false)):=fun p Y K hY=>by
  have w:=Zf5 (vs:=[strv p.1,.bool p.2]) (n:=2) hY rfl rfl rfl
  have w : stA 2 (pt X.length) (K2 p) Y=_:=w
  have l : ldA 2 (pt X.length) (Y.set X.length (.cells [strv p.1,.bool p.2] 1 false false))=some (K2 p,_):=WD (n:=2) (Jc hY) rfl
  rw [Za w,Za l]
 have put : ∀ {Y : Zc} {o : Zi},HLe X Y→HLe X (Y.set X.length o):=fun hl i v hi=>by
  have:=Yv hi
  rw [List.getElem?_set_ne (by omega)]
  exact hl i v hi
 cases hnm : Zo k
 ·have he : Z0 k s.A=10:=by unfold Z0;rw [hnm];rfl
  have q1 : bop .int .neq (iv (ZS k)) (.int .i64 0) X1=some (.bool true,X1):=by rw [Zn];unfold ZS;rw [hnm];rfl
  have zb : bld (.agg #[.string ⟨#[]⟩,.bool false]) [] X1=some (K2 ([],false),X1):=rfl
  rw [he]
  refine ⟨X1.set X.length (.cells [strv [],.bool false] 1 false false),f1 _ _ ?_,put k1⟩
  unfold Y6
  rw [Za z1,Za e1,Za q1,Zb,if_pos rfl,Za zb]
  refine (fin _ _ _ c1).trans ?_
  rw [show ZS k=10 by unfold ZS;rw [hnm];rfl]
  rfl
 ·have q1 : bop .int .neq (iv (ZS k)) (.int .i64 0) X1=some (.bool false,X1):=by rw [Zn];unfold ZS;rw [hnm];rfl
  have e2 : lkp .str (.agg #[.string ⟨#[]⟩,.bool false]) true (.map (some r.b)) (strv k) X1=some (.tuple #[K2 ((Ze k s.A).getD ([],false)),.bool (Ze k s.A).isSome],X1):=by
   rw [h1.m.lkp]
   cases Ze k s.A <;> rfl
  generalize hv : (Ze k s.A).getD ([],false)=p at e2
  have z2 : ∀ K : Value→M Value,bind (alc 1 (.agg #[.string ⟨#[]⟩,.bool false])) (fun q=>bind (stA 2 q (K2 p)) fun _=>K q) X1=K (pt X1.length) (X1++[.cells [strv p.1,.bool p.2] 1 false false]):=fun K=>ZcQ (n:=2) (zs:=[strv [],.bool false]) (r:=[strv p.1,.bool p.2]) rfl rfl rfl rfl
  have k2 : HLe X1 (X1++[Zi.cells [strv p.1,.bool p.2] 1 false false]):=.app _ _
  have c2 : (X1++[Zi.cells [strv p.1,.bool p.2] 1 false false])[X1.length]?=some (.cells [strv p.1,.bool p.2] 1 false false):=ZZ
  have c12:=k2 _ _ c1
  generalize X1++[Zi.cells [strv p.1,.bool p.2] 1 false false]=X2 at z2 k2 c2 c12
  have d2 : ldA 2 (pt X1.length) X2=some (K2 p,X2):=WD (n:=2) c2 rfl
  have zb : bld (.agg #[.string ⟨#[]⟩,.bool false]) [] X2=some (K2 ([],false),X2):=rfl
  cases hs : (Ze k s.A).isSome
  ·have he : Z0 k s.A=8:=by unfold Z0;rw [hnm,hs];rfl
   have hp : p=([],false):=by
    rw [← hv]
    cases ha : Ze k s.A with
    | none=>rfl
    | some v=>rw [ha] at hs;cases hs
   rw [hs] at e2
   rw [he]
   refine ⟨X2.set X.length (.cells [strv [],.bool false] 1 false false),f1 _ _ ?_,put (k1.trans k2)⟩
   unfold Y6
   rw [Za z1,Za e1,Za q1,Zb,if_neg (by simp),Za Zw,Za Zk,Za h1.l0,Za e2,Za Zq,Za Zp,z2,Za ZE,Zb,if_pos (by rfl),Za zb]
   refine (fin _ _ _ c12).trans ?_
   rw [hp]
   rfl
  ·have he : Z0 k s.A=0:=by unfold Z0;rw [hnm,hs];rfl
   rw [hs] at e2
   rw [he]
   refine ⟨X2.set X.length (.cells [strv p.1,.bool p.2] 1 false false),f1 _ _ ?_,put (k1.trans k2)⟩
   unfold Y6
   rw [Za z1,Za e1,Za q1,Zb,if_neg (by simp),Za Zw,Za Zk,Za h1.l0,Za e2,Za Zq,Za Zp,z2,Za ZE,Zb,if_neg (by simp),Za d2]
   exact fin _ _ _ c12
theorem ZoZ (h : ND X d r s c) : ∃ u q X',R (n+7) KC [pt d,strv k] X=some (.tuple #[.agg u.cells.toArray,iv (Z0 k s.A)],X')∧ZC X' u.gv (u.gs.map strv) q∧(∀ j∈q,X.length≤j)∧HLe X X'∧u.gs.length≤6∧
  QA u=if Z0 k s.A=0 then Wv s k ((Ze k s.A).getD ([],false)) else ([],[],[],false,[]):=by
 have z1 : alc 1 (.agg #[.string ⟨#[]⟩,.string ⟨#[]⟩,.string ⟨#[]⟩,.bool false,.slice none 0 0]) X=some (pt X.length,X++[.cells (usr ([],[])) 1 false false]):=Zgz (vs:=usr ([],[])) rfl
 have k1 : HLe X (X++[Zi.cells (usr ([],[])) 1 false false]):=.app _ _
 have c1 : (X++[Zi.cells (usr ([],[])) 1 false false])[X.length]?=some (.cells (usr ([],[])) 1 false false):=ZZ
 generalize X++[Zi.cells (usr ([],[])) 1 false false]=X1 at z1 k1 c1
 obtain ⟨X2,e2,k2⟩:=ZmR (n:=n) (k:=k) (h.hle k1)
 have f1 : ∀ v X',KF (R (n+6)) (pt d) (strv k) X=some (v,X')→R (n+7) KC [pt d,strv k] X=some (v,X'):=fun v X' hr=>by rw [R,Zgn rfl];exact hr
 generalize hp : (if Zo k then (Ze k s.A).getD ([],false) else ([],false))=p at e2
 have z2 : ∀ K : Value→M Value,bind (alc 1 (.agg #[.string ⟨#[]⟩,.bool false])) (fun q=>bind (stA 2 q (K2 p)) fun _=>K q) X2=K (pt X2.length) (X2++[.cells [strv p.1,.bool p.2] 1 false false]):=fun K=>ZcQ (n:=2) (zs:=[strv [],.bool false]) (r:=[strv p.1,.bool p.2]) rfl rfl rfl rfl
 have k3 : HLe X2 (X2++[Zi.cells [strv p.1,.bool p.2] 1 false false]):=.app _ _
 have c3 : (X2++[Zi.cells [strv p.1,.bool p.2] 1 false false])[X2.length]?=some (.cells [strv p.1,.bool p.2] 1 false false):=ZZ
 have hlx : X.length < X2.length:=by have:=Yv c1;have:=k2.len;omega
 generalize X2++[Zi.cells [strv p.1,.bool p.2] 1 false false]=X3 at z2 k3 c3
 have c13:=k3 _ _ (k2 _ _ c1)
 have k13:=(k1.trans k2).trans k3
 have put : ∀ {Y : Zc} {o : Zi},HLe X Y→HLe X (Y.set X.length o):=fun hl i v hi=>by
  have:=Yv hi
  rw [List.getElem?_set_ne (by omega)]
  exact hl i v hi
 by_cases he : Z0 k s.A=0
 ·obtain ⟨hnm,q0,hq0⟩:=ZrB he
  have hpq : p=q0:=by rw [← hp,hnm,hq0];rfl
  subst hpq
  have q1 : bop .int .neq (iv (Z0 k s.A)) (.int .i64 0) X3=some (.bool false,X3):=by rw [Zn,he];rfl
  have h3:=h.hle k13
  have e4 : R (n+6) WE [pt r.x,strv k] X3=_:=Zr9 (n:=n+5) h3.ix
  have a0 : ∀ Y,HLe X3 Y→ld1 (pa X2.length 0) Y=some (strv p.1,Y):=fun Y hl=>Q0 (hl _ _ c3) rfl
  have a1 : ∀ Y,HLe X3 Y→ld1 (pa X2.length 1) Y=some (.bool p.2,Y):=fun Y hl=>Q0 (hl _ _ c3) rfl
  obtain ⟨gv,q,X4,e5,r5,k5,o5⟩:=ZnG (n:=n+2) (m:=k) h3.gr
  have e5 : R (n+6) JP [pt r.g,strv k] X3=_:=e5
  rw [h.ks] at r5
  have hfew : (ofL k s.K s.mem).length≤6:=by
   have h1:=Zjx (m:=k) (K:=s.K) (mem:=s.mem)
   have h2:=h.gr.few
   have h3 : s.K.length=r.G.length:=by rw [← h.ks];simp
   omega
  have hone:=r5.one
  have zb : bld (.agg #[.string ⟨#[]⟩,.string ⟨#[]⟩,.string ⟨#[]⟩,.bool false,.slice none 0 0]) [(0,1,strv k),(1,1,strv p.1),(2,1,strv ((Ze k s.OF).getD [])),(3,1,.bool p.2),(4,1,gv)] X4=some (.agg (Zm.cells ⟨k,p.1,(Ze k s.OF).getD [],p.2,gv,ofL k s.K s.mem⟩).toArray,X4):=by
   obtain ⟨ga,gn,gc,hgv⟩ : ∃ a n c,gv=.slice a n c:=by
    rcases r5 with ⟨_,_,h⟩ | ⟨_,_,_,h,_,_⟩
    ·exact ⟨_,_,_,h⟩
    ·exact ⟨_,_,_,h⟩
   rw [hgv]
   simp [bld,Wq,Value.cells,YS,strv,splice,Zm.cells]
  have c14:=k5 _ _ c13
  have w4:=Zf5 (vs:=Zm.cells ⟨k,p.1,(Ze k s.OF).getD [],p.2,gv,ofL k s.K s.mem⟩) (n:=5) c14 rfl rfl (by simp only [Zm.cells,List.all_cons,hone.1];rfl)
  have d4 : ldA 5 (pt X.length) (X4.set X.length (.cells (Zm.cells ⟨k,p.1,(Ze k s.OF).getD [],p.2,gv,ofL k s.K s.mem⟩) 1 false false))=some (.agg (Zm.cells ⟨k,p.1,(Ze k s.OF).getD [],p.2,gv,ofL k s.K s.mem⟩).toArray,_):=WD (n:=5) (Jc c14) rfl
  refine ⟨⟨k,p.1,(Ze k s.OF).getD [],p.2,gv,ofL k s.K s.mem⟩,q,X4.set X.length (.cells (Zm.cells ⟨k,p.1,(Ze k s.OF).getD [],p.2,gv,ofL k s.K s.mem⟩) 1 false false),f1 _ _ ?_,r5.keep fun j hj=>List.getElem?_set_ne (fun e=>?_),fun j hj=>Nat.le_trans k13.len (o5 j hj),put (k13.trans k5),hfew,?_⟩
  ·unfold KF
   rw [Za z1,Za e2,Za Zq,Za Zp,z2,Za q1,Zb,if_neg (by simp),Za Zw,Za Zk,Za h3.l1,Za e4,Za Zq,Za Zp,Za Zk,Za (a0 _ (.refl _)),Za Zk,Za (a1 _ (.refl _)),Za Zw,Za Zk,Za h3.l2,Za e5,Za (a1 _ k5),Yc,Za (a0 _ k5),Yc,Za zb,Za w4,Za d4,he]
   rfl
  ·have:=o5 j hj
   have:=Yv c13
   omega
  ·rw [if_pos he,hq0]
   rfl
 ·have q1 : bop .int .neq (iv (Z0 k s.A)) (.int .i64 0) X3=some (.bool true,X3):=by rw [Zn];simp [he]
  have zb : bld (.agg #[.string ⟨#[]⟩,.string ⟨#[]⟩,.string ⟨#[]⟩,.bool false,.slice none 0 0]) [] X3=some (.agg (usr ([],[])).toArray,X3):=rfl
  have w3:=Zf5 (vs:=usr ([],[])) (n:=5) c13 rfl rfl rfl
  have d3 : ldA 5 (pt X.length) (X3.set X.length (.cells (usr ([],[])) 1 false false))=some (.agg (usr ([],[])).toArray,_):=WD (n:=5) (Jc c13) rfl
  refine ⟨⟨[],[],[],false,.slice none 0 0,[]⟩,[],X3.set X.length (.cells (usr ([],[])) 1 false false),f1 _ _ ?_,ZC.nil,by simp,put k13,Nat.zero_le _,by rw [if_neg he];rfl⟩
  unfold KF
  rw [Za z1,Za e2,Za Zq,Za Zp,z2,Za q1,Zb,if_pos rfl,Za zb,Za w3,Za d3]
  rfl
theorem ZrN (h : ND X d r s c) : R (n+1) WC [pt d] X=some (iv s.A.length,X):=by
 rw [R,ZiU rfl]
 unfold Zcr
 rw [Za Zw,Za Zk,Za h.l0,Za h.m.len]
 rfl
theorem Zob (h : ND X d r s c) : ∃ v q X',R (n+4) KA [pt d] X=some (v,X')∧ZC X' v ((JI s.K).map strv) q∧HLe X X'∧∀ j∈q,X.length≤j:=by
 obtain ⟨v,q,X',e,r1,l,o⟩:=Zol (n:=n) h.gr
 have e : R (n+3) Yp [pt r.g] X=_:=e
 rw [h.ks] at r1
 refine ⟨v,q,X',?_,r1,l,o⟩
 rw [R,ZfL rfl]
 unfold ZaL
 rw [Za Zw,Za Zk,Za h.l2,Za e]
 rfl
abbrev Zag (s : NSt) : List Tx:=s.A.map (·.1)
theorem Zpz (h : ND X d r s c) : ∃ v q X',R (n+2) KZ [pt d] X=some (v,X')∧ZC X' v ((JI (Zag s)).map strv) q∧HLe X X'∧∀ j∈q,X.length≤j:=by
 have e1 : run Tryz.prog np lvs (n+1) Qh [.map (some r.b)] X=some (.func (.func QJ) #[] #[pt X.length],X++[.cells [.map (some r.b)] 1 false false]):=by
  rw [Kg rfl]
  unfold QP
  rw [Za (ZkC rfl rfl _)]
  rfl
 have l1 : HLe X (X++[.cells [.map (some r.b)] 1 false false]):=.app _ _
 obtain ⟨v,q,H2,e2,r2,l2,o2⟩:=(h.m.hle l1).keys (gks:=ZfD) (gc:=Jj) (gk:=QJ) (c:=X.length) (by decide) ZZ (Nat.le_trans h.inv.few (by decide)) (fun p hp=>Nat.le_trans (Zhs (h.inv.nm p hp).1) (by decide))
 have e2' : run Tryz.prog np lvs (n+1) Jk [.func (.func QJ) #[] #[pt X.length],.func (.func Jj) #[] #[]] (X++[.cells [.map (some r.b)] 1 false false])=some (v,H2):=by
  rw [ZeW (show np Jk=some (Za9 ZfD Jj) from rfl)]
  exact e2
 refine ⟨v,q,H2,?_,r2,l1.trans l2,fun j hj=>Nat.le_trans l1.len (o2 j hj)⟩
 rw [R,ZgE rfl]
 unfold Zbq
 rw [Za Zw,Za Zk,Za h.l0,Za e1,Za e2']
 rfl
theorem ZC.own_of {v : Value} {vs : List Value} {q : List Nat} (h : ZC X v vs q) {i : Nat} (hi : A.own1 v=some i) : i∈q:=by
 rcases h with ⟨_,rfl,rfl⟩ | ⟨sid,rest,g,rfl,rfl,_⟩
 ·cases hi
 ·cases hi;simp
structure ZaS (X0 X : Zc) (sl : Value) (us : List Zm) (q : List Nat) : Prop where
 r : Y0 5 X sl (us.map Zm.cells) q
 o : ∀ j∈q,X0.length≤j
 u : ∀ w∈us,∃ qu,ZC X w.gv (w.gs.map strv) qu∧(∀ j∈qu,X0.length≤j∧j∉q)∧w.gs.length≤1000
 un : ∀ a∈us,∀ b∈us,∀ i,own1 a.gv=some i→own1 b.gv=some i→a=b
theorem ZaS.us {X0 X : Zc} {sl : Value} {us : List Zm} {q : List Nat} (h : ZaS X0 X sl us q) : QM X sl us:=⟨h.r.rd,fun w hw=>by
 obtain ⟨qu,h1,_,h2⟩:=h.u w hw
 exact ⟨h1.rd,h1.one.1,by omega⟩⟩
theorem ZaS.hle {X0 X Y : Zc} {sl : Value} {us : List Zm} {q : List Nat} (h : ZaS X0 X sl us q) (hl : HLe X Y) : ZaS X0 Y sl us q:=
 ⟨h.r.step hl.step (by simp),h.o,fun w hw=>by
  obtain ⟨qu,h1,h2,h3⟩:=h.u w hw
  exact ⟨qu,h1.step hl.step (by simp),h2,h3⟩,h.un⟩
theorem ZaS.push {X0 : Zc} {sl : Value} {us : List Zm} {q qu : List Nat} {w : Zm} (h : ZaS X0 X sl us q) (hl : us.length≤1000) (hr : ZC X w.gv (w.gs.map strv) qu) (hq : ∀ j∈qu,X0.length≤j∧j∉q) (h6 : w.gs.length≤1000) (hfr : ∀ a∈us,∀ i,own1 a.gv=some i→i∉qu) (hle : HLe X0 X) :
  ∃ x X1 sl' X2 q',bsl 5 1 (.agg #[.string ⟨#[]⟩,.string ⟨#[]⟩,.string ⟨#[]⟩,.bool false,.slice none 0 0]) [(0,5,.agg w.cells.toArray)] X=some (x,X1)∧app 5 80 sl x X1=some (sl',X2)∧ZaS X0 X2 sl' (us++[w]) q'∧HLe X0 X2:=by
 have hone : w.cells.all oneCell=true:=by simp only [Zm.cells,List.all_cons,hr.one.1];rfl
 have x4:=Zsf (es:=5) (z:=.agg #[.string ⟨#[]⟩,.string ⟨#[]⟩,.string ⟨#[]⟩,.bool false,.slice none 0 0]) (H:=X) rfl (show w.cells.length=5 from rfl) hone
 have l1 : HLe X (X++[Zi.cells w.cells 5 false false]):=.app _ _
 have s1 : SlN 5 (X++[Zi.cells w.cells 5 false false]) (.slice (some ⟨X.length,0,none⟩) 1 1) [w.cells]:=SlN.whole (rows:=[w.cells]) (c:=1) (e:=5) (g:=false) (ro:=false) (by rw [ZZ];simp) (by simp)
 generalize X++[Zi.cells w.cells 5 false false]=X1 at x4 l1 s1
 have h1:=h.hle l1
 obtain ⟨sl',X2,q',x5,hn2,s2⟩:=h1.r.push (b:=80) s1 rfl (by simp;omega) (by simp;omega)
 have hm:=(hle.trans l1).more s2 h.o
 rw [← List.map_singleton (f:=Zm.cells),← List.map_append] at hn2
 have hnew : ∀ (v : Zm) (qv : List Nat),ZC X1 v.gv (v.gs.map strv) qv→(∀ j∈qv,X0.length≤j∧j∉q)→ZC X2 v.gv (v.gs.map strv) qv∧∀ j∈qv,X0.length≤j∧j∉q':=fun v qv hv hj=>⟨hv.step s2 (fun j hm=>(hj j hm).2),fun j hm=>⟨(hj j hm).1,fun hq=>by
  rcases s2.own j hq with h2 | h2
  ·exact (hj j hm).2 h2
  ·have:=hv.lt j hm;omega⟩⟩
 refine ⟨_,X1,sl',X2,q',x4,x5,⟨hn2,hm.2,fun v hv=>?_,fun a ha b hb i hai hbi=>?_⟩,hm.1⟩
 ·rcases List.mem_append.1 hv with hv | hv
  ·obtain ⟨qv,a1,a2,a3⟩:=h1.u v hv
   obtain ⟨b1,b2⟩:=hnew v qv a1 a2
   exact ⟨qv,b1,b2,a3⟩
  ·have hv : v=w:=by simpa using hv
   subst hv
   obtain ⟨b1,b2⟩:=hnew v qu (hr.step l1.step (by simp)) hq
   exact ⟨qu,b1,b2,h6⟩
 ·rcases List.mem_append.1 ha with ha | ha <;> rcases List.mem_append.1 hb with hb | hb
  ·exact h.un a ha b hb i hai hbi
  ·have hb : b=w:=by simpa using hb
   rw [hb] at hbi
   exact absurd (hr.own_of hbi) (hfr a ha i hai)
  ·have ha : a=w:=by simpa using ha
   rw [ha] at hai
   exact absurd (hr.own_of hai) (hfr b hb i hbi)
  ·have ha : a=w:=by simpa using ha
   have hb : b=w:=by simpa using hb
   rw [ha,hb]
theorem ZmZ {v : Value} {q0 : List Nat} {ks : List Tx} {X0 : Zc} (h : ND X0 d r s c) (hr : ZC X0 v (ks.map strv) q0) (hk : ks.length≤100) (hK : ∀ k∈ks,Z0 k s.A=0) : ∀ (t j : Nat) (sl : Value) (q : List Nat) (us : List Zm) (X : Zc),ks.length - j=t→j≤ks.length→us.length≤j→HLe X0 X→ZaS X0 X sl us q→
  ∃ X' sl' q' us',Zj (c5 (Yk.l1 (R (n+7)))) [pt d,sl,v,iv ks.length,iv j] X=some (.ext 0 [sl'],X')∧ZaS X0 X' sl' (us++us') q'∧us'.map QA=(ks.drop j).map (fun k=>Wv s k ((Ze k s.A).getD ([],false)))∧HLe X0 X'
 | 0,j,sl,q,us,X,ht,hj,hu,hl,ho=>by
  have : j=ks.length:=by omega
  subst this
  rw [List.drop_length]
  refine ⟨X,sl,q,[],ZD ?_,by rw [List.append_nil];exact ho,rfl,hl⟩
  rw [Z7]
  unfold Yk.l1
  rw [Za Zg,Zb,if_neg (by simp)]
  rfl
 | t+1,j,sl,q,us,X,ht,hj,hu,hl,ho=>by
  have hjl : j < ks.length:=by omega
  have hlt : (j : Int) < ks.length:=by omega
  have hg:=List.getElem?_eq_getElem hjl
  have hd:=List.drop_eq_getElem_cons hjl
  generalize ks[j]=k at hg hd
  have hrx:=hr.step hl.step (by simp)
  have x1:=hrx.ix (i:=j) (by simpa using hjl) .i64 X
  have x2:=hrx.ldx (Q3 hg)
  have he:=hK k (List.mem_of_getElem? hg)
  obtain ⟨w,qw,X1,e1,r1,o1,l1,h6,hkey⟩:=ZoZ (n:=n) (k:=k) (h.hle hl)
  rw [if_pos he] at hkey
  rw [he] at e1
  have ho1:=ho.hle l1
  have hone : w.cells.all oneCell=true:=by simp only [Zm.cells,List.all_cons,r1.one.1];rfl
  have z2 : ∀ K : Value→M Out,bind (alc 1 (.agg #[.string ⟨#[]⟩,.string ⟨#[]⟩,.string ⟨#[]⟩,.bool false,.slice none 0 0])) (fun p=>bind (stA 5 p (.agg w.cells.toArray)) fun _=>K p) X1=K (pt X1.length) (X1++[.cells w.cells 1 false false]):=fun K=>ZcQ (n:=5) (zs:=[.string ⟨#[]⟩,.string ⟨#[]⟩,.string ⟨#[]⟩,.bool false,.slice none 0 0]) (r:=w.cells) rfl rfl rfl hone
  have k2 : HLe X1 (X1++[Zi.cells w.cells 1 false false]):=.app _ _
  have c2 : (X1++[Zi.cells w.cells 1 false false])[X1.length]?=some (.cells w.cells 1 false false):=ZZ
  generalize X1++[Zi.cells w.cells 1 false false]=X2 at z2 k2 c2
  have d2 : ldA 5 (pt X1.length) X2=some (.agg w.cells.toArray,X2):=WD (n:=5) c2 rfl
  have hq : ∀ i∈qw,X0.length≤i∧i∉q:=fun i hi=>by
   have h1:=o1 i hi
   have h2:=hl.len
   exact ⟨by omega,fun hm=>by have:=ho.r.lt i hm;omega⟩
  obtain ⟨y,X3,sl',X4,q',a1,a2,ho4,l4⟩:=(ho1.hle k2).push (by omega) (r1.step k2.step (by simp)) hq (by omega) (fun a ha i hi hm=>by obtain ⟨qa,b1,_,_⟩:=ho.u a ha;have h1:=b1.lt i (b1.own_of hi);have h2:=o1 i hm;omega) ((hl.trans l1).trans k2)
  obtain ⟨X5,sl5,q5,us5,e5,o5,u5,l5⟩:=ZmZ h hr hk hK t (j+1) sl' q' (us++[w]) X4 (by omega) (by omega) (by rw [List.length_append,List.length_singleton];omega) l4 ho4
  refine ⟨X5,sl5,q5,w :: us5,(Zv ?_).trans e5,by rw [List.append_assoc] at o5;exact o5,?_,l5⟩
  ·rw [Z7]
   unfold Yk.l1
   rw [Za Zg,Zb,if_pos (by simpa using hlt),Za x1,Za x2,Za e1,Za Zq,Za Zp,z2,Za d2,Za a1,Za a2,Za Zs,Qb (by omega)]
   rfl
  ·rw [hd,List.map_cons,List.map_cons,u5,hkey]
def ZhI (s : NSt) : List ZfX:=(JI (Zag s)).map fun k=>Wv s k ((Ze k s.A).getD ([],false))
theorem Zqa (h : ∀ p∈s.A,Zo p.1=true) {k : Tx} (hk : k∈Zag s) : Z0 k s.A=0:=by
 obtain ⟨p,hp,rfl⟩:=List.mem_map.1 hk
 unfold Z0
 rw [h p hp,ZeG,decide_eq_true (List.mem_map.2 ⟨p,hp,rfl⟩)]
 rfl
theorem Zn9 (h : ND X d r s c) : ∃ v q us X',R (n+8) KR [pt d] X=some (v,X')∧ZaS X X' v us q∧us.map QA=ZhI s∧HLe X X':=by
 obtain ⟨v,q,X1,e1,r1,l1,o1⟩:=Zpz (n:=n+5) h
 have e1 : R (n+7) KZ [pt d] X=_:=e1
 have hfew : (JI (Zag s)).length≤12:=by
  rw [Zcp]
  have:=h.inv.few
  simpa using this
 obtain ⟨X2,sl,q2,us,e2,o2,u2,l2⟩:=ZmZ (n:=n) (h.hle l1) r1 (by omega) (fun k hk=>Zqa (fun p hp=>(h.inv.nm p hp).1) (W3.1 hk)) (JI (Zag s)).length 0 (.slice none 0 0) [] [] X1 (by omega) (by omega) (Nat.le_refl _) (.refl _) ⟨Y0.nil,by simp,by simp,by simp⟩
 have e2 : Zj (c5 (Yk.l1 (R (n+7)))) [pt d,.slice none 0 0,v,iv (JI (Zag s)).length,.int .i64 0] X1=_:=e2
 rw [List.nil_append] at o2
 rw [List.drop_zero] at u2
 have hlen : Zx v X1=some (iv (JI (Zag s)).length,X1):=by have:=r1.rd.len (H':=X1);simpa using this
 have hx:=l1.len
 refine ⟨sl,q2,us,X2,?_,⟨o2.r,fun j hj=>Nat.le_trans hx (o2.o j hj),fun w hw=>?_,o2.un⟩,u2,l1.trans l2⟩
 ·rw [R,Zh6 rfl]
  unfold Yk
  rw [Za e1,Za hlen,ZM e2,Zu]
  rfl
 ·obtain ⟨qu,a1,a2,a3⟩:=o2.u w hw
  exact ⟨qu,a1,fun j hj=>⟨Nat.le_trans hx (a2 j hj).1,(a2 j hj).2⟩,a3⟩
end
end Go.Proofs.YtnnehafmjfmbnaaGreatDoor.A
namespace Go.Proofs.YtnnehafmjfmbnaaGreatDoor.A
set_option linter.unusedVariables false
set_option linter.unusedSimpArgs false
open Go.Proofs Go.Proofs.YtnnehafmjfmbnaaGreatDoor
def Zab (k : Tx) (A : AMp) : Acc:=(Ze k A).getD ([],false)
def YW (k h : Tx) (A : AMp) : Int:=if Zo k then (if Zaq h then (if (Ze k A).isSome then 9 else if 12≤A.length then 7 else 0) else 4) else 10
def Wm (k h : Tx) (s : NSt) : NSt:=if YW k h s.A=0 then { s with A:=Qz k (h,false) s.A } else s
def Zna (k : Tx) (s : NSt) : NSt:=if Z0 k s.A=0 then { s with A:=YA k s.A,OW:=WP k s.OW s.OF,OF:=Km k s.OF,mem:=ZrO k s.mem } else s
def YE (k m : Tx) (s : NSt) : Int:=if Zo k then (if m≠[]∧Q2 m=false then 11 else if (Ze k s.A).isSome then Kc k m s.OW else 8) else 10
def YD (k m : Tx) (s : NSt) : NSt:=if YE k m s=0 then { s with OW:=ZiY k m s.OW s.OF,OF:=Zbk k m s.OW s.OF } else s
def Ku (o t : Tx) (A : AMp) : Int:=if Zo o && Zo t then (if (Ze o A).isSome then (if (Ze t A).isSome then 9 else 0) else 8) else 10
def Zaj (o t : Tx) (s : NSt) : NSt:=if Ku o t s.A=0 then { s with A:=Qz t (Zab o s.A) (YA o s.A),OW:=ZnL o t s.OW s.OF,OF:=Zfi o t s.OF,mem:=Zck o t s.mem } else s
def Zsu (g : Tx) (s : NSt) : NSt:={ s with K:=Zev g s.K }
def Zsp (g : Tx) (s : NSt) : NSt:={ s with K:=Zsk g s.K,mem:=if Zjy g s.K=0 then ZiW g s.mem else s.mem }
def ZmV (g k : Tx) (A : AMp) : Int:=if Zo g then Z0 k A else 10
def Zra (g k : Tx) (s : NSt) : Int:=if ZmV g k s.A=0 then ZpR g k s.K s.mem else ZmV g k s.A
def Zn3 (g k : Tx) (s : NSt) : NSt:=if Zra g k s=0 then { s with mem:=Zr1 g k s.mem } else s
theorem KV {α : Type} {k j : Tx} {v : α} {m : List (Tx × α)} (h : (Ze j m).isSome=true∨j=k) : (Ze j (Qz k v m)).isSome=true:=by
 by_cases e : j=k
 ·rw [e,Kr];rfl
 ·rw [YF e];exact h.resolve_right e
theorem JZ.putA {s : NSt} (h : JZ s) {k : Tx} {v : Acc} (hk : Zo k=true) (hv : Zaq v.1=true) (hl : (Ze k s.A).isSome=true∨s.A.length < 12) : JZ { s with A:=Qz k v s.A } where
 nm p hp:=by
  rcases Zem hp with rfl | hp
  ·exact ⟨hk,hv⟩
  ·exact h.nm p hp
 few:=by
  show (Qz k v s.A).length≤12
  rw [ZbW]
  have:=h.few
  split
  ·exact this
  ·rename_i hn
   rcases hl with h1 | h1
   ·exact absurd h1 hn
   ·omega
 ofA n hn:=KV (.inl (h.ofA n hn))
 memA g n hn:=KV (.inl (h.memA g n hn))
 good:=h.good
theorem ZjQ {k h : Tx} {A : AMp} (he : YW k h A=0) : Zo k=true∧Zaq h=true∧Ze k A=none∧A.length < 12:=by
 unfold YW at he
 cases h1 : Zo k <;> cases h2 : Zaq h <;> rw [h1,h2] at he <;> try simp at he
 by_cases h3 : (Ze k A).isSome=true
 ·rw [if_pos h3] at he;simp at he
 ·rw [if_neg h3] at he
  by_cases h4 : 12≤A.length
  ·rw [if_pos h4] at he;simp at he
  ·exact ⟨rfl,rfl,by simpa using h3,by omega⟩
theorem JZ.create {s : NSt} (h : JZ s) (k x : Tx) : JZ (Wm k x s):=by
 unfold Wm
 split
 ·rename_i he
  obtain ⟨h1,h2,h3,h4⟩:=ZjQ he
  exact h.putA h1 h2 (.inr h4)
 ·exact h
theorem JZ.delete {s : NSt} (h : JZ s) (k : Tx) : JZ (Zna k s):=by
 unfold Zna
 split
 ·exact {
   nm:=fun p hp=>h.nm p (List.mem_filter.1 hp).1
   few:=Nat.le_trans (List.length_filter_le _ _) h.few
   ofA:=fun n hn=>by
    have hne : n≠k:=fun e=>by rw [e,Zal] at hn;cases hn
    show (Ze n (YA k s.A)).isSome=true
    rw [Yi hne]
    rw [ZbS hne] at hn
    exact h.ofA n hn
   memA:=fun g n hn=>by
    have hn : (s.mem g n && !(n==k))=true:=hn
    simp only [Bool.and_eq_true,Bool.not_eq_true',beq_eq_false_iff_ne] at hn
    show (Ze n (YA k s.A)).isSome=true
    rw [Yi hn.2]
    exact h.memA g n hn.1
   good:=fun n m hn=>by
    have hne : n≠k:=fun e=>by
     have hn : Ze n (Km k s.OF)=some m:=hn
     rw [e,Zal] at hn;cases hn
    have hn : Ze n (Km k s.OF)=some m:=hn
    rw [ZbS hne] at hn
    exact h.good n m hn }
 ·exact h
theorem ZjM {k : Tx} {A : AMp} (h : (Ze k A).isSome=true) : Ze k A=some (Zab k A):=by
 unfold Zab
 cases ha : Ze k A with
 | none=>rw [ha] at h;cases h
 | some p=>rfl
theorem ZnQ {k m : Tx} {s : NSt} (he : YE k m s=0) : Zo k=true∧(m=[]∨Q2 m=true)∧(Ze k s.A).isSome=true∧Kc k m s.OW=0:=by
 unfold YE at he
 cases h1 : Zo k
 ·rw [h1] at he;simp at he
 ·rw [h1] at he
  simp only [if_true] at he
  by_cases h2 : m≠[]∧Q2 m=false
  ·rw [if_pos h2] at he;simp at he
  ·rw [if_neg h2] at he
   cases h3 : (Ze k s.A).isSome
   ·rw [h3] at he;simp at he
   ·rw [h3] at he
    simp only [if_true] at he
    refine ⟨rfl,?_,rfl,he⟩
    by_cases h4 : m=[]
    ·exact .inl h4
    ·refine .inr ?_
     cases h5 : Q2 m
     ·exact absurd ⟨h4,h5⟩ h2
     ·rfl
theorem Zc0 {k m : Tx} {OW OF : J0} (he : Kc k m OW=0) (n : Tx) : Ze n (Zbk k m OW OF)=if n=k then (if m=[] then none else some (ZT m)) else Ze n OF:=by
 unfold Zbk
 rw [if_pos he]
 by_cases hm : m=[]
 ·rw [if_pos hm,if_pos hm]
  by_cases hn : n=k
  ·rw [if_pos hn,hn,Zal]
  ·rw [if_neg hn,ZbS hn]
 ·rw [if_neg hm,if_neg hm]
  by_cases hn : n=k
  ·rw [if_pos hn,hn,Kr]
  ·rw [if_neg hn,YF hn,ZbS hn]
theorem Zhh {m : Tx} : ZT (ZT m)=ZT m:=by
 unfold ZT
 rw [List.map_map]
 refine List.map_congr_left fun b _=>?_
 exact (Zdj (p:=fun b=>Yl (Yl b)=Yl b) (by decide+kernel)) b
theorem Zmi {m : Tx} (h : Q2 m=true) : Q2 (ZT m)=true:=by
 unfold Q2 at h ⊢
 rw [Zhh,show (ZT m).length=m.length from by simp [ZT]]
 exact h
theorem JZ.setMail {s : NSt} (h : JZ s) (k m : Tx) : JZ (YD k m s):=by
 unfold YD
 split
 ·rename_i he
  obtain ⟨h1,h2,h3,h4⟩:=ZnQ he
  exact {
   nm:=h.nm
   few:=h.few
   ofA:=fun n hn=>by
    have hn : (Ze n (Zbk k m s.OW s.OF)).isSome=true:=hn
    rw [Zc0 h4] at hn
    by_cases e : n=k
    ·rw [e];exact h3
    ·rw [if_neg e] at hn;exact h.ofA n hn
   memA:=h.memA
   good:=fun n v hn=>by
    have hn : Ze n (Zbk k m s.OW s.OF)=some v:=hn
    rw [Zc0 h4] at hn
    by_cases e : n=k
    ·rw [if_pos e] at hn
     by_cases hm : m=[]
     ·rw [if_pos hm] at hn;cases hn
     ·rw [if_neg hm] at hn
      have hv : ZT m=v:=Option.some.inj hn
      rw [← hv]
      exact ⟨Zmi (h2.resolve_left hm),Zhh⟩
    ·rw [if_neg e] at hn;exact h.good n v hn }
 ·exact h
theorem ZjR {o t : Tx} {A : AMp} (he : Ku o t A=0) : Zo o=true∧Zo t=true∧(Ze o A).isSome=true∧Ze t A=none∧o≠t:=by
 unfold Ku at he
 cases h1 : Zo o <;> cases h2 : Zo t <;> rw [h1,h2] at he <;> try simp at he
 cases h3 : (Ze o A).isSome <;> cases h4 : (Ze t A).isSome <;> rw [h3,h4] at he <;> simp at he
 have h4 : Ze t A=none:=by simpa using h4
 refine ⟨rfl,rfl,rfl,h4,fun e=>?_⟩
 rw [e,h4] at h3;cases h3
theorem JZ.ofN {s : NSt} (h : JZ s) {t : Tx} (ht : Ze t s.A=none) : Ze t s.OF=none:=by
 cases ho : Ze t s.OF with
 | none=>rfl
 | some v=>
  have:=h.ofA t (by rw [ho];rfl)
  rw [ht] at this;cases this
theorem JZ.memN {s : NSt} (h : JZ s) {t : Tx} (ht : Ze t s.A=none) (g : Tx) : s.mem g t=false:=by
 cases ho : s.mem g t with
 | false=>rfl
 | true=>
  have:=h.memA g t ho
  rw [ht] at this;cases this
theorem Zm7 {o t : Tx} {OF : J0} (ht : Zo t=true) (hn : Ze t OF=none) (hot : o≠t) (n : Tx) : Ze n (Zfi o t OF)=if n=t then Ze o OF else if n=o then none else Ze n OF:=by
 unfold Zfi ZcZ
 rw [ht,hn]
 cases ho : Ze o OF with
 | none=>
  simp only [if_true]
  rw [if_neg (by decide)]
  by_cases h1 : n=t
  ·rw [if_pos h1,h1,hn]
  ·rw [if_neg h1]
   by_cases h2 : n=o
   ·rw [if_pos h2,h2,ho]
   ·rw [if_neg h2]
 | some m=>
  simp only [Option.isSome_none,Bool.false_and,if_true,Option.getD_some]
  rw [if_pos (by simp)]
  by_cases h1 : n=t
  ·rw [if_pos h1,h1,Kr]
  ·rw [if_neg h1,YF h1]
   by_cases h2 : n=o
   ·rw [if_pos h2,h2,Zal]
   ·rw [if_neg h2,ZbS h2]
theorem JZ.rename {s : NSt} (h : JZ s) (o t : Tx) : JZ (Zaj o t s):=by
 unfold Zaj
 split
 ·rename_i he
  obtain ⟨h1,h2,h3,h4,h5⟩:=ZjR he
  have hof:=h.ofN h4
  exact {
   nm:=fun p hp=>by
    rcases Zem hp with rfl | hp
    ·exact ⟨h2,(h.nm _ (K6 (ZjM h3))).2⟩
    ·exact h.nm p (List.mem_filter.1 hp).1
   few:=by
    show (Qz t (Zab o s.A) (YA o s.A)).length≤12
    rw [ZbW]
    have hf:=h.few
    have hlt : (YA o s.A).length < s.A.length:=by
     unfold YA
     rw [List.length_filter_lt_length_iff_exists]
     exact ⟨_,K6 (ZjM h3),by simp⟩
    split <;> omega
   ofA:=fun n hn=>by
    have hn : (Ze n (Zfi o t s.OF)).isSome=true:=hn
    rw [Zm7 h2 hof h5] at hn
    show (Ze n (Qz t (Zab o s.A) (YA o s.A))).isSome=true
    by_cases e1 : n=t
    ·exact KV (.inr e1)
    ·rw [if_neg e1] at hn
     by_cases e2 : n=o
     ·rw [if_pos e2] at hn;cases hn
     ·rw [if_neg e2] at hn
      exact KV (.inl (by rw [Yi e2];exact h.ofA n hn))
   memA:=fun g n hn=>by
    have hn : Zck o t s.mem g n=true:=hn
    show (Ze n (Qz t (Zab o s.A) (YA o s.A))).isSome=true
    by_cases e1 : n=t
    ·exact KV (.inr e1)
    ·have hm : s.mem g n=true∧n≠o:=by
      unfold Zck at hn
      cases hg : s.mem g o
      ·rw [hg] at hn
       simp only [Bool.false_eq_true,if_false] at hn
       exact ⟨hn,fun e=>by rw [e,hg] at hn;cases hn⟩
      ·rw [hg] at hn
       simp only [if_true,Bool.or_eq_true,beq_iff_eq,Bool.and_eq_true,Bool.not_eq_true',beq_eq_false_iff_ne] at hn
       rcases hn with hn | hn
       ·exact absurd hn e1
       ·exact hn
     exact KV (.inl (by rw [Yi hm.2];exact h.memA g n hm.1))
   good:=fun n v hn=>by
    have hn : Ze n (Zfi o t s.OF)=some v:=hn
    rw [Zm7 h2 hof h5] at hn
    by_cases e1 : n=t
    ·rw [if_pos e1] at hn;exact h.good o v hn
    ·rw [if_neg e1] at hn
     by_cases e2 : n=o
     ·rw [if_pos e2] at hn;cases hn
     ·rw [if_neg e2] at hn;exact h.good n v hn }
 ·exact h
theorem JZ.make {s : NSt} (h : JZ s) (g : Tx) : JZ (Zsu g s):=⟨h.nm,h.few,h.ofA,h.memA,h.good⟩
theorem JZ.drop {s : NSt} (h : JZ s) (g : Tx) : JZ (Zsp g s):=by
 refine ⟨h.nm,h.few,h.ofA,fun k n hn=>?_,h.good⟩
 have hn : (if Zjy g s.K=0 then ZiW g s.mem else s.mem) k n=true:=hn
 split at hn
 ·unfold ZiW at hn
  simp only [Bool.and_eq_true] at hn
  exact h.memA k n hn.1
 ·exact h.memA k n hn
theorem JZ.leave {s : NSt} (h : JZ s) (g k : Tx) : JZ (Zn3 g k s):=by
 unfold Zn3
 split
 ·refine ⟨h.nm,h.few,h.ofA,fun j n hn=>?_,h.good⟩
  have hn : (s.mem j n && !(j==g && n==k))=true:=hn
  simp only [Bool.and_eq_true] at hn
  exact h.memA j n hn.1
 ·exact h
end Go.Proofs.YtnnehafmjfmbnaaGreatDoor.A
namespace Go.Proofs.YtnnehafmjfmbnaaGreatDoor.A
set_option linter.unusedVariables false
set_option linter.unusedSimpArgs false
open Go.Proofs Go.Proofs.YtnnehafmjfmbnaaGreatDoor
section
variable {X X' : Zc} {n d c c' : Nat} {r : NR} {s : NSt} {k h m t o g : Tx}
theorem NR.mem_b (r : NR) : r.b∈r.own:=by simp [NR.own]
theorem NR.mem_o (r : NR) : r.o∈r.own:=by simp [NR.own]
theorem NR.mem_a (r : NR) : r.a∈r.own:=by simp [NR.own]
theorem NR.mem_g (r : NR) : ∀ j∈Ju r.o2 r.G,j∈r.own:=fun j hj=>by
 unfold NR.own
 exact List.mem_cons_of_mem _ (List.mem_cons_of_mem _ (List.mem_cons_of_mem _ hj))
theorem ND0.setA (hd : ND0 X d r s c) {A' : AMp} (m' : Js K2 X' r.b A') (hs : ZK [r.b] X [r.b] X') : ND0 X' d r { s with A:=A' } c∧ZK r.own X r.own X':=by
 obtain ⟨h1,h2,h3,_,_⟩:=hd.dis
 have nb : ∀ {j},j∉r.own→j∉[r.b]:=fun hj e=>hj (by rw [List.mem_singleton.1 e];exact r.mem_b)
 refine ⟨⟨hs.get hd.cell (nb hd.dnot),m',hd.ix.step hs (nb hd.xnot) (by simpa using Ne.symm h1) (by simpa using Ne.symm h2),hd.gr.step hs (nb hd.gnot) (fun j hj e=>h3 ?_),hd.ks,hd.dis⟩,hs.mono2 (by simpa using r.mem_b)⟩
 rw [← List.mem_singleton.1 e];exact hj
theorem ND0.setI (hd : ND0 X d r s c) {OW' OF' : J0} (i' : Idx X' r.x r.o r.a OW' OF') (hs : ZK [r.o,r.a] X [r.o,r.a] X') : ND0 X' d r { s with OW:=OW',OF:=OF' } c∧ZK r.own X r.own X':=by
 obtain ⟨h1,h2,h3,h4,h5⟩:=hd.dis
 have no : ∀ j∈[r.o,r.a],j∈r.own:=fun j hj=>by
  simp only [List.mem_cons,List.not_mem_nil,or_false] at hj
  rcases hj with rfl | rfl
  ·exact r.mem_o
  ·exact r.mem_a
 refine ⟨⟨hs.get hd.cell (fun e=>hd.dnot (no _ e)),hd.m.step hs (by simp [h1,h2]),i',hd.gr.step hs (fun e=>hd.gnot (no _ e)) (fun j hj e=>?_),hd.ks,hd.dis⟩,hs.mono2 no⟩
 simp only [List.mem_cons,List.not_mem_nil,or_false] at e
 rcases e with rfl | rfl
 ·exact h4 hj
 ·exact h5 hj
theorem ND0.setG (hd : ND0 X d r s c) {G' : ZeS} {mem' : Mem} {K' : List Tx} (g' : Grp X' r.g r.o2 G' mem' c') (hs : ZK (Ju r.o2 r.G) X (Ju r.o2 G') X') (hk : Z6 G'=K') : ND0 X' d { r with G:=G' } { s with K:=K',mem:=mem' } c'∧ZK r.own X (NR.own { r with G:=G' }) X':=by
 obtain ⟨h1,h2,h3,h4,h5⟩:=hd.dis
 have hb:=hd.isMap r.mem_b
 have ho:=hd.isMap r.mem_o
 have ha:=hd.isMap r.mem_a
 have new : ∀ j,j < X.length→j∉Ju r.o2 r.G→j∉Ju r.o2 G':=fun j hj hn hm=>by
  rcases hs.own j hm with e | e
  ·exact hn e
  ·omega
 refine ⟨⟨hs.get hd.cell (fun e=>hd.dnot (r.mem_g _ e)),hd.m.step hs h3,hd.ix.step hs (fun e=>hd.xnot (r.mem_g _ e)) h4 h5,g',hk,⟨h1,h2,new _ hb.1 h3,new _ ho.1 h4,new _ ha.1 h5⟩⟩,hs.more r.mem_g (fun j hj=>?_)⟩
 unfold NR.own at hj ⊢
 rcases List.mem_cons.1 hj with rfl | hj
 ·exact .inl (by simp)
 ·rcases List.mem_cons.1 hj with rfl | hj
  ·exact .inl (by simp)
  ·rcases List.mem_cons.1 hj with rfl | hj
   ·exact .inl (by simp)
   ·exact .inr (.inl hj)
theorem ZeM (hd : ND X d r s c) : ∃ (p : Nat) (X2 : Zc),(∀ {β : Type} (K : Value→Value→M β),bind (R (n+9) QT [pt d,strv k]) (fun v12=>bind (ZF v12 0) fun v13=>bind (ZF v12 1) fun v14=>bind (alc 1 (.agg #[.string ⟨#[]⟩,.bool false])) fun v7=>bind (stA 2 v7 v13) fun _=>K v7 v14) X=K (pt p) (iv (Z0 k s.A)) X2)∧
  X2[p]?=some (.cells [strv (if Zo k then Zab k s.A else ([],false)).1,.bool (if Zo k then Zab k s.A else ([],false)).2] 1 false false)∧HLe X X2∧X.length≤p:=by
 obtain ⟨X1,e1,k1⟩:=ZmR (n:=n+3) (k:=k) hd
 have e1 : R (n+9) QT [pt d,strv k] X=some (.tuple #[K2 (if Zo k then Zab k s.A else ([],false)),iv (Z0 k s.A)],X1):=e1
 generalize (if Zo k then Zab k s.A else ([],false))=a at e1
 refine ⟨X1.length,X1++[.cells [strv a.1,.bool a.2] 1 false false],fun {β} K=>?_,ZZ,k1.trans (.app _ _),k1.len⟩
 rw [Za e1,Za Zq,Za Zp]
 exact ZcQ (n:=2) (zs:=[strv [],.bool false]) (r:=[strv a.1,.bool a.2]) (k:=fun v7=>K v7 (iv (Z0 k s.A))) rfl rfl rfl rfl
theorem ND0.box (hd : ND0 X d r s c) {p : Nat} {X2 : Zc} {ob : Zi} (hle : HLe X X2) (hp : X.length≤p) : ND0 (X2.set p ob) d r s c:=by
 have hs : ZK [] X [] (X2.set p ob):=⟨by rw [List.length_set];exact hle.len,fun j hj hn=>by
  rw [List.getElem?_set_ne (by omega)]
  exact hle.step.keep j hj (by simp),fun j hj=>by cases hj⟩
 exact hd.step hs (by simp) (by simp) (by simp) (by simp)
theorem Zn4 {Y : Zc} : R (n+9) WA [strv h] Y=some (iv (Yh h),Y):=Zm0 (n:=n+5)
theorem Zo0 (hd : ND X d r s c) : ∃ X',R (n+10) Y4 [pt d,strv k,strv h] X=some (iv (YW k h s.A),X')∧ND X' d r (Wm k h s) c∧ZK r.own X r.own X':=by
 obtain ⟨p,X2,e1,c1,k1,hp⟩:=ZeM (n:=n) (k:=k) hd
 have h2:=hd.hle k1
 have f1 : ∀ v X',Ky (R (n+9)) (pt d) (strv k) (strv h) X=some (v,X')→R (n+10) Y4 [pt d,strv k,strv h] X=some (v,X'):=fun v X' hr=>by rw [R,ZfO rfl];exact hr
 have hstep : ZK r.own X r.own X2:=k1.stepq
 by_cases he : YW k h s.A=0
 ·obtain ⟨a1,a2,a3,a4⟩:=ZjQ he
  have hN : Z0 k s.A=8:=by unfold Z0;rw [a1,a3];rfl
  rw [hN] at e1
  obtain ⟨X3,e3,m3,s3,_⟩:=h2.m.mup (k:=k) (v:=((h,false) : Acc))
  have e3 : mup .str (.map (some r.b)) (strv k) (K2 (h,false)) X2=_:=e3
  obtain ⟨d3,s4⟩:=h2.toND0.setA m3 s3
  have hn : Wm k h s={ s with A:=Qz k (h,false) s.A }:=by unfold Wm;rw [if_pos he]
  rw [he,hn]
  refine ⟨X3,f1 _ _ ?_,⟨d3,by rw [← hn];exact hd.inv.create k h⟩,hstep.trans s4⟩
  have q1 : bop .int .eql (iv 8) (.int .i64 10) X2=some (.bool false,X2):=by rw [ZH];rfl
  have q2 : bop .int .neq (iv (Yh h)) (.int .i64 0) X2=some (.bool false,X2):=by rw [Zn];unfold Yh;rw [a2];rfl
  have q3 : bop .int .eql (iv 8) (.int .i64 0) X2=some (.bool false,X2):=by rw [ZH];rfl
  have q4 : bop .int .geq (iv s.A.length) (.int .i64 12) X2=some (.bool false,X2):=by rw [Ql,decide_eq_false (by omega)]
  have zb : bld (.agg #[.string ⟨#[]⟩,.bool false]) [(0,1,strv h)] X2=some (K2 (h,false),X2):=by
   simp [bld,Wq,Value.cells,YS,strv,splice,K2]
  unfold Ky
  refine (e1 _).trans ?_
  rw [Za q1,Zb,if_neg (by simp),Za Zn4,Za q2,Zb,if_neg (by simp),Za q3,Zb,if_neg (by simp),Za Zw,Za Zk,Za h2.l0,Za h2.m.len,Za q4,Zb,if_neg (by simp),Za Zw,Za Zk,Za h2.l0,Za zb,Za e3]
  rfl
 ·have hn : Wm k h s=s:=by unfold Wm;rw [if_neg he]
  rw [hn]
  refine ⟨X2,f1 _ _ ?_,h2,hstep⟩
  unfold Ky
  refine (e1 _).trans ?_
  cases a1 : Zo k
  ·have hN : Z0 k s.A=10:=by unfold Z0;rw [a1];rfl
   have hE : YW k h s.A=10:=by unfold YW;rw [a1];rfl
   have q1 : bop .int .eql (iv 10) (.int .i64 10) X2=some (.bool true,X2):=by rw [ZH];rfl
   rw [hN,hE,Za q1,Zb,if_pos rfl]
   rfl
  ·have hN : Z0 k s.A=0∨Z0 k s.A=8:=by unfold Z0;rw [a1];cases (Ze k s.A).isSome <;> simp
   have q1 : bop .int .eql (iv (Z0 k s.A)) (.int .i64 10) X2=some (.bool false,X2):=by rw [ZH];rcases hN with h1 | h1 <;> rw [h1] <;> rfl
   rw [Za q1,Zb,if_neg (by simp),Za Zn4]
   cases a2 : Zaq h
   ·have hE : YW k h s.A=4:=by unfold YW;rw [a1,a2];rfl
    have q2 : bop .int .neq (iv (Yh h)) (.int .i64 0) X2=some (.bool true,X2):=by rw [Zn];unfold Yh;rw [a2];rfl
    rw [Za q2,Zb,if_pos rfl,hE]
    rfl
   ·have q2 : bop .int .neq (iv (Yh h)) (.int .i64 0) X2=some (.bool false,X2):=by rw [Zn];unfold Yh;rw [a2];rfl
    rw [Za q2,Zb,if_neg (by simp)]
    cases a3 : (Ze k s.A).isSome
    ·have hN : Z0 k s.A=8:=by unfold Z0;rw [a1,a3];rfl
     have q3 : bop .int .eql (iv (Z0 k s.A)) (.int .i64 0) X2=some (.bool false,X2):=by rw [ZH,hN];rfl
     have a4 : 12≤s.A.length:=by
      unfold YW at he
      rw [a1,a2,a3] at he
      simpa using he
     have hE : YW k h s.A=7:=by unfold YW;rw [a1,a2,a3];simp [a4]
     have q4 : bop .int .geq (iv s.A.length) (.int .i64 12) X2=some (.bool true,X2):=by rw [Ql,decide_eq_true (by omega)]
     rw [Za q3,Zb,if_neg (by simp),Za Zw,Za Zk,Za h2.l0,Za h2.m.len,Za q4,Zb,if_pos rfl,hE]
     rfl
    ·have hN : Z0 k s.A=0:=by unfold Z0;rw [a1,a3];rfl
     have hE : YW k h s.A=9:=by unfold YW;rw [a1,a2,a3];rfl
     have q3 : bop .int .eql (iv (Z0 k s.A)) (.int .i64 0) X2=some (.bool true,X2):=by rw [ZH,hN];rfl
     rw [Za q3,Zb,if_pos rfl,hE]
     rfl
theorem Znn (hd : ND X d r s c) : ∃ X',R (n+10) YO [pt d,strv k,strv m] X=some (iv (YE k m s),X')∧ND X' d r (YD k m s) c∧ZK r.own X r.own X':=by
 obtain ⟨p,X2,e1,c1,k1,hp⟩:=ZeM (n:=n) (k:=k) hd
 have f1 : ∀ v X',J8 (R (n+9)) (pt d) (strv k) (strv m) X=some (v,X')→R (n+10) YO [pt d,strv k,strv m] X=some (v,X'):=fun v X' hr=>by rw [R,Zfb rfl];exact hr
 obtain ⟨X3,e3,k3⟩:=ZiF (n:=n+1) (s:=m) (X:=X2)
 have e3 : R (n+9) Ko [strv m] X2=_:=e3
 have k13:=k1.trans k3
 have h3:=hd.hle k13
 have hstep : ZK r.own X r.own X3:=k13.stepq
 have hgate : ∀ K : Value→M Value,bind (bop .str .neq (strv m) (Value.string ⟨#[]⟩)) (fun v28=>bind (ZO v28 true 2 (bind (bop .int .neq (iv (if Q2 m then 0 else 11)) (Value.int .i64 0)) fun v31=>ret [iv (if Q2 m then 0 else 11),v31])) (c2 fun _ q=>bind (pick v28 q (Value.bool false)) K)) X3=K (.bool (decide (m≠[]∧Q2 m=false))) X3:=fun K=>by
  have q0 : bop .str .neq (strv m) (.string ⟨#[]⟩) X3=some (.bool (decide (m≠[])),X3):=by
   have:=ZaF (a:=m) (b:=[]) (H:=X3)
   rw [show (strv [] : Value)=.string ⟨#[]⟩ from rfl] at this
   rw [this]
   by_cases h : m=[] <;> simp [h]
  have q1 : bop .int .neq (iv (if Q2 m then 0 else 11)) (.int .i64 0) X3=some (.bool (!Q2 m),X3):=by
   rw [Zn];cases Q2 m <;> rfl
  rw [Za q0]
  by_cases h : m=[]
  ·rw [decide_eq_false (fun e=>e h),Za (g_r.trans (if_neg (by simp)))]
   simp only [List.replicate]
   rw [Z4,Za Zh,decide_eq_false (fun e=>e.1 h)]
   rfl
  ·rw [decide_eq_true h,ZQ,Zf,Za q1,Z5,Z4,Za Zh]
   cases hm : Q2 m <;> simp [h]
 cases a1 : Zo k
 ·have hN : Z0 k s.A=10:=by unfold Z0;rw [a1];rfl
  have hE : YE k m s=10:=by unfold YE;rw [a1];rfl
  have hn : YD k m s=s:=by unfold YD;rw [if_neg (by rw [hE];decide)]
  have q1 : bop .int .eql (iv 10) (.int .i64 10) X3=some (.bool true,X3):=by rw [ZH];rfl
  rw [hn,hE]
  refine ⟨X3,f1 _ _ ?_,h3,hstep⟩
  unfold J8
  refine (e1 _).trans ?_
  rw [Za e3,Za Zq,Za Zp,hN,Za q1,Zb,if_pos rfl]
  rfl
 ·have hN : Z0 k s.A=0∨Z0 k s.A=8:=by unfold Z0;rw [a1];cases (Ze k s.A).isSome <;> simp
  have q1 : bop .int .eql (iv (Z0 k s.A)) (.int .i64 10) X3=some (.bool false,X3):=by rw [ZH];rcases hN with h1 | h1 <;> rw [h1] <;> rfl
  by_cases hb : m≠[]∧Q2 m=false
  ·have hE : YE k m s=11:=by unfold YE;rw [a1];simp [hb]
   have hn : YD k m s=s:=by unfold YD;rw [if_neg (by rw [hE];decide)]
   rw [hn,hE]
   refine ⟨X3,f1 _ _ ?_,h3,hstep⟩
   unfold J8
   refine (e1 _).trans ?_
   rw [Za e3,Za Zq,Za Zp,Za q1,Zb,if_neg (by simp)]
   refine (hgate _).trans ?_
   rw [decide_eq_true hb,Zb,if_pos rfl,hb.2]
   rfl
  ·cases a3 : (Ze k s.A).isSome
   ·have hN : Z0 k s.A=8:=by unfold Z0;rw [a1,a3];rfl
    have hE : YE k m s=8:=by unfold YE;rw [a1,if_pos rfl,if_neg hb,a3];rfl
    have hn : YD k m s=s:=by unfold YD;rw [if_neg (by rw [hE];decide)]
    have q3 : bop .int .neq (iv (Z0 k s.A)) (.int .i64 0) X3=some (.bool true,X3):=by rw [Zn,hN];rfl
    rw [hn,hE]
    refine ⟨X3,f1 _ _ ?_,h3,hstep⟩
    unfold J8
    refine (e1 _).trans ?_
    rw [Za e3,Za Zq,Za Zp,Za q1,Zb,if_neg (by simp)]
    refine (hgate _).trans ?_
    rw [decide_eq_false hb,Zb,if_neg (by simp),Za q3,Zb,if_pos rfl,hN]
    rfl
   ·have hN : Z0 k s.A=0:=by unfold Z0;rw [a1,a3];rfl
    have hE : YE k m s=Kc k m s.OW:=by unfold YE;rw [a1,if_pos rfl,if_neg hb,a3];rfl
    have q3 : bop .int .neq (iv (Z0 k s.A)) (.int .i64 0) X3=some (.bool false,X3):=by rw [Zn,hN];rfl
    obtain ⟨X4,e4,i4,s4⟩:=ZoA (n:=n) (k:=k) (m:=m) h3.ix
    obtain ⟨d4,t4⟩:=h3.toND0.setI i4 s4
    have hn : YD k m s={ s with OW:=ZiY k m s.OW s.OF,OF:=Zbk k m s.OW s.OF }:=by
     unfold YD
     by_cases h0 : YE k m s=0
     ·rw [if_pos h0]
     ·rw [if_neg h0]
      rw [hE] at h0
      unfold ZiY Zbk
      rw [if_neg h0,if_neg h0]
    have hinv:=hd.inv.setMail k m
    rw [hn] at hinv ⊢
    rw [hE]
    refine ⟨X4,f1 _ _ ?_,⟨d4,hinv⟩,hstep.trans t4⟩
    unfold J8
    refine (e1 _).trans ?_
    rw [Za e3,Za Zq,Za Zp,Za q1,Zb,if_neg (by simp)]
    refine (hgate _).trans ?_
    rw [decide_eq_false hb,Zb,if_neg (by simp),Za q3,Zb,if_neg (by simp),Za Zw,Za Zk,Za h3.l1,Za e4]
    rfl
theorem Zo5 (hd : ND X d r s c) : ∃ X',R (n+10) YV [pt d,strv o,strv t] X=some (iv (Ku o t s.A),X')∧ND X' d r (Zaj o t s) c∧ZK r.own X r.own X':=by
 obtain ⟨p,X2,e1,c1,k1,hp⟩:=ZeM (n:=n) (k:=o) hd
 obtain ⟨p2,X3,e2,b2,k2,hp2⟩:=ZeM (n:=n) (k:=t) (hd.hle k1)
 have k12:=k1.trans k2
 have h3:=hd.hle k12
 have c13:=k2 _ _ c1
 have hstep : ZK r.own X r.own X3:=k12.stepq
 have f1 : ∀ v X',KH (R (n+9)) (pt d) (strv o) (strv t) X=some (v,X')→R (n+10) YV [pt d,strv o,strv t] X=some (v,X'):=fun v X' hr=>by rw [R,Zf9 rfl];exact hr
 have e10 : ∀ (k : Tx),(Z0 k s.A==10)=!Zo k:=fun k=>by
  unfold Z0
  cases Zo k
  ·rfl
  ·cases (Ze k s.A).isSome <;> rfl
 have q1 : bop .int .eql (iv (Z0 o s.A)) (.int .i64 10) X3=some (.bool (!Zo o),X3):=by rw [ZH,e10]
 have q2 : bop .int .eql (iv (Z0 t s.A)) (.int .i64 10) X3=some (.bool (!Zo t),X3):=by rw [ZH,e10]
 have hgate : ∀ K : Value→M Value,bind (bop .int .eql (iv (Z0 o s.A)) (.int .i64 10)) (fun v25=>bind (ZO v25 false 2 (bind (bop .int .eql (iv (Z0 t s.A)) (Value.int .i64 10)) fun v28=>ret [iv (Z0 t s.A),v28])) (c2 fun _ q=>bind (pick v25 (Value.bool true) q) K)) X3=K (.bool (!(Zo o && Zo t))) X3:=fun K=>by
  rw [Za q1]
  cases Zo o
  ·simp only [Bool.not_false]
   rw [Za (g_r.trans (if_neg (by simp)))]
   simp only [List.replicate]
   rw [Z4,Za Zh]
   rfl
  ·simp only [Bool.not_true]
   rw [ZQ,Zf,Za q2,Z5,Z4,Za Zh]
   cases Zo t <;> rfl
 by_cases he : Ku o t s.A=0
 ·obtain ⟨a1,a2,a3,a4,a5⟩:=ZjR he
  have hN1 : Z0 o s.A=0:=by unfold Z0;rw [a1,a3];rfl
  have hN2 : Z0 t s.A=8:=by unfold Z0;rw [a2,a4];rfl
  rw [a1] at c13
  have c13 : X3[p]?=some (.cells [strv (Zab o s.A).1,.bool (Zab o s.A).2] 1 false false):=c13
  have q3 : bop .int .neq (iv (Z0 o s.A)) (.int .i64 0) X3=some (.bool false,X3):=by rw [Zn,hN1];rfl
  have q4 : bop .int .eql (iv (Z0 t s.A)) (.int .i64 0) X3=some (.bool false,X3):=by rw [ZH,hN2];rfl
  obtain ⟨X4,e4,m4,s4,_⟩:=h3.m.mde (k:=o)
  obtain ⟨d4,t4⟩:=h3.toND0.setA m4 s4
  have d4' : ldA 2 (pt p) X4=some (K2 (Zab o s.A),X4):=by
   have c14 : X4[p]?=some (.cells [strv (Zab o s.A).1,.bool (Zab o s.A).2] 1 false false):=(h3.toND0.cle t4) _ _ _ _ _ c13
   exact WD (n:=2) c14 rfl
  obtain ⟨X5,e5,m5,s5,_⟩:=d4.m.mup (k:=t) (v:=Zab o s.A)
  obtain ⟨d5,t5⟩:=d4.setA m5 s5
  obtain ⟨X6,e6,i6,s6⟩:=Zrp (n:=n+3) (old:=o) (next:=t) d5.ix
  have e6 : R (n+9) YN [pt r.x,strv o,strv t] X5=_:=e6
  obtain ⟨d6,t6⟩:=d5.setI i6 s6
  obtain ⟨X7,e7,g7,s7⟩:=Zrz (n:=n+1) (s:=o) (t:=t) d6.gr
  have e7 : R (n+9) Ye [pt r.g,strv o,strv t] X6=_:=e7
  have hks : Z6 r.G=s.K:=hd.ks
  have hren : Zec o t (Z6 r.G) s.mem=0:=by
   unfold Zec
   rw [a2,if_pos rfl,if_neg a5]
   have : ofL t (Z6 r.G) s.mem=[]:=by
    unfold ofL
    rw [List.filter_eq_nil_iff]
    intro x hx
    rw [hd.inv.memN a4 x];simp
   rw [if_pos this]
  have g7 : Grp X7 r.g r.o2 r.G (if Zec o t (Z6 r.G) s.mem=0 then Zck o t s.mem else s.mem) c:=g7
  rw [if_pos hren] at g7
  obtain ⟨d7,t7⟩:=d6.setG g7 s7 hks
  have hn : Zaj o t s={ s with A:=Qz t (Zab o s.A) (YA o s.A),OW:=ZnL o t s.OW s.OF,OF:=Zfi o t s.OF,mem:=Zck o t s.mem }:=by unfold Zaj;rw [if_pos he]
  have hinv:=hd.inv.rename o t
  rw [hn] at hinv ⊢
  rw [he]
  refine ⟨X7,f1 _ _ ?_,⟨d7,hinv⟩,(((hstep.trans t4).trans t5).trans t6).trans t7⟩
  unfold KH
  refine (e1 _).trans ((e2 _).trans ((hgate _).trans ?_))
  rw [a1,a2]
  simp only [Bool.and_self,Bool.not_true]
  rw [Zb,if_neg (by simp),Za q3,Zb,if_neg (by simp),Za q4,Zb,if_neg (by simp),Za Zw,Za Zk,Za h3.l0,Za e4,Za Zw,Za Zk,Za d4.l0,Za d4',Za e5,Za Zw,Za Zk,Za d5.l1,Za e6,Za Zw,Za Zk,Za d6.l2,Za e7]
  rfl
 ·have hn : Zaj o t s=s:=by unfold Zaj;rw [if_neg he]
  rw [hn]
  refine ⟨X3,f1 _ _ ?_,h3,hstep⟩
  unfold KH
  refine (e1 _).trans ((e2 _).trans ((hgate _).trans ?_))
  cases ab : Zo o && Zo t
  ·have hE : Ku o t s.A=10:=by unfold Ku;rw [ab];rfl
   rw [Zb,if_pos (by rfl),hE]
   rfl
  ·have ab':=ab
   simp only [Bool.and_eq_true] at ab'
   rw [Zb,if_neg (by simp)]
   cases a3 : (Ze o s.A).isSome
   ·have hN1 : Z0 o s.A=8:=by unfold Z0;rw [ab'.1,a3];rfl
    have hE : Ku o t s.A=8:=by unfold Ku;rw [ab,a3];rfl
    have q3 : bop .int .neq (iv (Z0 o s.A)) (.int .i64 0) X3=some (.bool true,X3):=by rw [Zn,hN1];rfl
    rw [Za q3,Zb,if_pos rfl,hE,hN1]
    rfl
   ·have hN1 : Z0 o s.A=0:=by unfold Z0;rw [ab'.1,a3];rfl
    have q3 : bop .int .neq (iv (Z0 o s.A)) (.int .i64 0) X3=some (.bool false,X3):=by rw [Zn,hN1];rfl
    have a4 : (Ze t s.A).isSome=true:=by
     unfold Ku at he
     rw [ab,a3] at he
     cases h4 : (Ze t s.A).isSome
     ·rw [h4] at he;simp at he
     ·rfl
    have hN2 : Z0 t s.A=0:=by unfold Z0;rw [ab'.2,a4];rfl
    have hE : Ku o t s.A=9:=by unfold Ku;rw [ab,a3,a4];rfl
    have q4 : bop .int .eql (iv (Z0 t s.A)) (.int .i64 0) X3=some (.bool true,X3):=by rw [ZH,hN2];rfl
    rw [Za q3,Zb,if_neg (by simp),Za q4,Zb,if_pos rfl,hE]
    rfl
end
end Go.Proofs.YtnnehafmjfmbnaaGreatDoor.A

namespace Go.Proofs.YtnnehafmjfmbnaaGreatDoor.A
set_option linter.unusedVariables false
set_option linter.unusedSimpArgs false
open Go.Proofs Go.Proofs.YtnnehafmjfmbnaaGreatDoor
theorem HLe.setN {H0 X : Zc} (h : HLe H0 X) {b : Nat} {o : Zi} (hb : H0.length≤b) : HLe H0 (X.set b o):=fun i v hi=>by
 have:=Yv hi
 rw [List.getElem?_set_ne (by omega)];exact h i v hi
section
variable {X X' H0 : Zc} {n : Nat} {v : Value} {l : List Tx} {x s : Tx}
end
end Go.Proofs.YtnnehafmjfmbnaaGreatDoor.A
namespace Go.Proofs.YtnnehafmjfmbnaaGreatDoor.A
set_option linter.unusedVariables false
set_option linter.unusedSimpArgs false
open Go.Proofs Go.Proofs.YtnnehafmjfmbnaaGreatDoor
abbrev Pr:=Tx × Tx
def prG (u : Pr) : List Value:=[strv u.1,strv u.2]
structure RG (X : Zc) (nv mv : Value) (N : List Tx) (M : List Pr) : Prop where
 n : ∃ q,ZC X nv (N.map strv) q
 m : ∃ q,Y0 2 X mv (M.map prG) q
section
variable {X X' H0 : Zc} {n : Nat} {v nv mv z1 z2 z3 z4 : Value} {N l : List Tx} {M : List Pr} {x s t k m : Tx}
theorem RG.hle (h : RG X nv mv N M) (hl : HLe X X') : RG X' nv mv N M:=⟨h.n.elim fun q h=>⟨q,h.step hl.step (by simp)⟩,h.m.elim fun q h=>⟨q,h.step hl.step (by simp)⟩⟩
theorem RG.sn (h : RG X nv mv N M) : Sl X nv (N.map strv):=h.n.elim fun q h=>h.rd
theorem RG.sm (h : RG X nv mv N M) : SlN 2 X mv (M.map prG):=h.m.elim fun q h=>h.rd
theorem RG.one (h : RG X nv mv N M) : ([nv,mv].all oneCell)=true∧nv.cells=#[nv]∧mv.cells=#[mv]:=by
 obtain ⟨q,hn⟩:=h.n
 obtain ⟨q',hm⟩:=h.m
 exact ⟨by simp [hn.one.1,hm.one.1],hn.one.2,hm.one.2⟩
theorem RG.lenM (h : RG X nv mv N M) (Y : Zc) : Zx mv Y=some (iv M.length,Y):=by have:=h.sm.len (H':=Y);simpa using this
theorem RG.box (h : RG X nv mv N M) (Y : Zc) : alc 1 (.agg #[nv,mv]) Y=some (pt Y.length,Y++[.cells [nv,mv] 1 false false]):=Zgz (vs:=[nv,mv]) h.one.1
theorem fin {b1 b2 : Nat} {a1 a2 c1 c2 : Value} (h1 : X[b1]?=some (.cells [a1,a2] 1 false false)) (h2 : X[b2]?=some (.cells [c1,c2] 1 false false)) (hn : b1≠b2) (ho : ([a1,a2].all oneCell)=true) {β : Type} (K : Value→A.M β) :
  bind (ldA 2 (pt b1)) (fun v=>bind (stA 2 (pt b2) v) fun _=>bind (ldA 2 (pt b2)) K) X=K (.agg #[a1,a2]) (X.set b2 (.cells [a1,a2] 1 false false)):=by
 have e1 : ldA 2 (pt b1) X=some (.agg #[a1,a2],X):=WD h1 rfl
 have e2 : stA 2 (pt b2) (.agg #[a1,a2]) X=some (undef,X.set b2 (.cells [a1,a2] 1 false false)):=Zf5 (vs:=[a1,a2]) h2 rfl rfl ho
 have e3 : ldA 2 (pt b2) (X.set b2 (.cells [a1,a2] 1 false false))=some (.agg #[a1,a2],X.set b2 (.cells [a1,a2] 1 false false)):=WD (Jc h2) rfl
 rw [Za e1,Za e2,Za e3]
theorem ZC.setB {vs : List Value} {q : List Nat} {b : Nat} {o : Zi} (h : ZC X v vs q) (hb : b∉q) : ZC (X.set b o) v vs q:=h.keep fun j hj=>List.getElem?_set_ne fun e=>hb (by rw [e];exact hj)
theorem Y0.setB {es : Nat} {vs : List (List Value)} {q : List Nat} {b : Nat} {o : Zi} (h : Y0 es X v vs q) (hb : b∉q) : Y0 es (X.set b o) v vs q:=h.keep fun j hj=>List.getElem?_set_ne fun e=>hb (by rw [e];exact hj)
end
end Go.Proofs.YtnnehafmjfmbnaaGreatDoor.A
namespace Go.Proofs.YtnnehafmjfmbnaaGreatDoor.A
set_option linter.unusedVariables false
set_option linter.unusedSimpArgs false
open Go.Proofs Go.Proofs.YtnnehafmjfmbnaaGreatDoor
section
variable {X X' H0 : Zc} {n : Nat} {v nv mv z1 z2 z3 z4 : Value} {N l K : List Tx} {M : List Pr} {mem : Mem} {x s t k m : Tx}
end
end Go.Proofs.YtnnehafmjfmbnaaGreatDoor.A
namespace Go.Proofs.YtnnehafmjfmbnaaGreatDoor.A
set_option linter.unusedVariables false
set_option linter.unusedSimpArgs false
open Go.Proofs Go.Proofs.YtnnehafmjfmbnaaGreatDoor
section
variable {X X' H0 : Zc} {n : Nat} {v nv mv z1 z2 z3 z4 : Value} {N l K : List Tx} {M : List Pr} {mem : Mem} {x s t k m : Tx}
end
end Go.Proofs.YtnnehafmjfmbnaaGreatDoor.A

namespace Go.Proofs.YtnnehafmjfmbnaaGreatDoor.A
set_option linter.unusedVariables false
set_option linter.unusedSimpArgs false
open Go.Proofs Go.Proofs.YtnnehafmjfmbnaaGreatDoor
def ZcO (l : List Zm) : Prop:=l.Pairwise fun a b=>a.nm < b.nm
section
variable {x : Zm} {k s : List UInt8}
def Zai (u : Zm) : List Zm→Bool→List Zm
 | [],_=>[]
 | v :: l,done=>(if !done && decide (u.nm≤v.nm) then [u] else [])++((if v.nm≠u.nm then [v] else [])++Zai u l (done || decide (u.nm≤v.nm)))
def Ww (u : Zm) : List Zm→Bool→Bool
 | [],done=>done
 | v :: l,done=>Ww u l (done || decide (u.nm≤v.nm))
def ZdG (u : Zm) (l : List Zm) : List Zm:=Zai u l false++if Ww u l false then [] else [u]
theorem Zgp {u : Zm} : ∀ {l : List Zm},Zai u l true=l.filter fun v=>decide (v.nm≠u.nm)
 | []=>rfl
 | v :: l=>by
  unfold Zai
  rw [Bool.true_or,Zgp,List.filter_cons]
  by_cases h : v.nm=u.nm <;> simp [h]
theorem Ze1 {u : Zm} : ∀ {l : List Zm},Ww u l true=true
 | []=>rfl
 | v :: l=>by unfold Ww;rw [Bool.true_or,Ze1]
theorem ZfV {u v : Zm} {l : List Zm} : ZdG u (v :: l)=if u.nm≤v.nm then u :: (v :: l).filter (fun v=>decide (v.nm≠u.nm)) else v :: ZdG u l:=by
 have e1 : Zai u (v :: l) false=(if !false && decide (u.nm≤v.nm) then [u] else [])++((if v.nm≠u.nm then [v] else [])++Zai u l (false || decide (u.nm≤v.nm))):=rfl
 have e2 : Ww u (v :: l) false=Ww u l (false || decide (u.nm≤v.nm)):=rfl
 unfold ZdG
 rw [e1,e2]
 by_cases h : u.nm≤v.nm
 ·rw [if_pos h]
  simp only [h,decide_true,Bool.or_true,Zgp,Ze1,Bool.not_false,Bool.and_self,if_true,List.filter_cons]
  by_cases h2 : v.nm=u.nm <;> simp [h2]
 ·rw [if_neg h]
  have h2 : v.nm≠u.nm:=fun e=>h (by rw [e];exact List.le_refl _)
  simp [h,h2]
theorem Zdh {u : Zm} : ∀ {l : List Zm},x∈ZdG u l↔x=u∨(x∈l∧x.nm≠u.nm)
 | []=>by simp [ZdG,Zai,Ww]
 | v :: l=>by
  rw [ZfV]
  by_cases h : u.nm≤v.nm
  ·rw [if_pos h,List.mem_cons,List.mem_filter];simp
  ·have h2 : v.nm≠u.nm:=fun e=>h (by rw [e];exact List.le_refl _)
   rw [if_neg h,List.mem_cons,Zdh,List.mem_cons]
   constructor
   ·rintro (rfl | h | h)
    ·exact .inr ⟨.inl rfl,h2⟩
    ·exact .inl h
    ·exact .inr ⟨.inr h.1,h.2⟩
   ·rintro (h | ⟨h | h,h3⟩)
    ·exact .inr (.inl h)
    ·exact .inl h
    ·exact .inr (.inr ⟨h,h3⟩)
theorem ZjN {u : Zm} : ∀ {l : List Zm},ZcO l→ZcO (ZdG u l)
 | [],_=>by simp [ZdG,Zai,Ww,ZcO]
 | v :: l,hr=>by
  have hr2 : (∀ a∈l,v.nm < a.nm)∧ZcO l:=by simpa [ZcO] using hr
  rw [ZfV]
  by_cases h : u.nm≤v.nm
  ·rw [if_pos h]
   refine List.pairwise_cons.2 ⟨fun a ha=>?_,List.Pairwise.filter _ hr⟩
   obtain ⟨h1,h2⟩:=List.mem_filter.1 ha
   have h2 : a.nm≠u.nm:=by simpa using h2
   have h3 : u.nm≤a.nm:=by
    rcases List.mem_cons.1 h1 with rfl | h1
    ·exact h
    ·exact List.le_trans h (List.le_of_lt (hr2.1 a h1))
   rcases Zfj u.nm a.nm with h4 | h4 | h4
   ·exact h4
   ·exact absurd h4.symm h2
   ·exact absurd h4 h3
  ·rw [if_neg h]
   refine List.pairwise_cons.2 ⟨fun a ha=>?_,ZjN hr2.2⟩
   rcases Zdh.1 ha with rfl | ⟨h1,_⟩
   ·rcases Zfj v.nm a.nm with h4 | h4 | h4
    ·exact h4
    ·exact absurd (by rw [h4];exact List.le_refl _) h
    ·exact absurd (List.le_of_lt h4) h
   ·exact hr2.1 a h1
end
section
variable {H0 H X : Zc} {n d b : Nat} {ws : List Zm} {k s : List UInt8} {wv : Value}
theorem ZoC {u : Zm} (h : oneCell u.gv=true) : u.cells.all oneCell=true:=by simp only [Zm.cells,List.all_cons,h];rfl
theorem ZcW {β : Type} {k : Value→M β} {sl : Value} {us : List Zm} (h : SlN 5 H sl (us.map Zm.cells)) {j : Nat} {u : Zm} (ho : oneCell u.gv=true) (hj : us[j]?=some u) :
  bind (ixa 5 sl (iv j)) (fun p=>bind (ldA 5 p) fun v=>bind (alc 1 (.agg #[.string ⟨#[]⟩,.string ⟨#[]⟩,.string ⟨#[]⟩,.bool false,.slice none 0 0])) fun q=>bind (stA 5 q v) fun _=>k q) H=k (pt H.length) (H++[.cells u.cells 1 false false]):=by
 have hr : (us.map Zm.cells)[j]?=some u.cells:=by rw [List.getElem?_map,hj];rfl
 rw [h.fetch hr (by omega) .i64]
 exact ZcQ (n:=5) (zs:=[.string ⟨#[]⟩,.string ⟨#[]⟩,.string ⟨#[]⟩,.bool false,.slice none 0 0]) (r:=u.cells) rfl rfl rfl (ZoC ho)
theorem Zsh {a c : List UInt8} {H : Zc} : bop .str .leq (strv a) (strv c) H=some (.bool (decide (a≤c)),H):=by
 have h : (Op.bytesLess a c || a==c)=decide (a≤c):=by
  rw [bytesLess_eq,Bool.eq_iff_iff]
  simp only [Bool.or_eq_true,decide_eq_true_eq,beq_iff_eq]
  constructor
  ·rintro (h | h)
   ·exact List.le_of_lt h
   ·rw [h];exact List.le_refl _
  ·intro h
   rcases Zfj a c with h4 | h4 | h4
   ·exact .inl h4
   ·exact .inr h4
   ·exact absurd h4 h
 rw [← h]
 show (sop .leq (⟨a.toArray⟩ : ByteArray) (⟨c.toArray⟩ : ByteArray)).map (·,H)=_
 unfold sop
 rw [YP,YP]
 rfl
end
end Go.Proofs.YtnnehafmjfmbnaaGreatDoor.A
namespace Go.Proofs.YtnnehafmjfmbnaaGreatDoor.A
set_option linter.unusedVariables false
set_option linter.unusedSimpArgs false
open Go.Proofs Go.Proofs.YtnnehafmjfmbnaaGreatDoor
structure ZrW (s : NSt) : Prop where
 nod : s.K.Nodup
 out : ∀ k n,s.mem k n=true→k∈s.K
 few : s.K.length≤6
structure ROK (s : NSt) (us : List Zm) : Prop where
 rise : ZcO us
 look : ∀ key : ZfX,key∈us.map QA↔Yb s key.1=some key
section
variable {X : Zc} {d c : Nat} {r : NR} {s s' : NSt} {us ws : List Zm} {u : Zm} {k h m n o t g : Tx} {key : ZfX}
theorem ND0.kn (hd : ND0 X d r s c) : ZrW s:=⟨by rw [← hd.ks];exact hd.gr.mo.nod,fun k n hk=>by
 have:=hd.gr.out k n hk
 rw [ZeG,decide_eq_true_eq] at this
 rw [← hd.ks];exact this,by rw [← hd.ks,List.length_map];exact hd.gr.few⟩
theorem K4 : key∈us.map QA↔∃ u∈us,QA u=key:=List.mem_map
theorem ROK.put (h : ROK s us) (h1 : Yb s' u.nm=some (QA u)) (h2 : ∀ n,n≠u.nm→Yb s' n=Yb s n) : ROK s' (ZdG u us):=by
 refine ⟨ZjN h.rise,fun key=>?_⟩
 rw [K4]
 constructor
 ·rintro ⟨v,hv,rfl⟩
  rcases Zdh.1 hv with rfl | ⟨hv,hne⟩
  ·exact h1
  ·have:=(h.look (QA v)).1 (K4.2 ⟨v,hv,rfl⟩)
   rw [show (QA v).1=v.nm from rfl] at this ⊢
   rw [h2 _ hne];exact this
 ·intro hk
  by_cases e : key.1=u.nm
  ·rw [e,h1] at hk
   exact ⟨u,Zdh.2 (.inl rfl),Option.some.inj hk⟩
  ·rw [h2 _ e] at hk
   obtain ⟨v,hv,rfl⟩:=K4.1 ((h.look key).2 hk)
   exact ⟨v,Zdh.2 (.inr ⟨hv,e⟩),rfl⟩
theorem ROK.drop (h : ROK s us) (h1 : Yb s' k=none) (h2 : ∀ n,n≠k→Yb s' n=Yb s n) : ROK s' (us.filter fun v=>decide (v.nm≠k)):=by
 refine ⟨List.Pairwise.filter _ h.rise,fun key=>?_⟩
 rw [K4]
 constructor
 ·rintro ⟨v,hv,rfl⟩
  obtain ⟨hv,hne⟩:=List.mem_filter.1 hv
  have hne : v.nm≠k:=by simpa using hne
  have:=(h.look (QA v)).1 (K4.2 ⟨v,hv,rfl⟩)
  rw [show (QA v).1=v.nm from rfl] at this ⊢
  rw [h2 _ hne];exact this
 ·intro hk
  have e : key.1≠k:=fun e=>by rw [e,h1] at hk;cases hk
  rw [h2 _ e] at hk
  obtain ⟨v,hv,rfl⟩:=K4.1 ((h.look key).2 hk)
  exact ⟨v,List.mem_filter.2 ⟨hv,decide_eq_true e⟩,rfl⟩
theorem ROK.at (h : ROK s us) (hu : u∈us) : Yb s u.nm=some (QA u):=(h.look (QA u)).1 (K4.2 ⟨u,hu,rfl⟩)
theorem ZcO.nodup (h : ZcO us) : (us.map (·.nm)).Nodup:=by
 unfold ZcO at h
 rw [List.nodup_iff_pairwise_ne,List.pairwise_map]
 refine h.imp ?_
 intro a b hab e
 rw [e] at hab
 exact Zgg hab
theorem ROK.len (h : ROK s us) (hn : (Zag s).Nodup) : us.length=s.A.length:=by
 have hp : (us.map (·.nm)).Perm (Zag s):=(List.perm_ext_iff_of_nodup h.rise.nodup hn).2 fun x=>by
  rw [List.mem_map,List.mem_map]
  constructor
  ·rintro ⟨v,hv,rfl⟩
   have:=h.at hv
   unfold Yb at this
   cases ha : Ze v.nm s.A with
   | none=>rw [ha] at this;cases this
   | some p=>exact ⟨_,K6 ha,rfl⟩
  ·rintro ⟨p,hp,rfl⟩
   have ha : Ze p.1 s.A=some p.2:=Zax hn hp
   obtain ⟨v,hv,he⟩:=K4.1 ((h.look (Wv s p.1 p.2)).2 (by
    show Yb s p.1=_
    unfold Yb;rw [ha];rfl))
   exact ⟨v,hv,congrArg (·.1) he⟩
 have:=hp.length_eq
 simpa using this
theorem Zpl : ∀ {l l' : List ZfX},l.Pairwise (fun a b=>a.1 < b.1)→l'.Pairwise (fun a b=>a.1 < b.1)→(∀ x,x∈l↔x∈l')→l=l':=by
 intro l l' h h' hm
 have nd : ∀ {l : List ZfX},l.Pairwise (fun a b=>a.1 < b.1)→l.Nodup:=fun h=>by
  rw [List.nodup_iff_pairwise_ne]
  refine List.Pairwise.imp ?_ h
  rintro a b hab rfl
  exact List.lt_irrefl _ hab
 have hp : l.Perm l':=(List.perm_ext_iff_of_nodup (nd h) (nd h')).2 hm
 exact List.Perm.eq_of_pairwise (le:=fun a b=>a.1 < b.1) (fun a b _ _ h1 h2=>absurd h2 (List.lt_asymm h1)) h h' hp
theorem ZoI (hn : (Zag s).Nodup) : (ZhI s).Pairwise fun a b=>a.1 < b.1:=by
 unfold ZhI
 rw [List.pairwise_map]
 exact Zf6 hn
theorem Zpg (hn : (Zag s).Nodup) : key∈ZhI s↔Yb s key.1=some key:=by
 unfold ZhI
 rw [List.mem_map]
 constructor
 ·rintro ⟨k,hk,rfl⟩
  obtain ⟨p,hp,rfl⟩:=List.mem_map.1 (W3.1 hk)
  have ha : Ze p.1 s.A=some p.2:=Zax hn hp
  show Yb s p.1=_
  unfold Yb
  rw [ha];rfl
 ·intro hk
  unfold Yb at hk
  cases ha : Ze key.1 s.A with
  | none=>rw [ha] at hk;cases hk
  | some p=>
   rw [ha] at hk
   refine ⟨key.1,W3.2 (List.mem_map.2 ⟨_,K6 ha,rfl⟩),?_⟩
   rw [ha]
   exact Option.some.inj hk
theorem ROK.all (h : ROK s us) (hn : (Zag s).Nodup) : us.map QA=ZhI s:=by
 refine Zpl ?_ (ZoI hn) fun key=>(h.look key).trans (Zpg hn).symm
 rw [List.pairwise_map]
 exact h.rise
end
end Go.Proofs.YtnnehafmjfmbnaaGreatDoor.A
namespace Go.Proofs.YtnnehafmjfmbnaaGreatDoor.A
set_option linter.unusedVariables false
set_option linter.unusedSimpArgs false
open Go.Proofs Go.Proofs.YtnnehafmjfmbnaaGreatDoor
def UOK (X : Zc) (u : Zm) : Prop:=Sl X u.gv (u.gs.map strv)∧oneCell u.gv=true∧u.gs.length≤1000000
structure RD (X : Zc) (uv gv : Value) (s : NSt) : Prop where
 ex : ∃ us,QM X uv us∧ROK s us
 n : ∃ q N,ZC X gv (N.map strv) q∧Is N (·∈s.K)
structure ZkR (s : NSt) : Prop where
 i : JZ s
 k : ZrW s
 n : (Zag s).Nodup
 x : Inv s.OW s.OF
theorem ND.pinv {X : Zc} {d c : Nat} {r : NR} {s : NSt} (h : ND X d r s c) : ZkR s:=⟨h.inv,h.toND0.kn,h.m.nod,h.ix.inv⟩
section
variable {X X' Y H0 : Zc} {n : Nat} {uv gv v : Value} {us : List Zm} {s : NSt} {k h m o t g : Tx} {u w : Zm} {β : Type}
theorem UOK.hle (h : UOK X u) (hl : HLe X X') : UOK X' u:=⟨h.1.mono hl,h.2⟩
theorem QM.ok (h : QM X uv us) (hu : u∈us) : UOK X u:=h.2 u hu
theorem QM.one (h : QM X uv us) : oneCell uv=true:=h.1.one.1
theorem ZC.hle {vs : List Value} {q : List Nat} (h : ZC X v vs q) (hl : HLe X X') : ZC X' v vs q:=h.step hl.step (by simp)
theorem RD.hle (h : RD X uv gv s) (hl : HLe X X') : RD X' uv gv s:=⟨h.ex.imp fun us ⟨a,b⟩=>⟨a.mono hl,b⟩,h.n.imp fun q ⟨N,a,b⟩=>⟨N,a.hle hl,b⟩⟩
abbrev zD : Value:=.agg #[.slice none 0 0,.slice none 0 0]
theorem HLe.putB (h : HLe H0 X) {b : Nat} {o : Zi} (hb : H0.length≤b) : HLe H0 (X.set b o):=fun i v hi=>by
 have:=Yv hi
 rw [List.getElem?_set_ne (by omega)]
 exact h i v hi
end
end Go.Proofs.YtnnehafmjfmbnaaGreatDoor.A
namespace Go.Proofs.YtnnehafmjfmbnaaGreatDoor.A
set_option linter.unusedVariables false
set_option linter.unusedSimpArgs false
open Go.Proofs Go.Proofs.YtnnehafmjfmbnaaGreatDoor
section
variable {X X' Y H0 : Zc} {n : Nat} {uv gv v : Value} {us : List Zm} {s : NSt} {k h m o t g : Tx} {u w : Zm} {β : Type}
def Zdg (v : Value) : Prop:=∃ a n c,v=.slice a n c
theorem Zdg.one (h : Zdg v) : oneCell v=true:=by
 obtain ⟨a,n,c,rfl⟩:=h;rfl
theorem Zjf {x : Tx} (h : Zdg (strv x)) : False:=by
 obtain ⟨a,n,c,h⟩:=h
 cases h
theorem Sl.setD {l : List Tx} {b : Nat} {c1 c2 d1 d2 : Value} (h : Sl Y v (l.map strv)) (hb : Y[b]?=some (.cells [c1,c2] 1 false false)) (i1 : Zdg c1) (i2 : Zdg c2) : Sl (Y.set b (.cells [d1,d2] 1 false false)) v (l.map strv):=by
 by_cases ho : own1 v=some b
 ·obtain ⟨a,c,rfl,h0,hf⟩:=h
  unfold own1 at ho
  split at ho
  ·rename_i id o n x e
   cases e
   cases ho
   have hl : l=[]:=by
    unfold Qq at hf
    simp only [hb] at hf
    split at hf
    ·have hf:=Option.some.inj hf
     cases l with
     | nil=>rfl
     | cons y l=>
      have hm : strv y∈([c1,c2].drop o).take ((List.map strv (y :: l)).length * 1):=by rw [hf];simp
      have hm:=List.mem_of_mem_drop (List.mem_of_mem_take hm)
      simp only [List.mem_cons,List.not_mem_nil,or_false] at hm
      rcases hm with hm | hm
      ·rw [← hm] at i1;exact (Zjf i1).elim
      ·rw [← hm] at i2;exact (Zjf i2).elim
    ·cases hf
   subst hl
   refine ⟨_,c,rfl,(fun e=>by cases e),?_⟩
   unfold Qq at hf ⊢
   simp only [hb,Jc hb] at hf ⊢
   split at hf
   ·rename_i hle
    rw [if_pos (by simpa using hle)]
    simp
   ·cases hf
  ·cases ho
 ·exact h.keep fun id hid=>List.getElem?_set_ne (fun e=>ho (by rw [hid,e]))
theorem SlN.setD {rows : List (List Value)} {b : Nat} {c1 c2 d1 d2 : Value} (h : SlN 5 Y v rows) (hb : Y[b]?=some (.cells [c1,c2] 1 false false)) : SlN 5 (Y.set b (.cells [d1,d2] 1 false false)) v rows:=by
 by_cases ho : own1 v=some b
 ·obtain ⟨a,c,rfl,h0,hf,hr⟩:=h
  unfold own1 at ho
  split at ho
  ·rename_i id o n x e
   cases e
   cases ho
   unfold Qq at hf
   simp only [hb] at hf
   split at hf
   ·rename_i hle
    have hl : rows.length=0:=by
     simp only [List.length_cons,List.length_nil] at hle
     omega
    have hl : rows=[]:=List.eq_nil_of_length_eq_zero hl
    subst hl
    refine ⟨_,c,rfl,(fun e=>by cases e),?_,hr⟩
    unfold Qq
    simp only [Jc hb]
    rw [if_pos (by simpa using hle)]
    simp
   ·cases hf
  ·cases ho
 ·exact h.keep fun id hid=>List.getElem?_set_ne (fun e=>ho (by rw [hid,e]))
theorem QM.setD {b : Nat} {c1 c2 d1 d2 : Value} (h : QM Y v us) (hb : Y[b]?=some (.cells [c1,c2] 1 false false)) (i1 : Zdg c1) (i2 : Zdg c2) : QM (Y.set b (.cells [d1,d2] 1 false false)) v us:=
 ⟨h.1.setD hb,fun u hu=>⟨(h.2 u hu).1.setD hb i1 i2,(h.2 u hu).2⟩⟩
theorem ZC.setD {l : List Tx} {q : List Nat} {b : Nat} {c1 c2 d1 d2 : Value} (h : ZC Y v (l.map strv) q) (hb : Y[b]?=some (.cells [c1,c2] 1 false false)) (i1 : Zdg c1) (i2 : Zdg c2) : ZC (Y.set b (.cells [d1,d2] 1 false false)) v (l.map strv) q:=by
 rcases h with ⟨h1,rfl,rfl⟩ | ⟨sid,rest,gr,rfl,rfl,hid⟩
 ·exact .inl ⟨h1,rfl,rfl⟩
 ·by_cases e : b=sid
  ·subst e
   rw [hb] at hid
   injection hid with hid
   injection hid with hc h2 h3 h4
   cases l with
   | nil=>
    have hc : [c1,c2]=rest:=by simpa using hc
    subst hc
    exact .inr ⟨b,[d1,d2],gr,rfl,rfl,by rw [Jc hb,h3];rfl⟩
   | cons y l=>
    rw [List.map_cons,List.cons_append] at hc
    injection hc with hc _
    rw [hc] at i1
    exact (Zjf i1).elim
  ·exact .inr ⟨sid,rest,gr,rfl,rfl,(List.getElem?_set_ne e).trans hid⟩
theorem RD.back (hR : RD X uv gv s) {s' : NSt} (hl : HLe X X') (he : s'=s) : RD X' uv gv s':=by rw [he];exact hR.hle hl
theorem RD.users (hR : RD X uv gv s) {s' : NSt} {uv' : Value} {us' : List Zm} (hl : HLe X X') (hU : QM X' uv' us') (hO : ROK s' us') (hK : s'.K=s.K) : RD X' uv' gv s':=⟨⟨us',hU,hO⟩,by rw [hK];exact (hR.hle hl).n⟩
end
end Go.Proofs.YtnnehafmjfmbnaaGreatDoor.A
namespace Go.Proofs.YtnnehafmjfmbnaaGreatDoor.A
set_option linter.unusedVariables false
set_option linter.unusedSimpArgs false
open Go.Proofs Go.Proofs.YtnnehafmjfmbnaaGreatDoor
section
variable {X X' Y H0 : Zc} {n : Nat} {uv gv v : Value} {us : List Zm} {s : NSt} {k h m o t g x : Tx} {u w : Zm} {β : Type} {l : List Tx}
theorem ZkT (hl : l.length≤1000000) (hs : Sl X v (l.map strv)) : ∀ (t j : Nat),l.length - j=t→j≤l.length→
  Zj (c4 (Kn.l1 (R n))) [strv x,v,iv l.length,iv j] X=some (if x∈l.drop j then .ret (.bool true) else .ext 0 [],X)
 | 0,j,ht,hj=>by
  rw [List.drop_eq_nil_of_le (by omega)]
  refine ZD ?_
  rw [ZA,show j=l.length by omega]
  unfold Kn.l1
  rw [Za Zg,Zb,if_neg (by simp)]
  rfl
 | t+1,j,ht,hj=>by
  have hkl : j < l.length:=by omega
  have hlt : (j : Int) < l.length:=by omega
  have hg:=List.getElem?_eq_getElem hkl
  have hd:=List.drop_eq_getElem_cons hkl
  generalize l[j]=y at hg hd
  have x1:=hs.ix (i:=j) (by simpa using hkl) .i64 X
  have x2:=hs.ldx (Q3 hg)
  have x3 : bop .str .eql (strv y) (strv x) X=some (.bool (y==x),X):=Zb2
  rw [hd]
  by_cases hyx : y=x
  ·rw [if_pos (by simp [hyx])]
   refine ZU ?_
   rw [ZA]
   unfold Kn.l1
   rw [Za Zg,Zb,if_pos (by simpa using hlt),Za x1,Za x2,Za x3,Zb,if_pos (by simpa using hyx)]
   rfl
  ·have : (x∈y :: l.drop (j+1))↔x∈l.drop (j+1):=by simp [Ne.symm hyx]
   simp only [this]
   refine (Zv ?_).trans (ZkT hl hs t (j+1) (by omega) (by omega))
   rw [ZA]
   unfold Kn.l1
   rw [Za Zg,Zb,if_pos (by simpa using hlt),Za x1,Za x2,Za x3,Zb,if_neg (by simpa using hyx),Za Zs,Qb (by omega)]
   rfl
theorem ZqJ (hl : l.length≤1000000) (hs : Sl X v (l.map strv)) : R (n+1) ZcN [v,strv x] X=some (.bool (decide (x∈l)),X):=by
 have e:=ZkT (n:=n) (x:=x) hl hs l.length 0 (by omega) (by omega)
 rw [show iv ((0 : Nat) : Int)=.int .i64 0 from rfl,List.drop_zero] at e
 have hlen : Zx v X=some (iv l.length,X):=by have:=hs.len (H':=X);simpa using this
 rw [R,ZlM rfl]
 unfold Kn
 rw [Za hlen]
 by_cases h : x∈l
 ·rw [if_pos h] at e
  rw [Qr e,decide_eq_true h];rfl
 ·rw [if_neg h] at e
  rw [ZM e,Zu,decide_eq_false h];rfl
end
end Go.Proofs.YtnnehafmjfmbnaaGreatDoor.A
namespace Go.Proofs.YtnnehafmjfmbnaaGreatDoor.A
set_option linter.unusedVariables false
set_option linter.unusedSimpArgs false
open Go.Proofs Go.Proofs.YtnnehafmjfmbnaaGreatDoor
section
variable {X X' Y H0 : Zc} {n : Nat} {uv gv v : Value} {us : List Zm} {s s' : NSt} {k h m o t g x : Tx} {u w : Zm} {β : Type} {l : List Tx}
theorem ROK.gs (hO : ROK s us) (hP : ZkR s) (hu : u∈us) : u.gs=ofL u.nm s.K s.mem∧u.gs.length≤6:=by
 have hat:=hO.at hu
 unfold Yb at hat
 cases ha : Ze u.nm s.A with
 | none=>rw [ha] at hat;cases hat
 | some p=>
  rw [ha] at hat
  have h1 : u.gs=ofL u.nm s.K s.mem:=congrArg (·.2.2.2.2) (Option.some.inj hat).symm
  refine ⟨h1,?_⟩
  rw [h1]
  exact Nat.le_trans Zjx hP.k.few
end
end Go.Proofs.YtnnehafmjfmbnaaGreatDoor.A
namespace Go.Proofs.YtnnehafmjfmbnaaGreatDoor.A
set_option linter.unusedVariables false
set_option linter.unusedSimpArgs false
open Go.Proofs Go.Proofs.YtnnehafmjfmbnaaGreatDoor
section
variable {X X' Y H0 : Zc} {n : Nat} {uv gv v : Value} {us : List Zm} {s s' : NSt} {k h m o t g x : Tx} {u w : Zm} {β : Type} {l : List Tx}
end
end Go.Proofs.YtnnehafmjfmbnaaGreatDoor.A

namespace Go.Proofs.YtnnehafmjfmbnaaGreatDoor.A
set_option linter.unusedVariables false
set_option linter.unusedSimpArgs false
open Go.Proofs Go.Proofs.YtnnehafmjfmbnaaGreatDoor
def Zbl (m : Tx) : Bool:=m==[] || (Q2 m && ZT m==m)
def JG : List Tx→Bool
 | a :: b :: l=>decide (a < b) && JG (b :: l)
 | _=>true
def Zcv (gs : List Tx) : Int:=if 6 < gs.length then 7 else if gs.all Zo then (if JG gs then 0 else 9) else 10
def Yy (u : Zm) : Int:=if Zo u.nm then (if Zaq u.hs then (if Zbl u.ml then Zcv u.gs else 11) else 4) else 10
section
variable {X X' H H0 : Zc} {n p : Nat} {v sl : Value} {l gs : List Tx} {m : Tx} {u : Zm}
theorem Za2 {a b : Tx} : JG (a :: b :: l)=(decide (a < b) && JG (b :: l)):=rfl
theorem ZiK (hl : l.length≤1000000) (hs : Sl X v (l.map strv)) : ∀ (t j : Nat),l.length - j=t→j≤l.length→
  Zj (c4 (QU.l1 (R (n+5)))) [v,v,iv l.length,iv j] X=some (if (l.drop j).all Zo then .ext 0 [v] else .ret (iv 10),X)
 | 0,j,ht,hj=>by
  rw [List.drop_eq_nil_of_le (by omega)]
  refine ZD ?_
  rw [ZA,show j=l.length by omega]
  unfold QU.l1
  rw [Za Zg,Zb,if_neg (by simp)]
  rfl
 | t+1,j,ht,hj=>by
  have hkl : j < l.length:=by omega
  have hlt : (j : Int) < l.length:=by omega
  have hg:=List.getElem?_eq_getElem hkl
  have hd:=List.drop_eq_getElem_cons hkl
  generalize l[j]=y at hg hd
  have x1:=hs.ix (i:=j) (by simpa using hkl) .i64 X
  have x2:=hs.ldx (Q3 hg)
  have e1 : R (n+5) Q7 [strv y] X=some (iv (ZS y),X):=ZbO
  rw [hd,List.all_cons]
  cases hn : Zo y
  ·have he : ZS y=10:=by unfold ZS;rw [hn];rfl
   rw [he] at e1
   refine ZU ?_
   rw [ZA]
   unfold QU.l1
   rw [Za Zg,Zb,if_pos (by simpa using hlt),Za x1,Za x2,Za e1,Za Zn,Zb,if_pos (by simp)]
   rfl
  ·have he : ZS y=0:=Zce.2 hn
   rw [he] at e1
   rw [Bool.true_and]
   refine (Zv ?_).trans (ZiK hl hs t (j+1) (by omega) (by omega))
   rw [ZA]
   unfold QU.l1
   rw [Za Zg,Zb,if_pos (by simpa using hlt),Za x1,Za x2,Za e1,Za Zn,Zb,if_neg (by simp),Za Zs,Qb (by omega)]
   rfl
theorem ZjP (hl : l.length≤1000000) (hs : Sl X v (l.map strv)) : ∀ (t j : Nat),l.length - j=t→1≤j→(j≤l.length∨j=1)→
  Zj (c2 (QU.l2 (R n))) [v,iv j] X=some (if JG (l.drop (j - 1)) then .ext 2 [] else .ret (iv 9),X)
 | 0,j,ht,hj,hj2=>by
  have hr : JG (l.drop (j - 1))=true:=by
   have h1 : (l.drop (j - 1)).length≤1:=by rw [List.length_drop];omega
   match l.drop (j - 1),h1 with
   | [],_=>rfl
   | [a],_=>rfl
  have hlen : Zx v X=some (iv l.length,X):=by have:=hs.len (H':=X);simpa using this
  rw [hr]
  refine ZD ?_
  rw [Z4]
  unfold QU.l2
  rw [Za hlen,Za Zg,Zb,if_neg (by simp;omega)]
  rfl
 | t+1,j,ht,hj,hj2=>by
  have hkl : j < l.length:=by omega
  have hlt : (j : Int) < l.length:=by omega
  have hlen : Zx v X=some (iv l.length,X):=by have:=hs.len (H':=X);simpa using this
  have hk0 : j - 1 < l.length:=by omega
  have hg:=List.getElem?_eq_getElem hkl
  have hg0:=List.getElem?_eq_getElem hk0
  have hd:=List.drop_eq_getElem_cons hkl
  have hd0:=List.drop_eq_getElem_cons hk0
  rw [show j - 1+1=j by omega,hd] at hd0
  generalize l[j]=y at hg hd hd0
  generalize l[j - 1]=y0 at hg0 hd0
  have x1:=hs.ix (i:=j) (by simpa using hkl) .i64 X
  have x2:=hs.ldx (Q3 hg)
  have x3:=hs.ix (i:=j - 1) (by simpa using hk0) .i64 X
  have x4:=hs.ldx (Q3 hg0)
  have w0 : IntKind.i64.wrap ((j : Int) - 1)=((j - 1 : Nat) : Int):=by rw [w64 (by omega) (by omega)];omega
  have q1 : bop .str .geq (strv y0) (strv y) X=some (.bool (!decide (y0 < y)),X):=ZnF
  rw [hd0,Za2]
  by_cases hy : y0 < y
  ·rw [decide_eq_true hy] at q1 ⊢
   rw [Bool.true_and,← hd]
   have ih:=ZjP hl hs t (j+1) (by omega) (by omega) (by omega)
   rw [Nat.add_sub_cancel] at ih
   refine (Zv ?_).trans ih
   rw [Z4]
   unfold QU.l2
   rw [Za hlen,Za Zg,Zb,if_pos (by simpa using hlt),Za Qk,w0,Za x3,Za x4,Za x1,Za x2,Za q1,Zb,if_neg (by simp),Za Zs,Qb (by omega)]
   rfl
  ·rw [decide_eq_false hy] at q1 ⊢
   refine ZU ?_
   rw [Z4]
   unfold QU.l2
   rw [Za hlen,Za Zg,Zb,if_pos (by simpa using hlt),Za Qk,w0,Za x3,Za x4,Za x1,Za x2,Za q1,Zb,if_pos (by simp)]
   rfl
theorem Zlw (hl : l.length≤1000000) (hs : Sl X v (l.map strv)) : R (n+6) WX [v] X=some (iv (Zcv l),X):=by
 have hlen : Zx v X=some (iv l.length,X):=by have:=hs.len (H':=X);simpa using this
 have e1:=ZiK (n:=n) hl hs l.length 0 (by omega) (by omega)
 have e2:=ZjP (n:=n+5) hl hs (l.length - 1) 1 rfl (Nat.le_refl _) (.inr rfl)
 rw [show iv ((0 : Nat) : Int)=.int .i64 0 from rfl,List.drop_zero] at e1
 rw [show iv ((1 : Nat) : Int)=.int .i64 1 from rfl,Nat.sub_self,List.drop_zero] at e2
 rw [R,Zi0 rfl]
 unfold QU Zcv
 rw [Za hlen]
 by_cases h6 : 6 < l.length
 ·rw [Za ZR,Zb,if_pos (by simp;omega),if_pos h6];rfl
 ·rw [Za ZR,Zb,if_neg (by simp;omega),if_neg h6,Za hlen]
  cases ha : l.all Zo
  ·rw [ha] at e1
   rw [Qr e1];rfl
  ·rw [ha] at e1
   rw [ZM e1,Zu,JY]
   cases hr : JG l
   ·rw [hr] at e2
    rw [Qr e2];rfl
   ·rw [hr] at e2
    rw [ZM e2,Zu];rfl
theorem ZnP : ∃ X',R (n+9) Zbb [strv m] X=some (iv (if Zbl m then 0 else 11),X')∧HLe X X':=by
 have f1 : ∀ r X',Zbx (R (n+8)) (strv m) X=some (r,X')→R (n+9) Zbb [strv m] X=some (r,X'):=fun r X' hr=>by rw [R,Zk6 rfl];exact hr
 have q1 : bop .str .eql (strv m) (.string ⟨#[]⟩) X=some (.bool (m==[]),X):=Zb2 (b:=[])
 unfold Zbl
 by_cases hm : m=[]
 ·refine ⟨X,f1 _ _ ?_,.refl _⟩
  unfold Zbx
  rw [Za q1,Zb,if_pos (by simpa using hm)]
  simp [hm,ret]
 ·have hmb : (m==[])=false:=by simpa using hm
  obtain ⟨X1,e1,k1⟩:=ZiF (n:=n) (s:=m) (X:=X)
  refine ⟨X1,f1 _ _ ?_,k1⟩
  unfold Zbx
  rw [hmb] at q1 ⊢
  rw [Za q1,Zb,if_neg (by simp),Za e1,Za Zq,Za Zp]
  cases hb : Q2 m
  ·have q2 : bop .int .neq (iv 11) (.int .i64 0) X1=some (.bool true,X1):=by rw [Zn];rfl
   simp only [Bool.false_eq_true,if_false,Bool.false_and,Bool.or_false]
   rw [Za q2,Za (g_r.trans (if_neg (by simp)))]
   simp only [List.replicate]
   rw [ZN,Za Zh]
   simp only [cond_true]
   rw [Zb,if_pos rfl]
   rfl
  ·have q2 : bop .int .neq (iv 0) (.int .i64 0) X1=some (.bool false,X1):=by rw [Zn];rfl
   have q3 : bop .str .neq (strv (ZT m)) (strv m) X1=some (.bool (!(ZT m==m)),X1):=ZaF
   simp only [if_true,Bool.true_and,Bool.false_or]
   rw [Za q2,ZQ,Zf,Za q3,Z5,ZN,Za Zh]
   simp only [cond_false]
   cases hf : ZT m==m
   ·rw [Zb,if_pos (by rfl)];rfl
   ·rw [Zb,if_neg (by simp)];rfl
theorem UOK.cells1 (h : UOK X u) : alc 1 (.agg u.cells.toArray) X=some (pt X.length,X++[.cells u.cells 1 false false]):=Zli h.2.1
theorem Zll (h : UOK X u) : ∃ X',R (n+10) ZaB [iv 2,.agg u.cells.toArray] X=some (iv (Yy u),X')∧HLe X X':=by
 have e1:=h.cells1
 have k1 : HLe X (X++[.cells u.cells 1 false false]):=.app _ _
 have c1 : (X++[Zi.cells u.cells 1 false false])[X.length]?=some (.cells u.cells 1 false false):=ZZ
 generalize X++[Zi.cells u.cells 1 false false]=X1 at e1 k1 c1
 generalize X.length=p at e1 c1
 have a0 : ∀ Y,HLe X1 Y→∀ f x,u.cells[f]?=some x→ld1 (pa p f) Y=some (x,Y):=fun Y hl f x h=>Q0 (hl _ _ c1) h
 have e2 : R (n+9) Q7 [strv u.nm] X1=some (iv (ZS u.nm),X1):=ZbO (n:=n+4)
 have e3 : R (n+9) WA [strv u.hs] X1=some (iv (Yh u.hs),X1):=Zm0 (n:=n+5)
 have b2:=Zqo (a:=ZS u.nm) (c:=Yh u.hs) X1
 have k2 : HLe X1 (X1++[Zi.cells [iv (ZS u.nm),iv (Yh u.hs)] 1 false false]):=.app _ _
 have s2 : Sl (X1++[Zi.cells [iv (ZS u.nm),iv (Yh u.hs)] 1 false false]) (.slice (some ⟨X1.length,0,none⟩) 2 2) [iv (ZS u.nm),iv (Yh u.hs)]:=Sl.one (vs:=[iv (ZS u.nm),iv (Yh u.hs)]) (es:=1) (g:=false) (ro:=false) ZZ
 generalize X1++[Zi.cells [iv (ZS u.nm),iv (Yh u.hs)] 1 false false]=X2 at b2 k2 s2
 generalize X1.length=p2 at b2 s2
 have e4 : R (n+9) K0 [.slice (some ⟨p2,0,none⟩) 2 2] X2=_:=ZmY (n:=n+8) s2
 have q1 : bop .int .neq (iv 2) (.int .i64 1) X1=some (.bool true,X1):=by rw [Zn];rfl
 have q2 : bop .int .neq (iv 2) (.int .i64 2) X1=some (.bool false,X1):=by rw [Zn];rfl
 have q3 : bop .int .eql (iv 2) (.int .i64 2) X2=some (.bool true,X2):=by rw [ZH];rfl
 have f1 : ∀ r X',WI (R (n+9)) (iv 2) (.agg u.cells.toArray) X=some (r,X')→R (n+10) ZaB [iv 2,.agg u.cells.toArray] X=some (r,X'):=fun r X' hr=>by rw [R,Zkv rfl];exact hr
 have hpre : ∀ K : Value→M Value,bind (alc 1 (.agg u.cells.toArray)) (fun v3=>bind (bop .int .neq (iv 2) (.int .i64 1)) fun v7=>bind (ZO v7 true 2 (bind (bop .int .neq (iv 2) (.int .i64 2)) fun v10=>ret [iv 2,v10])) (c2 fun _ q=>bind (pick v7 q (.bool false)) fun v11=>cnd v11 (ret (.int .i64 6)) (K v3))) X=K (pt p) X1:=fun K=>by
  rw [Za e1,Za q1,ZQ,Zf,Za q2,Z5,Z4,Za Zh]
  simp only [cond_true]
  rw [Zb,if_neg (by simp)]
 unfold Yy
 cases hn : Zo u.nm
 ·have h0 : ZS u.nm=10:=by unfold ZS;rw [hn];rfl
  refine ⟨X2,f1 _ _ ?_,k1.trans k2⟩
  unfold WI
  refine (hpre _).trans ?_
  rw [Za Zk,Za (a0 _ (.refl _) 0 _ rfl),Za Zk,Za (a0 _ (.refl _) 1 _ rfl),Za e2,Za (a0 _ (.refl _) 1 _ rfl),Yc,Za e3,Za b2,Za e4,h0,Za Zn,Zb,if_pos (by simp)]
  rfl
 ·have h0 : ZS u.nm=0:=Zce.2 hn
  cases hs : Zaq u.hs
  ·have h1 : Yh u.hs=4:=by unfold Yh;rw [hs];rfl
   refine ⟨X2,f1 _ _ ?_,k1.trans k2⟩
   unfold WI
   refine (hpre _).trans ?_
   rw [Za Zk,Za (a0 _ (.refl _) 0 _ rfl),Za Zk,Za (a0 _ (.refl _) 1 _ rfl),Za e2,Za (a0 _ (.refl _) 1 _ rfl),Yc,Za e3,Za b2,Za e4,h0,h1,Za Zn,Zb,if_pos (by simp)]
   rfl
  ·have h1 : Yh u.hs=0:=Zpx.2 hs
   have k12:=k1.trans k2
   have s4:=(h.hle k12).1
   have hl6:=h.2.2
   obtain ⟨X3,e5,k3⟩:=ZnP (n:=n) (m:=u.ml) (X:=X2)
   have e6 : R (n+9) WX [u.gv] X3=_:=Zlw (n:=n+3) hl6 (s4.mono k3)
   have b7:=Zqo (a:=if Zbl u.ml then 0 else 11) (c:=Zcv u.gs) X3
   have k7 : HLe X3 (X3++[Zi.cells [iv (if Zbl u.ml then 0 else 11),iv (Zcv u.gs)] 1 false false]):=.app _ _
   have s7 : Sl (X3++[Zi.cells [iv (if Zbl u.ml then 0 else 11),iv (Zcv u.gs)] 1 false false]) (.slice (some ⟨X3.length,0,none⟩) 2 2) [iv (if Zbl u.ml then 0 else 11),iv (Zcv u.gs)]:=Sl.one (vs:=[iv (if Zbl u.ml then 0 else 11),iv (Zcv u.gs)]) (es:=1) (g:=false) (ro:=false) ZZ
   generalize X3++[Zi.cells [iv (if Zbl u.ml then 0 else 11),iv (Zcv u.gs)] 1 false false]=X7 at b7 k7 s7
   generalize X3.length=p7 at b7 s7
   have e8 : R (n+9) K0 [.slice (some ⟨p7,0,none⟩) 2 2] X7=_:=ZmY (n:=n+8) s7
   refine ⟨X7,f1 _ _ ?_,(k12.trans k3).trans k7⟩
   unfold WI
   refine (hpre _).trans ?_
   rw [Za Zk,Za (a0 _ (.refl _) 0 _ rfl),Za Zk,Za (a0 _ (.refl _) 1 _ rfl),Za e2,Za (a0 _ (.refl _) 1 _ rfl),Yc,Za e3,Za b2,Za e4,h0,h1,Za Zn,Zb,if_neg (by simp),Za q3,Zb,if_pos rfl,Za Zk,Za (a0 _ k2 2 _ rfl),Za Zk,Za (a0 _ k2 4 _ rfl),Za e5,Za (a0 _ (k2.trans k3) 4 _ rfl),Yc,Za e6,Za b7,Za e8]
   cases hm : Zbl u.ml <;> simp [ret]
theorem ZoT (hl : l.length≤1000000) (hs : Sl X v (l.map strv)) : ∀ (t j : Nat),l.length - j=t→j≤l.length→
  Zj (c4 (Qm.l1 (R (n+3)))) [pt p,v,iv l.length,iv j] X=some (if (l.drop j).all Zo then .ext 0 [pt p] else .ret (iv 10),X)
 | 0,j,ht,hj=>by
  rw [List.drop_eq_nil_of_le (by omega)]
  refine ZD ?_
  rw [ZA,show j=l.length by omega]
  unfold Qm.l1
  rw [Za Zg,Zb,if_neg (by simp)]
  rfl
 | t+1,j,ht,hj=>by
  have hkl : j < l.length:=by omega
  have hlt : (j : Int) < l.length:=by omega
  have hg:=List.getElem?_eq_getElem hkl
  have hd:=List.drop_eq_getElem_cons hkl
  generalize l[j]=y at hg hd
  have x1:=hs.ix (i:=j) (by simpa using hkl) .i64 X
  have x2:=hs.ldx (Q3 hg)
  have e1 : R (n+3) Yg [strv y] X=some (.bool (Zo y),X):=ZcJ
  rw [hd,List.all_cons]
  cases hn : Zo y
  ·rw [hn] at e1
   refine ZU ?_
   rw [ZA]
   unfold Qm.l1
   rw [Za Zg,Zb,if_pos (by simpa using hlt),Za x1,Za x2,Za e1,Za ZE,Zb,if_pos (by rfl)]
   rfl
  ·rw [hn] at e1
   rw [Bool.true_and]
   refine (Zv ?_).trans (ZoT hl hs t (j+1) (by omega) (by omega))
   rw [ZA]
   unfold Qm.l1
   rw [Za Zg,Zb,if_pos (by simpa using hlt),Za x1,Za x2,Za e1,Za ZE,Zb,if_neg (by simp),Za Zs,Qb (by omega)]
   rfl
theorem Zsq {a c : Tx} {H : Zc} : bop .str .leq (strv a) (strv c) H=some (.bool (!decide (c < a)),H):=by
 rw [Zsh]
 congr 3
 rw [Bool.eq_iff_iff]
 simp [List.not_lt]
def Ja (l : List Tx) (j : Nat) : Bool:=if j=0 then JG l else JG (l.drop (j - 1))
theorem ZoP {gv : Value} (hl : u.gs.length≤1000000) (hs : Sl X u.gv (u.gs.map strv)) (c1 : X[p]?=some (.cells u.cells 1 false false)) : ∀ (t j : Nat),u.gs.length - j=t→j≤u.gs.length→
  Zj (c4 (Qm.l2 (R n))) [pt p,u.gv,iv u.gs.length,iv j] X=some (if Ja u.gs j then .ext 2 [] else .ret (iv 9),X)
 | 0,j,ht,hj=>by
  have hr : Ja u.gs j=true:=by
   unfold Ja
   by_cases h0 : j=0
   ·rw [if_pos h0]
    have : u.gs=[]:=List.eq_nil_of_length_eq_zero (by omega)
    rw [this];rfl
   ·rw [if_neg h0]
    have h1 : (u.gs.drop (j - 1)).length≤1:=by rw [List.length_drop];omega
    match u.gs.drop (j - 1),h1 with
    | [],_=>rfl
    | [a],_=>rfl
  rw [hr]
  refine ZD ?_
  rw [ZA,show j=u.gs.length by omega]
  unfold Qm.l2
  rw [Za Zg,Zb,if_neg (by simp)]
  rfl
 | t+1,j,ht,hj=>by
  have hkl : j < u.gs.length:=by omega
  have hlt : (j : Int) < u.gs.length:=by omega
  have hg:=List.getElem?_eq_getElem hkl
  have hd:=List.drop_eq_getElem_cons hkl
  have x1:=hs.ix (i:=j) (by simpa using hkl) .i64 X
  have x2:=hs.ldx (Q3 hg)
  have ih:=ZoP (gv:=gv) hl hs c1 t (j+1) (by omega) (by omega)
  by_cases h0 : j=0
  ·subst h0
   have q0 : bop .int .gtr (iv ((0 : Nat) : Int)) (.int .i64 0) X=some (.bool false,X):=by rw [ZR];rfl
   have hr : Ja u.gs 0=Ja u.gs (0+1):=by unfold Ja;simp
   rw [hr]
   refine (Zv ?_).trans ih
   rw [ZA]
   unfold Qm.l2
   rw [Za Zg,Zb,if_pos (by simpa using hlt),Za x1,Za x2,Za q0,Za (g_r.trans (if_neg (by simp)))]
   simp only [List.replicate]
   rw [J2,Za Zh]
   simp only [cond_false]
   rw [Zb,if_neg (by simp),Za Zs,Qb (by omega)]
   rfl
  ·have hk0 : j - 1 < u.gs.length:=by omega
   have hg0:=List.getElem?_eq_getElem hk0
   have hd0:=List.drop_eq_getElem_cons hk0
   rw [show j - 1+1=j by omega,hd] at hd0
   have hr1 : Ja u.gs (j+1)=JG (u.gs.drop j):=by unfold Ja;simp
   have hr0 : Ja u.gs j=JG (u.gs.drop (j - 1)):=by unfold Ja;rw [if_neg h0]
   rw [hr1,hd] at ih
   rw [hr0,hd0,Za2]
   generalize u.gs[j]=y at x1 x2 hg hd hd0 ih
   generalize u.gs[j - 1]=y0 at hg0 hd0
   have x3:=hs.ix (i:=j - 1) (by simpa using hk0) .i64 X
   have x4:=hs.ldx (Q3 hg0)
   have w0 : IntKind.i64.wrap ((j : Int) - 1)=((j - 1 : Nat) : Int):=by rw [w64 (by omega) (by omega)];omega
   have q0 : bop .int .gtr (iv j) (.int .i64 0) X=some (.bool true,X):=by rw [ZR,decide_eq_true (by omega)]
   have q1 : bop .str .leq (strv y) (strv y0) X=some (.bool (!decide (y0 < y)),X):=Zsq
   have a4 : ld1 (pa p 4) X=some (u.gv,X):=Q0 c1 rfl
   by_cases hy : y0 < y
   ·rw [decide_eq_true hy] at q1 ⊢
    rw [Bool.true_and]
    refine (Zv ?_).trans ih
    rw [ZA]
    unfold Qm.l2
    rw [Za Zg,Zb,if_pos (by simpa using hlt),Za x1,Za x2,Za q0,ZQ,Zf,Za Zk,Zf,Za a4,Zf,Za Qk,w0,Zf,Za x3,Zf,Za x4,Zf,Za q1,Z5,J2,Za Zh]
    simp only [cond_true,Bool.not_true]
    rw [Zb,if_neg (by simp),Za Zs,Qb (by omega)]
    rfl
   ·rw [decide_eq_false hy] at q1 ⊢
    refine ZU ?_
    rw [ZA]
    unfold Qm.l2
    rw [Za Zg,Zb,if_pos (by simpa using hlt),Za x1,Za x2,Za q0,ZQ,Zf,Za Zk,Zf,Za a4,Zf,Za Qk,w0,Zf,Za x3,Zf,Za x4,Zf,Za q1,Z5,J2,Za Zh]
    simp only [cond_true,Bool.not_false]
    rw [Zb,if_pos rfl]
    rfl
theorem Zml (h : UOK X u) : ∃ X',R (n+5) Zbg [iv 2,.agg u.cells.toArray] X=some (iv (Yy u),X')∧HLe X X':=by
 have e1:=h.cells1
 have k1 : HLe X (X++[.cells u.cells 1 false false]):=.app _ _
 have cc : (X++[Zi.cells u.cells 1 false false])[X.length]?=some (.cells u.cells 1 false false):=ZZ
 generalize X++[Zi.cells u.cells 1 false false]=X1 at e1 k1 cc
 generalize X.length=p at e1 cc
 have a0 : ∀ f x,u.cells[f]?=some x→ld1 (pa p f) X1=some (x,X1):=fun f x h=>Q0 cc h
 have e2 : R (n+4) Yg [strv u.nm] X1=some (.bool (Zo u.nm),X1):=ZcJ
 have e3 : R (n+4) ZaE [strv u.hs] X1=some (.bool (Zaq u.hs),X1):=Znx
 have e4 : R (n+4) K3 [strv u.ml] X1=_:=Zok (n:=n)
 have hu:=h.hle k1
 have hlen : Zx u.gv X1=some (iv u.gs.length,X1):=by have:=hu.1.len (H':=X1);simpa using this
 have q1 : bop .int .lss (iv 2) (.int .i64 1) X1=some (.bool false,X1):=by rw [Zg];rfl
 have q3 : bop .int .gtr (iv 2) (.int .i64 2) X1=some (.bool false,X1):=by rw [ZR];rfl
 have q2 : bop .int .eql (iv 2) (.int .i64 1) X1=some (.bool false,X1):=by rw [ZH];rfl
 have q5 : bop .str .neq (strv u.ml) (.string ⟨#[]⟩) X1=some (.bool (!(u.ml==[])),X1):=ZaF (b:=[])
 have q6 : bop .str .neq (strv (ZT u.ml)) (strv u.ml) X1=some (.bool (!(ZT u.ml==u.ml)),X1):=ZaF
 have l1:=ZoT (n:=n+1) (p:=p) h.2.2 hu.1 u.gs.length 0 (by omega) (by omega)
 have l2:=ZoP (n:=n+4) (gv:=u.gv) h.2.2 hu.1 cc u.gs.length 0 (by omega) (by omega)
 rw [show iv ((0 : Nat) : Int)=.int .i64 0 from rfl,List.drop_zero] at l1
 rw [show iv ((0 : Nat) : Int)=.int .i64 0 from rfl,show Ja u.gs 0=JG u.gs from by unfold Ja;simp] at l2
 have hgr : (c1 fun q42_0=>
   bind (fa 4 q42_0) fun v57x43=>bind (ld1 v57x43) fun v58x44=>bind (Zx v58x44) fun v59x45=>bind (bop .int .gtr v59x45 (Value.int .i64 6)) fun v60x46=>
   cnd v60x46 (ret (Value.int .i64 7))
   (bind (fa 4 q42_0) fun v61x47=>bind (ld1 v61x47) fun v62x48=>bind (Zx v62x48) fun v63x49=>
   jn (Zj (c4 (Qm.l1 (R (n+4)))) [q42_0,v62x48,v63x49,(Value.int .i64 0)]) noN (xk 0 (c1 fun q57_0=>
   bind (fa 4 q57_0) fun v72x58=>bind (ld1 v72x58) fun v73x59=>bind (Zx v73x59) fun v74x60=>
   jn (Zj (c4 (Qm.l2 (R (n+4)))) [q57_0,v73x59,v74x60,(Value.int .i64 0)]) noN (xk 2 (c0 (ret (Value.int .i64 0))) noX) ret) noX) ret)) [pt p] X1=some (iv (Zcv u.gs),X1):=by
  unfold Zcv
  rw [JY,Za Zk,Za (a0 4 _ rfl),Za hlen]
  by_cases h6 : 6 < u.gs.length
  ·rw [Za ZR,Zb,if_pos (by simp;omega),if_pos h6];rfl
  ·rw [Za ZR,Zb,if_neg (by simp;omega),if_neg h6,Za Zk,Za (a0 4 _ rfl),Za hlen]
   cases ha : u.gs.all Zo
   ·rw [ha] at l1
    rw [Qr l1];rfl
   ·rw [ha] at l1
    rw [ZM l1,Zu,JY,Za Zk,Za (a0 4 _ rfl),Za hlen]
    cases hr : JG u.gs
    ·rw [hr] at l2
     rw [Qr l2];rfl
    ·rw [hr] at l2
     rw [ZM l2,Zu];rfl
 refine ⟨X1,?_,k1⟩
 rw [R,Zjr rfl]
 unfold Qm Yy
 rw [Za e1,Za q1,ZQ,Zf,Za q3,Z5,Z4,Za Zh]
 simp only [cond_false]
 rw [Zb,if_neg (by simp),Za Zk,Za (a0 0 _ rfl),Za e2,Za ZE]
 cases hn : Zo u.nm
 ·rw [Zb,if_pos (by rfl)];rfl
 rw [Zb,if_neg (by simp),Za Zk,Za (a0 1 _ rfl),Za e3,Za ZE]
 cases hs : Zaq u.hs
 ·rw [Zb,if_pos (by rfl)];rfl
 rw [Zb,if_neg (by simp),Za q2,Zb,if_neg (by simp),Za Zk,Za (a0 2 _ rfl),Za q5]
 simp only [if_true]
 unfold Zbl
 by_cases hm : u.ml=[]
 ·have hmb : (u.ml==[])=true:=by simpa using hm
  rw [hmb]
  refine (Ka (vs:=[pt p]) (H':=X1) ?_).trans ?_
  ·rw [Zb,if_neg (by simp)];rfl
  ·exact hgr
 ·have hmb : (u.ml==[])=false:=by simpa using hm
  rw [hmb]
  cases hb : Q2 u.ml
  ·rw [hb] at e4
   rw [if_neg (by simp)]
   refine Qr ?_
   rw [Zb,if_pos (by rfl),Za Zk,Za (a0 2 _ rfl),Za e4,Za Zq,Za Zp,Za ZE]
   simp only [Bool.not_false]
   rw [Za (g_r.trans (if_neg (by simp)))]
   simp only [List.replicate]
   rw [ZA,Za Zh]
   simp only [cond_true]
   rw [Zb,if_pos rfl]
   rfl
  ·rw [hb] at e4
   have e4 : R (n+4) K3 [strv u.ml] X1=some (.tuple #[strv (ZT u.ml),.bool true],X1):=e4
   cases hf : ZT u.ml==u.ml
   ·rw [hf] at q6
    rw [if_neg (by simp)]
    refine Qr ?_
    rw [Zb,if_pos (by rfl),Za Zk,Za (a0 2 _ rfl),Za e4,Za Zq,Za Zp,Za ZE]
    simp only [Bool.not_true]
    rw [ZQ,Zf,Za Zk,Zf,Za (a0 2 _ rfl),Zf,Za q6,Z5,ZA,Za Zh]
    simp only [cond_false,Bool.not_false]
    rw [Zb,if_pos rfl]
    rfl
   ·rw [hf] at q6
    rw [if_pos (by simp)]
    refine (Ka (vs:=[pt p]) (H':=X1) ?_).trans ?_
    ·rw [Zb,if_pos (by rfl),Za Zk,Za (a0 2 _ rfl),Za e4,Za Zq,Za Zp,Za ZE]
     simp only [Bool.not_true]
     rw [ZQ,Zf,Za Zk,Zf,Za (a0 2 _ rfl),Zf,Za q6,Z5,ZA,Za Zh]
     simp only [cond_false,Bool.not_true]
     rw [Zb,if_neg (by simp)]
     rfl
    ·exact hgr
end
end Go.Proofs.YtnnehafmjfmbnaaGreatDoor.A

namespace Go.Proofs.YtnnehafmjfmbnaaGreatDoor.A
set_option linter.unusedVariables false
set_option linter.unusedSimpArgs false
open Go.Proofs Go.Proofs.YtnnehafmjfmbnaaGreatDoor
def J4 : List Zm→Int
 | []=>0
 | u :: l=>if Yy u=0 then J4 l else Yy u
def ZeO (us : List Zm) : Int:=if J4 us=0 then (if JG (us.map (·.nm)) then (if 12 < us.length then 7 else 0) else 9) else J4 us
def Zdl (us : List Zm) (gs : List Tx) : Int:=if ZeO us=0 then (if gs.all Zo then (if JG gs then (if 6 < gs.length then 7 else 0) else 9) else 10) else ZeO us
def Zey (gs : List Tx) (prev : List Zm) (u : Zm) : Int:=if u.gs.all (fun g=>decide (g∈gs)) then (if u.ml≠[]∧prev.any (fun v=>u.ml==v.ml)=true then 9 else 0) else 8
def KL (gs : List Tx) : List Zm→List Zm→Int
 | _,[]=>0
 | prev,u :: l=>if Zey gs prev u=0 then KL gs (prev++[u]) l else Zey gs prev u
def Zan (us : List Zm) (gs : List Tx) : Int:=if Zdl us gs=0 then KL gs [] us else Zdl us gs
def ZiZ (X : Zc) (sl : Value) (us : List Zm) : Prop:=∀ k,k≤us.length→∃ v,(∀ X',HLe X X'→slv 5 sl none (some (iv k)) none X'=some (v,X'))∧SlN 5 X v ((us.take k).map Zm.cells)
section
variable {X X' H H0 : Zc} {n p d b : Nat} {v sl gv : Value} {l gs : List Tx} {m : Tx} {u : Zm} {us : List Zm}
theorem ZrD {e : Ty} {x : (Ty.slc e).den} {rows : List (List Value)} (hS : SlN e.size H v rows) (h : Rd (.slc e) x H [v]) {k : Nat} (hk : k≤rows.length) : ∃ w,(∀ X',HLe H X'→slv e.size v none (some (iv k)) none X'=some (w,X'))∧SlN e.size H w (rows.take k):=by
 obtain ⟨a,c,hv,h0,hf,hr⟩:=hS
 have hb : ∀ d,bnd (some (iv k)) d=some k:=fun d=>by simp [bnd]
 have hb0 : ∀ d,bnd none d=some d:=fun _=>rfl
 cases x with
 | none=>
  have hv1 : v=.slice none 0 0:=by
   have h : [v]=[.slice none 0 0]:=h
   simpa using h
  rw [hv1] at hv
  injection hv with e1 e2 e3
  have hr0 : rows=[]:=List.eq_nil_of_length_eq_zero e2.symm
  subst hr0
  have hk0 : k=0:=by simpa using hk
  subst hk0
  rw [hv1]
  exact ⟨.slice none 0 0,fun _ _=>rfl,SlN.nil⟩
 | some p=>
  obtain ⟨xa,xb⟩:=p
  rcases h with ⟨_,_,h⟩ | ⟨id,cells,h1,hid,hcl,_⟩
  ·have hv1 : v=.slice (some ⟨0,0,some 1⟩) 0 0:=by simpa using h
   rw [hv1] at hv
   injection hv with e1 e2 e3
   have hr0 : rows=[]:=List.eq_nil_of_length_eq_zero e2.symm
   subst hr0
   have hk0 : k=0:=by simpa using hk
   subst hk0
   rw [hv1]
   exact ⟨.slice (some ⟨0,0,some 1⟩) 0 0,fun _ _=>rfl,⟨_,_,rfl,(fun e=>by cases e),rfl,by simp⟩⟩
  ·have hv1 : v=.slice (some ⟨id,0,none⟩) xa.length (xa.length+xb.length):=by simpa using h1
   rw [hv1] at hv hf
   injection hv with e1 e2 e3
   have hxt : ∀ y∈rows.take k,y.length=e.size:=fun y hy=>hr y (List.mem_of_mem_take hy)
   have hl : (rows.take k).length=k:=by rw [List.length_take];omega
   rw [hv1]
   by_cases hz : xa.length+xb.length=0
   ·have hk0 : k=0:=by omega
    subst hk0
    refine ⟨.slice (some ⟨id,0,some (bif false then 1 else 0)⟩) 0 0,fun X' hl'=>?_,⟨_,_,rfl,(fun e=>by cases e),rfl,by simp⟩⟩
    simp only [slv,hl' _ _ hid,hb,hb0]
    rw [if_pos ⟨trivial,by omega,by omega,by omega⟩,if_pos hz]
   ·refine ⟨.slice (some ⟨id,0+0 * e.size,none⟩) (k - 0) (xa.length+xb.length - 0),fun X' hl'=>?_,?_⟩
    ·simp only [slv,hl' _ _ hid,hb,hb0]
     rw [if_pos ⟨trivial,by omega,by omega,by omega⟩,if_neg hz]
    ·rw [Nat.zero_mul,Nat.add_zero,Nat.sub_zero,Nat.sub_zero]
     refine ⟨some ⟨id,0,none⟩,xa.length+xb.length,by rw [hl],(fun e=>by cases e),?_,hxt⟩
     unfold Qq at hf ⊢
     simp only [hid] at hf ⊢
     have hle : k * e.size≤rows.length * e.size:=Nat.mul_le_mul_right _ hk
     rw [← e2] at hle
     split at hf
     ·rename_i hc
      rw [if_pos (by omega),List.drop_zero]
      have hf:=Option.some.inj hf
      rw [List.drop_zero] at hf
      have hft:=W5 hxt
      rw [hl] at hft
      have hs : rows.flatten=(rows.take k).flatten++(rows.drop k).flatten:=by rw [← List.flatten_append,List.take_append_drop]
      have h2 : cells.take (k * e.size)=(cells.take (xa.length * e.size)).take (k * e.size):=by rw [List.take_take,Nat.min_eq_left hle]
      rw [h2,hf,hs,← hft,List.take_left]
     ·cases hf
theorem Zn5 {x : (Ty.slc userT).den} (hwf : (Ty.slc userT).wf x) (h : Rd (.slc userT) x H [v]) : ∃ us,Yx H v us∧us.length≤9223372036854775807∧ZiZ H v us:=by
 obtain ⟨us,hU,hn⟩:=ZpV hwf h
 refine ⟨us,hU,hn,fun k hk=>?_⟩
 obtain ⟨w,h1,h2⟩:=ZrD (e:=userT) hU.1 h (k:=k) (by rw [List.length_map];exact hk)
 exact ⟨w,h1,by rw [List.map_take];exact h2⟩
theorem ZfA : ∀ {us : List Zm} {a : Tx},Zea (some a) us=JG (a :: us.map (·.nm))
 | [],a=>rfl
 | u :: us,a=>by
  rw [ZdJ,ZfA (us:=us),List.map_cons,Za2]
  rfl
theorem Zl6 : Zea none us=JG (us.map (·.nm)):=by
 cases us with
 | nil=>rfl
 | cons u us=>rw [ZdJ,ZfA,List.map_cons];rfl
theorem ZbN : ∀ {l : List Tx},JG l=true→l.Pairwise (· < ·)
 | [],_=>List.Pairwise.nil
 | [a],_=>by simp
 | a :: b :: l,h=>by
  rw [Za2,Bool.and_eq_true,decide_eq_true_eq] at h
  have ih:=ZbN h.2
  refine List.Pairwise.cons (fun x hx=>?_) ih
  rcases List.mem_cons.1 hx with rfl | hx
  ·exact h.1
  ·exact List.lt_trans h.1 ((List.pairwise_cons.1 ih).1 x hx)
theorem Zj0 : ∀ {us : List Zm},J4 us=0→∀ u∈us,Yy u=0
 | [],_,_,h=>by simp at h
 | w :: us,h,u,hu=>by
  unfold J4 at h
  by_cases hw : Yy w=0
  ·rw [if_pos hw] at h
   rcases List.mem_cons.1 hu with rfl | hu
   ·exact hw
   ·exact Zj0 h u hu
  ·rw [if_neg hw] at h;exact absurd h hw
theorem Zg9 {k : Nat} (hl : l.length≤1000000) (hs : Sl X v (l.map strv)) : R (n+4) YC [v,iv k] X=some (iv (if JG l then (if k < l.length then 7 else 0) else 9),X):=by
 have hlen : Zx v X=some (iv l.length,X):=by have:=hs.len (H':=X);simpa using this
 have lp : ∀ (t j : Nat),l.length - j=t→1≤j→(j≤l.length∨j=1)→Zj (c3 (Y8.l1 (R (n+3)))) [v,iv k,iv j] X=some (if JG (l.drop (j - 1)) then .ext 0 [v,iv k] else .ret (iv 9),X):=by
  intro t
  induction t with
  | zero=>
   intro j ht hj hj2
   have hr : JG (l.drop (j - 1))=true:=by
    have h1 : (l.drop (j - 1)).length≤1:=by rw [List.length_drop];omega
    match l.drop (j - 1),h1 with
    | [],_=>rfl
    | [a],_=>rfl
   rw [hr]
   refine ZD ?_
   rw [ZN]
   unfold Y8.l1
   rw [Za hlen,Za Zg,Zb,if_neg (by simp;omega)]
   rfl
  | succ t ih=>
   intro j ht hj hj2
   have hkl : j < l.length:=by omega
   have hlt : (j : Int) < l.length:=by omega
   have hk0 : j - 1 < l.length:=by omega
   have hg:=List.getElem?_eq_getElem hkl
   have hg0:=List.getElem?_eq_getElem hk0
   have hd:=List.drop_eq_getElem_cons hkl
   have hd0:=List.drop_eq_getElem_cons hk0
   rw [show j - 1+1=j by omega,hd] at hd0
   generalize l[j]=y at hg hd hd0
   generalize l[j - 1]=y0 at hg0 hd0
   have x1:=hs.ix (i:=j) (by simpa using hkl) .i64 X
   have x2:=hs.ldx (Q3 hg)
   have x3:=hs.ix (i:=j - 1) (by simpa using hk0) .i64 X
   have x4:=hs.ldx (Q3 hg0)
   have w0 : IntKind.i64.wrap ((j : Int) - 1)=((j - 1 : Nat) : Int):=by rw [w64 (by omega) (by omega)];omega
   have e1 : R (n+3) Jj [strv y0,strv y] X=some (iv (Zas y0 y),X):=Zpc (n:=n)
   have q1 : bop .int .geq (iv (Zas y0 y)) (.int .i64 0) X=some (.bool (!decide (y0 < y)),X):=by rw [Ql,Zrl]
   rw [hd0,Za2]
   by_cases hy : y0 < y
   ·rw [decide_eq_true hy] at q1 ⊢
    rw [Bool.true_and,← hd]
    have ih:=ih (j+1) (by omega) (by omega) (by omega)
    rw [Nat.add_sub_cancel] at ih
    refine (Zv ?_).trans ih
    rw [ZN]
    unfold Y8.l1
    rw [Za hlen,Za Zg,Zb,if_pos (by simpa using hlt),Za Qk,w0,Za x3,Za x4,Za x1,Za x2,Za e1,Za q1,Zb,if_neg (by simp),Za Zs,Qb (by omega)]
    rfl
   ·rw [decide_eq_false hy] at q1 ⊢
    refine ZU ?_
    rw [ZN]
    unfold Y8.l1
    rw [Za hlen,Za Zg,Zb,if_pos (by simpa using hlt),Za Qk,w0,Za x3,Za x4,Za x1,Za x2,Za e1,Za q1,Zb,if_pos (by simp)]
    rfl
 have e1:=lp (l.length - 1) 1 rfl (Nat.le_refl _) (.inr rfl)
 rw [show iv ((1 : Nat) : Int)=.int .i64 1 from rfl,Nat.sub_self,List.drop_zero] at e1
 rw [R,Zkk rfl]
 unfold Y8
 cases hr : JG l
 ·rw [hr] at e1
  rw [Qr e1];rfl
 ·rw [hr] at e1
  rw [ZM e1,Zu,Z4,Za hlen,Za ZR,Zb]
  by_cases h : k < l.length
  ·rw [if_pos (by simp;omega),if_pos h];rfl
  ·rw [if_neg (by simp;omega),if_neg h];rfl
theorem ZlC (hn : us.length≤1000) (hA : QM H0 sl us) : ∀ (t j : Nat) (nv : Value) (q : List Nat) (acc : List Tx) (X : Zc),us.length - j=t→j≤us.length→acc.length≤j→HLe H0 X→(∀ i∈q,H0.length≤i)→ZC X nv (acc.map strv) q→
  ∃ X' o,Zj (c5 (Qu.l1 (R (n+10)))) [gv,nv,sl,iv us.length,iv j] X=some (o,X')∧HLe H0 X'∧(if J4 (us.drop j)=0 then ∃ nv' q',o=.ext 0 [gv,nv']∧ZC X' nv' ((acc++(us.drop j).map (·.nm)).map strv) q' else o=.ret (iv (J4 (us.drop j))))
 | 0,j,nv,q,acc,X,ht,hj,ha,hle,hq,hr=>by
  rw [List.drop_eq_nil_of_le (by omega)]
  refine ⟨X,.ext 0 [gv,nv],ZD ?_,hle,?_⟩
  ·rw [Z7,show j=us.length by omega]
   unfold Qu.l1
   rw [Za Zg,Zb,if_neg (by simp)]
   rfl
  ·rw [if_pos (show J4 []=0 from rfl)]
   exact ⟨nv,q,rfl,by simpa using hr⟩
 | t+1,j,nv,q,acc,X,ht,hj,ha,hle,hq,hr=>by
  have hjl : j < us.length:=by omega
  have hlt : (j : Int) < us.length:=by omega
  have hg:=List.getElem?_eq_getElem hjl
  have hd:=List.drop_eq_getElem_cons hjl
  generalize us[j]=u at hg hd
  have hok:=(hA.mono hle).ok (List.mem_of_getElem? hg)
  have hf:=fun {K : Value→M Out}=>ZcW (k:=K) (hA.mono hle).1 hok.2.1 hg
  have g1 : (X++[Zi.cells u.cells 1 false false])[X.length]?=some (.cells u.cells 1 false false):=ZZ
  have k1 : HLe X (X++[Zi.cells u.cells 1 false false]):=.app _ _
  generalize X++[Zi.cells u.cells 1 false false]=X1 at g1 k1 hf
  generalize X.length=p at g1 hf
  have d1 : ldA 5 (pt p) X1=some (.agg u.cells.toArray,X1):=WD (n:=5) g1 rfl
  obtain ⟨X2,e2,k2⟩:=Zll (n:=n) (hok.hle k1)
  have k12:=k1.trans k2
  have le2:=hle.trans k12
  rw [hd]
  unfold J4
  by_cases he : Yy u=0
  ·rw [he] at e2
   simp only [if_pos he]
   have q2 : bop .int .neq (iv 0) (.int .i64 0) X2=some (.bool false,X2):=by rw [Zn];rfl
   have l0 : ld1 (pa p 0) X2=some (strv u.nm,X2):=Q0 (k2 _ _ g1) rfl
   have x4:=ZrS (es:=1) (z:=.string ⟨#[]⟩) (v:=strv u.nm) (H:=X2) rfl rfl rfl
   have k3 : HLe X2 (X2++[Zi.cells [strv u.nm] 1 false false]):=.app _ _
   have s3 : Sl (X2++[Zi.cells [strv u.nm] 1 false false]) (.slice (some ⟨X2.length,0,none⟩) 1 1) [strv u.nm]:=Sl.one (c:=1) ZZ
   generalize X2++[Zi.cells [strv u.nm] 1 false false]=X3 at x4 k3 s3
   have hr3 : ZC X3 nv _ q:=hr.step (k12.trans k3).step (by simp)
   obtain ⟨nv',X4,q',x5,hr4,s4,_⟩:=hr3.push (b:=16) s3 (by simp;omega) (by simp;omega)
   have hm:=(le2.trans k3).more s4 hq
   have hr4' : ZC X4 nv' ((acc++[u.nm]).map strv) q':=by rw [List.map_append];exact hr4
   obtain ⟨X5,o5,e5,k5,h5⟩:=ZlC hn hA t (j+1) nv' q' (acc++[u.nm]) X4 (by omega) (by omega) (by simp;omega) hm.1 hm.2 hr4'
   refine ⟨X5,o5,(Zv ?_).trans e5,k5,by simpa using h5⟩
   rw [Z7]
   unfold Qu.l1
   rw [Za Zg,Zb,if_pos (by simpa using hlt),hf,Za d1,Za e2,Za q2,Zb,if_neg (by simp),Za Zk,Za l0,Za x4,Za x5,Za Zs,Qb (by omega)]
   rfl
  ·simp only [if_neg he]
   have q2 : bop .int .neq (iv (Yy u)) (.int .i64 0) X2=some (.bool true,X2):=by rw [Zn];simp [he]
   refine ⟨X2,_,ZU (v:=iv (Yy u)) ?_,le2,rfl⟩
   rw [Z7]
   unfold Qu.l1
   rw [Za Zg,Zb,if_pos (by simpa using hlt),hf,Za d1,Za e2,Za q2,Zb,if_pos rfl]
   rfl
theorem Zlm (hl : l.length≤1000000) (hs : Sl X v (l.map strv)) : ∀ (t j : Nat),l.length - j=t→j≤l.length→
  Zj (c4 (Qu.l2 (R (n+5)))) [v,v,iv l.length,iv j] X=some (if (l.drop j).all Zo then .ext 2 [v] else .ret (iv 10),X)
 | 0,j,ht,hj=>by
  rw [List.drop_eq_nil_of_le (by omega)]
  refine ZD ?_
  rw [ZA,show j=l.length by omega]
  unfold Qu.l2
  rw [Za Zg,Zb,if_neg (by simp)]
  rfl
 | t+1,j,ht,hj=>by
  have hkl : j < l.length:=by omega
  have hlt : (j : Int) < l.length:=by omega
  have hg:=List.getElem?_eq_getElem hkl
  have hd:=List.drop_eq_getElem_cons hkl
  generalize l[j]=y at hg hd
  have x1:=hs.ix (i:=j) (by simpa using hkl) .i64 X
  have x2:=hs.ldx (Q3 hg)
  have e1 : R (n+5) Q7 [strv y] X=some (iv (ZS y),X):=ZbO
  rw [hd,List.all_cons]
  cases hn : Zo y
  ·have he : ZS y=10:=by unfold ZS;rw [hn];rfl
   rw [he] at e1
   refine ZU ?_
   rw [ZA]
   unfold Qu.l2
   rw [Za Zg,Zb,if_pos (by simpa using hlt),Za x1,Za x2,Za e1,Za Zn,Zb,if_pos (by simp)]
   rfl
  ·have he : ZS y=0:=Zce.2 hn
   rw [he] at e1
   rw [Bool.true_and]
   refine (Zv ?_).trans (Zlm hl hs t (j+1) (by omega) (by omega))
   rw [ZA]
   unfold Qu.l2
   rw [Za Zg,Zb,if_pos (by simpa using hlt),Za x1,Za x2,Za e1,Za Zn,Zb,if_neg (by simp),Za Zs,Qb (by omega)]
   rfl
theorem Zlp (hn : us.length≤1000) (hl : gs.length≤1000000) (hA : QM X sl us) (hs : Sl X gv (gs.map strv)) : ∃ X',R (n+11) Zaa [sl,gv] X=some (iv (Zdl us gs),X')∧HLe X X':=by
 obtain ⟨X1,o,e1,k1,h1⟩:=ZlC (n:=n) (gv:=gv) hn hA us.length 0 (.slice none 0 0) [] [] X (by omega) (by omega) (by simp) (.refl _) (by simp) ZC.nil
 rw [List.drop_zero] at h1
 have e1 : Zj (c5 (Qu.l1 (R (n+10)))) [gv,.slice none 0 0,sl,iv us.length,.int .i64 0] X=_:=e1
 have hlen : Zx sl X=some (iv us.length,X):=by have:=hA.1.len (H':=X);rwa [List.length_map] at this
 have f1 : ∀ r X',Qu (R (n+10)) sl gv X=some (r,X')→R (n+11) Zaa [sl,gv] X=some (r,X'):=fun r X' hr=>by rw [R,Zjq rfl];exact hr
 refine ⟨X1,f1 _ _ ?_,k1⟩
 unfold Qu Zdl ZeO
 rw [Za hlen]
 by_cases hf : J4 us=0
 ·rw [if_pos hf] at h1
  simp only [if_pos hf]
  obtain ⟨nv,q,rfl,hr⟩:=h1
  rw [List.nil_append] at hr
  have e2 : R (n+10) YC [nv,iv 12] X1=_:=Zg9 (n:=n+6) (k:=12) (l:=us.map (·.nm)) (by rw [List.length_map];omega) hr.rd
  have hs1:=hs.mono k1
  have hgl : Zx gv X1=some (iv gs.length,X1):=by have:=hs1.len (H':=X1);simpa using this
  have e3:=Zlm (n:=n+5) hl hs1 gs.length 0 (by omega) (by omega)
  rw [show iv ((0 : Nat) : Int)=.int .i64 0 from rfl,List.drop_zero] at e3
  have e4 : R (n+10) YC [gv,iv 6] X1=_:=Zg9 (n:=n+6) (k:=6) hl hs1
  rw [List.length_map] at e2
  rw [ZM e1,Zu,Z4]
  cases hr1 : JG (us.map (·.nm))
  ·rw [hr1] at e2
   have e2 : R (n+10) YC [nv,iv 12] X1=some (iv 9,X1):=e2
   rw [Za e2,Za Zn,Zb,if_pos (by simp)]
   rfl
  ·rw [hr1] at e2
   simp only [if_true] at e2 ⊢
   by_cases h12 : 12 < us.length
   ·rw [if_pos h12] at e2 ⊢
    have e2 : R (n+10) YC [nv,iv 12] X1=some (iv 7,X1):=e2
    rw [Za e2,Za Zn,Zb,if_pos (by simp)]
    rfl
   ·rw [if_neg h12] at e2 ⊢
    have e2 : R (n+10) YC [nv,iv 12] X1=some (iv 0,X1):=e2
    rw [Za e2,Za Zn,Zb,if_neg (by simp),Za hgl,if_pos rfl]
    cases ha : gs.all Zo
    ·rw [ha] at e3
     rw [Qr e3];rfl
    ·rw [ha] at e3
     rw [ZM e3,Zu,JY,Za e4]
     rfl
 ·rw [if_neg hf] at h1
  simp only [if_neg hf]
  subst h1
  rw [Qr e1]
  rfl
theorem Zlh (hn : us.length≤1000) (hA : QM H0 sl us) : ∀ (t k : Nat) (X : Zc),us.length - k=t→k≤us.length→HLe H0 X→
  ∃ X',Zj (c5 (Q6.l1 (R (n+5)))) [sl,iv 2,sl,iv us.length,iv k] X=some (if J4 (us.drop k)=0 then .ext 0 [sl] else .ret (iv (J4 (us.drop k))),X')∧HLe H0 X'
 | 0,k,X,ht,hk,hle=>by
  rw [List.drop_eq_nil_of_le (by omega)]
  refine ⟨X,ZD ?_,hle⟩
  rw [Z7,show k=us.length by omega]
  unfold Q6.l1
  rw [Za Zg,Zb,if_neg (by simp)]
  rfl
 | t+1,k,X,ht,hk,hle=>by
  have hkl : k < us.length:=by omega
  have hlt : (k : Int) < us.length:=by omega
  have hg:=List.getElem?_eq_getElem hkl
  have hd:=List.drop_eq_getElem_cons hkl
  generalize us[k]=u at hg hd
  have hok:=(hA.mono hle).ok (List.mem_of_getElem? hg)
  have hf:=fun {K : Value→M Out}=>ZcW (k:=K) (hA.mono hle).1 hok.2.1 hg
  have g1 : (X++[Zi.cells u.cells 1 false false])[X.length]?=some (.cells u.cells 1 false false):=ZZ
  have k1 : HLe X (X++[Zi.cells u.cells 1 false false]):=.app _ _
  generalize X++[Zi.cells u.cells 1 false false]=X1 at g1 k1 hf
  have d1 : ldA 5 (pt X.length) X1=some (.agg u.cells.toArray,X1):=WD (n:=5) g1 rfl
  obtain ⟨X2,e2,k2⟩:=Zml (n:=n) (hok.hle k1)
  have hb : c5 (Q6.l1 (R (n+5))) [sl,iv 2,sl,iv us.length,iv k] X=some (if Yy u=0 then .nrm [sl,iv 2,sl,iv us.length,iv ((k+1 : Nat) : Int)] else .ret (iv (Yy u)),X2):=by
   rw [Z7]
   unfold Q6.l1
   rw [Za Zg,Zb,if_pos (by simpa using hlt),hf,Za d1,Za e2,Za Zn,Zb]
   by_cases h : Yy u=0
   ·rw [if_neg (by simp [h]),if_pos h,Za Zs,Qb (by omega)];rfl
   ·rw [if_pos (by simp [h]),if_neg h];rfl
  rw [hd]
  unfold J4
  by_cases h : Yy u=0
  ·rw [if_pos h] at hb
   simp only [if_pos h]
   obtain ⟨X3,e3,k3⟩:=Zlh hn hA t (k+1) X2 (by omega) (by omega) (hle.trans (k1.trans k2))
   exact ⟨X3,(Zv hb).trans e3,k3⟩
  ·rw [if_neg h] at hb
   simp only [if_neg h]
   exact ⟨X2,ZU hb,hle.trans (k1.trans k2)⟩
theorem QM.nmAt (hA : QM X sl us) {i : Nat} (hi : us[i]?=some u) : ∃ id o,ixa 5 sl (iv i) X=some (pa id o,X)∧ld1 (pa id (o+0)) X=some (strv u.nm,X):=by
 obtain ⟨id,o,cs,e,g,ro,e1,e2,e3,e4,_⟩:=hA.1.at (i:=i) (r:=u.cells) (by rw [List.getElem?_map,hi];rfl) (by omega) .i64
 refine ⟨id,o,e1 X,?_⟩
 rw [Qa,e2,Q1]
 have : cs[o+0]?=some (strv u.nm):=by
  have h0 : ((cs.drop o).take 5)[0]?=some (strv u.nm):=by rw [e3];rfl
  rw [List.getElem?_take,if_pos (by omega),List.getElem?_drop] at h0
  exact h0
 rw [this];rfl
theorem ZkW (hn : us.length≤1000) (hA : QM H0 sl us) : ∀ (t k : Nat) (X : Zc),us.length - k=t→k≤us.length→HLe H0 X→
  ∃ X',Zj (c4 (Q6.l2 (R n))) [sl,sl,iv us.length,iv k] X=some (if Zea (Zdu us k) (us.drop k) then .ext 2 [sl] else .ret (iv 9),X')∧HLe H0 X'
 | 0,k,X,ht,hk,hle=>by
  have : k=us.length:=by omega
  subst this
  rw [List.drop_length]
  refine ⟨X,ZD ?_,hle⟩
  rw [ZA]
  unfold Q6.l2
  rw [Za Zg,Zb,if_neg (by simp)]
  rfl
 | t+1,k,X,ht,hk,hle=>by
  have hkl : k < us.length:=by omega
  have hlt : (k : Int) < us.length:=by omega
  have hg:=List.getElem?_eq_getElem hkl
  have hd:=List.drop_eq_getElem_cons hkl
  generalize us[k]=u at hg hd
  have hok:=(hA.mono hle).ok (List.mem_of_getElem? hg)
  have hf:=fun {K : Value→M Out}=>ZcW (k:=K) (hA.mono hle).1 hok.2.1 hg
  have g1 : (X++[Zi.cells u.cells 1 false false])[X.length]?=some (.cells u.cells 1 false false):=ZZ
  have k1 : HLe X (X++[Zi.cells u.cells 1 false false]):=.app _ _
  generalize X++[Zi.cells u.cells 1 false false]=X1 at g1 k1 hf
  generalize X.length=p at g1 hf
  have a0 : ∀ f x,u.cells[f]?=some x→ld1 (pa p f) X1=some (x,X1):=fun f x h=>Q0 g1 h
  have hA1:=(hA.mono hle).mono k1
  have hcmp : ∀ K : Value→M Out,
    bind (bop .int .gtr (iv k) (Value.int .i64 0)) (fun v31x17=>bind (ZJ v31x17 true (ret sl)) fun v33x18=>bind (ZJ v31x17 true (ret (iv k))) fun v34x19=>bind (ZJ v31x17 true (bop .int .sub v34x19 (Value.int .i64 1))) fun v35x20=>bind (ZJ v31x17 true (ixa 5 v33x18 v35x20)) fun v36x21=>bind (ZJ v31x17 true (fa 0 v36x21)) fun v37x22=>bind (ZJ v31x17 true (ld1 v37x22)) fun v38x23=>bind (ZJ v31x17 true (fa 0 (pt p))) fun v39x24=>bind (ZJ v31x17 true (ld1 v39x24)) fun v40x25=>bind (ZJ v31x17 true (bop .str .geq v38x23 v40x25)) fun v41x26=>bind (pick v31x17 v41x26 (Value.bool false)) K) X1=K (.bool (!upB (Zdu us k) u)) X1:=fun K=>by
   by_cases h0 : k=0
   ·subst h0
    have q1 : bop .int .gtr (iv (0 : Nat)) (Value.int .i64 0) X1=some (.bool false,X1):=by rw [ZR];rfl
    rw [Za q1]
    iterate 9 rw [Zp6 (by rfl)]
    rw [Za Zh]
    rfl
   ·have q1 : bop .int .gtr (iv k) (Value.int .i64 0) X1=some (.bool true,X1):=by rw [ZR,decide_eq_true (by omega)]
    obtain ⟨v,hv⟩ : ∃ v,us[k - 1]?=some v:=⟨_,List.getElem?_eq_getElem (by omega)⟩
    obtain ⟨id,o,x1,x2⟩:=hA1.nmAt hv
    have hp : upB (Zdu us k) u=decide (v.nm < u.nm):=by unfold Zdu upB;rw [if_neg h0,hv];rfl
    rw [Za q1,JK,Z5,JK,Z5,JK,Za Qk,ZkJ (by omega) (by omega),JK,Za x1,JK,Za JM,JK,Za x2,JK,Za Zk,JK,Za (a0 0 _ rfl),JK,Za ZnF,Za Zh,hp]
    rfl
  rw [hd,ZdJ]
  cases hup : upB (Zdu us k) u
  ·rw [hup] at hcmp
   refine ⟨X1,ZU ?_,hle.trans k1⟩
   rw [ZA]
   unfold Q6.l2
   rw [Za Zg,Zb,if_pos (by simpa using hlt),hf]
   refine (hcmp _).trans ?_
   rw [Zb,if_pos (by rfl)]
   rfl
  ·rw [hup] at hcmp
   obtain ⟨X3,e3,k3⟩:=ZkW hn hA t (k+1) X1 (by omega) (by omega) (hle.trans k1)
   rw [Znm hg] at e3
   refine ⟨X3,(Zv ?_).trans e3,k3⟩
   rw [ZA]
   unfold Q6.l2
   rw [Za Zg,Zb,if_pos (by simpa using hlt),hf]
   refine (hcmp _).trans ?_
   rw [Zb,if_neg (by simp),Za Zs,Qb (by omega)]
   rfl
theorem ZpG (hn : us.length≤1000) (hA : QM X sl us) : ∃ X',R (n+6) Zcf [sl,iv 2] X=some (iv (ZeO us),X')∧HLe X X':=by
 obtain ⟨X1,e1,k1⟩:=Zlh (n:=n) hn hA us.length 0 X (by omega) (by omega) (.refl _)
 rw [List.drop_zero] at e1
 have e1 : Zj (c5 (Q6.l1 (R (n+5)))) [sl,iv 2,sl,iv us.length,.int .i64 0] X=_:=e1
 have f1 : ∀ r X',Q6 (R (n+5)) sl (iv 2) X=some (r,X')→R (n+6) Zcf [sl,iv 2] X=some (r,X'):=fun r X' hr=>by rw [R,Zmz rfl];exact hr
 have hlen : ∀ Y,Zx sl Y=some (iv us.length,Y):=fun Y=>by have:=hA.1.len (H':=Y);rwa [List.length_map] at this
 unfold ZeO
 by_cases h1 : J4 us=0
 ·rw [if_pos h1] at e1
  rw [if_pos h1]
  obtain ⟨X2,e2,k2⟩:=ZkW (n:=n+5) hn (hA.mono k1) us.length 0 X1 (by omega) (by omega) (.refl _)
  rw [List.drop_zero,ZnV,Zl6] at e2
  have e2 : Zj (c4 (Q6.l2 (R (n+5)))) [sl,sl,iv us.length,.int .i64 0] X1=_:=e2
  refine ⟨X2,f1 _ _ ?_,k1.trans k2⟩
  unfold Q6
  rw [Za (hlen _),ZM e1,Zu,JY,Za (hlen _)]
  cases h2 : JG (us.map (·.nm))
  ·rw [h2] at e2
   rw [Qr e2];rfl
  ·rw [h2] at e2
   rw [ZM e2,Zu,JY,Za (hlen _),Za ZR,Zb]
   by_cases h3 : 12 < us.length
   ·rw [if_pos (by simp;omega),if_pos rfl,if_pos h3];rfl
   ·rw [if_neg (by simp;omega),if_pos rfl,if_neg h3];rfl
 ·rw [if_neg h1] at e1
  rw [if_neg h1]
  refine ⟨X1,f1 _ _ ?_,k1⟩
  unfold Q6
  rw [Za (hlen _),Qr e1]
  rfl
end
end Go.Proofs.YtnnehafmjfmbnaaGreatDoor.A

namespace Go.Proofs.YtnnehafmjfmbnaaGreatDoor.A
set_option linter.unusedVariables false
set_option linter.unusedSimpArgs false
open Go.Proofs Go.Proofs.YtnnehafmjfmbnaaGreatDoor
structure Zbm where
 kd : Nat
 a : Tx
 b : Tx
 is : Bool
abbrev Zbm.cells (a : Zbm) : List Value:=[.int .u8 a.kd,strv a.a,strv a.b,.bool a.is]
abbrev zNA : Value:=.agg #[.int .u8 0,.string ⟨#[]⟩,.string ⟨#[]⟩,.bool false]
def Zez (H : Zc) (sl : Value) (ac : List Zbm) : Prop:=SlN 4 H sl (ac.map Zbm.cells)∧∀ a∈ac,a.kd≤255
section
variable {H H' X X' : Zc} {sl : Value} {ac : List Zbm} {n d c : Nat} {s : NSt} {r : NR} {m : Tx}
theorem Zez.len (h : Zez H sl ac) : Zx sl H'=some (iv ac.length,H'):=by
 have:=h.1.len (H':=H')
 rwa [List.length_map] at this
theorem Zez.mono (h : Zez H sl ac) (hl : HLe H H') : Zez H' sl ac:=⟨h.1.mono hl,h.2⟩
theorem Zez.fetch {β : Type} {k : Value→M β} (h : Zez H sl ac) {j : Nat} {a : Zbm} (hj : ac[j]?=some a) :
  bind (ixa 4 sl (iv j)) (fun p=>bind (ldA 4 p) fun v=>bind (alc 1 zNA) fun q=>bind (stA 4 q v) fun _=>k q) H=k (pt H.length) (H++[.cells a.cells 1 false false]):=by
 have hr : (ac.map Zbm.cells)[j]?=some a.cells:=by rw [List.getElem?_map,hj];rfl
 rw [h.1.fetch hr (by omega) .i64]
 exact ZcQ (n:=4) (zs:=[.int .u8 0,.string ⟨#[]⟩,.string ⟨#[]⟩,.bool false]) (r:=a.cells) rfl rfl rfl rfl
theorem Zmy (h : ND X d r s c) : ∃ X',R (n+10) Wf [pt d,strv m] X=some (.tuple #[strv (ZkE m s.OW),iv (ZeJ m s.OW)],X')∧HLe X X':=by
 obtain ⟨X1,e1,k1⟩:=ZqL (n:=n) (m:=m) h.ix
 refine ⟨X1,?_,k1⟩
 rw [R,Zhx rfl]
 unfold ZbU
 rw [Za Zw,Za Zk,Za h.l1,Za e1,Za Zq,Za Zp]
 rfl
theorem Zlx : ∃ H',R (n+12) WY [] H=some (.bool true,H')∧HLe H H':=by
 obtain ⟨H1,d,r,e1,D1,l1,o1,o2⟩:=ZoF (n:=n+9) (X:=H)
 have e1 : R (n+11) Wz [] H=_:=e1
 obtain ⟨H2,e2,D2,s2⟩:=Zo0 (n:=n+1) (k:=[97,110,110]) (h:=[49]) D1
 obtain ⟨H3,e3,D3,s3⟩:=Znn (n:=n+1) (k:=[97,110,110]) (m:=[65,64,98,46,99]) D2
 obtain ⟨H4,e4,D4,s4⟩:=Zo5 (n:=n+1) (o:=[97,110,110]) (t:=[98,111,98]) D3
 obtain ⟨H5,e5,l5⟩:=Zmy (n:=n+1) (m:=[97,64,98,46,99]) D4
 have c1 : YW [97,110,110] [49] (⟨[],[],[],[],fun _ _=>false⟩ : NSt).A=0:=by decide
 have c2 : YE [97,110,110] [65,64,98,46,99] (Wm [97,110,110] [49] ⟨[],[],[],[],fun _ _=>false⟩)=0:=by decide
 have c3 : Ku [97,110,110] [98,111,98] (YD [97,110,110] [65,64,98,46,99] (Wm [97,110,110] [49] ⟨[],[],[],[],fun _ _=>false⟩)).A=0:=by decide
 have c4 : ZeJ [97,64,98,46,99] (Zaj [97,110,110] [98,111,98] (YD [97,110,110] [65,64,98,46,99] (Wm [97,110,110] [49] ⟨[],[],[],[],fun _ _=>false⟩))).OW=0:=by decide
 have c5 : ZkE [97,64,98,46,99] (Zaj [97,110,110] [98,111,98] (YD [97,110,110] [65,64,98,46,99] (Wm [97,110,110] [49] ⟨[],[],[],[],fun _ _=>false⟩))).OW=[98,111,98]:=by decide
 rw [c1] at e2
 rw [c2] at e3
 rw [c3] at e4
 rw [c4,c5] at e5
 have e2 : R (n+11) Y4 [pt d,.string ⟨#[97,110,110]⟩,.string ⟨#[49]⟩] H1=_:=e2
 have e3 : R (n+11) YO [pt d,.string ⟨#[97,110,110]⟩,.string ⟨#[65,64,98,46,99]⟩] H2=_:=e3
 have e4 : R (n+11) YV [pt d,.string ⟨#[97,110,110]⟩,.string ⟨#[98,111,98]⟩] H3=_:=e4
 have e5 : R (n+11) Wf [pt d,.string ⟨#[97,64,98,46,99]⟩] H4=_:=e5
 have q1 : bop .ptr .eql (pt d) (.pointer none) H1=some (.bool false,H1):=by rw [Jp]
 have z0 : ∀ X : Zc,bop .int .eql (iv 0) (.int .i64 0) X=some (.bool true,X):=fun X=>by rw [ZH];rfl
 have q2 : bop .str .eql (strv [98,111,98]) (.string ⟨#[98,111,98]⟩) H5=some (.bool true,H5):=Zb2 (b:=[98,111,98])
 have hf:=l1.more ((s2.trans s3).trans s4) o2
 refine ⟨H5,?_,hf.1.trans l5⟩
 rw [R,Zja rfl]
 unfold Zc5
 rw [Za e1,Za q1,Zb,if_neg (by simp),Za e2,Za e3,Za e4,Za e5,Za Zq,Za Zp,Za (z0 _),ZQ,Zf,Za (z0 _),Z5,Z4,Za Zh]
 simp only [cond_true]
 rw [ZQ,Zf,Za (z0 _),Z5,Z4,Za Zh]
 simp only [cond_true]
 rw [ZQ,Zf,Za (z0 _),Z5,Z4,Za Zh]
 simp only [cond_true]
 rw [ZQ,Zf,Za q2,Z5,Z4,Za Zh]
 rfl
end
end Go.Proofs.YtnnehafmjfmbnaaGreatDoor.A
namespace Go.Proofs.YtnnehafmjfmbnaaGreatDoor.A
set_option linter.unusedVariables false
set_option linter.unusedSimpArgs false
open Go.Proofs Go.Proofs.YtnnehafmjfmbnaaGreatDoor
section
variable {X X' Y Y1 Y2 Y3 H0 : Zc} {n d c c' b1 b2 b3 : Nat} {r r' : NR} {uv gv uv' gv' v : Value} {s s' : NSt} {u : Zbm} {e : Int}
theorem RD.setB {b : Nat} {c1 c2 d1 d2 : Value} (h : RD Y uv gv s) (hb : Y[b]?=some (.cells [c1,c2] 1 false false)) (i1 : Zdg c1) (i2 : Zdg c2) : RD (Y.set b (.cells [d1,d2] 1 false false)) uv gv s:=
 ⟨h.ex.imp fun us ⟨a,b⟩=>⟨a.setD hb i1 i2,b⟩,h.n.imp fun q ⟨N,a,b⟩=>⟨N,a.setD hb i1 i2,b⟩⟩
end
end Go.Proofs.YtnnehafmjfmbnaaGreatDoor.A
namespace Go.Proofs.YtnnehafmjfmbnaaGreatDoor.A
set_option linter.unusedVariables false
set_option linter.unusedSimpArgs false
open Go.Proofs Go.Proofs.YtnnehafmjfmbnaaGreatDoor
section
variable {X X' Y Y1 Y2 Y3 H H0 : Zc} {n d c c' b1 b2 b3 w : Nat} {r r' : NR} {uv gv uv' gv' v sl : Value} {s s' : NSt} {u : Zbm} {e : Int} {ac : List Zbm}
theorem ZlG {a c : Value} {l : List (List UInt8)} (hu : l.length≤1000) (ha : Sl X a (l.map strv)) (hc : Sl X c (l.map strv)) : ∀ (t j : Nat),l.length - j=t→j≤l.length→
  Zj (c4 (JB.l1 (R n))) [a,c,iv l.length,iv j] X=some (.ext 0 [],X)
 | 0,j,ht,hj=>by
  have : j=l.length:=by omega
  subst this
  refine ZD ?_
  rw [ZA]
  unfold JB.l1
  rw [Za Zg,Zb,if_neg (by simp)]
  rfl
 | t+1,j,ht,hj=>by
  have hjl : j < l.length:=by omega
  have hlt : (j : Int) < l.length:=by omega
  have hg:=List.getElem?_eq_getElem hjl
  generalize l[j]=x at hg
  have x1:=ha.ix (i:=j) (by simpa using hjl) .i64 X
  have x2:=ha.ldx (Q3 hg)
  have x3:=hc.ix (i:=j) (by simpa using hjl) .i64 X
  have x4:=hc.ldx (Q3 hg)
  have q0 : bop .str .neq (strv x) (strv x) X=some (.bool false,X):=by rw [ZaF];simp
  refine (Zv ?_).trans (ZlG hu ha hc t (j+1) (by omega) (by omega))
  rw [ZA]
  unfold JB.l1
  rw [Za Zg,Zb,if_pos (by simpa using hlt),Za x1,Za x2,Za x3,Za x4,Za q0,Zb,if_neg (by simp),Za Zs,Qb (by omega)]
  rfl
theorem ZmE {a c : Value} {l : List (List UInt8)} (hu : l.length≤1000) (ha : Sl X a (l.map strv)) (hc : Sl X c (l.map strv)) : R (n+1) KD [a,c] X=some (.bool true,X):=by
 have e:=ZlG (n:=n) hu ha hc l.length 0 (by omega) (by omega)
 have e : Zj (c4 (JB.l1 (R n))) [a,c,iv l.length,.int .i64 0] X=_:=e
 have h1:=ha.len (H':=X)
 have h2:=hc.len (H':=X)
 rw [List.length_map] at h1 h2
 rw [R,Zfl rfl]
 unfold JB
 rw [Za h1,Za h2,Za Zn,Zb,if_neg (by simp),Za h1,ZM e,Zu]
 rfl
theorem Zp4 {us : List Zm} {N : List Tx} (hd : ND X d r s c) (U : QM X uv us) (O : ROK s us) (hN : Sl X gv (N.map strv)) (iN : Is N (·∈s.K)) (o1 : oneCell uv=true) (o2 : oneCell gv=true) : ∃ X',R (n+9) ZaC [pt d,.agg #[uv,gv]] X=some (.bool true,X')∧HLe X X':=by
 have z1 : alc 1 (.agg #[uv,gv]) X=some (pt X.length,X++[.cells [uv,gv] 1 false false]):=Zgz (vs:=[uv,gv]) (by simp only [List.all_cons,o1,o2];rfl)
 have k1 : HLe X (X++[Zi.cells [uv,gv] 1 false false]):=.app _ _
 have c1 : (X++[Zi.cells [uv,gv] 1 false false])[X.length]?=some (.cells [uv,gv] 1 false false):=ZZ
 generalize X++[Zi.cells [uv,gv] 1 false false]=X1 at z1 k1 c1
 have U1:=U.mono k1
 have hd1:=hd.hle k1
 have a0 : ∀ Y,HLe X1 Y→ld1 (pa X.length 0) Y=some (uv,Y):=fun Y hl=>Q0 (hl _ _ c1) rfl
 have a1 : ∀ Y,HLe X1 Y→ld1 (pa X.length 1) Y=some (gv,Y):=fun Y hl=>Q0 (hl _ _ c1) rfl
 have hlen : Zx uv X1=some (iv us.length,X1):=by have:=U1.1.len (H':=X1);rwa [List.length_map] at this
 have e1 : R (n+8) WC [pt d] X1=some (iv s.A.length,X1):=ZrN (n:=n+7) hd1
 have hl:=O.len hd.m.nod
 have hfew:=hd.inv.few
 have q1 : bop .int .eql (iv s.A.length) (iv us.length) X1=some (.bool true,X1):=by rw [ZH,hl];simp
 obtain ⟨v,q2,us2,X2,e2,w2,k2,l2⟩:=Zn9 (n:=n) hd1
 have hu2 : us2.length≤1000000:=by
  have h1 : us2.map QA=us.map QA:=k2.trans (O.all hd.m.nod).symm
  have h2:=congrArg List.length h1
  rw [List.length_map,List.length_map] at h2
  omega
 obtain ⟨X3,e3,l3⟩:=Zox (n:=n+6) hu2 (by omega) w2.us (U1.mono l2)
 rw [decide_eq_true (k2.trans (O.all hd.m.nod).symm)] at e3
 have e3 : R (n+8) YX [v,uv] X2=_:=e3
 have k13:=l2.trans l3
 obtain ⟨v4,q4,X4,e4,r4,l4,o4⟩:=Zob (n:=n+4) (hd1.hle k13)
 have e4 : R (n+8) KA [pt d] X3=_:=e4
 have hasc:=hd.gr.keysAsc
 rw [hd.ks] at hasc
 have hNk : N=JI s.K:=iN.uniq ⟨hasc,fun x=>W3⟩ fun _=>Iff.rfl
 have hN4:=hN.mono ((k1.trans k13).trans l4)
 rw [hNk] at hN4
 have hk6 : (JI s.K).length≤1000:=by rw [Zcp];have:=hd.toND0.kn.few;omega
 have e5 : R (n+8) KD [v4,gv] X4=_:=ZmE (n:=n+7) hk6 r4.rd hN4
 refine ⟨X4,?_,(k1.trans k13).trans l4⟩
 rw [R,Zku rfl]
 unfold ZdL
 rw [Za z1,Za Zk,Za (a0 _ (.refl _)),Za hlen,Za e1,Za (a0 _ (.refl _)),Yc,Za q1,JK,Z5,JK,Za Zk,JK,Za (a0 _ (.refl _)),JK,Za e2,JK,Za (a0 _ l2),Yc,JK,Za e3,Za Zh]
 simp only [cond_true]
 rw [JK,Z5,JK,Za Zk,JK,Za (a1 _ k13),JK,Za e4,JK,Za (a1 _ (k13.trans l4)),Yc,JK,Za e5,Za Zh]
 rfl
structure NL (H X : Zc) (d : Nat) (r : NR) (s : NSt) (uv gv : Value) (w c : Nat) : Prop where
 le : HLe H X
 nd : ND X d r s c
 rd : RD X uv gv s
 own : ∀ i∈r.own,H.length≤i
 w : X[w]?=some (.cells [uv,gv] 1 false false)
theorem NL.hle (h : NL H X d r s uv gv w c) (hl : HLe X X') : NL H X' d r s uv gv w c:=⟨h.le.trans hl,h.nd.hle hl,h.rd.hle hl,h.own,hl _ _ h.w⟩
end
end Go.Proofs.YtnnehafmjfmbnaaGreatDoor.A

namespace Go.Proofs.YtnnehafmjfmbnaaGreatDoor.A
set_option linter.unusedVariables false
set_option linter.unusedSimpArgs false
open Go.Proofs Go.Proofs.YtnnehafmjfmbnaaGreatDoor
section
variable {H : Zc} {n : Nat} {s : List UInt8}
end
end Go.Proofs.YtnnehafmjfmbnaaGreatDoor.A

namespace Go.Proofs.YtnnehafmjfmbnaaGreatDoor.A
set_option linter.unusedVariables false
set_option linter.unusedSimpArgs false
open Go.Proofs Go.Proofs.YtnnehafmjfmbnaaGreatDoor
section
variable {X X' Y H H0 : Zc} {n d c w : Nat} {r : NR} {uv gv sl wv : Value} {s : NSt} {us ws : List Zm} {k m g pre : Tx} {q0 : List Nat}
theorem Zo8 (hO : ROK s us) (hP : ZkR s) (hm : Q2 m=true) : (us.find? fun u=>u.ml==ZT m).map (·.nm)=Ze (ZT m) s.OW:=by
 have hat : ∀ u∈us,u.ml=ZT m↔Ze (ZT m) s.OW=some u.nm:=fun u hu=>by
  have h1:=hO.at hu
  unfold Yb at h1
  cases ha : Ze u.nm s.A with
  | none=>rw [ha] at h1;cases h1
  | some p=>
   rw [ha] at h1
   have h2 : Wv s u.nm p=QA u:=Option.some.inj h1
   have h3 : (Ze u.nm s.OF).getD []=u.ml:=congrArg (·.2.2.1) h2
   rw [← hP.x.inv,← h3]
   cases ho : Ze u.nm s.OF with
   | none=>exact ⟨fun h=>absurd h.symm (Zed hm).1,fun h=>by cases h⟩
   | some v=>exact ⟨fun h=>by rw [← h];rfl,fun h=>by cases h;rfl⟩
 cases hf : us.find? fun u=>u.ml==ZT m with
 | some u=>
  have h1:=List.find?_some hf
  have h2:=List.mem_of_find?_eq_some hf
  exact ((hat u h2).1 (by simpa using h1)).symm
 | none=>
  rw [List.find?_eq_none] at hf
  cases hw : Ze (ZT m) s.OW with
  | none=>rfl
  | some x=>
   have h1:=(hP.x.inv _ _).2 hw
   have h2:=hP.i.ofA x (by rw [h1];rfl)
   obtain ⟨p,hp⟩:=Option.isSome_iff_exists.1 h2
   have h3 : Yb s x=some (Wv s x p):=by unfold Yb;rw [hp];rfl
   obtain ⟨u,hu,hk⟩:=K4.1 ((hO.look (Wv s x p)).2 h3)
   have hn : u.nm=x:=congrArg (·.1) hk
   have:=(hat u hu).2 (by rw [hn];exact hw)
   exact absurd (by simpa using this) (hf u hu)
end
end Go.Proofs.YtnnehafmjfmbnaaGreatDoor.A

namespace Go.Proofs.YtnnehafmjfmbnaaGreatDoor.A
set_option linter.unusedVariables false
set_option linter.unusedSimpArgs false
open Go.Proofs Go.Proofs.YtnnehafmjfmbnaaGreatDoor
def Kf (ps : List Tx) (k : Tx) (mem : Mem) : Mem:=fun g n=>mem g n || (decide (g∈ps) && n==k)
section
variable {X X' X0 H H0 : Zc} {n p d b c i : Nat} {r : NR} {s : NSt} {v sl gv ugv zl : Value} {l gs : List Tx} {m k g : Tx} {u : Zm} {us prev : List Zm}
theorem Zqr (hl : gs.length≤1000000) (hs : Sl X gv (gs.map strv)) : ∀ (t j : Nat),gs.length - j=t→j≤gs.length→
  Zj (c5 (ZB.l1 (R (n+3)))) [sl,gv,gv,iv gs.length,iv j] X=some (if (gs.drop j).all Zo then .ext 0 [sl,gv] else .ret (iv 10),X)
 | 0,j,ht,hj=>by
  rw [List.drop_eq_nil_of_le (by omega)]
  refine ZD ?_
  rw [Z7,show j=gs.length by omega]
  unfold ZB.l1
  rw [Za Zg,Zb,if_neg (by simp)]
  rfl
 | t+1,j,ht,hj=>by
  have hkl : j < gs.length:=by omega
  have hlt : (j : Int) < gs.length:=by omega
  have hg:=List.getElem?_eq_getElem hkl
  have hd:=List.drop_eq_getElem_cons hkl
  generalize gs[j]=y at hg hd
  have x1:=hs.ix (i:=j) (by simpa using hkl) .i64 X
  have x2:=hs.ldx (Q3 hg)
  have e1 : R (n+3) Yg [strv y] X=some (.bool (Zo y),X):=ZcJ
  rw [hd,List.all_cons]
  cases hn : Zo y
  ·rw [hn] at e1
   refine ZU ?_
   rw [Z7]
   unfold ZB.l1
   rw [Za Zg,Zb,if_pos (by simpa using hlt),Za x1,Za x2,Za e1,Za ZE,Zb,if_pos (by rfl)]
   rfl
  ·rw [hn] at e1
   rw [Bool.true_and]
   refine (Zv ?_).trans (Zqr hl hs t (j+1) (by omega) (by omega))
   rw [Z7]
   unfold ZB.l1
   rw [Za Zg,Zb,if_pos (by simpa using hlt),Za x1,Za x2,Za e1,Za ZE,Zb,if_neg (by simp),Za Zs,Qb (by omega)]
   rfl
theorem ZmG {j : Nat} (h : l.length - j=0) : Ja l j=true:=by
 unfold Ja
 by_cases h0 : j=0
 ·rw [if_pos h0]
  have : l=[]:=List.eq_nil_of_length_eq_zero (by omega)
  rw [this];rfl
 ·rw [if_neg h0]
  have h1 : (l.drop (j - 1)).length≤1:=by rw [List.length_drop];omega
  match l.drop (j - 1),h1 with
  | [],_=>rfl
  | [a],_=>rfl
theorem Zqh (hl : gs.length≤1000000) (hs : Sl X gv (gs.map strv)) : ∀ (t j : Nat),gs.length - j=t→j≤gs.length→
  Zj (c5 (ZB.l2 (R n))) [sl,gv,gv,iv gs.length,iv j] X=some (if Ja gs j then .ext 2 [sl,gv] else .ret (iv 9),X)
 | 0,j,ht,hj=>by
  rw [ZmG ht]
  refine ZD ?_
  rw [Z7,show j=gs.length by omega]
  unfold ZB.l2
  rw [Za Zg,Zb,if_neg (by simp)]
  rfl
 | t+1,j,ht,hj=>by
  have hkl : j < gs.length:=by omega
  have hlt : (j : Int) < gs.length:=by omega
  have hg:=List.getElem?_eq_getElem hkl
  have hd:=List.drop_eq_getElem_cons hkl
  have x1:=hs.ix (i:=j) (by simpa using hkl) .i64 X
  have x2:=hs.ldx (Q3 hg)
  have ih:=Zqh hl hs t (j+1) (by omega) (by omega)
  by_cases h0 : j=0
  ·subst h0
   have q0 : bop .int .gtr (iv ((0 : Nat) : Int)) (.int .i64 0) X=some (.bool false,X):=by rw [ZR];rfl
   have hr : Ja gs 0=Ja gs (0+1):=by unfold Ja;simp
   rw [hr]
   refine (Zv ?_).trans ih
   rw [Z7]
   unfold ZB.l2
   rw [Za Zg,Zb,if_pos (by simpa using hlt),Za x1,Za x2,Za q0,Za (g_r.trans (if_neg (by simp)))]
   simp only [List.replicate]
   rw [Jv,Za Zh]
   simp only [cond_false]
   rw [Zb,if_neg (by simp),Za Zs,Qb (by omega)]
   rfl
  ·have hk0 : j - 1 < gs.length:=by omega
   have hg0:=List.getElem?_eq_getElem hk0
   have hd0:=List.drop_eq_getElem_cons hk0
   rw [show j - 1+1=j by omega,hd] at hd0
   have hr1 : Ja gs (j+1)=JG (gs.drop j):=by unfold Ja;simp
   have hr0 : Ja gs j=JG (gs.drop (j - 1)):=by unfold Ja;rw [if_neg h0]
   rw [hr1,hd] at ih
   rw [hr0,hd0,Za2]
   generalize gs[j]=y at x1 x2 hg hd hd0 ih
   generalize gs[j - 1]=y0 at hg0 hd0
   have x3:=hs.ix (i:=j - 1) (by simpa using hk0) .i64 X
   have x4:=hs.ldx (Q3 hg0)
   have w0 : IntKind.i64.wrap ((j : Int) - 1)=((j - 1 : Nat) : Int):=by rw [w64 (by omega) (by omega)];omega
   have q0 : bop .int .gtr (iv j) (.int .i64 0) X=some (.bool true,X):=by rw [ZR,decide_eq_true (by omega)]
   have q1 : bop .str .geq (strv y0) (strv y) X=some (.bool (!decide (y0 < y)),X):=ZnF
   by_cases hy : y0 < y
   ·rw [decide_eq_true hy] at q1 ⊢
    rw [Bool.true_and]
    refine (Zv ?_).trans ih
    rw [Z7]
    unfold ZB.l2
    rw [Za Zg,Zb,if_pos (by simpa using hlt),Za x1,Za x2,Za q0,ZQ,Zf,Za Qk,w0,Zf,Za x3,Zf,Za x4,Zf,Za q1,Z5,Jv,Za Zh]
    simp only [cond_true,Bool.not_true]
    rw [Zb,if_neg (by simp),Za Zs,Qb (by omega)]
    rfl
   ·rw [decide_eq_false hy] at q1 ⊢
    refine ZU ?_
    rw [Z7]
    unfold ZB.l2
    rw [Za Zg,Zb,if_pos (by simpa using hlt),Za x1,Za x2,Za q0,ZQ,Zf,Za Qk,w0,Zf,Za x3,Zf,Za x4,Zf,Za q1,Z5,Jv,Za Zh]
    simp only [cond_true,Bool.not_false]
    rw [Zb,if_pos rfl]
    rfl
theorem Zqp {z1 z2 z3 z4 z5 : Value} (hgl : gs.length≤1000000) (hs : Sl X gv (gs.map strv)) (hl : l.length≤1000000) (hu : Sl X ugv (l.map strv)) : ∀ (t j : Nat),l.length - j=t→j≤l.length→
  Zj (c10 (ZB.l4 (R (n+1)))) [sl,gv,z1,z2,z3,z4,z5,ugv,iv l.length,iv j] X=some (if (l.drop j).all (fun g=>decide (g∈gs)) then .ext 6 [sl,gv,z1,z2,z3,z4,z5] else .ret (iv 8),X)
 | 0,j,ht,hj=>by
  rw [List.drop_eq_nil_of_le (by omega)]
  refine ZD ?_
  rw [JC,show j=l.length by omega]
  unfold ZB.l4
  rw [Za Zg,Zb,if_neg (by simp)]
  rfl
 | t+1,j,ht,hj=>by
  have hkl : j < l.length:=by omega
  have hlt : (j : Int) < l.length:=by omega
  have hg:=List.getElem?_eq_getElem hkl
  have hd:=List.drop_eq_getElem_cons hkl
  generalize l[j]=y at hg hd
  have x1:=hu.ix (i:=j) (by simpa using hkl) .i64 X
  have x2:=hu.ldx (Q3 hg)
  have e1:=ZqJ (n:=n) (x:=y) hgl hs
  rw [hd,List.all_cons]
  by_cases hy : y∈gs
  ·rw [decide_eq_true hy] at e1 ⊢
   rw [Bool.true_and]
   refine (Zv ?_).trans (Zqp hgl hs hl hu t (j+1) (by omega) (by omega))
   rw [JC]
   unfold ZB.l4
   rw [Za Zg,Zb,if_pos (by simpa using hlt),Za x1,Za x2,Za e1,Za ZE,Zb,if_neg (by simp),Za Zs,Qb (by omega)]
   rfl
  ·rw [decide_eq_false hy] at e1 ⊢
   refine ZU ?_
   rw [JC]
   unfold ZB.l4
   rw [Za Zg,Zb,if_pos (by simpa using hlt),Za x1,Za x2,Za e1,Za ZE,Zb,if_pos (by rfl)]
   rfl
theorem Zqi {z3 z4 z5 : Value} (hn : prev.length≤1000) (hA : SlN 5 H0 v (prev.map Zm.cells)) (ho : ∀ w∈prev,oneCell w.gv=true) (hb : H0[b]?=some (.cells u.cells 1 false false)) : ∀ (t j : Nat) (X : Zc),prev.length - j=t→j≤prev.length→HLe H0 X→
  ∃ X',Zj (c9 (ZB.l5 (R n))) [sl,gv,pt b,z3,z4,z5,v,iv prev.length,iv j] X=some (if u.ml≠[]∧(prev.drop j).any (fun w=>u.ml==w.ml)=true then .ret (iv 9) else .ext 8 [sl,gv,z3,z4,z5],X')∧HLe H0 X'
 | 0,j,X,ht,hj,hle=>by
  rw [List.drop_eq_nil_of_le (by omega),if_neg (by simp)]
  refine ⟨X,ZD ?_,hle⟩
  rw [JS,show j=prev.length by omega]
  unfold ZB.l5
  rw [Za Zg,Zb,if_neg (by simp)]
  rfl
 | t+1,j,X,ht,hj,hle=>by
  have hjl : j < prev.length:=by omega
  have hlt : (j : Int) < prev.length:=by omega
  have hg:=List.getElem?_eq_getElem hjl
  have hd:=List.drop_eq_getElem_cons hjl
  generalize prev[j]=w at hg hd
  have hf:=fun {K : Value→M Out}=>ZcW (k:=K) (hA.mono hle) (ho w (List.mem_of_getElem? hg)) hg
  have g1 : (X++[Zi.cells w.cells 1 false false])[X.length]?=some (.cells w.cells 1 false false):=ZZ
  have k1 : HLe X (X++[Zi.cells w.cells 1 false false]):=.app _ _
  generalize X++[Zi.cells w.cells 1 false false]=X1 at g1 k1 hf
  generalize X.length=p at g1 hf
  have le1:=hle.trans k1
  have a2 : ld1 (pa b 2) X1=some (strv u.ml,X1):=Q0 (le1 _ _ hb) rfl
  have b2 : ld1 (pa p 2) X1=some (strv w.ml,X1):=Q0 g1 rfl
  have q1 : bop .str .neq (strv u.ml) (.string ⟨#[]⟩) X1=some (.bool (!(u.ml==[])),X1):=ZaF (b:=[])
  have q2 : bop .str .eql (strv u.ml) (strv w.ml) X1=some (.bool (u.ml==w.ml),X1):=Zb2
  obtain ⟨X2,e2,k2⟩:=Zqi hn hA ho hb t (j+1) X1 (by omega) (by omega) le1
  rw [hd,List.any_cons]
  by_cases hm : u.ml=[]
  ·have hmb : (u.ml==[])=true:=by simpa using hm
   rw [if_neg (fun h=>h.1 hm)] at e2 ⊢
   rw [hmb] at q1
   refine ⟨X2,(Zv ?_).trans e2,k2⟩
   rw [JS]
   unfold ZB.l5
   rw [Za Zg,Zb,if_pos (by simpa using hlt),hf,Za Zk,Za a2,Za q1,Za (g_r.trans (if_neg (by simp)))]
   simp only [List.replicate]
   rw [Z7,Za Zh]
   simp only [cond_false,Bool.not_true]
   rw [Zb,if_neg (by simp),Za Zs,Qb (by omega)]
   rfl
  ·have hmb : (u.ml==[])=false:=by simpa using hm
   rw [hmb] at q1
   cases hw : u.ml==w.ml
   ·rw [hw] at q2
    rw [Bool.false_or]
    refine ⟨X2,(Zv ?_).trans e2,k2⟩
    rw [JS]
    unfold ZB.l5
    rw [Za Zg,Zb,if_pos (by simpa using hlt),hf,Za Zk,Za a2,Za q1]
    simp only [Bool.not_false]
    rw [ZQ,Zf,Za Zk,Zf,Za a2,Zf,Za Zk,Zf,Za b2,Zf,Za q2,Z5,Z7,Za Zh]
    simp only [cond_true]
    rw [Zb,if_neg (by simp),Za Zs,Qb (by omega)]
    rfl
   ·rw [hw] at q2
    rw [Bool.true_or,if_pos ⟨hm,rfl⟩]
    refine ⟨X1,ZU ?_,le1⟩
    rw [JS]
    unfold ZB.l5
    rw [Za Zg,Zb,if_pos (by simpa using hlt),hf,Za Zk,Za a2,Za q1]
    simp only [Bool.not_false]
    rw [ZQ,Zf,Za Zk,Zf,Za a2,Zf,Za Zk,Zf,Za b2,Zf,Za q2,Z5,Z7,Za Zh]
    simp only [cond_true]
    rw [Zb,if_pos rfl]
    rfl
theorem Zfm {i : Nat} (hg : us[i]?=some u) : us.take (i+1)=us.take i++[u]:=by
 rw [List.take_add_one,hg];rfl
theorem Zqg (hn : us.length≤1000) (hA : QM H0 sl us) (hC : ZiZ H0 sl us) (hgl : gs.length≤1000000) (hs : Sl H0 gv (gs.map strv)) : ∀ (t i : Nat) (X : Zc),us.length - i=t→i≤us.length→HLe H0 X→
  ∃ X',Zj (c5 (ZB.l3 (R (n+1)))) [sl,gv,sl,iv us.length,iv i] X=some (if KL gs (us.take i) (us.drop i)=0 then .ext 4 [] else .ret (iv (KL gs (us.take i) (us.drop i))),X')∧HLe H0 X'
 | 0,i,X,ht,hj,hle=>by
  rw [List.drop_eq_nil_of_le (show us.length≤i by omega),if_pos (show KL gs (us.take i) []=0 from by unfold KL;rfl)]
  refine ⟨X,ZD ?_,hle⟩
  rw [Z7,show i=us.length by omega]
  unfold ZB.l3
  rw [Za Zg,Zb,if_neg (by simp)]
  rfl
 | t+1,i,X,ht,hj,hle=>by
  have hjl : i < us.length:=by omega
  have hlt : (i : Int) < us.length:=by omega
  have hg:=List.getElem?_eq_getElem hjl
  have hd:=List.drop_eq_getElem_cons hjl
  generalize us[i]=u at hg hd
  have hok:=(hA.mono hle).ok (List.mem_of_getElem? hg)
  have hf:=fun {K : Value→M Out}=>ZcW (k:=K) (hA.mono hle).1 hok.2.1 hg
  have g1 : (X++[Zi.cells u.cells 1 false false])[X.length]?=some (.cells u.cells 1 false false):=ZZ
  have k1 : HLe X (X++[Zi.cells u.cells 1 false false]):=.app _ _
  generalize X++[Zi.cells u.cells 1 false false]=X1 at g1 k1 hf
  generalize X.length=b at g1 hf
  have le1:=hle.trans k1
  have a4 : ld1 (pa b 4) X1=some (u.gv,X1):=Q0 g1 rfl
  have ok1:=hok.hle k1
  have hul : Zx u.gv X1=some (iv u.gs.length,X1):=by have:=ok1.1.len (H':=X1);simpa using this
  have e4:=Zqp (n:=n) (sl:=sl) (z1:=iv i) (z2:=pt b) (z3:=sl) (z4:=iv us.length) (z5:=iv i) hgl (hs.mono le1) ok1.2.2 ok1.1 u.gs.length 0 (by omega) (by omega)
  rw [show iv ((0 : Nat) : Int)=.int .i64 0 from rfl,List.drop_zero] at e4
  have hbody : ∀ o X2,jn (Zj (c10 (ZB.l4 (R (n+1)))) [sl,gv,iv i,pt b,sl,iv us.length,iv i,u.gv,iv u.gs.length,(Value.int .i64 0)]) noN (xk 6 (c7 fun q43_0 q43_1 q43_2 q43_3 q43_4 q43_5 q43_6=>
    bind (slv 5 q43_0 none (some q43_2) none) fun v74x44=>bind (Zx v74x44) fun v75x45=>
    jn (Zj (c9 (ZB.l5 (R (n+1)))) [q43_0,q43_1,q43_3,q43_4,q43_5,q43_6,v74x44,v75x45,(Value.int .i64 0)]) noN (xk 8 (c5 fun q62_0 q62_1 q62_2 q62_3 q62_4=>
    bind (bop .int .add q62_4 (Value.int .i64 1)) fun v91x63=>ret (.nrm [q62_0,q62_1,q62_2,q62_3,v91x63])) noX) QH) noX) QH X1=some (o,X2)→c5 (ZB.l3 (R (n+1))) [sl,gv,sl,iv us.length,iv i] X=some (o,X2):=fun o X2 h=>by
   rw [Z7]
   unfold ZB.l3
   rw [Za Zg,Zb,if_pos (by simpa using hlt),hf,Za Zk,Za a4,Za hul]
   exact h
  rw [hd]
  unfold KL Zey
  cases ha : u.gs.all fun g=>decide (g∈gs)
  ·rw [ha] at e4
   simp only [Bool.false_eq_true,if_false]
   exact ⟨X1,ZU (hbody _ _ ((Qr e4).trans rfl)),le1⟩
  ·rw [ha] at e4
   simp only [if_true]
   obtain ⟨cv,hc1,hc2⟩:=hC i (by omega)
   have hlt' : (us.take i).length=i:=by rw [List.length_take];omega
   have hcl : Zx cv X1=some (iv (us.take i).length,X1):=by have:=(hc2.mono le1).len (H':=X1);rwa [List.length_map] at this
   obtain ⟨X2,e5,k5⟩:=Zqi (n:=n+1) (sl:=sl) (gv:=gv) (z3:=sl) (z4:=iv us.length) (z5:=iv i) (by omega) (hc2.mono le1) (fun w hw=>(hA.2 w (List.mem_of_mem_take hw)).2.1) g1 (us.take i).length 0 X1 (by omega) (by omega) (.refl _)
   rw [show iv ((0 : Nat) : Int)=.int .i64 0 from rfl,List.drop_zero] at e5
   have le2:=le1.trans k5
   by_cases hp : u.ml≠[]∧(us.take i).any (fun w=>u.ml==w.ml)=true
   ·rw [if_pos hp] at e5
    simp only [if_pos hp]
    refine ⟨X2,ZU (hbody _ _ ?_),le2⟩
    rw [ZM e4,Zu,Jv,Za (hc1 _ le1),Za hcl,Qr e5]
    rfl
   ·rw [if_neg hp] at e5
    simp only [if_neg hp,if_true]
    obtain ⟨X3,e6,k6⟩:=Zqg hn hA hC hgl hs t (i+1) X2 (by omega) (by omega) le2
    rw [Zfm hg] at e6
    refine ⟨X3,(Zv (hbody _ _ ?_)).trans e6,k6⟩
    rw [ZM e4,Zu,Jv,Za (hc1 _ le1),Za hcl,ZM e5,Zu,Z7,Za Zs,Qb (by omega)]
    rfl
theorem ZoK (hn : us.length≤1000) (hgl : gs.length≤1000000) (hA : QM X sl us) (hC : ZiZ X sl us) (hs : Sl X gv (gs.map strv)) : ∃ X',R (n+7) ZaX [sl,gv] X=some (iv (Zan us gs),X')∧HLe X X':=by
 obtain ⟨X1,e1,k1⟩:=ZpG (n:=n) hn hA
 have f1 : ∀ r X',ZB (R (n+6)) sl gv X=some (r,X')→R (n+7) ZaX [sl,gv] X=some (r,X'):=fun r X' hr=>by rw [R,Zmh rfl];exact hr
 have hlen : ∀ Y,Zx sl Y=some (iv us.length,Y):=fun Y=>by have:=hA.1.len (H':=Y);rwa [List.length_map] at this
 have hgn : ∀ Y,Zx gv Y=some (iv gs.length,Y):=fun Y=>by have:=hs.len (H':=Y);simpa using this
 unfold Zan Zdl
 by_cases h0 : ZeO us=0
 ·rw [h0] at e1
  simp only [if_pos h0]
  have q1 : bop .int .neq (iv 0) (.int .i64 0) X1=some (.bool false,X1):=by rw [Zn];rfl
  have hs1:=hs.mono k1
  have e2:=Zqr (n:=n+3) (sl:=sl) hgl hs1 gs.length 0 (by omega) (by omega)
  have e3:=Zqh (n:=n+6) (sl:=sl) hgl hs1 gs.length 0 (by omega) (by omega)
  rw [show iv ((0 : Nat) : Int)=.int .i64 0 from rfl,List.drop_zero] at e2
  rw [show iv ((0 : Nat) : Int)=.int .i64 0 from rfl,show Ja gs 0=JG gs from by unfold Ja;simp] at e3
  cases ha : gs.all Zo
  ·rw [ha] at e2
   refine ⟨X1,f1 _ _ ?_,k1⟩
   unfold ZB
   rw [Za e1,Za q1,Zb,if_neg (by simp),Za (hgn _),Qr e2]
   rfl
  ·rw [ha] at e2
   simp only [if_true]
   cases hr : JG gs
   ·rw [hr] at e3
    refine ⟨X1,f1 _ _ ?_,k1⟩
    unfold ZB
    rw [Za e1,Za q1,Zb,if_neg (by simp),Za (hgn _),ZM e2,Zu,Z4,Za (hgn _),Qr e3]
    rfl
   ·rw [hr] at e3
    simp only [if_true]
    by_cases h6 : 6 < gs.length
    ·simp only [if_pos h6]
     refine ⟨X1,f1 _ _ ?_,k1⟩
     unfold ZB
     rw [Za e1,Za q1,Zb,if_neg (by simp),Za (hgn _),ZM e2,Zu,Z4,Za (hgn _),ZM e3,Zu,Z4,Za (hgn _),Za ZR,Zb,if_pos (by simp;omega)]
     rfl
    ·simp only [if_neg h6]
     have hC1 : ZiZ X1 sl us:=fun k hk=>by
      obtain ⟨w,a,b⟩:=hC k hk
      exact ⟨w,fun X' hl=>a X' (k1.trans hl),b.mono k1⟩
     obtain ⟨X2,e4,k2⟩:=Zqg (n:=n+5) hn (hA.mono k1) hC1 hgl hs1 us.length 0 X1 (by omega) (by omega) (.refl _)
     rw [show iv ((0 : Nat) : Int)=.int .i64 0 from rfl,List.drop_zero,List.take_zero] at e4
     refine ⟨X2,f1 _ _ ?_,k1.trans k2⟩
     unfold ZB
     rw [Za e1,Za q1,Zb,if_neg (by simp),Za (hgn _),ZM e2,Zu,Z4,Za (hgn _),ZM e3,Zu,Z4,Za (hgn _),Za ZR,Zb,if_neg (by simp;omega),Za (hlen _)]
     by_cases hz : KL gs [] us=0
     ·rw [if_pos hz] at e4
      rw [ZM e4,Zu,hz];rfl
     ·rw [if_neg hz] at e4
      rw [Qr e4];rfl
 ·simp only [if_neg h0]
  have q1 : bop .int .neq (iv (ZeO us)) (.int .i64 0) X1=some (.bool true,X1):=by rw [Zn];simp [h0]
  refine ⟨X1,f1 _ _ ?_,k1⟩
  unfold ZB
  rw [Za e1,Za q1,Zb,if_pos rfl]
  rfl
end
end Go.Proofs.YtnnehafmjfmbnaaGreatDoor.A

